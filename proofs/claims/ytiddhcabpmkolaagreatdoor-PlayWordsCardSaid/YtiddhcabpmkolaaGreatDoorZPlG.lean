/-
  strconv.ParseUint of two hexadecimal letters walked. play: unhex walked. play: read walked. play: Parse walked. play: what server.New makes. play: the server of the chapter's example. play: the server of the chapter's example: a connection opened. play: the server of the chapter's example: a pick that does nothing, states, events. play: the server of the chapter's example: Pick, State, Events, Do. play: Run of the chapter's example walked. play: what the laws' first() looks at, walked. play: Acts, same walked.
-/
import Derived.Laws.BitsAllLaws
import Derived.Laws.Bits64
import Derived.Shelf.Pu.ToError
import Derived.Test.YtiddhcabpmkolaaGreatDoorZPlC
import Derived.Test.YtiddhcabpmkolaaGreatDoorZKa
set_option linter.unusedSimpArgs false
set_option linter.unusedVariables false
namespace Go.Proofs.YtiddhcabpmkolaaGreatDoor
open Go.RowKit
set_option maxRecDepth 100000
open Go
section
variable {P : Program} {n d : Nat} {ops : Array Oper} {o : Oper} {rest l : List Oper} {Q : Exit → Act → World → Prop} {k : Kn} {w : World} {v : Value} {x y : Operand} {ty ty' : TypeId} {a b r : Int}
theorem run_or32 {c : UInt8} : (do eqGuard .or ty x y (.int .u8 (c.toNat : Int)) (.int .u8 32); binOp .or ty (.int .u8 (c.toNat : Int)) (.int .u8 32) : Sem Value).run P w = .ok (.int .u8 ((c ||| 32).toNat : Int)) w := by
  have hc : c.toNat < 256 := c.toNat_lt
  have h : bits .or .u8 (c.toNat : Int) 32 = ((c ||| 32).toNat : Int) := by
    have := u8_or_nat c.toNat 32 hc (by decide)
    rw [show ((32 : Int)) = ((32 : Nat) : Int) from rfl, this, UInt8.toNat_or]
    rfl
  go_simp
end
def lowC (c : UInt8) : Nat := (c ||| 32).toNat
theorem lowC_lt (c : UInt8) : lowC c < 256 := (c ||| 32).toNat_lt
theorem pu_lower (c : UInt8) (w : World) : Calls Tryz.prog 147 #[.int .u8 (c.toNat : Int)] w fun e w' => e = .returned (.int .u8 (lowC c : Int)) ∧ w' = w := by
  refine calls_kn Tryz.func147 rfl Tryz.ntmps147 rfl ?_
  refine gg ?_
  refine kp ?_ (oK run_or32)
  refine gg ?_
  refine KR.fin1 Tryz.results147 rfl ⟨rfl, rfl⟩
/-- What two letters (and fewer) say, behind a number. -/
def hx2 : Nat → List UInt8 → Option Nat
  | v, [] => some v
  | v, c :: r => if hxv c < 16 then hx2 (v * 16 + hxv c) r else none
def puV (r : Option Nat) : Value := match r with | some v => .tuple #[.int .u64 (v : Int), .nilIface] | none => .tuple #[.int .u64 0, .iface 216 (.int .i64 2)]
theorem let_fin : ∀ n : Fin 256, 97 ≤ (UInt8.ofNat n.val ||| 32).toNat → (UInt8.ofNat n.val ||| 32).toNat ≤ 122 → 57 < n.val ∧ n.val ≠ 95 := by decide +kernel
theorem let_ge (c : UInt8) (h1 : 97 ≤ (c ||| 32).toNat) (h2 : (c ||| 32).toNat ≤ 122) : 57 < c.toNat ∧ c.toNat ≠ 95 := by
  have := let_fin ⟨c.toNat, c.toNat_lt⟩
  simp only [UInt8.ofNat_toNat] at this
  exact this h1 h2
set_option maxHeartbeats 3200000 in
theorem pu_inner (s : ByteArray) (w : World) (hs : s.size = 2) : Calls Tryz.prog 104 #[.string s, .int .i64 16, .int .i64 8] w fun e w' => e = .returned (puV (hx2 0 (kb s))) ∧ Pure w w' := by
  have hd : decide (s = ⟨#[]⟩) = false := decide_eq_false (fun e => by rw [e] at hs; exact absurd hs (by decide))
  have hcv := Lib.run_convert_string_bytes (P := Tryz.prog) w 9 50 5 s (u := .string) Tryz.underlying9 Tryz.underlying50 Tryz.underlying5
  have hpk : Pure w (Lib.bytesWorld w 5 s) := Pure.of_below (Lib.bytesWorld_below _ _ _)
  have hcell : ∀ j (c : UInt8), (kb s)[j]? = some c → (Lib.bytesWorld w 5 s).cell? ⟨w.heap.size, j, none⟩ = some (.int .u8 (c.toNat : Int)) := fun j c hc => by
    have hl := (List.getElem?_eq_some_iff.1 hc).1
    rw [kb_len] at hl
    rw [Lib.bytesWorld_cell w _ s j hl, List.getD]
    have hc' : s.data.toList[j]? = some c := hc
    rw [hc']; rfl
  obtain ⟨C, hC⟩ : ∃ C, grownCap w s.size 0 5 = C := ⟨_, rfl⟩
  rw [hC] at hcv
  obtain ⟨W, hW⟩ : ∃ W, Lib.bytesWorld w 5 s = W := ⟨_, rfl⟩
  rw [hW] at hcv hpk hcell
  rw [hs] at hcv
  obtain ⟨R, hR⟩ : ∃ R, hx2 0 (kb s) = R := ⟨_, rfl⟩
  rw [hR]
  have hl2 : (kb s).length = 2 := by rw [kb_len, hs]
  have HR := Lib.hid hR
  have Hl := Lib.hid hl2
  have Hcv := Lib.hid hcv
  have Hpk := Lib.hid hpk
  have Hcell := Lib.hid hcell
  clear hR hl2 hcv hpk hcell hW hC hs
  refine calls_kn Tryz.func104 rfl Tryz.ntmps104 rfl ?_
  refine gg ?_
  refine kp ?_ (oCv (v := .int .u64 8))
  refine gg ?_
  refine kp ?_ (oQ (v := .int .u64 256))
  refine gg ?_
  refine kp ?_ (oK (run_sub (kk := .u64) (a := 256) (b := 1) (r := 255) (by decide)))
  refine gg ?_
  refine KL.makes (v := .slice (some ⟨w.heap.size, 0, none⟩) 2 C) (w' := W) rfl rfl rfl (fun ρ hρ => by have e := hρ (.tmp 98) _ rfl; simp only [execOp, e, Sem.run_bind, Hcv.out, Result.andThen_ok]; rfl) ?_
  generalize w.heap.size = g0 at *
  refine gg ?_
  refine KW.loop (ι := Nat × Nat) (fun p => [(1, .int .i64 16), (8, .bool false), (10, .int .u64 1152921504606846976), (11, .int .u64 255), (12, .bool false), (13, .int .u64 (p.2 : Int)), (99, .slice (some ⟨g0, 0, none⟩) 2 C), (100, .int .i64 2), (101, .int .i64 (p.1 : Int))]) (fun p w' => w' = W ∧ p.1 ≤ 2 ∧ (p.1 < 2 → p.2 < 16) ∧ p.2 < 256 ∧ (p.1 = 0 → p.2 = 0) ∧ hx2 p.2 ((kb s).drop p.1) = R) (fun p => 2 - p.1) (0, 0) ⟨rfl, Nat.zero_le _, (fun _ => by decide), by decide, (fun _ => rfl), HR.out⟩ (kle_ok (by repeat' (first | exact trivial | refine ⟨rfl, ?_⟩))) ?_
  rintro ⟨k, v⟩ w1 ⟨e1, hk, hv16, hv, hv0, hrec⟩
  obtain rfl := e1.symm
  simp only at hk hv16 hv hv0 hrec
  have Hv0 := Lib.hid hv0
  have Hrec := Lib.hid hrec
  clear e1 hv0 hrec HR hd
  by_cases hlt : k < 2
  · have hd : decide ((k : Int) < 2) = true := by simp; omega
    have hv16 := hv16 hlt
    have hki : (k : Int) < 2 := by omega
    obtain ⟨c, hc⟩ : ∃ c, (kb s)[k]? = some c := ⟨_, List.getElem?_eq_getElem (by have := Hl.out; omega)⟩
    have hcl := Hcell.out k c hc
    have hdr : (kb s).drop k = c :: (kb s).drop (k + 1) := by
      have hl := (List.getElem?_eq_some_iff.1 hc)
      rw [List.drop_eq_getElem_cons hl.1, hl.2]
    have h := Hrec.out
    rw [hdr] at h
    have Hrec := Lib.hid h
    clear h hdr hc
    have hc256 : c.toNat < 256 := c.toNat_lt
    have hcut : decide ((1152921504606846976 : Int) ≤ (v : Int)) = false := by simp; omega
    by_cases hdig : 48 ≤ c.toNat ∧ c.toNat ≤ 57
    · have u1 : decide ((c.toNat : Int) = 95) = false := by simp; omega
      have u2 : decide ((48 : Int) ≤ (c.toNat : Int)) = true := by simp; omega
      have u3 : decide ((c.toNat : Int) ≤ 57) = true := by simp; omega
      have hxd : hxv c = c.toNat - 48 := if_pos hdig
      have Hx := Lib.hid (show hxv c < 16 by omega)
      have Hd := Lib.hid (show (c.toNat : Int) - 48 = (hxv c : Int) by omega)
      have u6 : decide ((16 : Int) ≤ (c.toNat : Int) - 48) = false := by simp; omega
      clear hxd
      refine gg ?_
      refine kp ?_ (oK (run_sub (kk := .u8) (a := (c.toNat : Int)) (b := 48) (r := (c.toNat : Int) - 48) (by rw [IntKind.wrap_u8']; omega)))
      refine gg ?_
      refine kp ?_ (oCv (v := .int .u8 16))
      refine gg ?_
      refine kp ?_ (oCv (v := .int .u64 16))
      refine gg ?_
      refine kp ?_ (oK (run_mul (kk := .u64) (a := (v : Int)) (b := 16) (r := ((v * 16 : Nat) : Int)) (by rw [IntKind.wrap_u64]; omega)))
      refine gg ?_
      have hwc : IntKind.u64.wrap ((c.toNat : Int) - 48) = ((c.toNat : Int) - 48) := by rw [IntKind.wrap_u64]; have := Hd.out; omega
      refine kp ?_ (oCv (v := .int .u64 ((c.toNat : Int) - 48)))
      clear hwc
      refine gg ?_
      refine kp ?_ (oK (run_add (kk := .u64) (a := ((v * 16 : Nat) : Int)) (b := ((c.toNat : Int) - 48)) (r := ((v * 16 + hxv c : Nat) : Int)) (by rw [IntKind.wrap_u64]; have := Hd.out; omega)))
      have hn1 : decide (((v * 16 + hxv c : Nat) : Int) < ((v * 16 : Nat) : Int)) = false := by simp; omega
      have hn2 : decide ((255 : Int) < ((v * 16 + hxv c : Nat) : Int)) = false := by have := Hx.out; simp; omega
      refine gg ?_
      refine KE.rnd2 (k + 1, v * 16 + hxv c) (by repeat' (first | exact trivial | refine ⟨rfl, ?_⟩)) ⟨rfl, hlt, (fun h => by have := Hx.out; have h0 : k = 0 := (by have h : k + 1 < 2 := h; omega); have hz := Hv0.out h0; show v * 16 + hxv c < 16; omega), (by have := Hx.out; show v * 16 + hxv c < 256; omega), (by
        show k + 1 = 0 → _
        intro h; omega), ?_⟩ (by show 2 - (k + 1) < 2 - k; omega)
      have h := Hrec.out
      rw [hx2, if_pos Hx.out] at h
      exact h
    · have hm256 : lowC c < 256 := lowC_lt c
      by_cases hlet : 97 ≤ lowC c ∧ lowC c ≤ 122
      · obtain ⟨hg1, hg2⟩ := let_ge c hlet.1 hlet.2
        have u1 : decide ((c.toNat : Int) = 95) = false := by simp; omega
        have u2 : decide ((48 : Int) ≤ (c.toNat : Int)) = true := by simp; omega
        have u3 : decide ((c.toNat : Int) ≤ 57) = false := by simp; omega
        have u4 : decide ((97 : Int) ≤ (lowC c : Int)) = true := decide_eq_true (by omega)
        have u5 : decide ((lowC c : Int) ≤ 122) = true := decide_eq_true (by omega)
        have hxd : hxv c = lowC c - 87 := by unfold hxv; rw [if_neg hdig]; exact if_pos hlet
        have Hd := Lib.hid (show (lowC c : Int) - 97 + 10 = (hxv c : Int) by omega)
        obtain ⟨t6, u6⟩ : ∃ t, decide ((16 : Int) ≤ (lowC c : Int) - 97 + 10) = t := ⟨_, rfl⟩
        clear hxd hg1 hg2
        refine gg ?_
        refine KL.call rfl rfl rfl rfl rfl (by go_simp) (pu_lower c _) ?_
        rintro e w2 ⟨rfl, e2⟩
        obtain rfl := e2.symm
        clear e2
        refine ⟨_, rfl, ?_⟩
        refine gg ?_
        refine KL.call rfl rfl rfl rfl rfl (by go_simp) (pu_lower c _) ?_
        rintro e w2 ⟨rfl, e2⟩
        obtain rfl := e2.symm
        clear e2
        refine ⟨_, rfl, ?_⟩
        refine gg ?_
        refine KL.call rfl rfl rfl rfl rfl (by go_simp) (pu_lower c _) ?_
        rintro e w2 ⟨rfl, e2⟩
        obtain rfl := e2.symm
        clear e2
        refine ⟨_, rfl, ?_⟩
        refine gg ?_
        refine kp ?_ (oK (run_sub (kk := .u8) (a := (lowC c : Int)) (b := 97) (r := (lowC c : Int) - 97) (by rw [IntKind.wrap_u8']; omega)))
        refine gg ?_
        refine kp ?_ (oK (run_add (kk := .u8) (a := (lowC c : Int) - 97) (b := 10) (r := (lowC c : Int) - 97 + 10) (by rw [IntKind.wrap_u8']; omega)))
        refine gg ?_
        refine kp ?_ (oCv (v := .int .u8 16))
        refine gg ?_
        cases t6
        case true =>
          refine gg ?_
          refine kp ?_ (oMk (v := .iface 216 (.int .i64 2)))
          refine gg ?_
          have hR : R = none := by
            have h := Hrec.out
            rw [hx2, if_neg (by have h := of_decide_eq_true u6; have := Hd.out; omega)] at h
            exact h.symm
          refine KR.fin2 Tryz.results104 rfl rfl ⟨by rw [hR]; rfl, Hpk.out⟩
        have Hx := Lib.hid (show hxv c < 16 by have h := of_decide_eq_false u6; have := Hd.out; omega)
        refine gg ?_
        refine kp ?_ (oCv (v := .int .u64 16))
        refine gg ?_
        refine kp ?_ (oK (run_mul (kk := .u64) (a := (v : Int)) (b := 16) (r := ((v * 16 : Nat) : Int)) (by rw [IntKind.wrap_u64]; omega)))
        refine gg ?_
        have hwc : IntKind.u64.wrap ((lowC c : Int) - 97 + 10) = ((lowC c : Int) - 97 + 10) := by rw [IntKind.wrap_u64]; have := Hd.out; omega
        refine kp ?_ (oCv (v := .int .u64 ((lowC c : Int) - 97 + 10)))
        clear hwc
        refine gg ?_
        refine kp ?_ (oK (run_add (kk := .u64) (a := ((v * 16 : Nat) : Int)) (b := ((lowC c : Int) - 97 + 10)) (r := ((v * 16 + hxv c : Nat) : Int)) (by rw [IntKind.wrap_u64]; have := Hd.out; omega)))
        have hn1 : decide (((v * 16 + hxv c : Nat) : Int) < ((v * 16 : Nat) : Int)) = false := by simp; omega
        have hn2 : decide ((255 : Int) < ((v * 16 + hxv c : Nat) : Int)) = false := by have := Hx.out; simp; omega
        refine gg ?_
        refine KE.rnd2 (k + 1, v * 16 + hxv c) (by repeat' (first | exact trivial | refine ⟨rfl, ?_⟩)) ⟨rfl, hlt, (fun h => by have := Hx.out; have h0 : k = 0 := (by have h : k + 1 < 2 := h; omega); have hz := Hv0.out h0; show v * 16 + hxv c < 16; omega), (by have := Hx.out; show v * 16 + hxv c < 256; omega), (by
          show k + 1 = 0 → _
          intro h; omega), ?_⟩ (by show 2 - (k + 1) < 2 - k; omega)
        have h := Hrec.out
        rw [hx2, if_pos Hx.out] at h
        exact h
      · have hxd : ¬ hxv c < 16 := by unfold hxv; rw [if_neg hdig]; rw [show (if 97 ≤ (c ||| 32).toNat ∧ (c ||| 32).toNat ≤ 122 then (c ||| 32).toNat - 87 else 99) = 99 from if_neg hlet]; decide
        have Hxd := Lib.hid hxd
        clear hxd
        obtain ⟨u1, h1⟩ : ∃ t, decide ((c.toNat : Int) = 95) = t := ⟨_, rfl⟩
        obtain ⟨u2, h2⟩ : ∃ t, decide ((48 : Int) ≤ (c.toNat : Int)) = t := ⟨_, rfl⟩
        obtain ⟨u3, h3⟩ : ∃ t, decide ((c.toNat : Int) ≤ 57) = t := ⟨_, rfl⟩
        obtain ⟨u4, h4⟩ : ∃ t, decide ((97 : Int) ≤ (lowC c : Int)) = t := ⟨_, rfl⟩
        obtain ⟨u5, h5⟩ : ∃ t, decide ((lowC c : Int) ≤ 122) = t := ⟨_, rfl⟩
        have hno : (u2 && u3) = false := by
          rw [← h2, ← h3, Bool.and_eq_false_iff, decide_eq_false_iff_not, decide_eq_false_iff_not]; omega
        have hnl : (u4 && u5) = false := by
          rw [← h4, ← h5, Bool.and_eq_false_iff, decide_eq_false_iff_not, decide_eq_false_iff_not]; omega
        have Hno := Lib.hid hno
        have Hnl := Lib.hid hnl
        clear hno hnl hdig hlet
        refine gg ?_
        cases u1
        all_goals
          refine gg ?_
          cases u2
          case false =>
            refine gg ?_
            refine KL.call rfl rfl rfl rfl rfl (by go_simp) (pu_lower c _) ?_
            rintro e w2 ⟨rfl, e2⟩
            obtain rfl := e2.symm
            clear e2
            refine ⟨_, rfl, ?_⟩
            refine gg ?_
            cases u4
            case false =>
              refine gg ?_
              refine kp ?_ (oMk (v := .iface 216 (.int .i64 2)))
              refine gg ?_
              have hR : R = none := by
                have h := Hrec.out
                rw [hx2, if_neg Hxd.out] at h
                exact h.symm
              refine KR.fin2 Tryz.results104 rfl rfl ⟨by rw [hR]; rfl, Hpk.out⟩
            refine gg ?_
            refine KL.call rfl rfl rfl rfl rfl (by go_simp) (pu_lower c _) ?_
            rintro e w2 ⟨rfl, e2⟩
            obtain rfl := e2.symm
            clear e2
            refine ⟨_, rfl, ?_⟩
            refine gg ?_
            cases u5
            case true => exact absurd Hnl.out (by decide)
            refine gg ?_
            refine kp ?_ (oMk (v := .iface 216 (.int .i64 2)))
            refine gg ?_
            have hR : R = none := by
              have h := Hrec.out
              rw [hx2, if_neg Hxd.out] at h
              exact h.symm
            refine KR.fin2 Tryz.results104 rfl rfl ⟨by rw [hR]; rfl, Hpk.out⟩
          refine gg ?_
          cases u3
          case true => exact absurd Hno.out (by decide)
          refine gg ?_
          refine KL.call rfl rfl rfl rfl rfl (by go_simp) (pu_lower c _) ?_
          rintro e w2 ⟨rfl, e2⟩
          obtain rfl := e2.symm
          clear e2
          refine ⟨_, rfl, ?_⟩
          refine gg ?_
          cases u4
          case false =>
            refine gg ?_
            refine kp ?_ (oMk (v := .iface 216 (.int .i64 2)))
            refine gg ?_
            have hR : R = none := by
              have h := Hrec.out
              rw [hx2, if_neg Hxd.out] at h
              exact h.symm
            refine KR.fin2 Tryz.results104 rfl rfl ⟨by rw [hR]; rfl, Hpk.out⟩
          refine gg ?_
          refine KL.call rfl rfl rfl rfl rfl (by go_simp) (pu_lower c _) ?_
          rintro e w2 ⟨rfl, e2⟩
          obtain rfl := e2.symm
          clear e2
          refine ⟨_, rfl, ?_⟩
          refine gg ?_
          cases u5
          case true => exact absurd Hnl.out (by decide)
          refine gg ?_
          refine kp ?_ (oMk (v := .iface 216 (.int .i64 2)))
          refine gg ?_
          have hR : R = none := by
            have h := Hrec.out
            rw [hx2, if_neg Hxd.out] at h
            exact h.symm
          refine KR.fin2 Tryz.results104 rfl rfl ⟨by rw [hR]; rfl, Hpk.out⟩
  · have hd : decide ((k : Int) < 2) = false := by simp; omega
    have hdr : (kb s).drop k = [] := List.drop_eq_nil_of_le (by have := Hl.out; omega)
    have h := Hrec.out
    rw [hdr] at h
    have hR : R = some v := h.symm
    have HR := Lib.hid hR
    clear h hdr hR
    refine gg ?_
    refine KR.fin2 Tryz.results104 rfl rfl ⟨by rw [HR.out]; rfl, Hpk.out⟩
end Go.Proofs.YtiddhcabpmkolaaGreatDoor
set_option linter.unusedSimpArgs false
set_option linter.unusedVariables false
namespace Go.Proofs.YtiddhcabpmkolaaGreatDoor
open Go.RowKit
set_option maxRecDepth 100000
open Go
/-- What strconv.ParseUint hands back. -/
def PuR (r : Option Nat) (e : Ending) : Prop := match r with
  | some v => e = .returned (.tuple #[.int .u64 (v : Int), .nilIface])
  | none => ∃ v t p, e = .returned (.tuple #[.int .u64 v, .iface t (.pointer (some p))])
set_option maxHeartbeats 1600000 in
theorem pu_outer (s : ByteArray) (w : World) (hs : s.size = 2) (hT : Tb w) : Calls Tryz.prog 65 #[.string s, .int .i64 16, .int .i64 8] w fun e w' => PuR (hx2 0 (kb s)) e ∧ Pure w w' := by
  have hI := pu_inner s w hs
  have hE := fun w' (hk : Pure w w') => (show Calls Tryz.prog 103 #[.string ⟨#[80, 97, 114, 115, 101, 85, 105, 110, 116]⟩, .string s, .int .i64 16, .int .i64 8, .iface 216 (.int .i64 2)] w' fun e w'' => (∃ t p, e = .returned (.iface t (.pointer (some p)))) ∧ Pure w' w'' by
    obtain ⟨te, pe, hes⟩ := (hT.kept hk).es
    exact (AnyPu.strconv_toError_syntax Tryz.lays17p ⟨#[80, 97, 114, 115, 101, 85, 105, 110, 116]⟩ s 16 8 _ w' (by omega) hes (.inr ⟨_, _, rfl⟩)).mono fun e w'' ⟨N, h1, _, _, h4⟩ => ⟨⟨_, _, h1⟩, Pure.of_below h4⟩)
  have HE := Lib.hid hE
  obtain ⟨r, hr⟩ : ∃ r, hx2 0 (kb s) = r := ⟨_, rfl⟩
  rw [hr] at hI ⊢
  have HI := Lib.hid hI
  clear hI hE hr hs
  cases r with
  | some v =>
    refine calls_kn Tryz.func65 rfl Tryz.ntmps65 rfl ?_
    refine gg ?_
    refine KL.call rfl rfl rfl rfl rfl (by go_simp) HI.out ?_
    rintro e w1 ⟨rfl, hk⟩
    refine ⟨_, rfl, ?_⟩
    have Hk := Lib.hid hk
    clear hk HI
    unfold puV
    refine gg ?_
    refine kp ?_ (oQ (v := .bool false))
    refine gg ?_
    refine KR.fin2 Tryz.results65 rfl rfl ⟨rfl, Hk.out⟩
  | none =>
    refine calls_kn Tryz.func65 rfl Tryz.ntmps65 rfl ?_
    refine gg ?_
    refine KL.call rfl rfl rfl rfl rfl (by go_simp) HI.out ?_
    rintro e w1 ⟨rfl, hk⟩
    refine ⟨_, rfl, ?_⟩
    have Hk := Lib.hid hk
    clear hk HI
    unfold puV
    refine gg ?_
    refine kp ?_ (oQ (v := .bool true))
    refine gg ?_
    refine KL.call rfl rfl rfl rfl rfl (by go_simp) (HE.out _ Hk.out) ?_
    rintro e w2 ⟨⟨t, p, rfl⟩, hk2⟩
    refine ⟨_, rfl, ?_⟩
    have Hk2 := Lib.hid hk2
    clear hk2
    refine gg ?_
    refine KR.fin2 Tryz.results65 rfl rfl ⟨⟨_, _, _, rfl⟩, Hk.out.same Hk2.out⟩
theorem hx2_pair (a b : UInt8) : hx2 0 [a, b] = if hxv a < 16 ∧ hxv b < 16 then some (hxv a * 16 + hxv b) else none := by
  unfold hx2
  by_cases h1 : hxv a < 16
  · rw [if_pos h1]
    unfold hx2
    by_cases h2 : hxv b < 16
    · rw [if_pos h2, if_pos ⟨h1, h2⟩]
      unfold hx2
      rw [Nat.zero_mul, Nat.zero_add]
    · rw [if_neg h2, if_neg (fun h => h2 h.2)]
  · rw [if_neg h1, if_neg (fun h => h1 h.1)]
set_option maxHeartbeats 3200000 in
theorem pl_unhex (s : ByteArray) (w : World) (hs : s.size ≤ 100000) (hT : Tb w) : Calls Tryz.prog 40 #[.string s] w fun e w' => e = .returned (.string ⟨(unhexT (kb s)).toArray⟩) ∧ Pure w w' := by
  obtain ⟨R, hR⟩ : ∃ R, unhexT (kb s) = R := ⟨_, rfl⟩
  rw [hR]
  have hsz := kb_len s
  by_cases h0 : s = ⟨#[45]⟩
  · have hd : decide (s = ⟨#[45]⟩) = true := decide_eq_true h0
    have hR2 : R = [] := by rw [← hR, h0]; rfl
    subst hR2
    clear hR hsz h0
    refine calls_kn Tryz.func40 rfl Tryz.ntmps40 rfl ?_
    refine gg ?_
    refine KR.fin1 Tryz.results40 rfl ⟨rfl, Kept.refl _ _⟩
  · have hd : decide (s = ⟨#[45]⟩) = false := decide_eq_false h0
    have hR2 : R = (unhexL (kb s)).getD [] := by
      rw [← hR]
      exact if_neg (fun e => h0 (kb_inj.1 (e.trans rfl)))
    have HR := Lib.hid hR2
    have Hr := Lib.hid ((Run.start (F := fun _ => False) (w := w) (Ps := []) trivial).addNil 5 1)
    have HT := Lib.hid hT
    have Hsz := Lib.hid hsz
    clear hR hR2 hsz h0 hT
    refine calls_kn Tryz.func40 rfl Tryz.ntmps40 rfl ?_
    refine gg ?_
    refine KW.loop (ι := Nat × (Option Addr × Nat) × List UInt8) (fun p => [(0, .string s), (3, .slice p.2.1.1 p.1 p.2.1.2), (4, .int .i64 ((2 * p.1 : Nat) : Int))]) (fun p w' => 2 * p.1 ≤ s.size ∧ p.2.2.length = p.1 ∧ unhexL (kb s) = (unhexL ((kb s).drop (2 * p.1))).map (p.2.2 ++ ·) ∧ Run w (fun _ => False) w' [ownC 5 1 (.slice p.2.1.1 p.1 p.2.1.2) p.1 (bvs p.2.2)]) (fun p => s.size - p.1) (0, (none, 0), []) ⟨Nat.zero_le _, rfl, (by show unhexL (kb s) = (unhexL (kb s)).map (fun x => x); simp), Hr.out⟩ (kle_ok (by repeat' (first | exact trivial | refine ⟨rfl, ?_⟩))) ?_
    rintro ⟨j, ⟨A, c⟩, out⟩ w1 ⟨hj, hlen, hun, hr1⟩
    simp only at hj hlen hun hr1
    have Hr' := Lib.hid hr1
    clear Hr
    have Hr := Hr'
    clear Hr'
    have Hlen := Lib.hid hlen
    have Hun := Lib.hid hun
    clear hr1 hlen hun hd
    by_cases hlt : 2 * j + 1 < s.size
    · have hd : decide (((2 * j : Nat) : Int) + 1 < (s.size : Int)) = true := by simp; omega
      obtain ⟨a, ha⟩ : ∃ a, (kb s)[2 * j]? = some a := ⟨_, List.getElem?_eq_getElem (by have := Hsz.out; omega)⟩
      obtain ⟨b, hb⟩ : ∃ b, (kb s)[2 * j + 1]? = some b := ⟨_, List.getElem?_eq_getElem (by have := Hsz.out; omega)⟩
      have hdr : (kb s).drop (2 * j) = a :: b :: (kb s).drop (2 * (j + 1)) := by
        have h1 := List.getElem?_eq_some_iff.1 ha
        have h2 := List.getElem?_eq_some_iff.1 hb
        rw [List.drop_eq_getElem_cons h1.1, h1.2, List.drop_eq_getElem_cons h2.1, h2.2]
        rfl
      have hex : kb (s.extract (2 * j) (2 * j + 2)) = [a, b] := by
        rw [kb_ext, hdr, show 2 * j + 2 - 2 * j = 2 by omega]; rfl
      have hes : (s.extract (2 * j) (2 * j + 2)).size = 2 := by rw [← kb_len, hex]; rfl
      have hun := Hun.out
      rw [hdr, unhexL] at hun
      have PO := pu_outer (s.extract (2 * j) (2 * j + 2)) w1 hes (HT.out.kept Hr.out.kept)
      rw [hex, hx2_pair] at PO
      have Hun := Lib.hid hun
      clear ha hb hdr hex hes hun
      refine gg ?_
      refine kp ?_ (oZs (i := 2 * j) (j := 2 * j + 2) (ha := rfl) (hb := by omega) (hij := by omega) (hj := by omega))
      refine gg ?_
      by_cases hv : hxv a < 16 ∧ hxv b < 16
      · rw [if_pos hv] at PO
        have hun := Hun.out
        rw [if_pos hv, Option.map_map] at hun
        have hN6 : hxv a * 16 + hxv b < 256 := by omega
        obtain ⟨N, hN⟩ : ∃ N, hxv a * 16 + hxv b = N := ⟨_, rfl⟩
        rw [hN] at PO hun hN6
        have Hun2 := Lib.hid hun
        have PO := Lib.hid PO
        clear hun hv Hun hN
        refine KL.call rfl rfl rfl rfl rfl (by go_simp) PO.out ?_
        rintro e w2 ⟨he, hk⟩
        unfold PuR at he
        simp only at he
        subst he
        refine ⟨_, rfl, ?_⟩
        have Hr' := Lib.hid (Hr.out.pure hk)
        clear Hr
        have Hr := Hr'
        clear Hr'
        clear hk PO
        refine gg ?_
        refine kp ?_ (oQ (v := .bool false))
        refine gg ?_
        have hwc : IntKind.u8.wrap (N : Int) = (N : Int) := by rw [IntKind.wrap_u8']; omega
        refine kp ?_ (oCv (v := .int .u8 (N : Int)))
        clear hwc
        refine gg ?_
        have e1 : (UInt8.ofNat N).toNat = N := by rw [UInt8.toNat_ofNat']; omega
        have hbv : [Value.int .u8 (N : Int)] = bvs [UInt8.ofNat N] := by show _ = [Value.int .u8 ((UInt8.ofNat N).toNat : Int)]; rw [e1]
        refine KL.makes (v := .slice (some ⟨w2.heap.size, 0, none⟩) 1 1) (w' := w2.alloc (.cells #[.int .u8 (N : Int)] 5)) rfl rfl rfl (fun ρ hρ => by have e := hρ (.tmp 29) _ rfl; simp only [execOp]; go_simp; first | done | rfl) ?_
        have hsl := Sl.lit w2 #[.int .u8 (N : Int)] 5 1 1 (bvs [UInt8.ofNat N]) rfl (by rw [← hbv])
        clear e1 hbv
        refine KL.app (Hr.out.alloc _) 0 rfl Tryz.underlying50 info_u8 rfl (by omega) hsl (bvs_one _) (by omega) (by omega) rfl rfl rfl rfl rfl rfl ?_
        clear hsl
        intro A5 c5 w5 e1 e2 hr5
        clear e1 e2
        have hr6 : Run w (fun _ => False) w5 [ownC 5 1 (.slice A5 (j + 1) c5) (j + 1) (bvs (out ++ [UInt8.ofNat N]))] := by rw [bvs_append]; exact hr5
        have Hr6 := Lib.hid hr6
        clear hr5 hr6
        refine gg ?_
        refine KE.rnd2 (j + 1, (A5, c5), out ++ [UInt8.ofNat N]) (by repeat' (first | exact trivial | refine ⟨rfl, ?_⟩)) ⟨by show 2 * (j + 1) ≤ s.size; omega, by simp only [List.length_append, Hlen.out]; rfl, ?_, Hr6.out⟩ (by show s.size - (j + 1) < s.size - j; omega)
        have h := Hun2.out
        rw [h]
        congr 1
        funext x
        simp
      · rw [if_neg hv] at PO
        have hun := Hun.out
        rw [if_neg hv] at hun
        have hR : R = [] := by rw [HR.out, hun]; rfl
        have HR := Lib.hid hR
        have PO := Lib.hid PO
        clear hun hv Hun hR
        refine KL.call rfl rfl rfl rfl rfl (by go_simp) PO.out ?_
        rintro e w2 ⟨⟨v, t, p, he⟩, hk⟩
        subst he
        refine ⟨_, rfl, ?_⟩
        have Hk := Lib.hid (Hr.out.pure hk).kept
        clear hk PO
        refine gg ?_
        refine kp ?_ (oQ (v := .bool true))
        refine gg ?_
        refine KR.fin1 Tryz.results40 rfl ⟨by rw [HR.out], Hk.out⟩
    · have hd : decide (((2 * j : Nat) : Int) + 1 < (s.size : Int)) = false := by simp; omega
      have hdr : unhexL ((kb s).drop (2 * j)) = some [] := by
        have hl : ((kb s).drop (2 * j)).length ≤ 1 := by rw [List.length_drop, Hsz.out]; omega
        cases h : (kb s).drop (2 * j) with
        | nil => rfl
        | cons a r =>
          cases r with
          | nil => rfl
          | cons b r => rw [h] at hl; simp at hl
      have hun := Hun.out
      rw [hdr] at hun
      have hR : R = out := by rw [HR.out, hun]; simp
      have HR := Lib.hid hR
      have hs1 := (Hr.out.own 0 rfl).sl
      clear hun hdr hR
      refine gg ?_
      refine kp ?_ (oStr hs1 Tryz.underlying50 Tryz.underlying5)
      refine gg ?_
      refine KR.fin1 Tryz.results40 rfl ⟨by rw [HR.out], Hr.out.kept⟩
end Go.Proofs.YtiddhcabpmkolaaGreatDoor
set_option linter.unusedSimpArgs false
set_option linter.unusedVariables false
namespace Go.Proofs.YtiddhcabpmkolaaGreatDoor
open Go.RowKit
set_option maxRecDepth 100000
open Go
abbrev strs (l : List ByteArray) : List Value := l.map Value.string
/-- What a slice of a row reads as, wherever the row does. -/
def View (g n : Nat) (XS : List Value) (A : Option Addr) (r : List ByteArray) : Prop := ∀ w F, Sl w F 1 (some ⟨g, 0, none⟩) n XS → Sl w F 1 A r.length (strs r)
theorem View.cut {g n : Nat} {XS : List Value} {A : Option Addr} {c : Nat} {x : ByteArray} {r : List ByteArray} (h : View g n XS A (x :: r)) (hc : (x :: r).length ≤ c) :
    ∃ A', View g n XS A' r ∧ r.length ≤ c - 1 ∧ ∀ y, (Instr.sliceAt 35 (.slice A (x :: r).length c) (some (.int .i64 1)) none none).run Tryz.prog y = .ok (.slice A' r.length (c - 1)) y := by
  refine ⟨_, fun w F hs => ?_, by rw [List.length_cons] at hc; omega, fun y => run_lo (w := y) (j := 1) Tryz.underlying35 (by kernel_rfl) (by rw [List.length_cons]; omega)⟩
  have := (h w F hs).from (j := 1) (by rw [List.length_cons]; omega) hc (by omega)
  rw [show (Tryz.prog).cellsOf 9 = 1 by kernel_rfl]
  exact this
theorem View.hd {g n : Nat} {XS : List Value} {A : Option Addr} {x : ByteArray} {r : List ByteArray} {w : World} {F : Nat → Prop} (h : View g n XS A (x :: r)) (hs : Sl w F 1 (some ⟨g, 0, none⟩) n XS) : ∃ b o, A = some ⟨b, o, none⟩ ∧ w.cell? ⟨b, o, none⟩ = some (.string x) := by
  obtain ⟨b, o, hA, _, _, hc⟩ := (h w F hs).2 (by rw [List.length_cons]; omega)
  have := hc 0 (by simp)
  exact ⟨b, o, hA, by simpa using this⟩
/-- What stands while a line's words are read. -/
structure RdI (w : World) (g1 g2 g4 n S : Nat) (XS : List Value) (a : PAct) (r : List ByteArray) (A : Option Addr) (cap : Nat) (w' : World) : Prop where
  cap : r.length ≤ cap
  view : View g1 n XS A r
  size : ∀ x ∈ r, x.size ≤ S
  run : Run w (fun _ => False) w' [blkC g4 33 a.row, slC 1 (some ⟨g1, 0, none⟩) n XS, blkC g2 33 zAct.row]
set_option maxHeartbeats 3200000 in
theorem pl_read (s : ByteArray) (w : World) (hs : s.size ≤ 100000) (hT : Tb w) : Calls Tryz.prog 22 #[.string s] w fun e w' => ∃ ws, WordsOf (kb s) ws ∧ e = .returned (rdL (ws.map kb)).val ∧ Pure w w' := by
  have Hr := Lib.hid ((Run.start (F := fun _ => False) (w := w) (Ps := []) trivial).addBlk #[.int .i64 0, .int .i64 0, .int .i64 0, .string ⟨#[]⟩] 33)
  have HT := Lib.hid hT
  clear hT
  refine calls_kn Tryz.func22 rfl Tryz.ntmps22 rfl ?_
  refine gg ?_
  refine KL.makes (v := .pointer (some ⟨World.heap w |>.size, 0, none⟩)) rfl rfl rfl (fun ρ hρ => by simp only [execOp]; go_simp; first | done | rfl) ?_
  generalize w.alloc _ = w1 at *
  generalize w.heap.size = g2 at *
  refine gg ?_
  refine KL.call rfl rfl rfl rfl rfl (by go_simp) (sp_split s w1 hs (HT.out.kept Hr.out.kept)) ?_
  rintro e w2 ⟨ws, rfl, hw, hsl, hk⟩
  refine ⟨_, rfl, ?_⟩
  have hwz := hw.size
  obtain ⟨W0, rs, rfl⟩ : ∃ a r, ws = a :: r := by
    obtain ⟨x, r, h, _⟩ := hw
    cases ws with
    | nil => cases h
    | cons a r => exact ⟨_, _, rfl⟩
  have Hr' := Lib.hid ((Hr.out.add (Q := slC 1 (some ⟨w1.heap.size, 0, none⟩) (W0 :: rs).length (strs (W0 :: rs))) hk hsl).addBlk #[.int .i64 0, .int .i64 0, .int .i64 0, .string ⟨#[]⟩] 33)
  clear Hr
  have Hr := Hr'
  clear Hr'
  have Hw := Lib.hid hw
  have Hwz := Lib.hid hwz
  obtain ⟨n, hn⟩ : ∃ n, (W0 :: rs).length = n := ⟨_, rfl⟩
  rw [hn] at Hr ⊢
  have Hn := Lib.hid hn
  obtain ⟨XS, hXS⟩ : ∃ XS, strs (W0 :: rs) = XS := ⟨_, rfl⟩
  rw [hXS] at Hr
  have HX := Lib.hid hXS
  clear hw hwz hsl hk hn hXS
  generalize w1.heap.size = g1 at *
  refine gg ?_
  refine KL.makes (v := .pointer (some ⟨World.heap w2 |>.size, 0, none⟩)) rfl rfl rfl (fun ρ hρ => by simp only [execOp]; go_simp; first | done | rfl) ?_
  generalize w2.alloc _ = w3 at *
  generalize w2.heap.size = g4 at *
  refine gg ?_
  refine KW.loop (ι := Nat) (fun k => [(2, bP g2), (3, .slice (some ⟨g1, 0, none⟩) n n), (4, bP g4), (5, .int .i64 ((k : Int) + 1))]) (fun k w' => k ≤ 7 ∧ Run w (fun _ => False) w' [blkC g4 33 (rdS (kb W0) (rs.map kb) k).row, slC 1 (some ⟨g1, 0, none⟩) n XS, blkC g2 33 zAct.row]) (fun k => 7 - k) 0 ⟨Nat.zero_le _, Hr.out⟩ (kle_ok (by repeat' (first | exact trivial | refine ⟨rfl, ?_⟩))) ?_
  rintro k w4 ⟨hk, hr4⟩
  have Hr' := Lib.hid hr4
  clear Hr
  have Hr := Hr'
  clear Hr'
  clear hr4
  by_cases hlt : k < 7
  · have hd : decide ((k : Int) + 1 ≤ 7) = true := by simp; omega
    have PC := pl_parts ((k : Int) + 1) w4
    have hrk : rdK ((k : Int) + 1) (rs.map kb) = ⟨(k : Int) + 1, (takeN (plConn ((k : Int) + 1)) (rs.map kb)).1, (takeN (plNum ((k : Int) + 1)) (takeN (plConn ((k : Int) + 1)) (rs.map kb)).2).1, ⟨(takeB (decide ((k : Int) + 1 = 2)) (takeN (plNum ((k : Int) + 1)) (takeN (plConn ((k : Int) + 1)) (rs.map kb)).2).2).toArray⟩⟩ := rfl
    obtain ⟨c, hcc⟩ : ∃ c, plConn ((k : Int) + 1) = c := ⟨_, rfl⟩
    obtain ⟨m, hcm⟩ : ∃ c, plNum ((k : Int) + 1) = c := ⟨_, rfl⟩
    obtain ⟨b, hcb⟩ : ∃ c, decide ((k : Int) + 1 = 2) = c := ⟨_, rfl⟩
    rw [hcc, hcm, hcb] at PC hrk
    have Hrk := Lib.hid hrk
    have PC := Lib.hid PC
    clear hcc hcm hcb hrk
    refine gg ?_
    refine KL.call rfl rfl rfl rfl rfl (by go_simp) PC.out ?_
    rintro e w5 ⟨rfl, e5⟩
    obtain rfl := e5.symm
    clear e5
    refine ⟨_, rfl, ?_⟩
    obtain ⟨t, ht⟩ : ∃ t, (!decide (plW ((k : Int) + 1) = W0)) = t := ⟨_, rfl⟩
    have hsl := Hr.out.get (P := slC 1 (some ⟨g1, 0, none⟩) n XS) 1 rfl
    have h0 : w4.cell? ⟨g1, 0, none⟩ = some (.string W0) := by
      obtain ⟨b, o, hA, _, _, hc⟩ := hsl.2 (by rw [← Hn.out, List.length_cons]; omega)
      injection hA with hA
      injection hA with e1 e2
      subst e1 e2
      rw [← HX.out] at hc
      have := hc 0 (by simp)
      simpa using this
    have hn0 : 0 < n := by have := Hn.out; rw [List.length_cons] at this; omega
    clear hsl
    refine gg ?_
    cases t
    case true =>
      refine gg ?_
      have hne : plWord ((k : Int) + 1) ≠ kb W0 := fun e => by
        have : plW ((k : Int) + 1) = W0 := by unfold plW; rw [e]; exact bs_kb W0
        rw [this] at ht; simp at ht
      have hS : rdS (kb W0) (rs.map kb) (k + 1) = rdS (kb W0) (rs.map kb) k := by rw [rdS, if_neg hne]
      have hr := Hr.out
      rw [← hS] at hr
      refine KE.rnd2 (k + 1) (by repeat' (first | exact trivial | refine ⟨rfl, ?_⟩)) ⟨hlt, hr⟩ (by omega)
    have heq : plWord ((k : Int) + 1) = kb W0 := by
      have : plW ((k : Int) + 1) = W0 := by simpa using ht
      rw [← this]; unfold plW; rw [kb_bs]
    have hz0 := rdS_first (ws := rs.map kb) hlt heq
    have hS : rdS (kb W0) (rs.map kb) (k + 1) = rdK ((k : Int) + 1) (rs.map kb) := by rw [rdS, if_pos heq]
    rw [hz0] at Hr
    have HS := Lib.hid hS
    clear hz0 hS heq ht h0
    have hfz := (Hr.out.blk 0 rfl).frozen
    have hcl := (Hr.out.blk 0 rfl).cell
    refine gg ?_
    refine KL.store1 Hr.out 0 0 rfl rfl rfl rfl rfl rfl (by go_simp; first | done | rfl) ?_
    intro w5 e5 hr5
    have Hr' := Lib.hid hr5
    clear Hr
    have Hr := Hr'
    clear Hr'
    clear hr5 e5 hfz hcl
    have hview : View g1 n XS (some ⟨g1, 0, none⟩) (W0 :: rs) := fun w F h => by rw [Hn.out, HX.out]; exact h
    obtain ⟨A1, hv1, hc1, hcut⟩ := hview.cut (c := n) (by rw [Hn.out]; exact Nat.le_refl _)
    rw [Hn.out] at hcut
    have Hv1 := Lib.hid hv1
    have Hcut := Lib.hid hcut
    clear hview hv1 hcut
    refine gg ?_
    refine kp ?_ (oZl (Hcut.out _))
    refine qe ?_
    refine KL.nil ?_
    refine KE.next ?_
    have hI : RdI w g1 g2 g4 n s.size XS ⟨(k : Int) + 1, 0, 0, ⟨#[]⟩⟩ rs A1 (n - 1) w5 := ⟨hc1, Hv1.out, fun x hx => Hwz.out x (List.mem_cons_of_mem _ hx), Hr.out⟩
    clear Hr hc1 Hv1 Hcut
    refine KW.cut (ι := PAct × List ByteArray × Option Addr × Nat) (fun j => [(2, bP g2), (3, .slice (some ⟨g1, 0, none⟩) n n), (4, bP g4), (5, .int .i64 ((k : Int) + 1)), (8, .bool m), (9, .bool b), (10, .slice j.2.2.1 j.2.1.length j.2.2.2)]) (fun j w' => RdI w g1 g2 g4 n s.size XS j.1 j.2.1 j.2.2.1 j.2.2.2 w' ∧ j.1 = ⟨(k : Int) + 1, (takeN c (rs.map kb)).1, 0, ⟨#[]⟩⟩ ∧ j.2.1.map kb = (takeN c (rs.map kb)).2) ?_ ?_
    rotate_left 1
    · intro N hN
      cases c
      · refine gg ?_
        exact hN (_, rs, A1, n - 1) _ _ (by repeat' (first | exact trivial | refine ⟨rfl, ?_⟩)) ⟨hI, rfl, rfl⟩
      · obtain ⟨R0, hR0⟩ : ∃ R0, rs = R0 := ⟨_, rfl⟩
        rw [hR0] at hI hN ⊢
        cases R0 with
        | nil =>
          refine gg ?_
          exact hN (_, [], A1, n - 1) _ _ (by repeat' (first | exact trivial | refine ⟨rfl, ?_⟩)) ⟨hI, rfl, rfl⟩
        | cons x r =>
          have hd0 : decide ((0 : Int) < (r.length : Int) + 1) = true := decide_eq_true (by omega)
          refine gg ?_
          obtain ⟨b0, o0, hA0, hx0⟩ := hI.view.hd (hI.run.get (P := slC 1 (some ⟨g1, 0, none⟩) n XS) 1 rfl)
          obtain ⟨A2, hv2, hc2, hcut⟩ := hI.view.cut hI.cap
          have Hcut := Lib.hid hcut
          have Hv2 := Lib.hid hv2
          clear hcut hv2
          have hxs : x.size ≤ 100000 := Nat.le_trans (hI.size x (by simp)) hs
          have HI := Lib.hid hI
          clear hI
          subst hA0
          have hl0 : 0 < (x :: r).length := by simp
          refine KW.regionT (fun _ => True) [3, 7] [4, 5] [] (by kernel_rfl) (by kernel_rfl) (by kernel_rfl) (by kernel_rfl) trivial ?_
          have Hr := Lib.hid HI.out.run.drew
          have hx0 : (w5).drew.cell? ⟨b0, o0, none⟩ = some (.string x) := hx0
          generalize (w5).drew = w6 at *
          refine gt ?_
          refine KT.call (by decide) rfl rfl rfl rfl rfl (by go_simp) (pl_number x w6 hxs (HT.out.kept Hr.out.kept)) ?_
          rintro e w7 ⟨rfl, hk7⟩
          have Hr' := Lib.hid (Hr.out.pure hk7)
          clear Hr
          have Hr := Hr'
          clear Hr'
          refine ⟨_, rfl, fun _ => trivial, ?_⟩
          clear hk7 hx0
          refine gt ?_
          refine tu ?_ (fun y hy => oZl (Hcut.out y))
          have hcl := (Hr.out.blk 0 rfl).cell
          have hfz := (Hr.out.blk 0 rfl).frozen
          refine gt ?_
          refine KT.store1 Hr.out 0 1 rfl (by decide) rfl rfl rfl rfl rfl (by go_simp; first | done | rfl) ?_
          clear hcl hfz
          intro w8 e8 hr8
          have Hr8 := Lib.hid hr8
          clear hr8 e8
          refine ⟨fun _ => trivial, ?_⟩
          refine gt ?_
          refine gg ?_
          exact hN (⟨(k : Int) + 1, numT (kb x), 0, ⟨#[]⟩⟩, r, A2, n - 1 - 1) _ _ (by repeat' (first | exact trivial | refine ⟨rfl, ?_⟩)) ⟨⟨hc2, Hv2.out, fun y hy => HI.out.size y (List.mem_cons_of_mem _ hy), Hr8.out⟩, rfl, rfl⟩
    rintro ⟨a1, r1, A3, cap1⟩ w6 ⟨hI, ha1, hr1⟩
    simp only at hI ha1 hr1
    subst ha1
    have Hr1 := Lib.hid hr1
    clear hr1
    refine KW.cut (ι := PAct × List ByteArray × Option Addr × Nat) (fun j => [(2, bP g2), (3, .slice (some ⟨g1, 0, none⟩) n n), (4, bP g4), (5, .int .i64 ((k : Int) + 1)), (9, .bool b), (10, .slice j.2.2.1 j.2.1.length j.2.2.2)]) (fun j w' => RdI w g1 g2 g4 n s.size XS j.1 j.2.1 j.2.2.1 j.2.2.2 w' ∧ j.1 = ⟨(k : Int) + 1, (takeN c (rs.map kb)).1, (takeN m (takeN c (rs.map kb)).2).1, ⟨#[]⟩⟩ ∧ j.2.1.map kb = (takeN m (takeN c (rs.map kb)).2).2) ?_ ?_
    rotate_left 1
    · intro N hN
      rw [← Hr1.out] at hN
      obtain ⟨cn, hcn⟩ : ∃ cn, (takeN c (rs.map kb)).1 = cn := ⟨_, rfl⟩
      rw [hcn] at hN hI
      clear hcn
      cases m
      · refine gg ?_
        exact hN (_, r1, A3, cap1) _ _ (by repeat' (first | exact trivial | refine ⟨rfl, ?_⟩)) ⟨hI, rfl, rfl⟩
      · cases r1 with
        | nil =>
          refine gg ?_
          exact hN (_, [], A3, cap1) _ _ (by repeat' (first | exact trivial | refine ⟨rfl, ?_⟩)) ⟨hI, rfl, rfl⟩
        | cons x r =>
          have hd0 : decide ((0 : Int) < (r.length : Int) + 1) = true := decide_eq_true (by omega)
          refine gg ?_
          obtain ⟨b0, o0, hA0, hx0⟩ := hI.view.hd (hI.run.get (P := slC 1 (some ⟨g1, 0, none⟩) n XS) 1 rfl)
          obtain ⟨A2, hv2, hc2, hcut⟩ := hI.view.cut hI.cap
          have Hcut := Lib.hid hcut
          have Hv2 := Lib.hid hv2
          clear hcut hv2
          have hxs : x.size ≤ 100000 := Nat.le_trans (hI.size x (by simp)) hs
          have HI := Lib.hid hI
          clear hI
          subst hA0
          have hl0 : 0 < (x :: r).length := by simp
          refine KW.regionT (fun _ => True) [3, 7] [4, 5] [] (by kernel_rfl) (by kernel_rfl) (by kernel_rfl) (by kernel_rfl) trivial ?_
          have Hr := Lib.hid HI.out.run.drew
          have hx0 : (w6).drew.cell? ⟨b0, o0, none⟩ = some (.string x) := hx0
          generalize (w6).drew = w6 at *
          refine gt ?_
          refine KT.call (by decide) rfl rfl rfl rfl rfl (by go_simp) (pl_number x w6 hxs (HT.out.kept Hr.out.kept)) ?_
          rintro e w7 ⟨rfl, hk7⟩
          have Hr' := Lib.hid (Hr.out.pure hk7)
          clear Hr
          have Hr := Hr'
          clear Hr'
          refine ⟨_, rfl, fun _ => trivial, ?_⟩
          clear hk7 hx0
          refine gt ?_
          refine tu ?_ (fun y hy => oZl (Hcut.out y))
          have hcl := (Hr.out.blk 0 rfl).cell
          have hfz := (Hr.out.blk 0 rfl).frozen
          refine gt ?_
          refine KT.store1 Hr.out 0 2 rfl (by decide) rfl rfl rfl rfl rfl (by go_simp; first | done | rfl) ?_
          clear hcl hfz
          intro w8 e8 hr8
          have Hr8 := Lib.hid hr8
          clear hr8 e8
          refine ⟨fun _ => trivial, ?_⟩
          refine gt ?_
          refine gg ?_
          exact hN (⟨(k : Int) + 1, cn, numT (kb x), ⟨#[]⟩⟩, r, A2, cap1 - 1) _ _ (by repeat' (first | exact trivial | refine ⟨rfl, ?_⟩)) ⟨⟨hc2, Hv2.out, fun y hy => HI.out.size y (List.mem_cons_of_mem _ hy), Hr8.out⟩, rfl, rfl⟩
    clear hI Hr1
    rintro ⟨a2, r2, A4, cap2⟩ w7 ⟨hI, ha2, hr2⟩
    simp only at hI ha2 hr2
    subst ha2
    have hfin := Hrk.out
    rw [← hr2] at hfin
    have HF := Lib.hid (HS.out.trans hfin)
    obtain ⟨cn, hcn⟩ : ∃ cn, (takeN c (rs.map kb)).1 = cn := ⟨_, rfl⟩
    obtain ⟨nn, hnn⟩ : ∃ nn, (takeN m (takeN c (rs.map kb)).2).1 = nn := ⟨_, rfl⟩
    rw [hcn, hnn] at HF hI
    clear hcn hnn hfin hr2
    cases b
    · have hr := hI.run
      have hF := HF.out
      refine gg ?_
      refine KE.rnd2 (k + 1) (by repeat' (first | exact trivial | refine ⟨rfl, ?_⟩)) ⟨hlt, by rw [hF]; exact hr⟩ (by omega)
    · cases r2 with
      | nil =>
        have hr := hI.run
        have hF := HF.out
        refine gg ?_
        refine KE.rnd2 (k + 1) (by repeat' (first | exact trivial | refine ⟨rfl, ?_⟩)) ⟨hlt, by rw [hF]; exact hr⟩ (by omega)
      | cons x r =>
        have hd0 : decide ((0 : Int) < (r.length : Int) + 1) = true := decide_eq_true (by omega)
        obtain ⟨b0, o0, hA0, hx0⟩ := hI.view.hd (hI.run.get (P := slC 1 (some ⟨g1, 0, none⟩) n XS) 1 rfl)
        have hxs : x.size ≤ 100000 := Nat.le_trans (hI.size x (by simp)) hs
        have HI := Lib.hid hI
        clear hI
        subst hA0
        have hl0 : 0 < (x :: r).length := by simp
        refine gg ?_
        refine KL.call rfl rfl rfl rfl rfl (by go_simp) (pl_unhex x w7 hxs (HT.out.kept HI.out.run.kept)) ?_
        rintro e w8 ⟨rfl, hk8⟩
        refine ⟨_, rfl, ?_⟩
        have Hr := Lib.hid (HI.out.run.pure hk8)
        have hcl := (Hr.out.blk 0 rfl).cell
        have hfz := (Hr.out.blk 0 rfl).frozen
        clear hk8 hx0
        refine gg ?_
        refine KL.store1 Hr.out 0 3 rfl rfl rfl rfl rfl rfl (by go_simp; first | done | rfl) ?_
        clear hcl hfz
        intro w9 e9 hr9
        have Hr9 := Lib.hid hr9
        have hF := HF.out
        clear hr9 e9
        refine gg ?_
        refine KE.rnd2 (k + 1) (by repeat' (first | exact trivial | refine ⟨rfl, ?_⟩)) ⟨hlt, by rw [hF]; exact Hr9.out⟩ (by omega)
  · have hd : decide ((k : Int) + 1 ≤ 7) = false := by simp; omega
    have hk7 : k = 7 := by omega
    subst hk7
    refine gg ?_
    have hB := Hr.out.blk 0 rfl
    refine kp ?_ (PR.blk rfl rfl hB Tryz.underlying33 rfl (by kernel_rfl))
    clear hB
    refine gg ?_
    refine KL.storeB rfl rfl rfl rfl rfl (Hr.out.blk 2 rfl) rfl (by kernel_rfl) (by kernel_rfl) ?_
    intro w8 hb8 hk8
    have Hr8 := Lib.hid (Hr.out.turn 2 rfl hb8 hk8)
    clear hb8 hk8
    refine gg ?_
    refine KR.finC Tryz.results22 rfl (Hr8.out.blk 2 rfl) Tryz.underlying33 rfl (by kernel_rfl) ⟨W0 :: rs, Hw.out, ?_, Hr8.out.kept⟩
    rfl
end Go.Proofs.YtiddhcabpmkolaaGreatDoor
set_option linter.unusedSimpArgs false
set_option linter.unusedVariables false
namespace Go.Proofs.YtiddhcabpmkolaaGreatDoor
open Go.RowKit
set_option maxRecDepth 100000
open Go
theorem takeN_sub {b : Bool} {ws : List (List UInt8)} : ∀ x ∈ (takeN b ws).2, x ∈ ws := by
  intro x hx
  unfold takeN at hx
  split at hx
  · exact List.mem_cons_of_mem _ hx
  · exact hx
theorem takeB_len {b : Bool} {ws : List (List UInt8)} {N : Nat} (h : ∀ x ∈ ws, x.length ≤ N) : (takeB b ws).length ≤ N := by
  unfold takeB
  split
  · exact Nat.le_trans (unhexT_len _) (h _ (by simp))
  · simp
theorem rdS_len {w0 : List UInt8} {ws : List (List UInt8)} {N : Nat} (h : ∀ x ∈ ws, x.length ≤ N) : ∀ n, (rdS w0 ws n).bytes.size ≤ N
  | 0 => Nat.zero_le _
  | n + 1 => by
    rw [rdS]
    split
    · show (⟨(takeB _ _).toArray⟩ : ByteArray).size ≤ N
      rw [bs_size]
      exact takeB_len (fun x hx => h x (takeN_sub x (takeN_sub x hx)))
    · exact rdS_len h n
theorem rdL_len {s : ByteArray} {ws : List ByteArray} (h : WordsOf (kb s) ws) : (rdL (ws.map kb)).bytes.size ≤ s.size := by
  have hz := h.size
  cases ws with
  | nil => exact Nat.zero_le _
  | cons a r =>
    show (rdS (kb a) (r.map kb) 7).bytes.size ≤ s.size
    refine rdS_len (fun x hx => ?_) 7
    obtain ⟨y, hy, rfl⟩ := List.mem_map.1 hx
    rw [kb_len]
    exact hz y (List.mem_cons_of_mem _ hy)
theorem pl_readA (s : ByteArray) (w : World) (hs : s.size ≤ 100000) (hT : Tb w) : Calls Tryz.prog 22 #[.string s] w fun e w' => ∃ a : PAct, e = .returned a.val ∧ Pure w w' ∧ a.bytes.size ≤ s.size ∧ ∀ b : PAct, b.Ok → b.head = kb s → a = b :=
  (pl_read s w hs hT).mono fun e w' ⟨ws, hw, he, hk⟩ => ⟨_, he, hk, rdL_len hw, fun b hb hh => by
    obtain ⟨x, r, h1, h2, h3⟩ := hw
    rw [h1]
    exact rd_back hb (by rw [hh, h2]) h3⟩
theorem puts_put (x : Prs) (a : PAct) (m : Nat) (l : List PAct) (n : Nat) : (x.put a m).puts l n = x.puts (l ++ [a]) (n + m) := by
  cases x with
  | ok q => simp [Prs.put, Prs.puts]
  | bad q => simp [Prs.put, Prs.puts]; omega
/-- What Parse hands back. -/
def ParP (r : Prs) (w : World) (e : Ending) (w' : World) : Prop := match r with
  | .ok l => ∃ A c, e = .returned (.tuple #[.slice A l.length c, .int .i64 0, .int .i64 0]) ∧ l.length ≤ c ∧ Sl w' (fun b => w.heap.size ≤ b) 4 A l.length (pac l) ∧ Pure w w'
  | .bad n => e = .returned (.tuple #[.slice none 0 0, .int .i64 (n : Int), .int .i64 1]) ∧ Pure w w'
set_option maxHeartbeats 3200000 in
theorem pl_parse (s : ByteArray) (w : World) (hs : s.size ≤ 90000) (hT : Tb w) : Calls Tryz.prog 11 #[.string s] w (ParP (prsL (kb s)) w) := by
  have Hr := Lib.hid ((Run.start (F := fun _ => False) (w := w) (Ps := []) trivial).addNil 33 4)
  have HT := Lib.hid hT
  have Hz := Lib.hid (kb_len s)
  clear hT
  have h0 : Hid (prsL (kb s) = (prsL ((kb s).drop 0)).puts [] 0) := Lib.hid (by
    rw [List.drop_zero]
    cases prsL (kb s) <;> simp [Prs.puts])
  refine calls_kn Tryz.func11 rfl Tryz.ntmps11 rfl ?_
  refine gg ?_
  refine KW.loop (ι := Nat × List PAct × (Option Addr × Nat)) (fun p => [(0, .string s), (5, .slice p.2.2.1 p.2.1.length p.2.2.2), (6, .int .i64 (p.1 : Int))]) (fun p w' => p.1 ≤ s.size ∧ p.2.1.length ≤ p.1 ∧ Hid (prsL (kb s) = (prsL ((kb s).drop p.1)).puts p.2.1 p.1) ∧ Run w (fun _ => False) w' [ownC 33 4 (.slice p.2.2.1 p.2.1.length p.2.2.2) p.2.1.length (pac p.2.1)]) (fun p => s.size - p.1) (0, [], (none, 0)) ⟨Nat.zero_le _, Nat.le_refl _, h0, Hr.out⟩ (kle_ok (by repeat' (first | exact trivial | refine ⟨rfl, ?_⟩))) ?_
  clear h0
  rintro ⟨at_, out, ⟨A, c⟩⟩ w1 ⟨hat, hol, Hpr, hr1⟩
  simp only at hat hol Hpr hr1
  have Hr' := Lib.hid hr1
  clear Hr
  have Hr := Hr'
  clear Hr'
  clear hr1
  by_cases hlt : at_ < s.size
  · have hd : decide ((at_ : Int) < (s.size : Int)) = true := by simp; omega
    obtain ⟨S, hS⟩ : ∃ S, (kb s).drop at_ = S := ⟨_, rfl⟩
    have hSl : S.length = s.size - at_ := by rw [← hS, List.length_drop, Hz.out]
    have hex : kb (s.extract at_ s.size) = S := by
      rw [kb_ext, hS, List.take_of_length_le (by omega)]
    have hexz : (s.extract at_ s.size).size ≤ 100000 := by rw [← kb_len, hex]; omega
    have CC := ct_cut (s.extract at_ s.size) w1 hexz (HT.out.kept Hr.out.kept)
    rw [hex] at CC
    rw [hS] at Hpr
    have HS := Lib.hid hS
    clear hex hexz hS
    refine gg ?_
    refine kp ?_ (oZt (i := at_) (ha := rfl) (hj := hat))
    refine gg ?_
    obtain ⟨⟨h, q, fnd⟩, hct⟩ : ∃ c, Lib.cut S [10] = c := ⟨_, rfl⟩
    rw [hct] at CC
    simp only at CC
    have hhS : h.length ≤ S.length ∧ (fnd = false → nl1 S = none) ∧ (fnd = true → ∃ r, nl1 S = some (h, r)) := by
      cases e : nl1 S with
      | none =>
        rw [cut_none e] at hct
        injection hct with e1 e2
        injection e2 with e2 e3
        subst e1 e2 e3
        exact ⟨Nat.le_refl _, (fun _ => rfl), (fun h => by cases h)⟩
      | some p =>
        obtain ⟨h', r'⟩ := p
        rw [cut_some e] at hct
        injection hct with e1 e2
        injection e2 with e2 e3
        subst e1 e2 e3
        have := nl1_len e
        exact ⟨by omega, (fun h => by cases h), (fun _ => ⟨_, rfl⟩)⟩
    have HC := Lib.hid CC
    have HhS := Lib.hid hhS.2
    have hhl : h.length ≤ s.size - at_ := by rw [← hSl]; exact hhS.1
    clear hhS hct CC
    refine KL.call rfl rfl rfl rfl rfl (by go_simp) HC.out ?_
    rintro e w2 ⟨rfl, hk2⟩
    refine ⟨_, rfl, ?_⟩
    have Hr' := Lib.hid (Hr.out.pure hk2)
    clear Hr
    have Hr := Hr'
    clear Hr'
    clear hk2 HC
    obtain ⟨H, hH⟩ : ∃ H : ByteArray, (⟨h.toArray⟩ : ByteArray) = H := ⟨_, rfl⟩
    have hHz : H.size = h.length := by rw [← hH, bs_size]
    have hHk : kb H = h := by rw [← hH, kb_bs]
    rw [hH]
    have HHk := Lib.hid hHk
    clear hH hHk
    have RA := Lib.hid (pl_readA H w2 (by omega) (HT.out.kept Hr.out.kept))
    have hHz1 : H.size ≤ s.size - at_ := by omega
    have HHz := Lib.hid hHz
    clear hHz
    refine gg ?_
    refine KL.call rfl rfl rfl rfl rfl (by go_simp) RA.out ?_
    rintro e w3 ⟨a, rfl, hk3, haz, hab⟩
    refine ⟨_, rfl, ?_⟩
    have Hab := Lib.hid hab
    have Hr' := Lib.hid ((Hr.out.pure hk3).addBlk #[.int .i64 0, .int .i64 0, .int .i64 0, .string ⟨#[]⟩] 33)
    clear Hr
    have Hr := Hr'
    clear Hr'
    clear hk3 RA hab
    refine gg ?_
    refine KL.makes (v := .pointer (some ⟨World.heap w3 |>.size, 0, none⟩)) rfl rfl rfl (fun ρ hρ => by simp only [execOp]; go_simp; first | done | rfl) ?_
    generalize w3.alloc _ = w4 at *
    generalize w3.heap.size = g4 at *
    refine KL.storeB rfl rfl rfl rfl rfl (Hr.out.blk 0 rfl) rfl (by kernel_rfl) (by kernel_rfl) ?_
    intro w5 hb5 hk5
    have Hr' := Lib.hid (Hr.out.turn 0 rfl hb5 hk5)
    clear Hr
    have Hr := Hr'
    clear Hr'
    clear hb5 hk5
    have PL := Lib.hid (pl_line a w5 (by omega) (HT.out.kept Hr.out.kept))
    have hok : Hid (∀ b : PAct, b.Ok → b.head = h → a = b) := Lib.hid (by rw [← HHk.out]; exact Hab.out)
    obtain ⟨r, hr⟩ : ∃ r, a.ok = r := ⟨_, rfl⟩
    obtain ⟨L, hL⟩ : ∃ L, lineB a = L := ⟨_, rfl⟩
    rw [hr, hL] at PL
    have Hra := Lib.hid hr
    have HLa := Lib.hid hL
    clear hr hL Hab
    have hB := Hr.out.blk 0 rfl
    refine gg ?_
    refine kp ?_ (PR.blk rfl rfl hB Tryz.underlying33 rfl (by kernel_rfl))
    clear hB
    refine gg ?_
    refine KL.call rfl rfl rfl rfl rfl (by go_simp) PL.out ?_
    rintro e w6 ⟨rfl, hk6⟩
    refine ⟨_, rfl, ?_⟩
    have Hr' := Lib.hid (Hr.out.pure hk6)
    clear Hr
    have Hr := Hr'
    clear Hr'
    clear hk6 PL
    have hSne : S ≠ [] := fun e => by rw [e] at hSl; simp at hSl; omega
    have HSne := Lib.hid hSne
    clear hSne
    refine gg ?_
    cases fnd
    case false =>
      refine gg ?_
      have hbad : prsL (kb s) = .bad at_ := by
        have h := Hpr.out
        rw [prsL_none HSne.out (HhS.out.1 rfl)] at h
        exact h
      have HB := Lib.hid hbad
      clear hbad
      refine KR.fin3 Tryz.results11 rfl rfl rfl (by rw [HB.out]; exact ⟨rfl, Hr.out.kept⟩)
    obtain ⟨q', hq'⟩ := HhS.out.2 rfl
    have Hq := Lib.hid hq'
    clear hq'
    refine gg ?_
    cases r
    case false =>
      have hno : actOf h = none := by
        cases e : actOf h with
        | none => rfl
        | some b =>
          obtain ⟨h1, h2⟩ := actOf_of e
          have h3 := hok.out b h1 h2
          have h4 := Hra.out
          rw [h3, ok_iff.2 h1] at h4
          cases h4
      have Hno := Lib.hid hno
      clear hno
      refine gg ?_
      have hbad : prsL (kb s) = .bad at_ := by
        have h := Hpr.out
        rw [prsL_bad Hq.out Hno.out] at h
        exact h
      have HB := Lib.hid hbad
      clear hbad
      refine KR.fin3 Tryz.results11 rfl rfl rfl (by rw [HB.out]; exact ⟨rfl, Hr.out.kept⟩)
    have haok := ok_iff.1 Hra.out
    have hLk : kb L = a.head ++ [10] := by rw [← HLa.out, lineB_ok Hra.out, kb_bs]
    have Haok := Lib.hid haok
    have HLk := Lib.hid hLk
    clear haok hLk
    obtain ⟨t, ht⟩ : ∃ t, (!decide (L = H ++ ⟨#[10]⟩)) = t := ⟨_, rfl⟩
    refine gg ?_
    refine kp ?_ (oCat (hb := by have z2 : (⟨#[10]⟩ : ByteArray).size = 1 := rfl; omega))
    refine gg ?_
    have hkb : kb (H ++ ⟨#[10]⟩) = h ++ [10] := by rw [kb_app, HHk.out]; rfl
    cases t
    case true =>
      have hno : actOf h = none := by
        cases e : actOf h with
        | none => rfl
        | some b =>
          obtain ⟨h1, h2⟩ := actOf_of e
          have h3 := hok.out b h1 h2
          have h4 : L = H ++ ⟨#[10]⟩ := kb_inj.1 (by rw [HLk.out, hkb, h3, h2])
          rw [h4] at ht
          simp at ht
      have Hno := Lib.hid hno
      clear hno hkb
      refine gg ?_
      have hbad : prsL (kb s) = .bad at_ := by
        have h := Hpr.out
        rw [prsL_bad Hq.out Hno.out] at h
        exact h
      have HB := Lib.hid hbad
      clear hbad
      refine KR.fin3 Tryz.results11 rfl rfl rfl (by rw [HB.out]; exact ⟨rfl, Hr.out.kept⟩)
    have hLH : L = H ++ ⟨#[10]⟩ := by simpa using ht
    have hhead : a.head = h := by
      have := HLk.out
      rw [hLH, hkb] at this
      exact (List.append_cancel_right this).symm
    have hact : actOf h = some a := by rw [← hhead]; exact actOf_some Haok.out
    have hdr : (kb s).drop (at_ + (h.length + 1)) = q' := by
      rw [← List.drop_drop, HS.out, (nl1_some Hq.out).1]
      rw [show h ++ 10 :: q' = (h ++ [10]) ++ q' by simp]
      rw [show h.length + 1 = (h ++ [10]).length by simp, List.drop_left]
    have hpr : Hid (prsL (kb s) = (prsL ((kb s).drop (at_ + (h.length + 1)))).puts (out ++ [a]) (at_ + (h.length + 1))) := Lib.hid (by
      rw [hdr, ← puts_put, ← prsL_put Hq.out hact]
      exact Hpr.out)
    have hnl : at_ + (h.length + 1) ≤ s.size := by have := nl1_len Hq.out; omega
    clear hLH hhead hact hdr hkb ht
    have hB := Hr.out.blk 0 rfl
    refine gg ?_
    refine kp ?_ (PR.blk rfl rfl hB Tryz.underlying33 rfl (by kernel_rfl))
    clear hB
    refine KL.makes (v := .slice (some ⟨w6.heap.size, 0, none⟩) 1 1) (w' := w6.alloc (.cells a.row 33)) rfl rfl rfl (fun ρ hρ => by have e := hρ (.tmp 46) _ rfl; simp only [execOp]; go_simp; first | done | rfl) ?_
    have hsl := Sl.lit w6 a.row 33 4 1 (pac [a]) rfl rfl
    rw [← HHz.out] at hpr hnl
    refine KL.app (Hr.out.alloc (.cells a.row 33)) 1 rfl Tryz.underlying22 info_act rfl (by omega) hsl (pac_one _) (by omega) (by omega) rfl rfl rfl rfl rfl rfl ?_
    clear hsl
    intro A7 c7 w7 e1 e2 hr7
    clear e1 e2
    have hr8 : Run w (fun _ => False) w7 [ownC 33 4 (.slice A7 (out ++ [a]).length c7) (out ++ [a]).length (pac (out ++ [a]))] := by
      rw [List.length_append, pac_app]
      exact hr7.drop 0
    have Hr8 := Lib.hid hr8
    clear hr7 hr8
    refine gg ?_
    refine KE.rnd2 (at_ + (H.size + 1), out ++ [a], (A7, c7)) (by
      refine ⟨rfl, ⟨?_, ⟨rfl, trivial⟩⟩⟩
      simp only [List.length_append, List.length_singleton]
      rfl) ⟨hnl, by simp only [List.length_append, List.length_singleton]; omega, hpr, Hr8.out⟩ (by show s.size - (at_ + (H.size + 1)) < s.size - at_; omega)
  · have hd : decide ((at_ : Int) < (s.size : Int)) = false := by simp; omega
    have he : at_ = s.size := by omega
    have hpr : prsL (kb s) = .ok out := by
      have h := Hpr.out
      rw [he, ← Hz.out, List.drop_length] at h
      rw [h, prsL_nil, Prs.puts, List.append_nil]
    have HP := Lib.hid hpr
    obtain ⟨A9, c9, e9, hc9, _, _, hs9⟩ := (Hr.out.own 0 rfl).form
    injection e9 with e9 _ e10
    subst e9 e10
    have Hs9 := Lib.hid (hs9.imp (fun b _ h => h.elim (fun h => h.elim) id))
    clear hpr he hs9
    refine gg ?_
    refine KR.fin3 Tryz.results11 rfl rfl rfl (by rw [HP.out]; exact ⟨_, _, rfl, hc9, Hs9.out, Hr.out.kept⟩)
end Go.Proofs.YtiddhcabpmkolaaGreatDoor
set_option linter.unusedSimpArgs false
set_option linter.unusedVariables false
namespace Go.Proofs.YtiddhcabpmkolaaGreatDoor
open Go.RowKit
set_option maxRecDepth 100000
open Go
def NewP (w : World) (e : Ending) (w' : World) : Prop := (∃ g, e = .returned (bP g)) ∧ Pure w w'
set_option maxHeartbeats 800000 in
theorem mi_new (w : World) : Calls Tryz.prog 106 #[] w (NewP w) := by
  refine calls_kn Tryz.func106 rfl Tryz.ntmps106 rfl ?_
  refine gg ?_
  refine KL.told (v := .agg #[.slice none 0 0]) rfl rfl rfl (fun ρ hρ => by skip; simp only [execOp]; go_simp; first | done | rfl) ?_
  refine gg ?_
  refine KL.makes (v := .pointer (some ⟨World.heap w |>.size, 0, none⟩)) rfl rfl rfl (fun ρ hρ => by have e := hρ (.tmp 1) _ rfl; simp only [execOp, e]; go_simp; first | done | rfl) ?_
  refine gg ?_
  refine KR.fin1 Tryz.results106 rfl ⟨⟨_, rfl⟩, (Kept.refl _ _).alloc _⟩
set_option maxHeartbeats 800000 in
theorem mb_new (w : World) : Calls Tryz.prog 68 #[] w (NewP w) := by
  refine calls_kn Tryz.func68 rfl Tryz.ntmps68 rfl ?_
  refine gg ?_
  refine KL.told (v := .agg #[.slice none 0 0]) rfl rfl rfl (fun ρ hρ => by skip; simp only [execOp]; go_simp; first | done | rfl) ?_
  refine gg ?_
  refine KL.makes (v := .pointer (some ⟨World.heap w |>.size, 0, none⟩)) rfl rfl rfl (fun ρ hρ => by have e := hρ (.tmp 1) _ rfl; simp only [execOp, e]; go_simp; first | done | rfl) ?_
  refine gg ?_
  refine KR.fin1 Tryz.results68 rfl ⟨⟨_, rfl⟩, (Kept.refl _ _).alloc _⟩
set_option maxHeartbeats 800000 in
theorem hb_new (w : World) : Calls Tryz.prog 69 #[] w (NewP w) := by
  refine calls_kn Tryz.func69 rfl Tryz.ntmps69 rfl ?_
  refine gg ?_
  refine KL.told (v := .agg #[.slice none 0 0]) rfl rfl rfl (fun ρ hρ => by skip; simp only [execOp]; go_simp; first | done | rfl) ?_
  refine gg ?_
  refine KL.makes (v := .pointer (some ⟨World.heap w |>.size, 0, none⟩)) rfl rfl rfl (fun ρ hρ => by have e := hρ (.tmp 1) _ rfl; simp only [execOp, e]; go_simp; first | done | rfl) ?_
  refine gg ?_
  refine KR.fin1 Tryz.results69 rfl ⟨⟨_, rfl⟩, (Kept.refl _ _).alloc _⟩
set_option maxHeartbeats 800000 in
theorem ck_new (w : World) : Calls Tryz.prog 70 #[] w (NewP w) := by
  refine calls_kn Tryz.func70 rfl Tryz.ntmps70 rfl ?_
  refine gg ?_
  refine KL.told (v := .agg #[.int .i64 0, .slice none 0 0]) rfl rfl rfl (fun ρ hρ => by skip; simp only [execOp]; go_simp; first | done | rfl) ?_
  refine gg ?_
  refine KL.makes (v := .pointer (some ⟨World.heap w |>.size, 0, none⟩)) rfl rfl rfl (fun ρ hρ => by have e := hρ (.tmp 1) _ rfl; simp only [execOp, e]; go_simp; first | done | rfl) ?_
  refine gg ?_
  refine KR.fin1 Tryz.results70 rfl ⟨⟨_, rfl⟩, (Kept.refl _ _).alloc _⟩
set_option maxHeartbeats 800000 in
theorem pp_new (w : World) : Calls Tryz.prog 72 #[.int .i64 20006] w fun e w' => e = .returned (bP w.heap.size) ∧ w' = w.alloc (.cells #[.int .i64 20006, .string ⟨#[]⟩, .bool false] 139) := by
  refine calls_kn Tryz.func72 rfl Tryz.ntmps72 rfl ?_
  refine gg ?_
  refine KL.told (v := .agg #[.int .i64 20006, .string ⟨#[]⟩, .bool false]) rfl rfl rfl (fun ρ hρ => by have e := hρ (.tmp 4) _ rfl; simp only [execOp]; go_simp; first | done | rfl) ?_
  refine gg ?_
  refine KL.makes (v := .pointer (some ⟨World.heap w |>.size, 0, none⟩)) rfl rfl rfl (fun ρ hρ => by have e := hρ (.tmp 5) _ rfl; simp only [execOp, e]; go_simp; first | done | rfl) ?_
  refine gg ?_
  refine KR.fin1 Tryz.results72 rfl ⟨rfl, rfl⟩
/-- What sess.New makes: a pipe, a session. -/
def ssW (w : World) : World := (w.alloc (.cells #[.int .i64 20006, .string ⟨#[]⟩, .bool false] 139)).alloc (.cells #[bP w.heap.size, .string ⟨#[]⟩, .int .i64 0, .bool false] 180)
set_option maxHeartbeats 800000 in
theorem ss_new (w : World) : Calls Tryz.prog 71 #[.int .i64 20006] w fun e w' => e = .returned (bP (w.heap.size + 1)) ∧ w' = ssW w := by
  have HP := Lib.hid (pp_new w)
  refine calls_kn Tryz.func71 rfl Tryz.ntmps71 rfl ?_
  refine gg ?_
  refine KL.call rfl rfl rfl rfl rfl (by go_simp) HP.out ?_
  rintro e w1 ⟨rfl, hw⟩
  refine ⟨_, rfl, ?_⟩
  refine gg ?_
  refine KL.told (v := .agg #[bP w.heap.size, .string ⟨#[]⟩, .int .i64 0, .bool false]) rfl rfl rfl (fun ρ hρ => by have e := hρ (.tmp 4) _ rfl; simp only [execOp]; go_simp; first | done | rfl) ?_
  refine gg ?_
  refine KL.makes (v := .pointer (some ⟨World.heap w1 |>.size, 0, none⟩)) rfl rfl rfl (fun ρ hρ => by have e := hρ (.tmp 5) _ rfl; simp only [execOp, e]; go_simp; first | done | rfl) ?_
  refine gg ?_
  refine KR.fin1 Tryz.results71 rfl ⟨?_, ?_⟩
  · rw [hw]; simp
  · rfl
theorem info_mp : (Tryz.prog.info? 168).map (fun i => (i.zero, i.size, i.bytes)) = some (some (.pointer none), 1, 8) := by kernel_rfl
set_option maxHeartbeats 1600000 in
theorem rg_new2 (w : World) : Calls Tryz.prog 67 #[.int .i64 2] w (NewP w) := by
  have Hr := Lib.hid (((Run.start (F := fun _ => False) (w := w) (Ps := []) trivial).addNil 168 1).addBlk #[.slice none 0 0] 167)
  have hd0 : decide ((0 : Int) < 2) = true := rfl
  refine calls_kn Tryz.func67 rfl Tryz.ntmps67 rfl ?_
  refine gg ?_
  refine KL.told (v := .agg #[.slice none 0 0]) rfl rfl rfl (fun ρ hρ => by skip; simp only [execOp]; go_simp; first | done | rfl) ?_
  refine gg ?_
  refine KL.makes (v := .pointer (some ⟨World.heap w |>.size, 0, none⟩)) rfl rfl rfl (fun ρ hρ => by have e := hρ (.tmp 4) _ rfl; simp only [execOp, e]; go_simp; first | done | rfl) ?_
  generalize w.alloc _ = w1 at *
  generalize w.heap.size = g1 at *
  refine gg ?_
  refine KW.loop (ι := Nat × (Option Addr × Nat) × List Value) (fun p => [(3, bP g1), (7, .int .i64 2), (8, .int .i64 (p.1 : Int))]) (fun p w' => p.1 ≤ 2 ∧ Run w (fun _ => False) w' [blkC g1 167 #[.slice p.2.1.1 p.1 p.2.1.2], ownC 168 1 (.slice p.2.1.1 p.1 p.2.1.2) p.1 p.2.2]) (fun p => 2 - p.1) (0, (none, 0), []) ⟨Nat.zero_le _, Hr.out⟩ (kle_ok (by repeat' (first | exact trivial | refine ⟨rfl, ?_⟩))) ?_
  rintro ⟨k, ⟨A, c⟩, xs⟩ w2 ⟨hk, hr2⟩
  simp only at hk hr2
  have Hr' := Lib.hid hr2
  clear Hr
  have Hr := Hr'
  clear Hr'
  clear hr2 hd0
  by_cases hlt : k < 2
  · have hd : decide ((k : Int) < 2) = true := by simp; omega
    refine gg ?_
    refine KW.regionT (fun y => Blk y g1 167 #[.slice A k c]) [5, 6, 7, 10] [0, 1, 2, 3, 4] [10] (by kernel_rfl) (by kernel_rfl) (by kernel_rfl) (by kernel_rfl) (Hr.out.drew.blk 0 rfl) ?_
    have Hr' := Lib.hid Hr.out.drew
    clear Hr
    have Hr := Hr'
    clear Hr'
    generalize w2.drew = w3 at *
    refine gt ?_
    refine KT.call (by decide) rfl rfl rfl rfl rfl (by go_simp) (mi_new w3) ?_
    rintro e w4 ⟨⟨gm, rfl⟩, hk4⟩
    have Hr' := Lib.hid (Hr.out.pure hk4)
    clear Hr
    have Hr := Hr'
    clear Hr'
    refine ⟨_, rfl, fun _ => Hr.out.blk 0 rfl, ?_⟩
    clear hk4
    refine gt ?_
    refine KT.makes (v := .slice (some ⟨w4.heap.size, 0, none⟩) 1 1) (w' := w4.alloc (.cells #[bP gm] 168)) (by decide) rfl rfl rfl (fun ρ hρ => by have e := hρ (.tmp 15) _ rfl; simp only [execOp]; go_simp; first | done | rfl) (fun _ => ((Hr.out.alloc _).blk 0 rfl)) ?_
    have hsl := Sl.lit w4 #[bP gm] 168 1 1 [bP gm] rfl rfl
    refine gt ?_
    refine KT.app (Hr.out.alloc (.cells #[bP gm] 168)) 1 rfl Tryz.underlying165 info_mp rfl (by omega) hsl (by intro u hu; rw [List.mem_singleton.1 hu]; rfl) (by omega) (by omega) (by decide) rfl rfl rfl rfl rfl rfl ?_
    clear hsl
    intro A5 c5 w5 e1 e2 e3 hr5
    refine ⟨fun _ => hr5.blk 0 rfl, ?_⟩
    have hc := (hr5.blk 0 rfl).cell
    have hfz := (hr5.blk 0 rfl).frozen
    have Hr' := Lib.hid hr5
    clear Hr
    have Hr := Hr'
    clear Hr'
    clear hr5 e1 e2 e3
    refine gt ?_
    refine KT.store1 Hr.out 0 0 rfl (by decide) rfl rfl rfl rfl rfl (by go_simp; first | done | rfl) ?_
    clear hc hfz
    intro w6 e6 hr6
    refine ⟨fun h => absurd (by decide) h, ?_⟩
    have Hr6 := Lib.hid hr6
    clear hr6 e6
    refine gt ?_
    refine gg ?_
    refine KE.rnd2 (k + 1, (A5, c5), xs ++ [bP gm]) (by repeat' (first | exact trivial | refine ⟨rfl, ?_⟩)) ⟨hlt, Hr6.out⟩ (by show 2 - (k + 1) < 2 - k; omega)
  · have hd : decide ((k : Int) < 2) = false := by simp; omega
    refine gg ?_
    refine KR.fin1 Tryz.results67 rfl ⟨⟨_, rfl⟩, Hr.out.kept⟩
theorem qin_yes (a b : Int) (w : World) (h1 : 1 ≤ a) (h2 : a ≤ b) : Calls Tryz.prog 149 #[.int .i64 a, .int .i64 b] w fun e w' => e = .returned (.bool true) ∧ w' = w := by
  have t1 : decide ((1 : Int) ≤ a) = true := decide_eq_true h1
  have t2 : decide (a ≤ b) = true := decide_eq_true h2
  refine calls_kn Tryz.func149 rfl Tryz.ntmps149 rfl ?_
  refine gg ?_
  refine KR.fin1 Tryz.results149 rfl ⟨rfl, rfl⟩
set_option maxHeartbeats 800000 in
theorem qc_yes (w : World) : Calls Tryz.prog 105 #[.agg #[.int .i64 2, .int .i64 4, .int .i64 100, .int .i64 5]] w fun e w' => e = .returned (.int .i64 0) ∧ Pure w w' := by
  have Hr := Lib.hid ((Run.start (F := fun _ => False) (w := w) (Ps := []) trivial).addBlk #[.int .i64 2, .int .i64 4, .int .i64 100, .int .i64 5] 44)
  refine calls_kn Tryz.func105 rfl Tryz.ntmps105 rfl ?_
  refine gg ?_
  refine KL.makes (v := .pointer (some ⟨World.heap w |>.size, 0, none⟩)) rfl rfl rfl (fun ρ hρ => by have e := hρ (.tmp 0) _ rfl; simp only [execOp, e]; go_simp; first | done | rfl) ?_
  generalize w.alloc _ = w1 at *
  generalize w.heap.size = g1 at *
  have hcl := (Hr.out.blk 0 rfl).cell
  refine gg ?_
  refine KL.call rfl rfl rfl rfl rfl (by go_simp) (qin_yes 2 8 _ (by decide) (by decide)) ?_
  rintro e w2 ⟨rfl, e2⟩
  obtain rfl := e2.symm
  clear e2
  refine ⟨_, rfl, ?_⟩
  refine gg ?_
  refine KL.call rfl rfl rfl rfl rfl (by go_simp) (qin_yes 4 16 _ (by decide) (by decide)) ?_
  rintro e w2 ⟨rfl, e2⟩
  obtain rfl := e2.symm
  clear e2
  refine ⟨_, rfl, ?_⟩
  refine gg ?_
  refine KL.call rfl rfl rfl rfl rfl (by go_simp) (qin_yes 100 1048576 _ (by decide) (by decide)) ?_
  rintro e w2 ⟨rfl, e2⟩
  obtain rfl := e2.symm
  clear e2
  refine ⟨_, rfl, ?_⟩
  refine gg ?_
  refine KL.call rfl rfl rfl rfl rfl (by go_simp) (qin_yes 5 64 _ (by decide) (by decide)) ?_
  rintro e w2 ⟨rfl, e2⟩
  obtain rfl := e2.symm
  clear e2
  refine ⟨_, rfl, ?_⟩
  refine gg ?_
  refine KR.fin1 Tryz.results105 rfl ⟨rfl, Hr.out.kept⟩
abbrev cfA : Array Value := #[.int .i64 2, .int .i64 0, .int .i64 20006, .int .i64 2, .int .i64 2, .int .i64 4, .int .i64 100, .int .i64 5]
set_option maxHeartbeats 800000 in
theorem my_yes (w : World) : Calls Tryz.prog 66 #[.agg #[.int .i64 2, .int .i64 0, .int .i64 20006, .int .i64 2, .int .i64 2, .int .i64 4, .int .i64 100, .int .i64 5]] w fun e w' => e = .returned (.int .i64 0) ∧ Pure w w' := by
  have Hr := Lib.hid ((Run.start (F := fun _ => False) (w := w) (Ps := []) trivial).addBlk #[.int .i64 2, .int .i64 0, .int .i64 20006, .int .i64 2, .int .i64 2, .int .i64 4, .int .i64 100, .int .i64 5] 46)
  refine calls_kn Tryz.func66 rfl Tryz.ntmps66 rfl ?_
  refine gg ?_
  refine KL.makes (v := .pointer (some ⟨World.heap w |>.size, 0, none⟩)) rfl rfl rfl (fun ρ hρ => by have e := hρ (.tmp 0) _ rfl; simp only [execOp, e]; go_simp; first | done | rfl) ?_
  generalize w.alloc _ = w1 at *
  generalize w.heap.size = g1 at *
  have hcl := (Hr.out.blk 0 rfl).cell
  refine gg ?_

  refine KL.call rfl rfl rfl rfl rfl (by go_simp) (qc_yes w1) ?_
  rintro e w2 ⟨rfl, hk⟩
  refine ⟨_, rfl, ?_⟩
  have Hk := Lib.hid (Hr.out.pure hk).kept
  clear hk
  refine gg ?_
  refine KR.fin1 Tryz.results66 rfl ⟨rfl, Hk.out⟩
end Go.Proofs.YtiddhcabpmkolaaGreatDoor
set_option linter.unusedSimpArgs false
set_option linter.unusedVariables false
namespace Go.Proofs.YtiddhcabpmkolaaGreatDoor
open Go.RowKit
set_option maxRecDepth 100000
open Go
abbrev cfV : Value := .agg #[.int .i64 2, .int .i64 0, .int .i64 20006, .int .i64 2, .int .i64 2, .int .i64 4, .int .i64 100, .int .i64 5]
set_option maxHeartbeats 1600000 in
theorem co_newp (w : World) : Calls Tryz.prog 44 #[.agg #[.int .i64 2, .int .i64 0, .int .i64 20006, .int .i64 2, .int .i64 2, .int .i64 4, .int .i64 100, .int .i64 5]] w fun e w' => (∃ g, e = .returned (.tuple #[bP g, .int .i64 0])) ∧ Pure w w' := by
  have Hr := Lib.hid ((Run.start (F := fun _ => False) (w := w) (Ps := []) trivial).addBlk #[.int .i64 2, .int .i64 0, .int .i64 20006, .int .i64 2, .int .i64 2, .int .i64 4, .int .i64 100, .int .i64 5] 46)
  refine calls_kn Tryz.func44 rfl Tryz.ntmps44 rfl ?_
  refine gg ?_
  refine KL.makes (v := .pointer (some ⟨World.heap w |>.size, 0, none⟩)) rfl rfl rfl (fun ρ hρ => by have e := hρ (.tmp 0) _ rfl; simp only [execOp, e]; go_simp; first | done | rfl) ?_
  generalize w.alloc _ = w1 at *
  generalize w.heap.size = g1 at *
  have hcl := (Hr.out.blk 0 rfl).cell
  refine gg ?_
  refine KL.call rfl rfl rfl rfl rfl (by go_simp) (my_yes w1) ?_
  rintro e w2 ⟨rfl, hk⟩
  refine ⟨_, rfl, ?_⟩
  have Hr' := Lib.hid (Hr.out.pure hk)
  clear Hr
  have Hr := Hr'
  clear Hr'
  clear hk hcl
  refine gg ?_
  refine KW.regionT (fun y => Blk y g1 46 #[.int .i64 2, .int .i64 0, .int .i64 20006, .int .i64 2, .int .i64 2, .int .i64 4, .int .i64 100, .int .i64 5]) [5, 6, 7, 8, 10] [0, 1, 2, 3, 4] [] (by kernel_rfl) (by kernel_rfl) (by kernel_rfl) (by kernel_rfl) (Hr.out.drew.blk 0 rfl) ?_
  have Hr' := Lib.hid Hr.out.drew
  clear Hr
  have Hr := Hr'
  clear Hr'
  generalize w2.drew = w3 at *
  refine gt ?_
  refine KT.call (by decide) rfl rfl rfl rfl rfl (by go_simp) (rg_new2 w3) ?_
  rintro e w4 ⟨⟨g4, rfl⟩, hk⟩
  have Hr' := Lib.hid (Hr.out.pure hk)
  clear Hr
  have Hr := Hr'
  clear Hr'
  refine ⟨_, rfl, fun _ => Hr.out.blk 0 rfl, ?_⟩
  clear hk
  refine gt ?_
  refine KT.call (by decide) rfl rfl rfl rfl rfl (by go_simp) (mb_new w4) ?_
  rintro e w5 ⟨⟨g5, rfl⟩, hk⟩
  have Hr' := Lib.hid (Hr.out.pure hk)
  clear Hr
  have Hr := Hr'
  clear Hr'
  refine ⟨_, rfl, fun _ => Hr.out.blk 0 rfl, ?_⟩
  clear hk
  refine gt ?_
  refine KT.call (by decide) rfl rfl rfl rfl rfl (by go_simp) (hb_new w5) ?_
  rintro e w6 ⟨⟨g6, rfl⟩, hk⟩
  have Hr' := Lib.hid (Hr.out.pure hk)
  clear Hr
  have Hr := Hr'
  clear Hr'
  refine ⟨_, rfl, fun _ => Hr.out.blk 0 rfl, ?_⟩
  clear hk
  refine gt ?_
  refine KT.call (by decide) rfl rfl rfl rfl rfl (by go_simp) (ck_new w6) ?_
  rintro e w7 ⟨⟨g7, rfl⟩, hk⟩
  have Hr' := Lib.hid (Hr.out.pure hk)
  clear Hr
  have Hr := Hr'
  clear Hr'
  refine ⟨_, rfl, fun _ => Hr.out.blk 0 rfl, ?_⟩
  clear hk
  refine gt ?_
  refine tp (v := .agg #[.int .i64 2, .int .i64 0, .int .i64 20006, .int .i64 2, .int .i64 2, .int .i64 4, .int .i64 100, .int .i64 5, .int .i64 0, .slice none 0 0, bP g4, bP g5, bP g6, bP g7]) ?_ ⟨fun ρ hρ => by have e0 := hρ (.tmp 10) _ rfl; have e1 := hρ (.tmp 12) _ rfl; have e2 := hρ (.tmp 15) _ rfl; have e3 := hρ (.tmp 16) _ rfl; have e4 := hρ (.tmp 17) _ rfl; have e5 := hρ (.tmp 18) _ rfl; simp only [execOp]; go_simp; first | done | rfl⟩
  refine KT.makes (v := bP w7.heap.size) (w' := w7.alloc (.cells #[.int .i64 2, .int .i64 0, .int .i64 20006, .int .i64 2, .int .i64 2, .int .i64 4, .int .i64 100, .int .i64 5, .int .i64 0, .slice none 0 0, bP g4, bP g5, bP g6, bP g7] 137)) (by decide) rfl rfl rfl (fun ρ hρ => by have e := hρ (.tmp 19) _ rfl; simp only [execOp, e]; go_simp; first | done | rfl) (fun _ => (Hr.out.alloc _).blk 0 rfl) ?_
  refine gt ?_
  refine gg ?_
  refine KR.fin2 Tryz.results44 rfl rfl ⟨⟨_, rfl⟩, (Hr.out.alloc _).kept⟩
/-- A server: its connections, what it knows. -/
def svA (gc : Nat) (A : Option Addr) (n c : Nat) : Array Value := #[.int .i64 2, .int .i64 0, .int .i64 20006, .int .i64 2, .int .i64 2, .int .i64 4, .int .i64 100, .int .i64 5, bP gc, .slice A n c, .slice none 0 0, .bool false]
set_option maxHeartbeats 1600000 in
theorem sv_new (w : World) : Calls Tryz.prog 24 #[.agg #[.int .i64 2, .int .i64 0, .int .i64 20006, .int .i64 2, .int .i64 2, .int .i64 4, .int .i64 100, .int .i64 5]] w fun e w' => ∃ g gc, e = .returned (.tuple #[bP g, .int .i64 0]) ∧ (blkC g 88 (svA gc none 0 0)).p w' (fun b => w.heap.size ≤ b) ∧ Pure w w' := by
  have Hr := Lib.hid ((Run.start (F := fun _ => False) (w := w) (Ps := []) trivial).addBlk #[.int .i64 2, .int .i64 0, .int .i64 20006, .int .i64 2, .int .i64 2, .int .i64 4, .int .i64 100, .int .i64 5] 46)
  refine calls_kn Tryz.func24 rfl Tryz.ntmps24 rfl ?_
  refine gg ?_
  refine KL.makes (v := .pointer (some ⟨World.heap w |>.size, 0, none⟩)) rfl rfl rfl (fun ρ hρ => by have e := hρ (.tmp 0) _ rfl; simp only [execOp, e]; go_simp; first | done | rfl) ?_
  generalize w.alloc _ = w1 at *
  generalize hg1 : w.heap.size = g1 at *
  have hcl := (Hr.out.blk 0 rfl).cell
  refine gg ?_
  refine KL.call rfl rfl rfl rfl rfl (by go_simp) (co_newp w1) ?_
  rintro e w2 ⟨⟨gc, rfl⟩, hk⟩
  refine ⟨_, rfl, ?_⟩
  have Hr' := Lib.hid (Hr.out.pure hk)
  clear Hr
  have Hr := Hr'
  clear Hr'
  clear hk hcl
  have hcl := (Hr.out.blk 0 rfl).cell
  refine gg ?_
  refine KL.told (v := .agg #[.int .i64 2, .int .i64 0, .int .i64 20006, .int .i64 2, .int .i64 2, .int .i64 4, .int .i64 100, .int .i64 5, bP gc, .slice none 0 0, .slice none 0 0, .bool false]) rfl rfl rfl (fun ρ hρ => by have e := hρ (.tmp 14) _ rfl; have e' := hρ (.tmp 15) _ rfl; simp only [execOp]; go_simp; first | done | rfl) ?_
  refine gg ?_
  refine KL.makes (v := .pointer (some ⟨World.heap w2 |>.size, 0, none⟩)) rfl rfl rfl (fun ρ hρ => by have e := hρ (.tmp 16) _ rfl; simp only [execOp, e]; go_simp; first | done | rfl) ?_
  have Hr2 := Lib.hid (Hr.out.addBlk (svA gc none 0 0) 88)
  refine gg ?_
  refine KR.fin2 Tryz.results24 rfl rfl ⟨_, gc, rfl, ?_, Hr2.out.kept⟩
  have h := Hr2.out.get (P := blkC w2.heap.size 88 (svA gc none 0 0)) 0 rfl
  exact Ch.imp _ h (fun b _ h => h.elim (fun h => h.elim) (fun h => by omega))
end Go.Proofs.YtiddhcabpmkolaaGreatDoor
set_option linter.unusedSimpArgs false
set_option linter.unusedVariables false
namespace Go.Proofs.YtiddhcabpmkolaaGreatDoor
open Go.RowKit
set_option maxRecDepth 100000
open Go
/-- A connection that is Idle. -/
def cnA (gs gp : Nat) : Array Value := #[.int .i64 1, bP gs, bP gp, .pointer none, .int .i64 0, .int .i64 0, .int .i64 0, .int .i64 0, .string ⟨#[]⟩, .string ⟨#[]⟩, .string ⟨#[]⟩, .string ⟨#[]⟩, .int .i64 0, .int .i64 0, .slice none 0 0, .int .i64 0, .int .i64 0, .int .i64 0, .int .i64 0, .string ⟨#[]⟩, .int .i64 0, .int .i64 0, .int .i64 0, .int .i64 0, .string ⟨#[]⟩, .int .i64 0, .bool false, .slice none 0 0, .bool false]
def ssA (gp : Nat) : Array Value := #[bP gp, .string ⟨#[]⟩, .int .i64 0, .bool false]
def ppA : Array Value := #[.int .i64 20006, .string ⟨#[]⟩, .bool false]
theorem info_pc : (Tryz.prog.info? 89).map (fun i => (i.zero, i.size, i.bytes)) = some (some (.pointer none), 1, 8) := by kernel_rfl
/-- A server with one connection. -/
def svL (gS gc : Nat) (A : Option Addr) (c gn gs gi gp : Nat) : List Ch := [blkC gS 88 (svA gc A 1 c), ownC 89 1 (.slice A 1 c) 1 [bP gn], blkC gn 105 (cnA gs gp), blkC gp 139 ppA, blkC gs 180 (ssA gi), blkC gi 139 ppA]
set_option maxHeartbeats 3200000 in
theorem sv_open {w w₀ : World} {F : Nat → Prop} {gS gc : Nat} (hr : Run w₀ F w [blkC gS 88 (svA gc none 0 0)]) :
    Calls Tryz.prog 47 #[bP gS] w fun e w' => e = .returned (.tuple #[.int .i64 0, .int .i64 0]) ∧ ∃ A c gn gs gi gp, Run w₀ F w' (svL gS gc A c gn gs gi gp) := by
  have Hr := Lib.hid ((hr.addNil 89 1).perm (List.perm_append_comm (l₁ := [_]) (l₂ := [_])))
  have hcl := (hr.blk 0 rfl).cell
  unfold svA at hcl
  have hd0 : decide ((0 : Int) < 0) = false := rfl
  clear hr
  refine calls_kn Tryz.func47 rfl Tryz.ntmps47 rfl ?_
  refine gg ?_
  refine KW.unroll 0 ?_
  refine gg ?_
  clear hcl
  refine KW.regionT (fun y => Blk y gS 88 (svA gc none 0 0)) [10, 16, 18, 19, 20, 23] [0, 1, 2, 3, 4, 11, 12, 13, 14, 15] [23] (by kernel_rfl) (by kernel_rfl) (by kernel_rfl) (by kernel_rfl) (Hr.out.drew.blk 0 rfl) ?_
  have Hr' := Lib.hid Hr.out.drew
  clear Hr
  have Hr := Hr'
  clear Hr'
  generalize w.drew = w1 at *
  have hcl := (Hr.out.blk 0 rfl).cell
  unfold svA at hcl
  refine gt ?_
  refine KT.call (by decide) rfl rfl rfl rfl rfl (by go_simp) (ss_new w1) ?_
  rintro e w2 ⟨rfl, hw2⟩
  have hrs : Run w₀ F w2 [blkC (w1.heap.size + 1) 180 (ssA w1.heap.size), blkC w1.heap.size 139 ppA, blkC gS 88 (svA gc none 0 0), ownC 89 1 (.slice none 0 0) 0 []] := by
    rw [hw2]
    have h1 := Hr.out.addBlk ppA 139
    have h2 := h1.addBlk (ssA w1.heap.size) 180
    have e : (w1.alloc (.cells ppA 139)).heap.size = w1.heap.size + 1 := by simp
    rw [e] at h2
    exact h2
  have Hr' := Lib.hid hrs
  clear Hr
  have Hr := Hr'
  clear Hr'
  clear hw2 hrs hcl
  generalize w1.heap.size + 1 = gs at *
  generalize w1.heap.size = gi at *
  refine ⟨_, rfl, fun _ => Hr.out.blk 2 rfl, ?_⟩
  refine gt ?_
  refine KT.call (by decide) rfl rfl rfl rfl rfl (by go_simp) (pp_new w2) ?_
  rintro e w3 ⟨rfl, hw3⟩
  have hrp : Run w₀ F w3 [blkC w2.heap.size 139 ppA, blkC gs 180 (ssA gi), blkC gi 139 ppA, blkC gS 88 (svA gc none 0 0), ownC 89 1 (.slice none 0 0) 0 []] := by
    rw [hw3]
    exact Hr.out.addBlk ppA 139
  have Hr' := Lib.hid hrp
  clear Hr
  have Hr := Hr'
  clear Hr'
  clear hw3 hrp
  generalize w2.heap.size = gp at *
  refine ⟨_, rfl, fun _ => Hr.out.blk 3 rfl, ?_⟩
  refine tp (v := .agg (cnA gs gp)) ?_ ⟨fun ρ hρ => by have e0 := hρ (.tmp 45) _ rfl; have e1 := hρ (.tmp 51) _ rfl; have e2 := hρ (.const (.int .i64 1)) _ rfl; unfold cnA; simp only [execOp]; go_simp; first | done | rfl⟩
  refine KT.makes (v := bP w3.heap.size) (w' := w3.alloc (.cells (cnA gs gp) 105)) (by decide) rfl rfl rfl (fun ρ hρ => by have e := hρ (.tmp 52) _ rfl; simp only [execOp, e]; go_simp; first | done | rfl) (fun _ => (Hr.out.alloc _).blk 3 rfl) ?_
  have Hr' := Lib.hid (Hr.out.addBlk (cnA gs gp) 105)
  clear Hr
  have Hr := Hr'
  clear Hr'
  generalize w3.alloc _ = w4 at *
  generalize w3.heap.size = gn at *
  refine KT.makes (v := .slice (some ⟨w4.heap.size, 0, none⟩) 1 1) (w' := w4.alloc (.cells #[bP gn] 89)) (by decide) rfl rfl rfl (fun ρ hρ => by have e := hρ (.tmp 53) _ rfl; simp only [execOp]; go_simp; first | done | rfl) (fun _ => ((Hr.out.alloc _).blk 4 rfl)) ?_
  have hsl := Sl.lit w4 #[bP gn] 89 1 1 [bP gn] rfl rfl
  refine gt ?_
  refine KT.app (Hr.out.alloc (.cells #[bP gn] 89)) 5 rfl Tryz.underlying86 info_pc rfl (by omega) hsl (by intro u hu; rw [List.mem_singleton.1 hu]; rfl) (by omega) (by omega) (by decide) rfl rfl rfl rfl rfl rfl ?_
  clear hsl
  intro A5 c5 w5 e1 e2 e3 hr5
  refine ⟨fun _ => hr5.blk 4 rfl, ?_⟩
  have hc := (hr5.blk 4 rfl).cell
  have hfz := (hr5.blk 4 rfl).frozen
  unfold svA at hc hfz
  have Hr' := Lib.hid hr5
  clear Hr
  have Hr := Hr'
  clear Hr'
  clear hr5 e1 e2 e3
  refine gt ?_
  refine KT.store1 Hr.out 4 9 rfl (by decide) rfl rfl rfl rfl rfl (by go_simp; first | done | rfl) ?_
  clear hc hfz
  intro w6 e6 hr6
  refine ⟨fun h => absurd (by decide) h, ?_⟩
  have Hr6 := Lib.hid hr6
  have hc := (hr6.blk 4 rfl).cell
  unfold svA at hc
  clear hr6 e6
  refine gt ?_
  refine gg ?_
  refine KR.fin2 Tryz.results47 rfl rfl ⟨rfl, A5, c5, gn, gs, gi, gp, ?_⟩
  exact Hr6.out.perm (List.perm_append_comm (l₁ := [_, _, _, _]) (l₂ := [_, _]))
end Go.Proofs.YtiddhcabpmkolaaGreatDoor
set_option linter.unusedSimpArgs false
set_option linter.unusedVariables false
namespace Go.Proofs.YtiddhcabpmkolaaGreatDoor
open Go.RowKit
set_option maxRecDepth 100000
open Go
section
variable {P : Program} {n : Nat} {k : Kn} {w : World}
theorem KR.finCTT {fn : Func} {R : Ending → World → Prop} {p q r : Nat} {ty : TypeId} {g : Nat} {t : TypeId} {cs : Array Value} {td : TypeDesc} {u v : Value} (hf : fn.results = #[.cell p ty, .tmp q, .tmp r]) (hl : k.lookup p = some (.pointer (some ⟨g, 0, none⟩))) (hq : k.lookup q = some u) (hr : k.lookup r = some v) (hb : Blk w g t cs) (hu : P.underlying ty = some td)
    (htd : (match td with | .struct _ | .array _ _ => true | _ => false) = true) (hi : (P.info? ty).map (·.size) = some cs.size) (hR : R (.returned (.tuple #[.agg cs, u, v])) w) : KR n (bodyPost P fn R) k w :=
  KR.fin (fun a ha => by
    have hp : a.tmps[p]?.getD undef = .pointer (some ⟨g, 0, none⟩) := by simpa using ha.getD hl
    have h1 : a.tmps[q]?.getD undef = u := by simpa using ha.getD hq
    have h2 : a.tmps[r]?.getD undef = v := by simpa using ha.getD hr
    simp [results, hf, hp, h1, h2, asAddr, loadVar_blk hb hu htd hi]) hR
theorem KR.finTCTT {fn : Func} {R : Ending → World → Prop} {s p q r : Nat} {ty : TypeId} {g : Nat} {t : TypeId} {cs : Array Value} {td : TypeDesc} {x u v : Value} (hf : fn.results = #[.tmp s, .cell p ty, .tmp q, .tmp r]) (hs : k.lookup s = some x) (hl : k.lookup p = some (.pointer (some ⟨g, 0, none⟩))) (hq : k.lookup q = some u) (hr : k.lookup r = some v) (hb : Blk w g t cs) (hu : P.underlying ty = some td)
    (htd : (match td with | .struct _ | .array _ _ => true | _ => false) = true) (hi : (P.info? ty).map (·.size) = some cs.size) (hR : R (.returned (.tuple #[x, .agg cs, u, v])) w) : KR n (bodyPost P fn R) k w :=
  KR.fin (fun a ha => by
    have hp : a.tmps[p]?.getD undef = .pointer (some ⟨g, 0, none⟩) := by simpa using ha.getD hl
    have h0 : a.tmps[s]?.getD undef = x := by simpa using ha.getD hs
    have h1 : a.tmps[q]?.getD undef = u := by simpa using ha.getD hq
    have h2 : a.tmps[r]?.getD undef = v := by simpa using ha.getD hr
    simp [results, hf, hp, h0, h1, h2, asAddr, loadVar_blk hb hu htd hi]) hR
end
set_option maxHeartbeats 1600000 in
theorem fr_short (A : Option Addr) (c : Nat) (w : World) : Calls Tryz.prog 150 #[.slice A 0 c] w fun e w' => e = .returned (.tuple #[.agg #[.int .i64 0, .string ⟨#[]⟩], .int .i64 0, .int .i64 14]) ∧ Pure w w' := by
  have Hr := Lib.hid ((Run.start (F := fun _ => False) (w := w) (Ps := []) trivial).addBlk #[.int .i64 0, .string ⟨#[]⟩] 159)
  refine calls_kn Tryz.func150 rfl Tryz.ntmps150 rfl ?_
  refine gg ?_
  refine KL.makes (v := .pointer (some ⟨World.heap w |>.size, 0, none⟩)) rfl rfl rfl (fun ρ hρ => by simp only [execOp]; go_simp; first | done | rfl) ?_
  generalize w.alloc _ = w1 at *
  generalize w.heap.size = g1 at *
  refine gg ?_
  refine KL.told (v := .agg #[.int .i64 0, .string ⟨#[]⟩]) rfl rfl rfl (fun ρ hρ => by skip; simp only [execOp]; go_simp; first | done | rfl) ?_
  refine KL.storeB rfl rfl rfl rfl rfl (Hr.out.blk 0 rfl) rfl (by kernel_rfl) (by kernel_rfl) ?_
  intro w2 hb hk
  have Hr' := Lib.hid (Hr.out.turn 0 rfl hb hk)
  clear Hr
  have Hr := Hr'
  clear Hr'
  clear hb hk
  refine gg ?_
  refine KR.finCTT Tryz.results150 rfl rfl rfl (Hr.out.blk 0 rfl) Tryz.underlying159 rfl (by kernel_rfl) ⟨rfl, Hr.out.kept⟩
theorem pp_look (g : Nat) (w : World) (h : Blk w g 139 ppA) : Calls Tryz.prog 151 #[bP g] w fun e w' => e = .returned (.string ⟨#[]⟩) ∧ w' = w := by
  have hcl := h.cell
  unfold ppA at hcl
  refine calls_kn Tryz.func151 rfl Tryz.ntmps151 rfl ?_
  refine gg ?_
  refine KR.fin1 Tryz.results151 rfl ⟨rfl, rfl⟩
theorem pp_closed (g : Nat) (w : World) (h : Blk w g 139 ppA) : Calls Tryz.prog 152 #[bP g] w fun e w' => e = .returned (.bool false) ∧ w' = w := by
  have hcl := h.cell
  unfold ppA at hcl
  refine calls_kn Tryz.func152 rfl Tryz.ntmps152 rfl ?_
  refine gg ?_
  refine KR.fin1 Tryz.results152 rfl ⟨rfl, rfl⟩
set_option maxHeartbeats 1600000 in
theorem ss_look (gs gi : Nat) (w : World) (hs : Blk w gs 180 (ssA gi)) (hi : Blk w gi 139 ppA) : Calls Tryz.prog 109 #[bP gs] w fun e w' => e = .returned (.tuple #[.int .i64 0, .agg #[.int .i64 0, .string ⟨#[]⟩], .int .i64 0, .int .i64 0]) ∧ Pure w w' := by
  have Hr := Lib.hid ((Run.start (F := fun _ => False) (w := w) (Ps := []) trivial).addBlk #[.int .i64 0, .string ⟨#[]⟩] 159)
  have Hs := Lib.hid hs
  have Hi := Lib.hid hi
  clear hs hi
  refine calls_kn Tryz.func109 rfl Tryz.ntmps109 rfl ?_
  refine gg ?_
  refine KL.makes (v := .pointer (some ⟨World.heap w |>.size, 0, none⟩)) rfl rfl rfl (fun ρ hρ => by simp only [execOp]; go_simp; first | done | rfl) ?_
  generalize w.alloc _ = w1 at *
  generalize w.heap.size = g1 at *
  have hcl := (Hs.out.kept (S := fun _ => False) Hr.out.kept (fun h => h)).cell
  unfold ssA at hcl
  refine gg ?_
  refine KL.call rfl rfl rfl rfl rfl (by go_simp) (pp_look gi w1 (Hi.out.kept (S := fun _ => False) Hr.out.kept (fun h => h))) ?_
  rintro e w2 ⟨rfl, e2⟩
  obtain rfl := e2.symm
  clear e2
  refine ⟨_, rfl, ?_⟩
  refine gg ?_
  have hcv := Lib.run_convert_string_bytes (P := Tryz.prog) w1 9 50 5 ⟨#[]⟩ (u := .string) Tryz.underlying9 Tryz.underlying50 Tryz.underlying5
  have hpk : Pure w1 (Lib.bytesWorld w1 5 ⟨#[]⟩) := Pure.of_below (Lib.bytesWorld_below _ _ _)
  have Hcv := Lib.hid hcv
  refine KL.makes (w' := Lib.bytesWorld w1 5 ⟨#[]⟩) rfl rfl rfl (fun ρ hρ => by have e := hρ (.tmp 16) _ rfl; simp only [execOp, e, Sem.run_bind, Hcv.out, Result.andThen_ok]; rfl) ?_
  have Hr' := Lib.hid (Hr.out.pure hpk)
  clear Hr
  have Hr := Hr'
  clear Hr'
  clear hpk hcv Hcv hcl
  generalize Lib.bytesWorld w1 _ _ = w3 at *
  refine gg ?_
  refine KL.call rfl rfl rfl rfl rfl (by go_simp) (fr_short _ _ w3) ?_
  rintro e w4 ⟨rfl, hk4⟩
  refine ⟨_, rfl, ?_⟩
  have Hr' := Lib.hid (Hr.out.pure hk4)
  clear Hr
  have Hr := Hr'
  clear Hr'
  clear hk4
  refine gg ?_
  refine KL.storeB rfl rfl rfl rfl rfl (Hr.out.blk 0 rfl) rfl (by kernel_rfl) (by kernel_rfl) ?_
  intro w5 hb hk
  have Hr' := Lib.hid (Hr.out.turn 0 rfl hb hk)
  clear Hr
  have Hr := Hr'
  clear Hr'
  clear hb hk
  have hcl := (Hs.out.kept (S := fun _ => False) Hr.out.kept (fun h => h)).cell
  unfold ssA at hcl
  refine gg ?_
  refine KL.call rfl rfl rfl rfl rfl (by go_simp) (pp_closed gi w5 (Hi.out.kept (S := fun _ => False) Hr.out.kept (fun h => h))) ?_
  rintro e w6 ⟨rfl, e2⟩
  obtain rfl := e2.symm
  clear e2
  refine ⟨_, rfl, ?_⟩
  refine gg ?_
  refine KL.told (v := .agg #[.int .i64 0, .string ⟨#[]⟩]) rfl rfl rfl (fun ρ hρ => by skip; simp only [execOp]; go_simp; first | done | rfl) ?_
  refine gg ?_
  refine KL.storeB rfl rfl rfl rfl rfl (Hr.out.blk 0 rfl) rfl (by kernel_rfl) (by kernel_rfl) ?_
  intro w7 hb hk
  have Hr' := Lib.hid (Hr.out.turn 0 rfl hb hk)
  clear Hr
  have Hr := Hr'
  clear Hr'
  clear hb hk hcl
  refine gg ?_
  refine KR.finTCTT Tryz.results109 rfl rfl rfl rfl (Hr.out.blk 0 rfl) Tryz.underlying159 rfl (by kernel_rfl) ⟨rfl, Hr.out.kept⟩
end Go.Proofs.YtiddhcabpmkolaaGreatDoor
set_option linter.unusedSimpArgs false
set_option linter.unusedVariables false
namespace Go.Proofs.YtiddhcabpmkolaaGreatDoor
open Go.RowKit
set_option maxRecDepth 100000
open Go
/-- A server with one connection that is Idle and has no bytes. -/
structure Sv (gS gc : Nat) (A : Option Addr) (c gn gs gi gp : Nat) (w : World) : Prop where
  srv : Blk w gS 88 (svA gc A 1 c)
  row : Sl w (fun _ => True) 1 A 1 [bP gn]
  con : Blk w gn 105 (cnA gs gp)
  ses : Blk w gs 180 (ssA gi)
  inp : Blk w gi 139 ppA
section
variable {gS gc : Nat} {A : Option Addr} {c gn gs gi gp : Nat} {w w' : World}
theorem Sv.kept (h : Sv gS gc A c gn gs gi gp w) (hk : Pure w w') : Sv gS gc A c gn gs gi gp w' :=
  ⟨h.srv.kept (S := fun _ => False) hk (fun h => h), h.row.kept (S := fun _ => False) hk (fun _ _ _ h => h), h.con.kept (S := fun _ => False) hk (fun h => h), h.ses.kept (S := fun _ => False) hk (fun h => h), h.inp.kept (S := fun _ => False) hk (fun h => h)⟩
theorem Sv.of {w₀ : World} {F : Nat → Prop} (hr : Run w₀ F w (svL gS gc A c gn gs gi gp)) : Sv gS gc A c gn gs gi gp w :=
  ⟨hr.blk 0 rfl, (hr.own 1 rfl).sl.imp (fun _ _ _ => trivial), hr.blk 2 rfl, hr.blk 4 rfl, hr.blk 5 rfl⟩
theorem Sv.cell (h : Sv gS gc A c gn gs gi gp w) : ∃ b o, A = some ⟨b, o, none⟩ ∧ w.cell? ⟨b, o, none⟩ = some (bP gn) := by
  obtain ⟨b, o, hA, _, _, hc⟩ := h.row.2 (by omega)
  exact ⟨b, o, hA, hc 0 (by simp)⟩
set_option maxHeartbeats 800000 in
theorem ss_ready (h : Sv gS gc A c gn gs gi gp w) : Calls Tryz.prog 77 #[bP gs] w fun e w' => e = .returned (.bool false) ∧ Pure w w' := by
  have HL := Lib.hid (ss_look gs gi w h.ses h.inp)
  clear h
  refine calls_kn Tryz.func77 rfl Tryz.ntmps77 rfl ?_
  refine gg ?_
  refine KL.call rfl rfl rfl rfl rfl (by go_simp) HL.out ?_
  rintro e w1 ⟨rfl, hk⟩
  refine ⟨_, rfl, ?_⟩
  have Hr := Lib.hid (((Run.start (F := fun _ => False) (w := w) (Ps := []) trivial).pure hk).addBlk #[.int .i64 0, .string ⟨#[]⟩] 159)
  clear hk HL
  refine gg ?_
  refine KL.makes (v := .pointer (some ⟨World.heap w1 |>.size, 0, none⟩)) rfl rfl rfl (fun ρ hρ => by simp only [execOp]; go_simp; first | done | rfl) ?_
  generalize w1.alloc _ = w2 at *
  generalize w1.heap.size = g2 at *
  refine gg ?_
  refine KL.storeB rfl rfl rfl rfl rfl (Hr.out.blk 0 rfl) rfl (by kernel_rfl) (by kernel_rfl) ?_
  intro w3 hb hk
  have Hr' := Lib.hid (Hr.out.turn 0 rfl hb hk)
  clear Hr
  have Hr := Hr'
  clear Hr'
  clear hb hk
  refine gg ?_
  refine KR.fin1 Tryz.results77 rfl ⟨rfl, Hr.out.kept⟩
set_option maxHeartbeats 800000 in
theorem sv_at (h : Sv gS gc A c gn gs gi gp w) : Calls Tryz.prog 45 #[bP gS, .int .i64 0] w fun e w' => e = .returned (bP gn) ∧ w' = w := by
  obtain ⟨b, o, hA, hx⟩ := h.cell
  have hcl := h.srv.cell
  unfold svA at hcl
  subst hA
  clear h
  refine calls_kn Tryz.func45 rfl Tryz.ntmps45 rfl ?_
  refine gg ?_
  refine KR.fin1 Tryz.results45 rfl ⟨rfl, rfl⟩
set_option maxHeartbeats 800000 in
theorem sv_state (h : Sv gS gc A c gn gs gi gp w) : Calls Tryz.prog 29 #[bP gS, .int .i64 0] w fun e w' => e = .returned (.int .i64 1) ∧ w' = w := by
  have H := Lib.hid h
  clear h
  refine calls_kn Tryz.func29 rfl Tryz.ntmps29 rfl ?_
  refine gg ?_
  refine KL.call rfl rfl rfl rfl rfl (by go_simp) (sv_at H.out) ?_
  rintro e w1 ⟨rfl, e2⟩
  obtain rfl := e2.symm
  clear e2
  refine ⟨_, rfl, ?_⟩
  have hcn := H.out.con.cell
  unfold cnA at hcn
  refine gg ?_
  refine kp ?_ (oQ (v := .bool false))
  refine gg ?_
  refine KR.fin1 Tryz.results29 rfl ⟨rfl, rfl⟩
set_option maxHeartbeats 800000 in
theorem sv_can (h : Sv gS gc A c gn gs gi gp w) : Calls Tryz.prog 52 #[bP gS, .int .i64 0] w fun e w' => e = .returned (.bool false) ∧ Pure w w' := by
  have H := Lib.hid h
  have hcl := h.srv.cell
  unfold svA at hcl
  clear h
  refine calls_kn Tryz.func52 rfl Tryz.ntmps52 rfl ?_
  refine gg ?_
  refine KL.call rfl rfl rfl rfl rfl (by go_simp) (sv_at H.out) ?_
  rintro e w1 ⟨rfl, e2⟩
  obtain rfl := e2.symm
  clear e2
  refine ⟨_, rfl, ?_⟩
  have hcn := H.out.con.cell
  unfold cnA at hcn
  refine gg ?_
  refine kp ?_ (oQ (v := .bool false))
  refine gg ?_
  refine KL.call rfl rfl rfl rfl rfl (by go_simp) (ss_ready H.out) ?_
  rintro e w2 ⟨rfl, hk⟩
  have Hk := Lib.hid hk
  clear hk hcl hcn
  refine ⟨_, rfl, ?_⟩
  refine gg ?_
  refine KR.fin1 Tryz.results52 rfl ⟨rfl, Hk.out⟩
set_option maxHeartbeats 800000 in
theorem sv_pick (h : Sv gS gc A c gn gs gi gp w) : Calls Tryz.prog 28 #[bP gS, .int .i64 0] w fun e w' => e = .returned (.bool false) ∧ Pure w w' := by
  have H := Lib.hid h
  clear h
  refine calls_kn Tryz.func28 rfl Tryz.ntmps28 rfl ?_
  refine gg ?_
  refine KL.call rfl rfl rfl rfl rfl (by go_simp) (sv_can H.out) ?_
  rintro e w2 ⟨rfl, hk⟩
  have Hk := Lib.hid hk
  clear hk
  refine ⟨_, rfl, ?_⟩
  refine gg ?_
  refine KR.fin1 Tryz.results28 rfl ⟨rfl, Hk.out⟩
set_option maxHeartbeats 800000 in
theorem sv_events (h : Sv gS gc A c gn gs gi gp w) : Calls Tryz.prog 30 #[bP gS] w fun e w' => e = .returned (.slice none 0 0) ∧ w' = w := by
  have hcl := h.srv.cell
  unfold svA at hcl
  have hd0 : decide ((0 : Int) < 0) = false := rfl
  clear h
  refine calls_kn Tryz.func30 rfl Tryz.ntmps30 rfl ?_
  refine gg ?_
  refine KW.unroll 0 ?_
  refine gg ?_
  refine KR.fin1 Tryz.results30 rfl ⟨rfl, rfl⟩
end
set_option maxHeartbeats 800000 in
theorem sv_do1 {w w₀ : World} {F : Nat → Prop} {gS gc : Nat} (hr : Run w₀ F w [blkC gS 88 (svA gc none 0 0)]) :
    Calls Tryz.prog 27 #[bP gS, .agg #[.int .i64 1, .int .i64 0, .int .i64 0, .string ⟨#[]⟩]] w fun e w' => e = .returned (.bool true) ∧ ∃ A c gn gs gi gp, Run w₀ F w' (svL gS gc A c gn gs gi gp) := by
  have Hr := Lib.hid (hr.addBlk #[.int .i64 1, .int .i64 0, .int .i64 0, .string ⟨#[]⟩] 33)
  clear hr
  refine calls_kn Tryz.func27 rfl Tryz.ntmps27 rfl ?_
  refine gg ?_
  refine KL.makes (v := .pointer (some ⟨World.heap w |>.size, 0, none⟩)) rfl rfl rfl (fun ρ hρ => by have e := hρ (.tmp 1) _ rfl; simp only [execOp, e]; go_simp; first | done | rfl) ?_
  generalize w.alloc _ = w1 at *
  generalize w.heap.size = g1 at *
  have hcl := (Hr.out.blk 0 rfl).cell
  refine gg ?_
  refine KL.call rfl rfl rfl rfl rfl (by go_simp) (sv_open (Hr.out.drop 0)) ?_
  rintro e w2 ⟨rfl, A, c, gn, gs, gi, gp, hr2⟩
  refine ⟨_, rfl, ?_⟩
  have Hr2 := Lib.hid hr2
  clear hr2 hcl
  refine gg ?_
  refine KR.fin1 Tryz.results27 rfl ⟨rfl, A, c, gn, gs, gi, gp, Hr2.out⟩
set_option maxHeartbeats 800000 in
theorem sv_do4 {gS gc : Nat} {A : Option Addr} {c gn gs gi gp : Nat} {w : World} (h : Sv gS gc A c gn gs gi gp w) :
    Calls Tryz.prog 27 #[bP gS, .agg #[.int .i64 4, .int .i64 0, .int .i64 0, .string ⟨#[]⟩]] w fun e w' => e = .returned (.bool false) ∧ Pure w w' := by
  have Hr := Lib.hid ((Run.start (F := fun _ => False) (w := w) (Ps := []) trivial).addBlk #[.int .i64 4, .int .i64 0, .int .i64 0, .string ⟨#[]⟩] 33)
  have H := Lib.hid h
  clear h
  refine calls_kn Tryz.func27 rfl Tryz.ntmps27 rfl ?_
  refine gg ?_
  refine KL.makes (v := .pointer (some ⟨World.heap w |>.size, 0, none⟩)) rfl rfl rfl (fun ρ hρ => by have e := hρ (.tmp 1) _ rfl; simp only [execOp, e]; go_simp; first | done | rfl) ?_
  generalize w.alloc _ = w1 at *
  generalize w.heap.size = g1 at *
  have hcl := (Hr.out.blk 0 rfl).cell
  refine gg ?_
  refine KL.call rfl rfl rfl rfl rfl (by go_simp) (sv_pick (H.out.kept Hr.out.kept)) ?_
  rintro e w2 ⟨rfl, hk⟩
  refine ⟨_, rfl, ?_⟩
  have Hk := Lib.hid (Hr.out.pure hk).kept
  clear hk hcl
  refine gg ?_
  refine KR.fin1 Tryz.results27 rfl ⟨rfl, Hk.out⟩
end Go.Proofs.YtiddhcabpmkolaaGreatDoor
set_option linter.unusedSimpArgs false
set_option linter.unusedVariables false
namespace Go.Proofs.YtiddhcabpmkolaaGreatDoor
open Go.RowKit
set_option maxRecDepth 100000
open Go
/-- One piece on its own, and the way back. -/
theorem Run.sub {w₀ w : World} {F : Nat → Prop} {Ps : List Ch} {P : Ch} (hr : Run w₀ F w Ps) (i : Nat) (hi : Ps[i]? = some P) : ∃ G, Run w G w [P] ∧ ∀ w' Qs, Run w G w' Qs → Run w₀ F w' (Ps.set i (starC Qs)) := by
  obtain ⟨G, _, hP, hup⟩ := hr.at i hi
  exact ⟨G, Run.start ⟨G, fun _ h => h, hP, trivial⟩, fun w' Qs h => hup w' (starC Qs) h.star h.kept⟩
theorem Run.sv {w₀ w : World} {F : Nat → Prop} {Ps : List Ch} (hr : Run w₀ F w Ps) (i : Nat) {gS gc : Nat} {A : Option Addr} {c gn gs gi gp : Nat} (hi : Ps[i]? = some (starC (svL gS gc A c gn gs gi gp))) : Sv gS gc A c gn gs gi gp w := by
  have h := hr.get i hi
  exact Sv.of (Run.start (show Star w _ (svL gS gc A c gn gs gi gp) from h))
abbrev act1 : PAct := ⟨1, 0, 0, ⟨#[]⟩⟩
abbrev act4 : PAct := ⟨4, 0, 0, ⟨#[]⟩⟩
theorem info_bool : (Tryz.prog.info? 4).map (fun i => (i.zero, i.size, i.bytes)) = some (some (.bool false), 1, 1) := by kernel_rfl
theorem info_st : (Tryz.prog.info? 9).map (fun i => (i.zero, i.size, i.bytes)) = some (some (.string ⟨#[]⟩), 1, 16) := by kernel_rfl
theorem info_in : (Tryz.prog.info? 3).map (fun i => (i.zero, i.size, i.bytes)) = some (some (.int .i64 0), 1, 8) := by kernel_rfl
set_option maxHeartbeats 6400000 in
theorem pl_run1 (A : Option Addr) (c : Nat) (w : World) (hs : Sl w (fun _ => True) 4 A 2 (pac [act1, act4])) :
    Calls Tryz.prog 14 #[.agg #[.int .i64 2, .int .i64 0, .int .i64 20006, .int .i64 2, .int .i64 2, .int .i64 4, .int .i64 100, .int .i64 5], .slice A 2 c, .int .i64 0] w fun e w' => ∃ A1 c1 A2 c2 A3 c3, e = .returned (.tuple #[.agg #[.slice A1 1 c1, .slice A2 1 c2, .slice A3 2 c3, .slice none 0 0], .int .i64 0]) ∧ Sl w' (fun b => w.heap.size ≤ b) 1 A3 2 [.bool true, .bool false] ∧ Pure w w' := by
  have Hs := Lib.hid hs
  obtain ⟨b, o, hA, -⟩ := hs.2 (by omega)
  subst hA
  have Hr := Lib.hid (((((Run.start (F := fun _ => False) (w := w) (Ps := []) trivial).addNil 9 1).addNil 4 1).addNil 3 1).addBlk #[.int .i64 2, .int .i64 0, .int .i64 20006, .int .i64 2, .int .i64 2, .int .i64 4, .int .i64 100, .int .i64 5] 46)
  clear hs
  refine calls_kn Tryz.func14 rfl Tryz.ntmps14 rfl ?_
  refine gg ?_
  refine KL.makes (v := .pointer (some ⟨World.heap w |>.size, 0, none⟩)) rfl rfl rfl (fun ρ hρ => by have e := hρ (.tmp 0) _ rfl; simp only [execOp, e]; go_simp; first | done | rfl) ?_
  generalize w.alloc _ = w1 at *
  generalize hg3 : w.heap.size = g3 at Hr ⊢
  refine gg ?_
  have Hr' := Lib.hid (Hr.out.addBlk #[.slice none 0 0, .slice none 0 0, .slice none 0 0, .slice none 0 0] 40)
  clear Hr
  have Hr := Hr'
  clear Hr'
  refine KL.makes (v := .pointer (some ⟨World.heap w1 |>.size, 0, none⟩)) rfl rfl rfl (fun ρ hρ => by simp only [execOp]; go_simp; first | done | rfl) ?_
  generalize w1.alloc _ = w2 at *
  generalize w1.heap.size = g6 at *
  have hcl := (Hr.out.blk 1 rfl).cell
  refine gg ?_
  refine KL.call rfl rfl rfl rfl rfl (by go_simp) (sv_new w2) ?_
  rintro e w3 ⟨gS, gc, rfl, hS, hk⟩
  refine ⟨_, rfl, ?_⟩
  have Hr' := Lib.hid (Hr.out.add (Q := blkC gS 88 (svA gc none 0 0)) hk hS)
  clear Hr
  have Hr := Hr'
  clear Hr'
  clear hk hS hcl
  refine gg ?_
  have Hr' := Lib.hid (Hr.out.addBlk #[.pointer none] 65)
  clear Hr
  have Hr := Hr'
  clear Hr'
  refine KL.makes (v := .pointer (some ⟨World.heap w3 |>.size, 0, none⟩)) rfl rfl rfl (fun ρ hρ => by simp only [execOp]; go_simp; first | done | rfl) ?_
  generalize w3.alloc _ = w4 at *
  generalize w3.heap.size = g8 at *
  have hcl := (Hr.out.blk 0 rfl).cell
  have hfz := (Hr.out.blk 0 rfl).frozen
  refine gg ?_
  refine KL.store1 Hr.out 0 0 rfl rfl rfl rfl rfl rfl (by go_simp; first | done | rfl) ?_
  clear hcl hfz
  intro w5 e5 hr5
  have Hr' := Lib.hid hr5
  clear Hr
  have Hr := Hr'
  clear Hr'
  clear hr5 e5
  refine gg ?_
  have Hr' := Lib.hid (Hr.out.addBlk #[.slice none 0 0, .slice none 0 0, .slice none 0 0, .slice none 0 0] 40)
  clear Hr
  have Hr := Hr'
  clear Hr'
  refine KL.makes (v := .pointer (some ⟨World.heap w5 |>.size, 0, none⟩)) rfl rfl rfl (fun ρ hρ => by simp only [execOp]; go_simp; first | done | rfl) ?_
  generalize w5.alloc _ = w6 at *
  generalize w5.heap.size = g10 at *
  refine gg ?_
  have Hr' := Lib.hid (Hr.out.addBlk #[.slice none 0 0] 35)
  clear Hr
  have Hr := Hr'
  clear Hr'
  refine KL.makes (v := .pointer (some ⟨World.heap w6 |>.size, 0, none⟩)) rfl rfl rfl (fun ρ hρ => by simp only [execOp]; go_simp; first | done | rfl) ?_
  generalize w6.alloc _ = w7 at *
  generalize w6.heap.size = g11 at *
  refine gg ?_
  refine KL.told (v := .func (.func 25) #[] #[bP g8, bP g11]) rfl rfl rfl (fun ρ hρ => by have e := hρ (.tmp 8) _ rfl; have e' := hρ (.tmp 11) _ rfl; simp only [execOp]; go_simp; first | done | rfl) ?_
  refine gg ?_
  refine KW.unroll 2 ?_
  have Hg3 := Lib.hid hg3
  clear hg3
  obtain ⟨d0, d1, d2, d3⟩ := pa_c4 (Hs.out.kept (S := fun _ => False) Hr.out.kept (fun _ _ _ h => h)) (i := 0) (e := act1) rfl
  simp only [Nat.zero_mul, Nat.add_zero] at d0 d1 d2 d3
  refine gg ?_
  have Hr' := Lib.hid (Hr.out.addBlk #[.int .i64 0, .int .i64 0, .int .i64 0, .string ⟨#[]⟩] 33)
  clear Hr
  have Hr := Hr'
  clear Hr'
  refine KL.makes (v := .pointer (some ⟨World.heap w7 |>.size, 0, none⟩)) rfl rfl rfl (fun ρ hρ => by simp only [execOp]; go_simp; first | done | rfl) ?_
  generalize w7.alloc _ = w8 at *
  generalize w7.heap.size = g14 at *
  refine KL.storeB rfl rfl rfl rfl rfl (Hr.out.blk 0 rfl) rfl (by kernel_rfl) (by kernel_rfl) ?_
  intro w9 hb hk
  have Hr' := Lib.hid (Hr.out.turn 0 rfl hb hk)
  clear Hr
  have Hr := Hr'
  clear Hr'
  clear hb hk d0 d1 d2 d3
  have hcl := (Hr.out.blk 0 rfl).cell
  have hc8 := (Hr.out.blk 3 rfl).cell
  refine gg ?_
  obtain ⟨G, hG, hup⟩ := Hr.out.sub 4 rfl
  refine KL.call rfl rfl rfl rfl rfl (by go_simp) (sv_do1 hG) ?_
  rintro e w10 ⟨rfl, As, cs, gn, gs, gi, gp, hrs⟩
  refine ⟨_, rfl, ?_⟩
  have hr10 := hup w10 _ hrs
  have Hr' := Lib.hid hr10
  clear Hr
  have Hr := Hr'
  clear Hr'
  clear hr10 hG hup hrs hcl hc8
  have hcl := (Hr.out.blk 0 rfl).cell
  have hco := (Hr.out.blk 1 rfl).cell
  refine gg ?_
  refine KL.makes (v := .slice (some ⟨w10.heap.size, 0, none⟩) 1 1) (w' := w10.alloc (.cells #[.string ⟨#[]⟩] 9)) rfl rfl rfl (fun ρ hρ => by have e := hρ (.const (.string ⟨#[]⟩)) _ rfl; simp only [execOp]; go_simp; first | done | rfl) ?_
  have hsl := Sl.lit w10 #[.string ⟨#[]⟩] 9 1 1 [.string ⟨#[]⟩] rfl rfl
  refine KL.app (Hr.out.alloc (.cells #[.string ⟨#[]⟩] 9)) 9 rfl Tryz.underlying35 info_st rfl (by omega) hsl (by intro u hu; rw [List.mem_singleton.1 hu]; rfl) (by omega) (by omega) rfl rfl rfl rfl rfl rfl ?_
  clear hsl hcl hco
  intro A11 c11 w11 e1 e2 hr11
  have Hr' := Lib.hid hr11
  clear Hr
  have Hr := Hr'
  clear Hr'
  clear hr11 e1 e2
  have hco := (Hr.out.blk 1 rfl).cell
  have hfz := (Hr.out.blk 1 rfl).frozen
  refine gg ?_
  refine KL.store1 Hr.out 1 0 rfl rfl rfl rfl rfl rfl (by go_simp; first | done | rfl) ?_
  clear hco hfz
  intro w12 e12 hr12
  have Hr' := Lib.hid hr12
  clear Hr
  have Hr := Hr'
  clear Hr'
  clear hr12 e12
  have hco := (Hr.out.blk 2 rfl).cell
  refine gg ?_
  refine KL.makes (v := .slice (some ⟨w12.heap.size, 0, none⟩) 1 1) (w' := w12.alloc (.cells #[.bool true] 4)) rfl rfl rfl (fun ρ hρ => by have e := hρ (.tmp 65) _ rfl; simp only [execOp]; go_simp; first | done | rfl) ?_
  have hsl := Sl.lit w12 #[.bool true] 4 1 1 [.bool true] rfl rfl
  refine KL.app (Hr.out.alloc (.cells #[.bool true] 4)) 8 rfl Tryz.underlying37 info_bool rfl (by omega) hsl (by intro u hu; rw [List.mem_singleton.1 hu]; rfl) (by omega) (by omega) rfl rfl rfl rfl rfl rfl ?_
  clear hsl hco
  intro A13 c13 w13 e1 e2 hr13
  have Hr' := Lib.hid hr13
  clear Hr
  have Hr := Hr'
  clear Hr'
  clear hr13 e1 e2
  have hco := (Hr.out.blk 2 rfl).cell
  have hfz := (Hr.out.blk 2 rfl).frozen
  refine gg ?_
  refine KL.store1 Hr.out 2 2 rfl rfl rfl rfl rfl rfl (by go_simp; first | done | rfl) ?_
  clear hco hfz
  intro w14 e14 hr14
  have Hr' := Lib.hid (hr14.drop 0)
  clear Hr
  have Hr := Hr'
  clear Hr'
  clear hr14 e14
  refine gg ?_
  refine KE.more ?_
  obtain ⟨d0, d1, d2, d3⟩ := pa_c4 (Hs.out.kept (S := fun _ => False) Hr.out.kept (fun _ _ _ h => h)) (i := 1) (e := act4) rfl
  simp only [Nat.one_mul] at d0 d1 d2 d3
  refine gg ?_
  have Hr' := Lib.hid (Hr.out.addBlk #[.int .i64 0, .int .i64 0, .int .i64 0, .string ⟨#[]⟩] 33)
  clear Hr
  have Hr := Hr'
  clear Hr'
  refine KL.makes (v := .pointer (some ⟨World.heap w14 |>.size, 0, none⟩)) rfl rfl rfl (fun ρ hρ => by simp only [execOp]; go_simp; first | done | rfl) ?_
  generalize w14.alloc _ = w15 at *
  generalize w14.heap.size = g15 at *
  refine KL.storeB rfl rfl rfl rfl rfl (Hr.out.blk 0 rfl) rfl (by kernel_rfl) (by kernel_rfl) ?_
  intro w16 hb hk
  have Hr' := Lib.hid (Hr.out.turn 0 rfl hb hk)
  clear Hr
  have Hr := Hr'
  clear Hr'
  clear hb hk d0 d1 d2 d3
  have hcl := (Hr.out.blk 0 rfl).cell
  have hc8 := (Hr.out.blk 3 rfl).cell
  refine gg ?_
  refine KL.call rfl rfl rfl rfl rfl (by go_simp) (sv_do4 (Hr.out.sv 4 rfl)) ?_
  rintro e w17 ⟨rfl, hk⟩
  refine ⟨_, rfl, ?_⟩
  have Hr' := Lib.hid (Hr.out.pure hk)
  clear Hr
  have Hr := Hr'
  clear Hr'
  clear hk hcl hc8
  have hcl := (Hr.out.blk 0 rfl).cell
  have hco := (Hr.out.blk 2 rfl).cell
  refine gg ?_
  refine KL.makes (v := .slice (some ⟨w17.heap.size, 0, none⟩) 1 1) (w' := w17.alloc (.cells #[.bool false] 4)) rfl rfl rfl (fun ρ hρ => by have e := hρ (.tmp 65) _ rfl; simp only [execOp]; go_simp; first | done | rfl) ?_
  have hsl := Sl.lit w17 #[.bool false] 4 1 1 [.bool false] rfl rfl
  refine KL.app (Hr.out.alloc (.cells #[.bool false] 4)) 8 rfl Tryz.underlying37 info_bool rfl (by omega) hsl (by intro u hu; rw [List.mem_singleton.1 hu]; rfl) (by omega) (by omega) rfl rfl rfl rfl rfl rfl ?_
  clear hsl hco hcl
  intro A18 c18 w18 e1 e2 hr18
  have Hr' := Lib.hid hr18
  clear Hr
  have Hr := Hr'
  clear Hr'
  clear hr18 e1 e2
  have hco := (Hr.out.blk 2 rfl).cell
  have hfz := (Hr.out.blk 2 rfl).frozen
  refine gg ?_
  refine KL.store1 Hr.out 2 2 rfl rfl rfl rfl rfl rfl (by go_simp; first | done | rfl) ?_
  clear hco hfz
  intro w19 e19 hr19
  have Hr' := Lib.hid (hr19.drop 0)
  clear Hr
  have Hr := Hr'
  clear Hr'
  clear hr19 e19
  refine gg ?_
  refine KE.more ?_
  refine gg ?_
  refine KW.unroll 0 ?_
  have hcv := (Hr.out.blk 0 rfl).cell
  have hco := (Hr.out.blk 1 rfl).cell
  have hfz := (Hr.out.blk 1 rfl).frozen
  refine gg ?_
  refine KL.store1 Hr.out 1 0 rfl rfl rfl rfl rfl rfl (by go_simp; first | done | rfl) ?_
  clear hco hfz hcv
  intro w20 e20 hr20
  have Hr' := Lib.hid hr20
  clear Hr
  have Hr := Hr'
  clear Hr'
  clear hr20 e20
  have hcv := (Hr.out.blk 0 rfl).cell
  refine gg ?_
  refine KW.unroll 1 ?_
  refine gg ?_
  clear hcv
  have hlay : Run w (fun _ => False) w20 [blkC g11 35 #[.slice A11 1 c11], blkC g10 40 #[.slice A11 1 c11, .slice none 0 0, .slice A18 2 c18, .slice none 0 0], blkC g8 65 #[bP gS], starC (svL gS gc As cs gn gs gi gp), blkC g6 40 #[.slice none 0 0, .slice none 0 0, .slice none 0 0, .slice none 0 0], blkC g3 46 #[.int .i64 2, .int .i64 0, .int .i64 20006, .int .i64 2, .int .i64 2, .int .i64 4, .int .i64 100, .int .i64 5], ownC 3 1 (.slice none 0 0) 0 [], ownC 4 1 (.slice A18 2 c18) 2 [.bool true, .bool false], ownC 9 1 (.slice A11 1 c11) 1 [.string ⟨#[]⟩]] := Hr.out
  have Hr' := Lib.hid hlay
  clear Hr
  have Hr := Hr'
  clear Hr'
  clear hlay
  refine KW.regionT (fun y => Blk y g10 40 #[.slice A11 1 c11, .slice none 0 0, .slice A18 2 c18, .slice none 0 0]) [4, 5, 6, 8] [0, 1] [8] (by kernel_rfl) (by kernel_rfl) (by kernel_rfl) (by kernel_rfl) (Hr.out.drew.blk 1 rfl) ?_
  have Hr' := Lib.hid Hr.out.drew
  clear Hr
  have Hr := Hr'
  clear Hr'
  generalize w20.drew = w21 at *
  have hc8 := (Hr.out.blk 2 rfl).cell
  refine gt ?_
  refine KT.call (by decide) rfl rfl rfl rfl rfl (by go_simp) (sv_state (Hr.out.sv 3 rfl)) ?_
  rintro e w22 ⟨rfl, e2⟩
  obtain rfl := e2.symm
  clear e2
  refine ⟨_, rfl, fun _ => Hr.out.blk 1 rfl, ?_⟩
  refine gt ?_
  refine KT.makes (v := .slice (some ⟨w21.heap.size, 0, none⟩) 1 1) (w' := w21.alloc (.cells #[.int .i64 1] 3)) (by decide) rfl rfl rfl (fun ρ hρ => by have e := hρ (.tmp 103) _ rfl; simp only [execOp]; go_simp; first | done | rfl) (fun _ => ((Hr.out.alloc _).blk 1 rfl)) ?_
  have hsl := Sl.lit w21 #[.int .i64 1] 3 1 1 [.int .i64 1] rfl rfl
  refine gt ?_
  refine KT.app (Hr.out.alloc (.cells #[.int .i64 1] 3)) 6 rfl Tryz.underlying36 info_in rfl (by omega) hsl (by intro u hu; rw [List.mem_singleton.1 hu]; rfl) (by omega) (by omega) (by decide) rfl rfl rfl rfl rfl rfl ?_
  clear hsl hc8
  intro A23 c23 w23 e1 e2 e3 hr23
  refine ⟨fun _ => hr23.blk 1 rfl, ?_⟩
  have hc := (hr23.blk 1 rfl).cell
  have hfz := (hr23.blk 1 rfl).frozen
  have Hr' := Lib.hid hr23
  clear Hr
  have Hr := Hr'
  clear Hr'
  clear hr23 e1 e2 e3
  refine gt ?_
  refine KT.store1 Hr.out 1 1 rfl (by decide) rfl rfl rfl rfl rfl (by go_simp; first | done | rfl) ?_
  clear hc hfz
  intro w24 e24 hr24
  refine ⟨fun h => absurd (by decide) h, ?_⟩
  have Hr' := Lib.hid hr24
  clear Hr
  have Hr := Hr'
  clear Hr'
  clear hr24 e24
  refine gt ?_
  refine gg ?_
  refine KE.more ?_
  have hc8 := (Hr.out.blk 2 rfl).cell
  refine gg ?_
  refine KL.call rfl rfl rfl rfl rfl (by go_simp) (sv_events (Hr.out.sv 3 rfl)) ?_
  rintro e w25 ⟨rfl, e2⟩
  obtain rfl := e2.symm
  clear e2
  refine ⟨_, rfl, ?_⟩
  have hc := (Hr.out.blk 1 rfl).cell
  have hfz := (Hr.out.blk 1 rfl).frozen
  refine gg ?_
  refine KL.store1 Hr.out 1 3 rfl rfl rfl rfl rfl rfl (by go_simp; first | done | rfl) ?_
  clear hc hfz hc8
  intro w26 e26 hr26
  have hlay : Run w (fun _ => False) w26 [blkC g11 35 #[.slice A11 1 c11], blkC g10 40 #[.slice A11 1 c11, .slice A23 1 c23, .slice A18 2 c18, .slice none 0 0], blkC g8 65 #[bP gS], starC (svL gS gc As cs gn gs gi gp), blkC g6 40 #[.slice none 0 0, .slice none 0 0, .slice none 0 0, .slice none 0 0], blkC g3 46 #[.int .i64 2, .int .i64 0, .int .i64 20006, .int .i64 2, .int .i64 2, .int .i64 4, .int .i64 100, .int .i64 5], ownC 3 1 (.slice A23 1 c23) 1 [.int .i64 1], ownC 4 1 (.slice A18 2 c18) 2 [.bool true, .bool false], ownC 9 1 (.slice A11 1 c11) 1 [.string ⟨#[]⟩]] := hr26
  have Hr' := Lib.hid hlay
  clear Hr
  have Hr := Hr'
  clear Hr'
  clear hlay hr26 e26
  have hB := Hr.out.blk 1 rfl
  refine gg ?_
  refine kp ?_ (PR.blk rfl rfl hB Tryz.underlying40 rfl (by kernel_rfl))
  clear hB
  refine gg ?_
  refine KL.storeB rfl rfl rfl rfl rfl (Hr.out.blk 4 rfl) rfl (by kernel_rfl) (by kernel_rfl) ?_
  intro w27 hb hk
  have Hr' := Lib.hid (Hr.out.turn 4 rfl hb hk)
  clear Hr
  have Hr := Hr'
  clear Hr'
  clear hb hk
  refine gg ?_
  refine KR.finCT Tryz.results14 rfl rfl (Hr.out.blk 4 rfl) Tryz.underlying40 rfl (by kernel_rfl) ⟨A11, c11, A23, c23, A18, c18, rfl, ?_, Hr.out.kept⟩
  exact (Hr.out.own (k := 1) (n := 2) 7 rfl).sl.imp (fun b _ h => h.elim (fun h => h.elim) (fun h => by rw [← Hg3.out]; exact h))
end Go.Proofs.YtiddhcabpmkolaaGreatDoor
set_option linter.unusedSimpArgs false
set_option linter.unusedVariables false
namespace Go.Proofs.YtiddhcabpmkolaaGreatDoor
open Go.RowKit
set_option maxRecDepth 100000
open Go
theorem sl_two {w : World} {F : Nat → Prop} {A : Option Addr} {x y : Value} (h : Sl w F 1 A 2 [x, y]) : ∃ b o, A = some ⟨b, o, none⟩ ∧ w.cell? ⟨b, o, none⟩ = some x ∧ w.cell? ⟨b, o + 1, none⟩ = some y := by
  obtain ⟨b, o, hA, _, _, hc⟩ := h.2 (by omega)
  exact ⟨b, o, hA, hc 0 (by simp), hc 1 (by simp)⟩
set_option maxHeartbeats 1600000 in
theorem bl_two (A B : Option Addr) (c d : Nat) (w : World) {F G : Nat → Prop} (h1 : Sl w F 1 A 2 [.bool true, .bool false]) (h2 : Sl w G 1 B 2 [.bool true, .bool false]) : Calls Tryz.prog 16 #[.slice A 2 c, .slice B 2 d] w fun e w' => e = .returned (.bool true) ∧ Pure w w' := by
  obtain ⟨b1, o1, hA, x1, x2⟩ := sl_two h1
  obtain ⟨b2, o2, hB, y1, y2⟩ := sl_two h2
  subst hA hB
  clear h1 h2
  refine calls_kn Tryz.func16 rfl Tryz.ntmps16 rfl ?_
  refine gd ?_
  refine KW.unroll 2 ?_
  refine gd ?_
  refine KE.more ?_
  have x1' : w.drew.cell? ⟨b1, o1, none⟩ = some (.bool true) := x1
  have x2' : w.drew.cell? ⟨b1, o1 + 1, none⟩ = some (.bool false) := x2
  have y1' : w.drew.cell? ⟨b2, o2, none⟩ = some (.bool true) := y1
  have y2' : w.drew.cell? ⟨b2, o2 + 1, none⟩ = some (.bool false) := y2
  refine gd ?_
  refine KE.more ?_
  refine gd ?_
  refine KR.fin1 Tryz.results16 rfl ⟨rfl, ((Kept.refl _ _).drew).drew⟩
set_option maxHeartbeats 1600000 in
theorem cf_call (w : World) : Calls Tryz.prog 15 #[] w fun e w' => e = .returned cfV ∧ Pure w w' := by
  have Hr := Lib.hid ((Run.start (F := fun _ => False) (w := w) (Ps := []) trivial).addBlk #[.int .i64 0, .int .i64 0, .int .i64 0, .int .i64 0, .int .i64 0, .int .i64 0, .int .i64 0, .int .i64 0] 46)
  refine calls_kn Tryz.func15 rfl Tryz.ntmps15 rfl ?_
  refine gg ?_
  refine KL.makes (v := .pointer (some ⟨World.heap w |>.size, 0, none⟩)) rfl rfl rfl (fun ρ hρ => by simp only [execOp]; go_simp; first | done | rfl) ?_
  generalize w.alloc _ = w1 at *
  generalize w.heap.size = g1 at *
  refine gg ?_
  refine KL.told (v := .agg #[.int .i64 2, .int .i64 4, .int .i64 100, .int .i64 5]) rfl rfl rfl (fun ρ hρ => by have e1 := hρ (.const (.int .i64 2)) _ rfl; have e2 := hρ (.const (.int .i64 4)) _ rfl; have e3 := hρ (.const (.int .i64 100)) _ rfl; have e4 := hρ (.const (.int .i64 5)) _ rfl; simp only [execOp]; go_simp; first | done | rfl) ?_
  refine KL.told (v := .agg #[.int .i64 2, .int .i64 0, .int .i64 20006, .int .i64 2, .int .i64 2, .int .i64 4, .int .i64 100, .int .i64 5]) rfl rfl rfl (fun ρ hρ => by have e := hρ (.tmp 1) _ rfl; have e1 := hρ (.const (.int .i64 2)) _ rfl; have e2 := hρ (.const (.int .i64 0)) _ rfl; have e3 := hρ (.const (.int .i64 20006)) _ rfl; simp only [execOp]; go_simp; first | done | rfl) ?_
  refine KL.storeB rfl rfl rfl rfl rfl (Hr.out.blk 0 rfl) rfl (by kernel_rfl) (by kernel_rfl) ?_
  intro w2 hb hk
  have Hr' := Lib.hid (Hr.out.turn 0 rfl hb hk)
  clear Hr
  have Hr := Hr'
  clear Hr'
  clear hb hk
  refine gg ?_
  refine KR.finC Tryz.results15 rfl (Hr.out.blk 0 rfl) Tryz.underlying46 rfl (by kernel_rfl) ⟨rfl, Hr.out.kept⟩
def exT : ByteArray := { data := #[111, 112, 101, 110, 10, 115, 101, 110, 100, 32, 48, 32, 48, 97, 10, 116, 105, 99, 107, 32, 51, 10] }
def exL : List PAct := [⟨1, 0, 0, ⟨#[]⟩⟩, ⟨2, 0, 0, ⟨#[10]⟩⟩, ⟨5, 0, 3, ⟨#[]⟩⟩]
theorem itoa_0 : Lib.itoa 0 = [48] := by unfold Lib.itoa; rw [if_neg (by decide)]; show Lib.decDigits 0 = _; rw [Lib.decDigits]; rfl
theorem itoa_3 : Lib.itoa 3 = [51] := by unfold Lib.itoa; rw [if_neg (by decide)]; show Lib.decDigits 3 = _; rw [Lib.decDigits]; rfl
theorem ex_shw : kb exT = shw exL := by
  simp only [exL, shw, PAct.head, itoa_0, itoa_3]
  decide
theorem ex_prs : prsL (kb exT) = .ok exL := by
  have h := prs_shw exL [] (fun a ha => by
    simp only [exL, List.mem_cons, List.not_mem_nil, or_false] at ha
    rcases ha with rfl | rfl | rfl <;> exact ok_iff.1 (by decide))
  rw [List.append_nil, ← ex_shw] at h
  rw [h, prsL_nil, Prs.puts, List.append_nil]
set_option maxHeartbeats 3200000 in
theorem pl_first (w : World) (hT : Tb w) : Calls Tryz.prog 7 #[] w fun e w' => e = .returned (.bool true) ∧ Pure w w' := by
  have HT := Lib.hid hT
  have CF := Lib.hid (cf_call w)
  clear hT
  refine calls_kn Tryz.func7 rfl Tryz.ntmps7 rfl ?_
  refine gg ?_
  refine KL.call rfl rfl rfl rfl rfl (by go_simp) CF.out ?_
  rintro e w1 ⟨rfl, hk1⟩
  refine ⟨_, rfl, ?_⟩
  have Hr := Lib.hid ((Run.start (F := fun _ => False) (w := w) (Ps := []) trivial).pure hk1)
  clear hk1
  refine gg ?_
  refine KL.told (v := .agg #[.int .i64 1, .int .i64 0, .int .i64 0, .string ⟨#[]⟩]) rfl rfl rfl (fun ρ hρ => by have e1 := hρ (.const (.int .i64 1)) _ rfl; simp only [execOp]; go_simp; first | done | rfl) ?_
  refine KL.told (v := .agg #[.int .i64 4, .int .i64 0, .int .i64 0, .string ⟨#[]⟩]) rfl rfl rfl (fun ρ hρ => by have e1 := hρ (.const (.int .i64 4)) _ rfl; simp only [execOp]; go_simp; first | done | rfl) ?_
  refine KL.makes (v := .slice (some ⟨w1.heap.size, 0, none⟩) 2 2) (w' := w1.alloc (.cells #[.int .i64 1, .int .i64 0, .int .i64 0, .string ⟨#[]⟩, .int .i64 4, .int .i64 0, .int .i64 0, .string ⟨#[]⟩] 33)) rfl rfl rfl (fun ρ hρ => by have e1 := hρ (.tmp 8) _ rfl; have e2 := hρ (.tmp 9) _ rfl; simp only [execOp]; go_simp; first | done | rfl) ?_
  have hsl := Sl.lit w1 #[.int .i64 1, .int .i64 0, .int .i64 0, .string ⟨#[]⟩, .int .i64 4, .int .i64 0, .int .i64 0, .string ⟨#[]⟩] 33 4 2 (pac [act1, act4]) rfl rfl
  have Hr' := Lib.hid (Hr.out.alloc (.cells #[.int .i64 1, .int .i64 0, .int .i64 0, .string ⟨#[]⟩, .int .i64 4, .int .i64 0, .int .i64 0, .string ⟨#[]⟩] 33))
  clear Hr
  have Hr := Hr'
  clear Hr'
  generalize w1.alloc _ = w2 at *
  have RR := Lib.hid (pl_run1 _ 2 w2 (hsl.imp (fun _ _ _ => trivial)))
  clear hsl
  refine gg ?_
  refine KL.call rfl rfl rfl rfl rfl (by go_simp) RR.out ?_
  rintro e w3 ⟨A1, c1, A2, c2, A3, c3, rfl, hs3, hk3⟩
  refine ⟨_, rfl, ?_⟩
  have Hr' := Lib.hid ((Hr.out.add (Q := slC 1 A3 2 [.bool true, .bool false]) hk3 hs3).addBlk #[.slice none 0 0, .slice none 0 0, .slice none 0 0, .slice none 0 0] 40)
  clear Hr
  have Hr := Hr'
  clear Hr'
  clear hk3 hs3 RR
  refine gg ?_
  refine KL.makes (v := .pointer (some ⟨World.heap w3 |>.size, 0, none⟩)) rfl rfl rfl (fun ρ hρ => by simp only [execOp]; go_simp; first | done | rfl) ?_
  generalize w3.alloc _ = w4 at *
  generalize w3.heap.size = g4 at *
  refine KL.storeB rfl rfl rfl rfl rfl (Hr.out.blk 0 rfl) rfl (by kernel_rfl) (by kernel_rfl) ?_
  intro w5 hb hk
  have Hr' := Lib.hid (Hr.out.turn 0 rfl hb hk)
  clear Hr
  have Hr := Hr'
  clear Hr'
  clear hb hk
  refine gg ?_
  have PP := pl_parse exT w5 (by decide) (HT.out.kept Hr.out.kept)
  rw [ex_prs] at PP
  have PP := Lib.hid PP
  refine KL.call rfl rfl rfl rfl rfl (by go_simp) PP.out ?_
  rintro e w6 ⟨A6, c6, rfl, hc6, hs6, hk6⟩
  refine ⟨_, rfl, ?_⟩
  have Hr' := Lib.hid (Hr.out.add (Q := slC 4 A6 3 (pac exL)) hk6 hs6)
  clear Hr
  have Hr := Hr'
  clear Hr'
  clear hk6 hs6 PP
  have hcl := (Hr.out.blk 1 rfl).cell
  refine gg ?_
  refine KL.makes (v := .slice (some ⟨w6.heap.size, 0, none⟩) 2 2) (w' := w6.alloc (.cells #[.bool true, .bool false] 4)) rfl rfl rfl (fun ρ hρ => by have e1 := hρ (.const (.bool true)) _ rfl; have e2 := hρ (.const (.bool false)) _ rfl; simp only [execOp]; go_simp; first | done | rfl) ?_
  have hsl := Sl.lit w6 #[.bool true, .bool false] 4 1 2 [.bool true, .bool false] rfl rfl
  have Hr' := Lib.hid (Hr.out.alloc (.cells #[.bool true, .bool false] 4))
  clear Hr
  have Hr := Hr'
  clear Hr'
  generalize w6.alloc _ = w7 at *
  have BB := Lib.hid (bl_two A3 (some ⟨w6.heap.size, 0, none⟩) c3 2 w7 (Hr.out.get (P := slC 1 A3 2 [.bool true, .bool false]) 2 rfl) hsl)
  clear hsl hcl
  refine gg ?_
  refine KL.call rfl rfl rfl rfl rfl (by go_simp) BB.out ?_
  rintro e w8 ⟨rfl, hk8⟩
  refine ⟨_, rfl, ?_⟩
  have Hr' := Lib.hid (Hr.out.pure hk8)
  clear Hr
  have Hr := Hr'
  clear Hr'
  clear hk8 BB
  have hcl := (Hr.out.blk 1 rfl).cell
  have hsx := Hr.out.get (P := slC 4 A6 3 (pac exL)) 0 rfl
  obtain ⟨b, o, hA, -⟩ := hsx.2 (by omega)
  subst hA
  obtain ⟨-, -, -, d3⟩ := pa_c4 hsx (i := 1) (e := ⟨2, 0, 0, ⟨#[10]⟩⟩) rfl
  obtain ⟨-, -, d2, -⟩ := pa_c4 hsx (i := 2) (e := ⟨5, 0, 3, ⟨#[]⟩⟩) rfl
  simp only [Nat.one_mul] at d3 d2
  have hx : exL.length = 3 := rfl
  clear hsx
  refine gg ?_
  trace_state
  refine KR.fin1 Tryz.results7 rfl ⟨rfl, Hr.out.kept⟩
end Go.Proofs.YtiddhcabpmkolaaGreatDoor
set_option linter.unusedSimpArgs false
set_option linter.unusedVariables false
namespace Go.Proofs.YtiddhcabpmkolaaGreatDoor
open Go.RowKit
set_option maxRecDepth 100000
open Go
theorem toList_eqB {a b : ByteArray} : a.toList = b.toList ↔ a = b := by
  constructor
  · intro h
    rw [Go.Lib.toList_data, Go.Lib.toList_data] at h
    exact ByteArray.ext (Array.toList_inj.1 h)
  · rintro rfl; rfl
theorem neq_act (i1 i2 : PAct) (w : World) : (binOp .neq 33 i1.val i2.val).run Tryz.prog w = .ok (.bool (!decide (i1 = i2))) w := by
  obtain ⟨u1, v1, g1, c1⟩ := i1
  obtain ⟨u2, v2, g2, c2⟩ := i2
  go_simp
  simp only [toList_eqB]
  (repeat' split) <;> simp_all
theorem guard_act (x y : Operand) (xs ys : Array Value) (op : BinOp) (w : World) : (eqGuard op 33 x y (.agg xs) (.agg ys)).run Tryz.prog w = .ok () w := run_eqGuard_agg w op _ x y xs ys (by kernel_rfl)
theorem oActs {k : Kn} {w : World} {o : Oper} {x y : Operand} {a b : PAct} {ty' : TypeId} {t : Bool} (hc : (!decide (a = b)) = t) (ho : o.op = .binOp .neq 33 x y ty' := by exact rfl) (hx : knX k x = some a.val := by exact rfl) (hy : knX k y = some b.val := by exact rfl) : PR Tryz.prog k w o (.bool t) :=
  PR.bop ho hx hy (by
    subst hc
    have h := guard_act x y a.row b.row .neq w
    rw [Sem.run_bind, h]
    exact neq_act a b w)
set_option maxHeartbeats 1600000 in
theorem hl_same (A B : Option Addr) (c d n m : Nat) (la lb : List PAct) (w : World) {F G : Nat → Prop} (h1 : Sl w F 4 A n (pac la)) (h2 : Sl w G 4 B m (pac lb)) (hn : n ≤ 1000000) (hm : m ≤ 1000000) :
    Calls Tryz.prog 13 #[.slice A n c, .slice B m d] w fun e w' => e = .returned (.bool (decide (la = lb))) ∧ Pure w w' := by
  have hla : la.length = n := by have := h1.1; rw [pac_length] at this; omega
  have hlb : lb.length = m := by have := h2.1; rw [pac_length] at this; omega
  have H1 := Lib.hid h1
  have H2 := Lib.hid h2
  obtain ⟨R, hR⟩ : ∃ R, decide (la = lb) = R := ⟨_, rfl⟩
  rw [hR]
  have HR := Lib.hid hR
  have Ha := Lib.hid hla
  have Hb := Lib.hid hlb
  clear h1 h2 hR hla hlb
  by_cases hnm : n = m
  · subst hnm
    have hd0 : (!decide ((n : Int) = (n : Int))) = false := by simp
    refine calls_kn Tryz.func13 rfl Tryz.ntmps13 rfl ?_
    refine gg ?_
    refine KW.loop (ι := Nat) (fun i => [(0, .slice A n c), (1, .slice B n d), (5, .int .i64 (i : Int))]) (fun i w' => i ≤ n ∧ Pure w w' ∧ Hid (∀ j, j < i → la[j]? = lb[j]?)) (fun i => n - i) 0 ⟨Nat.zero_le _, Kept.refl _ _, (fun j hj => absurd hj (by omega))⟩ (kle_ok (by repeat' (first | exact trivial | refine ⟨rfl, ?_⟩))) ?_
    clear hd0
    rintro i w1 ⟨hi, hk, hall⟩
    have Hk := Lib.hid hk
    clear hk
    by_cases hlt : i < n
    · have hd : decide ((i : Int) < (n : Int)) = true := by simp; omega
      obtain ⟨b1, o1, hA, -⟩ := H1.out.2 (by omega)
      obtain ⟨b2, o2, hB, -⟩ := H2.out.2 (by omega)
      subst hA hB
      obtain ⟨a, ha⟩ : ∃ a, la[i]? = some a := ⟨_, List.getElem?_eq_getElem (by have := Ha.out; omega)⟩
      obtain ⟨b, hb⟩ : ∃ a, lb[i]? = some a := ⟨_, List.getElem?_eq_getElem (by have := Hb.out; omega)⟩
      have hk2 : Pure w w1.drew := Hk.out.drew
      obtain ⟨a0, a1, a2, a3⟩ := pa_c4 (H1.out.kept (S := fun _ => False) hk2 (fun _ _ _ h => h)) ha
      obtain ⟨b0, b1', b2', b3⟩ := pa_c4 (H2.out.kept (S := fun _ => False) hk2 (fun _ _ _ h => h)) hb
      have HI := Lib.hid (And.intro ha hb)
      have Hk2 := Lib.hid hk2
      obtain ⟨t, ht⟩ : ∃ t, (!decide (a = b)) = t := ⟨_, rfl⟩
      have Ht := Lib.hid ht
      clear ha hb hk2
      refine gg ?_
      refine sd ?_
      refine gs ?_
      refine sp ?_ (oActs Ht.out)
      refine gs ?_
      clear a0 a1 a2 a3 b0 b1' b2' b3 ht
      cases t
      case true =>
        have hne : a ≠ b := by simpa using Ht.out
        have hR : R = false := by
          rw [← HR.out]
          exact decide_eq_false (fun e => hne (by have h1 := HI.out.1; have h2 := HI.out.2; rw [e, h2] at h1; injection h1 with h1; exact h1.symm))
        have HR2 := Lib.hid hR
        clear hne hR
        refine gg ?_
        refine KR.fin1 Tryz.results13 rfl ⟨by rw [HR2.out], Hk2.out⟩
      have hab : a = b := by simpa using Ht.out
      have hall2 : Hid (∀ j, j < i + 1 → la[j]? = lb[j]?) := Lib.hid (fun j hj => by
        by_cases h : j < i
        · exact hall.out j h
        · obtain rfl : j = i := by omega
          rw [HI.out.1, HI.out.2, hab])
      clear hab
      refine gg ?_
      refine KE.rnd2 (i + 1) (by repeat' (first | exact trivial | refine ⟨rfl, ?_⟩)) ⟨hlt, Hk2.out, hall2⟩ (by omega)
    · have hd : decide ((i : Int) < (n : Int)) = false := by simp; omega
      have hR : R = true := by
        rw [← HR.out]
        refine decide_eq_true (List.ext_getElem? (fun j => ?_))
        by_cases h : j < i
        · exact hall.out j h
        · rw [List.getElem?_eq_none (by have := Ha.out; omega), List.getElem?_eq_none (by have := Hb.out; omega)]
      have HR2 := Lib.hid hR
      clear hR
      refine gg ?_
      refine KR.fin1 Tryz.results13 rfl ⟨by rw [HR2.out], Hk.out⟩
  · have hd0 : (!decide ((n : Int) = (m : Int))) = true := by simp; omega
    have hR : R = false := by
      rw [← HR.out]
      exact decide_eq_false (fun e => hnm (by rw [← Ha.out, ← Hb.out, e]))
    have HR2 := Lib.hid hR
    clear hR
    refine calls_kn Tryz.func13 rfl Tryz.ntmps13 rfl ?_
    refine gg ?_
    refine KR.fin1 Tryz.results13 rfl ⟨by rw [HR2.out], Kept.refl _ _⟩
def totB (l : List PAct) : Nat := (l.map (·.bytes.size)).sum
/-- Acts that are few and short. -/
structure Few (l : List PAct) : Prop where
  n : l.length ≤ 400
  each : ∀ a ∈ l, a.bytes.size ≤ 3000
  tot : totB l ≤ 20000
set_option maxHeartbeats 1600000 in
theorem hk_acts (A : Option Addr) (c : Nat) (l : List PAct) (w : World) (h : Sl w (fun _ => True) 4 A l.length (pac l)) :
    Calls Tryz.prog 8 #[.slice A l.length c] w fun e w' => ∃ r, e = .returned (.bool r) ∧ w' = w ∧ (r = true → Few l) := by
  have H := Lib.hid h
  obtain ⟨n, hn⟩ : ∃ n, l.length = n := ⟨_, rfl⟩
  have Hn := Lib.hid hn
  rw [hn]
  clear h hn
  by_cases h4 : n ≤ 400
  · have hd0 : decide ((400 : Int) < (n : Int)) = false := by simp; omega
    refine calls_kn Tryz.func8 rfl Tryz.ntmps8 rfl ?_
    refine gg ?_
    refine KW.loop (ι := Nat) (fun i => [(0, .slice A n c), (3, .int .i64 ((totB (l.take i) : Nat) : Int)), (4, .int .i64 (i : Int))]) (fun i w' => i ≤ n ∧ w' = w ∧ totB (l.take i) ≤ 20000 ∧ Hid (∀ a ∈ l.take i, a.bytes.size ≤ 3000)) (fun i => n - i) 0 ⟨Nat.zero_le _, rfl, Nat.zero_le _, Lib.hid (fun a ha => by cases ha)⟩ (kle_ok (by repeat' (first | exact trivial | refine ⟨rfl, ?_⟩))) ?_
    clear hd0
    rintro i w1 ⟨hi, e1, hsum, hall⟩
    obtain rfl := e1.symm
    clear e1
    by_cases hlt : i < n
    · have hd : decide ((i : Int) < (n : Int)) = true := by simp; omega
      obtain ⟨b1, o1, hA, -⟩ := H.out.2 (by have := Hn.out; omega)
      subst hA
      obtain ⟨a, ha⟩ : ∃ a, l[i]? = some a := ⟨_, List.getElem?_eq_getElem (by have := Hn.out; omega)⟩
      obtain ⟨-, -, -, a3⟩ := pa_c4 H.out ha
      have hst : totB (l.take (i + 1)) = totB (l.take i) + a.bytes.size := by
        unfold totB; rw [List.take_add_one, ha]; simp
      have hmem : ∀ x ∈ l.take (i + 1), x ∈ l.take i ∨ x = a := fun x hx => by
        rw [List.take_add_one, ha, Option.toList_some] at hx
        rcases List.mem_append.1 hx with h | h
        · exact .inl h
        · exact .inr (List.mem_singleton.1 h)
      have Hst := Lib.hid hst
      have Hmem := Lib.hid hmem
      obtain ⟨t1, ht1⟩ : ∃ t, decide ((3000 : Int) < (a.bytes.size : Int)) = t := ⟨_, rfl⟩
      obtain ⟨S, hS⟩ : ∃ S, totB (l.take i) = S := ⟨_, rfl⟩
      obtain ⟨t2, ht2⟩ : ∃ t, decide ((20000 : Int) < (S : Int) + (a.bytes.size : Int)) = t := ⟨_, rfl⟩
      simp only [hS] at hsum ⊢
      have HS := Lib.hid hS
      clear ha hst hmem hS
      refine gg ?_
      cases t1
      case true =>
        refine gg ?_
        refine KR.fin1 Tryz.results8 rfl ⟨false, rfl, rfl, fun h => by cases h⟩
      have h3 := of_decide_eq_false ht1
      refine gg ?_
      cases t2
      case true =>
        refine gg ?_
        refine KR.fin1 Tryz.results8 rfl ⟨false, rfl, rfl, fun h => by cases h⟩
      have h20 := of_decide_eq_false ht2
      have hall2 : Hid (∀ x ∈ l.take (i + 1), x.bytes.size ≤ 3000) := Lib.hid (fun x hx => by
        rcases Hmem.out x hx with h | h
        · exact hall.out x h
        · rw [h]; omega)
      have hs2 : totB (l.take (i + 1)) = S + a.bytes.size := by rw [Hst.out, HS.out]
      have Hs2 := Lib.hid hs2
      clear hs2
      refine gg ?_
      refine KE.rnd2 (i + 1) (by
        refine ⟨rfl, ⟨?_, ⟨rfl, trivial⟩⟩⟩
        rw [Hs2.out]
        rfl) ⟨hlt, rfl, by rw [Hs2.out]; omega, hall2⟩ (by omega)
    · have hd : decide ((i : Int) < (n : Int)) = false := by simp; omega
      have hin : l.take i = l := List.take_of_length_le (by have := Hn.out; omega)
      rw [hin] at hall hsum
      clear hin
      refine gg ?_
      refine KR.fin1 Tryz.results8 rfl ⟨true, rfl, rfl, fun _ => ⟨by rw [Hn.out]; exact h4, hall.out, hsum⟩⟩
  · have hd0 : decide ((400 : Int) < (n : Int)) = true := by simp; omega
    refine calls_kn Tryz.func8 rfl Tryz.ntmps8 rfl ?_
    refine gg ?_
    refine KR.fin1 Tryz.results8 rfl ⟨false, rfl, rfl, fun h => by cases h⟩
end Go.Proofs.YtiddhcabpmkolaaGreatDoor
