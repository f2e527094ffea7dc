/-
  play: hex walked; letters of a text, bytes.
-/
import Derived.Laws.BitsLemmas
import Derived.Test.YtiddhcabpmkolaaGreatDoorZPlV
import Derived.Test.YtiddhcabpmkolaaGreatDoorZKz
set_option linter.unusedSimpArgs false
set_option linter.unusedVariables false
namespace Go.Proofs.YtiddhcabpmkolaaGreatDoor
open Go.RowKit
set_option maxRecDepth 100000
open Go
section
variable {P : Program} {n d : Nat} {ops : Array Oper} {o : Oper} {rest l : List Oper} {Q : Exit → Act → World → Prop} {k : Kn} {w : World} {v : Value} {x y : Operand} {ty ty' : TypeId} {u u1 u2 : Value} {a b : Int}
theorem run_shr4 : (do eqGuard .shr ty x y (.int .u8 a) (.int .u64 4); binOp .shr ty (.int .u8 a) (.int .u64 4) : Sem Value).run P w = .ok (.int .u8 (a / 16)) w := by
  have h : Op.shift .shr .u8 a .u64 4 = pure (.int .u8 (a / 2 ^ (4 : Int).toNat)) := shift_shr .u8 .u64 a 4 (by decide) (by decide)
  have h2 : a / 2 ^ (4 : Int).toNat = a / 16 := rfl
  simp only [eqGuard_shr, binOp_shr, h, h2, Sem.run_bind]
  rfl
theorem run_and15 (h0 : 0 ≤ a) (h1 : a < 256) : (do eqGuard .and ty x y (.int .u8 a) (.int .u8 15); binOp .and ty (.int .u8 a) (.int .u8 15) : Sem Value).run P w = .ok (.int .u8 (a % 16)) w := by
  simp only [eqGuard_and, binOp_and, intBits_and, u8_and15 a h0 h1, Sem.run_bind]
  rfl
end
def hexB (s : ByteArray) : ByteArray := ⟨(hexT s.data.toList).toArray⟩
def digs16 : ByteArray := { data := #[48, 49, 50, 51, 52, 53, 54, 55, 56, 57, 97, 98, 99, 100, 101, 102] }
theorem dig_fin : ∀ j : Fin 16, digs16.data.toList[j.val]? = some (hexD j.val) := by decide
theorem dig_at {j : Nat} (h : j < 16) : digs16.data.toList[j]? = some (hexD j) := dig_fin ⟨j, h⟩
theorem hexL_len : ∀ l : List UInt8, (hexL l).length = 2 * l.length
  | [] => rfl
  | b :: r => by rw [hexL, List.length_cons, List.length_cons, hexL_len r, List.length_cons]; omega
theorem hexL_app : ∀ a b : List UInt8, hexL (a ++ b) = hexL a ++ hexL b
  | [], _ => rfl
  | c :: r, b => by rw [List.cons_append, hexL, hexL_app r b, hexL]; rfl
theorem info_u8 : (Tryz.prog.info? 5).map (fun i => (i.zero, i.size, i.bytes)) = some (some (.int .u8 0), 1, 1) := by kernel_rfl
set_option maxHeartbeats 1600000 in
theorem pl_hex (s : ByteArray) (w : World) (hs : s.size ≤ 100000) : Calls Tryz.prog 33 #[.string s] w fun e w' => e = .returned (.string (hexB s)) ∧ Pure w w' := by
  obtain ⟨l, hl⟩ : ∃ l, s.data.toList = l := ⟨_, rfl⟩
  have hn : l.length = s.size := by rw [← hl]; simp
  unfold hexB
  rw [hl]
  by_cases h0 : l = []
  · subst h0
    have hd : decide (s = ⟨#[]⟩) = true := decide_eq_true (by
      apply ByteArray.ext
      apply Array.toList_inj.1
      exact hl)
    clear hn hl hs
    refine calls_kn Tryz.func33 rfl Tryz.ntmps33 rfl ?_
    refine gg ?_
    refine KR.fin1 Tryz.results33 rfl ⟨rfl, Kept.refl _ _⟩
  · have hd : decide (s = ⟨#[]⟩) = false := decide_eq_false (fun e => h0 (by rw [← hl, e]))
    have ht : hexT l = hexL l := by unfold hexT; rw [if_neg h0]
    rw [ht]
    have Hl := Lib.hid hl
    have hr0 := Run.start (F := fun _ => False) (w := w) (Ps := []) trivial
    have Hn := Lib.hid hn
    clear hn hl h0 ht
    refine calls_kn Tryz.func33 rfl Tryz.ntmps33 rfl ?_
    refine gg ?_
    refine kp ?_ oMul
    refine KL.make0 hr0 Tryz.underlying50 info_u8 (m := 2 * s.size) (by omega) (by omega) (by decide) rfl rfl rfl rfl rfl rfl ?_
    intro A0 c0 w0 hr1
    have Hr := Lib.hid hr1
    clear hr1 hr0 hd
    refine gg ?_
    refine KW.loop (ι := Nat × (Option Addr × Nat)) (fun p => [(0, .string s), (3, .slice p.2.1 (2 * p.1) p.2.2), (12, .int .i64 (s.size : Int)), (13, .int .i64 (p.1 : Int))]) (fun p w' => p.1 ≤ s.size ∧ Run w (fun _ => False) w' [ownC 5 1 (.slice p.2.1 (2 * p.1) p.2.2) (2 * p.1) (bvs (hexL (l.take p.1)))]) (fun p => s.size - p.1) (0, (A0, c0)) ⟨Nat.zero_le _, Hr.out⟩ (kle_ok (by repeat' (first | exact trivial | refine ⟨rfl, ?_⟩))) ?_
    rintro ⟨i, ⟨A, c⟩⟩ w1 ⟨hi, hr1⟩
    simp only at hi hr1
    have Hr1 := Lib.hid hr1
    clear hr1 Hr
    by_cases hlt : i < s.size
    · have hd : decide ((i : Int) < (s.size : Int)) = true := by simp; omega
      obtain ⟨b, hb⟩ : ∃ b, l[i]? = some b := ⟨_, List.getElem?_eq_getElem (by have := Hn.out; omega)⟩
      have hb0 : b.toNat < 256 := b.toNat_lt
      have Hb := Lib.hid hb
      have Hc := Lib.hid (show s.data.toList[i]? = some b by rw [Hl.out]; exact hb)
      clear hb
      refine gg ?_
      refine KW.regionT (fun _ => True) [11, 12] [0] [] (by kernel_rfl) (by kernel_rfl) (by kernel_rfl) (by kernel_rfl) trivial ?_
      refine gt ?_
      refine tp ?_ (oJ Hc.out)
      refine tp ?_ (oK (run_shr4 (a := (b.toNat : Int))))
      refine tp ?_ (oJ (dig_at (j := b.toNat / 16) (by omega)))
      refine gt ?_
      refine tp ?_ (oJ Hc.out)
      refine tp ?_ (oK (run_and15 (a := (b.toNat : Int)) (by omega) (by omega)))
      refine tp ?_ (oJ (dig_at (j := b.toNat % 16) (by omega)))
      refine KT.makes (v := .slice (some ⟨w1.drew.heap.size, 0, none⟩) 2 2) (w' := w1.drew.alloc (.cells #[.int .u8 ((hexD (b.toNat / 16)).toNat : Int), .int .u8 ((hexD (b.toNat % 16)).toNat : Int)] 5)) (by decide) rfl rfl rfl (fun ρ hρ => by have e := hρ (.tmp 21) _ rfl; have e' := hρ (.tmp 26) _ rfl; simp only [execOp]; go_simp; first | done | rfl) (fun _ => trivial) ?_
      have hsl := Sl.lit w1.drew #[.int .u8 ((hexD (b.toNat / 16)).toNat : Int), .int .u8 ((hexD (b.toNat % 16)).toNat : Int)] 5 1 2 (bvs [hexD (b.toNat / 16), hexD (b.toNat % 16)]) rfl rfl
      refine gt ?_
      refine KT.app (Hr1.out.drew.alloc _) 0 rfl Tryz.underlying50 info_u8 rfl (by omega) hsl (bvs_one _) (by omega) (by omega) (by decide) rfl rfl rfl rfl rfl rfl ?_
      clear hsl
      intro A5 c5 w5 e1 e2 e3 hr5
      refine ⟨fun _ => trivial, ?_⟩
      have hr6 : Run w (fun _ => False) w5 [ownC 5 1 (.slice A5 (2 * (i + 1)) c5) (2 * (i + 1)) (bvs (hexL (l.take (i + 1))))] := by
        have e : hexL (l.take (i + 1)) = hexL (l.take i) ++ [hexD (b.toNat / 16), hexD (b.toNat % 16)] := by
          rw [List.take_add_one, Hb.out, Option.toList_some, hexL_app]; rfl
        rw [e, bvs_append]
        exact hr5
      have Hr6 := Lib.hid hr6
      clear hr5 hr6 e1 e2 e3 hd
      refine gt ?_
      refine gg ?_
      refine KE.rnd (i + 1, (A5, c5)) (by repeat' (first | exact trivial | refine ⟨rfl, ?_⟩)) ⟨hlt, Hr6.out⟩ (by omega)
    · have hd : decide ((i : Int) < (s.size : Int)) = false := by simp; omega
      obtain rfl : i = s.size := by omega
      have hs1 := (Hr1.out.own 0 rfl).sl
      rw [List.take_of_length_le (by rw [Hn.out]; exact Nat.le_refl _)] at hs1
      refine gg ?_
      refine kp ?_ (oStr hs1 Tryz.underlying50 Tryz.underlying5)
      refine gg ?_
      refine KR.fin1 Tryz.results33 rfl ⟨rfl, Hr1.out.kept⟩
end Go.Proofs.YtiddhcabpmkolaaGreatDoor
