/-
  reg: the reference's registry in memory; NewReg, at, Find, Len, Load, Under walked.
-/
import Derived.Test.YtmpbmfahnbbbdaaRgLU
import Derived.LoopTactic
import Derived.Deep.QuietTactic
import Derived.BigQuiet
set_option linter.unusedSimpArgs false
set_option linter.unusedVariables false
namespace Go.Proofs.Ytmpbmfahnbbbdaa
open Go.RowKit
set_option maxRecDepth 100000

def keyV (e : En Int) : Value := .string e.1
def idV (e : En Int) : Value := .int .i64 e.2
def rrL (g m : Nat) (A1 : Option Addr) (c1 : Nat) (A2 : Option Addr) (c2 n : Nat) (es : Es) : List Ch :=
  [blkC g 58 #[.int .i64 m, .slice A1 n c1, .slice A2 n c2], ownC 9 1 (.slice A1 n c1) n (es.map keyV), ownC 3 1 (.slice A2 n c2) n (es.map idV)]
def Rr (m : Nat) (w : World) (F : Nat → Prop) (g : Nat) (es : Es) : Prop := ∃ A1 c1 A2 c2, Star w F (rrL g m A1 c1 A2 c2 es.length es)
def rrC (m g : Nat) (es : Es) : Ch := ⟨fun w F => Rr m w F g es, fun ⟨A1, c1, A2, c2, h⟩ hF => ⟨A1, c1, A2, c2, h.imp hF⟩, fun ⟨A1, c1, A2, c2, h⟩ hk hd => ⟨A1, c1, A2, c2, h.kept hk hd⟩⟩
theorem info_id : (Try.prog.info? 3).map (fun i => (i.zero, i.size, i.bytes)) = some (some (.int .i64 0), 1, 8) := by kernel_rfl
theorem one_key (es : Es) : ∀ u ∈ es.map keyV, u.oneCell' = true := by
  intro u hu
  rw [List.mem_map] at hu
  obtain ⟨y, _, rfl⟩ := hu
  rfl
theorem one_id (es : Es) : ∀ u ∈ es.map idV, u.oneCell' = true := by
  intro u hu
  rw [List.mem_map] at hu
  obtain ⟨y, _, rfl⟩ := hu
  rfl
theorem rr_new (w : World) (a : Int) : Calls Try.prog 18 #[.int .i64 a] w fun e w' => e = .returned (ptrV w.heap.size) ∧ Rr (mS a) w' (fun b => w.heap.size ≤ b) w.heap.size [] ∧ Pure w w' := by
  have hmx : max a 1 = ((mS a : Nat) : Int) := by unfold mS; omega
  have hr : Run w (fun _ => False) (w.alloc (.cells #[.int .i64 (mS a : Nat), .slice none 0 0, .slice none 0 0] 58)) (rrL w.heap.size (mS a) none 0 none 0 0 []) :=
    ((((Run.start (F := fun _ => False) (w := w) (Ps := []) trivial).addNil 3 1).addNil 9 1).addBlk _ _)
  have Hr := Lib.hid hr
  clear hr
  generalize mS a = m at *
  go_enter Try.func18, Try.ntmps18
  go_wp2
  go_ret
  exact ⟨rfl, ⟨none, 0, none, 0, Hr.out.star.imp (fun b _ h => h.elim (fun h => h.elim) (fun h => h))⟩, Hr.out.kept⟩
set_option maxHeartbeats 1600000 in
theorem rr_at (w : World) (F : Nat → Prop) (m g : Nat) (es : Es) (k : ByteArray) (h : Rr m w F g es) (hz : es.length ≤ 100000) :
    Calls Try.prog 35 #[ptrV g, .string k] w fun e w' => e = .returned (.tuple #[.int .i64 (low es (kb k) : Nat), .bool (has es (kb k))]) ∧ Pure w w' := by
  obtain ⟨A1, c1, A2, c2, h⟩ := h
  have hr := Run.start h
  have hb := hr.blk 0 rfl
  have hs := (hr.own 1 rfl).sl
  have hc := hb.cell
  obtain ⟨n, hn⟩ : ∃ n, es.length = n := ⟨_, rfl⟩
  rw [hn] at hc hs hz
  have Hs := Lib.hid hs
  have Hn := Lib.hid hn
  clear h hr hb hs hn
  go_enter Try.func35, Try.ntmps35
  go_wp2
  go_loopw [6] (fun i wr => ∃ j : Nat, i = .int .i64 j ∧ j ≤ n ∧ Hid (∀ p e, p < j → es[p]? = some e → kb e.1 < kb k) ∧ wr = w) (fun i _ => n - (intOf i).toNat)
  case atStart => exact ⟨0, rfl, Nat.zero_le _, fun p e h => by omega, rfl⟩
  case round =>
    obtain ⟨j, rfl, hjn, hj, hw⟩ := hrel
    obtain rfl := hw.symm
    by_cases hlt : j < n
    · obtain ⟨e, he⟩ : ∃ e, es[j]? = some e := ⟨_, List.getElem?_eq_getElem (by have := Hn.out; omega)⟩
      obtain ⟨b, o, rfl, _, _, _⟩ := Hs.out.2 (by omega)
      have hcx := sl_one1 Hs.out (i := j) (x := .string e.1) (by rw [List.getElem?_map, he]; rfl)
      have hji : (j : Int) < (n : Int) := by omega
      by_cases hlk : kb e.1 < kb k
      · have hbl : Op.bytesLess e.1.toList k.toList = true := by rw [str_lt]; simpa using hlk
        have He := Lib.hid he
        obtain ⟨e1, e2⟩ := e
        simp only at hbl hcx
        clear he
        go_wp2
        go_roundw
        case measure => simp [intOf]; omega
        case rel => exact ⟨j + 1, by first | rfl | go_num, by omega, fun p x hp hx => by
          by_cases hpj : p = j
          · subst hpj
            have := He.out
            rw [hx] at this
            injection this with this
            rw [this]; exact hlk
          · exact hj.out p x (by omega) hx, by first | rfl | trivial⟩
      · have hbl : Op.bytesLess e.1.toList k.toList = false := by rw [str_lt]; simpa using hlk
        have hlow : low es (kb k) = j := low_of es j (by have := Hn.out; omega) hj.out (fun x hx => by rw [he] at hx; injection hx with hx; rw [← hx]; exact hlk)
        have hhas : has es (kb k) = (e.1.toList == k.toList) := by
          unfold has
          rw [hlow, he, str_same, Bool.eq_iff_iff]
          simp only [beq_iff_eq, decide_eq_true_eq]
          exact kb_inj
        obtain ⟨V, hV⟩ : ∃ V, (e.1.toList == k.toList) = V := ⟨_, rfl⟩
        rw [hV] at hhas
        have Hlow := Lib.hid hlow
        have Hhas := Lib.hid hhas
        obtain ⟨e1, e2⟩ := e
        simp only at hbl hcx hV
        clear hlow hhas he
        go_wp2
        go_quiet (fail)
        go_wp2
        go_ret2
        exact ⟨by rw [Hlow.out, Hhas.out]; rfl, (Kept.refl _ _).drewN _⟩
    · obtain rfl : j = n := by omega
      have hlow : low es (kb k) = j := low_of es j (by have := Hn.out; omega) hj.out (fun x hx => by have := (List.getElem?_eq_some_iff.1 hx).1; have := Hn.out; omega)
      have hhas : has es (kb k) = false := by
        unfold has
        rw [hlow, List.getElem?_eq_none (by have := Hn.out; omega)]
      have Hlow := Lib.hid hlow
      have Hhas := Lib.hid hhas
      clear hlow hhas
      go_wp2
      go_ret2
      exact ⟨by rw [Hlow.out, Hhas.out]; rfl, Kept.refl _ _⟩
theorem low_lt {α : Type} {es : List (En α)} {t : List UInt8} (h : has es t = true) : low es t < es.length := by
  unfold has at h
  cases hl : es[low es t]? with
  | none => rw [hl] at h; cases h
  | some e => exact (List.getElem?_eq_some_iff.1 hl).1
theorem rr_find (w : World) (F : Nat → Prop) (m g : Nat) (es : Es) (k : ByteArray) (h : Rr m w F g es) (hz : es.length ≤ 100000) :
    Calls Try.prog 21 #[ptrV g, .string k] w fun e w' => e = .returned (.int .i64 (fdE es k)) ∧ Pure w w' := by
  have C1 := rr_at w F m g es k h hz
  cases hh : has es (kb k) with
  | false =>
    rw [hh] at C1
    have hfd : fdE es k = -1 := by
      rw [has_val] at hh
      unfold fdE
      cases hx : valAt es (kb k) with
      | none => rfl
      | some v => rw [hx] at hh; cases hh
    have C1 := Lib.hid C1
    have Hfd := Lib.hid hfd
    clear h hh hfd
    go_enter Try.func21, Try.ntmps21
    go_wp2_with fail
    refine (C1.out).mono ?_
    rintro e w1 ⟨rfl, hk1⟩
    go_wp2
    go_ret
    exact ⟨by rw [Hfd.out]; rfl, hk1⟩
  | true =>
    rw [hh] at C1
    have hll := low_lt hh
    obtain ⟨e, he⟩ : ∃ e, es[low es (kb k)]? = some e := ⟨_, List.getElem?_eq_getElem hll⟩
    have hfd : fdE es k = e.2 := by
      have hk : kb e.1 = kb k := by
        unfold has at hh
        rw [he] at hh
        simpa using hh
      unfold fdE valAt
      rw [he]
      simp only [hk, if_true]
      rfl
    generalize low es (kb k) = i at *
    obtain ⟨A1, c1, A2, c2, h⟩ := h
    have hr := Run.start h
    have hcc : ∀ wx, Pure w wx → Blk wx g 58 #[.int .i64 m, .slice A1 es.length c1, .slice A2 es.length c2] ∧ Sl wx (fun b => F b ∨ w.heap.size ≤ b) 1 A2 es.length (es.map idV) := fun wx hp => ⟨(hr.pure hp).blk 0 rfl, ((hr.pure hp).own 2 rfl).sl⟩
    have Hcc := Lib.hid hcc
    have C1 := Lib.hid C1
    have Hfd := Lib.hid hfd
    have He := Lib.hid he
    clear h hr hh hfd he hcc
    go_enter Try.func21, Try.ntmps21
    go_wp2_with fail
    refine (C1.out).mono ?_
    rintro e w1 ⟨rfl, hk1⟩
    obtain ⟨hb, hs⟩ := Hcc.out w1 hk1
    have hc := hb.cell
    obtain ⟨b, o, rfl, -, -, -⟩ := hs.2 (by omega)
    have hcx := sl_one1 hs (i := i) (x := .int .i64 e.2) (by rw [List.getElem?_map, He.out]; rfl)
    have hil : (i : Int) < (es.length : Int) := by omega
    obtain ⟨e1, e2⟩ := e
    simp only at hcx
    clear hb hs
    go_wp2
    go_ret
    exact ⟨by rw [Hfd.out]; rfl, hk1⟩
theorem rr_len (w : World) (F : Nat → Prop) (m g : Nat) (es : Es) (h : Rr m w F g es) :
    Calls Try.prog 22 #[ptrV g] w fun e w' => e = .returned (.int .i64 (es.length : Nat)) ∧ w' = w := by
  obtain ⟨A1, c1, A2, c2, h⟩ := h
  have hc := ((Run.start h).blk 0 rfl).cell
  clear h
  go_enter Try.func22, Try.ntmps22
  go_wp2
  go_ret
  exact ⟨rfl, rfl⟩
end Go.Proofs.Ytmpbmfahnbbbdaa
