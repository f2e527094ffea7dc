/-
  The reference's reader: Num, small, mark, Left.
-/
import Derived.Test.YtlmfpadlgdmflaaRdA
set_option linter.unusedSimpArgs false
set_option linter.unusedVariables false
namespace Go.Proofs.Ytlmfpadlgdmflaa
open Go.RowKit
set_option maxRecDepth 100000

def NumR (w : World) (F : Nat → Prop) (g : Nat) (v : Value) (s : Pk.St) (e : Ending) (w' : World) : Prop := e = .returned v ∧ Rr w' F g s ∧ Kept (· = g) w w'

set_option maxHeartbeats 800000 in
theorem rnum_any (w : World) (F : Nat → Prop) (g : Nat) (s : Pk.St) (h : Rr w F g s) :
    Calls Try.prog 36 #[.pointer (some ⟨g, 0, none⟩)] w (NumR w F g (.int .i64 s.num.1) s.num.2) := by
  obtain ⟨c1, c2, f1, f2⟩ := h.cells
  by_cases he : s.err = 0
  · rw [he] at c2
    rcases Pk.front_ways (s.l.drop s.at_) with ⟨e, hf, hee⟩ | ⟨n, k, hf, hn0, hn1, hk0, hk1⟩
    · have hs : s.num = (0, { s with err := e }) := by
        unfold Pk.St.num
        rw [if_neg (by simpa using he), hf]
        simp only
        rw [if_pos (by omega)]
      rw [hs]
      have hne : (e != 0) = true := by simp; omega
      have hn := Lib.hid (look_bad w F g s h e hf (by omega))
      have H := Lib.hid (fun n => (h.drewN n).setErr e)
      clear hs hf he h hee
      go_enter Try.func36, Try.ntmps36
      go_wp2_with fail
      refine (hn.out).mono ?_
      rintro e w1 ⟨rfl, nd, rfl⟩
      go_wp2
      go_ret
      exact ⟨rfl, (H.out _).1, ((Kept.refl _ _).drewN nd).same (H.out _).2⟩
    · have hs : s.num = (n, { s with at_ := s.at_ + k }) := by
        unfold Pk.St.num
        rw [if_neg (by simpa using he), hf]
        simp
      rw [hs]
      have hn := Lib.hid (look_ok w F g s h n k hf)
      have H := Lib.hid (fun nd => (h.drewN nd).setAt (s.at_ + k) (by simp at hk1; have := h.2.1; omega))
      clear hs hf he h
      go_enter Try.func36, Try.ntmps36
      go_wp2_with fail
      refine (hn.out).mono ?_
      rintro e w1 ⟨rfl, nd, rfl⟩
      go_wp2
      go_ret
      exact ⟨rfl, (H.out _).1, ((Kept.refl _ _).drewN nd).same (H.out _).2⟩
  · have hs : s.num = (0, s) := by
      unfold Pk.St.num
      rw [if_pos (by simpa using he)]
    rw [hs]
    have hne : (s.err != 0) = true := by simp; omega
    have H := Lib.hid h
    clear hs he h
    go_enter Try.func36, Try.ntmps36
    go_wp2
    go_ret
    exact ⟨rfl, H.out, Kept.refl _ _⟩

def smallS (s : Pk.St) : Int × Pk.St := if s.num.1 > 2147483647 then (0, { s.num.2 with err := 1 }) else s.num
def markS (s : Pk.St) : Bool × Pk.St := (s.num.1 == 1, if s.num.2.err = 0 ∧ s.num.1 > 1 then { s.num.2 with err := 1 } else s.num.2)
set_option maxHeartbeats 800000 in
theorem rsmall_any (w : World) (F : Nat → Prop) (g : Nat) (s : Pk.St) (h : Rr w F g s) :
    Calls Try.prog 35 #[.pointer (some ⟨g, 0, none⟩)] w (NumR w F g (.int .i64 (smallS s).1) (smallS s).2) := by
  have hn := Lib.hid (rnum_any w F g s h)
  unfold smallS
  generalize s.num = p at *
  obtain ⟨n, s1⟩ := p
  clear h
  simp only at hn ⊢
  by_cases hb : n > 2147483647
  · rw [if_pos hb]
    go_enter Try.func35, Try.ntmps35
    go_wp2_with fail
    refine (hn.out).mono ?_
    rintro e w1 ⟨rfl, h1, hk⟩
    obtain ⟨c1, c2, f1, f2⟩ := h1.cells
    have H := Lib.hid (h1.setErr 1)
    clear h1
    go_wp2
    go_ret
    exact ⟨rfl, H.out.1, hk.same H.out.2⟩
  · rw [if_neg hb]
    go_enter Try.func35, Try.ntmps35
    go_wp2_with fail
    refine (hn.out).mono ?_
    rintro e w1 ⟨rfl, h1, hk⟩
    go_wp2
    go_ret
    exact ⟨rfl, h1, hk⟩
set_option maxHeartbeats 800000 in
theorem rmark_any (w : World) (F : Nat → Prop) (g : Nat) (s : Pk.St) (h : Rr w F g s) :
    Calls Try.prog 38 #[.pointer (some ⟨g, 0, none⟩)] w (NumR w F g (.bool (markS s).1) (markS s).2) := by
  have hn := Lib.hid (rnum_any w F g s h)
  unfold markS
  generalize s.num = p at *
  obtain ⟨n, s1⟩ := p
  clear h
  simp only at hn ⊢
  by_cases he : s1.err = 0
  · have he' : (s1.err == 0) = true := by simp [he]
    by_cases hb : n > 1
    · rw [if_pos ⟨he, hb⟩]
      clear he
      go_enter Try.func38, Try.ntmps38
      go_wp2_with fail
      refine (hn.out).mono ?_
      rintro e w1 ⟨rfl, h1, hk⟩
      obtain ⟨c1, c2, f1, f2⟩ := h1.cells
      have H := Lib.hid (h1.setErr 1)
      clear h1
      go_wp2
      go_ret
      exact ⟨rfl, H.out.1, hk.same H.out.2⟩
    · rw [if_neg (fun h => hb h.2)]
      clear he
      go_enter Try.func38, Try.ntmps38
      go_wp2_with fail
      refine (hn.out).mono ?_
      rintro e w1 ⟨rfl, h1, hk⟩
      obtain ⟨c1, c2, f1, f2⟩ := h1.cells
      go_wp2
      go_ret
      exact ⟨rfl, h1, hk⟩
  · rw [if_neg (fun h => he h.1)]
    have he' : (s1.err == 0) = false := by simpa using he
    clear he
    go_enter Try.func38, Try.ntmps38
    go_wp2_with fail
    refine (hn.out).mono ?_
    rintro e w1 ⟨rfl, h1, hk⟩
    obtain ⟨c1, c2, f1, f2⟩ := h1.cells
    go_wp2
    go_ret
    exact ⟨rfl, h1, hk⟩
set_option maxHeartbeats 400000 in
theorem rleft_any (w : World) (F : Nat → Prop) (g : Nat) (s : Pk.St) (h : Rr w F g s) :
    Calls Try.prog 39 #[.pointer (some ⟨g, 0, none⟩)] w fun e w' => e = .returned (.int .i64 s.left) ∧ ∃ n, w' = w.drewN n := by
  obtain ⟨hF, h1, h2, A, c, hc1, hc2, hb, hs⟩ := h
  have h0 := hb.cell 0
  have h3 := hb.cell 1
  simp at h0 h3
  go_enter Try.func39, Try.ntmps39
  go_wp2
  go_quiet (fail)
  go_wp2
  go_ret
  exact ⟨rfl, nq, rfl⟩
end Go.Proofs.Ytlmfpadlgdmflaa
