/- pack's walks: Text of the reader, where all is well -/
import Derived.Test.YtlmfpadlgdmflaaPackA
namespace Go.Proofs.Ytlmfpadlgdmflaa
set_option linter.unusedSimpArgs false
set_option linter.unusedVariables false
open Go.RowKit
set_option maxRecDepth 100000
set_option linter.unusedVariables false
def TextPost (w : World) (F : Nat → Prop) (g : Nat) (l : List UInt8) (s : Pk.St) (e : Ending) (w' : World) : Prop := e = .returned (.string ⟨l.toArray⟩) ∧ Rd w' F g s ∧ Kept (· = g) w w'

set_option maxHeartbeats 800000 in
theorem text_ok (w : World) (F : Nat → Prop) (g : Nat) (s : Pk.St) (most : Int) (h : Rd w F g s) (he : s.err = 0) (m k : Nat) (hf : Pk.front (s.l.drop s.at_) = ((m : Int), k, 0)) (hk0 : 0 < k) (hk : s.at_ + k + m ≤ s.l.length) (hm : (m : Int) ≤ most) :
    Calls Try.prog 19 #[.pointer (some ⟨g, 0, none⟩), .int .i64 most] w (TextPost w F g ((s.l.drop (s.at_ + k)).take m) { s with at_ := s.at_ + k + m }) := by
  have hn := Lib.hid (number_ok w F g s h m k hf)
  have H := Lib.hid (h.setAt (s.at_ + k + m) hk)
  obtain ⟨c1, c2, f1, f2⟩ := h.cells
  rw [he] at c2
  obtain ⟨hF, h1, h2, A, c, hc1, hc2, hb, hs⟩ := h
  unfold maxLen at hc2
  have c0 := hb.cell 0
  simp at c0
  have h14 : (m : Int) ≤ (s.l.length : Int) - ((s.at_ : Int) + (k : Int)) := by omega
  obtain ⟨b, o, rfl, hb1, hb2, _⟩ := hs.2 (by omega)
  have hsc := hs.cut (s.at_ + k) m hk
  by_cases hcut : c = s.at_ + k
  · obtain rfl : m = 0 := by omega
    have hcv := Lib.hid (fun w' (hk : Kept (· = g) w w') (c : Nat) => run_str (P := Try.prog) (l := []) ((Sl.nil w (fun b => F b ∧ b ≠ g) 1 (some ⟨b, o, none⟩)).kept hk fun b _ hb => hb.2) 22 9 5 c Try.underlying22 Try.underlying5 Try.underlying9)
    clear hs hsc hb he hf
    subst hcut
    simp only [List.take_zero]
    go_enter Try.func19, Try.ntmps19
    go_wp2_with fail
    refine hn.out.mono ?_
    rintro e1 w1 ⟨rfl, rfl⟩
    go_wp2
    have hkw : Kept (· = g) w (w.setCell ⟨g, 1, none⟩ (.int .i64 ((s.at_ : Int) + k))) := (Kept.refl (· = g) w).setCell (p := ⟨g, _, none⟩) (.inl rfl) _
    have hcv' := fun n => hcv.out _ (hkw.drewN n) 0
    have hlen : ((s.at_ : Int) + k).toNat - (s.at_ + k) = 0 := by omega
    clear hkw
    go_quiet (fail)
    go_wp2
    go_ret
    have e : (((s.at_ + k + 0 : Nat) : Int)) = (s.at_ : Int) + k := by omega
    have H' := H.out
    rw [e] at H'
    exact ⟨rfl, H'.1.kept (S := fun _ => False) ((Kept.refl _ _).drewN _) (fun _ _ _ h => h), H'.2.drewN _⟩
  · have hcv := Lib.hid (fun w' (hk : Kept (· = g) w w') (c : Nat) => run_str (P := Try.prog) (hsc.kept hk fun b _ hb => hb.2) 22 9 5 c Try.underlying22 Try.underlying5 Try.underlying9)
    clear hs hsc hb he hf
    go_enter Try.func19, Try.ntmps19
    go_wp2_with fail
    refine hn.out.mono ?_
    rintro e1 w1 ⟨rfl, rfl⟩
    go_wp2
    have hkw : Kept (· = g) w (w.setCell ⟨g, 1, none⟩ (.int .i64 ((s.at_ : Int) + k + m))) := (Kept.refl (· = g) w).setCell (p := ⟨g, _, none⟩) (.inl rfl) _
    have hcv' := fun n => hcv.out _ (hkw.drewN n) (c - (s.at_ + k))
    have hlen : ((s.at_ : Int) + k + m).toNat - (s.at_ + k) = m := by omega
    clear hkw
    go_quiet (fail)
    go_wp2
    go_ret
    have e : (((s.at_ + k + m : Nat) : Int)) = (s.at_ : Int) + k + m := by omega
    have H' := H.out
    rw [e] at H'
    exact ⟨rfl, H'.1.kept (S := fun _ => False) ((Kept.refl _ _).drewN _) (fun _ _ _ h => h), H'.2.drewN _⟩
end Go.Proofs.Ytlmfpadlgdmflaa
