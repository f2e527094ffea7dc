/-
  The reference's reader: Text.
-/
import Derived.Test.YtlmfpadlgdmflaaRdB
set_option linter.unusedSimpArgs false
set_option linter.unusedVariables false
namespace Go.Proofs.Ytlmfpadlgdmflaa
open Go.RowKit
set_option maxRecDepth 100000

def TextR (w : World) (F : Nat → Prop) (g : Nat) (l : List UInt8) (s : Pk.St) (e : Ending) (w' : World) : Prop := e = .returned (.string ⟨l.toArray⟩) ∧ Rr w' F g s ∧ Kept (· = g) w w'
theorem TextR.mk' {w w' : World} {F : Nat → Prop} {g : Nat} {s : Pk.St} (h : Rr w' F g s) (k : Kept (· = g) w w') : TextR w F g [] s (.returned (.string ⟨#[]⟩)) w' := ⟨rfl, h, k⟩

set_option maxHeartbeats 1600000 in
theorem rtext_ok (w : World) (F : Nat → Prop) (g : Nat) (s : Pk.St) (most : Int) (h : Rr w F g s) (he : s.err = 0) (m k : Nat) (hf : Pk.front (s.l.drop s.at_) = ((m : Int), k, 0)) (hk0 : 0 < k) (hk : s.at_ + k + m ≤ s.l.length) (hm : (m : Int) ≤ most) :
    Calls Try.prog 37 #[.pointer (some ⟨g, 0, none⟩), .int .i64 most] w (TextR w F g ((s.l.drop (s.at_ + k)).take m) { s with at_ := s.at_ + k + m }) := by
  have hn := Lib.hid (look_ok w F g s h m k hf)
  have H := Lib.hid (fun nd => (h.drewN nd).setAt (s.at_ + k + m) hk)
  obtain ⟨c1, c2, f1, f2⟩ := h.cells
  rw [he] at c2
  obtain ⟨hF, h1, h2, A, c, hc1, hc2, hb, hs⟩ := h
  unfold maxLen at hc2
  have c0 := hb.cell 0
  simp at c0
  have h14 : (m : Int) ≤ (s.l.length : Int) - ((s.at_ : Int) + (k : Int)) := by omega
  obtain ⟨b, o, rfl, hb1, hb2, _⟩ := hs.2 (by omega)
  have hsc := hs.cut (s.at_ + k) m hk
  by_cases hcut : c = s.at_ + k
  · obtain rfl : m = 0 := by omega
    have hcv := Lib.hid (fun w' (hk : Kept (· = g) w w') (c : Nat) => run_str (P := Try.prog) (l := []) ((Sl.nil w (fun b => F b ∧ b ≠ g) 1 (some ⟨b, o, none⟩)).kept hk fun b _ hb => hb.2) 22 9 5 c Try.underlying22 Try.underlying5 Try.underlying9)
    clear hs hsc hb he hf
    subst hcut
    simp only [List.take_zero]
    go_enter Try.func37, Try.ntmps37
    go_wp2_with fail
    refine (hn.out).mono ?_
    rintro e w1 ⟨rfl, nd, rfl⟩
    go_wp2
    have hkw : Kept (· = g) w ((w.drewN nd).setCell ⟨g, 1, none⟩ (.int .i64 ((s.at_ : Int) + k))) := ((Kept.refl (· = g) w).drewN nd).setCell (p := ⟨g, _, none⟩) (.inl rfl) _
    have hcv' := fun n => hcv.out _ (hkw.drewN n) 0
    have hlen : ((s.at_ : Int) + k).toNat - (s.at_ + k) = 0 := by omega
    clear hkw
    go_quiet (fail)
    go_wp2
    go_ret
    have e : (((s.at_ + k + 0 : Nat) : Int)) = (s.at_ : Int) + k := by omega
    have H' := H.out nd
    rw [e] at H'
    exact ⟨rfl, H'.1.kept (S := fun _ => False) ((Kept.refl _ _).drewN _) (fun _ _ _ h => h), (((Kept.refl _ _).drewN nd).same H'.2).drewN _⟩
  · have hcv := Lib.hid (fun w' (hk : Kept (· = g) w w') (c : Nat) => run_str (P := Try.prog) (hsc.kept hk fun b _ hb => hb.2) 22 9 5 c Try.underlying22 Try.underlying5 Try.underlying9)
    clear hs hsc hb he hf
    go_enter Try.func37, Try.ntmps37
    go_wp2_with fail
    refine (hn.out).mono ?_
    rintro e w1 ⟨rfl, nd, rfl⟩
    go_wp2
    have hkw : Kept (· = g) w ((w.drewN nd).setCell ⟨g, 1, none⟩ (.int .i64 ((s.at_ : Int) + k + m))) := ((Kept.refl (· = g) w).drewN nd).setCell (p := ⟨g, _, none⟩) (.inl rfl) _
    have hcv' := fun n => hcv.out _ (hkw.drewN n) (c - (s.at_ + k))
    have hlen : ((s.at_ : Int) + k + m).toNat - (s.at_ + k) = m := by omega
    clear hkw
    go_quiet (fail)
    go_wp2
    go_ret
    have e : (((s.at_ + k + m : Nat) : Int)) = (s.at_ : Int) + k + m := by omega
    have H' := H.out nd
    rw [e] at H'
    exact ⟨rfl, H'.1.kept (S := fun _ => False) ((Kept.refl _ _).drewN _) (fun _ _ _ h => h), (((Kept.refl _ _).drewN nd).same H'.2).drewN _⟩

set_option maxHeartbeats 1600000 in
theorem rtext_any (w : World) (F : Nat → Prop) (g : Nat) (s : Pk.St) (most : Int) (h : Rr w F g s) :
    Calls Try.prog 37 #[.pointer (some ⟨g, 0, none⟩), .int .i64 most] w (TextR w F g (s.text most).1 (s.text most).2) := by
  obtain ⟨c1, c2, f1, f2⟩ := h.cells
  have c0 : ∃ A c, w.cell? ⟨g, 0, none⟩ = some (.slice A s.l.length c) := by
    obtain ⟨hF, h1, h2, A, c, hc1, hc2, hb, hs⟩ := h
    exact ⟨A, c, by simpa using hb.cell 0⟩
  have hlen : s.l.length ≤ 1048576 := h.2.2.1
  by_cases he : s.err = 0
  · rw [he] at c2
    rcases Pk.front_ways (s.l.drop s.at_) with ⟨e, hf, hee⟩ | ⟨n, k, hf, hn0, hn1, hk0, hk1⟩
    · have hs : s.text most = ([], { s with err := e }) := by
        unfold Pk.St.text
        rw [if_neg (by simpa using he), hf]
        simp only
        rw [if_pos (by omega)]
      rw [hs]
      have hne : (e != 0) = true := by simp; omega
      have hn := Lib.hid (look_bad w F g s h e hf (by omega))
      have H := Lib.hid (fun n => (h.drewN n).setErr e)
      clear hs hf he h hee c0
      go_enter Try.func37, Try.ntmps37
      go_wp2_with fail
      refine (hn.out).mono ?_
      rintro e w1 ⟨rfl, nd, rfl⟩
      go_wp2
      go_ret
      exact TextR.mk' (H.out _).1 (((Kept.refl _ _).drewN nd).same (H.out _).2)
    · have hk2 : s.at_ + k ≤ s.l.length := by simp at hk1; omega
      have hn := Lib.hid (look_ok w F g s h n k hf)
      by_cases h14 : n > (s.l.length : Int) - (s.at_ + k : Nat)
      · have hs : s.text most = ([], { s with err := 14 }) := by
          unfold Pk.St.text
          rw [if_neg (by simpa using he), hf]
          simp only
          rw [if_neg (by simp), if_pos h14]
        rw [hs]
        obtain ⟨A, c, c0⟩ := c0
        have H := Lib.hid (fun n => (h.drewN n).setErr 14)
        have h14' : (s.l.length : Int) - ((s.at_ : Int) + (k : Int)) < n := by omega
        clear hs hf he h h14
        go_enter Try.func37, Try.ntmps37
        go_wp2_with fail
        refine (hn.out).mono ?_
        rintro e w1 ⟨rfl, nd, rfl⟩
        go_wp2
        go_ret
        exact TextR.mk' (H.out _).1 (((Kept.refl _ _).drewN nd).same (H.out _).2)
      · by_cases h2 : n > most
        · have hs : s.text most = ([], { s with err := 2 }) := by
            unfold Pk.St.text
            rw [if_neg (by simpa using he), hf]
            simp only
            rw [if_neg (by simp), if_neg h14, if_pos h2]
          rw [hs]
          obtain ⟨A, c, c0⟩ := c0
          have H := Lib.hid (fun n => (h.drewN n).setErr 2)
          have h14' : n ≤ (s.l.length : Int) - ((s.at_ : Int) + (k : Int)) := by omega
          clear hs hf he h h14
          go_enter Try.func37, Try.ntmps37
          go_wp2_with fail
          refine (hn.out).mono ?_
          rintro e w1 ⟨rfl, nd, rfl⟩
          go_wp2
          go_ret
          exact TextR.mk' (H.out _).1 (((Kept.refl _ _).drewN nd).same (H.out _).2)
        · obtain ⟨m, rfl⟩ := Int.eq_ofNat_of_zero_le hn0
          have hs : s.text most = ((s.l.drop (s.at_ + k)).take m, { s with at_ := s.at_ + k + m }) := by
            unfold Pk.St.text
            rw [if_neg (by simpa using he), hf]
            simp only
            rw [if_neg (by simp), if_neg h14, if_neg h2]
            rfl
          rw [hs]
          exact rtext_ok w F g s most h he m k hf hk0 (by omega) (by omega)
  · have hs : s.text most = ([], s) := by
      unfold Pk.St.text
      rw [if_pos (by simpa using he)]
    rw [hs]
    have hne : (s.err != 0) = true := by simp; omega
    have H := Lib.hid h
    clear hs he h c0
    go_enter Try.func37, Try.ntmps37
    go_wp2
    go_ret
    exact TextR.mk' H.out (Kept.refl _ _)
end Go.Proofs.Ytlmfpadlgdmflaa
