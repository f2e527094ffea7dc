/- pack's walks: Num and Text of the reader -/
import Derived.Test.YtlmfpadlgdmflaaPackT
namespace Go.Proofs.Ytlmfpadlgdmflaa
set_option linter.unusedSimpArgs false
set_option linter.unusedVariables false
open Go.RowKit
set_option maxRecDepth 100000
set_option linter.unusedVariables false

def NumPost (w : World) (F : Nat → Prop) (g : Nat) (n : Int) (s : Pk.St) (e : Ending) (w' : World) : Prop := e = .returned (.int .i64 n) ∧ Rd w' F g s ∧ Kept (· = g) w w'

set_option maxHeartbeats 400000 in
theorem num_any (w : World) (F : Nat → Prop) (g : Nat) (s : Pk.St) (h : Rd w F g s) :
    Calls Try.prog 12 #[.pointer (some ⟨g, 0, none⟩)] w (NumPost w F g s.num.1 s.num.2) := by
  obtain ⟨c1, c2, f1, f2⟩ := h.cells
  by_cases he : s.err = 0
  · rw [he] at c2
    rcases Pk.front_ways (s.l.drop s.at_) with ⟨e, hf, hee⟩ | ⟨n, k, hf, hn0, hn1, hk0, hk1⟩
    · have hs : s.num = (0, { s with err := e }) := by
        unfold Pk.St.num
        rw [if_neg (by simpa using he), hf]
        simp only
        rw [if_pos (by omega)]
      rw [hs]
      have hne : (e != 0) = true := by simp; omega
      have hn := Lib.hid (number_bad w F g s h e hf (by omega))
      have H := Lib.hid (h.setErr e)
      clear hs hf he h hee
      go_enter Try.func12, Try.ntmps12
      go_wp2_with fail
      refine hn.out.mono ?_
      rintro e1 w1 ⟨rfl, rfl⟩
      go_wp2
      go_ret
      exact ⟨rfl, H.out.1, H.out.2⟩
    · have hs : s.num = (n, { s with at_ := s.at_ + k }) := by
        unfold Pk.St.num
        rw [if_neg (by simpa using he), hf]
        simp
      rw [hs]
      have hn := Lib.hid (number_ok w F g s h n k hf)
      have H := Lib.hid (h.setAt (s.at_ + k) (by simp at hk1; have := h.2.1; omega))
      clear hs hf he h
      go_enter Try.func12, Try.ntmps12
      go_wp2_with fail
      refine hn.out.mono ?_
      rintro e1 w1 ⟨rfl, rfl⟩
      go_wp2
      go_ret
      exact ⟨rfl, H.out.1, H.out.2⟩
  · have hs : s.num = (0, s) := by
      unfold Pk.St.num
      rw [if_pos (by simpa using he)]
    rw [hs]
    have hne : (s.err != 0) = true := by simp; omega
    have H := Lib.hid h
    clear hs he h
    go_enter Try.func12, Try.ntmps12
    go_wp2
    go_ret
    exact ⟨rfl, H.out, Kept.refl _ _⟩


theorem TextPost.mk' {w w' : World} {F : Nat → Prop} {g : Nat} {s : Pk.St} (h : Rd w' F g s) (k : Kept (· = g) w w') : TextPost w F g [] s (.returned (.string ⟨#[]⟩)) w' := ⟨rfl, h, k⟩

set_option maxHeartbeats 800000 in
theorem text_any (w : World) (F : Nat → Prop) (g : Nat) (s : Pk.St) (most : Int) (h : Rd w F g s) :
    Calls Try.prog 19 #[.pointer (some ⟨g, 0, none⟩), .int .i64 most] w (TextPost w F g (s.text most).1 (s.text most).2) := by
  obtain ⟨c1, c2, f1, f2⟩ := h.cells
  have c0 : ∃ A c, w.cell? ⟨g, 0, none⟩ = some (.slice A s.l.length c) := by
    obtain ⟨hF, h1, h2, A, c, hc1, hc2, hb, hs⟩ := h
    exact ⟨A, c, by simpa using hb.cell 0⟩
  have hlen : s.l.length ≤ 1048576 := h.2.2.1
  by_cases he : s.err = 0
  · rw [he] at c2
    rcases Pk.front_ways (s.l.drop s.at_) with ⟨e, hf, hee⟩ | ⟨n, k, hf, hn0, hn1, hk0, hk1⟩
    · have hs : s.text most = ([], { s with err := e }) := by
        unfold Pk.St.text
        rw [if_neg (by simpa using he), hf]
        simp only
        rw [if_pos (by omega)]
      rw [hs]
      have hne : (e != 0) = true := by simp; omega
      have hn := Lib.hid (number_bad w F g s h e hf (by omega))
      have H := Lib.hid (h.setErr e)
      clear hs hf he h hee c0
      go_enter Try.func19, Try.ntmps19
      go_wp2_with fail
      refine hn.out.mono ?_
      rintro e1 w1 ⟨rfl, rfl⟩
      go_wp2
      go_ret
      exact TextPost.mk' H.out.1 H.out.2
    · have hk2 : s.at_ + k ≤ s.l.length := by simp at hk1; omega
      have hn := Lib.hid (number_ok w F g s h n k hf)
      by_cases h14 : n > (s.l.length : Int) - (s.at_ + k : Nat)
      · have hs : s.text most = ([], { s with err := 14 }) := by
          unfold Pk.St.text
          rw [if_neg (by simpa using he), hf]
          simp only
          rw [if_neg (by simp), if_pos h14]
        rw [hs]
        obtain ⟨A, c, c0⟩ := c0
        have H := Lib.hid (h.setErr 14)
        have h14' : (s.l.length : Int) - ((s.at_ : Int) + (k : Int)) < n := by omega
        clear hs hf he h h14
        go_enter Try.func19, Try.ntmps19
        go_wp2_with fail
        refine hn.out.mono ?_
        rintro e1 w1 ⟨rfl, rfl⟩
        go_wp2
        go_ret
        exact TextPost.mk' H.out.1 H.out.2
      · by_cases h2 : n > most
        · have hs : s.text most = ([], { s with err := 2 }) := by
            unfold Pk.St.text
            rw [if_neg (by simpa using he), hf]
            simp only
            rw [if_neg (by simp), if_neg h14, if_pos h2]
          rw [hs]
          obtain ⟨A, c, c0⟩ := c0
          have H := Lib.hid (h.setErr 2)
          have h14' : n ≤ (s.l.length : Int) - ((s.at_ : Int) + (k : Int)) := by omega
          clear hs hf he h h14
          go_enter Try.func19, Try.ntmps19
          go_wp2_with fail
          refine hn.out.mono ?_
          rintro e1 w1 ⟨rfl, rfl⟩
          go_wp2
          go_ret
          exact TextPost.mk' H.out.1 H.out.2
        · obtain ⟨m, rfl⟩ := Int.eq_ofNat_of_zero_le hn0
          have hs : s.text most = ((s.l.drop (s.at_ + k)).take m, { s with at_ := s.at_ + k + m }) := by
            unfold Pk.St.text
            rw [if_neg (by simpa using he), hf]
            simp only
            rw [if_neg (by simp), if_neg h14, if_neg h2]
            rfl
          rw [hs]
          exact text_ok w F g s most h he m k hf hk0 (by omega) (by omega)
  · have hs : s.text most = ([], s) := by
      unfold Pk.St.text
      rw [if_pos (by simpa using he)]
    rw [hs]
    have hne : (s.err != 0) = true := by simp; omega
    have H := Lib.hid h
    clear hs he h c0
    go_enter Try.func19, Try.ntmps19
    go_wp2
    go_ret
    exact TextPost.mk' H.out (Kept.refl _ _)
end Go.Proofs.Ytlmfpadlgdmflaa
