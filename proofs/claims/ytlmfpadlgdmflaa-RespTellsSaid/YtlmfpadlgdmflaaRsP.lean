/-
   Answers: what is laid is read as it was, and what is read is laid as it was.
-/
import Derived.Test.YtlmfpadlgdmflaaRsD
set_option linter.unusedSimpArgs false
set_option linter.unusedVariables false
namespace Go.Proofs.Ytlmfpadlgdmflaa

set_option maxRecDepth 100000

theorem txt_take (L : List UInt8) (at_ k m : Nat) (h : at_ + k + m ≤ L.length) : L.drop at_ = (L.drop at_).take k ++ ((L.drop (at_ + k)).take m ++ L.drop (at_ + k + m)) := by
  rw [← List.drop_drop (i := k) (j := at_), ← List.drop_drop (i := m), ← List.drop_drop (i := k) (j := at_), List.take_append_drop, List.take_append_drop]

/-! ### What is read is laid as it was -/
theorem num_canon (s : Pk.St) (h : s.num.2.err = 0) : s.l.drop s.at_ = Pk.num s.num.1 ++ s.num.2.l.drop s.num.2.at_ := by
  have he := ((num_spec s).2.2.2.2 h).1
  unfold Pk.St.num at h ⊢
  rw [if_neg (by simpa using he)] at h ⊢
  rcases Pk.front_ways (s.l.drop s.at_) with ⟨e, hf, hee⟩ | ⟨n, k, hf, hn0, hn1, hk0, hk1⟩
  · simp only [hf] at h
    rw [if_pos (by omega)] at h
    simp only at h
    omega
  · simp only [hf]
    rw [if_neg (by simp)]
    simp only
    rw [Pk.num_front _ _ _ hf, ← List.drop_drop (i := k) (j := s.at_), List.take_append_drop]
theorem text_canon (s : Pk.St) (m : Int) (h : (s.text m).2.err = 0) : s.l.drop s.at_ = Pk.text (s.text m).1 ++ (s.text m).2.l.drop (s.text m).2.at_ := by
  have he := ((text_spec s m).2.2 h).1
  unfold Pk.St.text at h ⊢
  rw [if_neg (by simpa using he)] at h ⊢
  rcases Pk.front_ways (s.l.drop s.at_) with ⟨e, hf, hee⟩ | ⟨n, k, hf, hn0, hn1, hk0, hk1⟩
  · simp only [hf] at h
    rw [if_pos (by omega)] at h
    simp only at h
    omega
  · simp only [hf] at h ⊢
    rw [if_neg (by simp)] at h ⊢
    by_cases h1 : n > (s.l.length : Int) - (s.at_ + k : Nat)
    · rw [if_pos h1] at h
      simp at h
    · rw [if_neg h1] at h ⊢
      by_cases h2 : n > m
      · rw [if_pos h2] at h
        simp at h
      · rw [if_neg h2]
        simp only
        obtain ⟨N, rfl⟩ := Int.eq_ofNat_of_zero_le hn0
        rw [List.length_drop] at hk1
        have hlen : ((s.l.drop (s.at_ + k)).take N).length = N := by rw [List.length_take, List.length_drop]; omega
        rw [Int.toNat_natCast]
        unfold Pk.text
        rw [hlen, Pk.num_front _ _ _ hf, List.append_assoc]
        exact txt_take _ _ _ _ (by omega)

def restD (d : Dr) : List UInt8 := d.1.l.drop d.1.at_
theorem numD_canon (d : Dr) (m : Int) (h : (numD d m).2.1.err = 0) : restD d = Pk.num (numD d m).1 ++ restD (numD d m).2 := num_canon d.1 h
theorem tokD_canon (d : Dr) (h : (tokD d).2.1.err = 0) : restD d = Pk.num (tokD d).1 ++ restD (tokD d).2 := num_canon d.1 h
theorem txtD_canon (d : Dr) (h : (txtD d).2.1.err = 0) : restD d = Pk.text (txtD d).1 ++ restD (txtD d).2 := text_canon d.1 20000 h
theorem numD_bad (d : Dr) (m : Int) (h : (numD d m).2.2 = false) : d.2 = false ∧ (numD d m).1 ≤ m := by
  simp only [numD, Bool.or_eq_false_iff, decide_eq_false_iff_not] at h
  exact ⟨h.1, by have := h.2; simp only [numD]; omega⟩
theorem bit_back (n : Int) (h0 : 0 ≤ n) (h1 : n ≤ 1) : bitI (n == 1) = n := by
  have : n = 0 ∨ n = 1 := by omega
  rcases this with rfl | rfl <;> rfl

theorem itemD_canon (d : Dr) (he : (itemD d).2.1.err = 0) (hb : (itemD d).2.2 = false) : restD d = layIt (itemD d).1 ++ restD (itemD d).2 ∧ d.2 = false := by
  have e4 : (txtD (numD (tokD (txtD d).2).2 1).2).2.1.err = 0 := he
  have e3 := ((txtD_on _).2.2 e4).1
  have e2 := ((numD_on _ _).2.2 e3).1
  have e1 := ((tokD_on _).2.2 e2).1
  have hb3 := numD_bad _ _ (show (numD (tokD (txtD d).2).2 1).2.2 = false from hb)
  have hf := (numD_fits (tokD (txtD d).2).2 1).1
  refine ⟨?_, hb3.1⟩
  rw [txtD_canon d e1, tokD_canon _ e2, numD_canon _ 1 e3, txtD_canon _ e4]
  simp only [layIt, itemD, bit_back _ hf hb3.2, List.append_assoc]

theorem num_within (s : Pk.St) (h : s.at_ ≤ s.l.length) : s.num.2.at_ ≤ s.num.2.l.length := by
  unfold Pk.St.num
  split
  · exact h
  · rcases Pk.front_ways (s.l.drop s.at_) with ⟨e, hf, hee⟩ | ⟨n, k, hf, hn0, hn1, hk0, hk1⟩
    · simp only [hf]
      rw [if_pos (by omega)]
      exact h
    · simp only [hf]
      rw [if_neg (by simp)]
      rw [List.length_drop] at hk1
      simp only
      omega
theorem text_within (s : Pk.St) (m : Int) (h : s.at_ ≤ s.l.length) : (s.text m).2.at_ ≤ (s.text m).2.l.length := by
  unfold Pk.St.text
  split
  · exact h
  · rcases Pk.front_ways (s.l.drop s.at_) with ⟨e, hf, hee⟩ | ⟨n, k, hf, hn0, hn1, hk0, hk1⟩
    · simp only [hf]
      rw [if_pos (by omega)]
      exact h
    · simp only [hf]
      rw [if_neg (by simp)]
      rw [List.length_drop] at hk1
      split
      · exact h
      · split
        · exact h
        · simp only
          omega
def Within (d : Dr) : Prop := d.1.at_ ≤ d.1.l.length
theorem numD_within (d : Dr) (m : Int) (h : Within d) : Within (numD d m).2 := num_within d.1 h
theorem tokD_within (d : Dr) (h : Within d) : Within (tokD d).2 := num_within d.1 h
theorem txtD_within (d : Dr) (h : Within d) : Within (txtD d).2 := text_within d.1 20000 h
theorem itemD_within (d : Dr) (h : Within d) : Within (itemD d).2 := txtD_within _ (numD_within _ _ (tokD_within _ (txtD_within _ h)))

theorem itemsD_canon : ∀ (k : Nat) (m : Int) (d : Dr), 0 ≤ m → Within d → (d.1.err = 0 → d.1.l.length - d.1.at_ + 1 ≤ k) → (itemsD k m d).2.1.err = 0 → (itemsD k m d).2.2 = false →
    restD d = (itemsD k m d).1.flatMap layIt ++ restD (itemsD k m d).2 ∧ ((itemsD k m d).1.length : Int) = m ∧ d.1.err = 0 ∧ d.2 = false
  | 0, m, d, hm, hat, hk, he, hb => by
    have := hk he
    omega
  | k + 1, m, d, hm, hat, hk, he, hb => by
    by_cases hgo : 0 < m ∧ d.2 = false ∧ d.1.err = 0
    · have e := itemsD_go k m d hgo
      rw [e] at he hb ⊢
      simp only at he hb ⊢
      have hon := itemD_on d
      have ih := itemsD_canon k (m - 1) (itemD d).2 (by omega) (itemD_within d hat) (fun e0 => by have := hon.2.2 e0; have := hk hgo.2.2; have h3 := itemD_within d hat; unfold Within at h3; rw [hon.1] at h3 ⊢; omega) he hb
      obtain ⟨i1, i2, i3, i4⟩ := ih
      obtain ⟨c1, c2⟩ := itemD_canon d i3 i4
      refine ⟨?_, by simp; omega, hgo.2.2, hgo.2.1⟩
      rw [c1, i1]
      simp
    · have e := itemsD_stop (k + 1) m d hgo
      rw [e] at he hb ⊢
      simp only at he hb ⊢
      refine ⟨by simp, ?_, he, hb⟩
      have : ¬ 0 < m := fun h => hgo ⟨h, hb, he⟩
      simp
      omega

/-- What is read is laid as it was. -/
theorem decode_canon {kind : Int} {l : List UInt8} (h1 : 128 ≤ kind) (h2 : kind ≤ 139) (h : (decodeR kind l).2 = 0) : checkR (decodeR kind l).1 = 0 ∧ lay (decodeR kind l).1 = l ∧ (decodeR kind l).1.kind = kind - 128 := by
  unfold decodeR at h ⊢
  rw [if_neg (by omega)] at h ⊢
  by_cases hb : (stepsD l).x.2.2 = true ∨ (stepsD l).x.2.1.err ≠ 0 ∨ 0 < (stepsD l).x.2.1.left
  · rw [if_pos hb] at h
    simp at h
  · rw [if_neg hb] at h ⊢
    by_cases hc : checkR ((stepsD l).rs (kind - 128)) ≠ 0
    · rw [if_pos hc] at h
      exact absurd h hc
    · rw [if_neg hc]
      refine ⟨by simpa using hc, ?_, rfl⟩
      simp only [not_or, Bool.not_eq_true, ne_eq, Decidable.not_not] at hb
      obtain ⟨b1, b2, b3⟩ := hb
      have w0 : Within (⟨l, 0, 0⟩, false) := Nat.zero_le _
      have w1 := numD_within _ most32 w0
      have w2 := tokD_within _ w1
      have w3 := tokD_within _ w2
      have w4 := txtD_within _ w3
      have w5 := numD_within _ most32 w4
      have w6 := numD_within _ 1 w5
      have w7 := numD_within _ most32 w6
      have o1 := numD_on (⟨l, 0, 0⟩, false) most32
      have o2 := o1.trans (tokD_on _)
      have o3 := o2.trans (tokD_on _)
      have o4 := o3.trans (txtD_on _)
      have o5 := o4.trans (numD_on _ most32)
      have o6 := o5.trans (numD_on _ 1)
      have o7 := o6.trans (numD_on _ most32)
      have f7 := numD_fits (stepsD l).m.2 most32
      obtain ⟨i1, i2, i3, i4⟩ := itemsD_canon (l.length + 2) (stepsD l).n.1 (stepsD l).n.2 f7.1 w7 (fun _ => by have := o7.1; show (stepsD l).n.2.1.l.length - _ + 1 ≤ _; rw [show (stepsD l).n.2.1.l = l from this]; omega) b2 b1
      have e6 : (stepsD l).m.2.1.err = 0 := ((numD_on _ most32).2.2 i3).1
      have e5 : (stepsD l).i.2.1.err = 0 := ((numD_on _ 1).2.2 e6).1
      have e4 : (stepsD l).c.2.1.err = 0 := ((numD_on _ most32).2.2 e5).1
      have e3 : (stepsD l).v.2.1.err = 0 := ((txtD_on _).2.2 e4).1
      have e2 : (stepsD l).t.2.1.err = 0 := ((tokD_on _).2.2 e3).1
      have e1 : (stepsD l).e.2.1.err = 0 := ((tokD_on _).2.2 e2).1
      have g7 := numD_bad (stepsD l).m.2 most32 i4
      have g6 := numD_bad (stepsD l).i.2 1 g7.1
      have c0 : l = restD (⟨l, 0, 0⟩, false) := rfl
      have c1 : restD (⟨l, 0, 0⟩, false) = Pk.num (stepsD l).e.1 ++ restD (stepsD l).e.2 := numD_canon _ most32 e1
      have c2 : restD (stepsD l).e.2 = Pk.num (stepsD l).t.1 ++ restD (stepsD l).t.2 := tokD_canon _ e2
      have c3 : restD (stepsD l).t.2 = Pk.num (stepsD l).v.1 ++ restD (stepsD l).v.2 := tokD_canon _ e3
      have c4 : restD (stepsD l).v.2 = Pk.text (stepsD l).c.1 ++ restD (stepsD l).c.2 := txtD_canon _ e4
      have c5 : restD (stepsD l).c.2 = Pk.num (stepsD l).i.1 ++ restD (stepsD l).i.2 := numD_canon _ most32 e5
      have c6 : restD (stepsD l).i.2 = Pk.num (stepsD l).m.1 ++ restD (stepsD l).m.2 := numD_canon _ 1 e6
      have c7 : restD (stepsD l).m.2 = Pk.num (stepsD l).n.1 ++ restD (stepsD l).n.2 := numD_canon _ most32 i3
      have c8 : restD (stepsD l).x.2 = [] := by
        unfold restD
        apply List.drop_eq_nil_of_le
        unfold Pk.St.left at b3
        omega
      have hm : bitI ((stepsD l).m.1 == 1) = (stepsD l).m.1 := bit_back _ (numD_fits (stepsD l).i.2 1).1 g6.2
      have hx : restD (stepsD l).n.2 = (stepsD l).x.1.flatMap layIt ++ restD (stepsD l).x.2 := i1
      have hn : ((stepsD l).x.1.length : Int) = (stepsD l).n.1 := i2
      have goal : lay ((stepsD l).rs (kind - 128)) = Pk.num (stepsD l).e.1 ++ (Pk.num (stepsD l).t.1 ++ (Pk.num (stepsD l).v.1 ++ (Pk.text (stepsD l).c.1 ++ (Pk.num (stepsD l).i.1 ++ (Pk.num (stepsD l).m.1 ++ (Pk.num (stepsD l).n.1 ++ (stepsD l).x.1.flatMap layIt)))))) := by
        simp only [lay, layHead, Steps.rs, hm, hn, List.append_assoc]
      rw [goal]
      conv => rhs; rw [c0, c1, c2, c3, c4, c5, c6, c7, hx, c8, List.append_nil]
end Go.Proofs.Ytlmfpadlgdmflaa
