/-
  TelBack: the plain law.
-/
import Derived.Test.YtemjpmkmpfpdhaaDoorTlF
set_option linter.unusedSimpArgs false
set_option linter.unusedVariables false
namespace Go.Proofs.YtemjpmkmpfpdhaaDoor
open Go.RowKit
set_option maxRecDepth 100000

theorem keep_app (a b : List UInt8) : keepL (a ++ b) = keepL a ++ keepL b := by simp [keepL]
theorem keep_step (o : List UInt8) (b : UInt8) : keepL (sqStep o b) = keepL o ++ keepL [b] := by
  unfold sqStep
  split
  · rename_i c; rw [c.1]; simp [keepL, gap]
  · rw [keep_app]
theorem keep_fold : ∀ (l o : List UInt8), keepL (l.foldl sqStep o) = keepL o ++ keepL l
  | [], o => by simp [keepL]
  | b :: l, o => by
    rw [List.foldl_cons, keep_fold l, keep_step, List.append_assoc, ← keep_app]
    rfl
theorem keep_sq (l : List UInt8) : keepL (sq l) = keepL l := by
  unfold sq
  rw [keep_fold]
  rfl
theorem keep_end (o : List UInt8) : keepL (endL o) = keepL o := by
  unfold endL
  split
  · rename_i c
    conv => rhs; rw [last_snoc o 32 c, keep_app]
    simp [keepL, gap]
  · rfl
theorem end_length (o : List UInt8) : (endL o).length ≤ o.length := by
  unfold endL
  split
  · simp
  · exact Nat.le_refl _
def plainB (b : UInt8) : Bool := decide (32 ≤ b.toNat ∧ b.toNat ≤ 126)
theorem valid_plain : ∀ (l : List UInt8), l.all plainB = true → Lib.validD l = true
  | [], _ => Lib.validD_nil
  | b :: l, h => by
    rw [List.all_cons, Bool.and_eq_true] at h
    have hb := h.1
    simp only [plainB, decide_eq_true_eq] at hb
    rw [Lib.validD_cons b l (by omega)]
    exact valid_plain l h.2
theorem ctl_plain (l : List UInt8) (h : l.all plainB = true) : l.any ctl = false := by
  rw [List.any_eq_false]
  intro b hb
  have := List.all_eq_true.1 h b hb
  simp only [plainB, decide_eq_true_eq] at this
  simp only [ctl, decide_eq_true_eq]
  omega
/-- A plain text whose kept signs are a number. -/
theorem tel_plain (l : List UInt8) (h : l.all plainB = true) (hl : l.length ≤ 64) (hi : isL (keepL l) = true) : telL l = (keepL l, 0) := by
  have h1 : 1 ≤ (keepL l).length := by
    have := (row_le (keepL l)).2.1
    rw [row_fst _ hi] at this
    rw [isL_def, decide_eq_true_eq] at hi
    omega
  have h2 : 1 ≤ (endL (sq l)).length := by
    have := keep_length (endL (sq l))
    rw [keep_end, keep_sq] at this
    omega
  have hC := C_of (valid_plain l h) (ctl_plain l h) rfl h2 (by have := end_length (sq l); have := sq_length l; omega)
  unfold telL
  rw [hC]
  simp only [keep_end, keep_sq]
  rw [if_neg (by simp), if_pos hi]

theorem dig_plain {b : UInt8} (h : digL b = true) : plainB b = true ∧ gap b = false := by
  simp only [digL, decide_eq_true_eq] at h
  simp only [plainB, gap, decide_eq_true_eq, decide_eq_false_iff_not]
  omega
theorem tel_sign {l : List UInt8} (h : isL l = true) {b : UInt8} (hb : b ∈ l) : plainB b = true ∧ gap b = false := by
  rw [isL_def, decide_eq_true_eq] at h
  obtain ⟨_, _, h3⟩ := h
  by_cases c : l[0]? = some 43
  · rw [bareL_plus _ c] at h3
    cases l with
    | nil => cases hb
    | cons x r =>
      simp at c
      subst c
      rcases List.mem_cons.1 hb with rfl | hb
      · decide
      · exact dig_plain (List.all_eq_true.1 h3 b hb)
  · rw [bareL_no _ c] at h3
    exact dig_plain (List.all_eq_true.1 h3 b hb)
theorem keep_all {l : List UInt8} (h : ∀ b ∈ l, gap b = false) : keepL l = l := List.filter_eq_self.2 (fun b hb => by rw [h b hb]; rfl)
theorem tel_len {l : List UInt8} (h : isL l = true) : 3 ≤ l.length ∧ l.length ≤ 16 := by
  obtain ⟨p, p1, p2, _⟩ := tel_signs l h
  rw [isL_def, decide_eq_true_eq] at h
  omega
theorem tel_keep {l : List UInt8} (h : isL l = true) : keepL l = l := keep_all fun b hb => (tel_sign h hb).2
/-- A number is its own Canon. -/
theorem tel_self {l : List UInt8} (h : isL l = true) : telL l = (l, 0) := by
  have := tel_plain l (List.all_eq_true.2 fun b hb => (tel_sign h hb).1) (by have := tel_len h; omega) (by rw [tel_keep h]; exact h)
  rwa [tel_keep h] at this
theorem tel_ok {l s : List UInt8} (h : telL l = (s, 0)) : isL s = true := by
  unfold telL at h
  split at h
  · injection h with h1 h2; rename_i c; exact absurd h2 c
  · split at h
    · rename_i c; injection h with h1 h2; rw [← h1]; exact c
    · simp at h
theorem tel_bad {l : List UInt8} (h : (telL l).2 ≠ 0) : (telL l).1 = [] ∧ isL l = false := by
  constructor
  · revert h
    unfold telL
    split
    · intro _; rfl
    · split
      · intro h; exact absurd rfl h
      · intro _; rfl
  · rcases hi : isL l with _ | _
    · rfl
    · exact absurd (by rw [tel_self hi]) h

theorem keep_show (d : List UInt8) (h : ∀ b ∈ d, gap b = false) : ∀ k, keepL (showTo d k) = d.take k
  | 0 => by simp [showTo, keepL]
  | k + 1 => by
    rw [showTo, keep_app, keep_app, keep_show d h k, List.take_add_one, keep_all (l := d[k]?.toList) (fun b hb => by
      cases hd : d[k]? with
      | none => rw [hd] at hb; cases hb
      | some x => rw [hd] at hb; simp at hb; subst hb; exact h b (List.mem_of_getElem? hd))]
    split <;> simp [keepL, gap]
theorem show_plain (d : List UInt8) (h : ∀ b ∈ d, plainB b = true) : ∀ k, (showTo d k).all plainB = true
  | 0 => rfl
  | k + 1 => by
    rw [showTo, List.all_append, List.all_append, show_plain d h k]
    have h2 : (d[k]?.toList).all plainB = true := by
      cases hd : d[k]? with
      | none => rfl
      | some x => simp [h x (List.mem_of_getElem? hd)]
    rw [h2]
    split <;> rfl
/-- What a number is shown as reads as the number. -/
theorem tel_show {l : List UInt8} (h : isL l = true) : telL (showL l) = (l, 0) ∧ l.length ≤ (showL l).length ∧ (showL l).length ≤ 40 := by
  have hs := tel_len h
  obtain ⟨p, p1, p2, p3, p4⟩ := tel_signs l h
  have e1 : showL l = l.take p ++ showTo (bareL l) (bareL l).length := by rw [show_of, if_pos h, show l.length - (bareL l).length = p by omega]
  have e2 : bareL l = l.drop p := by
    apply List.ext_getElem?
    intro i
    rw [List.getElem?_drop]
    by_cases hi : p + i < l.length
    · have := (p4 (p + i) _ (by omega) (List.getElem?_eq_getElem hi)).2
      rw [show p + i - p = i by omega] at this
      rw [this, List.getElem?_eq_getElem hi]
    · rw [List.getElem?_eq_none (by omega), List.getElem?_eq_none (by omega)]
  have hm : ∀ b ∈ bareL l, b ∈ l := fun b hb => by rw [e2] at hb; exact List.mem_of_mem_drop hb
  have hk : keepL (showL l) = l := by
    rw [e1, keep_app, keep_show _ (fun b hb => (tel_sign h (hm b hb)).2), List.take_of_length_le (Nat.le_refl _), keep_all (fun b hb => (tel_sign h (List.mem_of_mem_take hb)).2), e2, List.take_append_drop]
  have hp : (showL l).all plainB = true := by
    rw [e1, List.all_append, show_plain _ (fun b hb => (tel_sign h (hm b hb)).1), Bool.and_true]
    exact List.all_eq_true.2 fun b hb => (tel_sign h (List.mem_of_mem_take hb)).1
  have hl : (showL l).length ≤ 40 := by
    rw [e1, List.length_append, List.length_take]
    have := showTo_length (bareL l) (bareL l).length
    omega
  have := tel_plain (showL l) hp (by omega) (by rw [hk]; exact h)
  rw [hk] at this
  refine ⟨this, ?_, hl⟩
  have := keep_length (showL l)
  rw [hk] at this
  exact this
/-- A sign between does not tell. -/
theorem tel_between {l : List UInt8} (h : isL l = true) (k : Nat) (g : UInt8) (hg : gap g = true) (hp : plainB g = true) : telL (l.take k ++ [g] ++ l.drop k) = (l, 0) := by
  have hk : keepL (l.take k ++ [g] ++ l.drop k) = l := by
    rw [keep_app, keep_app, keep_all (fun b hb => (tel_sign h (List.mem_of_mem_take hb)).2), keep_all (l := l.drop k) (fun b hb => (tel_sign h (List.mem_of_mem_drop hb)).2)]
    simp [keepL, hg]
  have := tel_plain (l.take k ++ [g] ++ l.drop k) (by
    rw [List.all_append, List.all_append]
    simp only [Bool.and_eq_true]
    exact ⟨⟨List.all_eq_true.2 fun b hb => (tel_sign h (List.mem_of_mem_take hb)).1, by simp [hp]⟩, List.all_eq_true.2 fun b hb => (tel_sign h (List.mem_of_mem_drop hb)).1⟩) (by
    have := tel_len h
    simp
    omega) (by rw [hk]; exact h)
  rwa [hk] at this
end Go.Proofs.YtemjpmkmpfpdhaaDoor
