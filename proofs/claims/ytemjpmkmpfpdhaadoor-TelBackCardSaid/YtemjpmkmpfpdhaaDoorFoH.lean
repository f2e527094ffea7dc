/-
  FoldOnce: the plain law.
-/
import Derived.Test.YtemjpmkmpfpdhaaDoorFoG
set_option linter.unusedSimpArgs false
set_option linter.unusedVariables false
namespace Go.Proofs.YtemjpmkmpfpdhaaDoor
open Go.RowKit
set_option maxRecDepth 100000

theorem last_app (a b : List UInt8) (hb : b ≠ []) : (a ++ b).getLast? = b.getLast? := by
  rw [List.getLast?_append, List.getLast?_eq_some_getLast hb]; rfl
theorem sq_app (a b : List UInt8) : sq (a ++ b) = b.foldl sqStep (sq a) := by simp [sq]
theorem sq_sq_step (o : List UInt8) (b : UInt8) (h : sq o = o) : sq (sqStep o b) = sqStep o b := by
  by_cases c : b = 32 ∧ (o = [] ∨ o.getLast? = some 32)
  · rw [sqStep, if_pos c]; exact h
  · rw [show sqStep o b = o ++ [b] from sqStep_add c, sq_snoc, h, sqStep_add c]
theorem sq_fold : ∀ (l o : List UInt8), sq o = o → sq (l.foldl sqStep o) = l.foldl sqStep o
  | [], o, h => h
  | b :: l, o, h => sq_fold l (sqStep o b) (sq_sq_step o b h)
theorem sq_sq (l : List UInt8) : sq (sq l) = sq l := sq_fold l [] rfl
theorem last_snoc (o : List UInt8) (b : UInt8) (h : o.getLast? = some b) : o = o.dropLast ++ [b] := by
  have hne : o ≠ [] := by intro e; rw [e] at h; simp at h
  rw [List.getLast?_eq_some_getLast hne] at h
  injection h with h
  rw [← h]; exact (List.dropLast_concat_getLast hne).symm
/-- A fixed text's front is fixed; its last blank does not follow a blank. -/
theorem sq_front (o : List UInt8) (b : UInt8) (h : sq (o ++ [b]) = o ++ [b]) : sq o = o ∧ ¬ (b = 32 ∧ (o = [] ∨ o.getLast? = some 32)) := by
  rw [sq_snoc] at h
  have hl := sq_length o
  by_cases c : b = 32 ∧ (sq o = [] ∨ (sq o).getLast? = some 32)
  · rw [sqStep, if_pos c] at h
    have := congrArg List.length h
    simp at this; omega
  · rw [sqStep_add c] at h
    have h2 : sq o = o := List.append_cancel_right h
    rw [h2] at c
    exact ⟨h2, c⟩
theorem end_fix (o : List UInt8) (h : sq o = o) : sq (endL o) = endL o ∧ endL (endL o) = endL o := by
  unfold endL
  by_cases c : o.getLast? = some 32
  · rw [if_pos c]
    have e := last_snoc o 32 c
    rw [e] at h
    obtain ⟨h1, h2⟩ := sq_front _ _ h
    refine ⟨h1, ?_⟩
    rw [if_neg (fun h => h2 ⟨rfl, .inr h⟩)]
  · rw [if_neg c, if_neg c]; exact ⟨h, rfl⟩
theorem end_ne (s : List UInt8) (h : endL s = s) (hne : s ≠ []) : s.getLast? ≠ some 32 := by
  intro c
  rw [endL, if_pos c] at h
  have := congrArg List.length h
  have hp := List.length_pos_iff.2 hne
  simp at this; omega
theorem head_ne (s : List UInt8) (h : sq s = s) : s[0]? ≠ some 32 := by
  intro c
  cases s with
  | nil => simp at c
  | cons x r =>
    simp at c
    subst c
    have h2 : sq (32 :: r) = sq r := by simp [sq, sqStep]
    have := sq_length r
    rw [← h2, h] at this
    simp at this; omega
theorem blank_twice (o : List UInt8) : sqStep (sqStep o 32) 32 = sqStep o 32 := by
  by_cases c : o = [] ∨ o.getLast? = some 32
  · rw [sqStep_skip rfl c, sqStep_skip rfl c]
  · rw [sqStep_add (fun h => c h.2)]; exact sqStep_skip rfl (.inr (by simp))
theorem pair_ne (s : List UInt8) (h : sq s = s) (i : Nat) (h1 : s[i]? = some 32) (h2 : s[i + 1]? = some 32) : False := by
  have hi : i + 1 < s.length := (List.getElem?_eq_some_iff.1 h2).1
  have e1 : s.take (i + 2) = s.take i ++ [32] ++ [32] := by
    rw [List.take_add_one, h2, List.take_add_one, h1]; rfl
  have e : s = s.take i ++ [32] ++ [32] ++ s.drop (i + 2) := by rw [← e1, List.take_append_drop]
  have h3 : sq s = sq (s.take i ++ [32] ++ s.drop (i + 2)) := by
    conv => lhs; rw [e]
    rw [sq_app, sq_snoc, sq_snoc, blank_twice, ← sq_snoc, ← sq_app]
  have h4 := sq_length (s.take i ++ [32] ++ s.drop (i + 2))
  rw [← h3, h] at h4
  simp at h4
  omega

/-! What is well formed stays so. -/
theorem fresh_valid (l : List UInt8) (h : Lib.validD l = true) : Fresh l := by
  intro c
  have hne : l ≠ [] := by intro e; subst e; simp at c
  have h1 := (sign_step l 0 (List.length_pos_iff.2 hne)).1
  rw [List.drop_zero] at h1
  have := h1 (by unfold signL; rw [if_neg (by omega), if_neg (by omega), if_neg (by omega), if_neg (by omega)])
  rw [this] at h; cases h
theorem valid_sg (l : List UInt8) : Lib.validD l = (sg l).isSome := by
  have h := signs_sgF ⟨l.toArray⟩ l.length 0 l.length (by omega) (by show l.toArray.size ≤ _; simp) (by show l.toArray.size ≤ _; simp)
  simp only [List.drop_zero] at h
  rw [sg, ← h]
  split <;> rename_i h2
  · exact h2
  · simpa using h2
theorem valid_app (a t : List UInt8) (ht : Fresh t) : Lib.validD (a ++ t) = (Lib.validD a && Lib.validD t) := by
  rw [valid_sg, valid_sg, valid_sg, sg_app t ht _ a (Nat.le_refl _)]
  cases sg a <;> cases sg t <;> rfl
theorem valid_blank (t : List UInt8) : Lib.validD (32 :: t) = Lib.validD t := Lib.validD_cons 32 t (by decide)
theorem fresh_blank (t : List UInt8) : Fresh (32 :: t) := by unfold Fresh; simp
theorem valid_del (x y : List UInt8) (h : Lib.validD (x ++ 32 :: y) = true) : Lib.validD (x ++ y) = true := by
  rw [valid_app x _ (fresh_blank y), valid_blank, Bool.and_eq_true] at h
  rw [valid_app x y (fresh_valid y h.2), h.1, h.2]; rfl
theorem valid_fold : ∀ (l o : List UInt8), Lib.validD (o ++ l) = true → Lib.validD (l.foldl sqStep o) = true
  | [], o, h => by simpa using h
  | b :: l, o, h => by
    by_cases c : b = 32 ∧ (o = [] ∨ o.getLast? = some 32)
    · rw [List.foldl_cons, sqStep, if_pos c]
      rw [c.1] at h
      exact valid_fold l o (valid_del o l h)
    · rw [List.foldl_cons, sqStep_add c]
      exact valid_fold l _ (by simpa using h)
theorem valid_sq (l : List UInt8) (h : Lib.validD l = true) : Lib.validD (sq l) = true := valid_fold l [] h
theorem valid_end (o : List UInt8) (h : Lib.validD o = true) : Lib.validD (endL o) = true := by
  unfold endL
  split
  · rename_i c
    rw [last_snoc o 32 c] at h
    simpa using valid_del _ [] h
  · exact h
theorem ctl_fold : ∀ (l o : List UInt8), l.any ctl = false → o.any ctl = false → (l.foldl sqStep o).any ctl = false
  | [], o, _, h => h
  | b :: l, o, h, ho => by
    rw [List.any_cons, Bool.or_eq_false_iff] at h
    refine ctl_fold l _ h.2 ?_
    by_cases c : b = 32 ∧ (o = [] ∨ o.getLast? = some 32)
    · rw [sqStep, if_pos c]; exact ho
    · rw [sqStep_add c, List.any_append, ho]; simp [h.1]
theorem ctl_end (o : List UInt8) (h : o.any ctl = false) : (endL o).any ctl = false := by
  unfold endL
  split
  · rename_i c
    rw [last_snoc o 32 c, List.any_append, Bool.or_eq_false_iff] at h
    exact h.1
  · exact h

def C (l : List UInt8) : List UInt8 × Int := cleanL (Lib.validD l) l
theorem C_ok {l o : List UInt8} (h : C l = (o, 0)) : Lib.validD l = true ∧ l.any ctl = false ∧ o = endL (sq l) ∧ 1 ≤ o.length ∧ o.length ≤ 64 := by
  unfold C cleanL at h
  split at h
  · rename_i c
    unfold outL at h
    split at h
    · simp at h
    · split at h
      · simp at h
      · injection h with h1 h2
        subst h1
        exact ⟨c.1, c.2, rfl, by omega, by omega⟩
  · simp at h
theorem C_of {l o : List UInt8} (h1 : Lib.validD l = true) (h2 : l.any ctl = false) (h3 : endL (sq l) = o) (h4 : 1 ≤ o.length) (h5 : o.length ≤ 64) : C l = (o, 0) := by
  unfold C cleanL
  rw [if_pos ⟨h1, h2⟩, h3, outL, if_neg (by omega), if_neg (by omega)]
theorem C_bad {l : List UInt8} (h : (C l).2 ≠ 0) : (C l).1 = [] := by
  revert h
  unfold C cleanL outL
  repeat' split
  all_goals simp
theorem C_again {l s : List UInt8} (h : C l = (s, 0)) : C s = (s, 0) ∧ sq s = s ∧ endL s = s := by
  obtain ⟨h1, h2, h3, h4, h5⟩ := C_ok h
  have e := end_fix (sq l) (sq_sq l)
  rw [← h3] at e
  refine ⟨C_of ?_ ?_ (by rw [e.1, e.2]) h4 h5, e.1, e.2⟩
  · rw [h3]; exact valid_end _ (valid_sq l h1)
  · rw [h3]; exact ctl_end _ (ctl_fold l [] h2 rfl)
theorem end_blank (o : List UInt8) : endL (sqStep o 32) = endL o := by
  by_cases c : o = [] ∨ o.getLast? = some 32
  · rw [sqStep_skip rfl c]
  · rw [sqStep_add (fun h => c h.2)]
    have c2 : ¬ o.getLast? = some 32 := fun h => c (.inr h)
    simp [endL, c2]
theorem C_wide {l s : List UInt8} (h : C l = (s, 0)) : C ([32, 32] ++ l ++ [32]) = (s, 0) := by
  obtain ⟨h1, h2, h3, h4, h5⟩ := C_ok h
  refine C_of ?_ ?_ ?_ h4 h5
  · rw [valid_app _ _ (fresh_blank []), show [32, 32] ++ l = 32 :: 32 :: l from rfl, valid_blank, valid_blank, h1]; rfl
  · rw [List.any_append, List.any_append, h2]; rfl
  · rw [sq_snoc, end_blank, h3]
    show endL (sq (32 :: 32 :: l)) = _
    simp [sq, sqStep]
theorem step_pre (p o : List UInt8) (b : UInt8) (hp : p.getLast? = some 32) : sqStep (p ++ o) b = p ++ sqStep o b := by
  have hne : p ≠ [] := by intro e; rw [e] at hp; simp at hp
  by_cases ho : o = []
  · subst ho
    by_cases hb : b = 32
    · rw [List.append_nil, sqStep_skip hb (.inr hp), sqStep_skip hb (.inl rfl), List.append_nil]
    · rw [sqStep_add (fun h => hb h.1), sqStep_add (fun h => hb h.1)]; simp
  · have e : (p ++ o).getLast? = o.getLast? := by rw [last_app _ _ ho]
    by_cases c : b = 32 ∧ (o = [] ∨ o.getLast? = some 32)
    · rw [sqStep, if_pos ⟨c.1, .inr (by rw [e]; exact c.2.resolve_left ho)⟩, sqStep, if_pos c]
    · rw [sqStep_add c, sqStep_add (fun h => c ⟨h.1, h.2.elim (fun h => absurd h (by simp [hne])) (fun h => .inr (by rw [← e]; exact h))⟩), List.append_assoc]
theorem fold_pre (p : List UInt8) (hp : p.getLast? = some 32) : ∀ (l o : List UInt8), l.foldl sqStep (p ++ o) = p ++ l.foldl sqStep o
  | [], _ => rfl
  | b :: l, o => by rw [List.foldl_cons, List.foldl_cons, step_pre p o b hp, fold_pre p hp l]
theorem C_join {a b s x : List UInt8} (h : C a = (s, 0)) (k : C b = (x, 0)) (hl : s.length + 1 + x.length ≤ 64) : C (a ++ [32] ++ b) = (s ++ [32] ++ x, 0) := by
  obtain ⟨h1, h2, h3, h4, h5⟩ := C_ok h
  obtain ⟨k1, k2, k3, k4, k5⟩ := C_ok k
  have hs : sq (a ++ [32]) = s ++ [32] := by
    rw [sq_snoc]
    by_cases c : (sq a).getLast? = some 32
    · rw [sqStep_skip rfl (.inr c), h3, endL, if_pos c]; exact last_snoc _ _ c
    · have e : s = sq a := by rw [h3, endL, if_neg c]
      rw [← e]
      refine sqStep_add (fun h => ?_)
      rcases h.2 with h | h
      · rw [h] at h4; simp at h4
      · exact c (by rw [← e]; exact h)
  refine C_of ?_ ?_ ?_ (by simp; omega) (by simp; omega)
  · rw [List.append_assoc, valid_app _ _ (by exact fresh_blank b), h1, show [32] ++ b = 32 :: b from rfl, valid_blank, k1]; rfl
  · rw [List.any_append, List.any_append, h2, k2]; rfl
  · rw [sq_app, hs]
    have e := fold_pre (s ++ [32]) (by simp) b []
    rw [List.append_nil] at e
    rw [e, show b.foldl sqStep [] = sq b from rfl]
    have hne : sq b ≠ [] := by intro h; rw [h] at k3; rw [k3] at k4; simp [endL] at k4
    unfold endL at k3 ⊢
    rw [last_app _ _ hne]
    by_cases c : (sq b).getLast? = some 32
    · rw [if_pos c, List.dropLast_append_of_ne_nil hne, k3, if_pos c]
    · rw [if_neg c, k3, if_neg c]
end Go.Proofs.YtemjpmkmpfpdhaaDoor
