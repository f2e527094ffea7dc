/-
  omap: OmapWalks: what begins so, in plain Lean; a round of its first loop.
-/
import Derived.Test.YtdgfefnaoionpaaOmLT
import Derived.Test.YtdgfefnaoionpaaOmLP
import Derived.Test.YtdgfefnaoionpaaFirst
set_option linter.unusedSimpArgs false
set_option linter.unusedVariables false
namespace Go.Proofs.Ytdgfefnaoionpaa
open Go.RowKit
set_option maxRecDepth 100000

theorem hp_cons (x y : UInt8) (p b : List UInt8) : Lib.hasPrefix (y :: b) (x :: p) = (x == y && Lib.hasPrefix b p) := by
  simp [Lib.hasPrefix, List.isPrefixOf]
theorem hp_nil (b : List UInt8) : Lib.hasPrefix b [] = true := by simp [Lib.hasPrefix]
section
variable {α : Type}
theorem pre_mid : ∀ p a b : List UInt8, ¬ a < p → a < b → Lib.hasPrefix b p = true → Lib.hasPrefix a p = true
  | [], a, b, _, _, _ => hp_nil a
  | x :: p, a, [], _, _, hb => by simp [Lib.hasPrefix] at hb
  | x :: p, [], y :: b, h, _, _ => absurd (by simp) h
  | x :: p, z :: a, y :: b, h1, h2, hb => by
    simp only [hp_cons, Bool.and_eq_true, beq_iff_eq] at hb ⊢
    rw [List.cons_lt_cons_iff] at h1 h2
    obtain ⟨rfl, hb⟩ := hb
    have hz : z = x := by
      rcases h2 with h2 | ⟨h2, _⟩
      · exact absurd (.inl h2) h1
      · exact h2
    subst hz
    refine ⟨rfl, pre_mid p a b (fun h => h1 (.inr ⟨rfl, h⟩)) ?_ hb⟩
    rcases h2 with h2 | ⟨_, h2⟩
    · exact absurd h2 (by rw [UInt8.lt_iff_toNat_lt]; omega)
    · exact h2
theorem pre_not : ∀ p a : List UInt8, a < p → Lib.hasPrefix a p = false
  | [], a, h => by cases a <;> simp at h
  | x :: p, [], _ => by simp [Lib.hasPrefix]
  | x :: p, z :: a, h => by
    rw [List.cons_lt_cons_iff] at h
    simp only [hp_cons, Bool.and_eq_false_iff]
    rcases h with h | ⟨rfl, h⟩
    · left
      simp only [beq_eq_false_iff_ne, ne_eq]
      rintro rfl
      rw [UInt8.lt_iff_toNat_lt] at h
      omega
    · exact .inr (pre_not p a h)
theorem takeWhile_filter {β : Type} (q : β → Bool) : ∀ l : List β, (l.Pairwise fun a b => q b = true → q a = true) → l.takeWhile q = l.filter q
  | [], _ => rfl
  | a :: l, h => by
    rw [List.pairwise_cons] at h
    cases ha : q a with
    | true => rw [List.takeWhile_cons_of_pos ha, List.filter_cons_of_pos ha, takeWhile_filter q l h.2]
    | false =>
      rw [List.takeWhile_cons_of_neg (by simp [ha]), List.filter_cons_of_neg (by simp [ha])]
      symm
      rw [List.filter_eq_nil_iff]
      intro b hb hq
      rw [h.1 b hb hq] at ha
      cases ha
theorem under_filter {es : List (En α)} (hr : Rises es) (t : List UInt8) : underE es t = es.filter (fun e => Lib.hasPrefix (kb e.1) t) := by
  have h0 : es.filter (fun e => Lib.hasPrefix (kb e.1) t) = (es.take (low es t)).filter (fun e => Lib.hasPrefix (kb e.1) t) ++ (es.drop (low es t)).filter (fun e => Lib.hasPrefix (kb e.1) t) := by
    rw [← List.filter_append, List.take_append_drop]
  have h1 : (es.take (low es t)).filter (fun e => Lib.hasPrefix (kb e.1) t) = [] := by
    rw [List.filter_eq_nil_iff]
    intro e he
    obtain ⟨j, hj⟩ := List.getElem?_of_mem he
    rw [List.getElem?_take] at hj
    split at hj
    · rw [pre_not _ _ (low_before (by assumption) hj)]; simp
    · cases hj
  rw [h0, h1, List.nil_append]
  unfold underE
  refine takeWhile_filter _ _ ?_
  rw [List.pairwise_iff_getElem]
  intro i j hi hj hij hq
  have hgi : es[low es t + i]? = some (es.drop (low es t))[i] := by rw [← List.getElem?_drop, List.getElem?_eq_getElem hi]
  have hgj : es[low es t + j]? = some (es.drop (low es t))[j] := by rw [← List.getElem?_drop, List.getElem?_eq_getElem hj]
  refine pre_mid _ _ _ ?_ (hr.get (by omega) hgi hgj) hq
  intro hlt
  cases hl : es[low es t]? with
  | none =>
    have := List.getElem?_eq_none_iff.1 hl
    rw [List.getElem?_eq_none (by omega)] at hgi
    cases hgi
  | some e0 =>
    exact hr.above hl (low_at hl) _ _ (by omega) hgi hlt
end

section
variable (B M m : Nat) (R1 R2 : Nat → Prop) (ks vs : List Value) (x : En Int)
/-- A round that collects keys and values: what its movers leave. -/
def colM (i : Nat) (v : Value) (w : World) : Prop := match i with
  | 2 => ∃ g, v = .slice (some ⟨g, 0, none⟩) 1 1 ∧ M ≤ g ∧ Blk w g 9 #[keyV x]
  | 3 => Own w (fun b => R1 b ∨ M ≤ b) 9 1 v (m + 1) (ks ++ [keyV x])
  | 6 => ∃ g, v = .slice (some ⟨g, 0, none⟩) 1 1 ∧ M ≤ g ∧ Blk w g 2 #[valV x]
  | 7 => Own w (fun b => R2 b ∨ M ≤ b) 2 1 v (m + 1) (vs ++ [valV x])
  | 8 => ∃ A c, Blk w B 30 #[.slice A (m + 1) c] ∧ Own w (fun b => R1 b ∨ M ≤ b) 9 1 (.slice A (m + 1) c) (m + 1) (ks ++ [keyV x])
  | 9 => ∃ A c, Blk w (B + 2) 38 #[.slice A (m + 1) c] ∧ Own w (fun b => R2 b ∨ M ≤ b) 2 1 (.slice A (m + 1) c) (m + 1) (vs ++ [valV x])
  | _ => True
def colT (i : Nat) (w w' : World) : Prop := match i with
  | 3 => Kept R1 w w'
  | 7 => Kept R2 w w'
  | 8 => Kept (· = B) w w'
  | 9 => Kept (· = B + 2) w w'
  | _ => Pure w w'
/-- 10, 11: what was there: the boxes; 12, 13: the rows. -/
def colB (i : Nat) : List Nat := match i with
  | 3 => [12, 8]
  | 7 => [13, 9]
  | 8 => [10]
  | 9 => [11]
  | _ => []
def col0 (A1 : Option Addr) (c1 : Nat) (A2 : Option Addr) (c2 : Nat) (j : Nat) (w : World) : Prop := match j with
  | 0 => Blk w B 30 #[.slice A1 m c1]
  | 1 => Blk w (B + 2) 38 #[.slice A2 m c2]
  | 2 => Own w R1 9 1 (.slice A1 m c1) m ks
  | 3 => Own w R2 2 1 (.slice A2 m c2) m vs
  | _ => True
variable (hM : B + 5 ≤ M) (h1 : ∀ b, R1 b → B + 5 ≤ b ∧ b < M) (h2 : ∀ b, R2 b → B + 5 ≤ b ∧ b < M) (hd : ∀ b, R1 b → ¬ R2 b)
/-- Whom a step that turns the blocks of S alone leaves as they are. -/
theorem colM_kept {S : Nat → Prop} {i : Nat} {v : Value} {w w' : World} (hk : Kept S w w') (hM' : ∀ b, M ≤ b → i ∈ [2, 3, 6, 7, 8, 9] → ¬ S b) (hR1 : i = 3 ∨ i = 8 → ∀ b, R1 b → ¬ S b) (hR2 : i = 7 ∨ i = 9 → ∀ b, R2 b → ¬ S b) (hB : i = 8 → ¬ S B) (hB2 : i = 9 → ¬ S (B + 2))
    (h : colM B M m R1 R2 ks vs x i v w) : colM B M m R1 R2 ks vs x i v w' := by
  unfold colM at h ⊢
  split
  · obtain ⟨g, e1, e2, e3⟩ := h; exact ⟨g, e1, e2, e3.kept hk (hM' g e2 (by simp))⟩
  · exact Own.kept h hk (fun b _ hb => hb.elim (hR1 (.inl rfl) b) (fun hb => hM' b hb (by simp)))
  · obtain ⟨g, e1, e2, e3⟩ := h; exact ⟨g, e1, e2, e3.kept hk (hM' g e2 (by simp))⟩
  · exact Own.kept h hk (fun b _ hb => hb.elim (hR2 (.inl rfl) b) (fun hb => hM' b hb (by simp)))
  · obtain ⟨A, c, e1, e2⟩ := h; exact ⟨A, c, e1.kept hk (hB rfl), e2.kept hk (fun b _ hb => hb.elim (hR1 (.inr rfl) b) (fun hb => hM' b hb (by simp)))⟩
  · obtain ⟨A, c, e1, e2⟩ := h; exact ⟨A, c, e1.kept hk (hB2 rfl), e2.kept hk (fun b _ hb => hb.elim (hR2 (.inr rfl) b) (fun hb => hM' b hb (by simp)))⟩
  · trivial
include hM h1 h2 hd in
theorem colM_stable : ∀ (k i : Nat) (v : Value) (w w' : World), k ∈ [2, 3, 6, 7, 8, 9] → i ∈ [2, 3, 6, 7, 8, 9] → i ≠ k → i ∉ colB k → colT B R1 R2 k w w' → colM B M m R1 R2 ks vs x i v w → colM B M m R1 R2 ks vs x i v w' := by
  intro k i v w w' hk hi hne hb hT h
  simp only [List.mem_cons, List.not_mem_nil, or_false] at hk hi
  rcases hk with rfl | rfl | rfl | rfl | rfl | rfl
  · exact colM_kept B M m R1 R2 ks vs x (S := fun _ => False) hT (fun _ _ _ h => h) (fun _ _ _ h => h) (fun _ _ _ h => h) (fun _ h => h) (fun _ h => h) h
  · refine colM_kept B M m R1 R2 ks vs x hT (fun b hb _ h => by have := h1 b h; omega) (fun e => ?_) (fun _ b hb h => hd b h hb) (fun _ h => by have := h1 B h; omega) (fun _ h => by have := h1 _ h; omega) h
    rcases e with rfl | rfl
    · exact absurd rfl hne
    · exact absurd (by decide) hb
  · exact colM_kept B M m R1 R2 ks vs x (S := fun _ => False) hT (fun _ _ _ h => h) (fun _ _ _ h => h) (fun _ _ _ h => h) (fun _ h => h) (fun _ h => h) h
  · refine colM_kept B M m R1 R2 ks vs x hT (fun b hb _ h => by have := h2 b h; omega) (fun _ b hb h => hd b hb h) (fun e => ?_) (fun _ h => by have := h2 B h; omega) (fun _ h => by have := h2 _ h; omega) h
    rcases e with rfl | rfl
    · exact absurd rfl hne
    · exact absurd (by decide) hb
  · exact colM_kept B M m R1 R2 ks vs x hT (fun b hb _ e => by have e : b = B := e; omega) (fun _ b hb e => by have e : b = B := e; have := h1 b hb; omega) (fun _ b hb e => by have e : b = B := e; have := h2 b hb; omega) (fun e => absurd e hne) (fun _ e => by have e : B + 2 = B := e; omega) h
  · exact colM_kept B M m R1 R2 ks vs x hT (fun b hb _ e => by have e : b = B + 2 := e; omega) (fun _ b hb e => by have e : b = B + 2 := e; have := h1 b hb; omega) (fun _ b hb e => by have e : b = B + 2 := e; have := h2 b hb; omega) (fun _ e => by have e : B = B + 2 := e; omega) (fun e => absurd e hne) h
include h1 h2 hd in
theorem col0_stable (A1 : Option Addr) (c1 : Nat) (A2 : Option Addr) (c2 : Nat) : ∀ (k j : Nat) (w w' : World), k ∈ [2, 3, 6, 7, 8, 9] → 10 + j ∉ colB k → colT B R1 R2 k w w' → col0 B m R1 R2 ks vs A1 c1 A2 c2 j w → col0 B m R1 R2 ks vs A1 c1 A2 c2 j w' := by
  intro k j w w' hk hb hT h
  have key : ∀ S : Nat → Prop, Kept S w w' → (j = 0 → ¬ S B) → (j = 1 → ¬ S (B + 2)) → (j = 2 → ∀ b, R1 b → ¬ S b) → (j = 3 → ∀ b, R2 b → ¬ S b) → col0 B m R1 R2 ks vs A1 c1 A2 c2 j w' := by
    intro S hS e0 e1 e2 e3
    unfold col0 at h ⊢
    split
    · exact h.kept hS (e0 rfl)
    · exact h.kept hS (e1 rfl)
    · exact h.kept hS (fun b _ hb => e2 rfl b hb)
    · exact h.kept hS (fun b _ hb => e3 rfl b hb)
    · trivial
  simp only [List.mem_cons, List.not_mem_nil, or_false] at hk
  rcases hk with rfl | rfl | rfl | rfl | rfl | rfl
  · exact key (fun _ => False) hT (fun _ h => h) (fun _ h => h) (fun _ _ _ h => h) (fun _ _ _ h => h)
  · refine key R1 hT (fun _ h => by have := h1 _ h; omega) (fun _ h => by have := h1 _ h; omega) (fun e => ?_) (fun _ b hb h => hd b h hb)
    subst e; exact absurd (by decide) hb
  · exact key (fun _ => False) hT (fun _ h => h) (fun _ h => h) (fun _ _ _ h => h) (fun _ _ _ h => h)
  · refine key R2 hT (fun _ h => by have := h2 _ h; omega) (fun _ h => by have := h2 _ h; omega) (fun _ b hb h => hd b hb h) (fun e => ?_)
    subst e; exact absurd (by decide) hb
  · refine key (· = B) hT (fun e => ?_) (fun _ e => by have e : B + 2 = B := e; omega) (fun _ b hb e => by have e : b = B := e; have := h1 b hb; omega) (fun _ b hb e => by have e : b = B := e; have := h2 b hb; omega)
    subst e; exact absurd (by decide) hb
  · refine key (· = B + 2) hT (fun _ e => by have e : B = B + 2 := e; omega) (fun e => ?_) (fun _ b hb e => by have e : b = B + 2 := e; have := h1 b hb; omega) (fun _ b hb e => by have e : b = B + 2 := e; have := h2 b hb; omega)
    subst e; exact absurd (by decide) hb
end
end Go.Proofs.Ytdgfefnaoionpaa
