/-
  rw: slices.DeleteFunc,  of the row.
-/
import Derived.Test.YtggnndopncegaaaRwR
import Derived.Test.YtggnndopncegaaaRowS
import Derived.Test.YtggnndopncegaaaRowC
import Derived.Test.YtggnndopncegaaaRowD
import Derived.Deep.QuietTactic
import Derived.BigQuiet
set_option linter.unusedSimpArgs false
set_option linter.unusedVariables false
namespace Go.Proofs.Ytggnndopncegaaa

set_option maxRecDepth 100000

section
variable {α : Type}
/-- Without those of which p holds. -/
def keepP (p : α → Bool) (l : List α) : List α := l.filter (fun a => !p a)
/-- The row cur on the way: i of the first j stay, they lie in front; from j on it is as it was. -/
structure DI (f : α → List Value) (k : Nat) (l : List α) (p : α → Bool) (c i j : Nat) (cur : List Value) : Prop where
  size : cur.length = c * k
  front : cur.take (i * k) = (keepP p (l.take j)).flatMap f
  back : ∀ q, j * k ≤ q → q < l.length * k → cur[q]? = (l.flatMap f)[q]?
  len : (keepP p (l.take j)).length = i
variable {f : α → List Value} {k : Nat} {l : List α} {p : α → Bool} {c i j : Nat} {cur : List Value}
theorem DI.skip (h : DI f k l p c i j cur) {y : α} (hy : l[j]? = some y) (hp : p y = true) : DI f k l p c i (j + 1) cur := by
  have ht : keepP p (l.take (j + 1)) = keepP p (l.take j) := by simp [keepP, List.take_add_one, hy, hp]
  exact ⟨h.size, by rw [ht]; exact h.front, fun q hq hl => h.back q (by rw [Nat.succ_mul] at hq; omega) hl, by rw [ht]; exact h.len⟩
theorem DI.keep (hf : ∀ a, (f a).length = k) (h : DI f k l p c i j cur) {y : α} (hy : l[j]? = some y) (hp : p y = false) (hij : i ≤ j) (hc : l.length ≤ c) : DI f k l p c (i + 1) (j + 1) (splice cur (i * k) (f y)) := by
  have hjl := (List.getElem?_eq_some_iff.1 hy).1
  have ht : keepP p (l.take (j + 1)) = keepP p (l.take j) ++ [y] := by simp [keepP, List.take_add_one, hy, hp]
  have h1 : (i + 1) * k ≤ c * k := Nat.mul_le_mul_right _ (by omega)
  have h2 : (i + 1) * k ≤ (j + 1) * k := Nat.mul_le_mul_right _ (by omega)
  have h1' := h1
  rw [Nat.succ_mul] at h1'
  have hsz := h.size
  have hpre : (cur.take (i * k)).length = i * k := by simp; omega
  refine ⟨by rw [length_splice _ _ _ (by rw [hf]; omega)]; exact hsz, ?_, fun q hq hl => ?_, by rw [ht, List.length_append, h.len]; rfl⟩
  · rw [ht, List.flatMap_append, ← h.front]
    unfold splice
    rw [← List.append_assoc, List.take_append_of_le_length (by rw [List.length_append, hpre, hf, Nat.succ_mul]; exact Nat.le_refl _), List.take_of_length_le (by rw [List.length_append, hpre, hf, Nat.succ_mul]; exact Nat.le_refl _)]
    simp
  · have hq2 : i * k + k ≤ q := by rw [Nat.succ_mul, Nat.succ_mul] at h2; rw [Nat.succ_mul] at hq; omega
    rw [← h.back q (by rw [Nat.succ_mul] at hq; omega) hl]
    unfold splice
    rw [← List.append_assoc, List.getElem?_append_right (by rw [List.length_append, hpre, hf]; exact hq2), List.length_append, hpre, hf, List.getElem?_drop]
    congr 1
    omega
theorem DI.cell (hf : ∀ a, (f a).length = k) (h : DI f k l p c i j cur) {y : α} (hy : l[j]? = some y) (q : Nat) (hq : q < k) : cur[j * k + q]? = (f y)[q]? := by
  have hjl := (List.getElem?_eq_some_iff.1 hy).1
  have h2 : (j + 1) * k ≤ l.length * k := Nat.mul_le_mul_right _ hjl
  rw [Nat.succ_mul] at h2
  rw [h.back (j * k + q) (by omega) (by omega), fm_get f k hf l j q y hy hq]
theorem DI.start {i0 : Nat} (hs : cur.length = c * k) (ht : cur.take (l.length * k) = l.flatMap f) (hf : ∀ a, (f a).length = k) {y : α} (hy : l[i0]? = some y) (hp : p y = true) (hb : ∀ (j : Nat) (z : α), j < i0 → l[j]? = some z → p z = false) : DI f k l p c i0 (i0 + 1) cur := by
  have hil := (List.getElem?_eq_some_iff.1 hy).1
  have h0 : keepP p (l.take i0) = l.take i0 := by
    unfold keepP
    rw [List.filter_eq_self]
    intro a ha
    obtain ⟨j, hj⟩ := List.mem_iff_getElem?.1 ha
    have hji : j < i0 := by
      have := (List.getElem?_eq_some_iff.1 hj).1
      rw [List.length_take] at this
      omega
    rw [List.getElem?_take, if_pos hji] at hj
    rw [hb j a hji hj]
    rfl
  have h1 : DI f k l p c i0 i0 cur := by
    refine ⟨hs, ?_, fun q hq hl => ?_, by rw [h0, List.length_take]; omega⟩
    · rw [h0]
      have hle : i0 * k ≤ l.length * k := Nat.mul_le_mul_right _ (by omega)
      have : cur.take (i0 * k) = (cur.take (l.length * k)).take (i0 * k) := by rw [List.take_take, Nat.min_eq_left hle]
      rw [this, ht]
      conv => lhs; rw [show l = l.take i0 ++ l.drop i0 from (List.take_append_drop _ _).symm, List.flatMap_append]
      rw [List.take_append_of_le_length (by rw [fm_length f k hf, List.length_take, Nat.min_eq_left (by omega)]; exact Nat.le_refl _), List.take_of_length_le (by rw [fm_length f k hf, List.length_take, Nat.min_eq_left (by omega)]; exact Nat.le_refl _)]
    · rw [← ht, List.getElem?_take, if_pos hl]
  exact h1.skip hy hp
theorem keep_none (hb : ∀ (j : Nat) (z : α), l[j]? = some z → p z = false) : keepP p l = l := by
  unfold keepP
  rw [List.filter_eq_self]
  intro a ha
  obtain ⟨j, hj⟩ := List.mem_iff_getElem?.1 ha
  rw [hb j a hj]; rfl
theorem idx_cases (p : α → Bool) (l : List α) : (idx p l = -1 ∧ keepP p l = l) ∨ ∃ (i : Nat) (y : α), idx p l = (i : Nat) ∧ i < l.length ∧ l[i]? = some y ∧ p y = true ∧ ∀ (j : Nat) (z : α), j < i → l[j]? = some z → p z = false := by
  unfold idx
  cases h : l.findIdx? p with
  | none =>
    rw [List.findIdx?_eq_none_iff] at h
    exact .inl ⟨rfl, keep_none (fun j z hz => by simpa using h z (List.mem_of_getElem? hz))⟩
  | some i =>
    rw [List.findIdx?_eq_some_iff_getElem] at h
    obtain ⟨h1, h2, h3⟩ := h
    refine .inr ⟨i, l[i], rfl, h1, List.getElem?_eq_getElem h1, h2, fun j z hj hz => ?_⟩
    have := h3 j hj
    rw [List.getElem?_eq_getElem (by omega)] at hz
    injection hz with hz
    rw [← hz]; simpa using this
end
theorem lessI_keep (l : List Int) (x : Int) : lessI l x = keepP (fun a => decide (a = x)) l := by
  unfold lessI keepP; congr 1; funext a; by_cases h : a = x <;> simp [h]
theorem lessQ_keep (l : List (Int × Bool)) (x : Int) : lessQ l x = keepP (fun a => decide (a.1 = x)) l := by
  unfold lessQ keepP; congr 1; funext a; by_cases h : a.1 = x <;> simp [h]
theorem ics_flat (l : List Int) : ics l = l.flatMap fun a => [Value.int .i64 a] := by
  unfold ics
  induction l with
  | nil => rfl
  | cons a l ih => rw [List.map_cons, List.flatMap_cons, ih]; rfl
end Go.Proofs.Ytggnndopncegaaa
