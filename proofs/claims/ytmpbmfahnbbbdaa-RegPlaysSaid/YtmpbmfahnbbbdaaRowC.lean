/-
  Rows of things of some cells each.
-/
import Derived.Test.YtmpbmfahnbbbdaaLib
set_option linter.unusedSimpArgs false
set_option linter.unusedVariables false
namespace Go.Proofs.Ytmpbmfahnbbbdaa
open Go.RowKit
set_option maxRecDepth 100000

section
variable {α : Type}
theorem fm_length (f : α → List Value) (k : Nat) (hf : ∀ a, (f a).length = k) (l : List α) : (l.flatMap f).length = l.length * k := by
  induction l with
  | nil => simp
  | cons a l ih => rw [List.flatMap_cons, List.length_append, hf, ih, List.length_cons, Nat.succ_mul]; omega
theorem fm_get (f : α → List Value) (k : Nat) (hf : ∀ a, (f a).length = k) (l : List α) (i j : Nat) (e : α) (h : l[i]? = some e) (hj : j < k) : (l.flatMap f)[i * k + j]? = (f e)[j]? := by
  induction l generalizing i with
  | nil => simp at h
  | cons x l ih =>
    cases i with
    | zero =>
      simp at h
      subst h
      rw [List.flatMap_cons, List.getElem?_append_left (by rw [hf]; omega)]
      congr 1
      omega
    | succ i =>
      rw [List.flatMap_cons, Nat.succ_mul, List.getElem?_append_right (by rw [hf]; omega), hf, show i * k + k + j - k = i * k + j from by omega]
      exact ih i (by simpa using h)
/-- Of a slice that reads as a row of things: the cells of one of them. -/
theorem sl_at {f : α → List Value} {k : Nat} (hf : ∀ a, (f a).length = k) {w : World} {F : Nat → Prop} {b o n : Nat} {l : List α} (h : Sl w F k (some ⟨b, o, none⟩) n (l.flatMap f)) (hn : 0 < n) {i : Nat} {e : α} (he : l[i]? = some e) (j : Nat) (hj : j < k) :
    w.cell? ⟨b, o + i * k + j, none⟩ = (f e)[j]? := by
  obtain ⟨b', o', hA, _, _, hc⟩ := h.2 hn
  injection hA with hA
  injection hA with e1 e2
  subst e1 e2
  have hi := (List.getElem?_eq_some_iff.1 he).1
  have hle : (i + 1) * k ≤ l.length * k := Nat.mul_le_mul_right _ hi
  rw [Nat.succ_mul] at hle
  rw [Nat.add_assoc, hc (i * k + j) (by rw [fm_length f k hf]; omega), fm_get f k hf l i j e he hj]
/-- A row of single values. -/
theorem sl_one {w : World} {F : Nat → Prop} {b o n : Nat} {f : α → Value} {l : List α} (h : Sl w F 1 (some ⟨b, o, none⟩) n (l.map f)) {i : Nat} {e : α} (he : l[i]? = some e) : w.cell? ⟨b, o + i, none⟩ = some (f e) := by
  have hi := (List.getElem?_eq_some_iff.1 he).1
  have hl := h.1
  simp at hl
  obtain ⟨b', o', hA, _, _, hc⟩ := h.2 (by omega)
  injection hA with hA
  injection hA with e1 e2
  subst e1 e2
  rw [hc i (by simpa using hi), List.getElem?_map, he]
  rfl
end
end Go.Proofs.Ytmpbmfahnbbbdaa
