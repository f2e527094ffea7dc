/-
  'append(append(append([]T{}, a...), x), b...)', in whatever order: what its movers leave.
-/
import Derived.Test.YtmpbmfahnbbbdaaFree
import Derived.Test.YtmpbmfahnbbbdaaRowC
set_option linter.unusedSimpArgs false
set_option linter.unusedVariables false
namespace Go.Proofs.Ytmpbmfahnbbbdaa
open Go.RowKit
set_option maxRecDepth 100000

section
variable (B : Nat) (T : TypeId) (k : Nat) (X : List Value) (t : Value) (n : Nat) (Z : List Value)
/-- The movers 0, 4, 7, 8, 12: the empty row, the first part appended, the one thing, it appended, the rest appended. -/
def insM (i : Nat) (v : Value) (w : World) : Prop := match i with
  | 0 => ∃ g, v = .slice (some ⟨g, 0, none⟩) 0 0 ∧ B ≤ g ∧ Blk w g T #[]
  | 4 => Own w (fun g => B ≤ g) T 1 v k X
  | 7 => ∃ g, v = .slice (some ⟨g, 0, none⟩) 1 1 ∧ B ≤ g ∧ Blk w g T #[t]
  | 8 => Own w (fun g => B ≤ g) T 1 v (k + 1) (X ++ [t])
  | 12 => Own w (fun g => B ≤ g) T 1 v n Z
  | _ => True
def insT (i : Nat) (w w' : World) : Prop := match i with
  | 4 => ∃ g, Blk w g T #[] ∧ Kept (· = g) w w'
  | 8 => True
  | 12 => True
  | _ => Pure w w'
def insB (i : Nat) : List Nat := match i with
  | 4 => [0, 8, 12]
  | 8 => [0, 4, 7, 12]
  | 12 => [0, 4, 7, 8]
  | _ => []
theorem insM_pure {i : Nat} {v : Value} {w w' : World} (hp : Pure w w') (h : insM B T k X t n Z i v w) : insM B T k X t n Z i v w' := by
  unfold insM at h ⊢
  split
  · obtain ⟨g, h1, h2, h3⟩ := h; exact ⟨g, h1, h2, h3.kept hp (fun h => h)⟩
  · exact Own.kept h hp (fun _ _ _ h => h)
  · obtain ⟨g, h1, h2, h3⟩ := h; exact ⟨g, h1, h2, h3.kept hp (fun h => h)⟩
  · exact Own.kept h hp (fun _ _ _ h => h)
  · exact Own.kept h hp (fun _ _ _ h => h)
  · trivial
theorem insM_stable : ∀ (i j : Nat) (v : Value) (w w' : World), i ∈ [0, 4, 7, 8, 12] → j ∈ [0, 4, 7, 8, 12] → j ≠ i → j ∉ insB i → insT T i w w' → insM B T k X t n Z j v w → insM B T k X t n Z j v w' := by
  intro i j v w w' hi hj hne hb hT h
  simp only [List.mem_cons, List.not_mem_nil, or_false] at hi hj
  rcases hi with rfl | rfl | rfl | rfl | rfl
  · exact insM_pure B T k X t n Z hT h
  · obtain ⟨g, hg, hT⟩ := hT
    rcases hj with rfl | rfl | rfl | rfl | rfl
    · exact absurd (by decide) hb
    · exact absurd rfl hne
    · obtain ⟨g', h1, h2, h3⟩ := h
      refine ⟨g', h1, h2, h3.kept hT (fun e => ?_)⟩
      have e : g' = g := e
      subst e
      unfold Blk at hg h3
      rw [hg] at h3
      injection h3 with h3
      injection h3 with h3
      cases h3
    · exact absurd (by decide) hb
    · exact absurd (by decide) hb
  · exact insM_pure B T k X t n Z hT h
  · rcases hj with rfl | rfl | rfl | rfl | rfl <;> first | exact absurd rfl hne | exact absurd (by decide) hb
  · rcases hj with rfl | rfl | rfl | rfl | rfl <;> first | exact absurd rfl hne | exact absurd (by decide) hb
end
theorem own_empty {w : World} {g : Nat} {T : TypeId} (h : Blk w g T #[]) : Own w (fun b => b = g) T 1 (.slice (some ⟨g, 0, none⟩) 0 0) 0 [] :=
  ⟨⟨rfl, .inr ⟨g, 0, #[], rfl, Nat.zero_le _, h, Nat.le_refl _, Nat.zero_le _, rfl, rfl⟩⟩, fun g hg => by simp [Value.ownBlock] at hg; exact hg.symm⟩
theorem sl_single {w : World} {g : Nat} {T : TypeId} {t : Value} (h : Blk w g T #[t]) : Sl w (fun b => b = g) 1 (some ⟨g, 0, none⟩) 1 [t] :=
  ⟨rfl, fun _ => ⟨g, 0, rfl, rfl, h.lt, fun j hj => by simp at hj; subst hj; rw [h.cell]; rfl⟩⟩
/-- Of a row of single cells: its head, its tail. -/
theorem Sl.head1 {w : World} {F : Nat → Prop} {A : Option Addr} {n : Nat} {xs : List Value} (h : Sl w F 1 A n xs) (m : Nat) (hm : m ≤ n) : Sl w F 1 A m (xs.take m) := by
  have := h.pre m hm
  rwa [Nat.mul_one] at this
theorem Sl.tail1 {w : World} {F : Nat → Prop} {b o n : Nat} {xs : List Value} (h : Sl w F 1 (some ⟨b, o, none⟩) n xs) (m : Nat) (hm : m ≤ n) : Sl w F 1 (some ⟨b, o + m, none⟩) (n - m) (xs.drop m) := by
  have hl := h.1
  rw [Nat.mul_one] at hl
  refine ⟨by rw [List.length_drop]; omega, fun h0 => ?_⟩
  obtain ⟨b', o', hA, h1, h2, h3⟩ := h.2 (by omega)
  injection hA with hA
  injection hA with e1 e2
  subst e1 e2
  refine ⟨_, _, rfl, h1, h2, fun j hj => ?_⟩
  rw [List.length_drop] at hj
  rw [Nat.add_assoc, h3 (m + j) (by omega), List.getElem?_drop]
theorem Sl.tailA {w : World} {F : Nat → Prop} {A : Option Addr} {n c q : Nat} {xs : List Value} (h : Sl w F 1 A n xs) (hq : q ≤ n) (hn : n ≤ c) : Sl w F 1 (if c = q then A else A.map (fun a => a.add q)) (n - q) (xs.drop q) := by
  have hl := h.1
  rw [Nat.mul_one] at hl
  rcases Nat.eq_zero_or_pos (n - q) with h0 | h0
  · rw [h0, List.drop_eq_nil_of_le (by omega)]
    exact Sl.nil _ _ _ _
  · rw [if_neg (by omega)]
    obtain ⟨b, o, rfl, _, _, _⟩ := h.2 (by omega)
    have := h.tail1 q hq
    simpa [Addr.add_lit] using this
theorem Sl.tailB {w : World} {F : Nat → Prop} {A : Option Addr} {n c q : Nat} {xs : List Value} (h : Sl w F 1 A n xs) (hq : q ≤ n) (hn : n ≤ c) : Sl w F 1 (if c = q then A else A.map (fun a => ⟨a.block, a.off + q, none⟩)) (n - q) (xs.drop q) := by
  have hl := h.1
  rw [Nat.mul_one] at hl
  rcases Nat.eq_zero_or_pos (n - q) with h0 | h0
  · rw [h0, List.drop_eq_nil_of_le (by omega)]
    exact Sl.nil _ _ _ _
  · rw [if_neg (by omega)]
    obtain ⟨b, o, rfl, _, _, _⟩ := h.2 (by omega)
    exact h.tail1 q hq
end Go.Proofs.Ytmpbmfahnbbbdaa
