/-
  What slices.Delete leaves.
-/
import Derived.Test.YtmpbmfahnbbbdaaRowK
import Derived.Deep.RegionLaw
set_option linter.unusedSimpArgs false
set_option linter.unusedVariables false
namespace Go.Proofs.Ytmpbmfahnbbbdaa
open Go.RowKit
set_option maxRecDepth 100000

theorem own_row {w : World} {F : Nat → Prop} {E : TypeId} {k n c : Nat} {A : Option Addr} {xs : List Value} (h : Own w F E k (.slice A n c) n xs) (h0 : 0 < n) :
    ∃ g cur, A = some ⟨g, 0, none⟩ ∧ F g ∧ Blk w g E cur ∧ n ≤ c ∧ c ≤ maxLen ∧ cur.size = c * k ∧ cur.toList.take (n * k) = xs := by
  obtain ⟨h1, h2⟩ := h
  rcases h1.2 with ⟨h3, h4⟩ | ⟨g, cap, cur, h3, _, hg, hc, hm, hs, ht⟩
  · omega
  · injection h3 with h3 _ h5
    subst h5 h3
    exact ⟨g, cur, rfl, h2 g rfl, hg, hc, hm, hs, ht⟩
theorem setRow_blk {w : World} {g : Nat} {t : TypeId} {cur : Array Value} (h : Blk w g t cur) (cs : Array Value) : Blk (w.setRow g cs) g t cs := setRow_heap w g cur cs t (0, 0) h
/-- What a cut leaves. -/
def DelP (E : TypeId) (k : Nat) (F : Nat → Prop) (n' : Nat) (ys : List Value) (w : World) (r : Ending) (w' : World) : Prop :=
  ∃ A' c', r = .returned (.slice A' n' c') ∧ Own w' (fun b => F b ∨ w.heap.size ≤ b) E k (.slice A' n' c') n' ys ∧ Kept F w w'
end Go.Proofs.Ytmpbmfahnbbbdaa
