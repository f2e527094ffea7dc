/-
  Texts compared, in plain Lean.
-/
import Derived.Lib.Bytealg
import Derived.Test.YtiddhcabpmkolaaGreatDoorZLib
set_option linter.unusedSimpArgs false
set_option linter.unusedVariables false
namespace Go.Proofs.YtiddhcabpmkolaaGreatDoor
open Go.RowKit
set_option maxRecDepth 100000

theorem str_eq {a b : ByteArray} : a.toList = b.toList ↔ a = b := by
  constructor
  · intro h
    rw [Go.Lib.toList_data, Go.Lib.toList_data] at h
    exact ByteArray.ext (Array.toList_inj.1 h)
  · rintro rfl; rfl
theorem str_ne {a b : ByteArray} (h : ¬ a = b) : (a.toList == b.toList) = false := by
  simp only [beq_eq_false_iff_ne, ne_eq, str_eq]
  exact h
theorem str_same (a b : ByteArray) : (a.toList == b.toList) = decide (a = b) := by
  by_cases h : a = b
  · subst h; simp
  · rw [str_ne h]; simp [h]
end Go.Proofs.YtiddhcabpmkolaaGreatDoor
