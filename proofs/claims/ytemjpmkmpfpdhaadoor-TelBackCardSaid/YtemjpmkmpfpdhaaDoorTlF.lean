/-
  The law's own first.
-/
import Derived.Test.YtemjpmkmpfpdhaaDoorTlT
import Derived.Test.YtemjpmkmpfpdhaaDoorTlC
set_option linter.unusedSimpArgs false
set_option linter.unusedVariables false
namespace Go.Proofs.YtemjpmkmpfpdhaaDoor
open Go.RowKit
set_option maxRecDepth 100000

def ex1 : List UInt8 := [43, 52, 57, 32, 40, 51, 48, 41, 32, 49, 50, 51, 45, 52, 53, 54]
theorem eval_tel : telL ex1 = ([43, 52, 57, 51, 48, 49, 50, 51, 52, 53, 54], 0) := by decide +kernel
theorem eval_show : showL [43, 52, 57, 51, 48, 49, 50, 51, 52, 53, 54] = [43, 52, 57, 51, 32, 48, 49, 50, 32, 51, 52, 53, 32, 54] := by decide +kernel
theorem eval_is : isL [49, 50, 51] = true := by decide +kernel

def TrueF (w : World) (e : Ending) (w' : World) : Prop := e = .returned (.bool true) ∧ Pure w w'
set_option maxHeartbeats 800000 in
theorem tfirst (w : World) (hT : Tb w) : Calls Tryd.prog 19 #[] w (TrueF w) := by
  have c1 := canon_any ⟨ex1.toArray⟩ w (by decide) hT
  rw [List.toList_toArray, eval_tel] at c1
  have c2 := fun w => show_any ⟨#[43, 52, 57, 51, 48, 49, 50, 51, 52, 53, 54]⟩ w (by decide)
  rw [eval_show] at c2
  have c3 := fun w => is_any ⟨#[49, 50, 51]⟩ w (by decide)
  rw [eval_is] at c3
  unfold CleanPost at c1
  simp only [ex1] at c1
  have C1 := Lib.hid c1
  have C2 := Lib.hid c2
  have C3 := Lib.hid c3
  clear c1 c2 c3 hT
  go_enter Tryd.func19, Tryd.ntmps19
  go_wp2_with fail
  refine (C1.out).mono ?_
  rintro e w1 ⟨rfl, hk1⟩
  go_wp2_with fail
  refine (C2.out w1).mono ?_
  rintro e w2 ⟨rfl, rfl⟩
  go_wp2_with fail
  refine (C3.out _).mono ?_
  rintro e w3 ⟨rfl, rfl⟩
  go_wp2
  go_ret
  exact ⟨rfl, hk1⟩
end Go.Proofs.YtemjpmkmpfpdhaaDoor
