/-
  The law's own first.
-/
import Derived.Test.YtemjpmkmpfpdhaaDoorFoT
set_option linter.unusedSimpArgs false
set_option linter.unusedVariables false
namespace Go.Proofs.YtemjpmkmpfpdhaaDoor
open Go.RowKit
set_option maxRecDepth 100000

theorem eval_clean : cleanL (Lib.validD [32, 32, 65, 110, 110, 32, 32, 32, 76, 101, 101, 32]) [32, 32, 65, 110, 110, 32, 32, 32, 76, 101, 101, 32] = ([65, 110, 110, 32, 76, 101, 101], 0) := by decide +kernel
theorem eval_less : lessL [97, 110, 110] [66, 111, 98] = true := by decide +kernel
theorem eval_signs : signs ⟨#[195, 169]⟩ = 1 := by decide +kernel

set_option maxHeartbeats 800000 in
theorem first_any (w : World) (hT : Tb w) : Calls Tryd.prog 10 #[] w fun e w' => e = .returned (.bool true) ∧ Pure w w' := by
  have c1 := clean_any ⟨#[32, 32, 65, 110, 110, 32, 32, 32, 76, 101, 101, 32]⟩ w (by decide) hT
  rw [eval_clean] at c1
  have c2 := fun w => less_any ⟨#[97, 110, 110]⟩ ⟨#[66, 111, 98]⟩ w (by decide) (by decide)
  rw [eval_less] at c2
  have c3 := fun w hT => signs_any ⟨#[195, 169]⟩ w (by decide) hT
  rw [eval_signs] at c3
  have C1 := Lib.hid c1
  have C2 := Lib.hid c2
  have C3 := Lib.hid c3
  have HT := Lib.hid hT
  clear c1 c2 c3 hT
  go_enter Tryd.func10, Tryd.ntmps10
  go_wp2_with fail
  refine (C1.out).mono ?_
  rintro e w1 ⟨rfl, hk1⟩
  go_wp2_with fail
  refine (C2.out w1).mono ?_
  rintro e w2 ⟨rfl, hk2⟩
  have hk := hk1.same hk2
  have HT2 := Lib.hid (HT.out.kept hk)
  go_wp2_with fail
  refine (C3.out w2 HT2.out).mono ?_
  rintro e w3 ⟨rfl, hk3⟩
  go_wp2
  go_ret
  exact ⟨rfl, hk.same hk3⟩
end Go.Proofs.YtemjpmkmpfpdhaaDoor
