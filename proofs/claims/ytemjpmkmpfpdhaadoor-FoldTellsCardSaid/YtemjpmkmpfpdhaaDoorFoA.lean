/-
  FoldTells.
-/
import Derived.Test.YtemjpmkmpfpdhaaDoorFoF
set_option linter.unusedSimpArgs false
set_option linter.unusedVariables false
namespace Go.Proofs.YtemjpmkmpfpdhaaDoor
open Go.RowKit
set_option maxRecDepth 100000

def TrueA (w : World) (e : Ending) (w' : World) : Prop := e = .returned (.bool true) ∧ Pure w w'

set_option maxHeartbeats 1600000 in
theorem tells_any (a b : ByteArray) (w : World) (hT : Tb w) (ha : a.size ≤ maxLen) (hb : b.size ≤ maxLen) : Calls Tryd.prog 3 #[.string a, .string b] w (TrueA w) := by
  have C0 := Lib.hid (first_any w hT)
  have C1 := Lib.hid (fun w h => first_any w h)
  have HT := Lib.hid hT
  unfold maxLen at ha hb
  by_cases sa : a.size ≤ 400
  · by_cases sb : b.size ≤ 400
    · have c1 := fun w h => clean_any a w (by omega) h
      have c2 := fun w => ref_clean a w (by omega)
      have c3 := fun w => fold_any a w (by omega)
      have c4 := fun w => ref_fold a w (by omega)
      have c5 := fun w => less_any a b w (by omega) (by omega)
      have c6 := fun w => ref_less a b w (by omega) (by omega)
      have c7 := fun w h => signs_any a w (by omega) h
      have c8 := fun w => ref_signs a w (by omega)
      have K1 := Lib.hid c1
      have K2 := Lib.hid c2
      have K3 := Lib.hid c3
      have K4 := Lib.hid c4
      have K5 := Lib.hid c5
      have K6 := Lib.hid c6
      have K7 := Lib.hid c7
      have K8 := Lib.hid c8
      clear c1 c2 c3 c4 c5 c6 c7 c8
      unfold CleanPost at K1 K2
      generalize cleanL (Lib.validD a.data.toList) a.data.toList = R at *
      generalize (ByteArray.mk (foldL a.data.toList).toArray) = f at *
      generalize lessL a.data.toList b.data.toList = x at *
      generalize signs a = n at *
      obtain ⟨R1, R2⟩ := R
      simp only at K1 K2
      generalize (ByteArray.mk R1.toArray) = r at *
      clear hT
      go_enter Tryd.func3, Tryd.ntmps3
      go_wp2_with fail
      refine (C0.out).mono ?_
      rintro e w1 ⟨rfl, k1⟩
      go_wp2_with fail
      refine (K1.out w1 (HT.out.kept k1)).mono ?_
      rintro e w2 ⟨rfl, k2⟩
      go_wp2_with fail
      refine (K2.out w2).mono ?_
      rintro e w3 ⟨rfl, k3⟩
      go_wp2_with fail
      refine (K3.out w3).mono ?_
      rintro e w4 ⟨rfl, k4⟩
      go_wp2_with fail
      refine (K4.out w4).mono ?_
      rintro e w5 ⟨rfl, k5⟩
      go_wp2_with fail
      refine (K5.out w5).mono ?_
      rintro e w6 ⟨rfl, k6⟩
      go_wp2_with fail
      refine (K6.out w6).mono ?_
      rintro e w7 ⟨rfl, k7⟩
      have kk := k1.same (k2.same (k3.same (k4.same (k5.same (k6.same k7)))))
      go_wp2_with fail
      refine (K7.out w7 (HT.out.kept kk)).mono ?_
      rintro e w8 ⟨rfl, k8⟩
      go_wp2_with fail
      refine (K8.out w8).mono ?_
      rintro e w' ⟨rfl, rfl⟩
      go_wp2
      go_ret
      exact ⟨rfl, kk.same k8⟩
    · go_enter Tryd.func3, Tryd.ntmps3
      go_wp2_with fail
      refine (C0.out).mono ?_
      rintro e w1 ⟨rfl, k1⟩
      go_wp2_with fail
      refine (C1.out w1 (HT.out.kept k1)).mono ?_
      rintro e w2 ⟨rfl, k2⟩
      go_wp2
      go_ret
      exact ⟨rfl, k1.same k2⟩
  · go_enter Tryd.func3, Tryd.ntmps3
    go_wp2_with fail
    refine (C0.out).mono ?_
    rintro e w1 ⟨rfl, k1⟩
    go_wp2_with fail
    refine (C1.out w1 (HT.out.kept k1)).mono ?_
    rintro e w2 ⟨rfl, k2⟩
    go_wp2
    go_ret
    exact ⟨rfl, k1.same k2⟩
end Go.Proofs.YtemjpmkmpfpdhaaDoor
