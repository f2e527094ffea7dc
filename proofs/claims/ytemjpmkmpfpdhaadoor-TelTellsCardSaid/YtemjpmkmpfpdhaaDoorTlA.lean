/-
  TelTells.
-/
import Derived.Test.YtemjpmkmpfpdhaaDoorTlF
set_option linter.unusedSimpArgs false
set_option linter.unusedVariables false
namespace Go.Proofs.YtemjpmkmpfpdhaaDoor
open Go.RowKit
set_option maxRecDepth 100000

set_option maxHeartbeats 1600000 in
theorem ttells_any (a b : ByteArray) (w : World) (hT : Tb w) (ha : a.size ≤ maxLen) (hb : b.size ≤ maxLen) : Calls Tryd.prog 8 #[.string a, .string b] w (TrueF w) := by
  have C0 := Lib.hid (tfirst w hT)
  have C1 := Lib.hid (fun w h => tfirst w h)
  have HT := Lib.hid hT
  unfold maxLen at ha hb
  by_cases sa : a.size ≤ 300
  · by_cases sb : b.size ≤ 300
    · have c1 := fun w h => canon_any a w (by omega) h
      have c2 := fun w => ref_tel a w (by omega)
      have c3 := fun w => is_any a w (by omega)
      have c4 := fun w => ref_is a w (by omega)
      have c5 := fun w => show_any a w (by omega)
      have c6 := fun w => ref_show a w (by omega)
      have c7 := fun w => match_any a b w (by omega) (by omega)
      have c8 := fun w => ref_match a b w (by omega) (by omega)
      have K1 := Lib.hid c1
      have K2 := Lib.hid c2
      have K3 := Lib.hid c3
      have K4 := Lib.hid c4
      have K5 := Lib.hid c5
      have K6 := Lib.hid c6
      have K7 := Lib.hid c7
      have K8 := Lib.hid c8
      clear c1 c2 c3 c4 c5 c6 c7 c8
      unfold CleanPost at K1 K2
      generalize telL a.data.toList = R at *
      generalize isL a.data.toList = f at *
      generalize (ByteArray.mk (showL a.data.toList).toArray) = x at *
      generalize matchL a.data.toList b.data.toList = n at *
      obtain ⟨R1, R2⟩ := R
      simp only at K1 K2
      generalize (ByteArray.mk R1.toArray) = r at *
      clear hT
      go_enter Tryd.func8, Tryd.ntmps8
      go_wp2_with fail
      refine (C0.out).mono ?_
      rintro e w1 ⟨rfl, k1⟩
      go_wp2_with fail
      refine (K1.out w1 (HT.out.kept k1)).mono ?_
      rintro e w2 ⟨rfl, k2⟩
      go_wp2_with fail
      refine (K2.out w2).mono ?_
      rintro e w3 ⟨rfl, k3⟩
      have kk := k1.same (k2.same k3)
      go_wp2_with fail
      refine (K3.out w3).mono ?_
      rintro e w4 ⟨rfl, rfl⟩
      go_wp2_with fail
      refine (K4.out _).mono ?_
      rintro e w5 ⟨rfl, rfl⟩
      go_wp2_with fail
      refine (K5.out _).mono ?_
      rintro e w6 ⟨rfl, rfl⟩
      go_wp2_with fail
      refine (K6.out _).mono ?_
      rintro e w7 ⟨rfl, rfl⟩
      go_wp2_with fail
      refine (K7.out _).mono ?_
      rintro e w8 ⟨rfl, rfl⟩
      go_wp2_with fail
      refine (K8.out _).mono ?_
      rintro e w9 ⟨rfl, rfl⟩
      go_wp2
      go_ret
      exact ⟨rfl, kk⟩
    · go_enter Tryd.func8, Tryd.ntmps8
      go_wp2_with fail
      refine (C0.out).mono ?_
      rintro e w1 ⟨rfl, k1⟩
      go_wp2_with fail
      refine (C1.out w1 (HT.out.kept k1)).mono ?_
      rintro e w2 ⟨rfl, k2⟩
      go_wp2
      go_ret
      exact ⟨rfl, k1.same k2⟩
  · go_enter Tryd.func8, Tryd.ntmps8
    go_wp2_with fail
    refine (C0.out).mono ?_
    rintro e w1 ⟨rfl, k1⟩
    go_wp2_with fail
    refine (C1.out w1 (HT.out.kept k1)).mono ?_
    rintro e w2 ⟨rfl, k2⟩
    go_wp2
    go_ret
    exact ⟨rfl, k1.same k2⟩
end Go.Proofs.YtemjpmkmpfpdhaaDoor
