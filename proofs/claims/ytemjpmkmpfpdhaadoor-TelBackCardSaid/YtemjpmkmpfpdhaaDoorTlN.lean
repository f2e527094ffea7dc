/-
  the reference's Match walked.
-/
import Derived.Test.YtemjpmkmpfpdhaaDoorTlB
set_option linter.unusedSimpArgs false
set_option linter.unusedVariables false
namespace Go.Proofs.YtemjpmkmpfpdhaaDoor
open Go.RowKit
set_option maxRecDepth 100000

set_option maxHeartbeats 3200000 in
theorem refm_walk (a b u v : ByteArray) (p q uv vu : Bool) (w : World) (su : u.size ≤ 15) (sv : v.size ≤ 15)
    (C1 : Hid (Calls Tryd.prog 24 #[.string a] w fun e w' => e = .returned (.bool p) ∧ w = w'))
    (C2 : Hid (Calls Tryd.prog 24 #[.string b] w fun e w' => e = .returned (.bool q) ∧ w = w'))
    (T1 : Hid (p = true → Calls Tryd.prog 37 #[.string a] w fun e w' => e = .returned (.string u) ∧ w = w'))
    (T2 : Hid (q = true → Calls Tryd.prog 37 #[.string b] w fun e w' => e = .returned (.string v) ∧ w = w'))
    (S1 : Hid (((u.extract (u.size - v.size) u.size).toList == v.toList) = uv))
    (S2 : Hid (((v.extract (v.size - u.size) v.size).toList == u.toList) = vu)) :
    Calls Tryd.prog 27 #[.string a, .string b] w fun e w' => e = .returned (.bool (p && q && (if v.size < u.size then decide (5 ≤ v.size) && uv else decide (5 ≤ u.size) && vu))) ∧ w = w' := by
  cases p with
  | false =>
    rw [Bool.false_and, Bool.false_and]
    go_enter Tryd.func27, Tryd.ntmps27
    go_wp2_with fail
    refine (C1.out).mono ?_
    rintro e w' ⟨rfl, rfl⟩
    go_wp2
    go_ret
    exact ⟨rfl, rfl⟩
  | true =>
    cases q with
    | false =>
      rw [Bool.true_and, Bool.false_and]
      go_enter Tryd.func27, Tryd.ntmps27
      go_wp2_with fail
      refine (C1.out).mono ?_
      rintro e w' ⟨rfl, rfl⟩
      go_wp2_with fail
      refine (C2.out).mono ?_
      rintro e w' ⟨rfl, rfl⟩
      go_wp2
      go_ret
      exact ⟨rfl, rfl⟩
    | true =>
      rw [Bool.true_and, Bool.true_and]
      replace T1 := Lib.hid (T1.out rfl)
      replace T2 := Lib.hid (T2.out rfl)
      by_cases hs : v.size < u.size
      · rw [if_pos hs]
        have hcut : ((u.size : Int) - (v.size : Int)).toNat = u.size - v.size := by omega
        have n4 : 0 ≤ (u.size : Int) - (v.size : Int) ∧ (u.size : Int) - (v.size : Int) ≤ (u.size : Int) := by omega
        by_cases h5 : 5 ≤ v.size
        · rw [decide_eq_true h5, Bool.true_and]
          go_enter Tryd.func27, Tryd.ntmps27
          go_wp2_with fail
          refine (C1.out).mono ?_
          rintro e w' ⟨rfl, rfl⟩
          go_wp2_with fail
          refine (C2.out).mono ?_
          rintro e w' ⟨rfl, rfl⟩
          go_wp2_with fail
          refine (T1.out).mono ?_
          rintro e w' ⟨rfl, rfl⟩
          go_wp2_with fail
          refine (T2.out).mono ?_
          rintro e w' ⟨rfl, rfl⟩
          have s1 := S1.out
          go_wp2
          go_ret
          exact ⟨rfl, rfl⟩
        · rw [decide_eq_false h5, Bool.false_and]
          go_enter Tryd.func27, Tryd.ntmps27
          go_wp2_with fail
          refine (C1.out).mono ?_
          rintro e w' ⟨rfl, rfl⟩
          go_wp2_with fail
          refine (C2.out).mono ?_
          rintro e w' ⟨rfl, rfl⟩
          go_wp2_with fail
          refine (T1.out).mono ?_
          rintro e w' ⟨rfl, rfl⟩
          go_wp2_with fail
          refine (T2.out).mono ?_
          rintro e w' ⟨rfl, rfl⟩
          go_wp2
          go_ret
          exact ⟨rfl, rfl⟩
      · rw [if_neg hs]
        have hcut : ((v.size : Int) - (u.size : Int)).toNat = v.size - u.size := by omega
        have n4 : 0 ≤ (v.size : Int) - (u.size : Int) ∧ (v.size : Int) - (u.size : Int) ≤ (v.size : Int) := by omega
        by_cases h5 : 5 ≤ u.size
        · rw [decide_eq_true h5, Bool.true_and]
          go_enter Tryd.func27, Tryd.ntmps27
          go_wp2_with fail
          refine (C1.out).mono ?_
          rintro e w' ⟨rfl, rfl⟩
          go_wp2_with fail
          refine (C2.out).mono ?_
          rintro e w' ⟨rfl, rfl⟩
          go_wp2_with fail
          refine (T1.out).mono ?_
          rintro e w' ⟨rfl, rfl⟩
          go_wp2_with fail
          refine (T2.out).mono ?_
          rintro e w' ⟨rfl, rfl⟩
          have s2 := S2.out
          go_wp2
          go_ret
          exact ⟨rfl, rfl⟩
        · rw [decide_eq_false h5, Bool.false_and]
          go_enter Tryd.func27, Tryd.ntmps27
          go_wp2_with fail
          refine (C1.out).mono ?_
          rintro e w' ⟨rfl, rfl⟩
          go_wp2_with fail
          refine (C2.out).mono ?_
          rintro e w' ⟨rfl, rfl⟩
          go_wp2_with fail
          refine (T1.out).mono ?_
          rintro e w' ⟨rfl, rfl⟩
          go_wp2_with fail
          refine (T2.out).mono ?_
          rintro e w' ⟨rfl, rfl⟩
          go_wp2
          go_ret
          exact ⟨rfl, rfl⟩
end Go.Proofs.YtemjpmkmpfpdhaaDoor
