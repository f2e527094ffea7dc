/-
  tel's Match walked.
-/
import Derived.Test.YtemjpmkmpfpdhaaDoorTl
import Derived.Test.YtemjpmkmpfpdhaaDoorTlS
set_option linter.unusedSimpArgs false
set_option linter.unusedVariables false
namespace Go.Proofs.YtemjpmkmpfpdhaaDoor
open Go.RowKit
set_option maxRecDepth 100000

def zl (l : List UInt8) : List UInt8 := Lib.trimLeftB l 48
def ends (x y : List UInt8) : Bool := decide (5 ≤ x.length) && Lib.hasSuffix y x
def matchL (a b : List UInt8) : Bool := (rowL a).2 && (rowL b).2 && (if (zl (rowL b).1).length < (zl (rowL a).1).length then ends (zl (rowL b).1) (zl (rowL a).1) else ends (zl (rowL a).1) (zl (rowL b).1))
theorem zl_le (l : List UInt8) : (zl l).length ≤ l.length := by
  unfold zl Lib.trimLeftB
  exact (List.dropWhile_sublist _).length_le
theorem mk_size (l : List UInt8) : (ByteArray.mk l.toArray).size = l.length := by show l.toArray.size = _; simp

set_option maxHeartbeats 3200000 in
theorem match_walk (a b x y u v : ByteArray) (p q uv vu : Bool) (w : World) (su : u.size ≤ 15) (sv : v.size ≤ 15)
    (C1 : Hid (Calls Tryd.prog 33 #[.string a] w fun e w' => e = .returned (.tuple #[.string x, .bool p]) ∧ w = w'))
    (C2 : Hid (Calls Tryd.prog 33 #[.string b] w fun e w' => e = .returned (.tuple #[.string y, .bool q]) ∧ w = w'))
    (T1 : Hid (Calls Tryd.prog 35 #[.string x, .string ⟨#[48]⟩] w fun e w' => e = .returned (.string u) ∧ w = w'))
    (T2 : Hid (Calls Tryd.prog 35 #[.string y, .string ⟨#[48]⟩] w fun e w' => e = .returned (.string v) ∧ w = w'))
    (S1 : Hid (Calls Tryd.prog 36 #[.string u, .string v] w fun e w' => e = .returned (.bool uv) ∧ w = w'))
    (S2 : Hid (Calls Tryd.prog 36 #[.string v, .string u] w fun e w' => e = .returned (.bool vu) ∧ w = w')) :
    Calls Tryd.prog 26 #[.string a, .string b] w fun e w' => e = .returned (.bool (p && q && (if v.size < u.size then decide (5 ≤ v.size) && uv else decide (5 ≤ u.size) && vu))) ∧ w = w' := by
  cases p with
  | false =>
    rw [Bool.false_and, Bool.false_and]
    go_enter Tryd.func26, Tryd.ntmps26
    go_wp2_with fail
    refine (C1.out).mono ?_
    rintro e w' ⟨rfl, rfl⟩
    go_wp2_with fail
    refine (C2.out).mono ?_
    rintro e w' ⟨rfl, rfl⟩
    go_wp2
    go_ret
    exact ⟨rfl, rfl⟩
  | true =>
    cases q with
    | false =>
      rw [Bool.true_and, Bool.false_and]
      go_enter Tryd.func26, Tryd.ntmps26
      go_wp2_with fail
      refine (C1.out).mono ?_
      rintro e w' ⟨rfl, rfl⟩
      go_wp2_with fail
      refine (C2.out).mono ?_
      rintro e w' ⟨rfl, rfl⟩
      go_wp2
      go_ret
      exact ⟨rfl, rfl⟩
    | true =>
      rw [Bool.true_and, Bool.true_and]
      by_cases hs : v.size < u.size
      · rw [if_pos hs]
        by_cases h5 : 5 ≤ v.size
        · rw [decide_eq_true h5, Bool.true_and]
          go_enter Tryd.func26, Tryd.ntmps26
          go_wp2_with fail
          refine (C1.out).mono ?_
          rintro e w' ⟨rfl, rfl⟩
          go_wp2_with fail
          refine (C2.out).mono ?_
          rintro e w' ⟨rfl, rfl⟩
          go_wp2_with fail
          refine (T1.out).mono ?_
          rintro e w' ⟨rfl, rfl⟩
          go_wp2_with fail
          refine (T2.out).mono ?_
          rintro e w' ⟨rfl, rfl⟩
          go_wp2_with fail
          refine (S1.out).mono ?_
          rintro e w' ⟨rfl, rfl⟩
          go_wp2
          go_ret
          exact ⟨rfl, rfl⟩
        · rw [decide_eq_false h5, Bool.false_and]
          go_enter Tryd.func26, Tryd.ntmps26
          go_wp2_with fail
          refine (C1.out).mono ?_
          rintro e w' ⟨rfl, rfl⟩
          go_wp2_with fail
          refine (C2.out).mono ?_
          rintro e w' ⟨rfl, rfl⟩
          go_wp2_with fail
          refine (T1.out).mono ?_
          rintro e w' ⟨rfl, rfl⟩
          go_wp2_with fail
          refine (T2.out).mono ?_
          rintro e w' ⟨rfl, rfl⟩
          go_wp2
          go_ret
          exact ⟨rfl, rfl⟩
      · rw [if_neg hs]
        by_cases h5 : 5 ≤ u.size
        · rw [decide_eq_true h5, Bool.true_and]
          go_enter Tryd.func26, Tryd.ntmps26
          go_wp2_with fail
          refine (C1.out).mono ?_
          rintro e w' ⟨rfl, rfl⟩
          go_wp2_with fail
          refine (C2.out).mono ?_
          rintro e w' ⟨rfl, rfl⟩
          go_wp2_with fail
          refine (T1.out).mono ?_
          rintro e w' ⟨rfl, rfl⟩
          go_wp2_with fail
          refine (T2.out).mono ?_
          rintro e w' ⟨rfl, rfl⟩
          go_wp2_with fail
          refine (S2.out).mono ?_
          rintro e w' ⟨rfl, rfl⟩
          go_wp2
          go_ret
          exact ⟨rfl, rfl⟩
        · rw [decide_eq_false h5, Bool.false_and]
          go_enter Tryd.func26, Tryd.ntmps26
          go_wp2_with fail
          refine (C1.out).mono ?_
          rintro e w' ⟨rfl, rfl⟩
          go_wp2_with fail
          refine (C2.out).mono ?_
          rintro e w' ⟨rfl, rfl⟩
          go_wp2_with fail
          refine (T1.out).mono ?_
          rintro e w' ⟨rfl, rfl⟩
          go_wp2_with fail
          refine (T2.out).mono ?_
          rintro e w' ⟨rfl, rfl⟩
          go_wp2
          go_ret
          exact ⟨rfl, rfl⟩

set_option maxHeartbeats 1600000 in
theorem match_any (a b : ByteArray) (w : World) (ha : a.size ≤ 1000) (hb : b.size ≤ 1000) : Calls Tryd.prog 26 #[.string a, .string b] w fun e w' => e = .returned (.bool (matchL a.data.toList b.data.toList)) ∧ w = w' := by
  have C1 := Lib.hid (row_any a w ha)
  have C2 := Lib.hid (row_any b w hb)
  unfold matchL RowPost at *
  obtain ⟨x, hx⟩ : ∃ x, (rowL a.data.toList).1 = x := ⟨_, rfl⟩
  obtain ⟨y, hy⟩ : ∃ y, (rowL b.data.toList).1 = y := ⟨_, rfl⟩
  obtain ⟨p, hp⟩ : ∃ p, (rowL a.data.toList).2 = p := ⟨_, rfl⟩
  obtain ⟨q, hq⟩ : ∃ q, (rowL b.data.toList).2 = q := ⟨_, rfl⟩
  have sx : x.length ≤ 15 := by rw [← hx]; exact (row_le _).1
  have sy : y.length ≤ 15 := by rw [← hy]; exact (row_le _).1
  rw [hx, hy, hp, hq]
  rw [hx, hp] at C1
  rw [hy, hq] at C2
  clear hx hy hp hq
  have T1 := Any.strings_TrimLeft_one Tryd.lays161 ⟨x.toArray⟩ 48 (by decide) w
  have T2 := Any.strings_TrimLeft_one Tryd.lays161 ⟨y.toArray⟩ 48 (by decide) w
  simp only [List.toList_toArray] at T1 T2
  change Calls _ _ _ _ fun e w' => e = .returned (.string ⟨(zl x).toArray⟩) ∧ w' = w at T1
  change Calls _ _ _ _ fun e w' => e = .returned (.string ⟨(zl y).toArray⟩) ∧ w' = w at T2
  have lx := zl_le x
  have ly := zl_le y
  generalize zl x = u at *
  generalize zl y = v at *
  have mu := mk_size u
  have mv := mk_size v
  have S1 := Any.strings_HasSuffix Tryd.lays100 ⟨u.toArray⟩ ⟨v.toArray⟩ w (by omega)
  have S2 := Any.strings_HasSuffix Tryd.lays100 ⟨v.toArray⟩ ⟨u.toArray⟩ w (by omega)
  simp only [List.toList_toArray] at S1 S2
  have := match_walk a b ⟨x.toArray⟩ ⟨y.toArray⟩ ⟨u.toArray⟩ ⟨v.toArray⟩ p q _ _ w (by omega) (by omega) C1 C2 (T1.mono fun e w' h => ⟨h.1, h.2.symm⟩) (T2.mono fun e w' h => ⟨h.1, h.2.symm⟩) (S1.mono fun e w' h => ⟨h.1, h.2.symm⟩) (S2.mono fun e w' h => ⟨h.1, h.2.symm⟩)
  rw [mu, mv] at this
  exact this
end Go.Proofs.YtemjpmkmpfpdhaaDoor
