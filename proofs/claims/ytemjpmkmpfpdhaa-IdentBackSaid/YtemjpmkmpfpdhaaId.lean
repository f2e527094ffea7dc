/- names: the walks of small, Name, UID -/
import Derived.Test.YtemjpmkmpfpdhaaLib
import Derived.Test.YtemjpmkmpfpdhaaRows
import Derived.PlainAid
import Derived.BigQuiet
set_option linter.unusedSimpArgs false
set_option linter.unusedVariables false
namespace Go.Proofs.Ytemjpmkmpfpdhaa
open Go.RowKit
set_option maxRecDepth 100000

/-- a to z, or a digit. -/
def smB (c : Int) : Bool := (decide (97 ≤ c) && decide (c ≤ 122)) || (decide (48 ≤ c) && decide (c ≤ 57))

theorem small_any (c : Int) (w : World) (h0 : 0 ≤ c) (h1 : c ≤ 255) :
    Calls Try.prog 16 #[.int .u8 c] w fun e w' => e = .returned (.bool (smB c)) ∧ w = w' := by
  by_cases a1 : 97 ≤ c
  · by_cases a2 : c ≤ 122
    · have e : smB c = true := by simp [smB]; omega
      rw [e]
      clear e
      go_enter Try.func16, Try.ntmps16
      go_wp2
      go_ret
      exact ⟨rfl, rfl⟩
    · have e : smB c = false := by simp [smB]; omega
      rw [e]
      have a3 : ¬ c ≤ 57 := by omega
      have a4 : 48 ≤ c := by omega
      clear e
      go_enter Try.func16, Try.ntmps16
      go_wp2
      go_ret
      exact ⟨rfl, rfl⟩
  · by_cases a3 : 48 ≤ c
    · by_cases a4 : c ≤ 57
      · have e : smB c = true := by simp [smB]; omega
        rw [e]
        clear e
        go_enter Try.func16, Try.ntmps16
        go_wp2
        go_ret
        exact ⟨rfl, rfl⟩
      · have e : smB c = false := by simp [smB]; omega
        rw [e]
        clear e
        go_enter Try.func16, Try.ntmps16
        go_wp2
        go_ret
        exact ⟨rfl, rfl⟩
    · have e : smB c = false := by simp [smB]; omega
      rw [e]
      clear e
      go_enter Try.func16, Try.ntmps16
      go_wp2
      go_ret
      exact ⟨rfl, rfl⟩

open Go.PlainAid
/-- Is it a name? -/
def nameB (s : ByteArray) : Bool :=
  decide (1 ≤ s.size ∧ s.size ≤ 16 ∧ 97 ≤ bt s 0 ∧ bt s 0 ≤ 122 ∧ bt s (s.size - 1) ≠ 45 ∧ ∀ k, k < s.size → smB (bt s k) = true ∨ bt s k = 45)
theorem nameB_no {s : ByteArray} (h : ¬ (1 ≤ s.size ∧ s.size ≤ 16 ∧ 97 ≤ bt s 0 ∧ bt s 0 ≤ 122 ∧ bt s (s.size - 1) ≠ 45 ∧ ∀ k, k < s.size → smB (bt s k) = true ∨ bt s k = 45)) : nameB s = false := decide_eq_false h
theorem nameB_yes {s : ByteArray} (h : 1 ≤ s.size ∧ s.size ≤ 16 ∧ 97 ≤ bt s 0 ∧ bt s 0 ≤ 122 ∧ bt s (s.size - 1) ≠ 45 ∧ ∀ k, k < s.size → smB (bt s k) = true ∨ bt s k = 45) : nameB s = true := decide_eq_true h

set_option maxHeartbeats 800000 in
theorem name_any (s : ByteArray) (w : World) (hs : s.size ≤ maxLen) :
    Calls Try.prog 9 #[.string s] w fun e w' => e = .returned (.bool (nameB s)) ∧ w = w' := by
  unfold maxLen at hs
  by_cases h1 : s.size < 1
  · have e := nameB_no (s := s) (by omega)
    rw [e]
    clear e
    have h1' : (s.size : Int) < 1 := by omega
    go_enter Try.func9, Try.ntmps9
    go_wp2
    go_ret
    exact ⟨rfl, rfl⟩
  · by_cases h2 : 16 < s.size
    · have e := nameB_no (s := s) (by omega)
      rw [e]
      clear e
      have h1' : ¬ (s.size : Int) < 1 := by omega
      have h2' : (16 : Int) < s.size := by omega
      go_enter Try.func9, Try.ntmps9
      go_wp2
      go_ret
      exact ⟨rfl, rfl⟩
    · have h1' : 0 < s.size := by omega
      have h2' : s.size ≤ 16 := by omega
      have hb := get_bt s
      have hn0 := bt_nonneg s 0
      have hn1 := bt_le s 0
      have hcut : ((s.size : Int) - 1).toNat = s.size - 1 := by omega
      clear h1 h2
      by_cases h3 : bt s 0 < 97
      · rw [nameB_no (s := s) (by omega)]
        go_enter Try.func9, Try.ntmps9
        go_wp2
        go_ret
        exact ⟨rfl, rfl⟩
      · by_cases h4 : 122 < bt s 0
        · rw [nameB_no (s := s) (by omega)]
          go_enter Try.func9, Try.ntmps9
          go_wp2
          go_ret
          exact ⟨rfl, rfl⟩
        · by_cases h5 : bt s (s.size - 1) = 45
          · rw [nameB_no (s := s) (by rintro ⟨_, _, _, _, a5, _⟩; exact a5 h5)]
            have h5' : (bt s (s.size - 1) == 45) = true := by simpa using h5
            clear h5
            go_enter Try.func9, Try.ntmps9
            go_wp2
            go_ret
            exact ⟨rfl, rfl⟩
          · have h5' : (bt s (s.size - 1) == 45) = false := by simpa using h5
            have H5 := Lib.hid h5
            clear h5
            go_enter Try.func9, Try.ntmps9
            go_wp2_with fail
            go_loop [32] (fun i => ∃ j : Nat, j ≤ s.size ∧ i = .int .i64 j ∧ Hid (∀ k, k < j → smB (bt s k) = true ∨ bt s k = 45)) (fun i => s.size - (intOf i).toNat)
            case atStart => exact ⟨0, Nat.zero_le _, rfl, fun k hk => absurd hk (by omega)⟩
            case round =>
              obtain ⟨j, hj, rfl, hall⟩ := hrel
              by_cases hjn : j < s.size
              · have b0 := bt_nonneg s j
                have b1 := bt_le s j
                obtain ⟨B, hB⟩ : ∃ B, B = smB (bt s j) := ⟨_, rfl⟩
                have hc := small_any (bt s j)
                rw [← hB] at hc
                have HB := Lib.hid hB
                have Hc := Lib.hid hc
                clear hc hB
                cases B with
                | true =>
                  go_wp2_with (go_at_call 16; refine (Hc.out _ b0 b1).mono ?_; rintro e w' ⟨rfl, rfl⟩)
                  go_round
                  case rel =>
                    refine ⟨j + 1, by omega, by go_num, fun k hk => ?_⟩
                    by_cases hkj : k < j
                    · exact hall.out k hkj
                    · obtain rfl : k = j := by omega
                      exact .inl HB.out.symm
                  case measure => simp [intOf]; omega
                | false =>
                  by_cases h45 : bt s j = 45
                  · have h45' : (bt s j != 45) = false := by simp [h45]
                    have H45 := Lib.hid h45
                    clear h45
                    go_wp2_with (go_at_call 16; refine (Hc.out _ b0 b1).mono ?_; rintro e w' ⟨rfl, rfl⟩)
                    go_round
                    case rel =>
                      refine ⟨j + 1, by omega, by go_num, fun k hk => ?_⟩
                      by_cases hkj : k < j
                      · exact hall.out k hkj
                      · obtain rfl : k = j := by omega
                        exact .inr H45.out
                    case measure => simp [intOf]; omega
                  · have h45' : (bt s j != 45) = true := by simp [h45]
                    have Hno := Lib.hid (nameB_no (s := s) (by
                      rintro ⟨_, _, _, _, _, a6⟩
                      rcases a6 j hjn with h | h
                      · rw [← HB.out] at h; cases h
                      · exact h45 h))
                    clear h45
                    go_wp2_with (go_at_call 16; refine (Hc.out _ b0 b1).mono ?_; rintro e w' ⟨rfl, rfl⟩)
                    go_ret
                    rw [Hno.out]
                    exact ⟨rfl, rfl⟩
              · obtain rfl : j = s.size := by omega
                have hyes := nameB_yes (s := s) ⟨by omega, by omega, by omega, by omega, H5.out, hall.out⟩
                have Hyes := Lib.hid hyes
                clear hyes
                go_wp2
                go_ret
                rw [Hyes.out]
                exact ⟨rfl, rfl⟩
end Go.Proofs.Ytemjpmkmpfpdhaa
