/- names: the reference's walks of low, up, digit, Name, UID -/
import Derived.Test.YtemjpmkmpfpdhaaIdU
set_option linter.unusedSimpArgs false
set_option linter.unusedVariables false
namespace Go.Proofs.Ytemjpmkmpfpdhaa
open Go.RowKit Go.PlainAid
set_option maxRecDepth 100000

def inB (a b c : Int) : Bool := decide (a ≤ c) && decide (c ≤ b)
theorem inB_yes {a b c : Int} (h : a ≤ c ∧ c ≤ b) : inB a b c = true := by simp [inB, h]
theorem inB_no {a b c : Int} (h : ¬ (a ≤ c ∧ c ≤ b)) : inB a b c = false := by simp [inB]; omega

theorem ref_low (c : Int) (w : World) (h0 : 0 ≤ c) (h1 : c ≤ 255) :
    Calls Try.prog 17 #[.int .u8 c] w fun e w' => e = .returned (.bool (inB 97 122 c)) ∧ w = w' := by
  by_cases a1 : 97 ≤ c
  · by_cases a2 : c ≤ 122
    · rw [inB_yes ⟨a1, a2⟩]
      go_enter Try.func17, Try.ntmps17
      go_wp2
      go_ret
      exact ⟨rfl, rfl⟩
    · rw [inB_no (by omega)]
      go_enter Try.func17, Try.ntmps17
      go_wp2
      go_ret
      exact ⟨rfl, rfl⟩
  · rw [inB_no (by omega)]
    go_enter Try.func17, Try.ntmps17
    go_wp2
    go_ret
    exact ⟨rfl, rfl⟩

theorem ref_up (c : Int) (w : World) (h0 : 0 ≤ c) (h1 : c ≤ 255) :
    Calls Try.prog 19 #[.int .u8 c] w fun e w' => e = .returned (.bool (inB 65 90 c)) ∧ w = w' := by
  by_cases a1 : 65 ≤ c
  · by_cases a2 : c ≤ 90
    · rw [inB_yes ⟨a1, a2⟩]
      go_enter Try.func19, Try.ntmps19
      go_wp2
      go_ret
      exact ⟨rfl, rfl⟩
    · rw [inB_no (by omega)]
      go_enter Try.func19, Try.ntmps19
      go_wp2
      go_ret
      exact ⟨rfl, rfl⟩
  · rw [inB_no (by omega)]
    go_enter Try.func19, Try.ntmps19
    go_wp2
    go_ret
    exact ⟨rfl, rfl⟩

theorem ref_digit (c : Int) (w : World) (h0 : 0 ≤ c) (h1 : c ≤ 255) :
    Calls Try.prog 18 #[.int .u8 c] w fun e w' => e = .returned (.bool (inB 48 57 c)) ∧ w = w' := by
  by_cases a1 : 48 ≤ c
  · by_cases a2 : c ≤ 57
    · rw [inB_yes ⟨a1, a2⟩]
      go_enter Try.func18, Try.ntmps18
      go_wp2
      go_ret
      exact ⟨rfl, rfl⟩
    · rw [inB_no (by omega)]
      go_enter Try.func18, Try.ntmps18
      go_wp2
      go_ret
      exact ⟨rfl, rfl⟩
  · rw [inB_no (by omega)]
    go_enter Try.func18, Try.ntmps18
    go_wp2
    go_ret
    exact ⟨rfl, rfl⟩

theorem smB_in (c : Int) : smB c = (inB 97 122 c || inB 48 57 c) := rfl

set_option maxHeartbeats 800000 in
theorem ref_name (s : ByteArray) (w : World) (hs : s.size ≤ maxLen) :
    Calls Try.prog 10 #[.string s] w fun e w' => e = .returned (.bool (nameB s)) ∧ w = w' := by
  unfold maxLen at hs
  by_cases h1 : s.size < 1
  · rw [nameB_no (s := s) (by omega)]
    have h1' : (s.size : Int) < 1 := by omega
    go_enter Try.func10, Try.ntmps10
    go_wp2
    go_ret
    exact ⟨rfl, rfl⟩
  · by_cases h2 : 16 < s.size
    · rw [nameB_no (s := s) (by omega)]
      have h1' : ¬ (s.size : Int) < 1 := by omega
      have h2' : (16 : Int) < s.size := by omega
      go_enter Try.func10, Try.ntmps10
      go_wp2
      go_ret
      exact ⟨rfl, rfl⟩
    · have h1' : 0 < s.size := by omega
      have h2' : s.size ≤ 16 := by omega
      have hb := get_bt s
      have hn0 := bt_nonneg s 0
      have hn1 := bt_le s 0
      have hcut : ((s.size : Int) - 1).toNat = s.size - 1 := by omega
      clear h1 h2
      by_cases h3 : 97 ≤ bt s 0 ∧ bt s 0 ≤ 122
      · have c0 := ref_low (bt s 0)
        rw [inB_yes h3] at c0
        have C0 := Lib.hid c0
        have H3 := Lib.hid h3
        clear c0 h3
        by_cases h5 : bt s (s.size - 1) = 45
        · rw [nameB_no (s := s) (by rintro ⟨_, _, _, _, a5, _⟩; exact a5 h5)]
          have h5' : (bt s (s.size - 1) == 45) = true := by simpa using h5
          clear h5
          go_enter Try.func10, Try.ntmps10
          go_wp2_with (go_at_call 17; refine (C0.out _ hn0 hn1).mono ?_; rintro e w' ⟨rfl, rfl⟩)
          go_ret
          exact ⟨rfl, rfl⟩
        · have h5' : (bt s (s.size - 1) == 45) = false := by simpa using h5
          have H5 := Lib.hid h5
          clear h5
          go_enter Try.func10, Try.ntmps10
          go_wp2_with (go_at_call 17; refine (C0.out _ hn0 hn1).mono ?_; rintro e w' ⟨rfl, rfl⟩)
          go_loop [3] (fun i => ∃ j : Nat, j ≤ s.size ∧ i = .int .i64 j ∧ Hid (∀ k, k < j → smB (bt s k) = true ∨ bt s k = 45)) (fun i => s.size - (intOf i).toNat)
          case atStart => exact ⟨0, Nat.zero_le _, rfl, fun k hk => absurd hk (by omega)⟩
          case round =>
            obtain ⟨j, hj, rfl, hall⟩ := hrel
            by_cases hjn : j < s.size
            · have b0 := bt_nonneg s j
              have b1 := bt_le s j
              have Hc := Lib.hid (ref_low (bt s j))
              have Hd := Lib.hid (ref_digit (bt s j))
              go_wp2_with (first | (go_at_call 17; refine (Hc.out _ b0 b1).mono ?_; rintro e w' ⟨rfl, rfl⟩) | (go_at_call 18; refine (Hd.out _ b0 b1).mono ?_; rintro e w' ⟨rfl, rfl⟩))
              all_goals first
                | (go_ret
                   have hno : smB (bt s j) = false ∧ bt s j ≠ 45 := by first | (simp [smB_in, *]; done) | (simp_all [smB_in]; done) | (simp_all [smB_in]; omega)
                   rw [nameB_no (s := s) (by rintro ⟨_, _, _, _, _, a⟩; rcases a j hjn with h | h; rw [hno.1] at h; cases h; exact hno.2 h)]
                   exact ⟨rfl, rfl⟩)
                | (go_round
                   case measure => simp [intOf]; omega
                   case rel =>
                     have hyes : smB (bt s j) = true ∨ bt s j = 45 := by first | (simp [smB_in, *]; done) | (simp_all [smB_in]; done) | (simp_all [smB_in]; omega)
                     refine ⟨j + 1, by omega, by go_num, fun k hk => ?_⟩
                     by_cases hkj : k < j
                     · exact hall.out k hkj
                     · obtain rfl : k = j := by omega
                       exact hyes)
            · obtain rfl : j = s.size := by omega
              have Hyes := Lib.hid (nameB_yes (s := s) ⟨by omega, by omega, H3.out.1, H3.out.2, H5.out, hall.out⟩)
              go_wp2
              go_ret
              rw [Hyes.out]
              exact ⟨rfl, rfl⟩
      · have c0 := ref_low (bt s 0)
        rw [inB_no h3] at c0
        have C0 := Lib.hid c0
        rw [nameB_no (s := s) (by omega)]
        clear c0 h3
        go_enter Try.func10, Try.ntmps10
        go_wp2_with (go_at_call 17; refine (C0.out _ hn0 hn1).mono ?_; rintro e w' ⟨rfl, rfl⟩)
        go_ret
        exact ⟨rfl, rfl⟩
end Go.Proofs.Ytemjpmkmpfpdhaa
