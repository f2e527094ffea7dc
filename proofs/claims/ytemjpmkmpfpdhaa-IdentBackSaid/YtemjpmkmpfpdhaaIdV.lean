/- names: the reference's walk of UID -/
import Derived.Test.YtemjpmkmpfpdhaaIdR
set_option linter.unusedSimpArgs false
set_option linter.unusedVariables false
namespace Go.Proofs.Ytemjpmkmpfpdhaa
open Go.RowKit Go.PlainAid
set_option maxRecDepth 100000

theorem okU_in (c : Int) : okU c = (inB 97 122 c || inB 48 57 c || inB 65 90 c || c == 45 || c == 46 || c == 95 || c == 64) := rfl

set_option maxHeartbeats 800000 in
theorem ref_uid (s : ByteArray) (w : World) (hs : s.size ≤ maxLen) :
    Calls Try.prog 12 #[.string s] w fun e w' => e = .returned (.bool (uidB s)) ∧ w = w' := by
  unfold maxLen at hs
  by_cases h1 : s.size < 1
  · rw [uidB_no (s := s) (by omega)]
    have h1' : (s.size : Int) < 1 := by omega
    go_enter Try.func12, Try.ntmps12
    go_wp2
    go_ret
    exact ⟨rfl, rfl⟩
  · by_cases h2 : 24 < s.size
    · rw [uidB_no (s := s) (by omega)]
      have h1' : ¬ (s.size : Int) < 1 := by omega
      have h2' : (24 : Int) < s.size := by omega
      go_enter Try.func12, Try.ntmps12
      go_wp2
      go_ret
      exact ⟨rfl, rfl⟩
    · have h1' : 0 < s.size := by omega
      have h2' : s.size ≤ 24 := by omega
      have hb := get_bt s
      clear h1 h2
      go_enter Try.func12, Try.ntmps12
      go_wp2_with fail
      go_loop [3] (fun i => ∃ j : Nat, j ≤ s.size ∧ i = .int .i64 j ∧ Hid (∀ k, k < j → okU (bt s k) = true)) (fun i => s.size - (intOf i).toNat)
      case atStart => exact ⟨0, Nat.zero_le _, rfl, fun k hk => absurd hk (by omega)⟩
      case round =>
        obtain ⟨j, hj, rfl, hall⟩ := hrel
        by_cases hjn : j < s.size
        · have b0 := bt_nonneg s j
          have b1 := bt_le s j
          have Hl := Lib.hid (ref_low (bt s j))
          have Hu := Lib.hid (ref_up (bt s j))
          have Hd := Lib.hid (ref_digit (bt s j))
          go_wp2_with (first | (go_at_call 17; refine (Hl.out _ b0 b1).mono ?_; rintro e w' ⟨rfl, rfl⟩) | (go_at_call 19; refine (Hu.out _ b0 b1).mono ?_; rintro e w' ⟨rfl, rfl⟩) | (go_at_call 18; refine (Hd.out _ b0 b1).mono ?_; rintro e w' ⟨rfl, rfl⟩))
          all_goals first
            | (go_ret
               have hno : okU (bt s j) = false := by first | (simp [okU_in, *]; done) | (simp_all [okU_in]; done) | (simp_all [okU_in]; omega)
               rw [uidB_no (s := s) (by rintro ⟨_, _, a⟩; have := a j hjn; rw [hno] at this; cases this)]
               exact ⟨rfl, rfl⟩)
            | (go_round
               case measure => simp [intOf]; omega
               case rel =>
                 have hyes : okU (bt s j) = true := by first | (simp [okU_in, *]; done) | (simp_all [okU_in]; done) | (simp_all [okU_in]; omega)
                 refine ⟨j + 1, by omega, by go_num, fun k hk => ?_⟩
                 by_cases hkj : k < j
                 · exact hall.out k hkj
                 · obtain rfl : k = j := by omega
                   exact hyes)
        · obtain rfl : j = s.size := by omega
          have Hyes := Lib.hid (uidB_yes (s := s) ⟨by omega, by omega, hall.out⟩)
          go_wp2
          go_ret
          rw [Hyes.out]
          exact ⟨rfl, rfl⟩
end Go.Proofs.Ytemjpmkmpfpdhaa
