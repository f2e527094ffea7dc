/- names: Key, and the reference's -/
import Derived.Test.YtemjpmkmpfpdhaaIdV
set_option linter.unusedSimpArgs false
set_option linter.unusedVariables false
namespace Go.Proofs.Ytemjpmkmpfpdhaa
open Go.RowKit Go.PlainAid
set_option maxRecDepth 100000

/-- What Key gives. -/
def keyB (a b : ByteArray) : ByteArray := if nameB a && nameB b then a ++ (⟨#[47]⟩ : ByteArray) ++ b else "".toUTF8

theorem nameB_size {s : ByteArray} (h : nameB s = true) : s.size ≤ 16 := by
  unfold nameB at h; exact (of_decide_eq_true h).2.1

set_option maxHeartbeats 800000 in
theorem key_any (a b : ByteArray) (w : World) (ha : a.size ≤ maxLen) (hb : b.size ≤ maxLen) :
    Calls Try.prog 13 #[.string a, .string b] w fun e w' => e = .returned (.string (keyB a b)) ∧ w = w' := by
  have Ha := Lib.hid (name_any a w ha)
  have Hb := Lib.hid (name_any b w hb)
  by_cases h1 : nameB a = true
  · rw [h1] at Ha
    by_cases h2 : nameB b = true
    · have er : keyB a b = a ++ (⟨#[47]⟩ : ByteArray) ++ b := by simp [keyB, h1, h2]
      rw [er]
      rw [h2] at Hb
      have z1 := nameB_size h1
      have z2 := nameB_size h2
      have g1 : ¬ ((9223372036854775807 : Int) < ((a ++ (⟨#[47]⟩ : ByteArray)).size : Int)) := by
        have : (⟨#[47]⟩ : ByteArray).size = 1 := rfl
        rw [ByteArray.size_append]; omega
      have g2 : ¬ ((9223372036854775807 : Int) < ((a ++ (⟨#[47]⟩ : ByteArray) ++ b).size : Int)) := by
        have : (⟨#[47]⟩ : ByteArray).size = 1 := rfl
        rw [ByteArray.size_append, ByteArray.size_append]; omega
      clear h1 h2 er
      go_enter Try.func13, Try.ntmps13
      go_wp2_with fail
      refine Ha.out.mono ?_; rintro e w' ⟨rfl, rfl⟩
      go_wp2_with fail
      refine Hb.out.mono ?_; rintro e w' ⟨rfl, rfl⟩
      go_wp2
      go_ret
      exact ⟨rfl, rfl⟩
    · have e : nameB b = false := by simpa using h2
      have er : keyB a b = "".toUTF8 := by simp [keyB, e]
      rw [er]
      rw [e] at Hb
      clear h1 h2 e er
      go_enter Try.func13, Try.ntmps13
      go_wp2_with fail
      refine Ha.out.mono ?_; rintro e w' ⟨rfl, rfl⟩
      go_wp2_with fail
      refine Hb.out.mono ?_; rintro e w' ⟨rfl, rfl⟩
      go_wp2
      go_ret
      exact ⟨rfl, rfl⟩
  · have e : nameB a = false := by simpa using h1
    have er : keyB a b = "".toUTF8 := by simp [keyB, e]
    rw [er]
    rw [e] at Ha
    clear h1 e er
    go_enter Try.func13, Try.ntmps13
    go_wp2_with (go_at_call 9; refine Ha.out.mono ?_; rintro e w' ⟨rfl, rfl⟩)
    go_ret
    exact ⟨rfl, rfl⟩

set_option maxHeartbeats 800000 in
theorem ref_key (a b : ByteArray) (w : World) (ha : a.size ≤ maxLen) (hb : b.size ≤ maxLen) :
    Calls Try.prog 14 #[.string a, .string b] w fun e w' => e = .returned (.string (keyB a b)) ∧ w = w' := by
  have Ha := Lib.hid (ref_name a w ha)
  have Hb := Lib.hid (ref_name b w hb)
  by_cases h1 : nameB a = true
  · rw [h1] at Ha
    by_cases h2 : nameB b = true
    · have er : keyB a b = a ++ (⟨#[47]⟩ : ByteArray) ++ b := by simp [keyB, h1, h2]
      rw [er]
      rw [h2] at Hb
      have z1 := nameB_size h1
      have z2 := nameB_size h2
      have g1 : ¬ ((9223372036854775807 : Int) < ((a ++ (⟨#[47]⟩ : ByteArray)).size : Int)) := by
        have : (⟨#[47]⟩ : ByteArray).size = 1 := rfl
        rw [ByteArray.size_append]; omega
      have g2 : ¬ ((9223372036854775807 : Int) < ((a ++ (⟨#[47]⟩ : ByteArray) ++ b).size : Int)) := by
        have : (⟨#[47]⟩ : ByteArray).size = 1 := rfl
        rw [ByteArray.size_append, ByteArray.size_append]; omega
      clear h1 h2 er
      go_enter Try.func14, Try.ntmps14
      go_wp2_with fail
      refine Ha.out.mono ?_; rintro e w' ⟨rfl, rfl⟩
      go_wp2_with fail
      refine Hb.out.mono ?_; rintro e w' ⟨rfl, rfl⟩
      go_wp2
      go_ret
      exact ⟨rfl, rfl⟩
    · have e : nameB b = false := by simpa using h2
      have er : keyB a b = "".toUTF8 := by simp [keyB, e]
      rw [er]
      rw [e] at Hb
      clear h1 h2 e er
      go_enter Try.func14, Try.ntmps14
      go_wp2_with fail
      refine Ha.out.mono ?_; rintro e w' ⟨rfl, rfl⟩
      go_wp2_with fail
      refine Hb.out.mono ?_; rintro e w' ⟨rfl, rfl⟩
      go_wp2
      go_ret
      exact ⟨rfl, rfl⟩
  · have e : nameB a = false := by simpa using h1
    have er : keyB a b = "".toUTF8 := by simp [keyB, e]
    rw [er]
    rw [e] at Ha
    clear h1 e er
    go_enter Try.func14, Try.ntmps14
    go_wp2_with (go_at_call 10; refine Ha.out.mono ?_; rintro e w' ⟨rfl, rfl⟩)
    go_ret
    exact ⟨rfl, rfl⟩
end Go.Proofs.Ytemjpmkmpfpdhaa
