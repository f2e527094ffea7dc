/- names: IdentBack -/
import Derived.Test.YtemjpmkmpfpdhaaIdL
set_option linter.unusedSimpArgs false
set_option linter.unusedVariables false
namespace Go.Proofs.Ytemjpmkmpfpdhaa
open Go.RowKit Go.PlainAid
set_option maxRecDepth 100000

/-! ### IdentBack -/
theorem ret_bool {a b : Bool} (h : a = b) : Ending.returned (.bool a) = .returned (.bool b) := by rw [h]
theorem toList_eq {a b : ByteArray} : a.toList = b.toList ↔ a = b := by
  constructor
  · intro h
    rw [Lib.toList_data, Lib.toList_data] at h
    exact ByteArray.ext (Array.toList_inj.1 h)
  · rintro rfl; rfl
theorem same_yes {K L a b c d : ByteArray} (h : K = L ↔ a = c ∧ b = d) (h1 : a.toList = c.toList) : ((K.toList == L.toList) == (b.toList == d.toList)) = true := by
  have h2 := toList_eq.1 h1
  rw [beq_iff_eq, Bool.eq_iff_iff, beq_iff_eq, beq_iff_eq, toList_eq, toList_eq, h]
  simp [h2]
theorem same_no {K L a b c d : ByteArray} (h : K = L ↔ a = c ∧ b = d) (h1 : ¬ a.toList = c.toList) : (!K.toList == L.toList) = true := by
  have h2 : ¬ a = c := fun e => h1 (toList_eq.2 e)
  have : ¬ K.toList = L.toList := by rw [toList_eq, h]; exact fun e => h2 e.1
  simp [this]

set_option maxHeartbeats 800000 in
theorem back_far (a b c d : ByteArray) (w : World) (h : 60 < a.size ∨ 60 < b.size ∨ 60 < c.size ∨ 60 < d.size) : Calls Try.prog 4 #[.string a, .string b, .string c, .string d] w (TrueP w) := by
  have H := Lib.hid id_first
  by_cases h1 : 60 < a.size
  · have h1' : (60 : Int) < (a.size : Int) := by omega
    clear h h1
    go_enter Try.func4, Try.ntmps4
    go_wp2_with fail
    refine (H.out _).mono ?_
    rintro e w1 ⟨rfl, hk1⟩
    go_wp2_with fail
    refine (H.out _).mono ?_
    rintro e w2 ⟨rfl, hk2⟩
    go_wp2
    go_ret
    exact ⟨rfl, hk1.same hk2⟩
  have h1' : ((60 : Int) < (a.size : Int)) = False := by simp; omega
  by_cases h2 : 60 < b.size
  · have h2' : (60 : Int) < (b.size : Int) := by omega
    clear h h1 h2
    go_enter Try.func4, Try.ntmps4
    go_wp2_with fail
    refine (H.out _).mono ?_
    rintro e w1 ⟨rfl, hk1⟩
    go_wp2_with fail
    refine (H.out _).mono ?_
    rintro e w2 ⟨rfl, hk2⟩
    go_wp2
    go_ret
    exact ⟨rfl, hk1.same hk2⟩
  have h2' : ((60 : Int) < (b.size : Int)) = False := by simp; omega
  by_cases h3 : 60 < c.size
  · have h3' : (60 : Int) < (c.size : Int) := by omega
    clear h h1 h2 h3
    go_enter Try.func4, Try.ntmps4
    go_wp2_with fail
    refine (H.out _).mono ?_
    rintro e w1 ⟨rfl, hk1⟩
    go_wp2_with fail
    refine (H.out _).mono ?_
    rintro e w2 ⟨rfl, hk2⟩
    go_wp2
    go_ret
    exact ⟨rfl, hk1.same hk2⟩
  have h3' : ((60 : Int) < (c.size : Int)) = False := by simp; omega
  have h4' : (60 : Int) < (d.size : Int) := by omega
  clear h h1 h2 h3
  go_enter Try.func4, Try.ntmps4
  go_wp2_with fail
  refine (H.out _).mono ?_
  rintro e w1 ⟨rfl, hk1⟩
  go_wp2_with fail
  refine (H.out _).mono ?_
  rintro e w2 ⟨rfl, hk2⟩
  go_wp2
  go_ret
  exact ⟨rfl, hk1.same hk2⟩

set_option maxHeartbeats 800000 in
theorem back_yes (a b c d : ByteArray) (w : World) (ma : a.size ≤ 60) (mb : b.size ≤ 60) (mc : c.size ≤ 60) (md : d.size ≤ 60) (ha : nameB a = true) (hb : nameB b = true) :
    Calls Try.prog 4 #[.string a, .string b, .string c, .string d] w (TrueP w) := by
  have H := Lib.hid id_first
  have H1 := Lib.hid (fun w => key_any a b w (max_small (by omega)) (max_small (by omega)))
  have H2 := Lib.hid (fun w => key_any c d w (max_small (by omega)) (max_small (by omega)))
  have H3 := Lib.hid (fun w => name_any a w (max_small (by omega)))
  have H4 := Lib.hid (fun w => name_any b w (max_small (by omega)))
  obtain ⟨K, hK⟩ : ∃ K, K = keyB a b := ⟨_, rfl⟩
  have hKs : K.size ≤ 1000 := by rw [hK, key_yes ha hb, slash_size]; omega
  have H5 := Lib.hid (fun w => split_any K w (max_small hKs))
  unfold SplitPost at H5
  have hsp := split_key ha hb
  rw [← hK] at hsp H1
  rw [hsp] at H5
  rw [ha] at H3
  rw [hb] at H4
  have hKe : K.toList.isEmpty = false := by
    rw [hK, key_yes ha hb, ← Bool.not_eq_true]
    intro h
    have h2 : (a ++ (⟨#[47]⟩ : ByteArray) ++ b).toList.length = 0 := by rw [List.isEmpty_iff.1 h]; rfl
    rw [Lib.toList_data, Array.length_toList] at h2
    have := slash_size a b
    have e : (a ++ (⟨#[47]⟩ : ByteArray) ++ b).size = (a ++ (⟨#[47]⟩ : ByteArray) ++ b).data.size := rfl
    omega
  obtain ⟨L, hL⟩ : ∃ L, L = keyB c d := ⟨_, rfl⟩
  rw [← hL] at H2
  have hsame := key_same (c := c) (d := d) ha hb
  rw [← hK, ← hL] at hsame
  have h1' : ((60 : Int) < (a.size : Int)) = False := by simp; omega
  have h2' : ((60 : Int) < (b.size : Int)) = False := by simp; omega
  have h3' : ((60 : Int) < (c.size : Int)) = False := by simp; omega
  have h4' : ((60 : Int) < (d.size : Int)) = False := by simp; omega
  have Hsame := Lib.hid hsame
  clear ma mb mc md ha hb hK hL hKs hsp hsame
  go_enter Try.func4, Try.ntmps4
  go_wp2_with fail
  refine (H.out _).mono ?_
  rintro e w1 ⟨rfl, hk1⟩
  go_wp2_with fail
  refine (H1.out _).mono ?_
  rintro e w' ⟨rfl, rfl⟩
  go_wp2_with fail
  refine (H2.out _).mono ?_
  rintro e w' ⟨rfl, rfl⟩
  go_wp2_with fail
  refine (H3.out _).mono ?_
  rintro e w' ⟨rfl, rfl⟩
  go_wp2_with fail
  refine (H4.out _).mono ?_
  rintro e w' ⟨rfl, rfl⟩
  go_wp2_with fail
  refine (H5.out _).mono ?_
  rintro e w' ⟨rfl, n, rfl⟩
  go_wp2
  all_goals
    go_ret
    refine ⟨ret_bool ?_, hk1.drewN _⟩
    first | exact same_yes Hsame.out (by assumption) | exact same_no Hsame.out (by assumption)

set_option maxHeartbeats 800000 in
theorem back_no (a b c d : ByteArray) (w : World) (ma : a.size ≤ 60) (mb : b.size ≤ 60) (mc : c.size ≤ 60) (md : d.size ≤ 60) (hab : ¬ (nameB a = true ∧ nameB b = true)) :
    Calls Try.prog 4 #[.string a, .string b, .string c, .string d] w (TrueP w) := by
  have H := Lib.hid id_first
  have H1 := Lib.hid (fun w => key_any a b w (max_small (by omega)) (max_small (by omega)))
  have H2 := Lib.hid (fun w => key_any c d w (max_small (by omega)) (max_small (by omega)))
  have H3 := Lib.hid (fun w => name_any a w (max_small (by omega)))
  have H4 := Lib.hid (fun w => name_any b w (max_small (by omega)))
  rw [key_no hab, show "".toUTF8 = (⟨#[]⟩ : ByteArray) from rfl] at H1
  have H5 := Lib.hid (fun w => split_none ⟨#[]⟩ w (by decide +kernel))
  obtain ⟨L, hL⟩ : ∃ L, L = keyB c d := ⟨_, rfl⟩
  rw [← hL] at H2
  have h1' : ((60 : Int) < (a.size : Int)) = False := by simp; omega
  have h2' : ((60 : Int) < (b.size : Int)) = False := by simp; omega
  have h3' : ((60 : Int) < (c.size : Int)) = False := by simp; omega
  have h4' : ((60 : Int) < (d.size : Int)) = False := by simp; omega
  clear ma mb mc md hL
  by_cases ha : nameB a = true
  · have hb : nameB b = false := by simpa [ha] using hab
    rw [ha] at H3
    rw [hb] at H4
    clear ha hb hab
    go_enter Try.func4, Try.ntmps4
    go_wp2_with fail
    refine (H.out _).mono ?_
    rintro e w1 ⟨rfl, hk1⟩
    go_wp2_with fail
    refine (H1.out _).mono ?_
    rintro e w' ⟨rfl, rfl⟩
    go_wp2_with fail
    refine (H2.out _).mono ?_
    rintro e w' ⟨rfl, rfl⟩
    go_wp2_with fail
    refine (H3.out _).mono ?_
    rintro e w' ⟨rfl, rfl⟩
    go_wp2_with fail
    refine (H4.out _).mono ?_
    rintro e w' ⟨rfl, rfl⟩
    go_wp2_with fail
    refine (H5.out _).mono ?_
    rintro e w' ⟨rfl, rfl⟩
    go_wp2
    go_ret
    exact ⟨rfl, hk1⟩
  · have ha' : nameB a = false := by simpa using ha
    rw [ha'] at H3
    clear ha ha' hab
    go_enter Try.func4, Try.ntmps4
    go_wp2_with fail
    refine (H.out _).mono ?_
    rintro e w1 ⟨rfl, hk1⟩
    go_wp2_with fail
    refine (H1.out _).mono ?_
    rintro e w' ⟨rfl, rfl⟩
    go_wp2_with fail
    refine (H2.out _).mono ?_
    rintro e w' ⟨rfl, rfl⟩
    go_wp2_with fail
    refine (H3.out _).mono ?_
    rintro e w' ⟨rfl, rfl⟩
    go_wp2_with fail
    refine (H5.out _).mono ?_
    rintro e w' ⟨rfl, rfl⟩
    go_wp2
    go_ret
    exact ⟨rfl, hk1⟩

theorem identBack_top (a b c d : ByteArray) (w : World) (_ha : a.size ≤ maxLen) (_hb : b.size ≤ maxLen) (_hc : c.size ≤ maxLen) (_hd : d.size ≤ maxLen) :
    Calls Try.prog 4 #[.string a, .string b, .string c, .string d] w (TrueP w) := by
  by_cases h : 60 < a.size ∨ 60 < b.size ∨ 60 < c.size ∨ 60 < d.size
  · exact back_far a b c d w h
  · by_cases hab : nameB a = true ∧ nameB b = true
    · exact back_yes a b c d w (by omega) (by omega) (by omega) (by omega) hab.1 hab.2
    · exact back_no a b c d w (by omega) (by omega) (by omega) (by omega) hab
end Go.Proofs.Ytemjpmkmpfpdhaa
