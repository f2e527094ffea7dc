/- names: IdentSigns -/
import Derived.Test.YtemjpmkmpfpdhaaIdL
set_option linter.unusedSimpArgs false
set_option linter.unusedVariables false
namespace Go.Proofs.Ytemjpmkmpfpdhaa
open Go.RowKit Go.PlainAid
set_option maxRecDepth 100000

/-! ### IdentSigns -/
set_option maxHeartbeats 800000 in
theorem signs_far (s : ByteArray) (c : Int) (w : World) (h : 100 < s.size ∨ nameB s = false) (hs : s.size ≤ maxLen) : Calls Try.prog 5 #[.string s, .int .u8 c] w (TrueP w) := by
  have H := Lib.hid id_first
  have H3 := Lib.hid (fun w => name_any s w hs)
  by_cases h1 : 100 < s.size
  · have h1' : (100 : Int) < (s.size : Int) := by omega
    clear h
    go_enter Try.func5, Try.ntmps5
    go_wp2_with fail
    refine (H.out _).mono ?_
    rintro e w1 ⟨rfl, hk1⟩
    go_wp2_with fail
    refine (H.out _).mono ?_
    rintro e w2 ⟨rfl, hk2⟩
    go_wp2
    go_ret
    exact ⟨rfl, hk1.same hk2⟩
  · have h1' : ((100 : Int) < (s.size : Int)) = False := by simp; omega
    have h2 : nameB s = false := by rcases h with h | h; exact absurd h h1; exact h
    rw [h2] at H3
    clear h h1 h2
    go_enter Try.func5, Try.ntmps5
    go_wp2_with fail
    refine (H.out _).mono ?_
    rintro e w1 ⟨rfl, hk1⟩
    go_wp2_with fail
    refine (H3.out _).mono ?_
    rintro e w' ⟨rfl, rfl⟩
    go_wp2_with fail
    refine (H.out _).mono ?_
    rintro e w2 ⟨rfl, hk2⟩
    go_wp2
    go_ret
    exact ⟨rfl, hk1.same hk2⟩

theorem ret_bool {a b : Bool} (h : a = b) : Ending.returned (.bool a) = .returned (.bool b) := by rw [h]
theorem sm_ways (c : Int) : (smB c = true ∧ 97 ≤ c ∧ c ≤ 122) ∨ (smB c = false ∧ 97 ≤ c ∧ 122 < c) ∨ (smB c = true ∧ c < 97 ∧ 48 ≤ c ∧ c ≤ 57) ∨ (smB c = false ∧ c < 97 ∧ 48 ≤ c ∧ 57 < c) ∨ (smB c = false ∧ c < 97 ∧ c < 48) := by
  by_cases a1 : 97 ≤ c
  · by_cases a2 : c ≤ 122
    · exact .inl ⟨by simp [smB]; omega, a1, a2⟩
    · exact .inr (.inl ⟨by simp [smB]; omega, a1, by omega⟩)
  · by_cases a3 : 48 ≤ c
    · by_cases a4 : c ≤ 57
      · exact .inr (.inr (.inl ⟨by simp [smB]; omega, by omega, a3, a4⟩))
      · exact .inr (.inr (.inr (.inl ⟨by simp [smB]; omega, by omega, a3, by omega⟩)))
    · exact .inr (.inr (.inr (.inr ⟨by simp [smB]; omega, by omega, by omega⟩)))

set_option maxHeartbeats 4000000 in
theorem signs_near (s : ByteArray) (c : Int) (C : UInt8) (hC : (C.toNat : Int) = c) (c0 : 0 ≤ c) (c255 : c ≤ 255) (w : World) (h : nameB s = true) : Calls Try.prog 5 #[.string s, .int .u8 c] w (TrueP w) := by
  have H := Lib.hid id_first
  have hsz := (nameB_spec h).2.1
  have hsz0 := (nameB_spec h).1
  have ms := max_small (s := s) (by omega)
  have H3 := Lib.hid (fun w => name_any s w ms)
  have H5 := Lib.hid (fun w => uid_any s w ms)
  have z1 : (s ++ (⟨#[C]⟩ : ByteArray)).size = s.size + 1 := by rw [ByteArray.size_append]; rfl
  have z2 : ((⟨#[45]⟩ : ByteArray) ++ s).size = s.size + 1 := by rw [ByteArray.size_append, Nat.add_comm]; rfl
  have z3 : (s ++ (⟨#[45]⟩ : ByteArray)).size = s.size + 1 := by rw [ByteArray.size_append]; rfl
  have H6 := Lib.hid (fun w => name_any (s ++ ⟨#[C]⟩) w (max_small (by omega)))
  have H7 := Lib.hid (fun w => name_any (⟨#[45]⟩ ++ s) w (max_small (by omega)))
  have H8 := Lib.hid (fun w => name_any (s ++ ⟨#[45]⟩) w (max_small (by omega)))
  rw [h] at H3
  rw [name_uid h] at H5
  rw [name_more h, hC] at H6
  rw [name_ahead] at H7
  rw [name_behind] at H8
  have h1' : ((100 : Int) < (s.size : Int)) = False := by simp; omega
  have g1 : ((9223372036854775807 : Int) < ((s ++ (⟨#[C]⟩ : ByteArray)).size : Int)) = False := eq_false (by omega)
  have g2 : ((9223372036854775807 : Int) < (((⟨#[45]⟩ : ByteArray) ++ s).size : Int)) = False := eq_false (by omega)
  have g3 : ((9223372036854775807 : Int) < ((s ++ (⟨#[45]⟩ : ByteArray)).size : Int)) = False := eq_false (by omega)
  have g4 : (s.size : Int) ≤ 16 := by omega
  have g5 : (1 : Int) ≤ (s.size : Int) := by omega
  have hcv : ∀ (w1 : World), (convert 29 9 (.slice (some ⟨w1.heap.size, 0, none⟩) 1 1)).run Try.prog (w1.alloc (.cells #[.int .u8 c] 5)) = .ok (.string ⟨#[C]⟩) (w1.alloc (.cells #[.int .u8 c] 5)) := fun w1 => by
    subst hC
    exact run_str (l := [C]) (Sl.one w1 (bv C) 5) _ _ _ _ Try.underlying29 Try.underlying5 Try.underlying9
  clear hC
  rcases sm_ways c with ⟨e, c1, c2⟩ | ⟨e, c1, c2⟩ | ⟨e, c1, c2, c3⟩ | ⟨e, c1, c2, c3⟩ | ⟨e, c1, c2⟩ <;> by_cases hz : s.size + 1 ≤ 16
  all_goals
    rw [e] at H6
    first
    | (have h16 : ((s.size : Int) + 1 ≤ 16) := by omega
       simp only [hz, decide_true, Bool.and_true] at H6)
    | (have h16 : ((16 : Int) < (s.size : Int) + 1) := by omega
       simp only [hz, decide_false, Bool.and_false] at H6)
    have Hz := Lib.hid hz
    clear z1 z2 z3 ms h hz e
    go_enter Try.func5, Try.ntmps5
    go_wp2_with fail
    refine (H.out _).mono ?_
    rintro e w1 ⟨rfl, hk1⟩
    go_wp2_with fail
    refine (H3.out _).mono ?_
    rintro e w' ⟨rfl, rfl⟩
    go_wp2_with fail
    refine (H5.out _).mono ?_
    rintro e w' ⟨rfl, rfl⟩
    go_wp2_with fail
    refine (H6.out _).mono ?_
    rintro e w' ⟨rfl, rfl⟩
    go_wp2_with fail
    refine (H7.out _).mono ?_
    rintro e w' ⟨rfl, rfl⟩
    go_wp2_with fail
    refine (H8.out _).mono ?_
    rintro e w' ⟨rfl, rfl⟩
    go_wp2
    go_ret
    first
    | exact ⟨rfl, hk1.alloc _⟩
    | exact ⟨ret_bool (by have := Hz.out; simp; omega), hk1.alloc _⟩

theorem identSigns_top (s : ByteArray) (c : Int) (w : World) (hs : s.size ≤ maxLen) (hc : (Lit.int .u8 c).wf = true) : Calls Try.prog 5 #[.string s, .int .u8 c] w (TrueP w) := by
  have hb := bounds_u8 hc
  obtain ⟨C, rfl⟩ : ∃ C : UInt8, c = (C.toNat : Int) := ⟨UInt8.ofNat c.toNat, by simp; omega⟩
  by_cases h : nameB s = true
  · exact signs_near s _ C rfl (by omega) (by omega) w h
  · exact signs_far s _ w (.inr (by simpa using h)) hs

end Go.Proofs.Ytemjpmkmpfpdhaa
