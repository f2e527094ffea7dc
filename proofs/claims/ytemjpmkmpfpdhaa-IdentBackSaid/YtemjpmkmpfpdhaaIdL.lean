/- names: the walks of the laws -/
import Derived.Test.YtemjpmkmpfpdhaaIdT
set_option linter.unusedSimpArgs false
set_option linter.unusedVariables false
namespace Go.Proofs.Ytemjpmkmpfpdhaa
open Go.RowKit Go.PlainAid
set_option maxRecDepth 100000

/-- True, and nothing that was there has turned. -/
def TrueP (w : World) (e : Ending) (w' : World) : Prop := e = .returned (.bool true) ∧ Pure w w'

theorem max_small {s : ByteArray} (h : s.size ≤ 1000) : s.size ≤ maxLen := by unfold maxLen; omega

set_option maxHeartbeats 800000 in
theorem id_first (w : World) : Calls Try.prog 6 #[] w (TrueP w) := by
  have Hs := Lib.hid (fun w => split_any ⟨#[97, 110, 110, 47, 104, 111, 109, 101]⟩ w (max_small (by decide)))
  have Hk := Lib.hid (fun w => key_any ⟨#[97, 110, 110]⟩ ⟨#[104, 111, 109, 101]⟩ w (max_small (by decide)) (max_small (by decide)))
  have Hn := Lib.hid (fun w => name_any ⟨#[97, 45]⟩ w (max_small (by decide)))
  have Hu := Lib.hid (fun w => uid_any ⟨#[97, 64, 98]⟩ w (max_small (by decide)))
  unfold SplitPost at Hs
  rw [show splitB ⟨#[97, 110, 110, 47, 104, 111, 109, 101]⟩ = (⟨#[97, 110, 110]⟩, ⟨#[104, 111, 109, 101]⟩, true) by decide +kernel] at Hs
  rw [show keyB ⟨#[97, 110, 110]⟩ ⟨#[104, 111, 109, 101]⟩ = ⟨#[97, 110, 110, 47, 104, 111, 109, 101]⟩ by decide +kernel] at Hk
  rw [show nameB ⟨#[97, 45]⟩ = false by decide +kernel] at Hn
  rw [show uidB ⟨#[97, 64, 98]⟩ = true by decide +kernel] at Hu
  go_enter Try.func6, Try.ntmps6
  go_wp2_with fail
  refine (Hs.out _).mono ?_
  rintro e w' ⟨rfl, n, rfl⟩
  go_wp2_with fail
  refine (Hk.out _).mono ?_
  rintro e w' ⟨rfl, rfl⟩
  go_wp2_with fail
  refine (Hn.out _).mono ?_
  rintro e w' ⟨rfl, rfl⟩
  go_wp2_with fail
  refine (Hu.out _).mono ?_
  rintro e w' ⟨rfl, rfl⟩
  go_wp2
  go_ret
  exact ⟨rfl, (Kept.refl _ _).drewN n⟩

set_option maxHeartbeats 800000 in
theorem tells_far (s t : ByteArray) (w : World) (h : 200 < s.size ∨ 200 < t.size) : Calls Try.prog 3 #[.string s, .string t] w (TrueP w) := by
  have H := Lib.hid id_first
  by_cases h1 : 200 < s.size
  · have h1' : (200 : Int) < (s.size : Int) := by omega
    clear h
    go_enter Try.func3, Try.ntmps3
    go_wp2_with fail
    refine (H.out _).mono ?_
    rintro e w1 ⟨rfl, hk1⟩
    go_wp2_with fail
    refine (H.out _).mono ?_
    rintro e w2 ⟨rfl, hk2⟩
    go_wp2
    go_ret
    exact ⟨rfl, hk1.same hk2⟩
  · have h1' : ((200 : Int) < (s.size : Int)) = False := by simp; omega
    have h2' : (200 : Int) < (t.size : Int) := by omega
    clear h h1
    go_enter Try.func3, Try.ntmps3
    go_wp2_with fail
    refine (H.out _).mono ?_
    rintro e w1 ⟨rfl, hk1⟩
    go_wp2_with fail
    refine (H.out _).mono ?_
    rintro e w2 ⟨rfl, hk2⟩
    go_wp2
    go_ret
    exact ⟨rfl, hk1.same hk2⟩

set_option maxHeartbeats 800000 in
theorem tells_near (s t : ByteArray) (w : World) (hs : s.size ≤ 200) (ht : t.size ≤ 200) : Calls Try.prog 3 #[.string s, .string t] w (TrueP w) := by
  have H := Lib.hid id_first
  have ms := max_small (s := s) (by omega)
  have mt := max_small (s := t) (by omega)
  have H1 := Lib.hid (fun w => split_any s w ms)
  have H2 := Lib.hid (fun w => ref_split s w ms)
  have H3 := Lib.hid (fun w => name_any s w ms)
  have H4 := Lib.hid (fun w => ref_name s w ms)
  have H5 := Lib.hid (fun w => uid_any s w ms)
  have H6 := Lib.hid (fun w => ref_uid s w ms)
  have H7 := Lib.hid (fun w => key_any s t w ms mt)
  have H8 := Lib.hid (fun w => ref_key s t w ms mt)
  have h1' : ((200 : Int) < (s.size : Int)) = False := by simp; omega
  have h2' : ((200 : Int) < (t.size : Int)) = False := by simp; omega
  clear ms mt hs ht
  go_enter Try.func3, Try.ntmps3
  go_wp2_with fail
  refine (H.out _).mono ?_
  rintro e w1 ⟨rfl, hk1⟩
  go_wp2_with fail
  refine (H1.out _).mono ?_
  rintro e w2 ⟨rfl, n2, rfl⟩
  go_wp2_with fail
  refine (H2.out _).mono ?_
  rintro e w2 ⟨rfl, n3, rfl⟩
  go_wp2_with fail
  refine (H3.out _).mono ?_
  rintro e w' ⟨rfl, rfl⟩
  go_wp2_with fail
  refine (H4.out _).mono ?_
  rintro e w' ⟨rfl, rfl⟩
  go_wp2_with fail
  refine (H5.out _).mono ?_
  rintro e w' ⟨rfl, rfl⟩
  go_wp2_with fail
  refine (H6.out _).mono ?_
  rintro e w' ⟨rfl, rfl⟩
  go_wp2_with fail
  refine (H7.out _).mono ?_
  rintro e w' ⟨rfl, rfl⟩
  go_wp2_with fail
  refine (H8.out _).mono ?_
  rintro e w' ⟨rfl, rfl⟩
  go_wp2
  go_ret
  exact ⟨rfl, hk1.drewN _⟩

theorem identTells_top (s t : ByteArray) (w : World) (_hs : s.size ≤ maxLen) (_ht : t.size ≤ maxLen) : Calls Try.prog 3 #[.string s, .string t] w (TrueP w) := by
  by_cases h : 200 < s.size ∨ 200 < t.size
  · exact tells_far s t w h
  · exact tells_near s t w (by omega) (by omega)

end Go.Proofs.Ytemjpmkmpfpdhaa
