/- names: Split, and the reference's -/
import Derived.Test.YtemjpmkmpfpdhaaIdK
import Derived.Lib.Bytealg
set_option linter.unusedSimpArgs false
set_option linter.unusedVariables false
namespace Go.Proofs.Ytemjpmkmpfpdhaa
open Go.RowKit Go.PlainAid
set_option maxRecDepth 100000

/-- Where the first slash stands. -/
def cutB (s : ByteArray) : Option Nat := (List.range s.size).find? (fun k => bt s k == 47)
def splitB (s : ByteArray) : ByteArray × ByteArray × Bool :=
  match cutB s with
  | none => (⟨#[]⟩, ⟨#[]⟩, false)
  | some k => if nameB (s.extract 0 k) && nameB (s.extract (k + 1) s.size) then (s.extract 0 k, s.extract (k + 1) s.size, true) else (⟨#[]⟩, ⟨#[]⟩, false)

theorem cutB_ways (s : ByteArray) : (cutB s = none ∧ ∀ k, k < s.size → bt s k ≠ 47) ∨ ∃ k, cutB s = some k ∧ k < s.size ∧ bt s k = 47 ∧ ∀ j, j < k → bt s j ≠ 47 := by
  cases h : cutB s with
  | none =>
    refine .inl ⟨rfl, fun k hk => ?_⟩
    have := (List.find?_eq_none.1 h) k (List.mem_range.2 hk)
    simpa using this
  | some k =>
    obtain ⟨h1, l1, l2, h2, h3⟩ := List.find?_eq_some_iff_append.1 h
    refine .inr ⟨k, rfl, ?_, by simpa using h1, ?_⟩
    · have : k ∈ List.range s.size := by rw [h2]; simp
      simpa using this
    · intro j hj
      have hlen : l1.length = k := by
        have e : (List.range s.size)[l1.length]? = some k := by rw [h2]; simp
        have := List.getElem?_eq_some_iff.1 e
        obtain ⟨_, e⟩ := this
        simpa using e
      have hmem : j ∈ l1 := by
        have e : (List.range s.size)[j]? = some j := by
          have hl : s.size = (l1 ++ k :: l2).length := by rw [← h2, List.length_range]
          rw [List.length_append, List.length_cons] at hl
          rw [List.getElem?_range (by omega)]
        rw [h2, List.getElem?_append_left (by omega)] at e
        exact List.mem_of_getElem? e
      have := h3 j hmem
      simpa using this

theorem cutB_none {s : ByteArray} (h : ∀ k, k < s.size → bt s k ≠ 47) : cutB s = none := by
  rcases cutB_ways s with ⟨h1, _⟩ | ⟨k, _, h2, h3, _⟩
  · exact h1
  · exact absurd h3 (h k h2)
theorem cutB_some {s : ByteArray} {k : Nat} (h1 : k < s.size) (h2 : bt s k = 47) (h3 : ∀ j, j < k → bt s j ≠ 47) : cutB s = some k := by
  rcases cutB_ways s with ⟨_, h⟩ | ⟨i, e, h4, h5, h6⟩
  · exact absurd h2 (h k h1)
  · have a1 : ¬ k < i := fun h => h6 k h h2
    have a2 : ¬ i < k := fun h => h3 i h h5
    have : i = k := by omega
    rw [e, this]

theorem index_cut (s : ByteArray) : Lib.indexByte s.data.toList 47 = (match cutB s with | none => -1 | some k => (k : Int)) := by
  rw [← Lib.find_range s.data.toList 47 0]
  have e : ((List.range s.data.toList.length).map (· + 0)).find? (fun i => (s.data.toList.getD (i - 0) 0) == 47) = cutB s := by
    unfold cutB
    have e1 : (List.range s.data.toList.length).map (· + 0) = List.range s.size := by simp
    rw [e1]
    apply Lib.find_congr
    intro i hi
    have hi' : i < s.size := by simpa using hi
    have e2 : s.data.toList.getD (i - 0) 0 = s[i] := by
      simp only [Nat.sub_zero]
      rw [List.getD_eq_getElem?_getD, Array.getElem?_toList, Array.getElem?_eq_getElem (by exact hi')]
      rfl
    rw [e2, Bool.eq_iff_iff, beq_iff_eq, beq_iff_eq]
    unfold bt
    rw [dif_pos hi', ← UInt8.toNat_inj]
    constructor
    · intro h; rw [h]; rfl
    · intro h; have e3 : (47 : UInt8).toNat = 47 := rfl; omega
  rw [e]
  cases cutB s <;> simp

theorem index_any (s : ByteArray) (w : World) :
    Calls Try.prog 21 #[.string s, .string ⟨#[47]⟩] w fun e w' => e = .returned (.int .i64 (Lib.indexByte s.data.toList 47)) ∧ w = w' := by
  have hb : Calls Try.prog 22 #[.string s, .int .u8 47] w fun e w' => e = .returned (.int .i64 (Lib.indexByte s.data.toList 47)) ∧ w = w' := by
    go_enter Try.func22, Try.ntmps22
    go_wp2
    rw [run_callFunc_extern Try.func26 (by kernel_rfl) (by kernel_rfl) (by kernel_rfl) (e := Extern.BytealgIndexByte.indexByte) (by kernel_rfl), Lib.run_indexByteString]
    simp only [Result.andThen]
    rw [Oper.upon_value]
    go_wp2
    go_ret
    exact ⟨rfl, rfl⟩
  by_cases h : [47] = s.toList
  · have e : Lib.indexByte s.data.toList 47 = 0 := by
      have : s.data.toList = [47] := by rw [← Lib.toList_data]; exact h.symm
      rw [this]; rfl
    rw [e]
    have h' : ([47] == s.toList) = true := by simpa using h
    clear h e hb
    go_enter Try.func21, Try.ntmps21
    go_wp2_with fail
    go_ret
    exact ⟨rfl, rfl⟩
  · have h' : ([47] == s.toList) = false := by simpa using h
    clear h
    have Hb := Lib.hid hb
    clear hb
    go_enter Try.func21, Try.ntmps21
    go_wp2_with fail
    refine Hb.out.mono ?_
    rintro e w' ⟨rfl, rfl⟩
    go_wp2
    go_ret
    exact ⟨rfl, rfl⟩

theorem lite_cut_none (s : ByteArray) (w : World) (h : cutB s = none) :
    Calls Try.prog 20 #[.string s, .string ⟨#[47]⟩] w fun e w' => e = .returned (.tuple #[.string s, .string ⟨#[]⟩, .bool false]) ∧ w = w' := by
  have hi := index_any s w
  rw [index_cut, h] at hi
  have Hi := Lib.hid hi
  clear hi h
  go_enter Try.func20, Try.ntmps20
  go_wp2_with fail
  refine Hi.out.mono ?_
  rintro e w' ⟨rfl, rfl⟩
  go_wp2
  go_ret3
  exact ⟨rfl, rfl⟩

def CutPost (a b : ByteArray) (w : World) (e : Ending) (w' : World) : Prop :=
  e = .returned (.tuple #[.string a, .string b, .bool true]) ∧ ∃ n, w' = w.drewN n

theorem lite_cut_some (s : ByteArray) (w : World) (k : Nat) (h : cutB s = some k) (hk : k < s.size) (hs : s.size ≤ maxLen) :
    Calls Try.prog 20 #[.string s, .string ⟨#[47]⟩] w (CutPost (s.extract 0 k) (s.extract (k + 1) s.size) w) := by
  unfold maxLen at hs
  have hi := index_any s w
  rw [index_cut, h] at hi
  have Hi := Lib.hid hi
  clear hi h
  go_enter Try.func20, Try.ntmps20
  go_wp2_with fail
  refine Hi.out.mono ?_
  rintro e w' ⟨rfl, rfl⟩
  go_wp2_with fail
  go_quiet (fail)
  go_wp2
  go_ret3
  exact ⟨rfl, _, rfl⟩

theorem split_none (s : ByteArray) (w : World) (h : cutB s = none) :
    Calls Try.prog 7 #[.string s] w fun e w' => e = .returned (.tuple #[.string ⟨#[]⟩, .string ⟨#[]⟩, .bool false]) ∧ w = w' := by
  have Hc := Lib.hid (lite_cut_none s w h)
  clear h
  go_enter Try.func7, Try.ntmps7
  go_wp2_with fail
  go_enter Try.func15, Try.ntmps15
  go_wp2_with fail
  refine Hc.out.mono ?_
  rintro e w' ⟨rfl, rfl⟩
  go_wp2
  go_ret3
  exact ⟨rfl, rfl⟩

/-- What Split gives; an order may have been drawn. -/
def SplitPost (s : ByteArray) (w : World) (e : Ending) (w' : World) : Prop :=
  e = .returned (.tuple #[.string (splitB s).1, .string (splitB s).2.1, .bool (splitB s).2.2]) ∧ ∃ n, w' = w.drewN n
theorem SplitPost.no {s : ByteArray} {w : World} (h : splitB s = (⟨#[]⟩, ⟨#[]⟩, false)) (n : Nat) : SplitPost s w (.returned (.tuple #[.string ⟨#[]⟩, .string ⟨#[]⟩, .bool false])) (w.drewN n) := ⟨by rw [h], n, rfl⟩
theorem SplitPost.yes {s a b : ByteArray} {w : World} (h : splitB s = (a, b, true)) (n : Nat) : SplitPost s w (.returned (.tuple #[.string a, .string b, .bool true])) (w.drewN n) := ⟨by rw [h], n, rfl⟩

theorem extract_le (s : ByteArray) (a b : Nat) (hs : s.size ≤ maxLen) : (s.extract a b).size ≤ maxLen := by rw [ByteArray.size_extract]; omega

set_option maxHeartbeats 800000 in
theorem split_any (s : ByteArray) (w : World) (hs : s.size ≤ maxLen) : Calls Try.prog 7 #[.string s] w (SplitPost s w) := by
  rcases cutB_ways s with ⟨h, _⟩ | ⟨k, h, hk, _, _⟩
  · have e : splitB s = (⟨#[]⟩, ⟨#[]⟩, false) := by unfold splitB; rw [h]
    exact (split_none s w h).mono fun e' w' ⟨he, hw⟩ => by subst hw; rw [he]; exact SplitPost.no e 0
  · have Hc := Lib.hid (lite_cut_some s w k h hk hs)
    have Ha := Lib.hid (fun w => name_any (s.extract 0 k) w (extract_le _ _ _ hs))
    have Hb := Lib.hid (fun w => name_any (s.extract (k + 1) s.size) w (extract_le _ _ _ hs))
    have es : splitB s = if nameB (s.extract 0 k) && nameB (s.extract (k + 1) s.size) then (s.extract 0 k, s.extract (k + 1) s.size, true) else (⟨#[]⟩, ⟨#[]⟩, false) := by unfold splitB; rw [h]
    clear h hk
    generalize s.extract 0 k = a at *
    generalize s.extract (k + 1) s.size = b at *
    by_cases h1 : nameB a = true
    · by_cases h2 : nameB b = true
      · rw [h1] at Ha
        rw [h2] at Hb
        rw [h1, h2] at es
        have Hy := Lib.hid (fun n => SplitPost.yes (w := w) es n)
        clear h1 h2 es hs
        go_enter Try.func7, Try.ntmps7
        go_wp2_with fail
        go_enter Try.func15, Try.ntmps15
        go_wp2_with fail
        refine Hc.out.mono ?_
        rintro e w' ⟨rfl, n, rfl⟩
        go_wp2_with fail
        refine (Ha.out _).mono ?_
        rintro e w' ⟨rfl, rfl⟩
        go_wp2_with fail
        refine (Hb.out _).mono ?_
        rintro e w' ⟨rfl, rfl⟩
        go_wp2
        go_ret3
        exact Hy.out n
      · have e2 : nameB b = false := by simpa using h2
        rw [h1] at Ha
        rw [e2] at Hb
        rw [h1, e2] at es
        have Hy := Lib.hid (fun n => SplitPost.no (w := w) es n)
        clear h1 h2 e2 es hs
        go_enter Try.func7, Try.ntmps7
        go_wp2_with fail
        go_enter Try.func15, Try.ntmps15
        go_wp2_with fail
        refine Hc.out.mono ?_
        rintro e w' ⟨rfl, n, rfl⟩
        go_wp2_with fail
        refine (Ha.out _).mono ?_
        rintro e w' ⟨rfl, rfl⟩
        go_wp2_with fail
        refine (Hb.out _).mono ?_
        rintro e w' ⟨rfl, rfl⟩
        go_wp2
        go_ret3
        exact Hy.out n
    · have e1 : nameB a = false := by simpa using h1
      rw [e1] at Ha
      rw [e1] at es
      have Hy := Lib.hid (fun n => SplitPost.no (w := w) es n)
      clear h1 e1 es hs
      go_enter Try.func7, Try.ntmps7
      go_wp2_with fail
      go_enter Try.func15, Try.ntmps15
      go_wp2_with fail
      refine Hc.out.mono ?_
      rintro e w' ⟨rfl, n, rfl⟩
      go_wp2_with fail
      refine (Ha.out _).mono ?_
      rintro e w' ⟨rfl, rfl⟩
      go_wp2
      go_ret3
      exact Hy.out n

set_option maxHeartbeats 800000 in
theorem ref_split (s : ByteArray) (w : World) (hs : s.size ≤ maxLen) : Calls Try.prog 8 #[.string s] w (SplitPost s w) := by
  have Hs := Lib.hid hs
  unfold maxLen at hs
  have hb := get_bt s
  go_enter Try.func8, Try.ntmps8
  go_wp2_with fail
  go_loop [5] (fun i => ∃ j : Nat, j ≤ s.size ∧ i = .int .i64 j ∧ Hid (∀ k, k < j → bt s k ≠ 47)) (fun i => s.size - (intOf i).toNat)
  case atStart => exact ⟨0, Nat.zero_le _, rfl, fun k hk => absurd hk (by omega)⟩
  case round =>
    obtain ⟨j, hj, rfl, hall⟩ := hrel
    by_cases hjn : j < s.size
    · by_cases h47 : bt s j = 47
      · have hc := cutB_some hjn h47 hall.out
        have es : splitB s = if nameB (s.extract 0 j) && nameB (s.extract (j + 1) s.size) then (s.extract 0 j, s.extract (j + 1) s.size, true) else (⟨#[]⟩, ⟨#[]⟩, false) := by unfold splitB; rw [hc]
        have Ha := Lib.hid (fun w => ref_name (s.extract 0 j) w (extract_le _ _ _ Hs.out))
        have Hb := Lib.hid (fun w => ref_name (s.extract (j + 1) s.size) w (extract_le _ _ _ Hs.out))
        have h47' : (bt s j == 47) = true := by simpa using h47
        clear h47 hc
        by_cases h1 : nameB (s.extract 0 j) = true
        · by_cases h2 : nameB (s.extract (j + 1) s.size) = true
          · rw [h1] at Ha
            rw [h2] at Hb
            rw [h1, h2] at es
            have Hy := Lib.hid (fun n => SplitPost.yes (w := w) es n)
            clear h1 h2 es
            go_wp2_with fail
            refine (Ha.out _).mono ?_
            rintro e w' ⟨rfl, rfl⟩
            go_wp2_with fail
            refine (Hb.out _).mono ?_
            rintro e w' ⟨rfl, rfl⟩
            go_wp2_with fail
            go_quiet (fail)
            go_wp2
            go_ret3
            exact Hy.out _
          · have e2 : nameB (s.extract (j + 1) s.size) = false := by simpa using h2
            rw [h1] at Ha
            rw [e2] at Hb
            rw [h1, e2] at es
            have Hy := Lib.hid (SplitPost.no (w := w) es 0)
            clear h1 h2 e2 es
            go_wp2_with fail
            refine (Ha.out _).mono ?_
            rintro e w' ⟨rfl, rfl⟩
            go_wp2_with fail
            refine (Hb.out _).mono ?_
            rintro e w' ⟨rfl, rfl⟩
            go_wp2
            go_ret3
            exact Hy.out
        · have e1 : nameB (s.extract 0 j) = false := by simpa using h1
          rw [e1] at Ha
          rw [e1] at es
          have Hy := Lib.hid (SplitPost.no (w := w) es 0)
          clear h1 e1 es
          go_wp2_with fail
          refine (Ha.out _).mono ?_
          rintro e w' ⟨rfl, rfl⟩
          go_wp2
          go_ret3
          exact Hy.out
      · have h47' : (bt s j == 47) = false := by simpa using h47
        have H47 := Lib.hid h47
        clear h47
        go_wp2
        go_round
        case measure => simp [intOf]; omega
        case rel =>
          refine ⟨j + 1, by omega, by go_num, fun k hk => ?_⟩
          by_cases hkj : k < j
          · exact hall.out k hkj
          · obtain rfl : k = j := by omega
            exact H47.out
    · obtain rfl : j = s.size := by omega
      have es : splitB s = (⟨#[]⟩, ⟨#[]⟩, false) := by unfold splitB; rw [cutB_none hall.out]
      have Hy := Lib.hid (SplitPost.no (w := w) es 0)
      clear es
      go_wp2
      go_ret3
      exact Hy.out
end Go.Proofs.Ytemjpmkmpfpdhaa
