/- names: plain law -/
import Derived.Test.YtemjpmkmpfpdhaaIdS
set_option linter.unusedSimpArgs false
set_option linter.unusedVariables false
namespace Go.Proofs.Ytemjpmkmpfpdhaa
open Go.RowKit Go.PlainAid

theorem nameB_spec {s : ByteArray} (h : nameB s = true) : 1 ≤ s.size ∧ s.size ≤ 16 ∧ 97 ≤ bt s 0 ∧ bt s 0 ≤ 122 ∧ bt s (s.size - 1) ≠ 45 ∧ ∀ k, k < s.size → smB (bt s k) = true ∨ bt s k = 45 := by
  unfold nameB at h; exact of_decide_eq_true h

theorem bt_append (s t : ByteArray) (k : Nat) : bt (s ++ t) k = if k < s.size then bt s k else bt t (k - s.size) := by
  unfold bt
  by_cases h : k < s.size
  · rw [if_pos h, dif_pos h, dif_pos (by rw [ByteArray.size_append]; omega), ByteArray.getElem_append_left h]
  · rw [if_neg h]
    by_cases h2 : k < (s ++ t).size
    · have h3 : k - s.size < t.size := by rw [ByteArray.size_append] at h2; omega
      rw [dif_pos h2, dif_pos h3, ByteArray.getElem_append_right (by omega)]
    · have h3 : ¬ k - s.size < t.size := by rw [ByteArray.size_append] at h2; omega
      rw [dif_neg h2, dif_neg h3]

theorem bt_one (c : UInt8) : bt ⟨#[c]⟩ 0 = (c.toNat : Int) := rfl

theorem smB_ne {c : Int} (h : smB c = true) : c ≠ 47 ∧ c ≠ 45 := by
  simp [smB] at h; omega

theorem name_more {s : ByteArray} (h : nameB s = true) (c : UInt8) : nameB (s ++ ⟨#[c]⟩) = (smB c.toNat && decide (s.size + 1 ≤ 16)) := by
  obtain ⟨h1, h2, h3, h4, h5, h6⟩ := nameB_spec h
  have hsz : (s ++ (⟨#[c]⟩ : ByteArray)).size = s.size + 1 := by rw [ByteArray.size_append]; rfl
  have hlast : bt (s ++ ⟨#[c]⟩) s.size = (c.toNat : Int) := by rw [bt_append, if_neg (by omega), Nat.sub_self]; rfl
  by_cases hc : smB c.toNat = true
  · by_cases hs : s.size + 1 ≤ 16
    · rw [hc, decide_eq_true hs]
      refine nameB_yes ⟨by omega, by omega, ?_, ?_, ?_, ?_⟩
      · rw [bt_append, if_pos (by omega)]; exact h3
      · rw [bt_append, if_pos (by omega)]; exact h4
      · rw [hsz, Nat.add_sub_cancel, hlast]; exact (smB_ne hc).2
      · intro k hk
        by_cases hks : k < s.size
        · rw [bt_append, if_pos hks]; exact h6 k hks
        · obtain rfl : k = s.size := by omega
          rw [hlast]; exact .inl hc
    · rw [decide_eq_false hs, Bool.and_false]
      exact nameB_no (by omega)
  · have hc' : smB c.toNat = false := by simpa using hc
    rw [hc', Bool.false_and]
    refine nameB_no fun ⟨_, _, _, _, a5, a6⟩ => ?_
    rw [hsz, Nat.add_sub_cancel, hlast] at a5
    rcases a6 s.size (by omega) with a | a
    · rw [hlast, hc'] at a; cases a
    · rw [hlast] at a; exact a5 a

theorem name_ahead (s : ByteArray) : nameB (⟨#[45]⟩ ++ s) = false := by
  refine nameB_no fun ⟨_, _, a3, _⟩ => ?_
  rw [bt_append, if_pos (by decide)] at a3
  have : bt ⟨#[45]⟩ 0 = 45 := rfl
  omega
theorem name_behind (s : ByteArray) : nameB (s ++ ⟨#[45]⟩) = false := by
  refine nameB_no fun ⟨_, _, _, _, a5, _⟩ => a5 ?_
  have hsz : (s ++ (⟨#[45]⟩ : ByteArray)).size = s.size + 1 := by rw [ByteArray.size_append]; rfl
  rw [hsz, Nat.add_sub_cancel, bt_append, if_neg (by omega), Nat.sub_self]
  rfl
theorem name_uid {s : ByteArray} (h : nameB s = true) : uidB s = true := by
  obtain ⟨h1, h2, _, _, _, h6⟩ := nameB_spec h
  refine uidB_yes ⟨h1, by omega, fun k hk => ?_⟩
  rcases h6 k hk with a | a
  · simp [okU, a]
  · simp [okU, a]

theorem key_yes {a b : ByteArray} (ha : nameB a = true) (hb : nameB b = true) : keyB a b = a ++ (⟨#[47]⟩ : ByteArray) ++ b := by simp [keyB, ha, hb]
theorem key_no {a b : ByteArray} (h : ¬ (nameB a = true ∧ nameB b = true)) : keyB a b = "".toUTF8 := by
  unfold keyB
  rw [if_neg (by simpa using h)]

theorem slash_size (a b : ByteArray) : (a ++ (⟨#[47]⟩ : ByteArray) ++ b).size = a.size + 1 + b.size := by
  rw [ByteArray.size_append, ByteArray.size_append]; rfl
theorem slash_bt (a b : ByteArray) (k : Nat) : bt (a ++ (⟨#[47]⟩ : ByteArray) ++ b) k = if k < a.size then bt a k else if k = a.size then 47 else bt b (k - a.size - 1) := by
  have hs : (a ++ (⟨#[47]⟩ : ByteArray)).size = a.size + 1 := by rw [ByteArray.size_append]; rfl
  rw [bt_append, hs, bt_append]
  by_cases h : k < a.size
  · rw [if_pos (by omega), if_pos h, if_pos h]
  · by_cases h2 : k = a.size
    · subst h2
      rw [if_pos (by omega), if_neg (by omega), if_neg (by omega), if_pos rfl, Nat.sub_self]
      rfl
    · rw [if_neg (by omega), if_neg h, if_neg h2]
      congr 1

theorem name_slashless {a : ByteArray} (ha : nameB a = true) (k : Nat) (hk : k < a.size) : bt a k ≠ 47 := by
  obtain ⟨_, _, _, _, _, h6⟩ := nameB_spec ha
  rcases h6 k hk with h | h
  · exact (smB_ne h).1
  · omega

theorem split_key {a b : ByteArray} (ha : nameB a = true) (hb : nameB b = true) : splitB (keyB a b) = (a, b, true) := by
  rw [key_yes ha hb]
  have hc : cutB (a ++ (⟨#[47]⟩ : ByteArray) ++ b) = some a.size := by
    refine cutB_some (by rw [slash_size]; omega) (by rw [slash_bt, if_neg (by omega), if_pos rfl]) fun j hj => ?_
    rw [slash_bt, if_pos hj]
    exact name_slashless ha j hj
  have e1 : (a ++ (⟨#[47]⟩ : ByteArray) ++ b).extract 0 a.size = a := by
    rw [ByteArray.append_assoc]
    apply ByteArray.ext
    simp
  have e2 : (a ++ (⟨#[47]⟩ : ByteArray) ++ b).extract (a.size + 1) (a ++ (⟨#[47]⟩ : ByteArray) ++ b).size = b := by
    rw [slash_size]
    have hs : (a ++ (⟨#[47]⟩ : ByteArray)).size = a.size + 1 := by rw [ByteArray.size_append]; rfl
    rw [← hs]
    exact ByteArray.extract_append_eq_right rfl (by rw [hs])
  unfold splitB
  rw [hc]
  simp only [e1, e2, ha, hb, Bool.and_self, if_true]

theorem key_same {a b c d : ByteArray} (ha : nameB a = true) (hb : nameB b = true) : keyB a b = keyB c d ↔ a = c ∧ b = d := by
  constructor
  · intro h
    by_cases hcd : nameB c = true ∧ nameB d = true
    · have h1 := split_key ha hb
      rw [h, split_key hcd.1 hcd.2] at h1
      injection h1 with h1 h2
      injection h2 with h2 _
      exact ⟨h1.symm, h2.symm⟩
    · exfalso
      rw [key_yes ha hb, key_no hcd] at h
      have := congrArg ByteArray.size h
      rw [slash_size] at this
      have e : ("".toUTF8).size = 0 := rfl
      omega
  · rintro ⟨rfl, rfl⟩; rfl
end Go.Proofs.Ytemjpmkmpfpdhaa
