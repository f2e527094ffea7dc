/-
  the reference's Match is matchL.
-/
import Derived.Test.YtemjpmkmpfpdhaaDoorTlN
set_option linter.unusedSimpArgs false
set_option linter.unusedVariables false
namespace Go.Proofs.YtemjpmkmpfpdhaaDoor
open Go.RowKit
set_option maxRecDepth 100000

theorem row_of (l : List UInt8) : rowL l = if isL l = true then (bareL l, true) else ([], false) := by
  rw [isL_def]; unfold rowL
  split <;> rename_i c
  · rw [if_pos (decide_eq_true c)]
  · rw [if_neg (by rw [decide_eq_true_eq]; exact c)]
theorem row_fst (l : List UInt8) (h : isL l = true) : (rowL l).1 = bareL l := by rw [row_of, if_pos h]
theorem cut_suffix (u v : ByteArray) (h : v.size ≤ u.size) : ((u.extract (u.size - v.size) u.size).toList == v.toList) = Lib.hasSuffix u.data.toList v.data.toList := by
  have hu : u.data.toList.length = u.size := by simp
  have hv : v.data.toList.length = v.size := by simp
  rw [Lib.toList_data, Lib.toList_data, ext_data, List.take_of_length_le (by omega), Lib.hasSuffix]
  rw [Bool.eq_iff_iff, beq_iff_eq, List.isSuffixOf_iff_suffix, List.suffix_iff_eq_drop, hu, hv]
  exact ⟨fun h => h.symm, fun h => h.symm⟩

set_option maxHeartbeats 800000 in
theorem ref_match (a b : ByteArray) (w : World) (ha : a.size ≤ 1000) (hb : b.size ≤ 1000) : Calls Tryd.prog 27 #[.string a, .string b] w fun e w' => e = .returned (.bool (matchL a.data.toList b.data.toList)) ∧ w = w' := by
  have key : ∀ s : ByteArray, s.size ≤ 1000 → isL s.data.toList = true → Calls Tryd.prog 37 #[.string s] w fun e w' => e = .returned (.string ⟨(zl (rowL s.data.toList).1).toArray⟩) ∧ w = w' := fun s hs h => by
    have h1 : 1 ≤ s.size := by
      have h2 := (row_le s.data.toList).2.1
      rw [row_fst _ h] at h2
      rw [isL_def, decide_eq_true_eq] at h
      have : s.data.toList.length = s.size := by simp
      omega
    have := bare_any s w hs h1
    rw [row_fst _ h]
    exact this
  have la := zl_le (rowL a.data.toList).1
  have lb := zl_le (rowL b.data.toList).1
  have ra := (row_le a.data.toList).1
  have rb := (row_le b.data.toList).1
  have mu := mk_size (zl (rowL a.data.toList).1)
  have mv := mk_size (zl (rowL b.data.toList).1)
  have := refm_walk a b ⟨(zl (rowL a.data.toList).1).toArray⟩ ⟨(zl (rowL b.data.toList).1).toArray⟩ _ _ _ _ w (by omega) (by omega) (ref_is a w ha) (ref_is b w hb) (key a ha) (key b hb) rfl rfl
  refine this.mono fun e w' h => ⟨?_, h.2⟩
  rw [h.1, mu, mv]
  unfold matchL ends
  rw [show isL a.data.toList = (rowL a.data.toList).2 from rfl, show isL b.data.toList = (rowL b.data.toList).2 from rfl]
  congr 3
  split
  · rename_i c
    have := cut_suffix ⟨(zl (rowL a.data.toList).1).toArray⟩ ⟨(zl (rowL b.data.toList).1).toArray⟩ (by omega)
    rw [mu, mv] at this
    rw [this]
  · rename_i c
    have := cut_suffix ⟨(zl (rowL b.data.toList).1).toArray⟩ ⟨(zl (rowL a.data.toList).1).toArray⟩ (by omega)
    rw [mu, mv] at this
    rw [this]
end Go.Proofs.YtemjpmkmpfpdhaaDoor
