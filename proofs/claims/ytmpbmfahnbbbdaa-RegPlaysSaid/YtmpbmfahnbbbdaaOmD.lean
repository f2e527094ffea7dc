/-
  omap: slices.Delete walked.
-/
import Derived.Test.YtmpbmfahnbbbdaaOmK
set_option linter.unusedSimpArgs false
set_option linter.unusedVariables false
namespace Go.Proofs.Ytmpbmfahnbbbdaa
open Go.RowKit
set_option maxRecDepth 100000
set_option maxHeartbeats 3200000 in
theorem i_del (xs : List Value) (h1 : ∀ u ∈ xs, u.oneCell' = true) (A : Option Addr) (n c i j : Nat) (w : World) (F : Nat → Prop) (ho : Own w F 65 2 (.slice A n c) n xs) (hn : n ≤ 1000000) (hij : i ≤ j) (hj : j ≤ n) :
    Calls Try.prog 44 #[.slice A n c, .int .i64 i, .int .i64 j] w (DelP 65 2 F (n - (j - i)) (xs.take (i * 2) ++ xs.drop (j * 2)) w) := by
  have hxl : xs.length = n * 2 := ho.1.1
  by_cases hlt : i < j
  · obtain ⟨g, cur, rfl, hFg, hg, hnc, hcm, hcs, hct⟩ := own_row ho (by omega)
    have hcm' := hcm
    unfold maxLen at hcm'
    obtain ⟨i0, hi0, hz0, hsz0, hby0⟩ := info_parts info_i
    have hcc : ∀ q v, xs[q]? = some v → w.cell? ⟨g, q, none⟩ = some v := fun q v hq => by
      have h := (List.getElem?_eq_some_iff.1 hq).1
      rw [hg.cell, ← hq, ← hct, List.getElem?_take, if_pos (by omega), Array.getElem?_toList]
    have hld : (loadCellsFrom ⟨g, j * 2, none⟩ 0 ((n - j) * 2) #[]).run Try.prog w.drew = .ok (xs.drop (j * 2)).toArray w.drew := by
      have := run_loadCells_list (P := Try.prog) w.drew ⟨g, j * 2, none⟩ (xs.drop (j * 2)) (fun q u hq => by
        rw [Addr.add_lit]
        rw [List.getElem?_drop] at hq
        exact hcc (j * 2 + q) u hq)
      rw [show (xs.drop (j * 2)).length = (n - j) * 2 from by rw [List.length_drop, hxl]; omega] at this
      exact this
    have hst : (storeCells ⟨g, i * 2, none⟩ (xs.drop (j * 2))).run Try.prog w.drew = .ok () (w.drew.setRow g (splice cur.toList (i * 2) (xs.drop (j * 2))).toArray) := by
      have := run_storeCells_at Try.prog g (i * 2) 65 (xs.drop (j * 2)) 0 cur w.drew hg (by rw [List.length_drop, hxl, hcs]; omega) (fun u hu => h1 u (List.mem_of_mem_drop hu))
      rw [this]
      simp [splice]
    have hap0 : ∀ ty ad cc, j = n → (Builtin.append_ #[61, 61] ty #[.slice (some ⟨g, 0, none⟩) i c, .slice ad 0 cc]).run Try.prog w.drew =
        .ok (.slice (some ⟨g, 0, none⟩) i c) w.drew := fun ty ad cc _ => by
      cases ad with
      | none => simp [Builtin.append_, run_underlying Try.underlying61, sizeOf, typeInfo, hi0, Builtin.lenOf, Builtin.firstCells, show i ≤ c by omega, storeCells]
      | some ad =>
        have := run_append_room (P := Try.prog) w.drew 61 ty 65 i0 Try.underlying61 hi0 g i c cur hg ad 0 cc [] (by simp) (by simp) (by simp) (by omega) (by rw [hsz0, hcs]; simp; omega)
        rw [this, hsz0, Nat.add_zero]
        have hself : (cur.toList.take (i * 2) ++ [] ++ cur.toList.drop (i * 2 + ([] : List Value).length)).toArray = cur := by simp
        rw [hself, setRow_self w.drew g cur 65 (0, 0) hg]
    obtain ⟨cur2, hcur2⟩ : ∃ cur2, splice cur.toList (i * 2) (xs.drop (j * 2)) = cur2 := ⟨_, rfl⟩
    have hs2 : cur2.length = c * 2 := by rw [← hcur2, length_splice _ _ _ (by rw [List.length_drop, hxl]; simp [hcs]; omega)]; simpa using hcs
    have hself : j = n → w.drew.setRow g cur2.toArray = w.drew := fun he => by
      have : cur2.toArray = cur := by
        rw [← hcur2]
        unfold splice
        rw [List.drop_eq_nil_of_le (by rw [hxl, he]; exact Nat.le_refl _)]
        simp
      rw [this, setRow_self w.drew g cur 65 (0, 0) hg]
    have ht2 : cur2.take ((n - (j - i)) * 2) = xs.take (i * 2) ++ xs.drop (j * 2) := by
      rw [← hcur2]
      unfold splice
      rw [← List.append_assoc, List.take_append_of_le_length (by simp [hxl, hcs]; omega), List.take_of_length_le (by simp [hxl, hcs]; omega), ← hct, List.take_take, Nat.min_eq_left (by omega)]
    rw [hcur2] at hst
    obtain ⟨W2, hW2⟩ : ∃ W2, w.drew.setRow g cur2.toArray = W2 := ⟨_, rfl⟩
    have hB2 : Blk W2 g 65 cur2.toArray := by rw [← hW2]; exact setRow_heap w.drew g cur _ 65 (0, 0) hg
    have hk2 : Kept (· = g) w W2 := by rw [← hW2]; exact (Kept.refl _ w).drew.same (setRow_kept w.drew g cur2.toArray)
    rw [hW2] at hst hself
    obtain ⟨m, hm⟩ : ∃ m, n - (j - i) = m := ⟨_, rfl⟩
    have hm1 : i + (n - j) = m := by omega
    have hmn : m < n := by omega
    rw [hm] at ht2 ⊢
    obtain ⟨cur3, hcur3⟩ : ∃ cur3, cur2.take (m * 2) ++ (Builtin.zeroCells ((.agg #[.string ⟨#[]⟩, .int .i64 0]) : Value).cells (n - m)).toList ++ cur2.drop (m * 2 + (n - m) * 2) = cur3 := ⟨_, rfl⟩
    have hz5 : ((.agg #[.string ⟨#[]⟩, .int .i64 0]) : Value).cells.size = 2 := by kernel_rfl
    have hs3 : cur3.length = c * 2 := by
      rw [← hcur3]
      simp only [List.length_append, List.length_take, List.length_drop, Array.length_toList, size_zeroCells, hz5, hs2]
      omega
    have hclr : ∀ ty cc, (Builtin.clear_ #[61] ty #[.slice (some ⟨g, m * 2, none⟩) (n - m) cc]).run Try.prog W2 = .ok (.tuple #[]) (W2.setRow g cur3.toArray) := fun ty cc => by
      have := run_clearK (P := Try.prog) W2 61 65 ty (.agg #[.string ⟨#[]⟩, .int .i64 0]) 2 Try.underlying61 (fun w => Try.zeroValue65 w) hz5 (by simp [Value.cells, Value.oneCell']) g (m * 2) (n - m) cc cur2.toArray 65 hB2 (by rw [List.size_toArray, hs2]; omega)
      rw [this]
      simp only [hcur3]
    have hfin : cur3.take (m * 2) = xs.take (i * 2) ++ xs.drop (j * 2) := by
      rw [← hcur3, List.append_assoc, List.take_append_of_le_length (by simp [hs2]; omega), List.take_take, Nat.min_self, ht2]
    have hlen : (xs.take (i * 2) ++ xs.drop (j * 2)).length = m * 2 := by simp [hxl]; omega
    have hB3 : Blk (W2.setRow g cur3.toArray) g 65 cur3.toArray := setRow_heap W2 g cur2.toArray _ 65 (0, 0) hB2
    have hkF : Kept F w (W2.setRow g cur3.toArray) := (hk2.same (setRow_kept W2 g cur3.toArray)).mono (fun j _ h => by have h2 : j = g := h; rw [h2]; exact hFg)
    have HB3 := Lib.hid hB3
    have HkF := Lib.hid hkF
    have Hfin := Lib.hid hfin
    have Hlen := Lib.hid hlen
    have Hs3 := Lib.hid hs3
    have Hcm := Lib.hid hcm
    have Hst := Lib.hid hst
    have Hld := Lib.hid hld
    have Hap0 := Lib.hid hap0
    have Hclr := Lib.hid hclr
    have Hself := Lib.hid hself
    clear hcc hst hld hap0 hclr hB3 hB2 hk2 hkF hfin ht2 hlen hs3 hs2 hcur2 hcur3 hW2 hself hct hcs ho h1 hxl hcm hi0 hz0 hsz0 hby0 hz5
    have q1 : ¬ ((i : Int) = (j : Int)) := by omega
    have q2 : (i : Int) ≤ (j : Int) ∧ (j : Int) ≤ (n : Int) ∧ (n : Int) ≤ (c : Int) := by omega
    have q3 : i ≤ c ∧ j ≤ c ∧ m ≤ c := by omega
    have q4 : ¬ c = i := by omega
    have q5 : ¬ c = m := by omega
    have q6 : ¬ ((i : Int) < 0) ∧ ¬ ((j : Int) < 0) := by omega
    by_cases hjn : j = n
    · obtain rfl : m = i := by omega
      have hself := Hself.out hjn
      subst hjn
      have hap0 : ∀ ty ad cc, (Builtin.append_ #[61, 61] ty #[.slice (some ⟨g, 0, none⟩) m c, .slice ad 0 cc]).run Try.prog w.drew = .ok (.slice (some ⟨g, 0, none⟩) m c) w.drew := fun ty ad cc => Hap0.out ty ad cc rfl
      have Hap0 := Lib.hid hap0
      have hclr := Hclr.out
      rw [hself] at hclr HB3 HkF
      have Hclr := Lib.hid hclr
      clear hap0 hclr hself
      by_cases hcj : c = j
      · subst hcj
        go_enter Try.func44, Try.ntmps44
        go_wp2
        have hap0 := Hap0.out
        go_region
        clear hap0
        have hclr := Hclr.out
        go_wp2_with (simp only [hclr])
        go_ret
        refine ⟨some ⟨g, 0, none⟩, c, rfl, ?_, HkF.out⟩
        refine ⟨⟨by rw [Hlen.out], .inr ⟨g, c, cur3.toArray, rfl, Nat.zero_le _, HB3.out, by omega, Hcm.out, by rw [← Hs3.out]; simp, by simpa using Hfin.out⟩⟩, fun b hb => ?_⟩
        simp [Value.ownBlock] at hb
        subst hb
        exact .inl hFg
      · go_enter Try.func44, Try.ntmps44
        go_wp2
        have hap0 := Hap0.out
        go_region
        clear hap0
        have hclr := Hclr.out
        go_wp2_with (simp only [hclr])
        go_ret
        refine ⟨some ⟨g, 0, none⟩, c, rfl, ?_, HkF.out⟩
        refine ⟨⟨by rw [Hlen.out], .inr ⟨g, c, cur3.toArray, rfl, Nat.zero_le _, HB3.out, by omega, Hcm.out, by rw [← Hs3.out]; simp, by simpa using Hfin.out⟩⟩, fun b hb => ?_⟩
        simp [Value.ownBlock] at hb
        subst hb
        exact .inl hFg
    · have hjl : j < n := by omega
      have q7 : ¬ c = j := by omega
      have q8 : i + (n - j) ≤ c := by omega
      go_enter Try.func44, Try.ntmps44
      go_wp2
      have hst := Hst.out
      have hld := Hld.out
      go_region
      clear hst hld
      have hclr := Hclr.out
      go_wp2_with (simp only [hclr])
      go_ret
      refine ⟨some ⟨g, 0, none⟩, c, rfl, ?_, HkF.out⟩
      refine ⟨⟨by rw [Hlen.out], .inr ⟨g, c, cur3.toArray, rfl, Nat.zero_le _, HB3.out, by omega, Hcm.out, by rw [← Hs3.out]; simp, by simpa using Hfin.out⟩⟩, fun b hb => ?_⟩
      simp [Value.ownBlock] at hb
      subst hb
      exact .inl hFg
  · obtain rfl : i = j := by omega
    obtain ⟨A', c', hAc, hnc, hcm, _, _⟩ := ho.form
    obtain ⟨rfl, rfl⟩ : A = A' ∧ c = c' := by injection hAc with h1 _ h2; exact ⟨h1, h2⟩
    unfold maxLen at hcm
    have Ho := Lib.hid ho
    have q1 : (i : Int) ≤ (n : Int) ∧ (n : Int) ≤ (c : Int) := by omega
    have q3 : i ≤ c := by omega
    have q6 : ¬ ((i : Int) < 0) := by omega
    have hcs : (A = none ∧ n = 0 ∧ c = 0) ∨ (∃ g, A = some ⟨g, 0, none⟩) := by
      rcases ho.1.2 with ⟨h1, h2⟩ | ⟨g, cap, cur, h1, _⟩
      · injection h1 with h1 h3 h4; exact .inl ⟨h1, h3, h4⟩
      · injection h1 with h1 _ _; exact .inr ⟨g, h1⟩
    have hx : xs.take (i * 2) ++ xs.drop (i * 2) = xs := List.take_append_drop _ _
    have hfin : DelP 65 2 F n xs w (.returned (.slice A n c)) w := ⟨A, c, rfl, ho.imp (fun _ _ h => .inl h), Kept.refl _ _⟩
    rw [hx, Nat.sub_self, Nat.sub_zero]
    clear hAc ho hx hxl h1
    rcases hcs with ⟨rfl, rfl, rfl⟩ | ⟨g, rfl⟩
    · obtain rfl : i = 0 := by omega
      have Hfin := Lib.hid hfin
      clear hfin
      go_enter Try.func44, Try.ntmps44
      go_wp2
      go_ret
      exact Hfin.out
    · by_cases hci : c = i
      · obtain rfl : n = i := by omega
        subst hci
        have Hfin := Lib.hid hfin
        clear hfin
        go_enter Try.func44, Try.ntmps44
        go_wp2
        go_ret
        exact Hfin.out
      · by_cases hni : n = i
        · subst hni
          have Hfin := Lib.hid hfin
          clear hfin
          go_enter Try.func44, Try.ntmps44
          go_wp2
          go_ret
          exact Hfin.out
        · have Hfin := Lib.hid hfin
          clear hfin
          go_enter Try.func44, Try.ntmps44
          go_wp2
          go_ret
          exact Hfin.out
end Go.Proofs.Ytmpbmfahnbbbdaa
