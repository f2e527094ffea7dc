/-
  omap: slices.Insert walked: where there is room.
-/
import Derived.Test.YtmpbmfahnbbbdaaOmJ
set_option linter.unusedSimpArgs false
set_option linter.unusedVariables false
namespace Go.Proofs.Ytmpbmfahnbbbdaa
open Go.RowKit
set_option maxRecDepth 100000
theorem splice_rev {α : Type} (L X Y : List α) (i : Nat) (hi : i + X.length + Y.length ≤ L.length) : (splice (splice L (i + X.length) Y) i X).take (i + X.length + Y.length) = L.take i ++ X ++ Y := by
  have hl : (L.take (i + X.length)).length = i + X.length := by rw [List.length_take]; omega
  have hli : (L.take i).length = i := by rw [List.length_take]; omega
  have e0 : splice L (i + X.length) Y = L.take (i + X.length) ++ (Y ++ L.drop (i + X.length + Y.length)) := rfl
  have e1 : (splice L (i + X.length) Y).take i = L.take i := by
    rw [e0, List.take_append_of_le_length (by omega), List.take_take, Nat.min_eq_left (by omega)]
  have e2 : (splice L (i + X.length) Y).drop (i + X.length) = Y ++ L.drop (i + X.length + Y.length) := by
    rw [e0]
    exact List.drop_left' hl
  rw [show splice (splice L (i + X.length) Y) i X = (splice L (i + X.length) Y).take i ++ (X ++ (splice L (i + X.length) Y).drop (i + X.length)) from rfl, e1, e2]
  rw [← List.append_assoc, ← List.append_assoc, List.take_append_of_le_length (by simp only [List.length_append, hli]; omega), List.take_of_length_le (by simp only [List.length_append, hli]; omega)]
theorem blk_shape {w : World} {g : Nat} {t : TypeId} {cs : Array Value} (h : Blk w g t cs) : w.shape? g = some (t, cs.size) := by
  unfold Blk at h
  simp [World.shape?, h]


set_option maxHeartbeats 3200000 in
theorem i_ins_room (es : List (En Int)) (A : Option Addr) (n c i vb : Nat) (e : En Int) (w : World) (F : Nat → Prop) (ho : Own w F 65 2 (.slice A n c) n (ecs (Value.int .i64) es)) (hn : n ≤ 100000) (hv : Blk w vb 65 #[.string e.1, .int .i64 e.2]) (hvF : ¬ F vb) (hi : i < n) (hc : n + 1 ≤ c) :
    Calls Try.prog 43 #[.slice A n c, .int .i64 i, .slice (some ⟨vb, 0, none⟩) 1 1] w (InsP 65 (Value.int .i64) F n (es.take i ++ [e] ++ es.drop i) w) := by
  have hl := sl_len ho.sl
  obtain ⟨g, cur, rfl, hFg, hg, hnc, hcm, hcs, hct⟩ := own_row ho (by omega)
  have hcm' := hcm
  unfold maxLen at hcm'
  obtain ⟨i0, hi0, hz0, hsz0, hby0⟩ := info_parts info_i
  have hvg : vb ≠ g := fun h => hvF (h ▸ hFg)
  have hel : (ecs (Value.int .i64) es).length = n * 2 := by rw [ecs_length]; omega
  have hcc : ∀ j v, (ecs (Value.int .i64) es)[j]? = some v → w.cell? ⟨g, j, none⟩ = some v := fun j v hj => by
    have h := (List.getElem?_eq_some_iff.1 hj).1
    rw [hg.cell, ← hj, ← hct, List.getElem?_take, if_pos (by omega), Array.getElem?_toList]
  have hov : ∀ lb cb, (callFunc 61 #[.slice (some ⟨vb, 0, none⟩) 1 1, .slice (some ⟨g, (i + 1) * 2, none⟩) lb cb]).run Try.prog w = .ok (.value (.bool false)) w := fun lb cb => by
    rw [run_callFunc_extern Try.func61 (by kernel_rfl) (by kernel_rfl) (by kernel_rfl) (e := Extern.SlicesOverlaps.overlaps #[61, 61] #[4]) (by kernel_rfl),
      Lib.run_overlaps_apart w 61 4 65 Try.underlying61 2 Try.sizeOf65 ⟨vb, 0, none⟩ ⟨g, (i + 1) * 2, none⟩ 1 1 lb cb hvg 65 65 2 cur.size (blk_shape hv) (blk_shape hg) (by omega) (hv.frozen 0) (hv.frozen 2)]
    rfl
  have hcp1 : ∀ ty dc sc, (Builtin.copy_ #[61, 61] ty #[.slice (some ⟨g, (i + 1) * 2, none⟩) (n - i) dc, .slice (some ⟨g, i * 2, none⟩) (n + 1 - i) sc]).run Try.prog w.drew = .ok (goInt (n - i : Nat)) (w.drew.setRow g (splice cur.toList ((i + 1) * 2) ((ecs (Value.int .i64) es).drop (i * 2))).toArray) := fun ty dc sc => by
    have hmin : Nat.min (n + 1 - i) (n - i) = n - i := by simp only [Nat.min_def]; split <;> omega
    have := run_copyK (P := Try.prog) w.drew 61 61 ty 65 2 g ((i + 1) * 2) (n - i) dc ⟨g, i * 2, none⟩ (n + 1 - i) sc cur 65 ((ecs (Value.int .i64) es).drop (i * 2)) Try.underlying61 (by rw [hi0]; simp [hsz0]) hg (by rw [hmin, List.length_drop, hel]; omega)
      (fun j v hj => by
        rw [Addr.add_lit]
        rw [List.getElem?_drop] at hj
        exact hcc (i * 2 + j) v hj) (by simp [hcs, hel]; omega) (by
        intro u hu
        have hu' := List.mem_of_mem_drop hu
        simp only [ecs, List.mem_flatMap, enCells, List.mem_cons, List.not_mem_nil, or_false] at hu'
        obtain ⟨x, _, rfl | rfl⟩ := hu' <;> rfl)
    rw [hmin] at this
    rw [this]
    simp [splice]
  obtain ⟨cur2, hcur2⟩ : ∃ cur2, splice cur.toList ((i + 1) * 2) ((ecs (Value.int .i64) es).drop (i * 2)) = cur2 := ⟨_, rfl⟩
  have hs2 : cur2.length = c * 2 := by rw [← hcur2, length_splice _ _ _ (by simp [hel, hcs]; omega)]; simpa using hcs
  rw [hcur2] at hcp1
  obtain ⟨W2, hW2⟩ : ∃ W2, w.drew.setRow g cur2.toArray = W2 := ⟨_, rfl⟩
  have hB2 : Blk W2 g 65 cur2.toArray := by rw [← hW2]; exact setRow_blk (w := w.drew) hg _
  have hk2 : Kept (· = g) w W2 := by rw [← hW2]; exact (Kept.refl _ w).drew.same (setRow_kept w.drew g cur2.toArray)
  rw [hW2] at hcp1
  have hcp2 : ∀ ty dc, (Builtin.copy_ #[61, 61] ty #[.slice (some ⟨g, i * 2, none⟩) (n + 1 - i) dc, .slice (some ⟨vb, 0, none⟩) 1 1]).run Try.prog W2 = .ok (goInt 1) (W2.setRow g (splice cur2 (i * 2) (enCells (Value.int .i64) e)).toArray) := fun ty dc => by
    have hmin : Nat.min 1 (n + 1 - i) = 1 := by simp only [Nat.min_def]; split <;> omega
    have := run_copyK (P := Try.prog) W2 61 61 ty 65 2 g (i * 2) (n + 1 - i) dc ⟨vb, 0, none⟩ 1 1 cur2.toArray 65 (enCells (Value.int .i64) e) Try.underlying61 (by rw [hi0]; simp [hsz0]) hB2 (by rw [hmin]; rfl)
      (fun j v hj => by rw [Addr.add_lit, Nat.zero_add, (hv.kept hk2 hvg).cell]; simpa [enCells] using hj) (by simp [enCells, hs2]; omega) (by intro u hu; simp [enCells] at hu; rcases hu with rfl | rfl <;> rfl)
    rw [hmin] at this
    rw [this]
    simp [splice]
  obtain ⟨cur3, hcur3⟩ : ∃ cur3, splice cur2 (i * 2) (enCells (Value.int .i64) e) = cur3 := ⟨_, rfl⟩
  have hs3 : cur3.length = c * 2 := by rw [← hcur3, length_splice _ _ _ (by simp [enCells, hs2]; omega)]; exact hs2
  have hfin : cur3.take ((n + 1) * 2) = ecs (Value.int .i64) (es.take i ++ [e] ++ es.drop i) := by
    have h1 := splice_rev cur.toList (enCells (Value.int .i64) e) ((ecs (Value.int .i64) es).drop (i * 2)) (i * 2) (by simp [enCells, hcs, hel]; omega)
    have e1 : i * 2 + (enCells (Value.int .i64) e).length = (i + 1) * 2 := by simp [enCells]; omega
    have e2 : (i + 1) * 2 + ((ecs (Value.int .i64) es).drop (i * 2)).length = (n + 1) * 2 := by rw [List.length_drop, hel]; omega
    have e3 : cur.toList.take (i * 2) = (ecs (Value.int .i64) es).take (i * 2) := by rw [← hct, List.take_take, Nat.min_eq_left (by omega)]
    rw [e1, e2, hcur2, hcur3, e3] at h1
    rw [h1, ecs_append, ecs_append, ecs_take, ecs_drop]
    simp [ecs]
  rw [hcur3] at hcp2
  have hB3 : Blk (W2.setRow g cur3.toArray) g 65 cur3.toArray := setRow_blk hB2 _
  have hk3 : Kept F w (W2.setRow g cur3.toArray) := (hk2.same (setRow_kept W2 g cur3.toArray)).mono (fun j _ h => by have h2 : j = g := h; rw [h2]; exact hFg)
  have HB3 := Lib.hid hB3
  have Hk3 := Lib.hid hk3
  have hcp1r := Lib.hid hcp1
  have hcp2r := Lib.hid hcp2
  have hovr := Lib.hid hov
  clear hcp1 hcp2 hov hB2 hB3 hk2 hk3 hcc hW2 hcur2 hcur3 ho hct hel hcm
  have hz1 : ¬ ((i : Int) = (n : Int)) := by omega
  have hroom : (n : Int) + 1 ≤ (c : Int) := by omega
  have hin : i ≤ n := by omega
  have hci : ¬ c = i := by omega
  have hci1 : ¬ c = i + 1 := by omega
  have hi1 : ((i : Int) + 1).toNat = i + 1 := by omega
  have hn1 : ((n : Int) + 1).toNat = n + 1 := by omega
  have hwi : IntKind.i64.wrap ((i : Int) + 1) = (i : Int) + 1 := by rw [IntKind.wrap_i64]; omega
  have hb1 : (0 : Int) ≤ (i : Int) + 1 ∧ (i : Int) + 1 ≤ (n : Int) + 1 := by omega
  have hb2 : (i : Int) ≤ (n : Int) + 1 ∧ (i : Int) ≤ (n : Int) := by omega
  go_enter Try.func43, Try.ntmps43
  have hov := hovr.out
  go_wp2_with (simp only [hov])
  clear hov
  have hcp1 := hcp1r.out
  go_region
  clear hcp1
  have hcp2 := hcp2r.out
  go_wp2_with (simp only [hcp2])
  go_ret
  refine ⟨some ⟨g, 0, none⟩, c, rfl, ?_, Hk3.out⟩
  refine ⟨⟨by rw [ecs_length]; simp; omega, .inr ⟨g, c, cur3.toArray, rfl, Nat.zero_le _, HB3.out, hc, by unfold maxLen; omega, by simp [hs3], by simpa using hfin⟩⟩, fun b hb => ?_⟩
  simp [Value.ownBlock] at hb
  subst hb
  exact .inl hFg
theorem i_insert (es : List (En Int)) (A : Option Addr) (n c i vb : Nat) (e : En Int) (w : World) (F : Nat → Prop) (ho : Own w F 65 2 (.slice A n c) n (ecs (Value.int .i64) es)) (hn : n ≤ 100000) (hv : Blk w vb 65 #[.string e.1, .int .i64 e.2]) (hvF : ¬ F vb) (hi : i ≤ n) :
    Calls Try.prog 43 #[.slice A n c, .int .i64 i, .slice (some ⟨vb, 0, none⟩) 1 1] w (InsP 65 (Value.int .i64) F n (es.take i ++ [e] ++ es.drop i) w) := by
  have hl := sl_len ho.sl
  by_cases h : i = n
  · subst h
    have := i_ins_end es A i c vb e w F ho hn hv
    rwa [show es.take i ++ [e] ++ es.drop i = es ++ [e] from by rw [List.take_of_length_le (by omega), List.drop_eq_nil_of_le (by omega), List.append_nil]]
  · by_cases hc : n + 1 ≤ c
    · exact i_ins_room es A n c i vb e w F ho hn hv hvF (by omega) hc
    · exact i_ins_grow es A n c i vb e w F ho hn hv (by omega) (by omega)
end Go.Proofs.Ytmpbmfahnbbbdaa
