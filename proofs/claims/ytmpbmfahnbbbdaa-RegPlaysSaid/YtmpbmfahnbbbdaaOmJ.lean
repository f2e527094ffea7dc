/-
  omap: slices.Insert walked: in the midst.
-/
import Derived.Test.YtmpbmfahnbbbdaaOmI
import Derived.Deep.RegionLaw
set_option linter.unusedSimpArgs false
set_option linter.unusedVariables false
namespace Go.Proofs.Ytmpbmfahnbbbdaa
open Go.RowKit
set_option maxRecDepth 100000
theorem splice_two {α : Type} (L X Y : List α) (i : Nat) (hi : i + X.length + Y.length ≤ L.length) : (splice (splice L i X) (i + X.length) Y).take (i + X.length + Y.length) = L.take i ++ X ++ Y := by
  have hl : (L.take i).length = i := by rw [List.length_take]; omega
  have e1 : (splice L i X).take (i + X.length) = L.take i ++ X := by
    unfold splice
    rw [← List.append_assoc, List.take_append_of_le_length (by rw [List.length_append, hl]; omega), List.take_of_length_le (by rw [List.length_append, hl]; omega)]
  rw [show splice (splice L i X) (i + X.length) Y = (splice L i X).take (i + X.length) ++ (Y ++ (splice L i X).drop (i + X.length + Y.length)) from rfl, e1, ← List.append_assoc]
  rw [List.take_append_of_le_length (by rw [List.length_append, List.length_append, hl]; omega), List.take_of_length_le (by rw [List.length_append, List.length_append, hl]; omega)]

set_option maxHeartbeats 3200000 in
theorem i_ins_grow (es : List (En Int)) (A : Option Addr) (n c i vb : Nat) (e : En Int) (w : World) (F : Nat → Prop) (ho : Own w F 65 2 (.slice A n c) n (ecs (Value.int .i64) es)) (hn : n ≤ 100000) (hv : Blk w vb 65 #[.string e.1, .int .i64 e.2]) (hi : i < n) (hc : c < n + 1) :
    Calls Try.prog 43 #[.slice A n c, .int .i64 i, .slice (some ⟨vb, 0, none⟩) 1 1] w (InsP 65 (Value.int .i64) F n (es.take i ++ [e] ++ es.drop i) w) := by
  have hl := sl_len ho.sl
  obtain ⟨g, cur, rfl, hFg, hg, hnc, hcm, hcs, hct⟩ := own_row ho (by omega)
  obtain rfl : c = n := by omega
  obtain ⟨i0, hi0, hz0, hsz0, hby0⟩ := info_parts info_i
  have hz1 : ¬ ((i : Int) = (c : Int)) := by omega
  have hroom : (c : Int) < (c : Int) + 1 := by omega
  have hin : i ≤ c := by omega
  have hci : ¬ c = i := by omega
  have hel : (ecs (Value.int .i64) es).length = c * 2 := by rw [ecs_length]; omega
  have hcc : ∀ j v, (ecs (Value.int .i64) es)[j]? = some v → w.cell? ⟨g, j, none⟩ = some v := fun j v hj => by
    have h := (List.getElem?_eq_some_iff.1 hj).1
    rw [hg.cell, ← hj, ← hct, List.getElem?_take, if_pos (by omega), Array.getElem?_toList]
  have hmi : ((c : Int) + 1 - (i : Int)) = ((c + 1 - i : Nat) : Int) := by omega
  have hsum : i + (c + 1 - i) = c + 1 := by omega
  have hap := fun ty => run_append_makeK (P := Try.prog) w 61 3 ty 65 i0 _ .i64 .i64 Try.underlying61 Try.underlying3 hi0 hz0 ⟨g, 0, none⟩ i c (c + 1 - i) ((ecs (Value.int .i64) es).take (i * 2)) (by rw [List.length_take, hsz0]; omega)
    (fun j u hj => by
      rw [Addr.add_lit, Nat.zero_add]
      have h := (List.getElem?_eq_some_iff.1 hj).1
      rw [List.length_take] at h
      rw [List.getElem?_take, if_pos (by omega)] at hj
      exact hcc j u hj) (by omega) (by omega) (by omega) (by rw [hby0]; omega) (by omega)
  rw [hsum] at hap
  obtain ⟨cap, hcap⟩ : ∃ cap, grownCap w (c + 1) c 65 = cap := ⟨_, rfl⟩
  have hge := grownCap_ge w (c + 1) c 65
  have hle := grownCap_le_maxLen w (c + 1) c 65 (by unfold maxLen; omega)
  rw [hcap] at hap hge hle
  obtain ⟨cur1, hcur1⟩ : ∃ cur1, ((ecs (Value.int .i64) es).take (i * 2)).toArray ++ Builtin.zeroCells (Value.agg #[.string ⟨#[]⟩, .int .i64 0]).cells (c + 1 - i) ++ Builtin.zeroCells (Value.agg #[.string ⟨#[]⟩, .int .i64 0]).cells (cap - (c + 1)) = cur1 := ⟨_, rfl⟩
  have hs1 : cur1.size = cap * 2 := by
    rw [← hcur1]
    simp only [Array.size_append, List.size_toArray, List.length_take, size_zeroCells, hel]
    have : (Value.agg #[.string ⟨#[]⟩, .int .i64 0]).cells.size = 2 := by kernel_rfl
    rw [this]
    omega
  have ht1 : cur1.toList.take (i * 2) = (ecs (Value.int .i64) es).take (i * 2) := by
    rw [← hcur1, Array.append_assoc, Array.toList_append, List.take_append_of_le_length (by simp [hel]; omega)]
    simp only [List.take_take, Nat.min_self]
  rw [hcur1] at hap
  obtain ⟨N, hN⟩ : ∃ N, w.heap.size = N := ⟨_, rfl⟩
  obtain ⟨W1, hW1⟩ : ∃ W1, w.drew.alloc (.cells cur1 65) = W1 := ⟨_, rfl⟩
  have hB1 : Blk W1 N 65 cur1 := by rw [← hW1, ← hN]; exact Blk.new w.drew _ _
  have hp1 : Pure w W1 := by rw [← hW1]; exact (Kept.refl _ w).drew.alloc _
  have hgN : g < N := by rw [← hN]; exact hg.lt
  have hvN : vb < N := by rw [← hN]; exact hv.lt
  rw [hW1, hN] at hap
  have hapr := Lib.hid hap
  -- the new element
  have hcp1 : ∀ ty dc, (Builtin.copy_ #[61, 61] ty #[.slice (some ⟨N, i * 2, none⟩) (c + 1 - i) dc, .slice (some ⟨vb, 0, none⟩) 1 1]).run Try.prog W1 = .ok (goInt 1) (W1.setRow N (splice cur1.toList (i * 2) (enCells (Value.int .i64) e)).toArray) := fun ty dc => by
    have hmin : Nat.min 1 (c + 1 - i) = 1 := by simp only [Nat.min_def]; split <;> omega
    have := run_copyK (P := Try.prog) W1 61 61 ty 65 2 N (i * 2) (c + 1 - i) dc ⟨vb, 0, none⟩ 1 1 cur1 65 (enCells (Value.int .i64) e) Try.underlying61 (by rw [hi0]; simp [hsz0]) hB1 (by rw [hmin]; rfl)
      (fun j v hj => by rw [Addr.add_lit, Nat.zero_add, (hv.kept hp1 (fun h => h)).cell]; simpa [enCells] using hj) (by rw [hs1]; simp [enCells]; omega) (by intro u hu; simp [enCells] at hu; rcases hu with rfl | rfl <;> rfl)
    rw [hmin] at this
    rw [this]
    simp [splice]
  obtain ⟨cur2, hcur2⟩ : ∃ cur2, splice cur1.toList (i * 2) (enCells (Value.int .i64) e) = cur2 := ⟨_, rfl⟩
  have hs2 : cur2.length = cap * 2 := by rw [← hcur2, length_splice _ _ _ (by simp [enCells, hs1]; omega)]; simpa using hs1
  rw [hcur2] at hcp1
  obtain ⟨W2, hW2⟩ : ∃ W2, W1.setRow N cur2.toArray = W2 := ⟨_, rfl⟩
  have hB2 : Blk W2 N 65 cur2.toArray := by rw [← hW2]; exact setRow_blk hB1 _
  have hk2 : Kept (· = N) W1 W2 := by rw [← hW2]; exact setRow_kept _ _ _
  rw [hW2] at hcp1
  have hcp1r := Lib.hid hcp1
  -- what stood behind
  have hcp2 : ∀ ty dc sc, (Builtin.copy_ #[61, 61] ty #[.slice (some ⟨N, (i + 1) * 2, none⟩) (c - i) dc, .slice (some ⟨g, i * 2, none⟩) (c - i) sc]).run Try.prog W2.drew = .ok (goInt (c - i : Nat)) (W2.drew.setRow N (splice cur2 ((i + 1) * 2) ((ecs (Value.int .i64) es).drop (i * 2))).toArray) := fun ty dc sc => by
    have hmin : Nat.min (c - i) (c - i) = c - i := Nat.min_self _
    have := run_copyK (P := Try.prog) W2.drew 61 61 ty 65 2 N ((i + 1) * 2) (c - i) dc ⟨g, i * 2, none⟩ (c - i) sc cur2.toArray 65 ((ecs (Value.int .i64) es).drop (i * 2)) Try.underlying61 (by rw [hi0]; simp [hsz0]) hB2 (by rw [hmin, List.length_drop, hel]; omega)
      (fun j v hj => by
        rw [Addr.add_lit]
        rw [List.getElem?_drop] at hj
        have h1 := hcc (i * 2 + j) v hj
        have hgk := (hg.kept hp1 (fun h => h)).kept hk2 (by omega)
        have h2 := hgk.cell (i * 2 + j)
        have h3 := hg.cell (i * 2 + j)
        exact (h2.trans h3.symm).trans h1) (by simp [hs2, hel]; omega) (by
        intro u hu
        have hu' := List.mem_of_mem_drop hu
        simp only [ecs, List.mem_flatMap, enCells, List.mem_cons, List.not_mem_nil, or_false] at hu'
        obtain ⟨x, _, rfl | rfl⟩ := hu' <;> rfl)
    rw [hmin] at this
    rw [this]
    simp [splice]
  obtain ⟨cur3, hcur3⟩ : ∃ cur3, splice cur2 ((i + 1) * 2) ((ecs (Value.int .i64) es).drop (i * 2)) = cur3 := ⟨_, rfl⟩
  have hs3 : cur3.length = cap * 2 := by rw [← hcur3, length_splice _ _ _ (by simp [hel, hs2]; omega)]; exact hs2
  have hfin : cur3.take ((c + 1) * 2) = ecs (Value.int .i64) (es.take i ++ [e] ++ es.drop i) := by
    have h1 := splice_two cur1.toList (enCells (Value.int .i64) e) ((ecs (Value.int .i64) es).drop (i * 2)) (i * 2) (by simp [enCells, hs1, hel]; omega)
    rw [← hcur3, ← hcur2, ecs_append, ecs_append, ecs_take, ecs_drop, ← ht1]
    have e1 : i * 2 + (enCells (Value.int .i64) e).length = (i + 1) * 2 := by simp [enCells]; omega
    have e2 : (i + 1) * 2 + ((ecs (Value.int .i64) es).drop (i * 2)).length = (c + 1) * 2 := by rw [List.length_drop, hel]; omega
    rw [e1, e2] at h1
    rw [h1]
    simp [ecs]
  rw [hcur3] at hcp2
  have hcp2r := Lib.hid hcp2
  have hB3 : Blk (W2.drew.setRow N cur3.toArray) N 65 cur3.toArray := setRow_blk (w := W2.drew) hB2 _
  have hk3 : Kept F w (W2.drew.setRow N cur3.toArray) := by
    have h1 : Kept (· = N) W1 (W2.drew.setRow N cur3.toArray) := hk2.drew.same (setRow_kept W2.drew N cur3.toArray)
    exact (hp1.mono (fun _ _ h => h.elim)).trans h1 (fun j hj e => by have h2 : j = N := e; omega)
  have HB3 := Lib.hid hB3
  have Hk3 := Lib.hid hk3
  have HN := Lib.hid hN
  clear hap hcp1 hcp2 hB1 hB2 hB3 hk2 hk3 hp1 hcc hW1 hW2 hcur1 hcur2 hcur3 hcap ht1 ho hct hel hN
  go_enter Try.func43, Try.ntmps43
  go_wp2_with (at_builtin; refine held ?_)
  refine unheld ?_
  refine Lib.wpList_append_run _ rfl _ _ _ _ rfl _ _ rfl rfl _ _ (hapr.out _) ?_
  have hNi : ¬ cap = i := by omega
  have hNi1 : ¬ cap = i + 1 := by omega
  have hcp1 := hcp1r.out
  go_wp2_with (simp only [hcp1])
  clear hcp1
  have hi1 : ((i : Int) + 1).toNat = i + 1 := by omega
  have hwi : IntKind.i64.wrap ((i : Int) + 1) = (i : Int) + 1 := by rw [IntKind.wrap_i64]; omega
  have hb1 : (0 : Int) ≤ (i : Int) + 1 ∧ (i : Int) + 1 ≤ (c : Int) + 1 := by omega
  have hb2 : (i : Int) ≤ (c : Int) := by omega
  have hcp2 := hcp2r.out
  go_region
  clear hcp2
  go_wp2
  go_ret
  refine ⟨some ⟨N, 0, none⟩, cap, rfl, ?_, Hk3.out⟩
  refine ⟨⟨by rw [ecs_length]; simp; omega, .inr ⟨N, cap, cur3.toArray, rfl, Nat.zero_le _, HB3.out, by omega, hle, by simp [hs3], by simpa using hfin⟩⟩, fun b hb => ?_⟩
  simp [Value.ownBlock] at hb
  exact .inr (by have := HN.out; omega)
end Go.Proofs.Ytmpbmfahnbbbdaa
