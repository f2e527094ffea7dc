/-
  rw: slices.DeleteFunc walked.
-/
import Derived.Test.YtggnndopncegaaaRwD
import Derived.Deep.QuietTactic
import Derived.BigQuiet
set_option linter.unusedSimpArgs false
set_option linter.unusedVariables false
namespace Go.Proofs.Ytggnndopncegaaa
open Go.RowKit
set_option maxRecDepth 100000

theorem info_dq : (Try.prog.info? 45).map (fun i => (i.zero, i.size, i.bytes)) = some (some (.agg #[.int .i64 0, .bool false]), 2, 16) := by kernel_rfl
theorem info_di : (Try.prog.info? 3).map (fun i => (i.zero, i.size, i.bytes)) = some (some (.int .i64 0), 1, 8) := by kernel_rfl
set_option maxHeartbeats 3200000 in
theorem lq_delf (l : List (Int × Bool)) (x : Int) (A : Option Addr) (n c : Nat) (bx : Nat) (w : World) (F : Nat → Prop) (ho : Own w F 45 2 (.slice A n c) n (qcs l)) (hn : n ≤ 1000000) (hb : w.cell? ⟨bx, 0, none⟩ = some (.int .i64 x)) (hbl : bx < w.heap.size) (hbF : ¬ F bx) :
    Calls Try.prog 25 #[.slice A n c, .func (.func 26) #[] #[.pointer (some ⟨bx, 0, none⟩)]] w (DelP 45 2 F (lessQ l x).length (qcs (lessQ l x)) w) := by
  have hl := slq_len ho.sl
  have C := Lib.hid (lq_index l x A n c bx w F ho.sl hn hb hbl)
  rw [lessQ_keep]
  rcases idx_cases (fun a : Int × Bool => decide (a.1 = x)) l with ⟨h1, h2⟩ | ⟨i0, y0, h1, hil, hy, hpy, hbe⟩
  · rw [h1] at C
    rw [h2, hl]
    have Ho := Lib.hid ho
    clear ho h1 h2 hl
    go_enter Try.func25, Try.ntmps25
    go_wp2_with fail
    refine (C.out).mono ?_
    rintro e w1 ⟨rfl, hk1⟩
    go_wp2
    go_ret
    exact ⟨A, c, rfl, (Ho.out.kept hk1 (fun _ _ _ h => h)).imp (fun _ _ h => .inl h), hk1.mono (fun _ _ h => h.elim)⟩
  · rw [h1] at C
    obtain ⟨g, cur, rfl, hFg, hg, hnc, hcm, hcs, hct⟩ := own_row ho (by omega)
    have hst := DI.start (f := fun a : Int × Bool => [.int .i64 a.1, .bool a.2]) (k := 2) (p := fun a => decide (a.1 = x)) (c := c) (cur := cur.toList) (by simpa using hcs) (by rw [hl]; exact hct) (fun _ => rfl) hy hpy hbe
    have hbg : ¬ bx = g := fun e => hbF (by rw [e]; exact hFg)
    have Hst := Lib.hid hst
    have Hg := Lib.hid hg
    have Hl := Lib.hid hl
    have Hb := Lib.hid hb
    have Hcm := Lib.hid hcm
    have hin : i0 < n := by omega
    clear ho h1 hst hg hy hpy hbe hct hcs hl hb hcm hil
    go_enter Try.func25, Try.ntmps25
    go_wp2_with fail
    refine (C.out).mono ?_
    rintro e w1 ⟨rfl, hk1⟩
    have Hk1 := Lib.hid hk1
    go_wp2
    go_loopw [5, 6] (fun si sj wr => ∃ i j : Nat, si = .int .i64 i ∧ sj = .int .i64 j ∧ i < j ∧ j ≤ n ∧ Hid (∃ cur, Blk wr g 45 cur ∧ DI (fun a : Int × Bool => [.int .i64 a.1, .bool a.2]) 2 l (fun a => decide (a.1 = x)) c i j cur.toList) ∧ Hid (Kept (· = g) w wr)) (fun _ sj _ => n - (intOf sj).toNat)
    case atStart => exact ⟨i0, i0 + 1, rfl, rfl, by omega, by omega, ⟨cur, Hg.out.kept Hk1.out (fun h => h), Hst.out⟩, Hk1.out.mono (fun _ _ h => h.elim)⟩
    case round =>
      obtain ⟨i, j, rfl, rfl, hij, hjn, hcu, hkr⟩ := hrel
      obtain ⟨cu, hgr, hd⟩ := hcu.out
      by_cases hlt : j < n
      · obtain ⟨y, hy⟩ : ∃ y, l[j]? = some y := ⟨_, List.getElem?_eq_getElem (by have := Hl.out; omega)⟩
        have hc1 : wr.cell? ⟨g, j * 2, none⟩ = some (.int .i64 y.1) := by
          rw [hgr.cell, ← Array.getElem?_toList]; exact hd.cell (k := 2) (fun _ => rfl) hy 0 (by decide)
        have hc2 : wr.cell? ⟨g, j * 2 + 1, none⟩ = some (.bool y.2) := by
          rw [hgr.cell, ← Array.getElem?_toList]; exact hd.cell (k := 2) (fun _ => rfl) hy 1 (by decide)
        have hji : (j : Int) < (n : Int) := by omega
        have Hgr := Lib.hid hgr
        have Hd := Lib.hid hd
        have Hy := Lib.hid hy
        have hgr0 := hgr
        clear hcu hgr hd hy
        have hka : Pure wr (wr.alloc (.cells #[.int .i64 y.1, .bool y.2] 45)) := (Kept.refl _ _).alloc _
        have hva := Blk.new wr 45 #[.int .i64 y.1, .bool y.2]
        have hbx : (wr.alloc (.cells #[.int .i64 y.1, .bool y.2] 45)).cell? ⟨bx, 0, none⟩ = some (.int .i64 x) :=
          (World.cell?_of_block (a := ⟨bx, 0, none⟩) ((hkr.out.same (hka.mono (fun _ _ h => h.elim))).block bx hbl (fun h => hbg h))).trans Hb.out
        have C2 := Lib.hid (lq_key x y bx _ hbx (Nat.lt_of_lt_of_le hbl (Nat.le_trans hkr.out.size hka.size)))
        have Hka := Lib.hid hka
        have Hva := Lib.hid hva
        have hwsz := hgr0.lt
        clear hka hva hbx
        cases hpy : (fun a : Int × Bool => decide (a.1 = x)) y with
        | true =>
          have Hpy := Lib.hid hpy
          simp only at hpy
          rw [hpy] at C2
          clear hpy
          go_wp2_with fail
          refine (C2.out).mono ?_
          rintro e w2 ⟨rfl, hk2⟩
          go_wp2
          refine ⟨?_, ?measure⟩
          repeat apply Exists.intro
          refine ⟨?rel, ?eqs⟩
          case eqs => rfl
          case measure => simp [intOf]; omega
          case rel => exact ⟨i, j + 1, rfl, by first | rfl | go_num, by omega, by omega, ⟨cu, (Hgr.out.kept Hka.out (fun h => h)).kept hk2 (fun h => h), Hd.out.skip Hy.out Hpy.out⟩, (hkr.out.same (Hka.out.mono (fun _ _ h => h.elim))).same (hk2.mono (fun _ _ h => h.elim))⟩
        | false =>
          have Hpy := Lib.hid hpy
          simp only at hpy
          rw [hpy] at C2
          clear hpy
          have hin2 : (i : Int) < (n : Int) := by omega
          go_wp2_with fail
          refine (C2.out).mono ?_
          rintro e w2 ⟨rfl, hk2⟩
          have hg2 := (Hgr.out.kept Hka.out (fun h => h)).kept hk2 (fun h => h)
          have hv2 := Hva.out.kept hk2 (fun h => h)
          have hvc := hv2.cell
          go_wp2_with (with_reducible refine stop_store (ty := 45) ?_)
          refine unheld ?_
          have hfit : i * 2 + 2 ≤ cu.size := by have := Hd.out.size; simp at this; omega
          refine wp_store_at (vs := [.int .i64 y.1, .bool y.2]) rfl _ _ _ rfl rfl rfl rfl hg2 hfit (by kernel_rfl) (fun u hu => by simp at hu; rcases hu with rfl | rfl <;> rfl) rfl ?_
          intro w3 hg3 hk3
          have hd2 := Hd.out.keep (k := 2) (fun _ => rfl) Hy.out Hpy.out (Nat.le_of_lt hij) (by have := Hl.out; omega)
          have Hd2 := Lib.hid hd2
          have Hg3 := Lib.hid hg3
          clear hd2 hg3
          have hi1 : 0 ≤ (i : Int) + 1 ∧ (i : Int) + 1 ≤ 2000000 := by omega
          have hj1 : 0 ≤ (j : Int) + 1 ∧ (j : Int) + 1 ≤ 2000000 := by omega
          go_wp2
          refine ⟨?_, ?measure⟩
          repeat apply Exists.intro
          refine ⟨?rel, ?eqs⟩
          case eqs => rfl
          case measure => simp [intOf]; omega
          case rel => exact ⟨i + 1, j + 1, by first | rfl | go_num, by first | rfl | go_num, by omega, by omega, ⟨_, Hg3.out, by simpa using Hd2.out⟩, ((hkr.out.same (Hka.out.mono (fun _ _ h => h.elim))).same (hk2.mono (fun _ _ h => h.elim))).same hk3⟩
      · obtain rfl : j = n := by omega
        have hz2 : (Value.agg #[.int .i64 0, .bool false] : Value).cells.size = 2 := by kernel_rfl
        have hcs : cu.size = c * 2 := by simpa using hd.size
        obtain ⟨cur3, hcur3⟩ : ∃ cur3, cu.toList.take (i * 2) ++ (Builtin.zeroCells (Value.agg #[.int .i64 0, .bool false] : Value).cells (j - i)).toList ++ cu.toList.drop (i * 2 + (j - i) * 2) = cur3 := ⟨_, rfl⟩
        have hs3 : cur3.length = c * 2 := by
          rw [← hcur3]
          simp only [List.length_append, List.length_take, List.length_drop, Array.length_toList, size_zeroCells, hz2, hcs]
          omega
        have hclr : ∀ ty cc, (Builtin.clear_ #[41] ty #[.slice (some ⟨g, i * 2, none⟩) (j - i) cc]).run Try.prog wr = .ok (.tuple #[]) (wr.setRow g cur3.toArray) := fun ty cc => by
          have := run_clearK (P := Try.prog) wr 41 45 ty (.agg #[.int .i64 0, .bool false]) 2 Try.underlying41 (fun w => Try.zeroValue45 w) hz2 (by simp [Value.cells, Value.oneCell']) g (i * 2) (j - i) cc cu 45 hgr (by rw [hcs]; omega)
          rw [this]
          simp only [hcur3]
        have hlen := hd.len
        rw [List.take_of_length_le (by have := Hl.out; omega)] at hlen
        have hfin : cur3.take (i * 2) = qcs (keepP (fun a => decide (a.1 = x)) l) := by
          rw [← hcur3, List.append_assoc, List.take_append_of_le_length (by simp [hcs]; omega), List.take_take, Nat.min_self, hd.front, List.take_of_length_le (by have := Hl.out; omega)]
          rfl
        have hB3 : Blk (wr.setRow g cur3.toArray) g 45 cur3.toArray := setRow_heap wr g cu _ 45 (0, 0) hgr
        have hkF : Kept F w (wr.setRow g cur3.toArray) := (hkr.out.same (setRow_kept wr g cur3.toArray)).mono (fun j _ h => by have h2 : j = g := h; rw [h2]; exact hFg)
        have Hend : Hid (DelP 45 2 F (keepP (fun a => decide (a.1 = x)) l).length (qcs (keepP (fun a => decide (a.1 = x)) l)) w (.returned (.slice (some ⟨g, 0, none⟩) i c)) (wr.setRow g cur3.toArray)) := by
          refine ⟨some ⟨g, 0, none⟩, c, by rw [hlen], ?_, hkF⟩
          refine ⟨⟨by rw [qcs_length], .inr ⟨g, c, cur3.toArray, rfl, Nat.zero_le _, hB3, by omega, Hcm.out, by rw [← hs3]; simp, by rw [hlen]; simpa using hfin⟩⟩, fun b hb => ?_⟩
          simp [Value.ownBlock] at hb
          subst hb
          exact .inl hFg
        clear hcu hd hcs hcur3 hs3 hlen hfin hB3 hkF
        have hclr := Lib.hid hclr
        have q1 : i ≤ c := by omega
        have q4 : ¬ c = i := by omega
        have q5 : (i : Int) ≤ (j : Int) ∧ (j : Int) ≤ (c : Int) := by omega
        go_wp2
        go_ret
        exact Hend.out
set_option maxHeartbeats 3200000 in
theorem li_delf (l : List Int) (x : Int) (A : Option Addr) (n c : Nat) (bx : Nat) (w : World) (F : Nat → Prop) (ho : Own w F 3 1 (.slice A n c) n (ics l)) (hn : n ≤ 1000000) (hb : w.cell? ⟨bx, 0, none⟩ = some (.int .i64 x)) (hbl : bx < w.heap.size) (hbF : ¬ F bx) :
    Calls Try.prog 23 #[.slice A n c, .func (.func 24) #[] #[.pointer (some ⟨bx, 0, none⟩)]] w (DelP 3 1 F (lessI l x).length (ics (lessI l x)) w) := by
  have hl := sli_len ho.sl
  have C := Lib.hid (li_index l x A n c bx w F ho.sl hn hb hbl)
  rw [lessI_keep]
  rcases idx_cases (fun a : Int => decide (a = x)) l with ⟨h1, h2⟩ | ⟨i0, y0, h1, hil, hy, hpy, hbe⟩
  · rw [h1] at C
    rw [h2, hl]
    have Ho := Lib.hid ho
    clear ho h1 h2 hl
    go_enter Try.func23, Try.ntmps23
    go_wp2_with fail
    refine (C.out).mono ?_
    rintro e w1 ⟨rfl, hk1⟩
    go_wp2
    go_ret
    exact ⟨A, c, rfl, (Ho.out.kept hk1 (fun _ _ _ h => h)).imp (fun _ _ h => .inl h), hk1.mono (fun _ _ h => h.elim)⟩
  · rw [h1] at C
    obtain ⟨g, cur, rfl, hFg, hg, hnc, hcm, hcs, hct⟩ := own_row ho (by omega)
    have hst := DI.start (f := fun a : Int => [.int .i64 a]) (k := 1) (p := fun a => decide (a = x)) (c := c) (cur := cur.toList) (by simpa using hcs) (by rw [hl, ← ics_flat]; exact hct) (fun _ => rfl) hy hpy hbe
    have hbg : ¬ bx = g := fun e => hbF (by rw [e]; exact hFg)
    have Hst := Lib.hid hst
    have Hg := Lib.hid hg
    have Hl := Lib.hid hl
    have Hb := Lib.hid hb
    have Hcm := Lib.hid hcm
    have hin : i0 < n := by omega
    clear ho h1 hst hg hy hpy hbe hct hcs hl hb hcm hil
    go_enter Try.func23, Try.ntmps23
    go_wp2_with fail
    refine (C.out).mono ?_
    rintro e w1 ⟨rfl, hk1⟩
    have Hk1 := Lib.hid hk1
    go_wp2
    go_loopw [5, 6] (fun si sj wr => ∃ i j : Nat, si = .int .i64 i ∧ sj = .int .i64 j ∧ i < j ∧ j ≤ n ∧ Hid (∃ cur, Blk wr g 3 cur ∧ DI (fun a : Int => [.int .i64 a]) 1 l (fun a => decide (a = x)) c i j cur.toList) ∧ Hid (Kept (· = g) w wr)) (fun _ sj _ => n - (intOf sj).toNat)
    case atStart => exact ⟨i0, i0 + 1, rfl, rfl, by omega, by omega, ⟨cur, Hg.out.kept Hk1.out (fun h => h), Hst.out⟩, Hk1.out.mono (fun _ _ h => h.elim)⟩
    case round =>
      obtain ⟨i, j, rfl, rfl, hij, hjn, hcu, hkr⟩ := hrel
      obtain ⟨cu, hgr, hd⟩ := hcu.out
      by_cases hlt : j < n
      · obtain ⟨y, hy⟩ : ∃ y, l[j]? = some y := ⟨_, List.getElem?_eq_getElem (by have := Hl.out; omega)⟩
        have hc1 : wr.cell? ⟨g, j, none⟩ = some (.int .i64 y) := by
          rw [hgr.cell, ← Array.getElem?_toList]; simpa using hd.cell (k := 1) (fun _ => rfl) hy 0 (by decide)
        have hji : (j : Int) < (n : Int) := by omega
        have Hgr := Lib.hid hgr
        have Hd := Lib.hid hd
        have Hy := Lib.hid hy
        have hgr0 := hgr
        clear hcu hgr hd hy
        have hbx : wr.cell? ⟨bx, 0, none⟩ = some (.int .i64 x) := (World.cell?_of_block (a := ⟨bx, 0, none⟩) (hkr.out.block bx hbl (fun h => hbg h))).trans Hb.out
        have C2 := Lib.hid (li_key x y bx _ hbx (Nat.lt_of_lt_of_le hbl hkr.out.size))
        clear hbx
        cases hpy : (fun a : Int => decide (a = x)) y with
        | true =>
          have Hpy := Lib.hid hpy
          simp only at hpy
          rw [hpy] at C2
          clear hpy
          go_wp2_with fail
          refine (C2.out).mono ?_
          rintro e w2 ⟨rfl, hk2⟩
          go_wp2
          refine ⟨?_, ?measure⟩
          repeat apply Exists.intro
          refine ⟨?rel, ?eqs⟩
          case eqs => rfl
          case measure => simp [intOf]; omega
          case rel => exact ⟨i, j + 1, rfl, by first | rfl | go_num, by omega, by omega, ⟨cu, Hgr.out.kept hk2 (fun h => h), Hd.out.skip Hy.out Hpy.out⟩, hkr.out.same (hk2.mono (fun _ _ h => h.elim))⟩
        | false =>
          have Hpy := Lib.hid hpy
          simp only at hpy
          rw [hpy] at C2
          clear hpy
          have hin2 : (i : Int) < (n : Int) := by omega
          go_wp2_with fail
          refine (C2.out).mono ?_
          rintro e w2 ⟨rfl, hk2⟩
          have hg2 := Hgr.out.kept hk2 (fun h => h)
          go_wp2_with (with_reducible refine stop_store (ty := 3) ?_)
          refine unheld ?_
          have hfit : i + 1 ≤ cu.size := by have := Hd.out.size; simp at this; omega
          refine wp_store_at (vs := [.int .i64 y]) rfl _ _ _ rfl rfl rfl rfl hg2 hfit (by kernel_rfl) (fun u hu => by simp at hu; subst hu; rfl) rfl ?_
          intro w3 hg3 hk3
          have hd2 := Hd.out.keep (k := 1) (fun _ => rfl) Hy.out Hpy.out (Nat.le_of_lt hij) (by have := Hl.out; omega)
          have Hd2 := Lib.hid hd2
          have Hg3 := Lib.hid hg3
          clear hd2 hg3
          have hi1 : 0 ≤ (i : Int) + 1 ∧ (i : Int) + 1 ≤ 2000000 := by omega
          have hj1 : 0 ≤ (j : Int) + 1 ∧ (j : Int) + 1 ≤ 2000000 := by omega
          go_wp2
          refine ⟨?_, ?measure⟩
          repeat apply Exists.intro
          refine ⟨?rel, ?eqs⟩
          case eqs => rfl
          case measure => simp [intOf]; omega
          case rel => exact ⟨i + 1, j + 1, by first | rfl | go_num, by first | rfl | go_num, by omega, by omega, ⟨_, Hg3.out, by simpa using Hd2.out⟩, (hkr.out.same (hk2.mono (fun _ _ h => h.elim))).same hk3⟩
      · obtain rfl : j = n := by omega
        have hz2 : (Value.int .i64 0 : Value).cells.size = 1 := by kernel_rfl
        have hcs : cu.size = c * 1 := by simpa using hd.size
        obtain ⟨cur3, hcur3⟩ : ∃ cur3, cu.toList.take (i * 1) ++ (Builtin.zeroCells (Value.int .i64 0 : Value).cells (j - i)).toList ++ cu.toList.drop (i * 1 + (j - i) * 1) = cur3 := ⟨_, rfl⟩
        have hs3 : cur3.length = c * 1 := by
          rw [← hcur3]
          simp only [List.length_append, List.length_take, List.length_drop, Array.length_toList, size_zeroCells, hz2, hcs]
          omega
        have hclr : ∀ ty cc, (Builtin.clear_ #[34] ty #[.slice (some ⟨g, i, none⟩) (j - i) cc]).run Try.prog wr = .ok (.tuple #[]) (wr.setRow g cur3.toArray) := fun ty cc => by
          have := run_clearK (P := Try.prog) wr 34 3 ty (.int .i64 0) 1 Try.underlying34 (fun w => Try.zeroValue3 w) hz2 (by simp [Value.cells, Value.oneCell']) g i (j - i) cc cu 3 hgr (by rw [hcs]; omega)
          rw [this, ← hcur3, Nat.mul_one, Nat.mul_one]
        have hlen := hd.len
        rw [List.take_of_length_le (by have := Hl.out; omega)] at hlen
        have hfin : cur3.take (i * 1) = ics (keepP (fun a => decide (a = x)) l) := by
          rw [← hcur3, List.append_assoc, List.take_append_of_le_length (by simp [hcs]; omega), List.take_take, Nat.min_self, hd.front, List.take_of_length_le (by have := Hl.out; omega), ics_flat]
        have hB3 : Blk (wr.setRow g cur3.toArray) g 3 cur3.toArray := setRow_heap wr g cu _ 3 (0, 0) hgr
        have hkF : Kept F w (wr.setRow g cur3.toArray) := (hkr.out.same (setRow_kept wr g cur3.toArray)).mono (fun j _ h => by have h2 : j = g := h; rw [h2]; exact hFg)
        have Hend : Hid (DelP 3 1 F (keepP (fun a => decide (a = x)) l).length (ics (keepP (fun a => decide (a = x)) l)) w (.returned (.slice (some ⟨g, 0, none⟩) i c)) (wr.setRow g cur3.toArray)) := by
          refine ⟨some ⟨g, 0, none⟩, c, by rw [hlen], ?_, hkF⟩
          refine ⟨⟨by rw [ics_length, Nat.mul_one], .inr ⟨g, c, cur3.toArray, rfl, Nat.zero_le _, hB3, by omega, Hcm.out, by rw [← hs3]; simp, by rw [hlen]; simpa using hfin⟩⟩, fun b hb => ?_⟩
          simp [Value.ownBlock] at hb
          subst hb
          exact .inl hFg
        clear hcu hd hcs hcur3 hs3 hlen hfin hB3 hkF
        have hclr := Lib.hid hclr
        have q1 : i ≤ c := by omega
        have q4 : ¬ c = i := by omega
        have q5 : (i : Int) ≤ (j : Int) ∧ (j : Int) ≤ (c : Int) := by omega
        go_wp2
        go_ret
        exact Hend.out
end Go.Proofs.Ytggnndopncegaaa
