/-
  rw: Holders walked.
-/
import Derived.Test.YtggnndopncegaaaRwQ
import Derived.Test.YtggnndopncegaaaLays
import Derived.Sort.OwnSortedInts
import Derived.Deep.QuietTactic
import Derived.BigQuiet
set_option linter.unusedSimpArgs false
set_option linter.unusedVariables false
namespace Go.Proofs.Ytggnndopncegaaa
open Go.RowKit
set_option maxRecDepth 100000

set_option maxHeartbeats 1600000 in
/-- slices.Sort of a row of the call's own. -/
theorem sort_i (w : World) (F : Nat → Prop) (A : Option Addr) (n c : Nat) (l : List Int) (ho : Own w F 3 1 (.slice A n c) n (ics l)) (hz : n ≤ 1000000) :
    Calls Try.prog 32 #[.slice A n c] w fun e w' => e = .returned (.tuple #[]) ∧ Own w' F 3 1 (.slice A n c) n (ics (l.mergeSort fun x y => decide (x ≤ y))) ∧ Kept F w w' := by
  have hl := sli_len ho.sl
  obtain ⟨⟨_, h1⟩, h2⟩ := ho
  rcases h1 with ⟨h3, h4⟩ | ⟨g, cap, cur, h3, hb, hg, hnc, hm, hs, ht⟩
  · injection h3 with e1 e2 e3
    subst e1 e2 e3
    have hn : l = [] := List.eq_nil_of_length_eq_zero hl
    subst hn
    refine (Any.slices_Sort_int_none Try.lays189 none 0 w).mono ?_
    rintro e w' ⟨rfl, rfl⟩
    exact ⟨rfl, by simpa [ics] using Own.nil _ _ _ _, Kept.refl _ _⟩
  · injection h3 with e1 e2 e3
    subst e1 e3
    rw [Nat.mul_one, ← hl] at ht
    have hH := holds_of_blockI (ss := l) hg ht
    have hgl := (Array.getElem?_eq_some_iff.1 hg).1
    subst hl
    refine (Any.slices_Sort_int Try.lays189 g 0 c l w hH hgl (by omega)).mono ?_
    rintro e w' ⟨rfl, nn, os, rfl⟩
    refine ⟨rfl, ⟨?_, h2⟩, ?_⟩
    · have := ownsRow_sortedI (base := 0) (n := nn) (os := os) (ss := l) (ts := l.mergeSort fun x y => decide (x ≤ y)) (by simp) (Nat.zero_le _) hg hnc hm hs
      exact this
    · have := grownBy_sortedI (w := w) (g := g) (n := nn) (os := os) (l.mergeSort fun x y => decide (x ≤ y)).toArray
      exact (Kept.refl F w).grown this (fun k e => .inl (h2 k (by cases e; rfl)))
set_option maxHeartbeats 3200000 in
theorem lk_holders (w : World) (F : Nat → Prop) (g : Nat) (k : Lk) (h : Lp w F g k) (hz : k.size ≤ 100000) :
    Calls Try.prog 16 #[.pointer (some ⟨g, 0, none⟩)] w fun e w' => ∃ A n c, e = .returned (.slice A n c) ∧ Sl w' (fun b => w.heap.size ≤ b) 1 A n (ics k.holders) ∧ Pure w w' := by
  obtain ⟨_, A1, c1, A2, c2, hb, h1, _⟩ := h
  have hr : k.rd.length ≤ 100000 := by simp only [Lk.size] at hz; omega
  have hs := h1.sl
  have hc := hb.cell
  have hho : k.holders = if k.ws = true then [k.wr] else k.rd.mergeSort (fun x y => decide (x ≤ y)) := rfl
  rw [hho]
  obtain ⟨rd, wr, ws, qu⟩ := k
  simp only at hs hc hr ⊢
  clear hb h1 hz hho
  cases ws with
  | true =>
    rw [if_pos rfl]
    clear hs
    have hl := Sl.lit w #[.int .i64 wr] 3 1 1 _ rfl rfl
    have Hl := Lib.hid hl
    clear hl
    go_enter Try.func16, Try.ntmps16
    go_wp2
    go_ret
    exact ⟨_, 1, ⟨1, rfl⟩, (by simpa [ics] using Hl.out.imp (G := fun b => w.heap.size ≤ b) (fun b _ h => by omega)), (Kept.refl _ _).alloc _⟩
  | false =>
    rw [if_neg (by simp)]
    have C1 := Lib.hid (clone_i w _ A1 rd.length c1 rd hs hr)
    clear hs
    go_enter Try.func16, Try.ntmps16
    go_wp2_with fail
    refine (C1.out).mono ?_
    rintro e w1 ⟨A3, c3, rfl, ho3, hk3⟩
    have C2 := Lib.hid (sort_i w1 _ A3 rd.length c3 rd ho3 (by omega))
    clear ho3
    go_wp2_with fail
    refine (C2.out).mono ?_
    rintro e w2 ⟨rfl, ho4, hk4⟩
    go_wp2
    go_ret
    exact ⟨A3, rd.length, c3, rfl, ho4.sl, hk3.trans hk4 (fun b hb h => by omega)⟩
end Go.Proofs.Ytggnndopncegaaa
