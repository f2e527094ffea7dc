/-
  rw: Ints, New; the lock from a block on; what the chapter's example fixes.
-/
import Derived.Test.YtggnndopncegaaaRwH
import Derived.Test.YtggnndopncegaaaRwU
import Derived.Test.YtggnndopncegaaaRwO
import Derived.LoopTactic
import Derived.Deep.QuietTactic
import Derived.BigQuiet
set_option linter.unusedSimpArgs false
set_option linter.unusedVariables false
namespace Go.Proofs.Ytggnndopncegaaa
open Go.RowKit
set_option maxRecDepth 100000
set_option maxHeartbeats 800000 in
theorem ints_any (A : Option Addr) (n c : Nat) (l : List Int) (B : Option Addr) (m d : Nat) (l' : List Int) (w : World) (F G : Nat → Prop) (hs : Sl w F 1 A n (l.map (Value.int .i64))) (ht : Sl w G 1 B m (l'.map (Value.int .i64))) (hn : n ≤ 1000000) (hm : m ≤ 1000000) :
    Calls Try.prog 11 #[.slice A n c, .slice B m d] w fun e w' => e = .returned (.bool (decide (l = l'))) ∧ Pure w w' := by
  have hl : l.length = n := by have := hs.1; simpa using this
  have hl' : l'.length = m := by have := ht.1; simpa using this
  by_cases hnm : n = m
  · subst hnm
    have Hl := Lib.hid hl
    have Hl' := Lib.hid hl'
    have Hs := Lib.hid hs
    have Ht := Lib.hid ht
    clear hl hl' hs ht
    go_enter Try.func11, Try.ntmps11
    go_wp2
    go_loopw [5] (fun i wr => ∃ k : Nat, i = .int .i64 k ∧ k ≤ n ∧ Hid (∀ j, j < k → l[j]? = l'[j]?) ∧ Pure w wr) (fun i _ => n - (intOf i).toNat)
    case atStart => exact ⟨0, rfl, Nat.zero_le _, fun j h => by omega, Kept.refl _ _⟩
    case round =>
      obtain ⟨k, rfl, hk, hj, hp⟩ := hrel
      by_cases hkn : k < n
      · obtain ⟨b, o, rfl, _, _, hc⟩ := (Hs.out.kept hp (fun _ _ _ h => h)).2 (by omega)
        obtain ⟨b', o', rfl, _, _, hc'⟩ := (Ht.out.kept hp (fun _ _ _ h => h)).2 (by omega)
        obtain ⟨x, hx⟩ : ∃ x, l[k]? = some x := ⟨_, List.getElem?_eq_getElem (by have := Hl.out; omega)⟩
        obtain ⟨y, hy⟩ : ∃ y, l'[k]? = some y := ⟨_, List.getElem?_eq_getElem (by have := Hl'.out; omega)⟩
        have hc1 := hc k (by have := Hl.out; simp; omega)
        have hc1' := hc' k (by have := Hl'.out; simp; omega)
        rw [List.getElem?_map, hx] at hc1
        rw [List.getElem?_map, hy] at hc1'
        simp only [Option.map_some] at hc1 hc1'
        have hki : (k : Int) < (n : Int) := by omega
        have Hx := Lib.hid hx
        have Hy := Lib.hid hy
        clear hc hc' hx hy
        by_cases hxy : x = y
        · subst hxy
          go_wp2
          go_quiet (fail)
          go_wp2
          go_roundw
          case measure => simp [intOf]; omega
          case rel => exact ⟨k + 1, by first | rfl | go_num, by omega, fun j h => by
            by_cases hjk : j = k
            · subst hjk; rw [Hx.out, Hy.out]
            · exact hj.out j (by omega), hp.drewN _⟩
        · have hne : decide (l = l') = false := by
            simp only [decide_eq_false_iff_not]
            rintro rfl
            have := Hx.out
            rw [Hy.out] at this
            injection this with this
            exact hxy this.symm
          have Hne := Lib.hid hne
          have hq : (x == y) = false := by simpa using hxy
          clear hne
          go_wp2
          go_quiet (fail)
          go_wp2
          go_ret
          exact ⟨by rw [Hne.out]; rfl, hp.drewN _⟩
      · obtain rfl : k = n := by omega
        have he : decide (l = l') = true := by
          simp only [decide_eq_true_eq]
          apply List.ext_getElem?
          intro j
          by_cases hjk : j < k
          · exact hj.out j hjk
          · rw [List.getElem?_eq_none (by have := Hl.out; omega), List.getElem?_eq_none (by have := Hl'.out; omega)]
        have He := Lib.hid he
        clear he
        go_wp2
        go_ret
        exact ⟨by rw [He.out]; rfl, hp⟩
  · have he : decide (l = l') = false := by
      simp only [decide_eq_false_iff_not]
      rintro rfl
      omega
    rw [he]
    have h1 : ¬ ((n : Int) = (m : Int)) := by omega
    clear he hs ht hl hl'
    go_enter Try.func11, Try.ntmps11
    go_wp2
    go_ret
    exact ⟨rfl, Kept.refl _ _⟩
abbrev LN (w : World) (N g : Nat) (k : Lk) : Prop := Lp w (fun b => N ≤ b) g k
theorem lk_new (w : World) : Calls Try.prog 8 #[] w fun e w' => e = .returned (.pointer (some ⟨w.heap.size, 0, none⟩)) ∧ Lp w' (fun b => w.heap.size ≤ b) w.heap.size Lk.none ∧ Pure w w' := by
  have hB := Blk.new w 43 #[.slice none 0 0, .int .i64 0, .bool false, .slice none 0 0]
  have HB := Lib.hid hB
  clear hB
  go_enter Try.func8, Try.ntmps8
  go_wp2
  go_ret
  exact ⟨rfl, ⟨Nat.le_refl _, none, 0, none, 0, HB.out, Own.nil _ _ _ _, Own.nil _ _ _ _⟩, (Kept.refl _ _).alloc _⟩
theorem lp_up {w : World} {N g M : Nat} {k : Lk} (hM : N ≤ M) (h : Lp w (fun b => N ≤ b ∨ M ≤ b) g k) : LN w N g k := h.imp (fun b _ h => by omega)
theorem lp_le {w : World} {N g : Nat} {k : Lk} (h : LN w N g k) : N ≤ w.heap.size := by have := h.lt; have h0 : N ≤ g := h.1; omega
theorem ask_n (N : Nat) (w : World) (g : Nat) (k : Lk) (who : Int) (b : Bool) (h : LN w N g k) (hz : k.size ≤ 99999) :
    Calls Try.prog 9 #[.pointer (some ⟨g, 0, none⟩), .int .i64 who, .bool b] w fun e w' => e = .returned (.bool (k.ask who b).1) ∧ LN w' N g (k.ask who b).2 ∧ Kept (fun b => N ≤ b) w w' :=
  (lk_ask w _ g k who b h hz).mono fun e w' ⟨h1, h2, h3⟩ => ⟨h1, lp_up (lp_le h) h2, h3⟩
/-- A slice of numbers is handed back, beside a lock that has moved. -/
def LvN (N : Nat) (w : World) (g : Nat) (r : List Int × Lk) (e : Ending) (w' : World) : Prop :=
  ∃ A n c, e = .returned (.slice A n c) ∧ Sl w' (fun b => w.heap.size ≤ b) 1 A n (ics r.1) ∧ LN w' N g r.2 ∧ Kept (fun b => N ≤ b) w w'
theorem leave_n (N : Nat) (w : World) (g : Nat) (k : Lk) (who : Int) (h : LN w N g k) (hz : k.size ≤ 100000) :
    Calls Try.prog 12 #[.pointer (some ⟨g, 0, none⟩), .int .i64 who] w (LvN N w g (k.leave who)) :=
  (lk_leave w _ g k who h hz).mono fun e w' ⟨A, n, c, h1, h2, h3, h4⟩ => ⟨A, n, c, h1, h2, lp_up (lp_le h) h3, h4⟩
def BoolP (b : Bool) (w : World) (e : Ending) (w' : World) : Prop := e = .returned (.bool b) ∧ Pure w w'

def x1 : Lk := (Lk.none.ask 1 false).2
def x2 : Lk := (x1.ask 2 true).2
def x3 : Lk := (x2.ask 3 false).2
theorem ex1 : (Lk.none.ask 1 false).1 = true := by decide +kernel
theorem ex2 : (x1.ask 2 true).1 = false := by decide +kernel
theorem ex3 : (x2.ask 3 false).1 = false := by decide +kernel
theorem ex4 : (x3.leave 1).1 = [2] := by decide +kernel
theorem ex5 : (x3.leave 1).2.st 2 = 3 := by decide +kernel
theorem ex6 : (x3.leave 1).2.st 3 = 1 := by decide +kernel
theorem exz : Lk.none.size ≤ 1 ∧ x1.size ≤ 2 ∧ x2.size ≤ 3 ∧ x3.size ≤ 4 ∧ (x3.leave 1).2.size ≤ 5 := by decide +kernel
set_option maxHeartbeats 3200000 in
theorem first22 (w : World) : Calls Try.prog 7 #[] w (BoolP true w) := by
  obtain ⟨N, hN⟩ : ∃ N, w.heap.size = N := ⟨_, rfl⟩
  obtain ⟨z0, z1, z2, z3, z4⟩ := exz
  have C0 := Lib.hid (lk_new w)
  have c1 := fun w h => ask_n N w N Lk.none 1 false h (by omega)
  rw [ex1] at c1
  have C1 := Lib.hid c1
  have c2 := fun w h => ask_n N w N x1 2 true h (by omega)
  rw [ex2] at c2
  have C2 := Lib.hid c2
  have c3 := fun w h => ask_n N w N x2 3 false h (by omega)
  rw [ex3] at c3
  have C3 := Lib.hid c3
  have c4 := fun w h => leave_n N w N x3 1 h (by omega)
  have C4 := Lib.hid c4
  have c5 := fun w h => lk_state w (fun b => N ≤ b) N (x3.leave 1).2 2 h (by omega)
  rw [ex5] at c5
  have C5 := Lib.hid c5
  have c6 := fun w h => lk_state w (fun b => N ≤ b) N (x3.leave 1).2 3 h (by omega)
  rw [ex6] at c6
  have C6 := Lib.hid c6
  clear c1 c2 c3 c4 c5 c6 z0 z1 z2 z3 z4
  rw [hN] at C0
  go_enter Try.func7, Try.ntmps7
  go_wp2_with fail
  refine (C0.out).mono ?_
  rintro e w1 ⟨rfl, hm1, hk1⟩
  go_wp2_with fail
  refine (C1.out _ hm1).mono ?_
  rintro e w2 ⟨rfl, hm2, hk2⟩
  go_wp2_with fail
  refine (C2.out _ hm2).mono ?_
  rintro e w3 ⟨rfl, hm3, hk3⟩
  go_wp2_with fail
  refine (C3.out _ hm3).mono ?_
  rintro e w4 ⟨rfl, hm4, hk4⟩
  go_wp2_with fail
  refine (C4.out _ hm4).mono ?_
  rintro e w5 ⟨A, n, c, rfl, hs5, hm5, hk5⟩
  rw [ex4] at hs5
  have hn : n = 1 := (sli_len hs5).symm
  subst hn
  have hk : Kept (fun b => N ≤ b) w w5 := ((((hk1.mono (fun _ _ h => h.elim)).same hk2).same hk3).same hk4).same hk5
  have hs6 := hs5.alloc (.cells #[.int .i64 2] 3)
  have hm6 := hm5.kept ((Kept.refl (fun _ => False) w5).alloc (.cells #[.int .i64 2] 3)) (fun _ _ _ h => h)
  have hk6 := hk.alloc (.cells #[.int .i64 2] 3)
  have hl := Sl.lit w5 #[.int .i64 2] 3 1 1 _ rfl rfl
  have C7 := Lib.hid (ints_any A 1 c [2] (some ⟨w5.heap.size, 0, none⟩) 1 1 [2] _ _ _ hs6 hl (by omega) (by omega))
  have Hk6 := Lib.hid hk6
  have Hm6 := Lib.hid hm6
  clear hk1 hk2 hk3 hk4 hk5 hk hm1 hm2 hm3 hm4 hm5 hs5 hs6 hl hm6 hk6
  go_wp2_with fail
  refine (C7.out).mono ?_
  rintro e w6 ⟨rfl, hk7⟩
  have hm7 := Hm6.out.kept hk7 (fun _ _ _ h => h)
  go_wp2_with fail
  refine (C5.out _ hm7).mono ?_
  rintro e w7 ⟨rfl, hk8⟩
  have hm8 := hm7.kept hk8 (fun _ _ _ h => h)
  go_wp2_with fail
  refine (C6.out _ hm8).mono ?_
  rintro e w8 ⟨rfl, hk9⟩
  go_wp2
  go_ret
  have hkk := Hk6.out.same (((hk7.same hk8).same hk9).mono (fun _ _ h => h.elim))
  exact ⟨by simp, hkk.mono (fun b hb h => by omega)⟩
end Go.Proofs.Ytggnndopncegaaa
