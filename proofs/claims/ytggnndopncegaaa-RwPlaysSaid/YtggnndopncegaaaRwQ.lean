/-
  rw: Queue walked; Clone walked.
-/
import Derived.Test.YtggnndopncegaaaRwB
import Derived.Deep.QuietTactic
import Derived.BigQuiet
set_option linter.unusedSimpArgs false
set_option linter.unusedVariables false
namespace Go.Proofs.Ytggnndopncegaaa
open Go.RowKit
set_option maxRecDepth 100000

theorem kept_pure {w w' : World} {S : Nat → Prop} (h : Kept S w w') (hS : ∀ b, b < w.heap.size → ¬ S b) : Pure w w' := h.mono (fun b hb hs => (hS b hb hs).elim)
set_option maxHeartbeats 3200000 in
theorem lk_queue (w : World) (F : Nat → Prop) (g : Nat) (k : Lk) (h : Lp w F g k) (hz : k.size ≤ 100000) :
    Calls Try.prog 18 #[.pointer (some ⟨g, 0, none⟩)] w fun e w' => ∃ A n c, e = .returned (.slice A n c) ∧ Sl w' (fun b => w.heap.size ≤ b) 1 A n (ics (k.qu.map (·.1))) ∧ Pure w w' := by
  obtain ⟨_, A1, c1, A2, c2, hb, _, h2⟩ := h
  have hq : k.qu.length ≤ 100000 := by simp only [Lk.size] at hz; omega
  have hs := h2.sl
  have hc := hb.cell
  obtain ⟨l, hl⟩ : ∃ l, k.qu = l := ⟨_, rfl⟩
  rw [hl] at hs hc hq ⊢
  obtain ⟨n, hn⟩ : ∃ n, l.length = n := ⟨_, rfl⟩
  rw [hn] at hs hc hq
  have Hn := Lib.hid hn
  have Hs := Lib.hid hs
  clear hb h2 hs hz hl hn
  go_enter Try.func18, Try.ntmps18
  go_wp2
  go_loopw [3, 11] (fun out i wr => ∃ j : Nat, i = .int .i64 j ∧ j ≤ n ∧ Hid (Own wr (fun b => w.heap.size ≤ b) 3 1 out j (ics ((l.take j).map (·.1)))) ∧ Hid (Pure w wr)) (fun _ i _ => n - (intOf i).toNat)
  case atStart => exact ⟨0, rfl, Nat.zero_le _, Lib.hid (Own.nil _ _ _ _), Lib.hid (Kept.refl _ _)⟩
  case round =>
    obtain ⟨j, rfl, hj, ho, hp⟩ := hrel
    by_cases hjn : j < n
    · obtain ⟨y, hy⟩ : ∃ y, l[j]? = some y := ⟨_, List.getElem?_eq_getElem (by have := Hn.out; omega)⟩
      have hsw := Hs.out.kept hp.out (fun _ _ _ h => h)
      obtain ⟨b, o, rfl, _, _, _⟩ := hsw.2 (by omega)
      obtain ⟨hc1, hc2⟩ := slq_at hsw hy
      have hji : (j : Int) < (n : Int) := by omega
      have hB := Blk.new wr 45 #[.int .i64 y.1, .bool y.2]
      have hBc := hB.cell
      have Hy := Lib.hid hy
      have hsz := hp.out.size
      clear hy hsw hB
      go_wp2_with (first | (at_builtin; refine held ?_))
      refine unheld ?_
      have hlit := Sl.lit (wr.alloc (.cells #[.int .i64 y.1, .bool y.2] 45)) #[.int .i64 y.1] 3 1 1 _ rfl rfl
      rw [World.size_alloc] at hlit
      refine wp_appB w.heap.size Try.underlying34 info_di rfl (by omega) (by simp; omega) ((ho.out.alloc _).alloc _) hlit (ics_one [y.1]) (by omega) (by omega) rfl _ _ rfl rfl rfl ?_
      intro v3 w3 ho3 hk3
      have ht : (l.take (j + 1)).map (·.1) = (l.take j).map (·.1) ++ [y.1] := by simp [List.take_add_one, Hy.out]
      have hfin : Own w3 (fun b => w.heap.size ≤ b) 3 1 v3 (j + 1) (ics ((l.take (j + 1)).map (·.1))) := by rw [ht]; simpa [ics] using ho3
      have Hfin := Lib.hid hfin
      have hk : Pure w w3 := ((hp.out.alloc _).alloc _).trans hk3 (fun b hb h => by omega)
      have Hk := Lib.hid hk
      clear ho3 hk3 hfin hk ht
      go_wp2
      go_roundw
      case measure => simp [intOf]; omega
      case rel => exact ⟨j + 1, by first | rfl | go_num, by omega, Hfin, Hk⟩
    · obtain rfl : j = n := by omega
      obtain ⟨A, c, rfl, _, _, _, hS⟩ := ho.out.form
      rw [List.take_of_length_le (by have := Hn.out; omega)] at hS
      have HS := Lib.hid hS
      clear ho hS
      go_wp2
      go_ret
      exact ⟨A, j, c, rfl, HS.out, hp.out⟩
set_option maxHeartbeats 1600000 in
theorem clone_i (w : World) (F : Nat → Prop) (A : Option Addr) (n c : Nat) (l : List Int) (hs : Sl w F 1 A n (ics l)) (hz : n ≤ 100000) :
    Calls Try.prog 31 #[.slice A n c] w fun e w' => ∃ A' c', e = .returned (.slice A' n c') ∧ Own w' (fun b => w.heap.size ≤ b) 3 1 (.slice A' n c') n (ics l) ∧ Pure w w' := by
  cases A with
  | none =>
    have hn : n = 0 := by
      rcases Nat.eq_zero_or_pos n with h | h
      · exact h
      · obtain ⟨_, _, e, _⟩ := hs.2 h; cases e
    subst hn
    have hl : l = [] := List.eq_nil_of_length_eq_zero (sli_len hs)
    subst hl
    have hq := fun wx => Lib.run_eql_slice_nil (P := Try.prog) wx _ _ none 0 c 0 0 Try.underlying34
    go_enter Try.func31, Try.ntmps31
    go_wp2
    go_ret
    exact ⟨none, 0, rfl, Own.nil _ _ _ _, Kept.refl _ _⟩
  | some a =>
    have hq := fun wx => Lib.run_eql_slice_nil (P := Try.prog) wx _ _ (some a) n c 0 0 Try.underlying34
    have Hs := Lib.hid hs
    clear hs
    go_enter Try.func31, Try.ntmps31
    go_wp2_with (first | (at_builtin; refine held ?_))
    refine unheld ?_
    refine wp_app Try.underlying34 info_di rfl (by omega) (Own.lit w 3 1 #[] 0 rfl (by decide)) (Hs.out.alloc _) (ics_one l) (by omega) (by omega) rfl _ _ rfl rfl rfl ?_
    intro v3 w3 ho3 hk3
    have hk : Pure w w3 := ((Kept.refl (fun _ => False) w).alloc _).trans hk3 (fun b hb h => by omega)
    rw [Nat.zero_add] at ho3
    obtain ⟨A3, c3, rfl, _⟩ := ho3.form
    have hfin := ho3.imp (G := fun b => w.heap.size ≤ b) (fun b _ h => by rw [World.size_alloc] at h; omega)
    have Hfin := Lib.hid hfin
    clear ho3 hfin
    go_wp2
    go_ret
    exact ⟨A3, c3, rfl, by simpa using Hfin.out, hk⟩
end Go.Proofs.Ytggnndopncegaaa
