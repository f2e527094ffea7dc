/-
  rw: the reference's Ask, Leave walked.
-/
import Derived.Test.YtggnndopncegaaaRwRb
import Derived.Deep.QuietTactic
import Derived.BigQuiet
import Derived.Deep.CutRange
set_option linter.unusedSimpArgs false
set_option linter.unusedVariables false
namespace Go.Proofs.Ytggnndopncegaaa
open Go.RowKit
set_option maxRecDepth 100000

theorem rk_shut {w : World} {F : Nat → Prop} {g : Nat} {inn qu : List (Int × Bool)} {A1 A2 : Option Addr} {c1 c2 : Nat} (h : Star w F [rkB g A1 inn.length c1 A2 qu.length c2, qC A1 c1 inn, qC A2 c2 qu]) : (rkC g ⟨inn, qu⟩).p w F := ⟨(A1, c1, A2, c2), h⟩
theorem kept_after {w₀ w w' : World} {F : Nat → Prop} (h : Kept F w₀ w) (k : Kept (fun b => F b ∨ w₀.heap.size ≤ b) w w') : Kept F w₀ w' := h.trans k (fun b hb h => h.elim id (fun h => by omega))
theorem class_after {w₀ w : World} {F : Nat → Prop} (h : w₀.heap.size ≤ w.heap.size) (b : Nat) (hb : (F b ∨ w₀.heap.size ≤ b) ∨ w.heap.size ≤ b) : F b ∨ w₀.heap.size ≤ b := by
  rcases hb with (h | h) | h
  · exact .inl h
  · exact .inr h
  · exact .inr (by omega)
theorem qC_snoc (A : Option Addr) (c : Nat) (l : List (Int × Bool)) (y : Int × Bool) : qC A c (l ++ [y]) = ownC 47 2 (.slice A (l.length + 1) c) (l.length + 1) (qcs l ++ [.int .i64 y.1, .bool y.2]) := by
  unfold qC
  rw [qcs_snoc, List.length_append]
  rfl
set_option maxHeartbeats 3200000 in
theorem rk_ask (w : World) (F : Nat → Prop) (g : Nat) (r : Rk) (who : Int) (b : Bool) (h : (rkC g r).p w F) (hz : r.size ≤ 99999) :
    Calls Try.prog 10 #[.pointer (some ⟨g, 0, none⟩), .int .i64 who, .bool b] w fun e w' => e = .returned (.bool (r.ask who b).1) ∧ (rkC g (r.ask who b).2).p w' (fun b => F b ∨ w.heap.size ≤ b) ∧ Kept F w w' := by
  have C1 := Lib.hid (rk_state w F g r who h (by omega))
  by_cases hs : rst r who = 0
  · rw [hs] at C1
    obtain ⟨k2, hk2⟩ : ∃ k2, Rk.move { r with qu := r.qu ++ [(who, b)] } = k2 := ⟨_, rfl⟩
    have hask : r.ask who b = (decide (1 < rst k2.2 who), k2.2) := by unfold Rk.ask; rw [if_pos hs, hk2]
    have hz2 : k2.2.size ≤ 100000 := by
      have := rmove_size { r with qu := r.qu ++ [(who, b)] }
      rw [hk2] at this
      simp only [Rk.size, List.length_append, List.length_cons, List.length_nil] at this hz ⊢
      omega
    rw [hask]
    have Hk2 := Lib.hid hk2
    have H := Lib.hid h
    clear h hask hs hk2
    go_enter Try.func10, Try.ntmps10
    go_wp2_with fail
    refine (C1.out).mono ?_
    rintro e w1 ⟨rfl, hw1⟩
    obtain rfl := hw1.symm
    obtain ⟨A1, c1, A2, c2, h⟩ := rk_open H.out
    have hr := Run.start h
    have hc := (hr.blk 0 rfl).cell
    have hf := (hr.blk 0 rfl).frozen
    have Hr := Lib.hid hr
    have hzq : r.qu.length ≤ 99999 := by unfold Rk.size at hz; omega
    clear hr h
    go_wp2_with (first | (at_builtin; refine held ?_))
    refine unheld ?_
    refine (Hr.out.alloc _).app 2 rfl Try.underlying27 info_one rfl (by omega) (Sl.lit _ #[.int .i64 who, .bool b] 47 2 1 _ rfl rfl) (one_q (who, b)) (by omega) (by omega) rfl _ _ rfl rfl rfl ?_
    rintro v3 w3 ⟨A3, c3, rfl, _, _⟩ hr3
    have hc3 := (hr3.blk 0 rfl).cell
    have hf3 := (hr3.blk 0 rfl).frozen
    have Hr3 := Lib.hid hr3
    clear hr3 hc hf
    go_upto_region 4 with fail
    have hl4 : (r.qu ++ [(who, b)]).length = r.qu.length + 1 := by simp
    have hr4 : Run w F (w3.setCell ⟨g, 1, none⟩ (.slice A3 (r.qu.length + 1) c3)) [rkB g A1 r.inn.length c1 A3 (r.qu ++ [(who, b)]).length c3, qC A1 c1 r.inn, qC A3 c3 (r.qu ++ [(who, b)])] := by
      have := Hr3.out.set 0 rfl 1 (.slice A3 (r.qu.length + 1) c3)
      rw [hl4, qC_snoc]
      exact this
    obtain ⟨w4, hw4⟩ : ∃ x, w3.setCell ⟨g, 1, none⟩ (.slice A3 (r.qu.length + 1) c3) = x := ⟨_, rfl⟩
    rw [hw4] at hr4 ⊢
    have CM := Lib.hid (rk_move w4 _ g _ (rk_shut hr4.star) (by simp only [Rk.size, List.length_append, List.length_cons, List.length_nil] at hz ⊢; omega))
    have Hk4 := Lib.hid hr4.kept
    clear hr4 hw4 hc3 hf3
    go_wp2_with fail
    refine (CM.out).mono ?_
    rintro e w5 ⟨A5, c5, rfl, hs5, hk5⟩
    rw [Hk2.out] at hs5
    have hl5 := hs5.get 0 rfl
    have C2 := Lib.hid (rk_state w5 _ g k2.2 who hl5 hz2)
    have hk05 := kept_after Hk4.out hk5
    have hl5' := (rkC g k2.2).imp hl5 (fun b _ h => class_after Hk4.out.size b h)
    have Hl5 := Lib.hid hl5'
    have Hk5 := Lib.hid hk05
    clear hs5 hk5 hl5 hk05 hl5'
    go_wp2_with fail
    refine (C2.out).mono ?_
    rintro e w6 ⟨rfl, hw6⟩
    obtain rfl := hw6.symm
    go_wp2
    go_ret
    exact ⟨rfl, Hl5.out, Hk5.out⟩
  · have hask : r.ask who b = (false, r) := by unfold Rk.ask; rw [if_neg hs]
    rw [hask]
    have hs' : (rst r who == 0) = false := by simpa using hs
    have H := Lib.hid h
    clear h hask
    go_enter Try.func10, Try.ntmps10
    go_wp2_with fail
    refine (C1.out).mono ?_
    rintro e w1 ⟨rfl, hw1⟩
    obtain rfl := hw1.symm
    go_wp2
    go_ret
    exact ⟨rfl, (rkC g r).imp H.out (fun _ _ h => .inl h), Kept.refl _ _⟩
theorem RvP.after {w w4 w5 : World} {F : Nat → Prop} {g : Nat} {r : List Int × Rk} {e : Ending} (hk : Kept F w w4) (h : RvP w4 (fun b => F b ∨ w.heap.size ≤ b) g r e w5) : RvP w F g r e w5 := by
  obtain ⟨A, c, he, hs, hk5⟩ := h
  exact ⟨A, c, he, (starC [rkC g r.2, ownC 3 1 (.slice A r.1.length c) r.1.length (ics r.1)]).imp hs (fun b _ h => class_after hk.size b h), kept_after hk hk5⟩
set_option maxHeartbeats 3200000 in
theorem rk_leave (w : World) (F : Nat → Prop) (g : Nat) (r : Rk) (who : Int) (h : (rkC g r).p w F) (hz : r.size ≤ 100000) :
    Calls Try.prog 13 #[.pointer (some ⟨g, 0, none⟩), .int .i64 who] w (RvP w F g (r.leave who)) := by
  have C1 := Lib.hid (rk_state w F g r who h hz)
  by_cases hs : rst r who = 0
  · rw [hs] at C1
    have hlv : r.leave who = ([], r) := by unfold Rk.leave; rw [if_pos hs]
    rw [hlv]
    have H := Lib.hid h
    clear h hlv hs
    go_enter Try.func13, Try.ntmps13
    go_wp2_with fail
    refine (C1.out).mono ?_
    rintro e w1 ⟨rfl, hw1⟩
    obtain rfl := hw1.symm
    have hr := ((Run.start (Ps := [rkC g r]) (F := F) ⟨F, fun _ h => h, H.out, trivial⟩).addNil 3 1).star.swap
    have Hr := Lib.hid hr
    clear hr
    go_wp2
    go_ret
    exact ⟨none, 0, rfl, Hr.out, Kept.refl _ _⟩
  · have hlv : r.leave who = Rk.move ⟨lessQ r.inn who, lessQ r.qu who⟩ := by unfold Rk.leave; rw [if_neg hs]
    rw [hlv]
    have hs' : (rst r who == 0) = false := by simpa using hs
    have H := Lib.hid h
    clear h hlv hs
    go_enter Try.func13, Try.ntmps13
    go_wp2_with fail
    refine (C1.out).mono ?_
    rintro e w1 ⟨rfl, hw1⟩
    obtain rfl := hw1.symm
    obtain ⟨A1, c1, A2, c2, h⟩ := rk_open H.out
    have hr := (Run.start h).drew
    have hc := (hr.blk 0 rfl).cell
    have hzq : r.inn.length ≤ 100000 ∧ r.qu.length ≤ 100000 := by unfold Rk.size at hz; omega
    have Hr := Lib.hid hr
    clear hr h hw1
    go_wp2
    refine wp_region_late (fun x => x.cell? ⟨g, 1, none⟩ = some (.slice A2 r.qu.length c2)) [7, 13, 16, 19] [0, 1, 8, 9, 10, 11, 12] [19] (by kernel_rfl) (by kernel_rfl) (by kernel_rfl) (by kernel_rfl) (hc 1) ?_
    repeat (with_reducible refine late_free (by decide) (by decide) (fun K hK => ?_); go_simp; first | (refine ex_steadyF ?_ (fun w' hw' => ?_) ?_; rotate_left; (skip; go_simp; first | done | rfl); (refine hK _ _ ?_; clear hK K)) | (refine hK _ _ ?_; clear hK K))
    repeat (with_reducible refine late_step (by decide) (by decide) (fun K hK => ?_); go_simp; refine hK _ _ ?_; clear hK K)
    have C2 := less_any A1 r.inn.length c1 r.inn who w.drew _ ((Hr.out.own 1 rfl).sl) (by omega)
    with_reducible refine late_move (by decide) (fun K hK => ?_)
    go_simp
    refine up_enter (C2.mono ?_)
    rintro e w3 ⟨A3, c3, rfl, ho3, hk3⟩
    have hr3 := Hr.out.addOwn hk3 ho3
    refine ⟨_, rfl, ⟨(hr3.blk 1 rfl).cell 1, hK _ _ ?_⟩⟩
    clear hK K C2
    have C3 := less_any A2 r.qu.length c2 r.qu who w3 _ ((hr3.own 3 rfl).sl) (by omega)
    have Hr3 := Lib.hid hr3
    have Hk3 := Lib.hid hk3
    clear hr3 ho3 hk3
    repeat (with_reducible refine late_free (by decide) (by decide) (fun K hK => ?_); go_simp; first | (refine ex_steadyF ?_ (fun w' hw' => ?_) ?_; rotate_left; (skip; go_simp; first | done | rfl); (refine hK _ _ ?_; clear hK K)) | (refine hK _ _ ?_; clear hK K))
    with_reducible refine late_move (by decide) (fun K hK => ?_)
    go_simp
    refine up_enter (C3.mono ?_)
    rintro e w4 ⟨A4, c4, rfl, ho4, hk4⟩
    have hr4 := Hr3.out.addOwn hk4 ho4
    refine ⟨_, rfl, ⟨(hr4.blk 2 rfl).cell 1, hK _ _ ?_⟩⟩
    clear hK K C3
    have hc4 := (hr4.blk 2 rfl).cell
    have hf4 := (hr4.blk 2 rfl).frozen
    have Hr4 := Lib.hid hr4
    clear hr4 ho4 hk4
    repeat (with_reducible refine late_step (by decide) (by decide) (fun K hK => ?_); go_simp; refine hK _ _ ?_; clear hK K)
    with_reducible refine late_move (by decide) (fun K hK => ?_)
    go_simp
    have hr5 := Hr4.out.set 2 rfl 0 (.slice A3 (lessQ r.inn who).length c3)
    obtain ⟨w5, hw5⟩ : ∃ x, w4.setCell ⟨g, 0, none⟩ (.slice A3 (lessQ r.inn who).length c3) = x := ⟨_, rfl⟩
    rw [hw5] at hr5 ⊢
    refine up_skip ⟨(hr5.blk 2 rfl).cell 1, hK _ _ ?_⟩
    clear hK K
    have hc5 := (hr5.blk 2 rfl).cell
    have hf5 := (hr5.blk 2 rfl).frozen
    have Hr5 := Lib.hid hr5
    clear hr5 hc4 hf4 hw5
    repeat (with_reducible refine late_step (by decide) (by decide) (fun K hK => ?_); go_simp; refine hK _ _ ?_; clear hK K)
    with_reducible refine late_move (by decide) (fun K hK => ?_)
    go_simp
    have hr6 := Hr5.out.set 2 rfl 1 (.slice A4 (lessQ r.qu who).length c4)
    obtain ⟨w6, hw6⟩ : ∃ x, w5.setCell ⟨g, 1, none⟩ (.slice A4 (lessQ r.qu who).length c4) = x := ⟨_, rfl⟩
    rw [hw6] at hr6 ⊢
    refine up_skip (hK _ _ ?_)
    clear hK K
    refine late_nil ?_
    have hr7 : Run w F w6 [rkB g A3 (lessQ r.inn who).length c3 A4 (lessQ r.qu who).length c4, qC A3 c3 (lessQ r.inn who), qC A4 c4 (lessQ r.qu who)] :=
      ((hr6.drop 3).drop 3).perm (((List.Perm.swap _ _ _).cons _).trans ((List.Perm.swap _ _ _).trans ((List.Perm.swap _ _ _).cons _)))
    have CM := Lib.hid (rk_move w6 _ g _ (rk_shut hr7.star) (by
      have := lessQ_length r.inn who
      have := lessQ_length r.qu who
      simp only [Rk.size] at hz ⊢; omega))
    have Hk7 := Lib.hid hr7.kept
    clear hr6 hr7 hc5 hf5 hw6
    go_wp2_with fail
    refine (CM.out).mono ?_
    rintro e w8 hend
    have hend := hend.after Hk7.out
    obtain ⟨A8, c8, rfl, hst, hkk⟩ := hend
    have Hst := Lib.hid hst
    have Hkk := Lib.hid hkk
    clear hst hkk
    go_wp2
    go_ret
    exact ⟨A8, c8, rfl, Hst.out, Hkk.out⟩
end Go.Proofs.Ytggnndopncegaaa
