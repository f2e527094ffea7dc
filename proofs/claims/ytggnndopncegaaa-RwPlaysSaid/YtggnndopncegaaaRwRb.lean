/-
  rw: the reference's move walked.
-/
import Derived.Test.YtggnndopncegaaaRwRa
import Derived.Test.YtggnndopncegaaaLate
import Derived.Deep.QuietTactic
import Derived.BigQuiet
import Derived.Deep.CutRange
set_option linter.unusedSimpArgs false
set_option linter.unusedVariables false
namespace Go.Proofs.Ytggnndopncegaaa
open Go.RowKit
set_option maxRecDepth 100000

theorem Run.rot3 {w₀ w : World} {F : Nat → Prop} {P Q R : Ch} {Ps : List Ch} (h : Run w₀ F w (P :: Q :: R :: Ps)) : Run w₀ F w (Q :: R :: P :: Ps) := h.perm ((List.Perm.swap Q P (R :: Ps)).trans ((List.Perm.swap R P Ps).cons Q))
theorem sl_tail {w : World} {F : Nat → Prop} {b o c : Nat} {a : Int × Bool} {q : List (Int × Bool)} {Z : Option Addr} (h : Sl w F 2 (some ⟨b, o, none⟩) (q.length + 1) (qcs (a :: q))) (hc : q.length + 1 ≤ c) (hZ : (if c = 1 then some (⟨b, o, none⟩ : Addr) else some ⟨b, o + 2, none⟩) = Z) : Sl w F 2 Z q.length (qcs q) := by
  refine ⟨qcs_length q, fun h0 => ?_⟩
  rw [if_neg (by omega)] at hZ
  subst hZ
  obtain ⟨b', o', e, hF, hl, hcell⟩ := h.2 (by omega)
  injection e with e
  injection e with e1 e2
  subst e1 e2
  refine ⟨b, o + 2, rfl, hF, hl, fun j hj => ?_⟩
  have hj' : j + 2 < (qcs (a :: q)).length := by rw [qcs_length] at hj ⊢; simp only [List.length_cons]; omega
  have := hcell (j + 2) hj'
  rw [show o + 2 + j = o + (j + 2) by omega, this]
  show ([Value.int .i64 a.1, .bool a.2] ++ qcs q)[j + 2]? = _
  rw [List.getElem?_append_right (by simp)]
  simp
/-- The cells of the reference's lock. -/
abbrev rkB (g : Nat) (A1 : Option Addr) (n1 c1 : Nat) (A2 : Option Addr) (n2 c2 : Nat) : Ch := blkC g 29 #[.slice A1 n1 c1, .slice A2 n2 c2]
abbrev qC (A : Option Addr) (c : Nat) (l : List (Int × Bool)) : Ch := ownC 47 2 (.slice A l.length c) l.length (qcs l)
/-- What the reference's move leaves: the lock, and who came in. -/
def RvP (w : World) (F : Nat → Prop) (g : Nat) (r : List Int × Rk) (e : Ending) (w' : World) : Prop :=
  ∃ A c, e = .returned (.slice A r.1.length c) ∧ (starC [rkC g r.2, ownC 3 1 (.slice A r.1.length c) r.1.length (ics r.1)]).p w' (fun b => F b ∨ w.heap.size ≤ b) ∧ Kept F w w'
theorem rk_close {w : World} {F : Nat → Prop} {g : Nat} {inn qu : List (Int × Bool)} {A1 A2 : Option Addr} {c1 c2 : Nat} {Ps : List Ch} (h : Star w F ([rkB g A1 inn.length c1 A2 qu.length c2, qC A1 c1 inn, qC A2 c2 qu] ++ Ps)) : Star w F (rkC g ⟨inn, qu⟩ :: Ps) := by
  obtain ⟨G, h1, h2, h3⟩ := h.unflat
  exact ⟨G, h1, ⟨(A1, c1, A2, c2), h2⟩, h3⟩
theorem RvP.mk {w w' : World} {F : Nat → Prop} {g : Nat} {inn qu : List (Int × Bool)} {out : List Int} {A1 A2 A3 : Option Addr} {c1 c2 c3 : Nat} (h : Run w F w' [rkB g A1 inn.length c1 A2 qu.length c2, qC A1 c1 inn, qC A2 c2 qu, ownC 3 1 (.slice A3 out.length c3) out.length (ics out)]) :
    RvP w F g (out, ⟨inn, qu⟩) (.returned (.slice A3 out.length c3)) w' := ⟨A3, c3, rfl, rk_close (Ps := [_]) h.star, h.kept⟩
set_option maxHeartbeats 3200000 in
theorem rk_move (w : World) (F : Nat → Prop) (g : Nat) (r : Rk) (h : (rkC g r).p w F) (hz : r.size ≤ 100000) :
    Calls Try.prog 22 #[.pointer (some ⟨g, 0, none⟩)] w (RvP w F g r.move) := by
  obtain ⟨A1, c1, A2, c2, h⟩ := rk_open h
  have hr := ((Run.start h).addNil 3 1).perm (Qs := [rkB g A1 r.inn.length c1 A2 r.qu.length c2, qC A1 c1 r.inn, qC A2 c2 r.qu, ownC 3 1 (.slice none 0 0) 0 []]) (((List.Perm.swap _ _ _).trans ((List.Perm.swap _ _ _).cons _)).trans (((List.Perm.swap _ _ _).cons _).cons _))
  obtain ⟨res, hres⟩ : ∃ res, r.move = res := ⟨_, rfl⟩
  have hres' : rmv r.inn r.qu = res := hres
  rw [hres]
  have Hres := Lib.hid hres'
  have Hr := Lib.hid hr
  have hz' : r.inn.length + r.qu.length ≤ 100000 := hz
  clear h hr hres hres' hz
  go_enter Try.func22, Try.ntmps22
  go_wp2
  go_loopw [3] (fun vi wr => ∃ (inn qu : List (Int × Bool)) (out : List Int) (A1 : Option Addr) (c1 : Nat) (A2 : Option Addr) (c2 : Nat) (A3 : Option Addr) (c3 : Nat), vi = .slice A3 out.length c3 ∧ inn.length + qu.length ≤ 100000 ∧ out.length + qu.length ≤ 100000 ∧ Hid (res = (out ++ (rmv inn qu).1, (rmv inn qu).2)) ∧
    Hid (Run w F wr [rkB g A1 inn.length c1 A2 qu.length c2, qC A1 c1 inn, qC A2 c2 qu, ownC 3 1 (.slice A3 out.length c3) out.length (ics out)])) (fun _ wr => match wr.cell? ⟨g, 1, none⟩ with | some (.slice _ n _) => n | _ => 0)
  case atStart => exact ⟨r.inn, r.qu, [], A1, c1, A2, c2, none, 0, rfl, hz', by simp; omega, by rw [Hres.out]; rfl, Hr⟩
  case round =>
    obtain ⟨inn, qu, out, A1, c1, A2, c2, A3, c3, rfl, hz1, hz2, hrs, hrr⟩ := hrel
    have hc := (hrr.out.blk 0 rfl).cell
    cases qu with
    | nil =>
      have hfin := RvP.mk (hrr.out)
      have hres : res = (out, ⟨inn, []⟩) := by rw [hrs.out]; simp [rmv]
      have Hfin := Lib.hid hfin
      have Hres2 := Lib.hid hres
      clear hfin hres
      go_wp2
      go_ret
      rw [Hres2.out]
      exact Hfin.out
    | cons a q =>
      obtain ⟨a1, a2⟩ := a
      have hql : (0 : Int) < (((a1, a2) :: q).length : Nat) := by simp
      obtain ⟨gq, oq, rfl, _, _, _⟩ := (hrr.out.own 2 rfl).sl.2 (by simp)
      obtain ⟨hq1, hq2⟩ := slq_at (hrr.out.own 2 rfl).sl (i := 0) (e := (a1, a2)) rfl
      simp only [Nat.zero_mul, Nat.add_zero] at hq1 hq2
      have hrx := hrr.out.addBlk #[.int .i64 a1, .bool a2] 47
      have hxc := (hrx.blk 0 rfl).cell
      have hcx := (hrx.blk 1 rfl).cell
      have Hrx := Lib.hid hrx
      clear hrx
      have hc2 : q.length + 1 ≤ c2 := by obtain ⟨_, _, e, h, _⟩ := (hrr.out.own 2 rfl).form; injection e with _ _ e; simp only [List.length_cons] at h; omega
      rcases Nat.eq_zero_or_pos inn.length with hi0 | hi0
      · have hinn : inn = [] := List.eq_nil_of_length_eq_zero hi0
        subst hinn
        cases a2 with
        | true =>
          have hgo : rmv ([] : List (Int × Bool)) ((a1, true) :: q) = (a1 :: (rmv (([] : List (Int × Bool)) ++ [(a1, true)]) q).1, (rmv (([] : List (Int × Bool)) ++ [(a1, true)]) q).2) := by rw [rmv, if_neg (by simp)]
          have Hgo := Lib.hid hgo
          clear hgo
          go_wp2
          refine wp_region_late (fun x => x.cell? ⟨g, 0, none⟩ = some (.slice A1 0 c1)) [6, 7, 10] [0, 1, 2, 3, 4] [10] (by kernel_rfl) (by kernel_rfl) (by kernel_rfl) (by kernel_rfl) (hcx 0) ?_
          repeat (with_reducible refine late_free (by decide) (by decide) (fun K hK => ?_); go_simp; first | (refine ex_steadyF ?_ (fun w' hw' => ?_) ?_; rotate_left; (skip; go_simp; first | done | rfl); (refine hK _ _ ?_; clear hK K)) | (refine hK _ _ ?_; clear hK K))
          repeat (with_reducible refine late_step (by decide) (by decide) (fun K hK => ?_); go_simp; refine hK _ _ ?_; clear hK K)
          with_reducible refine late_move (by decide) (fun K hK => ?_)
          go_simp
          have hr8 := Hrx.out.drew.alloc (.cells #[.int .i64 a1, .bool true] 47)
          refine up_value ⟨(hr8.blk 1 rfl).cell 0, ?_⟩
          refine hK _ _ ?_
          clear hK K
          obtain ⟨G8, _, hp8, hup8⟩ := hr8.at 2 rfl
          have hlit8 := Sl.lit (wr.alloc (.cells #[.int .i64 a1, .bool true] 47)).drew #[.int .i64 a1, .bool true] 47 2 1 _ rfl rfl
          rw [show (wr.alloc (.cells #[.int .i64 a1, .bool true] 47)).drew.heap.size = wr.heap.size + 1 from World.size_alloc _ _] at hlit8
          refine late_move0 (by decide) rfl ?_
          refine up_app Try.underlying27 info_one rfl (by omega) hp8 hlit8 (one_q (a1, true)) (by simp only [List.length_cons, List.length_nil] at hz1 ⊢; omega) (by omega) _ _ rfl rfl rfl (fun v9 w9 ho9 hk9 => ?_)
          obtain ⟨A9, c9, rfl, _⟩ := ho9.form
          have hl9 : (([] : List (Int × Bool)) ++ [(a1, true)]).length = 1 := by simp
          have hr9 : Run w F w9 [blkC wr.heap.size 47 #[.int .i64 a1, .bool true], rkB g A1 0 c1 (some ⟨gq, oq, none⟩) (q.length + 1) c2, qC A9 c9 (([] : List (Int × Bool)) ++ [(a1, true)]), qC (some ⟨gq, oq, none⟩) c2 ((a1, true) :: q), ownC 3 1 (.slice A3 out.length c3) out.length (ics out)] :=
            hup8 w9 (qC A9 c9 (([] : List (Int × Bool)) ++ [(a1, true)])) (by
              have := ho9.imp (G := fun b => G8 b ∨ ((wr.alloc (Obj.cells #[.int .i64 a1, .bool true] 47)).drew.alloc (Obj.cells #[.int .i64 a1, .bool true] 47)).heap.size ≤ b) (fun b _ h => h.imp id (fun h => Nat.le_of_eq h.symm))
              show Own _ _ _ _ _ _ _
              rw [hl9, qcs_snoc]
              exact this) hk9
          refine ⟨fun _ => (hr9.blk 1 rfl).cell 0, ?_⟩
          have hf9 := (hr9.blk 1 rfl).frozen
          have hc9 := (hr9.blk 1 rfl).cell
          have Hr9 := Lib.hid hr9
          clear hr8 hp8 hup8 ho9 hk9 hr9
          repeat (with_reducible refine late_step (by decide) (by decide) (fun K hK => ?_); go_simp; refine hK _ _ ?_; clear hK K)
          with_reducible refine late_move (by decide) (fun K hK => ?_)
          go_simp
          refine up_skip (hK _ _ ?_)
          clear hK K
          refine late_nil ?_
          have hr10 : Run w F (w9.setCell ⟨g, 0, none⟩ (.slice A9 1 c9)) [blkC wr.heap.size 47 #[.int .i64 a1, .bool true], rkB g A9 1 c9 (some ⟨gq, oq, none⟩) (q.length + 1) c2, qC A9 c9 (([] : List (Int × Bool)) ++ [(a1, true)]), qC (some ⟨gq, oq, none⟩) c2 ((a1, true) :: q), ownC 3 1 (.slice A3 out.length c3) out.length (ics out)] := Hr9.out.set 1 rfl 0 (.slice A9 1 c9)
          obtain ⟨w10, hw10⟩ : ∃ x, w9.setCell ⟨g, 0, none⟩ (.slice A9 1 c9) = x := ⟨_, rfl⟩
          rw [hw10] at hr10 ⊢
          have hr11 := hr10.alloc (.cells #[] 47)
          have hb11 := hr11.blk 1 rfl
          have hc11 := hb11.cell
          have hf11 := hb11.frozen
          have hq11 := (hr11.own 3 rfl).sl
          have Hr11 := Lib.hid hr11
          have Hr10 := Lib.hid hr10
          clear hr10 hr11 hb11 hc9 hf9 hcx hxc hc hw10
          obtain ⟨Z2, hZ2⟩ : ∃ Z, (if c2 = 1 then some (⟨gq, oq, none⟩ : Addr) else some ⟨gq, oq + 2, none⟩) = Z := ⟨_, rfl⟩
          have hq12 := sl_tail hq11 hc2 hZ2
          go_wp2_with (first | (at_builtin; refine held ?_))
          refine unheld ?_
          refine wp_app Try.underlying27 info_one rfl (by omega) (Own.lit w10 47 2 #[] 0 rfl (by decide)) hq12 (one_qs q) (by simp only [List.length_cons] at hz1; omega) (by omega) rfl _ _ rfl rfl rfl ?_
          intro v12 w12 ho12 hk12
          rw [Nat.zero_add] at ho12
          have hp12 : Pure w10 w12 := ((Kept.refl (fun _ => False) w10).alloc _).trans hk12 (fun b hb h => by omega)
          obtain ⟨A12, c12, rfl, _⟩ := ho12.form
          have hr12 : Run w F w12 [qC A12 c12 q, blkC wr.heap.size 47 #[.int .i64 a1, .bool true], rkB g A9 1 c9 (some ⟨gq, oq, none⟩) (q.length + 1) c2, qC A9 c9 (([] : List (Int × Bool)) ++ [(a1, true)]), qC (some ⟨gq, oq, none⟩) c2 ((a1, true) :: q), ownC 3 1 (.slice A3 out.length c3) out.length (ics out)] :=
            Hr10.out.add hp12 (by
              show Own _ _ _ _ _ _ _
              have := ho12.imp (G := fun b => w10.heap.size ≤ b) (fun b _ h => by rw [World.size_alloc] at h; omega)
              simpa using this)
          have hc12 := (hr12.blk 2 rfl).cell
          have hf12 := (hr12.blk 2 rfl).frozen
          have Hr12 := Lib.hid hr12
          clear hq11 hq12 hc11 hf11 ho12 hk12 hp12 hr12
          go_upto_region 7 with fail
          have hr13 : Run w F (w12.setCell ⟨g, 1, none⟩ (.slice A12 q.length c12)) [qC A12 c12 q, blkC wr.heap.size 47 #[.int .i64 a1, .bool true], rkB g A9 1 c9 A12 q.length c12, qC A9 c9 (([] : List (Int × Bool)) ++ [(a1, true)]), qC (some ⟨gq, oq, none⟩) c2 ((a1, true) :: q), ownC 3 1 (.slice A3 out.length c3) out.length (ics out)] := Hr12.out.set 2 rfl 1 (.slice A12 q.length c12)
          obtain ⟨w13, hw13⟩ : ∃ x, w12.setCell ⟨g, 1, none⟩ (.slice A12 q.length c12) = x := ⟨_, rfl⟩
          rw [hw13] at hr13 ⊢
          have hx13 := (hr13.blk 1 rfl).cell
          have Hr13 := Lib.hid hr13
          clear hr13 hw13 hc12 hf12
          go_wp2_with (first | (at_builtin; refine held ?_))
          refine unheld ?_
          refine (Hr13.out.alloc _).app 5 rfl Try.underlying34 info_di rfl (by omega) (Sl.lit w13 #[.int .i64 a1] 3 1 1 _ rfl rfl) (ics_one [a1]) (by simp only [List.length_cons] at hz2; omega) (by omega) rfl _ _ rfl rfl rfl ?_
          rintro v14 w14 ⟨A14, c14, rfl, _, _⟩ hr14
          have hl14 : (out ++ [a1]).length = out.length + 1 := by simp
          have hfin : Run w F w14 [rkB g A9 (([] : List (Int × Bool)) ++ [(a1, true)]).length c9 A12 q.length c12, qC A9 c9 (([] : List (Int × Bool)) ++ [(a1, true)]), qC A12 c12 q, ownC 3 1 (.slice A14 (out ++ [a1]).length c14) (out ++ [a1]).length (ics (out ++ [a1]))] := by
            have h2 := ((hr14.drop 1).drop 3).rot3
            rw [hl9, hl14]
            unfold ics at h2 ⊢
            rw [List.map_append]
            exact h2
          have hm14 := (hfin.blk 0 rfl).cell 1
          have Hfin := Lib.hid hfin
          have Hm14 := Lib.hid hm14
          clear hfin hr14 hx13 hm14
          go_wp2
          refine ⟨⟨([] : List (Int × Bool)) ++ [(a1, true)], q, out ++ [a1], A9, c9, A12, c12, A14, c14, by rw [hl14], by rw [hl9]; simp only [List.length_cons] at hz1; first | omega | (simp at hz1; omega), by rw [hl14]; simp only [List.length_cons] at hz2; omega, ?_, Hfin⟩, ?_⟩
          · refine Lib.hid ?_
            rw [hrs.out, Hgo.out]; simp
          · have e0 : wr.cell? ⟨g, 1, none⟩ = _ := (hrr.out.blk 0 rfl).cell 1
            rw [Hm14.out, e0]; simp
        | false =>
          have hgo : rmv ([] : List (Int × Bool)) ((a1, false) :: q) = (a1 :: (rmv (([] : List (Int × Bool)) ++ [(a1, false)]) q).1, (rmv (([] : List (Int × Bool)) ++ [(a1, false)]) q).2) := by rw [rmv, if_neg (by simp)]
          have Hgo := Lib.hid hgo
          clear hgo
          go_wp2
          refine wp_region_late (fun x => x.cell? ⟨g, 0, none⟩ = some (.slice A1 0 c1)) [6, 7, 10] [0, 1, 2, 3, 4] [10] (by kernel_rfl) (by kernel_rfl) (by kernel_rfl) (by kernel_rfl) (hcx 0) ?_
          repeat (with_reducible refine late_free (by decide) (by decide) (fun K hK => ?_); go_simp; first | (refine ex_steadyF ?_ (fun w' hw' => ?_) ?_; rotate_left; (skip; go_simp; first | done | rfl); (refine hK _ _ ?_; clear hK K)) | (refine hK _ _ ?_; clear hK K))
          repeat (with_reducible refine late_step (by decide) (by decide) (fun K hK => ?_); go_simp; refine hK _ _ ?_; clear hK K)
          with_reducible refine late_move (by decide) (fun K hK => ?_)
          go_simp
          have hr8 := Hrx.out.drew.alloc (.cells #[.int .i64 a1, .bool false] 47)
          refine up_value ⟨(hr8.blk 1 rfl).cell 0, ?_⟩
          refine hK _ _ ?_
          clear hK K
          obtain ⟨G8, _, hp8, hup8⟩ := hr8.at 2 rfl
          have hlit8 := Sl.lit (wr.alloc (.cells #[.int .i64 a1, .bool false] 47)).drew #[.int .i64 a1, .bool false] 47 2 1 _ rfl rfl
          rw [show (wr.alloc (.cells #[.int .i64 a1, .bool false] 47)).drew.heap.size = wr.heap.size + 1 from World.size_alloc _ _] at hlit8
          refine late_move0 (by decide) rfl ?_
          refine up_app Try.underlying27 info_one rfl (by omega) hp8 hlit8 (one_q (a1, false)) (by simp only [List.length_cons, List.length_nil] at hz1 ⊢; omega) (by omega) _ _ rfl rfl rfl (fun v9 w9 ho9 hk9 => ?_)
          obtain ⟨A9, c9, rfl, _⟩ := ho9.form
          have hl9 : (([] : List (Int × Bool)) ++ [(a1, false)]).length = 1 := by simp
          have hr9 : Run w F w9 [blkC wr.heap.size 47 #[.int .i64 a1, .bool false], rkB g A1 0 c1 (some ⟨gq, oq, none⟩) (q.length + 1) c2, qC A9 c9 (([] : List (Int × Bool)) ++ [(a1, false)]), qC (some ⟨gq, oq, none⟩) c2 ((a1, false) :: q), ownC 3 1 (.slice A3 out.length c3) out.length (ics out)] :=
            hup8 w9 (qC A9 c9 (([] : List (Int × Bool)) ++ [(a1, false)])) (by
              have := ho9.imp (G := fun b => G8 b ∨ ((wr.alloc (Obj.cells #[.int .i64 a1, .bool false] 47)).drew.alloc (Obj.cells #[.int .i64 a1, .bool false] 47)).heap.size ≤ b) (fun b _ h => h.imp id (fun h => Nat.le_of_eq h.symm))
              show Own _ _ _ _ _ _ _
              rw [hl9, qcs_snoc]
              exact this) hk9
          refine ⟨fun _ => (hr9.blk 1 rfl).cell 0, ?_⟩
          have hf9 := (hr9.blk 1 rfl).frozen
          have hc9 := (hr9.blk 1 rfl).cell
          have Hr9 := Lib.hid hr9
          clear hr8 hp8 hup8 ho9 hk9 hr9
          repeat (with_reducible refine late_step (by decide) (by decide) (fun K hK => ?_); go_simp; refine hK _ _ ?_; clear hK K)
          with_reducible refine late_move (by decide) (fun K hK => ?_)
          go_simp
          refine up_skip (hK _ _ ?_)
          clear hK K
          refine late_nil ?_
          have hr10 : Run w F (w9.setCell ⟨g, 0, none⟩ (.slice A9 1 c9)) [blkC wr.heap.size 47 #[.int .i64 a1, .bool false], rkB g A9 1 c9 (some ⟨gq, oq, none⟩) (q.length + 1) c2, qC A9 c9 (([] : List (Int × Bool)) ++ [(a1, false)]), qC (some ⟨gq, oq, none⟩) c2 ((a1, false) :: q), ownC 3 1 (.slice A3 out.length c3) out.length (ics out)] := Hr9.out.set 1 rfl 0 (.slice A9 1 c9)
          obtain ⟨w10, hw10⟩ : ∃ x, w9.setCell ⟨g, 0, none⟩ (.slice A9 1 c9) = x := ⟨_, rfl⟩
          rw [hw10] at hr10 ⊢
          have hr11 := hr10.alloc (.cells #[] 47)
          have hb11 := hr11.blk 1 rfl
          have hc11 := hb11.cell
          have hf11 := hb11.frozen
          have hq11 := (hr11.own 3 rfl).sl
          have Hr11 := Lib.hid hr11
          have Hr10 := Lib.hid hr10
          clear hr10 hr11 hb11 hc9 hf9 hcx hxc hc hw10
          obtain ⟨Z2, hZ2⟩ : ∃ Z, (if c2 = 1 then some (⟨gq, oq, none⟩ : Addr) else some ⟨gq, oq + 2, none⟩) = Z := ⟨_, rfl⟩
          have hq12 := sl_tail hq11 hc2 hZ2
          go_wp2_with (first | (at_builtin; refine held ?_))
          refine unheld ?_
          refine wp_app Try.underlying27 info_one rfl (by omega) (Own.lit w10 47 2 #[] 0 rfl (by decide)) hq12 (one_qs q) (by simp only [List.length_cons] at hz1; omega) (by omega) rfl _ _ rfl rfl rfl ?_
          intro v12 w12 ho12 hk12
          rw [Nat.zero_add] at ho12
          have hp12 : Pure w10 w12 := ((Kept.refl (fun _ => False) w10).alloc _).trans hk12 (fun b hb h => by omega)
          obtain ⟨A12, c12, rfl, _⟩ := ho12.form
          have hr12 : Run w F w12 [qC A12 c12 q, blkC wr.heap.size 47 #[.int .i64 a1, .bool false], rkB g A9 1 c9 (some ⟨gq, oq, none⟩) (q.length + 1) c2, qC A9 c9 (([] : List (Int × Bool)) ++ [(a1, false)]), qC (some ⟨gq, oq, none⟩) c2 ((a1, false) :: q), ownC 3 1 (.slice A3 out.length c3) out.length (ics out)] :=
            Hr10.out.add hp12 (by
              show Own _ _ _ _ _ _ _
              have := ho12.imp (G := fun b => w10.heap.size ≤ b) (fun b _ h => by rw [World.size_alloc] at h; omega)
              simpa using this)
          have hc12 := (hr12.blk 2 rfl).cell
          have hf12 := (hr12.blk 2 rfl).frozen
          have Hr12 := Lib.hid hr12
          clear hq11 hq12 hc11 hf11 ho12 hk12 hp12 hr12
          go_upto_region 7 with fail
          have hr13 : Run w F (w12.setCell ⟨g, 1, none⟩ (.slice A12 q.length c12)) [qC A12 c12 q, blkC wr.heap.size 47 #[.int .i64 a1, .bool false], rkB g A9 1 c9 A12 q.length c12, qC A9 c9 (([] : List (Int × Bool)) ++ [(a1, false)]), qC (some ⟨gq, oq, none⟩) c2 ((a1, false) :: q), ownC 3 1 (.slice A3 out.length c3) out.length (ics out)] := Hr12.out.set 2 rfl 1 (.slice A12 q.length c12)
          obtain ⟨w13, hw13⟩ : ∃ x, w12.setCell ⟨g, 1, none⟩ (.slice A12 q.length c12) = x := ⟨_, rfl⟩
          rw [hw13] at hr13 ⊢
          have hx13 := (hr13.blk 1 rfl).cell
          have Hr13 := Lib.hid hr13
          clear hr13 hw13 hc12 hf12
          go_wp2_with (first | (at_builtin; refine held ?_))
          refine unheld ?_
          refine (Hr13.out.alloc _).app 5 rfl Try.underlying34 info_di rfl (by omega) (Sl.lit w13 #[.int .i64 a1] 3 1 1 _ rfl rfl) (ics_one [a1]) (by simp only [List.length_cons] at hz2; omega) (by omega) rfl _ _ rfl rfl rfl ?_
          rintro v14 w14 ⟨A14, c14, rfl, _, _⟩ hr14
          have hl14 : (out ++ [a1]).length = out.length + 1 := by simp
          have hfin : Run w F w14 [rkB g A9 (([] : List (Int × Bool)) ++ [(a1, false)]).length c9 A12 q.length c12, qC A9 c9 (([] : List (Int × Bool)) ++ [(a1, false)]), qC A12 c12 q, ownC 3 1 (.slice A14 (out ++ [a1]).length c14) (out ++ [a1]).length (ics (out ++ [a1]))] := by
            have h2 := ((hr14.drop 1).drop 3).rot3
            rw [hl9, hl14]
            unfold ics at h2 ⊢
            rw [List.map_append]
            exact h2
          have hm14 := (hfin.blk 0 rfl).cell 1
          have Hfin := Lib.hid hfin
          have Hm14 := Lib.hid hm14
          clear hfin hr14 hx13 hm14
          go_wp2
          refine ⟨⟨([] : List (Int × Bool)) ++ [(a1, false)], q, out ++ [a1], A9, c9, A12, c12, A14, c14, by rw [hl14], by rw [hl9]; simp only [List.length_cons] at hz1; first | omega | (simp at hz1; omega), by rw [hl14]; simp only [List.length_cons] at hz2; omega, ?_, Hfin⟩, ?_⟩
          · refine Lib.hid ?_
            rw [hrs.out, Hgo.out]; simp
          · have e0 : wr.cell? ⟨g, 1, none⟩ = _ := (hrr.out.blk 0 rfl).cell 1
            rw [Hm14.out, e0]; simp
      · obtain ⟨⟨b1, b2⟩, hb0⟩ : ∃ b, inn[0]? = some b := ⟨_, List.getElem?_eq_getElem hi0⟩
        have hh : inn.head? = some (b1, b2) := by rw [List.head?_eq_getElem?]; exact hb0
        obtain ⟨gi, oi, rfl, _, _, _⟩ := (hrr.out.own 1 rfl).sl.2 hi0
        obtain ⟨_, hi2⟩ := slq_at (Hrx.out.own 2 rfl).sl hb0
        simp only [Nat.zero_mul, Nat.add_zero] at hi2
        have hil : (0 : Int) < (inn.length : Nat) := by omega
        cases a2 with
        | true =>
          have hstop : rmv inn ((a1, true) :: q) = ([], ⟨inn, (a1, true) :: q⟩) := by rw [rmv, if_pos (.inl ⟨rfl, hi0⟩)]
          have hfin := RvP.mk (Hrx.out.drop 0)
          have hres : res = (out, ⟨inn, ((a1, true) :: q)⟩) := by rw [hrs.out]; simp [hstop]
          have Hfin := Lib.hid hfin
          have Hres2 := Lib.hid hres
          clear hfin hres
          go_wp2
          go_ret
          rw [Hres2.out]
          exact Hfin.out
        | false =>
          cases b2 with
          | true =>
            have hstop : rmv inn ((a1, false) :: q) = ([], ⟨inn, (a1, false) :: q⟩) := by rw [rmv, if_pos (.inr (by rw [hh]; rfl))]
            have hfin := RvP.mk (Hrx.out.drop 0)
            have hres : res = (out, ⟨inn, ((a1, false) :: q)⟩) := by rw [hrs.out]; simp [hstop]
            have Hfin := Lib.hid hfin
            have Hres2 := Lib.hid hres
            clear hfin hres
            go_wp2
            go_ret
            rw [Hres2.out]
            exact Hfin.out
          | false =>
            have hg3 : ¬ (((a1, false) : Int × Bool).2 = true ∧ 0 < inn.length ∨ Option.map (·.2) inn.head? = some true) := by rw [hh]; simp
            clear hh hb0
            have hgo : rmv inn ((a1, false) :: q) = (a1 :: (rmv (inn ++ [(a1, false)]) q).1, (rmv (inn ++ [(a1, false)]) q).2) := by rw [rmv, if_neg hg3]
            have Hgo := Lib.hid hgo
            clear hgo
            go_wp2
            refine wp_region_late (fun x => x.cell? ⟨g, 0, none⟩ = some (.slice (some ⟨gi, oi, none⟩) inn.length c1)) [6, 7, 10] [0, 1, 2, 3, 4] [10] (by kernel_rfl) (by kernel_rfl) (by kernel_rfl) (by kernel_rfl) (hcx 0) ?_
            repeat (with_reducible refine late_free (by decide) (by decide) (fun K hK => ?_); go_simp; first | (refine ex_steadyF ?_ (fun w' hw' => ?_) ?_; rotate_left; (skip; go_simp; first | done | rfl); (refine hK _ _ ?_; clear hK K)) | (refine hK _ _ ?_; clear hK K))
            repeat (with_reducible refine late_step (by decide) (by decide) (fun K hK => ?_); go_simp; refine hK _ _ ?_; clear hK K)
            with_reducible refine late_move (by decide) (fun K hK => ?_)
            go_simp
            have hr8 := Hrx.out.drew.alloc (.cells #[.int .i64 a1, .bool false] 47)
            refine up_value ⟨(hr8.blk 1 rfl).cell 0, ?_⟩
            refine hK _ _ ?_
            clear hK K
            obtain ⟨G8, _, hp8, hup8⟩ := hr8.at 2 rfl
            have hlit8 := Sl.lit (wr.alloc (.cells #[.int .i64 a1, .bool false] 47)).drew #[.int .i64 a1, .bool false] 47 2 1 _ rfl rfl
            rw [show (wr.alloc (.cells #[.int .i64 a1, .bool false] 47)).drew.heap.size = wr.heap.size + 1 from World.size_alloc _ _] at hlit8
            refine late_move0 (by decide) rfl ?_
            refine up_app Try.underlying27 info_one rfl (by omega) hp8 hlit8 (one_q (a1, false)) (by simp only [List.length_cons, List.length_nil] at hz1 ⊢; omega) (by omega) _ _ rfl rfl rfl (fun v9 w9 ho9 hk9 => ?_)
            obtain ⟨A9, c9, rfl, _⟩ := ho9.form
            have hl9 : (inn ++ [(a1, false)]).length = (inn.length + 1) := by simp
            have hr9 : Run w F w9 [blkC wr.heap.size 47 #[.int .i64 a1, .bool false], rkB g (some ⟨gi, oi, none⟩) inn.length c1 (some ⟨gq, oq, none⟩) (q.length + 1) c2, qC A9 c9 (inn ++ [(a1, false)]), qC (some ⟨gq, oq, none⟩) c2 ((a1, false) :: q), ownC 3 1 (.slice A3 out.length c3) out.length (ics out)] :=
              hup8 w9 (qC A9 c9 (inn ++ [(a1, false)])) (by
                have := ho9.imp (G := fun b => G8 b ∨ ((wr.alloc (Obj.cells #[.int .i64 a1, .bool false] 47)).drew.alloc (Obj.cells #[.int .i64 a1, .bool false] 47)).heap.size ≤ b) (fun b _ h => h.imp id (fun h => Nat.le_of_eq h.symm))
                show Own _ _ _ _ _ _ _
                rw [hl9, qcs_snoc]
                exact this) hk9
            refine ⟨fun _ => (hr9.blk 1 rfl).cell 0, ?_⟩
            have hf9 := (hr9.blk 1 rfl).frozen
            have hc9 := (hr9.blk 1 rfl).cell
            have Hr9 := Lib.hid hr9
            clear hr8 hp8 hup8 ho9 hk9 hr9
            repeat (with_reducible refine late_step (by decide) (by decide) (fun K hK => ?_); go_simp; refine hK _ _ ?_; clear hK K)
            with_reducible refine late_move (by decide) (fun K hK => ?_)
            go_simp
            refine up_skip (hK _ _ ?_)
            clear hK K
            refine late_nil ?_
            have hr10 : Run w F (w9.setCell ⟨g, 0, none⟩ (.slice A9 (inn.length + 1) c9)) [blkC wr.heap.size 47 #[.int .i64 a1, .bool false], rkB g A9 (inn.length + 1) c9 (some ⟨gq, oq, none⟩) (q.length + 1) c2, qC A9 c9 (inn ++ [(a1, false)]), qC (some ⟨gq, oq, none⟩) c2 ((a1, false) :: q), ownC 3 1 (.slice A3 out.length c3) out.length (ics out)] := Hr9.out.set 1 rfl 0 (.slice A9 (inn.length + 1) c9)
            obtain ⟨w10, hw10⟩ : ∃ x, w9.setCell ⟨g, 0, none⟩ (.slice A9 (inn.length + 1) c9) = x := ⟨_, rfl⟩
            rw [hw10] at hr10 ⊢
            have hr11 := hr10.alloc (.cells #[] 47)
            have hb11 := hr11.blk 1 rfl
            have hc11 := hb11.cell
            have hf11 := hb11.frozen
            have hq11 := (hr11.own 3 rfl).sl
            have Hr11 := Lib.hid hr11
            have Hr10 := Lib.hid hr10
            clear hr10 hr11 hb11 hc9 hf9 hcx hxc hc hw10
            obtain ⟨Z2, hZ2⟩ : ∃ Z, (if c2 = 1 then some (⟨gq, oq, none⟩ : Addr) else some ⟨gq, oq + 2, none⟩) = Z := ⟨_, rfl⟩
            have hq12 := sl_tail hq11 hc2 hZ2
            go_wp2_with (first | (at_builtin; refine held ?_))
            refine unheld ?_
            refine wp_app Try.underlying27 info_one rfl (by omega) (Own.lit w10 47 2 #[] 0 rfl (by decide)) hq12 (one_qs q) (by simp only [List.length_cons] at hz1; omega) (by omega) rfl _ _ rfl rfl rfl ?_
            intro v12 w12 ho12 hk12
            rw [Nat.zero_add] at ho12
            have hp12 : Pure w10 w12 := ((Kept.refl (fun _ => False) w10).alloc _).trans hk12 (fun b hb h => by omega)
            obtain ⟨A12, c12, rfl, _⟩ := ho12.form
            have hr12 : Run w F w12 [qC A12 c12 q, blkC wr.heap.size 47 #[.int .i64 a1, .bool false], rkB g A9 (inn.length + 1) c9 (some ⟨gq, oq, none⟩) (q.length + 1) c2, qC A9 c9 (inn ++ [(a1, false)]), qC (some ⟨gq, oq, none⟩) c2 ((a1, false) :: q), ownC 3 1 (.slice A3 out.length c3) out.length (ics out)] :=
              Hr10.out.add hp12 (by
                show Own _ _ _ _ _ _ _
                have := ho12.imp (G := fun b => w10.heap.size ≤ b) (fun b _ h => by rw [World.size_alloc] at h; omega)
                simpa using this)
            have hc12 := (hr12.blk 2 rfl).cell
            have hf12 := (hr12.blk 2 rfl).frozen
            have Hr12 := Lib.hid hr12
            clear hq11 hq12 hc11 hf11 ho12 hk12 hp12 hr12
            go_upto_region 7 with fail
            have hr13 : Run w F (w12.setCell ⟨g, 1, none⟩ (.slice A12 q.length c12)) [qC A12 c12 q, blkC wr.heap.size 47 #[.int .i64 a1, .bool false], rkB g A9 (inn.length + 1) c9 A12 q.length c12, qC A9 c9 (inn ++ [(a1, false)]), qC (some ⟨gq, oq, none⟩) c2 ((a1, false) :: q), ownC 3 1 (.slice A3 out.length c3) out.length (ics out)] := Hr12.out.set 2 rfl 1 (.slice A12 q.length c12)
            obtain ⟨w13, hw13⟩ : ∃ x, w12.setCell ⟨g, 1, none⟩ (.slice A12 q.length c12) = x := ⟨_, rfl⟩
            rw [hw13] at hr13 ⊢
            have hx13 := (hr13.blk 1 rfl).cell
            have Hr13 := Lib.hid hr13
            clear hr13 hw13 hc12 hf12
            go_wp2_with (first | (at_builtin; refine held ?_))
            refine unheld ?_
            refine (Hr13.out.alloc _).app 5 rfl Try.underlying34 info_di rfl (by omega) (Sl.lit w13 #[.int .i64 a1] 3 1 1 _ rfl rfl) (ics_one [a1]) (by simp only [List.length_cons] at hz2; omega) (by omega) rfl _ _ rfl rfl rfl ?_
            rintro v14 w14 ⟨A14, c14, rfl, _, _⟩ hr14
            have hl14 : (out ++ [a1]).length = out.length + 1 := by simp
            have hfin : Run w F w14 [rkB g A9 (inn ++ [(a1, false)]).length c9 A12 q.length c12, qC A9 c9 (inn ++ [(a1, false)]), qC A12 c12 q, ownC 3 1 (.slice A14 (out ++ [a1]).length c14) (out ++ [a1]).length (ics (out ++ [a1]))] := by
              have h2 := ((hr14.drop 1).drop 3).rot3
              rw [hl9, hl14]
              unfold ics at h2 ⊢
              rw [List.map_append]
              exact h2
            have hm14 := (hfin.blk 0 rfl).cell 1
            have Hfin := Lib.hid hfin
            have Hm14 := Lib.hid hm14
            clear hfin hr14 hx13 hm14
            go_wp2
            refine ⟨⟨inn ++ [(a1, false)], q, out ++ [a1], A9, c9, A12, c12, A14, c14, by rw [hl14], by rw [hl9]; simp only [List.length_cons] at hz1; first | omega | (simp at hz1; omega), by rw [hl14]; simp only [List.length_cons] at hz2; omega, ?_, Hfin⟩, ?_⟩
            · refine Lib.hid ?_
              rw [hrs.out, Hgo.out]; simp
            · have e0 : wr.cell? ⟨g, 1, none⟩ = _ := (hrr.out.blk 0 rfl).cell 1
              rw [Hm14.out, e0]; simp
end Go.Proofs.Ytggnndopncegaaa
