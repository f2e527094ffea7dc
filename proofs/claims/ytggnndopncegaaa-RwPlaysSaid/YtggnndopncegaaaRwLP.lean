/-
  rw: RwPlays walked.
-/
import Derived.Test.YtggnndopncegaaaRwRd
import Derived.Test.YtggnndopncegaaaRwI
import Derived.Test.YtggnndopncegaaaRwJ
import Derived.LoopTactic
import Derived.Deep.QuietTactic
import Derived.BigQuiet
import Derived.Deep.CutBlock
import Derived.Deep.CutRange
set_option linter.unusedSimpArgs false
set_option linter.unusedVariables false
namespace Go.Proofs.Ytggnndopncegaaa
open Go.RowKit
set_option maxRecDepth 100000
def lpC (g : Nat) (k : Lk) : Ch := ⟨fun w F => Lp w F g k, Lp.imp, Lp.kept⟩
/-- What a round of RwPlays finds. -/
def PS (w₀ w : World) (N M : Nat) (kk : Lk) (rr : Rk) : Prop := Good kk ∧ Alike kk rr ∧ Run w₀ (fun _ => False) w [lpC N kk, rkC M rr]
section
variable {w₀ w w' : World} {N M : Nat} {kk : Lk} {rr : Rk}
theorem PS.pure (h : PS w₀ w N M kk rr) (hp : Pure w w') : PS w₀ w' N M kk rr := ⟨h.1, h.2.1, h.2.2.pure hp⟩
theorem PS.lock (h : PS w₀ w N M kk rr) : Lp w (fun b => False ∨ w₀.heap.size ≤ b) N kk := h.2.2.get 0 rfl
theorem PS.ref (h : PS w₀ w N M kk rr) : (rkC M rr).p w (fun b => False ∨ w₀.heap.size ≤ b) := h.2.2.get 1 rfl
theorem PS.kept (h : PS w₀ w N M kk rr) : Pure w₀ w := h.2.2.kept
end
set_option maxHeartbeats 6400000 in
theorem plays_top (A : Option Addr) (c : Nat) (l : List Act) (other : Int) (w : World) (F : Nat → Prop) (hs : Sl w F 2 A l.length (l.flatMap Act.cells)) (hf : ∀ a ∈ l, a.Fits) :
    Calls Try.prog 3 #[.slice A l.length c, .int .i64 other] w (BoolP true w) := by
  have CF := Lib.hid first22
  have CN := Lib.hid lk_new
  obtain ⟨n, hn⟩ : ∃ n, l.length = n := ⟨_, rfl⟩
  rw [hn] at hs ⊢
  by_cases h100 : n ≤ 100
  · have Hs := Lib.hid hs
    have Hn := Lib.hid hn
    have Hf := Lib.hid hf
    clear hs hn hf
    have hgt : ¬ (100 : Int) < (n : Int) := by omega
    go_enter Try.func3, Try.ntmps3
    go_wp2_with fail
    refine (CF.out _).mono ?_
    rintro e w1 ⟨rfl, hk1⟩
    go_wp2_with fail
    refine (CN.out _).mono ?_
    rintro e w3 ⟨rfl, hm3, hk3⟩
    obtain ⟨N, hN⟩ : ∃ N, w1.heap.size = N := ⟨_, rfl⟩
    have hr3 := ((Run.start (F := fun _ => False) (w := w1) (Ps := []) trivial).add (Q := lpC w1.heap.size Lk.none) hk3 hm3)
    have hr4 := ((hr3.addBlk #[.slice none 0 0, .slice none 0 0] 29).addNil 47 2).addNil 47 2
    obtain ⟨M, hM⟩ : ∃ M, w3.heap.size = M := ⟨_, rfl⟩
    obtain ⟨w4, hw4⟩ : ∃ x, w3.alloc (.cells #[.slice none 0 0, .slice none 0 0] 29) = x := ⟨_, rfl⟩
    rw [hM, hw4, hN] at hr4
    have hp : PS w1 w4 N M Lk.none Rk.none := by
      refine ⟨good_none, alike_none, ?_⟩
      have h5 : Run w1 (fun _ => False) w4 ([rkB M none 0 0 none 0 0, qC none 0 [], qC none 0 []] ++ [lpC N Lk.none]) := hr4.perm ((List.Perm.swap _ _ _).trans ((List.Perm.cons _ (List.Perm.swap _ _ _)).trans (List.Perm.swap _ _ _)))
      exact ⟨(Star.swap (rk_close (inn := []) (qu := []) (Ps := [lpC N Lk.none]) h5.star)), h5.kept⟩
    have Hp := Lib.hid hp
    have Hk1 := Lib.hid hk1
    clear hr3 hr4 hp hm3 hk3 hk1
    rw [hN]
    clear hN
    go_wp2
    clear hM hw4
    have hNw : w.heap.size ≤ w1.heap.size := Hk1.out.size
    go_loopw [7] (fun i wr => ∃ (k : Nat) (kk : Lk) (rr : Rk), i = .int .i64 k ∧ k ≤ n ∧ Hid (playL (l.take k) = kk) ∧ Hid (PS w1 wr N M kk rr)) (fun i _ => n - (intOf i).toNat)
    case atStart => exact ⟨0, Lk.none, Rk.none, rfl, Nat.zero_le _, rfl, Hp⟩
    case round =>
      obtain ⟨k, kk, rr, rfl, hkn, htk, hps⟩ := hrel
      by_cases hlt : k < n
      · obtain ⟨b, o, rfl, _, _, _⟩ := Hs.out.2 (by omega)
        obtain ⟨a, ha⟩ : ∃ a, l[k]? = some a := ⟨_, List.getElem?_eq_getElem (by have := Hn.out; omega)⟩
        have hsr := fun (wx : World) (h : Pure w1 wx) => Hs.out.kept (Hk1.out.same h) (fun _ _ _ h => h)
        have hcc := fun (wx : World) (h : Pure w1 wx) => (⟨sl_at Act.cells_len (hsr wx h) (by omega) ha 0 (by omega), sl_at Act.cells_len (hsr wx h) (by omega) ha 1 (by omega)⟩ : _ ∧ _)
        simp only [Act.cells] at hcc
        obtain ⟨op, who⟩ := a
        have hcc2 : ∀ wx : World, Pure w1 wx → wx.cell? ⟨b, o + k * 2, none⟩ = some (.int .i64 op) ∧ wx.cell? ⟨b, o + k * 2 + 1, none⟩ = some (.int .i64 who) := hcc
        obtain ⟨hc0, hc1⟩ := hcc2 wr hps.out.kept
        have Hcc := Lib.hid hcc2
        have hki : (k : Int) < (n : Int) := by omega
        have hst : playL (l.take (k + 1)) = stepL (playL (l.take k)) ⟨op, who⟩ := by rw [List.take_add_one, ha, Option.toList_some, playL_snoc]
        have Hst := Lib.hid hst
        obtain ⟨hg, hal, hrun⟩ := hps.out
        have hlaw := playL_law (l.take k)
        rw [htk.out, List.length_take] at hlaw
        have hzk : kk.size ≤ k := Nat.le_trans hlaw.2.2 (Nat.min_le_left _ _)
        have hzr : rr.size ≤ k := by rw [alike_size hal hg]; exact Nat.le_trans hlaw.2.1 (Nat.min_le_left _ _)
        have Hrun := Lib.hid hrun
        have Hg := Lib.hid hg
        have Hal := Lib.hid hal
        clear hst hsr hcc hcc2 ha hrun hlaw hg hal
        go_upto_region 12 with fail
        go_cut [44] from 20 to 103 (fun s wx => s = .bool (decide (op = 0) || decide (op = 1)) ∧ wr = wx)
        case first =>
          by_cases hop0 : op = 0
          · subst hop0
            go_wp2
            go_meet
            exact ⟨rfl, rfl⟩
          · have h0 : (op == 0) = false := by simpa using hop0
            by_cases hop1 : op = 1
            · subst hop1
              go_wp2
              go_meet
              exact ⟨rfl, rfl⟩
            · have h1 : (op == 1) = false := by simpa using hop1
              go_wp2
              go_meet
              exact ⟨by simp [hop0, hop1], rfl⟩
        case rest =>
        obtain ⟨rfl, rfl⟩ := hcut
        go_upto_if 44 with fail
        go_cut [] from 20 to 103 (fun wx => ∃ (k2 : Lk) (r2 : Rk), Hid (playL (l.take (k + 1)) = k2) ∧ Hid (PS w1 wx N M k2 r2))
        case first =>
          by_cases hop0 : op = 0
          · subst hop0
            have hst2 : stepL kk ⟨0, who⟩ = (kk.ask who false).2 := by unfold stepL; rw [if_pos (by simp)]; rfl
            obtain ⟨qa, qb, qc⟩ := ask_eq Hg.out Hal.out who false
            have Hst2 := Lib.hid (show playL (l.take (k + 1)) = (kk.ask who false).2 from Hst.out.trans (by rw [htk.out]; exact hst2))
            have Hqa := Lib.hid qa
            have Hqb := Lib.hid qb
            have Hqc := Lib.hid qc
            clear hst2 qa qb qc
            obtain ⟨G1, _, hp1, hup1⟩ := Hrun.out.drew.at 0 rfl
            have CA := Lib.hid (lk_ask wr.drew G1 N kk who false hp1 (by omega))
            have Hup1 := Lib.hid hup1
            clear hup1 hp1
            go_wp2
            refine wp_region_seqS (fun x => x.cell? ⟨b, o + k * 2, none⟩ = some (.int .i64 0)) [8, 17] [9, 10, 11, 12, 13, 14, 15, 16] (by kernel_rfl) (by kernel_rfl) (by kernel_rfl) hc0 ?_
            repeat (with_reducible refine seq_step (by decide) (by decide) (fun K hK => ?_); go_simp; refine hK _ _ ?_; clear hK K)
            with_reducible refine seq_move (by decide) (fun K hK => ?_)
            go_simp
            refine up_enter (CA.out.mono ?_)
            rintro e w5 ⟨rfl, hl5, hk5⟩
            have hr5 := Hup1.out w5 (lpC N (kk.ask who false).2) hl5 hk5
            refine ⟨_, rfl, (Hcc.out w5 hr5.kept).1, hK _ _ ?_⟩
            clear hK K
            obtain ⟨G2, _, hp2, hup2⟩ := hr5.at 1 rfl
            have CR := rk_ask w5 G2 M rr who false hp2 (by omega)
            rw [Hqa.out] at CR
            have CR := Lib.hid CR
            have Hup2 := Lib.hid hup2
            have Hr5 := Lib.hid hr5
            clear hup2 hp2 hl5 hk5 hr5
            repeat (with_reducible refine seq_free (by decide) (by decide) (fun K hK => ?_); go_simp; first | (refine ex_steadyF ?_ (fun w' hw' => ?_) ?_; rotate_left; ((replace hw' : w'.cell? ⟨b, o + k * 2, none⟩ = some (.int .i64 0) := hw'); go_simp; first | done | rfl); (refine hK _ _ ?_; clear hK K)) | (refine hK _ _ ?_; clear hK K))
            with_reducible refine seq_move (by decide) (fun K hK => ?_)
            go_simp
            refine up_enter (CR.out.mono ?_)
            rintro e w6 ⟨rfl, hl6, hk6⟩
            have hr6 := Hup2.out w6 (rkC M (rr.ask who false).2) hl6 hk6
            refine ⟨_, rfl, (Hcc.out w6 hr6.kept).1, hK _ _ ?_⟩
            clear hK K
            have Hr6 := Lib.hid hr6
            clear hl6 hk6 hr6
            repeat (with_reducible refine seq_step (by decide) (by decide) (fun K hK => ?_); go_simp; refine hK _ _ ?_; clear hK K)
            with_reducible refine seq_nil ?_
            go_wp2
            go_meet
            exact ⟨(kk.ask who false).2, (rr.ask who false).2, Hst2, Lib.hid ⟨Hqc.out, Hqb.out, Hr6.out⟩⟩
          · have h0 : (op == 0) = false := by simpa using hop0
            by_cases hop1 : op = 1
            · subst hop1
              have hst2 : stepL kk ⟨1, who⟩ = (kk.ask who true).2 := by unfold stepL; rw [if_pos (by simp)]; rfl
              obtain ⟨qa, qb, qc⟩ := ask_eq Hg.out Hal.out who true
              have Hst2 := Lib.hid (show playL (l.take (k + 1)) = (kk.ask who true).2 from Hst.out.trans (by rw [htk.out]; exact hst2))
              have Hqa := Lib.hid qa
              have Hqb := Lib.hid qb
              have Hqc := Lib.hid qc
              clear hst2 qa qb qc
              obtain ⟨G1, _, hp1, hup1⟩ := Hrun.out.drew.at 0 rfl
              have CA := Lib.hid (lk_ask wr.drew G1 N kk who true hp1 (by omega))
              have Hup1 := Lib.hid hup1
              clear hup1 hp1
              go_wp2
              refine wp_region_seqS (fun x => x.cell? ⟨b, o + k * 2, none⟩ = some (.int .i64 1)) [8, 17] [9, 10, 11, 12, 13, 14, 15, 16] (by kernel_rfl) (by kernel_rfl) (by kernel_rfl) hc0 ?_
              repeat (with_reducible refine seq_step (by decide) (by decide) (fun K hK => ?_); go_simp; refine hK _ _ ?_; clear hK K)
              with_reducible refine seq_move (by decide) (fun K hK => ?_)
              go_simp
              refine up_enter (CA.out.mono ?_)
              rintro e w5 ⟨rfl, hl5, hk5⟩
              have hr5 := Hup1.out w5 (lpC N (kk.ask who true).2) hl5 hk5
              refine ⟨_, rfl, (Hcc.out w5 hr5.kept).1, hK _ _ ?_⟩
              clear hK K
              obtain ⟨G2, _, hp2, hup2⟩ := hr5.at 1 rfl
              have CR := rk_ask w5 G2 M rr who true hp2 (by omega)
              rw [Hqa.out] at CR
              have CR := Lib.hid CR
              have Hup2 := Lib.hid hup2
              have Hr5 := Lib.hid hr5
              clear hup2 hp2 hl5 hk5 hr5
              repeat (with_reducible refine seq_free (by decide) (by decide) (fun K hK => ?_); go_simp; first | (refine ex_steadyF ?_ (fun w' hw' => ?_) ?_; rotate_left; ((replace hw' : w'.cell? ⟨b, o + k * 2, none⟩ = some (.int .i64 1) := hw'); go_simp; first | done | rfl); (refine hK _ _ ?_; clear hK K)) | (refine hK _ _ ?_; clear hK K))
              with_reducible refine seq_move (by decide) (fun K hK => ?_)
              go_simp
              refine up_enter (CR.out.mono ?_)
              rintro e w6 ⟨rfl, hl6, hk6⟩
              have hr6 := Hup2.out w6 (rkC M (rr.ask who true).2) hl6 hk6
              refine ⟨_, rfl, (Hcc.out w6 hr6.kept).1, hK _ _ ?_⟩
              clear hK K
              have Hr6 := Lib.hid hr6
              clear hl6 hk6 hr6
              repeat (with_reducible refine seq_step (by decide) (by decide) (fun K hK => ?_); go_simp; refine hK _ _ ?_; clear hK K)
              with_reducible refine seq_nil ?_
              go_wp2
              go_meet
              exact ⟨(kk.ask who true).2, (rr.ask who true).2, Hst2, Lib.hid ⟨Hqc.out, Hqb.out, Hr6.out⟩⟩
            · have h1 : (op == 1) = false := by simpa using hop1
              have hcc : (decide (op = 0) || decide (op = 1)) = false := by simp [hop0, hop1]
              have hst2 : stepL kk ⟨op, who⟩ = (kk.leave who).2 := by unfold stepL; rw [if_neg (by simp only; omega)]
              obtain ⟨qa, qb, qc⟩ := leave_eq Hg.out Hal.out who
              have Hst2 := Lib.hid (show playL (l.take (k + 1)) = (kk.leave who).2 from Hst.out.trans (by rw [htk.out]; exact hst2))
              have Hqa := Lib.hid qa
              have Hqb := Lib.hid qb
              have Hqc := Lib.hid qc
              have hlen1 : (kk.leave who).1.length ≤ 100000 := by
                obtain ⟨_, h2, _⟩ := leave_law Hg.out who
                have := lessQ_length kk.qu who
                unfold Lk.size at hzk; omega
              have hrl := Hrun.out.low
              obtain ⟨G1, _, hp1, hup1⟩ := hrl.at 0 rfl
              have CA := Lib.hid (lk_leave wr (fun b => G1 b ∧ b < wr.heap.size) N kk who hp1 (by omega))
              have Hup1 := Lib.hid hup1
              clear hup1 hp1 hst2 qa qb qc hrl
              go_wp2_with fail
              refine (CA.out).mono ?_
              rintro e w5 ⟨A5, n5, c5, rfl, hs5, hl5, hk5⟩
              have hr5 := Hup1.out w5 (lpC N (kk.leave who).2) (Lp.imp hl5 (fun b _ h => h.imp (fun h => h.1) id)) (hk5.mono (fun b _ h => h.1))
              have hn5 := sli_len hs5
              obtain ⟨G2, _, hp2, hup2⟩ := hr5.at 1 rfl
              have CR := Lib.hid (rk_leave w5 (fun b => G2 b ∧ b < wr.heap.size) M rr who hp2 (by omega))
              have Hup2 := Lib.hid hup2
              have Hs5 := Lib.hid hs5
              clear hup2 hp2 hl5 hk5 hr5 hs5
              go_wp2_with fail
              refine (CR.out).mono ?_
              rintro e w6 ⟨A6, c6, rfl, hst6, hk6⟩
              have hl6 : (rkC M (rr.leave who).2).p w6 (fun b => G2 b ∨ w5.heap.size ≤ b) := (rkC M (rr.leave who).2).imp (Star.get hst6 0 rfl) (fun b _ h => h.imp (fun h => h.1) id)
              have hr6 := Hup2.out w6 (rkC M (rr.leave who).2) hl6 (hk6.mono (fun b _ h => h.1))
              have ho6 : Own w6 _ 3 1 (.slice A6 (rr.leave who).1.length c6) (rr.leave who).1.length (ics (rr.leave who).1) := Star.get hst6 1 rfl
              have hs6 := Hs5.out.kept hk6 (fun b _ h e => by have := e.2; omega)
              have CI := ints_any A5 n5 c5 (kk.leave who).1 A6 (rr.leave who).1.length c6 (rr.leave who).1 w6 _ _ hs6 ho6.sl (by omega) (by rw [Hqa.out]; omega)
              rw [decide_eq_true Hqa.out.symm] at CI
              have CI := Lib.hid CI
              have Hr6 := Lib.hid hr6
              clear hst6 hk6 hl6 hr6 ho6 hs6
              go_wp2_with fail
              refine (CI.out).mono ?_
              rintro e w7 ⟨rfl, hk7⟩
              have hps : PS w1 w7 N M (kk.leave who).2 (rr.leave who).2 := ⟨Hqc.out, Hqb.out, Hr6.out.pure hk7⟩
              have Hps := Lib.hid hps
              clear hps hk7
              go_wp2
              go_meet
              exact ⟨(kk.leave who).2, (rr.leave who).2, Hst2, Hps⟩
        case rest =>
        obtain ⟨k2, r2, htk2, hps2⟩ := hcut
        have hlaw := playL_law (l.take (k + 1))
        rw [htk2.out, List.length_take] at hlaw
        have hzk2 : k2.size ≤ 100000 := by have := Nat.le_trans hlaw.2.2 (Nat.min_le_left _ _); omega
        have hszk : k2.sz ≤ 100000 := by have := Nat.le_trans hlaw.2.1 (Nat.min_le_left _ _); omega
        have hzr2 : r2.size ≤ 100000 := by rw [alike_size hps2.out.2.1 hps2.out.1]; exact hszk
        have hst1 := fun x => rst_eq hps2.out.1 hps2.out.2.1 x
        have CS := Lib.hid (fun (x : Int) (wx : World) (h : Pure wc wx) => lk_state wx _ N k2 x (hps2.out.pure h).lock hzk2)
        have CT := fun (x : Int) (wx : World) (h : Pure wc wx) => rk_state wx _ M r2 x (hps2.out.pure h).ref hzr2
        simp only [hst1] at CT
        have CT := Lib.hid CT
        have CH := Lib.hid (fun (wx : World) (h : Pure wc wx) => lk_holders wx _ N k2 (hps2.out.pure h).lock hzk2)
        have CU := Lib.hid (fun (wx : World) (h : Pure wc wx) => rk_holders wx _ M r2 (hps2.out.pure h).ref hzr2)
        have CQ := Lib.hid (fun (wx : World) (h : Pure wc wx) => lk_queue wx _ N k2 (hps2.out.pure h).lock hzk2)
        have CV := Lib.hid (fun (wx : World) (h : Pure wc wx) => rk_queue wx _ M r2 (hps2.out.pure h).ref hzr2)
        clear hlaw hst1 Hst Hrun Hg Hal Hcc hc0 hc1 htk hps
        obtain ⟨z1, hz1⟩ : ∃ z, k2.st who = z := ⟨_, rfl⟩
        obtain ⟨z2, hz2⟩ : ∃ z, k2.st other = z := ⟨_, rfl⟩
        have C1 := CS.out who wc (Kept.refl _ _)
        rw [hz1] at C1
        have C1 := Lib.hid C1
        have Hz1 := Lib.hid hz1
        have Hz2 := Lib.hid hz2
        clear hz1 hz2
        go_wp2_with fail
        refine (C1.out).mono ?_
        rintro e w5 ⟨rfl, hk5⟩
        have C2 := CT.out who w5 hk5
        rw [Hz1.out] at C2
        have C2 := Lib.hid C2
        go_wp2_with fail
        refine (C2.out).mono ?_
        rintro e w5' ⟨rfl, e5⟩
        obtain rfl := e5.symm
        have C3 := CS.out other w5 hk5
        rw [Hz2.out] at C3
        have C3 := Lib.hid C3
        go_wp2_with fail
        refine (C3.out).mono ?_
        rintro e w6 ⟨rfl, hk6⟩
        have hk56 := hk5.same hk6
        have C4 := CT.out other w6 hk56
        rw [Hz2.out] at C4
        have C4 := Lib.hid C4
        clear hk5 hk6
        go_wp2_with fail
        refine (C4.out).mono ?_
        rintro e w6' ⟨rfl, e6⟩
        obtain rfl := e6.symm
        have C5 := Lib.hid (CH.out w6 hk56)
        go_wp2_with fail
        refine (C5.out).mono ?_
        rintro e w7 ⟨A7, n7, c7, rfl, hs7, hk7⟩
        have hk57 := hk56.same hk7
        have C6 := Lib.hid (CU.out w7 hk57)
        have Hs7 := Lib.hid hs7
        clear hs7 hk7
        go_wp2_with fail
        refine (C6.out).mono ?_
        rintro e w8 ⟨A8, n8, c8, L8, rfl, hs8, hk8, hp8, hr8⟩
        have hL8 := holders_eq hps2.out.1 hps2.out.2.1 hp8 hr8
        subst hL8
        have hk58 := hk57.same hk8
        have hhl := holders_len k2
        have hs7' := Hs7.out.kept hk8 (fun _ _ _ h => h)
        have hl7 := sli_len hs7'
        have hl8 := sli_len hs8
        have C7 := ints_any A7 n7 c7 k2.holders A8 n8 c8 k2.holders w8 _ _ hs7' hs8 (by omega) (by omega)
        rw [decide_eq_true rfl] at C7
        have C7 := Lib.hid C7
        clear hs8 hk8 hp8 hr8 hs7' hl7 hl8
        go_wp2_with fail
        refine (C7.out).mono ?_
        rintro e w9 ⟨rfl, hk9⟩
        have hk59 := hk58.same hk9
        have C8 := Lib.hid (CQ.out w9 hk59)
        clear hk9
        go_wp2_with fail
        refine (C8.out).mono ?_
        rintro e w10 ⟨A10, n10, c10, rfl, hs10, hk10⟩
        have hk510 := hk59.same hk10
        have C9 := Lib.hid (CV.out w10 hk510)
        have Hs10 := Lib.hid hs10
        clear hs10 hk10
        go_wp2_with fail
        refine (C9.out).mono ?_
        rintro e w11 ⟨A11, n11, c11, rfl, hs11, hk11⟩
        have hk511 := hk510.same hk11
        have hqq : r2.qu = k2.qu := hps2.out.2.1.1
        rw [hqq] at hs11
        have hs10' := Hs10.out.kept hk11 (fun _ _ _ h => h)
        have hl10 := sli_len hs10'
        have hl11 := sli_len hs11
        rw [List.length_map] at hl10 hl11
        have C10 := ints_any A10 n10 c10 (k2.qu.map (·.1)) A11 n11 c11 (k2.qu.map (·.1)) w11 _ _ hs10' hs11 (by omega) (by omega)
        rw [decide_eq_true rfl] at C10
        have C10 := Lib.hid C10
        clear hs11 hk11 hs10' hl10 hl11 hqq
        go_wp2_with fail
        refine (C10.out).mono ?_
        rintro e w12 ⟨rfl, hk12⟩
        have hps3 := hps2.out.pure (hk511.same hk12)
        have Hps3 := Lib.hid hps3
        clear hps3 hk12 hk511 hk510 hk59 hk58 hk57 hk56 hhl
        go_wp2
        go_roundw
        case measure => simp [intOf]; omega
        case rel => exact ⟨k + 1, k2, r2, by first | rfl | go_num, by omega, htk2, Hps3⟩
      · obtain rfl : k = n := by omega
        have hend := Hk1.out.same hps.out.kept
        have Hend := Lib.hid hend
        clear hend
        go_wp2
        go_ret
        exact ⟨rfl, Hend.out⟩
  · have h100' : (100 : Int) < (n : Int) := by omega
    clear hs hf hn
    go_enter Try.func3, Try.ntmps3
    go_wp2_with fail
    refine (CF.out _).mono ?_
    rintro e w1 ⟨rfl, hk1⟩
    go_wp2_with fail
    refine (CF.out _).mono ?_
    rintro e w3 ⟨rfl, hk3⟩
    go_wp2
    go_ret
    exact ⟨rfl, hk1.same hk3⟩
theorem rwPlays_top (A : Option Addr) (c : Nat) (l : List Act) (other : Int) (W : World) (h0 : Sl W (fun _ => True) 2 A l.length (l.flatMap Act.cells)) (_ : l.length ≤ maxLen) (h2 : ∀ i ∈ l, i.Fits) (h3 : l.length ≤ c) (h4 : c ≤ maxLen) (_ : (Lit.int .i64 other).wf = true) :
    Calls Try.prog 3 #[.slice A l.length c, .int .i64 other] W fun e W' => e = .returned (.bool true) ∧ Pure W W' := plays_top A c l other W _ h0 h2
end Go.Proofs.Ytggnndopncegaaa
