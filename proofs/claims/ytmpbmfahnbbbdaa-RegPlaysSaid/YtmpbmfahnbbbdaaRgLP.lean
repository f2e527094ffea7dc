/-
  reg: RegPlays walked.
-/
import Derived.Test.YtmpbmfahnbbbdaaRgRc
import Derived.LoopTactic
import Derived.Deep.QuietTactic
import Derived.BigQuiet
set_option linter.unusedSimpArgs false
set_option linter.unusedVariables false
namespace Go.Proofs.Ytmpbmfahnbbbdaa
open Go.RowKit
set_option maxRecDepth 100000

section
variable {w₀ w : World} {F : Nat → Prop} {Ps : List Ch} {i m g : Nat} {es : Es}
theorem run_radd (h : Run w₀ F w Ps) (hi : Ps[i]? = some (rrC m g es)) (k : ByteArray) (id : Int) (hn : es.length ≤ 90000) (hnn : ∀ e ∈ es, 0 ≤ e.2) :
    Calls Try.prog 19 #[ptrV g, .string k, .int .i64 id] w fun e w' => e = .returned (.bool (addE es k id).1) ∧ Run w₀ F w' (Ps.set i (rrC m g (addE es k id).2)) := by
  obtain ⟨G, hG, hp, hup⟩ := h.atL i hi
  exact (rr_add w G m g es k id hp hn hnn).mono fun e w' ⟨h1, h2, h3⟩ => ⟨h1, hup w' (rrC m g (addE es k id).2) h2 h3⟩
theorem run_rrem (h : Run w₀ F w Ps) (hi : Ps[i]? = some (rrC m g es)) (k : ByteArray) (id : Int) (hn : es.length ≤ 90000) (hnn : ∀ e ∈ es, 0 ≤ e.2) :
    Calls Try.prog 20 #[ptrV g, .string k, .int .i64 id] w fun e w' => e = .returned (.bool (remE es k id).1) ∧ Run w₀ F w' (Ps.set i (rrC m g (remE es k id).2)) := by
  obtain ⟨G, hG, hp, hup⟩ := h.atL i hi
  exact (rr_rem w G m g es k id hp hn hnn).mono fun e w' ⟨h1, h2, h3⟩ => ⟨h1, hup w' (rrC m g (remE es k id).2) h2 h3⟩
theorem run_rfind (h : Run w₀ F w Ps) (hi : Ps[i]? = some (rrC m g es)) (k : ByteArray) (hn : es.length ≤ 90000) :
    Calls Try.prog 21 #[ptrV g, .string k] w fun e w' => e = .returned (.int .i64 (fdE es k)) ∧ Pure w w' := rr_find w _ m g es k (h.get i hi) (by omega)
theorem run_rlen (h : Run w₀ F w Ps) (hi : Ps[i]? = some (rrC m g es)) :
    Calls Try.prog 22 #[ptrV g] w fun e w' => e = .returned (.int .i64 (es.length : Nat)) ∧ w' = w := rr_len w _ m g es (h.get i hi)
theorem run_rload (h : Run w₀ F w Ps) (hi : Ps[i]? = some (rrC m g es)) (s : Int) (hn : es.length ≤ 90000) (hm : 0 < m ∧ m ≤ 1000) (hks : ∀ e ∈ es, e.1.size ≤ 1000000) :
    Calls Try.prog 24 #[ptrV g, .int .i64 s] w fun e w' => e = .returned (.int .i64 (ldE m es s : Nat)) ∧ Pure w w' := rr_load w _ m g es s (h.get i hi) (by omega) hm hks
theorem run_runder (h : Run w₀ F w Ps) (hi : Ps[i]? = some (rrC m g es)) (p : ByteArray) (hn : es.length ≤ 90000) (hp : p.size ≤ 1000000) (hks : ∀ e ∈ es, e.1.size ≤ 1000000) :
    Calls Try.prog 25 #[ptrV g, .string p] w fun e w' => ∃ A c, e = .returned (.slice A (unE es p).length c) ∧ Run w₀ F w' (ownC 9 1 (.slice A (unE es p).length c) (unE es p).length ((unE es p).map Value.string) :: Ps) ∧ Pure w w' :=
  (rr_under w _ m g es p (h.get i hi) (by omega) hp hks).mono fun e w' ⟨A, c, h1, h2, h3⟩ => ⟨A, c, h1, h.addOwn h3 h2, h3⟩
theorem run_rnew (h : Run w₀ F w Ps) (a : Int) :
    Calls Try.prog 18 #[.int .i64 a] w fun e w' => e = .returned (ptrV w.heap.size) ∧ Run w₀ F w' (rrC (mS a) w.heap.size [] :: Ps) ∧ Pure w w' :=
  (rr_new w a).mono fun e w' ⟨h1, h2, h3⟩ => ⟨h1, h.add (Q := rrC (mS a) w.heap.size []) h3 h2, h3⟩
end
set_option maxHeartbeats 12800000 in
theorem plays_top (a : Int) (A : Option Addr) (c : Nat) (l : List Act) (p : ByteArray) (w : World) (F : Nat → Prop) (hs : Sl w F 3 A l.length (l.flatMap Act.cells)) (hf : ∀ a ∈ l, a.Fits) (hps : p.size ≤ maxLen) :
    Calls Try.prog 6 #[.int .i64 a, .slice A l.length c, .string p] w (BoolP true w) := by
  have CF := Lib.hid first21
  have CL := Lib.hid (fun w' (h : Pure w w') => light_any a A c l w' F (hs.kept h (fun _ _ _ h => h)) hf)
  obtain ⟨n, hn⟩ : ∃ n, l.length = n := ⟨_, rfl⟩
  rw [hn] at CL hs ⊢
  unfold maxLen at hps
  cases hL : lightB a l with
  | false =>
    rw [hL] at CL
    clear hs hf
    go_enter Try.func6, Try.ntmps6
    go_wp2_with fail
    refine (CF.out _).mono ?_
    rintro e w1 ⟨rfl, hk1⟩
    go_wp2_with fail
    refine (CL.out _ hk1).mono ?_
    rintro e w2 ⟨rfl, e2⟩
    obtain rfl := e2.symm
    go_wp2_with fail
    refine (CF.out _).mono ?_
    rintro e w3 ⟨rfl, hk3⟩
    go_wp2
    go_ret
    exact ⟨rfl, hk1.same hk3⟩
  | true =>
    rw [hL] at CL
    obtain ⟨ha64, hn80, hk40⟩ := light_bound hL
    rw [hn] at hn80
    by_cases hp40 : p.size ≤ 40
    · have hp' : ((40 : Int) < (p.size : Int)) = False := by simp; omega
      have Hs := Lib.hid hs
      have Hf := Lib.hid hf
      have Hn := Lib.hid hn
      have Hk40 := Lib.hid hk40
      clear hs hf hn hk40 hL
      go_enter Try.func6, Try.ntmps6
      go_wp2_with fail
      refine (CF.out _).mono ?_
      rintro e w1 ⟨rfl, hk1⟩
      go_wp2_with fail
      refine (CL.out _ hk1).mono ?_
      rintro e w2 ⟨rfl, e2⟩
      obtain rfl := e2.symm
      have hr0 := (Run.start (F := fun _ => False) (w := w1) (Ps := []) trivial)
      have CN := run_new hr0 a ha64
      clear hr0
      obtain ⟨N, hN⟩ : ∃ N, w1.heap.size = N := ⟨_, rfl⟩
      obtain ⟨m, hm⟩ : ∃ m, mS a = m := ⟨_, rfl⟩
      rw [hN, hm] at CN
      have HN := Lib.hid hN
      have Hm := Lib.hid hm
      have CN := Lib.hid CN
      clear hN
      go_wp2_with fail
      refine (CN.out).mono ?_
      rintro e w3 ⟨rfl, hr3, hk3⟩
      have CM := run_rnew hr3 a
      obtain ⟨M, hM⟩ : ∃ M, w3.heap.size = M := ⟨_, rfl⟩
      rw [hM, hm] at CM
      have CM := Lib.hid CM
      clear hM hr3 hk3 hm
      go_wp2_with fail
      refine (CM.out).mono ?_
      rintro e w4 ⟨rfl, hr4, hk4⟩
      have Hr4 := Lib.hid hr4
      have Hk1 := Lib.hid hk1
      clear hk1 hk4 hr4
      go_wp2
      go_loopw [9] (fun i wr => ∃ k : Nat, i = .int .i64 k ∧ k ≤ n ∧ ∃ es : Es, Hid (playE (l.take k) = es) ∧ Hid (Run w1 (fun _ => False) wr [rrC m M es, rgC m N es])) (fun i _ => n - (intOf i).toNat)
      case atStart => exact ⟨0, rfl, Nat.zero_le _, [], rfl, Hr4⟩
      case round =>
        obtain ⟨k, rfl, hkn, es, hes, hr⟩ := hrel
        have hnn : ∀ e ∈ es, 0 ≤ e.2 := by
          obtain ⟨ms, _, _, _, h⟩ := hr.out.get (P := rgC m N es) 1 rfl
          exact h.shd.nn
        by_cases hlt : k < n
        · obtain ⟨bl, o, rfl, -, -, -⟩ := Hs.out.2 (by omega)
          obtain ⟨ac, hac⟩ : ∃ ac, l[k]? = some ac := ⟨_, List.getElem?_eq_getElem (by have := Hn.out; omega)⟩
          have hak := Hk40.out ac (List.mem_of_getElem? hac)
          have hsr := Hs.out.kept (Hk1.out.same hr.out.kept) (fun _ _ _ h => h)
          have hc0 := sl_at Act.cells_len hsr (by omega) hac 0 (by omega)
          have hc1 := sl_at Act.cells_len hsr (by omega) hac 1 (by omega)
          have hc2 := sl_at Act.cells_len hsr (by omega) hac 2 (by omega)
          have hes2 : playE (l.take (k + 1)) = stepA es ac := by rw [List.take_add_one, hac, Option.toList_some, playE_snoc, hes.out]
          have hel : es.length ≤ 80 := by
            have h1 := playE_len (l.take k)
            rw [hes.out, List.length_take] at h1
            omega
          have hel2 : (stepA es ac).length ≤ 81 := Nat.le_trans (step_len _ _ _ _) (by omega)
          obtain ⟨op, ky, idn⟩ := ac
          simp only [Act.cells] at hc0 hc1 hc2
          simp only at hak
          have hd0 : wr.cell? ⟨bl, o + k * 3, none⟩ = some (.int .i64 op) := hc0
          have hd1 : wr.cell? ⟨bl, o + k * 3 + 1, none⟩ = some (.string ky) := hc1
          have hd2 : wr.cell? ⟨bl, o + k * 3 + 2, none⟩ = some (.int .i64 idn) := hc2
          obtain ⟨Bs, hBs⟩ : ∃ B, (stepE es op ky idn).1 = B := ⟨_, rfl⟩
          obtain ⟨es2, hE2⟩ : ∃ e, stepA es ⟨op, ky, idn⟩ = e := ⟨_, rfl⟩
          rw [hE2] at hes2 hel2
          have Hst := Lib.hid hBs
          have Hes2 := Lib.hid hE2
          have Hes3 := Lib.hid hes2
          have Hnn := Lib.hid hnn
          have hki : (k : Int) < (n : Int) := by omega
          obtain ⟨B, hB⟩ : ∃ B, wr.heap.size = B := ⟨_, rfl⟩
          have hr1 := hr.out.addBlk #[.int .i64 0, .string ⟨#[]⟩, .int .i64 0] 29
          rw [hB] at hr1
          have Hr1 := Lib.hid hr1
          clear hsr hac hc0 hc1 hc2 hBs hE2 hes2 hnn hr1
          go_wp2_with (with_reducible refine stop_store (ty := 29) ?_)
          refine unheld ?_
          refine wp_store_blk rfl _ _ _ rfl rfl rfl (Hr1.out.blk 0 rfl) rfl (by kernel_rfl) (by kernel_rfl) rfl ?_
          intro w4' hb4 hk4
          have hr4 : Run w1 (fun _ => False) w4' [blkC B 29 #[.int .i64 op, .string ky, .int .i64 idn], rrC m M es, rgC m N es] := Hr1.out.turn 0 rfl hb4 hk4
          have hc4 := (hr4.blk 0 rfl).cell
          have Hr4' := Lib.hid hr4
          clear hr4 hb4 hk4 hd0 hd1 hd2 Hr1
          by_cases hop0 : op = 0
          · subst hop0
            have C1 := run_radd Hr4'.out (i := 1) (m := m) (g := M) (es := es) rfl ky idn (by omega) Hnn.out
            rw [show (addE es ky idn).1 = Bs from Hst.out, show (addE es ky idn).2 = es2 from Hes2.out] at C1
            have C1 := Lib.hid C1
            go_wp2_with fail
            refine (C1.out).mono ?_
            rintro e w5 ⟨rfl, hr5⟩
            clear hc4
            have Hr5 : Hid (Run w1 (fun _ => False) w5 [blkC B 29 #[.int .i64 0, .string ky, .int .i64 idn], rrC m M es2, rgC m N es]) := Lib.hid hr5
            clear hr5
            have hB5 := (Hr5.out.blk 0 rfl)
            have hc5 := hB5.cell
            have CS := run_step (a := ⟨0, ky, idn⟩) Hr5.out.drew (i := 2) (m := m) (g := N) (es := es) rfl (show ky.size ≤ 1000000 by omega) (by omega)
            simp only at CS
            rw [Hst.out, Hes2.out] at CS
            have CS := Lib.hid CS
            go_wp2
            refine wp_region_seqS (fun x => Blk x B 29 #[.int .i64 0, .string ky, .int .i64 idn]) [2, 9, 13, 18, 20] [3, 10, 11, 12, 19] (by kernel_rfl) (by kernel_rfl) (by kernel_rfl) hB5 ?_
            repeat (with_reducible refine seq_step (by decide) (by decide) (fun K hK => ?_); go_simp; refine hK _ _ ?_; clear hK K)
            with_reducible refine seq_move (by decide) (fun K hK => ?_)
            go_simp
            refine up_enter (CS.out.mono ?_)
            rintro e w6 ⟨rfl, hr6⟩
            have hr6 : Run w1 (fun _ => False) w6 [blkC B 29 #[.int .i64 0, .string ky, .int .i64 idn], rrC m M es2, rgC m N es2] := hr6
            have hB6 := hr6.blk 0 rfl
            have hc6 := hB6.cell
            refine ⟨_, rfl, hB6, hK _ _ ?_⟩
            clear hK K hc5
            repeat (with_reducible refine seq_free (by decide) (by decide) (fun K hK => ?_); go_simp; first | (refine ex_steadyF ?_ (fun w' hw' => ?_) ?_; rotate_left; ((have hc' := Blk.cell hw'); go_simp; first | done | rfl); (refine hK _ _ ?_; clear hK K)) | (refine hK _ _ ?_; clear hK K))
            repeat (with_reducible refine seq_step (by decide) (by decide) (fun K hK => ?_); go_simp; refine hK _ _ ?_; clear hK K)
            have C3 := run_find hr6 (i := 2) (m := m) (g := N) (es := es2) rfl ky (by omega)
            obtain ⟨fd, hfd⟩ : ∃ x, fdE es2 ky = x := ⟨_, rfl⟩
            rw [hfd] at C3
            with_reducible refine seq_move (by decide) (fun K hK => ?_)
            go_simp
            refine up_enter (C3.mono ?_)
            rintro e w7 ⟨rfl, hk7⟩
            have hr7 := hr6.pure hk7
            have hB7 := hr7.blk 0 rfl
            refine ⟨_, rfl, hB7, hK _ _ ?_⟩
            clear hK K hc6
            repeat (with_reducible refine seq_free (by decide) (by decide) (fun K hK => ?_); go_simp; first | (refine ex_steadyF ?_ (fun w' hw' => ?_) ?_; rotate_left; ((have hc' := Blk.cell hw'); go_simp; first | done | rfl); (refine hK _ _ ?_; clear hK K)) | (refine hK _ _ ?_; clear hK K))
            have C4 := run_rfind hr7 (i := 1) (m := m) (g := M) (es := es2) rfl ky (by omega)
            rw [hfd] at C4
            with_reducible refine seq_move (by decide) (fun K hK => ?_)
            go_simp
            refine up_enter (C4.mono ?_)
            rintro e w8 ⟨rfl, hk8⟩
            have hr8 := hr7.pure hk8
            have hB8 := hr8.blk 0 rfl
            refine ⟨_, rfl, hB8, hK _ _ ?_⟩
            clear hK K
            repeat (with_reducible refine seq_step (by decide) (by decide) (fun K hK => ?_); go_simp; refine hK _ _ ?_; clear hK K)
            have C5 := run_len hr8 (i := 2) (m := m) (g := N) (es := es2) rfl
            have C6 := run_rlen hr8 (i := 1) (m := m) (g := M) (es := es2) rfl
            obtain ⟨q, hq⟩ : ∃ x, es2.length = x := ⟨_, rfl⟩
            rw [hq] at C5 C6
            with_reducible refine seq_move (by decide) (fun K hK => ?_)
            go_simp
            refine up_enter (C5.mono ?_)
            rintro e w9 ⟨rfl, e9⟩
            obtain rfl := e9.symm
            refine ⟨_, rfl, hB8, hK _ _ ?_⟩
            clear hK K
            repeat (with_reducible refine seq_free (by decide) (by decide) (fun K hK => ?_); go_simp; first | (refine ex_steadyF ?_ (fun w' hw' => ?_) ?_; rotate_left; ((have hc' := Blk.cell hw'); go_simp; first | done | rfl); (refine hK _ _ ?_; clear hK K)) | (refine hK _ _ ?_; clear hK K))
            with_reducible refine seq_move (by decide) (fun K hK => ?_)
            go_simp
            refine up_enter (C6.mono ?_)
            rintro e w9 ⟨rfl, e9⟩
            obtain rfl := e9.symm
            refine ⟨_, rfl, hB8, hK _ _ ?_⟩
            clear hK K
            repeat (with_reducible refine seq_step (by decide) (by decide) (fun K hK => ?_); go_simp; refine hK _ _ ?_; clear hK K)
            with_reducible refine seq_nil ?_
            have Hr8 : Hid (Run w1 (fun _ => False) w8 [rrC m M es2, rgC m N es2]) := Lib.hid (hr8.drop 0)
            clear hr6 hr7 hr8 hB6 hB7 hB8 hk7 hk8 C3 C4 C5 C6 hq hfd hB5
            go_wp2
            go_roundw
            case measure => simp [intOf]; omega
            case rel => exact ⟨k + 1, by first | rfl | go_num, by omega, es2, Hes3, Hr8⟩
          · have hop0b : (op == 0) = false := by simpa using hop0
            by_cases hop1 : op = 1
            · subst hop1
              have C1 := run_rrem Hr4'.out (i := 1) (m := m) (g := M) (es := es) rfl ky idn (by omega) Hnn.out
              rw [show (remE es ky idn).1 = Bs from Hst.out, show (remE es ky idn).2 = es2 from Hes2.out] at C1
              have C1 := Lib.hid C1
              go_wp2_with fail
              refine (C1.out).mono ?_
              rintro e w5 ⟨rfl, hr5⟩
              clear hc4
              have Hr5 : Hid (Run w1 (fun _ => False) w5 [blkC B 29 #[.int .i64 1, .string ky, .int .i64 idn], rrC m M es2, rgC m N es]) := Lib.hid hr5
              clear hr5
              have hB5 := (Hr5.out.blk 0 rfl)
              have hc5 := hB5.cell
              have CS := run_step (a := ⟨1, ky, idn⟩) Hr5.out.drew (i := 2) (m := m) (g := N) (es := es) rfl (show ky.size ≤ 1000000 by omega) (by omega)
              simp only at CS
              rw [Hst.out, Hes2.out] at CS
              have CS := Lib.hid CS
              go_wp2
              refine wp_region_seqS (fun x => Blk x B 29 #[.int .i64 1, .string ky, .int .i64 idn]) [2, 9, 13, 18, 20] [3, 10, 11, 12, 19] (by kernel_rfl) (by kernel_rfl) (by kernel_rfl) hB5 ?_
              repeat (with_reducible refine seq_step (by decide) (by decide) (fun K hK => ?_); go_simp; refine hK _ _ ?_; clear hK K)
              with_reducible refine seq_move (by decide) (fun K hK => ?_)
              go_simp
              refine up_enter (CS.out.mono ?_)
              rintro e w6 ⟨rfl, hr6⟩
              have hr6 : Run w1 (fun _ => False) w6 [blkC B 29 #[.int .i64 1, .string ky, .int .i64 idn], rrC m M es2, rgC m N es2] := hr6
              have hB6 := hr6.blk 0 rfl
              have hc6 := hB6.cell
              refine ⟨_, rfl, hB6, hK _ _ ?_⟩
              clear hK K hc5
              repeat (with_reducible refine seq_free (by decide) (by decide) (fun K hK => ?_); go_simp; first | (refine ex_steadyF ?_ (fun w' hw' => ?_) ?_; rotate_left; ((have hc' := Blk.cell hw'); go_simp; first | done | rfl); (refine hK _ _ ?_; clear hK K)) | (refine hK _ _ ?_; clear hK K))
              repeat (with_reducible refine seq_step (by decide) (by decide) (fun K hK => ?_); go_simp; refine hK _ _ ?_; clear hK K)
              have C3 := run_find hr6 (i := 2) (m := m) (g := N) (es := es2) rfl ky (by omega)
              obtain ⟨fd, hfd⟩ : ∃ x, fdE es2 ky = x := ⟨_, rfl⟩
              rw [hfd] at C3
              with_reducible refine seq_move (by decide) (fun K hK => ?_)
              go_simp
              refine up_enter (C3.mono ?_)
              rintro e w7 ⟨rfl, hk7⟩
              have hr7 := hr6.pure hk7
              have hB7 := hr7.blk 0 rfl
              refine ⟨_, rfl, hB7, hK _ _ ?_⟩
              clear hK K hc6
              repeat (with_reducible refine seq_free (by decide) (by decide) (fun K hK => ?_); go_simp; first | (refine ex_steadyF ?_ (fun w' hw' => ?_) ?_; rotate_left; ((have hc' := Blk.cell hw'); go_simp; first | done | rfl); (refine hK _ _ ?_; clear hK K)) | (refine hK _ _ ?_; clear hK K))
              have C4 := run_rfind hr7 (i := 1) (m := m) (g := M) (es := es2) rfl ky (by omega)
              rw [hfd] at C4
              with_reducible refine seq_move (by decide) (fun K hK => ?_)
              go_simp
              refine up_enter (C4.mono ?_)
              rintro e w8 ⟨rfl, hk8⟩
              have hr8 := hr7.pure hk8
              have hB8 := hr8.blk 0 rfl
              refine ⟨_, rfl, hB8, hK _ _ ?_⟩
              clear hK K
              repeat (with_reducible refine seq_step (by decide) (by decide) (fun K hK => ?_); go_simp; refine hK _ _ ?_; clear hK K)
              have C5 := run_len hr8 (i := 2) (m := m) (g := N) (es := es2) rfl
              have C6 := run_rlen hr8 (i := 1) (m := m) (g := M) (es := es2) rfl
              obtain ⟨q, hq⟩ : ∃ x, es2.length = x := ⟨_, rfl⟩
              rw [hq] at C5 C6
              with_reducible refine seq_move (by decide) (fun K hK => ?_)
              go_simp
              refine up_enter (C5.mono ?_)
              rintro e w9 ⟨rfl, e9⟩
              obtain rfl := e9.symm
              refine ⟨_, rfl, hB8, hK _ _ ?_⟩
              clear hK K
              repeat (with_reducible refine seq_free (by decide) (by decide) (fun K hK => ?_); go_simp; first | (refine ex_steadyF ?_ (fun w' hw' => ?_) ?_; rotate_left; ((have hc' := Blk.cell hw'); go_simp; first | done | rfl); (refine hK _ _ ?_; clear hK K)) | (refine hK _ _ ?_; clear hK K))
              with_reducible refine seq_move (by decide) (fun K hK => ?_)
              go_simp
              refine up_enter (C6.mono ?_)
              rintro e w9 ⟨rfl, e9⟩
              obtain rfl := e9.symm
              refine ⟨_, rfl, hB8, hK _ _ ?_⟩
              clear hK K
              repeat (with_reducible refine seq_step (by decide) (by decide) (fun K hK => ?_); go_simp; refine hK _ _ ?_; clear hK K)
              with_reducible refine seq_nil ?_
              have Hr8 : Hid (Run w1 (fun _ => False) w8 [rrC m M es2, rgC m N es2]) := Lib.hid (hr8.drop 0)
              clear hr6 hr7 hr8 hB6 hB7 hB8 hk7 hk8 C3 C4 C5 C6 hq hfd hB5
              go_wp2
              go_roundw
              case measure => simp [intOf]; omega
              case rel => exact ⟨k + 1, by first | rfl | go_num, by omega, es2, Hes3, Hr8⟩
            · have hop1b : (op == 1) = false := by simpa using hop1
              have hse : stepE es op ky idn = (decide (0 ≤ fdE es ky), es) := by unfold stepE; rw [if_neg hop0, if_neg hop1]
              have C1 := run_rfind Hr4'.out (i := 1) (m := m) (g := M) (es := es) rfl ky (by omega)
              have he2 : es = es2 := by
                have h1 := Hes2.out
                unfold stepA at h1
                simp only [hse] at h1
                exact h1
              have hbs : decide (0 ≤ fdE es ky) = Bs := by
                have h1 := Hst.out
                rw [hse] at h1
                exact h1
              obtain ⟨fo, hfo⟩ : ∃ x, fdE es ky = x := ⟨_, rfl⟩
              rw [hfo] at C1 hbs
              have C1 := Lib.hid C1
              clear hse hfo
              go_wp2_with fail
              refine (C1.out).mono ?_
              rintro e w5 ⟨rfl, hk5⟩
              have hr5 : Run w1 (fun _ => False) w5 [blkC B 29 #[.int .i64 op, .string ky, .int .i64 idn], rrC m M es2, rgC m N es] := by
                have h1 := Hr4'.out.pure hk5
                rw [← he2]
                exact h1
              clear hc4 hk5
              have Hr5 : Hid (Run w1 (fun _ => False) w5 [blkC B 29 #[.int .i64 op, .string ky, .int .i64 idn], rrC m M es2, rgC m N es]) := Lib.hid hr5
              clear hr5
              have hB5 := (Hr5.out.blk 0 rfl)
              have hc5 := hB5.cell
              have CS := run_step (a := ⟨op, ky, idn⟩) Hr5.out.drew (i := 2) (m := m) (g := N) (es := es) rfl (show ky.size ≤ 1000000 by omega) (by omega)
              simp only at CS
              rw [Hst.out, Hes2.out] at CS
              have CS := Lib.hid CS
              go_wp2
              refine wp_region_seqS (fun x => Blk x B 29 #[.int .i64 op, .string ky, .int .i64 idn]) [2, 9, 13, 18, 20] [3, 10, 11, 12, 19] (by kernel_rfl) (by kernel_rfl) (by kernel_rfl) hB5 ?_
              repeat (with_reducible refine seq_step (by decide) (by decide) (fun K hK => ?_); go_simp; refine hK _ _ ?_; clear hK K)
              with_reducible refine seq_move (by decide) (fun K hK => ?_)
              go_simp
              refine up_enter (CS.out.mono ?_)
              rintro e w6 ⟨rfl, hr6⟩
              have hr6 : Run w1 (fun _ => False) w6 [blkC B 29 #[.int .i64 op, .string ky, .int .i64 idn], rrC m M es2, rgC m N es2] := hr6
              have hB6 := hr6.blk 0 rfl
              have hc6 := hB6.cell
              refine ⟨_, rfl, hB6, hK _ _ ?_⟩
              clear hK K hc5
              repeat (with_reducible refine seq_free (by decide) (by decide) (fun K hK => ?_); go_simp; first | (refine ex_steadyF ?_ (fun w' hw' => ?_) ?_; rotate_left; ((have hc' := Blk.cell hw'); go_simp; first | done | rfl); (refine hK _ _ ?_; clear hK K)) | (refine hK _ _ ?_; clear hK K))
              repeat (with_reducible refine seq_step (by decide) (by decide) (fun K hK => ?_); go_simp; refine hK _ _ ?_; clear hK K)
              have C3 := run_find hr6 (i := 2) (m := m) (g := N) (es := es2) rfl ky (by omega)
              obtain ⟨fd, hfd⟩ : ∃ x, fdE es2 ky = x := ⟨_, rfl⟩
              rw [hfd] at C3
              with_reducible refine seq_move (by decide) (fun K hK => ?_)
              go_simp
              refine up_enter (C3.mono ?_)
              rintro e w7 ⟨rfl, hk7⟩
              have hr7 := hr6.pure hk7
              have hB7 := hr7.blk 0 rfl
              refine ⟨_, rfl, hB7, hK _ _ ?_⟩
              clear hK K hc6
              repeat (with_reducible refine seq_free (by decide) (by decide) (fun K hK => ?_); go_simp; first | (refine ex_steadyF ?_ (fun w' hw' => ?_) ?_; rotate_left; ((have hc' := Blk.cell hw'); go_simp; first | done | rfl); (refine hK _ _ ?_; clear hK K)) | (refine hK _ _ ?_; clear hK K))
              have C4 := run_rfind hr7 (i := 1) (m := m) (g := M) (es := es2) rfl ky (by omega)
              rw [hfd] at C4
              with_reducible refine seq_move (by decide) (fun K hK => ?_)
              go_simp
              refine up_enter (C4.mono ?_)
              rintro e w8 ⟨rfl, hk8⟩
              have hr8 := hr7.pure hk8
              have hB8 := hr8.blk 0 rfl
              refine ⟨_, rfl, hB8, hK _ _ ?_⟩
              clear hK K
              repeat (with_reducible refine seq_step (by decide) (by decide) (fun K hK => ?_); go_simp; refine hK _ _ ?_; clear hK K)
              have C5 := run_len hr8 (i := 2) (m := m) (g := N) (es := es2) rfl
              have C6 := run_rlen hr8 (i := 1) (m := m) (g := M) (es := es2) rfl
              obtain ⟨q, hq⟩ : ∃ x, es2.length = x := ⟨_, rfl⟩
              rw [hq] at C5 C6
              with_reducible refine seq_move (by decide) (fun K hK => ?_)
              go_simp
              refine up_enter (C5.mono ?_)
              rintro e w9 ⟨rfl, e9⟩
              obtain rfl := e9.symm
              refine ⟨_, rfl, hB8, hK _ _ ?_⟩
              clear hK K
              repeat (with_reducible refine seq_free (by decide) (by decide) (fun K hK => ?_); go_simp; first | (refine ex_steadyF ?_ (fun w' hw' => ?_) ?_; rotate_left; ((have hc' := Blk.cell hw'); go_simp; first | done | rfl); (refine hK _ _ ?_; clear hK K)) | (refine hK _ _ ?_; clear hK K))
              with_reducible refine seq_move (by decide) (fun K hK => ?_)
              go_simp
              refine up_enter (C6.mono ?_)
              rintro e w9 ⟨rfl, e9⟩
              obtain rfl := e9.symm
              refine ⟨_, rfl, hB8, hK _ _ ?_⟩
              clear hK K
              repeat (with_reducible refine seq_step (by decide) (by decide) (fun K hK => ?_); go_simp; refine hK _ _ ?_; clear hK K)
              with_reducible refine seq_nil ?_
              have Hr8 : Hid (Run w1 (fun _ => False) w8 [rrC m M es2, rgC m N es2]) := Lib.hid (hr8.drop 0)
              clear hr6 hr7 hr8 hB6 hB7 hB8 hk7 hk8 C3 C4 C5 C6 hq hfd hB5
              go_wp2
              go_roundw
              case measure => simp [intOf]; omega
              case rel => exact ⟨k + 1, by first | rfl | go_num, by omega, es2, Hes3, Hr8⟩
        · obtain rfl : k = n := by omega
          have hel : es.length ≤ 80 := by
            have h1 := playE_len (l.take k)
            rw [hes.out, List.length_take] at h1
            omega
          have hkeys := play_keys (l := l.take k) (fun x hx => Hk40.out x (List.mem_of_mem_take hx))
          rw [hes.out] at hkeys
          have hks : ∀ e ∈ es, e.1.size ≤ 1000000 := fun e he => by have := hkeys e he; omega
          have Hks := Lib.hid hks
          have hmx : max a 1 = (m : Int) := by have := Hm.out; unfold mS at this; omega
          have hm1 : 1 ≤ m ∧ m ≤ 64 := by have := Hm.out; unfold mS at this; omega
          obtain ⟨W, hW⟩ : ∃ W, wr = W := ⟨_, rfl⟩
          rw [hW] at hr ⊢
          clear hW hkeys hks hnn
          go_wp2
          go_loopw [12] (fun s wr => ∃ j : Int, s = .int .i64 j ∧ -1 ≤ j ∧ j ≤ m + 1 ∧ Hid (Run w1 (fun _ => False) wr [rrC m M es, rgC m N es])) (fun s _ => (m + 1 - intOf s).toNat)
          case atStart => exact ⟨-1, rfl, by omega, by omega, hr⟩
          case round =>
            obtain ⟨j, rfl, hj1, hj2, hrr⟩ := hrel
            by_cases hjm : j ≤ m
            · have C1 := run_load hrr.out (i := 1) (m := m) (g := N) (es := es) rfl j (by omega)
              obtain ⟨ld, hld⟩ : ∃ x, ldE m es j = x := ⟨_, rfl⟩
              rw [hld] at C1
              have C1 := Lib.hid C1
              go_wp2_with fail
              refine (C1.out).mono ?_
              rintro e w5 ⟨rfl, hk5⟩
              have hr5 := hrr.out.pure hk5
              have C2 := run_rload hr5 (i := 0) (m := m) (g := M) (es := es) rfl j (by omega) (by omega) Hks.out
              rw [hld] at C2
              have C2 := Lib.hid C2
              clear hld
              go_wp2_with fail
              refine (C2.out).mono ?_
              rintro e w6 ⟨rfl, hk6⟩
              have Hr6 := Lib.hid (hr5.pure hk6)
              clear hr5 hk5 hk6
              have hll : ((ld : Int) == (ld : Int)) = true := by simp
              go_wp2
              go_roundw
              case measure => simp [intOf]; omega
              case rel => exact ⟨j + 1, by first | rfl | go_num, by omega, by omega, Hr6⟩
            · have hjm' : ¬ j ≤ (m : Int) := hjm
              have hul := unE_len es p
              have hul0 := unE_len es ⟨#[]⟩
              have CA := run_under hrr.out (i := 1) (m := m) (g := N) (es := es) rfl p (by omega)
              obtain ⟨U, hU⟩ : ∃ U, unE es p = U := ⟨_, rfl⟩
              obtain ⟨V, hV⟩ : ∃ V, unE es ⟨#[]⟩ = V := ⟨_, rfl⟩
              rw [hU] at CA hul
              rw [hV] at hul0
              have HU := Lib.hid hU
              have HV := Lib.hid hV
              have CA := Lib.hid CA
              clear hU hV
              go_wp2_with fail
              refine (CA.out).mono ?_
              rintro e w5 ⟨A5, c5, rfl, hr5, _⟩
              have CB := run_runder hr5 (i := 1) (m := m) (g := M) (es := es) rfl p (by omega) (by omega) Hks.out
              rw [HU.out] at CB
              have CB := Lib.hid CB
              go_wp2_with fail
              refine (CB.out).mono ?_
              rintro e w6 ⟨A6, c6, rfl, hr6, _⟩
              have CT := texts_any A5 U.length c5 U A6 U.length c6 U w6 _ _ (hr6.own 1 rfl).sl (hr6.own 0 rfl).sl (by omega) (by omega)
              rw [show decide (U = U) = true from by simp] at CT
              have CT := Lib.hid CT
              have hr6' : Run w1 (fun _ => False) w6 [rrC m M es, rgC m N es] := (hr6.drop 0).drop 0
              have Hr6 := Lib.hid hr6'
              clear hr5 hr6 hr6'
              go_wp2_with fail
              refine (CT.out).mono ?_
              rintro e w7 ⟨rfl, hk7⟩
              have hr7 := Hr6.out.pure hk7
              have CA2 := run_under hr7 (i := 1) (m := m) (g := N) (es := es) rfl ⟨#[]⟩ (by omega)
              rw [HV.out] at CA2
              have CA2 := Lib.hid CA2
              clear hk7
              go_wp2_with fail
              refine (CA2.out).mono ?_
              rintro e w8 ⟨A8, c8, rfl, hr8, _⟩
              have CB2 := run_runder hr8 (i := 1) (m := m) (g := M) (es := es) rfl ⟨#[]⟩ (by omega) (by decide +kernel) Hks.out
              rw [HV.out] at CB2
              have CB2 := Lib.hid CB2
              clear hr7
              go_wp2_with fail
              refine (CB2.out).mono ?_
              rintro e w9 ⟨A9, c9, rfl, hr9, _⟩
              have CT2 := texts_any A8 V.length c8 V A9 V.length c9 V w9 _ _ (hr9.own 1 rfl).sl (hr9.own 0 rfl).sl (by omega) (by omega)
              rw [show decide (V = V) = true from by simp] at CT2
              have CT2 := Lib.hid CT2
              have Hp9 := Lib.hid (Hk1.out.same hr9.kept)
              clear hr8 hr9
              go_wp2_with fail
              refine (CT2.out).mono ?_
              rintro e w10 ⟨rfl, hk10⟩
              go_wp2
              go_ret
              exact ⟨rfl, Hp9.out.same hk10⟩
    · have hp' : ((40 : Int) < (p.size : Int)) = True := by simp; omega
      clear hs hf
      go_enter Try.func6, Try.ntmps6
      go_wp2_with fail
      refine (CF.out _).mono ?_
      rintro e w1 ⟨rfl, hk1⟩
      go_wp2_with fail
      refine (CL.out _ hk1).mono ?_
      rintro e w2 ⟨rfl, e2⟩
      obtain rfl := e2.symm
      go_wp2_with fail
      refine (CF.out _).mono ?_
      rintro e w3 ⟨rfl, hk3⟩
      go_wp2
      go_ret
      exact ⟨rfl, hk1.same hk3⟩
theorem regPlays_top (a : Int) (A : Option Addr) (c : Nat) (l : List Act) (p : ByteArray) (W : World) (_ : (Lit.int .i64 a).wf = true) (h0 : Sl W (fun _ => True) 3 A l.length (l.flatMap Act.cells)) (_ : l.length ≤ maxLen) (h2 : ∀ i ∈ l, i.Fits) (h3 : l.length ≤ c) (h4 : c ≤ maxLen) (hp : p.size ≤ maxLen) :
    Calls Try.prog 6 #[.int .i64 a, .slice A l.length c, .string p] W (BoolP true W) := plays_top a A c l p W _ h0 h2 hp
end Go.Proofs.Ytmpbmfahnbbbdaa
