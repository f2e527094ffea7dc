/-
  reg: RegShards walked.
-/
import Derived.Test.YtmpbmfahnbbbdaaRgJ
import Derived.LoopTactic
import Derived.Deep.QuietTactic
import Derived.BigQuiet
set_option linter.unusedSimpArgs false
set_option linter.unusedVariables false
namespace Go.Proofs.Ytmpbmfahnbbbdaa
open Go.RowKit
set_option maxRecDepth 100000

theorem light_bound {s : Int} {l : List Act} (h : lightB s l = true) : s ≤ 64 ∧ l.length ≤ 80 ∧ ∀ a ∈ l, a.key.size ≤ 40 := by
  simp only [lightB, lightL, Bool.and_eq_true, decide_eq_true_eq] at h
  refine ⟨h.1, h.2.1, fun a ha => ?_⟩
  have := List.all_eq_true.1 h.2.2 a ha
  simpa using this
set_option maxHeartbeats 6400000 in
theorem shards_top (a b : Int) (A : Option Addr) (c : Nat) (l : List Act) (p : ByteArray) (w : World) (F : Nat → Prop) (hs : Sl w F 3 A l.length (l.flatMap Act.cells)) (hf : ∀ a ∈ l, a.Fits) (hps : p.size ≤ maxLen) :
    Calls Try.prog 3 #[.int .i64 a, .int .i64 b, .slice A l.length c, .string p] w (BoolP true w) := by
  have CF := Lib.hid first21
  have CL := Lib.hid (fun w' (h : Pure w w') => light_any a A c l w' F (hs.kept h (fun _ _ _ h => h)) hf)
  obtain ⟨n, hn⟩ : ∃ n, l.length = n := ⟨_, rfl⟩
  rw [hn] at CL hs ⊢
  unfold maxLen at hps
  cases hL : lightB a l with
  | false =>
    rw [hL] at CL
    clear hs hf
    go_enter Try.func3, Try.ntmps3
    go_wp2_with fail
    refine (CF.out _).mono ?_
    rintro e w1 ⟨rfl, hk1⟩
    go_wp2_with fail
    refine (CL.out _ hk1).mono ?_
    rintro e w2 ⟨rfl, e2⟩
    obtain rfl := e2.symm
    go_wp2_with fail
    refine (CF.out _).mono ?_
    rintro e w3 ⟨rfl, hk3⟩
    go_wp2
    go_ret
    exact ⟨rfl, hk1.same hk3⟩
  | true =>
    rw [hL] at CL
    obtain ⟨ha64, hn80, hk40⟩ := light_bound hL
    rw [hn] at hn80
    by_cases hb64 : b ≤ 64
    · have hb' : (64 < b) = False := by simp; omega
      by_cases hp40 : p.size ≤ 40
      · have hp' : ((40 : Int) < (p.size : Int)) = False := by simp; omega
        have Hs := Lib.hid hs
        have Hf := Lib.hid hf
        have Hn := Lib.hid hn
        have Hk40 := Lib.hid hk40
        clear hs hf hn hk40 hL
        go_enter Try.func3, Try.ntmps3
        go_wp2_with fail
        refine (CF.out _).mono ?_
        rintro e w1 ⟨rfl, hk1⟩
        go_wp2_with fail
        refine (CL.out _ hk1).mono ?_
        rintro e w2 ⟨rfl, e2⟩
        obtain rfl := e2.symm
        have hr0 := (Run.start (F := fun _ => False) (w := w1) (Ps := []) trivial)
        have CN := Lib.hid (run_new hr0 a ha64)
        clear hr0
        go_wp2_with fail
        refine (CN.out).mono ?_
        rintro e w3 ⟨rfl, hr3, hk3⟩
        have CM := Lib.hid (run_new hr3 b hb64)
        clear hk3
        obtain ⟨N, hN⟩ : ∃ N, w1.heap.size = N := ⟨_, rfl⟩
        obtain ⟨M, hM⟩ : ∃ M, w3.heap.size = M := ⟨_, rfl⟩
        obtain ⟨m1, hm1⟩ : ∃ m, mS a = m := ⟨_, rfl⟩
        obtain ⟨m2, hm2⟩ : ∃ m, mS b = m := ⟨_, rfl⟩
        rw [hM, hN, hm1, hm2] at CM
        rw [hN]
        have HN := Lib.hid hN
        clear hr3 hN hM hm1 hm2
        go_wp2_with fail
        refine (CM.out).mono ?_
        rintro e w4 ⟨rfl, hr4, hk4⟩
        have Hr4 := Lib.hid hr4
        have Hk1 := Lib.hid hk1
        clear hk1 hk4 hr4
        go_wp2
        go_loopw [11] (fun i wr => ∃ k : Nat, i = .int .i64 k ∧ k ≤ n ∧ ∃ es : Es, Hid (playE (l.take k) = es) ∧ Hid (Run w1 (fun _ => False) wr [rgC m2 M es, rgC m1 N es])) (fun i _ => n - (intOf i).toNat)
        case atStart => exact ⟨0, rfl, Nat.zero_le _, [], rfl, Hr4⟩
        case round =>
          obtain ⟨k, rfl, hkn, es, hes, hr⟩ := hrel
          by_cases hlt : k < n
          · obtain ⟨bl, o, rfl, _, _, _⟩ := Hs.out.2 (by omega)
            obtain ⟨ac, hac⟩ : ∃ ac, l[k]? = some ac := ⟨_, List.getElem?_eq_getElem (by have := Hn.out; omega)⟩
            have hak := Hk40.out ac (List.mem_of_getElem? hac)
            have hsr := fun (wx : World) (h : Pure w1 wx) => Hs.out.kept (Hk1.out.same h) (fun _ _ _ h => h)
            have hcc := fun (wx : World) (h : Pure w1 wx) => (⟨sl_at Act.cells_len (hsr wx h) (by omega) hac 0 (by omega), sl_at Act.cells_len (hsr wx h) (by omega) hac 1 (by omega), sl_at Act.cells_len (hsr wx h) (by omega) hac 2 (by omega)⟩ : _ ∧ _ ∧ _)
            have hes2 : playE (l.take (k + 1)) = stepA es ac := by rw [List.take_add_one, hac, Option.toList_some, playE_snoc, hes.out]
            have hel : es.length ≤ 80 := by
              have h1 := playE_len (l.take k)
              rw [hes.out, List.length_take] at h1
              omega
            have hel2 : (stepA es ac).length ≤ 81 := Nat.le_trans (step_len _ _ _ _) (by omega)
            have C1 := Lib.hid (run_step (a := ac) hr.out.drew (i := 1) (m := m1) (g := N) (es := es) rfl (by omega) (by omega))
            obtain ⟨Bs, hBs⟩ : ∃ B, (stepE es ac.op ac.key ac.id).1 = B := ⟨_, rfl⟩
            obtain ⟨es2, hE2⟩ : ∃ e, stepA es ac = e := ⟨_, rfl⟩
            rw [hBs, hE2] at C1
            have C2 := Lib.hid (fun (wx : World) (h : Run w1 (fun _ => False) wx [rgC m2 M es, rgC m1 N es2]) => run_step (a := ac) h (i := 0) (m := m2) (g := M) (es := es) rfl (by omega) (by omega))
            rw [hBs, hE2] at C2
            rw [hE2] at hes2 hel2
            obtain ⟨op, key, id⟩ := ac
            simp only [Act.cells] at hcc
            have hcc2 : ∀ wx : World, Pure w1 wx → wx.cell? ⟨bl, o + k * 3, none⟩ = some (.int .i64 op) ∧ wx.cell? ⟨bl, o + k * 3 + 1, none⟩ = some (.string key) ∧ wx.cell? ⟨bl, o + k * 3 + 2, none⟩ = some (.int .i64 id) := hcc
            have Hcc := Lib.hid hcc2
            obtain ⟨hc0, hc1, hc2⟩ := hcc2 wr hr.out.kept
            simp only at hak C1 C2
            have C3 := Lib.hid (fun (wx : World) (h : Run w1 (fun _ => False) wx [rgC m2 M es2, rgC m1 N es2]) => run_find h (i := 1) (m := m1) (g := N) rfl key (by omega))
            have C4 := Lib.hid (fun (wx : World) (h : Run w1 (fun _ => False) wx [rgC m2 M es2, rgC m1 N es2]) => run_find h (i := 0) (m := m2) (g := M) rfl key (by omega))
            have C5 := Lib.hid (fun (wx : World) (h : Run w1 (fun _ => False) wx [rgC m2 M es2, rgC m1 N es2]) => run_len h (i := 1) (m := m1) (g := N) rfl)
            have C6 := Lib.hid (fun (wx : World) (h : Run w1 (fun _ => False) wx [rgC m2 M es2, rgC m1 N es2]) => run_len h (i := 0) (m := m2) (g := M) rfl)
            obtain ⟨fd, hfd⟩ : ∃ x, fdE es2 key = x := ⟨_, rfl⟩
            obtain ⟨q, hq⟩ : ∃ x, es2.length = x := ⟨_, rfl⟩
            rw [hfd] at C3 C4
            rw [hq] at C5 C6
            have Hes2 := Lib.hid hes2
            have hki : (k : Int) < (n : Int) := by omega
            clear hsr hcc hcc2 hac hBs hE2 hes2 hfd hq hel2
            go_wp2
            refine wp_region_seqS (fun x => x.cell? ⟨bl, o + k * 3, none⟩ = some (.int .i64 op) ∧ x.cell? ⟨bl, o + k * 3 + 1, none⟩ = some (.string key) ∧ x.cell? ⟨bl, o + k * 3 + 2, none⟩ = some (.int .i64 id)) [5, 11, 20, 27, 32, 34] [6, 7, 8, 9, 10, 21, 22, 23, 24, 25, 26, 33] (by kernel_rfl) (by kernel_rfl) (by kernel_rfl) ⟨hc0, hc1, hc2⟩ ?_
            repeat (with_reducible refine seq_step (by decide) (by decide) (fun K hK => ?_); go_simp; refine hK _ _ ?_; clear hK K)
            with_reducible refine seq_move (by decide) (fun K hK => ?_)
            go_simp
            refine up_enter (C1.out.mono ?_)
            rintro e w5 ⟨rfl, hr5⟩
            have hr5 : Run w1 (fun _ => False) w5 [rgC m2 M es, rgC m1 N es2] := hr5
            refine ⟨_, rfl, Hcc.out w5 hr5.kept, hK _ _ ?_⟩
            clear hK K
            repeat (with_reducible refine seq_free (by decide) (by decide) (fun K hK => ?_); go_simp; first | (refine ex_steadyF ?_ (fun w' hw' => ?_) ?_; rotate_left; ((obtain ⟨hA, hB, hC⟩ := hw'); go_simp; first | done | rfl); (refine hK _ _ ?_; clear hK K)) | (refine hK _ _ ?_; clear hK K))
            with_reducible refine seq_move (by decide) (fun K hK => ?_)
            go_simp
            refine up_enter ((C2.out w5 hr5).mono ?_)
            rintro e w6 ⟨rfl, hr6⟩
            have hr6 : Run w1 (fun _ => False) w6 [rgC m2 M es2, rgC m1 N es2] := hr6
            obtain ⟨hd0, hd1, hd2⟩ := Hcc.out w6 hr6.kept
            refine ⟨_, rfl, ⟨hd0, hd1, hd2⟩, hK _ _ ?_⟩
            clear hK K
            repeat (with_reducible refine seq_step (by decide) (by decide) (fun K hK => ?_); go_simp; refine hK _ _ ?_; clear hK K)
            with_reducible refine seq_move (by decide) (fun K hK => ?_)
            go_simp
            refine up_enter ((C3.out w6 hr6).mono ?_)
            rintro e w7 ⟨rfl, hk7⟩
            have hr7 := hr6.pure hk7
            refine ⟨_, rfl, Hcc.out w7 hr7.kept, hK _ _ ?_⟩
            clear hK K
            repeat (with_reducible refine seq_free (by decide) (by decide) (fun K hK => ?_); go_simp; first | (refine ex_steadyF ?_ (fun w' hw' => ?_) ?_; rotate_left; ((obtain ⟨hA, hB, hC⟩ := hw'); go_simp; first | done | rfl); (refine hK _ _ ?_; clear hK K)) | (refine hK _ _ ?_; clear hK K))
            with_reducible refine seq_move (by decide) (fun K hK => ?_)
            go_simp
            refine up_enter ((C4.out w7 hr7).mono ?_)
            rintro e w8 ⟨rfl, hk8⟩
            have hr8 := hr7.pure hk8
            refine ⟨_, rfl, Hcc.out w8 hr8.kept, hK _ _ ?_⟩
            clear hK K
            repeat (with_reducible refine seq_step (by decide) (by decide) (fun K hK => ?_); go_simp; refine hK _ _ ?_; clear hK K)
            with_reducible refine seq_move (by decide) (fun K hK => ?_)
            go_simp
            refine up_enter ((C5.out w8 hr8).mono ?_)
            rintro e w9 ⟨rfl, e9⟩
            obtain rfl := e9.symm
            refine ⟨_, rfl, Hcc.out w8 hr8.kept, hK _ _ ?_⟩
            clear hK K
            repeat (with_reducible refine seq_free (by decide) (by decide) (fun K hK => ?_); go_simp; first | (refine ex_steadyF ?_ (fun w' hw' => ?_) ?_; rotate_left; ((obtain ⟨hA, hB, hC⟩ := hw'); go_simp; first | done | rfl); (refine hK _ _ ?_; clear hK K)) | (refine hK _ _ ?_; clear hK K))
            with_reducible refine seq_move (by decide) (fun K hK => ?_)
            go_simp
            refine up_enter ((C6.out w8 hr8).mono ?_)
            rintro e w9 ⟨rfl, e9⟩
            obtain rfl := e9.symm
            refine ⟨_, rfl, Hcc.out w8 hr8.kept, hK _ _ ?_⟩
            clear hK K
            repeat (with_reducible refine seq_step (by decide) (by decide) (fun K hK => ?_); go_simp; refine hK _ _ ?_; clear hK K)
            with_reducible refine seq_nil ?_
            have Hr8 := Lib.hid hr8
            clear hr5 hr6 hk7 hr7 hk8 hr8 hc0 hc1 hc2 hd0 hd1 hd2
            go_wp2
            go_roundw
            case measure => simp [intOf]; omega
            case rel => exact ⟨k + 1, by first | rfl | go_num, by omega, es2, Hes2, Hr8⟩
          · obtain rfl : k = n := by omega
            have hel : es.length ≤ 1000 := by
              have h1 := playE_len (l.take k)
              rw [hes.out, List.length_take] at h1
              omega
            have C1 := Lib.hid (run_under hr.out (i := 1) (m := m1) (g := N) (es := es) rfl p hel)
            have C2 := Lib.hid (fun (wx : World) (P : Ch) (h : Run w1 (fun _ => False) wx [P, rgC m2 M es, rgC m1 N es]) => run_under h (i := 1) (m := m2) (g := M) (es := es) rfl p hel)
            obtain ⟨U, hU⟩ : ∃ U, unE es p = U := ⟨_, rfl⟩
            have hul : U.length ≤ 1000 := by
              rw [← hU]
              unfold unE
              rw [List.length_map]
              exact Nat.le_trans (List.length_filter_le _ _) hel
            rw [hU] at C1 C2
            clear hU
            go_wp2_with fail
            refine (C1.out).mono ?_
            rintro e w5 ⟨A5, c5, rfl, hr5, _⟩
            go_wp2_with fail
            refine ((C2.out w5 _ hr5)).mono ?_
            rintro e w6 ⟨A6, c6, rfl, hr6, _⟩
            have CT := texts_any A5 U.length c5 U A6 U.length c6 U w6 _ _ (hr6.own 1 rfl).sl (hr6.own 0 rfl).sl (by omega) (by omega)
            rw [show decide (U = U) = true from by simp] at CT
            have CT := Lib.hid CT
            have Hp6 := Lib.hid (Hk1.out.same hr6.kept)
            clear hr5 hr6
            go_wp2_with fail
            refine (CT.out).mono ?_
            rintro e w7 ⟨rfl, hk7⟩
            go_wp2
            go_ret
            exact ⟨rfl, Hp6.out.same hk7⟩
      · have hp' : ((40 : Int) < (p.size : Int)) = True := by simp; omega
        clear hs hf
        go_enter Try.func3, Try.ntmps3
        go_wp2_with fail
        refine (CF.out _).mono ?_
        rintro e w1 ⟨rfl, hk1⟩
        go_wp2_with fail
        refine (CL.out _ hk1).mono ?_
        rintro e w2 ⟨rfl, e2⟩
        obtain rfl := e2.symm
        go_wp2_with fail
        refine (CF.out _).mono ?_
        rintro e w3 ⟨rfl, hk3⟩
        go_wp2
        go_ret
        exact ⟨rfl, hk1.same hk3⟩
    · have hb' : (64 < b) = True := by simp; omega
      clear hs hf
      go_enter Try.func3, Try.ntmps3
      go_wp2_with fail
      refine (CF.out _).mono ?_
      rintro e w1 ⟨rfl, hk1⟩
      go_wp2_with fail
      refine (CL.out _ hk1).mono ?_
      rintro e w2 ⟨rfl, e2⟩
      obtain rfl := e2.symm
      go_wp2_with fail
      refine (CF.out _).mono ?_
      rintro e w3 ⟨rfl, hk3⟩
      go_wp2
      go_ret
      exact ⟨rfl, hk1.same hk3⟩
theorem regShards_top (a b : Int) (A : Option Addr) (c : Nat) (l : List Act) (p : ByteArray) (W : World) (_ : (Lit.int .i64 a).wf = true) (_ : (Lit.int .i64 b).wf = true) (h0 : Sl W (fun _ => True) 3 A l.length (l.flatMap Act.cells)) (_ : l.length ≤ maxLen) (h2 : ∀ i ∈ l, i.Fits) (h3 : l.length ≤ c) (h4 : c ≤ maxLen) (hp : p.size ≤ maxLen) :
    Calls Try.prog 3 #[.int .i64 a, .int .i64 b, .slice A l.length c, .string p] W (BoolP true W) := shards_top a b A c l p W _ h0 h2 hp
end Go.Proofs.Ytmpbmfahnbbbdaa
