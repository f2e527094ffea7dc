/-
  rw: RwEnds walked.
-/
import Derived.Test.YtggnndopncegaaaRwI
import Derived.Test.YtggnndopncegaaaRwJ
import Derived.LoopTactic
import Derived.Deep.QuietTactic
import Derived.BigQuiet
import Derived.Deep.CutBlock
import Derived.Deep.CutRange
set_option linter.unusedSimpArgs false
set_option linter.unusedVariables false
namespace Go.Proofs.Ytggnndopncegaaa
open Go.RowKit
set_option maxRecDepth 100000

set_option maxHeartbeats 3200000 in
theorem ends_top (A : Option Addr) (c : Nat) (l : List Act) (w : World) (F : Nat → Prop) (hs : Sl w F 2 A l.length (l.flatMap Act.cells)) (hf : ∀ a ∈ l, a.Fits) :
    Calls Try.prog 6 #[.slice A l.length c] w (BoolP true w) := by
  have CF := Lib.hid first22
  have CN := Lib.hid lk_new
  obtain ⟨n, hn⟩ : ∃ n, l.length = n := ⟨_, rfl⟩
  rw [hn] at hs ⊢
  by_cases h100 : n ≤ 100
  · have Hs := Lib.hid hs
    have Hn := Lib.hid hn
    have Hf := Lib.hid hf
    clear hs hn hf
    have hgt : ¬ (100 : Int) < (n : Int) := by omega
    go_enter Try.func6, Try.ntmps6
    go_wp2_with fail
    refine (CF.out _).mono ?_
    rintro e w1 ⟨rfl, hk1⟩
    go_wp2_with fail
    refine (CN.out _).mono ?_
    rintro e w3 ⟨rfl, hm3, hk3⟩
    obtain ⟨N, hN⟩ : ∃ N, w1.heap.size = N := ⟨_, rfl⟩
    rw [hN] at hm3
    have hk : Pure w w3 := hk1.same hk3
    have hNw : w.heap.size ≤ N := by have := hk1.size; omega
    have Hk := Lib.hid hk
    have Hm3 := Lib.hid hm3
    clear hk1 hk3 hk hm3
    rw [hN]
    clear hN
    go_wp2
    go_loopw [4] (fun i wr => ∃ k : Nat, i = .int .i64 k ∧ k ≤ n ∧ Hid (LN wr N N (playL (l.take k))) ∧ Hid (Kept (fun b => N ≤ b) w3 wr)) (fun i _ => n - (intOf i).toNat)
    case atStart => exact ⟨0, rfl, Nat.zero_le _, Hm3.out, Kept.refl _ _⟩
    case round =>
      obtain ⟨k, rfl, hkn, hln, hkr⟩ := hrel
      obtain ⟨hg, hz1, hz2⟩ := playL_law (l.take k)
      have hlk : (l.take k).length = k := by rw [List.length_take]; have := Hn.out; omega
      rw [hlk] at hz1 hz2
      by_cases hlt : k < n
      · obtain ⟨b, o, rfl, _, _, _⟩ := Hs.out.2 (by omega)
        obtain ⟨a, ha⟩ : ∃ a, l[k]? = some a := ⟨_, List.getElem?_eq_getElem (by have := Hn.out; omega)⟩
        have hkw : Kept (fun b => N ≤ b) w wr := (Hk.out.mono (fun _ _ h => h.elim)).same hkr.out
        have hsr := Hs.out.kept hkw (fun b hb _ h => by omega)
        have hc0 := sl_at Act.cells_len hsr (by omega) ha 0 (by omega)
        have hc1 := sl_at Act.cells_len hsr (by omega) ha 1 (by omega)
        simp only [Act.cells] at hc0 hc1
        rw [Nat.add_zero] at hc0
        have hki : (k : Int) < (n : Int) := by omega
        have hst : playL (l.take (k + 1)) = stepL (playL (l.take k)) a := by rw [List.take_add_one, ha, Option.toList_some, playL_snoc]
        obtain ⟨op, who⟩ := a
        simp only at hc0 hc1
        have Hst := Lib.hid hst
        clear hlk hst hg hsr ha hkw hz1
        go_upto_region 11 with fail
        go_cut [36] from 17 to 56 (fun s wx => s = .bool (decide (op = 0) || decide (op = 1)) ∧ wr = wx)
        case first =>
          by_cases hop0 : op = 0
          · subst hop0
            go_wp2
            go_meet
            exact ⟨rfl, rfl⟩
          · have h0 : (op == 0) = false := by simpa using hop0
            by_cases hop1 : op = 1
            · subst hop1
              go_wp2
              go_meet
              exact ⟨rfl, rfl⟩
            · have h1 : (op == 1) = false := by simpa using hop1
              go_wp2
              go_meet
              exact ⟨by simp [hop0, hop1], rfl⟩
        case rest =>
        obtain ⟨rfl, rfl⟩ := hcut
        by_cases hop0 : op = 0
        · have CA := ask_n N wr.drew N _ who false (hln.out.kept (Kept.refl (fun _ => False) wr).drew (fun _ _ _ h => h)) (by omega)
          have he : stepL (playL (l.take k)) ⟨op, who⟩ = ((playL (l.take k)).ask who false).2 := by unfold stepL; rw [if_pos (.inl hop0)]; simp [hop0]
          have CA := Lib.hid CA
          have He := Lib.hid he
          clear he
          subst hop0
          go_wp2
          refine wp_region_seq [12] [] (by kernel_rfl) (by kernel_rfl) (by kernel_rfl) ?_
          repeat (with_reducible refine seq_step (by decide) (by decide) (fun K hK => ?_); go_simp; refine hK _ _ ?_; clear hK K)
          with_reducible refine seq_move (by decide) (fun K hK => ?_)
          go_simp
          refine up_enter ((CA.out).mono ?_)
          rintro e w1 ⟨rfl, hl1, hk1⟩
          refine ⟨_, rfl, hK _ _ ?_⟩
          clear hK K
          have hlx : Hid (LN w1 N N (stepL (playL (l.take k)) ⟨_, who⟩)) := Lib.hid (by rw [He.out]; exact hl1)
          have hkx : Hid (Kept (fun b => N ≤ b) wr w1) := Lib.hid ((Kept.refl _ wr).drew.same hk1)
          clear hl1 hk1
          with_reducible refine seq_nil ?_
          rw [← Hst.out] at hlx
          have hkr5 := hkr.out.same hkx.out
          have Hkr5 := Lib.hid hkr5
          clear Hst hc0 hc1 hkx hkr5 hz2 hln hkr
          go_wp2
          go_roundw
          case measure => simp [intOf]; omega
          case rel => exact ⟨k + 1, by first | rfl | go_num, by omega, hlx, Hkr5⟩
        · have h0 : (op == 0) = false := by simpa using hop0
          by_cases hop1 : op = 1
          · have CA := ask_n N wr.drew N _ who true (hln.out.kept (Kept.refl (fun _ => False) wr).drew (fun _ _ _ h => h)) (by omega)
            have he : stepL (playL (l.take k)) ⟨op, who⟩ = ((playL (l.take k)).ask who true).2 := by unfold stepL; rw [if_pos (.inr hop1)]; simp [hop1]
            have CA := Lib.hid CA
            have He := Lib.hid he
            clear he
            subst hop1
            go_wp2
            refine wp_region_seq [12] [] (by kernel_rfl) (by kernel_rfl) (by kernel_rfl) ?_
            repeat (with_reducible refine seq_step (by decide) (by decide) (fun K hK => ?_); go_simp; refine hK _ _ ?_; clear hK K)
            with_reducible refine seq_move (by decide) (fun K hK => ?_)
            go_simp
            refine up_enter ((CA.out).mono ?_)
            rintro e w1 ⟨rfl, hl1, hk1⟩
            refine ⟨_, rfl, hK _ _ ?_⟩
            clear hK K
            have hlx : Hid (LN w1 N N (stepL (playL (l.take k)) ⟨_, who⟩)) := Lib.hid (by rw [He.out]; exact hl1)
            have hkx : Hid (Kept (fun b => N ≤ b) wr w1) := Lib.hid ((Kept.refl _ wr).drew.same hk1)
            clear hl1 hk1
            with_reducible refine seq_nil ?_
            rw [← Hst.out] at hlx
            have hkr5 := hkr.out.same hkx.out
            have Hkr5 := Lib.hid hkr5
            clear Hst hc0 hc1 hkx hkr5 hz2 hln hkr
            go_wp2
            go_roundw
            case measure => simp [intOf]; omega
            case rel => exact ⟨k + 1, by first | rfl | go_num, by omega, hlx, Hkr5⟩
          · have h1 : (op == 1) = false := by simpa using hop1
            have CL := leave_n N wr N _ who hln.out (by omega)
            have he : stepL (playL (l.take k)) ⟨op, who⟩ = ((playL (l.take k)).leave who).2 := by unfold stepL; rw [if_neg (by simp only; omega)]
            have CL := Lib.hid CL
            have He := Lib.hid he
            have hcc : (decide (op = 0) || decide (op = 1)) = false := by simp [hop0, hop1]
            clear he
            go_wp2_with fail
            refine (CL.out).mono ?_
            rintro e w1 ⟨_, _, _, rfl, _, hl1, hk1⟩
            have hlx : Hid (LN w1 N N (stepL (playL (l.take k)) ⟨op, who⟩)) := Lib.hid (by rw [He.out]; exact hl1)
            have hkx : Hid (Kept (fun b => N ≤ b) wr w1) := Lib.hid hk1
            clear hl1 hk1
            rw [← Hst.out] at hlx
            have hkr5 := hkr.out.same hkx.out
            have Hkr5 := Lib.hid hkr5
            clear Hst hc0 hc1 hkx hkr5 hz2 hln hkr
            go_wp2
            go_roundw
            case measure => simp [intOf]; omega
            case rel => exact ⟨k + 1, by first | rfl | go_num, by omega, hlx, Hkr5⟩
      · obtain rfl : k = n := by omega
        obtain ⟨k2, hk2⟩ : ∃ k2, playL (l.take k) = k2 := ⟨_, rfl⟩
        rw [hk2] at hln hg hz1 hz2
        have CQ := Lib.hid (lk_queue wr _ N k2 hln.out (by omega))
        go_wp2_with fail
        refine (CQ.out).mono ?_
        rintro e w4 ⟨Aq, nq, cq, rfl, hsq, hk4⟩
        have hnq := sli_len hsq
        rw [List.length_map] at hnq
        have hl4 := hln.out.kept hk4 (fun _ _ _ h => h)
        have hkr4 : Kept (fun b => N ≤ b) w3 w4 := hkr.out.same (hk4.mono (fun _ _ h => h.elim))
        have Hl4 := Lib.hid hl4
        have Hkr4 := Lib.hid hkr4
        have Hnq := Lib.hid hnq
        have Hg := Lib.hid hg
        have Hz1 := Lib.hid hz1
        have Hz2 := Lib.hid hz2
        clear hk2 hlk hln hkr hsq hk4 hnq hl4 hkr4 hg hz1 hz2
        go_wp2
        go_loopw [6, 7] (fun cc i wx => ∃ (m q : Nat) (kk : Lk), i = .int .i64 m ∧ cc = .int .i64 q ∧ q ≤ nq ∧ m ≤ 100 ∧ Hid (Good kk ∧ m + kk.sz ≤ 100 ∧ q + kk.qu.length = nq ∧ kk.size ≤ 100) ∧ Hid (LN wx N N kk) ∧ Hid (Kept (fun b => N ≤ b) w3 wx)) (fun _ i _ => 200 - (intOf i).toNat)
        case atStart => exact ⟨0, 0, k2, rfl, rfl, Nat.zero_le _, by omega, ⟨Hg.out, by have := Hz1.out; omega, by have := Hnq.out; omega, by have := Hz2.out; omega⟩, Hl4, Hkr4⟩
        case round =>
          obtain ⟨m, q, kk, rfl, rfl, hq, hm, hgk, hlw, hkw⟩ := hrel
          have CH := Lib.hid (lk_holders wr _ N kk hlw.out (by have := hgk.out.2.2.2; omega))
          have hmi : (m : Int) < 200 := by omega
          go_wp2_with fail
          refine (CH.out).mono ?_
          rintro e w5 ⟨Ah, nh, ch, rfl, hsh, hk5⟩
          have hnh := sli_len hsh
          have hl5 := hlw.out.kept hk5 (fun _ _ _ h => h)
          have hkr5 : Kept (fun b => N ≤ b) w3 w5 := hkw.out.same (hk5.mono (fun _ _ h => h.elim))
          have Hl5 := Lib.hid hl5
          have Hkr5 := Lib.hid hkr5
          by_cases hn0 : nh = 0
          · have hq0 : kk.qu.length = 0 := (alone_law hgk.out.1).2.2.2 (by omega)
            have hqn : q = nq := by have := hgk.out.2.2.1; omega
            subst hqn hn0
            have CH2 := fun w' (h : Pure w5 w') => lk_holders w' _ N kk (hl5.kept h (fun _ _ _ h => h)) (by have := hgk.out.2.2.2; omega)
            have CQ2 := fun w' (h : Pure w5 w') => lk_queue w' _ N kk (hl5.kept h (fun _ _ _ h => h)) (by have := hgk.out.2.2.2; omega)
            have CH2 := Lib.hid CH2
            have CQ2 := Lib.hid CQ2
            have Hnh := Lib.hid hnh
            have Hq0 := Lib.hid hq0
            clear hsh hk5 hnh hl5 hkr5 hq0
            go_wp2_with fail
            refine (CH2.out w5 (Kept.refl _ _)).mono ?_
            rintro e w6 ⟨A6, n6, c6, rfl, hs6, hk6⟩
            have hn6 : n6 = 0 := by have := sli_len hs6; have := Hnh.out; omega
            subst hn6
            go_wp2_with fail
            refine (CQ2.out w6 hk6).mono ?_
            rintro e w7 ⟨A7, n7, c7, rfl, hs7, hk7⟩
            have hn7 : n7 = 0 := by have := sli_len hs7; rw [List.length_map] at this; have := Hq0.out; omega
            subst hn7
            have hend := Hk.out.trans (Hkr5.out.same ((hk6.same hk7).mono (fun _ _ h => h.elim))) (fun b hb h => by omega)
            have Hend := Lib.hid hend
            clear hs6 hk6 hs7 hk7 hend
            go_wp2
            go_ret
            exact ⟨rfl, Hend.out⟩
          · have hnpos : (0 : Int) < (nh : Int) := by omega
            obtain ⟨x, hx⟩ : ∃ x, kk.holders[0]? = some x := ⟨_, List.getElem?_eq_getElem (by omega)⟩
            have CH2 := Lib.hid (lk_holders w5 _ N kk hl5 (by have := hgk.out.2.2.2; omega))
            have CL := fun w' (h : Pure w5 w') => leave_n N w' N kk x (hl5.kept h (fun _ _ _ h => h)) (by have := hgk.out.2.2.2; omega)
            have CL := Lib.hid CL
            have Hnh := Lib.hid hnh
            obtain ⟨e1, e2, e3⟩ := ends_law hgk.out.1 (List.mem_of_getElem? hx)
            have e4 := leave_size kk x
            have hgk' : Good (kk.leave x).2 ∧ (m + 1) + (kk.leave x).2.sz ≤ 100 ∧ (q + (kk.leave x).1.length) + (kk.leave x).2.qu.length = nq ∧ (kk.leave x).2.size ≤ 100 := by
              have := hgk.out
              exact ⟨e1, by omega, by omega, by omega⟩
            have Hgk' := Lib.hid hgk'
            have Hx := Lib.hid hx
            clear hsh hk5 hnh hl5 hkr5 e1 e2 e3 e4 hgk' hx
            go_wp2_with fail
            refine (CH2.out).mono ?_
            rintro e w6 ⟨A6, n6, c6, rfl, hs6, hk6⟩
            have hn6 : n6 = nh := by have := sli_len hs6; have := Hnh.out; omega
            subst hn6
            obtain ⟨b6, o6, rfl, _, _, _⟩ := hs6.2 (by omega)
            have hc6 := sli_at hs6 Hx.out
            rw [Nat.add_zero] at hc6
            clear hs6
            go_wp2_with fail
            refine (CL.out w6 hk6).mono ?_
            rintro e w7 ⟨A7, n7, c7, rfl, hs7, hl7, hk7⟩
            have hn7 : (kk.leave x).1.length = n7 := sli_len hs7
            have hg8 := Hgk'.out
            rw [hn7] at hg8
            have Hg8 := Lib.hid hg8
            have hend := Hkr5.out.same ((hk6.mono (fun _ _ h => h.elim)).same hk7)
            have Hend := Lib.hid hend
            have Hl7 := Lib.hid hl7
            have hq7 : q + n7 ≤ nq := by omega
            have hnq : nq ≤ 1000 := by have := Hnq.out; have := Hz2.out; unfold Lk.size at this; omega
            have hz8 : m + 1 ≤ 100 := by omega
            clear hs7 hk6 hl7 hk7 hn7 hg8 hend
            go_wp2
            go_roundw
            case measure => simp [intOf]; omega
            case rel => exact ⟨m + 1, q + n7, (kk.leave x).2, by first | rfl | go_num, by first | rfl | go_num, by omega, by omega, Hg8, Hl7, Hend⟩
  · have h100' : (100 : Int) < (n : Int) := by omega
    clear hs hf hn
    go_enter Try.func6, Try.ntmps6
    go_wp2_with fail
    refine (CF.out _).mono ?_
    rintro e w1 ⟨rfl, hk1⟩
    go_wp2_with fail
    refine (CF.out _).mono ?_
    rintro e w3 ⟨rfl, hk3⟩
    go_wp2
    go_ret
    exact ⟨rfl, hk1.same hk3⟩
theorem rwEnds_top (A : Option Addr) (c : Nat) (l : List Act) (W : World) (h0 : Sl W (fun _ => True) 2 A l.length (l.flatMap Act.cells)) (_ : l.length ≤ maxLen) (h2 : ∀ i ∈ l, i.Fits) (h3 : l.length ≤ c) (h4 : c ≤ maxLen) :
    Calls Try.prog 6 #[.slice A l.length c] W fun e W' => e = .returned (.bool true) ∧ Pure W W' := ends_top A c l W _ h0 h2
end Go.Proofs.Ytggnndopncegaaa
