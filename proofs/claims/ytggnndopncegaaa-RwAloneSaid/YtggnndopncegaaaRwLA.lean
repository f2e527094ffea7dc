/-
  rw: RwAlone walked.
-/
import Derived.Test.YtggnndopncegaaaRwI
import Derived.Test.YtggnndopncegaaaRwJ
import Derived.LoopTactic
import Derived.Deep.QuietTactic
import Derived.BigQuiet
import Derived.Deep.CutBlock
import Derived.Deep.CutRange
set_option linter.unusedSimpArgs false
set_option linter.unusedVariables false
namespace Go.Proofs.Ytggnndopncegaaa
open Go.RowKit
set_option maxRecDepth 100000

set_option maxHeartbeats 3200000 in
theorem alone_top (A : Option Addr) (c : Nat) (l : List Act) (w : World) (F : Nat → Prop) (hs : Sl w F 2 A l.length (l.flatMap Act.cells)) (hf : ∀ a ∈ l, a.Fits) (hcap : l.length ≤ c) (hcm : c ≤ maxLen) :
    Calls Try.prog 4 #[.slice A l.length c] w (BoolP true w) := by
  have CF := Lib.hid first22
  have CN := Lib.hid lk_new
  obtain ⟨n, hn⟩ : ∃ n, l.length = n := ⟨_, rfl⟩
  rw [hn] at hs hcap ⊢
  unfold maxLen at hcm
  by_cases h100 : n ≤ 100
  · have Hs := Lib.hid hs
    have Hn := Lib.hid hn
    have Hf := Lib.hid hf
    clear hs hn hf
    have hgt : ¬ (100 : Int) < (n : Int) := by omega
    go_enter Try.func4, Try.ntmps4
    go_wp2_with fail
    refine (CF.out _).mono ?_
    rintro e w1 ⟨rfl, hk1⟩
    go_wp2_with fail
    refine (CN.out _).mono ?_
    rintro e w3 ⟨rfl, hm3, hk3⟩
    obtain ⟨N, hN⟩ : ∃ N, w1.heap.size = N := ⟨_, rfl⟩
    rw [hN] at hm3
    have hk : Pure w w3 := hk1.same hk3
    have hNw : w.heap.size ≤ N := by have := hk1.size; omega
    have Hk := Lib.hid hk
    have Hm3 := Lib.hid hm3
    clear hk1 hk3 hk hm3
    rw [hN]
    clear hN
    go_wp2
    go_loopw [4] (fun i wr => ∃ k : Nat, i = .int .i64 k ∧ k ≤ n ∧ Hid (LN wr N N (playL (l.take k))) ∧ Hid (Kept (fun b => N ≤ b) w3 wr)) (fun i _ => n - (intOf i).toNat)
    case atStart => exact ⟨0, rfl, Nat.zero_le _, Hm3.out, Kept.refl _ _⟩
    case round =>
      obtain ⟨k, rfl, hkn, hln, hkr⟩ := hrel
      by_cases hlt : k < n
      · obtain ⟨b, o, rfl, _, _, _⟩ := Hs.out.2 (by omega)
        obtain ⟨a, ha⟩ : ∃ a, l[k]? = some a := ⟨_, List.getElem?_eq_getElem (by have := Hn.out; omega)⟩
        have hkw : Kept (fun b => N ≤ b) w wr := (Hk.out.mono (fun _ _ h => h.elim)).same hkr.out
        have hsr := Hs.out.kept hkw (fun b hb _ h => by omega)
        have hc0 := sl_at Act.cells_len hsr (by omega) ha 0 (by omega)
        have hc1 := sl_at Act.cells_len hsr (by omega) ha 1 (by omega)
        simp only [Act.cells] at hc0 hc1
        rw [Nat.add_zero] at hc0
        have hki : (k : Int) < (n : Int) := by omega
        obtain ⟨hg, hz1, hz2⟩ := playL_law (l.take k)
        have hlk : (l.take k).length = k := by rw [List.length_take]; have := Hn.out; omega
        rw [hlk] at hz1 hz2
        obtain ⟨hg', hz1', hz2'⟩ := playL_law (l.take (k + 1))
        have hlk' : (l.take (k + 1)).length = k + 1 := by rw [List.length_take]; have := Hn.out; omega
        rw [hlk'] at hz1' hz2'
        have hst : playL (l.take (k + 1)) = stepL (playL (l.take k)) a := by rw [List.take_add_one, ha, Option.toList_some, playL_snoc]
        obtain ⟨op, who⟩ := a
        simp only at hc0 hc1
        have Hst := Lib.hid hst
        have Hg := Lib.hid hg'
        clear hlk hlk' hst hg hsr ha hkw hg' hz1
        go_upto_region 11 with fail
        go_cut [38] from 19 to 139 (fun s wx => s = .bool (decide (op = 0) || decide (op = 1)) ∧ wr = wx)
        case first =>
          by_cases hop0 : op = 0
          · subst hop0
            go_wp2
            go_meet
            exact ⟨rfl, rfl⟩
          · have h0 : (op == 0) = false := by simpa using hop0
            by_cases hop1 : op = 1
            · subst hop1
              go_wp2
              go_meet
              exact ⟨rfl, rfl⟩
            · have h1 : (op == 1) = false := by simpa using hop1
              go_wp2
              go_meet
              exact ⟨by simp [hop0, hop1], rfl⟩
        case rest =>
        obtain ⟨rfl, rfl⟩ := hcut
        go_upto_if 38 with fail
        go_cut [] from 19 to 139 (fun wx => Hid (LN wx N N (stepL (playL (l.take k)) ⟨op, who⟩)) ∧ Hid (Kept (fun b => N ≤ b) wr wx))
        case first =>
          by_cases hop0 : op = 0
          · have CA := ask_n N wr.drew N _ who false (hln.out.kept (Kept.refl (fun _ => False) wr).drew (fun _ _ _ h => h)) (by omega)
            have he : stepL (playL (l.take k)) ⟨op, who⟩ = ((playL (l.take k)).ask who false).2 := by unfold stepL; rw [if_pos (.inl hop0)]; simp [hop0]
            have CA := Lib.hid CA
            have He := Lib.hid he
            clear he
            subst hop0
            go_wp2
            refine wp_region_seq [12] [] (by kernel_rfl) (by kernel_rfl) (by kernel_rfl) ?_
            repeat (with_reducible refine seq_step (by decide) (by decide) (fun K hK => ?_); go_simp; refine hK _ _ ?_; clear hK K)
            with_reducible refine seq_move (by decide) (fun K hK => ?_)
            go_simp
            refine up_enter ((CA.out).mono ?_)
            rintro e w1 ⟨rfl, hl1, hk1⟩
            refine ⟨_, rfl, hK _ _ ?_⟩
            clear hK K
            with_reducible refine seq_nil ?_
            go_wp2
            go_meet
            exact ⟨Lib.hid (by rw [He.out]; exact hl1), Lib.hid ((Kept.refl _ wr).drew.same hk1)⟩
          · have h0 : (op == 0) = false := by simpa using hop0
            by_cases hop1 : op = 1
            · have CA := ask_n N wr.drew N _ who true (hln.out.kept (Kept.refl (fun _ => False) wr).drew (fun _ _ _ h => h)) (by omega)
              have he : stepL (playL (l.take k)) ⟨op, who⟩ = ((playL (l.take k)).ask who true).2 := by unfold stepL; rw [if_pos (.inr hop1)]; simp [hop1]
              have CA := Lib.hid CA
              have He := Lib.hid he
              clear he
              subst hop1
              go_wp2
              refine wp_region_seq [12] [] (by kernel_rfl) (by kernel_rfl) (by kernel_rfl) ?_
              repeat (with_reducible refine seq_step (by decide) (by decide) (fun K hK => ?_); go_simp; refine hK _ _ ?_; clear hK K)
              with_reducible refine seq_move (by decide) (fun K hK => ?_)
              go_simp
              refine up_enter ((CA.out).mono ?_)
              rintro e w1 ⟨rfl, hl1, hk1⟩
              refine ⟨_, rfl, hK _ _ ?_⟩
              clear hK K
              with_reducible refine seq_nil ?_
              go_wp2
              go_meet
              exact ⟨Lib.hid (by rw [He.out]; exact hl1), Lib.hid ((Kept.refl _ wr).drew.same hk1)⟩
            · have h1 : (op == 1) = false := by simpa using hop1
              have CL := leave_n N wr N _ who hln.out (by omega)
              have he : stepL (playL (l.take k)) ⟨op, who⟩ = ((playL (l.take k)).leave who).2 := by unfold stepL; rw [if_neg (by simp only; omega)]
              have CL := Lib.hid CL
              have He := Lib.hid he
              have hcc : (decide (op = 0) || decide (op = 1)) = false := by simp [hop0, hop1]
              clear he
              go_wp2_with fail
              refine (CL.out).mono ?_
              rintro e w1 ⟨_, _, _, rfl, _, hl1, hk1⟩
              go_wp2
              go_meet
              exact ⟨Lib.hid (by rw [He.out]; exact hl1), Lib.hid hk1⟩
        case rest =>
        obtain ⟨hlx, hkx⟩ := hcut
        rw [← Hst.out] at hlx
        obtain ⟨k2, hk2⟩ : ∃ k2, playL (l.take (k + 1)) = k2 := ⟨_, rfl⟩
        rw [hk2] at hlx hz1' hz2'
        have hg2 := Hg.out
        rw [hk2] at hg2
        have Hk2 := Lib.hid hk2
        clear Hst Hg hk2 hc0 hc1
        have CH := Lib.hid (lk_holders wc _ N k2 hlx.out (by omega))
        have hsum := holders_len k2
        obtain ⟨r1, r2, r3, r4⟩ := alone_law hg2
        go_wp2_with fail
        refine (CH.out).mono ?_
        rintro e w4 ⟨Ah, nh, ch, rfl, hsh, hk4⟩
        have hl4 := hlx.out.kept hk4 (fun _ _ _ h => h)
        have CQ := Lib.hid (lk_queue w4 _ N k2 hl4 (by omega))
        have hnh := sli_len hsh
        go_wp2_with fail
        refine (CQ.out).mono ?_
        rintro e w5 ⟨Aq, nq, cq, rfl, hsq, hk5⟩
        have hnq := sli_len hsq
        rw [List.length_map] at hnq
        have hl5 := hl4.kept hk5 (fun _ _ _ h => h)
        have hsh5 := hsh.kept hk5 (fun _ _ _ h => h)
        have hkr5 : Kept (fun b => N ≤ b) w3 w5 := (hkr.out.same hkx.out).same ((hk4.same hk5).mono (fun _ _ h => h.elim))
        have hsum' : nh + nq ≤ k + 1 := by omega
        have hz2k : k2.size ≤ 100000 := by omega
        have hCS := fun (who : Int) (wx : World) (hp : Pure w5 wx) => lk_state wx _ N k2 who (hl5.kept hp (fun _ _ _ h => h)) hz2k
        have HCS := Lib.hid hCS
        have Hsh := Lib.hid hsh5
        have Hsq := Lib.hid hsq
        have Hl5 := Lib.hid hl5
        have Hkr5 := Lib.hid hkr5
        have Hnh := Lib.hid hnh
        have Hnq := Lib.hid hnq
        have R1 := Lib.hid r1
        have R2 := Lib.hid r2
        have R3 := Lib.hid r3
        have hr4 : nh = 0 → nq = 0 := fun h => by rw [← hnq]; exact r4 (by omega)
        have R4 := Lib.hid hr4
        clear hlx hkx hg2 CH CQ hsum r1 r2 r3 r4 hsh hk4 hl4 hnh hsq hk5 hnq hl5 hsh5 hkr5 hCS hr4 hz1' hz2' hz2 hln hkr
        go_wp2
        go_loopw [7] (fun j w6 => ∃ m : Nat, j = .int .i64 m ∧ m ≤ nh ∧ Hid (Pure w5 w6)) (fun j _ => nh - (intOf j).toNat)
        case atStart => exact ⟨0, rfl, Nat.zero_le _, Kept.refl _ _⟩
        case round =>
          obtain ⟨m, rfl, hm, hp6⟩ := hrel
          by_cases hmn : m < nh
          · obtain ⟨bh, oh, rfl, _, _, _⟩ := Hsh.out.2 (by omega)
            obtain ⟨x, hx⟩ : ∃ x, k2.holders[m]? = some x := ⟨_, List.getElem?_eq_getElem (by have := Hnh.out; omega)⟩
            have hcx := sli_at (Hsh.out.kept hp6.out (fun _ _ _ h => h)) hx
            have hmi : (m : Int) < (nh : Int) := by omega
            have C := HCS.out x wr hp6.out
            obtain ⟨hst, hone⟩ := R1.out m x hx
            have Hx := Lib.hid hx
            clear hx
            rcases hst with hst | hst
            · rw [hst] at C
              have C := Lib.hid C
              clear hst hone
              go_wp2_with fail
              refine (C.out).mono ?_
              rintro e w7 ⟨rfl, hk7⟩
              have hp7 := hp6.out.same hk7
              have hcx7 := sli_at (Hsh.out.kept hp7 (fun _ _ _ h => h)) Hx.out
              have Hp7 := Lib.hid hp7
              clear hcx hk7 hp7
              cases m with
              | zero =>
                go_wp2
                go_quiet (fail)
                go_wp2
                go_roundw
                case measure => simp [intOf]; omega
                case rel => exact ⟨1, by first | rfl | go_num, by omega, Hp7.out.drewN _⟩
              | succ p =>
                obtain ⟨y, hy⟩ : ∃ y, k2.holders[p]? = some y := ⟨_, List.getElem?_eq_getElem (by have := Hnh.out; omega)⟩
                have hcy7 := sli_at (Hsh.out.kept Hp7.out (fun _ _ _ h => h)) hy
                have hyx : y < x := R2.out p x y hy Hx.out
                clear hy
                have hpi : (p : Int) < (nh : Int) := by omega
                go_wp2
                go_quiet (fail)
                go_wp2
                go_roundw
                case measure => simp [intOf]; omega
                case rel => exact ⟨p + 1 + 1, by first | rfl | go_num, by omega, Hp7.out.drewN _⟩
            · have hone1 : nh = 1 := by rw [← Hnh.out]; exact hone hst
              rw [hst] at C
              have C := Lib.hid C
              clear hst hone
              subst hone1
              go_wp2_with fail
              refine (C.out).mono ?_
              rintro e w7 ⟨rfl, hk7⟩
              have hp7 := hp6.out.same hk7
              have Hp7 := Lib.hid hp7
              clear hcx hk7 hp7
              obtain rfl : m = 0 := by omega
              go_wp2
              go_quiet (fail)
              go_wp2
              go_roundw
              case measure => simp [intOf]
              case rel => exact ⟨1, by first | rfl | go_num, by omega, Hp7.out.drewN _⟩
          · obtain rfl : m = nh := by omega
            go_wp2
            go_loopw [9] (fun j w8 => ∃ p : Nat, j = .int .i64 p ∧ p ≤ nq ∧ Hid (Pure w5 w8)) (fun j _ => nq - (intOf j).toNat)
            case atStart => exact ⟨0, rfl, Nat.zero_le _, hp6.out⟩
            case round =>
              obtain ⟨p, rfl, hp, hp8⟩ := hrel
              by_cases hpn : p < nq
              · obtain ⟨bq, oq, rfl, _, _, _⟩ := Hsq.out.2 (by omega)
                obtain ⟨x, hx⟩ : ∃ x, (k2.qu.map (·.1))[p]? = some x := ⟨_, List.getElem?_eq_getElem (by have := Hnq.out; rw [List.length_map]; omega)⟩
                have hcx := sli_at (Hsq.out.kept hp8.out (fun _ _ _ h => h)) hx
                have hpi : (p : Int) < (nq : Int) := by omega
                have C := HCS.out x wr hp8.out
                rw [R3.out x (List.mem_of_getElem? hx)] at C
                have C := Lib.hid C
                clear hx
                go_wp2_with fail
                refine (C.out).mono ?_
                rintro e w9 ⟨rfl, hk9⟩
                have hp9 := hp8.out.same hk9
                have Hp9 := Lib.hid hp9
                clear hcx hk9 hp9
                go_wp2
                go_roundw
                case measure => simp [intOf]; omega
                case rel => exact ⟨p + 1, by first | rfl | go_num, by omega, Hp9⟩
              · obtain rfl : p = nq := by omega
                have hfinal := Hkr5.out.same (hp8.out.mono (fun _ _ h => h.elim))
                have hlf := Hl5.out.kept hp8.out (fun _ _ _ h => h)
                rw [← Hk2.out] at hlf
                have Hfinal := Lib.hid hfinal
                have Hlf := Lib.hid hlf
                clear hfinal hlf
                have hki1 : (k : Int) + 1 ≤ (n : Int) := by omega
                have hki2 : (k : Int) + 1 ≤ (c : Int) := by omega
                by_cases hnh0 : m = 0
                · have hnq0 : p = 0 := R4.out hnh0
                  subst hnh0 hnq0
                  go_wp2
                  go_roundw
                  case measure => simp [intOf]; omega
                  case rel => exact ⟨k + 1, by first | rfl | go_num, by omega, Hlf, Hfinal⟩
                · have hmi : ¬ ((m : Int) = 0) := by omega
                  have hmi' : (0 : Int) < (m : Int) := by omega
                  go_wp2
                  go_roundw
                  case measure => simp [intOf]; omega
                  case rel => exact ⟨k + 1, by first | rfl | go_num, by omega, Hlf, Hfinal⟩
      · obtain rfl : k = n := by omega
        go_wp2
        go_ret
        exact ⟨rfl, Hk.out.trans hkr.out (fun b hb h => by omega)⟩
  · have h100' : (100 : Int) < (n : Int) := by omega
    clear hs hf hn hcap hcm
    go_enter Try.func4, Try.ntmps4
    go_wp2_with fail
    refine (CF.out _).mono ?_
    rintro e w1 ⟨rfl, hk1⟩
    go_wp2_with fail
    refine (CF.out _).mono ?_
    rintro e w3 ⟨rfl, hk3⟩
    go_wp2
    go_ret
    exact ⟨rfl, hk1.same hk3⟩
theorem rwAlone_top (A : Option Addr) (c : Nat) (l : List Act) (W : World) (h0 : Sl W (fun _ => True) 2 A l.length (l.flatMap Act.cells)) (_ : l.length ≤ maxLen) (h2 : ∀ i ∈ l, i.Fits) (h3 : l.length ≤ c) (h4 : c ≤ maxLen) :
    Calls Try.prog 4 #[.slice A l.length c] W fun e W' => e = .returned (.bool true) ∧ Pure W W' := alone_top A c l W _ h0 h2 h3 h4
end Go.Proofs.Ytggnndopncegaaa
