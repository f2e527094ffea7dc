/-
  omap: OmapPlays: a round of the law.
-/
import Derived.Test.YtdgfefnaoionpaaOmLP
import Derived.Test.YtdgfefnaoionpaaSeq
import Derived.Deep.QuietTactic
import Derived.BigQuiet
import Derived.Deep.CutBlock
import Derived.Deep.CutRange
set_option linter.unusedSimpArgs false
set_option linter.unusedVariables false
namespace Go.Proofs.Ytdgfefnaoionpaa
open Go.RowKit
set_option maxRecDepth 100000

def BoolP (b : Bool) (w : World) (e : Ending) (w' : World) : Prop := e = .returned (.bool b) ∧ Pure w w'


set_option maxHeartbeats 6400000 in
theorem plays_top (A : Option Addr) (c : Nat) (l : List Act) (at' : Int) (w : World) (F : Nat → Prop) (hs : Sl w F 3 A l.length (l.flatMap Act.cells)) (hf : ∀ a ∈ l, a.Fits) :
    Calls Try.prog 5 #[.slice A l.length c, .int .i64 at'] w (BoolP true w) := by
  have CF := Lib.hid first14
  have CL := Lib.hid (fun w' (h : Pure w w') => light_any A c l w' F (hs.kept h (fun _ _ _ h => h)) hf)
  obtain ⟨L, hn⟩ : ∃ L, l.length = L := ⟨_, rfl⟩
  rw [hn] at CL hs ⊢
  cases hL : lightL l with
  | false =>
    rw [hL] at CL
    clear hs hf
    go_enter Try.func5, Try.ntmps5
    go_wp2_with fail
    refine (CF.out _).mono ?_
    rintro e w1 ⟨rfl, hk1⟩
    go_wp2_with fail
    refine (CL.out _ hk1).mono ?_
    rintro e w2 ⟨rfl, rfl⟩
    go_wp2_with fail
    refine (CF.out _).mono ?_
    rintro e w3 ⟨rfl, hk3⟩
    go_wp2
    go_ret
    exact ⟨rfl, hk1.same hk3⟩
  | true =>
    rw [hL] at CL
    have h80 : L ≤ 80 := by
      simp only [lightL, Bool.and_eq_true, decide_eq_true_eq] at hL
      omega
    have CN := Lib.hid i_new
    have Hs := Lib.hid hs
    have Hn := Lib.hid hn
    clear hs hn hf hL
    go_enter Try.func5, Try.ntmps5
    go_wp2_with fail
    refine (CF.out _).mono ?_
    rintro e w1 ⟨rfl, hk1⟩
    go_wp2_with fail
    refine (CL.out _ hk1).mono ?_
    rintro e w2 ⟨rfl, rfl⟩
    obtain ⟨N, hN⟩ : ∃ N, w2.heap.size = N := ⟨_, rfl⟩
    have CN' := CN.out w2
    rw [hN] at CN'
    go_wp2_with fail
    refine CN'.mono ?_
    rintro e w4 ⟨rfl, hm3, hk3⟩
    have h2 : St N w4 [] 0 none 0 none 0 := by
      have l1 : N < w4.heap.size := by
        obtain ⟨_, _, _, A, c, hb, _⟩ := hm3
        exact hb.lt
      exact ⟨rfl, fun b => b = N, fun _ => False, fun _ => False, fun b hb => by rcases hb with h | h | h; (have h : b = N := h; omega); exact h.elim; exact h.elim, fun b _ => ⟨fun h => h, fun h => h⟩, fun b h => h.elim, hm3, Own.nil _ _ _ _, Own.nil _ _ _ _⟩
    have hk : Pure w w4 := hk1.same hk3
    have hNw : w.heap.size ≤ N := by have := hk1.size; omega
    have Hk := Lib.hid hk
    have H2 := Lib.hid h2
    clear CN' hk1 hk3 hm3 hk h2
    go_wp2
    go_loopw [6, 7, 8] (fun ks vs i wr => ∃ (k n c1 c2 : Nat) (es : List (En Int)) (A1 A2 : Option Addr), i = .int .i64 k ∧ ks = .slice A1 n c1 ∧ vs = .slice A2 n c2 ∧ k ≤ L ∧ Hid (St N wr es n A1 c1 A2 c2) ∧ Hid (playsE (l.take k) = es) ∧ Hid (Kept (fun b => N ≤ b) w4 wr)) (fun _ _ i _ => L - (intOf i).toNat)
    case atStart => exact ⟨0, 0, 0, 0, [], none, none, rfl, rfl, rfl, Nat.zero_le _, H2.out, rfl, Kept.refl _ _⟩
    case round =>
      obtain ⟨k, n, c1, c2, es, A1, A2, rfl, rfl, rfl, hkn, hst, hes, hkr⟩ := hrel
      have hel := playsE_len (l.take k)
      rw [hes.out, List.length_take, hst.out.1] at hel
      by_cases hlt : k < L
      · obtain ⟨b, o, rfl, _, _, _⟩ := Hs.out.2 (by omega)
        obtain ⟨a, ha⟩ : ∃ a, l[k]? = some a := ⟨_, List.getElem?_eq_getElem (by have := Hn.out; omega)⟩
        have hkw : Kept (fun b => N ≤ b) w wr := (Hk.out.mono (fun _ _ h => h.elim)).same hkr.out
        have hsr := Hs.out.kept hkw (fun b hb _ h => by omega)
        have hc0 := sl_at Act.cells_len hsr (by omega) ha 0 (by omega)
        have hc1 := sl_at Act.cells_len hsr (by omega) ha 1 (by omega)
        have hc2 := sl_at Act.cells_len hsr (by omega) ha 2 (by omega)
        simp only [Act.cells] at hc0 hc1 hc2
        rw [Nat.add_zero] at hc0
        have hki : (k : Int) < (L : Int) := by omega
        have hstep : playsE (l.take (k + 1)) = playE es a := by rw [List.take_add_one, ha, Option.toList_some, playsE_snoc, hes.out]
        have Hstep := Lib.hid hstep
        obtain ⟨op, key, vl⟩ := a
        simp only at hc0 hc1 hc2
        have hbx := Blk.new wr 29 #[.int .i64 op, .string key, .int .i64 vl]
        obtain ⟨M1, hM1⟩ : ∃ M1, wr.heap.size = M1 := ⟨_, rfl⟩
        have hp1 : Pure wr (wr.alloc (.cells #[.int .i64 op, .string key, .int .i64 vl] 29)) := (Kept.refl (fun _ => False) wr).alloc (.cells #[.int .i64 op, .string key, .int .i64 vl] 29)
        rw [hM1] at hbx
        generalize hW : wr.alloc (.cells #[.int .i64 op, .string key, .int .i64 vl] 29) = W0 at *
        have hcx := hbx.cell
        have Cpl := Lib.hid (st_place key (hst.out.pure hp1) (by omega))
        have Hp1 := Lib.hid hp1
        clear hp1 hsr hkw hstep ha
        obtain ⟨hh, hhx⟩ : ∃ hh, has es (kb key) = hh := ⟨_, rfl⟩
        obtain ⟨q, hq⟩ : ∃ q, low es (kb key) = q := ⟨_, rfl⟩
        rw [hhx, hq] at Cpl
        have Hq := Lib.hid hq
        have Hhx := Lib.hid hhx
        clear hq hhx
        go_wp2_with fail
        clear hW
        refine Cpl.out.mono ?_
        rintro e w5 ⟨rfl, hk5⟩
        have hb5 := hbx.kept hk5 (fun h => h)
        have hcx := hb5.cell
        have hp5 := Hp1.out.same hk5
        have HP5 := Lib.hid hp5
        have HB5 := Lib.hid hb5
        clear hbx hp5 hb5 hk5
        go_upto_block 2 with fail
        go_cut [6, 7] from 31 to 171 (fun ks vs wx => ∃ (n' d1 d2 : Nat) (es' : List (En Int)) (B1 B2 : Option Addr), ks = .slice B1 n' d1 ∧ vs = .slice B2 n' d2 ∧ n' ≤ 81 ∧ Hid (St N wx es' n' B1 d1 B2 d2) ∧ Hid (playsE (l.take (k + 1)) = es') ∧ Hid (Kept (fun b => N ≤ b) w4 wx) ∧ Hid (Blk wx M1 29 #[.int .i64 op, .string key, .int .i64 vl]))
        case first =>
          by_cases hop0 : op = 0
          · have hact : playE es ⟨op, key, vl⟩ = putE es key vl := by simp [playE, hop0]
            rw [hact] at Hstep
            subst hop0
            have C1 := Lib.hid (st_put key vl hst.out HP5.out (by omega))
            rw [Hhx.out] at C1
            go_wp2_with fail
            refine C1.out.mono ?_
            rintro e w6 ⟨rfl, hmid, hk6⟩
            have hb6 := HB5.out.kept hk6 (fun h => by omega)
            have hkk : Kept (fun b => N ≤ b) w4 w6 := (hkr.out.same (HP5.out.mono (fun _ _ h => h.elim))).same (hk6.mono (fun b _ h => h.1))
            cases hh with
            | true =>
              obtain ⟨x, hx1, hx2⟩ := has_some Hhx.out
              rw [Hq.out] at hx1
              have hqn : q < n := by have := (List.getElem?_eq_some_iff.1 hx1).1; have := hst.out.1; omega
              have hput : putE es key vl = es.modify q (fun e => (e.1, vl)) := by unfold putE; rw [if_pos Hhx.out, Hq.out]
              have hmid2 := hmid
              obtain ⟨_, _, _, _, _, _, _, _, _, h6⟩ := hmid2
              obtain ⟨gr, cur, rfl, _, hgb, hnc, hcm, hcs, hct⟩ := own_row h6 (by omega)
              obtain ⟨hst9, hgr⟩ := mid_set (cur := cur) (R := fun _ => True) hput hqn hmid
              have hne : M1 ≠ gr := hb6.ne hgb (by decide)
              have hb9 := hb6.far (p := ⟨gr, q, none⟩) hne (.int .i64 vl)
              have hc1 := hgb.cell q
              rw [Array.getElem?_eq_getElem (by omega)] at hc1
              have hf1 := hgb.frozen q
              have hk9 := hkk.setCell (p := ⟨gr, q, none⟩) (.inl hgr) (.int .i64 vl)
              have hcx := hb6.cell
              have hqi : (q : Int) < (n : Int) := by omega
              obtain ⟨W9, hW9⟩ : ∃ W9, w6.setCell ⟨gr, q, none⟩ (.int .i64 vl) = W9 := ⟨_, rfl⟩
              rw [hW9] at hst9 hb9 hk9
              obtain ⟨es', hes'⟩ : ∃ es', putE es key vl = es' := ⟨_, rfl⟩
              have Hes' : Hid (playsE (l.take (k + 1)) = es') := Lib.hid (Hstep.out.trans hes')
              rw [hes'] at hst9
              have HS := Lib.hid hst9
              have HB := Lib.hid hb9
              have HK := Lib.hid hk9
              clear hmid hk6 hb6 hkk hput hx1 hx2 hct h6 hgb hst9 hb9 hk9 hes' hne
              go_wp2
              go_meet
              exact ⟨n, c1, c2, es', A1, (some ⟨gr, 0, none⟩), rfl, rfl, by omega, HS.out, Hes'.out, HK.out, HB.out⟩
            | false =>
              have hput : putE es key vl = es.take q ++ [(key, vl)] ++ es.drop q := by unfold putE; rw [if_neg (by rw [Hhx.out]; simp), Hq.out]; rfl
              have hqn : q ≤ n := by have := low_le es (kb key); rw [Hq.out, hst.out.1] at this; exact this
              have hmap := hmid.map
              have hmid2 := hmid
              obtain ⟨_, _, _, _, _, _, _, _, h5, h6⟩ := hmid2
              have Hmap := Lib.hid hmap
              obtain ⟨W, hWW⟩ : ∃ W, W = w6 := ⟨_, rfl⟩
              subst hWW
              have hX1 := (h5.sl.head1 q hqn)
              rw [← List.map_take] at hX1
              have hX2 := (h6.sl.head1 q hqn)
              rw [← List.map_take] at hX2
              have hcx := hb6.cell
              have HX1 := Lib.hid hX1
              have HX2 := Lib.hid hX2
              have HB6 := Lib.hid hb6
              have Hkk := Lib.hid hkk
              have hqi : (q : Int) ≤ (n : Int) ∧ (n : Int) ≤ 80 := by omega
              have hcap : n ≤ c1 ∧ n ≤ c2 := by
                obtain ⟨_, _, e1, e2, _⟩ := h5.form
                obtain ⟨_, _, e3, e4, _⟩ := h6.form
                injection e1 with _ _ e1
                injection e3 with _ _ e3
                omega
              have hqc : (q : Int) ≤ (c1 : Int) ∧ (q : Int) ≤ (c2 : Int) ∧ (n : Int) ≤ (c1 : Int) ∧ (n : Int) ≤ (c2 : Int) := by omega
              clear hmid hk6 hb6 hkk hX1 hX2 hmap
              have hYr1 := (h5.sl.tailA hqn (by omega : n ≤ c1))
              rw [← List.map_drop] at hYr1
              have hYr2 := (h6.sl.tailA hqn (by omega : n ≤ c2))
              rw [← List.map_drop] at hYr2
              obtain ⟨Z1, hZ1⟩ : ∃ Z, (if c1 = q then A1 else A1.map (fun a => a.add q)) = Z := ⟨_, rfl⟩
              obtain ⟨Z2, hZ2⟩ : ∃ Z, (if c2 = q then A2 else A2.map (fun a => a.add q)) = Z := ⟨_, rfl⟩
              rw [hZ1] at hYr1
              rw [hZ2] at hYr2
              have HY1 := Lib.hid hYr1
              have HY2 := Lib.hid hYr2
              clear h5 h6 hYr1 hYr2
              go_wp2
              refine wp_region_free (fun w' => Pure W w') (insT 9) [0, 4, 7, 8, 12] insB (insM W.heap.size 9 q ((es.take q).map keyV) (.string key) (q + 1 + (n - q)) (((es.take q).map keyV) ++ [(.string key)] ++ ((es.drop q).map keyV))) (by kernel_rfl) (by kernel_rfl) (insM_stable _ _ _ _ _ _ _) (Kept.refl _ _).drew ?_
              refine free_move0 (by decide) rfl (fun w' hw' => ?_) (fun v hv => ?_)
              · go_simp
                have h1 : Pure W w' := hw'.1
                exact ⟨h1.alloc _, (Kept.refl _ _).alloc _, _, rfl, h1.size, Blk.new _ _ _⟩
              obtain ⟨_, _, g0, rfl, hg0, _⟩ := hv
              repeat (refine free_step (by decide) (fun K hK => ?_); go_simp; first | (refine ex_steadyF ?_ (fun w' hw' => ?_) ?_; rotate_left; (clear hw'; go_simp; first | done | rfl); (refine hK _ ?_; clear hK K)) | (refine hK _ ?_; clear hK K))
              refine free_move0 (by decide) rfl (fun w' hw' => ?_) (fun v hv => ?_)
              · have h1 : Pure W w' := hw'.1
                have f0 : insM W.heap.size 9 q ((es.take q).map keyV) (.string key) (q + 1 + (n - q)) (((es.take q).map keyV) ++ [(.string key)] ++ ((es.drop q).map keyV)) 0 (.slice (some ⟨g0, 0, none⟩) 0 0) w' := hw'.2 (0, _) (List.mem_cons_self ..) (by kernel_rfl) (by kernel_rfl)
                obtain ⟨g', he, hB, hbk⟩ := f0
                obtain rfl := sl_inj he
                refine up_app Try.underlying30 info_str rfl (by omega) (own_empty hbk) (Sl.kept HX1.out h1 (fun _ _ _ h => h)) (fun u hu => by simp only [List.mem_map] at hu; obtain ⟨_, _, rfl⟩ := hu; rfl) (by omega) (by omega) _ _ rfl rfl rfl (fun v' w'' ho' hk' => ?_)
                refine ⟨h1.trans hk' (fun i hi e => by have : i = g0 := e; omega), ⟨g0, hbk, hk'⟩, ?_⟩
                rw [Nat.zero_add, List.nil_append] at ho'
                have hsz := h1.size
                exact ho'.imp (fun i _ e => e.elim (fun e => by have : i = g0 := e; omega) (fun e => by omega))
              obtain ⟨w5, hp5, ho5⟩ := hv
              replace ho5 : Own w5 (fun g => W.heap.size ≤ g) 9 1 v q ((es.take q).map keyV) := ho5
              obtain ⟨A4, c4, rfl, _⟩ := ho5.form
              clear ho5 hp5
              repeat (refine free_step (by decide) (fun K hK => ?_); go_simp; first | (refine ex_steadyF ?_ (fun w' hw' => ?_) ?_; rotate_left; (have hp : Pure W w' := hw'.1; have hcx := (HB6.out.kept hp (fun h => h)).cell; clear hw'; go_simp; first | done | rfl); (refine hK _ ?_; clear hK K)) | (refine hK _ ?_; clear hK K))
              refine free_move0 (by decide) rfl (fun w' hw' => ?_) (fun v hv => ?_)
              · go_simp
                have h1 : Pure W w' := hw'.1
                exact ⟨h1.alloc _, (Kept.refl _ _).alloc _, _, rfl, h1.size, Blk.new _ _ _⟩
              obtain ⟨_, _, g7, rfl, hg7, _⟩ := hv
              repeat (refine free_step (by decide) (fun K hK => ?_); go_simp; first | (refine ex_steadyF ?_ (fun w' hw' => ?_) ?_; rotate_left; (clear hw'; go_simp; first | done | rfl); (refine hK _ ?_; clear hK K)) | (refine hK _ ?_; clear hK K))
              refine free_move0 (by decide) rfl (fun w' hw' => ?_) (fun v hv => ?_)
              · have h1 : Pure W w' := hw'.1
                have f4 : Own w' (fun g => W.heap.size ≤ g) 9 1 (.slice A4 q c4) q ((es.take q).map keyV) := hw'.2 (4, _) (List.mem_cons_of_mem _ (List.mem_cons_self ..)) (by kernel_rfl) (by kernel_rfl)
                have f7 : insM W.heap.size 9 q ((es.take q).map keyV) (.string key) (q + 1 + (n - q)) (((es.take q).map keyV) ++ [(.string key)] ++ ((es.drop q).map keyV)) 7 (.slice (some ⟨g7, 0, none⟩) 1 1) w' := hw'.2 (7, _) (List.mem_cons_self ..) (by kernel_rfl) (by kernel_rfl)
                obtain ⟨g', he, hB, hbk⟩ := f7
                obtain rfl := sl_inj he
                have f4' : Own w' (fun b => (Value.slice A4 q c4).ownBlock = some b) 9 1 (.slice A4 q c4) q ((es.take q).map keyV) := ⟨f4.1, fun g h => h⟩
                refine up_app Try.underlying30 info_str rfl (by omega) f4' (sl_single hbk) (by intro u hu; simp at hu; subst hu; rfl) (by omega) (by omega) _ _ rfl rfl rfl (fun v' w'' ho' hk' => ?_)
                have hsz := h1.size
                refine ⟨h1.trans hk' (fun i hi e => by have := f4.2 i e; omega), trivial, ?_⟩
                exact ho'.imp (fun i _ e => e.elim (fun e => f4.2 i e) (fun e => by omega))
              obtain ⟨w5, hp5, ho5⟩ := hv
              replace ho5 : Own w5 (fun g => W.heap.size ≤ g) 9 1 v (q + 1) (((es.take q).map keyV) ++ [(.string key)]) := ho5
              obtain ⟨A8, c8, rfl, _⟩ := ho5.form
              clear ho5 hp5
              repeat (refine free_step (by decide) (fun K hK => ?_); go_simp; first | (refine ex_steadyF ?_ (fun w' hw' => ?_) ?_; rotate_left; (clear hw'; go_simp; first | done | rfl); (refine hK _ ?_; clear hK K)) | (refine hK _ ?_; clear hK K))
              refine free_move0 (by decide) rfl (fun w' hw' => ?_) (fun v hv => ?_)
              · have h1 : Pure W w' := hw'.1
                have f8 : Own w' (fun g => W.heap.size ≤ g) 9 1 (.slice A8 (q + 1) c8) (q + 1) (((es.take q).map keyV) ++ [(.string key)]) := hw'.2 (8, _) (List.mem_cons_self ..) (by kernel_rfl) (by kernel_rfl)
                have f8' : Own w' (fun b => (Value.slice A8 (q + 1) c8).ownBlock = some b) 9 1 (.slice A8 (q + 1) c8) (q + 1) (((es.take q).map keyV) ++ [(.string key)]) := ⟨f8.1, fun g h => h⟩
                refine up_app Try.underlying30 info_str rfl (by omega) f8' (Sl.kept HY1.out h1 (fun _ _ _ h => h)) (fun u hu => by simp only [List.mem_map] at hu; obtain ⟨_, _, rfl⟩ := hu; rfl) (by omega) (by omega) _ _ rfl rfl rfl (fun v' w'' ho' hk' => ?_)
                have hsz := h1.size
                refine ⟨h1.trans hk' (fun i hi e => by have := f8.2 i e; omega), trivial, ?_⟩
                exact ho'.imp (fun i _ e => e.elim (fun e => f8.2 i e) (fun e => by omega))
              obtain ⟨w5, hp5, ho5⟩ := hv
              replace ho5 : Own w5 (fun g => W.heap.size ≤ g) 9 1 v (q + 1 + (n - q)) (((es.take q).map keyV) ++ [(.string key)] ++ ((es.drop q).map keyV)) := ho5
              obtain ⟨A12, c12, rfl, _⟩ := ho5.form
              clear ho5 hp5
              repeat (refine free_step (by decide) (fun K hK => ?_); go_simp; first | (refine ex_steadyF ?_ (fun w' hw' => ?_) ?_; rotate_left; (clear hw'; go_simp; first | done | rfl); (refine hK _ ?_; clear hK K)) | (refine hK _ ?_; clear hK K))
              refine free_nil (fun w9 hp9 he9 => ?_)
              have ho9 : Own w9 (fun g => W.heap.size ≤ g) 9 1 (.slice A12 (q + 1 + (n - q)) c12) (q + 1 + (n - q)) (((es.take q).map keyV) ++ [(.string key)] ++ ((es.drop q).map keyV)) := he9 (12, _) (List.mem_cons_self ..) (by kernel_rfl)
              clear he9
              obtain ⟨V, hV⟩ : ∃ V, V = W := ⟨_, rfl⟩
              subst hV
              obtain ⟨Ak, hAk⟩ : ∃ V, V = A12 := ⟨_, rfl⟩
              subst hAk
              obtain ⟨ck, hck⟩ : ∃ V, V = c12 := ⟨_, rfl⟩
              subst hck
              have hpk := hp9
              have hok := ho9
              clear hp9 ho9 hcx
              obtain ⟨W, hWW⟩ : ∃ W, W = w9 := ⟨_, rfl⟩
              subst hWW
              go_wp2
              refine wp_region_free (fun w' => Pure W w') (insT 2) [0, 4, 7, 8, 12] insB (insM W.heap.size 2 q ((es.take q).map valV) (.int .i64 vl) (q + 1 + (n - q)) (((es.take q).map valV) ++ [(.int .i64 vl)] ++ ((es.drop q).map valV))) (by kernel_rfl) (by kernel_rfl) (insM_stable _ _ _ _ _ _ _) (Kept.refl _ _).drew ?_
              refine free_move0 (by decide) rfl (fun w' hw' => ?_) (fun v hv => ?_)
              · go_simp
                have h1 : Pure W w' := hw'.1
                exact ⟨h1.alloc _, (Kept.refl _ _).alloc _, _, rfl, h1.size, Blk.new _ _ _⟩
              obtain ⟨_, _, g0, rfl, hg0, _⟩ := hv
              repeat (refine free_step (by decide) (fun K hK => ?_); go_simp; first | (refine ex_steadyF ?_ (fun w' hw' => ?_) ?_; rotate_left; (clear hw'; go_simp; first | done | rfl); (refine hK _ ?_; clear hK K)) | (refine hK _ ?_; clear hK K))
              refine free_move0 (by decide) rfl (fun w' hw' => ?_) (fun v hv => ?_)
              · have h1 : Pure W w' := hw'.1
                have f0 : insM W.heap.size 2 q ((es.take q).map valV) (.int .i64 vl) (q + 1 + (n - q)) (((es.take q).map valV) ++ [(.int .i64 vl)] ++ ((es.drop q).map valV)) 0 (.slice (some ⟨g0, 0, none⟩) 0 0) w' := hw'.2 (0, _) (List.mem_cons_self ..) (by kernel_rfl) (by kernel_rfl)
                obtain ⟨g', he, hB, hbk⟩ := f0
                obtain rfl := sl_inj he
                refine up_app Try.underlying38 info_int rfl (by omega) (own_empty hbk) (Sl.kept (Sl.kept HX2.out hpk (fun _ _ _ h => h)) h1 (fun _ _ _ h => h)) (fun u hu => by simp only [List.mem_map] at hu; obtain ⟨_, _, rfl⟩ := hu; rfl) (by omega) (by omega) _ _ rfl rfl rfl (fun v' w'' ho' hk' => ?_)
                refine ⟨h1.trans hk' (fun i hi e => by have : i = g0 := e; omega), ⟨g0, hbk, hk'⟩, ?_⟩
                rw [Nat.zero_add, List.nil_append] at ho'
                have hsz := h1.size
                exact ho'.imp (fun i _ e => e.elim (fun e => by have : i = g0 := e; omega) (fun e => by omega))
              obtain ⟨w5, hp5, ho5⟩ := hv
              replace ho5 : Own w5 (fun g => W.heap.size ≤ g) 2 1 v q ((es.take q).map valV) := ho5
              obtain ⟨A4, c4, rfl, _⟩ := ho5.form
              clear ho5 hp5
              repeat (refine free_step (by decide) (fun K hK => ?_); go_simp; first | (refine ex_steadyF ?_ (fun w' hw' => ?_) ?_; rotate_left; (have hp : Pure W w' := hw'.1; have hcx := ((HB6.out.kept hpk (fun h => h)).kept hp (fun h => h)).cell; clear hw'; go_simp; first | done | rfl); (refine hK _ ?_; clear hK K)) | (refine hK _ ?_; clear hK K))
              refine free_move0 (by decide) rfl (fun w' hw' => ?_) (fun v hv => ?_)
              · go_simp
                have h1 : Pure W w' := hw'.1
                exact ⟨h1.alloc _, (Kept.refl _ _).alloc _, _, rfl, h1.size, Blk.new _ _ _⟩
              obtain ⟨_, _, g7, rfl, hg7, _⟩ := hv
              repeat (refine free_step (by decide) (fun K hK => ?_); go_simp; first | (refine ex_steadyF ?_ (fun w' hw' => ?_) ?_; rotate_left; (clear hw'; go_simp; first | done | rfl); (refine hK _ ?_; clear hK K)) | (refine hK _ ?_; clear hK K))
              refine free_move0 (by decide) rfl (fun w' hw' => ?_) (fun v hv => ?_)
              · have h1 : Pure W w' := hw'.1
                have f4 : Own w' (fun g => W.heap.size ≤ g) 2 1 (.slice A4 q c4) q ((es.take q).map valV) := hw'.2 (4, _) (List.mem_cons_of_mem _ (List.mem_cons_self ..)) (by kernel_rfl) (by kernel_rfl)
                have f7 : insM W.heap.size 2 q ((es.take q).map valV) (.int .i64 vl) (q + 1 + (n - q)) (((es.take q).map valV) ++ [(.int .i64 vl)] ++ ((es.drop q).map valV)) 7 (.slice (some ⟨g7, 0, none⟩) 1 1) w' := hw'.2 (7, _) (List.mem_cons_self ..) (by kernel_rfl) (by kernel_rfl)
                obtain ⟨g', he, hB, hbk⟩ := f7
                obtain rfl := sl_inj he
                have f4' : Own w' (fun b => (Value.slice A4 q c4).ownBlock = some b) 2 1 (.slice A4 q c4) q ((es.take q).map valV) := ⟨f4.1, fun g h => h⟩
                refine up_app Try.underlying38 info_int rfl (by omega) f4' (sl_single hbk) (by intro u hu; simp at hu; subst hu; rfl) (by omega) (by omega) _ _ rfl rfl rfl (fun v' w'' ho' hk' => ?_)
                have hsz := h1.size
                refine ⟨h1.trans hk' (fun i hi e => by have := f4.2 i e; omega), trivial, ?_⟩
                exact ho'.imp (fun i _ e => e.elim (fun e => f4.2 i e) (fun e => by omega))
              obtain ⟨w5, hp5, ho5⟩ := hv
              replace ho5 : Own w5 (fun g => W.heap.size ≤ g) 2 1 v (q + 1) (((es.take q).map valV) ++ [(.int .i64 vl)]) := ho5
              obtain ⟨A8, c8, rfl, _⟩ := ho5.form
              clear ho5 hp5
              repeat (refine free_step (by decide) (fun K hK => ?_); go_simp; first | (refine ex_steadyF ?_ (fun w' hw' => ?_) ?_; rotate_left; (clear hw'; go_simp; first | done | rfl); (refine hK _ ?_; clear hK K)) | (refine hK _ ?_; clear hK K))
              refine free_move0 (by decide) rfl (fun w' hw' => ?_) (fun v hv => ?_)
              · have h1 : Pure W w' := hw'.1
                have f8 : Own w' (fun g => W.heap.size ≤ g) 2 1 (.slice A8 (q + 1) c8) (q + 1) (((es.take q).map valV) ++ [(.int .i64 vl)]) := hw'.2 (8, _) (List.mem_cons_self ..) (by kernel_rfl) (by kernel_rfl)
                have f8' : Own w' (fun b => (Value.slice A8 (q + 1) c8).ownBlock = some b) 2 1 (.slice A8 (q + 1) c8) (q + 1) (((es.take q).map valV) ++ [(.int .i64 vl)]) := ⟨f8.1, fun g h => h⟩
                refine up_app Try.underlying38 info_int rfl (by omega) f8' (Sl.kept (Sl.kept HY2.out hpk (fun _ _ _ h => h)) h1 (fun _ _ _ h => h)) (fun u hu => by simp only [List.mem_map] at hu; obtain ⟨_, _, rfl⟩ := hu; rfl) (by omega) (by omega) _ _ rfl rfl rfl (fun v' w'' ho' hk' => ?_)
                have hsz := h1.size
                refine ⟨h1.trans hk' (fun i hi e => by have := f8.2 i e; omega), trivial, ?_⟩
                exact ho'.imp (fun i _ e => e.elim (fun e => f8.2 i e) (fun e => by omega))
              obtain ⟨w5, hp5, ho5⟩ := hv
              replace ho5 : Own w5 (fun g => W.heap.size ≤ g) 2 1 v (q + 1 + (n - q)) (((es.take q).map valV) ++ [(.int .i64 vl)] ++ ((es.drop q).map valV)) := ho5
              obtain ⟨A12, c12, rfl, _⟩ := ho5.form
              clear ho5 hp5
              repeat (refine free_step (by decide) (fun K hK => ?_); go_simp; first | (refine ex_steadyF ?_ (fun w' hw' => ?_) ?_; rotate_left; (clear hw'; go_simp; first | done | rfl); (refine hK _ ?_; clear hK K)) | (refine hK _ ?_; clear hK K))
              refine free_nil (fun w9 hp9 he9 => ?_)
              have ho9 : Own w9 (fun g => W.heap.size ≤ g) 2 1 (.slice A12 (q + 1 + (n - q)) c12) (q + 1 + (n - q)) (((es.take q).map valV) ++ [(.int .i64 vl)] ++ ((es.drop q).map valV)) := he9 (12, _) (List.mem_cons_self ..) (by kernel_rfl)
              clear he9
              obtain ⟨n', hn'⟩ : ∃ n', q + 1 + (n - q) = n' := ⟨_, rfl⟩
              rw [hn'] at ho9 hok ⊢
              have hst9 : St N w9 (putE es key vl) n' Ak ck A12 c12 := st_rows Hmap.out hpk (Nat.le_refl _) (by rw [hput]; simpa [keyV] using hok) hp9 (Nat.le_refl _) (by rw [hput]; simpa [valV] using ho9) (by rw [hput]; have := hst.out.1; simp; omega)
              have hn81 : n' ≤ 81 := by omega
              obtain ⟨W9, hW9⟩ : ∃ W9, W9 = w9 := ⟨_, rfl⟩
              subst hW9
              obtain ⟨es', hes'⟩ : ∃ es', putE es key vl = es' := ⟨_, rfl⟩
              have Hes' : Hid (playsE (l.take (k + 1)) = es') := Lib.hid (Hstep.out.trans hes')
              rw [hes'] at hst9
              have HS := Lib.hid hst9
              have HB := Lib.hid ((HB6.out.kept hpk (fun h => h)).kept hp9 (fun h => h))
              have HK := Lib.hid ((Hkk.out.same (hpk.mono (fun _ _ h => h.elim))).same (hp9.mono (fun _ _ h => h.elim)))
              clear hput hst9 hes' hok ho9 hpk hp9 hn'
              go_wp2
              go_meet
              exact ⟨n', ck, c12, es', Ak, A12, rfl, rfl, by omega, HS.out, Hes'.out, HK.out, HB.out⟩
          · by_cases hop1 : op = 1
            · have hact : playE es ⟨op, key, vl⟩ = delE es (kb key) := by simp [playE, hop1]
              rw [hact] at Hstep
              subst hop1
              have C1 := Lib.hid (st_del key hst.out HP5.out)
              rw [Hhx.out] at C1
              clear hop0
              go_wp2_with fail
              refine C1.out.mono ?_
              rintro e w6 ⟨rfl, hmid, hk6⟩
              have hb6 := HB5.out.kept hk6 (fun h => by omega)
              have hkk : Kept (fun b => N ≤ b) w4 w6 := (hkr.out.same (HP5.out.mono (fun _ _ h => h.elim))).same (hk6.mono (fun b _ h => h.1))
              cases hh with
              | true =>
                obtain ⟨x, hx1, hx2⟩ := has_some Hhx.out
                rw [Hq.out] at hx1
                have hqn : q < n := by have := (List.getElem?_eq_some_iff.1 hx1).1; have := hst.out.1; omega
                have hdel : delE es (kb key) = es.take q ++ es.drop (q + 1) := by unfold delE; rw [if_pos Hhx.out, Hq.out, List.eraseIdx_eq_take_drop_succ]
                have hmap := hmid.map
                have hmid2 := hmid
                obtain ⟨_, _, _, _, _, _, _, _, h5, h6⟩ := hmid2
                have Hmap := Lib.hid hmap
                obtain ⟨W, hWW⟩ : ∃ W, W = w6 := ⟨_, rfl⟩
                subst hWW
                have hX1 := (h5.sl.head1 q (by omega))
                rw [← List.map_take] at hX1
                have hX2 := (h6.sl.head1 q (by omega))
                rw [← List.map_take] at hX2
                have hcap : n ≤ c1 ∧ n ≤ c2 := by
                  obtain ⟨_, _, e1, e2, _⟩ := h5.form
                  obtain ⟨_, _, e3, e4, _⟩ := h6.form
                  injection e1 with _ _ e1
                  injection e3 with _ _ e3
                  omega
                have hYr1 := (h5.sl.tailB (show q + 1 ≤ n by omega) (by omega : n ≤ c1))
                rw [← List.map_drop] at hYr1
                have hYr2 := (h6.sl.tailB (show q + 1 ≤ n by omega) (by omega : n ≤ c2))
                rw [← List.map_drop] at hYr2
                obtain ⟨Z1, hZ1⟩ : ∃ Z, (if c1 = q + 1 then A1 else A1.map (fun a => ⟨a.block, a.off + (q + 1), none⟩)) = Z := ⟨_, rfl⟩
                obtain ⟨Z2, hZ2⟩ : ∃ Z, (if c2 = q + 1 then A2 else A2.map (fun a => ⟨a.block, a.off + (q + 1), none⟩)) = Z := ⟨_, rfl⟩
                rw [hZ1] at hYr1
                rw [hZ2] at hYr2
                have HX1 := Lib.hid hX1
                have HX2 := Lib.hid hX2
                have HY1 := Lib.hid hYr1
                have HY2 := Lib.hid hYr2
                have HB6 := Lib.hid hb6
                have Hkk := Lib.hid hkk
                have hqi : (q : Int) ≤ (n : Int) ∧ (n : Int) ≤ 80 ∧ (q : Int) + 1 ≤ (n : Int) := by omega
                have hqc : (q : Int) ≤ (c1 : Int) ∧ (q : Int) ≤ (c2 : Int) ∧ (n : Int) ≤ (c1 : Int) ∧ (n : Int) ≤ (c2 : Int) := by omega
                have hq0 : (0 : Int) ≤ (q : Int) + 1 := by omega
                have hqt : ((q : Int) + 1).toNat = q + 1 := by omega
                have hqw : IntKind.i64.wrap ((q : Int) + 1) = (q : Int) + 1 := by rw [IntKind.wrap_i64]; omega
                clear hmid hk6 hb6 hkk hX1 hX2 hmap h5 h6 hYr1 hYr2 hx1 hx2
                go_wp2
                refine wp_region_seq [0, 4, 9] [1, 2, 3, 5, 6, 7, 8] (by kernel_rfl) (by kernel_rfl) (by kernel_rfl) ?_
                with_reducible refine seq_move (by decide) (fun K hK => ?_)
                go_simp
                refine up_value ?_
                refine hK _ _ ?_
                clear hK K
                repeat (with_reducible refine seq_free (by decide) (by decide) (fun K hK => ?_); go_simp; first | (refine ex_steadyF ?_ (fun w' hw' => ?_) ?_; rotate_left; (skip; go_simp; first | done | rfl); (refine hK _ _ ?_; clear hK K)) | (refine hK _ _ ?_; clear hK K))
                refine seq_move0 (by decide) rfl ?_
                refine up_app Try.underlying30 info_str rfl (by omega) (own_empty (Blk.new W.drew _ _)) (Sl.kept (S := fun _ => False) HX1.out ((Kept.refl _ W).drew.alloc _) (fun _ _ _ h => h)) (fun u hu => by simp only [List.mem_map] at hu; obtain ⟨_, _, rfl⟩ := hu; rfl) (by omega) (by omega) _ _ rfl rfl rfl (fun v' w7 ho7 hk7 => ⟨trivial, ?_⟩)
                have hp7 : Pure W w7 := ((Kept.refl (fun _ => False) W).drew.alloc _).trans hk7 (fun i hi e => by have e : i = W.heap.size := e; omega)
                have hz7 := hp7.size
                rw [Nat.zero_add, List.nil_append] at ho7
                replace ho7 := ho7.imp (G := fun b => W.heap.size ≤ b) (fun b _ e => e.elim (fun e => by have e : b = W.heap.size := e; omega) (fun e => by have e : b = (W.drew.alloc _).heap.size := e; rw [World.size_alloc] at e; have : W.drew.heap.size = W.heap.size := rfl; omega))
                obtain ⟨A4, c4, rfl, _⟩ := ho7.form
                repeat (with_reducible refine seq_free (by decide) (by decide) (fun K hK => ?_); go_simp; first | (refine ex_steadyF ?_ (fun w' hw' => ?_) ?_; rotate_left; (skip; go_simp; first | done | rfl); (refine hK _ _ ?_; clear hK K)) | (refine hK _ _ ?_; clear hK K))
                refine seq_move0 (by decide) rfl ?_
                refine up_app Try.underlying30 info_str rfl (by omega) ho7 (Sl.kept HY1.out hp7 (fun _ _ _ h => h)) (fun u hu => by simp only [List.mem_map] at hu; obtain ⟨_, _, rfl⟩ := hu; rfl) (by omega) (by omega) _ _ rfl rfl rfl (fun v' w9 ho9 hk9 => ⟨trivial, ?_⟩)
                have hp9 : Pure W w9 := hp7.trans hk9 (fun i hi e => by have e : W.heap.size ≤ i := e; omega)
                replace ho9 := ho9.imp (G := fun b => W.heap.size ≤ b) (fun b _ e => e.elim (fun e => e) (fun e => by omega))
                obtain ⟨A12, c12, rfl, _⟩ := ho9.form
                clear ho7 hk7 hk9 hp7 hz7
                repeat (with_reducible refine seq_step (by decide) (by decide) (fun K hK => ?_); go_simp; refine hK _ _ ?_; clear hK K)
                with_reducible refine seq_nil ?_
                obtain ⟨V, hV⟩ : ∃ V, V = W := ⟨_, rfl⟩
                subst hV
                obtain ⟨Ak, hAk⟩ : ∃ V, V = A12 := ⟨_, rfl⟩
                subst hAk
                obtain ⟨ck, hck⟩ : ∃ V, V = c12 := ⟨_, rfl⟩
                subst hck
                have hpk := hp9
                have hok := ho9
                clear hp9 ho9
                obtain ⟨W, hWW⟩ : ∃ W, W = w9 := ⟨_, rfl⟩
                subst hWW
                go_wp2
                refine wp_region_seq [0, 4, 9] [1, 2, 3, 5, 6, 7, 8] (by kernel_rfl) (by kernel_rfl) (by kernel_rfl) ?_
                with_reducible refine seq_move (by decide) (fun K hK => ?_)
                go_simp
                refine up_value ?_
                refine hK _ _ ?_
                clear hK K
                repeat (with_reducible refine seq_free (by decide) (by decide) (fun K hK => ?_); go_simp; first | (refine ex_steadyF ?_ (fun w' hw' => ?_) ?_; rotate_left; (skip; go_simp; first | done | rfl); (refine hK _ _ ?_; clear hK K)) | (refine hK _ _ ?_; clear hK K))
                refine seq_move0 (by decide) rfl ?_
                refine up_app Try.underlying38 info_int rfl (by omega) (own_empty (Blk.new W.drew _ _)) (Sl.kept (S := fun _ => False) (Sl.kept HX2.out hpk (fun _ _ _ h => h)) ((Kept.refl _ W).drew.alloc _) (fun _ _ _ h => h)) (fun u hu => by simp only [List.mem_map] at hu; obtain ⟨_, _, rfl⟩ := hu; rfl) (by omega) (by omega) _ _ rfl rfl rfl (fun v' w7 ho7 hk7 => ⟨trivial, ?_⟩)
                have hp7 : Pure W w7 := ((Kept.refl (fun _ => False) W).drew.alloc _).trans hk7 (fun i hi e => by have e : i = W.heap.size := e; omega)
                have hz7 := hp7.size
                rw [Nat.zero_add, List.nil_append] at ho7
                replace ho7 := ho7.imp (G := fun b => W.heap.size ≤ b) (fun b _ e => e.elim (fun e => by have e : b = W.heap.size := e; omega) (fun e => by have e : b = (W.drew.alloc _).heap.size := e; rw [World.size_alloc] at e; have : W.drew.heap.size = W.heap.size := rfl; omega))
                obtain ⟨A4, c4, rfl, _⟩ := ho7.form
                repeat (with_reducible refine seq_free (by decide) (by decide) (fun K hK => ?_); go_simp; first | (refine ex_steadyF ?_ (fun w' hw' => ?_) ?_; rotate_left; (skip; go_simp; first | done | rfl); (refine hK _ _ ?_; clear hK K)) | (refine hK _ _ ?_; clear hK K))
                refine seq_move0 (by decide) rfl ?_
                refine up_app Try.underlying38 info_int rfl (by omega) ho7 (Sl.kept (Sl.kept HY2.out hpk (fun _ _ _ h => h)) hp7 (fun _ _ _ h => h)) (fun u hu => by simp only [List.mem_map] at hu; obtain ⟨_, _, rfl⟩ := hu; rfl) (by omega) (by omega) _ _ rfl rfl rfl (fun v' w9 ho9 hk9 => ⟨trivial, ?_⟩)
                have hp9 : Pure W w9 := hp7.trans hk9 (fun i hi e => by have e : W.heap.size ≤ i := e; omega)
                replace ho9 := ho9.imp (G := fun b => W.heap.size ≤ b) (fun b _ e => e.elim (fun e => e) (fun e => by omega))
                obtain ⟨A12, c12, rfl, _⟩ := ho9.form
                clear ho7 hk7 hk9 hp7 hz7
                repeat (with_reducible refine seq_step (by decide) (by decide) (fun K hK => ?_); go_simp; refine hK _ _ ?_; clear hK K)
                with_reducible refine seq_nil ?_
                obtain ⟨n', hn'⟩ : ∃ n', q + (n - (q + 1)) = n' := ⟨_, rfl⟩
                rw [hn'] at ho9 hok ⊢
                have hst9 : St N w9 (delE es (kb key)) n' Ak ck A12 c12 := st_rows Hmap.out hpk (Nat.le_refl _) (by rw [hdel]; simpa [keyV] using hok) hp9 (Nat.le_refl _) (by rw [hdel]; simpa [valV] using ho9) (by rw [hdel]; have := hst.out.1; simp; omega)
                have hn81 : n' ≤ 81 := by omega
                obtain ⟨W9, hW9⟩ : ∃ W9, W9 = w9 := ⟨_, rfl⟩
                subst hW9
                obtain ⟨es', hes'⟩ : ∃ es', delE es (kb key) = es' := ⟨_, rfl⟩
                have Hes' : Hid (playsE (l.take (k + 1)) = es') := Lib.hid (Hstep.out.trans hes')
                rw [hes'] at hst9
                have HS := Lib.hid hst9
                have HB := Lib.hid ((HB6.out.kept hpk (fun h => h)).kept hp9 (fun h => h))
                have HK := Lib.hid ((Hkk.out.same (hpk.mono (fun _ _ h => h.elim))).same (hp9.mono (fun _ _ h => h.elim)))
                clear hdel hst9 hes' hok ho9 hpk hp9 hn' hZ1 hZ2
                go_wp2
                go_meet
                exact ⟨n', ck, c12, es', Ak, A12, rfl, rfl, by omega, HS.out, Hes'.out, HK.out, HB.out⟩
              | false =>
                have hdel : delE es (kb key) = es := by unfold delE; rw [if_neg (by rw [Hhx.out]; simp)]
                rw [hdel] at hmid Hstep
                have hst9 : St N w6 es n A1 c1 A2 c2 := hmid
                obtain ⟨W9, hW9⟩ : ∃ W9, W9 = w6 := ⟨_, rfl⟩
                subst hW9
                obtain ⟨es', hes'⟩ : ∃ es', es' = es := ⟨_, rfl⟩
                subst hes'
                have Hes' := Hstep
                have HS := Lib.hid hst9
                have HB := Lib.hid hb6
                have HK := Lib.hid hkk
                clear hdel hst9 hmid hk6 hb6 hkk
                go_wp2
                go_meet
                exact ⟨n, c1, c2, es', A1, A2, rfl, rfl, by omega, HS.out, Hes'.out, HK.out, HB.out⟩
            · have hact : playE es ⟨op, key, vl⟩ = es := by simp [playE, hop0, hop1]
              rw [hact] at Hstep
              have hst9 : St N w5 es n A1 c1 A2 c2 := hst.out.pure HP5.out
              obtain ⟨W9, hW9⟩ : ∃ W9, W9 = w5 := ⟨_, rfl⟩
              subst hW9
              obtain ⟨es', hes'⟩ : ∃ es', es' = es := ⟨_, rfl⟩
              subst hes'
              have Hes' := Hstep
              have HS := Lib.hid hst9
              have HB := Lib.hid HB5.out
              have HK := Lib.hid (hkr.out.same (HP5.out.mono (fun _ _ h => h.elim)))
              clear hst9
              go_wp2
              go_meet
              exact ⟨n, c1, c2, es', A1, A2, rfl, rfl, by omega, HS.out, Hes'.out, HK.out, HB.out⟩
        case rest =>
          obtain ⟨n', d1, d2, es', B1, B2, rfl, rfl, hn81, HS, Hes', HK, HB⟩ := hcut
          obtain ⟨W9, hW9⟩ : ∃ W9, W9 = wc := ⟨_, rfl⟩
          subst hW9
          have hcx := HB.out.cell
          have hS9 := HS.out
          have Cpl := Lib.hid (st_place key hS9 (by omega))
          have Cge := Lib.hid (fun w' (h : Pure W9 w') => st_get key (hS9.pure h))
          have Cmp := Lib.hid (fun w' (h : Pure W9 w') => st_mplace key (hS9.pure h))
          have Cln := Lib.hid (fun w' (h : Pure W9 w') => st_len (hS9.pure h))
          cases hhx : has es' (kb key) with
          | true =>
            obtain ⟨x, hx1, hx2⟩ := has_some hhx
            have hxv := fun w' (h : Pure W9 w') => st_val (hS9.pure h) hx1
            rw [hhx] at Cpl
            rw [hx2] at Cge
            obtain ⟨q', hq'⟩ : ∃ q', low es' (kb key) = q' := ⟨_, rfl⟩
            rw [hq'] at Cpl Cmp hxv
            have Hxv := Lib.hid hxv
            have hqn := (hxv W9 (Kept.refl _ _)).1
            obtain ⟨_, gv, ov, hBB, _⟩ := hxv W9 (Kept.refl _ _)
            first | subst hBB | (injection hBB with hBB; injection hBB with e1 e2; subst e1 e2)
            clear hhx hx1 hx2 hq' hxv hS9
            go_wp2_with fail
            refine Cpl.out.mono ?_
            rintro e wa ⟨rfl, ka⟩
            have hcx := (HB.out.kept ka (fun h => h)).cell
            go_wp2_with fail
            refine (Cge.out _ ka).mono ?_
            rintro e wb ⟨rfl, kb'⟩
            have kab := ka.same kb'
            have hcx := (HB.out.kept kab (fun h => h)).cell
            go_wp2_with fail
            refine (Cmp.out _ kab).mono ?_
            rintro e wc ⟨rfl, kc⟩
            have kabc := kab.same kc
            go_wp2_with fail
            refine (Cln.out _ kabc).mono ?_
            rintro e wd ⟨rfl, rfl⟩
            obtain ⟨_, gv', ov', he, hcv⟩ := Hxv.out _ kabc
            injection he with he
            injection he with he1 he2
            subst he1 he2
            try rw [Nat.zero_add] at hcv
            have hqi : (q' : Int) < (n' : Int) := by omega
            go_wp2
            go_roundw
            case measure => simp [intOf]; omega
            case rel => exact ⟨k + 1, n', d1, d2, es', B1, _, by first | rfl | go_num, rfl, rfl, by omega, (HS.out.pure kabc), Hes'.out, HK.out.same (kabc.mono (fun _ _ h => h.elim))⟩
          | false =>
            have hx2 := has_none hhx
            rw [hhx] at Cpl
            rw [hx2] at Cge
            obtain ⟨q', hq'⟩ : ∃ q', low es' (kb key) = q' := ⟨_, rfl⟩
            rw [hq'] at Cpl Cmp
            clear hhx hx2 hq' hS9
            go_wp2_with fail
            refine Cpl.out.mono ?_
            rintro e wa ⟨rfl, ka⟩
            have hcx := (HB.out.kept ka (fun h => h)).cell
            go_wp2_with fail
            refine (Cge.out _ ka).mono ?_
            rintro e wb ⟨rfl, kb'⟩
            have kab := ka.same kb'
            have hcx := (HB.out.kept kab (fun h => h)).cell
            go_wp2_with fail
            refine (Cmp.out _ kab).mono ?_
            rintro e wc ⟨rfl, kc⟩
            have kabc := kab.same kc
            go_wp2_with fail
            refine (Cln.out _ kabc).mono ?_
            rintro e wd ⟨rfl, rfl⟩
            go_wp2
            go_roundw
            case measure => simp [intOf]; omega
            case rel => exact ⟨k + 1, n', d1, d2, es', B1, B2, by first | rfl | go_num, rfl, rfl, by omega, (HS.out.pure kabc), Hes'.out, HK.out.same (kabc.mono (fun _ _ h => h.elim))⟩
      · obtain rfl : L = k := by omega
        rw [List.take_of_length_le (by have := Hn.out; omega)] at hes
        have hn80 : n ≤ 80 := by have := Hn.out; omega
        have hkw : Kept (fun b => N ≤ b) w wr := (Hk.out.mono (fun _ _ h => h.elim)).same hkr.out
        have Hkw := Lib.hid hkw
        have CK : ∀ (w' : World), St N w' es n A1 c1 A2 c2 → Calls Try.prog 11 #[.pointer (some ⟨N, 0, none⟩)] w' fun e w9 => ∃ A c, e = .returned (.slice A n c) ∧ Sl w9 (fun b => w'.heap.size ≤ b) 1 A n ((es.map Prod.fst).map Value.string) ∧ Pure w' w9 := fun w' h => by
          obtain ⟨hn, F, R1, R2, h1, h2, h3, h4, h5, h6⟩ := h
          have := i_keys w' F N es h4
          rw [hn] at this
          refine this.mono ?_
          rintro e w9 ⟨A, c, he, ho, hp⟩
          refine ⟨A, c, he, ?_, hp⟩
          have := ho.sl
          rw [List.map_map]
          exact this
        have HCK := Lib.hid (CK wr hst.out)
        clear CK hkw hes
        go_wp2_with fail
        refine (HCK.out).mono ?_
        rintro e w5 ⟨A5, c5, rfl, hs5, hk5⟩
        have hst5 := hst.out.pure hk5
        have hs6 : Sl w5 (fun _ => True) 1 A1 n ((es.map Prod.fst).map Value.string) := by
          obtain ⟨_, _, R1, _, _, _, _, _, h5, _⟩ := hst5
          rw [← keyV_map]
          exact h5.sl.imp (fun _ _ _ => trivial)
        have CT := Lib.hid (texts_any A5 n c5 (es.map Prod.fst) A1 n c1 (es.map Prod.fst) w5 _ _ hs5 hs6 (by omega) (by omega))
        have Hst5 := Lib.hid hst5
        have Hkw5 := Lib.hid (Hkw.out.same (hk5.mono (fun _ _ h => h.elim)))
        clear hst5 hs5 hs6 hk5
        go_wp2_with fail
        refine (CT.out).mono ?_
        rintro e w6 ⟨rfl, hk6⟩
        have Hst6 := Lib.hid (Hst5.out.pure hk6)
        have Hkw6 := Lib.hid (Hkw5.out.same (hk6.mono (fun _ _ h => h.elim)))
        clear hk6
        have hdt : decide (es.map Prod.fst = es.map Prod.fst) = true := by simp
        go_wp2
        go_loopw [14] (fun i wr => ∃ t : Nat, i = .int .i64 ((t : Int) - 1) ∧ t ≤ n + 2 ∧ Pure w6 wr) (fun i _ => n + 2 - (intOf i + 1).toNat)
        case atStart => exact ⟨0, by simp, by omega, Kept.refl _ _⟩
        case round =>
          obtain ⟨t, rfl, htn, hp⟩ := hrel
          have Cat := fun i => st_at i (Hst6.out.pure hp)
          by_cases ht : t ≤ n + 1
          · rcases Nat.eq_zero_or_pos t with rfl | ht0
            · have C1 := Cat (-1)
              simp only [show ¬ ((0 : Int) ≤ -1) from by omega, if_false] at C1
              have HC1 := Lib.hid C1
              have hi : ((0 : Nat) : Int) - 1 = -1 := rfl
              rw [hi]
              have hin : (-1 : Int) ≤ (n : Int) := by omega
              clear C1 Cat
              go_wp2_with fail
              refine HC1.out.mono ?_
              rintro e w9 ⟨rfl, hk9⟩
              go_wp2
              go_roundw
              case measure => first | omega | (simp [intOf]; done) | (simp [intOf]; omega)
              case rel => exact ⟨1, by first | rfl | go_num, by omega, hp.same hk9⟩
            · obtain ⟨j, rfl⟩ : ∃ j, t = j + 1 := ⟨t - 1, by omega⟩
              have hi : ((j + 1 : Nat) : Int) - 1 = (j : Int) := by omega
              rw [hi]
              have C1 := Cat (j : Int)
              simp only [show (0 : Int) ≤ (j : Int) from by omega, if_true, Int.toNat_natCast] at C1
              have hin : (j : Int) ≤ (n : Int) := by omega
              have hj0 : (0 : Int) ≤ (j : Int) := by omega
              by_cases hjn : j < n
              · obtain ⟨x, hx⟩ : ∃ x, es[j]? = some x := ⟨_, List.getElem?_eq_getElem (by have := Hst6.out.1; omega)⟩
                rw [hx] at C1
                have HC1 := Lib.hid C1
                have hkey := fun w' (h : Pure w6 w') => (st_key (Hst6.out.pure h) hx).2
                have hval := fun w' (h : Pure w6 w') => (st_val (Hst6.out.pure h) hx).2
                have Hkey := Lib.hid hkey
                have Hval := Lib.hid hval
                have hjl : (j : Int) < (n : Int) := by omega
                obtain ⟨x1, x2⟩ := x
                simp only at HC1 Hkey Hval
                obtain ⟨g1, o1, rfl, _⟩ := Hkey.out _ hp
                obtain ⟨g2, o2, rfl, _⟩ := Hval.out _ hp
                clear C1 Cat hx hkey hval
                go_wp2_with fail
                refine HC1.out.mono ?_
                rintro e w9 ⟨rfl, hk9⟩
                obtain ⟨_, _, he1, hc1⟩ := Hkey.out _ (hp.same hk9)
                injection he1 with he1
                injection he1 with e1 e2
                subst e1 e2
                obtain ⟨_, _, he2, hc2⟩ := Hval.out _ (hp.same hk9)
                injection he2 with he2
                injection he2 with e1 e2
                subst e1 e2
                go_wp2
                go_roundw
                case measure => simp [intOf]; omega
                case rel => exact ⟨j + 1 + 1, by first | rfl | go_num, by omega, hp.same hk9⟩
              · obtain rfl : n = j := by omega
                rw [List.getElem?_eq_none (by have := Hst6.out.1; omega)] at C1
                have HC1 := Lib.hid C1
                clear C1 Cat
                go_wp2_with fail
                refine HC1.out.mono ?_
                rintro e w9 ⟨rfl, hk9⟩
                go_wp2
                go_roundw
                case measure => simp [intOf]; omega
                case rel => exact ⟨n + 1 + 1, by first | rfl | go_num, by omega, hp.same hk9⟩
          · obtain rfl : t = n + 2 := by omega
            have hi : ((n + 2 : Nat) : Int) - 1 = (n : Int) + 1 := by omega
            rw [hi]
            have hin : ¬ (n : Int) + 1 ≤ (n : Int) := by omega
            have C1 := Cat at'
            by_cases h0 : 0 ≤ at'
            · rw [if_pos h0] at C1
              by_cases hjn : at'.toNat < n
              · obtain ⟨x, hx⟩ : ∃ x, es[at'.toNat]? = some x := ⟨_, List.getElem?_eq_getElem (by have := Hst6.out.1; omega)⟩
                rw [hx] at C1
                have HC1 := Lib.hid C1
                have hal : at' < (n : Int) := by omega
                clear C1 Cat hx
                go_wp2_with fail
                refine HC1.out.mono ?_
                rintro e w9 ⟨rfl, hk9⟩
                go_wp2
                go_ret
                exact ⟨rfl, (Hkw6.out.same ((hp.same hk9).mono (fun _ _ h => h.elim))).mono (fun b hb h => by omega)⟩
              · rw [List.getElem?_eq_none (by have := Hst6.out.1; omega)] at C1
                have HC1 := Lib.hid C1
                have hal : (n : Int) ≤ at' := by omega
                have hal2 : decide (at' < (n : Int)) = false := by simpa using hal
                clear C1 Cat
                go_wp2_with fail
                refine HC1.out.mono ?_
                rintro e w9 ⟨rfl, hk9⟩
                go_wp2
                go_ret
                exact ⟨rfl, (Hkw6.out.same ((hp.same hk9).mono (fun _ _ h => h.elim))).mono (fun b hb h => by omega)⟩
            · rw [if_neg h0] at C1
              have HC1 := Lib.hid C1
              clear C1 Cat
              go_wp2_with fail
              refine HC1.out.mono ?_
              rintro e w9 ⟨rfl, hk9⟩
              go_wp2
              go_ret
              exact ⟨rfl, (Hkw6.out.same ((hp.same hk9).mono (fun _ _ h => h.elim))).mono (fun b hb h => by omega)⟩
theorem omapPlays_top (A : Option Addr) (c : Nat) (l : List Act) (at' : Int) (w : World) (hs : Sl w (fun _ => True) 3 A l.length (l.flatMap Act.cells)) (_ : l.length ≤ maxLen) (hf : ∀ a ∈ l, a.Fits) (_h : (Lit.int .i64 at').wf = true) :
    Calls Try.prog 5 #[.slice A l.length c, .int .i64 at'] w (BoolP true w) := plays_top A c l at' w _ hs hf
end Go.Proofs.Ytdgfefnaoionpaa
