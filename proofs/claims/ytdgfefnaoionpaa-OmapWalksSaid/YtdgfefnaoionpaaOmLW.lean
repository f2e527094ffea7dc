/-
  omap: OmapWalks walked.
-/
import Derived.Test.YtdgfefnaoionpaaOmLV
set_option linter.unusedSimpArgs false
set_option linter.unusedVariables false
namespace Go.Proofs.Ytdgfefnaoionpaa
open Go.RowKit
set_option maxRecDepth 100000
attribute [local go_sem] Oper.semAt_some

def mN (most : Int) : Nat := most.toNat
/-- Between two rounds of the first loop: the law's rows. -/
def Coll (B : Nat) (pre : List (En Int)) (W : World) : Prop :=
  ∃ (A1 A2 : Option Addr) (c1 c2 : Nat) (R1 R2 : Nat → Prop), (∀ b, R1 b → B + 5 ≤ b ∧ b < W.heap.size) ∧ (∀ b, R2 b → B + 5 ≤ b ∧ b < W.heap.size) ∧ (∀ b, R1 b → ¬ R2 b) ∧
    Blk W B 30 #[.slice A1 pre.length c1] ∧ Blk W (B + 2) 38 #[.slice A2 pre.length c2] ∧ Own W R1 9 1 (.slice A1 pre.length c1) pre.length (pre.map keyV) ∧ Own W R2 2 1 (.slice A2 pre.length c2) pre.length (pre.map valV)

theorem own_apart {w : World} {F G : Nat → Prop} {T1 T2 : TypeId} {k1 k2 n1 n2 b : Nat} {v1 v2 : Value} {x1 x2 : List Value} (h1 : Own w F T1 k1 v1 n1 x1) (h2 : Own w G T2 k2 v2 n2 x2) (hne : T1 ≠ T2) (e1 : v1.ownBlock = some b) : ¬ v2.ownBlock = some b := by
  intro e2
  rcases h1.1.2 with ⟨rfl, _⟩ | ⟨g, cap, cur, rfl, _, hg, _⟩
  · cases e1
  · rcases h2.1.2 with ⟨rfl, _⟩ | ⟨g', cap', cur', rfl, _, hg', _⟩
    · cases e2
    · simp [Value.ownBlock] at e1 e2
      subst e1 e2
      rw [hg] at hg'
      injection hg' with hg'
      injection hg' with _ ht
      exact hne ht

theorem filter_at {β : Type} (q : β → Bool) : ∀ (l : List β) (j : Nat) (e : β), l[j]? = some e → q e = true → (l.filter q)[((l.take j).filter q).length]? = some e
  | [], j, e, h, _ => by simp at h
  | a :: l, 0, e, h, hq => by
    simp at h
    subst h
    simp [hq]
  | a :: l, j + 1, e, h, hq => by
    have ih := filter_at q l j e (by simpa using h) hq
    rw [List.take_succ_cons]
    cases ha : q a with
    | true => rw [List.filter_cons_of_pos ha, List.filter_cons_of_pos ha]; simpa using ih
    | false => rw [List.filter_cons_of_neg (by simp [ha]), List.filter_cons_of_neg (by simp [ha])]; exact ih
theorem filter_take {β : Type} (q : β → Bool) (l : List β) (j : Nat) (e : β) (h : l[j]? = some e) : ((l.take (j + 1)).filter q).length = ((l.take j).filter q).length + (if q e then 1 else 0) := by
  rw [List.take_add_one, h, Option.toList_some, List.filter_append, List.length_append]
  cases hq : q e <;> simp [hq]

set_option maxHeartbeats 6400000 in
theorem walks_top (A : Option Addr) (c : Nat) (l : List Act) (p : ByteArray) (most : Int) (w : World) (F : Nat → Prop) (hs : Sl w F 3 A l.length (l.flatMap Act.cells)) (hf : ∀ a ∈ l, a.Fits) (hps : p.size ≤ maxLen) :
    Calls Try.prog 4 #[.slice A l.length c, .string p, .int .i64 most] w (BoolP true w) := by
  have CF := Lib.hid first14
  have CL := Lib.hid (fun w' (h : Pure w w') => light_any A c l w' F (hs.kept h (fun _ _ _ h => h)) hf)
  obtain ⟨n, hn⟩ : ∃ n, l.length = n := ⟨_, rfl⟩
  rw [hn] at CL hs ⊢
  unfold maxLen at hps
  have hb0 := Blk.new w 3 #[.int .i64 most]
  have hk0 : Pure w (w.alloc (.cells #[.int .i64 most] 3)) := (Kept.refl (fun _ => False) w).alloc (.cells #[.int .i64 most] 3)
  have hz0 : (w.alloc (.cells #[.int .i64 most] 3)).heap.size = w.heap.size + 1 := by simp
  have Hb0 := Lib.hid hb0
  have Hk0 := Lib.hid hk0
  refine (callsIn_wide (n := 7)).1 ?_
  refine callsIn_of_wp_marks Try.func4 rfl trivial ?_ rfl
  simp only [Try.ntmps4, List.size_toArray, List.length_cons, List.length_nil, Nat.reduceAdd, Nat.reduceSub, Array.replicate_succ, Array.replicate_zero, List.push_toArray, List.append_toArray, List.nil_append, List.cons_append]
  refine wpIn_wide.2 ?_
  cases hL : lightL l with
  | false =>
    rw [hL] at CL
    clear hs hf hb0 hk0
    go_wp2_with fail
    refine (CF.out _).mono ?_
    rintro e w1 ⟨rfl, hk1⟩
    go_wp2_with fail
    refine (CL.out _ (Hk0.out.same hk1)).mono ?_
    rintro e w2 ⟨rfl, rfl⟩
    go_wp2_with fail
    refine (CF.out _).mono ?_
    rintro e w3 ⟨rfl, hk3⟩
    go_wp2
    refine ⟨_, results_tmp rfl _ _ _, rfl, ?_⟩
    exact ((Hk0.out.same hk1).same hk3)
  | true =>
    rw [hL] at CL
    by_cases hp40 : p.size ≤ 40
    · have h80 : n ≤ 80 := by
        simp only [lightL, Bool.and_eq_true, decide_eq_true_eq] at hL
        omega
      have hp' : (p.size : Int) ≤ 40 := by omega
      have CN := Lib.hid i_new
      have Hs := Lib.hid hs
      have Hn := Lib.hid hn
      clear hs hn hf hL
      go_wp2_with fail
      refine (CF.out _).mono ?_
      rintro e w1 ⟨rfl, hk1⟩
      go_wp2_with fail
      refine (CL.out _ (Hk0.out.same hk1)).mono ?_
      rintro e w2 ⟨rfl, rfl⟩
      obtain ⟨N, hN⟩ : ∃ N, w2.heap.size = N := ⟨_, rfl⟩
      have CN' := CN.out w2
      rw [hN] at CN'
      go_wp2_with fail
      refine CN'.mono ?_
      rintro e w3 ⟨rfl, hm2, hk2⟩
      replace hm2 : Mpi w3 (fun b => N ≤ b) N [] := hm2.imp (fun b _ h => by omega)
      have hk : Pure w w3 := (Hk0.out.same hk1).same hk2
      have hNw : w.heap.size + 1 ≤ N := by have := hk1.size; omega
      have Hk := Lib.hid hk
      have Hm2 := Lib.hid hm2
      have Hbm := Lib.hid ((Hb0.out.kept hk1 (fun h => h)).kept hk2 (fun h => h))
      clear CN' hk1 hk2 hm2 hk hb0 hk0
      go_wp2
      go_loopw [8] (fun i wr => ∃ k : Nat, i = .int .i64 k ∧ k ≤ n ∧ Hid (Mpi wr (fun b => N ≤ b) N (runE (l.take k)) ∧ Kept (fun b => N ≤ b) w3 wr)) (fun i _ => n - (intOf i).toNat)
      case atStart => exact ⟨0, rfl, Nat.zero_le _, Hm2.out, Kept.refl _ _⟩
      case round =>
        obtain ⟨k, rfl, hkn, hr⟩ := hrel
        by_cases hlt : k < n
        · obtain ⟨b, o, rfl, _, _, _⟩ := Hs.out.2 (by omega)
          obtain ⟨a, ha⟩ : ∃ a, l[k]? = some a := ⟨_, List.getElem?_eq_getElem (by have := Hn.out; omega)⟩
          have hkr : Kept (fun b => N ≤ b) w wr := (Hk.out.mono (fun _ _ h => h.elim)).same hr.out.2
          have hsr := Hs.out.kept (hkr) (fun b hb _ h => by omega)
          have hc0 := sl_at Act.cells_len hsr (by omega) ha 0 (by omega)
          have hc1 := sl_at Act.cells_len hsr (by omega) ha 1 (by omega)
          have hc2 := sl_at Act.cells_len hsr (by omega) ha 2 (by omega)
          simp only [Act.cells] at hc0 hc1 hc2
          rw [Nat.add_zero] at hc0
          have hki : (k : Int) < (n : Int) := by omega
          have hel := runE_len (l.take k)
          rw [List.length_take] at hel
          have CP := Lib.hid (fun w' h => i_putN N w' N (runE (l.take k)) a.k a.v h (by omega))
          have CD := Lib.hid (fun w' h => i_delN N w' N (runE (l.take k)) a.k h)
          have hstep : runE (l.take (k + 1)) = actE (runE (l.take k)) a := by rw [List.take_add_one, ha, Option.toList_some, runE_snoc]
          have Hstep := Lib.hid hstep
          clear ha hkr hsr hstep
          by_cases hop : a.op = 1
          · have hact : actE (runE (l.take k)) a = delE (runE (l.take k)) (kb a.k) := by simp [actE, hop]
            rw [hact] at Hstep
            clear hact
            go_wp2_with fail
            refine (CD.out _ hr.out.1).mono ?_
            rintro e w9 ⟨rfl, hm9, hk9⟩
            go_wp2
            go_roundw
            case measure => simp [intOf]; omega
            case rel => exact ⟨k + 1, by first | rfl | go_num, by omega, by rw [Hstep.out]; exact hm9, hr.out.2.same hk9⟩
          · have hact : actE (runE (l.take k)) a = putE (runE (l.take k)) a.k a.v := by simp [actE, hop]
            rw [hact] at Hstep
            clear hact
            go_wp2
            refine wp_region_seq [11] [] (by kernel_rfl) (by kernel_rfl) (by kernel_rfl) ?_
            repeat (with_reducible refine seq_step (by decide) (by decide) (fun K hK => ?_); go_simp; refine hK _ _ ?_; clear hK K)
            with_reducible refine seq_move (by decide) (fun K hK => ?_)
            go_simp
            refine up_enter ((CP.out wr.drew hr.out.1).mono ?_)
            rintro e w9 ⟨rfl, hm9, hk9⟩
            refine ⟨_, rfl, hK _ _ ?_⟩
            clear hK K
            with_reducible refine seq_nil ?_
            go_wp2
            go_roundw
            case measure => simp [intOf]; omega
            case rel => exact ⟨k + 1, by first | rfl | go_num, by omega, by rw [Hstep.out]; exact hm9, hr.out.2.drew.same hk9⟩
        · obtain rfl : n = k := by omega
          have hm := hr.out.1
          rw [List.take_of_length_le (by have := Hn.out; omega)] at hm
          have hkr : Kept (fun b => N ≤ b) w wr := (Hk.out.mono (fun _ _ h => h.elim)).same hr.out.2
          have hbm := Hbm.out.kept hr.out.2 (fun h => by omega)
          obtain ⟨es, hes⟩ : ∃ es, runE l = es := ⟨_, rfl⟩
          have hel := runE_len l
          rw [hes] at hm hel
          have hm80 : es.length ≤ 80 := by have := Hn.out; omega
          obtain ⟨B, hB⟩ : ∃ B, wr.heap.size = B := ⟨_, rfl⟩
          have CA := Lib.hid (fun w => i_all w N)
          go_wp2_with fail
          refine (CA.out _).mono ?_
          rintro e w9 ⟨rfl, rfl⟩
          go_wp2
          obtain ⟨W0, hW0⟩ : ∃ W0, ((((wr.alloc (.cells #[.slice none 0 0] 30)).alloc (.cells #[.slice none 0 0] 30)).alloc (.cells #[.slice none 0 0] 38)).alloc (.cells #[.pointer (some ⟨N, 0, none⟩)] 25)).alloc (.cells #[.string ⟨#[]⟩] 9) = W0 := ⟨_, rfl⟩
          have k0 : Pure wr W0 := by rw [← hW0]; exact (((((Kept.refl _ wr).alloc _).alloc _).alloc _).alloc _).alloc _
          have s0 : W0.heap.size = B + 5 := by rw [← hW0, ← hB]; simp
          have bA : Blk W0 B 30 #[.slice none 0 0] := by rw [← hW0, ← hB]; exact ((((Blk.new wr _ _).alloc _).alloc _).alloc _).alloc _
          have bS : Blk W0 (B + 1) 30 #[.slice none 0 0] := by
            rw [← hW0, ← hB]
            have := Blk.new (wr.alloc (.cells #[.slice none 0 0] 30)) 30 #[.slice none 0 0]
            rw [World.size_alloc] at this
            exact ((this.alloc _).alloc _).alloc _
          have bV : Blk W0 (B + 2) 38 #[.slice none 0 0] := by
            rw [← hW0, ← hB]
            have := Blk.new ((wr.alloc (.cells #[.slice none 0 0] 30)).alloc (.cells #[.slice none 0 0] 30)) 38 #[.slice none 0 0]
            rw [World.size_alloc, World.size_alloc] at this
            exact (this.alloc _).alloc _
          have bM : Blk W0 (B + 3) 25 #[.pointer (some ⟨N, 0, none⟩)] := by
            rw [← hW0, ← hB]
            have := Blk.new (((wr.alloc (.cells #[.slice none 0 0] 30)).alloc (.cells #[.slice none 0 0] 30)).alloc (.cells #[.slice none 0 0] 38)) 25 #[.pointer (some ⟨N, 0, none⟩)]
            rw [World.size_alloc, World.size_alloc, World.size_alloc] at this
            exact this.alloc _
          have bP : Blk W0 (B + 4) 9 #[.string ⟨#[]⟩] := by
            rw [← hW0, ← hB]
            have := Blk.new ((((wr.alloc (.cells #[.slice none 0 0] 30)).alloc (.cells #[.slice none 0 0] 30)).alloc (.cells #[.slice none 0 0] 38)).alloc (.cells #[.pointer (some ⟨N, 0, none⟩)] 25)) 9 #[.string ⟨#[]⟩]
            rw [World.size_alloc, World.size_alloc, World.size_alloc, World.size_alloc] at this
            exact this
          have hmp : Mpi W0 (fun b => N ≤ b ∧ b < B) N es := (hm.imp (fun b hl h => ⟨h, by omega⟩)).kept k0 (fun _ _ _ h => h)
          have hNB : N < B := by have := hmp.1; omega
          have hst := i_stops (7 - 1) (by omega) (B + 3) (B + 4) N (fun b => b = B ∨ b = B + 2 ∨ B + 5 ≤ b) _ es ⟨#[]⟩ W0 bM (by omega) bP (by omega) hmp (fun b h => by omega)
          rw [underE_all] at hst
          have hkw0 : Kept (fun b => N ≤ b) w W0 := hkr.same (k0.mono (fun _ _ h => h.elim))
          have Hmp := Lib.hid hmp
          have HbS := Lib.hid bS
          have Hbm0 := Lib.hid (hbm.kept k0 (fun h => h))
          have Hkw0 := Lib.hid hkw0
          have Hrise := Lib.hid hm.2.1
          rw [hW0]
          clear hW0 bM bP bS hmp hm hr hbm hkr k0 hel hkw0
          refine (wpIn_wide (n := 7)).1 ?_
          refine wpIn_rangeFunc_ownG rfl (by omega) (gf := 30) (lb := #[.pointer (some ⟨B + 3, 0, none⟩), .pointer (some ⟨B + 4, 0, none⟩)]) rfl trivial (enters_of Try.func30 (by kernel_rfl) rfl) hst kept_t (kept_b (fun b hb => by omega)) (Below.refl _ _) (fun _ => rfl)
            (fun pre W => Coll B pre W ∧ Kept (fun b => b = B ∨ b = B + 2 ∨ B + 5 ≤ b) W0 W)
            (fun _ _ _ => False)
            (OwnFrom.and (fun pre X Y row hC hg hr => by
              obtain ⟨A1, A2, c1, c2, R1, R2, h1, h2, h3, h4, h5, h6, h7⟩ := hC
              have hsz := hg.size
              exact ⟨A1, A2, c1, c2, R1, R2, fun b hb => by have := h1 b hb; omega, fun b hb => by have := h2 b hb; omega, h3, h4.grown hg (fun r e => (hr r e).2), h5.grown hg (fun r e => (hr r e).2), h6.grown hg (fun r e => (hr r e).2), h7.grown hg (fun r e => (hr r e).2)⟩) (ownFrom_kept (fun b hb => by omega)))
            (fun _ _ _ _ _ hs _ _ => hs)
            ⟨⟨none, none, 0, 0, fun _ => False, fun _ => False, fun _ h => h.elim, fun _ h => h.elim, fun _ h => h.elim, bA, bV, Own.nil _ _ _ _, Own.nil _ _ _ _⟩, Kept.refl _ _⟩
            ?a1 ?assign ?body ?done ?stop
          case assign =>
            intro l x W K hK
            simp only [encE]
            gi_wp2
            exact hK
          case body =>
            rintro l pre x W ⟨hC, hk⟩ hlt
            obtain ⟨A1, A2, c1, c2, Q1, Q2, g1, g2, gd, h4, h5, h6', h7'⟩ := hC
            obtain ⟨m, hm⟩ : ∃ m, pre.length = m := ⟨_, rfl⟩
            rw [hm] at h4 h5 h6' h7' hlt
            obtain ⟨R1, hR1⟩ : ∃ R : Nat → Prop, R = fun b => (Value.slice A1 m c1).ownBlock = some b := ⟨_, rfl⟩
            obtain ⟨R2, hR2⟩ : ∃ R : Nat → Prop, R = fun b => (Value.slice A2 m c2).ownBlock = some b := ⟨_, rfl⟩
            have h6 : Own W R1 9 1 (.slice A1 m c1) m (pre.map keyV) := ⟨h6'.1, fun g h => by rw [hR1]; exact h⟩
            have h7 : Own W R2 2 1 (.slice A2 m c2) m (pre.map valV) := ⟨h7'.1, fun g h => by rw [hR2]; exact h⟩
            have h1 : ∀ b, R1 b → B + 5 ≤ b ∧ b < W.heap.size := fun b h => by rw [hR1] at h; exact g1 b (h6'.2 b h)
            have h2 : ∀ b, R2 b → B + 5 ≤ b ∧ b < W.heap.size := fun b h => by rw [hR2] at h; exact g2 b (h7'.2 b h)
            have hd : ∀ b, R1 b → ¬ R2 b := fun b h h' => by rw [hR1] at h; rw [hR2] at h'; exact gd b (h6'.2 b h) (h7'.2 b h')
            have hc1 : ∀ k o, W.heap[k]? = some o → (k = B ∨ k = B + 2 ∨ R1 k ∨ R2 k) → o.isCells = true := fun k o ho h => by
              rcases h with rfl | rfl | h | h
              · unfold Blk at h4; rw [h4] at ho; injection ho with ho; subst ho; rfl
              · unfold Blk at h5; rw [h5] at ho; injection ho with ho; subst ho; rfl
              · rw [hR1] at h; exact own_cells h6' h ho
              · rw [hR2] at h; exact own_cells h7' h ho
            have hsW := hk.size
            have hM5 : B + 5 ≤ W.heap.size := by omega
            have Hc1 := Lib.hid hc1
            clear hR1 hR2 h6' h7' g1 g2 gd hc1
            gi_wp2
            refine wpIn_region_freeI (fun w' => Kept (fun b => b = B ∨ b = B + 2 ∨ R1 b ∨ R2 b) W w') (col0 B m R1 R2 (pre.map keyV) (pre.map valV) A1 c1 A2 c2) (colT B R1 R2) [2, 3, 6, 7, 8, 9] colB (colM B W.heap.size m R1 R2 (pre.map keyV) (pre.map valV) x) (by kernel_rfl) (by kernel_rfl) (by kernel_rfl)
              (col0_stable _ _ _ _ _ _ _ h1 h2 hd _ _ _ _) (colM_stable _ _ _ _ _ _ _ _ hM5 h1 h2 hd) (Kept.refl _ _).drew (fun j => by
                unfold col0
                split
                · exact h4
                · exact h5
                · exact h6
                · exact h7
                · trivial) ?_
            repeat (refine freeI_step (by decide) (fun K hK => ?_); go_simp; first | (refine ex_steadyF ?_ (fun w' hw' => ?_) ?_; rotate_left; (have hc : Blk w' B 30 #[.slice A1 m c1] := hw'.2.1 0 (by kernel_rfl); have hcc := hc.cell; go_simp; first | done | rfl); (refine hK _ ?_; clear hK K)) | (refine hK _ ?_; clear hK K))
            refine freeI_move0 (by decide) rfl (fun w' hw' => ?_) (fun v hv => ?_)
            · go_simp
              have e1 := hw'.1
              exact ⟨Kept.alloc e1 _, (Kept.refl _ _).alloc _, _, rfl, e1.size, Blk.new _ _ _⟩
            obtain ⟨_, _, g2, rfl, hg2, _⟩ := hv
            refine freeI_move0 (by decide) rfl (fun w' hw' => ?_) (fun v hv => ?_)
            · have e1 := hw'.1
              have f2 : colM B W.heap.size m R1 R2 (pre.map keyV) (pre.map valV) x 2 (.slice (some ⟨g2, 0, none⟩) 1 1) w' := hw'.2.2 (2, _) (List.mem_cons_self ..) (by kernel_rfl) (by kernel_rfl)
              have f0 : Own w' R1 9 1 (.slice A1 m c1) m (pre.map keyV) := hw'.2.1 2 (by kernel_rfl)
              obtain ⟨g', he, hB', hbk⟩ := f2
              obtain rfl := sl_inj he
              refine up_app Try.underlying30 info_str rfl (by omega) f0 (sl_single hbk) (by intro u hu; simp at hu; subst hu; rfl) (by omega) (by omega) _ _ rfl rfl rfl (fun v' w'' ho' hk' => ?_)
              have e2 : Kept (fun b => b = B ∨ b = B + 2 ∨ R1 b ∨ R2 b) W w'' := Kept.same e1 (hk'.mono (fun b _ h => .inr (.inr (.inl h))))
              have hz := Kept.size e1
              exact ⟨e2, hk', ho'.imp (fun b _ h => by rcases h with h | h; exact .inl h; exact .inr (by omega))⟩
            obtain ⟨w3', _, ho3⟩ := hv
            replace ho3 : Own w3' (fun b => R1 b ∨ W.heap.size ≤ b) 9 1 v (m + 1) (pre.map keyV ++ [keyV x]) := ho3
            obtain ⟨A3, c3, rfl, _⟩ := ho3.form
            clear ho3
            repeat (refine freeI_step (by decide) (fun K hK => ?_); go_simp; first | (refine ex_steadyF ?_ (fun w' hw' => ?_) ?_; rotate_left; (have hc : Blk w' (B + 2) 38 #[.slice A2 m c2] := hw'.2.1 1 (by kernel_rfl); have hcc := hc.cell; go_simp; first | done | rfl); (refine hK _ ?_; clear hK K)) | (refine hK _ ?_; clear hK K))
            refine freeI_move0 (by decide) rfl (fun w' hw' => ?_) (fun v hv => ?_)
            · go_simp
              have e1 := hw'.1
              exact ⟨Kept.alloc e1 _, (Kept.refl _ _).alloc _, _, rfl, e1.size, Blk.new _ _ _⟩
            obtain ⟨_, _, g6, rfl, hg6, _⟩ := hv
            refine freeI_move0 (by decide) rfl (fun w' hw' => ?_) (fun v hv => ?_)
            · have e1 := hw'.1
              have f6 : colM B W.heap.size m R1 R2 (pre.map keyV) (pre.map valV) x 6 (.slice (some ⟨g6, 0, none⟩) 1 1) w' := hw'.2.2 (6, _) (List.mem_cons_self ..) (by kernel_rfl) (by kernel_rfl)
              have f0 : Own w' R2 2 1 (.slice A2 m c2) m (pre.map valV) := hw'.2.1 3 (by kernel_rfl)
              obtain ⟨g', he, hB', hbk⟩ := f6
              obtain rfl := sl_inj he
              refine up_app Try.underlying38 info_int rfl (by omega) f0 (sl_single hbk) (by intro u hu; simp at hu; subst hu; rfl) (by omega) (by omega) _ _ rfl rfl rfl (fun v' w'' ho' hk' => ?_)
              have e2 : Kept (fun b => b = B ∨ b = B + 2 ∨ R1 b ∨ R2 b) W w'' := Kept.same e1 (hk'.mono (fun b _ h => .inr (.inr (.inr h))))
              have hz := Kept.size e1
              exact ⟨e2, hk', ho'.imp (fun b _ h => by rcases h with h | h; exact .inl h; exact .inr (by omega))⟩
            obtain ⟨w7', _, ho7⟩ := hv
            replace ho7 : Own w7' (fun b => R2 b ∨ W.heap.size ≤ b) 2 1 v (m + 1) (pre.map valV ++ [valV x]) := ho7
            obtain ⟨A7, c7, rfl, _⟩ := ho7.form
            clear ho7
            refine freeI_move0 (by decide) rfl (fun w' hw' => ?_) (fun v8 hv => ?_)
            · have e1 := hw'.1
              have f3' : colM B W.heap.size m R1 R2 (pre.map keyV) (pre.map valV) x 3 (.slice A3 (m + 1) c3) w' := hw'.2.2 (3, .slice A3 (m + 1) c3) (by simp) (by kernel_rfl) (by kernel_rfl)
              have f3 : Own w' (fun b => R1 b ∨ W.heap.size ≤ b) 9 1 (.slice A3 (m + 1) c3) (m + 1) (pre.map keyV ++ [keyV x]) := f3'
              have f0 : Blk w' B 30 #[.slice A1 m c1] := hw'.2.1 0 (by kernel_rfl)
              have hcc := f0.cell
              have hff := f0.frozen 0
              have hb9 := f0.set 0 (.slice A3 (m + 1) c3)
              have hks := (Kept.refl (· = B) w').setCell (p := ⟨B, 0, none⟩) (.inl rfl) (.slice A3 (m + 1) c3)
              clear hw'
              go_simp
              exact ⟨Kept.same e1 (hks.mono (fun b _ h => .inl h)), hks, A3, c3, hb9, f3.kept hks (fun b _ h e => by have e : b = B := e; rcases h with h | h; (have := h1 b h; omega); omega)⟩
            clear hv
            refine freeI_move0 (by decide) rfl (fun w' hw' => ?_) (fun v9 hv => ?_)
            · have e1 := hw'.1
              have f7' : colM B W.heap.size m R1 R2 (pre.map keyV) (pre.map valV) x 7 (.slice A7 (m + 1) c7) w' := hw'.2.2 (7, .slice A7 (m + 1) c7) (by simp) (by kernel_rfl) (by kernel_rfl)
              have f7 : Own w' (fun b => R2 b ∨ W.heap.size ≤ b) 2 1 (.slice A7 (m + 1) c7) (m + 1) (pre.map valV ++ [valV x]) := f7'
              have f0 : Blk w' (B + 2) 38 #[.slice A2 m c2] := hw'.2.1 1 (by kernel_rfl)
              have hcc := f0.cell
              have hff := f0.frozen 0
              have hb9 := f0.set 0 (.slice A7 (m + 1) c7)
              have hks := (Kept.refl (· = B + 2) w').setCell (p := ⟨B + 2, 0, none⟩) (.inl rfl) (.slice A7 (m + 1) c7)
              clear hw'
              go_simp
              exact ⟨Kept.same e1 (hks.mono (fun b _ h => .inr (.inl h))), hks, A7, c7, hb9, f7.kept hks (fun b _ h e => by have e : b = B + 2 := e; rcases h with h | h; (have := h2 b h; omega); omega)⟩
            clear hv
            refine freeI_nil (fun w9 hp9 he9 => ?_)
            obtain ⟨A8, c8, hb8, ho8⟩ : colM B W.heap.size m R1 R2 (pre.map keyV) (pre.map valV) x 8 v8 w9 := he9 (8, v8) (by simp) (by kernel_rfl)
            obtain ⟨A9, c9, hb9, ho9⟩ : colM B W.heap.size m R1 R2 (pre.map keyV) (pre.map valV) x 9 v9 w9 := he9 (9, v9) (by simp) (by kernel_rfl)
            clear he9
            gi_wp2
            have hz9 := Kept.size hp9
            refine ⟨(others_of_kept hp9 Hc1.out).from _, Kept.mono hp9 (fun b _ h => ?_), ⟨A8, A9, c8, c9, fun b => (Value.slice A8 (m + 1) c8).ownBlock = some b, fun b => (Value.slice A9 (m + 1) c9).ownBlock = some b, fun b hb => ?_, fun b hb => ?_, fun b hb => own_apart ho8 ho9 (by decide) hb, ?_, ?_, ?_, ?_⟩, hk.same (Kept.mono hp9 (fun b _ h => ?_))⟩
            · rcases h with h | h | h | h
              · exact .inl h
              · exact .inr (.inl h)
              · exact .inr (.inr (h1 b h).1)
              · exact .inr (.inr (h2 b h).1)
            · have hl9 := (ho8.1.lt b hb).2
              rcases ho8.2 b hb with h | h
              · exact ⟨(h1 b h).1, hl9⟩
              · exact ⟨by omega, hl9⟩
            · have hl9 := (ho9.1.lt b hb).2
              rcases ho9.2 b hb with h | h
              · exact ⟨(h2 b h).1, hl9⟩
              · exact ⟨by omega, hl9⟩
            · simpa [hm] using hb8
            · simpa [hm] using hb9
            · rw [List.length_append, List.length_singleton, hm, List.map_append]
              exact ⟨ho8.1, fun g h => h⟩
            · rw [List.length_append, List.length_singleton, hm, List.map_append]
              exact ⟨ho9.1, fun g h => h⟩
            · rcases h with h | h | h | h
              · exact .inl h
              · exact .inr (.inl h)
              · exact .inr (.inr (h1 b h).1)
              · exact .inr (.inr (h2 b h).1)
          case done =>
            rintro D ys V hD rfl ⟨hC, hkV⟩ hK
            obtain ⟨C, hCz⟩ : ∃ C, V.heap.size = C := ⟨_, rfl⟩
            have hDC : D < C := by rw [← hCz]; exact (Array.getElem?_eq_some_iff.1 hK).1
            have hB5 : B + 5 ≤ D := by omega
            have hmV := Hmp.out.kept hkV (fun b _ h => by omega)
            have hbS := HbS.out.kept hkV (by omega)
            have hbm := Hbm0.out.kept hkV (by omega)
            have hkw := Hkw0.out.same (hkV.mono (fun b _ h => by omega))
            have CU := Lib.hid (fun w => i_under w N p)
            go_wp2_with fail
            refine (CU.out _).mono ?_
            rintro e w9 ⟨rfl, rfl⟩
            go_wp2
            obtain ⟨W1, hW1⟩ : ∃ W1, (V.alloc (.cells #[.pointer (some ⟨N, 0, none⟩)] 25)).alloc (.cells #[.string p] 9) = W1 := ⟨_, rfl⟩
            have k1 : Pure V W1 := by rw [← hW1]; exact ((Kept.refl _ V).alloc _).alloc _
            have s1 : W1.heap.size = C + 2 := by rw [← hW1, ← hCz]; simp
            have bM : Blk W1 C 25 #[.pointer (some ⟨N, 0, none⟩)] := by rw [← hW1, ← hCz]; exact (Blk.new V _ _).alloc _
            have bP : Blk W1 (C + 1) 9 #[.string p] := by
              rw [← hW1, ← hCz]
              have := Blk.new (V.alloc (.cells #[.pointer (some ⟨N, 0, none⟩)] 25)) 9 #[.string p]
              rw [World.size_alloc] at this
              exact this
            have bS1 := hbS.kept k1 (fun h => h)
            have hst2 := i_stops (7 - 1) (by omega) C (C + 1) N (fun b => b = B + 1 ∨ C + 2 ≤ b) _ ys p W1 bM (by omega) bP (by omega) (hmV.kept k1 (fun _ _ _ h => h)) (fun b h => by omega)
            obtain ⟨us, hus⟩ : ∃ us, underE ys (kb p) = us := ⟨_, rfl⟩
            have hul : us.length ≤ 80 := by
              rw [← hus]
              unfold underE
              have := (List.takeWhile_sublist (l := ys.drop (low ys (kb p))) (fun e => Lib.hasPrefix (kb e.1) (kb p))).length_le
              rw [List.length_drop] at this
              omega
            rw [hus] at hst2
            have hK1 : W1.heap[D]? = some (.deferred (some [])) := (k1.block D (by omega) (fun h => h)).trans hK
            have Hus := Lib.hid hus
            have hCo : Coll B ys W1 := by
              obtain ⟨A1, A2, c1, c2, R1, R2, h1, h2, h3, h4, h5, h6, h7⟩ := hC
              have hsz := k1.size
              exact ⟨A1, A2, c1, c2, R1, R2, fun b hb => by have := h1 b hb; omega, fun b hb => by have := h2 b hb; omega, h3, h4.kept k1 (fun h => h), h5.kept k1 (fun h => h), h6.kept k1 (fun _ _ _ h => h), h7.kept k1 (fun _ _ _ h => h)⟩
            have hrb : ∃ (A1 A2 : Option Addr) (c1 c2 : Nat), Blk W1 B 30 #[.slice A1 ys.length c1] ∧ Blk W1 (B + 2) 38 #[.slice A2 ys.length c2] ∧ Own W1 (fun b => B + 5 ≤ b ∧ b < C) 9 1 (.slice A1 ys.length c1) ys.length (ys.map keyV) ∧ Own W1 (fun b => B + 5 ≤ b ∧ b < C) 2 1 (.slice A2 ys.length c2) ys.length (ys.map valV) := by
              obtain ⟨A1, A2, c1, c2, R1, R2, h1, h2, h3, h4, h5, h6, h7⟩ := hC
              exact ⟨A1, A2, c1, c2, h4.kept k1 (fun h => h), h5.kept k1 (fun h => h), (h6.imp (fun b _ h => by have := h1 b h; omega)).kept k1 (fun _ _ _ h => h), (h7.imp (fun b _ h => by have := h2 b h; omega)).kept k1 (fun _ _ _ h => h)⟩
            have Hrb := Lib.hid hrb
            have Hm1 := Lib.hid (hmV.kept k1 (fun _ _ _ h => h))
            have Hbm1 := Lib.hid (hbm.kept k1 (fun h => h))
            have Hkw1 := Lib.hid (hkw.same (k1.mono (fun _ _ h => h.elim)))
            have HK1 := Lib.hid hK1
            rw [hW1]
            clear hW1 bM bP hC hCo hrb hkw hbm hbS hmV hkV hK hK1 k1 hus bA bV hst
            refine (wpIn_wide (n := 7)).1 ?_
            refine wpIn_rangeFunc_ownG rfl (by omega) (gf := 30) (lb := #[.pointer (some ⟨C, 0, none⟩), .pointer (some ⟨C + 1, 0, none⟩)]) rfl trivial (enters_of Try.func30 (by kernel_rfl) rfl) hst2 kept_t (kept_b (fun b hb => by omega)) (Below.refl _ _) (fun _ => rfl)
              (fun pre W => (∃ A c, Blk W (B + 1) 30 #[.slice A pre.length c] ∧ Own W (fun b => C + 2 ≤ b) 9 1 (.slice A pre.length c) pre.length (pre.map keyV)) ∧ pre.length ≤ mN most ∧ Kept (fun b => b = B + 1 ∨ C + 2 ≤ b) W1 W)
              (fun cd pre W => cd = .exit 4 ∧ (∃ q x A c, pre = q ++ [x] ∧ Blk W (B + 1) 30 #[.slice A q.length c] ∧ Own W (fun b => C + 2 ≤ b) 9 1 (.slice A q.length c) q.length (q.map keyV) ∧ q.length = mN most) ∧ Kept (fun b => b = B + 1 ∨ C + 2 ≤ b) W1 W)
              (fun pre X Y row hs hg hr => by
                obtain ⟨⟨A, c, h1, h2⟩, h3, h4⟩ := hs
                exact ⟨⟨A, c, h1.grown hg (fun r e => (hr r e).2), h2.grown hg (fun r e => (hr r e).2)⟩, h3, h4.grown hg (fun k e => by have := (hr k e).1; exact .inl (by omega))⟩)
              (fun cd pre X Y row hs hg hr => by
                obtain ⟨h0, ⟨q, x, A, c, h1, h2, h3, h4⟩, h5⟩ := hs
                exact ⟨h0, ⟨q, x, A, c, h1, h2.grown hg (fun r e => (hr r e).2), h3.grown hg (fun r e => (hr r e).2), h4⟩, h5.grown hg (fun k e => by have := (hr k e).1; exact .inl (by omega))⟩)
              ⟨⟨none, 0, bS1, Own.nil _ _ _ _⟩, Nat.zero_le _, Kept.refl _ _⟩
              ?a2 ?assign2 ?body2 ?done2 ?stop2
            case assign2 =>
              intro l x W K hK
              simp only [encE]
              gi_wp2
              exact hK
            case body2 =>
              rintro l pre x W ⟨⟨A3, c3, hv, hrow⟩, hpm, hk⟩ hlt
              have hc := hv.cell
              have hbmW := (Hbm1.out.kept hk (by omega)).cell
              have hsz := hk.size
              by_cases hge : mN most ≤ pre.length
              · have hge' : most ≤ (pre.length : Int) := by unfold mN at hge; omega
                gi_wp2
                refine ⟨(KeepsOthers.refl _).from _, rfl, ⟨pre, x, A3, c3, rfl, hv, hrow, by omega⟩, hk⟩
              · have hge' : ¬ most ≤ (pre.length : Int) := by unfold mN at hge; omega
                gi_wp2_with (gi_at_builtin; refine held ?_)
                refine unheld ?_
                refine wpIn_collect (C + 2) Try.underlying30 info_str rfl (by omega) (by simp; omega) (hrow.alloc _) (Sl.one W (.string x.1) _) (by simp [Value.oneCell']) (by omega) (by omega) rfl _ _ rfl rfl rfl ?_
                intro A' c' w1 ho1 hk1 hoth1
                have hv1 := (hv.alloc (.cells #[.string x.1] 9)).kept hk1 (by omega)
                have hc1 := hv1.cell
                have hf1 := hv1.frozen 0
                have hb2 := hv1.set 0 (.slice A' (pre.length + 1) c')
                have hks := (Kept.refl (· = B + 1) w1).setCell (p := ⟨B + 1, 0, none⟩) (.inl rfl) (.slice A' (pre.length + 1) c')
                have ho2 := ho1.kept hks (fun b _ h e => by omega)
                have hkk : Kept (fun b => b = B + 1 ∨ C + 2 ≤ b) W (w1.setCell ⟨B + 1, 0, none⟩ (.slice A' (pre.length + 1) c')) := ((((Kept.refl _ W).alloc (.cells #[.string x.1] 9)).same (hk1.mono (fun _ _ h => .inr h))).same (hks.mono (fun _ _ h => .inl h)))
                have hko : KeepsOthers W (w1.setCell ⟨B + 1, 0, none⟩ (.slice A' (pre.length + 1) c')) := ((KeepsOthers.alloc W _).trans hoth1).trans (KeepsOthers.setCell _ _ _)
                have Hb2 := Lib.hid hb2
                have Ho2 := Lib.hid ho2
                have Hkk := Lib.hid hkk
                have Hko := Lib.hid hko
                clear hb2 ho2 hkk hko hks hv1 hk1 hoth1 ho1
                gi_wp2
                refine ⟨Hko.out.from _, Hkk.out, ⟨A', c', ?_, ?_⟩, by simp; omega, hk.same Hkk.out⟩
                · simpa using Hb2.out
                · rw [List.length_append, List.length_singleton, List.map_append]
                  exact Ho2.out
            case done2 =>
              rintro D2 xs U hD2 hxs ⟨⟨A4, c4, hb4, ho4⟩, hpm, hkU⟩ hK2
              obtain rfl : us = xs := hxs.symm
              obtain ⟨sm, hsm⟩ : ∃ sm, us.take (mN most) = sm := ⟨_, rfl⟩
              have hxm : us = sm := by rw [← hsm, List.take_of_length_le hpm]
              have HbU : Hid (Blk U (B + 1) 30 #[.slice A4 sm.length c4]) := Lib.hid (hxm ▸ hb4)
              have HoU : Hid (Own U (fun b => C + 2 ≤ b) 9 1 (.slice A4 sm.length c4) sm.length (sm.map keyV)) := Lib.hid (hxm ▸ ho4)
              have Hsm : Hid (sm = us.take (mN most)) := Lib.hid hsm.symm
              have HkU := Lib.hid hkU
              have HK2 := Lib.hid hK2
              clear hsm hxm hb4 ho4 hkU hK2 hpm hst2 bS1 hxs
              have hsl' := HoU.out.1.1
              obtain ⟨sl, hsl⟩ : ∃ sl, sm.length = sl := ⟨_, rfl⟩
              obtain ⟨yl, hyl⟩ : ∃ yl, ys.length = yl := ⟨_, rfl⟩
              have hmU := Hm1.out.kept HkU.out (fun b _ h => by omega)
              obtain ⟨A1, A2, c1, c2, r1, r2, r3, r4⟩ := Hrb.out
              have hbB := r1.kept HkU.out (by omega)
              have hbV := r2.kept HkU.out (by omega)
              have hoK := (r3.kept HkU.out (fun b _ h => by omega)).sl
              have hoV := (r4.kept HkU.out (fun b _ h => by omega)).sl
              have hbm := Hbm1.out.kept HkU.out (by omega)
              have hoS := HoU.out.sl
              have hbS := HbU.out
              rw [hsl] at hoS hbS
              rw [hyl] at hbB hbV hoK hoV
              have hsmn : sl = min us.length (mN most) := by rw [← hsl, Hsm.out, List.length_take]; omega
              have husf : us = ys.filter (fun e => Lib.hasPrefix (kb e.1) (kb p)) := by rw [← Hus.out]; exact under_filter hmU.2.1 _
              have HmU := Lib.hid hmU
              have HbB := Lib.hid hbB
              have HbV := Lib.hid hbV
              have HoK := Lib.hid hoK
              have HoV := Lib.hid hoV
              have HbM := Lib.hid hbm
              have HoS := Lib.hid hoS
              have HbS := Lib.hid hbS
              have Hsmn := Lib.hid hsmn
              have Husf := Lib.hid husf
              have Hyl := Lib.hid hyl
              have hyl80 : yl ≤ 80 := by omega
              have hul' : us.length ≤ 80 := by omega
              clear hmU hbB hbV hoK hoV hbm hoS hbS hsmn husf r1 r2 r3 r4 hsl' hyl hm80
              go_wp2
              go_loopw [15, 16] (fun nn i wr => ∃ j q : Nat, i = .int .i64 j ∧ nn = .int .i64 q ∧ j ≤ yl ∧ q ≤ 80 ∧ Hid (q = min ((ys.take j).filter (fun e => Lib.hasPrefix (kb e.1) (kb p))).length (mN most)) ∧ Pure U wr) (fun _ i _ => yl - (intOf i).toNat)
              case atStart => exact ⟨0, 0, rfl, rfl, Nat.zero_le _, Nat.zero_le _, by simp [Hid], Kept.refl _ _⟩
              case round =>
                obtain ⟨j, q, rfl, rfl, hj, hq80, hq, hpu⟩ := hrel
                have cB := (HbB.out.kept hpu (fun h => h)).cell
                have cS := (HbS.out.kept hpu (fun h => h)).cell
                have cM := (HbM.out.kept hpu (fun h => h)).cell
                have cV := (HbV.out.kept hpu (fun h => h)).cell
                by_cases hlt : j < yl
                · obtain ⟨e, he⟩ : ∃ e, ys[j]? = some e := ⟨_, List.getElem?_eq_getElem (by have := Hyl.out; omega)⟩
                  obtain ⟨gk, ok, rfl, _, _, _⟩ := HoK.out.2 (by omega)
                  obtain ⟨gv, ov, rfl, _, _, _⟩ := HoV.out.2 (by omega)
                  have ck := sl_one (HoK.out.kept hpu (fun _ _ _ h => h)) he
                  have cge := i_get wr _ N ys e.1 (HmU.out.kept hpu (fun _ _ _ h => h))
                  rw [val_mem HmU.out.2.1 he] at cge
                  have Cge := Lib.hid cge
                  have cvv := fun w' (h : Pure U w') => sl_one (HoV.out.kept h (fun _ _ _ h => h)) he
                  have ckk := fun w' (h : Pure U w') => sl_one (HoK.out.kept h (fun _ _ _ h => h)) he
                  have Cvv := Lib.hid cvv
                  have Ckk := Lib.hid ckk
                  have hji : (j : Int) < (yl : Int) := by omega
                  have hraw := Lib.hasPrefix_raw e.1 p
                  have hft := filter_take (fun e => Lib.hasPrefix (kb e.1) (kb p)) ys j e he
                  have hfa := filter_at (fun e => Lib.hasPrefix (kb e.1) (kb p)) ys j e he
                  obtain ⟨cnt, hcnt⟩ : ∃ cnt, ((ys.take j).filter (fun e => Lib.hasPrefix (kb e.1) (kb p))).length = cnt := ⟨_, rfl⟩
                  have hqm := hq.out
                  rw [hcnt] at hft hfa hqm
                  rw [← Husf.out] at hfa
                  obtain ⟨V, hV⟩ : ∃ V, Lib.hasPrefix (kb e.1) (kb p) = V := ⟨_, rfl⟩
                  simp only [hV] at hft hfa
                  rw [show Lib.hasPrefix e.1.data.toList p.data.toList = V from hV] at hraw
                  have Hft := Lib.hid hft
                  have Hfa := Lib.hid hfa
                  have Hraw := Lib.hid hraw
                  have Hqm := Lib.hid hqm
                  obtain ⟨x1, x2⟩ := e
                  simp only [keyV, valV] at ck Cvv Ckk
                  clear cge cvv ckk he hcnt hft hfa hraw hV hqm hq
                  go_wp2_with fail
                  refine Cge.out.mono ?_
                  rintro e wg ⟨rfl, kg⟩
                  have hpg := hpu.same kg
                  have cB := (HbB.out.kept hpg (fun h => h)).cell
                  have cS := (HbS.out.kept hpg (fun h => h)).cell
                  have cM := (HbM.out.kept hpg (fun h => h)).cell
                  have cV := (HbV.out.kept hpg (fun h => h)).cell
                  have ck := Ckk.out _ hpg
                  have cv := Cvv.out _ hpg
                  clear kg hpu
                  by_cases hsz : x1.size < p.size
                  · have hszi : (x1.size : Int) < (p.size : Int) := by omega
                    have hVf : V = false := by
                      have := Hraw.out
                      rw [show decide (p.size ≤ x1.size) = false from by simp; omega] at this
                      simpa using this.symm
                    subst hVf
                    go_wp2
                    go_roundw
                    case measure => simp [intOf]; omega
                    case rel => exact ⟨j + 1, q, by first | rfl | go_num, rfl, by omega, hq80, by rw [Hid, Hft.out]; simpa using Hqm.out, hpg⟩
                  · have hszi : ¬ (x1.size : Int) < (p.size : Int) := by omega
                    have hszj : (p.size : Int) ≤ (x1.size : Int) := by omega
                    have hext : ((x1.extract 0 p.size).toList == p.toList) = V := by
                      have := Hraw.out
                      rw [show decide (p.size ≤ x1.size) = true from by simp; omega] at this
                      simpa using this
                    cases V with
                    | false =>
                      go_wp2
                      go_roundw
                      case measure => simp [intOf]; omega
                      case rel => exact ⟨j + 1, q, by first | rfl | go_num, rfl, by omega, hq80, by rw [Hid, Hft.out]; simpa using Hqm.out, hpg⟩
                    | true =>
                      have hpe : (x1.extract 0 p.size).toList = p.toList := by simpa using hext
                      by_cases hge : most ≤ (q : Int)
                      · have hqq : q = mN most := by have := Hqm.out; unfold mN at *; omega
                        have Hqq := Lib.hid hqq
                        clear hqq
                        go_wp2
                        go_roundw
                        case measure => simp [intOf]; omega
                        case rel => exact ⟨j + 1, q, by first | rfl | go_num, rfl, by omega, hq80, by rw [Hid, Hft.out]; simp only [if_true]; have := Hqm.out; have := Hqq.out; omega, hpg⟩
                      · have hqc : q = cnt ∧ q < mN most := by have := Hqm.out; unfold mN at *; omega
                        obtain ⟨rfl, hqm2⟩ := hqc
                        have hus1 := Hfa.out rfl
                        have hqu := (List.getElem?_eq_some_iff.1 hus1).1
                        have hqs : q < sl := by have := Hsmn.out; omega
                        have hsm1 : sm[q]? = some (x1, x2) := by rw [Hsm.out, List.getElem?_take, if_pos hqm2]; exact hus1
                        obtain ⟨gs, os, rfl, _, _, _⟩ := HoS.out.2 (by omega)
                        have cs := sl_one (HoS.out.kept hpg (fun _ _ _ h => h)) hsm1
                        simp only [keyV] at cs
                        have hqi : (q : Int) < (sl : Int) := by omega
                        have hqd : decide ((sl : Int) ≤ (q : Int)) = false := by simp; omega
                        clear hus1 hsm1 hqu
                        go_wp2
                        go_quiet (fail)
                        go_wp2
                        go_roundw
                        case measure => simp [intOf]; omega
                        case rel => exact ⟨j + 1, q + 1, by first | rfl | go_num, by first | rfl | go_num, by omega, by have := Hsmn.out; omega, by rw [Hid, Hft.out]; simp only [if_true]; omega, hpg.drewN _⟩
                · obtain rfl : yl = j := by omega
                  have hqs : q = sl := by
                    have h1 := hq.out
                    rw [List.take_of_length_le (by have := Hyl.out; omega), ← Husf.out] at h1
                    rw [h1, Hsmn.out]
                  subst hqs
                  have CK := Lib.hid (fun w' (h : Pure U w') => i_keys w' _ N ys (HmU.out.kept h (fun _ _ _ h => h)))
                  rw [Hyl.out] at CK
                  have CLn := Lib.hid (fun w' (h : Pure U w') => i_len w' _ N ys (HmU.out.kept h (fun _ _ _ h => h)))
                  rw [Hyl.out] at CLn
                  have hsB := HbB.out.kept hpu (fun h => h)
                  have hsS := HbS.out.kept hpu (fun h => h)
                  have hdt : decide (ys.map Prod.fst = ys.map Prod.fst) = true := by simp
                  have hqq : (q == q) = true := by simp
                  clear hq
                  go_wp2
                  refine wp_region_seqS (fun x => Blk x (B + 1) 30 #[.slice A4 q c4] ∧ Blk x B 30 #[.slice A1 yl c1]) [7, 8, 14] [0, 1, 2, 3, 4, 5, 6, 9, 10, 11, 12, 13, 15, 16, 17] (by kernel_rfl) (by kernel_rfl) (by kernel_rfl) ⟨hsS, hsB⟩ ?_
                  repeat (with_reducible refine seq_free (by decide) (by decide) (fun K hK => ?_); go_simp; first | (refine ex_steadyF ?_ (fun w' hw' => ?_) ?_; rotate_left; (have cB := (Blk.cell hw'.2); have cS := (Blk.cell hw'.1); go_simp; first | done | rfl); (refine hK _ _ ?_; clear hK K)) | (refine hK _ _ ?_; clear hK K))
                  with_reducible refine seq_move (by decide) (fun K hK => ?_)
                  go_simp
                  refine up_enter ((CK.out _ hpu.drew).mono ?_)
                  rintro e wk ⟨A7, c7, rfl, ho7, hk7⟩
                  have hk7' : Pure wr wk := (Kept.refl _ wr).drew.same hk7
                  refine ⟨_, rfl, ⟨hsS.kept hk7' (fun h => h), hsB.kept hk7' (fun h => h)⟩, hK _ _ ?_⟩
                  clear hK K
                  have hs7 : Sl wk (fun b => wr.drew.heap.size ≤ b) 1 A7 yl ((ys.map Prod.fst).map Value.string) := by
                    have := ho7.sl
                    rw [List.map_map]
                    exact this
                  have hs6 : Sl wk (fun b => B + 5 ≤ b ∧ b < C) 1 A1 yl ((ys.map Prod.fst).map Value.string) := by
                    have := HoK.out.kept (hpu.same hk7') (fun _ _ _ h => h)
                    rwa [keyV_map] at this
                  have CT := Lib.hid (texts_any A1 yl c1 (ys.map Prod.fst) A7 yl c7 (ys.map Prod.fst) wk _ _ hs6 hs7 (by omega) (by omega))
                  with_reducible refine seq_move (by decide) (fun K hK => ?_)
                  go_simp
                  refine up_enter (CT.out.mono ?_)
                  rintro e wt ⟨rfl, hkt⟩
                  have hkt' : Pure wr wt := hk7'.same hkt
                  refine ⟨_, rfl, ⟨hsS.kept hkt' (fun h => h), hsB.kept hkt' (fun h => h)⟩, hK _ _ ?_⟩
                  clear hK K
                  repeat (with_reducible refine seq_free (by decide) (by decide) (fun K hK => ?_); go_simp; first | (refine ex_steadyF ?_ (fun w' hw' => ?_) ?_; rotate_left; (have cB := (Blk.cell hw'.2); have cS := (Blk.cell hw'.1); go_simp; first | done | rfl); (refine hK _ _ ?_; clear hK K)) | (refine hK _ _ ?_; clear hK K))
                  with_reducible refine seq_move (by decide) (fun K hK => ?_)
                  go_simp
                  refine up_enter ((CLn.out _ (hpu.same hkt')).mono ?_)
                  rintro e wl ⟨rfl, rfl⟩
                  refine ⟨_, rfl, ⟨hsS.kept hkt' (fun h => h), hsB.kept hkt' (fun h => h)⟩, hK _ _ ?_⟩
                  clear hK K
                  repeat (with_reducible refine seq_free (by decide) (by decide) (fun K hK => ?_); go_simp; first | (refine ex_steadyF ?_ (fun w' hw' => ?_) ?_; rotate_left; (have cB := (Blk.cell hw'.2); have cS := (Blk.cell hw'.1); go_simp; first | done | rfl); (refine hK _ _ ?_; clear hK K)) | (refine hK _ _ ?_; clear hK K))
                  with_reducible refine seq_nil ?_
                  have hpt := hpu.same hkt'
                  have hU2 := (hpt.block D2 (Array.getElem?_eq_some_iff.1 HK2.out).1 (fun h => h)).trans HK2.out
                  have hDC2 : D < W1.heap.size := by omega
                  have hU1 := (hpt.block D (Nat.lt_of_lt_of_le hDC2 HkU.out.size) (fun h => h)).trans ((HkU.out.block D hDC2 (by omega)).trans HK1.out)
                  have hkfin := (Hkw1.out.same (HkU.out.mono (fun b _ h => by omega))).same (hpt.mono (fun _ _ h => h.elim))
                  go_wp2
                  refine ⟨by simp, .inl ⟨_, _, rfl, run_takeDeferred hU2, ?_⟩⟩
                  refine ⟨by simp, .inl ⟨_, _, rfl, run_takeDeferred ((World.putObj_heap_other (by omega)).trans hU1), ?_⟩⟩
                  refine ⟨_, results_tmp rfl _ _ _, ?_, ?_⟩
                  · first | rfl | (simp; done)
                  · exact ((hkfin.grown (grownBy_putObj' _ D2 _) (fun k e => by cases e; exact .inl (by omega))).grown (grownBy_putObj' _ D _) (fun k e => by cases e; exact .inl (by omega))).mono (fun b hb h => by omega)
            case stop2 =>
              rintro D2 cd pre U hD2 hpre ⟨rfl, ⟨q0, x0, A4, c4, rfl, hb4, ho4, hqm⟩, hkU⟩ hK2
              obtain ⟨sm, hsm⟩ : ∃ sm, us.take (mN most) = sm := ⟨_, rfl⟩
              have hxm : q0 = sm := by
                rw [← hsm]
                obtain ⟨t, ht⟩ := hpre
                rw [← ht, List.append_assoc, List.take_append_of_le_length (by omega), List.take_of_length_le (by omega)]
              have HbU : Hid (Blk U (B + 1) 30 #[.slice A4 sm.length c4]) := Lib.hid (hxm ▸ hb4)
              have HoU : Hid (Own U (fun b => C + 2 ≤ b) 9 1 (.slice A4 sm.length c4) sm.length (sm.map keyV)) := Lib.hid (hxm ▸ ho4)
              have Hsm : Hid (sm = us.take (mN most)) := Lib.hid hsm.symm
              have HkU := Lib.hid hkU
              have HK2 := Lib.hid hK2
              clear hsm hxm hb4 ho4 hkU hK2 hst2 bS1 hpre hqm
              refine wpIn_wide.2 ?_
              have hsl' := HoU.out.1.1
              obtain ⟨sl, hsl⟩ : ∃ sl, sm.length = sl := ⟨_, rfl⟩
              obtain ⟨yl, hyl⟩ : ∃ yl, ys.length = yl := ⟨_, rfl⟩
              have hmU := Hm1.out.kept HkU.out (fun b _ h => by omega)
              obtain ⟨A1, A2, c1, c2, r1, r2, r3, r4⟩ := Hrb.out
              have hbB := r1.kept HkU.out (by omega)
              have hbV := r2.kept HkU.out (by omega)
              have hoK := (r3.kept HkU.out (fun b _ h => by omega)).sl
              have hoV := (r4.kept HkU.out (fun b _ h => by omega)).sl
              have hbm := Hbm1.out.kept HkU.out (by omega)
              have hoS := HoU.out.sl
              have hbS := HbU.out
              rw [hsl] at hoS hbS
              rw [hyl] at hbB hbV hoK hoV
              have hsmn : sl = min us.length (mN most) := by rw [← hsl, Hsm.out, List.length_take]; omega
              have husf : us = ys.filter (fun e => Lib.hasPrefix (kb e.1) (kb p)) := by rw [← Hus.out]; exact under_filter hmU.2.1 _
              have HmU := Lib.hid hmU
              have HbB := Lib.hid hbB
              have HbV := Lib.hid hbV
              have HoK := Lib.hid hoK
              have HoV := Lib.hid hoV
              have HbM := Lib.hid hbm
              have HoS := Lib.hid hoS
              have HbS := Lib.hid hbS
              have Hsmn := Lib.hid hsmn
              have Husf := Lib.hid husf
              have Hyl := Lib.hid hyl
              have hyl80 : yl ≤ 80 := by omega
              have hul' : us.length ≤ 80 := by omega
              clear hmU hbB hbV hoK hoV hbm hoS hbS hsmn husf r1 r2 r3 r4 hsl' hyl hm80
              go_wp2
              go_loopw [15, 16] (fun nn i wr => ∃ j q : Nat, i = .int .i64 j ∧ nn = .int .i64 q ∧ j ≤ yl ∧ q ≤ 80 ∧ Hid (q = min ((ys.take j).filter (fun e => Lib.hasPrefix (kb e.1) (kb p))).length (mN most)) ∧ Pure U wr) (fun _ i _ => yl - (intOf i).toNat)
              case atStart => exact ⟨0, 0, rfl, rfl, Nat.zero_le _, Nat.zero_le _, by simp [Hid], Kept.refl _ _⟩
              case round =>
                obtain ⟨j, q, rfl, rfl, hj, hq80, hq, hpu⟩ := hrel
                have cB := (HbB.out.kept hpu (fun h => h)).cell
                have cS := (HbS.out.kept hpu (fun h => h)).cell
                have cM := (HbM.out.kept hpu (fun h => h)).cell
                have cV := (HbV.out.kept hpu (fun h => h)).cell
                by_cases hlt : j < yl
                · obtain ⟨e, he⟩ : ∃ e, ys[j]? = some e := ⟨_, List.getElem?_eq_getElem (by have := Hyl.out; omega)⟩
                  obtain ⟨gk, ok, rfl, _, _, _⟩ := HoK.out.2 (by omega)
                  obtain ⟨gv, ov, rfl, _, _, _⟩ := HoV.out.2 (by omega)
                  have ck := sl_one (HoK.out.kept hpu (fun _ _ _ h => h)) he
                  have cge := i_get wr _ N ys e.1 (HmU.out.kept hpu (fun _ _ _ h => h))
                  rw [val_mem HmU.out.2.1 he] at cge
                  have Cge := Lib.hid cge
                  have cvv := fun w' (h : Pure U w') => sl_one (HoV.out.kept h (fun _ _ _ h => h)) he
                  have ckk := fun w' (h : Pure U w') => sl_one (HoK.out.kept h (fun _ _ _ h => h)) he
                  have Cvv := Lib.hid cvv
                  have Ckk := Lib.hid ckk
                  have hji : (j : Int) < (yl : Int) := by omega
                  have hraw := Lib.hasPrefix_raw e.1 p
                  have hft := filter_take (fun e => Lib.hasPrefix (kb e.1) (kb p)) ys j e he
                  have hfa := filter_at (fun e => Lib.hasPrefix (kb e.1) (kb p)) ys j e he
                  obtain ⟨cnt, hcnt⟩ : ∃ cnt, ((ys.take j).filter (fun e => Lib.hasPrefix (kb e.1) (kb p))).length = cnt := ⟨_, rfl⟩
                  have hqm := hq.out
                  rw [hcnt] at hft hfa hqm
                  rw [← Husf.out] at hfa
                  obtain ⟨V, hV⟩ : ∃ V, Lib.hasPrefix (kb e.1) (kb p) = V := ⟨_, rfl⟩
                  simp only [hV] at hft hfa
                  rw [show Lib.hasPrefix e.1.data.toList p.data.toList = V from hV] at hraw
                  have Hft := Lib.hid hft
                  have Hfa := Lib.hid hfa
                  have Hraw := Lib.hid hraw
                  have Hqm := Lib.hid hqm
                  obtain ⟨x1, x2⟩ := e
                  simp only [keyV, valV] at ck Cvv Ckk
                  clear cge cvv ckk he hcnt hft hfa hraw hV hqm hq
                  go_wp2_with fail
                  refine Cge.out.mono ?_
                  rintro e wg ⟨rfl, kg⟩
                  have hpg := hpu.same kg
                  have cB := (HbB.out.kept hpg (fun h => h)).cell
                  have cS := (HbS.out.kept hpg (fun h => h)).cell
                  have cM := (HbM.out.kept hpg (fun h => h)).cell
                  have cV := (HbV.out.kept hpg (fun h => h)).cell
                  have ck := Ckk.out _ hpg
                  have cv := Cvv.out _ hpg
                  clear kg hpu
                  by_cases hsz : x1.size < p.size
                  · have hszi : (x1.size : Int) < (p.size : Int) := by omega
                    have hVf : V = false := by
                      have := Hraw.out
                      rw [show decide (p.size ≤ x1.size) = false from by simp; omega] at this
                      simpa using this.symm
                    subst hVf
                    go_wp2
                    go_roundw
                    case measure => simp [intOf]; omega
                    case rel => exact ⟨j + 1, q, by first | rfl | go_num, rfl, by omega, hq80, by rw [Hid, Hft.out]; simpa using Hqm.out, hpg⟩
                  · have hszi : ¬ (x1.size : Int) < (p.size : Int) := by omega
                    have hszj : (p.size : Int) ≤ (x1.size : Int) := by omega
                    have hext : ((x1.extract 0 p.size).toList == p.toList) = V := by
                      have := Hraw.out
                      rw [show decide (p.size ≤ x1.size) = true from by simp; omega] at this
                      simpa using this
                    cases V with
                    | false =>
                      go_wp2
                      go_roundw
                      case measure => simp [intOf]; omega
                      case rel => exact ⟨j + 1, q, by first | rfl | go_num, rfl, by omega, hq80, by rw [Hid, Hft.out]; simpa using Hqm.out, hpg⟩
                    | true =>
                      have hpe : (x1.extract 0 p.size).toList = p.toList := by simpa using hext
                      by_cases hge : most ≤ (q : Int)
                      · have hqq : q = mN most := by have := Hqm.out; unfold mN at *; omega
                        have Hqq := Lib.hid hqq
                        clear hqq
                        go_wp2
                        go_roundw
                        case measure => simp [intOf]; omega
                        case rel => exact ⟨j + 1, q, by first | rfl | go_num, rfl, by omega, hq80, by rw [Hid, Hft.out]; simp only [if_true]; have := Hqm.out; have := Hqq.out; omega, hpg⟩
                      · have hqc : q = cnt ∧ q < mN most := by have := Hqm.out; unfold mN at *; omega
                        obtain ⟨rfl, hqm2⟩ := hqc
                        have hus1 := Hfa.out rfl
                        have hqu := (List.getElem?_eq_some_iff.1 hus1).1
                        have hqs : q < sl := by have := Hsmn.out; omega
                        have hsm1 : sm[q]? = some (x1, x2) := by rw [Hsm.out, List.getElem?_take, if_pos hqm2]; exact hus1
                        obtain ⟨gs, os, rfl, _, _, _⟩ := HoS.out.2 (by omega)
                        have cs := sl_one (HoS.out.kept hpg (fun _ _ _ h => h)) hsm1
                        simp only [keyV] at cs
                        have hqi : (q : Int) < (sl : Int) := by omega
                        have hqd : decide ((sl : Int) ≤ (q : Int)) = false := by simp; omega
                        clear hus1 hsm1 hqu
                        go_wp2
                        go_quiet (fail)
                        go_wp2
                        go_roundw
                        case measure => simp [intOf]; omega
                        case rel => exact ⟨j + 1, q + 1, by first | rfl | go_num, by first | rfl | go_num, by omega, by have := Hsmn.out; omega, by rw [Hid, Hft.out]; simp only [if_true]; omega, hpg.drewN _⟩
                · obtain rfl : yl = j := by omega
                  have hqs : q = sl := by
                    have h1 := hq.out
                    rw [List.take_of_length_le (by have := Hyl.out; omega), ← Husf.out] at h1
                    rw [h1, Hsmn.out]
                  subst hqs
                  have CK := Lib.hid (fun w' (h : Pure U w') => i_keys w' _ N ys (HmU.out.kept h (fun _ _ _ h => h)))
                  rw [Hyl.out] at CK
                  have CLn := Lib.hid (fun w' (h : Pure U w') => i_len w' _ N ys (HmU.out.kept h (fun _ _ _ h => h)))
                  rw [Hyl.out] at CLn
                  have hsB := HbB.out.kept hpu (fun h => h)
                  have hsS := HbS.out.kept hpu (fun h => h)
                  have hdt : decide (ys.map Prod.fst = ys.map Prod.fst) = true := by simp
                  have hqq : (q == q) = true := by simp
                  clear hq
                  go_wp2
                  refine wp_region_seqS (fun x => Blk x (B + 1) 30 #[.slice A4 q c4] ∧ Blk x B 30 #[.slice A1 yl c1]) [7, 8, 14] [0, 1, 2, 3, 4, 5, 6, 9, 10, 11, 12, 13, 15, 16, 17] (by kernel_rfl) (by kernel_rfl) (by kernel_rfl) ⟨hsS, hsB⟩ ?_
                  repeat (with_reducible refine seq_free (by decide) (by decide) (fun K hK => ?_); go_simp; first | (refine ex_steadyF ?_ (fun w' hw' => ?_) ?_; rotate_left; (have cB := (Blk.cell hw'.2); have cS := (Blk.cell hw'.1); go_simp; first | done | rfl); (refine hK _ _ ?_; clear hK K)) | (refine hK _ _ ?_; clear hK K))
                  with_reducible refine seq_move (by decide) (fun K hK => ?_)
                  go_simp
                  refine up_enter ((CK.out _ hpu.drew).mono ?_)
                  rintro e wk ⟨A7, c7, rfl, ho7, hk7⟩
                  have hk7' : Pure wr wk := (Kept.refl _ wr).drew.same hk7
                  refine ⟨_, rfl, ⟨hsS.kept hk7' (fun h => h), hsB.kept hk7' (fun h => h)⟩, hK _ _ ?_⟩
                  clear hK K
                  have hs7 : Sl wk (fun b => wr.drew.heap.size ≤ b) 1 A7 yl ((ys.map Prod.fst).map Value.string) := by
                    have := ho7.sl
                    rw [List.map_map]
                    exact this
                  have hs6 : Sl wk (fun b => B + 5 ≤ b ∧ b < C) 1 A1 yl ((ys.map Prod.fst).map Value.string) := by
                    have := HoK.out.kept (hpu.same hk7') (fun _ _ _ h => h)
                    rwa [keyV_map] at this
                  have CT := Lib.hid (texts_any A1 yl c1 (ys.map Prod.fst) A7 yl c7 (ys.map Prod.fst) wk _ _ hs6 hs7 (by omega) (by omega))
                  with_reducible refine seq_move (by decide) (fun K hK => ?_)
                  go_simp
                  refine up_enter (CT.out.mono ?_)
                  rintro e wt ⟨rfl, hkt⟩
                  have hkt' : Pure wr wt := hk7'.same hkt
                  refine ⟨_, rfl, ⟨hsS.kept hkt' (fun h => h), hsB.kept hkt' (fun h => h)⟩, hK _ _ ?_⟩
                  clear hK K
                  repeat (with_reducible refine seq_free (by decide) (by decide) (fun K hK => ?_); go_simp; first | (refine ex_steadyF ?_ (fun w' hw' => ?_) ?_; rotate_left; (have cB := (Blk.cell hw'.2); have cS := (Blk.cell hw'.1); go_simp; first | done | rfl); (refine hK _ _ ?_; clear hK K)) | (refine hK _ _ ?_; clear hK K))
                  with_reducible refine seq_move (by decide) (fun K hK => ?_)
                  go_simp
                  refine up_enter ((CLn.out _ (hpu.same hkt')).mono ?_)
                  rintro e wl ⟨rfl, rfl⟩
                  refine ⟨_, rfl, ⟨hsS.kept hkt' (fun h => h), hsB.kept hkt' (fun h => h)⟩, hK _ _ ?_⟩
                  clear hK K
                  repeat (with_reducible refine seq_free (by decide) (by decide) (fun K hK => ?_); go_simp; first | (refine ex_steadyF ?_ (fun w' hw' => ?_) ?_; rotate_left; (have cB := (Blk.cell hw'.2); have cS := (Blk.cell hw'.1); go_simp; first | done | rfl); (refine hK _ _ ?_; clear hK K)) | (refine hK _ _ ?_; clear hK K))
                  with_reducible refine seq_nil ?_
                  have hpt := hpu.same hkt'
                  have hU2 := (hpt.block D2 (Array.getElem?_eq_some_iff.1 HK2.out).1 (fun h => h)).trans HK2.out
                  have hDC2 : D < W1.heap.size := by omega
                  have hU1 := (hpt.block D (Nat.lt_of_lt_of_le hDC2 HkU.out.size) (fun h => h)).trans ((HkU.out.block D hDC2 (by omega)).trans HK1.out)
                  have hkfin := (Hkw1.out.same (HkU.out.mono (fun b _ h => by omega))).same (hpt.mono (fun _ _ h => h.elim))
                  go_wp2
                  refine ⟨by simp, .inl ⟨_, _, rfl, run_takeDeferred hU2, ?_⟩⟩
                  refine ⟨by simp, .inl ⟨_, _, rfl, run_takeDeferred ((World.putObj_heap_other (by omega)).trans hU1), ?_⟩⟩
                  refine ⟨_, results_tmp rfl _ _ _, ?_, ?_⟩
                  · first | rfl | (simp; done)
                  · exact ((hkfin.grown (grownBy_putObj' _ D2 _) (fun k e => by cases e; exact .inl (by omega))).grown (grownBy_putObj' _ D _) (fun k e => by cases e; exact .inl (by omega))).mono (fun b hb h => by omega)
          case stop =>
            rintro D c pre W _ _ h _
            exact h.elim
    · have hp' : (40 : Int) < (p.size : Int) := by omega
      clear hs hf hb0 hk0
      go_wp2_with fail
      refine (CF.out _).mono ?_
      rintro e w1 ⟨rfl, hk1⟩
      go_wp2_with fail
      refine (CL.out _ (Hk0.out.same hk1)).mono ?_
      rintro e w2 ⟨rfl, rfl⟩
      go_wp2_with fail
      refine (CF.out _).mono ?_
      rintro e w3 ⟨rfl, hk3⟩
      go_wp2
      refine ⟨_, results_tmp rfl _ _ _, rfl, ?_⟩
      exact ((Hk0.out.same hk1).same hk3)
theorem omapWalks_top (A : Option Addr) (c : Nat) (l : List Act) (p : ByteArray) (most : Int) (w : World) (hs : Sl w (fun _ => True) 3 A l.length (l.flatMap Act.cells)) (_ : l.length ≤ maxLen) (hf : ∀ a ∈ l, a.Fits) (hp : p.size ≤ maxLen) (_h : (Lit.int .i64 most).wf = true) :
    Calls Try.prog 4 #[.slice A l.length c, .string p, .int .i64 most] w (BoolP true w) := walks_top A c l p most w _ hs hf hp
end Go.Proofs.Ytdgfefnaoionpaa
