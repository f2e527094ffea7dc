/-
  omap: OmapKeys walked.
-/
import Derived.Test.YtdgfefnaoionpaaOmH
set_option linter.unusedSimpArgs false
set_option linter.unusedVariables false
namespace Go.Proofs.Ytdgfefnaoionpaa
open Go.RowKit
set_option maxRecDepth 100000

def BoolP (b : Bool) (w : World) (e : Ending) (w' : World) : Prop := e = .returned (.bool b) ∧ Pure w w'
def putsE (l : List Act) : List (En Int) := l.foldl (fun es a => putE es a.k a.v) []
theorem putsE_snoc (l : List Act) (a : Act) : putsE (l ++ [a]) = putE (putsE l) a.k a.v := by simp [putsE]
theorem puts_len (l : List Act) : ∀ es : List (En Int), (l.foldl (fun es a => putE es a.k a.v) es).length ≤ es.length + l.length := by
  induction l with
  | nil => intro es; simp
  | cons a l ih =>
    intro es
    have h1 := ih (putE es a.k a.v)
    have h2 := putE_le es a.k a.v
    simp only [List.foldl_cons, List.length_cons]
    omega
theorem putsE_len (l : List Act) : (putsE l).length ≤ l.length := by
  have := puts_len l []
  simpa [putsE] using this
theorem puts_mem (l : List Act) : ∀ es : List (En Int), (∀ t, (∃ e ∈ es, kb e.1 = t) → ∃ e ∈ l.foldl (fun es a => putE es a.k a.v) es, kb e.1 = t) ∧ ∀ a ∈ l, ∃ e ∈ l.foldl (fun es a => putE es a.k a.v) es, kb e.1 = kb a.k := by
  induction l with
  | nil => intro es; exact ⟨fun t h => h, fun a h => by cases h⟩
  | cons a l ih =>
    intro es
    obtain ⟨h1, h2⟩ := ih (putE es a.k a.v)
    obtain ⟨p1, p2⟩ := put_mem (es := es) a.k a.v
    refine ⟨fun t h => h1 t (p2 t h), fun b hb => ?_⟩
    rcases List.mem_cons.1 hb with rfl | h
    · exact h1 _ p1
    · exact h2 b h
theorem putsE_mem (l : List Act) : ∀ a ∈ l, ∃ e ∈ putsE l, kb e.1 = kb a.k := (puts_mem l []).2

set_option maxHeartbeats 3200000 in
theorem keys_top (A : Option Addr) (c : Nat) (l : List Act) (w : World) (F : Nat → Prop) (hs : Sl w F 3 A l.length (l.flatMap Act.cells)) (hf : ∀ a ∈ l, a.Fits) :
    Calls Try.prog 3 #[.slice A l.length c] w (BoolP true w) := by
  have CF := Lib.hid first14
  have CL := Lib.hid (fun w' (h : Pure w w') => light_any A c l w' F (hs.kept h (fun _ _ _ h => h)) hf)
  obtain ⟨n, hn⟩ : ∃ n, l.length = n := ⟨_, rfl⟩
  rw [hn] at CL hs ⊢
  cases hL : lightL l with
  | false =>
    rw [hL] at CL
    clear hs hf
    go_enter Try.func3, Try.ntmps3
    go_wp2_with fail
    refine (CF.out _).mono ?_
    rintro e w1 ⟨rfl, hk1⟩
    go_wp2_with fail
    refine (CL.out _ hk1).mono ?_
    rintro e w2 ⟨rfl, rfl⟩
    go_wp2_with fail
    refine (CF.out _).mono ?_
    rintro e w3 ⟨rfl, hk3⟩
    go_wp2
    go_ret
    exact ⟨rfl, hk1.same hk3⟩
  | true =>
    rw [hL] at CL
    have h80 : n ≤ 80 := by
      simp only [lightL, Bool.and_eq_true, decide_eq_true_eq] at hL
      omega
    have CN := Lib.hid i_new
    have Hs := Lib.hid hs
    have Hn := Lib.hid hn
    have Hf := Lib.hid hf
    clear hs hn hf hL
    go_enter Try.func3, Try.ntmps3
    go_wp2_with fail
    refine (CF.out _).mono ?_
    rintro e w1 ⟨rfl, hk1⟩
    go_wp2_with fail
    refine (CL.out _ hk1).mono ?_
    rintro e w2 ⟨rfl, rfl⟩
    obtain ⟨N, hN⟩ : ∃ N, w2.heap.size = N := ⟨_, rfl⟩
    have CN' := CN.out w2
    rw [hN] at CN'
    go_wp2_with fail
    refine CN'.mono ?_
    rintro e w3 ⟨rfl, hm2, hk2⟩
    replace hm2 : Mpi w3 (fun b => N ≤ b) N [] := hm2.imp (fun b _ h => by omega)
    have hk : Pure w w3 := hk1.same hk2
    have hNw : w.heap.size ≤ N := by have := hk1.size; omega
    have Hk := Lib.hid hk
    have Hm2 := Lib.hid hm2
    clear CN' hk1 hk2 hm2 hk
    go_wp2
    go_loopw [4] (fun i wr => ∃ k : Nat, i = .int .i64 k ∧ k ≤ n ∧ Hid (Mpi wr (fun b => N ≤ b) N (putsE (l.take k)) ∧ Kept (fun b => N ≤ b) w3 wr)) (fun i _ => n - (intOf i).toNat)
    case atStart => exact ⟨0, rfl, Nat.zero_le _, Hm2.out, Kept.refl _ _⟩
    case round =>
      obtain ⟨k, rfl, hkn, hr⟩ := hrel
      by_cases hlt : k < n
      · obtain ⟨b, o, rfl, _, _, _⟩ := Hs.out.2 (by omega)
        obtain ⟨a, ha⟩ : ∃ a, l[k]? = some a := ⟨_, List.getElem?_eq_getElem (by have := Hn.out; omega)⟩
        have hkr : Kept (fun b => N ≤ b) w wr := (Hk.out.mono (fun _ _ h => h.elim)).same hr.out.2
        have hsr := Hs.out.kept (hkr) (fun b hb _ h => by omega)
        have hc1 := sl_at Act.cells_len hsr (by omega) ha 1 (by omega)
        have hc2 := sl_at Act.cells_len hsr (by omega) ha 2 (by omega)
        simp only [Act.cells] at hc1 hc2
        have hki : (k : Int) < (n : Int) := by omega
        have CP := Lib.hid (fun w' h => i_putN N w' N (putsE (l.take k)) a.k a.v h (by have := putsE_len (l.take k); rw [List.length_take] at this; omega))
        have Ha := Lib.hid ha
        clear ha hkr hsr
        go_wp2
        refine wp_region_seq [11] [] (by kernel_rfl) (by kernel_rfl) (by kernel_rfl) ?_
        repeat (with_reducible refine seq_step (by decide) (by decide) (fun K hK => ?_); go_simp; refine hK _ _ ?_; clear hK K)
        with_reducible refine seq_move (by decide) (fun K hK => ?_)
        go_simp
        refine up_enter ((CP.out wr.drew hr.out.1).mono ?_)
        rintro e w9 ⟨rfl, hm9, hk9⟩
        refine ⟨_, rfl, hK _ _ ?_⟩
        clear hK K
        with_reducible refine seq_nil ?_
        go_wp2
        go_roundw
        case measure => simp [intOf]; omega
        case rel =>
          refine ⟨k + 1, by first | rfl | go_num, by omega, ?_, hr.out.2.drew.same hk9⟩
          rw [List.take_add_one, Ha.out]
          simp only [Option.toList_some, putsE_snoc]
          exact hm9
      · obtain rfl : n = k := by omega
        have hm := hr.out.1
        rw [List.take_of_length_le (by have := Hn.out; omega)] at hm
        have hkr : Kept (fun b => N ≤ b) w wr := (Hk.out.mono (fun _ _ h => h.elim)).same hr.out.2
        obtain ⟨es, hes⟩ : ∃ es, putsE l = es := ⟨_, rfl⟩
        have hmem := putsE_mem l
        have hel := putsE_len l
        rw [hes] at hm hmem hel
        obtain ⟨m, hm'⟩ : ∃ m, es.length = m := ⟨_, rfl⟩
        have hm80 : m ≤ 80 := by have := Hn.out; omega
        have CK := Lib.hid (fun w' h => i_keys w' (fun b => N ≤ b) N es h)
        have CP := Lib.hid (fun w' t h => i_place w' (fun b => N ≤ b) N es t h)
        have CLn := Lib.hid (fun w' h => i_len w' (fun b => N ≤ b) N es h)
        have Hrise := Lib.hid hm.2.1
        rw [hm'] at CK CLn
        have Hm := Lib.hid hm'
        have Hmem := Lib.hid hmem
        have Hw := Lib.hid hkr
        clear hr hes hmem hel hkr Hk Hm2 CL CN CF hm'
        go_wp2_with fail
        refine (CK.out _ hm).mono ?_
        rintro e w1 ⟨A1, c1, rfl, ho1, hk1⟩
        have hm1 := hm.kept hk1 (fun _ _ _ h => h)
        go_wp2_with fail
        refine (CK.out _ hm1).mono ?_
        rintro e w2 ⟨A2, c2, rfl, ho2, hk2⟩
        obtain ⟨N3, hN3⟩ : ∃ N3, w1.heap.size = N3 := ⟨_, rfl⟩
        rw [hN3] at ho2
        have hm2 : Mpi w2 (fun b => N ≤ b ∧ b < N3) N es := (hm1.imp (fun b hl h => ⟨h, by omega⟩)).kept hk2 (fun _ _ _ h => h)
        have ho3 : Own w2 (fun b => b < N3) 9 1 (.slice A1 m c1) m (es.map fun e => .string e.1) := (ho1.imp (fun b hl _ => by omega)).kept hk2 (fun _ _ _ h => h)
        have hkw : Kept (fun b => N ≤ b) w w2 := Hw.out.same ((hk1.same hk2).mono (fun _ _ h => h.elim))
        have hNN : N ≤ N3 := by
          have := hm1.1
          have := hm1.2.2.2
          obtain ⟨A, c, hb, _⟩ := this
          have := hb.lt
          omega
        have Hm2 := Lib.hid hm2
        have Ho2 := Lib.hid ho2
        have Ho3 := Lib.hid ho3
        have Hkw := Lib.hid hkw
        clear hm hm1 hk1 hk2 ho1 ho2 hm2 ho3 hkw Hw
        go_wp2
        go_loopw [7] (fun i wr => ∃ k : Nat, i = .int .i64 k ∧ k ≤ m ∧ Pure w2 wr) (fun i _ => m - (intOf i).toNat)
        case atStart => exact ⟨0, rfl, Nat.zero_le _, Kept.refl _ _⟩
        case round =>
          obtain ⟨k, rfl, hkm, hp⟩ := hrel
          by_cases hlt : k < m
          · obtain ⟨x, hx⟩ : ∃ x, es[k]? = some x := ⟨_, List.getElem?_eq_getElem (by have := Hm.out; omega)⟩
            obtain ⟨b, o, rfl, _, _, _⟩ := Ho3.out.sl.2 (by omega)
            have hsl := (Ho3.out.kept hp (fun _ _ _ h => h)).sl
            have hc1 := sl_one hsl hx
            have e1 := low_mem Hrise.out hx
            have cpk := CP.out wr.drew x.1 ((Hm2.out.imp (fun b _ h => h.1)).kept hp.drew (fun _ _ _ h => h))
            rw [e1] at cpk
            have CPk := Lib.hid cpk
            have hki : (k : Int) < (m : Int) := by omega
            by_cases hk0 : k = 0
            · subst hk0
              clear cpk hx e1 hsl
              rw [Nat.add_zero] at hc1
              go_wp2
              refine wp_region_seq [5] [6] (by kernel_rfl) (by kernel_rfl) (by kernel_rfl) ?_
              repeat (with_reducible refine seq_step (by decide) (by decide) (fun K hK => ?_); go_simp; refine hK _ _ ?_; clear hK K)
              with_reducible refine seq_move (by decide) (fun K hK => ?_)
              go_simp
              refine up_enter ((CPk.out).mono ?_)
              rintro e w9 ⟨rfl, hk9⟩
              refine ⟨_, rfl, hK _ _ ?_⟩
              clear hK K
              with_reducible refine seq_free (by decide) (by decide) (fun K hK => ?_)
              go_simp
              refine hK _ _ ?_
              clear hK K
              repeat (with_reducible refine seq_step (by decide) (by decide) (fun K hK => ?_); go_simp; refine hK _ _ ?_; clear hK K)
              with_reducible refine seq_nil ?_
              go_wp2
              go_roundw
              case measure => simp [intOf]; omega
              case rel =>
                have hfin := hp.drew.same hk9
                exact ⟨1, by first | rfl | go_num, by omega, hfin⟩
            · obtain ⟨q, rfl⟩ : ∃ q, k = q + 1 := ⟨k - 1, by omega⟩
              obtain ⟨y, hy⟩ : ∃ y, es[q]? = some y := ⟨_, List.getElem?_eq_getElem (by have := Hm.out; omega)⟩
              have hc2 := sl_one hsl hy
              have hbl : Op.bytesLess y.1.toList x.1.toList = true := by rw [str_lt]; simpa using Hrise.out.get (by omega) hy hx
              have hq0 : (0 : Int) < (q : Int) + 1 := by omega
              have hq2 : (0 : Int) ≤ (q : Int) + 1 := by omega
              have hq3 : (q : Int) + 1 < (m : Int) := by omega
              have hq1 : (q : Int) + 1 - 1 = (q : Int) := by omega
              have hq4 : IntKind.i64.wrap (q : Int) = (q : Int) := by rw [IntKind.wrap_i64]; omega
              have hq5 : IntKind.i64.wrap ((q : Int) + 1 - 1) = (q : Int) := by rw [IntKind.wrap_i64]; omega
              have hqm : (q : Int) < (m : Int) := by omega
              clear cpk hx hy e1 hsl
              go_wp2
              refine wp_region_seq [5] [6] (by kernel_rfl) (by kernel_rfl) (by kernel_rfl) ?_
              repeat (with_reducible refine seq_step (by decide) (by decide) (fun K hK => ?_); go_simp; refine hK _ _ ?_; clear hK K)
              with_reducible refine seq_move (by decide) (fun K hK => ?_)
              go_simp
              refine up_enter ((CPk.out).mono ?_)
              rintro e w9 ⟨rfl, hk9⟩
              refine ⟨_, rfl, hK _ _ ?_⟩
              clear hK K
              have hc3 := (World.cell?_of_block (a := ⟨b, o + q, none⟩) (hk9.block b (World.block_lt_of_cell? wr _ hc2) (fun h => h))).trans hc2
              have hc4 := (World.cell?_of_block (a := ⟨b, o + (q + 1), none⟩) (hk9.block b (World.block_lt_of_cell? wr _ hc2) (fun h => h))).trans hc1
              with_reducible refine seq_free (by decide) (by decide) (fun K hK => ?_)
              go_simp
              refine hK _ _ ?_
              clear hK K
              repeat (with_reducible refine seq_step (by decide) (by decide) (fun K hK => ?_); go_simp; refine hK _ _ ?_; clear hK K)
              with_reducible refine seq_nil ?_
              go_wp2
              go_roundw
              case measure => simp [intOf]; omega
              case rel => exact ⟨q + 1 + 1, by first | rfl | go_num, by omega, hp.drew.same hk9⟩
          · obtain rfl : m = k := by omega
            obtain ⟨w4, hw4⟩ : ∃ w4, w4 = wr := ⟨_, rfl⟩
            subst hw4
            have ho3 := Ho3.out.kept hp (fun _ _ _ h => h)
            have ho2 := Ho2.out.kept hp (fun _ _ _ h => h)
            have hm3 : Mpi w4 (fun b => N ≤ b ∧ b < N3) N es := Hm2.out.kept hp (fun _ _ _ h => h)
            have hkw := Hkw.out.same (hp.mono (fun _ _ h => h.elim))
            have Hm3 := Lib.hid hm3
            have Ho3' := Lib.hid ho3
            have Ho2' := Lib.hid ho2
            have Hkw' := Lib.hid hkw
            clear hm3 ho3 ho2 hkw hp Hm2 Ho3 Ho2 Hkw
            go_wp2
            go_loopw [8] (fun i wr => ∃ j : Nat, i = .int .i64 j ∧ j ≤ m ∧ Hid (Kept (fun b => N3 ≤ b) w4 wr ∧ ∃ zs, Own wr (fun b => N3 ≤ b) 9 1 (.slice A2 m c2) m zs)) (fun i _ => m - (intOf i).toNat)
            case atStart => exact ⟨0, rfl, Nat.zero_le _, Kept.refl _ _, _, Ho2'.out⟩
            case round =>
              obtain ⟨j, rfl, hjk, hr4⟩ := hrel
              by_cases hlt : j < m
              · obtain ⟨hk4, zs, ho4⟩ := hr4.out
                obtain ⟨gr, cur, rfl, hgr, hgb, hnc, hcm, hcs, hct⟩ := own_row ho4 (by omega)
                have hc1 := hgb.cell j
                rw [Array.getElem?_eq_getElem (by omega)] at hc1
                have hf1 := hgb.frozen j
                have hb2 := hgb.set j (.string ⟨#[115, 112, 111, 105, 108, 116]⟩)
                have hks := (Kept.refl (· = gr) wr).setCell (p := ⟨gr, j, none⟩) (.inl rfl) (.string ⟨#[115, 112, 111, 105, 108, 116]⟩)
                have hk5 := hk4.same (hks.mono (fun i _ h => by have h2 : i = gr := h; rw [h2]; exact hgr))
                have ho5 : ∃ zs, Own (wr.setCell ⟨gr, j, none⟩ (.string ⟨#[115, 112, 111, 105, 108, 116]⟩)) (fun b => N3 ≤ b) 9 1 (.slice (some ⟨gr, 0, none⟩) m c2) m zs :=
                  ⟨_, ⟨⟨by rw [List.length_take]; simp; omega, .inr ⟨gr, c2, _, rfl, Nat.zero_le _, hb2, hnc, hcm, by simpa using hcs, rfl⟩⟩, fun b hb => by simp [Value.ownBlock] at hb; subst hb; exact hgr⟩⟩
                have Hk5 := Lib.hid hk5
                have Ho5 := Lib.hid ho5
                have hji : (j : Int) < (m : Int) := by omega
                clear ho4 hk4 hgb hct hb2 hks hk5 ho5
                go_wp2
                go_roundw
                case measure => simp [intOf]; omega
                case rel => exact ⟨j + 1, by first | rfl | go_num, by omega, Hk5.out, Ho5.out⟩
              · obtain rfl : m = j := by omega
                obtain ⟨hk4, _⟩ := hr4.out
                obtain ⟨w5, hw5⟩ : ∃ w5, w5 = wr := ⟨_, rfl⟩
                subst hw5
                have hm5 : Mpi w5 (fun b => N ≤ b) N es := (Hm3.out.kept hk4 (fun b _ h => by omega)).imp (fun b _ h => h.1)
                have ho5 := Ho3'.out.kept hk4 (fun b _ h => by omega)
                have hkw := Hkw'.out.same (hk4.mono (fun b _ h => by omega))
                have Hm5 := Lib.hid hm5
                have Ho5 := Lib.hid ho5
                have Hkw5 := Lib.hid hkw
                clear hm5 ho5 hkw hk4 hr4 Hm3 Ho3' Ho2' Hkw'
                go_wp2
                go_loopw [9] (fun i wr => ∃ j : Nat, i = .int .i64 j ∧ j ≤ n ∧ Pure w5 wr) (fun i _ => n - (intOf i).toNat)
                case atStart => exact ⟨0, rfl, Nat.zero_le _, Kept.refl _ _⟩
                case round =>
                  obtain ⟨i, rfl, hil, hp⟩ := hrel
                  have hkr := Hkw5.out.same (hp.mono (fun _ _ h => h.elim))
                  have hor := Ho5.out.kept hp (fun _ _ _ h => h)
                  by_cases hlt : i < n
                  · obtain ⟨b, o, rfl, _, _, _⟩ := Hs.out.2 (by have := Hn.out; omega)
                    obtain ⟨a, ha⟩ : ∃ a, l[i]? = some a := ⟨_, List.getElem?_eq_getElem (by have := Hn.out; omega)⟩
                    have hsr := Hs.out.kept hkr (fun b hb _ h => by omega)
                    have hc1 := sl_at Act.cells_len hsr (by have := Hn.out; omega) ha 1 (by omega)
                    simp only [Act.cells] at hc1
                    have hin : inn (es.map Prod.fst) a.k = true := by rw [inn_has]; exact (has_iff Hrise.out _).2 (Hmem.out a (List.mem_of_getElem? ha))
                    have hsl : Sl wr (fun b => b < N3) 1 A1 m ((es.map Prod.fst).map Value.string) := by
                      have := hor.sl
                      rw [List.map_map]; exact this
                    have cpl := place_any A1 m c1 (es.map Prod.fst) a.k wr _ hsl (by omega)
                    rw [hin] at cpl
                    have CPl := Lib.hid cpl
                    have hji : (i : Int) < (n : Int) := by omega
                    clear ha hsr hin hsl cpl hkr hor
                    go_wp2_with fail
                    refine CPl.out.mono ?_
                    rintro e w9 ⟨rfl, hk9⟩
                    go_wp2
                    go_roundw
                    case measure => simp [intOf]; omega
                    case rel => exact ⟨i + 1, by first | rfl | go_num, by omega, hp.same hk9⟩
                  · obtain rfl : n = i := by omega
                    have hmr := Hm5.out.kept hp (fun _ _ _ h => h)
                    go_wp2_with fail
                    refine (CLn.out _ hmr).mono ?_
                    rintro e w9 ⟨rfl, rfl⟩
                    go_wp2_with fail
                    refine (CK.out _ hmr).mono ?_
                    rintro e w10 ⟨A9, c9, rfl, ho9, hk9⟩
                    have hs9 : Sl w10 (fun b => wr.heap.size ≤ b) 1 A9 m ((es.map Prod.fst).map Value.string) := by
                      have := ho9.sl
                      rw [List.map_map]; exact this
                    have hs8 : Sl w10 (fun b => b < N3) 1 A1 m ((es.map Prod.fst).map Value.string) := by
                      have := (hor.kept hk9 (fun _ _ _ h => h)).sl
                      rw [List.map_map]; exact this
                    have ct := texts_any A9 m c9 (es.map Prod.fst) A1 m c1 (es.map Prod.fst) w10 _ _ hs9 hs8 (by omega) (by omega)
                    have CT := Lib.hid ct
                    have hk10 := hkr.same (hk9.mono (fun _ _ h => h.elim))
                    have Hk10 := Lib.hid hk10
                    clear ct hs9 hs8 hk10 ho9 hk9 hor hkr hmr
                    go_wp2_with fail
                    refine CT.out.mono ?_
                    rintro e w11 ⟨rfl, hk11⟩
                    go_wp2
                    go_ret
                    exact ⟨by simp, (Hk10.out.same (hk11.mono (fun _ _ h => h.elim))).mono (fun b hb h => by omega)⟩

theorem omapKeys_top (A : Option Addr) (c : Nat) (l : List Act) (w : World) (hs : Sl w (fun _ => True) 3 A l.length (l.flatMap Act.cells)) (_ : l.length ≤ maxLen) (hf : ∀ a ∈ l, a.Fits) :
    Calls Try.prog 3 #[.slice A l.length c] w (BoolP true w) := keys_top A c l w _ hs hf
end Go.Proofs.Ytdgfefnaoionpaa
