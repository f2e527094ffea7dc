/-
  rw: the reference's Holders walked.
-/
import Derived.Test.YtggnndopncegaaaRwRc
import Derived.Test.YtggnndopncegaaaSeq
import Derived.Deep.QuietTactic
import Derived.BigQuiet
import Derived.Deep.CutRange
set_option linter.unusedSimpArgs false
set_option linter.unusedVariables false
namespace Go.Proofs.Ytggnndopncegaaa
open Go.RowKit
set_option maxRecDepth 100000

/-- x among the first p of L and the others. -/
def putAt (L : List Int) (p : Nat) (x : Int) : List Int := L.take p ++ x :: L.drop p
theorem putAt_length (L : List Int) (p : Nat) (x : Int) (h : p ≤ L.length) : (putAt L p x).length = L.length + 1 := by
  unfold putAt; simp only [List.length_append, List.length_take, List.length_cons, List.length_drop]; omega
theorem putAt_perm (L : List Int) (p : Nat) (x : Int) : (putAt L p x).Perm (L ++ [x]) := by
  unfold putAt
  refine (List.perm_middle).trans ?_
  rw [List.take_append_drop]
  exact (List.perm_append_comm (l₁ := [x]) (l₂ := L))
theorem putAt_end (L : List Int) (x : Int) : putAt L L.length x = L ++ [x] := by unfold putAt; simp
theorem putAt_swap {L : List Int} {q : Nat} {x y : Int} (hy : L[q]? = some y) : ((putAt L (q + 1) x).set q x).set (q + 1) y = putAt L q x := by
  obtain ⟨hq, e⟩ := List.getElem?_eq_some_iff.1 hy
  have h1 : L.take (q + 1) = L.take q ++ [y] := by simp [List.take_add_one, hy]
  have h2 : L.drop q = y :: L.drop (q + 1) := by rw [List.drop_eq_getElem_cons hq, e]
  have hl : (L.take q).length = q := by rw [List.length_take]; omega
  unfold putAt
  rw [h1, h2, List.append_assoc, List.set_append_right _ _ (by omega), hl, Nat.sub_self]
  show ((L.take q) ++ ([x] ++ x :: L.drop (q + 1))).set (q + 1) y = _
  rw [List.set_append_right _ _ (by omega), hl, show q + 1 - q = 1 by omega]
  rfl
theorem putAt_at {L : List Int} {p : Nat} {x : Int} (h : p ≤ L.length) : (putAt L p x)[p]? = some x := by
  unfold putAt
  have hl : (L.take p).length = p := by rw [List.length_take]; omega
  rw [List.getElem?_append_right (by omega), hl, Nat.sub_self]; rfl
theorem putAt_below {L : List Int} {q : Nat} {x y : Int} (hy : L[q]? = some y) : (putAt L (q + 1) x)[q]? = some y := by
  obtain ⟨hq, e⟩ := List.getElem?_eq_some_iff.1 hy
  unfold putAt
  rw [List.getElem?_append_left (by rw [List.length_take]; omega), List.getElem?_take, if_pos (by omega), hy]
theorem putAt_rise {L : List Int} {p : Nat} {x : Int} (hL : L.Pairwise (· ≤ ·)) (h1 : ∀ y ∈ L.take p, y ≤ x) (h2 : ∀ y ∈ L.drop p, x ≤ y) : (putAt L p x).Pairwise (· ≤ ·) := by
  unfold putAt
  rw [← List.take_append_drop p L, List.pairwise_append] at hL
  rw [List.pairwise_append, List.pairwise_cons]
  refine ⟨hL.1, ⟨h2, hL.2.1⟩, fun a ha b hb => ?_⟩
  rcases List.mem_cons.1 hb with rfl | hb
  · exact h1 a ha
  · exact hL.2.2 a ha b hb
theorem rise_take {L : List Int} {q : Nat} {x y : Int} (hL : L.Pairwise (· ≤ ·)) (hy : L[q]? = some y) (hyx : y ≤ x) : ∀ z ∈ L.take (q + 1), z ≤ x := fun z hz => by
  obtain ⟨i, hi⟩ := List.mem_iff_getElem?.1 hz
  have hil : i < q + 1 := by have := (List.getElem?_eq_some_iff.1 hi).1; rw [List.length_take] at this; omega
  rw [List.getElem?_take, if_pos hil] at hi
  obtain ⟨h1, e1⟩ := List.getElem?_eq_some_iff.1 hi
  obtain ⟨h2, e2⟩ := List.getElem?_eq_some_iff.1 hy
  rcases Nat.lt_or_ge i q with h | h
  · rw [List.pairwise_iff_getElem] at hL
    have := hL i q h1 h2 h
    rw [e1, e2] at this; omega
  · obtain rfl : i = q := by omega
    rw [hi] at hy; injection hy with hy; omega
/-- The holders, handed back rising. -/
def HoP (r : Rk) (w : World) (e : Ending) (w' : World) : Prop := ∃ A n c L, e = .returned (.slice A n c) ∧ Sl w' (fun b => w.heap.size ≤ b) 1 A n (ics L) ∧ Pure w w' ∧ L.Perm (r.inn.map (·.1)) ∧ L.Pairwise (· ≤ ·)
set_option maxHeartbeats 6400000 in
theorem rk_holders (w : World) (F : Nat → Prop) (g : Nat) (r : Rk) (h : (rkC g r).p w F) (hz : r.size ≤ 100000) :
    Calls Try.prog 17 #[.pointer (some ⟨g, 0, none⟩)] w (HoP r w) := by
  obtain ⟨A1, c1, A2, c2, h⟩ := rk_open h
  have hr := Run.start h
  have hb := hr.blk 0 rfl
  have hs := (hr.own 1 rfl).sl
  have hq : r.inn.length ≤ 100000 := by unfold Rk.size at hz; omega
  obtain ⟨inn, hl⟩ : ∃ l, r.inn = l := ⟨_, rfl⟩
  rw [hl] at hs hq hb
  have Hinn := Lib.hid hl
  obtain ⟨n, hn⟩ : ∃ n, inn.length = n := ⟨_, rfl⟩
  rw [hn] at hs hq hb
  have Hn := Lib.hid hn
  have Hs := Lib.hid hs
  have Hb := Lib.hid hb
  clear hb hs hz hl hn h hr
  go_enter Try.func17, Try.ntmps17
  go_wp2
  go_loopw [3, 4] (fun out i wr => ∃ (j : Nat) (L : List Int) (A3 : Option Addr) (c3 : Nat), i = .int .i64 j ∧ out = .slice A3 j c3 ∧ j ≤ n ∧ Hid (L.length = j) ∧ Hid (L.Perm ((inn.take j).map (·.1)) ∧ L.Pairwise (· ≤ ·)) ∧ Hid (Run w (fun _ => False) wr [ownC 3 1 (.slice A3 j c3) j (ics L)])) (fun _ i _ => n - (intOf i).toNat)
  case atStart => exact ⟨0, [], none, 0, rfl, rfl, Nat.zero_le _, rfl, ⟨List.Perm.refl _, List.Pairwise.nil⟩, Lib.hid ((Run.start (F := fun _ => False) (w := w) (Ps := []) trivial).addNil _ _)⟩
  case round =>
    obtain ⟨j, L, A3, c3, rfl, rfl, hj, hL, hR, hr⟩ := hrel
    have hbr := Hb.out.kept hr.out.pureOf (fun h => h)
    have hc := hbr.cell
    by_cases hjn : j < n
    · obtain ⟨y, hy⟩ : ∃ y, inn[j]? = some y := ⟨_, List.getElem?_eq_getElem (by have := Hn.out; omega)⟩
      have hsw := Hs.out.kept hr.out.pureOf (fun _ _ _ h => h)
      obtain ⟨b, o, rfl, _, _, _⟩ := hsw.2 (by omega)
      obtain ⟨hc1, hc2⟩ := slq_at hsw hy
      have hji : (j : Int) < (n : Int) := by omega
      have htk : (inn.take (j + 1)).map (·.1) = (inn.take j).map (·.1) ++ [y.1] := by simp [List.take_add_one, hy]
      have Htk := Lib.hid htk
      have hlit := Sl.lit wr #[.int .i64 y.1] 3 1 1 _ rfl rfl
      clear hy hsw hbr htk
      go_wp2_with (first | (at_builtin; refine held ?_))
      refine unheld ?_
      refine (hr.out.alloc _).app 0 rfl Try.underlying34 info_di rfl (by omega) hlit (ics_one [y.1]) (by omega) (by omega) rfl _ _ rfl rfl rfl ?_
      rintro v3 w3 ⟨A4, c4, rfl, hcc4, _⟩ hr3
      have hrow : Run w (fun _ => False) w3 [ownC 3 1 (.slice A4 (j + 1) c4) (j + 1) (ics (putAt L j y.1))] := by
        have e := putAt_end L y.1
        rw [hL.out] at e
        rw [e]
        unfold ics at hr3 ⊢
        rw [List.map_append]; exact hr3
      obtain ⟨g4, hA4⟩ : ∃ g4, A4 = some ⟨g4, 0, none⟩ := by
        obtain ⟨g4, _, h4, _⟩ := own_row (hrow.own 0 rfl) (by omega)
        exact ⟨g4, h4⟩
      subst hA4
      have Hrow := Lib.hid hrow
      clear hr3 hrow hlit
      go_wp2
      go_loopw [5] (fun k wx => ∃ p : Nat, k = .int .i64 p ∧ p ≤ j ∧ Hid (∀ z ∈ L.drop p, y.1 ≤ z) ∧ Hid (Run w (fun _ => False) wx [ownC 3 1 (.slice (some ⟨g4, 0, none⟩) (j + 1) c4) (j + 1) (ics (putAt L p y.1))])) (fun k _ => (intOf k).toNat)
      case atStart => exact ⟨j, rfl, Nat.le_refl _, Lib.hid (fun z hz => by rw [List.drop_of_length_le (by have := hL.out; omega)] at hz; cases hz), Hrow⟩
      case round =>
        obtain ⟨p, rfl, hp, hgt, hrx⟩ := hrel
        cases p with
        | zero =>
          go_wp2
          go_quiet (fail)
          go_wp2
          have hrise := putAt_rise hR.out.2 (fun z hz => by simp at hz) hgt.out
          have hperm : (putAt L 0 y.1).Perm ((inn.take (j + 1)).map (·.1)) := by
            rw [Htk.out]; exact (putAt_perm L 0 y.1).trans (hR.out.1.append_right _)
          have hlen : (putAt L 0 y.1).length = j + 1 := by rw [putAt_length L 0 y.1 (by have := hL.out; omega)]; have := hL.out; omega
          have Hnew := Lib.hid (And.intro hperm hrise)
          have Hlen := Lib.hid hlen
          clear hrise hperm hlen
          go_roundw
          case measure => simp [intOf]; omega
          case rel => exact ⟨j + 1, putAt L 0 y.1, _, _, by first | rfl | go_num, rfl, by omega, Hlen, Hnew, Lib.hid (hrx.out.drewN _)⟩
        | succ q =>
          obtain ⟨y1, hy1⟩ : ∃ y1, L[q]? = some y1 := ⟨_, List.getElem?_eq_getElem (by have := hL.out; omega)⟩
          have hsx := (hrx.out.own 0 rfl).sl
          have hcq := sli_at hsx (putAt_below (x := y.1) hy1)
          have hcp := sli_at hsx (putAt_at (L := L) (p := q + 1) (x := y.1) (by have := hL.out; omega))
          rw [Nat.zero_add] at hcq hcp
          have Hy1 := Lib.hid hy1
          have hqj : (q : Int) + 1 < (j : Int) + 1 := by omega
          have hfz := (hrx.out.own 0 rfl).frozen1
          clear hsx hy1
          by_cases hlt : y.1 < y1
          · go_wp2
            go_quiet (fail)
            have hq0 : (0 : Int) ≤ (q : Int) + 1 := by omega
            have hqw : IntKind.i64.wrap (q : Int) = (q : Int) := by rw [IntKind.wrap_i64]; omega
            have hqj' : (q : Int) < (j : Int) + 1 := by omega
            go_wp2
            refine wp_region_seq [15, 17] [0, 1, 2, 3, 4, 5, 6, 7, 9, 10, 11, 12, 14, 16] (by kernel_rfl) (by kernel_rfl) (by kernel_rfl) ?_
            repeat (with_reducible refine seq_free (by decide) (by decide) (fun K hK => ?_); go_simp; first | (refine ex_steadyF ?_ (fun w' hw' => ?_) ?_; rotate_left; (skip; go_simp; first | done | rfl); (refine hK _ _ ?_; clear hK K)) | (refine hK _ _ ?_; clear hK K))
            repeat (with_reducible refine seq_step (by decide) (by decide) (fun K hK => ?_); go_simp; refine hK _ _ ?_; clear hK K)
            repeat (with_reducible refine seq_free (by decide) (by decide) (fun K hK => ?_); go_simp; first | (refine ex_steadyF ?_ (fun w' hw' => ?_) ?_; rotate_left; (skip; go_simp; first | done | rfl); (refine hK _ _ ?_; clear hK K)) | (refine hK _ _ ?_; clear hK K))
            repeat (with_reducible refine seq_step (by decide) (by decide) (fun K hK => ?_); go_simp; refine hK _ _ ?_; clear hK K)
            repeat (with_reducible refine seq_free (by decide) (by decide) (fun K hK => ?_); go_simp; first | (refine ex_steadyF ?_ (fun w' hw' => ?_) ?_; rotate_left; (skip; go_simp; first | done | rfl); (refine hK _ _ ?_; clear hK K)) | (refine hK _ _ ?_; clear hK K))
            with_reducible refine seq_move (by decide) (fun K hK => ?_)
            go_simp
            have hr16 := (hrx.out.drewN (nq + 1)).setOwn 0 rfl q (by omega) (.int .i64 y.1)
            obtain ⟨w16, hw16⟩ : ∃ x, (wr.drewN (nq + 1)).setCell ⟨g4, q, none⟩ (.int .i64 y.1) = x := ⟨_, rfl⟩
            rw [hw16] at hr16 ⊢
            refine up_skip (hK _ _ ?_)
            clear hK K hw16
            have hfz6 := (hr16.own 0 rfl).frozen1
            have hs16 := (hr16.own 0 rfl).sl
            have hcp6 : w16.cell? ⟨g4, q + 1, none⟩ = some (.int .i64 y.1) := by
              obtain ⟨b6, o6, e6, _, _, h6⟩ := hs16.2 (by omega)
              injection e6 with e6
              injection e6 with e6 e7
              subst e6 e7
              have hlt6 : q + 1 < ((ics (putAt L (q + 1) y.1)).set q (.int .i64 y.1)).length := by
                rw [List.length_set, ics_length, putAt_length L (q + 1) y.1 (by have := hL.out; omega)]
                have := hL.out; omega
              have := h6 (q + 1) hlt6
              rw [Nat.zero_add] at this
              rw [this, List.getElem?_set_ne (by omega)]
              unfold ics
              rw [List.getElem?_map, putAt_at (by have := hL.out; omega)]
              rfl
            have Hr16 := Lib.hid hr16
            clear hr16 hs16
            repeat (with_reducible refine seq_free (by decide) (by decide) (fun K hK => ?_); go_simp; first | (refine ex_steadyF ?_ (fun w' hw' => ?_) ?_; rotate_left; (skip; go_simp; first | done | rfl); (refine hK _ _ ?_; clear hK K)) | (refine hK _ _ ?_; clear hK K))
            with_reducible refine seq_move (by decide) (fun K hK => ?_)
            go_simp
            have hr17 := Hr16.out.setOwn 0 rfl (q + 1) (by omega) (.int .i64 y1)
            obtain ⟨w17, hw17⟩ : ∃ x, w16.setCell ⟨g4, q + 1, none⟩ (.int .i64 y1) = x := ⟨_, rfl⟩
            rw [hw17] at hr17 ⊢
            refine up_skip (hK _ _ ?_)
            clear hK K hw17
            have hr18 : Run w (fun _ => False) w17 [ownC 3 1 (.slice (some ⟨g4, 0, none⟩) (j + 1) c4) (j + 1) (ics (putAt L q y.1))] := by
              have e : ((ics (putAt L (q + 1) y.1)).set q (.int .i64 y.1)).set (q + 1) (.int .i64 y1) = ics (putAt L q y.1) := by
                unfold ics
                rw [← List.map_set, ← List.map_set, putAt_swap Hy1.out]
              rw [← e]; exact hr17
            have hgt' : ∀ z ∈ L.drop q, y.1 ≤ z := fun z hz => by
              obtain ⟨hq, e⟩ := List.getElem?_eq_some_iff.1 Hy1.out
              rw [List.drop_eq_getElem_cons hq, e] at hz
              rcases List.mem_cons.1 hz with rfl | hz
              · omega
              · exact hgt.out z hz
            have Hr18 := Lib.hid hr18
            have Hgt' := Lib.hid hgt'
            clear hr17 hr18 hgt' hcp6 hfz6 hcq hcp hfz
            with_reducible refine seq_nil ?_
            go_wp2
            go_roundw
            case measure => simp [intOf]
            case rel => exact ⟨q, by first | rfl | go_num, by omega, Hgt', Hr18⟩
          · have hle : y1 ≤ y.1 := by omega
            go_wp2
            go_quiet (fail)
            go_wp2
            have hrise := putAt_rise hR.out.2 (rise_take hR.out.2 Hy1.out hle) hgt.out
            have hperm : (putAt L (q + 1) y.1).Perm ((inn.take (j + 1)).map (·.1)) := by
              rw [Htk.out]; exact (putAt_perm L (q + 1) y.1).trans (hR.out.1.append_right _)
            have hlen : (putAt L (q + 1) y.1).length = j + 1 := by rw [putAt_length L (q + 1) y.1 (by have := hL.out; omega)]; have := hL.out; omega
            have Hnew := Lib.hid (And.intro hperm hrise)
            have Hlen := Lib.hid hlen
            clear hrise hperm hlen
            go_roundw
            case measure => simp [intOf]; omega
            case rel => exact ⟨j + 1, putAt L (q + 1) y.1, _, _, by first | rfl | go_num, rfl, by omega, Hlen, Hnew, Lib.hid (hrx.out.drewN _)⟩
    · obtain rfl : j = n := by omega
      have hS := (hr.out.own 0 rfl).sl
      have hk := hr.out.pureOf
      have hper := hR.out
      rw [List.take_of_length_le (by have := Hn.out; omega)] at hper
      have HS := Lib.hid hS
      have Hk := Lib.hid hk
      have Hper := Lib.hid hper
      clear hr hS hk hbr hper
      go_wp2
      go_ret
      exact ⟨A3, j, c3, L, rfl, HS.out.imp (fun b _ h => h.elim (fun h => h.elim) id), Hk.out, by rw [Hinn.out]; exact Hper.out.1, Hper.out.2⟩
end Go.Proofs.Ytggnndopncegaaa
