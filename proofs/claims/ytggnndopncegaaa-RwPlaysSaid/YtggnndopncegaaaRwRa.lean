/-
  rw: the reference's lock in memory; State, less, Queue walked.
-/
import Derived.Test.YtggnndopncegaaaRwK
import Derived.Test.YtggnndopncegaaaRw
import Derived.Test.YtggnndopncegaaaStar
import Derived.Test.YtggnndopncegaaaRwQ
import Derived.Deep.QuietTactic
import Derived.BigQuiet
set_option linter.unusedSimpArgs false
set_option linter.unusedVariables false
namespace Go.Proofs.Ytggnndopncegaaa
open Go.RowKit
set_option maxRecDepth 100000

def rkC (g : Nat) (r : Rk) : Ch := exC fun (x : Option Addr × Nat × Option Addr × Nat) =>
  starC [blkC g 29 #[.slice x.1 r.inn.length x.2.1, .slice x.2.2.1 r.qu.length x.2.2.2], ownC 47 2 (.slice x.1 r.inn.length x.2.1) r.inn.length (qcs r.inn), ownC 47 2 (.slice x.2.2.1 r.qu.length x.2.2.2) r.qu.length (qcs r.qu)]
theorem rk_open {w : World} {F : Nat → Prop} {g : Nat} {r : Rk} (h : (rkC g r).p w F) : ∃ A1 c1 A2 c2, Star w F [blkC g 29 #[.slice A1 r.inn.length c1, .slice A2 r.qu.length c2], ownC 47 2 (.slice A1 r.inn.length c1) r.inn.length (qcs r.inn), ownC 47 2 (.slice A2 r.qu.length c2) r.qu.length (qcs r.qu)] := by
  obtain ⟨⟨A1, c1, A2, c2⟩, h⟩ := h
  exact ⟨A1, c1, A2, c2, h⟩
set_option maxHeartbeats 3200000 in
theorem rk_state (w : World) (F : Nat → Prop) (g : Nat) (r : Rk) (who : Int) (h : (rkC g r).p w F) (hz : r.size ≤ 100000) :
    Calls Try.prog 15 #[.pointer (some ⟨g, 0, none⟩), .int .i64 who] w fun e w' => e = .returned (.int .i64 (rst r who)) ∧ w' = w := by
  obtain ⟨A1, c1, A2, c2, h⟩ := rk_open h
  have hr := Run.start h
  have hb := hr.blk 0 rfl
  have hs1 := (hr.own 1 rfl).sl
  have hs2 := (hr.own 2 rfl).sl
  have hc := hb.cell
  obtain ⟨n1, hn1⟩ : ∃ n1, r.inn.length = n1 := ⟨_, rfl⟩
  obtain ⟨n2, hn2⟩ : ∃ n2, r.qu.length = n2 := ⟨_, rfl⟩
  rw [hn1, hn2] at hc
  rw [hn1] at hs1
  rw [hn2] at hs2
  unfold Rk.size at hz
  have Hn1 := Lib.hid hn1
  have Hn2 := Lib.hid hn2
  have Hs1 := Lib.hid hs1
  have Hs2 := Lib.hid hs2
  have hz1 : n1 ≤ 100000 ∧ n2 ≤ 100000 := by omega
  clear h hr hb hs1 hs2 hn1 hn2 hz
  go_enter Try.func15, Try.ntmps15
  go_wp2
  go_loopw [5] (fun i wr => ∃ k : Nat, i = .int .i64 k ∧ k ≤ n1 ∧ Hid (∀ (j : Nat) (z : Int × Bool), j < k → r.inn[j]? = some z → ¬ z.1 = who) ∧ wr = w) (fun i _ => n1 - (intOf i).toNat)
  case atStart => exact ⟨0, rfl, Nat.zero_le _, fun j z h => by omega, rfl⟩
  case round =>
    obtain ⟨k, rfl, hk, hb, rfl⟩ := hrel
    by_cases hkn : k < n1
    · obtain ⟨y, hy⟩ : ∃ y, r.inn[k]? = some y := ⟨_, List.getElem?_eq_getElem (by have := Hn1.out; omega)⟩
      obtain ⟨b, o, rfl, _, _, _⟩ := Hs1.out.2 (by omega)
      obtain ⟨hc1, hc2⟩ := slq_at Hs1.out hy
      have hki : (k : Int) < (n1 : Int) := by omega
      by_cases hyw : y.1 = who
      · have hst := rst_found hy hyw hb.out
        obtain ⟨y1, y2⟩ := y
        simp only at hyw hst hc1 hc2
        subst hyw
        have Hst := Lib.hid hst
        clear hst hy
        cases y2 with
        | true =>
          go_wp2
          go_ret
          exact ⟨by rw [Hst.out]; rfl, rfl⟩
        | false =>
          go_wp2
          go_ret
          exact ⟨by rw [Hst.out]; rfl, rfl⟩
      · have hyw' : (y.1 == who) = false := by simpa using hyw
        have Hy := Lib.hid hy
        clear hy
        go_wp2
        go_roundw
        case measure => simp [intOf]; omega
        case rel => exact ⟨k + 1, by first | rfl | go_num, by omega, fun j z h hz => by
          by_cases hjk : j = k
          · subst hjk; rw [Hy.out] at hz; injection hz with hz; subst hz; exact hyw
          · exact hb.out j z (by omega) hz, by first | rfl | trivial⟩
    · obtain rfl : k = n1 := by omega
      have hst := rst_none (r := r) (who := who) (fun j z hz => hb.out j z (by have := (List.getElem?_eq_some_iff.1 hz).1; have := Hn1.out; omega) hz)
      have Hst := Lib.hid hst
      clear hst
      go_wp2
      go_loopw [6] (fun i wx => ∃ q : Nat, i = .int .i64 q ∧ q ≤ n2 ∧ Hid (∀ (j : Nat) (z : Int × Bool), j < q → r.qu[j]? = some z → ¬ z.1 = who) ∧ wr = wx) (fun i _ => n2 - (intOf i).toNat)
      case atStart => exact ⟨0, rfl, Nat.zero_le _, fun j z h => by omega, rfl⟩
      case round =>
        obtain ⟨q, rfl, hq, hb2, rfl⟩ := hrel
        by_cases hqn : q < n2
        · obtain ⟨y, hy⟩ : ∃ y, r.qu[q]? = some y := ⟨_, List.getElem?_eq_getElem (by have := Hn2.out; omega)⟩
          obtain ⟨b, o, rfl, _, _, _⟩ := Hs2.out.2 (by omega)
          obtain ⟨hc1, hc2⟩ := slq_at Hs2.out hy
          have hqi : (q : Int) < (n2 : Int) := by omega
          by_cases hyw : y.1 = who
          · have hh := hasQ_found hy hyw
            have Hh := Lib.hid hh
            clear hh hy
            subst hyw
            go_wp2
            go_ret
            exact ⟨by rw [Hst.out, if_pos Hh.out]; rfl, rfl⟩
          · have hyw' : (y.1 == who) = false := by simpa using hyw
            have Hy := Lib.hid hy
            clear hy
            go_wp2
            go_roundw
            case measure => simp [intOf]; omega
            case rel => exact ⟨q + 1, by first | rfl | go_num, by omega, fun j z h hz => by
              by_cases hjk : j = q
              · subst hjk; rw [Hy.out] at hz; injection hz with hz; subst hz; exact hyw
              · exact hb2.out j z (by omega) hz, by first | rfl | trivial⟩
        · obtain rfl : q = n2 := by omega
          have hh := hasQ_none (l := r.qu) (who := who) (fun j z hz => hb2.out j z (by have := (List.getElem?_eq_some_iff.1 hz).1; have := Hn2.out; omega) hz)
          have Hh := Lib.hid hh
          clear hh
          go_wp2
          go_ret
          exact ⟨by rw [Hst.out, if_neg (by rw [Hh.out]; simp)]; rfl, rfl⟩
theorem info_one : (Try.prog.info? 47).map (fun i => (i.zero, i.size, i.bytes)) = some (some (.agg #[.int .i64 0, .bool false]), 2, 16) := by kernel_rfl
theorem lessQ_snoc (l : List (Int × Bool)) (y : Int × Bool) (x : Int) : lessQ (l ++ [y]) x = if y.1 = x then lessQ l x else lessQ l x ++ [y] := by
  unfold lessQ
  rw [List.filter_append]
  by_cases h : y.1 = x <;> simp [h]
def qcs1 (y : Int × Bool) : List Value := [.int .i64 y.1, .bool y.2]
theorem qcs_snoc (l : List (Int × Bool)) (y : Int × Bool) : qcs (l ++ [y]) = qcs l ++ [.int .i64 y.1, .bool y.2] := by simp [qcs]
theorem one_q (y : Int × Bool) : ∀ u ∈ ([.int .i64 y.1, .bool y.2] : List Value), u.oneCell' = true := fun u hu => by simp at hu; rcases hu with rfl | rfl <;> rfl
theorem one_qs (l : List (Int × Bool)) : ∀ u ∈ qcs l, u.oneCell' = true := by
  intro u hu
  unfold qcs at hu
  rw [List.mem_flatMap] at hu
  obtain ⟨y, _, hy⟩ := hu
  exact one_q y u hy
theorem one_is (l : List Int) : ∀ u ∈ ics l, u.oneCell' = true := by
  intro u hu
  unfold ics at hu
  rw [List.mem_map] at hu
  obtain ⟨y, _, rfl⟩ := hu
  rfl
/-- A row of askers, made new. -/
def NewQ (w : World) (l : List (Int × Bool)) (e : Ending) (w' : World) : Prop := ∃ A c, e = .returned (.slice A l.length c) ∧ Own w' (fun b => w.heap.size ≤ b) 47 2 (.slice A l.length c) l.length (qcs l) ∧ Pure w w'
set_option maxHeartbeats 3200000 in
theorem less_any (A : Option Addr) (n c : Nat) (l : List (Int × Bool)) (x : Int) (w : World) (F : Nat → Prop) (hs : Sl w F 2 A n (qcs l)) (hn : n ≤ 1000000) :
    Calls Try.prog 27 #[.slice A n c, .int .i64 x] w (NewQ w (lessQ l x)) := by
  have hl := slq_len hs
  have Hl := Lib.hid hl
  have Hs := Lib.hid hs
  clear hl hs
  go_enter Try.func27, Try.ntmps27
  go_wp2
  go_loopw [5, 6] (fun out i wr => ∃ k : Nat, i = .int .i64 k ∧ k ≤ n ∧ Hid (Run w (fun _ => False) wr [ownC 47 2 out (lessQ (l.take k) x).length (qcs (lessQ (l.take k) x))])) (fun _ i _ => n - (intOf i).toNat)
  case atStart => exact ⟨0, rfl, Nat.zero_le _, Lib.hid ((Run.start (F := fun _ => False) (w := w) (Ps := []) trivial).addNil _ _)⟩
  case round =>
    obtain ⟨k, rfl, hk, hr⟩ := hrel
    by_cases hkn : k < n
    · obtain ⟨y, hy⟩ : ∃ y, l[k]? = some y := ⟨_, List.getElem?_eq_getElem (by have := Hl.out; omega)⟩
      have hsw := Hs.out.kept hr.out.pureOf (fun _ _ _ h => h)
      obtain ⟨b, o, rfl, _, _, _⟩ := hsw.2 (by omega)
      obtain ⟨hc1, hc2⟩ := slq_at hsw hy
      have hki : (k : Int) < (n : Int) := by omega
      have htk : l.take (k + 1) = l.take k ++ [y] := by simp [List.take_add_one, hy]
      have hst := lessQ_snoc (l.take k) y x
      rw [← htk] at hst
      have hlen := lessQ_length (l.take k) x
      rw [List.length_take] at hlen
      clear hy hsw htk
      by_cases hyx : y.1 = x
      · rw [if_pos hyx] at hst
        have Hst := Lib.hid hst
        subst hyx
        clear hst
        go_wp2
        go_roundw
        case measure => simp [intOf]; omega
        case rel => exact ⟨k + 1, by first | rfl | go_num, by omega, (by rw [Hst.out]; exact hr)⟩
      · rw [if_neg hyx] at hst
        have hyx' : (y.1 == x) = false := by simpa using hyx
        have Hst := Lib.hid hst
        have hlit := Sl.lit wr #[.int .i64 y.1, .bool y.2] 47 2 1 _ rfl rfl
        clear hst
        go_wp2_with (first | (at_builtin; refine held ?_))
        refine unheld ?_
        refine (hr.out.alloc _).app 0 rfl Try.underlying27 info_one rfl (by omega) hlit (one_q y) (by omega) (by omega) rfl _ _ rfl rfl rfl ?_
        intro v3 w3 _ hr3
        have hfin : Run w (fun _ => False) w3 [ownC 47 2 v3 (lessQ (l.take (k + 1)) x).length (qcs (lessQ (l.take (k + 1)) x))] := by rw [Hst.out, List.length_append, qcs_snoc]; exact hr3
        have Hfin := Lib.hid hfin
        clear hr3 hfin
        go_wp2
        go_roundw
        case measure => simp [intOf]; omega
        case rel => exact ⟨k + 1, by first | rfl | go_num, by omega, Hfin⟩
    · obtain rfl : k = n := by omega
      have hS := hr.out.own 0 rfl
      have hk := hr.out.pureOf
      rw [List.take_of_length_le (by have := Hl.out; omega)] at hS
      obtain ⟨A5, c5, rfl, _⟩ := hS.form
      have HS := Lib.hid hS
      have Hk := Lib.hid hk
      clear hr hS hk
      go_wp2
      go_ret
      exact ⟨A5, c5, rfl, HS.out.imp (fun b _ h => h.elim (fun h => h.elim) id), Hk.out⟩
set_option maxHeartbeats 3200000 in
theorem rk_queue (w : World) (F : Nat → Prop) (g : Nat) (r : Rk) (h : (rkC g r).p w F) (hz : r.size ≤ 100000) :
    Calls Try.prog 19 #[.pointer (some ⟨g, 0, none⟩)] w fun e w' => ∃ A n c, e = .returned (.slice A n c) ∧ Sl w' (fun b => w.heap.size ≤ b) 1 A n (ics (r.qu.map (·.1))) ∧ Pure w w' := by
  obtain ⟨A1, c1, A2, c2, h⟩ := rk_open h
  have hr := Run.start h
  have hb := hr.blk 0 rfl
  have hs := (hr.own 2 rfl).sl
  have hq : r.qu.length ≤ 100000 := by unfold Rk.size at hz; omega
  have hc0 := hb.cell
  obtain ⟨l, hl⟩ : ∃ l, r.qu = l := ⟨_, rfl⟩
  rw [hl] at hs hc0 hq hb ⊢
  obtain ⟨n, hn⟩ : ∃ n, l.length = n := ⟨_, rfl⟩
  rw [hn] at hs hc0 hq hb
  have Hn := Lib.hid hn
  have Hs := Lib.hid hs
  have Hb := Lib.hid hb
  clear hb hs hz hl hn h hr
  go_enter Try.func19, Try.ntmps19
  go_wp2
  go_loopw [3, 4] (fun out i wr => ∃ j : Nat, i = .int .i64 j ∧ j ≤ n ∧ Hid (Run w (fun _ => False) wr [ownC 3 1 out j (ics ((l.take j).map (·.1)))])) (fun _ i _ => n - (intOf i).toNat)
  case atStart => exact ⟨0, rfl, Nat.zero_le _, Lib.hid ((Run.start (F := fun _ => False) (w := w) (Ps := []) trivial).addNil _ _)⟩
  case round =>
    obtain ⟨j, rfl, hj, hr⟩ := hrel
    have hbr := Hb.out.kept hr.out.pureOf (fun h => h)
    have hc := hbr.cell
    by_cases hjn : j < n
    · obtain ⟨y, hy⟩ : ∃ y, l[j]? = some y := ⟨_, List.getElem?_eq_getElem (by have := Hn.out; omega)⟩
      have hsw := Hs.out.kept hr.out.pureOf (fun _ _ _ h => h)
      obtain ⟨b, o, rfl, _, _, _⟩ := hsw.2 (by omega)
      obtain ⟨hc1, hc2⟩ := slq_at hsw hy
      have hji : (j : Int) < (n : Int) := by omega
      have Hy := Lib.hid hy
      have hlit := Sl.lit wr #[.int .i64 y.1] 3 1 1 _ rfl rfl
      clear hy hsw hbr hc0
      go_wp2_with (first | (at_builtin; refine held ?_))
      refine unheld ?_
      refine (hr.out.alloc _).app 0 rfl Try.underlying34 info_di rfl (by omega) hlit (ics_one [y.1]) (by omega) (by omega) rfl _ _ rfl rfl rfl ?_
      intro v3 w3 _ hr3
      have ht : (l.take (j + 1)).map (·.1) = (l.take j).map (·.1) ++ [y.1] := by simp [List.take_add_one, Hy.out]
      have hfin : Run w (fun _ => False) w3 [ownC 3 1 v3 (j + 1) (ics ((l.take (j + 1)).map (·.1)))] := by rw [ht]; simpa [ics] using hr3
      have Hfin := Lib.hid hfin
      clear hr3 hfin ht
      go_wp2
      go_roundw
      case measure => simp [intOf]; omega
      case rel => exact ⟨j + 1, by first | rfl | go_num, by omega, Hfin⟩
    · obtain rfl : j = n := by omega
      obtain ⟨A, c, rfl, _, _, _, hS⟩ := (hr.out.own 0 rfl).form
      have hk := hr.out.pureOf
      rw [List.take_of_length_le (by have := Hn.out; omega)] at hS
      have HS := Lib.hid hS
      have Hk := Lib.hid hk
      clear hr hS hk hbr hc0
      go_wp2
      go_ret
      exact ⟨A, j, c, rfl, HS.out.imp (fun b _ h => h.elim (fun h => h.elim) id), Hk.out⟩
end Go.Proofs.Ytggnndopncegaaa
