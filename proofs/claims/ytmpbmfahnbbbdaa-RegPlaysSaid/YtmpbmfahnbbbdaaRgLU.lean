/-
  reg: RegUnder walked.
-/
import Derived.Test.YtmpbmfahnbbbdaaRgLL
import Derived.LoopTactic
import Derived.Deep.QuietTactic
import Derived.BigQuiet
set_option linter.unusedSimpArgs false
set_option linter.unusedVariables false
namespace Go.Proofs.Ytmpbmfahnbbbdaa
open Go.RowKit
set_option maxRecDepth 100000

theorem mem_un {es : Es} {p u : ByteArray} : u ∈ unE es p ↔ (∃ v, (u, v) ∈ es) ∧ Lib.hasPrefix (kb u) (kb p) = true := by
  unfold unE
  rw [List.mem_map]
  constructor
  · rintro ⟨e, he, rfl⟩
    rw [List.mem_filter] at he
    exact ⟨⟨e.2, he.1⟩, he.2⟩
  · rintro ⟨⟨v, hv⟩, hp⟩
    exact ⟨(u, v), List.mem_filter.2 ⟨hv, hp⟩, rfl⟩
theorem fd_mem {sh : ByteArray → Nat} {ms : List Es} {es : Es} (h : Shd sh ms es) (k : ByteArray) : 0 ≤ fdE es k ↔ ∃ v, (k, v) ∈ es := by
  rw [fd_pos h k, has_iff h.rise]
  constructor
  · rintro ⟨e, he, hk⟩
    have := kb_inj.1 hk
    subst this
    exact ⟨e.2, he⟩
  · rintro ⟨v, hv⟩
    exact ⟨_, hv, rfl⟩
def inU (U : List ByteArray) (k : ByteArray) : Bool := U.any fun u => decide (u = k)
theorem inU_iff {U : List ByteArray} {k : ByteArray} : inU U k = true ↔ k ∈ U := by
  unfold inU
  rw [List.any_eq_true]
  constructor
  · rintro ⟨u, hu, h⟩
    have : u = k := by simpa using h
    rw [← this]; exact hu
  · intro h; exact ⟨k, h, by simp⟩
theorem inU_succ {U : List ByteArray} {t : Nat} {u : ByteArray} (k : ByteArray) (h : U[t]? = some u) : inU (U.take (t + 1)) k = (inU (U.take t) k || decide (u = k)) := by
  unfold inU
  rw [List.take_add_one, h, Option.toList_some, List.any_append]
  simp
set_option maxHeartbeats 12800000 in
theorem under_top (a : Int) (A : Option Addr) (c : Nat) (l : List Act) (p : ByteArray) (w : World) (F : Nat → Prop) (hs : Sl w F 3 A l.length (l.flatMap Act.cells)) (hf : ∀ a ∈ l, a.Fits) (hps : p.size ≤ maxLen) :
    Calls Try.prog 4 #[.int .i64 a, .slice A l.length c, .string p] w (BoolP true w) := by
  have CF := Lib.hid first21
  have CL := Lib.hid (fun w' (h : Pure w w') => light_any a A c l w' F (hs.kept h (fun _ _ _ h => h)) hf)
  obtain ⟨n, hn⟩ : ∃ n, l.length = n := ⟨_, rfl⟩
  rw [hn] at CL hs ⊢
  unfold maxLen at hps
  cases hL : lightB a l with
  | false =>
    rw [hL] at CL
    clear hs hf
    go_enter Try.func4, Try.ntmps4
    go_wp2_with fail
    refine (CF.out _).mono ?_
    rintro e w1 ⟨rfl, hk1⟩
    go_wp2_with fail
    refine (CL.out _ hk1).mono ?_
    rintro e w2 ⟨rfl, e2⟩
    obtain rfl := e2.symm
    go_wp2_with fail
    refine (CF.out _).mono ?_
    rintro e w3 ⟨rfl, hk3⟩
    go_wp2
    go_ret
    exact ⟨rfl, hk1.same hk3⟩
  | true =>
    rw [hL] at CL
    obtain ⟨ha64, hn80, hk40⟩ := light_bound hL
    rw [hn] at hn80
    by_cases hp40 : p.size ≤ 40
    · have hp' : ((40 : Int) < (p.size : Int)) = False := by simp; omega
      have Hs := Lib.hid hs
      have Hf := Lib.hid hf
      have Hn := Lib.hid hn
      have Hk40 := Lib.hid hk40
      clear hs hf hn hk40 hL
      go_enter Try.func4, Try.ntmps4
      go_wp2_with fail
      refine (CF.out _).mono ?_
      rintro e w1 ⟨rfl, hk1⟩
      go_wp2_with fail
      refine (CL.out _ hk1).mono ?_
      rintro e w2 ⟨rfl, e2⟩
      obtain rfl := e2.symm
      have hr0 := (Run.start (F := fun _ => False) (w := w1) (Ps := []) trivial)
      have CN := run_new hr0 a ha64
      clear hr0
      obtain ⟨N, hN⟩ : ∃ N, w1.heap.size = N := ⟨_, rfl⟩
      obtain ⟨m, hm⟩ : ∃ m, mS a = m := ⟨_, rfl⟩
      rw [hN, hm] at CN
      have HN := Lib.hid hN
      have Hm := Lib.hid hm
      have CN := Lib.hid CN
      clear hN hm
      go_wp2_with fail
      refine (CN.out).mono ?_
      rintro e w3 ⟨rfl, hr3, hk3⟩
      have Hr3 := Lib.hid hr3
      have Hk1 := Lib.hid hk1
      clear hk1 hk3 hr3
      go_wp2
      go_loopw [8] (fun i wr => ∃ k : Nat, i = .int .i64 k ∧ k ≤ n ∧ ∃ es : Es, Hid (playE (l.take k) = es) ∧ Hid (Run w1 (fun _ => False) wr [rgC m N es])) (fun i _ => n - (intOf i).toNat)
      case atStart => exact ⟨0, rfl, Nat.zero_le _, [], rfl, Hr3⟩
      case round =>
        obtain ⟨k, rfl, hkn, es, hes, hr⟩ := hrel
        by_cases hlt : k < n
        · obtain ⟨bl, o, rfl, _, _, _⟩ := Hs.out.2 (by omega)
          obtain ⟨ac, hac⟩ : ∃ ac, l[k]? = some ac := ⟨_, List.getElem?_eq_getElem (by have := Hn.out; omega)⟩
          have hak := Hk40.out ac (List.mem_of_getElem? hac)
          have hsr := Hs.out.kept (Hk1.out.same hr.out.kept) (fun _ _ _ h => h)
          have hc0 := sl_at Act.cells_len hsr (by omega) hac 0 (by omega)
          have hc1 := sl_at Act.cells_len hsr (by omega) hac 1 (by omega)
          have hc2 := sl_at Act.cells_len hsr (by omega) hac 2 (by omega)
          have hes2 : playE (l.take (k + 1)) = stepA es ac := by rw [List.take_add_one, hac, Option.toList_some, playE_snoc, hes.out]
          have hel : es.length ≤ 80 := by
            have h1 := playE_len (l.take k)
            rw [hes.out, List.length_take] at h1
            omega
          have C1 := run_step (a := ac) hr.out (i := 0) (m := m) (g := N) (es := es) rfl (by omega) (by omega)
          obtain ⟨Bs, hBs⟩ : ∃ B, (stepE es ac.op ac.key ac.id).1 = B := ⟨_, rfl⟩
          obtain ⟨es2, hE2⟩ : ∃ e, stepA es ac = e := ⟨_, rfl⟩
          rw [hBs, hE2] at C1
          rw [hE2] at hes2
          have C1 := Lib.hid C1
          have Hes2 := Lib.hid hes2
          have hki : (k : Int) < (n : Int) := by omega
          obtain ⟨op, ky, idn⟩ := ac
          simp only [Act.cells] at hc0 hc1 hc2
          have hd0 : wr.cell? ⟨bl, o + k * 3, none⟩ = some (.int .i64 op) := hc0
          have hd1 : wr.cell? ⟨bl, o + k * 3 + 1, none⟩ = some (.string ky) := hc1
          have hd2 : wr.cell? ⟨bl, o + k * 3 + 2, none⟩ = some (.int .i64 idn) := hc2
          clear hc0 hc1 hc2
          clear hsr hac hBs hE2 hes2
          go_wp2_with fail
          refine (C1.out).mono ?_
          rintro e w5 ⟨rfl, hr5⟩
          have Hr5 : Hid (Run w1 (fun _ => False) w5 [rgC m N es2]) := Lib.hid hr5
          clear hr5 hd0 hd1 hd2
          go_wp2
          go_roundw
          case measure => simp [intOf]; omega
          case rel => exact ⟨k + 1, by first | rfl | go_num, by omega, es2, Hes2, Hr5⟩
        · obtain rfl : k = n := by omega
          have hel : es.length ≤ 80 := by
            have h1 := playE_len (l.take k)
            rw [hes.out, List.length_take] at h1
            omega
          have hkeys := play_keys (l := l.take k) (fun x hx => Hk40.out x (List.mem_of_mem_take hx))
          rw [hes.out] at hkeys
          obtain ⟨ms, hsh⟩ : ∃ ms, Shd (shd m) ms es := by
            obtain ⟨ms, _, _, _, h⟩ := hr.out.get (P := rgC m N es) 0 rfl
            exact ⟨ms, h.shd⟩
          have CU := fun (wx : World) (Ps : List Ch) (i : Nat) (hi : Ps[i]? = some (rgC m N es)) (h : Run w1 (fun _ => False) wx Ps) => run_under h hi p (by omega)
          obtain ⟨U, hU⟩ : ∃ U, unE es p = U := ⟨_, rfl⟩
          have hrise := unE_rise hsh.rise p
          have hmem : ∀ u, u ∈ U ↔ 0 ≤ fdE es u ∧ Lib.hasPrefix (kb u) (kb p) = true := fun u => by rw [← hU, mem_un, fd_mem hsh]
          have hus : ∀ u ∈ U, u.size ≤ 1000000 := fun u hu => by
            rw [← hU, mem_un] at hu
            obtain ⟨⟨v, hv⟩, _⟩ := hu
            have := hkeys _ hv
            simp only at this
            omega
          have hul := unE_len es p
          rw [hU] at CU hrise hul
          have CU := Lib.hid CU
          have Hrise := Lib.hid hrise
          have Hmem := Lib.hid hmem
          have Hus := Lib.hid hus
          obtain ⟨z, hz⟩ : ∃ z, U.length = z := ⟨_, rfl⟩
          rw [hz] at CU hul
          have hz80 : z ≤ 80 := by omega
          have Hz := Lib.hid hz
          clear hU hkeys hrise hmem hus hul hsh hz
          go_wp2_with fail
          refine (CU.out _ _ 0 rfl hr.out).mono ?_
          rintro e w5 ⟨A5, c5, rfl, hr5, _⟩
          go_wp2_with fail
          refine (CU.out _ _ 1 rfl hr5).mono ?_
          rintro e w6 ⟨A6, c6, rfl, hr6, _⟩
          have Hr6 := Lib.hid hr6
          clear hr5 hr6
          go_wp2
          go_loopw [11] (fun i wr => ∃ j : Nat, i = .int .i64 j ∧ j ≤ z ∧ Hid (Run w1 (fun _ => False) wr [ownC 9 1 (.slice A6 z c6) z (U.map Value.string), ownC 9 1 (.slice A5 z c5) z (U.map Value.string), rgC m N es])) (fun i _ => z - (intOf i).toNat)
          case atStart => exact ⟨0, rfl, Nat.zero_le _, Hr6⟩
          case round =>
            obtain ⟨j, rfl, hjz, hrr⟩ := hrel
            by_cases hlt : j < z
            · obtain ⟨u, hu⟩ : ∃ u, U[j]? = some u := ⟨_, List.getElem?_eq_getElem (by have := Hz.out; omega)⟩
              have hsl := (hrr.out.own 1 rfl).sl
              obtain ⟨bu, ou, rfl, _, _, _⟩ := hsl.2 (by omega)
              have hcu := sl_one1 hsl (i := j) (x := .string u) (by rw [List.getElem?_map, hu]; rfl)
              have hum := List.mem_of_getElem? hu
              obtain ⟨m1, m2⟩ := (Hmem.out u).1 hum
              have hraw := Lib.hasPrefix_raw u p
              rw [show Lib.hasPrefix u.data.toList p.data.toList = true from m2, Bool.and_eq_true, decide_eq_true_eq] at hraw
              obtain ⟨hsz, hext⟩ := hraw
              have hpe : (u.extract 0 p.size).toList = p.toList := by simpa using hext
              have hsi : (p.size : Int) ≤ (u.size : Int) := by omega
              have hsf : ¬ (u.size : Int) < (p.size : Int) := by omega
              have C1 := run_find hrr.out.drew (i := 2) (m := m) (g := N) (es := es) rfl u (Hus.out u hum)
              obtain ⟨fd, hfd⟩ : ∃ x, fdE es u = x := ⟨_, rfl⟩
              rw [hfd] at C1 m1
              have C1 := Lib.hid C1
              have hji : (j : Int) < (z : Int) := by omega
              have hf0 : ¬ fd < 0 := by omega
              by_cases hj0 : j = 0
              · subst hj0
                rw [Nat.add_zero] at hcu
                clear hsl hu hum m2 hfd hext
                go_wp2
                refine wp_region_seq [25] [] (by kernel_rfl) (by kernel_rfl) (by kernel_rfl) ?_
                repeat (with_reducible refine seq_step (by decide) (by decide) (fun K hK => ?_); go_simp; refine hK _ _ ?_; clear hK K)
                with_reducible refine seq_move (by decide) (fun K hK => ?_)
                go_simp
                refine up_enter ((C1.out).mono ?_)
                rintro e w9 ⟨rfl, hk9⟩
                refine ⟨_, rfl, hK _ _ ?_⟩
                clear hK K
                repeat (with_reducible refine seq_step (by decide) (by decide) (fun K hK => ?_); go_simp; refine hK _ _ ?_; clear hK K)
                with_reducible refine seq_nil ?_
                have Hr9 := Lib.hid (hrr.out.drew.pure hk9)
                clear hk9
                go_wp2
                go_roundw
                case measure => simp [intOf]; omega
                case rel => exact ⟨1, by first | rfl | go_num, by omega, Hr9⟩
              · obtain ⟨q, rfl⟩ : ∃ q, j = q + 1 := ⟨j - 1, by omega⟩
                obtain ⟨y, hy⟩ : ∃ y, U[q]? = some y := ⟨_, List.getElem?_eq_getElem (by have := Hz.out; omega)⟩
                have hcy := sl_one1 hsl (i := q) (x := .string y) (by rw [List.getElem?_map, hy]; rfl)
                have hbl : Op.bytesLess y.toList u.toList = true := by
                  rw [str_lt]
                  obtain ⟨l1, e1⟩ := List.getElem?_eq_some_iff.1 hy
                  obtain ⟨l2, e2⟩ := List.getElem?_eq_some_iff.1 hu
                  have := List.pairwise_iff_getElem.1 Hrise.out q (q + 1) l1 l2 (by omega)
                  rw [e1, e2] at this
                  simpa using this
                have hq0 : (0 : Int) < (q : Int) + 1 := by omega
                have hq2 : (0 : Int) ≤ (q : Int) + 1 := by omega
                have hq3 : (q : Int) + 1 < (z : Int) := by omega
                have hq1 : (q : Int) + 1 - 1 = (q : Int) := by omega
                have hq4 : IntKind.i64.wrap (q : Int) = (q : Int) := by rw [IntKind.wrap_i64]; omega
                have hq5 : IntKind.i64.wrap ((q : Int) + 1 - 1) = (q : Int) := by rw [IntKind.wrap_i64]; omega
                have hqm : (q : Int) < (z : Int) := by omega
                clear hsl hu hum m2 hfd hext hy
                go_wp2
                refine wp_region_seq [25] [] (by kernel_rfl) (by kernel_rfl) (by kernel_rfl) ?_
                repeat (with_reducible refine seq_step (by decide) (by decide) (fun K hK => ?_); go_simp; refine hK _ _ ?_; clear hK K)
                with_reducible refine seq_move (by decide) (fun K hK => ?_)
                go_simp
                refine up_enter ((C1.out).mono ?_)
                rintro e w9 ⟨rfl, hk9⟩
                refine ⟨_, rfl, hK _ _ ?_⟩
                clear hK K
                have hc3 := (World.cell?_of_block (a := ⟨bu, ou + q, none⟩) (hk9.block bu (World.block_lt_of_cell? wr _ hcy) (fun h => h))).trans hcy
                have hc4 := (World.cell?_of_block (a := ⟨bu, ou + (q + 1), none⟩) (hk9.block bu (World.block_lt_of_cell? wr _ hcy) (fun h => h))).trans hcu
                repeat (with_reducible refine seq_step (by decide) (by decide) (fun K hK => ?_); go_simp; refine hK _ _ ?_; clear hK K)
                with_reducible refine seq_nil ?_
                have Hr9 := Lib.hid (hrr.out.drew.pure hk9)
                clear hk9 hc3 hc4
                go_wp2
                go_roundw
                case measure => simp [intOf]; omega
                case rel => exact ⟨q + 1 + 1, by first | rfl | go_num, by omega, Hr9⟩
            · obtain rfl : j = z := by omega
              obtain ⟨W, hW⟩ : ∃ W, wr = W := ⟨_, rfl⟩
              rw [hW] at hrr ⊢
              clear hW
              go_wp2
              go_loopw [12] (fun i wr => ∃ t : Nat, i = .int .i64 t ∧ t ≤ k ∧ Hid (Run w1 (fun _ => False) wr [ownC 9 1 (.slice A6 j c6) j (U.map Value.string), ownC 9 1 (.slice A5 j c5) j (U.map Value.string), rgC m N es])) (fun i _ => k - (intOf i).toNat)
              case atStart => exact ⟨0, rfl, Nat.zero_le _, hrr⟩
              case round =>
                obtain ⟨t, rfl, htk, hrt⟩ := hrel
                by_cases htlt : t < k
                · obtain ⟨bl, o, rfl, _, _, _⟩ := Hs.out.2 (by omega)
                  obtain ⟨ac, hac⟩ : ∃ ac, l[t]? = some ac := ⟨_, List.getElem?_eq_getElem (by have := Hn.out; omega)⟩
                  have hak := Hk40.out ac (List.mem_of_getElem? hac)
                  have hsr := Hs.out.kept (Hk1.out.same hrt.out.kept) (fun _ _ _ h => h)
                  have hc1 := sl_at Act.cells_len hsr (by omega) hac 1 (by omega)
                  obtain ⟨op, ky, idn⟩ := ac
                  simp only [Act.cells] at hc1
                  simp only at hak
                  have hd1 : wr.cell? ⟨bl, o + t * 3 + 1, none⟩ = some (.string ky) := hc1
                  have hti : (t : Int) < (k : Int) := by omega
                  obtain ⟨W, hW⟩ : ∃ W, wr = W := ⟨_, rfl⟩
                  rw [hW] at hrt hd1 ⊢
                  have C1 := run_find hrt.out (i := 2) (m := m) (g := N) (es := es) rfl ky (by omega)
                  have hmu := Hmem.out ky
                  obtain ⟨fd, hfd⟩ : ∃ x, fdE es ky = x := ⟨_, rfl⟩
                  rw [hfd] at C1 hmu
                  have hraw := Lib.hasPrefix_raw ky p
                  rw [show Lib.hasPrefix ky.data.toList p.data.toList = Lib.hasPrefix (kb ky) (kb p) from rfl] at hraw
                  have C1 := Lib.hid C1
                  have Hmu := Lib.hid hmu
                  have Hraw := Lib.hid hraw
                  have H0 : Hid (false = inU (U.take 0) ky) := Lib.hid rfl
                  clear hW hac hsr hc1 hfd hmu hraw
                  go_wp2
                  clear hd1
                  go_loopw [14, 15] (fun y i wr => ∃ (s : Nat) (v : Bool), i = .int .i64 s ∧ y = .bool v ∧ s ≤ j ∧ Hid (v = inU (U.take s) ky) ∧ wr = W) (fun _ i _ => j - (intOf i).toNat)
                  case atStart => exact ⟨0, false, rfl, rfl, Nat.zero_le _, H0, rfl⟩
                  case round =>
                    obtain ⟨s, v, rfl, rfl, hsj, hv, hw⟩ := hrel
                    obtain rfl := hw.symm
                    by_cases hsj' : s < j
                    · obtain ⟨u, hu⟩ : ∃ u, U[s]? = some u := ⟨_, List.getElem?_eq_getElem (by have := Hz.out; omega)⟩
                      have hsl := (hrt.out.own 1 rfl).sl
                      obtain ⟨bu, ou, rfl, _, _, _⟩ := hsl.2 (by omega)
                      have hcu := sl_one1 hsl (i := s) (x := .string u) (by rw [List.getElem?_map, hu]; rfl)
                      have hin := inU_succ ky hu
                      rw [← hv.out] at hin
                      have hsi : (s : Int) < (j : Int) := by omega
                      clear hsl hu
                      cases v with
                      | true =>
                        rw [Bool.true_or] at hin
                        have Hin := Lib.hid hin
                        clear hin
                        go_wp2
                        go_roundw
                        case measure => simp [intOf]; omega
                        case rel => exact ⟨s + 1, true, by first | rfl | go_num, rfl, by omega, Lib.hid Hin.out.symm, by first | rfl | trivial⟩
                      | false =>
                        rw [Bool.false_or, ← str_same] at hin
                        obtain ⟨V, hV⟩ : ∃ V, (u.toList == ky.toList) = V := ⟨_, rfl⟩
                        rw [hV] at hin
                        have Hin := Lib.hid hin
                        clear hin
                        go_wp2
                        go_roundw
                        case measure => simp [intOf]; omega
                        case rel => exact ⟨s + 1, V, by first | rfl | go_num, rfl, by omega, Lib.hid Hin.out.symm, by first | rfl | trivial⟩
                    · obtain rfl : s = j := by omega
                      have hin : v = true ↔ 0 ≤ fd ∧ Lib.hasPrefix (kb ky) (kb p) = true := by
                        have h1 := hv.out
                        rw [List.take_of_length_le (by have := Hz.out; omega)] at h1
                        rw [h1, inU_iff]
                        exact Hmu.out
                      rw [← Hraw.out] at hin
                      clear hv
                      by_cases hfd : 0 ≤ fd
                      · by_cases hsz : p.size ≤ ky.size
                        · have hszi : (p.size : Int) ≤ (ky.size : Int) := by omega
                          obtain ⟨V, hV⟩ : ∃ V, ((ky.extract 0 p.size).toList == p.toList) = V := ⟨_, rfl⟩
                          rw [hV] at hin
                          have hvV : v = V := by
                            rw [Bool.eq_iff_iff, hin]
                            simp [hfd, hsz]
                          subst hvV
                          have hvv : (v == v) = true := by simp
                          clear hin
                          go_wp2_with fail
                          refine (C1.out).mono ?_
                          rintro e w9 ⟨rfl, hk9⟩
                          have Hr9 := Lib.hid (hrt.out.pure hk9)
                          clear hk9
                          go_wp2
                          go_roundw
                          case measure => simp [intOf]; omega
                          case rel => exact ⟨t + 1, by first | rfl | go_num, by omega, Hr9⟩
                        · have hszi : (ky.size : Int) < (p.size : Int) := by omega
                          have hvV : v = false := by
                            rw [Bool.eq_false_iff, ne_eq, hin]
                            simp [hsz]
                          subst hvV
                          clear hin
                          go_wp2_with fail
                          refine (C1.out).mono ?_
                          rintro e w9 ⟨rfl, hk9⟩
                          have Hr9 := Lib.hid (hrt.out.pure hk9)
                          clear hk9
                          go_wp2
                          go_roundw
                          case measure => simp [intOf]; omega
                          case rel => exact ⟨t + 1, by first | rfl | go_num, by omega, Hr9⟩
                      · have hvV : v = false := by
                          rw [Bool.eq_false_iff, ne_eq, hin]
                          simp [hfd]
                        subst hvV
                        clear hin
                        go_wp2_with fail
                        refine (C1.out).mono ?_
                        rintro e w9 ⟨rfl, hk9⟩
                        have Hr9 := Lib.hid (hrt.out.pure hk9)
                        clear hk9
                        go_wp2
                        go_roundw
                        case measure => simp [intOf]; omega
                        case rel => exact ⟨t + 1, by first | rfl | go_num, by omega, Hr9⟩
                · obtain rfl : t = k := by omega
                  obtain ⟨W, hW⟩ : ∃ W, wr = W := ⟨_, rfl⟩
                  rw [hW] at hrt ⊢
                  clear hW
                  go_wp2
                  go_loopw [16] (fun i wr => ∃ s : Nat, i = .int .i64 s ∧ s ≤ j ∧ ∃ ys, Hid (Run w1 (fun _ => False) wr [ownC 9 1 (.slice A6 j c6) j ys, ownC 9 1 (.slice A5 j c5) j (U.map Value.string), rgC m N es])) (fun i _ => j - (intOf i).toNat)
                  case atStart => exact ⟨0, rfl, Nat.zero_le _, _, hrt⟩
                  case round =>
                    obtain ⟨s, rfl, hsj, ys, hry⟩ := hrel
                    by_cases hsj' : s < j
                    · obtain ⟨gr, cur, rfl, hgr, hgb, hnc, hcm, hcs, hct⟩ := own_row (hry.out.own 0 rfl) (by omega)
                      obtain ⟨vx, hcx⟩ : ∃ v, wr.cell? ⟨gr, s, none⟩ = some v := ⟨_, (hgb.cell s).trans (Array.getElem?_eq_getElem (by omega))⟩
                      have hf1 := hgb.frozen s
                      have hsi : (s : Int) < (j : Int) := by omega
                      have hset := hry.out.setOwn 0 rfl s hsj' (.string ⟨#[115, 112, 111, 105, 108, 116]⟩)
                      have Hset := Lib.hid hset
                      clear hgb hct hcs hset
                      go_wp2
                      go_roundw
                      case measure => simp [intOf]; omega
                      case rel => exact ⟨s + 1, by first | rfl | go_num, by omega, _, Lib.hid (by simpa using Hset.out)⟩
                    · obtain rfl : s = j := by omega
                      go_wp2_with fail
                      refine (CU.out _ _ 2 rfl hry.out).mono ?_
                      rintro e w9 ⟨A9, c9, rfl, hr9, _⟩
                      have CT := texts_any A9 s c9 U A5 s c5 U w9 _ _ (hr9.own 0 rfl).sl (hr9.own 2 rfl).sl (by omega) (by omega)
                      rw [show decide (U = U) = true from by simp] at CT
                      have CT := Lib.hid CT
                      have Hp9 := Lib.hid (Hk1.out.same hr9.kept)
                      clear hr9
                      go_wp2_with fail
                      refine (CT.out).mono ?_
                      rintro e w10 ⟨rfl, hk10⟩
                      go_wp2
                      go_ret
                      exact ⟨rfl, Hp9.out.same hk10⟩
    · have hp' : ((40 : Int) < (p.size : Int)) = True := by simp; omega
      clear hs hf
      go_enter Try.func4, Try.ntmps4
      go_wp2_with fail
      refine (CF.out _).mono ?_
      rintro e w1 ⟨rfl, hk1⟩
      go_wp2_with fail
      refine (CL.out _ hk1).mono ?_
      rintro e w2 ⟨rfl, e2⟩
      obtain rfl := e2.symm
      go_wp2_with fail
      refine (CF.out _).mono ?_
      rintro e w3 ⟨rfl, hk3⟩
      go_wp2
      go_ret
      exact ⟨rfl, hk1.same hk3⟩
theorem regUnder_top (a : Int) (A : Option Addr) (c : Nat) (l : List Act) (p : ByteArray) (W : World) (_ : (Lit.int .i64 a).wf = true) (h0 : Sl W (fun _ => True) 3 A l.length (l.flatMap Act.cells)) (_ : l.length ≤ maxLen) (h2 : ∀ i ∈ l, i.Fits) (h3 : l.length ≤ c) (h4 : c ≤ maxLen) (hp : p.size ≤ maxLen) :
    Calls Try.prog 4 #[.int .i64 a, .slice A l.length c, .string p] W (BoolP true W) := under_top a A c l p W _ h0 h2 hp
end Go.Proofs.Ytmpbmfahnbbbdaa
