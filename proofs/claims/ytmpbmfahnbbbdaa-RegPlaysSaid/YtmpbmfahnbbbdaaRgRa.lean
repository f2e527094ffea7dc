/-
  reg: the reference's Load, Under walked.
-/
import Derived.Test.YtmpbmfahnbbbdaaRgR
import Derived.LoopTactic
import Derived.Deep.QuietTactic
import Derived.BigQuiet
set_option linter.unusedSimpArgs false
set_option linter.unusedVariables false
namespace Go.Proofs.Ytmpbmfahnbbbdaa
open Go.RowKit
set_option maxRecDepth 100000
set_option maxHeartbeats 800000 in
theorem g_sum (s : ByteArray) (w : World) (hs : s.size ≤ 1000000) :
    Calls Try.prog 45 #[.string s] w fun e w' => e = .returned (.int .u64 (fnvL (kb s) : Nat)) ∧ w = w' := by
  obtain ⟨G, h0, h1, h2⟩ := fnv_path s
  rw [← h2.out]
  clear h2
  go_enter Try.func45, Try.ntmps45
  go_wp2
  go_loopw [3, 4] (fun h i wr => ∃ k : Nat, i = .int .i64 k ∧ k ≤ s.size ∧ h = .int .u64 (G k : Nat) ∧ w = wr) (fun _ i _ => s.size - (intOf i).toNat)
  case atStart => exact ⟨0, rfl, Nat.zero_le _, h0.out, rfl⟩
  case round =>
    obtain ⟨k, rfl, hk, rfl, rfl⟩ := hrel
    by_cases hlt : k < s.size
    · have hki : (k : Int) < (s.size : Int) := by omega
      go_wp2_with fail
      go_wp2
      go_roundw
      case measure => simp [intOf]; omega
      case rel => exact ⟨k + 1, by first | rfl | go_num, by omega, by rw [← h1.out k hlt], by first | rfl | trivial⟩
    · obtain rfl : k = s.size := by omega
      go_wp2
      go_ret
      exact ⟨rfl, rfl⟩
theorem g_shard (s : ByteArray) (m : Nat) (w : World) (hs : s.size ≤ 1000000) (hm : 0 < m) (hm2 : m ≤ 1000) :
    Calls Try.prog 36 #[.string s, .int .i64 m] w fun e w' => e = .returned (.int .i64 (shd m s : Nat)) ∧ w' = w := by
  have C := Lib.hid (fun w => g_sum s w hs)
  have hX := fnvL_lt (kb s)
  have hr : wrap64 (((fnvL (kb s) : Nat) : Int) % (m : Int)) = ((shd m s : Nat) : Int) := by
    have h1 := shd_lt hm s
    have h2 : (((fnvL (kb s) : Nat) : Int) % (m : Int)) = ((shd m s : Nat) : Int) := (Int.natCast_emod _ _).symm
    rw [h2]
    unfold wrap64; omega
  have hw : IntKind.u64.wrap (m : Int) = (m : Int) := by rw [IntKind.wrap_u64]; omega
  have hm' : ¬ (m : Int) < 1 := by omega
  have hm0 : ¬ (m : Int) = 0 := by omega
  have Hr := Lib.hid hr
  obtain ⟨X, hXX⟩ : ∃ X, fnvL (kb s) = X := ⟨_, rfl⟩
  rw [hXX] at C Hr hX
  clear hr
  go_enter Try.func36, Try.ntmps36
  go_wp2_with fail
  refine (C.out _).mono ?_
  rintro e w' ⟨rfl, rfl⟩
  go_wp2
  go_ret
  exact ⟨by simp [Hr.out], rfl⟩
theorem ld_int (m : Nat) (es : Es) (s : Int) (hm : 0 < m) : (es.filter fun e => decide (((shd m e.1 : Nat) : Int) = s)).length = ldE m es s := by
  unfold ldE
  by_cases h : 0 ≤ s ∧ s < m
  · rw [if_pos h]
    congr 1
    refine List.filter_congr (fun e _ => ?_)
    rw [Bool.eq_iff_iff]
    simp only [decide_eq_true_eq]
    omega
  · rw [if_neg h, List.filter_eq_nil_iff.2]
    · rfl
    · intro e _
      have := shd_lt hm e.1
      simp only [decide_eq_true_eq]
      omega
set_option maxHeartbeats 1600000 in
theorem rr_load (w : World) (F : Nat → Prop) (m g : Nat) (es : Es) (s : Int) (h : Rr m w F g es) (hz : es.length ≤ 100000) (hm : 0 < m ∧ m ≤ 1000) (hks : ∀ e ∈ es, e.1.size ≤ 1000000) :
    Calls Try.prog 24 #[ptrV g, .int .i64 s] w fun e w' => e = .returned (.int .i64 (ldE m es s : Nat)) ∧ Pure w w' := by
  obtain ⟨A1, c1, A2, c2, h⟩ := h
  have hr := Run.start h
  have hcc : ∀ wx, Pure w wx → Blk wx g 58 #[.int .i64 m, .slice A1 es.length c1, .slice A2 es.length c2] ∧ Sl wx (fun b => F b ∨ w.heap.size ≤ b) 1 A1 es.length (es.map keyV) := fun wx hp => ⟨(hr.pure hp).blk 0 rfl, ((hr.pure hp).own 1 rfl).sl⟩
  rw [← ld_int m es s hm.1]
  obtain ⟨n, hn⟩ : ∃ n, es.length = n := ⟨_, rfl⟩
  rw [hn] at hcc hz
  have Hcc := Lib.hid hcc
  have Hn := Lib.hid hn
  have Hks := Lib.hid hks
  have H0 : Hid (0 = ((es.take 0).filter fun e => decide (((shd m e.1 : Nat) : Int) = s)).length) := Lib.hid rfl
  have hb := (hcc w (Kept.refl _ _)).1
  have hc := hb.cell
  clear h hr hn hcc hks hb
  go_enter Try.func24, Try.ntmps24
  go_wp2
  clear hc
  go_loopw [5, 6] (fun q i wr => ∃ j v : Nat, i = .int .i64 j ∧ q = .int .i64 v ∧ j ≤ n ∧ v ≤ 100000 ∧ Hid (v = ((es.take j).filter fun e => decide (((shd m e.1 : Nat) : Int) = s)).length) ∧ Pure w wr) (fun _ i _ => n - (intOf i).toNat)
  case atStart => exact ⟨0, 0, rfl, rfl, Nat.zero_le _, Nat.zero_le _, H0, Kept.refl _ _⟩
  case round =>
    obtain ⟨j, v, rfl, rfl, hjn, hv1, hv, hp⟩ := hrel
    obtain ⟨hb, hs⟩ := Hcc.out wr hp
    have hc := hb.cell
    by_cases hlt : j < n
    · obtain ⟨e, he⟩ : ∃ e, es[j]? = some e := ⟨_, List.getElem?_eq_getElem (by have := Hn.out; omega)⟩
      obtain ⟨b, o, rfl, -, -, -⟩ := hs.2 (by omega)
      have hcx := sl_one1 hs (i := j) (x := .string e.1) (by rw [List.getElem?_map, he]; rfl)
      have hnx : ((es.take (j + 1)).filter fun e => decide (((shd m e.1 : Nat) : Int) = s)).length = v + (if ((shd m e.1 : Nat) : Int) = s then 1 else 0) := by
        rw [List.take_add_one, he, Option.toList_some, List.filter_append, List.length_append, hv.out]
        by_cases h1 : ((shd m e.1 : Nat) : Int) = s <;> simp [h1]
      have hvj : v ≤ j := by
        rw [hv.out]
        refine Nat.le_trans (List.length_filter_le _ _) ?_
        rw [List.length_take]; omega
      have CS := fun (wx : World) => g_shard e.1 m wx (Hks.out e (List.mem_of_getElem? he)) hm.1 hm.2
      obtain ⟨e1, e2⟩ := e
      simp only at hcx CS hnx
      obtain ⟨sd, hsd⟩ : ∃ x, shd m e1 = x := ⟨_, rfl⟩
      rw [hsd] at CS hnx
      have CS := Lib.hid CS
      have hji : (j : Int) < (n : Int) := by omega
      clear hb hs he hsd hv
      by_cases hsd2 : (sd : Int) = s
      · subst hsd2
        rw [if_pos rfl] at hnx
        have Hnx := Lib.hid hnx
        clear hnx
        have hee : ((sd : Int) == (sd : Int)) = true := by simp
        go_wp2
        go_quiet ((go_at_call 36; refine Calls.quiet_of_same (CS.out _)))
        go_wp2
        go_roundw
        case measure => simp [intOf]; omega
        case rel => exact ⟨j + 1, v + 1, by first | rfl | go_num, by first | rfl | go_num, by omega, by omega, Lib.hid Hnx.out.symm, hp.drewN _⟩
      · rw [if_neg hsd2, Nat.add_zero] at hnx
        have Hnx := Lib.hid hnx
        have hee : ((sd : Int) == s) = false := by simpa using hsd2
        clear hnx
        go_wp2
        go_quiet ((go_at_call 36; refine Calls.quiet_of_same (CS.out _)))
        go_wp2
        go_roundw
        case measure => simp [intOf]; omega
        case rel => exact ⟨j + 1, v, by first | rfl | go_num, rfl, by omega, by omega, Lib.hid Hnx.out.symm, hp.drewN _⟩
    · obtain rfl : j = n := by omega
      have hve : v = (es.filter fun e => decide (((shd m e.1 : Nat) : Int) = s)).length := by
        have := hv.out
        rwa [List.take_of_length_le (by have := Hn.out; omega)] at this
      have Hve := Lib.hid hve
      clear hve hb hs hv
      go_wp2
      go_ret
      exact ⟨by rw [← Hve.out]; rfl, hp⟩
theorem unE_succ {es : Es} {p : ByteArray} {j : Nat} {e : En Int} (h : es[j]? = some e) : unE (es.take (j + 1)) p = unE (es.take j) p ++ (if Lib.hasPrefix (kb e.1) (kb p) = true then [e.1] else []) := by
  unfold unE
  rw [List.take_add_one, h, Option.toList_some, List.filter_append, List.map_append]
  by_cases h1 : Lib.hasPrefix (kb e.1) (kb p) = true <;> simp [h1]
set_option maxHeartbeats 3200000 in
theorem rr_under (w : World) (F : Nat → Prop) (m g : Nat) (es : Es) (p : ByteArray) (h : Rr m w F g es) (hz : es.length ≤ 100000) (hp : p.size ≤ 1000000) (hks : ∀ e ∈ es, e.1.size ≤ 1000000) :
    Calls Try.prog 25 #[ptrV g, .string p] w fun e w' => ∃ A c, e = .returned (.slice A (unE es p).length c) ∧ Own w' (fun b => w.heap.size ≤ b) 9 1 (.slice A (unE es p).length c) (unE es p).length ((unE es p).map Value.string) ∧ Pure w w' := by
  obtain ⟨A1, c1, A2, c2, h⟩ := h
  have hr := Run.start h
  have hcc : ∀ wx, Pure w wx → Blk wx g 58 #[.int .i64 m, .slice A1 es.length c1, .slice A2 es.length c2] ∧ Sl wx (fun b => F b ∨ w.heap.size ≤ b) 1 A1 es.length (es.map keyV) := fun wx hp => ⟨(hr.pure hp).blk 0 rfl, ((hr.pure hp).own 1 rfl).sl⟩
  obtain ⟨n, hn⟩ : ∃ n, es.length = n := ⟨_, rfl⟩
  rw [hn] at hcc hz
  have Hcc := Lib.hid hcc
  have Hn := Lib.hid hn
  have Hks := Lib.hid hks
  have hr0 := (Run.start (F := fun _ => False) (w := w) (Ps := []) trivial).addNil 9 1
  have Hr0 : Hid (Run w (fun _ => False) w [ownC 9 1 (.slice none 0 0) (unE (es.take 0) p).length ((unE (es.take 0) p).map Value.string)]) := Lib.hid hr0
  have hb := (hcc w (Kept.refl _ _)).1
  have hc := hb.cell
  clear h hr hn hcc hks hb hr0
  go_enter Try.func25, Try.ntmps25
  go_wp2
  clear hc
  go_loopw [5, 6] (fun v i wr => ∃ j : Nat, i = .int .i64 j ∧ j ≤ n ∧ Hid (Run w (fun _ => False) wr [ownC 9 1 v (unE (es.take j) p).length ((unE (es.take j) p).map Value.string)])) (fun _ i _ => n - (intOf i).toNat)
  case atStart => exact ⟨0, rfl, Nat.zero_le _, Hr0⟩
  case round =>
    obtain ⟨j, rfl, hjn, hr⟩ := hrel
    obtain ⟨hb, hs⟩ := Hcc.out wr hr.out.kept
    have hc := hb.cell
    by_cases hlt : j < n
    · obtain ⟨e, he⟩ : ∃ e, es[j]? = some e := ⟨_, List.getElem?_eq_getElem (by have := Hn.out; omega)⟩
      obtain ⟨b, o, rfl, -, -, -⟩ := hs.2 (by omega)
      have hcx := sl_one1 hs (i := j) (x := .string e.1) (by rw [List.getElem?_map, he]; rfl)
      have hnx := unE_succ (p := p) he
      have hsz := Hks.out e (List.mem_of_getElem? he)
      have hlen : (unE (es.take j) p).length ≤ 100000 := by
        refine Nat.le_trans (unE_len _ _) ?_
        rw [List.length_take]; omega
      obtain ⟨e1, e2⟩ := e
      simp only at hcx hnx hsz
      have hraw := Lib.hasPrefix_raw e1 p
      rw [show Lib.hasPrefix e1.data.toList p.data.toList = Lib.hasPrefix (kb e1) (kb p) from rfl] at hraw
      obtain ⟨L, hL⟩ : ∃ L, unE (es.take j) p = L := ⟨_, rfl⟩
      obtain ⟨L2, hL2⟩ : ∃ L, unE (es.take (j + 1)) p = L := ⟨_, rfl⟩
      rw [hL] at hr hnx hlen
      rw [hL2] at hnx
      have HL2 := Lib.hid hL2
      have hji : (j : Int) < (n : Int) := by omega
      clear hb hs he hL hL2
      by_cases hsz2 : p.size ≤ e1.size
      · have hszi : (p.size : Int) ≤ (e1.size : Int) := by omega
        rw [show decide (p.size ≤ e1.size) = true from by simpa using hsz2, Bool.true_and] at hraw
        cases hV : Lib.hasPrefix (kb e1) (kb p) with
        | true =>
          rw [hV] at hraw hnx
          rw [if_pos rfl] at hnx
          have hpe : (e1.extract 0 p.size).toList = p.toList := by simpa using hraw
          have Hnx := Lib.hid hnx
          clear hnx hV hraw
          have hlit := Sl.lit wr #[.string e1] 9 1 1 _ rfl rfl
          go_wp2_with (first | (at_builtin; refine held ?_))
          refine unheld ?_
          refine (hr.out.alloc _).app 0 rfl Try.underlying33 info_s1 rfl (by omega) hlit (fun u hu => by simp at hu; subst hu; rfl) (by omega) (by omega) rfl _ _ rfl rfl rfl ?_
          intro v3 w3 _ hr3
          have hfin : Run w (fun _ => False) w3 [ownC 9 1 v3 (unE (es.take (j + 1)) p).length ((unE (es.take (j + 1)) p).map Value.string)] := by rw [HL2.out, Hnx.out, List.length_append, List.map_append]; exact hr3
          have Hfin := Lib.hid hfin
          clear hr3 hfin
          go_wp2
          go_roundw
          case measure => simp [intOf]; omega
          case rel => exact ⟨j + 1, by first | rfl | go_num, by omega, Hfin⟩
        | false =>
          rw [hV] at hraw hnx
          rw [if_neg (by simp), List.append_nil] at hnx
          have hfin : Run w (fun _ => False) wr [ownC 9 1 u5 (unE (es.take (j + 1)) p).length ((unE (es.take (j + 1)) p).map Value.string)] := by rw [HL2.out, hnx]; exact hr.out
          have Hfin := Lib.hid hfin
          clear hnx hV hfin
          go_wp2
          go_roundw
          case measure => simp [intOf]; omega
          case rel => exact ⟨j + 1, by first | rfl | go_num, by omega, Hfin⟩
      · have hszi : (p.size : Int) ≤ (e1.size : Int) ↔ False := by simp; omega
        have hszi2 : (e1.size : Int) < (p.size : Int) := by omega
        rw [show decide (p.size ≤ e1.size) = false from by simpa using hsz2, Bool.false_and] at hraw
        rw [← hraw, if_neg (by simp), List.append_nil] at hnx
        have hfin : Run w (fun _ => False) wr [ownC 9 1 u5 (unE (es.take (j + 1)) p).length ((unE (es.take (j + 1)) p).map Value.string)] := by rw [HL2.out, hnx]; exact hr.out
        have Hfin := Lib.hid hfin
        clear hnx hfin hraw hszi
        go_wp2
        go_roundw
        case measure => simp [intOf]; omega
        case rel => exact ⟨j + 1, by first | rfl | go_num, by omega, Hfin⟩
    · obtain rfl : j = n := by omega
      have hS := hr.out.own 0 rfl
      have hkw := hr.out.kept
      rw [List.take_of_length_le (by have := Hn.out; omega)] at hS
      obtain ⟨A, c, rfl, _⟩ := hS.form
      have HS := Lib.hid hS
      have Hkw := Lib.hid hkw
      clear hb hs hS hkw
      go_wp2
      go_ret
      exact ⟨A, c, rfl, HS.out.imp (fun b _ h => h.elim (fun h => h.elim) (fun h => h)), Hkw.out⟩
end Go.Proofs.Ytmpbmfahnbbbdaa
