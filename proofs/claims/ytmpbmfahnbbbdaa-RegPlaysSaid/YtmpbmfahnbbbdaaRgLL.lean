/-
  reg: RegLoads walked.
-/
import Derived.Test.YtmpbmfahnbbbdaaRgLB
import Derived.LoopTactic
import Derived.Deep.QuietTactic
import Derived.BigQuiet
set_option linter.unusedSimpArgs false
set_option linter.unusedVariables false
namespace Go.Proofs.Ytmpbmfahnbbbdaa
open Go.RowKit
set_option maxRecDepth 100000

theorem put_keys {es : Es} {k : ByteArray} {v : Int} {e : En Int} (h : e ∈ putE es k v) : e.1 = k ∨ ∃ x ∈ es, x.1 = e.1 := by
  unfold putE at h
  split at h
  · obtain ⟨i, hi⟩ := List.getElem?_of_mem h
    rw [List.getElem?_modify] at hi
    cases hx : es[i]? with
    | none => rw [hx] at hi; simp at hi
    | some x =>
      rw [hx] at hi
      refine .inr ⟨x, List.mem_of_getElem? hx, ?_⟩
      have hi' : some (if low es (kb k) = i then (x.1, v) else x) = some e := by rw [← hi]; split <;> simp_all
      injection hi' with hi'
      rw [← hi']
      split <;> rfl
  · unfold insE at h
    rw [List.mem_append, List.mem_append] at h
    rcases h with (h | h) | h
    · exact .inr ⟨e, List.mem_of_mem_take h, rfl⟩
    · simp at h; subst h; exact .inl rfl
    · exact .inr ⟨e, List.mem_of_mem_drop h, rfl⟩
theorem del_keys {es : Es} {t : List UInt8} {e : En Int} (h : e ∈ delE es t) : e ∈ es := by
  unfold delE at h
  split at h
  · exact (List.eraseIdx_sublist _ _).subset h
  · exact h
theorem step_keys {es : Es} {a : Act} {e : En Int} (h : e ∈ stepA es a) : e.1 = a.key ∨ ∃ x ∈ es, x.1 = e.1 := by
  unfold stepA stepE at h
  split at h
  · unfold addE at h
    split at h
    · exact .inr ⟨e, h, rfl⟩
    · exact put_keys h
  · split at h
    · unfold remE at h
      split at h
      · exact .inr ⟨e, h, rfl⟩
      · exact .inr ⟨e, del_keys h, rfl⟩
    · exact .inr ⟨e, h, rfl⟩
theorem play_keys {l : List Act} (hl : ∀ a ∈ l, a.key.size ≤ 40) : ∀ e ∈ playE l, e.1.size ≤ 40 := by
  have : ∀ (l : List Act) (es : Es), (∀ a ∈ l, a.key.size ≤ 40) → (∀ e ∈ es, e.1.size ≤ 40) → ∀ e ∈ l.foldl stepA es, e.1.size ≤ 40 := by
    intro l
    induction l with
    | nil => intro es _ h; exact h
    | cons a l ih =>
      intro es hl h
      refine ih (stepA es a) (fun x hx => hl x (List.mem_cons_of_mem _ hx)) (fun e he => ?_)
      rcases step_keys he with h1 | ⟨x, hx, h1⟩
      · rw [h1]; exact hl a List.mem_cons_self
      · rw [← h1]; exact h x hx
  exact this l [] hl (fun e he => by cases he)
theorem unE_map (es : Es) : unE es ⟨#[]⟩ = es.map Prod.fst := by
  unfold unE
  rw [List.filter_eq_self.2]
  intro e _
  simp [kb, Lib.hasPrefix]
/-- How many texts have this shard; one below it. -/
def cntS (m : Nat) (U : List ByteArray) (s : Nat) : Nat := (U.filter fun k => decide (shd m k = s)).length
def totS (m : Nat) (U : List ByteArray) (s : Nat) : Nat := (U.filter fun k => decide (shd m k < s)).length
theorem tot_succ (m : Nat) (U : List ByteArray) (s : Nat) : totS m U (s + 1) = totS m U s + cntS m U s := by
  unfold totS cntS
  induction U with
  | nil => rfl
  | cons u U ih =>
    simp only [List.filter_cons]
    by_cases h1 : shd m u < s
    · have h2 : shd m u < s + 1 := by omega
      have h3 : ¬ shd m u = s := by omega
      simp only [h1, h2, h3, decide_true, decide_false, if_true, Bool.false_eq_true, if_false, List.length_cons]
      omega
    · by_cases h3 : shd m u = s
      · have h2 : shd m u < s + 1 := by omega
        simp only [h1, h2, h3, decide_true, decide_false, if_true, Bool.false_eq_true, if_false, List.length_cons]
        simp
        omega
      · have h2 : ¬ shd m u < s + 1 := by omega
        simp only [h1, h2, h3, decide_true, decide_false, if_true, Bool.false_eq_true, if_false]
        exact ih
theorem tot_zero (m : Nat) (U : List ByteArray) : totS m U 0 = 0 := by
  unfold totS
  rw [List.filter_eq_nil_iff.2]
  · rfl
  · intro u _; simp
theorem tot_all {m : Nat} (hm : 0 < m) (U : List ByteArray) : totS m U m = U.length := by
  unfold totS
  rw [List.filter_eq_self.2]
  intro u _
  simpa using shd_lt hm u
theorem tot_le (m : Nat) (U : List ByteArray) (s : Nat) : totS m U s ≤ U.length := List.length_filter_le _ _
theorem cnt_take (m : Nat) (U : List ByteArray) (s j : Nat) (u : ByteArray) (h : U[j]? = some u) : cntS m (U.take (j + 1)) s = cntS m (U.take j) s + (if shd m u = s then 1 else 0) := by
  unfold cntS
  rw [List.take_add_one, h, Option.toList_some, List.filter_append, List.length_append]
  by_cases h1 : shd m u = s <;> simp [h1]
theorem ld_cnt (m : Nat) (es : Es) (s : Nat) (hs : s < m) : ldE m es (s : Nat) = cntS m (es.map Prod.fst) s := by
  unfold ldE cntS
  rw [if_pos (by omega), List.filter_map, List.length_map]
  rfl
theorem ld_out (m : Nat) (es : Es) (s : Int) (hs : ¬ (0 ≤ s ∧ s < m)) : ldE m es s = 0 := by unfold ldE; rw [if_neg hs]
set_option maxHeartbeats 6400000 in
theorem loads_top (a : Int) (A : Option Addr) (c : Nat) (l : List Act) (w : World) (F : Nat → Prop) (hs : Sl w F 3 A l.length (l.flatMap Act.cells)) (hf : ∀ a ∈ l, a.Fits) :
    Calls Try.prog 7 #[.int .i64 a, .slice A l.length c] w (BoolP true w) := by
  have CF := Lib.hid first21
  have CL := Lib.hid (fun w' (h : Pure w w') => light_any a A c l w' F (hs.kept h (fun _ _ _ h => h)) hf)
  obtain ⟨n, hn⟩ : ∃ n, l.length = n := ⟨_, rfl⟩
  rw [hn] at CL hs ⊢
  cases hL : lightB a l with
  | false =>
    rw [hL] at CL
    clear hs hf
    go_enter Try.func7, Try.ntmps7
    go_wp2_with fail
    refine (CF.out _).mono ?_
    rintro e w1 ⟨rfl, hk1⟩
    go_wp2_with fail
    refine (CL.out _ hk1).mono ?_
    rintro e w2 ⟨rfl, e2⟩
    obtain rfl := e2.symm
    go_wp2_with fail
    refine (CF.out _).mono ?_
    rintro e w3 ⟨rfl, hk3⟩
    go_wp2
    go_ret
    exact ⟨rfl, hk1.same hk3⟩
  | true =>
    rw [hL] at CL
    obtain ⟨ha64, hn80, hk40⟩ := light_bound hL
    rw [hn] at hn80
    have Hs := Lib.hid hs
    have Hf := Lib.hid hf
    have Hn := Lib.hid hn
    have Hk40 := Lib.hid hk40
    clear hs hf hn hk40 hL
    go_enter Try.func7, Try.ntmps7
    go_wp2_with fail
    refine (CF.out _).mono ?_
    rintro e w1 ⟨rfl, hk1⟩
    go_wp2_with fail
    refine (CL.out _ hk1).mono ?_
    rintro e w2 ⟨rfl, e2⟩
    obtain rfl := e2.symm
    have hr0 := (Run.start (F := fun _ => False) (w := w1) (Ps := []) trivial)
    have CN := run_new hr0 a ha64
    clear hr0
    obtain ⟨N, hN⟩ : ∃ N, w1.heap.size = N := ⟨_, rfl⟩
    obtain ⟨m, hm⟩ : ∃ m, mS a = m := ⟨_, rfl⟩
    rw [hN, hm] at CN
    have HN := Lib.hid hN
    have Hm := Lib.hid hm
    have CN := Lib.hid CN
    clear hN hm
    go_wp2_with fail
    refine (CN.out).mono ?_
    rintro e w3 ⟨rfl, hr3, hk3⟩
    have Hr3 := Lib.hid hr3
    have Hk1 := Lib.hid hk1
    clear hk1 hk3 hr3
    go_wp2
    go_loopw [6] (fun i wr => ∃ k : Nat, i = .int .i64 k ∧ k ≤ n ∧ ∃ es : Es, Hid (playE (l.take k) = es) ∧ Hid (Run w1 (fun _ => False) wr [rgC m N es])) (fun i _ => n - (intOf i).toNat)
    case atStart => exact ⟨0, rfl, Nat.zero_le _, [], rfl, Hr3⟩
    case round =>
      obtain ⟨k, rfl, hkn, es, hes, hr⟩ := hrel
      by_cases hlt : k < n
      · obtain ⟨bl, o, rfl, _, _, _⟩ := Hs.out.2 (by omega)
        obtain ⟨ac, hac⟩ : ∃ ac, l[k]? = some ac := ⟨_, List.getElem?_eq_getElem (by have := Hn.out; omega)⟩
        have hak := Hk40.out ac (List.mem_of_getElem? hac)
        have hsr := Hs.out.kept (Hk1.out.same hr.out.kept) (fun _ _ _ h => h)
        have hc0 := sl_at Act.cells_len hsr (by omega) hac 0 (by omega)
        have hc1 := sl_at Act.cells_len hsr (by omega) hac 1 (by omega)
        have hc2 := sl_at Act.cells_len hsr (by omega) hac 2 (by omega)
        have hes2 : playE (l.take (k + 1)) = stepA es ac := by rw [List.take_add_one, hac, Option.toList_some, playE_snoc, hes.out]
        have hel : es.length ≤ 80 := by
          have h1 := playE_len (l.take k)
          rw [hes.out, List.length_take] at h1
          omega
        have C1 := run_step (a := ac) hr.out (i := 0) (m := m) (g := N) (es := es) rfl (by omega) (by omega)
        obtain ⟨Bs, hBs⟩ : ∃ B, (stepE es ac.op ac.key ac.id).1 = B := ⟨_, rfl⟩
        obtain ⟨es2, hE2⟩ : ∃ e, stepA es ac = e := ⟨_, rfl⟩
        rw [hBs, hE2] at C1
        rw [hE2] at hes2
        have C1 := Lib.hid C1
        have Hes2 := Lib.hid hes2
        have hki : (k : Int) < (n : Int) := by omega
        obtain ⟨op, ky, idn⟩ := ac
        simp only [Act.cells] at hc0 hc1 hc2
        have hd0 : wr.cell? ⟨bl, o + k * 3, none⟩ = some (.int .i64 op) := hc0
        have hd1 : wr.cell? ⟨bl, o + k * 3 + 1, none⟩ = some (.string ky) := hc1
        have hd2 : wr.cell? ⟨bl, o + k * 3 + 2, none⟩ = some (.int .i64 idn) := hc2
        clear hc0 hc1 hc2
        clear hsr hac hBs hE2 hes2
        go_wp2_with fail
        refine (C1.out).mono ?_
        rintro e w5 ⟨rfl, hr5⟩
        have Hr5 : Hid (Run w1 (fun _ => False) w5 [rgC m N es2]) := Lib.hid hr5
        clear hr5 hd0 hd1 hd2
        go_wp2
        go_roundw
        case measure => simp [intOf]; omega
        case rel => exact ⟨k + 1, by first | rfl | go_num, by omega, es2, Hes2, Hr5⟩
      · obtain rfl : k = n := by omega
        have hel : es.length ≤ 80 := by
          have h1 := playE_len (l.take k)
          rw [hes.out, List.length_take] at h1
          omega
        have hmx : max a 1 = (m : Int) := by have := Hm.out; unfold mS at this; omega
        have hm1 : 1 ≤ m ∧ m ≤ 64 := by have := Hm.out; unfold mS at this; omega
        have hkeys := play_keys (l := l.take k) (fun x hx => Hk40.out x (List.mem_of_mem_take hx))
        rw [hes.out] at hkeys
        have CU := run_under hr.out (i := 0) (m := m) (g := N) (es := es) rfl ⟨#[]⟩ (by omega)
        rw [unE_map es] at CU
        have hld := ld_cnt m es
        obtain ⟨U, hU⟩ : ∃ U, es.map Prod.fst = U := ⟨_, rfl⟩
        rw [hU] at CU hld
        have hul : U.length = es.length := by rw [← hU, List.length_map]
        have hus : ∀ u ∈ U, u.size ≤ 1000000 := fun u hu => by
          rw [← hU, List.mem_map] at hu
          obtain ⟨e, he, rfl⟩ := hu
          have := hkeys e he
          omega
        have CU := Lib.hid CU
        have Hld := Lib.hid hld
        have Hul := Lib.hid hul
        have Hus := Lib.hid hus
        clear hU hkeys hld hul hus
        go_wp2_with fail
        refine (CU.out).mono ?_
        rintro e w5 ⟨A5, c5, rfl, hr5, _⟩
        have Hr5 := Lib.hid hr5
        obtain ⟨z, hz⟩ : ∃ z, U.length = z := ⟨_, rfl⟩
        rw [hz] at Hr5 ⊢
        have hz80 : z ≤ 80 := by have := Hul.out; omega
        have Hz := Lib.hid hz
        clear hr5 hz
        have H0 : Hid (0 = totS m U 0) := Lib.hid (tot_zero m U).symm
        go_wp2
        go_loopw [8, 9] (fun q s wr => ∃ j x : Nat, s = .int .i64 j ∧ q = .int .i64 x ∧ j ≤ m ∧ x ≤ 80 ∧ Hid (x = totS m U j) ∧ Hid (Run w1 (fun _ => False) wr [ownC 9 1 (.slice A5 z c5) z (U.map Value.string), rgC m N es])) (fun _ s _ => m - (intOf s).toNat)
        case atStart => exact ⟨0, 0, rfl, rfl, Nat.zero_le _, Nat.zero_le _, H0, Hr5⟩
        case round =>
          obtain ⟨j, x, rfl, rfl, hjm, hx80, hx, hrr⟩ := hrel
          by_cases hlt : j < m
          · have hji : (j : Int) < (m : Int) := by omega
            obtain ⟨W, hW⟩ : ∃ W, wr = W := ⟨_, rfl⟩
            rw [hW] at hrr ⊢
            clear hW
            have H1 : Hid (0 = cntS m (U.take 0) j) := Lib.hid rfl
            go_wp2
            go_loopw [10, 11] (fun y i wr => ∃ t v : Nat, i = .int .i64 t ∧ y = .int .i64 v ∧ t ≤ z ∧ v ≤ 80 ∧ Hid (v = cntS m (U.take t) j) ∧ wr = W) (fun _ i _ => z - (intOf i).toNat)
            case atStart => exact ⟨0, 0, rfl, rfl, Nat.zero_le _, Nat.zero_le _, H1, rfl⟩
            case round =>
              obtain ⟨t, v, rfl, rfl, htz, hv80, hv, hw⟩ := hrel
              obtain rfl := hw.symm
              by_cases htz' : t < z
              · obtain ⟨u, hu⟩ : ∃ u, U[t]? = some u := ⟨_, List.getElem?_eq_getElem (by have := Hz.out; omega)⟩
                have hsl := (hrr.out.own 0 rfl).sl
                obtain ⟨bu, ou, rfl, _, _, _⟩ := hsl.2 (by omega)
                have hcu := sl_one1 hsl (i := t) (x := .string u) (by rw [List.getElem?_map, hu]; rfl)
                have hct := cnt_take m U j t u hu
                have CS := f_shard u m W (Hus.out u (List.mem_of_getElem? hu)) (by omega) (by omega)
                obtain ⟨sd, hsd⟩ : ∃ sd, shd m u = sd := ⟨_, rfl⟩
                rw [hsd] at hct CS
                have CS := Lib.hid CS
                have hti : (t : Int) < (z : Int) := by omega
                have hvz : v ≤ t := by
                  rw [hv.out]
                  unfold cntS
                  refine Nat.le_trans (List.length_filter_le _ _) ?_
                  rw [List.length_take]
                  omega
                by_cases hsj : sd = j
                · subst hsj
                  rw [if_pos rfl, ← hv.out] at hct
                  have Hct := Lib.hid hct
                  clear hct hsl hu hsd
                  go_wp2_with fail
                  refine (CS.out).mono ?_
                  rintro e w6 ⟨rfl, e6⟩
                  obtain rfl := e6.symm
                  have hee : ((sd : Int) == (sd : Int)) = true := by simp
                  go_wp2
                  go_roundw
                  case measure => simp [intOf]; omega
                  case rel => exact ⟨t + 1, v + 1, by first | rfl | go_num, by first | rfl | go_num, by omega, by omega, Lib.hid Hct.out.symm, by first | rfl | trivial⟩
                · rw [if_neg hsj, Nat.add_zero, ← hv.out] at hct
                  have Hct := Lib.hid hct
                  have hne : ((sd : Int) == (j : Int)) = false := by simp; omega
                  clear hct hsl hu hsd
                  go_wp2_with fail
                  refine (CS.out).mono ?_
                  rintro e w6 ⟨rfl, e6⟩
                  obtain rfl := e6.symm
                  go_wp2
                  go_roundw
                  case measure => simp [intOf]; omega
                  case rel => exact ⟨t + 1, v, by first | rfl | go_num, rfl, by omega, by omega, Lib.hid Hct.out.symm, by first | rfl | trivial⟩
              · obtain rfl : t = z := by omega
                have hvc : v = cntS m U j := by
                  have := hv.out
                  rwa [List.take_of_length_le (by have := Hz.out; omega)] at this
                have hts := tot_succ m U j
                have htl := tot_le m U (j + 1)
                rw [← hvc, ← hx.out] at hts
                have CLd := run_load hrr.out (i := 1) (m := m) (g := N) (es := es) rfl (j : Int) (by omega)
                rw [Hld.out j hlt, ← hvc] at CLd
                have CLd := Lib.hid CLd
                have hxv : x + v ≤ 80 := by rw [hts] at htl; have := Hz.out; omega
                have Hts := Lib.hid hts
                clear hvc hts htl
                go_wp2_with fail
                refine (CLd.out).mono ?_
                rintro e w6 ⟨rfl, hk6⟩
                have Hr6 := Lib.hid (hrr.out.pure hk6)
                clear hk6
                have hvv : ((v : Int) == (v : Int)) = true := by simp
                go_wp2
                go_roundw
                case measure => simp [intOf]; omega
                case rel => exact ⟨j + 1, x + v, by first | rfl | go_num, by first | rfl | go_num, by omega, by omega, Lib.hid Hts.out.symm, Hr6⟩
          · obtain rfl : j = m := by omega
            have hxz : x = z := by
              have := hx.out
              rw [tot_all (by omega), Hz.out] at this
              exact this
            subst hxz
            have hez : es.length = x := by rw [← Hul.out, Hz.out]
            have C1 := run_len hrr.out (i := 1) (m := j) (g := N) (es := es) rfl
            rw [hez] at C1
            have C1 := Lib.hid C1
            have C2 := run_load hrr.out (i := 1) (m := j) (g := N) (es := es) rfl (-1) (by omega)
            rw [ld_out j es (-1) (by omega)] at C2
            have C2 := Lib.hid C2
            clear hez
            go_wp2_with fail
            refine (C1.out).mono ?_
            rintro e w6 ⟨rfl, e6⟩
            obtain rfl := e6.symm
            go_wp2_with fail
            refine (C2.out).mono ?_
            rintro e w7 ⟨rfl, hk7⟩
            have hr7 := hrr.out.pure hk7
            have C3 := run_load hr7 (i := 1) (m := j) (g := N) (es := es) rfl (j : Int) (by omega)
            rw [ld_out j es (j : Int) (by omega)] at C3
            have C3 := Lib.hid C3
            have Hr7 := Lib.hid hr7
            clear hr7 hk7
            go_wp2_with fail
            refine (C3.out).mono ?_
            rintro e w8 ⟨rfl, hk8⟩
            have Hp := Lib.hid ((Hk1.out.same Hr7.out.kept).same hk8)
            clear hk8
            go_wp2
            go_ret
            exact ⟨by simp, Hp.out⟩
theorem regLoads_top (a : Int) (A : Option Addr) (c : Nat) (l : List Act) (W : World) (_ : (Lit.int .i64 a).wf = true) (h0 : Sl W (fun _ => True) 3 A l.length (l.flatMap Act.cells)) (_ : l.length ≤ maxLen) (h2 : ∀ i ∈ l, i.Fits) (h3 : l.length ≤ c) (h4 : c ≤ maxLen) :
    Calls Try.prog 7 #[.int .i64 a, .slice A l.length c] W (BoolP true W) := loads_top a A c l W _ h0 h2
end Go.Proofs.Ytmpbmfahnbbbdaa
