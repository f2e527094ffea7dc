/-
  reg: RegBack walked.
-/
import Derived.Test.YtmpbmfahnbbbdaaRgLS
import Derived.LoopTactic
import Derived.Deep.QuietTactic
import Derived.BigQuiet
set_option linter.unusedSimpArgs false
set_option linter.unusedVariables false
namespace Go.Proofs.Ytmpbmfahnbbbdaa
open Go.RowKit
set_option maxRecDepth 100000

/-- A key that was not there is added: it is found, and removed again. -/
theorem back_law {sh : ByteArray → Nat} {ms : List Es} {es : Es} (h : Shd sh ms es) (k : ByteArray) (id : Int) (hid : 0 ≤ id) (hfd : ¬ 0 ≤ fdE es k) :
    fdE es k = -1 ∧ addE es k id = (true, putE es k id) ∧ fdE (putE es k id) k = id ∧ (putE es k id).length = es.length + 1 ∧ remE (putE es k id) k id = (true, es) := by
  obtain ⟨f, hf⟩ := h.get k
  have hno : has es (kb k) = false := by
    have := fd_pos h k
    simpa [hfd] using this
  have hs2 := h.put hf hid hno
  have hp := put_perm id hno
  have hv : valAt (putE es k id) (kb k) = some id := (val_iff hs2.rise k id).2 (hp.mem_iff.2 List.mem_cons_self)
  have hfd2 : fdE (putE es k id) k = id := by unfold fdE; rw [hv]; rfl
  have hde : delE (putE es k id) (kb k) = es := by
    refine rises_uniq (rises_del hs2.rise _) h.rise ?_
    exact ((del_perm hv).symm.trans hp).cons_inv
  refine ⟨?_, ?_, hfd2, hp.length_eq, ?_⟩
  · have h1 : valAt es (kb k) = none := by
      rw [has_val] at hno
      cases hx : valAt es (kb k) with
      | none => rfl
      | some v => rw [hx] at hno; cases hno
    unfold fdE; rw [h1]; rfl
  · unfold addE; rw [if_neg (by omega)]
  · unfold remE; rw [hfd2, if_neg (by omega), hde]
theorem unE_len (es : Es) (p : ByteArray) : (unE es p).length ≤ es.length := by
  unfold unE
  rw [List.length_map]
  exact List.length_filter_le _ _
theorem unE_all (es : Es) : (unE es ⟨#[]⟩).length = es.length := by
  unfold unE
  rw [List.length_map, List.filter_eq_self.2]
  intro e _
  simp [kb, Lib.hasPrefix]
set_option maxHeartbeats 6400000 in
theorem back_top (a : Int) (A : Option Addr) (c : Nat) (l : List Act) (key : ByteArray) (id other : Int) (w : World) (F : Nat → Prop) (hs : Sl w F 3 A l.length (l.flatMap Act.cells)) (hf : ∀ a ∈ l, a.Fits) (hps : key.size ≤ maxLen) :
    Calls Try.prog 5 #[.int .i64 a, .slice A l.length c, .string key, .int .i64 id, .int .i64 other] w (BoolP true w) := by
  have CF := Lib.hid first21
  have CL := Lib.hid (fun w' (h : Pure w w') => light_any a A c l w' F (hs.kept h (fun _ _ _ h => h)) hf)
  obtain ⟨n, hn⟩ : ∃ n, l.length = n := ⟨_, rfl⟩
  rw [hn] at CL hs ⊢
  unfold maxLen at hps
  cases hL : lightB a l with
  | false =>
    rw [hL] at CL
    clear hs hf
    go_enter Try.func5, Try.ntmps5
    go_wp2_with fail
    refine (CF.out _).mono ?_
    rintro e w1 ⟨rfl, hk1⟩
    go_wp2_with fail
    refine (CL.out _ hk1).mono ?_
    rintro e w2 ⟨rfl, e2⟩
    obtain rfl := e2.symm
    go_wp2_with fail
    refine (CF.out _).mono ?_
    rintro e w3 ⟨rfl, hk3⟩
    go_wp2
    go_ret
    exact ⟨rfl, hk1.same hk3⟩
  | true =>
    rw [hL] at CL
    obtain ⟨ha64, hn80, hk40⟩ := light_bound hL
    rw [hn] at hn80
    by_cases hp40 : key.size ≤ 40
    · have hp' : ((40 : Int) < (key.size : Int)) = False := by simp; omega
      by_cases hid : id < 0
      · have hid' : (id < 0) = True := by simp; omega
        clear hs hf
        go_enter Try.func5, Try.ntmps5
        go_wp2_with fail
        refine (CF.out _).mono ?_
        rintro e w1 ⟨rfl, hk1⟩
        go_wp2_with fail
        refine (CL.out _ hk1).mono ?_
        rintro e w2 ⟨rfl, e2⟩
        obtain rfl := e2.symm
        go_wp2_with fail
        refine (CF.out _).mono ?_
        rintro e w3 ⟨rfl, hk3⟩
        go_wp2
        go_ret
        exact ⟨rfl, hk1.same hk3⟩
      · have hid' : (id < 0) = False := by simp; omega
        by_cases hoi : other = id
        · have hoi' : (other == id) = true := by simpa using hoi
          subst hoi
          clear hs hf
          go_enter Try.func5, Try.ntmps5
          go_wp2_with fail
          refine (CF.out _).mono ?_
          rintro e w1 ⟨rfl, hk1⟩
          go_wp2_with fail
          refine (CL.out _ hk1).mono ?_
          rintro e w2 ⟨rfl, e2⟩
          obtain rfl := e2.symm
          go_wp2_with fail
          refine (CF.out _).mono ?_
          rintro e w3 ⟨rfl, hk3⟩
          go_wp2
          go_ret
          exact ⟨rfl, hk1.same hk3⟩
        · have hoi' : (other == id) = false := by simpa using hoi
          have Hs := Lib.hid hs
          have Hf := Lib.hid hf
          have Hn := Lib.hid hn
          have Hk40 := Lib.hid hk40
          clear hs hf hn hk40 hL
          go_enter Try.func5, Try.ntmps5
          go_wp2_with fail
          refine (CF.out _).mono ?_
          rintro e w1 ⟨rfl, hk1⟩
          go_wp2_with fail
          refine (CL.out _ hk1).mono ?_
          rintro e w2 ⟨rfl, e2⟩
          obtain rfl := e2.symm
          have hr0 := (Run.start (F := fun _ => False) (w := w1) (Ps := []) trivial)
          have CN := run_new hr0 a ha64
          clear hr0
          obtain ⟨N, hN⟩ : ∃ N, w1.heap.size = N := ⟨_, rfl⟩
          obtain ⟨m, hm⟩ : ∃ m, mS a = m := ⟨_, rfl⟩
          rw [hN, hm] at CN
          have HN := Lib.hid hN
          have Hm := Lib.hid hm
          have CN := Lib.hid CN
          clear hN hm
          go_wp2_with fail
          refine (CN.out).mono ?_
          rintro e w3 ⟨rfl, hr3, hk3⟩
          have Hr3 := Lib.hid hr3
          have Hk1 := Lib.hid hk1
          clear hk1 hk3 hr3
          go_wp2
          go_loopw [12] (fun i wr => ∃ k : Nat, i = .int .i64 k ∧ k ≤ n ∧ ∃ es : Es, Hid (playE (l.take k) = es) ∧ Hid (Run w1 (fun _ => False) wr [rgC m N es])) (fun i _ => n - (intOf i).toNat)
          case atStart => exact ⟨0, rfl, Nat.zero_le _, [], rfl, Hr3⟩
          case round =>
            obtain ⟨k, rfl, hkn, es, hes, hr⟩ := hrel
            by_cases hlt : k < n
            · obtain ⟨bl, o, rfl, _, _, _⟩ := Hs.out.2 (by omega)
              obtain ⟨ac, hac⟩ : ∃ ac, l[k]? = some ac := ⟨_, List.getElem?_eq_getElem (by have := Hn.out; omega)⟩
              have hak := Hk40.out ac (List.mem_of_getElem? hac)
              have hsr := Hs.out.kept (Hk1.out.same hr.out.kept) (fun _ _ _ h => h)
              have hc0 := sl_at Act.cells_len hsr (by omega) hac 0 (by omega)
              have hc1 := sl_at Act.cells_len hsr (by omega) hac 1 (by omega)
              have hc2 := sl_at Act.cells_len hsr (by omega) hac 2 (by omega)
              have hes2 : playE (l.take (k + 1)) = stepA es ac := by rw [List.take_add_one, hac, Option.toList_some, playE_snoc, hes.out]
              have hel : es.length ≤ 80 := by
                have h1 := playE_len (l.take k)
                rw [hes.out, List.length_take] at h1
                omega
              have C1 := run_step (a := ac) hr.out (i := 0) (m := m) (g := N) (es := es) rfl (by omega) (by omega)
              obtain ⟨Bs, hBs⟩ : ∃ B, (stepE es ac.op ac.key ac.id).1 = B := ⟨_, rfl⟩
              obtain ⟨es2, hE2⟩ : ∃ e, stepA es ac = e := ⟨_, rfl⟩
              rw [hBs, hE2] at C1
              rw [hE2] at hes2
              have C1 := Lib.hid C1
              have Hes2 := Lib.hid hes2
              have hki : (k : Int) < (n : Int) := by omega
              obtain ⟨op, ky, idn⟩ := ac
              simp only [Act.cells] at hc0 hc1 hc2
              have hd0 : wr.cell? ⟨bl, o + k * 3, none⟩ = some (.int .i64 op) := hc0
              have hd1 : wr.cell? ⟨bl, o + k * 3 + 1, none⟩ = some (.string ky) := hc1
              have hd2 : wr.cell? ⟨bl, o + k * 3 + 2, none⟩ = some (.int .i64 idn) := hc2
              clear hc0 hc1 hc2
              clear hsr hac hBs hE2 hes2
              go_wp2_with fail
              refine (C1.out).mono ?_
              rintro e w5 ⟨rfl, hr5⟩
              have Hr5 : Hid (Run w1 (fun _ => False) w5 [rgC m N es2]) := Lib.hid hr5
              clear hr5 hd0 hd1 hd2
              go_wp2
              go_roundw
              case measure => simp [intOf]; omega
              case rel => exact ⟨k + 1, by first | rfl | go_num, by omega, es2, Hes2, Hr5⟩
            · obtain rfl : k = n := by omega
              have hel : es.length ≤ 80 := by
                have h1 := playE_len (l.take k)
                rw [hes.out, List.length_take] at h1
                omega
              have hkz : key.size ≤ 1000000 := by omega
              have CU := run_under hr.out (i := 0) (m := m) (g := N) (es := es) rfl ⟨#[]⟩ (by omega)
              obtain ⟨U, hU⟩ : ∃ U, unE es ⟨#[]⟩ = U := ⟨_, rfl⟩
              have hul := unE_all es
              rw [hU] at CU hul
              have HU := Lib.hid hU
              have Hul := Lib.hid hul
              have CU := Lib.hid CU
              have hsh : ∃ ms, Shd (shd m) ms es := by
                obtain ⟨ms, _, _, _, h⟩ := hr.out.get (P := rgC m N es) 0 rfl
                exact ⟨ms, h.shd⟩
              clear hU hul
              go_wp2_with fail
              refine (CU.out).mono ?_
              rintro e w5 ⟨A5, c5, rfl, hr5, _⟩
              obtain ⟨P0, hP0⟩ : ∃ P, ownC 9 1 (.slice A5 U.length c5) U.length (U.map Value.string) = P := ⟨_, rfl⟩
              rw [hP0] at hr5
              have HP0 := Lib.hid hP0
              clear hP0
              have C1 := run_find hr5 (i := 1) (m := m) (g := N) (es := es) rfl key hkz
              by_cases hfd : 0 ≤ fdE es key
              · have he : addE es key id = (false, es) := by unfold addE; rw [if_pos (.inr hfd)]
                obtain ⟨fd, hfdE⟩ : ∃ x, fdE es key = x := ⟨_, rfl⟩
                rw [hfdE] at C1 hfd
                have C1 := Lib.hid C1
                clear hfdE
                go_wp2_with fail
                refine (C1.out).mono ?_
                rintro e w6 ⟨rfl, hk6⟩
                have hr6 := hr5.pure hk6
                have C2 := run_add hr6 (i := 1) (m := m) (g := N) (es := es) rfl key id hkz (by omega)
                rw [he] at C2
                have C2 := Lib.hid C2
                clear he
                go_wp2_with fail
                refine (C2.out).mono ?_
                rintro e w7 ⟨rfl, hr7⟩
                have hr7 : Run w1 (fun _ => False) w7 [P0, rgC m N es] := hr7
                have C3 := run_under hr7 (i := 1) (m := m) (g := N) (es := es) rfl ⟨#[]⟩ (by omega)
                rw [HU.out] at C3
                have C3 := Lib.hid C3
                go_wp2_with fail
                refine (C3.out).mono ?_
                rintro e w8 ⟨A8, c8, rfl, hr8, _⟩
                rw [← HP0.out] at hr8
                have hul80 : U.length ≤ 80 := by have := Hul.out; omega
                have CT := texts_any A8 U.length c8 U A5 U.length c5 U w8 _ _ (hr8.own 0 rfl).sl (hr8.own 1 rfl).sl (by omega) (by omega)
                rw [show decide (U = U) = true from by simp] at CT
                have CT := Lib.hid CT
                have Hp8 := Lib.hid (Hk1.out.same hr8.kept)
                clear hr5 hr6 hr7 hr8 hk6
                go_wp2_with fail
                refine (CT.out).mono ?_
                rintro e w9 ⟨rfl, hk9⟩
                go_wp2
                go_ret
                exact ⟨rfl, Hp8.out.same hk9⟩
              · obtain ⟨ms, hsh⟩ := hsh
                obtain ⟨q1, q2, q3, q4, q5⟩ := back_law hsh key id (by omega) hfd
                obtain ⟨es2, hE2⟩ : ∃ x, putE es key id = x := ⟨_, rfl⟩
                rw [hE2] at q2 q3 q4 q5
                have q6 : remE es key id = (false, es) := by unfold remE; rw [q1, if_pos (by omega)]
                have q7 : addE es key (-1) = (false, es) := by unfold addE; rw [if_pos (.inl (by omega))]
                have q8 : addE es2 key other = (false, es2) := by unfold addE; rw [q3, if_pos (by omega)]
                have q9 : remE es2 key other = (false, es2) := by unfold remE; rw [q3, if_pos (by omega)]
                rw [q1] at C1
                have C1 := Lib.hid C1
                have Q1 := Lib.hid q1
                have Q2 := Lib.hid q2
                have Q3 := Lib.hid q3
                have Q4 := Lib.hid q4
                have Q5 := Lib.hid q5
                have Q6 := Lib.hid q6
                have Q7 := Lib.hid q7
                have Q8 := Lib.hid q8
                have Q9 := Lib.hid q9
                have hee : (id == id) = true := by simp
                have hel2 : es2.length ≤ 81 := by omega
                clear q1 q2 q3 q4 q5 q6 q7 q8 q9 hE2 hfd
                go_wp2_with fail
                refine (C1.out).mono ?_
                rintro e w6 ⟨rfl, hk6⟩
                have hr6 := hr5.pure hk6
                have C2 := run_rem hr6 (i := 1) (m := m) (g := N) (es := es) rfl key id hkz
                rw [Q6.out] at C2
                have C2 := Lib.hid C2
                clear hr5 hk6
                go_wp2_with fail
                refine (C2.out).mono ?_
                rintro e w7 ⟨rfl, hr7⟩
                have hr7 : Run w1 (fun _ => False) w7 [P0, rgC m N es] := hr7
                have C3 := run_add hr7 (i := 1) (m := m) (g := N) (es := es) rfl key (-1) hkz (by omega)
                rw [Q7.out] at C3
                have C3 := Lib.hid C3
                clear hr6 
                go_wp2_with fail
                refine (C3.out).mono ?_
                rintro e w8 ⟨rfl, hr8⟩
                have hr8 : Run w1 (fun _ => False) w8 [P0, rgC m N es] := hr8
                have C4 := run_add hr8 (i := 1) (m := m) (g := N) (es := es) rfl key id hkz (by omega)
                rw [Q2.out] at C4
                have C4 := Lib.hid C4
                clear hr7
                go_wp2_with fail
                refine (C4.out).mono ?_
                rintro e w9 ⟨rfl, hr9⟩
                have hr9 : Run w1 (fun _ => False) w9 [P0, rgC m N es2] := hr9
                have C5 := run_find hr9 (i := 1) (m := m) (g := N) (es := es2) rfl key hkz
                rw [Q3.out] at C5
                have C5 := Lib.hid C5
                clear hr8
                go_wp2_with fail
                refine (C5.out).mono ?_
                rintro e w10 ⟨rfl, hk10⟩
                have hr10 := hr9.pure hk10
                have C6 := run_add hr10 (i := 1) (m := m) (g := N) (es := es2) rfl key other hkz (by omega)
                rw [Q8.out] at C6
                have C6 := Lib.hid C6
                clear hr9 hk10
                go_wp2_with fail
                refine (C6.out).mono ?_
                rintro e w11 ⟨rfl, hr11⟩
                have hr11 : Run w1 (fun _ => False) w11 [P0, rgC m N es2] := hr11
                have C7 := run_rem hr11 (i := 1) (m := m) (g := N) (es := es2) rfl key other hkz
                rw [Q9.out] at C7
                have C7 := Lib.hid C7
                clear hr10
                go_wp2_with fail
                refine (C7.out).mono ?_
                rintro e w12 ⟨rfl, hr12⟩
                have hr12 : Run w1 (fun _ => False) w12 [P0, rgC m N es2] := hr12
                have C8 := run_find hr12 (i := 1) (m := m) (g := N) (es := es2) rfl key hkz
                rw [Q3.out] at C8
                have C8 := Lib.hid C8
                clear hr11
                go_wp2_with fail
                refine (C8.out).mono ?_
                rintro e w13 ⟨rfl, hk13⟩
                have hr13 := hr12.pure hk13
                have C9 := run_len hr13 (i := 1) (m := m) (g := N) (es := es2) rfl
                rw [Q4.out, ← Hul.out] at C9
                have C9 := Lib.hid C9
                clear hr12 hk13
                go_wp2_with fail
                refine (C9.out).mono ?_
                rintro e w14 ⟨rfl, e14⟩
                obtain rfl := e14.symm
                have C10 := run_rem hr13 (i := 1) (m := m) (g := N) (es := es2) rfl key id hkz
                rw [Q5.out] at C10
                have C10 := Lib.hid C10
                have hqq : (((U.length + 1 : Nat) : Int) == ((U.length : Nat) : Int) + 1) = true := by simp
                have hul80 : U.length ≤ 80 := by have := Hul.out; omega
                go_wp2_with fail
                refine (C10.out).mono ?_
                rintro e w15 ⟨rfl, hr15⟩
                have hr15 : Run w1 (fun _ => False) w15 [P0, rgC m N es] := hr15
                have C11 := run_find hr15 (i := 1) (m := m) (g := N) (es := es) rfl key hkz
                rw [Q1.out] at C11
                have C11 := Lib.hid C11
                clear hr13
                go_wp2_with fail
                refine (C11.out).mono ?_
                rintro e w16 ⟨rfl, hk16⟩
                have hr16 := hr15.pure hk16
                have C12 := run_under hr16 (i := 1) (m := m) (g := N) (es := es) rfl ⟨#[]⟩ (by omega)
                rw [HU.out] at C12
                have C12 := Lib.hid C12
                clear hr15 hk16
                go_wp2_with fail
                refine (C12.out).mono ?_
                rintro e w17 ⟨A8, c8, rfl, hr17, _⟩
                rw [← HP0.out] at hr17
                have CT := texts_any A8 U.length c8 U A5 U.length c5 U w17 _ _ (hr17.own 0 rfl).sl (hr17.own 1 rfl).sl (by omega) (by omega)
                rw [show decide (U = U) = true from by simp] at CT
                have CT := Lib.hid CT
                have Hp8 := Lib.hid (Hk1.out.same hr17.kept)
                clear hr16 hr17
                go_wp2_with fail
                refine (CT.out).mono ?_
                rintro e w18 ⟨rfl, hk18⟩
                go_wp2
                go_ret
                exact ⟨rfl, Hp8.out.same hk18⟩
    · have hp' : ((40 : Int) < (key.size : Int)) = True := by simp; omega
      clear hs hf
      go_enter Try.func5, Try.ntmps5
      go_wp2_with fail
      refine (CF.out _).mono ?_
      rintro e w1 ⟨rfl, hk1⟩
      go_wp2_with fail
      refine (CL.out _ hk1).mono ?_
      rintro e w2 ⟨rfl, e2⟩
      obtain rfl := e2.symm
      go_wp2_with fail
      refine (CF.out _).mono ?_
      rintro e w3 ⟨rfl, hk3⟩
      go_wp2
      go_ret
      exact ⟨rfl, hk1.same hk3⟩
theorem regBack_top (a : Int) (A : Option Addr) (c : Nat) (l : List Act) (key : ByteArray) (id other : Int) (W : World) (_ : (Lit.int .i64 a).wf = true) (h0 : Sl W (fun _ => True) 3 A l.length (l.flatMap Act.cells)) (_ : l.length ≤ maxLen) (h2 : ∀ i ∈ l, i.Fits) (h3 : l.length ≤ c) (h4 : c ≤ maxLen) (hp : key.size ≤ maxLen) (_ : (Lit.int .i64 id).wf = true) (_ : (Lit.int .i64 other).wf = true) :
    Calls Try.prog 5 #[.int .i64 a, .slice A l.length c, .string key, .int .i64 id, .int .i64 other] W (BoolP true W) := back_top a A c l key id other W _ h0 h2 hp
end Go.Proofs.Ytmpbmfahnbbbdaa
