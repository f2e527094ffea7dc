/-
  RespBack: the walk.
-/
import Derived.Test.YtlmfpadlgdmflaaRsF
set_option linter.unusedSimpArgs false
set_option linter.unusedVariables false
namespace Go.Proofs.Ytlmfpadlgdmflaa
open Go.RowKit
set_option maxRecDepth 100000

set_option maxHeartbeats 1600000 in
theorem back_far (r : Rs) (A : Option Addr) (c : Nat) (kind : Int) (B : Option Addr) (n cb : Nat) (w : World) (F : Nat → Prop) (hI : Sl w F 4 A r.items.length (itc r.items)) (h : lightR r = false ∨ 1500 < n) :
    Calls Try.prog 7 #[.agg (rsa r A c), .int .i64 kind, .slice B n cb] w (BoolP true w) := by
  have hb := Blk.new w 40 (rsa r A c)
  have hk := (Kept.refl (fun _ => False) w).alloc (.cells (rsa r A c) 40)
  have hI0 := hI.kept hk (fun _ _ _ h => h)
  have hl := fun w' hI => light_any r A c w' F hI
  have Hf := Lib.hid first13
  clear hI
  cases hL : lightR r with
  | false =>
    rw [hL] at hl
    unfold rsa at *
    have Hl := Lib.hid hl
    clear hl h hL
    go_enter Try.func7, Try.ntmps7
    go_wp2_with fail
    refine (Hf.out _).mono ?_
    rintro e w1 ⟨rfl, hk1⟩
    have hc := (hb.kept hk1 (fun h => h)).cell
    go_wp2_with fail
    refine (Hl.out _ (hI0.kept hk1 (fun _ _ _ h => h))).mono ?_
    rintro e w2 ⟨rfl, hk2⟩
    go_wp2_with fail
    refine (Hf.out _).mono ?_
    rintro e w3 ⟨rfl, hk3⟩
    go_wp2_with fail
    go_ret
    exact ⟨rfl, ((hk.same hk1).same hk2).same hk3⟩
  | true =>
    rw [hL] at hl
    have h2 : (1500 : Int) < (n : Int) := by rcases h with h | h; rw [hL] at h; cases h; omega
    unfold rsa at *
    have Hl := Lib.hid hl
    clear hl h hL
    go_enter Try.func7, Try.ntmps7
    go_wp2_with fail
    refine (Hf.out _).mono ?_
    rintro e w1 ⟨rfl, hk1⟩
    have hc := (hb.kept hk1 (fun h => h)).cell
    go_wp2_with fail
    refine (Hl.out _ (hI0.kept hk1 (fun _ _ _ h => h))).mono ?_
    rintro e w2 ⟨rfl, hk2⟩
    go_wp2_with fail
    refine (Hf.out _).mono ?_
    rintro e w3 ⟨rfl, hk3⟩
    go_wp2_with fail
    go_ret
    exact ⟨rfl, ((hk.same hk1).same hk2).same hk3⟩



set_option maxHeartbeats 3200000 in
theorem back_near (r : Rs) (A : Option Addr) (c : Nat) (kind : Int) (B : Option Addr) (n cb : Nat) (l : List UInt8) (w : World) (F G : Nat → Prop) (hI : Sl w F 4 A r.items.length (itc r.items)) (hl0 : Sl w G 1 B n (bvs l)) (hr : r.Wf) (hL : lightR r = true) (hn : n ≤ 1500) :
    Calls Try.prog 7 #[.agg (rsa r A c), .int .i64 kind, .slice B n cb] w (BoolP true w) := by
  have hb := Blk.new w 40 (rsa r A c)
  have hk : Pure w (w.alloc (.cells (rsa r A c) 40)) := (Kept.refl (fun _ => False) w).alloc (.cells (rsa r A c) 40)
  have hI0 := hI.kept hk (fun _ _ _ h => h)
  have hl := fun w' hI => light_any r A c w' F hI
  rw [hL] at hl
  have Hl := Lib.hid hl
  have Hf := Lib.hid first13
  have hni : r.items.length ≤ 120 := (of_decide_eq_true hL).2.1
  have HI := Lib.hid hI
  obtain ⟨⟨D, g⟩, hdec⟩ : ∃ p, decodeR kind l = p := ⟨_, rfl⟩
  have hD := fun w' F hl => decode_all kind B n cb l w' F hl (by omega)
  unfold DecP at hD
  rw [hdec] at hD
  have HD := Lib.hid hD
  have hfD := decode_fits kind l
  rw [hdec] at hfD
  obtain ⟨V, hV⟩ : ∃ V, checkR r = V := ⟨_, rfl⟩
  have hE2 := fun w' hI => enc_any r A c w' hI hr.fits
  have hC2 := fun w' hI => check_any r A c w' hI hr.fits
  unfold EncP at hE2
  unfold CheckP at hC2
  rw [hV] at hE2 hC2
  have HE2 := Lib.hid hE2
  have HC2 := Lib.hid hC2
  have HS := Lib.hid (fun w' F' G' A7 c7 A c h1 h2 => same_any r r A7 c7 A c w' F' G' h1 h2 (by omega) (by omega))
  rw [sameR_self] at HS
  have h128 : decide (n ≤ 1500) = true := decide_eq_true hn
  have hn' : (n : Int) ≤ 1500 := by omega
  clear hl hI hD hE2 hC2 h128
  by_cases hg : g = 0
  · subst hg
    have hkr : 128 ≤ kind ∧ kind ≤ 139 := by
      by_cases hkk : kind < 128 ∨ 139 < kind
      · have : decodeR kind l = (zeroR, 12) := by unfold decodeR; rw [if_pos hkk]
        rw [this] at hdec
        simp at hdec
      · omega
    obtain ⟨d1, d2, d3⟩ := decode_canon hkr.1 hkr.2 (by rw [hdec])
    rw [hdec] at d1 d2 d3
    simp only at d1 d2 d3
    have hE1 := fun w' A c hI => enc_any D A c w' hI hfD
    unfold EncP at hE1
    have he : encR D = l := by unfold encR; rw [if_pos d1, d2]
    rw [he, d1] at hE1
    have HE1 := Lib.hid hE1
    have hkq : (D.kind != kind - 128) = false := by rw [d3]; simp
    obtain ⟨hk0, hk1⟩ := hkr
    clear d1 d2 d3 hE1 he hfD hdec
    by_cases hv0 : V = 0
    · subst hv0
      have HLL : Hid ((lay r).length ≤ 20000) := (check_zero hV).2.2.2.2
      have hkk : 0 ≤ r.kind ∧ r.kind ≤ 11 := ⟨(check_zero hV).1.1, (check_zero hV).1.2.1⟩
      have hD2 := fun w' F A n c hl hn => decode_all (128 + r.kind) A n c (lay r) w' F hl hn
      unfold DecP at hD2
      rw [decode_lay hV (fun i hi => (hr.ver i hi).2) hr.token.2 hr.version.2] at hD2
      have HD2 := Lib.hid hD2
      rw [show encR r = lay r from by unfold encR; rw [if_pos hV]] at HE2
      clear hD2 hV
      unfold rsa at *
      go_enter Try.func7, Try.ntmps7
      go_wp2_with fail
      refine (Hf.out _).mono ?_
      rintro e w1 ⟨rfl, hk1⟩
      replace hb := hb.kept hk1 (fun h => h)
      have hc := hb.cell
      go_wp2_with fail
      refine (Hl.out _ (hI0.kept hk1 (fun _ _ _ h => h))).mono ?_
      rintro e w2 ⟨rfl, hk2⟩
      replace hb := hb.kept hk2 (fun h => h)
      replace hk := (hk.same hk1).same hk2
      have hI2 := hI0.kept (hk1.same hk2) (fun _ _ _ h => h)
      clear hk1 hk2 hc hI0
      go_wp2_with fail
      refine (HD.out _ _ (hl0.kept hk (fun _ _ _ h => h))).mono ?_
      rintro e w3 ⟨A3, c3, rfl, hs3, hk3⟩
      go_wp2_with fail
      have hbD := (Blk.new w3 40 (rsa D A3 c3))
      unfold rsa at hbD
      replace hb := (hb.kept hk3 (fun h => h)).alloc (.cells (rsa D A3 c3) 40)
      replace hI2 := (hI2.kept hk3 (fun _ _ _ h => h)).alloc (.cells (rsa D A3 c3) 40)
      have hl3 := ((hl0.kept hk (fun _ _ _ h => h)).kept hk3 (fun _ _ _ h => h)).alloc (.cells (rsa D A3 c3) 40)
      replace hs3 := hs3.alloc (.cells (rsa D A3 c3) 40)
      replace hk := (hk.same hk3).alloc (.cells (rsa D A3 c3) 40)
      unfold rsa at hb hI2 hl3 hs3 hk
      refine (HE1.out _ A3 c3 (hs3.imp fun _ _ _ => trivial)).mono ?_
      rintro e w4 ⟨A4, n4, c4, rfl, hs4, _, _, hk4⟩
      have hcv1 := run_str (P := Try.prog) hs4 22 9 5 c4 Try.underlying22 Try.underlying5 Try.underlying9
      have hcv2 := run_str (P := Try.prog) (hl3.kept hk4 (fun _ _ _ h => h)) 22 9 5 cb Try.underlying22 Try.underlying5 Try.underlying9
      have hcD := (hbD.kept hk4 (fun h => h)).cell
      replace hb := hb.kept hk4 (fun h => h)
      replace hI2 := hI2.kept hk4 (fun _ _ _ h => h)
      replace hk := hk.same hk4
      clear hbD hl3 hs3 hk3 hs4 hk4
      have hc := hb.cell
      go_wp2_with fail
      refine (HE2.out _ (hI2.imp fun _ _ _ => trivial)).mono ?_
      rintro e w6 ⟨A6, n6, c6, rfl, hs6, hn6, hc6, hk6⟩
      clear hc
      have h6 : n6 = (lay r).length := by have := hs6.1; rw [bvs_length] at this; omega
      have h6b : (n6 : Int) ≤ 20000 := by have := HLL.out; omega
      replace hb := hb.kept hk6 (fun h => h)
      replace hI2 := hI2.kept hk6 (fun _ _ _ h => h)
      replace hk := hk.same hk6
      have H6 := Lib.hid h6
      clear h6
      have hc := hb.cell
      go_wp2_with fail
      refine (HD2.out _ _ A6 n6 c6 hs6 (by omega)).mono ?_
      rintro e w7 ⟨A7, c7, rfl, hs7, hk7⟩
      clear hc
      replace hb := (hb.kept hk7 (fun h => h)).alloc (.cells (rsa r A7 c7) 40)
      replace hI2 := (hI2.kept hk7 (fun _ _ _ h => h)).alloc (.cells (rsa r A7 c7) 40)
      replace hs7 := hs7.alloc (.cells (rsa r A7 c7) 40)
      replace hk := (hk.same hk7).alloc (.cells (rsa r A7 c7) 40)
      unfold rsa at hb hI2 hs7 hk
      have hc := hb.cell
      go_wp2_with fail
      refine (HS.out _ _ _ A7 c7 A c hs7 hI2).mono ?_
      rintro e w8 ⟨rfl, hk8⟩
      go_wp2_with fail
      go_ret
      exact ⟨rfl, hk.same hk8⟩
    · rw [show encR r = [] from by unfold encR; rw [if_neg (by omega)]] at HE2
      have hv1 : (V != 0) = true := by simpa using hv0
      clear hV hv0
      unfold rsa at *
      go_enter Try.func7, Try.ntmps7
      go_wp2_with fail
      refine (Hf.out _).mono ?_
      rintro e w1 ⟨rfl, hk1⟩
      replace hb := hb.kept hk1 (fun h => h)
      have hc := hb.cell
      go_wp2_with fail
      refine (Hl.out _ (hI0.kept hk1 (fun _ _ _ h => h))).mono ?_
      rintro e w2 ⟨rfl, hk2⟩
      replace hb := hb.kept hk2 (fun h => h)
      replace hk := (hk.same hk1).same hk2
      have hI2 := hI0.kept (hk1.same hk2) (fun _ _ _ h => h)
      clear hk1 hk2 hc hI0
      go_wp2_with fail
      refine (HD.out _ _ (hl0.kept hk (fun _ _ _ h => h))).mono ?_
      rintro e w3 ⟨A3, c3, rfl, hs3, hk3⟩
      go_wp2_with fail
      have hbD := (Blk.new w3 40 (rsa D A3 c3))
      unfold rsa at hbD
      replace hb := (hb.kept hk3 (fun h => h)).alloc (.cells (rsa D A3 c3) 40)
      replace hI2 := (hI2.kept hk3 (fun _ _ _ h => h)).alloc (.cells (rsa D A3 c3) 40)
      have hl3 := ((hl0.kept hk (fun _ _ _ h => h)).kept hk3 (fun _ _ _ h => h)).alloc (.cells (rsa D A3 c3) 40)
      replace hs3 := hs3.alloc (.cells (rsa D A3 c3) 40)
      replace hk := (hk.same hk3).alloc (.cells (rsa D A3 c3) 40)
      unfold rsa at hb hI2 hl3 hs3 hk
      refine (HE1.out _ A3 c3 (hs3.imp fun _ _ _ => trivial)).mono ?_
      rintro e w4 ⟨A4, n4, c4, rfl, hs4, _, _, hk4⟩
      have hcv1 := run_str (P := Try.prog) hs4 22 9 5 c4 Try.underlying22 Try.underlying5 Try.underlying9
      have hcv2 := run_str (P := Try.prog) (hl3.kept hk4 (fun _ _ _ h => h)) 22 9 5 cb Try.underlying22 Try.underlying5 Try.underlying9
      have hcD := (hbD.kept hk4 (fun h => h)).cell
      replace hb := hb.kept hk4 (fun h => h)
      replace hI2 := hI2.kept hk4 (fun _ _ _ h => h)
      replace hk := hk.same hk4
      clear hbD hl3 hs3 hk3 hs4 hk4
      have hc := hb.cell
      go_wp2_with fail
      refine (HE2.out _ (hI2.imp fun _ _ _ => trivial)).mono ?_
      rintro e w6 ⟨A6, n6, c6, rfl, hs6, hn6, hc6, hk6⟩
      clear hc
      obtain rfl : n6 = 0 := by have := hs6.1; rw [bvs_length] at this; simp at this; omega
      replace hb := hb.kept hk6 (fun h => h)
      replace hI2 := hI2.kept hk6 (fun _ _ _ h => h)
      replace hk := hk.same hk6
      have hc := hb.cell
      go_wp2_with fail
      refine (HC2.out _ (hI2.imp fun _ _ _ => trivial)).mono ?_
      rintro e w7 ⟨rfl, hk7⟩
      go_wp2_with fail
      go_ret
      exact ⟨rfl, hk.same hk7⟩
  · have hz : D = zeroR := by
      have := decode_zero (kind := kind) (l := l) (by rw [hdec]; exact hg)
      rw [hdec] at this
      exact this
    subst hz
    have hg1 : (g == 0) = false := by simpa using hg
    have HS0 := Lib.hid (fun w' F' G' A7 c7 A c h1 h2 => same_any zeroR zeroR A7 c7 A c w' F' G' h1 h2 (by decide) (by decide))
    rw [sameR_self] at HS0
    simp only [rsa, zeroR, List.length_nil] at HS0 HD
    clear hg hdec hfD
    by_cases hv0 : V = 0
    · subst hv0
      have HLL : Hid ((lay r).length ≤ 20000) := (check_zero hV).2.2.2.2
      have hkk : 0 ≤ r.kind ∧ r.kind ≤ 11 := ⟨(check_zero hV).1.1, (check_zero hV).1.2.1⟩
      have hD2 := fun w' F A n c hl hn => decode_all (128 + r.kind) A n c (lay r) w' F hl hn
      unfold DecP at hD2
      rw [decode_lay hV (fun i hi => (hr.ver i hi).2) hr.token.2 hr.version.2] at hD2
      have HD2 := Lib.hid hD2
      rw [show encR r = lay r from by unfold encR; rw [if_pos hV]] at HE2
      clear hD2 hV
      unfold rsa at *
      go_enter Try.func7, Try.ntmps7
      go_wp2_with fail
      refine (Hf.out _).mono ?_
      rintro e w1 ⟨rfl, hk1⟩
      replace hb := hb.kept hk1 (fun h => h)
      have hc := hb.cell
      go_wp2_with fail
      refine (Hl.out _ (hI0.kept hk1 (fun _ _ _ h => h))).mono ?_
      rintro e w2 ⟨rfl, hk2⟩
      replace hb := hb.kept hk2 (fun h => h)
      replace hk := (hk.same hk1).same hk2
      have hI2 := hI0.kept (hk1.same hk2) (fun _ _ _ h => h)
      clear hk1 hk2 hc hI0
      go_wp2_with fail
      refine (HD.out _ _ (hl0.kept hk (fun _ _ _ h => h))).mono ?_
      rintro e w3 ⟨A3, c3, rfl, hs3, hk3⟩
      go_wp2_with fail
      replace hb := (hb.kept hk3 (fun h => h)).alloc (.cells (rsa zeroR A3 c3) 40)
      replace hI2 := (hI2.kept hk3 (fun _ _ _ h => h)).alloc (.cells (rsa zeroR A3 c3) 40)
      replace hs3 := hs3.alloc (.cells (rsa zeroR A3 c3) 40)
      replace hk := (hk.same hk3).alloc (.cells (rsa zeroR A3 c3) 40)
      simp only [rsa, zeroR, List.length_nil] at hb hI2 hs3 hk
      refine (HS0.out _ _ _ A3 c3 none 0 hs3 (Sl.nil _ (fun _ => True) _ _)).mono ?_
      rintro e w4 ⟨rfl, hk4⟩
      replace hb := hb.kept hk4 (fun h => h)
      replace hI2 := hI2.kept hk4 (fun _ _ _ h => h)
      replace hk := hk.same hk4
      clear hs3 hk3 hk4
      have hc := hb.cell
      go_wp2_with fail
      refine (HE2.out _ (hI2.imp fun _ _ _ => trivial)).mono ?_
      rintro e w6 ⟨A6, n6, c6, rfl, hs6, hn6, hc6, hk6⟩
      clear hc
      have h6 : n6 = (lay r).length := by have := hs6.1; rw [bvs_length] at this; omega
      have h6b : (n6 : Int) ≤ 20000 := by have := HLL.out; omega
      replace hb := hb.kept hk6 (fun h => h)
      replace hI2 := hI2.kept hk6 (fun _ _ _ h => h)
      replace hk := hk.same hk6
      have H6 := Lib.hid h6
      clear h6
      have hc := hb.cell
      go_wp2_with fail
      refine (HD2.out _ _ A6 n6 c6 hs6 (by omega)).mono ?_
      rintro e w7 ⟨A7, c7, rfl, hs7, hk7⟩
      clear hc
      replace hb := (hb.kept hk7 (fun h => h)).alloc (.cells (rsa r A7 c7) 40)
      replace hI2 := (hI2.kept hk7 (fun _ _ _ h => h)).alloc (.cells (rsa r A7 c7) 40)
      replace hs7 := hs7.alloc (.cells (rsa r A7 c7) 40)
      replace hk := (hk.same hk7).alloc (.cells (rsa r A7 c7) 40)
      unfold rsa at hb hI2 hs7 hk
      have hc := hb.cell
      go_wp2_with fail
      refine (HS.out _ _ _ A7 c7 A c hs7 hI2).mono ?_
      rintro e w8 ⟨rfl, hk8⟩
      go_wp2_with fail
      go_ret
      exact ⟨rfl, hk.same hk8⟩
    · rw [show encR r = [] from by unfold encR; rw [if_neg (by omega)]] at HE2
      have hv1 : (V != 0) = true := by simpa using hv0
      clear hV hv0
      unfold rsa at *
      go_enter Try.func7, Try.ntmps7
      go_wp2_with fail
      refine (Hf.out _).mono ?_
      rintro e w1 ⟨rfl, hk1⟩
      replace hb := hb.kept hk1 (fun h => h)
      have hc := hb.cell
      go_wp2_with fail
      refine (Hl.out _ (hI0.kept hk1 (fun _ _ _ h => h))).mono ?_
      rintro e w2 ⟨rfl, hk2⟩
      replace hb := hb.kept hk2 (fun h => h)
      replace hk := (hk.same hk1).same hk2
      have hI2 := hI0.kept (hk1.same hk2) (fun _ _ _ h => h)
      clear hk1 hk2 hc hI0
      go_wp2_with fail
      refine (HD.out _ _ (hl0.kept hk (fun _ _ _ h => h))).mono ?_
      rintro e w3 ⟨A3, c3, rfl, hs3, hk3⟩
      go_wp2_with fail
      replace hb := (hb.kept hk3 (fun h => h)).alloc (.cells (rsa zeroR A3 c3) 40)
      replace hI2 := (hI2.kept hk3 (fun _ _ _ h => h)).alloc (.cells (rsa zeroR A3 c3) 40)
      replace hs3 := hs3.alloc (.cells (rsa zeroR A3 c3) 40)
      replace hk := (hk.same hk3).alloc (.cells (rsa zeroR A3 c3) 40)
      simp only [rsa, zeroR, List.length_nil] at hb hI2 hs3 hk
      refine (HS0.out _ _ _ A3 c3 none 0 hs3 (Sl.nil _ (fun _ => True) _ _)).mono ?_
      rintro e w4 ⟨rfl, hk4⟩
      replace hb := hb.kept hk4 (fun h => h)
      replace hI2 := hI2.kept hk4 (fun _ _ _ h => h)
      replace hk := hk.same hk4
      clear hs3 hk3 hk4
      have hc := hb.cell
      go_wp2_with fail
      refine (HE2.out _ (hI2.imp fun _ _ _ => trivial)).mono ?_
      rintro e w6 ⟨A6, n6, c6, rfl, hs6, hn6, hc6, hk6⟩
      clear hc
      obtain rfl : n6 = 0 := by have := hs6.1; rw [bvs_length] at this; simp at this; omega
      replace hb := hb.kept hk6 (fun h => h)
      replace hI2 := hI2.kept hk6 (fun _ _ _ h => h)
      replace hk := hk.same hk6
      have hc := hb.cell
      go_wp2_with fail
      refine (HC2.out _ (hI2.imp fun _ _ _ => trivial)).mono ?_
      rintro e w7 ⟨rfl, hk7⟩
      go_wp2_with fail
      go_ret
      exact ⟨rfl, hk.same hk7⟩

theorem respBack_top (r : Rs) (A : Option Addr) (c : Nat) (kind : Int) (B : Option Addr) (len cap : Nat) (zs : List Int) (w : World) (hI : Sl w (fun _ => True) 4 A r.items.length (itc r.items)) (hr : r.Wf) (_hk : (Lit.int .i64 kind).wf = true) (h : IsRow .u8 w B len cap zs) :
    Calls Try.prog 7 #[.agg (rsa r A c), .int .i64 kind, .slice B len cap] w (BoolP true w) := by
  obtain ⟨l, h1, h2, _, h3⟩ := h.bytes
  by_cases hf : lightR r = false ∨ 1500 < len
  · exact back_far r A c kind B len cap w _ hI hf
  · have hL : lightR r = true := by
      cases hl : lightR r with
      | true => rfl
      | false => exact absurd (.inl hl) hf
    exact back_near r A c kind B len cap l w _ _ hI h3 hr hL (by omega)
end Go.Proofs.Ytlmfpadlgdmflaa
