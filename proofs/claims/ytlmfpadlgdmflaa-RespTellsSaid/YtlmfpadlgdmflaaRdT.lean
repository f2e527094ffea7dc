/-
  RespTells: the walk.
-/
import Derived.Test.YtlmfpadlgdmflaaRdD
import Derived.Test.YtlmfpadlgdmflaaRsI
import Derived.Test.YtlmfpadlgdmflaaFree
set_option linter.unusedSimpArgs false
set_option linter.unusedVariables false
namespace Go.Proofs.Ytlmfpadlgdmflaa
open Go.RowKit
set_option maxRecDepth 100000

theorem rdecode_out (kind : Int) (A : Option Addr) (n c : Nat) (l : List UInt8) (w : World) (h : kind < 128 ∨ 139 < kind) :
    Calls Try.prog 25 #[.int .i64 kind, .slice A n c] w (DecP kind l w) := by
  have HD : Hid (decodeR kind l = (zeroR, 12)) := by unfold decodeR; rw [Hid, if_pos h]
  have hb := Blk.new w 40 #[.int .i64 0, .int .i64 0, .int .i64 0, .int .i64 0, .string ⟨#[]⟩, .int .i64 0, .bool false, .slice none 0 0]
  have hk : Pure w (w.alloc (.cells #[.int .i64 0, .int .i64 0, .int .i64 0, .int .i64 0, .string ⟨#[]⟩, .int .i64 0, .bool false, .slice none 0 0] 40)) := (Kept.refl _ _).alloc _
  rcases h with h | h
  · go_enter Try.func25, Try.ntmps25
    go_wp2_with (with_reducible refine stop_store (ty := 40) ?_)
    refine unheld ?_
    refine wp_store_blk rfl _ _ _ rfl rfl rfl hb rfl (by kernel_rfl) (by kernel_rfl) rfl ?_
    intro w9 hb9 hk9
    repeat go_step
    exact bodyPost_ret (results_cell_tmp Try.results25 rfl hb9 Try.underlying40 rfl (by kernel_rfl)) rfl (DecP.zero HD.out (hk.trans hk9 (fun i hi h => by omega)))
  · have h2 : ¬ kind < 128 := by omega
    go_enter Try.func25, Try.ntmps25
    go_wp2_with (with_reducible refine stop_store (ty := 40) ?_)
    refine unheld ?_
    refine wp_store_blk rfl _ _ _ rfl rfl rfl hb rfl (by kernel_rfl) (by kernel_rfl) rfl ?_
    intro w9 hb9 hk9
    repeat go_step
    exact bodyPost_ret (results_cell_tmp Try.results25 rfl hb9 Try.underlying40 rfl (by kernel_rfl)) rfl (DecP.zero HD.out (hk.trans hk9 (fun i hi h => by omega)))
theorem rdecode_all (kind : Int) (A : Option Addr) (n c : Nat) (l : List UInt8) (w : World) (F : Nat → Prop) (hl : Sl w F 1 A n (bvs l)) (hn : n ≤ 100000) (hnc : n ≤ c) (hcm : c ≤ maxLen) :
    Calls Try.prog 25 #[.int .i64 kind, .slice A n c] w (DecP kind l w) := by
  by_cases h : kind < 128 ∨ 139 < kind
  · exact rdecode_out kind A n c l w h
  · exact rdecode_any kind A n c l w F hl hn hnc hcm (by omega) (by omega)

set_option maxHeartbeats 1600000 in
theorem tells_far (r : Rs) (A : Option Addr) (c : Nat) (kind : Int) (B : Option Addr) (n cb : Nat) (w : World) (F : Nat → Prop) (hI : Sl w F 4 A r.items.length (itc r.items)) (h : lightR r = false ∨ 1500 < n) :
    Calls Try.prog 6 #[.agg (rsa r A c), .int .i64 kind, .slice B n cb] w (BoolP true w) := by
  have hb := Blk.new w 40 (rsa r A c)
  have hk := (Kept.refl (fun _ => False) w).alloc (.cells (rsa r A c) 40)
  have hI0 := hI.kept hk (fun _ _ _ h => h)
  have hl := fun w' hI => light_any r A c w' F hI
  have Hf := Lib.hid first13
  clear hI
  cases hL : lightR r with
  | false =>
    rw [hL] at hl
    unfold rsa at *
    have Hl := Lib.hid hl
    clear hl h hL
    go_enter Try.func6, Try.ntmps6
    go_wp2_with fail
    refine (Hf.out _).mono ?_
    rintro e w1 ⟨rfl, hk1⟩
    have hc := (hb.kept hk1 (fun h => h)).cell
    go_wp2_with fail
    refine (Hl.out _ (hI0.kept hk1 (fun _ _ _ h => h))).mono ?_
    rintro e w2 ⟨rfl, hk2⟩
    go_wp2_with fail
    refine (Hf.out _).mono ?_
    rintro e w3 ⟨rfl, hk3⟩
    go_wp2_with fail
    go_ret
    exact ⟨rfl, ((hk.same hk1).same hk2).same hk3⟩
  | true =>
    rw [hL] at hl
    have h2 : (1500 : Int) < (n : Int) := by rcases h with h | h; rw [hL] at h; cases h; omega
    unfold rsa at *
    have Hl := Lib.hid hl
    clear hl h hL
    go_enter Try.func6, Try.ntmps6
    go_wp2_with fail
    refine (Hf.out _).mono ?_
    rintro e w1 ⟨rfl, hk1⟩
    have hc := (hb.kept hk1 (fun h => h)).cell
    go_wp2_with fail
    refine (Hl.out _ (hI0.kept hk1 (fun _ _ _ h => h))).mono ?_
    rintro e w2 ⟨rfl, hk2⟩
    go_wp2_with fail
    refine (Hf.out _).mono ?_
    rintro e w3 ⟨rfl, hk3⟩
    go_wp2_with fail
    go_ret
    exact ⟨rfl, ((hk.same hk1).same hk2).same hk3⟩


def tellM (V kind err : Int) (i : Nat) (v : Value) (w : World) : Prop := match i with
  | 1 => v = .int .i64 V
  | 3 => v = .int .i64 V
  | 25 => v = .bool true
  | 31 => v = .agg (rsa ⟨kind, err, 0, 0, ⟨#[]⟩, 0, false, []⟩ none 0)
  | 36 => v = .bool true
  | _ => True
theorem tellM_stable (V kind err : Int) : ∀ (k i : Nat) (v : Value) (w w' : World), k ∈ [1, 3, 25, 31, 36] → i ∈ [1, 3, 25, 31, 36] → i ≠ k → i ∉ (fun _ => [] : Nat → List Nat) k → (fun _ => Grows 0 : Nat → World → World → Prop) k w w' → tellM V kind err i v w → tellM V kind err i v w' :=
  fun _ _ _ _ _ _ _ _ _ _ h => h

set_option maxHeartbeats 3200000 in
theorem tells_near (r : Rs) (A : Option Addr) (c : Nat) (kind : Int) (B : Option Addr) (n cb : Nat) (l : List UInt8) (w : World) (F G : Nat → Prop) (hI : Sl w F 4 A r.items.length (itc r.items)) (hl0 : Sl w G 1 B n (bvs l)) (hr : r.Wf) (hL : lightR r = true) (hn : n ≤ 1500) (hnc : n ≤ cb) (hcm : cb ≤ maxLen) :
    Calls Try.prog 6 #[.agg (rsa r A c), .int .i64 kind, .slice B n cb] w (BoolP true w) := by
  have hb := Blk.new w 40 (rsa r A c)
  have hk : Pure w (w.alloc (.cells (rsa r A c) 40)) := (Kept.refl (fun _ => False) w).alloc (.cells (rsa r A c) 40)
  have hI0 := hI.kept hk (fun _ _ _ h => h)
  have hl := fun w' hI => light_any r A c w' F hI
  rw [hL] at hl
  have Hl := Lib.hid hl
  have Hf := Lib.hid first13
  have hni : r.items.length ≤ 120 := (of_decide_eq_true hL).2.1
  obtain ⟨⟨D, g⟩, hdec⟩ : ∃ p, decodeR kind l = p := ⟨_, rfl⟩
  have hD := fun w' F hl => decode_all kind B n cb l w' F hl (by omega)
  have hD2 := fun w' F hl => rdecode_all kind B n cb l w' F hl (by omega) hnc hcm
  have hlen := decode_len kind l
  unfold DecP at hD hD2
  rw [hdec] at hD hD2 hlen
  have HD := Lib.hid hD
  have HD2 := Lib.hid hD2
  have hlenD : D.items.length ≤ 100 := hlen
  obtain ⟨V, hV⟩ : ∃ V, checkR r = V := ⟨_, rfl⟩
  have hE1 := fun w' hI => enc_any r A c w' hI hr.fits
  have hE2 := fun w' hI => ref_enc r A c w' hI hr.fits
  have hC1 := fun w' hI => check_any r A c w' hI hr.fits
  have hC2 := fun w' hI => ref_check r A c w' hI hr.fits
  unfold EncP at hE1 hE2
  unfold CheckP at hC1 hC2
  rw [hV] at hE1 hE2 hC1 hC2
  have HE1 := Lib.hid hE1
  have HE2 := Lib.hid hE2
  have HC1 := Lib.hid hC1
  have HC2 := Lib.hid hC2
  have HS := Lib.hid (fun w' F' G' A7 c7 A c h1 h2 => same_any D D A7 c7 A c w' F' G' h1 h2 (by omega) (by omega))
  rw [sameR_self] at HS
  have HS2 := Lib.hid (fun w' => same_any ⟨kind, r.err, 0, 0, ⟨#[]⟩, 0, false, []⟩ ⟨kind, r.err, 0, 0, ⟨#[]⟩, 0, false, []⟩ none 0 none 0 w' (fun _ => True) (fun _ => True) (Sl.nil _ _ _ _) (Sl.nil _ _ _ _) (by simp) (by simp))
  rw [sameR_self] at HS2
  have HB := Lib.hid (fun w' => bad_any kind r.err w')
  have hn' : (n : Int) ≤ 1500 := by omega
  have Hl0 := Lib.hid hl0
  clear hl hI hl0 hD hD2 hE1 hE2 hC1 hC2 hlen hdec hL hV
  unfold rsa at *
  go_enter Try.func6, Try.ntmps6
  go_wp2_with fail
  refine (Hf.out _).mono ?_
  rintro e w1 ⟨rfl, hk1⟩
  replace hb := hb.kept hk1 (fun h => h)
  have hc := hb.cell
  go_wp2_with fail
  refine (Hl.out _ (hI0.kept hk1 (fun _ _ _ h => h))).mono ?_
  rintro e w2 ⟨rfl, hk2⟩
  replace hb := hb.kept hk2 (fun h => h)
  replace hk := (hk.same hk1).same hk2
  have hI2 := hI0.kept (hk1.same hk2) (fun _ _ _ h => h)
  clear hk1 hk2 hc hI0
  have hc := hb.cell
  go_wp2_with fail
  refine (HE1.out _ (hI2.imp fun _ _ _ => trivial)).mono ?_
  rintro e w3 ⟨A3, n3, c3, rfl, hs3, _, _, hk3⟩
  replace hb := hb.kept hk3 (fun h => h)
  replace hI2 := hI2.kept hk3 (fun _ _ _ h => h)
  replace hk := hk.same hk3
  clear hc hk3
  have hc := hb.cell
  go_wp2_with fail
  refine (HE2.out _ (hI2.imp fun _ _ _ => trivial)).mono ?_
  rintro e w4 ⟨A4, n4, c4, rfl, hs4, _, _, hk4⟩
  replace hb := hb.kept hk4 (fun h => h)
  replace hI2 := hI2.kept hk4 (fun _ _ _ h => h)
  replace hs3 := hs3.kept hk4 (fun _ _ _ h => h)
  replace hk := hk.same hk4
  clear hc hk4
  go_wp2_with fail
  refine (HD.out _ _ (Hl0.out.kept hk (fun _ _ _ h => h))).mono ?_
  rintro e w5 ⟨A5, c5, rfl, hs5, hk5⟩
  go_wp2_with fail
  have hbC := Blk.new w5 40 (rsa D A5 c5)
  unfold rsa at hbC
  replace hb := (hb.kept hk5 (fun h => h)).alloc (.cells (rsa D A5 c5) 40)
  replace hI2 := (hI2.kept hk5 (fun _ _ _ h => h)).alloc (.cells (rsa D A5 c5) 40)
  replace hs3 := (hs3.kept hk5 (fun _ _ _ h => h)).alloc (.cells (rsa D A5 c5) 40)
  replace hs4 := (hs4.kept hk5 (fun _ _ _ h => h)).alloc (.cells (rsa D A5 c5) 40)
  replace hs5 := hs5.alloc (.cells (rsa D A5 c5) 40)
  replace hk := (hk.same hk5).alloc (.cells (rsa D A5 c5) 40)
  unfold rsa at hb hI2 hs3 hs4 hs5 hk
  clear hk5
  refine (HD2.out _ _ (Hl0.out.kept hk (fun _ _ _ h => h))).mono ?_
  rintro e w6 ⟨A6, c6, rfl, hs6, hk6⟩
  go_wp2_with fail
  have hbD := Blk.new w6 40 (rsa D A6 c6)
  unfold rsa at hbD
  replace hb := (hb.kept hk6 (fun h => h)).alloc (.cells (rsa D A6 c6) 40)
  replace hbC := (hbC.kept hk6 (fun h => h)).alloc (.cells (rsa D A6 c6) 40)
  replace hI2 := (hI2.kept hk6 (fun _ _ _ h => h)).alloc (.cells (rsa D A6 c6) 40)
  replace hs3 := (hs3.kept hk6 (fun _ _ _ h => h)).alloc (.cells (rsa D A6 c6) 40)
  replace hs4 := (hs4.kept hk6 (fun _ _ _ h => h)).alloc (.cells (rsa D A6 c6) 40)
  replace hs5 := (hs5.kept hk6 (fun _ _ _ h => h)).alloc (.cells (rsa D A6 c6) 40)
  replace hs6 := hs6.alloc (.cells (rsa D A6 c6) 40)
  replace hk := (hk.same hk6).alloc (.cells (rsa D A6 c6) 40)
  unfold rsa at hb hbC hI2 hs3 hs4 hs5 hs6 hk
  clear hk6
  generalize w6.alloc _ = W at *
  have hcv1 := fun w' (h : Pure W w') => run_str (P := Try.prog) (hs3.kept h (fun _ _ _ h => h)) 22 9 5 c3 Try.underlying22 Try.underlying5 Try.underlying9
  have hcv2 := fun w' (h : Pure W w') => run_str (P := Try.prog) (hs4.kept h (fun _ _ _ h => h)) 22 9 5 c4 Try.underlying22 Try.underlying5 Try.underlying9
  generalize ByteArray.mk (encR r).toArray = X at hcv1 hcv2
  have Hcv1 := Lib.hid hcv1
  have Hcv2 := Lib.hid hcv2
  clear hcv1 hcv2 hs3 hs4 HD HD2 HE1 HE2 Hf Hl
  refine wp_region_free (fun w' => Pure W w') (fun _ => Grows 0) [1, 3, 25, 31, 36] (fun _ => []) (tellM V kind r.err) (by kernel_rfl) (by kernel_rfl) (tellM_stable _ _ _) (Kept.refl _ _).drew ?_
  repeat (refine free_step (by decide) (fun K hK => ?_); go_simp; first | (refine ex_steadyF ?_ (fun w' hw' => ?_) ?_; rotate_left; (have hp : Pure W w' := hw'.1; have hc := (hb.kept hp (fun h => h)).cell; clear hw'; go_simp; first | done | rfl); (refine hK _ ?_; clear hK K)) | (refine hK _ ?_; clear hK K))
  refine free_move0 (by decide) rfl (fun w' hw' => ?_) (fun v hv => ?_)
  · have hp : Pure W w' := hw'.1
    clear hw'
    go_simp
    refine up_enter ((HC1.out _ ((hI2.imp fun _ _ _ => trivial).kept hp (fun _ _ _ h => h))).mono ?_)
    rintro e w'' ⟨rfl, h2⟩
    exact ⟨_, rfl, Kept.same hp h2, Grows.pure h2, rfl⟩
  obtain ⟨_, _, rfl⟩ := hv
  repeat (refine free_step (by decide) (fun K hK => ?_); go_simp; first | (refine ex_steadyF ?_ (fun w' hw' => ?_) ?_; rotate_left; (have hp : Pure W w' := hw'.1; have hc := (hb.kept hp (fun h => h)).cell; clear hw'; go_simp; first | done | rfl); (refine hK _ ?_; clear hK K)) | (refine hK _ ?_; clear hK K))
  refine free_move0 (by decide) rfl (fun w' hw' => ?_) (fun v hv => ?_)
  · have hp : Pure W w' := hw'.1
    clear hw'
    go_simp
    refine up_enter ((HC2.out _ ((hI2.imp fun _ _ _ => trivial).kept hp (fun _ _ _ h => h))).mono ?_)
    rintro e w'' ⟨rfl, h2⟩
    exact ⟨_, rfl, Kept.same hp h2, Grows.pure h2, rfl⟩
  obtain ⟨_, _, rfl⟩ := hv
  repeat (refine free_step (by decide) (fun K hK => ?_); go_simp; first | (refine ex_steadyF ?_ (fun w' hw' => ?_) ?_; rotate_left; (have hp : Pure W w' := hw'.1; have hcC := (hbC.kept hp (fun h => h)).cell; have hcD := (hbD.kept hp (fun h => h)).cell; have cv1 := Hcv1.out _ hp; have cv2 := Hcv2.out _ hp; clear hw'; go_simp; first | done | rfl); (refine hK _ ?_; clear hK K)) | (refine hK _ ?_; clear hK K))
  refine free_move (by decide) (fun K hK => ?_)
  go_simp
  refine ⟨fun w' hw' => up_enter ((HS.out _ _ _ A5 c5 A6 c6 (hs5.kept hw'.1 (fun _ _ _ h => h)) (hs6.kept hw'.1 (fun _ _ _ h => h))).mono ?_), fun v _ _ hv => ?_⟩
  · rintro e w'' ⟨rfl, h2⟩
    exact ⟨_, rfl, Kept.same hw'.1 h2, Grows.pure h2, rfl⟩
  obtain rfl : v = .bool true := hv
  refine hK _ _ ?_
  clear hK K
  repeat (refine free_step (by decide) (fun K hK => ?_); go_simp; first | (refine ex_steadyF ?_ (fun w' hw' => ?_) ?_; rotate_left; (have hp : Pure W w' := hw'.1; have hc := (hb.kept hp (fun h => h)).cell; clear hw'; go_simp; first | done | rfl); (refine hK _ ?_; clear hK K)) | (refine hK _ ?_; clear hK K))
  refine free_move (by decide) (fun K hK => ?_)
  go_simp
  refine ⟨fun w' hw' => up_enter ((HB.out _).mono ?_), fun v _ _ hv => ?_⟩
  · rintro e w'' ⟨rfl, h2⟩
    exact ⟨_, rfl, Kept.same hw'.1 h2, Grows.pure h2, rfl⟩
  obtain rfl : v = .agg (rsa ⟨kind, r.err, 0, 0, ⟨#[]⟩, 0, false, []⟩ none 0) := hv
  refine hK _ _ ?_
  clear hK K
  repeat (refine free_step (by decide) (fun K hK => ?_); go_simp; first | (refine ex_steadyF ?_ (fun w' hw' => ?_) ?_; rotate_left; (have hp : Pure W w' := hw'.1; have hc := (hb.kept hp (fun h => h)).cell; clear hw'; go_simp; first | done | rfl); (refine hK _ ?_; clear hK K)) | (refine hK _ ?_; clear hK K))
  refine free_move (by decide) (fun K hK => ?_)
  go_simp
  refine ⟨fun w' hw' => up_enter ((HS2.out _).mono ?_), fun v _ _ hv => ?_⟩
  · rintro e w'' ⟨rfl, h2⟩
    exact ⟨_, rfl, Kept.same hw'.1 h2, Grows.pure h2, rfl⟩
  obtain rfl : v = .bool true := hv
  refine hK _ _ ?_
  clear hK K
  repeat (refine free_step (by decide) (fun K hK => ?_); go_simp; first | (refine ex_steadyF ?_ (fun w' hw' => ?_) ?_; rotate_left; (clear hw'; go_simp; first | done | rfl); (refine hK _ ?_; clear hK K)) | (refine hK _ ?_; clear hK K))
  refine free_nil (fun w9 hp _ => ?_)
  replace hk := hk.same hp
  clear hp
  go_wp2
  go_ret
  exact ⟨rfl, hk⟩

theorem respTells_top (r : Rs) (A : Option Addr) (c : Nat) (kind : Int) (B : Option Addr) (len cap : Nat) (zs : List Int) (w : World) (hI : Sl w (fun _ => True) 4 A r.items.length (itc r.items)) (hr : r.Wf) (_hk : (Lit.int .i64 kind).wf = true) (h : IsRow .u8 w B len cap zs) :
    Calls Try.prog 6 #[.agg (rsa r A c), .int .i64 kind, .slice B len cap] w (BoolP true w) := by
  obtain ⟨l, h1, h2, _, h3⟩ := h.bytes
  by_cases hf : lightR r = false ∨ 1500 < len
  · exact tells_far r A c kind B len cap w _ hI hf
  · have hL : lightR r = true := by
      cases hl : lightR r with
      | true => rfl
      | false => exact absurd (.inl hl) hf
    exact tells_near r A c kind B len cap l w _ _ hI h3 hr hL (by omega) h1 h2
end Go.Proofs.Ytlmfpadlgdmflaa
