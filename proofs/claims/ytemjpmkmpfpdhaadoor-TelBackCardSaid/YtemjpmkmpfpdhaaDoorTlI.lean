/-
  TelBack walked.
-/
import Derived.Test.YtemjpmkmpfpdhaaDoorTlH
import Derived.Test.YtemjpmkmpfpdhaaDoorMix
set_option linter.unusedSimpArgs false
set_option linter.unusedVariables false
namespace Go.Proofs.YtemjpmkmpfpdhaaDoor
open Go.RowKit
set_option maxRecDepth 100000

theorem and_65535 (n : Int) : ∃ V : Nat, bits .and .i64 n 65535 = (V : Int) ∧ V ≤ 65535 := by
  have e : bits .and .i64 n 65535 = IntKind.i64.wrap ((BitVec.ofInt 64 n &&& BitVec.ofInt 64 ((65535 : Nat) : Int)).toNat : Int) := rfl
  have h2 : (BitVec.ofInt 64 n &&& BitVec.ofInt 64 ((65535 : Nat) : Int)).toNat ≤ 65535 := by
    rw [BitVec.toNat_and, BitVec.ofInt_natCast, BitVec.toNat_ofNat]
    have : (BitVec.ofInt 64 n).toNat &&& (65535 % 2 ^ 64) = (BitVec.ofInt 64 n).toNat % 65536 := Nat.and_two_pow_sub_one_eq_mod _ 16
    rw [this]
    omega
  refine ⟨_, ?_, h2⟩
  rw [e, IntKind.wrap_i64]
  omega
theorem and_255 (n : Int) : ∃ V : Nat, bits .and .i64 n 255 = (V : Int) ∧ V ≤ 255 := by
  have e : bits .and .i64 n 255 = IntKind.i64.wrap ((BitVec.ofInt 64 n &&& BitVec.ofInt 64 ((255 : Nat) : Int)).toNat : Int) := rfl
  have h2 : (BitVec.ofInt 64 n &&& BitVec.ofInt 64 ((255 : Nat) : Int)).toNat ≤ 255 := by
    rw [BitVec.toNat_and, BitVec.ofInt_natCast, BitVec.toNat_ofNat]
    have : (BitVec.ofInt 64 n).toNat &&& (255 % 2 ^ 64) = (BitVec.ofInt 64 n).toNat % 256 := Nat.and_two_pow_sub_one_eq_mod _ 8
    rw [this]
    omega
  refine ⟨_, ?_, h2⟩
  rw [e, IntKind.wrap_i64]
  omega

/-- Canon gives x, e at s. -/
def CLt (s : ByteArray) (x : ByteArray) (e : Int) : Prop := ∀ w, Tb w → Calls Tryd.prog 20 #[.string s] w fun r w' => r = .returned (.tuple #[.string x, .int .i64 e]) ∧ Pure w w'
def gaps : List ByteArray := [⟨#[32]⟩, ⟨#[45]⟩, ⟨#[46]⟩, ⟨#[47]⟩, ⟨#[40]⟩, ⟨#[41]⟩]


set_option maxHeartbeats 3200000 in
theorem back_walk (a S T : ByteArray) (at_ sg : Int) (w : World) (hT : Tb w) (sa : a.size ≤ 200) (n2 : S.size ≤ 16) (n3 : S.size ≤ T.size) (n4 : T.size ≤ 40)
    (C0 : Hid (Calls Tryd.prog 19 #[] w (TrueF w))) (K1 : Hid (CLt a S 0)) (K2 : Hid (∀ w, Calls Tryd.prog 22 #[.string S] w fun e w' => e = .returned (.string T) ∧ w = w')) (K3 : Hid (CLt T S 0))
    (K4 : Hid (∀ k G, k ≤ S.size → G ∈ gaps → CLt (S.extract 0 k ++ G ++ S.extract k S.size) S 0)) (K5 : Hid (CLt S S 0)) (K6 : Hid (∀ w, Calls Tryd.prog 21 #[.string S] w fun e w' => e = .returned (.bool true) ∧ w = w')) :
    Calls Tryd.prog 7 #[.string a, .int .i64 at_, .int .i64 sg] w (TrueF w) := by
  have HT := Lib.hid hT
  clear hT
  obtain ⟨V, hV, hV2⟩ := and_65535 at_
  obtain ⟨k, hk⟩ : ∃ k : Nat, (V : Int) % ((S.size : Int) + 1) = (k : Int) := ⟨V % (S.size + 1), by rw [Int.natCast_emod]; rfl⟩
  have hkS : k ≤ S.size := by have := Int.emod_lt_of_pos (V : Int) (show 0 < (S.size : Int) + 1 by omega); omega
  obtain ⟨U, hU, hU2⟩ := and_255 sg
  obtain ⟨j, hj⟩ : ∃ j : Nat, (U : Int) % 6 = (j : Int) := ⟨U % 6, by omega⟩
  have hj6 : j < 6 := by omega
  have hj6' : (j : Int) < 6 := by omega
  have htm : (U : Int).tmod 6 = (j : Int) := by rw [Int.tmod_eq_emod_of_nonneg (by omega)]; exact hj
  obtain ⟨G, hG⟩ : ∃ G, gaps[j]? = some G := ⟨_, List.getElem?_eq_getElem (show j < gaps.length from hj6)⟩
  have hGm : G ∈ gaps := List.mem_of_getElem? hG
  have hGs : G.size = 1 := by
    have : ∀ x ∈ gaps, x.size = 1 := by decide
    exact this G hGm
  have HG := Lib.hid hG
  have C4 := Lib.hid (K4.out k G hkS hGm)
  clear hG hGm K4
  go_enter Tryd.func7, Tryd.ntmps7
  go_wp2_with fail
  refine (C0.out).mono ?_
  rintro e w1 ⟨rfl, k1⟩
  go_wp2_with fail
  refine (K1.out _ (HT.out.kept k1)).mono ?_
  rintro e w2 ⟨rfl, k2⟩
  have kk2 := k1.same k2
  go_wp2_with fail
  refine (K2.out _).mono ?_
  rintro e w3 ⟨rfl, rfl⟩
  go_wp2_with fail
  refine (K3.out _ (HT.out.kept kk2)).mono ?_
  rintro e w3 ⟨rfl, k3⟩
  have kk3 := kk2.same k3
  clear k1 k2 k3 kk2 C0 K1 K3
  go_wp2_with fail
  have hcut : 0 ≤ (k : Int) ∧ (k : Int) ≤ (S.size : Int) := by omega
  have e1 : (S.extract 0 k).size = k := by rw [ByteArray.size_extract]; omega
  have e2 : (S.extract k S.size).size = S.size - k := by rw [ByteArray.size_extract]; omega
  have g1 : ((9223372036854775807 : Int) < ((S.extract 0 k ++ G).size : Int)) = False := eq_false (by rw [ByteArray.size_append]; omega)
  have g2 : ((9223372036854775807 : Int) < ((S.extract 0 k ++ G ++ S.extract k S.size).size : Int)) = False := eq_false (by rw [ByteArray.size_append, ByteArray.size_append]; omega)
  have g3 : ((9223372036854775807 : Int) < (((S.extract 0 k ++ G).size + (S.extract k S.size).size : Nat) : Int)) = False := eq_false (by rw [ByteArray.size_append]; omega)
  have g4 : (9223372036854775807 < k + G.size) = False := eq_false (by omega)
  have g5 : (9223372036854775807 < k + G.size + (S.size - k)) = False := eq_false (by omega)
  clear e1 e2 hGs
  refine wp_region_mix (fun w' => Pure w3 w') [3, 14] (by kernel_rfl) (by kernel_rfl) (by kernel_rfl) (Kept.refl _ _).drew ?_
  repeat (refine mix_step (fun K hK => ?_); go_simp; first | (refine ex_steady ?_ (fun w' hw' => ?_) ?_; rotate_left; (replace hw' : Pure _ w' := hw'; go_simp; first | done | rfl); (refine hK _ _ ?_; clear hK K)) | (refine hK _ _ ?_; clear hK K))
  refine mix_call (by decide) (fun K hK => ?_)
  go_simp
  unfold move
  go_simp
  have hb := Blk.new w3 9 #[.string ⟨#[32]⟩, .string ⟨#[45]⟩, .string ⟨#[46]⟩, .string ⟨#[47]⟩, .string ⟨#[40]⟩, .string ⟨#[41]⟩]
  have hcell : ∀ w', Pure (w3.alloc (.cells #[.string ⟨#[32]⟩, .string ⟨#[45]⟩, .string ⟨#[46]⟩, .string ⟨#[47]⟩, .string ⟨#[40]⟩, .string ⟨#[41]⟩] 9)).drew w' → w'.cell? ⟨w3.heap.size, j, none⟩ = some (.string G) := fun w' hw' => by
    have h1 := (hb.kept (S := fun _ => False) (w' := w') ⟨hw'.os, hw'.tape, hw'.output, hw'.size, hw'.block⟩ (fun h => h)).cell j
    rw [h1]
    have h2 : (gaps.map Value.string)[j]? = some (.string G) := by rw [List.getElem?_map, HG.out]; rfl
    show ((gaps.map Value.string).toArray)[j]? = _
    rw [List.getElem?_toArray]; exact h2
  have kk4 := ((kk3.alloc (.cells #[.string ⟨#[32]⟩, .string ⟨#[45]⟩, .string ⟨#[46]⟩, .string ⟨#[47]⟩, .string ⟨#[40]⟩, .string ⟨#[41]⟩] 9)).drew)
  have kw3 := (((Kept.refl (fun _ => False) w3).alloc (.cells #[.string ⟨#[32]⟩, .string ⟨#[45]⟩, .string ⟨#[46]⟩, .string ⟨#[47]⟩, .string ⟨#[40]⟩, .string ⟨#[41]⟩] 9)).drew)
  refine ⟨fun x => Pure (w3.alloc (.cells #[.string ⟨#[32]⟩, .string ⟨#[45]⟩, .string ⟨#[46]⟩, .string ⟨#[47]⟩, .string ⟨#[40]⟩, .string ⟨#[41]⟩] 9)).drew x, ⟨kw3, by simp; exact Kept.refl _ _⟩, hK _ _ _ ?_⟩
  clear hK K hb
  generalize (w3.alloc (.cells #[.string ⟨#[32]⟩, .string ⟨#[45]⟩, .string ⟨#[46]⟩, .string ⟨#[47]⟩, .string ⟨#[40]⟩, .string ⟨#[41]⟩] 9)).drew = w4 at *
  repeat (refine mix_step (fun K hK => ?_); go_simp; first | (refine ex_steady ?_ (fun w' hw' => ?_) ?_; rotate_left; (replace hw' : Pure _ w' := hw'; go_simp; first | done | rfl); (refine hK _ _ ?_; clear hK K)) | (refine hK _ _ ?_; clear hK K))
  (refine mix_step_in 3 (fun x => Pure w4 x) (List.mem_cons_self ..) (by kernel_rfl) (fun K hK => ?_); go_simp; first | (refine ex_steady ?_ (fun w' hw' => ?_) ?_; rotate_left; (replace hw' : Pure _ w' := hw'; have hc := hcell _ hw'; go_simp; first | done | rfl); (refine hK _ _ ?_; clear hK K)) | (refine hK _ _ ?_; clear hK K))
  clear hcell
  repeat (refine mix_step (fun K hK => ?_); go_simp; first | (refine ex_steady ?_ (fun w' hw' => ?_) ?_; rotate_left; (replace hw' : Pure _ w' := hw'; go_simp; first | done | rfl); (refine hK _ _ ?_; clear hK K)) | (refine hK _ _ ?_; clear hK K))
  refine mix_call (by decide) (fun K hK => ?_)
  go_simp
  unfold move
  go_simp
  refine move_enter ((C4.out _ (HT.out.kept kk4)).mono ?_)
  rintro e w5 ⟨rfl, k5⟩
  refine ⟨_, rfl, fun _ => True, ⟨kw3.same k5, by simp; exact k5⟩, hK _ _ _ ?_⟩
  clear hK K
  have kk5 := kk4.same k5
  repeat (refine mix_step (fun K hK => ?_); go_simp; first | (refine ex_steady ?_ (fun w' hw' => ?_) ?_; rotate_left; (replace hw' : Pure _ w' := hw'; go_simp; first | done | rfl); (refine hK _ _ ?_; clear hK K)) | (refine hK _ _ ?_; clear hK K))
  refine mix_nil ?_
  intro hw'
  clear hw'
  go_wp2_with fail
  refine (K5.out _ (HT.out.kept kk5)).mono ?_
  rintro e w6 ⟨rfl, k6⟩
  have kk6 := kk5.same k6
  go_wp2_with fail
  refine (K6.out _).mono ?_
  rintro e w7 ⟨rfl, rfl⟩
  go_wp2_with fail
  refine (K2.out _).mono ?_
  rintro e w7 ⟨rfl, rfl⟩
  go_wp2
  go_ret
  exact ⟨rfl, kk6⟩

theorem cl_tel (s : ByteArray) (x : List UInt8) (e : Int) (h : telL s.data.toList = (x, e)) (hs : s.size ≤ 1000) : CLt s ⟨x.toArray⟩ e := fun w hT => by
  have := canon_any s w hs hT
  rw [h] at this
  exact this

set_option maxHeartbeats 1600000 in
theorem tback_any (a : ByteArray) (at_ sg : Int) (w : World) (hT : Tb w) (ha : a.size ≤ maxLen) : Calls Tryd.prog 7 #[.string a, .int .i64 at_, .int .i64 sg] w (TrueF w) := by
  have C0 := Lib.hid (tfirst w hT)
  have C1 := Lib.hid (fun w h => tfirst w h)
  have HT := Lib.hid hT
  unfold maxLen at ha
  by_cases sa : a.size ≤ 200
  · obtain ⟨s, hs⟩ : ∃ s, (telL a.data.toList).1 = s := ⟨_, rfl⟩
    obtain ⟨e, he⟩ : ∃ e, (telL a.data.toList).2 = e := ⟨_, rfl⟩
    have hC : telL a.data.toList = (s, e) := by rw [← hs, ← he]
    by_cases h0 : e = 0
    · subst h0
      have hi := tel_ok hC
      have hl := tel_len hi
      obtain ⟨t1, t2, t3⟩ := tel_show hi
      have hsd : (ByteArray.mk s.toArray).data.toList = s := by simp
      have hss := mk_size s
      have htd : (ByteArray.mk (showL s).toArray).data.toList = showL s := by simp
      have hts := mk_size (showL s)
      refine back_walk a ⟨s.toArray⟩ ⟨(showL s).toArray⟩ at_ sg w hT sa (by omega) (by omega) (by omega) C0 (cl_tel a s 0 hC (by omega)) ?_ (cl_tel _ s 0 (by rw [htd]; exact t1) (by omega)) ?_ (cl_tel _ s 0 (by rw [hsd]; exact tel_self hi) (by omega)) ?_
      · intro w
        have := show_any ⟨s.toArray⟩ w (by omega)
        rwa [hsd] at this
      · intro k G hk hG
        have hg : ∀ x ∈ gaps, ∃ g, x = ⟨#[g]⟩ ∧ gap g = true ∧ plainB g = true := by
          intro x hx
          simp only [gaps, List.mem_cons, List.not_mem_nil, or_false] at hx
          rcases hx with rfl | rfl | rfl | rfl | rfl | rfl
          all_goals exact ⟨_, rfl, by decide, by decide⟩
        obtain ⟨g, rfl, g1, g2⟩ := hg G hG
        refine cl_tel _ s 0 ?_ ?_
        · rw [app_data, app_data, ext_data, ext_data, hsd, hss, List.drop_zero, List.take_of_length_le (Nat.le_refl s.length)]
          exact tel_between hi k g g1 g2
        · rw [ByteArray.size_append, ByteArray.size_append, ByteArray.size_extract, ByteArray.size_extract]
          have : (⟨#[g]⟩ : ByteArray).size = 1 := rfl
          omega
      · intro w
        have := is_any ⟨s.toArray⟩ w (by omega)
        rwa [hsd, hi] at this
    · obtain ⟨b1, b2⟩ := tel_bad (l := a.data.toList) (by rw [hC]; exact h0)
      rw [hC] at b1
      simp only at b1
      subst b1
      have c1 := Lib.hid (cl_tel a [] e hC (by omega))
      have c2 := Lib.hid (fun w => is_any a w (by omega))
      rw [b2] at c2
      have h0' : (e == 0) = false := by simpa using h0
      clear hC hs he h0 hT b2
      go_enter Tryd.func7, Tryd.ntmps7
      go_wp2_with fail
      refine (C0.out).mono ?_
      rintro e w1 ⟨rfl, k1⟩
      go_wp2_with fail
      refine (c1.out _ (HT.out.kept k1)).mono ?_
      rintro e w2 ⟨rfl, k2⟩
      go_wp2_with fail
      refine (c2.out _).mono ?_
      rintro e w3 ⟨rfl, rfl⟩
      go_wp2
      go_ret
      exact ⟨rfl, k1.same k2⟩
  · go_enter Tryd.func7, Tryd.ntmps7
    go_wp2_with fail
    refine (C0.out).mono ?_
    rintro e w1 ⟨rfl, k1⟩
    go_wp2_with fail
    refine (C1.out w1 (HT.out.kept k1)).mono ?_
    rintro e w2 ⟨rfl, k2⟩
    go_wp2
    go_ret
    exact ⟨rfl, k1.same k2⟩
theorem tback_top (a : ByteArray) (at_ sg : Int) (w : World) (hT : Tb w) (ha : a.size ≤ maxLen) (_h1 : (Lit.int .i64 at_).wf = true) (_h2 : (Lit.int .i64 sg).wf = true) : Calls Tryd.prog 7 #[.string a, .int .i64 at_, .int .i64 sg] w (TrueF w) := tback_any a at_ sg w hT ha
end Go.Proofs.YtemjpmkmpfpdhaaDoor
