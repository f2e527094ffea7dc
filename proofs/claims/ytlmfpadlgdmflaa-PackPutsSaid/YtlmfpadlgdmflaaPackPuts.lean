/- PackPuts: the walk -/
import Derived.Test.YtlmfpadlgdmflaaPackL
import Derived.Test.YtlmfpadlgdmflaaRefW
import Derived.Test.YtlmfpadlgdmflaaMix
import Derived.Test.YtlmfpadlgdmflaaOpen
set_option linter.unusedSimpArgs false
set_option linter.unusedVariables false
namespace Go.Proofs.Ytlmfpadlgdmflaa
open Go.RowKit
set_option maxRecDepth 100000

set_option maxHeartbeats 1600000 in
theorem puts_walk (A : Option Addr) (nb c : Nat) (l : List UInt8) (n : Int) (str : ByteArray) (w : World) (hl : Sl w (fun _ => True) 1 A nb (bvs l)) (hn1 : n ≤ 9223372036854775807) (h100 : nb ≤ 100) (h400 : str.size ≤ 400) :
    Calls Try.prog 4 #[.slice A nb c, .int .i64 n, .string str] w (TrueP w) := by
  have hnl : l.length = nb := by have := hl.1; rw [bvs_length] at this; omega
  have Hnl := Lib.hid hnl
  clear hnl
  have h100' : ((100 : Int) < (nb : Int)) = False := by simp; omega
  have h400' : ((400 : Int) < (str.size : Int)) = False := by simp; omega
  go_enter Try.func4, Try.ntmps4
  go_wp2_with fail
  refine (first10 w).mono ?_
  rintro e w1 ⟨rfl, hk1⟩
  have hl1 := hl.kept hk1 (fun _ _ _ h => h)
  go_wp2_with (first | (at_builtin; refine held ?_) | (at_make; refine held ?_))
  refine unheld ?_
  refine wp_appB w.heap.size Try.underlying22 info_u8' rfl (by omega) (by have := hk1.size; simp; omega) ((Own.lit w1 5 1 #[] 0 rfl (by unfold maxLen; omega)).imp fun b _ h => by have := hk1.size; omega) (hl1.alloc _) (bvs_one l) (by omega) (by omega) rfl _ _ rfl rfl rfl ?_
  intro v2 w2 ho2 hk2
  have hk3 : Pure w w2 := (hk1.alloc _).trans hk2 (fun i hi h => absurd h (by omega))
  simp only [Nat.zero_add, List.nil_append] at ho2
  go_wp2_with (first | (at_builtin; refine held ?_) | (at_make; refine held ?_))
  refine unheld ?_
  refine wp_appB w.heap.size Try.underlying22 info_u8' rfl (by omega) (by have := hk3.size; simp; omega) (ho2.alloc _) (Sl.lit w2 _ _ 1 3 (bvs [7, 7, 7]) rfl rfl) (bvs_one _) (by omega) (by omega) rfl _ _ rfl rfl rfl ?_
  intro v4 w4 ho4 hk4
  have hk5 : Pure w w4 := (hk3.alloc _).trans hk4 (fun i hi h => absurd h (by omega))
  obtain ⟨A5, c5, rfl, hc5, hc6, _, hs5⟩ := ho4.form
  rw [← bvs_append] at hs5
  unfold maxLen at hc6
  have hroom := hs5.pre nb (by omega)
  rw [Nat.mul_one, ← bvs_take, List.take_append_of_le_length (by have := Hnl.out; omega), List.take_of_length_le (by have := Hnl.out; omega)] at hroom
  have hnc : nb ≤ c5 := by omega
  have hnc3 : nb + 3 ≤ c5 := by omega
  clear ho4 hk4 hk3 hk2 ho2
  go_wp2_with fail
  obtain ⟨N0, hN0⟩ : ∃ N0, N0 = l ++ Pk.num n := ⟨_, rfl⟩
  obtain ⟨T0, hT0⟩ : ∃ T0, T0 = l ++ Pk.text str.data.toList := ⟨_, rfl⟩
  have p1 := put_any A5 nb c5 l w4 _ hroom (by omega) n hn1
  rw [← hN0] at p1
  have Href1 := Lib.hid (fun w' (hw' : Pure w w') => hN0 ▸ ref_put A nb c l w' _ (hl.kept hw' fun _ _ _ h => h) (by omega) n hn1)
  have Hput2 := Lib.hid (fun w' (hw' : Pure w4 w') => hT0 ▸ text_put A5 nb c5 l w' _ (hroom.kept hw' fun _ _ _ h => h) (by omega) str (by omega))
  have Href2 := Lib.hid (fun w' (hw' : Pure w w') => hT0 ▸ ref_text_put A nb c l w' _ (hl.kept hw' fun _ _ _ h => h) (by omega) str (by omega))
  clear hN0 hT0
  refine p1.mono ?_
  rintro e w6 ⟨A6, c6, rfl, ho6, hk6⟩
  go_wp2_with fail
  refine (Hput2.out w6 hk6).mono ?_
  rintro e w7 ⟨A7, c7, rfl, ho7, hk7⟩
  go_wp2_with fail
  have hk8 := hk5.same (hk6.same hk7)
  have hs6 := ho6.sl.kept hk7 (fun _ _ _ h => h)
  have hs7 := ho7.sl
  have hs8 := (hs5.kept (hk6.same hk7) fun _ _ _ h => h)
  have hs9 := hl.kept hk8 fun _ _ _ h => h
  clear p1 ho6 ho7 hk6 hs5 hroom hl1 hl
  have cv1 : ∀ w', Pure w7 w' → (convert 22 9 (.slice A6 N0.length c6)).run Try.prog w' = .ok (.string ⟨N0.toArray⟩) w' := fun w' hw' => run_str (hs6.kept hw' fun _ _ _ h => h) _ _ _ _ Try.underlying22 Try.underlying5 Try.underlying9
  have cv2 : ∀ w', Pure w7 w' → (convert 22 9 (.slice A7 T0.length c7)).run Try.prog w' = .ok (.string ⟨T0.toArray⟩) w' := fun w' hw' => run_str (hs7.kept hw' fun _ _ _ h => h) _ _ _ _ Try.underlying22 Try.underlying5 Try.underlying9
  have cv3 : ∀ w', Pure w7 w' → (convert 22 9 (.slice A5 (nb + 3) c5)).run Try.prog w' = .ok (.string ⟨(l ++ [7, 7, 7]).toArray⟩) w' := fun w' hw' => run_str (hs8.kept hw' fun _ _ _ h => h) _ _ _ _ Try.underlying22 Try.underlying5 Try.underlying9
  have cv4 : ∀ w', Pure w7 w' → (convert 22 9 (.slice A nb c)).run Try.prog w' = .ok (.string ⟨l.toArray⟩) w' := fun w' hw' => run_str (hs9.kept hw' fun _ _ _ h => h) _ _ _ _ Try.underlying22 Try.underlying5 Try.underlying9
  refine wp_region_mix (fun w' => Pure w7 w') [4, 12] (by kernel_rfl) (by kernel_rfl) (by kernel_rfl) (Kept.refl _ _).drew ?_
  have hkd : Pure w7 w7.drew := (Kept.refl _ _).drew
  have hcat : ¬ (9223372036854775807 < l.length + 3) := by have := Hnl.out; omega
  have hcc : (ByteArray.mk l.toArray ++ ByteArray.mk #[7, 7, 7]) = ByteArray.mk (l ++ [7, 7, 7]).toArray := by
    apply ByteArray.ext
    simp
  have hw3 : IntKind.i64.wrap ((nb : Int) + 3) = (nb : Int) + 3 := IntWalk.i64_in _ (by omega)
  have hn3 : ((nb : Int) + 3).toNat = nb + 3 := by omega
  have hn4 : (0 : Int) ≤ (nb : Int) + 3 := by omega
  have hn5 : (nb : Int) + 3 ≤ (c5 : Int) := by omega
  clear hs6 hs7 hs8 hs9
  repeat (refine mix_step (fun K hK => ?_); go_simp; first | (refine ex_steady ?_ (fun w' hw' => ?_) ?_; rotate_left; (replace hw' : Pure _ w' := hw'; go_simp; first | done | rfl); (refine hK _ _ ?_; clear hK K)) | (refine hK _ _ ?_; clear hK K))
  refine mix_call (by decide) (fun K hK => ?_)
  go_simp
  unfold move
  go_simp
  refine move_enter ((Href1.out _ (hk8.same hkd)).mono ?_)
  rintro e w8 ⟨A8, c8, rfl, ho8, hk9⟩
  refine ⟨_, rfl, fun x => Pure w8 x, ⟨hkd.same hk9, by simp; exact Kept.refl _ _⟩, hK _ _ _ ?_⟩
  clear hK K
  have hka := hkd.same hk9
  have hs8 := ho8.sl
  have cv5 : ∀ w', Pure w8 w' → (convert 22 9 (.slice A8 N0.length c8)).run Try.prog w' = .ok (.string ⟨N0.toArray⟩) w' := fun w' hw' => run_str (hs8.kept hw' fun _ _ _ h => h) _ _ _ _ Try.underlying22 Try.underlying5 Try.underlying9
  (refine mix_step_in 4 (fun x => Pure w8 x) (by simp) (by kernel_rfl) (fun K hK => ?_); go_simp; first | (refine ex_steady ?_ (fun w' hw' => ?_) ?_; rotate_left; (replace hw' : Pure _ w' := hw'; go_simp; first | done | rfl); (refine hK _ _ ?_; clear hK K)) | (refine hK _ _ ?_; clear hK K))
  repeat (refine mix_step (fun K hK => ?_); go_simp; first | (refine ex_steady ?_ (fun w' hw' => ?_) ?_; rotate_left; (replace hw' : Pure _ w' := hw'; go_simp; first | done | rfl); (refine hK _ _ ?_; clear hK K)) | (refine hK _ _ ?_; clear hK K))
  refine mix_call (by decide) (fun K hK => ?_)
  go_simp
  unfold move
  go_simp
  refine move_enter ((Href2.out _ (hk8.same hka)).mono ?_)
  rintro e w9 ⟨A9, c9, rfl, ho9, hk10⟩
  refine ⟨_, rfl, fun x => Pure w9 x, ⟨hka.same hk10, by simp; exact ⟨Kept.refl _ _, hk10⟩⟩, hK _ _ _ ?_⟩
  clear hK K
  have hs9 := ho9.sl
  have cv6 : ∀ w', Pure w9 w' → (convert 22 9 (.slice A9 T0.length c9)).run Try.prog w' = .ok (.string ⟨T0.toArray⟩) w' := fun w' hw' => run_str (hs9.kept hw' fun _ _ _ h => h) _ _ _ _ Try.underlying22 Try.underlying5 Try.underlying9
  (refine mix_step_in 12 (fun x => Pure w9 x) (by simp) (by kernel_rfl) (fun K hK => ?_); go_simp; first | (refine ex_steady ?_ (fun w' hw' => ?_) ?_; rotate_left; (replace hw' : Pure _ w' := hw'; go_simp; first | done | rfl); (refine hK _ _ ?_; clear hK K)) | (refine hK _ _ ?_; clear hK K))
  repeat (refine mix_step (fun K hK => ?_); go_simp; first | (refine ex_steady ?_ (fun w' hw' => ?_) ?_; rotate_left; (replace hw' : Pure _ w' := hw'; go_simp; first | done | rfl); (refine hK _ _ ?_; clear hK K)) | (refine hK _ _ ?_; clear hK K))
  refine mix_nil ?_
  intro hw'
  go_wp2
  go_ret
  exact ⟨rfl, hk8.same hw'⟩

set_option maxHeartbeats 800000 in
theorem puts_far (A : Option Addr) (nb c : Nat) (n : Int) (str : ByteArray) (w : World) (h : 100 < nb ∨ 400 < str.size) :
    Calls Try.prog 4 #[.slice A nb c, .int .i64 n, .string str] w (TrueP w) := by
  by_cases h1 : 100 < nb
  · have h100 : (100 : Int) < (nb : Int) := by omega
    clear h
    go_enter Try.func4, Try.ntmps4
    go_wp2_with fail
    refine (first10 w).mono ?_
    rintro e w1 ⟨rfl, hk1⟩
    go_wp2_with fail
    refine (first10 w1).mono ?_
    rintro e w2 ⟨rfl, hk2⟩
    go_wp2
    go_ret
    exact ⟨rfl, hk1.same hk2⟩
  · have h100 : ((100 : Int) < (nb : Int)) = False := by simp; omega
    have h400 : (400 : Int) < (str.size : Int) := by omega
    clear h h1
    go_enter Try.func4, Try.ntmps4
    go_wp2_with fail
    refine (first10 w).mono ?_
    rintro e w1 ⟨rfl, hk1⟩
    go_wp2_with fail
    refine (first10 w1).mono ?_
    rintro e w2 ⟨rfl, hk2⟩
    go_wp2
    go_ret
    exact ⟨rfl, hk1.same hk2⟩

theorem packPuts_top (a : Option Addr) (len cap : Nat) (zs : List Int) (n : Int) (str : ByteArray) (w : World) (h : IsRow .u8 w a len cap zs) (hn : (Lit.int .i64 n).wf = true) (_hs : str.size ≤ maxLen) :
    Calls Try.prog 4 #[.slice a len cap, .int .i64 n, .string str] w (TrueP w) := by
  obtain ⟨l, _, _, _, h3⟩ := h.bytes
  have hb := bounds_i64 hn
  by_cases hfar : 100 < len ∨ 400 < str.size
  · exact puts_far a len cap n str w hfar
  · exact puts_walk a len cap l n str w h3 (by omega) (by omega) (by omega)
end Go.Proofs.Ytlmfpadlgdmflaa
