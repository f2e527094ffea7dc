/- PackOne: the walk -/
import Derived.Test.YtlmfpadlgdmflaaPackL
import Derived.Test.YtlmfpadlgdmflaaMix
import Derived.Test.YtlmfpadlgdmflaaOpen
namespace Go.Proofs.Ytlmfpadlgdmflaa
set_option linter.unusedSimpArgs false
set_option linter.unusedVariables false
open Go.RowKit
set_option maxRecDepth 100000
set_option linter.unusedVariables false

theorem TrueP.pure {w w1 : World} {e : Ending} {w' : World} (h : Pure w w1) (k : TrueP w1 e w') : TrueP w e w' := ⟨k.1, h.same k.2⟩

set_option maxHeartbeats 1600000 in
theorem one_walk (A : Option Addr) (n c : Nat) (l : List UInt8) (w : World) (hl : Sl w (fun _ => True) 1 A n (bvs l)) (hc1 : n ≤ c) (hc2 : c ≤ 9223372036854775807) :
    Calls Try.prog 3 #[.slice A n c] w (TrueP w) := by
  have hnl : l.length = n := by have := hl.1; rw [bvs_length] at this; omega
  by_cases h100 : n ≤ 100
  · have Hnl := Lib.hid hnl
    have hl0 := hl
    clear hnl
    go_enter Try.func3, Try.ntmps3
    go_wp2_with fail
    refine (first10 w).mono ?_
    rintro e w1 ⟨rfl, hk1⟩
    have hl1 := hl.kept hk1 (fun _ _ _ h => h)
    go_wp2_with fail
    refine (read_any A n c l w1 _ hl1 (by omega)).mono ?_
    rintro e w2 ⟨g, rfl, hrd, hk2⟩
    have hk3 : Pure w w2 := hk1.same hk2
    have hg : w.heap.size ≤ g := Nat.le_trans hk1.size hrd.1
    go_wp2_with fail
    refine (num_any w2 _ g _ hrd).mono ?_
    rintro e w3 ⟨rfl, hrd3, hk4⟩
    have hk5 : Pure w w3 := hk3.trans hk4 (by intro i hi e; omega)
    go_wp2_with fail
    refine (err_any w3 _ g _ hrd3).mono ?_
    rintro e w4 ⟨rfl, rfl⟩
    clear hrd hk4 hk3 hk2 hk1
    rcases Pk.front_ways l with ⟨e, hf, hee⟩ | ⟨m, k, hf, hn0, hn1, hk0, hkl⟩
    · have hs : Pk.St.num ⟨l, 0, 0⟩ = (0, ⟨l, 0, e⟩) := by
        unfold Pk.St.num
        rw [if_neg (by simp)]
        simp only [List.drop_zero, hf]
        rw [if_pos (by omega)]
      rw [hs] at hrd3 ⊢
      have hne : (e != 0) = true := by simp; omega
      clear hs hf hee
      go_wp2_with fail
      refine (left_any w3 _ g _ hrd3).mono ?_
      rintro e w4 ⟨rfl, nd, rfl⟩
      simp only [Pk.St.left]
      have hln : ((l.length : Int) - ((0 : Nat) : Int)) = (n : Int) := by have := Hnl.out; omega
      rw [hln]
      go_wp2
      go_ret
      exact ⟨rfl, hk5.drewN _⟩
    · have hs : Pk.St.num ⟨l, 0, 0⟩ = (m, ⟨l, k, 0⟩) := by
        unfold Pk.St.num
        rw [if_neg (by simp)]
        simp only [List.drop_zero, hf]
        rw [if_neg (by simp)]
        simp
      rw [hs] at hrd3 ⊢
      have hnum := Pk.num_front l m k hf
      have hkn : k ≤ n := by have := Hnl.out; omega
      have hk1' : (1 : Int) ≤ (k : Int) := by omega
      have hkn' : (k : Int) ≤ (n : Int) := by omega
      clear hs hf
      go_wp2_with fail
      refine (left_any w3 _ g _ hrd3).mono ?_
      rintro e w4 ⟨rfl, nd, rfl⟩
      simp only [Pk.St.left]
      have hln : ((l.length : Int) - (k : Int)) = (n : Int) - (k : Int) := by have := Hnl.out; omega
      rw [hln]
      have hk6 := hk5.drewN nd
      generalize w3.drewN nd = w4 at hk6 ⊢
      have hput := fun w' => put_any none 0 0 [] w' (fun _ => False) (Sl.nil _ _ _ _) (by omega) m hn1
      rw [List.nil_append] at hput
      rw [hnum] at hput
      obtain ⟨T, hT⟩ : ∃ T, T = l.take k := ⟨_, rfl⟩
      have hcvb : ∀ w', Pure w w' → (convert 22 9 (.slice A k c)).run Try.prog w' = .ok (.string ⟨T.toArray⟩) w' := by
        intro w' hw'
        have := (hl0.pre k hkn).kept hw' (fun _ _ _ h => h)
        rw [Nat.mul_one, ← bvs_take, ← hT] at this
        exact run_str this _ _ _ c Try.underlying22 Try.underlying5 Try.underlying9
      rw [← hT] at hput
      have Hput := Lib.hid hput
      have hcut : (n : Int) - ((n : Int) - (k : Int)) = (k : Int) := by omega
      clear hln hput hnum hk5 hrd3 hl hl0 hl1 hT
      go_wp2_with fail
      have hkd := hk6.drew
      have hkc : k ≤ c := by omega
      refine wp_region_mix (fun w' => Pure w w') [14] (by kernel_rfl) (by kernel_rfl) (by kernel_rfl) hkd ?_
      repeat (refine mix_step (fun K hK => ?_); go_simp; first | (refine ex_steady ?_ (fun w' hw' => ?_) ?_; rotate_left; (replace hw' : Pure _ w' := hw'; go_simp; first | done | rfl); (refine hK _ _ ?_; clear hK K)) | (refine hK _ _ ?_; clear hK K))
      refine mix_call (by decide) (fun K hK => ?_)
      go_simp
      unfold move
      go_simp
      refine move_enter ((Hput.out _).mono ?_)
      rintro e w5 ⟨A1, c1, rfl, ho, hk7⟩
      refine ⟨_, rfl, fun x => Pure w5 x, ⟨hkd.same hk7, by simp; exact Kept.refl _ _⟩, hK _ _ _ ?_⟩
      clear hK K
      have hs2 := ho.sl
      have hcva : ∀ w', Pure w5 w' → (convert 22 9 (.slice A1 T.length c1)).run Try.prog w' = .ok (.string ⟨T.toArray⟩) w' := fun w' hw' => run_str (P := Try.prog) (hs2.kept hw' fun _ _ _ h => h) 22 9 5 c1 Try.underlying22 Try.underlying5 Try.underlying9
      (refine mix_step_in 14 (fun x => Pure w5 x) (List.mem_cons_self ..) (by kernel_rfl) (fun K hK => ?_); go_simp; first | (refine ex_steady ?_ (fun w' hw' => ?_) ?_; rotate_left; (replace hw' : Pure _ w' := hw'; go_simp; first | done | rfl); (refine hK _ _ ?_; clear hK K)) | (refine hK _ _ ?_; clear hK K))
      repeat (refine mix_step (fun K hK => ?_); go_simp; first | (refine ex_steady ?_ (fun w' hw' => ?_) ?_; rotate_left; (replace hw' : Pure _ w' := hw'; go_simp; first | done | rfl); (refine hK _ _ ?_; clear hK K)) | (refine hK _ _ ?_; clear hK K))
      refine mix_nil ?_
      intro hw'
      go_wp2
      go_ret
      exact ⟨rfl, hw'⟩
  · have h100' : (100 : Int) < (n : Int) := by omega
    clear hnl
    go_enter Try.func3, Try.ntmps3
    go_wp2_with fail
    refine (first10 w).mono ?_
    rintro e w1 ⟨rfl, hk1⟩
    go_wp2_with fail
    refine (first10 w1).mono ?_
    rintro e w2 ⟨rfl, hk2⟩
    go_wp2
    go_ret
    exact ⟨rfl, hk1.same hk2⟩

theorem packOne_top (a : Option Addr) (len cap : Nat) (zs : List Int) (w : World) (h : IsRow .u8 w a len cap zs) : Calls Try.prog 3 #[.slice a len cap] w (TrueP w) := by
  obtain ⟨l, h1, h2, _, h3⟩ := h.bytes
  unfold maxLen at h2
  exact one_walk a len cap l w h3 h1 (by omega)
end Go.Proofs.Ytlmfpadlgdmflaa
