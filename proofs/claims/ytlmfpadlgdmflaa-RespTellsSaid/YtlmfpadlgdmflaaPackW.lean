/- pack's walks: what puts numbers and texts -/
import Derived.Test.YtlmfpadlgdmflaaLib
import Derived.Test.YtlmfpadlgdmflaaPack
import Derived.Test.YtlmfpadlgdmflaaRows
namespace Go.Proofs.Ytlmfpadlgdmflaa
set_option linter.unusedSimpArgs false
set_option linter.unusedVariables false
open Go.RowKit
set_option maxRecDepth 100000
set_option linter.unusedVariables false
theorem info_u8' : (Try.prog.info? 5).map (fun i => (i.zero, i.size, i.bytes)) = some (some (.int .u8 0), 1, 1) := by kernel_rfl

theorem byte_shift (N p : Nat) : [Value.int .u8 ((N : Int) / 2 ^ (8 * p) % 256)] = bvs [UInt8.ofNat (N / 256 ^ p)] := by
  have h1 : ((N / 256 ^ p : Nat) : Int) = (N : Int) / 2 ^ (8 * p) := by
    have e : (256 : Nat) ^ p = 2 ^ (8 * p) := by rw [Nat.pow_mul]
    rw [e]
    simp
  simp only [bvs, bv, List.map_cons, List.map_nil, UInt8.toNat_ofNat', ← h1]
  norm_cast

/-- New bytes are handed back; nothing that was there has turned. -/
def OutPost (w : World) (l : List UInt8) (e : Ending) (w' : World) : Prop :=
  ∃ A c, e = .returned (.slice A l.length c) ∧ Own w' (fun g => w.heap.size ≤ g) 5 1 (.slice A l.length c) l.length (bvs l) ∧ Pure w w'


set_option maxHeartbeats 1600000 in
theorem put_any (A : Option Addr) (nb c : Nat) (l : List UInt8) (w : World) (F : Nat → Prop) (hl : Sl w F 1 A nb (bvs l)) (hn : nb ≤ 1048576) (n : Int) (hn1 : n ≤ 9223372036854775807) :
    Calls Try.prog 15 #[.slice A nb c, .int .i64 n] w (OutPost w (l ++ Pk.num n)) := by
  have hnl : l.length = nb := by have := hl.1; simp at this; omega
  have Hnl := Lib.hid hnl
  clear hnl
  go_enter Try.func15, Try.ntmps15
  go_wp2_with (first | (at_builtin; refine held ?_) | (at_make; refine held ?_))
  refine unheld ?_
  refine wp_make0 Try.underlying22 info_u8' (m := nb + 9) (by omega) (by omega) (by omega) rfl rfl rfl rfl ?_
  intro v1 w1 ho1 hk1
  go_wp2_with (first | (at_builtin; refine held ?_) | (at_make; refine held ?_))
  refine unheld ?_
  refine wp_app Try.underlying22 info_u8' rfl (by omega) ho1 (hl.kept hk1 fun _ _ _ h => h) (bvs_one l) (by omega) (by omega) rfl _ _ rfl rfl rfl ?_
  intro v2 w2 ho2 hk2
  have hk3 : Pure w w2 := hk1.trans hk2 (fun i hi h => absurd h (by omega))
  have hw1 := hk1.size
  have ho3 := ho2.imp (G := fun g => w.heap.size ≤ g) (fun b _ h => by rcases h with h | h <;> omega)
  simp only [Nat.zero_add, List.nil_append] at ho3
  clear ho1 hk1 ho2 hk2
  by_cases h0 : n < 0
  · go_wp2
    go_ret
    obtain ⟨A2, c2, rfl, _, _, _, _⟩ := ho3.form
    have e : l ++ Pk.num n = l := by unfold Pk.num; rw [if_pos h0, List.append_nil]
    rw [e]
    rw [← Hnl.out] at ho3 ⊢
    exact ⟨A2, c2, rfl, ho3, hk3⟩
  · by_cases h1 : n ≤ 247
    · have e : l ++ Pk.num n = l ++ [UInt8.ofNat n.toNat] := by unfold Pk.num; rw [if_neg h0, if_pos h1]
      have E := Lib.hid e
      clear e
      go_wp2_with (first | (at_builtin; refine held ?_) | (at_make; refine held ?_))
      refine unheld ?_
      refine wp_appB w.heap.size Try.underlying22 info_u8' rfl (by omega) (by have := hk3.size; simp; omega) (ho3.alloc _) (Sl.one _ _ _) (by intro u hu; simp at hu; subst hu; rfl) (by omega) (by omega) rfl _ _ rfl rfl rfl ?_
      intro v4 w4 ho4 hk4
      go_wp2
      go_ret
      rw [E.out]
      have e2 : bvs l ++ [.int .u8 n] = bvs (l ++ [UInt8.ofNat n.toNat]) := by
        rw [bvs_append]
        simp [bvs, bv]
        omega
      have e3 : nb + 1 = (l ++ [UInt8.ofNat n.toNat]).length := by simp [Hnl.out]
      rw [e2, e3] at ho4
      obtain ⟨A2, c2, rfl, _, _, _, _⟩ := ho4.form
      exact ⟨A2, c2, rfl, ho4, (hk3.alloc _).trans hk4 (fun i hi h => absurd h (by omega))⟩
    · obtain ⟨N, rfl⟩ := Int.eq_ofNat_of_zero_le (show 0 ≤ n by omega)
      have hN1 : (248 : Int) ≤ N := by omega
      have e : l ++ Pk.num (N : Int) = l ++ [UInt8.ofNat (247 + Pk.width N)] ++ Pk.be (Pk.width N) N := by unfold Pk.num; rw [if_neg h0, if_neg h1]; simp
      have E := Lib.hid e
      clear e h0 h1
      have hwd := Pk.width_le N
      go_wp2_with (first | (at_builtin; refine held ?_) | (at_make; refine held ?_))
      go_loop [6] (fun k => ∃ j : Nat, j ≤ Pk.width N ∧ k = .int .i64 j) (fun k => 8 - (intOf k).toNat)
      case atStart => exact ⟨0, Nat.zero_le _, rfl⟩
      case round =>
        obtain ⟨j, hj, rfl⟩ := hrel
        go_wp2_with (first | (at_builtin; refine held ?_) | (at_make; refine held ?_))
        · have h1 : (j : Int) < 8 := by assumption
          have h2 : ((N : Int) / 2 ^ (8 * j) != 0) = true := by assumption
          go_round
          case rel => exact ⟨j + 1, Pk.width_more N j hj (by omega) h2, by go_num⟩
          case measure => simp [intOf]; omega
        all_goals
          have hjw : j = Pk.width N := by
            first
            | (have h2 : ((N : Int) / 2 ^ (8 * j) != 0) = false := by assumption
               exact Pk.width_done N j hj h2 (by omega))
            | (have h2 : ¬ ((N : Int) / 2 ^ (8 * j) != 0) = true := by assumption
               exact Pk.width_done N j hj (by simpa using h2) (by omega))
            | (have h2 : (8 : Int) ≤ (j : Int) := by assumption
               omega)
          subst hjw
          obtain ⟨K, hK⟩ : ∃ K, K = Pk.width N := ⟨_, rfl⟩
          rw [← hK] at hwd ⊢
          have HK := Lib.hid hK
          clear hK hj
          refine unheld ?_
          refine wp_appB w.heap.size Try.underlying22 info_u8' rfl (by omega) (by have := hk3.size; simp; omega) (ho3.alloc _) (Sl.one _ _ _) (by intro u hu; simp at hu; subst hu; rfl) (by omega) (by omega) rfl _ _ rfl rfl rfl ?_
          intro v4 w4 ho4 hk4
          go_wp2_with (first | (at_builtin; refine held ?_) | (at_make; refine held ?_))
          have hk5 : Pure w w4 := (hk3.alloc _).trans hk4 (fun i hi h => absurd h (by omega))
          obtain ⟨P0, hP0⟩ : ∃ P0, P0 = l ++ [UInt8.ofNat (247 + K)] := ⟨_, rfl⟩
          have e2 : bvs l ++ [.int .u8 (247 + (K : Int))] = bvs P0 := by
            rw [hP0, bvs_append]
            simp [bvs, bv]
            omega
          rw [e2] at ho4
          have HP0 := Lib.hid hP0
          clear hP0 e2
          go_loopw [5, 7] (fun v i wr => ∃ m : Nat, m ≤ K ∧ i = .int .i64 ((m : Int) - 1) ∧ Own wr (fun g => w.heap.size ≤ g) 5 1 v (nb + 1 + (K - m)) (bvs (P0 ++ (Pk.be K N).take (K - m))) ∧ Pure w wr)
            (fun _ i _ => (intOf i + 1).toNat)
          case atStart => exact ⟨K, Nat.le_refl _, rfl, by simpa using ho4, hk5⟩
          case round =>
            obtain ⟨m, hm, rfl, hor, hkr⟩ := hrel
            clear ho4 hk4 hk5
            cases m with
            | zero =>
              go_wp2
              go_ret
              rw [E.out, ← HK.out, ← HP0.out]
              have e3 : nb + 1 + (K - 0) = (P0 ++ Pk.be K N).length := by rw [List.length_append, HP0.out, Pk.be_length]; simp [Hnl.out]
              rw [Nat.sub_zero, List.take_of_length_le (by rw [Pk.be_length]; omega)] at hor
              rw [Nat.sub_zero] at e3
              rw [e3] at hor
              obtain ⟨A2, c2, rfl, _, _, _, _⟩ := hor.form
              exact ⟨A2, c2, rfl, hor, hkr⟩
            | succ p =>
              have e : ((p + 1 : Nat) : Int) - 1 = (p : Int) := by omega
              rw [e]
              clear e
              go_wp2_with (first | (at_builtin; refine held ?_) | (at_make; refine held ?_))
              refine unheld ?_
              refine wp_appB w.heap.size Try.underlying22 info_u8' rfl (by omega) (by have := hkr.size; simp; omega) (hor.alloc _) (Sl.one _ _ _) (by intro u hu; simp at hu; subst hu; rfl) (by omega) (by omega) rfl _ _ rfl rfl rfl ?_
              intro v6 w6 ho6 hk6
              have hk7 : Pure w w6 := (hkr.alloc _).trans hk6 (fun i hi h => absurd h (by omega))
              clear hk6
              go_wp2
              go_roundw
              case rel =>
                refine ⟨p, by omega, rfl, ?_, hk7⟩
                rw [Pk.be_take N K p (by omega), ← List.append_assoc, bvs_append, show K - p = K - (p + 1) + 1 from by omega, ← Nat.add_assoc]
                rw [byte_shift] at ho6
                exact ho6
              case measure => simp [intOf]

/-- 'Text': the bytes, and a text behind them. -/
theorem text_put (A : Option Addr) (nb c : Nat) (l : List UInt8) (w : World) (F : Nat → Prop) (hl : Sl w F 1 A nb (bvs l)) (hn : nb ≤ 1048576) (str : ByteArray) (hs : str.size ≤ 1048576) :
    Calls Try.prog 16 #[.slice A nb c, .string str] w (OutPost w (l ++ Pk.text str.data.toList)) := by
  have h1 := put_any A nb c l w F hl hn str.size (by omega)
  obtain ⟨P0, hP0⟩ : ∃ P0, P0 = l ++ Pk.num (str.size : Int) := ⟨_, rfl⟩
  rw [← hP0] at h1
  have e1 : str.data.toList.length = str.size := by rw [Array.length_toList]; rfl
  have hlen : P0.length ≤ 1048576 + 9 := by
    have := Pk.num_length_le (str.size : Int)
    have h2 := hl.1
    rw [bvs_length, Nat.mul_one] at h2
    rw [hP0, List.length_append]
    omega
  have E : Hid (l ++ Pk.text str.data.toList = P0 ++ str.data.toList) := by
    rw [Hid, Pk.text, e1, hP0, List.append_assoc]
  have E1 := Lib.hid e1
  have H1 := Lib.hid h1
  clear e1 hP0 h1
  go_enter Try.func16, Try.ntmps16
  go_wp2_with (first | (at_builtin; refine held ?_) | (at_make; refine held ?_))
  refine H1.out.mono ?_
  rintro e w1 ⟨A1, c1, rfl, ho1, hk1⟩
  go_wp2_with (first | (at_builtin; refine held ?_) | (at_make; refine held ?_))
  refine unheld ?_
  refine wp_app_stringB w.heap.size Try.underlying22 Try.underlying9 info_u8' hk1.size ho1 (by omega) rfl _ _ rfl rfl rfl ?_
  intro v2 w2 ho2 hk2
  go_wp2
  go_ret
  rw [E.out]
  have e3 : P0.length + str.size = (P0 ++ str.data.toList).length := by rw [List.length_append, E1.out]
  rw [← bvs_append, e3] at ho2
  obtain ⟨A2, c2, rfl, _, _, _, _⟩ := ho2.form
  exact ⟨A2, c2, rfl, ho2, hk1.trans hk2 (fun i hi h => absurd h (by omega))⟩
end Go.Proofs.Ytlmfpadlgdmflaa
