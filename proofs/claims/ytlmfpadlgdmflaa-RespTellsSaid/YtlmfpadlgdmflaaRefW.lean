/- the reference's walks: what puts numbers and texts -/
import Derived.Test.YtlmfpadlgdmflaaPackW
set_option linter.unusedSimpArgs false
set_option linter.unusedVariables false
namespace Go.Proofs.Ytlmfpadlgdmflaa
open Go.RowKit
set_option maxRecDepth 100000

theorem byte_and (V : Nat) (h : V < 9223372036854775808) : bits .and .i64 (V : Int) 255 % 256 = ((UInt8.ofNat V).toNat : Int) := by
  have e : bits .and .i64 (V : Int) 255 = IntKind.i64.wrap ((BitVec.ofInt 64 (V : Int) &&& BitVec.ofInt 64 ((255 : Nat) : Int)).toNat : Int) := rfl
  rw [e, BitVec.toNat_and, BitVec.ofInt_natCast, BitVec.ofInt_natCast, BitVec.toNat_ofNat, BitVec.toNat_ofNat, Nat.mod_eq_of_lt (show V < 2 ^ 64 by omega)]
  have h2 : V &&& (255 % 2 ^ 64) = V % 256 := Nat.and_two_pow_sub_one_eq_mod V 8
  rw [h2, IntKind.wrap_i64, UInt8.toNat_ofNat']
  omega

set_option maxHeartbeats 1600000 in
theorem ref_put (A : Option Addr) (nb c : Nat) (l : List UInt8) (w : World) (F : Nat → Prop) (hl : Sl w F 1 A nb (bvs l)) (hn : nb ≤ 1048576) (n : Int) (hn1 : n ≤ 9223372036854775807) :
    Calls Try.prog 17 #[.slice A nb c, .int .i64 n] w (OutPost w (l ++ Pk.num n)) := by
  have hnl : l.length = nb := by have := hl.1; simp at this; omega
  have Hnl := Lib.hid hnl
  clear hnl
  go_enter Try.func17, Try.ntmps17
  go_wp2_with (first | (at_builtin; refine held ?_) | (at_make; refine held ?_))
  refine unheld ?_
  refine wp_appB w.heap.size Try.underlying22 info_u8' rfl (by omega) (by simp) ((Own.lit w 5 1 #[] 0 rfl (by unfold maxLen; omega)).imp fun b _ h => by omega) (hl.alloc _) (bvs_one l) (by omega) (by omega) rfl _ _ rfl rfl rfl ?_
  intro v2 w2 ho3 hk2
  have hk3 : Pure w w2 := ((Kept.refl _ _).alloc _).trans hk2 (fun i hi h => absurd h (by omega))
  simp only [Nat.zero_add, List.nil_append] at ho3
  clear hk2
  by_cases h0 : n < 0
  · go_wp2
    go_ret
    obtain ⟨A2, c2, rfl, _, _, _, _⟩ := ho3.form
    have e : l ++ Pk.num n = l := by unfold Pk.num; rw [if_pos h0, List.append_nil]
    rw [e]
    rw [← Hnl.out] at ho3 ⊢
    exact ⟨A2, c2, rfl, ho3, hk3⟩
  · by_cases h1 : n < 248
    · have e : l ++ Pk.num n = l ++ [UInt8.ofNat n.toNat] := by unfold Pk.num; rw [if_neg h0, if_pos (by omega)]
      have E := Lib.hid e
      clear e
      go_wp2_with (first | (at_builtin; refine held ?_) | (at_make; refine held ?_))
      refine unheld ?_
      refine wp_appB w.heap.size Try.underlying22 info_u8' rfl (by omega) (by have := hk3.size; simp; omega) (ho3.alloc _) (Sl.one _ _ _) (by intro u hu; simp at hu; subst hu; rfl) (by omega) (by omega) rfl _ _ rfl rfl rfl ?_
      intro v4 w4 ho4 hk4
      go_wp2
      go_ret
      rw [E.out]
      have e2 : bvs l ++ [.int .u8 n] = bvs (l ++ [UInt8.ofNat n.toNat]) := by
        rw [bvs_append]
        simp [bvs, bv]
        omega
      have e3 : nb + 1 = (l ++ [UInt8.ofNat n.toNat]).length := by simp [Hnl.out]
      rw [e2, e3] at ho4
      obtain ⟨A2, c2, rfl, _, _, _, _⟩ := ho4.form
      exact ⟨A2, c2, rfl, ho4, (hk3.alloc _).trans hk4 (fun i hi h => absurd h (by omega))⟩
    · obtain ⟨N, rfl⟩ := Int.eq_ofNat_of_zero_le (show 0 ≤ n by omega)
      have hN1 : (248 : Int) ≤ N := by omega
      have e : l ++ Pk.num (N : Int) = l ++ [UInt8.ofNat (247 + Pk.width N)] ++ Pk.be (Pk.width N) N := by unfold Pk.num; rw [if_neg h0, if_neg (by omega)]; simp
      have E := Lib.hid e
      clear e h0 h1
      have hwd := Pk.width_le N
      go_wp2_with (first | (at_builtin; refine held ?_) | (at_make; refine held ?_))
      go_loopw [1, 6] (fun n v wr => ∃ j V : Nat, j ≤ Pk.width N ∧ V ≤ N ∧ Hid (V = N / 256 ^ j) ∧ n = .int .i64 V ∧ Own wr (fun g => w2.heap.size ≤ g) 5 1 v j (bvs (Pk.be j N)) ∧ Kept (fun g => w2.heap.size ≤ g) w2 wr)
        (fun n _ _ => (intOf n).toNat)
      case atStart => exact ⟨0, N, Nat.zero_le _, Nat.le_refl _, by simp [Hid], rfl, Own.nil _ _ _ _, Kept.refl _ _⟩
      case round =>
        obtain ⟨j, V, hj, hVN, hV, rfl, hor, hkr⟩ := hrel
        by_cases hV0 : 0 < V
        · have hjw : j + 1 ≤ Pk.width N := Pk.width_up N j V hV.out hV0 (by omega)
          go_wp2_with (first | (at_builtin; refine held ?_) | (at_make; refine held ?_))
          refine unheld ?_
          obtain ⟨A5, c5, rfl, _, _, _, hs5⟩ := hor.form
          refine wp_appB w2.heap.size Try.underlying22 info_u8' rfl (by omega) (by have := hkr.size; simp; omega) ((Own.lit wr _ 1 _ 1 rfl (by unfold maxLen; omega)).imp fun b _ h => by have := hkr.size; omega) (hs5.alloc _) (bvs_one _) (by omega) (by omega) rfl _ _ rfl rfl rfl ?_
          intro v6 w6 ho6 hk6
          have hk7 := (hkr.alloc _).trans hk6 (fun i hi h => h)
          go_wp2
          go_roundw
          case rel =>
            refine ⟨j + 1, V / 256, hjw, by omega, by rw [Hid, hV.out, Nat.div_div_eq_div_mul, Nat.pow_succ], by go_num, ?_, hk7⟩
            have e : (#[Value.int .u8 (bits .and .i64 (V : Int) 255 % 256)] : Array Value).toList ++ bvs (Pk.be j N) = bvs (Pk.be (j + 1) N) := by
              rw [byte_and V (by omega), hV.out]
              rfl
            rw [e, Nat.add_comm 1 j] at ho6
            exact ho6
          case measure => simp [intOf]; omega
        · obtain rfl : V = 0 := by omega
          have hjw := Pk.width_end N j 0 hV.out rfl hj (by omega)
          subst hjw
          obtain ⟨K, hK⟩ : ∃ K, K = Pk.width N := ⟨_, rfl⟩
          rw [← hK] at hwd hor ⊢
          have HK := Lib.hid hK
          clear hK hj
          obtain ⟨A5, c5, rfl, _, _, _, hs5⟩ := hor.form
          have hw2 := hk3.size
          have hwr := hkr.size
          have ho4 := (ho3.imp (G := fun g => w.heap.size ≤ g ∧ g < w2.heap.size) (fun b hb h => ⟨h, hb⟩)).kept hkr (fun b _ h1 h2 => by omega)
          have hk5 : Pure w wr := hk3.trans hkr (fun i hi h => absurd h (by omega))
          clear ho3
          go_wp2_with (first | (at_builtin; refine held ?_) | (at_make; refine held ?_))
          refine unheld ?_
          refine wp_app Try.underlying22 info_u8' rfl (by omega) (ho4.alloc _) (Sl.one _ _ _) (by intro u hu; simp at hu; subst hu; rfl) (by omega) (by omega) rfl _ _ rfl rfl rfl ?_
          intro v7 w7 ho7 hk7
          have hk8 : Pure w w7 := (hk5.alloc _).trans hk7 (fun i hi h => absurd h.1 (by omega))
          have ho8 := ho7.imp (G := fun g => w.heap.size ≤ g) (fun b _ h => by rcases h with h | h; exact h.1; simp at h; omega)
          have hs6 := (hs5.alloc (.cells #[Value.int .u8 (247 + (K : Int))] 5)).kept hk7 (fun b _ h1 h2 => by omega)
          go_wp2_with (first | (at_builtin; refine held ?_) | (at_make; refine held ?_))
          refine unheld ?_
          refine wp_appB w.heap.size Try.underlying22 info_u8' rfl (by omega) hk8.size ho8 hs6 (bvs_one _) (by omega) (by omega) rfl _ _ rfl rfl rfl ?_
          intro v9 w9 ho9 hk9
          go_wp2
          go_ret
          rw [E.out, ← HK.out]
          have e2 : bvs l ++ [.int .u8 (247 + (K : Int))] ++ bvs (Pk.be K N) = bvs (l ++ [UInt8.ofNat (247 + K)] ++ Pk.be K N) := by
            rw [bvs_append, bvs_append]
            congr 2
            simp [bvs, bv]
            omega
          have e3 : nb + 1 + K = (l ++ [UInt8.ofNat (247 + K)] ++ Pk.be K N).length := by simp [Hnl.out, Pk.be_length]; omega
          rw [e2, e3] at ho9
          obtain ⟨A2, c2, rfl, _, _, _, _⟩ := ho9.form
          exact ⟨A2, c2, rfl, ho9, hk8.trans hk9 (fun i hi h => absurd h (by omega))⟩

/-- The reference's 'Text'. -/
theorem ref_text_put (A : Option Addr) (nb c : Nat) (l : List UInt8) (w : World) (F : Nat → Prop) (hl : Sl w F 1 A nb (bvs l)) (hn : nb ≤ 1048576) (str : ByteArray) (hs : str.size ≤ 1048576) :
    Calls Try.prog 18 #[.slice A nb c, .string str] w (OutPost w (l ++ Pk.text str.data.toList)) := by
  have h1 := ref_put A nb c l w F hl hn str.size (by omega)
  obtain ⟨P0, hP0⟩ : ∃ P0, P0 = l ++ Pk.num (str.size : Int) := ⟨_, rfl⟩
  rw [← hP0] at h1
  have e1 : str.data.toList.length = str.size := by rw [Array.length_toList]; rfl
  have hlen : P0.length ≤ 1048576 + 9 := by
    have := Pk.num_length_le (str.size : Int)
    have h2 := hl.1
    rw [bvs_length, Nat.mul_one] at h2
    rw [hP0, List.length_append]
    omega
  have E : Hid (l ++ Pk.text str.data.toList = P0 ++ str.data.toList) := by
    rw [Hid, Pk.text, e1, hP0, List.append_assoc]
  have E1 := Lib.hid e1
  have H1 := Lib.hid h1
  clear e1 hP0 h1
  go_enter Try.func18, Try.ntmps18
  go_wp2_with (first | (at_builtin; refine held ?_) | (at_make; refine held ?_))
  refine H1.out.mono ?_
  rintro e w1 ⟨A1, c1, rfl, ho1, hk1⟩
  go_wp2_with (first | (at_builtin; refine held ?_) | (at_make; refine held ?_))
  refine unheld ?_
  refine wp_app_stringB w.heap.size Try.underlying22 Try.underlying9 info_u8' hk1.size ho1 (by omega) rfl _ _ rfl rfl rfl ?_
  intro v2 w2 ho2 hk2
  go_wp2
  go_ret
  rw [E.out]
  have e3 : P0.length + str.size = (P0 ++ str.data.toList).length := by rw [List.length_append, E1.out]
  rw [← bvs_append, e3] at ho2
  obtain ⟨A2, c2, rfl, _, _, _, _⟩ := ho2.form
  exact ⟨A2, c2, rfl, ho2, hk1.trans hk2 (fun i hi h => absurd h (by omega))⟩
end Go.Proofs.Ytlmfpadlgdmflaa
