/-
  TelMatch walked.
-/
import Derived.Test.YtemjpmkmpfpdhaaDoorTlG
import Derived.OpenShut
set_option linter.unusedSimpArgs false
set_option linter.unusedVariables false
namespace Go.Proofs.YtemjpmkmpfpdhaaDoor
open Go.RowKit
set_option maxRecDepth 100000
open Go.WideShapes Go.ChangeShapes

theorem and_3 (n : Int) : ∃ V : Nat, bits .and .i64 n 3 = (V : Int) ∧ V ≤ 3 := by
  have e : bits .and .i64 n 3 = IntKind.i64.wrap ((BitVec.ofInt 64 n &&& BitVec.ofInt 64 ((3 : Nat) : Int)).toNat : Int) := rfl
  have h2 : (BitVec.ofInt 64 n &&& BitVec.ofInt 64 ((3 : Nat) : Int)).toNat ≤ 3 := by
    rw [BitVec.toNat_and, BitVec.ofInt_natCast, BitVec.toNat_ofNat]
    have : (BitVec.ofInt 64 n).toNat &&& (3 % 2 ^ 64) = (BitVec.ofInt 64 n).toNat % 4 := Nat.and_two_pow_sub_one_eq_mod _ 2
    rw [this]
    omega
  refine ⟨_, ?_, h2⟩
  rw [e, IntKind.wrap_i64]
  omega


set_option maxHeartbeats 3200000 in
theorem tmatch_any (n more : Int) (plus : Bool) (w : World) (hT : Tb w) (h0 : 0 ≤ n) (h1 : n < 18446744073709551616) : Calls Tryd.prog 9 #[.int .u64 n, .int .i64 more, .bool plus] w (TrueF w) := by
  have C0 := Lib.hid (tfirst w hT)
  obtain ⟨N, hN⟩ : ∃ N : Nat, n % 1000000000 = (N : Int) := ⟨(n % 1000000000).toNat, by omega⟩
  have hN9 : N < 1000000000 := by omega
  have Cd := Lib.hid (fun w => digits_any N w hN9)
  obtain ⟨V, hV, hV3⟩ := and_3 more
  have hdl := digs_len 9 N (by omega) (by omega)
  have hds := mk_size (digs N)
  have hdd : (ByteArray.mk (digs N).toArray).data.toList = digs N := by simp
  have Hd := Lib.hid (fun w => is_any ⟨(digs N).toArray⟩ w (by omega))
  have hlaw := fun s hs => match_law N s hs
  rw [hdd] at Hd
  generalize hDD : ByteArray.mk (digs N).toArray = D at *
  have HDl := Lib.hid hds
  have Hdl : D.size ≤ 9 := by omega
  have HL := Lib.hid hlaw
  have HDD := Lib.hid hdd
  have HV := Lib.hid hV3
  clear hT hDD hds hdl hdd hlaw hV3
  go_enter Tryd.func9, Tryd.ntmps9
  go_wp2_with fail
  refine (C0.out).mono ?_
  rintro e w1 ⟨rfl, k1⟩
  go_wp2_with fail
  refine (Cd.out _).mono ?_
  rintro e w2 ⟨rfl, k2⟩
  have hk := Lib.hid (k1.same k2)
  clear k1 k2 C0 Cd
  go_wp2_with fail
  go_loop [8, 9] (fun s i => ∃ (k : Nat) (S : ByteArray), s = .string S ∧ i = .int .i64 k ∧ k ≤ V ∧ S.size = D.size + k ∧ Hid (S.data.toList = List.replicate k 48 ++ digs N)) (fun _ i => V - (intOf i).toNat)
  case atStart => exact ⟨0, D, rfl, rfl, by omega, rfl, by simpa [Hid] using HDD.out⟩
  case round =>
    obtain ⟨k, S, rfl, rfl, hkV, hS, hh⟩ := hrel
    have hV3 := HV.out
    by_cases hlt : k < V
    · have z1 : (⟨#[48]⟩ : ByteArray).size = 1 := rfl
      have hsz : ((⟨#[48]⟩ : ByteArray) ++ S).size = D.size + (k + 1) := by rw [ByteArray.size_append]; omega
      have g1 : ((9223372036854775807 : Int) < (((⟨#[48]⟩ : ByteArray) ++ S).size : Int)) = False := eq_false (by omega)
      have g1' : (9223372036854775807 < 1 + S.size) = False := eq_false (by omega)
      have Hn : Hid (((⟨#[48]⟩ : ByteArray) ++ S).data.toList = List.replicate (k + 1) 48 ++ digs N) := by
        rw [Hid, app_data, hh.out, List.replicate_succ]; rfl
      have Hsz := Lib.hid hsz
      clear hsz hS z1
      go_wp2
      go_roundw
      case measure => first | omega | (simp [intOf]; omega)
      case rel => exact ⟨k + 1, _, rfl, by first | rfl | go_num, hlt, Hsz.out, Hn⟩
    · have hD := HDD.out
      cases plus with
      | false =>
        have hlaw := HL.out S.data.toList (.inl ⟨k, hh.out⟩)
        have hS1000 : S.size ≤ 1000 := by omega
        have Hs := Lib.hid (fun w => is_any S w hS1000)
        have M1 := Lib.hid (fun w => match_any D S w (by omega) hS1000)
        have M2 := Lib.hid (fun w => match_any S D w hS1000 (by omega))
        have M3 := Lib.hid (fun w => match_any D D w (by omega) (by omega))
        rw [hD] at M1 M2 M3
        generalize S.data.toList = sl at *
        have L1 := hlaw.1
        have L2 := hlaw.2
        generalize isL sl = q at *
        generalize isL (digs N) = p at *
        generalize matchL (digs N) sl = m1 at *
        generalize matchL sl (digs N) = m2 at *
        generalize matchL (digs N) (digs N) = m3 at *
        cases p with
        | false =>
          obtain rfl := L1 (.inl rfl)
          clear L1 L2 hlaw hD
          go_wp2_with fail
          refine (Hd.out _).mono ?_
          rintro e w' ⟨rfl, rfl⟩
          go_wp2_with fail
          refine (M1.out _).mono ?_
          rintro e w' ⟨rfl, rfl⟩
          go_wp2
          go_ret
          exact ⟨rfl, hk.out⟩
        | true =>
          cases q with
          | false =>
            obtain rfl := L1 (.inr rfl)
            clear L1 L2 hlaw hD
            go_wp2_with fail
            refine (Hd.out _).mono ?_
            rintro e w' ⟨rfl, rfl⟩
            go_wp2_with fail
            refine (Hs.out _).mono ?_
            rintro e w' ⟨rfl, rfl⟩
            go_wp2_with fail
            refine (M1.out _).mono ?_
            rintro e w' ⟨rfl, rfl⟩
            go_wp2
            go_ret
            exact ⟨rfl, hk.out⟩
          | true =>
            obtain ⟨e1, e2, e3⟩ := L2 rfl rfl
            rw [e1] at M1
            rw [e2] at M2
            rw [e3] at M3
            have hln : decide (5 ≤ (digs N).length) = decide ((5 : Int) ≤ (D.size : Int)) := decide_eq_decide.2 (by have := HDl.out; omega)
            rw [hln] at M1 M2 M3
            clear e1 e2 e3 L1 L2 hlaw hD hln
            go_wp2_with fail
            refine (Hd.out _).mono ?_
            rintro e w' ⟨rfl, rfl⟩
            go_wp2_with fail
            refine (Hs.out _).mono ?_
            rintro e w' ⟨rfl, rfl⟩
            go_wp2_with fail
            refine (M1.out _).mono ?_
            rintro e w' ⟨rfl, rfl⟩
            go_wp2_with fail
            refine (M2.out _).mono ?_
            rintro e w' ⟨rfl, rfl⟩
            go_wp2_with fail
            refine (M3.out _).mono ?_
            rintro e w' ⟨rfl, rfl⟩
            go_wp2
            go_ret
            exact ⟨rfl, hk.out⟩
      | true =>
        have z1 : (⟨#[43, 52, 57]⟩ : ByteArray).size = 3 := rfl
        have g1' : (9223372036854775807 < 3 + D.size) = False := eq_false (by omega)
        have g1 : ((9223372036854775807 : Int) < (((⟨#[43, 52, 57]⟩ : ByteArray) ++ D).size : Int)) = False := eq_false (by rw [ByteArray.size_append]; omega)
        go_wp2_with fail
        have hSs : ((⟨#[43, 52, 57]⟩ : ByteArray) ++ D).size ≤ 100 := by rw [ByteArray.size_append]; omega
        have hlaw := HL.out ((⟨#[43, 52, 57]⟩ : ByteArray) ++ D).data.toList (.inr (by rw [app_data, hD]))
        generalize (⟨#[43, 52, 57]⟩ : ByteArray) ++ D = S at *
        have hS1000 : S.size ≤ 1000 := by omega
        have Hs := Lib.hid (fun w => is_any S w hS1000)
        have M1 := Lib.hid (fun w => match_any D S w (by omega) hS1000)
        have M2 := Lib.hid (fun w => match_any S D w hS1000 (by omega))
        have M3 := Lib.hid (fun w => match_any D D w (by omega) (by omega))
        rw [hD] at M1 M2 M3
        generalize S.data.toList = sl at *
        have L1 := hlaw.1
        have L2 := hlaw.2
        generalize isL sl = q at *
        generalize isL (digs N) = p at *
        generalize matchL (digs N) sl = m1 at *
        generalize matchL sl (digs N) = m2 at *
        generalize matchL (digs N) (digs N) = m3 at *
        cases p with
        | false =>
          obtain rfl := L1 (.inl rfl)
          clear L1 L2 hlaw hD
          go_wp2_with fail
          refine (Hd.out _).mono ?_
          rintro e w' ⟨rfl, rfl⟩
          go_wp2_with fail
          refine (M1.out _).mono ?_
          rintro e w' ⟨rfl, rfl⟩
          go_wp2
          go_ret
          exact ⟨rfl, hk.out⟩
        | true =>
          cases q with
          | false =>
            obtain rfl := L1 (.inr rfl)
            clear L1 L2 hlaw hD
            go_wp2_with fail
            refine (Hd.out _).mono ?_
            rintro e w' ⟨rfl, rfl⟩
            go_wp2_with fail
            refine (Hs.out _).mono ?_
            rintro e w' ⟨rfl, rfl⟩
            go_wp2_with fail
            refine (M1.out _).mono ?_
            rintro e w' ⟨rfl, rfl⟩
            go_wp2
            go_ret
            exact ⟨rfl, hk.out⟩
          | true =>
            obtain ⟨e1, e2, e3⟩ := L2 rfl rfl
            rw [e1] at M1
            rw [e2] at M2
            rw [e3] at M3
            have hln : decide (5 ≤ (digs N).length) = decide ((5 : Int) ≤ (D.size : Int)) := decide_eq_decide.2 (by have := HDl.out; omega)
            rw [hln] at M1 M2 M3
            clear e1 e2 e3 L1 L2 hlaw hD hln
            go_wp2_with fail
            refine (Hd.out _).mono ?_
            rintro e w' ⟨rfl, rfl⟩
            go_wp2_with fail
            refine (Hs.out _).mono ?_
            rintro e w' ⟨rfl, rfl⟩
            go_wp2_with fail
            refine (M1.out _).mono ?_
            rintro e w' ⟨rfl, rfl⟩
            go_wp2_with fail
            refine (M2.out _).mono ?_
            rintro e w' ⟨rfl, rfl⟩
            go_wp2_with fail
            refine (M3.out _).mono ?_
            rintro e w' ⟨rfl, rfl⟩
            go_wp2
            go_ret
            exact ⟨rfl, hk.out⟩
theorem tmatch_top (n more : Int) (plus : Bool) (w : World) (hT : Tb w) (hn : (Lit.int .u64 n).wf = true) (_hm : (Lit.int .i64 more).wf = true) : Calls Tryd.prog 9 #[.int .u64 n, .int .i64 more, .bool plus] w (TrueF w) := by
  have := bounds_u64 hn
  exact tmatch_any n more plus w hT (by omega) (by omega)
end Go.Proofs.YtemjpmkmpfpdhaaDoor
