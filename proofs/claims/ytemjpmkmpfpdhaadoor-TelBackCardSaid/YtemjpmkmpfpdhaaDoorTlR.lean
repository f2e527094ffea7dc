/-
  the reference's IsTel and bare walked.
-/
import Derived.Test.YtemjpmkmpfpdhaaDoorTlM
set_option linter.unusedSimpArgs false
set_option linter.unusedVariables false
namespace Go.Proofs.YtemjpmkmpfpdhaaDoor
open Go.RowKit
set_option maxRecDepth 100000

theorem isL_def (l : List UInt8) : isL l = decide (3 ≤ (bareL l).length ∧ (bareL l).length ≤ 15 ∧ (bareL l).all digL = true) := by
  unfold isL rowL
  split <;> rename_i c
  · exact (decide_eq_true c).symm
  · exact (decide_eq_false c).symm
theorem bareL_plus (l : List UInt8) (h : l[0]? = some 43) : bareL l = l.drop 1 := by
  cases l with
  | nil => simp at h
  | cons x r => simp at h; subst h; simp [bareL, Lib.trimPrefix, Lib.hasPrefix]
theorem bareL_no (l : List UInt8) (h : l[0]? ≠ some 43) : bareL l = l := by
  cases l with
  | nil => simp [bareL, Lib.trimPrefix, Lib.hasPrefix]
  | cons x r =>
    have : ¬ x = 43 := fun e => h (by simp [e])
    simp [bareL, Lib.trimPrefix, Lib.hasPrefix, Ne.symm this]
theorem digit_any (b : UInt8) (w : World) : Calls Tryd.prog 34 #[.int .u8 (b.toNat : Int)] w fun e w' => e = .returned (.bool (digL b)) ∧ w = w' := by
  have hb256 : b.toNat < 256 := b.toNat_lt
  unfold digL
  by_cases h1 : 48 ≤ b.toNat
  · rw [show decide (48 ≤ b.toNat ∧ b.toNat ≤ 57) = decide ((b.toNat : Int) ≤ 57) from decide_eq_decide.2 (by omega)]
    go_enter Tryd.func34, Tryd.ntmps34
    go_wp2
    go_ret
    exact ⟨rfl, rfl⟩
  · rw [decide_eq_false (fun h => h1 h.1)]
    go_enter Tryd.func34, Tryd.ntmps34
    go_wp2
    go_ret
    exact ⟨rfl, rfl⟩

set_option maxHeartbeats 1600000 in
theorem ref_is (s : ByteArray) (w : World) (hs : s.size ≤ 1000) : Calls Tryd.prog 24 #[.string s] w fun e w' => e = .returned (.bool (isL s.data.toList)) ∧ w = w' := by
  obtain ⟨R, hR⟩ : ∃ R, isL s.data.toList = R := ⟨_, rfl⟩
  rw [hR]
  rw [isL_def] at hR
  have hn : s.data.toList.length = s.size := by simp
  have Hget := Lib.hid (str_at s)
  by_cases n0 : s.size = 0
  · have e : R = false := by
      rw [← hR, bareL_no _ (by rw [List.getElem?_eq_none (by omega)]; simp)]
      exact decide_eq_false (fun h => by omega)
    have He := Lib.hid e
    clear hR hn e
    go_enter Tryd.func24, Tryd.ntmps24
    go_wp2
    go_loop [3] (fun i => i = .int .i64 0) (fun _ => 0)
    case atStart => rfl
    case round =>
      subst hrel
      go_wp2
      go_ret
      exact ⟨by rw [He.out]; rfl, rfl⟩
  · obtain ⟨c, hc⟩ : ∃ c, s.data.toList[0]? = some c := ⟨_, List.getElem?_eq_getElem (by omega)⟩
    have q0 : 0 < s.size := by omega
    have i0 := Hget.out 0 c q0 hc
    by_cases hp : c.toNat = 43
    · have hp' : ((c.toNat : Int) == 43) = true := by simp [hp]
      have hb0 := bareL_plus _ (by rw [hc, show c = 43 from UInt8.toNat_inj.1 hp])
      rw [hb0] at hR
      have hDl : (s.extract 1 s.size).data.toList = s.data.toList.drop 1 := by rw [ext_data, List.take_of_length_le (by omega)]
      have Hget := Lib.hid (str_at (s.extract 1 s.size))
      rw [hDl] at Hget
      have hDs : (s.extract 1 s.size).size = s.size - 1 := by rw [ByteArray.size_extract]; omega
      have HL : Hid ((s.data.toList.drop 1).length = (s.extract 1 s.size).size) := by rw [Hid, List.length_drop, hDs]; omega
      have ER := Lib.hid hR
      generalize hD : s.extract 1 s.size = D at *
      have q1 : D.size ≤ 1000 := by omega
      have q2 : 1 ≤ s.size := q0
      clear hR hb0 hDl hc hp hDs
      generalize s.data.toList.drop 1 = l at *
      go_enter Tryd.func24, Tryd.ntmps24
      go_wp2
      go_loop [3] (fun i => ∃ k : Nat, i = .int .i64 k ∧ k ≤ D.size ∧ Hid ((l.take k).all digL = true)) (fun i => D.size - (intOf i).toNat)
      case atStart => exact ⟨0, rfl, Nat.zero_le _, by simp [Hid]⟩
      case round =>
        obtain ⟨k, rfl, hk, hh⟩ := hrel
        by_cases hlt : k < D.size
        · obtain ⟨b, hb⟩ : ∃ b, l[k]? = some b := ⟨_, List.getElem?_eq_getElem (by have := HL.out; omega)⟩
          have ib := Hget.out k b hlt hb
          have Hd := Lib.hid (digit_any b w)
          rcases f1 : digL b with _ | _
          · have e : R = false := by
              rw [← ER.out]
              refine decide_eq_false (fun h => ?_)
              have := List.all_eq_true.1 h.2.2 b (List.mem_of_getElem? hb)
              rw [f1] at this; cases this
            have He := Lib.hid e
            rw [f1] at Hd
            clear e hb f1
            go_wp2_with fail
            refine (Hd.out).mono ?_
            rintro e w' ⟨rfl, rfl⟩
            go_wp2
            go_ret
            exact ⟨by rw [He.out]; rfl, rfl⟩
          · have Hn : Hid ((l.take (k + 1)).all digL = true) := by
              rw [Hid, List.take_add_one, hb, Option.toList_some, List.all_append, hh.out]; simp [f1]
            rw [f1] at Hd
            clear hb f1
            go_wp2_with fail
            refine (Hd.out).mono ?_
            rintro e w' ⟨rfl, rfl⟩
            go_wp2
            go_round
            case measure => first | omega | (simp [intOf]; omega)
            case rel => exact ⟨k + 1, by first | rfl | go_num, hlt, Hn⟩
        · have hke : k = D.size := by omega
          subst hke
          have hall : l.all digL = true := by
            have h1 := hh.out
            rwa [List.take_of_length_le (by have := HL.out; omega)] at h1
          by_cases m1 : 3 ≤ D.size
          · have e : R = decide ((D.size : Int) ≤ 15) := by
              rw [← ER.out, HL.out]
              exact decide_eq_decide.2 ⟨fun h => by omega, fun h => ⟨m1, by omega, hall⟩⟩
            have He := Lib.hid e
            clear e hall
            go_wp2
            go_ret
            exact ⟨by rw [He.out]; rfl, rfl⟩
          · have e : R = false := by
              rw [← ER.out, HL.out]
              exact decide_eq_false (fun h => m1 h.1)
            have He := Lib.hid e
            clear e hall
            go_wp2
            go_ret
            exact ⟨by rw [He.out]; rfl, rfl⟩
    · have hp' : ((c.toNat : Int) == 43) = false := by simpa using (by omega : ¬ (c.toNat : Int) = 43)
      have hb0 := bareL_no s.data.toList (by rw [hc]; intro h; injection h with h; exact hp (by rw [h]; rfl))
      rw [hb0] at hR
      have ER := Lib.hid hR
      have HL := Lib.hid hn
      clear hR hb0 hn hc hp
      generalize s.data.toList = l at *
      go_enter Tryd.func24, Tryd.ntmps24
      go_wp2
      go_loop [3] (fun i => ∃ k : Nat, i = .int .i64 k ∧ k ≤ s.size ∧ Hid ((l.take k).all digL = true)) (fun i => s.size - (intOf i).toNat)
      case atStart => exact ⟨0, rfl, Nat.zero_le _, by simp [Hid]⟩
      case round =>
        obtain ⟨k, rfl, hk, hh⟩ := hrel
        by_cases hlt : k < s.size
        · obtain ⟨b, hb⟩ : ∃ b, l[k]? = some b := ⟨_, List.getElem?_eq_getElem (by have := HL.out; omega)⟩
          have ib := Hget.out k b hlt hb
          have Hd := Lib.hid (digit_any b w)
          rcases f1 : digL b with _ | _
          · have e : R = false := by
              rw [← ER.out]
              refine decide_eq_false (fun h => ?_)
              have := List.all_eq_true.1 h.2.2 b (List.mem_of_getElem? hb)
              rw [f1] at this; cases this
            have He := Lib.hid e
            rw [f1] at Hd
            clear e hb f1
            go_wp2_with fail
            refine (Hd.out).mono ?_
            rintro e w' ⟨rfl, rfl⟩
            go_wp2
            go_ret
            exact ⟨by rw [He.out]; rfl, rfl⟩
          · have Hn : Hid ((l.take (k + 1)).all digL = true) := by
              rw [Hid, List.take_add_one, hb, Option.toList_some, List.all_append, hh.out]; simp [f1]
            rw [f1] at Hd
            clear hb f1
            go_wp2_with fail
            refine (Hd.out).mono ?_
            rintro e w' ⟨rfl, rfl⟩
            go_wp2
            go_round
            case measure => first | omega | (simp [intOf]; omega)
            case rel => exact ⟨k + 1, by first | rfl | go_num, hlt, Hn⟩
        · have hke : k = s.size := by omega
          subst hke
          have hall : l.all digL = true := by
            have h1 := hh.out
            rwa [List.take_of_length_le (by have := HL.out; omega)] at h1
          by_cases m1 : 3 ≤ s.size
          · have e : R = decide ((s.size : Int) ≤ 15) := by
              rw [← ER.out, HL.out]
              exact decide_eq_decide.2 ⟨fun h => by omega, fun h => ⟨m1, by omega, hall⟩⟩
            have He := Lib.hid e
            clear e hall
            go_wp2
            go_ret
            exact ⟨by rw [He.out]; rfl, rfl⟩
          · have e : R = false := by
              rw [← ER.out, HL.out]
              exact decide_eq_false (fun h => m1 h.1)
            have He := Lib.hid e
            clear e hall
            go_wp2
            go_ret
            exact ⟨by rw [He.out]; rfl, rfl⟩
end Go.Proofs.YtemjpmkmpfpdhaaDoor
