/-
  the reference's Tel walked.
-/
import Derived.Test.YtemjpmkmpfpdhaaDoorTlP
set_option linter.unusedSimpArgs false
set_option linter.unusedVariables false
namespace Go.Proofs.YtemjpmkmpfpdhaaDoor
open Go.RowKit
set_option maxRecDepth 100000

set_option maxHeartbeats 1600000 in
theorem ref_tel (s : ByteArray) (w : World) (hs : s.size ≤ 1000) : Calls Tryd.prog 23 #[.string s] w (CleanPost w (telL s.data.toList)) := by
  have c1 := ref_clean s w hs
  rw [show cleanL (Lib.validD s.data.toList) s.data.toList = C s.data.toList from rfl] at c1
  obtain ⟨R, hR⟩ : ∃ R, telL s.data.toList = R := ⟨_, rfl⟩
  rw [hR]
  unfold telL at hR
  have hok := fun o (h : C s.data.toList = (o, 0)) => (C_ok h).2.2.2.2
  generalize C s.data.toList = ce at *
  obtain ⟨c, e⟩ := ce
  simp only at hR
  have C1 := Lib.hid c1
  have ER := Lib.hid hR
  clear c1 hR
  by_cases he : e = 0
  · subst he
    have hcl : c.length ≤ 64 := hok c rfl
    have hds : (ByteArray.mk c.toArray).size = c.length := by show c.toArray.size = _; simp
    have hdd : (ByteArray.mk c.toArray).data.toList = c := by simp
    have Hget := Lib.hid (str_at ⟨c.toArray⟩)
    have hext := fun i => ext_data (ByteArray.mk c.toArray) i (i + 1)
    rw [hdd] at Hget
    rw [hdd] at hext
    have Hext := Lib.hid hext
    replace ER : Hid ((if isL (keepL c) = true then (keepL c, (0 : Int)) else ([], 1)) = R) := by
      have := ER.out
      rwa [if_neg (fun h => h rfl)] at this
    unfold CleanPost at C1
    simp only at C1
    generalize ByteArray.mk c.toArray = D at *
    have HD := Lib.hid hds
    rw [← hds] at hcl
    clear hdd hds hok hext
    go_enter Tryd.func23, Tryd.ntmps23
    go_wp2_with fail
    refine (C1.out).mono ?_
    rintro e w1 ⟨rfl, hk1⟩
    go_wp2
    go_loop [6, 7] (fun v i => ∃ (k : Nat) (O : ByteArray), v = .string O ∧ i = .int .i64 k ∧ k ≤ D.size ∧ O.size ≤ k ∧ Hid (O.data.toList = keepL (c.take k))) (fun _ i => D.size - (intOf i).toNat)
    case atStart => exact ⟨0, _, rfl, rfl, Nat.zero_le _, by decide, rfl⟩
    case round =>
      obtain ⟨k, O, rfl, rfl, hk, ho, hh⟩ := hrel
      by_cases hlt : k < D.size
      · have hdl := HD.out
        obtain ⟨b, hb⟩ : ∃ b, c[k]? = some b := ⟨_, List.getElem?_eq_getElem (by omega)⟩
        have ib := Hget.out k b hlt hb
        have hb256 : b.toNat < 256 := b.toNat_lt
        have hxs : (D.extract k (k + 1)).size = 1 := by rw [ByteArray.size_extract]; omega
        have hxd : (D.extract k (k + 1)).data.toList = [b] := by
          rw [Hext.out k, List.take_add_one, hb, List.drop_append_of_le_length (by rw [List.length_take]; omega), List.drop_of_length_le (by rw [List.length_take]; omega)]; rfl
        have n5 : 0 ≤ (k : Int) ∧ (k : Int) ≤ (k : Int) + 1 ∧ (k : Int) + 1 ≤ (D.size : Int) := by omega
        have hk1' : ((k : Int) + 1).toNat = k + 1 := by omega
        have Hxd := Lib.hid hxd
        clear hdl hxd
        by_cases f1 : b.toNat = 32
        · have e1 : ((b.toNat : Int) == 32) = true := by simp [f1]
          have hnx : Hid (keepL (c.take (k + 1)) = keepL (c.take k)) := keep_skip hb (by simp [gap, f1])
          clear hb
          go_wp2
          go_round
          case measure => first | omega | (simp [intOf]; omega)
          case rel => exact ⟨k + 1, _, rfl, by first | rfl | go_num, hlt, by omega, by rw [Hid, hnx.out]; exact hh.out⟩
        · have e1 : ((b.toNat : Int) == 32) = false := by simpa using (by omega : ¬ (b.toNat : Int) = 32)
          by_cases f2 : b.toNat = 45
          · have e2 : ((b.toNat : Int) == 45) = true := by simp [f2]
            have hnx : Hid (keepL (c.take (k + 1)) = keepL (c.take k)) := keep_skip hb (by simp [gap, f2])
            clear hb
            go_wp2
            go_round
            case measure => first | omega | (simp [intOf]; omega)
            case rel => exact ⟨k + 1, _, rfl, by first | rfl | go_num, hlt, by omega, by rw [Hid, hnx.out]; exact hh.out⟩
          · have e2 : ((b.toNat : Int) == 45) = false := by simpa using (by omega : ¬ (b.toNat : Int) = 45)
            by_cases f3 : b.toNat = 46
            · have e3 : ((b.toNat : Int) == 46) = true := by simp [f3]
              have hnx : Hid (keepL (c.take (k + 1)) = keepL (c.take k)) := keep_skip hb (by simp [gap, f3])
              clear hb
              go_wp2
              go_round
              case measure => first | omega | (simp [intOf]; omega)
              case rel => exact ⟨k + 1, _, rfl, by first | rfl | go_num, hlt, by omega, by rw [Hid, hnx.out]; exact hh.out⟩
            · have e3 : ((b.toNat : Int) == 46) = false := by simpa using (by omega : ¬ (b.toNat : Int) = 46)
              by_cases f4 : b.toNat = 47
              · have e4 : ((b.toNat : Int) == 47) = true := by simp [f4]
                have hnx : Hid (keepL (c.take (k + 1)) = keepL (c.take k)) := keep_skip hb (by simp [gap, f4])
                clear hb
                go_wp2
                go_round
                case measure => first | omega | (simp [intOf]; omega)
                case rel => exact ⟨k + 1, _, rfl, by first | rfl | go_num, hlt, by omega, by rw [Hid, hnx.out]; exact hh.out⟩
              · have e4 : ((b.toNat : Int) == 47) = false := by simpa using (by omega : ¬ (b.toNat : Int) = 47)
                by_cases f5 : b.toNat = 40
                · have e5 : ((b.toNat : Int) == 40) = true := by simp [f5]
                  have hnx : Hid (keepL (c.take (k + 1)) = keepL (c.take k)) := keep_skip hb (by simp [gap, f5])
                  clear hb
                  go_wp2
                  go_round
                  case measure => first | omega | (simp [intOf]; omega)
                  case rel => exact ⟨k + 1, _, rfl, by first | rfl | go_num, hlt, by omega, by rw [Hid, hnx.out]; exact hh.out⟩
                · have e5 : ((b.toNat : Int) == 40) = false := by simpa using (by omega : ¬ (b.toNat : Int) = 40)
                  by_cases f6 : b.toNat = 41
                  · have e6 : ((b.toNat : Int) == 41) = true := by simp [f6]
                    have hnx : Hid (keepL (c.take (k + 1)) = keepL (c.take k)) := keep_skip hb (by simp [gap, f6])
                    clear hb
                    go_wp2
                    go_round
                    case measure => first | omega | (simp [intOf]; omega)
                    case rel => exact ⟨k + 1, _, rfl, by first | rfl | go_num, hlt, by omega, by rw [Hid, hnx.out]; exact hh.out⟩
                  · have e6 : ((b.toNat : Int) == 41) = false := by simpa using (by omega : ¬ (b.toNat : Int) = 41)
                    have hnx : keepL (c.take (k + 1)) = keepL (c.take k) ++ [b] := keep_add hb (by simp [gap, f1, f2, f3, f4, f5, f6])
                    have Hn : Hid ((O ++ D.extract k (k + 1)).data.toList = keepL (c.take (k + 1))) := by rw [Hid, app_data, hh.out, Hxd.out, hnx]
                    have hsz : (O ++ D.extract k (k + 1)).size ≤ k + 1 := by rw [ByteArray.size_append]; omega
                    have g1 : ((9223372036854775807 : Int) < ((O ++ D.extract k (k + 1)).size : Int)) = False := eq_false (by omega)
                    have Hsz := Lib.hid hsz
                    clear f1 f2 f3 f4 f5 f6 hb hnx hxs hsz
                    go_wp2
                    go_round
                    case measure => first | omega | (simp [intOf]; omega)
                    case rel => exact ⟨k + 1, _, rfl, by first | rfl | go_num, hlt, Hsz.out, Hn⟩
      · have hke : k = D.size := by omega
        subst hke
        have hO : O.data.toList = keepL c := by rw [hh.out, List.take_of_length_le (by have := HD.out; omega)]
        have Hi := Lib.hid (fun w => ref_is O w (by omega))
        rw [hO] at Hi
        have HO := Lib.hid hO
        clear hO
        rcases hi : isL (keepL c) with _ | _
        · have e : R = ([], 1) := by rw [← ER.out, hi]; rfl
          have He := Lib.hid e
          rw [hi] at Hi
          clear e hi
          go_wp2_with fail
          refine ((Hi.out _)).mono ?_
          rintro e w' ⟨rfl, rfl⟩
          go_wp2
          go_ret2
          exact ⟨by rw [He.out]; rfl, hk1⟩
        · have e : R = (keepL c, 0) := by rw [← ER.out, hi]; rfl
          have He := Lib.hid e
          rw [hi] at Hi
          clear e hi
          go_wp2_with fail
          refine ((Hi.out _)).mono ?_
          rintro e w' ⟨rfl, rfl⟩
          go_wp2
          go_ret2
          refine ⟨?_, hk1⟩
          rw [He.out]
          show _ = Ending.returned (.tuple #[.string ⟨(keepL c).toArray⟩, .int .i64 0])
          rw [show O = ⟨(keepL c).toArray⟩ from Go.WideShapes.bytes_inj (by rw [HO.out])]
          rfl
  · have e1 : R = ([], e) := by rw [← ER.out, if_pos he]
    have He := Lib.hid e1
    have he' : (e == 0) = false := by simpa using he
    clear e1 he hok
    go_enter Tryd.func23, Tryd.ntmps23
    go_wp2_with fail
    refine (C1.out).mono ?_
    rintro e w1 ⟨rfl, hk1⟩
    go_wp2
    go_ret2
    exact ⟨by rw [He.out]; rfl, hk1⟩
end Go.Proofs.YtemjpmkmpfpdhaaDoor
