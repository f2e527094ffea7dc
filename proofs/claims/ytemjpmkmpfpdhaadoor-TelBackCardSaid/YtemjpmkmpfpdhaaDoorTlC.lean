/-
  tel's Canon walked.
-/
import Derived.Test.YtemjpmkmpfpdhaaDoorTl
set_option linter.unusedSimpArgs false
set_option linter.unusedVariables false
namespace Go.Proofs.YtemjpmkmpfpdhaaDoor
open Go.RowKit
set_option maxRecDepth 100000

set_option maxHeartbeats 1600000 in
theorem canon_any (s : ByteArray) (w : World) (hs : s.size ≤ 1000) (hT : Tb w) : Calls Tryd.prog 20 #[.string s] w (CleanPost w (telL s.data.toList)) := by
  have c1 := clean_any s w hs hT
  rw [show cleanL (Lib.validD s.data.toList) s.data.toList = C s.data.toList from rfl] at c1
  obtain ⟨R, hR⟩ : ∃ R, telL s.data.toList = R := ⟨_, rfl⟩
  rw [hR]
  unfold telL at hR
  have hok := fun o (h : C s.data.toList = (o, 0)) => (C_ok h).2.2.2.2
  generalize C s.data.toList = ce at *
  obtain ⟨c, e⟩ := ce
  simp only at hR
  have C1 := Lib.hid c1
  have ER := Lib.hid hR
  clear c1 hR
  by_cases he : e = 0
  · subst he
    have hcl : c.length ≤ 64 := hok c rfl
    have hds : (ByteArray.mk c.toArray).size = c.length := by show c.toArray.size = _; simp
    have hdd : (ByteArray.mk c.toArray).data.toList = c := by simp
    have Hget := Lib.hid (str_at ⟨c.toArray⟩)
    rw [hdd] at Hget
    replace ER : Hid ((if isL (keepL c) = true then (keepL c, (0 : Int)) else ([], 1)) = R) := by
      have := ER.out
      rwa [if_neg (fun h => h rfl)] at this
    unfold CleanPost at C1
    simp only at C1
    generalize ByteArray.mk c.toArray = D at *
    have HD := Lib.hid hds
    rw [← hds] at hcl
    clear hdd hds hok
    go_enter Tryd.func20, Tryd.ntmps20
    go_wp2_with fail
    refine (C1.out).mono ?_
    rintro e w1 ⟨rfl, hk1⟩
    go_wp2
    go_loopw [6, 18] (fun v i wr => ∃ k : Nat, i = .int .i64 k ∧ k ≤ D.size ∧ Own wr (fun g => w1.heap.size ≤ g) 5 1 v (keepL (c.take k)).length (bvs (keepL (c.take k))) ∧ Pure w1 wr) (fun _ i _ => D.size - (intOf i).toNat)
    case atStart => exact ⟨0, rfl, Nat.zero_le _, Own.nil _ _ _ _, Kept.refl _ _⟩
    case round =>
      obtain ⟨k, rfl, hk, ho, hk2⟩ := hrel
      have hol := keep_length (c.take k)
      rw [List.length_take] at hol
      obtain ⟨n, hn0⟩ : ∃ n, (keepL (c.take k)).length = n := ⟨_, rfl⟩
      obtain ⟨A, cp, rfl, _, _, _, hsl⟩ := ho.form
      rw [hn0] at ho hol hsl ⊢
      have Hn := Lib.hid hn0
      have Ho := Lib.hid ho
      have Hk2 := Lib.hid hk2
      have Hsl := Lib.hid hsl
      clear hn0 ho hk2 hsl
      by_cases hlt : k < D.size
      · obtain ⟨b, hb⟩ : ∃ b, c[k]? = some b := ⟨_, List.getElem?_eq_getElem (by have := HD.out; omega)⟩
        have ib := Hget.out k b hlt hb
        have hb256 : b.toNat < 256 := b.toNat_lt
        by_cases f1 : b.toNat = 32
        · have e1 : ((b.toNat : Int) == 32) = true := by simp [f1]
          have hnx : Hid (keepL (c.take (k + 1)) = keepL (c.take k)) := keep_skip hb (by simp [gap, f1])
          clear hb
          go_wp2
          go_roundw
          case measure => first | omega | (simp [intOf]; omega)
          case rel => exact ⟨k + 1, by first | rfl | go_num, hlt, by rw [hnx.out, Hn.out]; exact Ho.out, Hk2.out⟩
        · have e1 : ((b.toNat : Int) == 32) = false := by simpa using (by omega : ¬ (b.toNat : Int) = 32)
          by_cases f2 : b.toNat = 45
          · have e2 : ((b.toNat : Int) == 45) = true := by simp [f2]
            have hnx : Hid (keepL (c.take (k + 1)) = keepL (c.take k)) := keep_skip hb (by simp [gap, f2])
            clear hb
            go_wp2
            go_roundw
            case measure => first | omega | (simp [intOf]; omega)
            case rel => exact ⟨k + 1, by first | rfl | go_num, hlt, by rw [hnx.out, Hn.out]; exact Ho.out, Hk2.out⟩
          · have e2 : ((b.toNat : Int) == 45) = false := by simpa using (by omega : ¬ (b.toNat : Int) = 45)
            by_cases f3 : b.toNat = 46
            · have e3 : ((b.toNat : Int) == 46) = true := by simp [f3]
              have hnx : Hid (keepL (c.take (k + 1)) = keepL (c.take k)) := keep_skip hb (by simp [gap, f3])
              clear hb
              go_wp2
              go_roundw
              case measure => first | omega | (simp [intOf]; omega)
              case rel => exact ⟨k + 1, by first | rfl | go_num, hlt, by rw [hnx.out, Hn.out]; exact Ho.out, Hk2.out⟩
            · have e3 : ((b.toNat : Int) == 46) = false := by simpa using (by omega : ¬ (b.toNat : Int) = 46)
              by_cases f4 : b.toNat = 47
              · have e4 : ((b.toNat : Int) == 47) = true := by simp [f4]
                have hnx : Hid (keepL (c.take (k + 1)) = keepL (c.take k)) := keep_skip hb (by simp [gap, f4])
                clear hb
                go_wp2
                go_roundw
                case measure => first | omega | (simp [intOf]; omega)
                case rel => exact ⟨k + 1, by first | rfl | go_num, hlt, by rw [hnx.out, Hn.out]; exact Ho.out, Hk2.out⟩
              · have e4 : ((b.toNat : Int) == 47) = false := by simpa using (by omega : ¬ (b.toNat : Int) = 47)
                by_cases f5 : b.toNat = 40
                · have e5 : ((b.toNat : Int) == 40) = true := by simp [f5]
                  have hnx : Hid (keepL (c.take (k + 1)) = keepL (c.take k)) := keep_skip hb (by simp [gap, f5])
                  clear hb
                  go_wp2
                  go_roundw
                  case measure => first | omega | (simp [intOf]; omega)
                  case rel => exact ⟨k + 1, by first | rfl | go_num, hlt, by rw [hnx.out, Hn.out]; exact Ho.out, Hk2.out⟩
                · have e5 : ((b.toNat : Int) == 40) = false := by simpa using (by omega : ¬ (b.toNat : Int) = 40)
                  by_cases f6 : b.toNat = 41
                  · have e6 : ((b.toNat : Int) == 41) = true := by simp [f6]
                    have hnx : Hid (keepL (c.take (k + 1)) = keepL (c.take k)) := keep_skip hb (by simp [gap, f6])
                    clear hb
                    go_wp2
                    go_roundw
                    case measure => first | omega | (simp [intOf]; omega)
                    case rel => exact ⟨k + 1, by first | rfl | go_num, hlt, by rw [hnx.out, Hn.out]; exact Ho.out, Hk2.out⟩
                  · have e6 : ((b.toNat : Int) == 41) = false := by simpa using (by omega : ¬ (b.toNat : Int) = 41)
                    have hnx : Hid (keepL (c.take (k + 1)) = keepL (c.take k) ++ [b]) := keep_add hb (by simp [gap, f1, f2, f3, f4, f5, f6])
                    clear f1 f2 f3 f4 f5 f6 hb
                    go_wp2_with (first | (at_builtin; refine held ?_) | (at_make; refine held ?_))
                    refine unheld ?_
                    refine wp_appB w1.heap.size Tryd.underlying36 info_u8 rfl (by omega) (by have := Hk2.out.size; simp; omega) (Ho.out.alloc _) (Sl.one _ _ _) (by intro u hu; simp at hu; subst hu; rfl) (by omega) (by omega) rfl _ _ rfl rfl rfl ?_
                    intro v4 w4 ho4 hk4
                    have hk5 := (Hk2.out.alloc (.cells #[.int .u8 (b.toNat : Int)] 5)).trans hk4 (fun i hi h => absurd h (by omega))
                    have Ho4 := Lib.hid ho4
                    have Hk5 := Lib.hid hk5
                    clear ho4 hk4 hk5
                    go_wp2
                    go_roundw
                    case measure => first | omega | (simp [intOf]; omega)
                    case rel =>
                      have h6 := Ho4.out
                      rw [show bvs (keepL (c.take k)) ++ [Value.int .u8 (b.toNat : Int)] = bvs (keepL (c.take k) ++ [b]) from by rw [bvs_append]; rfl, show n + 1 = (keepL (c.take k) ++ [b]).length from by rw [List.length_append, Hn.out]; rfl] at h6
                      exact ⟨k + 1, by first | rfl | go_num, hlt, by rw [hnx.out]; exact h6, Hk5.out⟩
      · have hke : k = D.size := by omega
        subst hke
        have hall : c.take D.size = c := List.take_of_length_le (by have := HD.out; omega)
        rw [hall] at Hsl Hn
        have hcs := run_str (P := Tryd.prog) Hsl.out 36 9 5 cp Tryd.underlying36 Tryd.underlying5 Tryd.underlying9
        have Hi := Lib.hid (fun w => is_any ⟨(keepL c).toArray⟩ w (by show (keepL c).toArray.size ≤ _; simp; have := Hn.out; omega))
        have hkl : (ByteArray.mk (keepL c).toArray).data.toList = keepL c := by simp
        rw [hkl] at Hi
        have HK := Lib.hid (hk1.same Hk2.out)
        clear hkl hall
        generalize hX : ByteArray.mk (keepL c).toArray = X at *
        have HX := Lib.hid hX
        clear hX
        rcases hi : isL (keepL c) with _ | _
        · have e : R = ([], 1) := by rw [← ER.out, hi]; rfl
          have He := Lib.hid e
          rw [hi] at Hi
          clear e hi
          go_wp2_with (first | (simp only [hcs]) | (go_at_call 21; refine (Hi.out _).mono ?_; rintro e w' ⟨rfl, rfl⟩))
          go_ret2
          exact ⟨by rw [He.out]; rfl, HK.out⟩
        · have e : R = (keepL c, 0) := by rw [← ER.out, hi]; rfl
          have He := Lib.hid e
          rw [hi] at Hi
          clear e hi
          go_wp2_with (first | (simp only [hcs]) | (go_at_call 21; refine (Hi.out _).mono ?_; rintro e w' ⟨rfl, rfl⟩))
          go_ret2
          refine ⟨?_, HK.out⟩
          rw [He.out]
          show _ = Ending.returned (.tuple #[.string ⟨(keepL c).toArray⟩, .int .i64 0])
          rw [HX.out]
          rfl
  · have e1 : R = ([], e) := by rw [← ER.out, if_pos he]
    have He := Lib.hid e1
    have he' : (e == 0) = false := by simpa using he
    clear e1 he hok
    go_enter Tryd.func20, Tryd.ntmps20
    go_wp2_with fail
    refine (C1.out).mono ?_
    rintro e w1 ⟨rfl, hk1⟩
    go_wp2
    go_ret2
    exact ⟨by rw [He.out]; rfl, hk1⟩
end Go.Proofs.YtemjpmkmpfpdhaaDoor
