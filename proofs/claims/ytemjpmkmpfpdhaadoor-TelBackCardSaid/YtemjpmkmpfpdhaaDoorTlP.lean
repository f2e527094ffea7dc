/-
  the reference's ShowTel walked.
-/
import Derived.Test.YtemjpmkmpfpdhaaDoorTlO
set_option linter.unusedSimpArgs false
set_option linter.unusedVariables false
namespace Go.Proofs.YtemjpmkmpfpdhaaDoor
open Go.RowKit
set_option maxRecDepth 100000

def midL (d : List UInt8) (k : Nat) : List UInt8 := showTo d k ++ (if 0 < k ∧ k % 3 = 0 ∧ k < d.length then [32] else [])
theorem mid_step (d : List UInt8) (k : Nat) (h : k < d.length) : midL d (k + 1) = midL d k ++ d[k]?.toList ++ (if (k + 1) % 3 = 0 ∧ k + 1 < d.length then [32] else []) := by
  unfold midL
  rw [showTo]
  congr 1
  · congr 2
    simp [h]
  · simp
theorem mid_end (d : List UInt8) : midL d d.length = showTo d d.length := by
  unfold midL
  rw [if_neg (by omega), List.append_nil]
theorem mid_length (d : List UInt8) (k : Nat) : (midL d k).length ≤ 2 * k + 1 := by
  have := showTo_length d k
  unfold midL
  rw [List.length_append]
  split <;> simp <;> omega
/-- The signs of a number: its plus, then its digits. -/
theorem tel_signs (l : List UInt8) (h : isL l = true) : ∃ p, p ≤ 1 ∧ l.length = p + (bareL l).length ∧ (∀ b, l[0]? = some b → p = 1 → digL b = false) ∧ (∀ i b, p ≤ i → l[i]? = some b → digL b = true ∧ (bareL l)[i - p]? = some b) := by
  rw [isL_def, decide_eq_true_eq] at h
  obtain ⟨h1, h2, h3⟩ := h
  by_cases c : l[0]? = some 43
  · rw [bareL_plus _ c] at h1 h2 h3 ⊢
    rw [List.length_drop] at h1 h2
    refine ⟨1, by omega, by rw [List.length_drop]; omega, fun b hb _ => ?_, fun i b hi hb => ?_⟩
    · rw [c] at hb; injection hb with hb; subst hb; decide
    · have e : (l.drop 1)[i - 1]? = some b := by rw [List.getElem?_drop, ← hb]; congr 1; omega
      exact ⟨List.all_eq_true.1 h3 b (List.mem_of_getElem? e), e⟩
  · rw [bareL_no _ c] at h1 h2 h3 ⊢
    exact ⟨0, by omega, by omega, fun b hb h => by omega, fun i b hi hb => ⟨List.all_eq_true.1 h3 b (List.mem_of_getElem? hb), hb⟩⟩
theorem show_of (l : List UInt8) : showL l = if isL l = true then l.take (l.length - (bareL l).length) ++ showTo (bareL l) (bareL l).length else [] := by
  unfold showL
  rw [row_of]
  split <;> rename_i c <;> simp

set_option maxHeartbeats 1600000 in
theorem ref_show (s : ByteArray) (w : World) (hs : s.size ≤ 1000) : Calls Tryd.prog 25 #[.string s] w fun e w' => e = .returned (.string ⟨(showL s.data.toList).toArray⟩) ∧ w = w' := by
  have C := Lib.hid (ref_is s w hs)
  have hn : s.data.toList.length = s.size := by simp
  have hts := tel_signs s.data.toList
  obtain ⟨R, hR⟩ : ∃ R, showL s.data.toList = R := ⟨_, rfl⟩
  rw [hR]
  rw [show_of] at hR
  have Hget := Lib.hid (str_at s)
  have Hext := Lib.hid (fun i => ext_data s i (i + 1))
  generalize s.data.toList = l at *
  rcases hi : isL l with _ | _
  · have e : R = [] := by rw [← hR, hi]; rfl
    subst e
    rw [hi] at C
    clear hR hts hi
    go_enter Tryd.func25, Tryd.ntmps25
    go_wp2_with fail
    refine (C.out).mono ?_
    rintro e w' ⟨rfl, rfl⟩
    go_wp2
    go_ret
    exact ⟨rfl, rfl⟩
  · obtain ⟨p, p1, p2, p3, p4⟩ := hts hi
    rw [hi] at C hR
    rw [if_pos rfl] at hR
    generalize bareL l = d at *
    rw [hn] at p2 hR
    rw [show s.size - d.length = p by omega] at hR
    obtain ⟨D, hD⟩ : ∃ D, d.length = D := ⟨_, rfl⟩
    rw [hD] at p2 hR
    have HD := Lib.hid hD
    have ER := Lib.hid hR
    have P3 := Lib.hid p3
    have P4 := Lib.hid p4
    have HL := Lib.hid hn
    have P2 := Lib.hid p2
    clear hR hD p3 p4 hn hi hts p2
    go_enter Tryd.func25, Tryd.ntmps25
    go_wp2_with fail
    refine (C.out).mono ?_
    rintro e w' ⟨rfl, rfl⟩
    go_wp2
    go_loop [3, 4, 5] (fun o n i => ∃ (i' k : Nat) (O : ByteArray), o = .string O ∧ n = .int .i64 k ∧ i = .int .i64 i' ∧ Hid (k = i' - p) ∧ i' ≤ s.size ∧ O.size ≤ 2 * i' ∧ Hid (O.data.toList = (l.take p).take i' ++ midL d k)) (fun _ _ i => s.size - (intOf i).toNat)
    case atStart => exact ⟨0, 0, _, rfl, rfl, rfl, by show 0 = 0 - p; omega, by omega, by decide, by simp [Hid, midL, showTo]⟩
    case round =>
      obtain ⟨i, k, O, rfl, rfl, rfl, HK, hi, ho, hh⟩ := hrel
      have hk := HK.out
      have p2 := P2.out
      have hkb : k ≤ 1000 := by omega
      by_cases hlt : i < s.size
      · have hll := HL.out
        obtain ⟨b, hb⟩ : ∃ b, l[i]? = some b := ⟨_, List.getElem?_eq_getElem (by omega)⟩
        have ib := Hget.out i b hlt hb
        have Hd := Lib.hid (digit_any b w)
        have hxs : (s.extract i (i + 1)).size = 1 := by rw [ByteArray.size_extract]; omega
        have hxd : (s.extract i (i + 1)).data.toList = [b] := by
          rw [Hext.out i, List.take_add_one, hb, List.drop_append_of_le_length (by rw [List.length_take]; omega), List.drop_of_length_le (by rw [List.length_take]; omega)]; rfl
        have n5 : 0 ≤ (i : Int) ∧ (i : Int) ≤ (i : Int) + 1 ∧ (i : Int) + 1 ≤ (s.size : Int) := by omega
        have hk1 : ((i : Int) + 1).toNat = i + 1 := by omega
        have z1 : (⟨#[32]⟩ : ByteArray).size = 1 := rfl
        have hsz : (O ++ s.extract i (i + 1)).size ≤ 2 * i + 1 := by rw [ByteArray.size_append]; omega
        have g1 : ((9223372036854775807 : Int) < ((O ++ s.extract i (i + 1)).size : Int)) = False := eq_false (by omega)
        by_cases hp : i < p
        · obtain rfl : i = 0 := by omega
          obtain rfl : p = 1 := by omega
          obtain rfl : k = 0 := by omega
          have hd0 := P3.out b hb rfl
          rw [hd0] at Hd
          have Hn : Hid ((O ++ s.extract 0 (0 + 1)).data.toList = (l.take 1).take (0 + 1) ++ midL d 0) := by
            rw [Hid, app_data, hh.out, hxd, List.take_add_one (l := List.take 1 l), List.getElem?_take, if_pos (by omega), hb]
            simp [midL, showTo]
          replace hsz : (O ++ s.extract 0 (0 + 1)).size ≤ 2 * (0 + 1) := by omega
          clear hd0 p2 hk
          have Hsz := Lib.hid hsz
          clear hsz hxd hxs hb
          go_wp2_with fail
          refine (Hd.out).mono ?_
          rintro e w' ⟨rfl, rfl⟩
          go_wp2
          go_roundw
          case measure => first | omega | (simp [intOf]; omega)
          case rel => exact ⟨0 + 1, 0, _, rfl, rfl, by first | rfl | go_num, rfl, by omega, Hsz.out, Hn⟩
        · obtain ⟨hd1, hd2⟩ := P4.out i b (by omega) hb
          rw [← hk] at hd2
          rw [hd1] at Hd
          have hdl := HD.out
          have hst := mid_step d k (by omega)
          rw [hd2] at hst
          have ht1 : (l.take p).take (i + 1) = l.take p := List.take_of_length_le (by rw [List.length_take]; omega)
          have ht2 : (l.take p).take i = l.take p := List.take_of_length_le (by rw [List.length_take]; omega)
          have HK2 : Hid (k + 1 = i + 1 - p) := by show k + 1 = i + 1 - p; omega
          by_cases c : (k + 1) % 3 = 0
          · have c3 : (((k : Int) + 1) % 3 == 0) = true := by simp; omega
            by_cases c4 : k + 1 < D
            · have c5 : (i : Int) < (s.size : Int) - 1 := by omega
              have Hn : Hid ((O ++ s.extract i (i + 1) ++ (⟨#[32]⟩ : ByteArray)).data.toList = (l.take p).take (i + 1) ++ midL d (k + 1)) := by
                rw [Hid, app_data, app_data, hh.out, hxd, ht1, ht2, hst, if_pos ⟨c, by omega⟩]; simp
              have g2 : ((9223372036854775807 : Int) < ((O ++ s.extract i (i + 1) ++ (⟨#[32]⟩ : ByteArray)).size : Int)) = False := by rw [ByteArray.size_append]; exact eq_false (by omega)
              replace hsz : (O ++ s.extract i (i + 1) ++ (⟨#[32]⟩ : ByteArray)).size ≤ 2 * (i + 1) := by rw [ByteArray.size_append]; omega
              clear hd1 hd2 hst ht1 ht2 c hdl hll p2 hk
              have Hsz := Lib.hid hsz
              clear hsz hxd hxs hb
              go_wp2_with fail
              refine (Hd.out).mono ?_
              rintro e w' ⟨rfl, rfl⟩
              go_wp2
              go_roundw
              case measure => first | omega | (simp [intOf]; omega)
              case rel => exact ⟨i + 1, (k + 1), _, rfl, by first | rfl | go_num, by first | rfl | go_num, HK2, by omega, Hsz.out, Hn⟩
            · have c5 : ¬ (i : Int) < (s.size : Int) - 1 := by omega
              have Hn : Hid ((O ++ s.extract i (i + 1)).data.toList = (l.take p).take (i + 1) ++ midL d (k + 1)) := by
                rw [Hid, app_data, hh.out, hxd, ht1, ht2, hst, if_neg (fun h => c4 (by omega))]; simp
              replace hsz : (O ++ s.extract i (i + 1)).size ≤ 2 * (i + 1) := by omega
              clear hd1 hd2 hst ht1 ht2 c hdl hll p2 hk
              have Hsz := Lib.hid hsz
              clear hsz hxd hxs hb
              go_wp2_with fail
              refine (Hd.out).mono ?_
              rintro e w' ⟨rfl, rfl⟩
              go_wp2
              go_roundw
              case measure => first | omega | (simp [intOf]; omega)
              case rel => exact ⟨i + 1, (k + 1), _, rfl, by first | rfl | go_num, by first | rfl | go_num, HK2, by omega, Hsz.out, Hn⟩
          · have c3 : (((k : Int) + 1) % 3 == 0) = false := by simp; omega
            have Hn : Hid ((O ++ s.extract i (i + 1)).data.toList = (l.take p).take (i + 1) ++ midL d (k + 1)) := by
              rw [Hid, app_data, hh.out, hxd, ht1, ht2, hst, if_neg (fun h => c h.1)]; simp
            replace hsz : (O ++ s.extract i (i + 1)).size ≤ 2 * (i + 1) := by omega
            clear hd1 hd2 hst ht1 ht2 c hdl hll p2 hk
            have Hsz := Lib.hid hsz
            clear hsz hxd hxs hb
            go_wp2_with fail
            refine (Hd.out).mono ?_
            rintro e w' ⟨rfl, rfl⟩
            go_wp2
            go_roundw
            case measure => first | omega | (simp [intOf]; omega)
            case rel => exact ⟨i + 1, (k + 1), _, rfl, by first | rfl | go_num, by first | rfl | go_num, HK2, by omega, Hsz.out, Hn⟩
      · have hke : i = s.size := by omega
        subst hke
        have e : O = ⟨R.toArray⟩ := by
          apply Go.WideShapes.bytes_inj
          have h1 := hh.out
          have h2 := HD.out
          have hll := HL.out
          rw [show k = d.length by omega, mid_end, List.take_of_length_le (l := List.take p l) (by rw [List.length_take]; omega)] at h1
          have h3 := ER.out
          rw [← h2] at h3
          rw [h1, ← h3]
        have He := Lib.hid e
        clear e
        go_wp2
        go_ret
        exact ⟨by rw [← He.out]; rfl, rfl⟩
end Go.Proofs.YtemjpmkmpfpdhaaDoor
