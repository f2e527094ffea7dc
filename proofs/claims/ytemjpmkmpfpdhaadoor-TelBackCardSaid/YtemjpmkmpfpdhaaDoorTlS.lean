/-
  tel's Show walked.
-/
import Derived.Test.YtemjpmkmpfpdhaaDoorTl
set_option linter.unusedSimpArgs false
set_option linter.unusedVariables false
namespace Go.Proofs.YtemjpmkmpfpdhaaDoor
open Go.RowKit
set_option maxRecDepth 100000

def showTo (d : List UInt8) : Nat → List UInt8
  | 0 => []
  | k + 1 => showTo d k ++ (if 0 < k ∧ k % 3 = 0 then [32] else []) ++ d[k]?.toList
theorem showTo_length (d : List UInt8) : ∀ k, (showTo d k).length ≤ 2 * k
  | 0 => by simp [showTo]
  | k + 1 => by
    have := showTo_length d k
    have h1 : (d[k]?.toList).length ≤ 1 := by cases d[k]? <;> simp
    have h2 : (if 0 < k ∧ k % 3 = 0 then [(32 : UInt8)] else []).length ≤ 1 := by split <;> simp
    simp only [showTo, List.length_append]
    omega
def showL (l : List UInt8) : List UInt8 := if (rowL l).2 = true then l.take (l.length - (rowL l).1.length) ++ showTo (rowL l).1 (rowL l).1.length else []
theorem row_le (l : List UInt8) : (rowL l).1.length ≤ 15 ∧ (rowL l).1.length ≤ l.length ∧ ((rowL l).2 = true → l.length ≤ (rowL l).1.length + 1) := by
  have h : (bareL l).length ≤ l.length ∧ l.length ≤ (bareL l).length + 1 := by
    unfold bareL Lib.trimPrefix
    split
    · simp; omega
    · omega
  unfold rowL
  split
  · rename_i c; exact ⟨c.2.1, h.1, fun _ => h.2⟩
  · exact ⟨by simp, by simp, fun h => by cases h⟩
theorem ext_data (s : ByteArray) (i j : Nat) : (s.extract i j).data.toList = (s.data.toList.take j).drop i := by
  simp [ByteArray.data_extract, List.drop_take]
set_option maxHeartbeats 1600000 in
theorem show_any (s : ByteArray) (w : World) (hs : s.size ≤ 1000) : Calls Tryd.prog 22 #[.string s] w fun e w' => e = .returned (.string ⟨(showL s.data.toList).toArray⟩) ∧ w = w' := by
  have C := Lib.hid (row_any s w hs)
  have hn : s.data.toList.length = s.size := by simp
  have hrl := row_le s.data.toList
  obtain ⟨R, hR⟩ : ∃ R, showL s.data.toList = R := ⟨_, rfl⟩
  rw [hR]
  unfold showL at hR
  generalize rowL s.data.toList = r at *
  obtain ⟨d, ok⟩ := r
  simp only at hR hrl
  have ER := Lib.hid hR
  cases ok with
  | false =>
    have e : R = [] := by rw [← ER.out]; simp
    subst e
    clear hR hrl
    go_enter Tryd.func22, Tryd.ntmps22
    go_wp2_with fail
    refine (C.out).mono ?_
    rintro e w' ⟨rfl, rfl⟩
    go_wp2
    go_ret
    exact ⟨rfl, rfl⟩
  | true =>
    have hds : (ByteArray.mk d.toArray).size = d.length := by show d.toArray.size = _; simp
    have hdd : (ByteArray.mk d.toArray).data.toList = d := by simp
    unfold RowPost at C
    simp only at C
    obtain ⟨D, hD⟩ : ∃ D, ByteArray.mk d.toArray = D := ⟨_, rfl⟩
    rw [hD] at hds hdd C
    have n1 : D.size ≤ 15 := by omega
    have n2 : D.size ≤ s.size := by omega
    have n3 : s.size ≤ D.size + 1 := by have := hrl.2.2 rfl; omega
    replace ER : Hid (s.data.toList.take (s.size - D.size) ++ showTo d D.size = R) := by
      have := ER.out
      rwa [if_pos rfl, hn, ← hds] at this
    have HD := Lib.hid hdd
    have hcut : ((s.size : Int) - (D.size : Int)).toNat = s.size - D.size := by omega
    have n4 : 0 ≤ (s.size : Int) - (D.size : Int) ∧ (s.size : Int) - (D.size : Int) ≤ (s.size : Int) := by omega
    clear hR hrl hds hdd hD
    go_enter Tryd.func22, Tryd.ntmps22
    go_wp2_with fail
    refine (C.out).mono ?_
    rintro e w' ⟨rfl, rfl⟩
    go_wp2
    go_loop [5, 23] (fun o i => ∃ (k : Nat) (O : ByteArray), o = .string O ∧ i = .int .i64 k ∧ k ≤ D.size ∧ O.size ≤ 1 + 2 * k ∧ Hid (O.data.toList = s.data.toList.take (s.size - D.size) ++ showTo d k)) (fun _ i => D.size - (intOf i).toNat)
    case atStart =>
      refine ⟨0, _, rfl, rfl, by omega, ?_, ?_⟩
      · simp; omega
      · rw [Hid, ext_data]; simp [showTo]
    case round =>
      obtain ⟨k, O, rfl, rfl, hk, ho, hh⟩ := hrel
      by_cases hlt : k < D.size
      · have hx : (D.extract k (k + 1)).size = 1 := by rw [ByteArray.size_extract]; omega
        have hxd : (D.extract k (k + 1)).data.toList = d[k]?.toList := by
          rw [ext_data, HD.out, List.take_add_one]
          have hl : (d.take k).length = k := by
            have := congrArg List.length HD.out
            simp at this
            rw [List.length_take]; omega
          rw [List.drop_append_of_le_length (by omega), List.drop_of_length_le (by omega), List.nil_append]
        have Hxd := Lib.hid hxd
        have n5 : 0 ≤ (k : Int) ∧ (k : Int) ≤ (k : Int) + 1 ∧ (k : Int) + 1 ≤ (D.size : Int) := by omega
        have hk1 : ((k : Int) + 1).toNat = k + 1 := by omega
        by_cases c : 0 < k ∧ k % 3 = 0
        · obtain ⟨c1, c2⟩ := c
          have c3 : ((k : Int) % 3 == 0) = true := by simp; omega
          have z1 : (⟨#[32]⟩ : ByteArray).size = 1 := rfl
          have Hn : Hid ((O ++ (⟨#[32]⟩ : ByteArray) ++ D.extract k (k + 1)).data.toList = s.data.toList.take (s.size - D.size) ++ showTo d (k + 1)) := by
            rw [Hid, app_data, app_data, hh.out, Hxd.out, showTo, if_pos ⟨c1, c2⟩]; simp
          have hsz : (O ++ (⟨#[32]⟩ : ByteArray) ++ D.extract k (k + 1)).size ≤ 1 + 2 * (k + 1) := by rw [ByteArray.size_append, ByteArray.size_append]; omega
          have g1 : ((9223372036854775807 : Int) < ((O ++ (⟨#[32]⟩ : ByteArray)).size : Int)) = False := by rw [ByteArray.size_append]; exact eq_false (by omega)
          have g2 : ((9223372036854775807 : Int) < ((O ++ (⟨#[32]⟩ : ByteArray) ++ D.extract k (k + 1)).size : Int)) = False := eq_false (by omega)
          have Hsz := Lib.hid hsz
          clear hsz c2 hxd
          go_wp2
          go_roundw
          case measure => first | omega | (simp [intOf]; omega)
          case rel => exact ⟨k + 1, _, rfl, by first | rfl | go_num, hlt, Hsz.out, Hn⟩
        · have Hn : Hid ((O ++ D.extract k (k + 1)).data.toList = s.data.toList.take (s.size - D.size) ++ showTo d (k + 1)) := by
            rw [Hid, app_data, hh.out, Hxd.out, showTo, if_neg c]; simp
          have hsz : (O ++ D.extract k (k + 1)).size ≤ 1 + 2 * (k + 1) := by rw [ByteArray.size_append]; omega
          have g2 : ((9223372036854775807 : Int) < ((O ++ D.extract k (k + 1)).size : Int)) = False := eq_false (by omega)
          have Hsz := Lib.hid hsz
          by_cases k0 : 0 < k
          · have c3 : ((k : Int) % 3 == 0) = false := by
              have : ¬ k % 3 = 0 := fun h => c ⟨k0, h⟩
              simp; omega
            clear hsz c hxd
            go_wp2
            go_roundw
            case measure => first | omega | (simp [intOf]; omega)
            case rel => exact ⟨k + 1, _, rfl, by first | rfl | go_num, hlt, Hsz.out, Hn⟩
          · clear hsz c hxd
            go_wp2
            go_roundw
            case measure => first | omega | (simp [intOf]; omega)
            case rel => exact ⟨k + 1, _, rfl, by first | rfl | go_num, hlt, Hsz.out, Hn⟩
      · have hke : k = D.size := by omega
        subst hke
        have e : O = ⟨R.toArray⟩ := by
          apply Go.WideShapes.bytes_inj
          rw [hh.out, ER.out]
        have He := Lib.hid e
        clear e
        go_wp2
        go_ret
        exact ⟨by rw [← He.out]; rfl, rfl⟩
end Go.Proofs.YtemjpmkmpfpdhaaDoor
