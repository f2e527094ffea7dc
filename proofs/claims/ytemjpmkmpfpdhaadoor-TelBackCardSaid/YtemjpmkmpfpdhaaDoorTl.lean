/-
  tel's row, Is walked.
-/
import Derived.Test.YtemjpmkmpfpdhaaDoorFoH
set_option linter.unusedSimpArgs false
set_option linter.unusedVariables false
namespace Go.Proofs.YtemjpmkmpfpdhaaDoor
open Go.RowKit
set_option maxRecDepth 100000

/-- A number without its sign. -/
def bareL (l : List UInt8) : List UInt8 := Lib.trimPrefix l [43]
def digL (b : UInt8) : Bool := decide (48 ≤ b.toNat ∧ b.toNat ≤ 57)
def rowL (l : List UInt8) : List UInt8 × Bool := if 3 ≤ (bareL l).length ∧ (bareL l).length ≤ 15 ∧ (bareL l).all digL = true then (bareL l, true) else ([], false)

theorem dig_next {l : List UInt8} {k : Nat} {b : UInt8} (h : (l.take k).all digL = true) (hb : l[k]? = some b) (h1 : 48 ≤ b.toNat) (h2 : b.toNat ≤ 57) : (l.take (k + 1)).all digL = true := by
  rw [List.take_add_one, hb, Option.toList_some, List.all_append, h]
  simp [digL, h1, h2]
theorem dig_no {l : List UInt8} {k : Nat} {b : UInt8} (hb : l[k]? = some b) (h : ¬ (48 ≤ b.toNat ∧ b.toNat ≤ 57)) : ¬ l.all digL = true := fun hd => by
  have := List.all_eq_true.1 hd b (List.mem_of_getElem? hb)
  simp [digL] at this
  exact h this

def RowPost (w : World) (r : List UInt8 × Bool) (e : Ending) (w' : World) : Prop := e = .returned (.tuple #[.string ⟨r.1.toArray⟩, .bool r.2]) ∧ w = w'
set_option maxHeartbeats 800000 in
theorem row_any (s : ByteArray) (w : World) (hs : s.size ≤ 1000) : Calls Tryd.prog 33 #[.string s] w (RowPost w (rowL s.data.toList)) := by
  have c1 := Any.strings_TrimPrefix Tryd.lays101 s ⟨#[43]⟩ w
  rw [show Lib.trimPrefix s.data.toList (ByteArray.mk #[43]).data.toList = bareL s.data.toList from rfl] at c1
  have C1 := Lib.hid c1
  have hR : ∃ R, rowL s.data.toList = R := ⟨_, rfl⟩
  obtain ⟨R, hR⟩ := hR
  rw [hR]
  unfold rowL at hR
  generalize bareL s.data.toList = d at *
  have hds : (ByteArray.mk d.toArray).size = d.length := by show d.toArray.size = _; simp
  have hdd : (ByteArray.mk d.toArray).data.toList = d := by simp
  have Hget := Lib.hid (str_at ⟨d.toArray⟩)
  rw [hdd] at Hget
  have ER := Lib.hid hR
  generalize hDD : ByteArray.mk d.toArray = D at *
  have HDD := Lib.hid hDD
  clear hDD
  have HD := Lib.hid hds
  clear c1 hR hdd
  by_cases n1 : D.size < 3
  · have e : R = ([], false) := by rw [← ER.out, if_neg (by have := HD.out; omega)]
    have He := Lib.hid e
    clear e hds
    go_enter Tryd.func33, Tryd.ntmps33
    go_wp2_with fail
    refine (C1.out).mono ?_
    rintro e w' ⟨rfl, rfl⟩
    go_wp2
    go_ret2
    exact ⟨by rw [He.out]; rfl, rfl⟩
  · by_cases n2 : 15 < D.size
    · have e : R = ([], false) := by rw [← ER.out, if_neg (by have := HD.out; omega)]
      have He := Lib.hid e
      clear e hds
      go_enter Tryd.func33, Tryd.ntmps33
      go_wp2_with fail
      refine (C1.out).mono ?_
      rintro e w' ⟨rfl, rfl⟩
      go_wp2
      go_ret2
      exact ⟨by rw [He.out]; rfl, rfl⟩
    · clear hds
      go_enter Tryd.func33, Tryd.ntmps33
      go_wp2_with fail
      refine (C1.out).mono ?_
      rintro e w' ⟨rfl, rfl⟩
      go_wp2
      go_loop [18] (fun i => ∃ k : Nat, i = .int .i64 k ∧ k ≤ D.size ∧ Hid ((d.take k).all digL = true)) (fun i => D.size - (intOf i).toNat)
      case atStart => exact ⟨0, rfl, Nat.zero_le _, by simp [Hid]⟩
      case round =>
        obtain ⟨k, rfl, hk, hh⟩ := hrel
        by_cases hlt : k < D.size
        · obtain ⟨b, hb⟩ : ∃ b, d[k]? = some b := ⟨_, List.getElem?_eq_getElem (by have := HD.out; omega)⟩
          have ib := Hget.out k b hlt hb
          have hb256 : b.toNat < 256 := b.toNat_lt
          by_cases f1 : b.toNat < 48
          · have e : R = ([], false) := by rw [← ER.out, if_neg (fun h => dig_no hb (by omega) h.2.2)]
            have He := Lib.hid e
            clear e hb
            go_wp2
            go_ret2
            exact ⟨by rw [He.out]; rfl, rfl⟩
          · by_cases f2 : 57 < b.toNat
            · have e : R = ([], false) := by rw [← ER.out, if_neg (fun h => dig_no hb (by omega) h.2.2)]
              have He := Lib.hid e
              clear e hb
              go_wp2
              go_ret2
              exact ⟨by rw [He.out]; rfl, rfl⟩
            · have Hn := Lib.hid (dig_next hh.out hb (by omega) (by omega))
              clear hb
              go_wp2
              go_round
              case measure => first | omega | (simp [intOf]; omega)
              case rel => exact ⟨k + 1, by first | rfl | go_num, hlt, Hn⟩
        · have hke : k = D.size := by omega
          subst hke
          have e : R = (d, true) := by
            have h1 := hh.out
            have h2 := HD.out
            rw [List.take_of_length_le (by omega)] at h1
            rw [← ER.out, if_pos ⟨by omega, by omega, h1⟩]
          have He := Lib.hid e
          clear e
          go_wp2
          go_ret2
          refine ⟨?_, rfl⟩
          rw [He.out]
          show _ = Ending.returned (.tuple #[.string ⟨d.toArray⟩, .bool true])
          rw [HDD.out]
          rfl

def isL (l : List UInt8) : Bool := (rowL l).2
theorem is_any (s : ByteArray) (w : World) (hs : s.size ≤ 1000) : Calls Tryd.prog 21 #[.string s] w fun e w' => e = .returned (.bool (isL s.data.toList)) ∧ w = w' := by
  have C := Lib.hid (row_any s w hs)
  unfold isL
  generalize rowL s.data.toList = R at *
  go_enter Tryd.func21, Tryd.ntmps21
  go_wp2_with fail
  refine (C.out).mono ?_
  rintro e w' ⟨rfl, rfl⟩
  go_wp2
  go_ret
  exact ⟨rfl, rfl⟩

/-- The signs that may stand in a number. -/
def gap (b : UInt8) : Bool := decide (b.toNat = 32 ∨ b.toNat = 45 ∨ b.toNat = 46 ∨ b.toNat = 47 ∨ b.toNat = 40 ∨ b.toNat = 41)
def keepL (l : List UInt8) : List UInt8 := l.filter fun b => !gap b
theorem keep_skip {l : List UInt8} {k : Nat} {b : UInt8} (hb : l[k]? = some b) (h : gap b = true) : keepL (l.take (k + 1)) = keepL (l.take k) := by
  rw [List.take_add_one, hb, Option.toList_some, keepL, List.filter_append]
  simp [h, keepL]
theorem keep_add {l : List UInt8} {k : Nat} {b : UInt8} (hb : l[k]? = some b) (h : gap b = false) : keepL (l.take (k + 1)) = keepL (l.take k) ++ [b] := by
  rw [List.take_add_one, hb, Option.toList_some, keepL, List.filter_append]
  simp [h, keepL]
theorem keep_length (l : List UInt8) : (keepL l).length ≤ l.length := List.length_filter_le _ _
def telL (l : List UInt8) : List UInt8 × Int := if (C l).2 ≠ 0 then ([], (C l).2) else if isL (keepL (C l).1) = true then (keepL (C l).1, 0) else ([], 1)
end Go.Proofs.YtemjpmkmpfpdhaaDoor
