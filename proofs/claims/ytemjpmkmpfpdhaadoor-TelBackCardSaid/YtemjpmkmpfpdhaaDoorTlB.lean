/-
  the reference's bare walked.
-/
import Derived.Test.YtemjpmkmpfpdhaaDoorTlR
set_option linter.unusedSimpArgs false
set_option linter.unusedVariables false
namespace Go.Proofs.YtemjpmkmpfpdhaaDoor
open Go.RowKit
set_option maxRecDepth 100000

def sizeOf' (v : Value) : Nat := match v with | .string b => b.size | _ => 0
theorem zl_step (l : List UInt8) (h : l[0]? = some 48) : zl (l.drop 1) = zl l := by
  cases l with
  | nil => simp at h
  | cons x r => simp at h; subst h; simp [zl, Lib.trimLeftB]
theorem zl_stop (l : List UInt8) (h : l[0]? ≠ some 48) : zl l = l := by
  cases l with
  | nil => rfl
  | cons x r =>
    have : ¬ x = 48 := fun e => h (by simp [e])
    simp [zl, Lib.trimLeftB, this]
set_option maxHeartbeats 1600000 in
theorem bare_any (s : ByteArray) (w : World) (hs : s.size ≤ 1000) (h0 : 1 ≤ s.size) : Calls Tryd.prog 37 #[.string s] w fun e w' => e = .returned (.string ⟨(zl (bareL s.data.toList)).toArray⟩) ∧ w = w' := by
  obtain ⟨R, hR⟩ : ∃ R, zl (bareL s.data.toList) = R := ⟨_, rfl⟩
  rw [hR]
  have hn : s.data.toList.length = s.size := by simp
  obtain ⟨c, hc⟩ : ∃ c, s.data.toList[0]? = some c := ⟨_, List.getElem?_eq_getElem (by omega)⟩
  have q0 : 0 < s.size := h0
  have i0 := str_at s 0 c q0 hc
  by_cases hp : c.toNat = 43
  · have hp' : ((c.toNat : Int) == 43) = true := by simp [hp]
    have hz : Hid (zl (s.extract 1 s.size).data.toList = R) := by
      rw [Hid, ext_data, List.take_of_length_le (by omega), ← hR, bareL_plus _ (by rw [hc, show c = 43 from UInt8.toNat_inj.1 hp])]
    have hDs : (s.extract 1 s.size).size ≤ 1000 := by rw [ByteArray.size_extract]; omega
    generalize hX : s.extract 1 s.size = X at *
    clear hR hc hp hn
    go_enter Tryd.func37, Tryd.ntmps37
    go_wp2
    go_loop [0] (fun v => ∃ D : ByteArray, v = .string D ∧ D.size ≤ 1000 ∧ Hid (zl D.data.toList = R)) (fun v => sizeOf' v)
    case atStart => exact ⟨_, rfl, by omega, hz⟩
    case round =>
      obtain ⟨D, rfl, hD, hh⟩ := hrel
      by_cases n0 : D.size = 0
      · have e : R = D.data.toList := by rw [← hh.out, zl_stop _ (by rw [List.getElem?_eq_none (by simpa using n0)]; simp)]
        have He := Lib.hid e
        clear e
        go_wp2
        go_ret
        refine ⟨?_, rfl⟩
        rw [He.out]
        rfl
      · obtain ⟨d, hd⟩ : ∃ d, D.data.toList[0]? = some d := ⟨_, List.getElem?_eq_getElem (by simp; omega)⟩
        have r0 : 0 < D.size := by omega
        have id := str_at D 0 d r0 hd
        by_cases f : d.toNat = 48
        · have f' : ((d.toNat : Int) == 48) = true := by simp [f]
          have Hn : Hid (zl (D.extract 1 D.size).data.toList = R) := by
            rw [Hid, ext_data, List.take_of_length_le (by simp), zl_step _ (by rw [hd, show d = 48 from UInt8.toNat_inj.1 f]), hh.out]
          have hs1 : (D.extract 1 D.size).size = D.size - 1 := by rw [ByteArray.size_extract]; omega
          have Hs := Lib.hid hs1
          have r1 : 1 ≤ D.size := r0
          clear f hd hs1
          go_wp2
          go_round
          case measure => show sizeOf' (.string _) < sizeOf' (.string _); simp only [sizeOf']; rw [Hs.out]; omega
          case rel => exact ⟨_, rfl, by rw [Hs.out]; omega, Hn⟩
        · have f' : ((d.toNat : Int) == 48) = false := by simpa using (by omega : ¬ (d.toNat : Int) = 48)
          have e : R = D.data.toList := by rw [← hh.out, zl_stop _ (by rw [hd]; intro h; injection h with h; exact f (by rw [h]; rfl))]
          have He := Lib.hid e
          clear e f hd
          go_wp2
          go_ret
          refine ⟨?_, rfl⟩
          rw [He.out]
          rfl
  · have hp' : ((c.toNat : Int) == 43) = false := by simpa using (by omega : ¬ (c.toNat : Int) = 43)
    have hz : Hid (zl s.data.toList = R) := by
      rw [Hid, ← hR, bareL_no _ (by rw [hc]; intro h; injection h with h; exact hp (by rw [h]; rfl))]
    clear hR hc hp hn
    go_enter Tryd.func37, Tryd.ntmps37
    go_wp2
    go_loop [0] (fun v => ∃ D : ByteArray, v = .string D ∧ D.size ≤ 1000 ∧ Hid (zl D.data.toList = R)) (fun v => sizeOf' v)
    case atStart => exact ⟨_, rfl, by omega, hz⟩
    case round =>
      obtain ⟨D, rfl, hD, hh⟩ := hrel
      by_cases n0 : D.size = 0
      · have e : R = D.data.toList := by rw [← hh.out, zl_stop _ (by rw [List.getElem?_eq_none (by simpa using n0)]; simp)]
        have He := Lib.hid e
        clear e
        go_wp2
        go_ret
        refine ⟨?_, rfl⟩
        rw [He.out]
        rfl
      · obtain ⟨d, hd⟩ : ∃ d, D.data.toList[0]? = some d := ⟨_, List.getElem?_eq_getElem (by simp; omega)⟩
        have r0 : 0 < D.size := by omega
        have id := str_at D 0 d r0 hd
        by_cases f : d.toNat = 48
        · have f' : ((d.toNat : Int) == 48) = true := by simp [f]
          have Hn : Hid (zl (D.extract 1 D.size).data.toList = R) := by
            rw [Hid, ext_data, List.take_of_length_le (by simp), zl_step _ (by rw [hd, show d = 48 from UInt8.toNat_inj.1 f]), hh.out]
          have hs1 : (D.extract 1 D.size).size = D.size - 1 := by rw [ByteArray.size_extract]; omega
          have Hs := Lib.hid hs1
          have r1 : 1 ≤ D.size := r0
          clear f hd hs1
          go_wp2
          go_round
          case measure => show sizeOf' (.string _) < sizeOf' (.string _); simp only [sizeOf']; rw [Hs.out]; omega
          case rel => exact ⟨_, rfl, by rw [Hs.out]; omega, Hn⟩
        · have f' : ((d.toNat : Int) == 48) = false := by simpa using (by omega : ¬ (d.toNat : Int) = 48)
          have e : R = D.data.toList := by rw [← hh.out, zl_stop _ (by rw [hd]; intro h; injection h with h; exact f (by rw [h]; rfl))]
          have He := Lib.hid e
          clear e f hd
          go_wp2
          go_ret
          refine ⟨?_, rfl⟩
          rw [He.out]
          rfl
end Go.Proofs.YtemjpmkmpfpdhaaDoor
