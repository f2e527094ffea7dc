/-
  FoldOrders.
-/
import Derived.Test.YtemjpmkmpfpdhaaDoorFoF
set_option linter.unusedSimpArgs false
set_option linter.unusedVariables false
namespace Go.Proofs.YtemjpmkmpfpdhaaDoor
open Go.RowKit
set_option maxRecDepth 100000

def TrueP (w : World) (e : Ending) (w' : World) : Prop := e = .returned (.bool true) ∧ Pure w w'

set_option maxHeartbeats 6400000 in
theorem orders_walk (a b c f g : ByteArray) (w : World) (x y bc ac af fa eab eaf egf ltab : Bool) (hT : Tb w) (sa : a.size ≤ 100) (sb : b.size ≤ 100) (sc : c.size ≤ 100)
    (Cab : Hid (∀ w, Calls Tryd.prog 15 #[.string a, .string b] w fun e w' => e = .returned (.bool x) ∧ Pure w w'))
    (Cba : Hid (∀ w, Calls Tryd.prog 15 #[.string b, .string a] w fun e w' => e = .returned (.bool y) ∧ Pure w w'))
    (Caa : Hid (∀ w, Calls Tryd.prog 15 #[.string a, .string a] w fun e w' => e = .returned (.bool false) ∧ Pure w w'))
    (Cbc : Hid (∀ w, Calls Tryd.prog 15 #[.string b, .string c] w fun e w' => e = .returned (.bool bc) ∧ Pure w w'))
    (Cac : Hid (∀ w, Calls Tryd.prog 15 #[.string a, .string c] w fun e w' => e = .returned (.bool ac) ∧ Pure w w'))
    (Caf : Hid (∀ w, Calls Tryd.prog 15 #[.string a, .string f] w fun e w' => e = .returned (.bool af) ∧ Pure w w'))
    (Cfa : Hid (∀ w, Calls Tryd.prog 15 #[.string f, .string a] w fun e w' => e = .returned (.bool fa) ∧ Pure w w'))
    (Cf : Hid (∀ w, Calls Tryd.prog 13 #[.string a] w fun e w' => e = .returned (.string f) ∧ Pure w w'))
    (Cff : Hid (∀ w, Calls Tryd.prog 13 #[.string f] w fun e w' => e = .returned (.string f) ∧ Pure w w'))
    (hab : (a.toList == b.toList) = eab) (haf : (a.toList == f.toList) = eaf) (hgf : (!g.toList == f.toList) = !egf) (hltab : Op.bytesLess a.toList b.toList = ltab) (hfs : ((f.size : Int) == (a.size : Int)) = true)
    (hxy : Hid ((x = true ∧ y = false ∧ eab = false) ∨ (x = false ∧ y = true ∧ eab = false) ∨ (x = false ∧ y = false ∧ eab = true))) (htr : Hid (x = true → bc = true → ac = true)) (hfa : Hid (eaf = false → af = false → fa = true)) (hlt : Hid (egf = true → ltab = x))
    (Cg : Hid (∀ w, Calls Tryd.prog 13 #[.string b] w fun e w' => e = .returned (.string g) ∧ Pure w w')) :
    Calls Tryd.prog 5 #[.string a, .string b, .string c] w (TrueP w) := by
  have C0 := Lib.hid (first_any w hT)
  go_enter Tryd.func5, Tryd.ntmps5
  go_wp2_with fail
  refine (C0.out).mono ?_
  rintro e w1 ⟨rfl, k1⟩
  go_wp2_with fail
  refine (Cab.out w1).mono ?_
  rintro e w2 ⟨rfl, k2⟩
  go_wp2_with fail
  refine (Cba.out w2).mono ?_
  rintro e w3 ⟨rfl, k3⟩
  have ka := k1.same (k2.same k3)
  rcases hxy.out with ⟨rfl, rfl, rfl⟩ | ⟨rfl, rfl, rfl⟩ | ⟨rfl, rfl, rfl⟩
  · go_wp2_with fail
    refine (Caa.out w3).mono ?_
    rintro e w4 ⟨rfl, k4⟩
    go_wp2_with fail
    refine (Cbc.out w4).mono ?_
    rintro e w5 ⟨rfl, k5⟩
    have kb := ka.same (k4.same k5)
    cases bc
    · go_wp2_with fail
      refine (Cf.out _).mono ?_
      rintro e w6 ⟨rfl, k6⟩
      go_wp2_with fail
      refine (Cff.out _).mono ?_
      rintro e w7 ⟨rfl, k7⟩
      have kk := kb.same (k6.same k7)
      cases eaf
      · go_wp2_with fail
        refine (Caf.out _).mono ?_
        rintro e w8 ⟨rfl, k8⟩
        have kl := kk.same k8
        cases af
        · obtain rfl : fa = true := by simpa using hfa.out
          go_wp2_with fail
          refine (Cfa.out _).mono ?_
          rintro e w10 ⟨rfl, k10⟩
          have km := kl.same k10
          cases egf
          · go_wp2_with fail
            refine (Cg.out _).mono ?_
            rintro e w9 ⟨rfl, k9⟩
            go_wp2
            go_ret
            exact ⟨rfl, km.same k9⟩
          · have hlt2 := by simpa using hlt.out
            subst hlt2
            go_wp2_with fail
            refine (Cg.out _).mono ?_
            rintro e w9 ⟨rfl, k9⟩
            go_wp2
            go_ret
            exact ⟨rfl, km.same k9⟩
        · cases egf
          · go_wp2_with fail
            refine (Cg.out _).mono ?_
            rintro e w9 ⟨rfl, k9⟩
            go_wp2
            go_ret
            exact ⟨rfl, kl.same k9⟩
          · have hlt2 := by simpa using hlt.out
            subst hlt2
            go_wp2_with fail
            refine (Cg.out _).mono ?_
            rintro e w9 ⟨rfl, k9⟩
            go_wp2
            go_ret
            exact ⟨rfl, kl.same k9⟩
      · cases egf
        · go_wp2_with fail
          refine (Cg.out _).mono ?_
          rintro e w9 ⟨rfl, k9⟩
          go_wp2
          go_ret
          exact ⟨rfl, kk.same k9⟩
        · have hlt2 := by simpa using hlt.out
          subst hlt2
          go_wp2_with fail
          refine (Cg.out _).mono ?_
          rintro e w9 ⟨rfl, k9⟩
          go_wp2
          go_ret
          exact ⟨rfl, kk.same k9⟩
    · obtain rfl : ac = true := by simpa using htr.out
      go_wp2_with fail
      refine (Cac.out w5).mono ?_
      rintro e w5a ⟨rfl, k5a⟩
      have kc := kb.same k5a
      go_wp2_with fail
      refine (Cf.out _).mono ?_
      rintro e w6 ⟨rfl, k6⟩
      go_wp2_with fail
      refine (Cff.out _).mono ?_
      rintro e w7 ⟨rfl, k7⟩
      have kk := kc.same (k6.same k7)
      cases eaf
      · go_wp2_with fail
        refine (Caf.out _).mono ?_
        rintro e w8 ⟨rfl, k8⟩
        have kl := kk.same k8
        cases af
        · obtain rfl : fa = true := by simpa using hfa.out
          go_wp2_with fail
          refine (Cfa.out _).mono ?_
          rintro e w10 ⟨rfl, k10⟩
          have km := kl.same k10
          cases egf
          · go_wp2_with fail
            refine (Cg.out _).mono ?_
            rintro e w9 ⟨rfl, k9⟩
            go_wp2
            go_ret
            exact ⟨rfl, km.same k9⟩
          · have hlt2 := by simpa using hlt.out
            subst hlt2
            go_wp2_with fail
            refine (Cg.out _).mono ?_
            rintro e w9 ⟨rfl, k9⟩
            go_wp2
            go_ret
            exact ⟨rfl, km.same k9⟩
        · cases egf
          · go_wp2_with fail
            refine (Cg.out _).mono ?_
            rintro e w9 ⟨rfl, k9⟩
            go_wp2
            go_ret
            exact ⟨rfl, kl.same k9⟩
          · have hlt2 := by simpa using hlt.out
            subst hlt2
            go_wp2_with fail
            refine (Cg.out _).mono ?_
            rintro e w9 ⟨rfl, k9⟩
            go_wp2
            go_ret
            exact ⟨rfl, kl.same k9⟩
      · cases egf
        · go_wp2_with fail
          refine (Cg.out _).mono ?_
          rintro e w9 ⟨rfl, k9⟩
          go_wp2
          go_ret
          exact ⟨rfl, kk.same k9⟩
        · have hlt2 := by simpa using hlt.out
          subst hlt2
          go_wp2_with fail
          refine (Cg.out _).mono ?_
          rintro e w9 ⟨rfl, k9⟩
          go_wp2
          go_ret
          exact ⟨rfl, kk.same k9⟩
  · go_wp2_with fail
    refine (Caa.out w3).mono ?_
    rintro e w4 ⟨rfl, k4⟩
    have kb := ka.same k4
    go_wp2_with fail
    refine (Cf.out _).mono ?_
    rintro e w6 ⟨rfl, k6⟩
    go_wp2_with fail
    refine (Cff.out _).mono ?_
    rintro e w7 ⟨rfl, k7⟩
    have kk := kb.same (k6.same k7)
    cases eaf
    · go_wp2_with fail
      refine (Caf.out _).mono ?_
      rintro e w8 ⟨rfl, k8⟩
      have kl := kk.same k8
      cases af
      · obtain rfl : fa = true := by simpa using hfa.out
        go_wp2_with fail
        refine (Cfa.out _).mono ?_
        rintro e w10 ⟨rfl, k10⟩
        have km := kl.same k10
        cases egf
        · go_wp2_with fail
          refine (Cg.out _).mono ?_
          rintro e w9 ⟨rfl, k9⟩
          go_wp2
          go_ret
          exact ⟨rfl, km.same k9⟩
        · have hlt2 := by simpa using hlt.out
          subst hlt2
          go_wp2_with fail
          refine (Cg.out _).mono ?_
          rintro e w9 ⟨rfl, k9⟩
          go_wp2
          go_ret
          exact ⟨rfl, km.same k9⟩
      · cases egf
        · go_wp2_with fail
          refine (Cg.out _).mono ?_
          rintro e w9 ⟨rfl, k9⟩
          go_wp2
          go_ret
          exact ⟨rfl, kl.same k9⟩
        · have hlt2 := by simpa using hlt.out
          subst hlt2
          go_wp2_with fail
          refine (Cg.out _).mono ?_
          rintro e w9 ⟨rfl, k9⟩
          go_wp2
          go_ret
          exact ⟨rfl, kl.same k9⟩
    · cases egf
      · go_wp2_with fail
        refine (Cg.out _).mono ?_
        rintro e w9 ⟨rfl, k9⟩
        go_wp2
        go_ret
        exact ⟨rfl, kk.same k9⟩
      · have hlt2 := by simpa using hlt.out
        subst hlt2
        go_wp2_with fail
        refine (Cg.out _).mono ?_
        rintro e w9 ⟨rfl, k9⟩
        go_wp2
        go_ret
        exact ⟨rfl, kk.same k9⟩
  · go_wp2_with fail
    refine (Caa.out w3).mono ?_
    rintro e w4 ⟨rfl, k4⟩
    have kb := ka.same k4
    go_wp2_with fail
    refine (Cf.out _).mono ?_
    rintro e w6 ⟨rfl, k6⟩
    go_wp2_with fail
    refine (Cff.out _).mono ?_
    rintro e w7 ⟨rfl, k7⟩
    have kk := kb.same (k6.same k7)
    cases eaf
    · go_wp2_with fail
      refine (Caf.out _).mono ?_
      rintro e w8 ⟨rfl, k8⟩
      have kl := kk.same k8
      cases af
      · obtain rfl : fa = true := by simpa using hfa.out
        go_wp2_with fail
        refine (Cfa.out _).mono ?_
        rintro e w10 ⟨rfl, k10⟩
        have km := kl.same k10
        cases egf
        · go_wp2_with fail
          refine (Cg.out _).mono ?_
          rintro e w9 ⟨rfl, k9⟩
          go_wp2
          go_ret
          exact ⟨rfl, km.same k9⟩
        · have hlt2 := by simpa using hlt.out
          subst hlt2
          go_wp2_with fail
          refine (Cg.out _).mono ?_
          rintro e w9 ⟨rfl, k9⟩
          go_wp2
          go_ret
          exact ⟨rfl, km.same k9⟩
      · cases egf
        · go_wp2_with fail
          refine (Cg.out _).mono ?_
          rintro e w9 ⟨rfl, k9⟩
          go_wp2
          go_ret
          exact ⟨rfl, kl.same k9⟩
        · have hlt2 := by simpa using hlt.out
          subst hlt2
          go_wp2_with fail
          refine (Cg.out _).mono ?_
          rintro e w9 ⟨rfl, k9⟩
          go_wp2
          go_ret
          exact ⟨rfl, kl.same k9⟩
    · cases egf
      · go_wp2_with fail
        refine (Cg.out _).mono ?_
        rintro e w9 ⟨rfl, k9⟩
        go_wp2
        go_ret
        exact ⟨rfl, kk.same k9⟩
      · have hlt2 := by simpa using hlt.out
        subst hlt2
        go_wp2_with fail
        refine (Cg.out _).mono ?_
        rintro e w9 ⟨rfl, k9⟩
        go_wp2
        go_ret
        exact ⟨rfl, kk.same k9⟩

theorem bl_tri : ∀ x y : List UInt8, (Op.bytesLess x y = true ∧ Op.bytesLess y x = false ∧ x ≠ y) ∨ (Op.bytesLess x y = false ∧ Op.bytesLess y x = true ∧ x ≠ y) ∨ (Op.bytesLess x y = false ∧ Op.bytesLess y x = false ∧ x = y)
  | [], [] => .inr (.inr ⟨rfl, rfl, rfl⟩)
  | [], _ :: _ => .inl ⟨rfl, rfl, by simp⟩
  | _ :: _, [] => .inr (.inl ⟨rfl, rfl, by simp⟩)
  | a :: x, b :: y => by
    have ih := bl_tri x y
    rcases Nat.lt_trichotomy a.toNat b.toNat with h | h | h
    · have h1 : a < b := UInt8.lt_iff_toNat_lt.2 h
      have h2 : ¬ b < a := fun h => by have := UInt8.lt_iff_toNat_lt.1 h; omega
      have h3 : a ≠ b := fun e => by rw [e] at h; omega
      exact .inl ⟨by simp [Op.bytesLess, h1], by simp [Op.bytesLess, h2, Ne.symm h3], by simp [h3]⟩
    · obtain rfl : a = b := UInt8.toNat_inj.1 h
      have h2 : ¬ a < a := fun h => by have := UInt8.lt_iff_toNat_lt.1 h; omega
      simpa [Op.bytesLess, h2] using ih
    · have h1 : b < a := UInt8.lt_iff_toNat_lt.2 h
      have h2 : ¬ a < b := fun h => by have := UInt8.lt_iff_toNat_lt.1 h; omega
      have h3 : a ≠ b := fun e => by rw [e] at h; omega
      exact .inr (.inl ⟨by simp [Op.bytesLess, h2, h3], by simp [Op.bytesLess, h1], by simp [h3]⟩)
theorem bl_trans : ∀ x y z : List UInt8, Op.bytesLess x y = true → Op.bytesLess y z = true → Op.bytesLess x z = true
  | _, [], _, h, _ => by cases ‹List UInt8› <;> simp [Op.bytesLess] at h
  | _, _ :: _, [], _, h => by simp [Op.bytesLess] at h
  | [], _ :: _, _ :: _, _, _ => rfl
  | a :: x, b :: y, c :: z, h1, h2 => by
    have ih := bl_trans x y z
    simp only [Op.bytesLess, Bool.or_eq_true, Bool.and_eq_true, decide_eq_true_eq, beq_iff_eq, UInt8.lt_iff_toNat_lt] at *
    rcases h1 with h1 | ⟨rfl, h1⟩
    · rcases h2 with h2 | ⟨rfl, h2⟩
      · exact .inl (by omega)
      · exact .inl h1
    · rcases h2 with h2 | ⟨rfl, h2⟩
      · exact .inl h2
      · exact .inr ⟨rfl, ih h1 h2⟩
theorem lessL_tri (a b : List UInt8) : (lessL a b = true ∧ lessL b a = false ∧ a ≠ b) ∨ (lessL a b = false ∧ lessL b a = true ∧ a ≠ b) ∨ (lessL a b = false ∧ lessL b a = false ∧ a = b) := by
  by_cases h : foldL a = foldL b
  · simpa [lessL, h] using bl_tri a b
  · have h' : foldL b ≠ foldL a := fun e => h e.symm
    have hab : a ≠ b := fun e => h (by rw [e])
    have := bl_tri (foldL a) (foldL b)
    simpa [lessL, h, h', hab] using this
theorem lessL_trans (a b c : List UInt8) (h1 : lessL a b = true) (h2 : lessL b c = true) : lessL a c = true := by
  by_cases hab : foldL a = foldL b
  · by_cases hbc : foldL b = foldL c
    · simp [lessL, hab, hbc] at h1 h2 ⊢
      exact bl_trans _ _ _ h1 h2
    · simpa [lessL, hab, hbc] using h2
  · by_cases hbc : foldL b = foldL c
    · rw [hbc] at hab
      simpa [lessL, hab, hbc] using h1
    · simp only [lessL, if_pos hab, if_pos hbc] at h1 h2
      have h3 := bl_trans _ _ _ h1 h2
      have hac : foldL a ≠ foldL c := fun e => by
        rw [e, less_irrefl] at h3; cases h3
      simpa only [lessL, if_pos hac] using h3
theorem lessL_self (a : List UInt8) : lessL a a = false := by simp [lessL, less_irrefl]

set_option maxHeartbeats 800000 in
theorem orders_any (a b c : ByteArray) (w : World) (hT : Tb w) (ha : a.size ≤ maxLen) (hb : b.size ≤ maxLen) (hc : c.size ≤ maxLen) : Calls Tryd.prog 5 #[.string a, .string b, .string c] w (TrueP w) := by
  have C0 := Lib.hid (first_any w hT)
  have C1 := Lib.hid (fun w h => first_any w h)
  have HT := Lib.hid hT
  unfold maxLen at ha hb hc
  by_cases sa : a.size ≤ 100
  · by_cases sb : b.size ≤ 100
    · by_cases sc : c.size ≤ 100
      · clear C0 C1
        have F : ∀ s : ByteArray, s.size ≤ 100 → ByteArray.mk (foldL s.data.toList).toArray = ByteArray.mk (foldL s.data.toList).toArray ∧ (ByteArray.mk (foldL s.data.toList).toArray).size = s.size := fun s _ => ⟨rfl, by
          show (foldL s.data.toList).toArray.size = _
          simp [foldL_length]⟩
        have hf := (F a sa).2
        have hff : (ByteArray.mk (foldL (ByteArray.mk (foldL a.data.toList).toArray).data.toList).toArray) = ByteArray.mk (foldL a.data.toList).toArray := by
          show ByteArray.mk (foldL (foldL a.data.toList).toArray.toList).toArray = _
          rw [List.toList_toArray, foldL_foldL]
        have hfl : (ByteArray.mk (foldL a.data.toList).toArray).data.toList = foldL a.data.toList := by simp
        have Cff := fun w => fold_any (ByteArray.mk (foldL a.data.toList).toArray) w (by omega)
        rw [hff] at Cff
        refine orders_walk a b c (ByteArray.mk (foldL a.data.toList).toArray) (ByteArray.mk (foldL b.data.toList).toArray) w _ _ _ _ _ _ _ _ _ _ HT.out sa sb sc
          (fun w => less_any a b w (by omega) (by omega)) (fun w => less_any b a w (by omega) (by omega)) (fun w => by have := less_any a a w (by omega) (by omega); rwa [lessL_self] at this)
          (fun w => less_any b c w (by omega) (by omega)) (fun w => less_any a c w (by omega) (by omega)) (fun w => less_any a _ w (by omega) (by omega)) (fun w => less_any _ a w (by omega) (by omega))
          (fun w => fold_any a w (by omega)) Cff rfl rfl (Eq.symm ((Bool.not_not _).trans rfl)) rfl (by simp [hf]) ?_ ?_ ?_ ?_ (fun w => fold_any b w (by omega))
        · rcases lessL_tri a.data.toList b.data.toList with ⟨h1, h2, h3⟩ | ⟨h1, h2, h3⟩ | ⟨h1, h2, h3⟩
          · exact .inl ⟨h1, h2, by simpa [Lib.toList_data] using h3⟩
          · exact .inr (.inl ⟨h1, h2, by simpa [Lib.toList_data] using h3⟩)
          · exact .inr (.inr ⟨h1, h2, by simpa [Lib.toList_data] using h3⟩)
        · exact fun h1 h2 => lessL_trans _ _ _ h1 h2
        · intro h1 h2
          rw [hfl] at h2 ⊢
          rcases lessL_tri a.data.toList (foldL a.data.toList) with ⟨h3, _, _⟩ | ⟨_, h3, _⟩ | ⟨_, _, h3⟩
          · rw [h3] at h2; cases h2
          · exact h3
          · simp [Lib.toList_data] at h1; exact absurd h3 h1
        · intro h
          have h2 : foldL b.data.toList = foldL a.data.toList := by simpa [Lib.toList_data] using h
          rw [lessL, if_neg (fun h => h h2.symm), Lib.toList_data, Lib.toList_data]
      · go_enter Tryd.func5, Tryd.ntmps5
        go_wp2_with fail
        refine (C0.out).mono ?_
        rintro e w1 ⟨rfl, k1⟩
        go_wp2_with fail
        refine (C1.out w1 (HT.out.kept k1)).mono ?_
        rintro e w2 ⟨rfl, k2⟩
        go_wp2
        go_ret
        exact ⟨rfl, k1.same k2⟩
    · go_enter Tryd.func5, Tryd.ntmps5
      go_wp2_with fail
      refine (C0.out).mono ?_
      rintro e w1 ⟨rfl, k1⟩
      go_wp2_with fail
      refine (C1.out w1 (HT.out.kept k1)).mono ?_
      rintro e w2 ⟨rfl, k2⟩
      go_wp2
      go_ret
      exact ⟨rfl, k1.same k2⟩
  · go_enter Tryd.func5, Tryd.ntmps5
    go_wp2_with fail
    refine (C0.out).mono ?_
    rintro e w1 ⟨rfl, k1⟩
    go_wp2_with fail
    refine (C1.out w1 (HT.out.kept k1)).mono ?_
    rintro e w2 ⟨rfl, k2⟩
    go_wp2
    go_ret
    exact ⟨rfl, k1.same k2⟩
end Go.Proofs.YtemjpmkmpfpdhaaDoor
