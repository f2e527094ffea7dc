/-
  FoldSigns.
-/
import Derived.Test.YtemjpmkmpfpdhaaDoorFoF
set_option linter.unusedSimpArgs false
set_option linter.unusedVariables false
namespace Go.Proofs.YtemjpmkmpfpdhaaDoor
open Go.RowKit
set_option maxRecDepth 100000

/-- The signs of a text, where it is well formed. -/
def sgF : Nat → List UInt8 → Option Nat
  | 0, l => if l = [] then some 0 else none
  | n + 1, l => if l = [] then some 0 else if signL l = 0 then none else (sgF n (l.drop (signL l))).map (1 + ·)
theorem sgF_fuel : ∀ (n m : Nat) (l : List UInt8), l.length ≤ n → l.length ≤ m → sgF n l = sgF m l
  | 0, 0, _, _, _ => rfl
  | 0, m + 1, l, h, _ => by
    have : l = [] := List.eq_nil_of_length_eq_zero (by omega)
    simp [sgF, this]
  | n + 1, 0, l, _, h => by
    have : l = [] := List.eq_nil_of_length_eq_zero (by omega)
    simp [sgF, this]
  | n + 1, m + 1, l, h1, h2 => by
    by_cases hl : l = []
    · simp [sgF, hl]
    · by_cases h0 : signL l = 0
      · simp [sgF, hl, h0]
      · have hp : 0 < l.length := List.length_pos_iff.2 hl
        have := sgF_fuel n m (l.drop (signL l)) (by rw [List.length_drop]; omega) (by rw [List.length_drop]; omega)
        simp [sgF, hl, h0, this]
def sg (l : List UInt8) : Option Nat := sgF l.length l
theorem sg_nil : sg [] = some 0 := rfl
theorem sg_step (l : List UInt8) (hl : l ≠ []) : sg l = if signL l = 0 then none else (sg (l.drop (signL l))).map (1 + ·) := by
  have hp : 0 < l.length := List.length_pos_iff.2 hl
  obtain ⟨n, hn⟩ : ∃ n, l.length = n + 1 := ⟨l.length - 1, by omega⟩
  rw [sg, hn, sgF, if_neg hl]
  by_cases h0 : signL l = 0
  · rw [if_pos h0, if_pos h0]
  · rw [if_neg h0, if_neg h0, sg, sgF_fuel n _ _ (by rw [List.length_drop]; omega) (Nat.le_refl _)]
theorem signs_sgF (s : ByteArray) : ∀ (n pos b : Nat), pos ≤ s.size → s.size ≤ pos + n → s.size ≤ pos + b → (if Lib.validD (s.data.toList.drop pos) = true then some (Lib.runeCountFrom s b pos) else none) = sgF n (s.data.toList.drop pos)
  | n, pos, b, h0, h1, h2 => by
    have hn : s.data.toList.length = s.size := by simp
    by_cases hp : pos < s.size
    · have hne : s.data.toList.drop pos ≠ [] := fun h => by have := congrArg List.length h; simp at this; omega
      obtain ⟨m, rfl⟩ : ∃ m, n = m + 1 := ⟨n - 1, by omega⟩
      have hs := sign_step s.data.toList pos (by omega)
      rw [sgF, if_neg hne]
      by_cases hz : signL (s.data.toList.drop pos) = 0
      · rw [if_pos hz, hs.1 hz]; rfl
      · rw [if_neg hz, (hs.2 hz).1, List.drop_drop]
        obtain ⟨b', e1, e2⟩ := count_step s pos b hp h2 hz
        have hle := (hs.2 hz).2.1
        rw [← signs_sgF s m (pos + signL (s.data.toList.drop pos)) b' (by omega) (by omega) e2, e1]
        split <;> rfl
    · have e : s.data.toList.drop pos = [] := List.drop_eq_nil_of_le (by omega)
      rw [e, Lib.validD_nil, if_pos rfl, Lib.runeCountFrom_end s b pos hp]
      cases n <;> simp [sgF]
theorem signs_sg (s : ByteArray) : signs s = (sg s.data.toList).getD 0 := by
  have h := signs_sgF s s.data.toList.length 0 s.size (by omega) (by simp) (by omega)
  rw [List.drop_zero] at h
  rw [sg, ← h, signs, Lib.runeCount]
  split <;> rfl

/-- A text whose head goes on no sign. -/
def Fresh (t : List UInt8) : Prop := ¬ (t.getD 0 0).toNat / 64 = 2
theorem getD_app_left (a t : List UInt8) (i : Nat) (h : i < a.length) : (a ++ t).getD i 0 = a.getD i 0 := by
  simp [List.getD, List.getElem?_append_left h]
theorem accN_app (a t : List UInt8) (v : Nat) : ∀ j, j < a.length → accN v (a ++ t) j = accN v a j
  | 0, _ => rfl
  | j + 1, h => by rw [accN, accN, accN_app a t v j (by omega), getD_app_left a t (j + 1) h]
theorem contN_app (a t : List UInt8) (n : Nat) (h : n ≤ a.length) : contN (a ++ t) n ↔ contN a n :=
  ⟨fun c i h1 h2 => by have := c i h1 h2; rwa [getD_app_left a t i (by omega)] at this, fun c i h1 h2 => by rw [getD_app_left a t i (by omega)]; exact c i h1 h2⟩
theorem lead_app (a t : List UInt8) (ha : a ≠ []) (ht : Fresh t) (n least v : Nat) (hn : 1 ≤ n) : leadN (a ++ t) n least v = leadN a n least v := by
  have hp : 0 < a.length := List.length_pos_iff.2 ha
  unfold leadN
  by_cases h : a.length < n
  · rw [if_pos h]
    split
    · rfl
    · rename_i h1
      rw [if_pos]
      intro c
      have := c a.length hp h
      rw [List.getD, List.getElem?_append_right (Nat.le_refl _), Nat.sub_self] at this
      exact ht this
  · have h1 : ¬ (a ++ t).length < n := by rw [List.length_append]; omega
    rw [if_neg h, if_neg h1, accN_app a t v (n - 1) (by omega)]
    by_cases c : contN a n
    · have c1 : ¬ ¬ contN (a ++ t) n := fun h => h ((contN_app a t n (by omega)).2 c)
      have c2 : ¬ ¬ contN a n := fun h => h c
      rw [if_neg c1, if_neg c2]
    · have c1 : ¬ contN (a ++ t) n := fun h => c ((contN_app a t n (by omega)).1 h)
      rw [if_pos c1, if_pos c]
theorem sign_app (a t : List UInt8) (ha : a ≠ []) (ht : Fresh t) : signL (a ++ t) = signL a := by
  have hp : 0 < a.length := List.length_pos_iff.2 ha
  unfold signL
  rw [getD_app_left a t 0 hp, lead_app a t ha ht _ _ _ (by omega), lead_app a t ha ht _ _ _ (by omega), lead_app a t ha ht _ _ _ (by omega)]
theorem sign_le (l : List UInt8) (hl : l ≠ []) (h : signL l ≠ 0) : signL l ≤ l.length := by
  have := (sign_step l 0 (List.length_pos_iff.2 hl)).2
  rw [List.drop_zero] at this
  have := (this h).2.1
  omega
theorem sg_app (t : List UInt8) (ht : Fresh t) : ∀ (n : Nat) (a : List UInt8), a.length ≤ n → sg (a ++ t) = (sg a).bind fun x => (sg t).map (x + ·)
  | n, a, hn => by
    by_cases ha : a = []
    · subst ha
      rw [List.nil_append, sg_nil]
      cases sg t <;> simp
    · have hp : 0 < a.length := List.length_pos_iff.2 ha
      obtain ⟨m, rfl⟩ : ∃ m, n = m + 1 := ⟨n - 1, by omega⟩
      rw [sg_step (a ++ t) (by simp [ha]), sg_step a ha, sign_app a t ha ht]
      by_cases h0 : signL a = 0
      · rw [if_pos h0, if_pos h0]; rfl
      · rw [if_neg h0, if_neg h0, List.drop_append_of_le_length (sign_le a ha h0), sg_app t ht m (a.drop (signL a)) (by rw [List.length_drop]; omega)]
        cases sg (a.drop (signL a)) <;> cases sg t <;> simp [Nat.add_assoc]
theorem fresh_of (l : List UInt8) (x : Nat) (h : sg l = some x) : Fresh l := by
  intro c
  by_cases hl : l = []
  · subst hl; simp at c
  · rw [sg_step l hl, if_pos (by unfold signL; rw [if_neg (by omega), if_neg (by omega), if_neg (by omega), if_neg (by omega)])] at h
    cases h

def TrueG (w : World) (e : Ending) (w' : World) : Prop := e = .returned (.bool true) ∧ Pure w w'
def SC (s : ByteArray) (n : Nat) : Prop := ∀ w, Tb w → Calls Tryd.prog 17 #[.string s] w fun e w' => e = .returned (.int .i64 n) ∧ Pure w w'

set_option maxHeartbeats 3200000 in
theorem signs_walk (a b : ByteArray) (w : World) (n m : Nat) (sa : a.size ≤ 200) (sb : b.size ≤ 200) (hT : Tb w)
    (CA : Hid (SC a n)) (CB : Hid (SC b m)) (CR : Hid (∀ w, Calls Tryd.prog 18 #[.string a] w fun e w' => e = .returned (.int .i64 n) ∧ w = w'))
    (CX : Hid (0 < n → SC (a ++ ⟨#[120]⟩) (n + 1))) (CY : Hid (0 < n → 0 < m → SC (a ++ b) (n + m))) (C1 : Hid (SC (a ++ ⟨#[226, 130]⟩) 0)) (C2 : Hid (SC (a ++ ⟨#[192, 128]⟩) 0)) (C3 : Hid (0 < n → SC (a ++ ⟨#[226, 130, 172]⟩) (n + 1)))
    (h0 : Hid (a.size = 0 → n = 0)) (hn : n ≤ 200) (hm : m ≤ 200) (C0 : Hid (Calls Tryd.prog 10 #[] w fun e w' => e = .returned (.bool true) ∧ Pure w w')) :
    Calls Tryd.prog 6 #[.string a, .string b] w (TrueG w) := by
  have HT := Lib.hid hT
  have g1 : ¬ ((9223372036854775807 : Int) < ((a ++ (⟨#[120]⟩ : ByteArray)).size : Int)) := by
    have : (⟨#[120]⟩ : ByteArray).size = 1 := rfl
    rw [ByteArray.size_append]; omega
  have g2 : ¬ ((9223372036854775807 : Int) < ((a ++ b).size : Int)) := by rw [ByteArray.size_append]; omega
  have g3 : ¬ ((9223372036854775807 : Int) < ((a ++ (⟨#[226, 130]⟩ : ByteArray)).size : Int)) := by
    have : (⟨#[226, 130]⟩ : ByteArray).size = 2 := rfl
    rw [ByteArray.size_append]; omega
  have g4 : ¬ ((9223372036854775807 : Int) < ((a ++ (⟨#[192, 128]⟩ : ByteArray)).size : Int)) := by
    have : (⟨#[192, 128]⟩ : ByteArray).size = 2 := rfl
    rw [ByteArray.size_append]; omega
  have g5 : ¬ ((9223372036854775807 : Int) < ((a ++ (⟨#[226, 130, 172]⟩ : ByteArray)).size : Int)) := by
    have : (⟨#[226, 130, 172]⟩ : ByteArray).size = 3 := rfl
    rw [ByteArray.size_append]; omega
  clear hT
  by_cases hz : n = 0
  · subst hz
    by_cases hs : a.size = 0
    · have hs' : ((a.size : Int) == 0) = true := by simp [hs]
      go_enter Tryd.func6, Tryd.ntmps6
      go_wp2_with fail
      refine (C0.out).mono ?_
      rintro e w1 ⟨rfl, k1⟩
      go_wp2_with fail
      refine (CA.out _ (HT.out.kept k1)).mono ?_
      rintro e w2 ⟨rfl, k2⟩
      have kk := k1.same k2
      go_wp2_with fail
      refine (CB.out _ (HT.out.kept kk)).mono ?_
      rintro e w3 ⟨rfl, k3⟩
      have kl := kk.same k3
      go_wp2_with fail
      refine (C1.out _ (HT.out.kept kl)).mono ?_
      rintro e u1 ⟨rfl, j1⟩
      have kA := kl.same j1
      go_wp2_with fail
      refine (C2.out _ (HT.out.kept kA)).mono ?_
      rintro e u2 ⟨rfl, j2⟩
      have kB := kA.same j2
      go_wp2
      go_ret
      exact ⟨rfl, kB⟩
    · have hs' : ((a.size : Int) == 0) = false := by simpa using hs
      go_enter Tryd.func6, Tryd.ntmps6
      go_wp2_with fail
      refine (C0.out).mono ?_
      rintro e w1 ⟨rfl, k1⟩
      go_wp2_with fail
      refine (CA.out _ (HT.out.kept k1)).mono ?_
      rintro e w2 ⟨rfl, k2⟩
      have kk := k1.same k2
      go_wp2_with fail
      refine (CB.out _ (HT.out.kept kk)).mono ?_
      rintro e w3 ⟨rfl, k3⟩
      have kl := kk.same k3
      go_wp2_with fail
      refine (CR.out w3).mono ?_
      rintro e w' ⟨rfl, rfl⟩
      go_wp2_with fail
      refine (C1.out _ (HT.out.kept kl)).mono ?_
      rintro e u1 ⟨rfl, j1⟩
      have kA := kl.same j1
      go_wp2_with fail
      refine (C2.out _ (HT.out.kept kA)).mono ?_
      rintro e u2 ⟨rfl, j2⟩
      have kB := kA.same j2
      go_wp2
      go_ret
      exact ⟨rfl, kB⟩
  · have hs' : ((a.size : Int) == 0) = false := by simpa using (fun h => hz (h0.out h))
    have hz1 : 0 < n := by omega
    have hz' : ((n : Int) == 0) = false := by simpa using hz
    replace CX := Lib.hid (CX.out hz1)
    replace C3 := Lib.hid (C3.out hz1)
    by_cases hmz : m = 0
    · subst hmz
      go_enter Tryd.func6, Tryd.ntmps6
      go_wp2_with fail
      refine (C0.out).mono ?_
      rintro e w1 ⟨rfl, k1⟩
      go_wp2_with fail
      refine (CA.out _ (HT.out.kept k1)).mono ?_
      rintro e w2 ⟨rfl, k2⟩
      have kk := k1.same k2
      go_wp2_with fail
      refine (CB.out _ (HT.out.kept kk)).mono ?_
      rintro e w3 ⟨rfl, k3⟩
      have kl := kk.same k3
      go_wp2_with fail
      refine (CR.out w3).mono ?_
      rintro e w' ⟨rfl, rfl⟩
      go_wp2_with fail
      refine (CX.out _ (HT.out.kept kl)).mono ?_
      rintro e w4 ⟨rfl, k4⟩
      have km := kl.same k4
      go_wp2_with fail
      refine (C1.out _ (HT.out.kept km)).mono ?_
      rintro e u1 ⟨rfl, j1⟩
      have kA := km.same j1
      go_wp2_with fail
      refine (C2.out _ (HT.out.kept kA)).mono ?_
      rintro e u2 ⟨rfl, j2⟩
      have kB := kA.same j2
      go_wp2_with fail
      refine (C3.out _ (HT.out.kept kB)).mono ?_
      rintro e u3 ⟨rfl, j3⟩
      have kC := kB.same j3
      go_wp2
      go_ret
      exact ⟨rfl, kC⟩
    · have hm1 : 0 < m := by omega
      replace CY := Lib.hid (CY.out hz1 hm1)
      go_enter Tryd.func6, Tryd.ntmps6
      go_wp2_with fail
      refine (C0.out).mono ?_
      rintro e w1 ⟨rfl, k1⟩
      go_wp2_with fail
      refine (CA.out _ (HT.out.kept k1)).mono ?_
      rintro e w2 ⟨rfl, k2⟩
      have kk := k1.same k2
      go_wp2_with fail
      refine (CB.out _ (HT.out.kept kk)).mono ?_
      rintro e w3 ⟨rfl, k3⟩
      have kl := kk.same k3
      go_wp2_with fail
      refine (CR.out w3).mono ?_
      rintro e w' ⟨rfl, rfl⟩
      go_wp2_with fail
      refine (CY.out _ (HT.out.kept kl)).mono ?_
      rintro e w5 ⟨rfl, k5⟩
      have kl2 := kl.same k5
      go_wp2_with fail
      refine (CX.out _ (HT.out.kept kl2)).mono ?_
      rintro e w4 ⟨rfl, k4⟩
      have km := kl2.same k4
      go_wp2_with fail
      refine (C1.out _ (HT.out.kept km)).mono ?_
      rintro e u1 ⟨rfl, j1⟩
      have kA := km.same j1
      go_wp2_with fail
      refine (C2.out _ (HT.out.kept kA)).mono ?_
      rintro e u2 ⟨rfl, j2⟩
      have kB := kA.same j2
      go_wp2_with fail
      refine (C3.out _ (HT.out.kept kB)).mono ?_
      rintro e u3 ⟨rfl, j3⟩
      have kC := kB.same j3
      go_wp2
      go_ret
      exact ⟨rfl, kC⟩

theorem sg_x : sg [120] = some 1 := by decide +kernel
theorem sg_1 : sg [226, 130] = none := by decide +kernel
theorem sg_2 : sg [192, 128] = none := by decide +kernel
theorem sg_3 : sg [226, 130, 172] = some 1 := by decide +kernel
theorem app_data (a b : ByteArray) : (a ++ b).data.toList = a.data.toList ++ b.data.toList := by simp
theorem signs_app (a t : ByteArray) (ht : Fresh t.data.toList) : signs (a ++ t) = ((sg a.data.toList).bind fun x => (sg t.data.toList).map (x + ·)).getD 0 := by
  rw [signs_sg, app_data, sg_app _ ht _ _ (Nat.le_refl _)]
theorem sg_some {a : ByteArray} (h : 0 < signs a) : sg a.data.toList = some (signs a) := by
  rw [signs_sg] at h ⊢
  cases e : sg a.data.toList with
  | none => rw [e] at h; exact absurd h (by simp)
  | some x => rfl
theorem signs_le (a : ByteArray) : signs a ≤ a.size := by
  unfold signs
  split
  · exact Lib.runeCount_le a
  · omega
theorem sc_of (s : ByteArray) (n : Nat) (h : signs s = n) (hs : s.size ≤ 1000) : SC s n := fun w hT => by rw [← h]; exact signs_any s w hs hT

set_option maxHeartbeats 800000 in
theorem fsigns_any (a b : ByteArray) (w : World) (hT : Tb w) (ha : a.size ≤ maxLen) (hb : b.size ≤ maxLen) : Calls Tryd.prog 6 #[.string a, .string b] w (TrueG w) := by
  have C0 := Lib.hid (first_any w hT)
  have C1 := Lib.hid (fun w h => first_any w h)
  have HT := Lib.hid hT
  unfold maxLen at ha hb
  by_cases sa : a.size ≤ 200
  · by_cases sb : b.size ≤ 200
    · have z1 : (⟨#[120]⟩ : ByteArray).size = 1 := rfl
      have z2 : (⟨#[226, 130]⟩ : ByteArray).size = 2 := rfl
      have z3 : (⟨#[192, 128]⟩ : ByteArray).size = 2 := rfl
      have z4 : (⟨#[226, 130, 172]⟩ : ByteArray).size = 3 := rfl
      refine signs_walk a b w (signs a) (signs b) sa sb hT (sc_of a _ rfl (by omega)) (sc_of b _ rfl (by omega)) (fun w => ref_signs a w (by omega)) (fun h => sc_of _ _ ?_ (by rw [ByteArray.size_append]; omega)) (fun h1 h2 => sc_of _ _ ?_ (by rw [ByteArray.size_append]; omega))
        (sc_of _ _ ?_ (by rw [ByteArray.size_append]; omega)) (sc_of _ _ ?_ (by rw [ByteArray.size_append]; omega)) (fun h => sc_of _ _ ?_ (by rw [ByteArray.size_append]; omega)) (fun h => by have := signs_le a; omega) (by have := signs_le a; omega) (by have := signs_le b; omega) C0
      · rw [signs_app _ _ (fresh_of _ 1 sg_x), sg_some h, sg_x]; rfl
      · rw [signs_app _ _ (fresh_of _ _ (sg_some h2)), sg_some h1, sg_some h2]; rfl
      · rw [signs_app _ _ (by unfold Fresh; decide), sg_1]; cases sg a.data.toList <;> rfl
      · rw [signs_app _ _ (by unfold Fresh; decide), sg_2]; cases sg a.data.toList <;> rfl
      · rw [signs_app _ _ (fresh_of _ 1 sg_3), sg_some h, sg_3]; rfl
    · go_enter Tryd.func6, Tryd.ntmps6
      go_wp2_with fail
      refine (C0.out).mono ?_
      rintro e w1 ⟨rfl, k1⟩
      go_wp2_with fail
      refine (C1.out w1 (HT.out.kept k1)).mono ?_
      rintro e w2 ⟨rfl, k2⟩
      go_wp2
      go_ret
      exact ⟨rfl, k1.same k2⟩
  · go_enter Tryd.func6, Tryd.ntmps6
    go_wp2_with fail
    refine (C0.out).mono ?_
    rintro e w1 ⟨rfl, k1⟩
    go_wp2_with fail
    refine (C1.out w1 (HT.out.kept k1)).mono ?_
    rintro e w2 ⟨rfl, k2⟩
    go_wp2
    go_ret
    exact ⟨rfl, k1.same k2⟩
end Go.Proofs.YtemjpmkmpfpdhaaDoor
