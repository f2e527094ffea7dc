/-
  FoldOnce: the walk.
-/
import Derived.Test.YtemjpmkmpfpdhaaDoorFoH
set_option linter.unusedSimpArgs false
set_option linter.unusedVariables false
namespace Go.Proofs.YtemjpmkmpfpdhaaDoor
open Go.RowKit
set_option maxRecDepth 100000

def CL (s : ByteArray) (x : ByteArray) (e : Int) : Prop := ∀ w, Tb w → Calls Tryd.prog 11 #[.string s] w fun r w' => r = .returned (.tuple #[.string x, .int .i64 e]) ∧ Pure w w'

set_option maxHeartbeats 3200000 in
theorem once_walk (a b S X Y : ByteArray) (w : World) (h k : Int) (sa : a.size ≤ 300) (sb : b.size ≤ 300) (hT : Tb w) (n1 : 1 ≤ S.size) (n2 : S.size ≤ 64) (n3 : X.size ≤ 64)
    (C1 : Hid (CL a S 0)) (C2 : Hid (CL S S 0)) (C3 : Hid (CL (⟨#[32, 32]⟩ ++ a ++ ⟨#[32]⟩) S 0)) (C4 : Hid (CL b X h)) (C5 : Hid (CL (a ++ ⟨#[32]⟩ ++ b) Y k))
    (H0 : Hid (∀ b, S.data.toList[0]? = some b → b.toNat ≠ 32)) (H1 : Hid (∀ b, S.data.toList[S.size - 1]? = some b → b.toNat ≠ 32)) (H2 : Hid (∀ i b c, S.data.toList[i]? = some b → S.data.toList[i + 1]? = some c → b.toNat = 32 → c.toNat = 32 → False))
    (hj : Hid (h = 0 → S.size + 1 + X.size ≤ 64 → k = 0 ∧ Y = S ++ ⟨#[32]⟩ ++ X))
    (C0 : Hid (Calls Tryd.prog 10 #[] w fun e w' => e = .returned (.bool true) ∧ Pure w w')) :
    Calls Tryd.prog 4 #[.string a, .string b] w (TrueG w) := by
  have HT := Lib.hid hT
  have z1 : (⟨#[32]⟩ : ByteArray).size = 1 := rfl
  have z2 : (⟨#[32, 32]⟩ : ByteArray).size = 2 := rfl
  have g1 : ¬ ((9223372036854775807 : Int) < (((⟨#[32, 32]⟩ : ByteArray) ++ a).size : Int)) := by rw [ByteArray.size_append]; omega
  have g2 : ¬ ((9223372036854775807 : Int) < (((⟨#[32, 32]⟩ : ByteArray) ++ a ++ (⟨#[32]⟩ : ByteArray)).size : Int)) := by rw [ByteArray.size_append, ByteArray.size_append]; omega
  have g3 : ¬ ((9223372036854775807 : Int) < ((a ++ (⟨#[32]⟩ : ByteArray)).size : Int)) := by rw [ByteArray.size_append]; omega
  have g4 : ¬ ((9223372036854775807 : Int) < ((a ++ (⟨#[32]⟩ : ByteArray) ++ b).size : Int)) := by rw [ByteArray.size_append, ByteArray.size_append]; omega
  have g5 : ¬ ((9223372036854775807 : Int) < ((S ++ (⟨#[32]⟩ : ByteArray)).size : Int)) := by rw [ByteArray.size_append]; omega
  have g6 : ¬ ((9223372036854775807 : Int) < ((S ++ (⟨#[32]⟩ : ByteArray) ++ X).size : Int)) := by rw [ByteArray.size_append, ByteArray.size_append]; omega
  have hl : S.data.toList.length = S.size := by simp
  have Hget := Lib.hid (str_at S)
  generalize S.data.toList = l at *
  obtain ⟨b0, hb0⟩ : ∃ b0, l[0]? = some b0 := ⟨_, List.getElem?_eq_getElem (by omega)⟩
  obtain ⟨b1, hb1⟩ : ∃ b1, l[S.size - 1]? = some b1 := ⟨_, List.getElem?_eq_getElem (by omega)⟩
  have q0 : 0 < S.size := n1
  have q1 : S.size - 1 < S.size := by omega
  have i0 := Hget.out 0 b0 q0 hb0
  have i1 := Hget.out (S.size - 1) b1 q1 hb1
  have c0 : ((b0.toNat : Int) == 32) = false := by have := H0.out b0 hb0; simp; omega
  have c1 : ((b1.toNat : Int) == 32) = false := by have := H1.out b1 hb1; simp; omega
  have hcut : ((S.size : Int) - 1).toNat = S.size - 1 := by omega
  have HL := Lib.hid hl
  have G12 := Lib.hid (And.intro (eq_false g1) (eq_false g2))
  have G34 := Lib.hid (And.intro (eq_false g3) (eq_false g4))
  have G56 := Lib.hid (And.intro (eq_false g5) (eq_false g6))
  clear hT z1 z2 hb0 hb1 hl g1 g2 g3 g4 g5 g6
  go_enter Tryd.func4, Tryd.ntmps4
  go_wp2_with fail
  refine (C0.out).mono ?_
  rintro e w1 ⟨rfl, k1⟩
  go_wp2_with fail
  refine (C1.out _ (HT.out.kept k1)).mono ?_
  rintro e w2 ⟨rfl, k2⟩
  have ka := k1.same k2
  go_wp2_with fail
  refine (C2.out _ (HT.out.kept ka)).mono ?_
  rintro e w3 ⟨rfl, k3⟩
  have kb := ka.same k3
  obtain ⟨g1, g2⟩ := G12.out
  go_wp2_with fail
  refine (C3.out _ (HT.out.kept kb)).mono ?_
  rintro e w4 ⟨rfl, k4⟩
  have kd := kb.same k4
  clear g1 g2
  go_wp2_with fail
  go_loop [11] (fun i => ∃ j : Nat, i = .int .i64 j ∧ 1 ≤ j ∧ j ≤ S.size) (fun i => S.size - (intOf i).toNat)
  case atStart => exact ⟨1, rfl, by omega, by omega⟩
  case round =>
    obtain ⟨j, rfl, hj1, hj2⟩ := hrel
    by_cases hlt : j < S.size
    · have hl := HL.out
      obtain ⟨c, hc⟩ : ∃ c, l[j]? = some c := ⟨_, List.getElem?_eq_getElem (by omega)⟩
      obtain ⟨d, hd⟩ : ∃ d, l[j - 1]? = some d := ⟨_, List.getElem?_eq_getElem (by omega)⟩
      have ic := Hget.out j c hlt hc
      have hjb : j - 1 < S.size := by omega
      have id := Hget.out (j - 1) d hjb hd
      have h2 := H2.out (j - 1) d c hd (by rw [show j - 1 + 1 = j by omega]; exact hc)
      have hcj : ((j : Int) - 1).toNat = j - 1 := by omega
      clear hl hc hd
      by_cases e1 : c.toNat = 32
      · have e1' : ((c.toNat : Int) == 32) = true := by simp [e1]
        have e2' : ((d.toNat : Int) == 32) = false := by
          have h3 : ¬ d.toNat = 32 := fun h => h2 h e1
          simpa using (by omega : ¬ (d.toNat : Int) = 32)
        clear e1 h2
        go_wp2
        go_round
        case measure => first | omega | (simp [intOf]; omega)
        case rel => exact ⟨j + 1, by first | rfl | go_num, by omega, hlt⟩
      · have e1' : ((c.toNat : Int) == 32) = false := by simp; omega
        clear e1 h2
        go_wp2
        go_round
        case measure => first | omega | (simp [intOf]; omega)
        case rel => exact ⟨j + 1, by first | rfl | go_num, by omega, hlt⟩
    · have hje : j = S.size := by omega
      subst hje
      by_cases h0 : h = 0
      · subst h0
        by_cases hs : S.size + 1 + X.size ≤ 64
        · obtain ⟨rfl, rfl⟩ := hj.out rfl hs
          go_wp2_with fail
          refine (C4.out _ (HT.out.kept kd)).mono ?_
          rintro e u1 ⟨rfl, j1⟩
          have kA := kd.same j1
          obtain ⟨g3, g4⟩ := G34.out
          go_wp2_with fail
          refine (C5.out _ (HT.out.kept kA)).mono ?_
          rintro e u2 ⟨rfl, j2⟩
          have kB := kA.same j2
          clear g3 g4
          obtain ⟨g5, g6⟩ := G56.out
          go_wp2
          go_ret
          exact ⟨rfl, kB⟩
        · go_wp2_with fail
          refine (C4.out _ (HT.out.kept kd)).mono ?_
          rintro e u1 ⟨rfl, j1⟩
          have kA := kd.same j1
          obtain ⟨g3, g4⟩ := G34.out
          go_wp2_with fail
          refine (C5.out _ (HT.out.kept kA)).mono ?_
          rintro e u2 ⟨rfl, j2⟩
          have kB := kA.same j2
          clear g3 g4
          obtain ⟨g5, g6⟩ := G56.out
          go_wp2
          go_ret
          exact ⟨rfl, kB⟩
      · have h0' : (h == 0) = false := by simpa using h0
        clear h0
        go_wp2_with fail
        refine (C4.out _ (HT.out.kept kd)).mono ?_
        rintro e u1 ⟨rfl, j1⟩
        have kA := kd.same j1
        obtain ⟨g3, g4⟩ := G34.out
        go_wp2_with fail
        refine (C5.out _ (HT.out.kept kA)).mono ?_
        rintro e u2 ⟨rfl, j2⟩
        have kB := kA.same j2
        clear g3 g4
        obtain ⟨g5, g6⟩ := G56.out
        go_wp2
        go_ret
        exact ⟨rfl, kB⟩

theorem cl_of (s : ByteArray) (x : List UInt8) (e : Int) (h : C s.data.toList = (x, e)) (hs : s.size ≤ 1000) : CL s ⟨x.toArray⟩ e := fun w hT => by
  have := clean_any s w hs hT
  rw [show cleanL (Lib.validD s.data.toList) s.data.toList = (x, e) from h] at this
  exact this

set_option maxHeartbeats 800000 in
theorem once_any (a b : ByteArray) (w : World) (hT : Tb w) (ha : a.size ≤ maxLen) (hb : b.size ≤ maxLen) : Calls Tryd.prog 4 #[.string a, .string b] w (TrueG w) := by
  have C0 := Lib.hid (first_any w hT)
  have C1 := Lib.hid (fun w h => first_any w h)
  have HT := Lib.hid hT
  unfold maxLen at ha hb
  have z1 : (⟨#[32]⟩ : ByteArray).size = 1 := rfl
  have z2 : (⟨#[32, 32]⟩ : ByteArray).size = 2 := rfl
  by_cases sa : a.size ≤ 300
  · by_cases sb : b.size ≤ 300
    · obtain ⟨s, hs⟩ : ∃ s, (C a.data.toList).1 = s := ⟨_, rfl⟩
      obtain ⟨e, he⟩ : ∃ e, (C a.data.toList).2 = e := ⟨_, rfl⟩
      have hC : C a.data.toList = (s, e) := by rw [← hs, ← he]
      by_cases h0 : e = 0
      · subst h0
        obtain ⟨x, hx⟩ : ∃ x, (C b.data.toList).1 = x := ⟨_, rfl⟩
        obtain ⟨h, hh⟩ : ∃ h, (C b.data.toList).2 = h := ⟨_, rfl⟩
        have hB : C b.data.toList = (x, h) := by rw [← hx, ← hh]
        obtain ⟨y, hy⟩ : ∃ y, (C (a ++ ⟨#[32]⟩ ++ b).data.toList).1 = y := ⟨_, rfl⟩
        obtain ⟨k, hk⟩ : ∃ k, (C (a ++ ⟨#[32]⟩ ++ b).data.toList).2 = k := ⟨_, rfl⟩
        have hY : C (a ++ ⟨#[32]⟩ ++ b).data.toList = (y, k) := by rw [← hy, ← hk]
        obtain ⟨_, _, _, q1, q2⟩ := C_ok hC
        obtain ⟨r1, r2, r3⟩ := C_again hC
        have hsd : (ByteArray.mk s.toArray).data.toList = s := by simp
        have hss : (ByteArray.mk s.toArray).size = s.length := by show s.toArray.size = _; simp
        have hxs : (ByteArray.mk x.toArray).size = x.length := by show x.toArray.size = _; simp
        have hxl : x.length ≤ 64 := by
          by_cases g : h = 0
          · subst g; exact (C_ok hB).2.2.2.2
          · have := C_bad (l := b.data.toList) (by rw [hB]; exact g)
            rw [hB] at this
            simp at this
            rw [this]; simp
        refine once_walk a b ⟨s.toArray⟩ ⟨x.toArray⟩ ⟨y.toArray⟩ w h k sa sb hT (by omega) (by omega) (by omega) (cl_of a s 0 hC (by omega)) (cl_of _ s 0 (by rw [hsd]; exact r1) (by omega))
          (cl_of _ s 0 (by rw [app_data, app_data]; exact C_wide hC) (by rw [ByteArray.size_append, ByteArray.size_append]; omega)) (cl_of b x h hB (by omega)) (cl_of _ y k hY (by rw [ByteArray.size_append, ByteArray.size_append]; omega)) ?_ ?_ ?_ ?_ C0
        · rw [hsd]
          exact fun c hc h => head_ne s r2 (by rw [hc, u8_eq.2 h])
        · rw [hsd, hss]
          exact fun c hc h => end_ne s r3 (by intro h; rw [h] at q1; simp at q1) (by rw [List.getLast?_eq_getElem?, hc, u8_eq.2 h])
        · rw [hsd]
          exact fun i c d hc hd h1 h2 => pair_ne s r2 i (by rw [hc, u8_eq.2 h1]) (by rw [hd, u8_eq.2 h2])
        · intro g1 g2
          subst g1
          rw [hss, hxs] at g2
          have hj := C_join hC hB g2
          have e1 : (a ++ (⟨#[32]⟩ : ByteArray) ++ b).data.toList = a.data.toList ++ [32] ++ b.data.toList := by rw [app_data, app_data]
          rw [e1, hj] at hY
          injection hY with e2 e3
          refine ⟨e3.symm, ?_⟩
          rw [← e2]
          apply Go.WideShapes.bytes_inj
          rw [app_data, app_data]
      · have hb1 := C_bad (l := a.data.toList) (by rw [hC]; exact h0)
        rw [hC] at hb1
        simp only at hb1
        subst hb1
        have c1 := Lib.hid (cl_of a [] e hC (by omega))
        have h0' : (e == 0) = false := by simpa using h0
        clear hC hs he h0 hT z1 z2
        go_enter Tryd.func4, Tryd.ntmps4
        go_wp2_with fail
        refine (C0.out).mono ?_
        rintro e w1 ⟨rfl, k1⟩
        go_wp2_with fail
        refine (c1.out _ (HT.out.kept k1)).mono ?_
        rintro e w2 ⟨rfl, k2⟩
        go_wp2
        go_ret
        exact ⟨rfl, k1.same k2⟩
    · go_enter Tryd.func4, Tryd.ntmps4
      go_wp2_with fail
      refine (C0.out).mono ?_
      rintro e w1 ⟨rfl, k1⟩
      go_wp2_with fail
      refine (C1.out w1 (HT.out.kept k1)).mono ?_
      rintro e w2 ⟨rfl, k2⟩
      go_wp2
      go_ret
      exact ⟨rfl, k1.same k2⟩
  · go_enter Tryd.func4, Tryd.ntmps4
    go_wp2_with fail
    refine (C0.out).mono ?_
    rintro e w1 ⟨rfl, k1⟩
    go_wp2_with fail
    refine (C1.out w1 (HT.out.kept k1)).mono ?_
    rintro e w2 ⟨rfl, k2⟩
    go_wp2
    go_ret
    exact ⟨rfl, k1.same k2⟩
end Go.Proofs.YtemjpmkmpfpdhaaDoor
