/-
  The walk of the reference's DecodeResp.
-/
import Derived.Test.YtlmfpadlgdmflaaRdP
import Derived.Test.YtlmfpadlgdmflaaRsF
set_option linter.unusedSimpArgs false
set_option linter.unusedVariables false
namespace Go.Proofs.Ytlmfpadlgdmflaa
open Go.RowKit
set_option maxRecDepth 100000


theorem rd_start (kind : Int) (A : Option Addr) (n c : Nat) (l : List UInt8) (w : World) (F : Nat → Prop) (hl : Sl w F 1 A n (bvs l)) (hn : n ≤ 100000) (hnc : n ≤ c) (hcm : c ≤ maxLen) {Q G R : Nat} {W0 : World} (hQ : w.heap.size = Q) (hG : Q + 1 = G) (hR : G + 1 = R)
    (hW0 : ((w.alloc (.cells #[.int .i64 0, .int .i64 0, .int .i64 0, .int .i64 0, .string ⟨#[]⟩, .int .i64 0, .bool false, .slice none 0 0] 40)).alloc (.cells #[.slice A n c, .int .i64 0, .int .i64 0] 67)).alloc (.cells #[.int .i64 (kind - 128), .int .i64 0, .int .i64 0, .int .i64 0, .string ⟨#[]⟩, .int .i64 0, .bool false, .slice none 0 0] 40) = W0) :
    Blk W0 Q 40 #[.int .i64 0, .int .i64 0, .int .i64 0, .int .i64 0, .string ⟨#[]⟩, .int .i64 0, .bool false, .slice none 0 0] ∧ Pure w W0 ∧ Rr W0 (fun b => b < Q ∨ b = G) G ⟨l, 0, 0⟩ ∧
    Blk W0 R 40 #[.int .i64 (kind - 128), .int .i64 0, .int .i64 0, .int .i64 0, .string ⟨#[]⟩, .int .i64 0, .bool false, .slice none 0 0] ∧ l.length = n := by
  have hl0 : l.length = n := by have := hl.1; rw [bvs_length] at this; omega
  have hbq : Blk W0 Q 40 #[.int .i64 0, .int .i64 0, .int .i64 0, .int .i64 0, .string ⟨#[]⟩, .int .i64 0, .bool false, .slice none 0 0] := by
    rw [← hW0, ← hQ]; exact ((Blk.new w _ _).alloc _).alloc _
  have hp : Pure w W0 := by rw [← hW0]; exact (((Kept.refl _ _).alloc _).alloc _).alloc _
  have hX : Rr W0 (fun b => b < Q ∨ b = G) G ⟨l, 0, 0⟩ := by
    refine ⟨.inr rfl, Nat.zero_le _, by simp only; omega, A, c, by simp only; omega, hcm, ?_, ?_⟩
    · rw [← hW0, ← hG, ← hQ]
      simp only [hl0]
      have := (Blk.new (w.alloc (.cells #[.int .i64 0, .int .i64 0, .int .i64 0, .int .i64 0, .string ⟨#[]⟩, .int .i64 0, .bool false, .slice none 0 0] 40)) 67 #[.slice A n c, .int .i64 0, .int .i64 0]).alloc (.cells #[.int .i64 (kind - 128), .int .i64 0, .int .i64 0, .int .i64 0, .string ⟨#[]⟩, .int .i64 0, .bool false, .slice none 0 0] 40)
      rw [World.size_alloc] at this
      exact this
    · simp only [hl0]
      exact (hl.imp (G := fun b => (b < Q ∨ b = G) ∧ b ≠ G) (fun b hb _ => ⟨.inl (by omega), by omega⟩)).kept hp (fun _ _ _ h => h)
  have hbr : Blk W0 R 40 #[.int .i64 (kind - 128), .int .i64 0, .int .i64 0, .int .i64 0, .string ⟨#[]⟩, .int .i64 0, .bool false, .slice none 0 0] := by
    rw [← hW0, ← hR, ← hG, ← hQ]
    have := Blk.new ((w.alloc (.cells #[.int .i64 0, .int .i64 0, .int .i64 0, .int .i64 0, .string ⟨#[]⟩, .int .i64 0, .bool false, .slice none 0 0] 40)).alloc (.cells #[.slice A n c, .int .i64 0, .int .i64 0] 67)) 40 #[.int .i64 (kind - 128), .int .i64 0, .int .i64 0, .int .i64 0, .string ⟨#[]⟩, .int .i64 0, .bool false, .slice none 0 0]
    rw [World.size_alloc, World.size_alloc] at this
    exact this
  exact ⟨hbq, hp, hX, hbr, hl0⟩

set_option maxHeartbeats 3200000 in
theorem rdecode_any (kind : Int) (A : Option Addr) (n c : Nat) (l : List UInt8) (w : World) (F : Nat → Prop) (hl : Sl w F 1 A n (bvs l)) (hn : n ≤ 100000) (hnc : n ≤ c) (hcm : c ≤ maxLen) (h1 : 128 ≤ kind) (h2 : kind ≤ 139) :
    Calls Try.prog 25 #[.int .i64 kind, .slice A n c] w (DecP kind l w) := by
  have HS := Lib.hid (fun Q G R W0 => rd_start kind A n c l w F hl hn hnc hcm (Q := Q) (G := G) (R := R) (W0 := W0))
  have HN := Lib.hid hn
  clear hl hn hnc hcm
  go_enter Try.func25, Try.ntmps25
  go_wp2_with fail
  generalize hW : World.alloc _ _ = W
  obtain ⟨hbq, hp, hX, hbr, hl0⟩ := HS.out w.heap.size (w.heap.size + 1) (w.heap.size + 2) W rfl rfl rfl hW
  clear hW HS
  have qQ0 : w.heap.size = w.heap.size := rfl
  generalize hR : w.heap.size + 2 = R at hbr ⊢
  generalize hG : w.heap.size + 1 = G at hX ⊢
  generalize hQ : w.heap.size = Q at hbq hX hR hG qQ0 ⊢
  have qR : Hid (G + 1 = R ∧ Q + 1 = G) := by rw [Hid]; omega
  have qQ : Hid (w.heap.size = Q) := hQ
  have Hl0 : Hid (l.length = n ∧ n ≤ 100000) := ⟨hl0, HN.out⟩
  have nR : Hid (¬ R = G) := by rw [Hid]; omega
  have nQ : Hid (¬ Q = G) := by rw [Hid]; omega
  have nP : Hid (∀ i, i < w.heap.size → i = G → False) := by rw [Hid]; omega
  have e1 : ¬ R = G := nR.out
  have e2 : ¬ G = R := fun h => e1 h.symm
  have e3 : ¬ Q = G := nQ.out
  have e4 : ¬ G = Q := fun h => e3 h.symm
  have e5 : ¬ Q = R := by omega
  have e6 : ¬ R = Q := by omega
  clear qQ0 hR hG hQ hl0 HN
  obtain ⟨⟨v1, d1⟩, hs1⟩ : ∃ p, smallS ⟨l, 0, 0⟩ = p := ⟨_, rfl⟩
  have hc := rsmall_any W _ G _ hX
  rw [hs1] at hc
  simp only at hc
  have HS1 := Lib.hid hs1
  have Hc := Lib.hid hc
  clear hc hs1
  go_wp2_with fail
  refine (Hc.out).mono ?_
  rintro e w1 ⟨rfl, hY, hk⟩
  clear Hc hX
  replace hbr := hbr.kept hk nR.out
  replace hbq := hbq.kept hk nQ.out
  replace hp := hp.trans hk nP.out
  have hX := hY
  have hcr := hbr.cell
  have hfr := hbr.frozen
  clear hk hY
  go_wp2_with fail
  clear hcr hfr
  have hks := fun v => (Kept.refl (· = R) w1).setCell (p := ⟨R, 1, none⟩) (.inl rfl) v
  have hX2 := hX.kept (hks (.int .i64 v1)) (fun b _ hb e => by subst e; have := qR.out; rcases hb with hb | hb <;> omega)
  have hbr2 := hbr.set 1 (.int .i64 v1)
  have hbq2 := hbq.kept (hks (.int .i64 v1)) (by have := qR.out; omega)
  have hp2 := hp.setCell (p := ⟨R, 1, none⟩) (.inr (by have := qR.out; have := qQ.out; simp only; omega)) (.int .i64 v1)
  clear hks hX hbr hbq hp
  generalize w1.setCell ⟨R, 1, none⟩ (.int .i64 v1) = W at hX2 hbr2 hbq2 hp2 ⊢
  have hX := hX2
  have hbr := hbr2
  have hbq := hbq2
  have hp := hp2
  clear hX2 hbr2 hbq2 hp2
  simp only [List.setIfInBounds_toArray, List.set_cons_succ, List.set_cons_zero] at hbr
  obtain ⟨⟨v2, d2⟩, hs2⟩ : ∃ p, d1.num = p := ⟨_, rfl⟩
  have hc := rnum_any W _ G _ hX
  rw [hs2] at hc
  simp only at hc
  have HS2 := Lib.hid hs2
  have Hc := Lib.hid hc
  clear hc hs2
  go_wp2_with fail
  refine (Hc.out).mono ?_
  rintro e w2 ⟨rfl, hY, hk⟩
  clear Hc hX
  replace hbr := hbr.kept hk nR.out
  replace hbq := hbq.kept hk nQ.out
  replace hp := hp.trans hk nP.out
  have hX := hY
  have hcr := hbr.cell
  have hfr := hbr.frozen
  clear hk hY
  go_wp2_with fail
  clear hcr hfr
  have hks := fun v => (Kept.refl (· = R) w2).setCell (p := ⟨R, 2, none⟩) (.inl rfl) v
  have hX2 := hX.kept (hks (.int .i64 v2)) (fun b _ hb e => by subst e; have := qR.out; rcases hb with hb | hb <;> omega)
  have hbr2 := hbr.set 2 (.int .i64 v2)
  have hbq2 := hbq.kept (hks (.int .i64 v2)) (by have := qR.out; omega)
  have hp2 := hp.setCell (p := ⟨R, 2, none⟩) (.inr (by have := qR.out; have := qQ.out; simp only; omega)) (.int .i64 v2)
  clear hks hX hbr hbq hp
  generalize w2.setCell ⟨R, 2, none⟩ (.int .i64 v2) = W at hX2 hbr2 hbq2 hp2 ⊢
  have hX := hX2
  have hbr := hbr2
  have hbq := hbq2
  have hp := hp2
  clear hX2 hbr2 hbq2 hp2
  simp only [List.setIfInBounds_toArray, List.set_cons_succ, List.set_cons_zero] at hbr
  obtain ⟨⟨v3, d3⟩, hs3⟩ : ∃ p, d2.num = p := ⟨_, rfl⟩
  have hc := rnum_any W _ G _ hX
  rw [hs3] at hc
  simp only at hc
  have HS3 := Lib.hid hs3
  have Hc := Lib.hid hc
  clear hc hs3
  go_wp2_with fail
  refine (Hc.out).mono ?_
  rintro e w3 ⟨rfl, hY, hk⟩
  clear Hc hX
  replace hbr := hbr.kept hk nR.out
  replace hbq := hbq.kept hk nQ.out
  replace hp := hp.trans hk nP.out
  have hX := hY
  have hcr := hbr.cell
  have hfr := hbr.frozen
  clear hk hY
  go_wp2_with fail
  clear hcr hfr
  have hks := fun v => (Kept.refl (· = R) w3).setCell (p := ⟨R, 3, none⟩) (.inl rfl) v
  have hX2 := hX.kept (hks (.int .i64 v3)) (fun b _ hb e => by subst e; have := qR.out; rcases hb with hb | hb <;> omega)
  have hbr2 := hbr.set 3 (.int .i64 v3)
  have hbq2 := hbq.kept (hks (.int .i64 v3)) (by have := qR.out; omega)
  have hp2 := hp.setCell (p := ⟨R, 3, none⟩) (.inr (by have := qR.out; have := qQ.out; simp only; omega)) (.int .i64 v3)
  clear hks hX hbr hbq hp
  generalize w3.setCell ⟨R, 3, none⟩ (.int .i64 v3) = W at hX2 hbr2 hbq2 hp2 ⊢
  have hX := hX2
  have hbr := hbr2
  have hbq := hbq2
  have hp := hp2
  clear hX2 hbr2 hbq2 hp2
  simp only [List.setIfInBounds_toArray, List.set_cons_succ, List.set_cons_zero] at hbr
  obtain ⟨⟨v4, d4⟩, hs4⟩ : ∃ p, d3.text 20000 = p := ⟨_, rfl⟩
  have hc := rtext_any W _ G _ 20000 hX
  rw [hs4] at hc
  simp only at hc
  have HS4 := Lib.hid hs4
  have Hc := Lib.hid hc
  clear hc hs4
  go_wp2_with fail
  refine (Hc.out).mono ?_
  rintro e w4 ⟨rfl, hY, hk⟩
  clear Hc hX
  replace hbr := hbr.kept hk nR.out
  replace hbq := hbq.kept hk nQ.out
  replace hp := hp.trans hk nP.out
  have hX := hY
  have hcr := hbr.cell
  have hfr := hbr.frozen
  clear hk hY
  go_wp2_with fail
  clear hcr hfr
  have hks := fun v => (Kept.refl (· = R) w4).setCell (p := ⟨R, 4, none⟩) (.inl rfl) v
  have hX2 := hX.kept (hks (.string ⟨v4.toArray⟩)) (fun b _ hb e => by subst e; have := qR.out; rcases hb with hb | hb <;> omega)
  have hbr2 := hbr.set 4 (.string ⟨v4.toArray⟩)
  have hbq2 := hbq.kept (hks (.string ⟨v4.toArray⟩)) (by have := qR.out; omega)
  have hp2 := hp.setCell (p := ⟨R, 4, none⟩) (.inr (by have := qR.out; have := qQ.out; simp only; omega)) (.string ⟨v4.toArray⟩)
  clear hks hX hbr hbq hp
  generalize w4.setCell ⟨R, 4, none⟩ (.string ⟨v4.toArray⟩) = W at hX2 hbr2 hbq2 hp2 ⊢
  have hX := hX2
  have hbr := hbr2
  have hbq := hbq2
  have hp := hp2
  clear hX2 hbr2 hbq2 hp2
  simp only [List.setIfInBounds_toArray, List.set_cons_succ, List.set_cons_zero] at hbr
  obtain ⟨⟨v5, d5⟩, hs5⟩ : ∃ p, smallS d4 = p := ⟨_, rfl⟩
  have hc := rsmall_any W _ G _ hX
  rw [hs5] at hc
  simp only at hc
  have HS5 := Lib.hid hs5
  have Hc := Lib.hid hc
  clear hc hs5
  go_wp2_with fail
  refine (Hc.out).mono ?_
  rintro e w5 ⟨rfl, hY, hk⟩
  clear Hc hX
  replace hbr := hbr.kept hk nR.out
  replace hbq := hbq.kept hk nQ.out
  replace hp := hp.trans hk nP.out
  have hX := hY
  have hcr := hbr.cell
  have hfr := hbr.frozen
  clear hk hY
  go_wp2_with fail
  clear hcr hfr
  have hks := fun v => (Kept.refl (· = R) w5).setCell (p := ⟨R, 5, none⟩) (.inl rfl) v
  have hX2 := hX.kept (hks (.int .i64 v5)) (fun b _ hb e => by subst e; have := qR.out; rcases hb with hb | hb <;> omega)
  have hbr2 := hbr.set 5 (.int .i64 v5)
  have hbq2 := hbq.kept (hks (.int .i64 v5)) (by have := qR.out; omega)
  have hp2 := hp.setCell (p := ⟨R, 5, none⟩) (.inr (by have := qR.out; have := qQ.out; simp only; omega)) (.int .i64 v5)
  clear hks hX hbr hbq hp
  generalize w5.setCell ⟨R, 5, none⟩ (.int .i64 v5) = W at hX2 hbr2 hbq2 hp2 ⊢
  have hX := hX2
  have hbr := hbr2
  have hbq := hbq2
  have hp := hp2
  clear hX2 hbr2 hbq2 hp2
  simp only [List.setIfInBounds_toArray, List.set_cons_succ, List.set_cons_zero] at hbr
  obtain ⟨⟨v6, d6⟩, hs6⟩ : ∃ p, markS d5 = p := ⟨_, rfl⟩
  have hc := rmark_any W _ G _ hX
  rw [hs6] at hc
  simp only at hc
  have HS6 := Lib.hid hs6
  have Hc := Lib.hid hc
  clear hc hs6
  go_wp2_with fail
  refine (Hc.out).mono ?_
  rintro e w6 ⟨rfl, hY, hk⟩
  clear Hc hX
  replace hbr := hbr.kept hk nR.out
  replace hbq := hbq.kept hk nQ.out
  replace hp := hp.trans hk nP.out
  have hX := hY
  have hcr := hbr.cell
  have hfr := hbr.frozen
  clear hk hY
  go_wp2_with fail
  clear hcr hfr
  have hks := fun v => (Kept.refl (· = R) w6).setCell (p := ⟨R, 6, none⟩) (.inl rfl) v
  have hX2 := hX.kept (hks (.bool v6)) (fun b _ hb e => by subst e; have := qR.out; rcases hb with hb | hb <;> omega)
  have hbr2 := hbr.set 6 (.bool v6)
  have hbq2 := hbq.kept (hks (.bool v6)) (by have := qR.out; omega)
  have hp2 := hp.setCell (p := ⟨R, 6, none⟩) (.inr (by have := qR.out; have := qQ.out; simp only; omega)) (.bool v6)
  clear hks hX hbr hbq hp
  generalize w6.setCell ⟨R, 6, none⟩ (.bool v6) = W at hX2 hbr2 hbq2 hp2 ⊢
  have hX := hX2
  have hbr := hbr2
  have hbq := hbq2
  have hp := hp2
  clear hX2 hbr2 hbq2 hp2
  simp only [List.setIfInBounds_toArray, List.set_cons_succ, List.set_cons_zero] at hbr
  obtain ⟨⟨v7, d7⟩, hs7⟩ : ∃ p, smallS d6 = p := ⟨_, rfl⟩
  have hc := rsmall_any W _ G _ hX
  rw [hs7] at hc
  simp only at hc
  have HS7 := Lib.hid hs7
  have Hc := Lib.hid hc
  clear hc hs7
  go_wp2_with fail
  refine (Hc.out).mono ?_
  rintro e w7 ⟨rfl, hY, hk⟩
  clear Hc hX
  replace hbr := hbr.kept hk nR.out
  replace hbq := hbq.kept hk nQ.out
  replace hp := hp.trans hk nP.out
  have hX := hY
  have hcr := hbr.cell
  have hfr := hbr.frozen
  clear hk hY
  go_wp2_with fail
  have o1 := small_on ⟨l, 0, 0⟩
  rw [HS1.out] at o1
  have o2 := num_spec d1
  rw [HS2.out] at o2
  have o3 := num_spec d2
  rw [HS3.out] at o3
  have o4 := text_spec d3 20000
  rw [HS4.out] at o4
  have o5 := small_on d4
  rw [HS5.out] at o5
  have o6 := mark_on d5
  rw [HS6.out] at o6
  have o7 := small_on d6
  rw [HS7.out] at o7
  have hon : d7.l = l := o7.1.trans (o6.1.trans (o5.1.trans (o4.1.trans (o3.2.2.1.trans (o2.2.2.1.trans o1.1)))))
  have hat : d7.at_ ≤ l.length := by have := hX.2.1; rw [hon] at this; exact this
  have hln : l.length ≤ 100000 := by have := Hl0.out; omega
  have Hon : Hid (d7.l = l) := hon
  have Hat := Lib.hid hat
  have hv7 : 0 ≤ v7 ∧ v7 ≤ 9223372036854775807 := ⟨o7.2.2.1, o7.2.2.2⟩
  have Hfit : Hid (v1 ≤ 9223372036854775807 ∧ v2 ≤ 9223372036854775807 ∧ v3 ≤ 9223372036854775807 ∧ v5 ≤ 9223372036854775807) := ⟨o1.2.2.2, o2.2.1, o3.2.1, o5.2.2.2⟩
  obtain ⟨⟨I, D⟩, hI⟩ : ∃ p, itemsS (l.length + 2) v7 d7 = p := ⟨_, rfl⟩
  have HI := Lib.hid hI
  have HST : Hid ((stepsS l).x = (I, D) ∧ ∀ k, (stepsS l).rs k = ⟨k, v1, v2, v3, ⟨v4.toArray⟩, v5, v6, I⟩) :=
    ⟨by simp only [stepsS, HS1.out, HS2.out, HS3.out, HS4.out, HS5.out, HS6.out, HS7.out, HI.out], fun k => by simp only [stepsS, StepsS.rs, HS1.out, HS2.out, HS3.out, HS4.out, HS5.out, HS6.out, HS7.out, HI.out]⟩
  clear hon hat hI hcr hfr o1 o2 o3 o4 o5 o6 o7
  go_loopg [9] (l.length + 2) (fun gk i wr => ∃ (s : Pk.St) (xs : List It) (m : Nat) (Av : Option Addr) (cv : Nat), i = .int .i64 m ∧ Rr wr (fun b => b < Q ∨ b = G) G s ∧
      Blk wr R 40 #[.int .i64 (kind - 128), .int .i64 v1, .int .i64 v2, .int .i64 v3, .string ⟨v4.toArray⟩, .int .i64 v5, .bool v6, .slice Av m cv] ∧
      Blk wr Q 40 #[.int .i64 0, .int .i64 0, .int .i64 0, .int .i64 0, .string ⟨#[]⟩, .int .i64 0, .bool false, .slice none 0 0] ∧
      Own wr (fun b => R + 1 ≤ b) 52 4 (.slice Av m cv) m (itc xs) ∧ Pure w wr ∧ m + gk ≤ l.length + 2 ∧
      Hid (xs.length = m ∧ xs ++ (itemsS gk (v7 - m) s).1 = I ∧ (itemsS gk (v7 - m) s).2 = D) ∧ Hid (s.l = l ∧ (s.err = 0 → l.length - s.at_ + 1 < gk)))
  case atStart =>
    exact ⟨d7, [], 0, none, 0, rfl, hX, hbr, hbq, Own.nil _ _ _ _, hp, by simp, ⟨rfl, by simp [HI.out], by simp [HI.out]⟩, ⟨Hon.out, fun _ => by have := Hat.out; omega⟩⟩
  case round =>
    clear hX hbr hbq hp
    obtain ⟨s, xs, m, Av, cv, rfl, hX, hbr, hbq, ho, hp, hlen, hit, hd⟩ := hrel
    obtain ⟨c1, c2, f1, f2⟩ := hX.cells
    by_cases hgo : 0 < v7 - m ∧ s.err = 0
    · obtain ⟨g', rfl⟩ : ∃ g', gk = g' + 1 := ⟨gk - 1, by have := hd.out.2 hgo.2; omega⟩
      have HG := Lib.hid hgo
      have hlt : (m : Int) < v7 := by omega
      rw [hgo.2] at c2
      clear hgo c1 f1 f2
      go_wp2_with fail
      clear c2
      have hbi := Blk.new wr 52 #[.string ⟨#[]⟩, .int .i64 0, .bool false, .string ⟨#[]⟩]
      have hYX : Hid (R < wr.heap.size) := hbr.lt
      replace hX := hX.kept (S := fun _ => False) ((Kept.refl _ wr).alloc (.cells #[.string ⟨#[]⟩, .int .i64 0, .bool false, .string ⟨#[]⟩] 52)) (fun _ _ _ h => h)
      replace hbr := hbr.alloc (.cells #[.string ⟨#[]⟩, .int .i64 0, .bool false, .string ⟨#[]⟩] 52)
      replace hbq := hbq.alloc (.cells #[.string ⟨#[]⟩, .int .i64 0, .bool false, .string ⟨#[]⟩] 52)
      replace hp := hp.alloc (.cells #[.string ⟨#[]⟩, .int .i64 0, .bool false, .string ⟨#[]⟩] 52)
      replace ho := (ho.imp (G := fun b => R + 1 ≤ b ∧ b < wr.heap.size) (fun b hb h => ⟨h, hb⟩)).alloc (.cells #[.string ⟨#[]⟩, .int .i64 0, .bool false, .string ⟨#[]⟩] 52)
      generalize wr.alloc (.cells #[.string ⟨#[]⟩, .int .i64 0, .bool false, .string ⟨#[]⟩] 52) = W at hX hbr hbq hp ho hbi ⊢
      generalize wr.heap.size = Y at *
      have hne1 : ¬ R = Y := by have := hYX.out; omega
      have hne2 : ¬ Y = R := by have := hYX.out; omega
      have hne3 : ¬ G = Y := by have := hYX.out; have := qR.out; omega
      have hne4 : ¬ Y = G := by have := hYX.out; have := qR.out; omega
      obtain ⟨⟨v11, d11⟩, hs11⟩ : ∃ p, s.text 20000 = p := ⟨_, rfl⟩
      have hc := rtext_any W _ G _ 20000 hX
      rw [hs11] at hc
      simp only at hc
      have HS11 := Lib.hid hs11
      have Hc := Lib.hid hc
      clear hc hs11
      go_wp2_with fail
      refine (Hc.out).mono ?_
      rintro e w11 ⟨rfl, hY, hk⟩
      clear Hc hX
      replace hbr := hbr.kept hk nR.out
      replace hbq := hbq.kept hk nQ.out
      replace hbi := hbi.kept hk (by have := hYX.out; have := qR.out; omega)
      replace ho := ho.kept hk (fun b _ hb e => by have := qR.out; have h1 : R + 1 ≤ b := hb.1; have h2 : b = G := e; omega)
      replace hp := hp.trans hk nP.out
      have hX := hY
      have hci := hbi.cell
      have hfi := hbi.frozen
      have hcr := hbr.cell
      clear hk hY
      go_wp2_with fail
      clear hcr hci hfi
      have hks := fun v => (Kept.refl (· = Y) w11).setCell (p := ⟨Y, 0, none⟩) (.inl rfl) v
      have hX2 := hX.kept (hks (.string ⟨v11.toArray⟩)) (fun b _ hb e => by subst e; have := hYX.out; have := qR.out; rcases hb with hb | hb <;> omega)
      have hbi2 := hbi.set 0 (.string ⟨v11.toArray⟩)
      have hbq2 := hbq.kept (hks (.string ⟨v11.toArray⟩)) (by have := qR.out; have := hYX.out; omega)
      have hbr2 := hbr.kept (hks (.string ⟨v11.toArray⟩)) (by have := hYX.out; omega)
      have ho2 := ho.kept (hks (.string ⟨v11.toArray⟩)) (fun b _ hb e => by have h1 : b < Y := hb.2; have h2 : b = Y := e; omega)
      have hp2 := hp.setCell (p := ⟨Y, 0, none⟩) (.inr (by have := qR.out; have := qQ.out; have := hYX.out; simp only; omega)) (.string ⟨v11.toArray⟩)
      clear hks hX hbr hbq hp hbi ho
      generalize w11.setCell ⟨Y, 0, none⟩ (.string ⟨v11.toArray⟩) = W at hX2 hbr2 hbq2 hp2 hbi2 ho2 ⊢
      have hX := hX2
      have hbr := hbr2
      have hbq := hbq2
      have hp := hp2
      have hbi := hbi2
      have ho := ho2
      clear hX2 hbr2 hbq2 hp2 hbi2 ho2
      simp only [List.setIfInBounds_toArray, List.set_cons_succ, List.set_cons_zero] at hbi
      obtain ⟨⟨v12, d12⟩, hs12⟩ : ∃ p, d11.num = p := ⟨_, rfl⟩
      have hc := rnum_any W _ G _ hX
      rw [hs12] at hc
      simp only at hc
      have HS12 := Lib.hid hs12
      have Hc := Lib.hid hc
      clear hc hs12
      go_wp2_with fail
      refine (Hc.out).mono ?_
      rintro e w12 ⟨rfl, hY, hk⟩
      clear Hc hX
      replace hbr := hbr.kept hk nR.out
      replace hbq := hbq.kept hk nQ.out
      replace hbi := hbi.kept hk (by have := hYX.out; have := qR.out; omega)
      replace ho := ho.kept hk (fun b _ hb e => by have := qR.out; have h1 : R + 1 ≤ b := hb.1; have h2 : b = G := e; omega)
      replace hp := hp.trans hk nP.out
      have hX := hY
      have hci := hbi.cell
      have hfi := hbi.frozen
      have hcr := hbr.cell
      clear hk hY
      go_wp2_with fail
      clear hcr hci hfi
      have hks := fun v => (Kept.refl (· = Y) w12).setCell (p := ⟨Y, 1, none⟩) (.inl rfl) v
      have hX2 := hX.kept (hks (.int .i64 v12)) (fun b _ hb e => by subst e; have := hYX.out; have := qR.out; rcases hb with hb | hb <;> omega)
      have hbi2 := hbi.set 1 (.int .i64 v12)
      have hbq2 := hbq.kept (hks (.int .i64 v12)) (by have := qR.out; have := hYX.out; omega)
      have hbr2 := hbr.kept (hks (.int .i64 v12)) (by have := hYX.out; omega)
      have ho2 := ho.kept (hks (.int .i64 v12)) (fun b _ hb e => by have h1 : b < Y := hb.2; have h2 : b = Y := e; omega)
      have hp2 := hp.setCell (p := ⟨Y, 1, none⟩) (.inr (by have := qR.out; have := qQ.out; have := hYX.out; simp only; omega)) (.int .i64 v12)
      clear hks hX hbr hbq hp hbi ho
      generalize w12.setCell ⟨Y, 1, none⟩ (.int .i64 v12) = W at hX2 hbr2 hbq2 hp2 hbi2 ho2 ⊢
      have hX := hX2
      have hbr := hbr2
      have hbq := hbq2
      have hp := hp2
      have hbi := hbi2
      have ho := ho2
      clear hX2 hbr2 hbq2 hp2 hbi2 ho2
      simp only [List.setIfInBounds_toArray, List.set_cons_succ, List.set_cons_zero] at hbi
      obtain ⟨⟨v13, d13⟩, hs13⟩ : ∃ p, markS d12 = p := ⟨_, rfl⟩
      have hc := rmark_any W _ G _ hX
      rw [hs13] at hc
      simp only at hc
      have HS13 := Lib.hid hs13
      have Hc := Lib.hid hc
      clear hc hs13
      go_wp2_with fail
      refine (Hc.out).mono ?_
      rintro e w13 ⟨rfl, hY, hk⟩
      clear Hc hX
      replace hbr := hbr.kept hk nR.out
      replace hbq := hbq.kept hk nQ.out
      replace hbi := hbi.kept hk (by have := hYX.out; have := qR.out; omega)
      replace ho := ho.kept hk (fun b _ hb e => by have := qR.out; have h1 : R + 1 ≤ b := hb.1; have h2 : b = G := e; omega)
      replace hp := hp.trans hk nP.out
      have hX := hY
      have hci := hbi.cell
      have hfi := hbi.frozen
      have hcr := hbr.cell
      clear hk hY
      go_wp2_with fail
      clear hcr hci hfi
      have hks := fun v => (Kept.refl (· = Y) w13).setCell (p := ⟨Y, 2, none⟩) (.inl rfl) v
      have hX2 := hX.kept (hks (.bool v13)) (fun b _ hb e => by subst e; have := hYX.out; have := qR.out; rcases hb with hb | hb <;> omega)
      have hbi2 := hbi.set 2 (.bool v13)
      have hbq2 := hbq.kept (hks (.bool v13)) (by have := qR.out; have := hYX.out; omega)
      have hbr2 := hbr.kept (hks (.bool v13)) (by have := hYX.out; omega)
      have ho2 := ho.kept (hks (.bool v13)) (fun b _ hb e => by have h1 : b < Y := hb.2; have h2 : b = Y := e; omega)
      have hp2 := hp.setCell (p := ⟨Y, 2, none⟩) (.inr (by have := qR.out; have := qQ.out; have := hYX.out; simp only; omega)) (.bool v13)
      clear hks hX hbr hbq hp hbi ho
      generalize w13.setCell ⟨Y, 2, none⟩ (.bool v13) = W at hX2 hbr2 hbq2 hp2 hbi2 ho2 ⊢
      have hX := hX2
      have hbr := hbr2
      have hbq := hbq2
      have hp := hp2
      have hbi := hbi2
      have ho := ho2
      clear hX2 hbr2 hbq2 hp2 hbi2 ho2
      simp only [List.setIfInBounds_toArray, List.set_cons_succ, List.set_cons_zero] at hbi
      obtain ⟨⟨v14, d14⟩, hs14⟩ : ∃ p, d13.text 20000 = p := ⟨_, rfl⟩
      have hc := rtext_any W _ G _ 20000 hX
      rw [hs14] at hc
      simp only at hc
      have HS14 := Lib.hid hs14
      have Hc := Lib.hid hc
      clear hc hs14
      go_wp2_with fail
      refine (Hc.out).mono ?_
      rintro e w14 ⟨rfl, hY, hk⟩
      clear Hc hX
      replace hbr := hbr.kept hk nR.out
      replace hbq := hbq.kept hk nQ.out
      replace hbi := hbi.kept hk (by have := hYX.out; have := qR.out; omega)
      replace ho := ho.kept hk (fun b _ hb e => by have := qR.out; have h1 : R + 1 ≤ b := hb.1; have h2 : b = G := e; omega)
      replace hp := hp.trans hk nP.out
      have hX := hY
      have hci := hbi.cell
      have hfi := hbi.frozen
      have hcr := hbr.cell
      clear hk hY
      (go_wp2_with (at_builtin; refine held ?_)); rw [show w14.heap.size = (w14.setCell ⟨Y, 3, none⟩ (.string ⟨v14.toArray⟩)).heap.size from by simp]
      clear hcr hci hfi
      have hks := fun v => (Kept.refl (· = Y) w14).setCell (p := ⟨Y, 3, none⟩) (.inl rfl) v
      have hX2 := hX.kept (hks (.string ⟨v14.toArray⟩)) (fun b _ hb e => by subst e; have := hYX.out; have := qR.out; rcases hb with hb | hb <;> omega)
      have hbi2 := hbi.set 3 (.string ⟨v14.toArray⟩)
      have hbq2 := hbq.kept (hks (.string ⟨v14.toArray⟩)) (by have := qR.out; have := hYX.out; omega)
      have hbr2 := hbr.kept (hks (.string ⟨v14.toArray⟩)) (by have := hYX.out; omega)
      have ho2 := ho.kept (hks (.string ⟨v14.toArray⟩)) (fun b _ hb e => by have h1 : b < Y := hb.2; have h2 : b = Y := e; omega)
      have hp2 := hp.setCell (p := ⟨Y, 3, none⟩) (.inr (by have := qR.out; have := qQ.out; have := hYX.out; simp only; omega)) (.string ⟨v14.toArray⟩)
      clear hks hX hbr hbq hp hbi ho
      generalize w14.setCell ⟨Y, 3, none⟩ (.string ⟨v14.toArray⟩) = W at hX2 hbr2 hbq2 hp2 hbi2 ho2 ⊢
      have hX := hX2
      have hbr := hbr2
      have hbq := hbq2
      have hp := hp2
      have hbi := hbi2
      have ho := ho2
      clear hX2 hbr2 hbq2 hp2 hbi2 ho2
      simp only [List.setIfInBounds_toArray, List.set_cons_succ, List.set_cons_zero] at hbi
      refine unheld ?_
      have hYW := hbi.lt
      refine wp_appB (R + 1) Try.underlying38 info_item rfl (by omega) (by have := hYX.out; simp; omega) ((ho.imp (fun b _ h => h.1)).alloc _) (Sl.lit W #[.string ⟨v11.toArray⟩, .int .i64 v12, .bool v13, .string ⟨v14.toArray⟩] 52 4 1 _ rfl rfl) (itc_one [⟨⟨v11.toArray⟩, v12, v13, ⟨v14.toArray⟩⟩]) (by omega) (by omega) rfl _ _ rfl rfl rfl ?_
      intro v' w8 ho8 hk8
      have hk9 : Kept (fun b => R + 1 ≤ b) W w8 := ((Kept.refl _ W).alloc _).same hk8
      replace hX := hX.kept hk9 (fun b _ hb h => by have h1 : R + 1 ≤ b := h; have := qR.out; rcases hb with hb | hb <;> omega)
      replace hbr := hbr.kept hk9 (by omega)
      replace hbq := hbq.kept hk9 (by have := qR.out; omega)
      replace hp := hp.trans hk9 (fun i hi h => by have := qR.out; have := qQ.out; omega)
      obtain ⟨A8, c8, rfl, _, _, hl8, _⟩ := ho8.form
      have hcr := hbr.cell
      have hfr := hbr.frozen
      have hitem : itemS s = (⟨⟨v11.toArray⟩, v12, v13, ⟨v14.toArray⟩⟩, d14) := by simp only [itemS, HS11.out, HS12.out, HS13.out, HS14.out]
      have Hitem := Lib.hid hitem
      clear hitem ho hbi hk8 hk9
      go_wp2_with fail
      have hks := (Kept.refl (· = R) w8).setCell (p := ⟨R, 7, none⟩) (.inl rfl) (.slice A8 (m + 1) c8)
      have hX2 := hX.kept hks (fun b _ hb e => by subst e; have := qR.out; rcases hb with hb | hb <;> omega)
      have hbr2 := hbr.set 7 (.slice A8 (m + 1) c8)
      simp only [List.setIfInBounds_toArray, List.set_cons_succ, List.set_cons_zero] at hbr2
      have hbq2 := hbq.kept hks (by have := qR.out; omega)
      have ho2 := ho8.kept hks (fun b _ hb e => by have h1 : R + 1 ≤ b := hb; have h2 : b = R := e; omega)
      have hp2 := hp.setCell (p := ⟨R, 7, none⟩) (.inr (by have := qR.out; have := qQ.out; simp only; omega)) (.slice A8 (m + 1) c8)
      go_roundg g'
      case measure => omega
      case rel =>
        obtain ⟨q1, q2, q3⟩ := hit.out
        rw [itemsS_go _ _ _ HG.out, Hitem.out] at q2 q3
        have hon := itemS_on s
        rw [Hitem.out] at hon
        have e1 : v7 - ((m + 1 : Nat) : Int) = v7 - m - 1 := by omega
        refine ⟨d14, xs ++ [⟨⟨v11.toArray⟩, v12, v13, ⟨v14.toArray⟩⟩], m + 1, A8, c8, by go_num, hX2, hbr2, hbq2, ?_, hp2, by omega, ⟨by simp [q1], ?_, ?_⟩, ⟨hon.1.trans hd.out.1, fun e0 => ?_⟩⟩
        · have : itc (xs ++ [⟨⟨v11.toArray⟩, v12, v13, ⟨v14.toArray⟩⟩]) = itc xs ++ [.string ⟨v11.toArray⟩, .int .i64 v12, .bool v13, .string ⟨v14.toArray⟩] := by simp [itc, It.cells]
          rw [this]
          exact ho2
        · rw [e1, List.append_assoc]
          exact q2
        · rw [e1]
          exact q3
        · have h3 : s.err = 0 ∧ s.at_ < d14.at_ := hon.2 e0
          have h4 := hd.out.2 h3.1
          have h5 := hX2.2.1
          rw [hon.1.trans hd.out.1] at h5
          omega
    · have hst := itemsS_stop gk (v7 - m) s hgo
      obtain ⟨q1, q2, q3⟩ := hit.out
      rw [hst] at q2 q3
      simp only [List.append_nil] at q2 q3
      subst q2 q3
      have hcq := hbq.cell
      have hfq := hbq.frozen
      have HG := Lib.hid hgo
      have hats : s.at_ ≤ s.l.length := hX.2.1
      clear hst hit hgo
      subst q1
      by_cases herr : s.err = 0
      · have hlt : v7 ≤ (xs.length : Int) := by
          have := HG.out
          rcases Int.lt_or_le (xs.length : Int) v7 with h | h
          · exact absurd ⟨by omega, herr⟩ this
          · exact h
        rw [herr] at c2
        have Hl := Lib.hid (rleft_any wr _ G s hX)
        have hcr := hbr.cell
        obtain ⟨L, hL⟩ : ∃ L, s.left = L := ⟨_, rfl⟩
        rw [hL] at Hl
        by_cases hleft : L = 0
        · have HD := Lib.hid (ref_rest h1 h2 (by rw [HST.out.1]; simp only; rintro (h | h); exact h herr; rw [hL] at h; exact h hleft) (HST.out.2 _))
          have hfit : Rs.Fits ⟨kind - 128, v1, v2, v3, ⟨v4.toArray⟩, v5, v6, xs⟩ := by
            obtain ⟨g1, g2, g3, g5⟩ := Hfit.out
            refine ⟨g1, g2, g3, g5, ?_⟩
            intro i hi
            have := itemsS_fits (l.length + 2) v7 d7 i (by rw [HI.out]; exact hi)
            exact this.2
          have hck := fun w' hI => ref_check ⟨kind - 128, v1, v2, v3, ⟨v4.toArray⟩, v5, v6, xs⟩ Av cv w' hI hfit
          unfold CheckP at hck
          obtain ⟨V, hV⟩ : ∃ V, checkR ⟨kind - 128, v1, v2, v3, ⟨v4.toArray⟩, v5, v6, xs⟩ = V := ⟨_, rfl⟩
          rw [hV] at hck HD
          simp only [rsa] at hck
          have Hck := Lib.hid hck
          have hsl : Sl (wr) (fun b => R + 1 ≤ b) 4 Av xs.length (itc xs) := ho.sl
          subst hleft
          clear herr hL hck hV hfit
          by_cases hv0 : V = 0
          · have HD2 : Hid (decodeR kind l = (⟨kind - 128, v1, v2, v3, ⟨v4.toArray⟩, v5, v6, xs⟩, 0)) := by rw [Hid, HD.out, if_neg (by simpa using hv0)]
            subst hv0
            clear HD
            go_wp2_with fail
            refine (Hl.out).mono ?_
            rintro e w' ⟨rfl, nl, rfl⟩
            replace hbq := hbq.drewN nl
            replace hbr := hbr.drewN nl
            replace hsl := hsl.drewN nl
            replace hp := hp.drewN nl
            go_wp2_with fail
            refine (Hck.out _ (hsl.imp fun _ _ _ => trivial)).mono ?_
            rintro e w8 ⟨rfl, hk8⟩
            replace hbq := hbq.kept hk8 (fun h => h)
            replace hbr := hbr.kept hk8 (fun h => h)
            replace hsl := hsl.kept hk8 (fun _ _ _ h => h)
            replace hp := hp.same hk8
            clear hcr hcq hfq
            have hcr := hbr.cell
            go_wp2_with (with_reducible refine stop_store (ty := 40) ?_)
            refine unheld ?_
            refine wp_store_blk rfl _ _ _ rfl rfl rfl hbq rfl (by kernel_rfl) (by kernel_rfl) rfl ?_
            intro w9 hbq9 hk9
            repeat go_step
            refine bodyPost_ret (results_cell_tmp Try.results25 rfl hbq9 Try.underlying40 rfl (by kernel_rfl)) rfl ?_
            have qR' := qR.out
            have qQ' := qQ.out
            refine ⟨Av, cv, by rw [HD2.out]; rfl, ?_, hp.trans hk9 (fun i hi h => by have h2 : i = Q := h; omega)⟩
            rw [HD2.out]
            exact (hsl.kept hk9 (fun b _ hb e => by have h1 : R + 1 ≤ b := hb; have h2 : b = Q := e; omega)).imp fun b _ hb => by have h1 : R + 1 ≤ b := hb; omega
          · have HD2 : Hid (decodeR kind l = (zeroR, V)) := by rw [Hid, HD.out, if_pos hv0]
            have hv1 : (V != 0) = true := by simpa using hv0
            clear hv0 HD
            have HD := HD2
            go_wp2_with fail
            refine (Hl.out).mono ?_
            rintro e w' ⟨rfl, nl, rfl⟩
            replace hbq := hbq.drewN nl
            replace hsl := hsl.drewN nl
            replace hp := hp.drewN nl
            go_wp2_with fail
            refine (Hck.out _ (hsl.imp fun _ _ _ => trivial)).mono ?_
            rintro e w8 ⟨rfl, hk8⟩
            replace hbq := hbq.kept hk8 (fun h => h)
            replace hp := hp.same hk8
            clear hcr hcq hfq
            go_wp2_with (with_reducible refine stop_store (ty := 40) ?_)
            refine unheld ?_
            refine wp_store_blk rfl _ _ _ rfl rfl rfl hbq rfl (by kernel_rfl) (by kernel_rfl) rfl ?_
            intro w9 hbq9 hk9
            repeat go_step
            exact bodyPost_ret (results_cell_tmp Try.results25 rfl hbq9 Try.underlying40 rfl (by kernel_rfl)) rfl (DecP.zero HD.out (hp.trans hk9 (fun i hi h => by have h2 : i = Q := h; have := qQ.out; omega)))
        · have HD := Lib.hid (ref_bad h1 h2 (by rw [HST.out.1]; exact hats) (.inr (by rw [HST.out.1]; simp only; rw [hL]; exact hleft)))
          have hleft' : (L != 0) = true := by simpa using hleft
          clear herr hL hleft
          go_wp2_with fail
          refine (Hl.out).mono ?_
          rintro e w' ⟨rfl, nl, rfl⟩
          replace hbq := hbq.drewN nl
          replace hp := hp.drewN nl
          go_wp2_with (with_reducible refine stop_store (ty := 40) ?_)
          refine unheld ?_
          refine wp_store_blk rfl _ _ _ rfl rfl rfl hbq rfl (by kernel_rfl) (by kernel_rfl) rfl ?_
          intro w9 hbq9 hk9
          repeat go_step
          exact bodyPost_ret (results_cell_tmp Try.results25 rfl hbq9 Try.underlying40 rfl (by kernel_rfl)) rfl (DecP.zero HD.out (hp.trans hk9 (fun i hi h => by have h2 : i = Q := h; have := qQ.out; omega)))
      · have HD := Lib.hid (ref_bad h1 h2 (by rw [HST.out.1]; exact hats) (.inl (by rw [HST.out.1]; exact herr)))
        have hne1 : (s.err != 0) = true := by simpa using herr
        have hne2 : (s.err == 0) = false := by simpa using herr
        clear herr
        by_cases hlt : v7 ≤ (xs.length : Int)
        · go_wp2_with (with_reducible refine stop_store (ty := 40) ?_)
          refine unheld ?_
          refine wp_store_blk rfl _ _ _ rfl rfl rfl hbq rfl (by kernel_rfl) (by kernel_rfl) rfl ?_
          intro w9 hbq9 hk9
          repeat go_step
          exact bodyPost_ret (results_cell_tmp Try.results25 rfl hbq9 Try.underlying40 rfl (by kernel_rfl)) rfl (DecP.zero HD.out (hp.trans hk9 (fun i hi h => by have h2 : i = Q := h; have := qQ.out; omega)))
        · go_wp2_with (with_reducible refine stop_store (ty := 40) ?_)
          refine unheld ?_
          refine wp_store_blk rfl _ _ _ rfl rfl rfl hbq rfl (by kernel_rfl) (by kernel_rfl) rfl ?_
          intro w9 hbq9 hk9
          repeat go_step
          exact bodyPost_ret (results_cell_tmp Try.results25 rfl hbq9 Try.underlying40 rfl (by kernel_rfl)) rfl (DecP.zero HD.out (hp.trans hk9 (fun i hi h => by have h2 : i = Q := h; have := qQ.out; omega)))
end Go.Proofs.Ytlmfpadlgdmflaa
