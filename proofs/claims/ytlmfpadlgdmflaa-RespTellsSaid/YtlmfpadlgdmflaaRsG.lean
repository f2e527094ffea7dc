/-
  The walk of resp.Decode.
-/
import Derived.Test.YtlmfpadlgdmflaaRsX
import Derived.Test.YtlmfpadlgdmflaaRsE
import Derived.Test.YtlmfpadlgdmflaaBlk
import Derived.Deep.LoopGhost
set_option linter.unusedSimpArgs false
set_option linter.unusedVariables false
namespace Go.Proofs.Ytlmfpadlgdmflaa
open Go.RowKit
set_option maxRecDepth 100000

def DecP (kind : Int) (l : List UInt8) (w : World) (e : Ending) (w' : World) : Prop :=
  ∃ A c, e = .returned (.tuple #[.agg (rsa (decodeR kind l).1 A c), .int .i64 (decodeR kind l).2]) ∧ Sl w' (fun g => w.heap.size ≤ g) 4 A (decodeR kind l).1.items.length (itc (decodeR kind l).1.items) ∧ Pure w w'

theorem dec_bad {kind : Int} {l : List UInt8} (h1 : 128 ≤ kind) (h2 : kind ≤ 139) (h : (stepsD l).x.2.2 = true ∨ (stepsD l).x.2.1.err ≠ 0 ∨ 0 < (stepsD l).x.2.1.left) : decodeR kind l = (zeroR, 1) := by
  unfold decodeR
  rw [if_neg (by omega), if_pos h]
theorem dec_rest {kind : Int} {l : List UInt8} (h1 : 128 ≤ kind) (h2 : kind ≤ 139) (h : ¬ ((stepsD l).x.2.2 = true ∨ (stepsD l).x.2.1.err ≠ 0 ∨ 0 < (stepsD l).x.2.1.left)) {r : Rs} (hr : (stepsD l).rs (kind - 128) = r) :
    decodeR kind l = if checkR r ≠ 0 then (zeroR, checkR r) else (r, 0) := by
  unfold decodeR
  rw [if_neg (by omega), if_neg h, hr]
theorem DecP.zero {kind : Int} {l : List UInt8} {v : Int} {w w' : World} (h : decodeR kind l = (zeroR, v)) (k : Pure w w') :
    DecP kind l w (.returned (.tuple #[.agg #[.int .i64 0, .int .i64 0, .int .i64 0, .int .i64 0, .string ⟨#[]⟩, .int .i64 0, .bool false, .slice none 0 0], .int .i64 v])) w' := by
  refine ⟨none, 0, by rw [h]; rfl, ?_, k⟩
  rw [h]
  exact Sl.nil _ _ _ _



theorem info_item : (Try.prog.info? 52).map (fun i => (i.zero, i.size, i.bytes)) = some (some (.agg #[.string ⟨#[]⟩, .int .i64 0, .bool false, .string ⟨#[]⟩]), 4, 48) := by kernel_rfl

set_option maxHeartbeats 3200000 in
theorem decode_any (kind : Int) (A : Option Addr) (n c : Nat) (l : List UInt8) (w : World) (F : Nat → Prop) (hl : Sl w F 1 A n (bvs l)) (hn : n ≤ 100000) (h1 : 128 ≤ kind) (h2 : kind ≤ 139) :
    Calls Try.prog 24 #[.int .i64 kind, .slice A n c] w (DecP kind l w) := by
  have hb0 := Blk.new w 40 #[.int .i64 0, .int .i64 0, .int .i64 0, .int .i64 0, .string ⟨#[]⟩, .int .i64 0, .bool false, .slice none 0 0]
  have hp0 : Pure w (w.alloc (.cells #[.int .i64 0, .int .i64 0, .int .i64 0, .int .i64 0, .string ⟨#[]⟩, .int .i64 0, .bool false, .slice none 0 0] 40)) := (Kept.refl _ _).alloc _
  go_enter Try.func24, Try.ntmps24
  go_wp2_with fail
  refine (read_any A n c l _ F (hl.alloc _) (by omega)).mono ?_
  rintro e w1 ⟨g, rfl, hrd, hk⟩
  go_wp2_with fail
  have hp1 := hp0.same hk
  have hqX : Hid (w.heap.size < w1.heap.size) := by have := hk.size; simp at this; exact this
  have hbq := (hb0.kept hk (fun h => h)).alloc (.cells #[.pointer (some ⟨g, 0, none⟩), .bool false] 62)
  replace hbq := hbq.alloc (.cells #[.int .i64 (kind - 128), .int .i64 0, .int .i64 0, .int .i64 0, .string ⟨#[]⟩, .int .i64 0, .bool false, .slice none 0 0] 40)
  have hbr := Blk.new (w1.alloc (.cells #[.pointer (some ⟨g, 0, none⟩), .bool false] 62)) 40 #[.int .i64 (kind - 128), .int .i64 0, .int .i64 0, .int .i64 0, .string ⟨#[]⟩, .int .i64 0, .bool false, .slice none 0 0]
  have hX : Xr ((w1.alloc (.cells #[.pointer (some ⟨g, 0, none⟩), .bool false] 62)).alloc (.cells #[.int .i64 (kind - 128), .int .i64 0, .int .i64 0, .int .i64 0, .string ⟨#[]⟩, .int .i64 0, .bool false, .slice none 0 0] 40)) (w.heap.size + 1) w1.heap.size w1.heap.size g (⟨l, 0, 0⟩, false) := by
    refine ⟨?_, Nat.le_refl _, (Blk.new _ _ _).alloc _⟩
    have h := hrd.imp (G := fun b => w.heap.size + 1 ≤ b ∧ b < w1.heap.size) (fun b hb h => ⟨by simpa using h, hb⟩)
    exact (h.kept (S := fun _ => False) ((Kept.refl _ _).alloc _) (fun _ _ _ h => h)).kept (S := fun _ => False) ((Kept.refl _ _).alloc _) (fun _ _ _ h => h)
  have hp := (hp1.alloc (.cells #[.pointer (some ⟨g, 0, none⟩), .bool false] 62)).alloc (.cells #[.int .i64 (kind - 128), .int .i64 0, .int .i64 0, .int .i64 0, .string ⟨#[]⟩, .int .i64 0, .bool false, .slice none 0 0] 40)
  generalize ((w1.alloc (.cells #[.pointer (some ⟨g, 0, none⟩), .bool false] 62)).alloc (.cells #[.int .i64 (kind - 128), .int .i64 0, .int .i64 0, .int .i64 0, .string ⟨#[]⟩, .int .i64 0, .bool false, .slice none 0 0] 40)) = W at hX hbr hbq hp ⊢
  rw [World.size_alloc] at hbr
  have hl0 : Hid (l.length = n) := by have := hl.1; rw [bvs_length] at this; rw [Hid]; omega
  clear hk hrd hb0 hp0 hp1 hl
  generalize w1.heap.size = X at *
  have nR : Hid (¬ Xs (w.heap.size + 1) X X (X + 1)) := by rintro (h | h) <;> omega
  have nQ : Hid (¬ Xs (w.heap.size + 1) X X w.heap.size) := by have := hqX.out; rintro (h | h) <;> omega
  have nP : Hid (∀ i, i < w.heap.size → Xs (w.heap.size + 1) X X i → False) := by have := hqX.out; rintro i hi (h | h) <;> omega
  obtain ⟨⟨v1, d1⟩, hs1⟩ : ∃ p, numD (⟨l, 0, 0⟩, false) most32 = p := ⟨_, rfl⟩
  have hc := xnum_any W _ _ _ g _ hX most32
  rw [hs1] at hc
  simp only at hc
  have HS1 := Lib.hid hs1
  have Hc := Lib.hid hc
  clear hc hs1
  go_wp2_with fail
  refine (Hc.out).mono ?_
  rintro e w1 ⟨rfl, hY, hk⟩
  clear Hc hX
  replace hbr := hbr.kept hk nR.out
  replace hbq := hbq.kept hk nQ.out
  replace hp := hp.trans hk nP.out
  have hX := hY
  have hcr := hbr.cell
  have hfr := hbr.frozen
  have hcx := hX.2.2.cell
  clear hk hY
  go_wp2_with fail
  clear hcr hfr hcx
  have hks := fun v => (Kept.refl (· = X + 1) w1).setCell (p := ⟨X + 1, 1, none⟩) (.inl rfl) v
  have hX2 := hX.kept (hks (.int .i64 v1)) (fun b hb e => by subst e; exact nR.out hb)
  have hbr2 := hbr.set 1 (.int .i64 v1)
  have hbq2 := hbq.kept (hks (.int .i64 v1)) (by have := hqX.out; omega)
  have hp2 := hp.setCell (p := ⟨X + 1, 1, none⟩) (.inr (by have := hqX.out; simp only; omega)) (.int .i64 v1)
  clear hks hX hbr hbq hp
  generalize w1.setCell ⟨X + 1, 1, none⟩ (.int .i64 v1) = W at hX2 hbr2 hbq2 hp2 ⊢
  have hX := hX2
  have hbr := hbr2
  have hbq := hbq2
  have hp := hp2
  clear hX2 hbr2 hbq2 hp2
  simp only [List.setIfInBounds_toArray, List.set_cons_succ, List.set_cons_zero] at hbr
  obtain ⟨⟨v2, d2⟩, hs2⟩ : ∃ p, tokD d1 = p := ⟨_, rfl⟩
  have hc := xtok_any W _ _ _ g _ hX
  rw [hs2] at hc
  simp only at hc
  have HS2 := Lib.hid hs2
  have Hc := Lib.hid hc
  clear hc hs2
  go_wp2_with fail
  refine (Hc.out).mono ?_
  rintro e w2 ⟨rfl, hY, hk⟩
  clear Hc hX
  replace hbr := hbr.kept hk nR.out
  replace hbq := hbq.kept hk nQ.out
  replace hp := hp.trans hk nP.out
  have hX := hY
  have hcr := hbr.cell
  have hfr := hbr.frozen
  have hcx := hX.2.2.cell
  clear hk hY
  go_wp2_with fail
  clear hcr hfr hcx
  have hks := fun v => (Kept.refl (· = X + 1) w2).setCell (p := ⟨X + 1, 2, none⟩) (.inl rfl) v
  have hX2 := hX.kept (hks (.int .i64 v2)) (fun b hb e => by subst e; exact nR.out hb)
  have hbr2 := hbr.set 2 (.int .i64 v2)
  have hbq2 := hbq.kept (hks (.int .i64 v2)) (by have := hqX.out; omega)
  have hp2 := hp.setCell (p := ⟨X + 1, 2, none⟩) (.inr (by have := hqX.out; simp only; omega)) (.int .i64 v2)
  clear hks hX hbr hbq hp
  generalize w2.setCell ⟨X + 1, 2, none⟩ (.int .i64 v2) = W at hX2 hbr2 hbq2 hp2 ⊢
  have hX := hX2
  have hbr := hbr2
  have hbq := hbq2
  have hp := hp2
  clear hX2 hbr2 hbq2 hp2
  simp only [List.setIfInBounds_toArray, List.set_cons_succ, List.set_cons_zero] at hbr
  obtain ⟨⟨v3, d3⟩, hs3⟩ : ∃ p, tokD d2 = p := ⟨_, rfl⟩
  have hc := xtok_any W _ _ _ g _ hX
  rw [hs3] at hc
  simp only at hc
  have HS3 := Lib.hid hs3
  have Hc := Lib.hid hc
  clear hc hs3
  go_wp2_with fail
  refine (Hc.out).mono ?_
  rintro e w3 ⟨rfl, hY, hk⟩
  clear Hc hX
  replace hbr := hbr.kept hk nR.out
  replace hbq := hbq.kept hk nQ.out
  replace hp := hp.trans hk nP.out
  have hX := hY
  have hcr := hbr.cell
  have hfr := hbr.frozen
  have hcx := hX.2.2.cell
  clear hk hY
  go_wp2_with fail
  clear hcr hfr hcx
  have hks := fun v => (Kept.refl (· = X + 1) w3).setCell (p := ⟨X + 1, 3, none⟩) (.inl rfl) v
  have hX2 := hX.kept (hks (.int .i64 v3)) (fun b hb e => by subst e; exact nR.out hb)
  have hbr2 := hbr.set 3 (.int .i64 v3)
  have hbq2 := hbq.kept (hks (.int .i64 v3)) (by have := hqX.out; omega)
  have hp2 := hp.setCell (p := ⟨X + 1, 3, none⟩) (.inr (by have := hqX.out; simp only; omega)) (.int .i64 v3)
  clear hks hX hbr hbq hp
  generalize w3.setCell ⟨X + 1, 3, none⟩ (.int .i64 v3) = W at hX2 hbr2 hbq2 hp2 ⊢
  have hX := hX2
  have hbr := hbr2
  have hbq := hbq2
  have hp := hp2
  clear hX2 hbr2 hbq2 hp2
  simp only [List.setIfInBounds_toArray, List.set_cons_succ, List.set_cons_zero] at hbr
  obtain ⟨⟨v4, d4⟩, hs4⟩ : ∃ p, txtD d3 = p := ⟨_, rfl⟩
  have hc := xtxt_any W _ _ _ g _ hX
  rw [hs4] at hc
  simp only at hc
  have HS4 := Lib.hid hs4
  have Hc := Lib.hid hc
  clear hc hs4
  go_wp2_with fail
  refine (Hc.out).mono ?_
  rintro e w4 ⟨rfl, hY, hk⟩
  clear Hc hX
  replace hbr := hbr.kept hk nR.out
  replace hbq := hbq.kept hk nQ.out
  replace hp := hp.trans hk nP.out
  have hX := hY
  have hcr := hbr.cell
  have hfr := hbr.frozen
  have hcx := hX.2.2.cell
  clear hk hY
  go_wp2_with fail
  clear hcr hfr hcx
  have hks := fun v => (Kept.refl (· = X + 1) w4).setCell (p := ⟨X + 1, 4, none⟩) (.inl rfl) v
  have hX2 := hX.kept (hks (.string ⟨v4.toArray⟩)) (fun b hb e => by subst e; exact nR.out hb)
  have hbr2 := hbr.set 4 (.string ⟨v4.toArray⟩)
  have hbq2 := hbq.kept (hks (.string ⟨v4.toArray⟩)) (by have := hqX.out; omega)
  have hp2 := hp.setCell (p := ⟨X + 1, 4, none⟩) (.inr (by have := hqX.out; simp only; omega)) (.string ⟨v4.toArray⟩)
  clear hks hX hbr hbq hp
  generalize w4.setCell ⟨X + 1, 4, none⟩ (.string ⟨v4.toArray⟩) = W at hX2 hbr2 hbq2 hp2 ⊢
  have hX := hX2
  have hbr := hbr2
  have hbq := hbq2
  have hp := hp2
  clear hX2 hbr2 hbq2 hp2
  simp only [List.setIfInBounds_toArray, List.set_cons_succ, List.set_cons_zero] at hbr
  obtain ⟨⟨v5, d5⟩, hs5⟩ : ∃ p, numD d4 most32 = p := ⟨_, rfl⟩
  have hc := xnum_any W _ _ _ g _ hX most32
  rw [hs5] at hc
  simp only at hc
  have HS5 := Lib.hid hs5
  have Hc := Lib.hid hc
  clear hc hs5
  go_wp2_with fail
  refine (Hc.out).mono ?_
  rintro e w5 ⟨rfl, hY, hk⟩
  clear Hc hX
  replace hbr := hbr.kept hk nR.out
  replace hbq := hbq.kept hk nQ.out
  replace hp := hp.trans hk nP.out
  have hX := hY
  have hcr := hbr.cell
  have hfr := hbr.frozen
  have hcx := hX.2.2.cell
  clear hk hY
  go_wp2_with fail
  clear hcr hfr hcx
  have hks := fun v => (Kept.refl (· = X + 1) w5).setCell (p := ⟨X + 1, 5, none⟩) (.inl rfl) v
  have hX2 := hX.kept (hks (.int .i64 v5)) (fun b hb e => by subst e; exact nR.out hb)
  have hbr2 := hbr.set 5 (.int .i64 v5)
  have hbq2 := hbq.kept (hks (.int .i64 v5)) (by have := hqX.out; omega)
  have hp2 := hp.setCell (p := ⟨X + 1, 5, none⟩) (.inr (by have := hqX.out; simp only; omega)) (.int .i64 v5)
  clear hks hX hbr hbq hp
  generalize w5.setCell ⟨X + 1, 5, none⟩ (.int .i64 v5) = W at hX2 hbr2 hbq2 hp2 ⊢
  have hX := hX2
  have hbr := hbr2
  have hbq := hbq2
  have hp := hp2
  clear hX2 hbr2 hbq2 hp2
  simp only [List.setIfInBounds_toArray, List.set_cons_succ, List.set_cons_zero] at hbr
  obtain ⟨⟨v6, d6⟩, hs6⟩ : ∃ p, numD d5 1 = p := ⟨_, rfl⟩
  have hc := xnum_any W _ _ _ g _ hX 1
  rw [hs6] at hc
  simp only at hc
  have HS6 := Lib.hid hs6
  have Hc := Lib.hid hc
  clear hc hs6
  go_wp2_with fail
  refine (Hc.out).mono ?_
  rintro e w6 ⟨rfl, hY, hk⟩
  clear Hc hX
  replace hbr := hbr.kept hk nR.out
  replace hbq := hbq.kept hk nQ.out
  replace hp := hp.trans hk nP.out
  have hX := hY
  have hcr := hbr.cell
  have hfr := hbr.frozen
  have hcx := hX.2.2.cell
  clear hk hY
  go_wp2_with fail
  clear hcr hfr hcx
  have hks := fun v => (Kept.refl (· = X + 1) w6).setCell (p := ⟨X + 1, 6, none⟩) (.inl rfl) v
  have hX2 := hX.kept (hks (.bool (v6 == 1))) (fun b hb e => by subst e; exact nR.out hb)
  have hbr2 := hbr.set 6 (.bool (v6 == 1))
  have hbq2 := hbq.kept (hks (.bool (v6 == 1))) (by have := hqX.out; omega)
  have hp2 := hp.setCell (p := ⟨X + 1, 6, none⟩) (.inr (by have := hqX.out; simp only; omega)) (.bool (v6 == 1))
  clear hks hX hbr hbq hp
  generalize w6.setCell ⟨X + 1, 6, none⟩ (.bool (v6 == 1)) = W at hX2 hbr2 hbq2 hp2 ⊢
  have hX := hX2
  have hbr := hbr2
  have hbq := hbq2
  have hp := hp2
  clear hX2 hbr2 hbq2 hp2
  simp only [List.setIfInBounds_toArray, List.set_cons_succ, List.set_cons_zero] at hbr
  obtain ⟨⟨v7, d7⟩, hs7⟩ : ∃ p, numD d6 most32 = p := ⟨_, rfl⟩
  have hc := xnum_any W _ _ _ g _ hX most32
  rw [hs7] at hc
  simp only at hc
  have HS7 := Lib.hid hs7
  have Hc := Lib.hid hc
  clear hc hs7
  go_wp2_with fail
  refine (Hc.out).mono ?_
  rintro e w7 ⟨rfl, hY, hk⟩
  clear Hc hX
  replace hbr := hbr.kept hk nR.out
  replace hbq := hbq.kept hk nQ.out
  replace hp := hp.trans hk nP.out
  have hX := hY
  have hcr := hbr.cell
  have hfr := hbr.frozen
  have hcx := hX.2.2.cell
  clear hk hY
  go_wp2_with fail
  have hon : d7.1.l = l := by
    have o1 := numD_on (⟨l, 0, 0⟩, false) most32
    rw [HS1.out] at o1
    have o2 := tokD_on d1
    rw [HS2.out] at o2
    have o3 := tokD_on d2
    rw [HS3.out] at o3
    have o4 := txtD_on d3
    rw [HS4.out] at o4
    have o5 := numD_on d4 most32
    rw [HS5.out] at o5
    have o6 := numD_on d5 1
    rw [HS6.out] at o6
    have o7 := numD_on d6 most32
    rw [HS7.out] at o7
    exact ((((((o1.trans o2).trans o3).trans o4).trans o5).trans o6).trans o7).1
  have hat : d7.1.at_ ≤ l.length := by have := hX.1.2.1; rw [hon] at this; exact this
  have hln : l.length ≤ 100000 := by have := hl0.out; omega
  have Hon : Hid (d7.1.l = l) := hon
  have Hat := Lib.hid hat
  have hv7 : 0 ≤ v7 ∧ v7 ≤ 9223372036854775807 := by have := numD_fits d6 most32; rw [HS7.out] at this; exact this
  obtain ⟨⟨I, D⟩, hI⟩ : ∃ p, itemsD (l.length + 2) v7 d7 = p := ⟨_, rfl⟩
  have HI := Lib.hid hI
  have HST : Hid ((stepsD l).x = (I, D) ∧ ∀ k, (stepsD l).rs k = ⟨k, v1, v2, v3, ⟨v4.toArray⟩, v5, v6 == 1, I⟩) :=
    ⟨by simp only [stepsD, HS1.out, HS2.out, HS3.out, HS4.out, HS5.out, HS6.out, HS7.out, HI.out], fun k => by simp only [stepsD, Steps.rs, HS1.out, HS2.out, HS3.out, HS4.out, HS5.out, HS6.out, HS7.out, HI.out]⟩
  clear hon hat hI hcr hfr hcx
  go_loopg [8] (l.length + 2) (fun gk i wr => ∃ (d : Dr) (xs : List It) (m : Nat) (Av : Option Addr) (cv : Nat), i = .int .i64 m ∧ Xr wr (w.heap.size + 1) X X g d ∧
      Blk wr (X + 1) 40 #[.int .i64 (kind - 128), .int .i64 v1, .int .i64 v2, .int .i64 v3, .string ⟨v4.toArray⟩, .int .i64 v5, .bool (v6 == 1), .slice Av m cv] ∧
      Blk wr w.heap.size 40 #[.int .i64 0, .int .i64 0, .int .i64 0, .int .i64 0, .string ⟨#[]⟩, .int .i64 0, .bool false, .slice none 0 0] ∧
      Own wr (fun b => X + 2 ≤ b) 52 4 (.slice Av m cv) m (itc xs) ∧ Pure w wr ∧ m + gk ≤ l.length + 2 ∧
      Hid (xs.length = m ∧ xs ++ (itemsD gk (v7 - m) d).1 = I ∧ (itemsD gk (v7 - m) d).2 = D) ∧ Hid (d.1.l = l ∧ (d.1.err = 0 → l.length - d.1.at_ + 1 < gk)))
  case atStart =>
    exact ⟨d7, [], 0, none, 0, rfl, hX, hbr, hbq, Own.nil _ _ _ _, hp, by simp, ⟨rfl, by simp [HI.out], by simp [HI.out]⟩, ⟨Hon.out, fun _ => by omega⟩⟩
  case round =>
    clear hX hbr hbq hp
    obtain ⟨d, xs, m, Av, cv, rfl, hX, hbr, hbq, ho, hp, hlen, hit, hd⟩ := hrel
    by_cases hgo : 0 < v7 - m ∧ d.2 = false ∧ d.1.err = 0
    · obtain ⟨g', rfl⟩ : ∃ g', gk = g' + 1 := ⟨gk - 1, by have := hd.out.2 hgo.2.2; omega⟩
      have HG := Lib.hid hgo
      have hlt : (m : Int) < v7 := by omega
      have hcx := hX.2.2.cell
      have he := err_any wr _ g d.1 hX.1
      rw [hgo.2.2] at he
      rw [hgo.2.1] at hcx
      have Hc := Lib.hid he
      clear hgo he
      go_wp2_with fail
      refine (Hc.out).mono ?_
      rintro e w' ⟨rfl, rfl⟩
      clear Hc hcx
      go_wp2_with fail
      have hbi := Blk.new wr 52 #[.string ⟨#[]⟩, .int .i64 0, .bool false, .string ⟨#[]⟩]
      have hYX : Hid (X + 1 < wr.heap.size) := hbr.lt
      replace hX := hX.kept (S := fun _ => False) ((Kept.refl _ wr).alloc (.cells #[.string ⟨#[]⟩, .int .i64 0, .bool false, .string ⟨#[]⟩] 52)) (fun _ _ h => h)
      replace hbr := hbr.alloc (.cells #[.string ⟨#[]⟩, .int .i64 0, .bool false, .string ⟨#[]⟩] 52)
      replace hbq := hbq.alloc (.cells #[.string ⟨#[]⟩, .int .i64 0, .bool false, .string ⟨#[]⟩] 52)
      replace hp := hp.alloc (.cells #[.string ⟨#[]⟩, .int .i64 0, .bool false, .string ⟨#[]⟩] 52)
      replace ho := (ho.imp (G := fun b => X + 2 ≤ b ∧ b < wr.heap.size) (fun b hb h => ⟨h, hb⟩)).alloc (.cells #[.string ⟨#[]⟩, .int .i64 0, .bool false, .string ⟨#[]⟩] 52)
      generalize wr.alloc (.cells #[.string ⟨#[]⟩, .int .i64 0, .bool false, .string ⟨#[]⟩] 52) = W at hX hbr hbq hp ho hbi ⊢
      generalize wr.heap.size = Y at *
      have hne1 : ¬ X = Y := by have := hYX.out; omega
      have hne2 : ¬ Y = X := by have := hYX.out; omega
      have hne3 : ¬ X + 1 = Y := by have := hYX.out; omega
      have hne4 : ¬ Y = X + 1 := by have := hYX.out; omega
      have nY : Hid (¬ Xs (w.heap.size + 1) X X Y) := by have := hqX.out; have := hYX.out; rintro (h | h) <;> omega
      have nO : Hid (∀ b, (X + 2 ≤ b ∧ b < Y) → ¬ Xs (w.heap.size + 1) X X b) := by rintro b hb (h | h) <;> omega
      obtain ⟨⟨v11, d11⟩, hs11⟩ : ∃ p, txtD d = p := ⟨_, rfl⟩
      have hc := xtxt_any W _ _ _ g _ hX
      rw [hs11] at hc
      simp only at hc
      have HS11 := Lib.hid hs11
      have Hc := Lib.hid hc
      clear hc hs11
      go_wp2_with fail
      refine (Hc.out).mono ?_
      rintro e w11 ⟨rfl, hY, hk⟩
      clear Hc hX
      replace hbr := hbr.kept hk nR.out
      replace hbq := hbq.kept hk nQ.out
      replace hbi := hbi.kept hk nY.out
      replace ho := ho.kept hk (fun b _ hb => nO.out b hb)
      replace hp := hp.trans hk nP.out
      have hX := hY
      have hci := hbi.cell
      have hfi := hbi.frozen
      have hcx := hX.2.2.cell
      have hcr := hbr.cell
      clear hk hY
      go_wp2_with fail
      clear hcr hci hfi hcx
      have hks := fun v => (Kept.refl (· = Y) w11).setCell (p := ⟨Y, 0, none⟩) (.inl rfl) v
      have hX2 := hX.kept (hks (.string ⟨v11.toArray⟩)) (fun b hb e => by subst e; exact nY.out hb)
      have hbi2 := hbi.set 0 (.string ⟨v11.toArray⟩)
      have hbq2 := hbq.kept (hks (.string ⟨v11.toArray⟩)) (by have := hqX.out; have := hYX.out; omega)
      have hbr2 := hbr.kept (hks (.string ⟨v11.toArray⟩)) (by have := hqX.out; have := hYX.out; omega)
      have ho2 := ho.kept (hks (.string ⟨v11.toArray⟩)) (fun b _ hb e => by have h1 : b < Y := hb.2; have h2 : b = Y := e; omega)
      have hp2 := hp.setCell (p := ⟨Y, 0, none⟩) (.inr (by have := hqX.out; have := hYX.out; simp only; omega)) (.string ⟨v11.toArray⟩)
      clear hks hX hbr hbq hp hbi ho
      generalize w11.setCell ⟨Y, 0, none⟩ (.string ⟨v11.toArray⟩) = W at hX2 hbr2 hbq2 hp2 hbi2 ho2 ⊢
      have hX := hX2
      have hbr := hbr2
      have hbq := hbq2
      have hp := hp2
      have hbi := hbi2
      have ho := ho2
      clear hX2 hbr2 hbq2 hp2 hbi2 ho2
      simp only [List.setIfInBounds_toArray, List.set_cons_succ, List.set_cons_zero] at hbi
      obtain ⟨⟨v12, d12⟩, hs12⟩ : ∃ p, tokD d11 = p := ⟨_, rfl⟩
      have hc := xtok_any W _ _ _ g _ hX
      rw [hs12] at hc
      simp only at hc
      have HS12 := Lib.hid hs12
      have Hc := Lib.hid hc
      clear hc hs12
      go_wp2_with fail
      refine (Hc.out).mono ?_
      rintro e w12 ⟨rfl, hY, hk⟩
      clear Hc hX
      replace hbr := hbr.kept hk nR.out
      replace hbq := hbq.kept hk nQ.out
      replace hbi := hbi.kept hk nY.out
      replace ho := ho.kept hk (fun b _ hb => nO.out b hb)
      replace hp := hp.trans hk nP.out
      have hX := hY
      have hci := hbi.cell
      have hfi := hbi.frozen
      have hcx := hX.2.2.cell
      have hcr := hbr.cell
      clear hk hY
      go_wp2_with fail
      clear hcr hci hfi hcx
      have hks := fun v => (Kept.refl (· = Y) w12).setCell (p := ⟨Y, 1, none⟩) (.inl rfl) v
      have hX2 := hX.kept (hks (.int .i64 v12)) (fun b hb e => by subst e; exact nY.out hb)
      have hbi2 := hbi.set 1 (.int .i64 v12)
      have hbq2 := hbq.kept (hks (.int .i64 v12)) (by have := hqX.out; have := hYX.out; omega)
      have hbr2 := hbr.kept (hks (.int .i64 v12)) (by have := hqX.out; have := hYX.out; omega)
      have ho2 := ho.kept (hks (.int .i64 v12)) (fun b _ hb e => by have h1 : b < Y := hb.2; have h2 : b = Y := e; omega)
      have hp2 := hp.setCell (p := ⟨Y, 1, none⟩) (.inr (by have := hqX.out; have := hYX.out; simp only; omega)) (.int .i64 v12)
      clear hks hX hbr hbq hp hbi ho
      generalize w12.setCell ⟨Y, 1, none⟩ (.int .i64 v12) = W at hX2 hbr2 hbq2 hp2 hbi2 ho2 ⊢
      have hX := hX2
      have hbr := hbr2
      have hbq := hbq2
      have hp := hp2
      have hbi := hbi2
      have ho := ho2
      clear hX2 hbr2 hbq2 hp2 hbi2 ho2
      simp only [List.setIfInBounds_toArray, List.set_cons_succ, List.set_cons_zero] at hbi
      obtain ⟨⟨v13, d13⟩, hs13⟩ : ∃ p, numD d12 1 = p := ⟨_, rfl⟩
      have hc := xnum_any W _ _ _ g _ hX 1
      rw [hs13] at hc
      simp only at hc
      have HS13 := Lib.hid hs13
      have Hc := Lib.hid hc
      clear hc hs13
      go_wp2_with fail
      refine (Hc.out).mono ?_
      rintro e w13 ⟨rfl, hY, hk⟩
      clear Hc hX
      replace hbr := hbr.kept hk nR.out
      replace hbq := hbq.kept hk nQ.out
      replace hbi := hbi.kept hk nY.out
      replace ho := ho.kept hk (fun b _ hb => nO.out b hb)
      replace hp := hp.trans hk nP.out
      have hX := hY
      have hci := hbi.cell
      have hfi := hbi.frozen
      have hcx := hX.2.2.cell
      have hcr := hbr.cell
      clear hk hY
      go_wp2_with fail
      clear hcr hci hfi hcx
      have hks := fun v => (Kept.refl (· = Y) w13).setCell (p := ⟨Y, 2, none⟩) (.inl rfl) v
      have hX2 := hX.kept (hks (.bool (v13 == 1))) (fun b hb e => by subst e; exact nY.out hb)
      have hbi2 := hbi.set 2 (.bool (v13 == 1))
      have hbq2 := hbq.kept (hks (.bool (v13 == 1))) (by have := hqX.out; have := hYX.out; omega)
      have hbr2 := hbr.kept (hks (.bool (v13 == 1))) (by have := hqX.out; have := hYX.out; omega)
      have ho2 := ho.kept (hks (.bool (v13 == 1))) (fun b _ hb e => by have h1 : b < Y := hb.2; have h2 : b = Y := e; omega)
      have hp2 := hp.setCell (p := ⟨Y, 2, none⟩) (.inr (by have := hqX.out; have := hYX.out; simp only; omega)) (.bool (v13 == 1))
      clear hks hX hbr hbq hp hbi ho
      generalize w13.setCell ⟨Y, 2, none⟩ (.bool (v13 == 1)) = W at hX2 hbr2 hbq2 hp2 hbi2 ho2 ⊢
      have hX := hX2
      have hbr := hbr2
      have hbq := hbq2
      have hp := hp2
      have hbi := hbi2
      have ho := ho2
      clear hX2 hbr2 hbq2 hp2 hbi2 ho2
      simp only [List.setIfInBounds_toArray, List.set_cons_succ, List.set_cons_zero] at hbi
      obtain ⟨⟨v14, d14⟩, hs14⟩ : ∃ p, txtD d13 = p := ⟨_, rfl⟩
      have hc := xtxt_any W _ _ _ g _ hX
      rw [hs14] at hc
      simp only at hc
      have HS14 := Lib.hid hs14
      have Hc := Lib.hid hc
      clear hc hs14
      go_wp2_with fail
      refine (Hc.out).mono ?_
      rintro e w14 ⟨rfl, hY, hk⟩
      clear Hc hX
      replace hbr := hbr.kept hk nR.out
      replace hbq := hbq.kept hk nQ.out
      replace hbi := hbi.kept hk nY.out
      replace ho := ho.kept hk (fun b _ hb => nO.out b hb)
      replace hp := hp.trans hk nP.out
      have hX := hY
      have hci := hbi.cell
      have hfi := hbi.frozen
      have hcx := hX.2.2.cell
      have hcr := hbr.cell
      clear hk hY
      (go_wp2_with (at_builtin; refine held ?_)); rw [show w14.heap.size = (w14.setCell ⟨Y, 3, none⟩ (.string ⟨v14.toArray⟩)).heap.size from by simp]
      clear hcr hci hfi hcx
      have hks := fun v => (Kept.refl (· = Y) w14).setCell (p := ⟨Y, 3, none⟩) (.inl rfl) v
      have hX2 := hX.kept (hks (.string ⟨v14.toArray⟩)) (fun b hb e => by subst e; exact nY.out hb)
      have hbi2 := hbi.set 3 (.string ⟨v14.toArray⟩)
      have hbq2 := hbq.kept (hks (.string ⟨v14.toArray⟩)) (by have := hqX.out; have := hYX.out; omega)
      have hbr2 := hbr.kept (hks (.string ⟨v14.toArray⟩)) (by have := hqX.out; have := hYX.out; omega)
      have ho2 := ho.kept (hks (.string ⟨v14.toArray⟩)) (fun b _ hb e => by have h1 : b < Y := hb.2; have h2 : b = Y := e; omega)
      have hp2 := hp.setCell (p := ⟨Y, 3, none⟩) (.inr (by have := hqX.out; have := hYX.out; simp only; omega)) (.string ⟨v14.toArray⟩)
      clear hks hX hbr hbq hp hbi ho
      generalize w14.setCell ⟨Y, 3, none⟩ (.string ⟨v14.toArray⟩) = W at hX2 hbr2 hbq2 hp2 hbi2 ho2 ⊢
      have hX := hX2
      have hbr := hbr2
      have hbq := hbq2
      have hp := hp2
      have hbi := hbi2
      have ho := ho2
      clear hX2 hbr2 hbq2 hp2 hbi2 ho2
      simp only [List.setIfInBounds_toArray, List.set_cons_succ, List.set_cons_zero] at hbi
      refine unheld ?_
      have hYW := hbi.lt
      refine wp_appB (X + 2) Try.underlying38 info_item rfl (by omega) (by have := hYX.out; simp; omega) ((ho.imp (fun b _ h => h.1)).alloc _) (Sl.lit W #[.string ⟨v11.toArray⟩, .int .i64 v12, .bool (v13 == 1), .string ⟨v14.toArray⟩] 52 4 1 _ rfl rfl) (itc_one [⟨⟨v11.toArray⟩, v12, v13 == 1, ⟨v14.toArray⟩⟩]) (by omega) (by omega) rfl _ _ rfl rfl rfl ?_
      intro v' w8 ho8 hk8
      have hk9 : Kept (fun b => X + 2 ≤ b) W w8 := ((Kept.refl _ W).alloc _).same hk8
      replace hX := hX.kept hk9 (fun b hb h => by rcases hb with hb | hb <;> omega)
      replace hbr := hbr.kept hk9 (by omega)
      replace hbq := hbq.kept hk9 (by have := hqX.out; omega)
      replace hp := hp.trans hk9 (fun i hi h => by have := hqX.out; omega)
      obtain ⟨A8, c8, rfl, _, _, hl8, _⟩ := ho8.form
      have hcr := hbr.cell
      have hfr := hbr.frozen
      have hitem : itemD d = (⟨⟨v11.toArray⟩, v12, v13 == 1, ⟨v14.toArray⟩⟩, d14) := by simp only [itemD, HS11.out, HS12.out, HS13.out, HS14.out]
      have Hitem := Lib.hid hitem
      clear hitem ho hbi hk8 hk9
      go_wp2_with fail
      have hks := (Kept.refl (· = X + 1) w8).setCell (p := ⟨X + 1, 7, none⟩) (.inl rfl) (.slice A8 (m + 1) c8)
      have hX2 := hX.kept hks (fun b hb e => by subst e; exact nR.out hb)
      have hbr2 := hbr.set 7 (.slice A8 (m + 1) c8)
      simp only [List.setIfInBounds_toArray, List.set_cons_succ, List.set_cons_zero] at hbr2
      have hbq2 := hbq.kept hks (by have := hqX.out; omega)
      have ho2 := ho8.kept hks (fun b _ hb e => by have h1 : X + 2 ≤ b := hb; have h2 : b = X + 1 := e; omega)
      have hp2 := hp.setCell (p := ⟨X + 1, 7, none⟩) (.inr (by have := hqX.out; simp only; omega)) (.slice A8 (m + 1) c8)
      go_roundg g'
      case measure => omega
      case rel =>
        obtain ⟨q1, q2, q3⟩ := hit.out
        rw [itemsD_go _ _ _ HG.out, Hitem.out] at q2 q3
        have hon := itemD_on d
        rw [Hitem.out] at hon
        have e1 : v7 - ((m + 1 : Nat) : Int) = v7 - m - 1 := by omega
        refine ⟨d14, xs ++ [⟨⟨v11.toArray⟩, v12, v13 == 1, ⟨v14.toArray⟩⟩], m + 1, A8, c8, by go_num, hX2, hbr2, hbq2, ?_, hp2, by omega, ⟨by simp [q1], ?_, ?_⟩, ⟨hon.1.trans hd.out.1, fun e0 => ?_⟩⟩
        · have : itc (xs ++ [⟨⟨v11.toArray⟩, v12, v13 == 1, ⟨v14.toArray⟩⟩]) = itc xs ++ [.string ⟨v11.toArray⟩, .int .i64 v12, .bool (v13 == 1), .string ⟨v14.toArray⟩] := by simp [itc, It.cells]
          rw [this]
          exact ho2
        · rw [e1, List.append_assoc]
          exact q2
        · rw [e1]
          exact q3
        · have h3 : d.1.err = 0 ∧ d.1.at_ < d14.1.at_ := hon.2.2 e0
          have h4 := hd.out.2 h3.1
          have h5 := hX2.1.2.1
          rw [hon.1.trans hd.out.1] at h5
          omega
    · have hst := itemsD_stop gk (v7 - m) d hgo
      obtain ⟨q1, q2, q3⟩ := hit.out
      rw [hst] at q2 q3
      simp only [List.append_nil] at q2 q3
      subst q2 q3
      have hcx := hX.2.2.cell
      have hcq := hbq.cell
      have hfq := hbq.frozen
      have HG := Lib.hid hgo
      clear hst hit hgo
      subst q1
      by_cases hb : d.2 = true
      · have HD := Lib.hid (dec_bad h1 h2 (.inl (by rw [HST.out.1]; exact hb)))
        rw [hb] at hcx
        clear hb
        by_cases hlt : v7 ≤ (xs.length : Int)
        · go_wp2_with (with_reducible refine stop_store (ty := 40) ?_)
          refine unheld ?_
          refine wp_store_blk rfl _ _ _ rfl rfl rfl hbq rfl (by kernel_rfl) (by kernel_rfl) rfl ?_
          intro w9 hbq9 hk9
          repeat go_step
          exact bodyPost_ret (results_cell_tmp Try.results24 rfl hbq9 Try.underlying40 rfl (by kernel_rfl)) rfl (DecP.zero HD.out (hp.trans hk9 (fun i hi h => by omega)))
        · go_wp2_with (with_reducible refine stop_store (ty := 40) ?_)
          refine unheld ?_
          refine wp_store_blk rfl _ _ _ rfl rfl rfl hbq rfl (by kernel_rfl) (by kernel_rfl) rfl ?_
          intro w9 hbq9 hk9
          repeat go_step
          exact bodyPost_ret (results_cell_tmp Try.results24 rfl hbq9 Try.underlying40 rfl (by kernel_rfl)) rfl (DecP.zero HD.out (hp.trans hk9 (fun i hi h => by omega)))
      · have hb' : d.2 = false := by simpa using hb
        rw [hb'] at hcx
        have he := err_any wr _ g d.1 hX.1
        by_cases herr : d.1.err = 0
        · have hlt : v7 ≤ (xs.length : Int) := by
            have := HG.out
            rcases Int.lt_or_le (xs.length : Int) v7 with h | h
            · exact absurd ⟨by omega, hb', herr⟩ this
            · exact h
          rw [herr] at he
          have He := Lib.hid he
          have Hl := Lib.hid (left_any wr _ g d.1 hX.1)
          have hcr := hbr.cell
          obtain ⟨L, hL⟩ : ∃ L, d.1.left = L := ⟨_, rfl⟩
          rw [hL] at Hl
          by_cases hleft : 0 < L
          · have HD := Lib.hid (dec_bad h1 h2 (.inr (.inr (by rw [HST.out.1]; simp only; rw [hL]; exact hleft))))
            clear hb hb' he herr hL
            go_wp2_with fail
            refine (He.out).mono ?_
            rintro e w' ⟨rfl, rfl⟩
            go_wp2_with fail
            refine (Hl.out).mono ?_
            rintro e w' ⟨rfl, nl, rfl⟩
            replace hbq := hbq.drewN nl
            replace hp := hp.drewN nl
            go_wp2_with (with_reducible refine stop_store (ty := 40) ?_)
            refine unheld ?_
            refine wp_store_blk rfl _ _ _ rfl rfl rfl hbq rfl (by kernel_rfl) (by kernel_rfl) rfl ?_
            intro w9 hbq9 hk9
            repeat go_step
            exact bodyPost_ret (results_cell_tmp Try.results24 rfl hbq9 Try.underlying40 rfl (by kernel_rfl)) rfl (DecP.zero HD.out (hp.trans hk9 (fun i hi h => by omega)))
          · have HD := Lib.hid (dec_rest h1 h2 (by rw [HST.out.1]; simp only; rintro (h | h | h); rw [hb'] at h; cases h; exact h herr; rw [hL] at h; exact hleft h) (HST.out.2 _))
            have hfit : Rs.Fits ⟨kind - 128, v1, v2, v3, ⟨v4.toArray⟩, v5, v6 == 1, xs⟩ := by
              refine ⟨?_, ?_, ?_, ?_, ?_⟩
              · have := numD_fits (⟨l, 0, 0⟩, false) most32; rw [HS1.out] at this; exact this.2
              · have := tokD_fits d1; rw [HS2.out] at this; exact this.2
              · have := tokD_fits d2; rw [HS3.out] at this; exact this.2
              · have := numD_fits d4 most32; rw [HS5.out] at this; exact this.2
              · intro i hi
                have := itemsD_fits (l.length + 2) v7 d7 i (by rw [HI.out]; exact hi)
                exact this.2
            have hck := fun w' hI => check_any ⟨kind - 128, v1, v2, v3, ⟨v4.toArray⟩, v5, v6 == 1, xs⟩ Av cv w' hI hfit
            unfold CheckP at hck
            obtain ⟨V, hV⟩ : ∃ V, checkR ⟨kind - 128, v1, v2, v3, ⟨v4.toArray⟩, v5, v6 == 1, xs⟩ = V := ⟨_, rfl⟩
            rw [hV] at hck HD
            simp only [rsa] at hck
            have Hck := Lib.hid hck
            have hL0 : L ≤ 0 := by omega
            have hsl : Sl (wr) (fun b => X + 2 ≤ b) 4 Av xs.length (itc xs) := ho.sl
            clear hb hb' he herr hL hleft hck hV hfit
            by_cases hv0 : V = 0
            · have HD2 : Hid (decodeR kind l = (⟨kind - 128, v1, v2, v3, ⟨v4.toArray⟩, v5, v6 == 1, xs⟩, 0)) := by rw [Hid, HD.out, if_neg (by simpa using hv0)]
              subst hv0
              clear HD
              go_wp2_with fail
              refine (He.out).mono ?_
              rintro e w' ⟨rfl, rfl⟩
              go_wp2_with fail
              refine (Hl.out).mono ?_
              rintro e w' ⟨rfl, nl, rfl⟩
              replace hbq := hbq.drewN nl
              replace hbr := hbr.drewN nl
              replace hsl := hsl.drewN nl
              replace hp := hp.drewN nl
              go_wp2_with fail
              refine (Hck.out _ (hsl.imp fun _ _ _ => trivial)).mono ?_
              rintro e w8 ⟨rfl, hk8⟩
              replace hbq := hbq.kept hk8 (fun h => h)
              replace hbr := hbr.kept hk8 (fun h => h)
              replace hsl := hsl.kept hk8 (fun _ _ _ h => h)
              replace hp := hp.same hk8
              clear hcr hcx hcq hfq
              have hcr := hbr.cell
              go_wp2_with (with_reducible refine stop_store (ty := 40) ?_)
              refine unheld ?_
              refine wp_store_blk rfl _ _ _ rfl rfl rfl hbq rfl (by kernel_rfl) (by kernel_rfl) rfl ?_
              intro w9 hbq9 hk9
              repeat go_step
              refine bodyPost_ret (results_cell_tmp Try.results24 rfl hbq9 Try.underlying40 rfl (by kernel_rfl)) rfl ?_
              have hqX' := hqX.out
              refine ⟨Av, cv, by rw [HD2.out]; rfl, ?_, hp.trans hk9 (fun i hi h => by omega)⟩
              rw [HD2.out]
              exact (hsl.kept hk9 (fun b _ hb e => by have h1 : X + 2 ≤ b := hb; have h2 : b = w.heap.size := e; omega)).imp fun b _ hb => by have h1 : X + 2 ≤ b := hb; omega
            · have HD2 : Hid (decodeR kind l = (zeroR, V)) := by rw [Hid, HD.out, if_pos hv0]
              have hv1 : (V != 0) = true := by simpa using hv0
              clear hv0 HD
              have HD := HD2
              go_wp2_with fail
              refine (He.out).mono ?_
              rintro e w' ⟨rfl, rfl⟩
              go_wp2_with fail
              refine (Hl.out).mono ?_
              rintro e w' ⟨rfl, nl, rfl⟩
              replace hbq := hbq.drewN nl
              replace hsl := hsl.drewN nl
              replace hp := hp.drewN nl
              go_wp2_with fail
              refine (Hck.out _ (hsl.imp fun _ _ _ => trivial)).mono ?_
              rintro e w8 ⟨rfl, hk8⟩
              replace hbq := hbq.kept hk8 (fun h => h)
              replace hp := hp.same hk8
              clear hcr hcx hcq hfq
              go_wp2_with (with_reducible refine stop_store (ty := 40) ?_)
              refine unheld ?_
              refine wp_store_blk rfl _ _ _ rfl rfl rfl hbq rfl (by kernel_rfl) (by kernel_rfl) rfl ?_
              intro w9 hbq9 hk9
              repeat go_step
              exact bodyPost_ret (results_cell_tmp Try.results24 rfl hbq9 Try.underlying40 rfl (by kernel_rfl)) rfl (DecP.zero HD.out (hp.trans hk9 (fun i hi h => by omega)))
        · have HD := Lib.hid (dec_bad h1 h2 (.inr (.inl (by rw [HST.out.1]; exact herr))))
          have hne1 : (d.1.err != 0) = true := by simpa using herr
          have hne2 : (d.1.err == 0) = false := by simpa using herr
          have He := Lib.hid he
          clear hb hb' he herr
          by_cases hlt : v7 ≤ (xs.length : Int)
          · go_wp2_with fail
            refine (He.out).mono ?_
            rintro e w' ⟨rfl, rfl⟩
            go_wp2_with (with_reducible refine stop_store (ty := 40) ?_)
            refine unheld ?_
            refine wp_store_blk rfl _ _ _ rfl rfl rfl hbq rfl (by kernel_rfl) (by kernel_rfl) rfl ?_
            intro w9 hbq9 hk9
            repeat go_step
            exact bodyPost_ret (results_cell_tmp Try.results24 rfl hbq9 Try.underlying40 rfl (by kernel_rfl)) rfl (DecP.zero HD.out (hp.trans hk9 (fun i hi h => by omega)))
          · go_wp2_with fail
            refine (He.out).mono ?_
            rintro e w' ⟨rfl, rfl⟩
            go_wp2_with fail
            refine (He.out).mono ?_
            rintro e w' ⟨rfl, rfl⟩
            go_wp2_with (with_reducible refine stop_store (ty := 40) ?_)
            refine unheld ?_
            refine wp_store_blk rfl _ _ _ rfl rfl rfl hbq rfl (by kernel_rfl) (by kernel_rfl) rfl ?_
            intro w9 hbq9 hk9
            repeat go_step
            exact bodyPost_ret (results_cell_tmp Try.results24 rfl hbq9 Try.underlying40 rfl (by kernel_rfl)) rfl (DecP.zero HD.out (hp.trans hk9 (fun i hi h => by omega)))
end Go.Proofs.Ytlmfpadlgdmflaa
