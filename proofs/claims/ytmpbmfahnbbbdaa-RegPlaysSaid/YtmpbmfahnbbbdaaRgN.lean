/-
  reg: Len, Load, New walked.
-/
import Derived.Test.YtmpbmfahnbbbdaaRg
import Derived.Test.YtmpbmfahnbbbdaaLate
import Derived.LoopTactic
import Derived.Deep.QuietTactic
import Derived.BigQuiet
set_option linter.unusedSimpArgs false
set_option linter.unusedVariables false
namespace Go.Proofs.Ytmpbmfahnbbbdaa
open Go.RowKit
set_option maxRecDepth 100000

theorem rg_len (w : World) (F : Nat → Prop) (m g : Nat) (es : Es) (h : Rg m w F g es) :
    Calls Try.prog 13 #[ptrV g] w fun e w' => e = .returned (.int .i64 (es.length : Nat)) ∧ w' = w := by
  obtain ⟨ms, A, c, gs, h⟩ := h
  have hb := h.blk
  have hs := h.own.sl
  have hml := h.ml
  have hgl := h.gl
  have hm := h.pos
  have hel := h.el
  have hsum : (ms.map List.length).sum = es.length := by rw [sum_len, h.shd.perm.length_eq]
  have hC : ∀ (i x : Nat) (f : Es), gs[i]? = some x → ms[i]? = some f → Calls Try.prog 30 #[ptrV x] w fun e w' => e = .returned (.int .i64 (f.length : Nat)) ∧ w = w' := fun i x f hx hf => i_len w F x f (h.map hx hf)
  have hpre : ∀ k, ((ms.take k).map List.length).sum ≤ es.length := fun k => by
    rw [← hsum, ← List.take_append_drop k ms, List.map_append, List.sum_append]
    simp
  have hc := hb.cell
  obtain ⟨b, o, rfl, _, _, _⟩ := hs.2 (by omega)
  have HC := Lib.hid hC
  have Hs := Lib.hid hs
  have Hsum := Lib.hid hsum
  have Hpre := Lib.hid hpre
  have Hml := Lib.hid hml
  have Hgl := Lib.hid hgl
  clear h hb hs hsum hC hpre hml hgl
  go_enter Try.func13, Try.ntmps13
  go_wp2
  go_loopw [3, 11] (fun n i wr => ∃ k q : Nat, i = .int .i64 k ∧ n = .int .i64 q ∧ k ≤ m ∧ q ≤ 90000 ∧ Hid (q = ((ms.take k).map List.length).sum) ∧ wr = w) (fun _ i _ => m - (intOf i).toNat)
  case atStart => exact ⟨0, 0, rfl, rfl, Nat.zero_le _, Nat.zero_le _, rfl, rfl⟩
  case round =>
    obtain ⟨k, q, rfl, rfl, hk, hq, hqs, hw⟩ := hrel
    obtain rfl := hw.symm
    by_cases hkm : k < m
    · obtain ⟨x, hx⟩ : ∃ x, gs[k]? = some x := ⟨_, List.getElem?_eq_getElem (by have := Hgl.out; omega)⟩
      obtain ⟨f, hf⟩ : ∃ f, ms[k]? = some f := ⟨_, List.getElem?_eq_getElem (by have := Hml.out; omega)⟩
      have hcx := sl_one1 Hs.out (i := k) (x := ptrV x) (by rw [List.getElem?_map, hx]; rfl)
      have C := Lib.hid (HC.out k x f hx hf)
      have hnx : q + f.length = ((ms.take (k + 1)).map List.length).sum := by
        rw [List.take_add_one, hf, Option.toList_some, List.map_append, List.sum_append, ← hqs.out]
        simp
      have hle := Hpre.out (k + 1)
      rw [← hnx] at hle
      have Hnx := Lib.hid hnx
      have hki : (k : Int) < (m : Int) := by omega
      clear hx hf hnx
      go_wp2_with fail
      refine (C.out).mono ?_
      rintro e w1 ⟨rfl, rfl⟩
      go_wp2
      go_roundw
      case measure => simp [intOf]; omega
      case rel => exact ⟨k + 1, q + f.length, by first | rfl | go_num, by first | rfl | go_num, by omega, by omega, Hnx, by first | rfl | trivial⟩
    · obtain rfl : k = m := by omega
      have he : q = es.length := by
        have := hqs.out
        rw [List.take_of_length_le (by have := Hml.out; omega), Hsum.out] at this
        exact this
      subst he
      go_wp2
      go_ret
      exact ⟨rfl, rfl⟩
/-- How many keys a shard has. -/
def ldE (m : Nat) (es : Es) (s : Int) : Nat := if 0 ≤ s ∧ s < m then (es.filter fun e => decide (shd m e.1 = s.toNat)).length else 0
set_option maxHeartbeats 800000 in
theorem rg_load (w : World) (F : Nat → Prop) (m g : Nat) (es : Es) (s : Int) (h : Rg m w F g es) (hs0 : -9223372036854775808 ≤ s ∧ s ≤ 9223372036854775807) :
    Calls Try.prog 23 #[ptrV g, .int .i64 s] w fun e w' => e = .returned (.int .i64 (ldE m es s : Nat)) ∧ Pure w w' := by
  obtain ⟨ms, A, c, gs, h⟩ := h
  have hb := h.blk
  have hc := hb.cell
  by_cases h0 : s < 0
  · have he : ldE m es s = 0 := by unfold ldE; rw [if_neg (by omega)]
    rw [he]
    clear h hb he
    go_enter Try.func23, Try.ntmps23
    go_wp2
    go_ret
    exact ⟨rfl, Kept.refl _ _⟩
  · obtain ⟨i, rfl⟩ := Int.eq_ofNat_of_zero_le (by omega : 0 ≤ s)
    by_cases him : i < m
    · obtain ⟨x, hx⟩ : ∃ x, gs[i]? = some x := ⟨_, List.getElem?_eq_getElem (by have := h.gl; omega)⟩
      obtain ⟨f, hf⟩ : ∃ f, ms[i]? = some f := ⟨_, List.getElem?_eq_getElem (by have := h.ml; omega)⟩
      have hs := h.own.sl
      obtain ⟨b, o, rfl, _, _, _⟩ := hs.2 (by omega)
      have hcx := sl_one1 hs (i := i) (x := ptrV x) (by rw [List.getElem?_map, hx]; rfl)
      have he : ldE m es i = f.length := by unfold ldE; rw [if_pos (by omega), h.shd.load hf]; rfl
      rw [he]
      have C := Lib.hid (i_len w F x f (h.map hx hf))
      have him' : (i : Int) < (m : Int) := by omega
      clear h hb hx hf hs he
      go_enter Try.func23, Try.ntmps23
      go_wp2_with fail
      refine (C.out).mono ?_
      rintro e w1 ⟨rfl, rfl⟩
      go_wp2
      go_ret
      exact ⟨rfl, Kept.refl _ _⟩
    · have he : ldE m es i = 0 := by unfold ldE; rw [if_neg (by omega)]
      rw [he]
      have him' : (m : Int) ≤ (i : Int) := by omega
      clear h hb he
      go_enter Try.func23, Try.ntmps23
      go_wp2
      go_ret
      exact ⟨rfl, Kept.refl _ _⟩
/-- How many shards: at least one. -/
def mS (a : Int) : Nat := max a.toNat 1
theorem zip_nil (gs : List Nat) : List.zipWith mpC gs (List.replicate gs.length []) = gs.map (fun g => mpC g []) := by
  induction gs with
  | nil => rfl
  | cons g gs ih => simp only [List.length_cons, List.replicate_succ, List.zipWith_cons_cons, List.map_cons, ih]
theorem info_ptr : (Try.prog.info? 46).map (fun i => (i.zero, i.size, i.bytes)) = some (some (.pointer none), 1, 8) := by kernel_rfl
set_option maxHeartbeats 1600000 in
theorem rg_new (w : World) (a : Int) (ha : a ≤ 64) :
    Calls Try.prog 10 #[.int .i64 a] w fun e w' => e = .returned (ptrV w.heap.size) ∧ Rg (mS a) w' (fun b => w.heap.size ≤ b) w.heap.size [] ∧ Pure w w' := by
  have CN := Lib.hid i_new
  obtain ⟨N, hN⟩ : ∃ N, w.heap.size = N := ⟨_, rfl⟩
  obtain ⟨m, hm⟩ : ∃ m, mS a = m := ⟨_, rfl⟩
  have hm1 : 1 ≤ m ∧ m ≤ 64 := by unfold mS at hm; omega
  have hr0 : Run w (fun _ => False) (w.alloc (.cells #[.slice none 0 0] 45)) (blkC N 45 #[.slice none 0 0] :: ownC 46 1 (.slice none 0 0) 0 [] :: []) := by
    have h := ((Run.start (F := fun _ => False) (w := w) (Ps := []) trivial).addNil 46 1).addBlk #[.slice none 0 0] 45
    rw [hN] at h
    exact h
  have hmx : max a 1 = (m : Int) := by unfold mS at hm; omega
  have Hr0 := Lib.hid hr0
  have HN := Lib.hid hN
  rw [hm]
  rw [hN]
  clear hr0 hm
  go_enter Try.func10, Try.ntmps10
  go_wp2
  obtain ⟨W0, hW0⟩ : ∃ x, w.alloc (.cells #[.slice none 0 0] 45) = x := ⟨_, rfl⟩
  rw [hW0] at Hr0 ⊢
  clear hW0 hmx ha
  go_loopw [8] (fun i wr => ∃ (k c : Nat) (A : Option Addr) (gs : List Nat), i = .int .i64 k ∧ k ≤ m ∧ Hid (gs.length = k) ∧ Hid (Run w (fun _ => False) wr (blkC N 45 #[.slice A k c] :: ownC 46 1 (.slice A k c) k (gs.map ptrV) :: gs.map (fun g => mpC g [])))) (fun i _ => m - (intOf i).toNat)
  case atStart => exact ⟨0, 0, none, [], rfl, Nat.zero_le _, rfl, Hr0⟩
  case round =>
    obtain ⟨k, c, A, gs, rfl, hk, hgl, hr⟩ := hrel
    have hrb := hr.out.blk 0 rfl
    have hc := hrb.cell
    have hNr : ¬ wr.heap.size = N := by have := hrb.lt; omega
    by_cases hkm : k < m
    · have hki : (k : Int) < (m : Int) := by omega
      go_wp2
      refine wp_region_late (fun x => x.cell? ⟨N, 0, none⟩ = some (.slice A k c)) [5, 6, 7, 10] [0, 1, 2, 3, 4] [10] (by kernel_rfl) (by kernel_rfl) (by kernel_rfl) (by kernel_rfl) (hc 0) ?_
      repeat (with_reducible refine late_free (by decide) (by decide) (fun K hK => ?_); go_simp; first | (refine ex_steadyF ?_ (fun w' hw' => ?_) ?_; rotate_left; (skip; go_simp; first | done | rfl); (refine hK _ _ ?_; clear hK K)) | (refine hK _ _ ?_; clear hK K))
      repeat (with_reducible refine late_step (by decide) (by decide) (fun K hK => ?_); go_simp; refine hK _ _ ?_; clear hK K)
      with_reducible refine late_move (by decide) (fun K hK => ?_)
      go_simp
      refine up_enter ((CN.out _).mono ?_)
      rintro e w5 ⟨rfl, hm5, hk5⟩
      have hr5 := (hr.out.drew.add (Q := mpC wr.drew.heap.size []) hk5 (Mp.imp hm5 (fun b _ h => by omega)))
      obtain ⟨x, hx⟩ : ∃ x, wr.drew.heap.size = x := ⟨_, rfl⟩
      rw [hx] at hr5 ⊢
      refine ⟨_, rfl, (hr5.blk 1 rfl).cell 0, hK _ _ ?_⟩
      clear hK K
      repeat (with_reducible refine late_step (by decide) (by decide) (fun K hK => ?_); go_simp; refine hK _ _ ?_; clear hK K)
      with_reducible refine late_move (by decide) (fun K hK => ?_)
      go_simp
      have hr6 := hr5.alloc (.cells #[ptrV x] 46)
      refine up_value ⟨(hr6.blk 1 rfl).cell 0, ?_⟩
      refine hK _ _ ?_
      clear hK K
      obtain ⟨G6, _, hp6, hup6⟩ := hr6.at 2 rfl
      have hlit := Sl.lit w5 #[ptrV x] 46 1 1 _ rfl rfl
      refine late_move0 (by decide) rfl ?_
      refine up_app Try.underlying43 info_ptr rfl (by omega) hp6 hlit (fun u hu => by simp at hu; subst hu; rfl) (by omega) (by omega) _ _ rfl rfl rfl (fun v7 w7 ho7 hk7 => ?_)
      obtain ⟨A7, c7, rfl, _⟩ := ho7.form
      have hr7 : Run w (fun _ => False) w7 (mpC x [] :: blkC N 45 #[.slice A k c] :: ownC 46 1 (.slice A7 (k + 1) c7) (k + 1) (gs.map ptrV ++ [ptrV x]) :: gs.map (fun g => mpC g [])) :=
        hup6 w7 (ownC 46 1 (.slice A7 (k + 1) c7) (k + 1) (gs.map ptrV ++ [ptrV x])) (ho7.imp (fun b _ h => h.imp (fun h => h) (fun h => Nat.le_of_eq h.symm))) hk7
      refine ⟨fun _ => (hr7.blk 1 rfl).cell 0, ?_⟩
      have hf7 := (hr7.blk 1 rfl).frozen
      have hc7 := (hr7.blk 1 rfl).cell
      have Hr7 := Lib.hid hr7
      clear hr5 hr6 hp6 hup6 ho7 hk7 hr7 hm5 hk5
      repeat (with_reducible refine late_step (by decide) (by decide) (fun K hK => ?_); go_simp; refine hK _ _ ?_; clear hK K)
      with_reducible refine late_move (by decide) (fun K hK => ?_)
      go_simp
      refine up_skip (hK _ _ ?_)
      clear hK K
      refine late_nil ?_
      have hr8 : Run w (fun _ => False) (w7.setCell ⟨N, 0, none⟩ (.slice A7 (k + 1) c7)) (mpC x [] :: blkC N 45 #[.slice A7 (k + 1) c7] :: ownC 46 1 (.slice A7 (k + 1) c7) (k + 1) (gs.map ptrV ++ [ptrV x]) :: gs.map (fun g => mpC g [])) := Hr7.out.set 1 rfl 0 _
      obtain ⟨w8, hw8⟩ : ∃ y, w7.setCell ⟨N, 0, none⟩ (.slice A7 (k + 1) c7) = y := ⟨_, rfl⟩
      rw [hw8] at hr8 ⊢
      have hr9 : Run w (fun _ => False) w8 (blkC N 45 #[.slice A7 (k + 1) c7] :: ownC 46 1 (.slice A7 (k + 1) c7) (k + 1) ((gs ++ [x]).map ptrV) :: (gs ++ [x]).map (fun g => mpC g [])) := by
        rw [List.map_append, List.map_append]
        exact hr8.perm (List.perm_append_singleton _ _).symm
      have Hr9 := Lib.hid hr9
      clear hw8 hr8 hr9 hc7 hf7 hc hrb
      go_wp2
      go_roundw
      case measure => simp [intOf]; omega
      case rel => exact ⟨k + 1, c7, A7, gs ++ [x], by first | rfl | go_num, by omega, by rw [Hid, List.length_append, hgl.out]; rfl, Hr9⟩
    · obtain rfl : k = m := by omega
      have hsh := Shd.nil (shd k) k (fun s => shd_lt (by omega) s)
      have hst := hr.out.star
      have hkp := hr.out.kept
      rw [← zip_nil, hgl.out] at hst
      have hfin : Rg k wr (fun b => N ≤ b) N [] := ⟨List.replicate k [], A, c, gs, hsh, by simp, hgl.out, by simp, ⟨by omega, by omega⟩, hst.imp (fun b _ h => h.elim (fun h => h.elim) (fun h => by have := HN.out; omega))⟩
      have Hfin := Lib.hid hfin
      have Hkp := Lib.hid hkp
      clear hsh hst hkp hfin
      go_wp2
      go_ret
      exact ⟨rfl, Hfin.out, Hkp.out⟩
end Go.Proofs.Ytmpbmfahnbbbdaa
