/-
  reg: the reference's Add walked.
-/
import Derived.Test.YtmpbmfahnbbbdaaRgRa
import Derived.Test.YtmpbmfahnbbbdaaLate
import Derived.Test.YtmpbmfahnbbbdaaChain
import Derived.LoopTactic
import Derived.Deep.QuietTactic
import Derived.BigQuiet
set_option linter.unusedSimpArgs false
set_option linter.unusedVariables false
namespace Go.Proofs.Ytmpbmfahnbbbdaa
open Go.RowKit
set_option maxRecDepth 100000

theorem fd_has {es : Es} (hnn : ∀ e ∈ es, 0 ≤ e.2) (k : ByteArray) : 0 ≤ fdE es k ↔ has es (kb k) = true := by
  rw [has_val]
  unfold fdE
  cases hv : valAt es (kb k) with
  | none => simp [fdV]
  | some v =>
    unfold valAt at hv
    cases hl : es[low es (kb k)]? with
    | none => rw [hl] at hv; cases hv
    | some e =>
      rw [hl] at hv
      simp only at hv
      split at hv
      · injection hv with hv
        have := hnn e (List.mem_of_getElem? hl)
        simp [fdV, ← hv, this]
      · cases hv
set_option maxHeartbeats 3200000 in
theorem rr_add (w : World) (F : Nat → Prop) (m g : Nat) (es : Es) (k : ByteArray) (id : Int) (h : Rr m w F g es) (hz : es.length ≤ 90000) (hnn : ∀ e ∈ es, 0 ≤ e.2) :
    Calls Try.prog 19 #[ptrV g, .string k, .int .i64 id] w fun e w' => e = .returned (.bool (addE es k id).1) ∧ Rr m w' (fun b => F b ∨ w.heap.size ≤ b) g (addE es k id).2 ∧ Kept F w w' := by
  have C1 := rr_at w F m g es k h (by omega)
  have hfh := fd_has hnn k
  cases hh : has es (kb k) with
  | true =>
    rw [hh] at C1 hfh
    have he : addE es k id = (false, es) := by unfold addE; rw [if_pos (.inr (hfh.2 rfl))]
    rw [he]
    have C1 := Lib.hid C1
    have H := Lib.hid h
    clear h hh hfh he
    go_enter Try.func19, Try.ntmps19
    go_wp2_with fail
    refine (C1.out).mono ?_
    rintro e w1 ⟨rfl, hk1⟩
    have H1 := Lib.hid ((rrC m g es).imp ((rrC m g es).kept H.out hk1 (fun _ _ _ h => h)) (fun b _ h => .inl h : ∀ b, b < w1.heap.size → F b → F b ∨ w.heap.size ≤ b))
    have Hk := Lib.hid hk1
    clear hk1
    go_wp2
    go_ret
    exact ⟨rfl, H1.out, Hk.out.mono (fun _ _ h => h.elim)⟩
  | false =>
    rw [hh] at C1 hfh
    by_cases hid : id < 0
    · have he : addE es k id = (false, es) := by unfold addE; rw [if_pos (.inl hid)]
      rw [he]
      have C1 := Lib.hid C1
      have H := Lib.hid h
      have hid' : (id < 0) = True := by simp; omega
      clear h hh hfh he hid
      go_enter Try.func19, Try.ntmps19
      go_wp2_with fail
      refine (C1.out).mono ?_
      rintro e w1 ⟨rfl, hk1⟩
      have H1 := Lib.hid ((rrC m g es).imp ((rrC m g es).kept H.out hk1 (fun _ _ _ h => h)) (fun b _ h => .inl h : ∀ b, b < w1.heap.size → F b → F b ∨ w.heap.size ≤ b))
      have Hk := Lib.hid hk1
      clear hk1
      go_wp2
      go_ret
      exact ⟨rfl, H1.out, Hk.out.mono (fun _ _ h => h.elim)⟩
    · have he : addE es k id = (true, insE es (low es (kb k)) (k, id)) := by
        unfold addE putE
        rw [if_neg (by
          intro hc
          rcases hc with hc | hc
          · exact hid hc
          · have := hfh.1 hc
            cases this), if_neg (by rw [hh]; simp)]
      rw [he]
      have hle := low_le es (kb k)
      have hid' : (id < 0) = False := by simp; omega
      obtain ⟨A1, c1, A2, c2, h⟩ := h
      have hr := Run.start h
      obtain ⟨i, hi⟩ : ∃ i, low es (kb k) = i := ⟨_, rfl⟩
      obtain ⟨n, hn⟩ : ∃ n, es.length = n := ⟨_, rfl⟩
      rw [hi] at C1 hle ⊢
      have hrr : Run w F w (rrL g m A1 c1 A2 c2 n es) := by rw [← hn]; exact hr
      rw [hn] at hle hz
      have C1 := Lib.hid C1
      have Hr := Lib.hid hrr
      have Hn := Lib.hid hn
      clear h hr hrr hn hi he hh hfh hid hnn
      go_enter Try.func19, Try.ntmps19
      go_wp2_with fail
      refine (C1.out).mono ?_
      rintro e w1 ⟨rfl, hk1⟩
      have hr1 := ((Hr.out.pure hk1).addNil 3 1).addNil 9 1
      have hr1 : Run w F w1 [ownC 9 1 (.slice none 0 0) 0 [], ownC 3 1 (.slice none 0 0) 0 [], blkC g 58 #[.int .i64 m, .slice A1 n c1, .slice A2 n c2], ownC 9 1 (.slice A1 n c1) n (es.map keyV), ownC 3 1 (.slice A2 n c2) n (es.map idV)] := hr1
      have hb := hr1.blk 2 rfl
      have hc := hb.cell
      have hcap : n ≤ c1 ∧ n ≤ c2 ∧ c1 ≤ 9223372036854775807 ∧ c2 ≤ 9223372036854775807 := by
        obtain ⟨_, _, e1, e2, e3, _⟩ := (hr1.own 3 rfl).form
        obtain ⟨_, _, e4, e5, e6, _⟩ := (hr1.own 4 rfl).form
        injection e1 with _ _ e1
        injection e4 with _ _ e4
        unfold maxLen at e3 e6
        omega
      have hqc : (i : Int) ≤ (c1 : Int) ∧ (i : Int) ≤ (c2 : Int) ∧ (n : Int) ≤ (c1 : Int) ∧ (n : Int) ≤ (c2 : Int) := by omega
      have Hr1 := Lib.hid hr1
      have Hb := Lib.hid hb
      clear hr1 hb
      have hii : (i : Int) ≤ (n : Int) := by omega
      go_wp2
      refine wp_region_seqS (fun x => Blk x g 58 #[.int .i64 m, .slice A1 n c1, .slice A2 n c2]) [7, 15] [8, 9, 10, 11, 12, 13, 14] (by kernel_rfl) (by kernel_rfl) (by kernel_rfl) Hb.out ?_
      repeat (with_reducible refine seq_step (by decide) (by decide) (fun K hK => ?_); go_simp; refine hK _ _ ?_; clear hK K)
      obtain ⟨G7, _, hp7, hup7⟩ := Hr1.out.drew.at 0 rfl
      have hsl7 := (Hr1.out.drew.own 3 rfl).sl.head1 i hle
      rw [← List.map_take] at hsl7
      refine seq_move0 (by decide) rfl ?_
      refine up_app Try.underlying33 info_s1 rfl (by omega) hp7 hsl7 (one_key _) (by omega) (by omega) _ _ rfl rfl rfl (fun v7 w7 ho7 hk7 => ?_)
      rw [Nat.zero_add, List.nil_append] at ho7
      obtain ⟨A7, c7, rfl, _⟩ := ho7.form
      have hr7 : Run w F w7 [ownC 9 1 (.slice A7 i c7) i ((es.take i).map keyV), ownC 3 1 (.slice none 0 0) 0 [], blkC g 58 #[.int .i64 m, .slice A1 n c1, .slice A2 n c2], ownC 9 1 (.slice A1 n c1) n (es.map keyV), ownC 3 1 (.slice A2 n c2) n (es.map idV)] :=
        hup7 w7 (ownC 9 1 (.slice A7 i c7) i ((es.take i).map keyV)) (ho7.imp (fun b _ h => h.imp (fun h => h) (fun h => Nat.le_of_eq h.symm))) hk7
      refine ⟨hr7.blk 2 rfl, ?_⟩
      have Hr7 := Lib.hid hr7
      clear hsl7 hp7 hup7 ho7 hk7 hr7
      repeat (with_reducible refine seq_free (by decide) (by decide) (fun K hK => ?_); go_simp; first | (refine ex_steadyF ?_ (fun w' hw' => ?_) ?_; rotate_left; ((have hc' := Blk.cell hw'); go_simp; first | done | rfl); (refine hK _ _ ?_; clear hK K)) | (refine hK _ _ ?_; clear hK K))
      obtain ⟨G8, _, hp8, hup8⟩ := Hr7.out.at 1 rfl
      have hsl8 := (Hr7.out.own 4 rfl).sl.head1 i hle
      rw [← List.map_take] at hsl8
      refine seq_move0 (by decide) rfl ?_
      refine up_app Try.underlying56 info_id rfl (by omega) hp8 hsl8 (one_id _) (by omega) (by omega) _ _ rfl rfl rfl (fun v8 w8 ho8 hk8 => ?_)
      rw [Nat.zero_add, List.nil_append] at ho8
      obtain ⟨A8, c8, rfl, _⟩ := ho8.form
      have hr8 : Run w F w8 [ownC 9 1 (.slice A7 i c7) i ((es.take i).map keyV), ownC 3 1 (.slice A8 i c8) i ((es.take i).map idV), blkC g 58 #[.int .i64 m, .slice A1 n c1, .slice A2 n c2], ownC 9 1 (.slice A1 n c1) n (es.map keyV), ownC 3 1 (.slice A2 n c2) n (es.map idV)] :=
        hup8 w8 (ownC 3 1 (.slice A8 i c8) i ((es.take i).map idV)) (ho8.imp (fun b _ h => h.imp (fun h => h) (fun h => Nat.le_of_eq h.symm))) hk8
      refine ⟨hr8.blk 2 rfl, ?_⟩
      have Hr8 := Lib.hid hr8
      clear hsl8 hp8 hup8 ho8 hk8 hr8 hc Hr1 Hr7 Hb
      repeat (with_reducible refine seq_step (by decide) (by decide) (fun K hK => ?_); go_simp; refine hK _ _ ?_; clear hK K)
      with_reducible refine seq_nil ?_
      -- the new one
      go_wp2_with (first | (at_builtin; refine held ?_))
      refine unheld ?_
      refine (Hr8.out.alloc _).app 0 rfl Try.underlying33 info_s1 rfl (by omega) (Sl.lit w8 #[.string k] 9 1 1 _ rfl rfl) (fun u hu => by simp at hu; subst hu; rfl) (by omega) (by omega) rfl _ _ rfl rfl rfl ?_
      rintro v9 w9 ⟨A9, c9, rfl, _, _⟩ hr9
      have hr9 : Run w F w9 [ownC 9 1 (.slice A9 (i + 1) c9) (i + 1) ((es.take i).map keyV ++ [.string k]), ownC 3 1 (.slice A8 i c8) i ((es.take i).map idV), blkC g 58 #[.int .i64 m, .slice A1 n c1, .slice A2 n c2], ownC 9 1 (.slice A1 n c1) n (es.map keyV), ownC 3 1 (.slice A2 n c2) n (es.map idV)] := hr9
      have Hr9 := Lib.hid hr9
      clear hr9 Hr8
      go_wp2_with (first | (at_builtin; refine held ?_))
      refine unheld ?_
      refine (Hr9.out.alloc _).app 1 rfl Try.underlying56 info_id rfl (by omega) (Sl.lit w9 #[.int .i64 id] 3 1 1 _ rfl rfl) (fun u hu => by simp at hu; subst hu; rfl) (by omega) (by omega) rfl _ _ rfl rfl rfl ?_
      rintro v10 w10 ⟨A10, c10, rfl, _, _⟩ hr10
      have hr10 : Run w F w10 [ownC 9 1 (.slice A9 (i + 1) c9) (i + 1) ((es.take i).map keyV ++ [.string k]), ownC 3 1 (.slice A10 (i + 1) c10) (i + 1) ((es.take i).map idV ++ [.int .i64 id]), blkC g 58 #[.int .i64 m, .slice A1 n c1, .slice A2 n c2], ownC 9 1 (.slice A1 n c1) n (es.map keyV), ownC 3 1 (.slice A2 n c2) n (es.map idV)] := hr10
      have hc10 := (hr10.blk 2 rfl).cell
      have hf10 := (hr10.blk 2 rfl).frozen
      have hY1 := (hr10.own 3 rfl).sl.tailA hle (by omega : n ≤ c1)
      rw [← List.map_drop] at hY1
      obtain ⟨Z1, hZ1⟩ : ∃ Z, (if c1 = i then A1 else A1.map (fun a => a.add i)) = Z := ⟨_, rfl⟩
      obtain ⟨Z2, hZ2⟩ : ∃ Z, (if c2 = i then A2 else A2.map (fun a => a.add i)) = Z := ⟨_, rfl⟩
      rw [hZ1] at hY1
      have HY1 := Lib.hid hY1
      have Hr10 := Lib.hid hr10
      clear hr10 Hr9 hY1
      go_wp2
      refine wp_region_late (fun x => x.cell? ⟨g, 2, none⟩ = some (.slice A2 n c2)) [9, 17, 20, 23] [0, 1, 10, 11, 12, 13, 14, 15, 16] [23] (by kernel_rfl) (by kernel_rfl) (by kernel_rfl) (by kernel_rfl) (hc10 2) ?_
      repeat (with_reducible refine late_free (by decide) (by decide) (fun K hK => ?_); go_simp; first | (refine ex_steadyF ?_ (fun w' hw' => ?_) ?_; rotate_left; (skip; go_simp; first | done | rfl); (refine hK _ _ ?_; clear hK K)) | (refine hK _ _ ?_; clear hK K))
      repeat (with_reducible refine late_step (by decide) (by decide) (fun K hK => ?_); go_simp; refine hK _ _ ?_; clear hK K)
      obtain ⟨G11, _, hp11, hup11⟩ := Hr10.out.drew.at 0 rfl
      refine late_move0 (by decide) rfl ?_
      refine up_app Try.underlying33 info_s1 rfl (by omega) hp11 HY1.out (one_key _) (by omega) (by omega) _ _ rfl rfl rfl (fun v11 w11 ho11 hk11 => ?_)
      have hle2 : i + 1 + (n - i) = n + 1 := by omega
      have hmk : (es.take i).map keyV ++ [.string k] ++ (es.drop i).map keyV = (insE es i (k, id)).map keyV := by simp [insE, keyV]
      have hmi : (es.take i).map idV ++ [.int .i64 id] ++ (es.drop i).map idV = (insE es i (k, id)).map idV := by simp [insE, idV]
      rw [hle2, hmk] at ho11
      obtain ⟨A11, c11, rfl, _⟩ := ho11.form
      obtain ⟨es', hes'⟩ : ∃ x, insE es i (k, id) = x := ⟨_, rfl⟩
      rw [hes'] at ho11 hmi
      have hr11 : Run w F w11 [ownC 9 1 (.slice A11 (n + 1) c11) (n + 1) (es'.map keyV), ownC 3 1 (.slice A10 (i + 1) c10) (i + 1) ((es.take i).map idV ++ [.int .i64 id]), blkC g 58 #[.int .i64 m, .slice A1 n c1, .slice A2 n c2], ownC 9 1 (.slice A1 n c1) n (es.map keyV), ownC 3 1 (.slice A2 n c2) n (es.map idV)] :=
        hup11 w11 (ownC 9 1 (.slice A11 (n + 1) c11) (n + 1) (es'.map keyV)) (ho11.imp (fun b _ h => h.imp (fun h => h) (fun h => Nat.le_of_eq h.symm))) hk11
      refine ⟨fun _ => (hr11.blk 2 rfl).cell 2, ?_⟩
      have Hr11 := Lib.hid hr11
      have Hmi := Lib.hid hmi
      have Hes' := Lib.hid hes'
      clear hp11 hup11 ho11 hk11 hr11 hmk hmi hes' HY1
      repeat (with_reducible refine late_free (by decide) (by decide) (fun K hK => ?_); go_simp; first | (refine ex_steadyF ?_ (fun w' hw' => ?_) ?_; rotate_left; (skip; go_simp; first | done | rfl); (refine hK _ _ ?_; clear hK K)) | (refine hK _ _ ?_; clear hK K))
      obtain ⟨G12, _, hp12, hup12⟩ := Hr11.out.at 1 rfl
      have hY2 := (Hr11.out.own 4 rfl).sl.tailA hle (by omega : n ≤ c2)
      rw [← List.map_drop, hZ2] at hY2
      refine late_move0 (by decide) rfl ?_
      refine up_app Try.underlying56 info_id rfl (by omega) hp12 hY2 (one_id _) (by omega) (by omega) _ _ rfl rfl rfl (fun v12 w12 ho12 hk12 => ?_)
      rw [hle2, Hmi.out] at ho12
      obtain ⟨A12, c12, rfl, _⟩ := ho12.form
      have hr12 : Run w F w12 [ownC 9 1 (.slice A11 (n + 1) c11) (n + 1) (es'.map keyV), ownC 3 1 (.slice A12 (n + 1) c12) (n + 1) (es'.map idV), blkC g 58 #[.int .i64 m, .slice A1 n c1, .slice A2 n c2], ownC 9 1 (.slice A1 n c1) n (es.map keyV), ownC 3 1 (.slice A2 n c2) n (es.map idV)] :=
        hup12 w12 (ownC 3 1 (.slice A12 (n + 1) c12) (n + 1) (es'.map idV)) (ho12.imp (fun b _ h => h.imp (fun h => h) (fun h => Nat.le_of_eq h.symm))) hk12
      have hc12 := (hr12.blk 2 rfl).cell
      have hf12 := (hr12.blk 2 rfl).frozen
      refine ⟨fun _ => hc12 2, ?_⟩
      have Hr12 := Lib.hid hr12
      clear hp12 hup12 ho12 hk12 hr12 hY2 Hr10 Hr11 hc10 hf10
      repeat (with_reducible refine late_step (by decide) (by decide) (fun K hK => ?_); go_simp; refine hK _ _ ?_; clear hK K)
      with_reducible refine late_move (by decide) (fun K hK => ?_)
      go_simp
      have hr13 : Run w F (w12.setCell ⟨g, 1, none⟩ (.slice A11 (n + 1) c11)) [ownC 9 1 (.slice A11 (n + 1) c11) (n + 1) (es'.map keyV), ownC 3 1 (.slice A12 (n + 1) c12) (n + 1) (es'.map idV), blkC g 58 #[.int .i64 m, .slice A11 (n + 1) c11, .slice A2 n c2], ownC 9 1 (.slice A1 n c1) n (es.map keyV), ownC 3 1 (.slice A2 n c2) n (es.map idV)] := Hr12.out.set 2 rfl 1 _
      obtain ⟨w13, hw13⟩ : ∃ x, w12.setCell ⟨g, 1, none⟩ (.slice A11 (n + 1) c11) = x := ⟨_, rfl⟩
      rw [hw13] at hr13 ⊢
      have hc13 := (hr13.blk 2 rfl).cell
      have hf13 := (hr13.blk 2 rfl).frozen
      refine up_skip ⟨hc13 2, hK _ _ ?_⟩
      clear hK K hw13 hc12 hf12
      repeat (with_reducible refine late_step (by decide) (by decide) (fun K hK => ?_); go_simp; refine hK _ _ ?_; clear hK K)
      with_reducible refine late_move (by decide) (fun K hK => ?_)
      go_simp
      refine up_skip (hK _ _ ?_)
      clear hK K
      refine late_nil ?_
      have hr14 : Run w F (w13.setCell ⟨g, 2, none⟩ (.slice A12 (n + 1) c12)) [ownC 9 1 (.slice A11 (n + 1) c11) (n + 1) (es'.map keyV), ownC 3 1 (.slice A12 (n + 1) c12) (n + 1) (es'.map idV), blkC g 58 #[.int .i64 m, .slice A11 (n + 1) c11, .slice A12 (n + 1) c12], ownC 9 1 (.slice A1 n c1) n (es.map keyV), ownC 3 1 (.slice A2 n c2) n (es.map idV)] := hr13.set 2 rfl 2 _
      obtain ⟨w14, hw14⟩ : ∃ x, w13.setCell ⟨g, 2, none⟩ (.slice A12 (n + 1) c12) = x := ⟨_, rfl⟩
      rw [hw14] at hr14 ⊢
      have hlen : es'.length = n + 1 := by rw [← Hes'.out, insE_length, Hn.out]
      have hr15 : Run w F w14 [ownC 9 1 (.slice A11 (n + 1) c11) (n + 1) (es'.map keyV), ownC 3 1 (.slice A12 (n + 1) c12) (n + 1) (es'.map idV), blkC g 58 #[.int .i64 m, .slice A11 (n + 1) c11, .slice A12 (n + 1) c12]] := (hr14.drop 4).drop 3
      have hr16 : Run w F w14 (rrL g m A11 c11 A12 c12 (n + 1) es') := hr15.perm ((List.Perm.cons _ (List.Perm.swap _ _ _)).trans (List.Perm.swap _ _ _))
      have hfin : Rr m w14 (fun b => F b ∨ w.heap.size ≤ b) g es' := ⟨A11, c11, A12, c12, by rw [hlen]; exact hr16.star⟩
      have Hfin := Lib.hid hfin
      have Hkf := Lib.hid hr16.kept
      clear hw14 hc13 hf13 hr13 hr14 hr15 hr16 hfin
      go_wp2
      go_ret
      exact ⟨rfl, by rw [Hes'.out]; exact Hfin.out, Hkf.out⟩
end Go.Proofs.Ytmpbmfahnbbbdaa
