/-
  reg: the reference's Remove walked.
-/
import Derived.Test.YtmpbmfahnbbbdaaRgRb
import Derived.LoopTactic
import Derived.Deep.QuietTactic
import Derived.BigQuiet
set_option linter.unusedSimpArgs false
set_option linter.unusedVariables false
namespace Go.Proofs.Ytmpbmfahnbbbdaa
open Go.RowKit
set_option maxRecDepth 100000

theorem fd_at {es : Es} {k : ByteArray} {e : En Int} (hh : has es (kb k) = true) (he : es[low es (kb k)]? = some e) : fdE es k = e.2 := by
  have hk : kb e.1 = kb k := by
    unfold has at hh
    rw [he] at hh
    simpa using hh
  unfold fdE valAt
  rw [he]
  simp only [hk, if_true]
  rfl
theorem erase_map {α β : Type} (f : α → β) (l : List α) (i : Nat) : (l.take i).map f ++ (l.drop (i + 1)).map f = (l.eraseIdx i).map f := by
  rw [← List.map_append, List.eraseIdx_eq_take_drop_succ]
set_option maxHeartbeats 3200000 in
theorem rr_rem (w : World) (F : Nat → Prop) (m g : Nat) (es : Es) (k : ByteArray) (id : Int) (h : Rr m w F g es) (hz : es.length ≤ 90000) (hnn : ∀ e ∈ es, 0 ≤ e.2) :
    Calls Try.prog 20 #[ptrV g, .string k, .int .i64 id] w fun e w' => e = .returned (.bool (remE es k id).1) ∧ Rr m w' (fun b => F b ∨ w.heap.size ≤ b) g (remE es k id).2 ∧ Kept F w w' := by
  have C1 := rr_at w F m g es k h (by omega)
  have hfh := fd_has hnn k
  cases hh : has es (kb k) with
  | false =>
    rw [hh] at C1 hfh
    have he : remE es k id = (false, es) := by
      unfold remE
      rw [if_pos]
      by_cases hid : id < 0
      · exact .inl hid
      · refine .inr (fun hc => ?_)
        have := hfh.1 (by omega)
        cases this
    rw [he]
    have C1 := Lib.hid C1
    have H := Lib.hid h
    clear h hh hfh he
    go_enter Try.func20, Try.ntmps20
    go_wp2_with fail
    refine (C1.out).mono ?_
    rintro e w1 ⟨rfl, hk1⟩
    have H1 := Lib.hid ((rrC m g es).imp ((rrC m g es).kept H.out hk1 (fun _ _ _ h => h)) (fun b _ h => .inl h : ∀ b, b < w1.heap.size → F b → F b ∨ w.heap.size ≤ b))
    have Hk := Lib.hid hk1
    clear hk1
    go_wp2
    go_ret
    exact ⟨rfl, H1.out, Hk.out.mono (fun _ _ h => h.elim)⟩
  | true =>
    rw [hh] at C1 hfh
    have hll := low_lt hh
    obtain ⟨e, he⟩ : ∃ e, es[low es (kb k)]? = some e := ⟨_, List.getElem?_eq_getElem hll⟩
    have hfd := fd_at hh he
    have hde : delE es (kb k) = es.eraseIdx (low es (kb k)) := by unfold delE; rw [if_pos hh]
    have hpos : 0 ≤ e.2 := hnn e (List.mem_of_getElem? he)
    obtain ⟨A1, c1, A2, c2, h⟩ := h
    have hr := Run.start h
    obtain ⟨i, hi⟩ : ∃ i, low es (kb k) = i := ⟨_, rfl⟩
    obtain ⟨n, hn⟩ : ∃ n, es.length = n := ⟨_, rfl⟩
    rw [hi] at C1 hll he hde
    have hrr : Run w F w (rrL g m A1 c1 A2 c2 n es) := by rw [← hn]; exact hr
    have hst0 : Rr m w (fun b => F b ∨ w.heap.size ≤ b) g es := ⟨A1, c1, A2, c2, hr.star⟩
    rw [hn] at hll hz
    have C1 := Lib.hid C1
    have Hr := Lib.hid hrr
    have Hn := Lib.hid hn
    have Hst0 := Lib.hid hst0
    clear h hr hrr hn hi hh hfh hnn hst0
    have hcx : ∀ wx, Pure w wx → Blk wx g 58 #[.int .i64 m, .slice A1 n c1, .slice A2 n c2] ∧ Sl wx (fun b => F b ∨ w.heap.size ≤ b) 1 A2 n (es.map idV) := fun wx hp => ⟨(Hr.out.pure hp).blk 0 rfl, ((Hr.out.pure hp).own 2 rfl).sl⟩
    have Hcx := Lib.hid hcx
    clear hcx
    obtain ⟨b2, o2, hA2, -, -, -⟩ := (Hcx.out w (Kept.refl _ _)).2.2 (by omega)
    have hil : (i : Int) < (n : Int) := by omega
    have Hcv : Hid (∀ wx, Pure w wx → wx.cell? ⟨b2, o2 + i, none⟩ = some (.int .i64 e.2)) := Lib.hid (fun wx hp => by
      have h1 := (Hcx.out wx hp).2
      rw [hA2] at h1
      exact sl_one1 h1 (i := i) (x := .int .i64 e.2) (by rw [List.getElem?_map, he]; rfl))
    by_cases hid : e.2 = id
    · have hre : remE es k id = (true, es.eraseIdx i) := by
        unfold remE
        rw [hfd, hde, if_neg (by omega)]
      rw [hre]
      have He := Lib.hid he
      have hidb : (e.2 == id) = true := by simpa using hid
      obtain ⟨e1, e2⟩ := e
      simp only at hid hidb Hcv hpos
      subst hid
      have HA2 := Lib.hid hA2
      clear hfd hde he hre hA2
      go_enter Try.func20, Try.ntmps20
      go_wp2_with fail
      refine (C1.out).mono ?_
      rintro e w1 ⟨rfl, hk1⟩
      have hr1 : Run w F w1 [blkC g 58 #[.int .i64 m, .slice A1 n c1, .slice A2 n c2], ownC 9 1 (.slice A1 n c1) n (es.map keyV), ownC 3 1 (.slice A2 n c2) n (es.map idV)] := Hr.out.pure hk1
      have hb := hr1.blk 0 rfl
      have hc := hb.cell
      have hcv := Hcv.out w1 hk1
      have hcap : n ≤ c1 ∧ n ≤ c2 ∧ c1 ≤ 9223372036854775807 ∧ c2 ≤ 9223372036854775807 := by
        obtain ⟨_, _, e1, e2, e3, _⟩ := (hr1.own 1 rfl).form
        obtain ⟨_, _, e4, e5, e6, _⟩ := (hr1.own 2 rfl).form
        injection e1 with _ _ e1
        injection e4 with _ _ e4
        unfold maxLen at e3 e6
        omega
      have hqc : (i : Int) ≤ (c1 : Int) ∧ (i : Int) ≤ (c2 : Int) ∧ (n : Int) ≤ (c1 : Int) ∧ (n : Int) ≤ (c2 : Int) := by omega
      have Hr1 := Lib.hid hr1
      clear hr1 hb hk1
      have hii : (i : Int) ≤ (n : Int) := by omega
      have hi1 : (0 : Int) ≤ (i : Int) + 1 ∧ (i : Int) + 1 ≤ (n : Int) ∧ (i : Int) + 1 ≤ (c1 : Int) ∧ (i : Int) + 1 ≤ (c2 : Int) := by omega
      have hwi : IntKind.i64.wrap ((i : Int) + 1) = (i : Int) + 1 := by rw [IntKind.wrap_i64]; omega
      have hti : ((i : Int) + 1).toNat = i + 1 := by omega
      have hA2 := HA2.out
      subst hA2
      go_wp2
      clear hcv
      have hcBk := (Hr1.out.blk 0 rfl).cell
      obtain ⟨Zk, hZk⟩ : ∃ Z, (if c1 = i + 1 then A1 else A1.map (fun a => (⟨a.block, a.off + (i + 1), none⟩ : Addr))) = Z := ⟨_, rfl⟩
      refine wp_region_late (fun x => x.cell? ⟨g, 1, none⟩ = some (.slice A1 n c1)) [1, 8, 16, 19] [0, 2, 3, 4, 5, 6, 7, 9, 10, 11, 12, 13, 14, 15] [19] (by kernel_rfl) (by kernel_rfl) (by kernel_rfl) (by kernel_rfl) (hcBk 1) ?_
      repeat (with_reducible refine late_free (by decide) (by decide) (fun K hK => ?_); go_simp; first | (refine ex_steadyF ?_ (fun w' hw' => ?_) ?_; rotate_left; (skip; go_simp; first | done | rfl); (refine hK _ _ ?_; clear hK K)) | (refine hK _ _ ?_; clear hK K))
      with_reducible refine late_move (by decide) (fun K hK => ?_)
      go_simp
      have hrNk := (Hr1.out.addOwn (k := 1) (e := 9) (xs := []) (n := 0) (v := .slice (some ⟨w1.heap.size, 0, none⟩) 0 0) ((Kept.refl _ w1).alloc (.cells #[] 9)) ((own_empty (Blk.new w1 9 #[])).imp (fun b _ h => Nat.le_of_eq (Eq.symm h)))).drew
      obtain ⟨wNk, hwNk⟩ : ∃ x, (w1.alloc (.cells #[] 9)).drew = x := ⟨_, rfl⟩
      rw [hwNk] at hrNk ⊢
      obtain ⟨gNk, hgNk⟩ : ∃ x, w1.heap.size = x := ⟨_, rfl⟩
      rw [hgNk] at hrNk ⊢
      have hrNk : Run w F wNk [ownC 9 1 (.slice (some ⟨gNk, 0, none⟩) 0 0) 0 [], blkC g 58 #[.int .i64 m, .slice A1 n c1, .slice (some ⟨b2, o2, none⟩) n c2], ownC 9 1 (.slice A1 n c1) n (es.map keyV), ownC 3 1 (.slice (some ⟨b2, o2, none⟩) n c2) n (es.map idV)] := hrNk
      refine up_value ⟨(hrNk.blk (0 + 1) rfl).cell 1, hK _ _ ?_⟩
      clear hK K hwNk hgNk
      have HrNk := Lib.hid hrNk
      clear hrNk
      repeat (with_reducible refine late_free (by decide) (by decide) (fun K hK => ?_); go_simp; first | (refine ex_steadyF ?_ (fun w' hw' => ?_) ?_; rotate_left; (skip; go_simp; first | done | rfl); (refine hK _ _ ?_; clear hK K)) | (refine hK _ _ ?_; clear hK K))
      obtain ⟨GAk, _, hpAk, hupAk⟩ := HrNk.out.at 0 rfl
      have hslAk := (HrNk.out.own (1 + 1) rfl).sl.head1 i (by omega)
      rw [← List.map_take] at hslAk
      refine late_move0 (by decide) rfl ?_
      refine up_app Try.underlying33 info_s1 rfl (by omega) hpAk hslAk (one_key _) (by omega) (by omega) _ _ rfl rfl rfl (fun vAk wAk hoAk hkAk => ?_)
      rw [Nat.zero_add, List.nil_append] at hoAk
      obtain ⟨AAk, cAk, rfl, _⟩ := hoAk.form
      have hrAk : Run w F wAk [ownC 9 1 (.slice AAk i cAk) i ((es.take i).map keyV), blkC g 58 #[.int .i64 m, .slice A1 n c1, .slice (some ⟨b2, o2, none⟩) n c2], ownC 9 1 (.slice A1 n c1) n (es.map keyV), ownC 3 1 (.slice (some ⟨b2, o2, none⟩) n c2) n (es.map idV)] := hupAk wAk (ownC 9 1 (.slice AAk i cAk) i ((es.take i).map keyV)) (hoAk.imp (fun b _ h => h.imp (fun h => h) (fun h => Nat.le_of_eq h.symm))) hkAk
      refine ⟨fun _ => (hrAk.blk (0 + 1) rfl).cell 1, ?_⟩
      have HrAk := Lib.hid hrAk
      clear hslAk hpAk hupAk hoAk hkAk hrAk
      repeat (with_reducible refine late_free (by decide) (by decide) (fun K hK => ?_); go_simp; first | (refine ex_steadyF ?_ (fun w' hw' => ?_) ?_; rotate_left; (skip; go_simp; first | done | rfl); (refine hK _ _ ?_; clear hK K)) | (refine hK _ _ ?_; clear hK K))
      obtain ⟨GCk, _, hpCk, hupCk⟩ := HrAk.out.at 0 rfl
      have hslCk := (HrAk.out.own (1 + 1) rfl).sl.tailB (by omega : i + 1 ≤ n) (by omega : n ≤ c1)
      rw [← List.map_drop] at hslCk
      replace hslCk : Sl wAk (fun b => F b ∨ w.heap.size ≤ b) 1 Zk (n - (i + 1)) ((es.drop (i + 1)).map keyV) := by rw [← hZk]; exact hslCk
      refine late_move0 (by decide) rfl ?_
      refine up_app Try.underlying33 info_s1 rfl (by omega) hpCk hslCk (one_key _) (by omega) (by omega) _ _ rfl rfl rfl (fun vCk wCk hoCk hkCk => ?_)
      rw [show i + (n - (i + 1)) = n - 1 from by omega, erase_map] at hoCk
      obtain ⟨ACk, cCk, rfl, _⟩ := hoCk.form
      have hrCk : Run w F wCk [ownC 9 1 (.slice ACk (n - 1) cCk) (n - 1) ((es.eraseIdx i).map keyV), blkC g 58 #[.int .i64 m, .slice A1 n c1, .slice (some ⟨b2, o2, none⟩) n c2], ownC 9 1 (.slice A1 n c1) n (es.map keyV), ownC 3 1 (.slice (some ⟨b2, o2, none⟩) n c2) n (es.map idV)] := hupCk wCk (ownC 9 1 (.slice ACk (n - 1) cCk) (n - 1) ((es.eraseIdx i).map keyV)) (hoCk.imp (fun b _ h => h.imp (fun h => h) (fun h => Nat.le_of_eq h.symm))) hkCk
      have hcCk := (hrCk.blk (0 + 1) rfl).cell
      have hfCk := (hrCk.blk (0 + 1) rfl).frozen
      refine ⟨fun _ => hcCk 1, ?_⟩
      have HrCk := Lib.hid hrCk
      clear hslCk hpCk hupCk hoCk hkCk hrCk
      repeat (with_reducible refine late_step (by decide) (by decide) (fun K hK => ?_); go_simp; refine hK _ _ ?_; clear hK K)
      with_reducible refine late_move (by decide) (fun K hK => ?_)
      go_simp
      refine up_skip (hK _ _ ?_)
      clear hK K
      refine late_nil ?_
      have hrDk : Run w F (wCk.setCell ⟨g, 1, none⟩ (.slice ACk (n - 1) cCk)) [ownC 9 1 (.slice ACk (n - 1) cCk) (n - 1) ((es.eraseIdx i).map keyV), blkC g 58 #[.int .i64 m, .slice ACk (n - 1) cCk, .slice (some ⟨b2, o2, none⟩) n c2], ownC 9 1 (.slice A1 n c1) n (es.map keyV), ownC 3 1 (.slice (some ⟨b2, o2, none⟩) n c2) n (es.map idV)] := HrCk.out.set (0 + 1) rfl 1 _
      obtain ⟨wDk, hwDk⟩ : ∃ x, wCk.setCell ⟨g, 1, none⟩ (.slice ACk (n - 1) cCk) = x := ⟨_, rfl⟩
      rw [hwDk] at hrDk ⊢
      have hc := (hrDk.blk (0 + 1) rfl).cell
      have HrDk := Lib.hid hrDk
      clear hrDk hwDk hcCk hfCk hcBk Hr1 HrNk HrAk HrCk
      go_wp2
      have hcBi := (HrDk.out.blk 1 rfl).cell
      obtain ⟨Zi, hZi⟩ : ∃ Z, (if c2 = i + 1 then (some ⟨b2, o2, none⟩ : Option Addr) else some ⟨b2, o2 + (i + 1), none⟩) = Z := ⟨_, rfl⟩
      refine wp_region_late (fun x => x.cell? ⟨g, 2, none⟩ = some (.slice (some ⟨b2, o2, none⟩) n c2)) [1, 8, 16, 19] [0, 2, 3, 4, 5, 6, 7, 9, 10, 11, 12, 13, 14, 15] [19] (by kernel_rfl) (by kernel_rfl) (by kernel_rfl) (by kernel_rfl) (hcBi 2) ?_
      repeat (with_reducible refine late_free (by decide) (by decide) (fun K hK => ?_); go_simp; first | (refine ex_steadyF ?_ (fun w' hw' => ?_) ?_; rotate_left; (skip; go_simp; first | done | rfl); (refine hK _ _ ?_; clear hK K)) | (refine hK _ _ ?_; clear hK K))
      with_reducible refine late_move (by decide) (fun K hK => ?_)
      go_simp
      have hrNi := (HrDk.out.addOwn (k := 1) (e := 3) (xs := []) (n := 0) (v := .slice (some ⟨wDk.heap.size, 0, none⟩) 0 0) ((Kept.refl _ wDk).alloc (.cells #[] 3)) ((own_empty (Blk.new wDk 3 #[])).imp (fun b _ h => Nat.le_of_eq (Eq.symm h)))).drew
      obtain ⟨wNi, hwNi⟩ : ∃ x, (wDk.alloc (.cells #[] 3)).drew = x := ⟨_, rfl⟩
      rw [hwNi] at hrNi ⊢
      obtain ⟨gNi, hgNi⟩ : ∃ x, wDk.heap.size = x := ⟨_, rfl⟩
      rw [hgNi] at hrNi ⊢
      have hrNi : Run w F wNi [ownC 3 1 (.slice (some ⟨gNi, 0, none⟩) 0 0) 0 [], ownC 9 1 (.slice ACk (n - 1) cCk) (n - 1) ((es.eraseIdx i).map keyV), blkC g 58 #[.int .i64 m, .slice ACk (n - 1) cCk, .slice (some ⟨b2, o2, none⟩) n c2], ownC 9 1 (.slice A1 n c1) n (es.map keyV), ownC 3 1 (.slice (some ⟨b2, o2, none⟩) n c2) n (es.map idV)] := hrNi
      refine up_value ⟨(hrNi.blk (1 + 1) rfl).cell 2, hK _ _ ?_⟩
      clear hK K hwNi hgNi
      have HrNi := Lib.hid hrNi
      clear hrNi
      repeat (with_reducible refine late_free (by decide) (by decide) (fun K hK => ?_); go_simp; first | (refine ex_steadyF ?_ (fun w' hw' => ?_) ?_; rotate_left; (skip; go_simp; first | done | rfl); (refine hK _ _ ?_; clear hK K)) | (refine hK _ _ ?_; clear hK K))
      obtain ⟨GAi, _, hpAi, hupAi⟩ := HrNi.out.at 0 rfl
      have hslAi := (HrNi.out.own (3 + 1) rfl).sl.head1 i (by omega)
      rw [← List.map_take] at hslAi
      refine late_move0 (by decide) rfl ?_
      refine up_app Try.underlying56 info_id rfl (by omega) hpAi hslAi (one_id _) (by omega) (by omega) _ _ rfl rfl rfl (fun vAi wAi hoAi hkAi => ?_)
      rw [Nat.zero_add, List.nil_append] at hoAi
      obtain ⟨AAi, cAi, rfl, _⟩ := hoAi.form
      have hrAi : Run w F wAi [ownC 3 1 (.slice AAi i cAi) i ((es.take i).map idV), ownC 9 1 (.slice ACk (n - 1) cCk) (n - 1) ((es.eraseIdx i).map keyV), blkC g 58 #[.int .i64 m, .slice ACk (n - 1) cCk, .slice (some ⟨b2, o2, none⟩) n c2], ownC 9 1 (.slice A1 n c1) n (es.map keyV), ownC 3 1 (.slice (some ⟨b2, o2, none⟩) n c2) n (es.map idV)] := hupAi wAi (ownC 3 1 (.slice AAi i cAi) i ((es.take i).map idV)) (hoAi.imp (fun b _ h => h.imp (fun h => h) (fun h => Nat.le_of_eq h.symm))) hkAi
      refine ⟨fun _ => (hrAi.blk (1 + 1) rfl).cell 2, ?_⟩
      have HrAi := Lib.hid hrAi
      clear hslAi hpAi hupAi hoAi hkAi hrAi
      repeat (with_reducible refine late_free (by decide) (by decide) (fun K hK => ?_); go_simp; first | (refine ex_steadyF ?_ (fun w' hw' => ?_) ?_; rotate_left; (skip; go_simp; first | done | rfl); (refine hK _ _ ?_; clear hK K)) | (refine hK _ _ ?_; clear hK K))
      obtain ⟨GCi, _, hpCi, hupCi⟩ := HrAi.out.at 0 rfl
      have hslCi := (HrAi.out.own (3 + 1) rfl).sl.tailB (by omega : i + 1 ≤ n) (by omega : n ≤ c2)
      rw [← List.map_drop] at hslCi
      replace hslCi : Sl wAi (fun b => F b ∨ w.heap.size ≤ b) 1 Zi (n - (i + 1)) ((es.drop (i + 1)).map idV) := by rw [← hZi]; exact hslCi
      refine late_move0 (by decide) rfl ?_
      refine up_app Try.underlying56 info_id rfl (by omega) hpCi hslCi (one_id _) (by omega) (by omega) _ _ rfl rfl rfl (fun vCi wCi hoCi hkCi => ?_)
      rw [show i + (n - (i + 1)) = n - 1 from by omega, erase_map] at hoCi
      obtain ⟨ACi, cCi, rfl, _⟩ := hoCi.form
      have hrCi : Run w F wCi [ownC 3 1 (.slice ACi (n - 1) cCi) (n - 1) ((es.eraseIdx i).map idV), ownC 9 1 (.slice ACk (n - 1) cCk) (n - 1) ((es.eraseIdx i).map keyV), blkC g 58 #[.int .i64 m, .slice ACk (n - 1) cCk, .slice (some ⟨b2, o2, none⟩) n c2], ownC 9 1 (.slice A1 n c1) n (es.map keyV), ownC 3 1 (.slice (some ⟨b2, o2, none⟩) n c2) n (es.map idV)] := hupCi wCi (ownC 3 1 (.slice ACi (n - 1) cCi) (n - 1) ((es.eraseIdx i).map idV)) (hoCi.imp (fun b _ h => h.imp (fun h => h) (fun h => Nat.le_of_eq h.symm))) hkCi
      have hcCi := (hrCi.blk (1 + 1) rfl).cell
      have hfCi := (hrCi.blk (1 + 1) rfl).frozen
      refine ⟨fun _ => hcCi 2, ?_⟩
      have HrCi := Lib.hid hrCi
      clear hslCi hpCi hupCi hoCi hkCi hrCi
      repeat (with_reducible refine late_step (by decide) (by decide) (fun K hK => ?_); go_simp; refine hK _ _ ?_; clear hK K)
      with_reducible refine late_move (by decide) (fun K hK => ?_)
      go_simp
      refine up_skip (hK _ _ ?_)
      clear hK K
      refine late_nil ?_
      have hrDi : Run w F (wCi.setCell ⟨g, 2, none⟩ (.slice ACi (n - 1) cCi)) [ownC 3 1 (.slice ACi (n - 1) cCi) (n - 1) ((es.eraseIdx i).map idV), ownC 9 1 (.slice ACk (n - 1) cCk) (n - 1) ((es.eraseIdx i).map keyV), blkC g 58 #[.int .i64 m, .slice ACk (n - 1) cCk, .slice ACi (n - 1) cCi], ownC 9 1 (.slice A1 n c1) n (es.map keyV), ownC 3 1 (.slice (some ⟨b2, o2, none⟩) n c2) n (es.map idV)] := HrCi.out.set (1 + 1) rfl 2 _
      obtain ⟨wDi, hwDi⟩ : ∃ x, wCi.setCell ⟨g, 2, none⟩ (.slice ACi (n - 1) cCi) = x := ⟨_, rfl⟩
      rw [hwDi] at hrDi ⊢
      have hc := (hrDi.blk (1 + 1) rfl).cell
      have HrDi := Lib.hid hrDi
      clear hrDi hwDi hcCi hfCi hcBi HrDk HrNi HrAi HrCi
      go_wp2
      have hr15 : Run w F wDi [ownC 3 1 (.slice ACi (n - 1) cCi) (n - 1) ((es.eraseIdx i).map idV), ownC 9 1 (.slice ACk (n - 1) cCk) (n - 1) ((es.eraseIdx i).map keyV), blkC g 58 #[.int .i64 m, .slice ACk (n - 1) cCk, .slice ACi (n - 1) cCi]] := (HrDi.out.drop 4).drop 3
      obtain ⟨es', hes'⟩ : ∃ x, es.eraseIdx i = x := ⟨_, rfl⟩
      rw [hes'] at hr15
      have hlen : es'.length = n - 1 := by rw [← hes', List.length_eraseIdx, if_pos (by have := Hn.out; omega), Hn.out]
      have hr16 : Run w F wDi (rrL g m ACk cCk ACi cCi (n - 1) es') := hr15.perm ((List.Perm.cons _ (List.Perm.swap _ _ _)).trans ((List.Perm.swap _ _ _).trans (List.Perm.cons _ (List.Perm.swap _ _ _))))
      have hfin : Rr m wDi (fun b => F b ∨ w.heap.size ≤ b) g (es.eraseIdx i) := ⟨ACk, cCk, ACi, cCi, by rw [hes', hlen]; exact hr16.star⟩
      have Hfin := Lib.hid hfin
      have Hkf := Lib.hid hr16.kept
      clear hr15 hr16 hfin
      go_ret
      exact ⟨rfl, Hfin.out, Hkf.out⟩
    · have hre : remE es k id = (false, es) := by
        unfold remE
        rw [hfd, if_pos (.inr hid)]
      rw [hre]
      have hidb : (e.2 == id) = false := by simpa using hid
      obtain ⟨e1, e2⟩ := e
      simp only at hid hidb Hcv hpos
      have HA2 := Lib.hid hA2
      clear hfd hde he hre hA2
      go_enter Try.func20, Try.ntmps20
      go_wp2_with fail
      refine (C1.out).mono ?_
      rintro e w1 ⟨rfl, hk1⟩
      have hc := (Hcx.out w1 hk1).1.cell
      have hcv := Hcv.out w1 hk1
      have hst : Rr m w1 (fun b => F b ∨ w.heap.size ≤ b) g es := (rrC m g es).kept Hst0.out hk1 (fun _ _ _ h => h)
      have Hst := Lib.hid hst
      have Hk := Lib.hid hk1
      have hA2 := HA2.out
      subst hA2
      clear hk1 hst
      go_wp2
      go_ret
      exact ⟨rfl, Hst.out, Hk.out.mono (fun _ _ h => h.elim)⟩
end Go.Proofs.Ytmpbmfahnbbbdaa
