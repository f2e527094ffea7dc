/-
  ring: New, Push of changes walked. hub: who waits to be woken, in memory; find, Add, Remove, Woken, New walked. clock: the time and its alarms, in memory; walked.
-/
import Derived.Test.YtbgcnagojjjbeaaGreatRows
import Derived.LoopTactic
import Derived.Deep.QuietTactic
import Derived.BigQuiet
import Derived.Test.YtbgcnagojjjbeaaGreatZCoP
import Derived.Test.YtbgcnagojjjbeaaGreatZDel
import Derived.Test.YtbgcnagojjjbeaaGreatZAppO
import Derived.Test.YtbgcnagojjjbeaaGreatZLib
import Derived.Test.YtbgcnagojjjbeaaGreatZFree
import Derived.Test.YtbgcnagojjjbeaaGreatZOmB
set_option linter.unusedSimpArgs false
set_option linter.unusedVariables false
namespace Go.Proofs.YtbgcnagojjjbeaaGreat
open Go.RowKit
set_option maxRecDepth 100000

def Cg.cells (c : Cg) : List Value := [.int .i64 c.token, .string c.uid]
def gcs (l : List Cg) : List Value := l.flatMap Cg.cells
def riL (g : Nat) (most : Int) (A : Option Addr) (n c : Nat) (l : List Cg) : List Ch := [blkC g 271 #[.int .i64 most, .slice A n c], ownOC 207 2 (.slice A n c) n (gcs l)]
def Ri (w : World) (F : Nat → Prop) (g : Nat) (most : Int) (l : List Cg) : Prop := ∃ A c, Star w F (riL g most A l.length c l)
def riC (g : Nat) (most : Int) (l : List Cg) : Ch := ⟨fun w F => Ri w F g most l, fun ⟨A, c, h⟩ hF => ⟨A, c, h.imp hF⟩, fun ⟨A, c, h⟩ hk hd => ⟨A, c, h.kept hk hd⟩⟩
theorem info_cg : (Tryz.prog.info? 207).map (fun i => (i.zero, i.size, i.bytes)) = some (some (.agg #[.int .i64 0, .string ⟨#[]⟩]), 2, 24) := by kernel_rfl
theorem ri_new (w : World) (most : Int) : Calls Tryz.prog 156 #[.int .i64 most] w fun e w' => e = .returned (.pointer (some ⟨w.heap.size, 0, none⟩)) ∧ Ri w' (fun b => w.heap.size ≤ b) w.heap.size (max most 1) [] ∧ Pure w w' := by
  have hr : Run w (fun _ => False) (w.alloc (.cells #[.int .i64 (max most 1), .slice none 0 0] 271)) (riL w.heap.size (max most 1) none 0 0 []) :=
    ((Run.start (F := fun _ => False) (w := w) (Ps := []) trivial).add (Kept.refl _ _) (Q := ownOC 207 2 (.slice none 0 0) 0 []) (Own.nil _ _ _ _).toO).addBlk _ _
  have Hr := Lib.hid hr
  clear hr
  go_enter Tryz.func156, Tryz.ntmps156
  go_wp2
  go_ret
  exact ⟨rfl, ⟨none, 0, Hr.out.star.imp (fun b _ h => h.elim (fun h => h.elim) (fun h => h))⟩, Hr.out.kept⟩
theorem gcs_snoc (l : List Cg) (x : Cg) : gcs (l ++ [x]) = gcs l ++ x.cells := by simp [gcs]
theorem one_cg (x : Cg) : ∀ u ∈ x.cells, u.oneCell' = true := fun u hu => by simp [Cg.cells] at hu; rcases hu with rfl | rfl <;> rfl
def cgV : Option Cg → Value | some g => .agg #[.int .i64 g.token, .string g.uid] | none => .agg #[.int .i64 0, .string ⟨#[]⟩]
theorem gcs_length (l : List Cg) : (gcs l).length = l.length * 2 := fm_length _ 2 (fun _ => rfl) l
set_option maxHeartbeats 1600000 in
/-- Push. -/
theorem ri_push (w : World) (F : Nat → Prop) (g : Nat) (most : Int) (l : List Cg) (x : Cg) (h : Ri w F g most l) (hl : (l.length : Int) ≤ most) (h1 : 1 ≤ most) (h2 : most ≤ 1000) :
    Turn 145 #[.pointer (some ⟨g, 0, none⟩), .agg #[.int .i64 x.token, .string x.uid]] w F (.tuple #[cgV (pushL l most x).2, .bool (pushL l most x).2.isSome]) (riC g most (pushL l most x).1) := by
  obtain ⟨A, c, h⟩ := h
  obtain ⟨n, hn⟩ : ∃ n, l.length = n := ⟨_, rfl⟩
  have hr := Run.start h
  rw [hn] at hr hl
  have hr : Run w F w [blkC g 271 #[.int .i64 most, .slice A n c], ownOC 207 2 (.slice A n c) n (gcs l)] := hr
  obtain ⟨tk, uid⟩ := x
  simp only
  have hr2 := (hr.addBlk #[.int .i64 tk, .string uid] 207).addBlk #[.int .i64 0, .string ⟨#[]⟩] 207
  rw [World.size_alloc] at hr2
  have hc := (hr2.blk 2 rfl).cell
  unfold Turn
  by_cases hne : (n : Int) = most
  · obtain ⟨x0, l', rfl⟩ : ∃ x0 l', l = x0 :: l' := by
      cases l with
      | nil => simp at hn; omega
      | cons a b => exact ⟨a, b, rfl⟩
    obtain rfl : l'.length + 1 = n := by simpa using hn
    have hp : pushL (x0 :: l') most ⟨tk, uid⟩ = (l' ++ [⟨tk, uid⟩], some x0) := by unfold pushL; rw [hn, if_pos hne]; rfl
    rw [hp]
    have hne' : (((l'.length + 1 : Nat) : Int) == most) = true := by simpa using hne
    obtain ⟨m, hm⟩ : ∃ m, l'.length = m := ⟨_, rfl⟩
    rw [hm] at hr2 hc hl hne'
    have Hr2 := Lib.hid hr2
    have Hm := Lib.hid hm
    obtain ⟨t0, u0⟩ := x0
    have hm0 : m ≤ 1000 := by omega
    obtain ⟨Ac, hAc, hcl⟩ := (show OwnO _ _ _ _ _ _ _ from hr2.get (P := ownOC 207 2 (.slice A (m + 1) c) (m + 1) (gcs (⟨t0, u0⟩ :: l'))) 3 rfl).form
    obtain ⟨rfl, rfl⟩ : A = Ac ∧ c = hAc := by injection hcl.1 with e1 _ e2; exact ⟨e1, e2⟩
    obtain ⟨_, hnc, _, hsl⟩ := hcl
    obtain ⟨b, o, rfl, _, _, _⟩ := hsl.2 (by omega)
    obtain ⟨Z, hZ⟩ : ∃ Z, (if c = 1 then some (⟨b, o, none⟩ : Addr) else some ⟨b, o + 2, none⟩) = Z := ⟨_, rfl⟩
    have HZ := Lib.hid hZ
    have hm1 : (1 : Int) ≤ (m : Int) + 1 := by omega
    clear h hr hr2 hn hne hp hm
    go_enter Tryz.func145, Tryz.ntmps145
    go_wp2
    go_quiet (fail)
    generalize hW : World.drewN _ _ = W
    have hrx := Hr2.out.drewN nq
    rw [hW] at hrx
    have hcx := (hrx.blk 2 rfl).cell
    have hcf := (hrx.blk 0 rfl).frozen
    have hcz := (hrx.blk 0 rfl).cell
    have hslx := (show OwnO _ _ _ _ _ _ _ from hrx.get (P := ownOC 207 2 (.slice (some ⟨b, o, none⟩) (m + 1) c) (m + 1) (gcs (⟨t0, u0⟩ :: l'))) 3 rfl).sl
    have hx0 := sl_at (f := Cg.cells) (fun _ => rfl) hslx (by omega) (i := 0) (e := ⟨t0, u0⟩) rfl 0 (by omega)
    have hx1 := sl_at (f := Cg.cells) (fun _ => rfl) hslx (by omega) (i := 0) (e := ⟨t0, u0⟩) rfl 1 (by omega)
    simp only [Nat.zero_mul, Nat.add_zero] at hx0 hx1
    replace hx0 : W.cell? ⟨b, o, none⟩ = some (.int .i64 t0) := hx0
    replace hx1 : W.cell? ⟨b, o + 1, none⟩ = some (.string u0) := hx1
    have hr3 := (hrx.set 0 rfl 0 (.int .i64 t0)).set 0 rfl 1 (.string u0)
    have hr3 : Run w F ((W.setCell ⟨w.heap.size + 1, 0, none⟩ (.int .i64 t0)).setCell ⟨w.heap.size + 1, 1, none⟩ (.string u0)) [blkC (w.heap.size + 1) 207 #[.int .i64 t0, .string u0], blkC w.heap.size 207 #[.int .i64 tk, .string uid], blkC g 271 #[.int .i64 most, .slice (some ⟨b, o, none⟩) (m + 1) c], ownOC 207 2 (.slice (some ⟨b, o, none⟩) (m + 1) c) (m + 1) (gcs (⟨t0, u0⟩ :: l'))] := hr3
    have Hr3 := Lib.hid hr3
    clear hrx hc hW hr3 hslx
    go_wp2
    generalize hW3 : World.setCell _ _ _ = W3
    rw [hW3] at Hr3
    have hc3 := (Hr3.out.blk 2 rfl).cell
    clear hcx hcf hcz hx0 hx1 hW3
    refine wp_region_seq [11, 14] [0] (by kernel_rfl) (by kernel_rfl) (by kernel_rfl) ?_
    repeat (with_reducible refine seq_free (by decide) (by decide) (fun K hK => ?_); go_simp; first | (refine ex_steadyF ?_ (fun w' hw' => ?_) ?_; rotate_left; (skip; go_simp; first | done | rfl); (refine hK _ _ ?_; clear hK K)) | (refine hK _ _ ?_; clear hK K))
    repeat (with_reducible refine seq_step (by decide) (by decide) (fun K hK => ?_); go_simp; refine hK _ _ ?_; clear hK K)
    clear hc3 hZ hm1
    obtain ⟨G3, _, hp3, hup3⟩ := Hr3.out.drew.at 3 rfl
    have hp3 : OwnO W3.drew G3 207 2 (.slice (some ⟨b, o, none⟩) (m + 1) c) (m + 1) (gcs (⟨t0, u0⟩ :: l')) := hp3
    have hsh := hp3.shift 1 (by omega) (Z := Z) HZ.out
    rw [Nat.add_sub_cancel] at hsh
    have hdr : (gcs (⟨t0, u0⟩ :: l')).drop (1 * 2) = gcs l' := rfl
    rw [hdr] at hsh
    refine seq_move0 (by decide) rfl ?_
    refine up_appO Tryz.underlying269 info_cg rfl (by omega) hp3.cut0 hsh.sl (fun u hu => by obtain ⟨y, _, hu⟩ := List.mem_flatMap.1 hu; exact one_cg y u hu) (by omega) (by omega) _ _ rfl rfl rfl (fun v7 w7 ho7 hk7 => ⟨trivial, ?_⟩)
    rw [Nat.zero_add, List.nil_append] at ho7
    obtain ⟨A7, c7, rfl, _⟩ := ho7.form
    have hr7 : Run w F w7 [blkC (w.heap.size + 1) 207 #[.int .i64 t0, .string u0], blkC w.heap.size 207 #[.int .i64 tk, .string uid], blkC g 271 #[.int .i64 most, .slice (some ⟨b, o, none⟩) (m + 1) c], ownOC 207 2 (.slice A7 m c7) m (gcs l')] := hup3 w7 (ownOC 207 2 (.slice A7 m c7) m (gcs l')) ho7 hk7
    have hc7 := (hr7.blk 2 rfl).cell
    have hf7 := (hr7.blk 2 rfl).frozen
    have Hr7 := Lib.hid hr7
    clear hr7 ho7 hk7 hsh hp3 hup3 hdr
    repeat (with_reducible refine seq_step (by decide) (by decide) (fun K hK => ?_); go_simp; refine hK _ _ ?_; clear hK K)
    with_reducible refine seq_move (by decide) (fun K hK => ?_)
    go_simp
    refine up_skip ?_
    refine hK _ _ ?_
    clear hK K
    with_reducible refine seq_nil ?_
    have hr8 : Run w F (w7.setCell ⟨g, 1, none⟩ (.slice A7 m c7)) [blkC (w.heap.size + 1) 207 #[.int .i64 t0, .string u0], blkC w.heap.size 207 #[.int .i64 tk, .string uid], blkC g 271 #[.int .i64 most, .slice A7 m c7], ownOC 207 2 (.slice A7 m c7) m (gcs l')] := Hr7.out.set 2 rfl 1 _
    generalize hW8 : World.setCell _ _ _ = W
    rw [hW8] at hr8
    have hcx := (hr8.blk 2 rfl).cell
    have hcy := (hr8.blk 1 rfl).cell
    have Hrx := Lib.hid hr8
    clear hr8 hc7 hf7 hW8
    go_wp2
    refine wp_region_late (fun x => x.cell? ⟨g, 1, none⟩ = some (.slice A7 m c7)) [6, 7, 10] [0, 1, 2, 3, 4] [10] (by kernel_rfl) (by kernel_rfl) (by kernel_rfl) (by kernel_rfl) (hcx 1) ?_
    repeat (with_reducible refine late_free (by decide) (by decide) (fun K hK => ?_); go_simp; first | (refine ex_steadyF ?_ (fun w' hw' => ?_) ?_; rotate_left; (skip; go_simp; first | done | rfl); (refine hK _ _ ?_; clear hK K)) | (refine hK _ _ ?_; clear hK K))
    repeat (with_reducible refine late_step (by decide) (by decide) (fun K hK => ?_); go_simp; refine hK _ _ ?_; clear hK K)
    with_reducible refine late_move (by decide) (fun K hK => ?_)
    go_simp
    have hr8 := Hrx.out.drew.alloc (.cells #[.int .i64 tk, .string uid] 207)
    refine up_value ⟨(hr8.blk 2 rfl).cell 1, ?_⟩
    refine hK _ _ ?_
    clear hK K
    have hlit8 := Sl.lit W.drew #[.int .i64 tk, .string uid] 207 2 1 _ rfl rfl
    rw [show W.drew.heap.size = W.heap.size from rfl] at hlit8
    refine late_move0 (by decide) rfl ?_
    refine hr8.upApp 3 rfl Tryz.underlying269 info_cg rfl (by omega) hlit8 (one_cg ⟨tk, uid⟩) (by omega) (by omega) _ _ rfl rfl rfl (fun v9 w9 hv9 hr9 => ?_)
    obtain ⟨A9, c9, rfl, _, _⟩ := hv9
    have hr9 : Run w F w9 [blkC (w.heap.size + 1) 207 #[.int .i64 t0, .string u0], blkC w.heap.size 207 #[.int .i64 tk, .string uid], blkC g 271 #[.int .i64 most, .slice A7 m c7], ownOC 207 2 (.slice A9 (m + 1) c9) (m + 1) (gcs l' ++ Cg.cells ⟨tk, uid⟩)] := hr9
    refine ⟨fun _ => (hr9.blk 2 rfl).cell 1, ?_⟩
    have hf9 := (hr9.blk 2 rfl).frozen
    have hc9 := (hr9.blk 2 rfl).cell
    have Hr9 := Lib.hid hr9
    clear hr8 hr9
    repeat (with_reducible refine late_step (by decide) (by decide) (fun K hK => ?_); go_simp; refine hK _ _ ?_; clear hK K)
    with_reducible refine late_move (by decide) (fun K hK => ?_)
    go_simp
    refine up_skip (hK _ _ ?_)
    clear hK K
    with_reducible refine late_nil ?_
    have hr10 : Run w F (w9.setCell ⟨g, 1, none⟩ (.slice A9 (m + 1) c9)) [blkC (w.heap.size + 1) 207 #[.int .i64 t0, .string u0], blkC w.heap.size 207 #[.int .i64 tk, .string uid], blkC g 271 #[.int .i64 most, .slice A9 (m + 1) c9], ownOC 207 2 (.slice A9 (m + 1) c9) (m + 1) (gcs l' ++ Cg.cells ⟨tk, uid⟩)] := Hr9.out.set 2 rfl 1 _
    obtain ⟨w10, hw10⟩ : ∃ x, w9.setCell ⟨g, 1, none⟩ (.slice A9 (m + 1) c9) = x := ⟨_, rfl⟩
    rw [hw10] at hr10 ⊢
    clear hw10 hf9 hc9 Hr9 hcx
    have hcm := (hr10.blk 0 rfl).cell
    have hfm := (hr10.blk 0 rfl).frozen
    have hr11 := (hr10.set 0 rfl 0 (.int .i64 t0)).set 0 rfl 1 (.string u0)
    have hb11 := hr11.blk 0 rfl
    have Hb11 := Lib.hid hb11
    have Hr11 := Lib.hid hr11
    clear hr10 hr11 hb11
    go_wp2
    refine bodyPost_ret (results_cell_tmp Tryz.results145 rfl Hb11.out Tryz.underlying207 rfl (by kernel_rfl)) rfl ?_
    refine ⟨rfl, ⟨A9, c9, ?_⟩, Hr11.out.kept⟩
    have := ((Hr11.out.drop 0).drop 0).star
    rw [← gcs_snoc] at this
    have hl9 : (l' ++ [(⟨tk, uid⟩ : Cg)]).length = m + 1 := by simp [Hm.out]
    unfold riL
    rw [hl9]
    exact this
  · have hp : pushL l most ⟨tk, uid⟩ = (l ++ [⟨tk, uid⟩], none) := by unfold pushL; rw [hn, if_neg hne]
    rw [hp]
    have hne' : ((n : Int) == most) = false := by simpa using hne
    have Hr2 := Lib.hid hr2
    have Hn := Lib.hid hn
    clear h hr hr2 hn hne hp
    go_enter Tryz.func145, Tryz.ntmps145
    go_wp2
    go_quiet (fail)
    go_wp2
    generalize hW : World.drewN _ _ = W
    have hrx := Hr2.out.drewN nq
    rw [hW] at hrx
    have hcx := (hrx.blk 2 rfl).cell
    have hcy := (hrx.blk 1 rfl).cell
    have Hrx := Lib.hid hrx
    clear hrx hc hW
    refine wp_region_late (fun x => x.cell? ⟨g, 1, none⟩ = some (.slice A n c)) [6, 7, 10] [0, 1, 2, 3, 4] [10] (by kernel_rfl) (by kernel_rfl) (by kernel_rfl) (by kernel_rfl) (hcx 1) ?_
    repeat (with_reducible refine late_free (by decide) (by decide) (fun K hK => ?_); go_simp; first | (refine ex_steadyF ?_ (fun w' hw' => ?_) ?_; rotate_left; (skip; go_simp; first | done | rfl); (refine hK _ _ ?_; clear hK K)) | (refine hK _ _ ?_; clear hK K))
    repeat (with_reducible refine late_step (by decide) (by decide) (fun K hK => ?_); go_simp; refine hK _ _ ?_; clear hK K)
    with_reducible refine late_move (by decide) (fun K hK => ?_)
    go_simp
    have hr8 := Hrx.out.drew.alloc (.cells #[.int .i64 tk, .string uid] 207)
    refine up_value ⟨(hr8.blk 2 rfl).cell 1, ?_⟩
    refine hK _ _ ?_
    clear hK K
    have hlit8 := Sl.lit W.drew #[.int .i64 tk, .string uid] 207 2 1 _ rfl rfl
    rw [show W.drew.heap.size = W.heap.size from rfl] at hlit8
    refine late_move0 (by decide) rfl ?_
    refine hr8.upApp 3 rfl Tryz.underlying269 info_cg rfl (by omega) hlit8 (one_cg ⟨tk, uid⟩) (by omega) (by omega) _ _ rfl rfl rfl (fun v9 w9 hv9 hr9 => ?_)
    obtain ⟨A9, c9, rfl, _, _⟩ := hv9
    have hr9 : Run w F w9 [blkC (w.heap.size + 1) 207 #[.int .i64 0, .string ⟨#[]⟩], blkC w.heap.size 207 #[.int .i64 tk, .string uid], blkC g 271 #[.int .i64 most, .slice A n c], ownOC 207 2 (.slice A9 (n + 1) c9) (n + 1) (gcs l ++ Cg.cells ⟨tk, uid⟩)] := hr9
    refine ⟨fun _ => (hr9.blk 2 rfl).cell 1, ?_⟩
    have hf9 := (hr9.blk 2 rfl).frozen
    have hc9 := (hr9.blk 2 rfl).cell
    have Hr9 := Lib.hid hr9
    clear hr8 hr9
    repeat (with_reducible refine late_step (by decide) (by decide) (fun K hK => ?_); go_simp; refine hK _ _ ?_; clear hK K)
    with_reducible refine late_move (by decide) (fun K hK => ?_)
    go_simp
    refine up_skip (hK _ _ ?_)
    clear hK K
    with_reducible refine late_nil ?_
    have hr10 : Run w F (w9.setCell ⟨g, 1, none⟩ (.slice A9 (n + 1) c9)) [blkC (w.heap.size + 1) 207 #[.int .i64 0, .string ⟨#[]⟩], blkC w.heap.size 207 #[.int .i64 tk, .string uid], blkC g 271 #[.int .i64 most, .slice A9 (n + 1) c9], ownOC 207 2 (.slice A9 (n + 1) c9) (n + 1) (gcs l ++ Cg.cells ⟨tk, uid⟩)] := Hr9.out.set 2 rfl 1 _
    obtain ⟨w10, hw10⟩ : ∃ x, w9.setCell ⟨g, 1, none⟩ (.slice A9 (n + 1) c9) = x := ⟨_, rfl⟩
    rw [hw10] at hr10 ⊢
    clear hw10 hf9 hc9 Hr9 hcx
    have hcm := (hr10.blk 0 rfl).cell
    have hfm := (hr10.blk 0 rfl).frozen
    have hr11 := (hr10.set 0 rfl 0 (.int .i64 0)).set 0 rfl 1 (.string ⟨#[]⟩)
    have hb11 := hr11.blk 0 rfl
    have Hb11 := Lib.hid hb11
    have Hr11 := Lib.hid hr11
    clear hr10 hr11 hb11
    go_wp2
    refine bodyPost_ret (results_cell_tmp Tryz.results145 rfl Hb11.out Tryz.underlying207 rfl (by kernel_rfl)) rfl ?_
    refine ⟨rfl, ⟨A9, c9, ?_⟩, Hr11.out.kept⟩
    have := ((Hr11.out.drop 0).drop 0).star
    rw [← gcs_snoc] at this
    have hl9 : (l ++ [(⟨tk, uid⟩ : Cg)]).length = n + 1 := by simp [Hn.out]
    unfold riL
    rw [hl9]
    exact this
end Go.Proofs.YtbgcnagojjjbeaaGreat
set_option linter.unusedSimpArgs false
set_option linter.unusedVariables false
namespace Go.Proofs.YtbgcnagojjjbeaaGreat
open Go.RowKit
set_option maxRecDepth 100000

def Wt.cells (a : Wt) : List Value := [.int .i64 a.who, .int .i64 a.place, .bool a.woken]
theorem Wt.cells_len (a : Wt) : a.cells.length = 3 := rfl
def wcs (l : List Wt) : List Value := l.flatMap Wt.cells
theorem wcs_length (l : List Wt) : (wcs l).length = l.length * 3 := fm_length _ 3 (fun _ => rfl) l
theorem wt_len {w : World} {F : Nat → Prop} {A : Option Addr} {n : Nat} {l : List Wt} (h : Sl w F 3 A n (wcs l)) : l.length = n := by have := h.1; rw [wcs_length] at this; omega
theorem wt_at {w : World} {F : Nat → Prop} {b o n : Nat} {l : List Wt} (h : Sl w F 3 (some ⟨b, o, none⟩) n (wcs l)) {i : Nat} {e : Wt} (he : l[i]? = some e) :
    w.cell? ⟨b, o + i * 3, none⟩ = some (.int .i64 e.who) ∧ w.cell? ⟨b, o + i * 3 + 1, none⟩ = some (.int .i64 e.place) ∧ w.cell? ⟨b, o + i * 3 + 2, none⟩ = some (.bool e.woken) := by
  have hn : 0 < n := by have := wt_len h; have := (List.getElem?_eq_some_iff.1 he).1; omega
  exact ⟨sl_at Wt.cells_len h hn he 0 (by omega), sl_at Wt.cells_len h hn he 1 (by omega), sl_at Wt.cells_len h hn he 2 (by omega)⟩
theorem hb_key (who : Int) (a : Wt) (bx : Nat) (w : World) (hc : w.cell? ⟨bx, 0, none⟩ = some (.int .i64 who)) (hb : bx < w.heap.size) :
    Calls Tryz.prog 167 #[.agg #[.int .i64 a.who, .int .i64 a.place, .bool a.woken], .pointer (some ⟨bx, 0, none⟩)] w fun e w' => e = .returned (.bool (decide (a.who = who))) ∧ Pure w w' := by
  have hB := Blk.new w 170 #[.int .i64 a.who, .int .i64 a.place, .bool a.woken]
  have hk : Pure w (w.alloc (.cells #[.int .i64 a.who, .int .i64 a.place, .bool a.woken] 170)) := (Kept.refl _ _).alloc _
  have hcell := hB.cell
  have hc2 : (w.alloc (.cells #[.int .i64 a.who, .int .i64 a.place, .bool a.woken] 170)).cell? ⟨bx, 0, none⟩ = some (.int .i64 who) := (World.cell?_of_block (a := ⟨bx, 0, none⟩) (hk.block bx hb (fun h => h))).trans hc
  clear hc hB
  go_enter Tryz.func167, Tryz.ntmps167
  go_wp2
  go_ret
  exact ⟨rfl, hk⟩
set_option maxHeartbeats 1600000 in
theorem hb_index (l : List Wt) (x : Int) (A : Option Addr) (n c : Nat) (bx : Nat) (w : World) (F : Nat → Prop) (hs : Sl w F 3 A n (wcs l)) (hn : n ≤ 1000000) (hb : w.cell? ⟨bx, 0, none⟩ = some (.int .i64 x)) (hbl : bx < w.heap.size) :
    Calls Tryz.prog 166 #[.slice A n c, .func (.func 167) #[] #[.pointer (some ⟨bx, 0, none⟩)]] w fun e w' => e = .returned (.int .i64 (idx (fun a => decide (a.who = x)) l)) ∧ Pure w w' := by
  have hl := wt_len hs
  have Hl := Lib.hid hl
  have Hs := Lib.hid hs
  have Hb := Lib.hid hb
  clear hl hs hb
  go_enter Tryz.func166, Tryz.ntmps166
  go_wp2
  go_loopw [8] (fun i wr => ∃ k : Nat, i = .int .i64 k ∧ k ≤ n ∧ Hid (∀ (j : Nat) (y : Wt), j < k → l[j]? = some y → (fun a => decide (a.who = x)) y = false) ∧ Pure w wr) (fun i _ => n - (intOf i).toNat)
  case atStart => exact ⟨0, rfl, Nat.zero_le _, fun j y h => by omega, Kept.refl _ _⟩
  case round =>
    obtain ⟨k, rfl, hk, hj, hp⟩ := hrel
    by_cases hkn : k < n
    · obtain ⟨y, hy⟩ : ∃ y, l[k]? = some y := ⟨_, List.getElem?_eq_getElem (by have := Hl.out; omega)⟩
      have hsw := Hs.out.kept hp (fun _ _ _ h => h)
      obtain ⟨b, o, rfl, _, _, _⟩ := hsw.2 (by omega)
      have hc1 := wt_at hsw hy
      have hki : (k : Int) < (n : Int) := by omega
      have C := Lib.hid (hb_key x y bx wr ((World.cell?_of_block (a := ⟨bx, 0, none⟩) (hp.block bx hbl (fun h => h))).trans Hb.out) (Nat.lt_of_lt_of_le hbl hp.size))
      have Hy := Lib.hid hy
      clear hy hsw
      cases hxy : (fun a => decide (a.who = x)) y with
      | true =>
        have hr := idx_some Hy.out hxy hj.out
        have Hr := Lib.hid hr
        simp only at hxy
        rw [hxy] at C
        clear hr hxy
        go_wp2_with fail
        refine (C.out).mono ?_
        rintro e w1 ⟨rfl, hk1⟩
        go_wp2
        go_ret
        exact ⟨by rw [Hr.out]; rfl, hp.same hk1⟩
      | false =>
        have Hxy := Lib.hid hxy
        simp only at hxy
        rw [hxy] at C
        clear hxy
        go_wp2_with fail
        refine (C.out).mono ?_
        rintro e w1 ⟨rfl, hk1⟩
        go_wp2
        go_roundw
        case measure => simp [intOf]; omega
        case rel => exact ⟨k + 1, by first | rfl | go_num, by omega, fun j z h hz => by
          by_cases hjk : j = k
          · subst hjk; rw [Hy.out] at hz; injection hz with hz; subst hz; exact Hxy.out
          · exact hj.out j z (by omega) hz, hp.same hk1⟩
    · obtain rfl : k = n := by omega
      have hr := idx_none (p := fun a => decide (a.who = x)) (l := l) (fun j y hy => hj.out j y (by have := (List.getElem?_eq_some_iff.1 hy).1; have := Hl.out; omega) hy)
      have Hr := Lib.hid hr
      clear hr
      go_wp2
      go_ret
      exact ⟨by rw [Hr.out]; rfl, hp⟩
theorem info_hb : (Tryz.prog.info? 170).map (fun i => (i.zero, i.size, i.bytes)) = some (some (.agg #[.int .i64 0, .int .i64 0, .bool false]), 3, 24) := by kernel_rfl
set_option maxHeartbeats 3200000 in
theorem hb_del (xs : List Value) (h1 : ∀ u ∈ xs, u.oneCell' = true) (A : Option Addr) (n c i j : Nat) (w : World) (F : Nat → Prop) (ho : Own w F 170 3 (.slice A n c) n xs) (hn : n ≤ 1000000) (hij : i ≤ j) (hj : j ≤ n) :
    Calls Tryz.prog 123 #[.slice A n c, .int .i64 i, .int .i64 j] w (DelP 170 3 F (n - (j - i)) (xs.take (i * 3) ++ xs.drop (j * 3)) w) := by
  have hxl : xs.length = n * 3 := ho.1.1
  by_cases hlt : i < j
  · obtain ⟨g, cur, rfl, hFg, hg, hnc, hcm, hcs, hct⟩ := own_row ho (by omega)
    have hcm' := hcm
    unfold maxLen at hcm'
    obtain ⟨i0, hi0, hz0, hsz0, hby0⟩ := info_parts info_hb
    have hcc : ∀ q v, xs[q]? = some v → w.cell? ⟨g, q, none⟩ = some v := fun q v hq => by
      have h := (List.getElem?_eq_some_iff.1 hq).1
      rw [hg.cell, ← hq, ← hct, List.getElem?_take, if_pos (by omega), Array.getElem?_toList]
    have hld : (loadCellsFrom ⟨g, j * 3, none⟩ 0 ((n - j) * 3) #[]).run Tryz.prog w.drew = .ok (xs.drop (j * 3)).toArray w.drew := by
      have := run_loadCells_list (P := Tryz.prog) w.drew ⟨g, j * 3, none⟩ (xs.drop (j * 3)) (fun q u hq => by
        rw [Addr.add_lit]
        rw [List.getElem?_drop] at hq
        exact hcc (j * 3 + q) u hq)
      rw [show (xs.drop (j * 3)).length = (n - j) * 3 from by rw [List.length_drop, hxl]; omega] at this
      exact this
    have hst : (storeCells ⟨g, i * 3, none⟩ (xs.drop (j * 3))).run Tryz.prog w.drew = .ok () (w.drew.setRow g (splice cur.toList (i * 3) (xs.drop (j * 3))).toArray) := by
      have := run_storeCells_at Tryz.prog g (i * 3) 170 (xs.drop (j * 3)) 0 cur w.drew hg (by rw [List.length_drop, hxl, hcs]; omega) (fun u hu => h1 u (List.mem_of_mem_drop hu))
      rw [this]
      simp [splice]
    have hap0 : ∀ ty ad cc, j = n → (Builtin.append_ #[163, 163] ty #[.slice (some ⟨g, 0, none⟩) i c, .slice ad 0 cc]).run Tryz.prog w.drew =
        .ok (.slice (some ⟨g, 0, none⟩) i c) w.drew := fun ty ad cc _ => by
      cases ad with
      | none => simp [Builtin.append_, run_underlying Tryz.underlying163, sizeOf, typeInfo, hi0, Builtin.lenOf, Builtin.firstCells, show i ≤ c by omega, storeCells]
      | some ad =>
        have := run_append_room (P := Tryz.prog) w.drew 163 ty 170 i0 Tryz.underlying163 hi0 g i c cur hg ad 0 cc [] (by simp) (by simp) (by simp) (by omega) (by rw [hsz0, hcs]; simp; omega)
        rw [this, hsz0, Nat.add_zero]
        have hself : (cur.toList.take (i * 3) ++ [] ++ cur.toList.drop (i * 3 + ([] : List Value).length)).toArray = cur := by simp
        rw [hself, setRow_self w.drew g cur 170 (0, 0) hg]
    obtain ⟨cur2, hcur2⟩ : ∃ cur2, splice cur.toList (i * 3) (xs.drop (j * 3)) = cur2 := ⟨_, rfl⟩
    have hs2 : cur2.length = c * 3 := by rw [← hcur2, length_splice _ _ _ (by rw [List.length_drop, hxl]; simp [hcs]; omega)]; simpa using hcs
    have hself : j = n → w.drew.setRow g cur2.toArray = w.drew := fun he => by
      have : cur2.toArray = cur := by
        rw [← hcur2]
        unfold splice
        rw [List.drop_eq_nil_of_le (by rw [hxl, he]; exact Nat.le_refl _)]
        simp
      rw [this, setRow_self w.drew g cur 170 (0, 0) hg]
    have ht2 : cur2.take ((n - (j - i)) * 3) = xs.take (i * 3) ++ xs.drop (j * 3) := by
      rw [← hcur2]
      unfold splice
      rw [← List.append_assoc, List.take_append_of_le_length (by simp [hxl, hcs]; omega), List.take_of_length_le (by simp [hxl, hcs]; omega), ← hct, List.take_take, Nat.min_eq_left (by omega)]
    rw [hcur2] at hst
    obtain ⟨W2, hW2⟩ : ∃ W2, w.drew.setRow g cur2.toArray = W2 := ⟨_, rfl⟩
    have hB2 : Blk W2 g 170 cur2.toArray := by rw [← hW2]; exact setRow_heap w.drew g cur _ 170 (0, 0) hg
    have hk2 : Kept (· = g) w W2 := by rw [← hW2]; exact (Kept.refl _ w).drew.same (setRow_kept w.drew g cur2.toArray)
    rw [hW2] at hst hself
    obtain ⟨m, hm⟩ : ∃ m, n - (j - i) = m := ⟨_, rfl⟩
    have hm1 : i + (n - j) = m := by omega
    have hmn : m < n := by omega
    rw [hm] at ht2 ⊢
    obtain ⟨cur3, hcur3⟩ : ∃ cur3, cur2.take (m * 3) ++ (Builtin.zeroCells ((.agg #[.int .i64 0, .int .i64 0, .bool false]) : Value).cells (n - m)).toList ++ cur2.drop (m * 3 + (n - m) * 3) = cur3 := ⟨_, rfl⟩
    have hz5 : ((.agg #[.int .i64 0, .int .i64 0, .bool false]) : Value).cells.size = 3 := by kernel_rfl
    have hs3 : cur3.length = c * 3 := by
      rw [← hcur3]
      simp only [List.length_append, List.length_take, List.length_drop, Array.length_toList, size_zeroCells, hz5, hs2]
      omega
    have hclr : ∀ ty cc, (Builtin.clear_ #[163] ty #[.slice (some ⟨g, m * 3, none⟩) (n - m) cc]).run Tryz.prog W2 = .ok (.tuple #[]) (W2.setRow g cur3.toArray) := fun ty cc => by
      have := run_clearK (P := Tryz.prog) W2 163 170 ty (.agg #[.int .i64 0, .int .i64 0, .bool false]) 3 Tryz.underlying163 (fun w => Tryz.zeroValue170 w) hz5 (by simp [Value.cells, Value.oneCell']) g (m * 3) (n - m) cc cur2.toArray 170 hB2 (by rw [List.size_toArray, hs2]; omega)
      rw [this]
      simp only [hcur3]
    have hfin : cur3.take (m * 3) = xs.take (i * 3) ++ xs.drop (j * 3) := by
      rw [← hcur3, List.append_assoc, List.take_append_of_le_length (by simp [hs2]; omega), List.take_take, Nat.min_self, ht2]
    have hlen : (xs.take (i * 3) ++ xs.drop (j * 3)).length = m * 3 := by simp [hxl]; omega
    have hB3 : Blk (W2.setRow g cur3.toArray) g 170 cur3.toArray := setRow_heap W2 g cur2.toArray _ 170 (0, 0) hB2
    have hkF : Kept F w (W2.setRow g cur3.toArray) := (hk2.same (setRow_kept W2 g cur3.toArray)).mono (fun j _ h => by have h2 : j = g := h; rw [h2]; exact hFg)
    have HB3 := Lib.hid hB3
    have HkF := Lib.hid hkF
    have Hfin := Lib.hid hfin
    have Hlen := Lib.hid hlen
    have Hs3 := Lib.hid hs3
    have Hcm := Lib.hid hcm
    have Hst := Lib.hid hst
    have Hld := Lib.hid hld
    have Hap0 := Lib.hid hap0
    have Hclr := Lib.hid hclr
    have Hself := Lib.hid hself
    clear hcc hst hld hap0 hclr hB3 hB2 hk2 hkF hfin ht2 hlen hs3 hs2 hcur2 hcur3 hW2 hself hct hcs ho h1 hxl hcm hi0 hz0 hsz0 hby0 hz5
    have q1 : ¬ ((i : Int) = (j : Int)) := by omega
    have q2 : (i : Int) ≤ (j : Int) ∧ (j : Int) ≤ (n : Int) ∧ (n : Int) ≤ (c : Int) := by omega
    have q3 : i ≤ c ∧ j ≤ c ∧ m ≤ c := by omega
    have q4 : ¬ c = i := by omega
    have q5 : ¬ c = m := by omega
    have q6 : ¬ ((i : Int) < 0) ∧ ¬ ((j : Int) < 0) := by omega
    by_cases hjn : j = n
    · obtain rfl : m = i := by omega
      have hself := Hself.out hjn
      subst hjn
      have hap0 : ∀ ty ad cc, (Builtin.append_ #[163, 163] ty #[.slice (some ⟨g, 0, none⟩) m c, .slice ad 0 cc]).run Tryz.prog w.drew = .ok (.slice (some ⟨g, 0, none⟩) m c) w.drew := fun ty ad cc => Hap0.out ty ad cc rfl
      have Hap0 := Lib.hid hap0
      have hclr := Hclr.out
      rw [hself] at hclr HB3 HkF
      have Hclr := Lib.hid hclr
      clear hap0 hclr hself
      by_cases hcj : c = j
      · subst hcj
        go_enter Tryz.func123, Tryz.ntmps123
        go_wp2
        have hap0 := Hap0.out
        go_region
        clear hap0
        have hclr := Hclr.out
        go_wp2_with (simp only [hclr])
        go_ret
        refine ⟨some ⟨g, 0, none⟩, c, rfl, ?_, HkF.out⟩
        refine ⟨⟨by rw [Hlen.out], .inr ⟨g, c, cur3.toArray, rfl, Nat.zero_le _, HB3.out, by omega, Hcm.out, by rw [← Hs3.out]; simp, by simpa using Hfin.out⟩⟩, fun b hb => ?_⟩
        simp [Value.ownBlock] at hb
        subst hb
        exact .inl hFg
      · go_enter Tryz.func123, Tryz.ntmps123
        go_wp2
        have hap0 := Hap0.out
        go_region
        clear hap0
        have hclr := Hclr.out
        go_wp2_with (simp only [hclr])
        go_ret
        refine ⟨some ⟨g, 0, none⟩, c, rfl, ?_, HkF.out⟩
        refine ⟨⟨by rw [Hlen.out], .inr ⟨g, c, cur3.toArray, rfl, Nat.zero_le _, HB3.out, by omega, Hcm.out, by rw [← Hs3.out]; simp, by simpa using Hfin.out⟩⟩, fun b hb => ?_⟩
        simp [Value.ownBlock] at hb
        subst hb
        exact .inl hFg
    · have hjl : j < n := by omega
      have q7 : ¬ c = j := by omega
      have q8 : i + (n - j) ≤ c := by omega
      go_enter Tryz.func123, Tryz.ntmps123
      go_wp2
      have hst := Hst.out
      have hld := Hld.out
      go_region
      clear hst hld
      have hclr := Hclr.out
      go_wp2_with (simp only [hclr])
      go_ret
      refine ⟨some ⟨g, 0, none⟩, c, rfl, ?_, HkF.out⟩
      refine ⟨⟨by rw [Hlen.out], .inr ⟨g, c, cur3.toArray, rfl, Nat.zero_le _, HB3.out, by omega, Hcm.out, by rw [← Hs3.out]; simp, by simpa using Hfin.out⟩⟩, fun b hb => ?_⟩
      simp [Value.ownBlock] at hb
      subst hb
      exact .inl hFg
  · obtain rfl : i = j := by omega
    obtain ⟨A', c', hAc, hnc, hcm, _, _⟩ := ho.form
    obtain ⟨rfl, rfl⟩ : A = A' ∧ c = c' := by injection hAc with h1 _ h2; exact ⟨h1, h2⟩
    unfold maxLen at hcm
    have Ho := Lib.hid ho
    have q1 : (i : Int) ≤ (n : Int) ∧ (n : Int) ≤ (c : Int) := by omega
    have q3 : i ≤ c := by omega
    have q6 : ¬ ((i : Int) < 0) := by omega
    have hcs : (A = none ∧ n = 0 ∧ c = 0) ∨ (∃ g, A = some ⟨g, 0, none⟩) := by
      rcases ho.1.2 with ⟨h1, h2⟩ | ⟨g, cap, cur, h1, _⟩
      · injection h1 with h1 h3 h4; exact .inl ⟨h1, h3, h4⟩
      · injection h1 with h1 _ _; exact .inr ⟨g, h1⟩
    have hx : xs.take (i * 3) ++ xs.drop (i * 3) = xs := List.take_append_drop _ _
    have hfin : DelP 170 3 F n xs w (.returned (.slice A n c)) w := ⟨A, c, rfl, ho.imp (fun _ _ h => .inl h), Kept.refl _ _⟩
    rw [hx, Nat.sub_self, Nat.sub_zero]
    clear hAc ho hx hxl h1
    rcases hcs with ⟨rfl, rfl, rfl⟩ | ⟨g, rfl⟩
    · obtain rfl : i = 0 := by omega
      have Hfin := Lib.hid hfin
      clear hfin
      go_enter Tryz.func123, Tryz.ntmps123
      go_wp2
      go_ret
      exact Hfin.out
    · by_cases hci : c = i
      · obtain rfl : n = i := by omega
        subst hci
        have Hfin := Lib.hid hfin
        clear hfin
        go_enter Tryz.func123, Tryz.ntmps123
        go_wp2
        go_ret
        exact Hfin.out
      · by_cases hni : n = i
        · subst hni
          have Hfin := Lib.hid hfin
          clear hfin
          go_enter Tryz.func123, Tryz.ntmps123
          go_wp2
          go_ret
          exact Hfin.out
        · have Hfin := Lib.hid hfin
          clear hfin
          go_enter Tryz.func123, Tryz.ntmps123
          go_wp2
          go_ret
          exact Hfin.out
/-- A hub's pieces. -/
def hbL (g : Nat) (A : Option Addr) (n c : Nat) (l : List Wt) : List Ch := [blkC g 165 #[.slice A n c], ownC 170 3 (.slice A n c) n (wcs l)]
def Hb (w : World) (F : Nat → Prop) (g : Nat) (l : List Wt) : Prop := ∃ A c, Star w F (hbL g A l.length c l)
def hbC (g : Nat) (l : List Wt) : Ch := ⟨fun w F => Hb w F g l, fun ⟨A, c, h⟩ hF => ⟨A, c, h.imp hF⟩, fun ⟨A, c, h⟩ hk hd => ⟨A, c, h.kept hk hd⟩⟩
theorem hb_new (w : World) : Calls Tryz.prog 52 #[] w fun e w' => e = .returned (.pointer (some ⟨w.heap.size, 0, none⟩)) ∧ Hb w' (fun b => w.heap.size ≤ b) w.heap.size [] ∧ Pure w w' := by
  have hr : Run w (fun _ => False) (w.alloc (.cells #[.slice none 0 0] 165)) (hbL w.heap.size none 0 0 []) :=
    ((Run.start (F := fun _ => False) (w := w) (Ps := []) trivial).addNil 170 3).addBlk _ _
  have Hr := Lib.hid hr
  clear hr
  go_enter Tryz.func52, Tryz.ntmps52
  go_wp2
  go_ret
  exact ⟨rfl, ⟨none, 0, Hr.out.star.imp (fun b _ h => h.elim (fun h => h.elim) (fun h => h))⟩, Hr.out.kept⟩
theorem hb_find (w : World) (F : Nat → Prop) (g : Nat) (l : List Wt) (who : Int) (h : Hb w F g l) (hz : l.length ≤ 100000) :
    Calls Tryz.prog 116 #[.pointer (some ⟨g, 0, none⟩), .int .i64 who] w fun e w' => e = .returned (.int .i64 (idW l who)) ∧ Pure w w' := by
  obtain ⟨A, c, h⟩ := h
  have hr := Run.start h
  have hb := hr.blk 0 rfl
  have hs := (hr.own 1 rfl).sl
  have hB := Blk.new w 3 #[.int .i64 who]
  have hp : Pure w (w.alloc (.cells #[.int .i64 who] 3)) := (Kept.refl _ _).alloc _
  have hcB := hB.cell 0
  have C := Lib.hid (hb_index l who A l.length c w.heap.size _ _ (hs.kept hp (fun _ _ _ h => h)) (by omega) hcB hB.lt)
  have hc := (hb.kept hp (fun h => h)).cell
  have hcc := hB.cell
  have q1 : ¬ g = w.heap.size := Nat.ne_of_lt hb.lt
  have q2 : ¬ w.heap.size = g := fun h => q1 h.symm
  clear h hr hs hb hB hcB
  go_enter Tryz.func116, Tryz.ntmps116
  go_wp2_with fail
  refine (C.out).mono ?_
  rintro e w1 ⟨rfl, hk1⟩
  go_wp2
  go_ret
  exact ⟨rfl, hp.same hk1⟩
theorem wcs_snoc (l : List Wt) (x : Wt) : wcs (l ++ [x]) = wcs l ++ x.cells := by simp [wcs]
theorem one_wt (x : Wt) : ∀ u ∈ x.cells, u.oneCell' = true := fun u hu => by simp [Wt.cells] at hu; rcases hu with rfl | rfl | rfl <;> rfl
theorem one_wts (l : List Wt) : ∀ u ∈ wcs l, u.oneCell' = true := fun u hu => by
  obtain ⟨x, _, hu⟩ := List.mem_flatMap.1 hu
  exact one_wt x u hu
theorem hbC_up {w : World} {F : Nat → Prop} {g c : Nat} {l : List Wt} {A : Option Addr} (h : Star w F (hbL g A l.length c l)) : (hbC g l).p w F := ⟨A, c, h⟩
theorem hb_woken (w : World) (F : Nat → Prop) (g : Nat) (l : List Wt) (who : Int) (h : Hb w F g l) (hz : l.length ≤ 100000) :
    Reads 54 #[.pointer (some ⟨g, 0, none⟩), .int .i64 who] w (.bool (wokW l who)) := by
  have C := hb_find w F g l who h hz
  unfold Reads
  by_cases hd : 0 ≤ idW l who
  · obtain ⟨k, x, hk, hx, _⟩ := idx_lt (show 0 ≤ idx _ _ from hd)
    have hk' : idW l who = (k : Nat) := hk
    have he : wokW l who = x.woken := by unfold wokW; rw [hk', if_neg (by omega), show ((k : Nat) : Int).toNat = k from rfl, hx]
    rw [he]
    rw [hk'] at C
    have C := Lib.hid C
    have H := Lib.hid h
    have Hx := Lib.hid hx
    have hkl := (List.getElem?_eq_some_iff.1 hx).1
    have hki : (k : Int) < (l.length : Int) := by omega
    have hk0 : (0 : Int) ≤ (k : Int) := by omega
    clear h hd hk hk' he hx
    go_enter Tryz.func54, Tryz.ntmps54
    go_wp2_with fail
    refine (C.out).mono ?_
    rintro e w1 ⟨rfl, hk1⟩
    obtain ⟨A, c, h⟩ := H.out
    have hr := (Run.start h).pure hk1
    have hc := (hr.blk 0 rfl).cell
    have hs := (hr.own 1 rfl).sl
    obtain ⟨b, o, rfl, _, _, _⟩ := hs.2 (by omega)
    have hcw := wt_at hs Hx.out
    have hc2 := hcw.2.2
    clear h hr hs hcw
    go_wp2
    go_ret
    exact ⟨rfl, hk1⟩
  · have he : wokW l who = false := by unfold wokW; rw [if_pos (by omega)]
    have hk' := idx_neg (show ¬ 0 ≤ idx _ _ from hd)
    rw [he]
    rw [show idW l who = -1 from hk'] at C
    have C := Lib.hid C
    clear h hd hk' he
    go_enter Tryz.func54, Tryz.ntmps54
    go_wp2_with fail
    refine (C.out).mono ?_
    rintro e w1 ⟨rfl, hk1⟩
    go_wp2
    go_ret
    exact ⟨rfl, hk1⟩
set_option maxHeartbeats 800000 in
theorem hb_add (w : World) (F : Nat → Prop) (g : Nat) (l : List Wt) (who place : Int) (h : Hb w F g l) (hz : l.length ≤ 99999) :
    Turn 56 #[.pointer (some ⟨g, 0, none⟩), .int .i64 who, .int .i64 place] w F (.bool (addW l who place).1) (hbC g (addW l who place).2) := by
  have C := Lib.hid (hb_find w F g l who h (by omega))
  obtain ⟨A, c, h⟩ := h
  have hr := Run.start h
  unfold Turn
  by_cases hd : 0 ≤ idW l who
  · have he : addW l who place = (false, l) := by unfold addW; rw [if_pos hd]
    rw [he]
    generalize idW l who = d at *
    have Hr := Lib.hid hr
    clear h hr he
    go_enter Tryz.func56, Tryz.ntmps56
    go_wp2_with fail
    refine (C.out).mono ?_
    rintro e w1 ⟨rfl, hk1⟩
    go_wp2
    go_ret
    exact ⟨rfl, hbC_up (Hr.out.pure hk1).star, (Hr.out.pure hk1).kept⟩
  · have he : addW l who place = (true, l ++ [⟨who, place, false⟩]) := by unfold addW; rw [if_neg hd]
    rw [he]
    generalize idW l who = d at *
    obtain ⟨n, hn⟩ : ∃ n, l.length = n := ⟨_, rfl⟩
    have hr : Run w F w [blkC g 165 #[.slice A n c], ownC 170 3 (.slice A n c) n (wcs l)] := by rw [← hn]; exact hr
    have Hr := Lib.hid hr
    have Hn := Lib.hid hn
    rw [hn] at hz
    clear h hr he hn
    go_enter Tryz.func56, Tryz.ntmps56
    go_wp2_with fail
    refine (C.out).mono ?_
    rintro e w1 ⟨rfl, hk1⟩
    have hr1 := (Hr.out.pure hk1).addBlk #[.int .i64 who, .int .i64 place, .bool false] 170
    have Hr1 := Lib.hid hr1
    have hc := ((Hr.out.pure hk1).blk 0 rfl).cell
    clear hr1
    go_wp2_with (first | (at_builtin; refine held ?_))
    refine unheld ?_
    refine Run.app Hr1.out 2 rfl Tryz.underlying163 info_hb rfl (by omega) (Sl.lit w1 #[.int .i64 who, .int .i64 place, .bool false] 170 3 1 _ rfl rfl) (one_wt ⟨who, place, false⟩) (by omega) (by omega) rfl _ _ rfl rfl rfl ?_
    intro v' w' ⟨A', c', hv, _, _⟩ hr2
    subst hv
    have hr2 : Run w F w' [blkC w1.heap.size 170 #[.int .i64 who, .int .i64 place, .bool false], blkC g 165 #[.slice A n c], ownC 170 3 (.slice A' (n + 1) c') (n + 1) (wcs l ++ Wt.cells ⟨who, place, false⟩)] := hr2
    have hr3 : Run w F (w'.setCell ⟨g, 0, none⟩ (.slice A' (n + 1) c')) [blkC w1.heap.size 170 #[.int .i64 who, .int .i64 place, .bool false], blkC g 165 #[.slice A' (n + 1) c'], ownC 170 3 (.slice A' (n + 1) c') (n + 1) (wcs l ++ Wt.cells ⟨who, place, false⟩)] := hr2.set 1 rfl 0 _
    have hf := (hr2.blk 1 rfl).frozen
    have hc2 := (hr2.blk 1 rfl).cell
    have Hr3 := Lib.hid (hr3.drop 0)
    clear hr2 hr3
    go_wp2
    go_ret
    refine ⟨rfl, ⟨A', c', ?_⟩, Hr3.out.kept⟩
    have := Hr3.out.star
    rw [← wcs_snoc] at this
    have hl : (l ++ [(⟨who, place, false⟩ : Wt)]).length = n + 1 := by simp [Hn.out]
    unfold hbL
    rw [hl]
    exact this
set_option maxHeartbeats 800000 in
theorem hb_remove (w : World) (F : Nat → Prop) (g : Nat) (l : List Wt) (who : Int) (h : Hb w F g l) (hz : l.length ≤ 100000) :
    Turn 63 #[.pointer (some ⟨g, 0, none⟩), .int .i64 who] w F (.bool (!decide (idW l who < 0))) (hbC g (remW l who)) := by
  have C := hb_find w F g l who h (by omega)
  obtain ⟨A, c, h⟩ := h
  have hr := Run.start h
  unfold Turn
  by_cases hd : 0 ≤ idW l who
  · obtain ⟨k, x, hk, hx, _⟩ := idx_lt (show 0 ≤ idx _ _ from hd)
    have hk' : idW l who = (k : Nat) := hk
    have hkl := (List.getElem?_eq_some_iff.1 hx).1
    have he : remW l who = l.eraseIdx k := by unfold remW; rw [if_neg (by omega), hk']; rfl
    rw [he, show decide (idW l who < 0) = false from by simp; omega]
    rw [hk'] at C
    have C := Lib.hid C
    obtain ⟨n, hn⟩ : ∃ n, l.length = n := ⟨_, rfl⟩
    have hr : Run w F w [blkC g 165 #[.slice A n c], ownC 170 3 (.slice A n c) n (wcs l)] := by rw [← hn]; exact hr
    have Hr := Lib.hid hr
    have Hn := Lib.hid hn
    rw [hn] at hkl
    rw [hn] at hz
    have hwi : IntKind.i64.wrap ((k : Int) + 1) = (k : Int) + 1 := by rw [IntKind.wrap_i64]; omega
    have hk0 : (0 : Int) ≤ (k : Int) := by omega
    have hi1 : (0 : Int) ≤ (k : Int) + 1 ∧ (k : Int) + 1 ≤ 1000000 := by omega
    clear h hr he hn hd hk hk' hx
    go_enter Tryz.func63, Tryz.ntmps63
    go_wp2_with fail
    refine (C.out).mono ?_
    rintro e w1 ⟨rfl, hk1⟩
    have hr1 := Hr.out.pure hk1
    have Hr1 := Lib.hid hr1
    have hc := (hr1.blk 0 rfl).cell
    clear hr1
    have c2 := Hr1.out.del 1 rfl (fun G ho => hb_del (wcs l) (one_wts l) A n c k (k + 1) w1 G ho (by omega) (by omega) (by omega))
    rw [show wcs l = l.flatMap Wt.cells from rfl, fm_erase Wt.cells_len, show n - (k + 1 - k) = n - 1 by omega] at c2
    have C2 := Lib.hid c2
    clear c2
    go_wp2_with fail
    refine (C2.out).mono ?_
    rintro e w3 ⟨A', c', rfl, hr3⟩
    have hr3 : Run w F w3 [blkC g 165 #[.slice A n c], ownC 170 3 (.slice A' (n - 1) c') (n - 1) (wcs (l.eraseIdx k))] := hr3
    have hc3 := (hr3.blk 0 rfl).cell
    have hf3 := (hr3.blk 0 rfl).frozen
    have Hr4 : Hid (Run w F (w3.setCell ⟨g, 0, none⟩ (.slice A' (n - 1) c')) [blkC g 165 #[.slice A' (n - 1) c'], ownC 170 3 (.slice A' (n - 1) c') (n - 1) (wcs (l.eraseIdx k))]) := Lib.hid (hr3.set 0 rfl 0 (.slice A' (n - 1) c'))
    clear hr3
    go_wp2
    go_ret
    refine ⟨rfl, ⟨A', c', ?_⟩, Hr4.out.kept⟩
    have hl : (l.eraseIdx k).length = n - 1 := by rw [List.length_eraseIdx, Hn.out, if_pos hkl]
    unfold hbL
    rw [hl]
    exact Hr4.out.star
  · have he : remW l who = l := by unfold remW; rw [if_pos (by omega)]
    have hk' := idx_neg (show ¬ 0 ≤ idx _ _ from hd)
    rw [he, show decide (idW l who < 0) = true from by simp; omega]
    rw [show idW l who = -1 from hk'] at C
    have C := Lib.hid C
    have Hr := Lib.hid hr
    clear h hd hk' he hr
    go_enter Tryz.func63, Tryz.ntmps63
    go_wp2_with fail
    refine (C.out).mono ?_
    rintro e w1 ⟨rfl, hk1⟩
    go_wp2
    go_ret
    exact ⟨rfl, hbC_up (Hr.out.pure hk1).star, (Hr.out.pure hk1).kept⟩
/-- The row as a round leaves it. -/
def wakeK (l : List Wt) (place : Int) (k : Nat) : List Wt := wakeW (l.take k) place ++ l.drop k
theorem wakeK_len (l : List Wt) (p : Int) (k : Nat) : (wakeK l p k).length = l.length := by simp [wakeK, wakeW]; omega
theorem wakeK_at {l : List Wt} {p : Int} {k : Nat} {a : Wt} (h : l[k]? = some a) : (wakeK l p k)[k]? = some a := by
  have hk := (List.getElem?_eq_some_iff.1 h).1
  unfold wakeK wakeW
  rw [List.getElem?_append_right (by simp; omega)]
  simp [Nat.min_eq_left (Nat.le_of_lt hk), h]
theorem wakeK_succ {l : List Wt} {p : Int} {k : Nat} {a : Wt} (h : l[k]? = some a) : wakeK l p (k + 1) = (wakeK l p k).set k (if a.place = p then { a with woken := true } else a) := by
  have hk := (List.getElem?_eq_some_iff.1 h).1
  obtain ⟨hk1, hk2⟩ := List.getElem?_eq_some_iff.1 h
  unfold wakeK wakeW
  rw [List.set_append, if_neg (by simp; omega)]
  have hd : l.drop k = a :: l.drop (k + 1) := by rw [← hk2]; exact List.drop_eq_getElem_cons hk1
  rw [hd, List.take_add_one, h]
  simp [Nat.min_eq_left (Nat.le_of_lt hk)]
theorem wakeK_same {l : List Wt} {p : Int} {k : Nat} {a : Wt} (h : l[k]? = some a) (hp : ¬ a.place = p ∨ a.woken = true) : wakeK l p (k + 1) = wakeK l p k := by
  rw [wakeK_succ h]
  have ha : (if a.place = p then { a with woken := true } else a) = a := by
    split
    · rename_i h1
      rcases hp with h2 | h2
      · exact absurd h1 h2
      · rw [← h2]
    · rfl
  rw [ha]
  refine List.ext_getElem? fun i => ?_
  rw [List.getElem?_set]
  split
  · rename_i hi; subst hi; split
    · exact (wakeK_at h).symm
    · rename_i h2; rw [List.getElem?_eq_none (by omega)]
  · rfl
/-- Some slice comes back; who waits there is woken. -/
def WakeP (F : Nat → Prop) (g : Nat) (l : List Wt) (w : World) (e : Ending) (w' : World) : Prop :=
  ∃ v, e = .returned v ∧ Hb w' (fun b => F b ∨ w.heap.size ≤ b) g l ∧ Kept F w w'
theorem info_hi : (Tryz.prog.info? 3).map (fun i => (i.zero, i.size, i.bytes)) = some (some (.int .i64 0), 1, 8) := by kernel_rfl
set_option maxHeartbeats 1600000 in
theorem hb_wake (w : World) (F : Nat → Prop) (g : Nat) (l : List Wt) (place : Int) (h : Hb w F g l) (hz : l.length ≤ 100000) :
    Calls Tryz.prog 60 #[.pointer (some ⟨g, 0, none⟩), .int .i64 place] w (WakeP F g (wakeW l place) w) := by
  obtain ⟨A, c, h⟩ := h
  obtain ⟨n, hn⟩ : ∃ n, l.length = n := ⟨_, rfl⟩
  have hr0 := (Run.start h).addNil 3 1
  have hr : Run w F w [ownC 3 1 (.slice none 0 0) 0 [], blkC g 165 #[.slice A n c], ownC 170 3 (.slice A n c) n (wcs (wakeK l place 0))] := by rw [← hn]; exact hr0
  have hc := (hr.blk 1 rfl).cell
  have Hr := Lib.hid hr
  have Hn := Lib.hid hn
  rw [hn] at hz
  clear h hr hr0 hn
  go_enter Tryz.func60, Tryz.ntmps60
  go_wp2
  go_loopw [5, 13] (fun v i wr => ∃ (k m : Nat) (A' : Option Addr) (c' : Nat) (ys : List Value), i = .int .i64 k ∧ k ≤ n ∧ v = .slice A' m c' ∧ m ≤ k ∧ Hid (Run w F wr [ownC 3 1 (.slice A' m c') m ys, blkC g 165 #[.slice A n c], ownC 170 3 (.slice A n c) n (wcs (wakeK l place k))])) (fun _ i _ => n - (intOf i).toNat)
  case atStart => exact ⟨0, 0, none, 0, [], rfl, Nat.zero_le _, rfl, Nat.le_refl _, Hr⟩
  case round =>
    obtain ⟨k, m, A', c', ys, rfl, hkn, rfl, hmk, hr⟩ := hrel
    clear hc
    by_cases hlt : k < n
    · obtain ⟨a, ha⟩ : ∃ a, l[k]? = some a := ⟨_, List.getElem?_eq_getElem (by have := Hn.out; omega)⟩
      obtain ⟨gr, rfl⟩ := (hr.out.own 2 rfl).head (by omega)
      have hc := (hr.out.blk 1 rfl).cell
      have hcw := wt_at (hr.out.own 2 rfl).sl (wakeK_at ha)
      rw [Nat.zero_add] at hcw
      obtain ⟨hc0, hc1, hc2⟩ := hcw
      have Ha := Lib.hid ha
      have hki : (k : Int) < (n : Int) := by omega
      obtain ⟨who, pl, wk⟩ := a
      simp only at hc0 hc1 hc2
      clear ha
      by_cases hp : pl = place
      · cases wk with
        | true =>
          have he := wakeK_same (p := place) Ha.out (.inr rfl)
          have Hr2 : Hid (Run w F wr [ownC 3 1 (.slice A' m c') m ys, blkC g 165 #[.slice (some ⟨gr, 0, none⟩) n c], ownC 170 3 (.slice (some ⟨gr, 0, none⟩) n c) n (wcs (wakeK l place (k + 1)))]) := by rw [he]; exact hr
          subst hp
          clear he
          go_wp2
          go_roundw
          case measure => simp [intOf]; omega
          case rel => exact ⟨k + 1, m, A', c', ys, by first | rfl | go_num, by omega, rfl, by omega, Hr2⟩
        | false =>
          have he : wakeK l place (k + 1) = (wakeK l place k).set k ⟨who, pl, true⟩ := by rw [wakeK_succ Ha.out]; simp [hp]
          have he2 : wcs (wakeK l place (k + 1)) = (wcs (wakeK l place k)).set (k * 3 + 2) (.bool true) := by
            rw [he]; exact fm_set Wt.cells_len (wakeK_at Ha.out) (by omega) rfl
          have hf2 := ((hr.out.own 2 rfl)).frozen1 (k * 3 + 2)
          have hr2 : Run w F (wr.setCell ⟨gr, k * 3 + 2, none⟩ (.bool true)) [ownC 3 1 (.slice A' m c') m ys, blkC g 165 #[.slice (some ⟨gr, 0, none⟩) n c], ownC 170 3 (.slice (some ⟨gr, 0, none⟩) n c) n (wcs (wakeK l place (k + 1)))] := by rw [he2]; exact hr.out.setN 2 rfl (k * 3 + 2) (.bool true)
          have Hr2 := Lib.hid hr2
          have hcb := (wt_at (hr2.own 2 rfl).sl (show (wakeK l place (k + 1))[k]? = some ⟨who, pl, true⟩ by rw [he, List.getElem?_set_self (by rw [wakeK_len, Hn.out]; omega)])).1
          rw [Nat.zero_add] at hcb
          simp only at hcb
          subst hp
          clear he he2 hr2
          go_wp2_with (first | (at_builtin; refine held ?_))
          refine unheld ?_
          have hlit := Sl.lit (wr.setCell ⟨gr, k * 3 + 2, none⟩ (.bool true)) #[.int .i64 who] 3 1 1 _ rfl rfl
          rw [show (wr.setCell ⟨gr, k * 3 + 2, none⟩ (.bool true)).heap.size = wr.heap.size by simp] at hlit
          refine (Hr2.out.alloc _).app 0 rfl Tryz.underlying87 info_hi rfl (by omega) hlit (fun u hu => by simp at hu; subst hu; rfl) (by omega) (by omega) rfl _ _ rfl rfl rfl ?_
          intro v' w' ⟨A2, c2, hv, _, _⟩ hr3
          subst hv
          have Hr3 := Lib.hid hr3
          clear hr3
          go_wp2
          go_roundw
          case measure => simp [intOf]; omega
          case rel => exact ⟨k + 1, m + 1, A2, c2, _, by first | rfl | go_num, by omega, rfl, by omega, Hr3⟩
      · have hp' : (pl == place) = false := by simpa using hp
        have he := wakeK_same (p := place) Ha.out (.inl hp)
        have Hr2 : Hid (Run w F wr [ownC 3 1 (.slice A' m c') m ys, blkC g 165 #[.slice (some ⟨gr, 0, none⟩) n c], ownC 170 3 (.slice (some ⟨gr, 0, none⟩) n c) n (wcs (wakeK l place (k + 1)))]) := by rw [he]; exact hr
        clear he hp
        go_wp2
        go_roundw
        case measure => simp [intOf]; omega
        case rel => exact ⟨k + 1, m, A', c', ys, by first | rfl | go_num, by omega, rfl, by omega, Hr2⟩
    · obtain rfl : k = n := by omega
      go_wp2
      go_ret
      refine ⟨_, rfl, ⟨A, c, ?_⟩, hr.out.kept⟩
      have h1 := (hr.out.drop 0).star
      have h2 : wakeK l place k = wakeW l place := by unfold wakeK; rw [← Hn.out, List.take_length, List.drop_length, List.append_nil]
      rw [h2] at h1
      have h3 : (wakeW l place).length = k := by simp [wakeW, Hn.out]
      unfold hbL
      rw [h3]
      exact h1
end Go.Proofs.YtbgcnagojjjbeaaGreat
set_option linter.unusedSimpArgs false
set_option linter.unusedVariables false
namespace Go.Proofs.YtbgcnagojjjbeaaGreat
open Go.RowKit
set_option maxRecDepth 100000

def Al.cells (a : Al) : List Value := [.int .i64 a.who, .int .i64 a.tm]
theorem Al.cells_len (a : Al) : a.cells.length = 2 := rfl
def acs (l : List Al) : List Value := l.flatMap Al.cells
theorem acs_length (l : List Al) : (acs l).length = l.length * 2 := fm_length _ 2 (fun _ => rfl) l
theorem al_len {w : World} {F : Nat → Prop} {A : Option Addr} {n : Nat} {l : List Al} (h : Sl w F 2 A n (acs l)) : l.length = n := by have := h.1; rw [acs_length] at this; omega
theorem al_at {w : World} {F : Nat → Prop} {b o n : Nat} {l : List Al} (h : Sl w F 2 (some ⟨b, o, none⟩) n (acs l)) {i : Nat} {e : Al} (he : l[i]? = some e) :
    w.cell? ⟨b, o + i * 2, none⟩ = some (.int .i64 e.who) ∧ w.cell? ⟨b, o + i * 2 + 1, none⟩ = some (.int .i64 e.tm) := by
  have hn : 0 < n := by have := al_len h; have := (List.getElem?_eq_some_iff.1 he).1; omega
  exact ⟨sl_at Al.cells_len h hn he 0 (by omega), sl_at Al.cells_len h hn he 1 (by omega)⟩
theorem ck_key (who : Int) (a : Al) (bx : Nat) (w : World) (hc : w.cell? ⟨bx, 0, none⟩ = some (.int .i64 who)) (hb : bx < w.heap.size) :
    Calls Tryz.prog 172 #[.agg #[.int .i64 a.who, .int .i64 a.tm], .pointer (some ⟨bx, 0, none⟩)] w fun e w' => e = .returned (.bool (decide (a.who = who))) ∧ Pure w w' := by
  have hB := Blk.new w 174 #[.int .i64 a.who, .int .i64 a.tm]
  have hk : Pure w (w.alloc (.cells #[.int .i64 a.who, .int .i64 a.tm] 174)) := (Kept.refl _ _).alloc _
  have hcell := hB.cell
  have hc2 : (w.alloc (.cells #[.int .i64 a.who, .int .i64 a.tm] 174)).cell? ⟨bx, 0, none⟩ = some (.int .i64 who) := (World.cell?_of_block (a := ⟨bx, 0, none⟩) (hk.block bx hb (fun h => h))).trans hc
  clear hc hB
  go_enter Tryz.func172, Tryz.ntmps172
  go_wp2
  go_ret
  exact ⟨rfl, hk⟩
set_option maxHeartbeats 1600000 in
theorem ck_index (l : List Al) (x : Int) (A : Option Addr) (n c : Nat) (bx : Nat) (w : World) (F : Nat → Prop) (hs : Sl w F 2 A n (acs l)) (hn : n ≤ 1000000) (hb : w.cell? ⟨bx, 0, none⟩ = some (.int .i64 x)) (hbl : bx < w.heap.size) :
    Calls Tryz.prog 171 #[.slice A n c, .func (.func 172) #[] #[.pointer (some ⟨bx, 0, none⟩)]] w fun e w' => e = .returned (.int .i64 (idx (fun a => decide (a.who = x)) l)) ∧ Pure w w' := by
  have hl := al_len hs
  have Hl := Lib.hid hl
  have Hs := Lib.hid hs
  have Hb := Lib.hid hb
  clear hl hs hb
  go_enter Tryz.func171, Tryz.ntmps171
  go_wp2
  go_loopw [8] (fun i wr => ∃ k : Nat, i = .int .i64 k ∧ k ≤ n ∧ Hid (∀ (j : Nat) (y : Al), j < k → l[j]? = some y → (fun a => decide (a.who = x)) y = false) ∧ Pure w wr) (fun i _ => n - (intOf i).toNat)
  case atStart => exact ⟨0, rfl, Nat.zero_le _, fun j y h => by omega, Kept.refl _ _⟩
  case round =>
    obtain ⟨k, rfl, hk, hj, hp⟩ := hrel
    by_cases hkn : k < n
    · obtain ⟨y, hy⟩ : ∃ y, l[k]? = some y := ⟨_, List.getElem?_eq_getElem (by have := Hl.out; omega)⟩
      have hsw := Hs.out.kept hp (fun _ _ _ h => h)
      obtain ⟨b, o, rfl, _, _, _⟩ := hsw.2 (by omega)
      have hc1 := al_at hsw hy
      have hki : (k : Int) < (n : Int) := by omega
      have C := Lib.hid (ck_key x y bx wr ((World.cell?_of_block (a := ⟨bx, 0, none⟩) (hp.block bx hbl (fun h => h))).trans Hb.out) (Nat.lt_of_lt_of_le hbl hp.size))
      have Hy := Lib.hid hy
      clear hy hsw
      cases hxy : (fun a => decide (a.who = x)) y with
      | true =>
        have hr := idx_some Hy.out hxy hj.out
        have Hr := Lib.hid hr
        simp only at hxy
        rw [hxy] at C
        clear hr hxy
        go_wp2_with fail
        refine (C.out).mono ?_
        rintro e w1 ⟨rfl, hk1⟩
        go_wp2
        go_ret
        exact ⟨by rw [Hr.out]; rfl, hp.same hk1⟩
      | false =>
        have Hxy := Lib.hid hxy
        simp only at hxy
        rw [hxy] at C
        clear hxy
        go_wp2_with fail
        refine (C.out).mono ?_
        rintro e w1 ⟨rfl, hk1⟩
        go_wp2
        go_roundw
        case measure => simp [intOf]; omega
        case rel => exact ⟨k + 1, by first | rfl | go_num, by omega, fun j z h hz => by
          by_cases hjk : j = k
          · subst hjk; rw [Hy.out] at hz; injection hz with hz; subst hz; exact Hxy.out
          · exact hj.out j z (by omega) hz, hp.same hk1⟩
    · obtain rfl : k = n := by omega
      have hr := idx_none (p := fun a => decide (a.who = x)) (l := l) (fun j y hy => hj.out j y (by have := (List.getElem?_eq_some_iff.1 hy).1; have := Hl.out; omega) hy)
      have Hr := Lib.hid hr
      clear hr
      go_wp2
      go_ret
      exact ⟨by rw [Hr.out]; rfl, hp⟩
theorem info_ck : (Tryz.prog.info? 174).map (fun i => (i.zero, i.size, i.bytes)) = some (some (.agg #[.int .i64 0, .int .i64 0]), 2, 16) := by kernel_rfl
set_option maxHeartbeats 3200000 in
theorem ck_del (xs : List Value) (h1 : ∀ u ∈ xs, u.oneCell' = true) (A : Option Addr) (n c i j : Nat) (w : World) (F : Nat → Prop) (ho : Own w F 174 2 (.slice A n c) n xs) (hn : n ≤ 1000000) (hij : i ≤ j) (hj : j ≤ n) :
    Calls Tryz.prog 125 #[.slice A n c, .int .i64 i, .int .i64 j] w (DelP 174 2 F (n - (j - i)) (xs.take (i * 2) ++ xs.drop (j * 2)) w) := by
  have hxl : xs.length = n * 2 := ho.1.1
  by_cases hlt : i < j
  · obtain ⟨g, cur, rfl, hFg, hg, hnc, hcm, hcs, hct⟩ := own_row ho (by omega)
    have hcm' := hcm
    unfold maxLen at hcm'
    obtain ⟨i0, hi0, hz0, hsz0, hby0⟩ := info_parts info_ck
    have hcc : ∀ q v, xs[q]? = some v → w.cell? ⟨g, q, none⟩ = some v := fun q v hq => by
      have h := (List.getElem?_eq_some_iff.1 hq).1
      rw [hg.cell, ← hq, ← hct, List.getElem?_take, if_pos (by omega), Array.getElem?_toList]
    have hld : (loadCellsFrom ⟨g, j * 2, none⟩ 0 ((n - j) * 2) #[]).run Tryz.prog w.drew = .ok (xs.drop (j * 2)).toArray w.drew := by
      have := run_loadCells_list (P := Tryz.prog) w.drew ⟨g, j * 2, none⟩ (xs.drop (j * 2)) (fun q u hq => by
        rw [Addr.add_lit]
        rw [List.getElem?_drop] at hq
        exact hcc (j * 2 + q) u hq)
      rw [show (xs.drop (j * 2)).length = (n - j) * 2 from by rw [List.length_drop, hxl]; omega] at this
      exact this
    have hst : (storeCells ⟨g, i * 2, none⟩ (xs.drop (j * 2))).run Tryz.prog w.drew = .ok () (w.drew.setRow g (splice cur.toList (i * 2) (xs.drop (j * 2))).toArray) := by
      have := run_storeCells_at Tryz.prog g (i * 2) 174 (xs.drop (j * 2)) 0 cur w.drew hg (by rw [List.length_drop, hxl, hcs]; omega) (fun u hu => h1 u (List.mem_of_mem_drop hu))
      rw [this]
      simp [splice]
    have hap0 : ∀ ty ad cc, j = n → (Builtin.append_ #[166, 166] ty #[.slice (some ⟨g, 0, none⟩) i c, .slice ad 0 cc]).run Tryz.prog w.drew =
        .ok (.slice (some ⟨g, 0, none⟩) i c) w.drew := fun ty ad cc _ => by
      cases ad with
      | none => simp [Builtin.append_, run_underlying Tryz.underlying166, sizeOf, typeInfo, hi0, Builtin.lenOf, Builtin.firstCells, show i ≤ c by omega, storeCells]
      | some ad =>
        have := run_append_room (P := Tryz.prog) w.drew 166 ty 174 i0 Tryz.underlying166 hi0 g i c cur hg ad 0 cc [] (by simp) (by simp) (by simp) (by omega) (by rw [hsz0, hcs]; simp; omega)
        rw [this, hsz0, Nat.add_zero]
        have hself : (cur.toList.take (i * 2) ++ [] ++ cur.toList.drop (i * 2 + ([] : List Value).length)).toArray = cur := by simp
        rw [hself, setRow_self w.drew g cur 174 (0, 0) hg]
    obtain ⟨cur2, hcur2⟩ : ∃ cur2, splice cur.toList (i * 2) (xs.drop (j * 2)) = cur2 := ⟨_, rfl⟩
    have hs2 : cur2.length = c * 2 := by rw [← hcur2, length_splice _ _ _ (by rw [List.length_drop, hxl]; simp [hcs]; omega)]; simpa using hcs
    have hself : j = n → w.drew.setRow g cur2.toArray = w.drew := fun he => by
      have : cur2.toArray = cur := by
        rw [← hcur2]
        unfold splice
        rw [List.drop_eq_nil_of_le (by rw [hxl, he]; exact Nat.le_refl _)]
        simp
      rw [this, setRow_self w.drew g cur 174 (0, 0) hg]
    have ht2 : cur2.take ((n - (j - i)) * 2) = xs.take (i * 2) ++ xs.drop (j * 2) := by
      rw [← hcur2]
      unfold splice
      rw [← List.append_assoc, List.take_append_of_le_length (by simp [hxl, hcs]; omega), List.take_of_length_le (by simp [hxl, hcs]; omega), ← hct, List.take_take, Nat.min_eq_left (by omega)]
    rw [hcur2] at hst
    obtain ⟨W2, hW2⟩ : ∃ W2, w.drew.setRow g cur2.toArray = W2 := ⟨_, rfl⟩
    have hB2 : Blk W2 g 174 cur2.toArray := by rw [← hW2]; exact setRow_heap w.drew g cur _ 174 (0, 0) hg
    have hk2 : Kept (· = g) w W2 := by rw [← hW2]; exact (Kept.refl _ w).drew.same (setRow_kept w.drew g cur2.toArray)
    rw [hW2] at hst hself
    obtain ⟨m, hm⟩ : ∃ m, n - (j - i) = m := ⟨_, rfl⟩
    have hm1 : i + (n - j) = m := by omega
    have hmn : m < n := by omega
    rw [hm] at ht2 ⊢
    obtain ⟨cur3, hcur3⟩ : ∃ cur3, cur2.take (m * 2) ++ (Builtin.zeroCells ((.agg #[.int .i64 0, .int .i64 0]) : Value).cells (n - m)).toList ++ cur2.drop (m * 2 + (n - m) * 2) = cur3 := ⟨_, rfl⟩
    have hz5 : ((.agg #[.int .i64 0, .int .i64 0]) : Value).cells.size = 2 := by kernel_rfl
    have hs3 : cur3.length = c * 2 := by
      rw [← hcur3]
      simp only [List.length_append, List.length_take, List.length_drop, Array.length_toList, size_zeroCells, hz5, hs2]
      omega
    have hclr : ∀ ty cc, (Builtin.clear_ #[166] ty #[.slice (some ⟨g, m * 2, none⟩) (n - m) cc]).run Tryz.prog W2 = .ok (.tuple #[]) (W2.setRow g cur3.toArray) := fun ty cc => by
      have := run_clearK (P := Tryz.prog) W2 166 174 ty (.agg #[.int .i64 0, .int .i64 0]) 2 Tryz.underlying166 (fun w => Tryz.zeroValue174 w) hz5 (by simp [Value.cells, Value.oneCell']) g (m * 2) (n - m) cc cur2.toArray 174 hB2 (by rw [List.size_toArray, hs2]; omega)
      rw [this]
      simp only [hcur3]
    have hfin : cur3.take (m * 2) = xs.take (i * 2) ++ xs.drop (j * 2) := by
      rw [← hcur3, List.append_assoc, List.take_append_of_le_length (by simp [hs2]; omega), List.take_take, Nat.min_self, ht2]
    have hlen : (xs.take (i * 2) ++ xs.drop (j * 2)).length = m * 2 := by simp [hxl]; omega
    have hB3 : Blk (W2.setRow g cur3.toArray) g 174 cur3.toArray := setRow_heap W2 g cur2.toArray _ 174 (0, 0) hB2
    have hkF : Kept F w (W2.setRow g cur3.toArray) := (hk2.same (setRow_kept W2 g cur3.toArray)).mono (fun j _ h => by have h2 : j = g := h; rw [h2]; exact hFg)
    have HB3 := Lib.hid hB3
    have HkF := Lib.hid hkF
    have Hfin := Lib.hid hfin
    have Hlen := Lib.hid hlen
    have Hs3 := Lib.hid hs3
    have Hcm := Lib.hid hcm
    have Hst := Lib.hid hst
    have Hld := Lib.hid hld
    have Hap0 := Lib.hid hap0
    have Hclr := Lib.hid hclr
    have Hself := Lib.hid hself
    clear hcc hst hld hap0 hclr hB3 hB2 hk2 hkF hfin ht2 hlen hs3 hs2 hcur2 hcur3 hW2 hself hct hcs ho h1 hxl hcm hi0 hz0 hsz0 hby0 hz5
    have q1 : ¬ ((i : Int) = (j : Int)) := by omega
    have q2 : (i : Int) ≤ (j : Int) ∧ (j : Int) ≤ (n : Int) ∧ (n : Int) ≤ (c : Int) := by omega
    have q3 : i ≤ c ∧ j ≤ c ∧ m ≤ c := by omega
    have q4 : ¬ c = i := by omega
    have q5 : ¬ c = m := by omega
    have q6 : ¬ ((i : Int) < 0) ∧ ¬ ((j : Int) < 0) := by omega
    by_cases hjn : j = n
    · obtain rfl : m = i := by omega
      have hself := Hself.out hjn
      subst hjn
      have hap0 : ∀ ty ad cc, (Builtin.append_ #[166, 166] ty #[.slice (some ⟨g, 0, none⟩) m c, .slice ad 0 cc]).run Tryz.prog w.drew = .ok (.slice (some ⟨g, 0, none⟩) m c) w.drew := fun ty ad cc => Hap0.out ty ad cc rfl
      have Hap0 := Lib.hid hap0
      have hclr := Hclr.out
      rw [hself] at hclr HB3 HkF
      have Hclr := Lib.hid hclr
      clear hap0 hclr hself
      by_cases hcj : c = j
      · subst hcj
        go_enter Tryz.func125, Tryz.ntmps125
        go_wp2
        have hap0 := Hap0.out
        go_region
        clear hap0
        have hclr := Hclr.out
        go_wp2_with (simp only [hclr])
        go_ret
        refine ⟨some ⟨g, 0, none⟩, c, rfl, ?_, HkF.out⟩
        refine ⟨⟨by rw [Hlen.out], .inr ⟨g, c, cur3.toArray, rfl, Nat.zero_le _, HB3.out, by omega, Hcm.out, by rw [← Hs3.out]; simp, by simpa using Hfin.out⟩⟩, fun b hb => ?_⟩
        simp [Value.ownBlock] at hb
        subst hb
        exact .inl hFg
      · go_enter Tryz.func125, Tryz.ntmps125
        go_wp2
        have hap0 := Hap0.out
        go_region
        clear hap0
        have hclr := Hclr.out
        go_wp2_with (simp only [hclr])
        go_ret
        refine ⟨some ⟨g, 0, none⟩, c, rfl, ?_, HkF.out⟩
        refine ⟨⟨by rw [Hlen.out], .inr ⟨g, c, cur3.toArray, rfl, Nat.zero_le _, HB3.out, by omega, Hcm.out, by rw [← Hs3.out]; simp, by simpa using Hfin.out⟩⟩, fun b hb => ?_⟩
        simp [Value.ownBlock] at hb
        subst hb
        exact .inl hFg
    · have hjl : j < n := by omega
      have q7 : ¬ c = j := by omega
      have q8 : i + (n - j) ≤ c := by omega
      go_enter Tryz.func125, Tryz.ntmps125
      go_wp2
      have hst := Hst.out
      have hld := Hld.out
      go_region
      clear hst hld
      have hclr := Hclr.out
      go_wp2_with (simp only [hclr])
      go_ret
      refine ⟨some ⟨g, 0, none⟩, c, rfl, ?_, HkF.out⟩
      refine ⟨⟨by rw [Hlen.out], .inr ⟨g, c, cur3.toArray, rfl, Nat.zero_le _, HB3.out, by omega, Hcm.out, by rw [← Hs3.out]; simp, by simpa using Hfin.out⟩⟩, fun b hb => ?_⟩
      simp [Value.ownBlock] at hb
      subst hb
      exact .inl hFg
  · obtain rfl : i = j := by omega
    obtain ⟨A', c', hAc, hnc, hcm, _, _⟩ := ho.form
    obtain ⟨rfl, rfl⟩ : A = A' ∧ c = c' := by injection hAc with h1 _ h2; exact ⟨h1, h2⟩
    unfold maxLen at hcm
    have Ho := Lib.hid ho
    have q1 : (i : Int) ≤ (n : Int) ∧ (n : Int) ≤ (c : Int) := by omega
    have q3 : i ≤ c := by omega
    have q6 : ¬ ((i : Int) < 0) := by omega
    have hcs : (A = none ∧ n = 0 ∧ c = 0) ∨ (∃ g, A = some ⟨g, 0, none⟩) := by
      rcases ho.1.2 with ⟨h1, h2⟩ | ⟨g, cap, cur, h1, _⟩
      · injection h1 with h1 h3 h4; exact .inl ⟨h1, h3, h4⟩
      · injection h1 with h1 _ _; exact .inr ⟨g, h1⟩
    have hx : xs.take (i * 2) ++ xs.drop (i * 2) = xs := List.take_append_drop _ _
    have hfin : DelP 174 2 F n xs w (.returned (.slice A n c)) w := ⟨A, c, rfl, ho.imp (fun _ _ h => .inl h), Kept.refl _ _⟩
    rw [hx, Nat.sub_self, Nat.sub_zero]
    clear hAc ho hx hxl h1
    rcases hcs with ⟨rfl, rfl, rfl⟩ | ⟨g, rfl⟩
    · obtain rfl : i = 0 := by omega
      have Hfin := Lib.hid hfin
      clear hfin
      go_enter Tryz.func125, Tryz.ntmps125
      go_wp2
      go_ret
      exact Hfin.out
    · by_cases hci : c = i
      · obtain rfl : n = i := by omega
        subst hci
        have Hfin := Lib.hid hfin
        clear hfin
        go_enter Tryz.func125, Tryz.ntmps125
        go_wp2
        go_ret
        exact Hfin.out
      · by_cases hni : n = i
        · subst hni
          have Hfin := Lib.hid hfin
          clear hfin
          go_enter Tryz.func125, Tryz.ntmps125
          go_wp2
          go_ret
          exact Hfin.out
        · have Hfin := Lib.hid hfin
          clear hfin
          go_enter Tryz.func125, Tryz.ntmps125
          go_wp2
          go_ret
          exact Hfin.out
def ckL (g : Nat) (now : Int) (A : Option Addr) (n c : Nat) (l : List Al) : List Ch := [blkC g 168 #[.int .i64 now, .slice A n c], ownC 174 2 (.slice A n c) n (acs l)]
def Ck (w : World) (F : Nat → Prop) (g : Nat) (now : Int) (l : List Al) : Prop := ∃ A c, Star w F (ckL g now A l.length c l)
def ckC (g : Nat) (now : Int) (l : List Al) : Ch := ⟨fun w F => Ck w F g now l, fun ⟨A, c, h⟩ hF => ⟨A, c, h.imp hF⟩, fun ⟨A, c, h⟩ hk hd => ⟨A, c, h.kept hk hd⟩⟩
theorem ck_new (w : World) : Calls Tryz.prog 53 #[] w fun e w' => e = .returned (.pointer (some ⟨w.heap.size, 0, none⟩)) ∧ Ck w' (fun b => w.heap.size ≤ b) w.heap.size 0 [] ∧ Pure w w' := by
  have hr : Run w (fun _ => False) (w.alloc (.cells #[.int .i64 0, .slice none 0 0] 168)) (ckL w.heap.size 0 none 0 0 []) :=
    ((Run.start (F := fun _ => False) (w := w) (Ps := []) trivial).addNil 174 2).addBlk _ _
  have Hr := Lib.hid hr
  clear hr
  go_enter Tryz.func53, Tryz.ntmps53
  go_wp2
  go_ret
  exact ⟨rfl, ⟨none, 0, Hr.out.star.imp (fun b _ h => h.elim (fun h => h.elim) (fun h => h))⟩, Hr.out.kept⟩
theorem ck_now (w : World) (F : Nat → Prop) (g : Nat) (now : Int) (l : List Al) (h : Ck w F g now l) :
    Calls Tryz.prog 62 #[.pointer (some ⟨g, 0, none⟩)] w fun e w' => e = .returned (.int .i64 now) ∧ w' = w := by
  obtain ⟨A, c, h⟩ := h
  have hc := ((Run.start h).blk 0 rfl).cell
  clear h
  go_enter Tryz.func62, Tryz.ntmps62
  go_wp2
  go_ret
  exact ⟨rfl, rfl⟩
theorem ck_tick (w : World) (F : Nat → Prop) (g : Nat) (now n : Int) (l : List Al) (h : Ck w F g now l) (hnow : 0 ≤ now ∧ now ≤ 1099511627776) (hn : -9223372036854775808 ≤ n ∧ n ≤ 9223372036854775807) :
    Calls Tryz.prog 61 #[.pointer (some ⟨g, 0, none⟩), .int .i64 n] w fun e w' => e = .returned (.bool (tickA now n).1) ∧ Ck w' F g (tickA now n).2 l ∧ Kept F w w' := by
  obtain ⟨A, c, h⟩ := h
  have hr := Run.start h
  have hb := hr.blk 0 rfl
  have hc := hb.cell
  by_cases h0 : n < 0
  · have he : tickA now n = (false, now) := by unfold tickA; rw [if_pos (.inl h0)]
    rw [he]
    have H := Lib.hid h
    clear h hr hb he
    go_enter Tryz.func61, Tryz.ntmps61
    go_wp2
    go_ret
    exact ⟨rfl, ⟨A, c, H.out⟩, Kept.refl _ _⟩
  · have h0' : (n < 0) = False := by simp; omega
    by_cases h1 : 1099511627776 - now < n
    · have he : tickA now n = (false, now) := by unfold tickA; rw [if_pos (.inr h1)]
      rw [he]
      have H := Lib.hid h
      have hwr : IntKind.i64.wrap (1099511627776 - now) = 1099511627776 - now := by rw [IntKind.wrap_i64]; omega
      have h1' : (1099511627776 - now < n) = True := by simp; omega
      clear h hr hb he h1
      go_enter Tryz.func61, Tryz.ntmps61
      go_wp2
      go_ret
      exact ⟨rfl, ⟨A, c, H.out⟩, Kept.refl _ _⟩
    · have he : tickA now n = (true, now + n) := by unfold tickA; rw [if_neg (by omega)]
      rw [he]
      obtain ⟨G, hG, ⟨hg1, hg2⟩, hup⟩ := Star.at h 0 rfl
      have hks := (Kept.refl (· = g) w).setCell (p := ⟨g, 0, none⟩) (.inl rfl) (.int .i64 (now + n))
      have hst := (Star.at h 0 rfl)
      have hr2 : Run w F (w.setCell ⟨g, 0, none⟩ (.int .i64 (now + n))) (ckL g (now + n) A l.length c l) := hr.set 0 rfl 0 _
      have hFg : F g := (Star.get (P := blkC g 168 #[.int .i64 now, .slice A l.length c]) h 0 rfl).1
      have Hr2 := Lib.hid hr2
      have hf := hb.frozen
      have hwr : IntKind.i64.wrap (1099511627776 - now) = 1099511627776 - now := by rw [IntKind.wrap_i64]; omega
      have hwn : IntKind.i64.wrap (now + n) = now + n := by rw [IntKind.wrap_i64]; omega
      have h1' : (1099511627776 - now < n) = False := by simp; omega
      have hsz : (w.setCell ⟨g, 0, none⟩ (.int .i64 (now + n))).heap.size = w.heap.size := by simp
      clear h hr he hst hup hg1 hg2 hG hr2 h1 hks
      go_enter Tryz.func61, Tryz.ntmps61
      go_wp2
      go_ret
      exact ⟨rfl, ⟨A, c, Hr2.out.star.imp (fun b hb h => h.elim (fun h => h) (fun h => by omega))⟩, Hr2.out.kept⟩
theorem acs_snoc (l : List Al) (x : Al) : acs (l ++ [x]) = acs l ++ x.cells := by simp [acs]
theorem one_al (x : Al) : ∀ u ∈ x.cells, u.oneCell' = true := fun u hu => by simp [Al.cells] at hu; rcases hu with rfl | rfl <;> rfl
theorem one_als (l : List Al) : ∀ u ∈ acs l, u.oneCell' = true := fun u hu => by
  obtain ⟨x, _, hu⟩ := List.mem_flatMap.1 hu
  exact one_al x u hu
theorem ck_find (w : World) (F : Nat → Prop) (g : Nat) (now : Int) (l : List Al) (who : Int) (h : Ck w F g now l) (hz : l.length ≤ 100000) :
    Calls Tryz.prog 124 #[.pointer (some ⟨g, 0, none⟩), .int .i64 who] w fun e w' => e = .returned (.int .i64 (idA l who)) ∧ Pure w w' := by
  obtain ⟨A, c, h⟩ := h
  have hr := Run.start h
  have hb := hr.blk 0 rfl
  have hs := (hr.own 1 rfl).sl
  have hB := Blk.new w 3 #[.int .i64 who]
  have hp : Pure w (w.alloc (.cells #[.int .i64 who] 3)) := (Kept.refl _ _).alloc _
  have hcB := hB.cell 0
  have C := Lib.hid (ck_index l who A l.length c w.heap.size _ _ (hs.kept hp (fun _ _ _ h => h)) (by omega) hcB hB.lt)
  have hc := (hb.kept hp (fun h => h)).cell
  have hcc := hB.cell
  have q1 : ¬ g = w.heap.size := Nat.ne_of_lt hb.lt
  have q2 : ¬ w.heap.size = g := fun h => q1 h.symm
  clear h hr hs hb hB hcB
  go_enter Tryz.func124, Tryz.ntmps124
  go_wp2_with fail
  refine (C.out).mono ?_
  rintro e w1 ⟨rfl, hk1⟩
  go_wp2
  go_ret
  exact ⟨rfl, hp.same hk1⟩
theorem ck_drop (w : World) (F : Nat → Prop) (g : Nat) (now : Int) (l : List Al) (who : Int) (h : Ck w F g now l) (hz : l.length ≤ 100000) :
    Turn 64 #[.pointer (some ⟨g, 0, none⟩), .int .i64 who] w F (.bool (decide (0 ≤ idA l who))) (ckC g now (dropA l who)) := by
  have C := ck_find w F g now l who h (by omega)
  obtain ⟨A, c, h⟩ := h
  have hr := Run.start h
  unfold Turn
  by_cases hd : 0 ≤ idA l who
  · obtain ⟨k, x, hk, hx, _⟩ := idx_lt (show 0 ≤ idx _ _ from hd)
    have hk' : idA l who = (k : Nat) := hk
    have hkl := (List.getElem?_eq_some_iff.1 hx).1
    have he : dropA l who = l.eraseIdx k := by unfold dropA; rw [if_pos hd, hk']; rfl
    rw [he, show decide (0 ≤ idA l who) = true from by simpa using hd]
    rw [hk'] at C
    have C := Lib.hid C
    obtain ⟨n, hn⟩ : ∃ n, l.length = n := ⟨_, rfl⟩
    have hr : Run w F w [blkC g 168 #[.int .i64 now, .slice A n c], ownC 174 2 (.slice A n c) n (acs l)] := by rw [← hn]; exact hr
    have Hr := Lib.hid hr
    have Hn := Lib.hid hn
    rw [hn] at hkl
    rw [hn] at hz
    have hwi : IntKind.i64.wrap ((k : Int) + 1) = (k : Int) + 1 := by rw [IntKind.wrap_i64]; omega
    have hk0 : (0 : Int) ≤ (k : Int) := by omega
    have hi1 : (0 : Int) ≤ (k : Int) + 1 ∧ (k : Int) + 1 ≤ 1000000 := by omega
    clear h hr he hn hd hk hk' hx
    go_enter Tryz.func64, Tryz.ntmps64
    go_wp2_with fail
    refine (C.out).mono ?_
    rintro e w1 ⟨rfl, hk1⟩
    have hr1 := Hr.out.pure hk1
    have Hr1 := Lib.hid hr1
    have hc := (hr1.blk 0 rfl).cell
    clear hr1
    have c2 := Hr1.out.del 1 rfl (fun G ho => ck_del (acs l) (one_als l) A n c k (k + 1) w1 G ho (by omega) (by omega) (by omega))
    rw [show acs l = l.flatMap Al.cells from rfl, fm_erase Al.cells_len, show n - (k + 1 - k) = n - 1 by omega] at c2
    have C2 := Lib.hid c2
    clear c2
    go_wp2_with fail
    refine (C2.out).mono ?_
    rintro e w3 ⟨A', c', rfl, hr3⟩
    have hr3 : Run w F w3 [blkC g 168 #[.int .i64 now, .slice A n c], ownC 174 2 (.slice A' (n - 1) c') (n - 1) (acs (l.eraseIdx k))] := hr3
    have hc3 := (hr3.blk 0 rfl).cell
    have hf3 := (hr3.blk 0 rfl).frozen
    have Hr4 : Hid (Run w F (w3.setCell ⟨g, 1, none⟩ (.slice A' (n - 1) c')) [blkC g 168 #[.int .i64 now, .slice A' (n - 1) c'], ownC 174 2 (.slice A' (n - 1) c') (n - 1) (acs (l.eraseIdx k))]) := Lib.hid (hr3.set 0 rfl 1 (.slice A' (n - 1) c'))
    clear hr3
    go_wp2
    go_ret
    refine ⟨rfl, ⟨A', c', ?_⟩, Hr4.out.kept⟩
    have hl : (l.eraseIdx k).length = n - 1 := by rw [List.length_eraseIdx, Hn.out, if_pos hkl]
    unfold ckL
    rw [hl]
    exact Hr4.out.star
  · have he : dropA l who = l := by unfold dropA; rw [if_neg hd]
    have hk' := idx_neg (show ¬ 0 ≤ idx _ _ from hd)
    rw [he, show decide (0 ≤ idA l who) = false from by simpa using hd]
    rw [show idA l who = -1 from hk'] at C
    have C := Lib.hid C
    have Hr := Lib.hid hr
    clear h hd hk' he hr
    go_enter Tryz.func64, Tryz.ntmps64
    go_wp2_with fail
    refine (C.out).mono ?_
    rintro e w1 ⟨rfl, hk1⟩
    go_wp2
    go_ret
    exact ⟨rfl, ⟨A, c, (Hr.out.pure hk1).star⟩, (Hr.out.pure hk1).kept⟩
theorem dropA_len (l : List Al) (who : Int) : (dropA l who).length ≤ l.length := by
  unfold dropA; split
  · rw [List.length_eraseIdx]; split <;> omega
  · exact Nat.le_refl _
set_option maxHeartbeats 800000 in
theorem ck_set (w : World) (F : Nat → Prop) (g : Nat) (now : Int) (l : List Al) (who tm : Int) (h : Ck w F g now l) (hz : l.length ≤ 99999) :
    Turn 57 #[.pointer (some ⟨g, 0, none⟩), .int .i64 who, .int .i64 tm] w F (.tuple #[]) (ckC g now (setA l who tm)) := by
  have C := Lib.hid ((Run.of (P := ckC g now l) h).turn1 0 rfl (fun G _ hp => ck_drop w G g now l who hp (by omega)))
  have hl1 := dropA_len l who
  unfold Turn setA
  generalize dropA l who = l1 at *
  clear h
  go_enter Tryz.func57, Tryz.ntmps57
  go_wp2_with fail
  refine (C.out).mono ?_
  rintro e w1 ⟨rfl, hr1⟩
  have hr1 : Run w F w1 [ckC g now l1] := hr1
  obtain ⟨⟨A, c⟩, hr1⟩ := hr1.open1 (L := fun x : Option Addr × Nat => ckL g now x.1 l1.length x.2 l1) (fun G ⟨A, c, h⟩ => ⟨(A, c), h⟩)
  obtain ⟨n, hn⟩ : ∃ n, l1.length = n := ⟨_, rfl⟩
  have hr1 : Run w F w1 [blkC g 168 #[.int .i64 now, .slice A n c], ownC 174 2 (.slice A n c) n (acs l1)] := by rw [← hn]; exact hr1
  have Hn := Lib.hid hn
  rw [hn] at hl1
  have hc := (hr1.blk 0 rfl).cell
  have Hr1 := Lib.hid hr1
  clear hr1 hn
  go_wp2_with (first | (at_builtin; refine held ?_))
  refine unheld ?_
  refine (Hr1.out.alloc _).app 1 rfl Tryz.underlying166 info_ck rfl (by omega) (Sl.lit w1 #[.int .i64 who, .int .i64 tm] 174 2 1 _ rfl rfl) (one_al ⟨who, tm⟩) (by omega) (by omega) rfl _ _ rfl rfl rfl ?_
  intro v' w' ⟨A', c', hv, _, _⟩ hr2
  subst hv
  have hr2 : Run w F w' [blkC g 168 #[.int .i64 now, .slice A n c], ownC 174 2 (.slice A' (n + 1) c') (n + 1) (acs l1 ++ Al.cells ⟨who, tm⟩)] := hr2
  have hr3 : Run w F (w'.setCell ⟨g, 1, none⟩ (.slice A' (n + 1) c')) [blkC g 168 #[.int .i64 now, .slice A' (n + 1) c'], ownC 174 2 (.slice A' (n + 1) c') (n + 1) (acs l1 ++ Al.cells ⟨who, tm⟩)] := hr2.set 0 rfl 1 _
  have hf := (hr2.blk 0 rfl).frozen
  have hc2 := (hr2.blk 0 rfl).cell
  have Hr3 := Lib.hid hr3
  clear hr2 hr3
  go_wp2
  go_end0
  refine ⟨rfl, ⟨A', c', ?_⟩, Hr3.out.kept⟩
  have := Hr3.out.star
  rw [← acs_snoc] at this
  have hl : (l1 ++ [(⟨who, tm⟩ : Al)]).length = n + 1 := by simp [Hn.out]
  unfold ckL
  rw [hl]
  exact this
def AtP (now : Int) (l : List Al) (who : Int) (w : World) (e : Ending) (w' : World) : Prop := (∃ at_ ok, e = .returned (.tuple #[.int .i64 at_, .bool ok]) ∧ (ok && decide (at_ ≤ now)) = dueA now l who) ∧ Pure w w'
theorem ck_at (w : World) (F : Nat → Prop) (g : Nat) (now : Int) (l : List Al) (who : Int) (h : Ck w F g now l) (hz : l.length ≤ 100000) :
    Calls Tryz.prog 117 #[.pointer (some ⟨g, 0, none⟩), .int .i64 who] w (AtP now l who w) := by
  have C := ck_find w F g now l who h hz
  by_cases hd : 0 ≤ idA l who
  · obtain ⟨k, x, hk, hx, _⟩ := idx_lt (show 0 ≤ idx _ _ from hd)
    have hk' : idA l who = (k : Nat) := hk
    have he : dueA now l who = decide (x.tm ≤ now) := by unfold dueA; rw [hk', if_neg (by omega), show ((k : Nat) : Int).toNat = k from rfl, hx]
    rw [hk'] at C
    have C := Lib.hid C
    have H := Lib.hid h
    have Hx := Lib.hid hx
    have He := Lib.hid he
    have hkl := (List.getElem?_eq_some_iff.1 hx).1
    have hki : (k : Int) < (l.length : Int) := by omega
    have hk0 : (0 : Int) ≤ (k : Int) := by omega
    clear h hd hk hk' he hx
    go_enter Tryz.func117, Tryz.ntmps117
    go_wp2_with fail
    refine (C.out).mono ?_
    rintro e w1 ⟨rfl, hk1⟩
    obtain ⟨A, c, h⟩ := H.out
    have hr := (Run.start h).pure hk1
    have hc := (hr.blk 0 rfl).cell
    have hs := (hr.own 1 rfl).sl
    obtain ⟨b, o, rfl, _, _, _⟩ := hs.2 (by omega)
    have hcw := al_at hs Hx.out
    have hc2 := hcw.2
    clear h hr hs hcw
    go_wp2
    go_ret2
    exact ⟨⟨_, _, rfl, by rw [He.out]; simp⟩, hk1⟩
  · have he : dueA now l who = false := by unfold dueA; rw [if_pos (by omega)]
    have hk' := idx_neg (show ¬ 0 ≤ idx _ _ from hd)
    have He := Lib.hid he
    rw [show idA l who = -1 from hk'] at C
    have C := Lib.hid C
    clear h hd hk' he
    go_enter Tryz.func117, Tryz.ntmps117
    go_wp2_with fail
    refine (C.out).mono ?_
    rintro e w1 ⟨rfl, hk1⟩
    go_wp2
    go_ret2
    exact ⟨⟨_, _, rfl, by rw [He.out]; rfl⟩, hk1⟩
theorem ck_due (w : World) (F : Nat → Prop) (g : Nat) (now : Int) (l : List Al) (who : Int) (h : Ck w F g now l) (hz : l.length ≤ 100000) :
    Reads 55 #[.pointer (some ⟨g, 0, none⟩), .int .i64 who] w (.bool (dueA now l who)) := by
  have C := Lib.hid (ck_at w F g now l who h hz)
  have H := Lib.hid h
  unfold Reads
  clear h
  go_enter Tryz.func55, Tryz.ntmps55
  go_wp2_with fail
  refine (C.out).mono ?_
  rintro e w1 ⟨⟨a, ok, rfl, hd⟩, hk1⟩
  obtain ⟨A, c, h⟩ := H.out
  have hc := (((Run.start h).pure hk1).blk 0 rfl).cell
  have Hd := Lib.hid hd
  clear h hd
  cases ok with
  | true =>
    go_wp2
    go_ret
    exact ⟨by rw [← Hd.out]; rfl, hk1⟩
  | false =>
    go_wp2
    go_ret
    exact ⟨by rw [← Hd.out]; rfl, hk1⟩
end Go.Proofs.YtbgcnagojjjbeaaGreat
