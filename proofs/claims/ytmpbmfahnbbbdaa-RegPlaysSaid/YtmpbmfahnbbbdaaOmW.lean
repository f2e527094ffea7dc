/-
  omap: Put walked.
-/
import Derived.Test.YtmpbmfahnbbbdaaOmK
import Derived.Test.YtmpbmfahnbbbdaaOmQ
set_option linter.unusedSimpArgs false
set_option linter.unusedVariables false
namespace Go.Proofs.Ytmpbmfahnbbbdaa
open Go.RowKit
set_option maxRecDepth 100000
/-- What a writing call leaves: the map, its blocks of F or new ones. -/
def MpP {α : Type} (T E : TypeId) (enc : α → Value) (F : Nat → Prop) (g : Nat) (es : List (En α)) (b : Bool) (w : World) (r : Ending) (w' : World) : Prop :=
  r = .returned (.bool b) ∧ Mp T E enc w' (fun b => F b ∨ w.heap.size ≤ b) g es ∧ Kept F w w'

theorem ecs_modify {α : Type} (enc : α → Value) (es : List (En α)) (i : Nat) (v : α) (h : i < es.length) : ecs enc (es.modify i (fun e => (e.1, v))) = (ecs enc es).set (i * 2 + 1) (enc v) := by
  induction es generalizing i with
  | nil => simp at h
  | cons e es ih =>
    cases i with
    | zero => simp [ecs, enCells]
    | succ i =>
      have := ih i (by simpa using h)
      simp only [ecs, List.modify_succ_cons, List.flatMap_cons, enCells, List.cons_append, List.nil_append] at this ⊢
      rw [this, show (i + 1) * 2 + 1 = (i * 2 + 1) + 1 + 1 from by omega]
      rfl

set_option maxHeartbeats 1600000 in
theorem i_put (w : World) (F : Nat → Prop) (g : Nat) (es : List (En Int)) (k : ByteArray) (v : Int) (h : Mpi w F g es) (hn : es.length < 100000) (hF : ∀ b, F b → b < w.heap.size) :
    Calls Try.prog 33 #[.pointer (some ⟨g, 0, none⟩), .string k, .int .i64 v] w (MpP 63 65 (Value.int .i64) F g (putE es k v) (!has es (kb k)) w) := by
  have C := Lib.hid (i_find w F g es k h)
  have hrp := rises_put h.2.1 k v
  have hgF := h.1
  cases hh : has es (kb k) with
  | true =>
    rw [hh] at C
    obtain ⟨e, he⟩ : ∃ e, es[low es (kb k)]? = some e := by
      cases hl : es[low es (kb k)]? with
      | none => unfold has at hh; rw [hl] at hh; cases hh
      | some e => exact ⟨e, rfl⟩
    have hput : putE es k v = es.modify (low es (kb k)) (fun e => (e.1, v)) := by unfold putE; rw [if_pos hh]
    rw [hput] at hrp ⊢
    have hk := (List.getElem?_eq_some_iff.1 he).1
    generalize low es (kb k) = i at *
    have H := Lib.hid h
    have He := Lib.hid he
    have Hrp := Lib.hid hrp
    have hki : (i : Int) < (es.length : Int) := by omega
    clear h he hput hrp hh
    go_enter Try.func33, Try.ntmps33
    go_wp2_with fail
    refine (C.out).mono ?_
    rintro e w1 ⟨rfl, hk1⟩
    obtain ⟨h0, h1, h2, A, c, hb, ho⟩ := H.out.kept hk1 (fun _ _ _ h => h)
    have hc := hb.cell
    obtain ⟨gr, cur, rfl, hgr, hgb, hnc, hcm, hcs, hct⟩ := own_row ho (by omega)
    obtain ⟨hc1, hc2⟩ := en_cells ho.sl He.out
    rw [Nat.zero_add] at hc1 hc2
    have hf1 := hgb.frozen (i * 2 + 1)
    have hb2 := hgb.set (i * 2 + 1) (.int .i64 v)
    have hks := (Kept.refl (· = gr) w1).setCell (p := ⟨gr, i * 2 + 1, none⟩) (.inl rfl) (.int .i64 v)
    have hbg := hb.kept hks (fun e => hgr.2 e.symm)
    have hkF : Kept F w (w1.setCell ⟨gr, i * 2 + 1, none⟩ (.int .i64 v)) := (hk1.mono (fun _ _ h => h.elim)).same (hks.mono (fun j _ h => by have h2 : j = gr := h; rw [h2]; exact hgr.1))
    have hlen : (es.modify i (fun e => (e.1, v))).length = es.length := by simp
    have hown : Own (w1.setCell ⟨gr, i * 2 + 1, none⟩ (.int .i64 v)) (fun b => (F b ∨ w.heap.size ≤ b) ∧ b ≠ g) 65 2 (.slice (some ⟨gr, 0, none⟩) es.length c) es.length (ecs (Value.int .i64) (es.modify i (fun e => (e.1, v)))) := by
      refine ⟨⟨by rw [ecs_length, hlen], .inr ⟨gr, c, _, rfl, Nat.zero_le _, hb2, hnc, hcm, by simpa using hcs, ?_⟩⟩, fun b hb => ?_⟩
      · rw [Array.toList_setIfInBounds, List.take_set, hct, ecs_modify (Value.int .i64) es i v (by omega)]
      · simp [Value.ownBlock] at hb
        subst hb
        exact ⟨.inl hgr.1, hgr.2⟩
    have Hown := Lib.hid hown
    have Hbg := Lib.hid hbg
    have HkF := Lib.hid hkF
    clear hb ho h1 hgb hct hcs hb2 hks hbg hkF hown
    go_wp2
    go_ret
    exact ⟨rfl, ⟨.inl hgF, Hrp.out, by rw [hlen]; exact h2, _, c, by rw [hlen]; exact Hbg.out, by rw [hlen]; exact Hown.out⟩, HkF.out⟩
  | false =>
    rw [hh] at C
    have hput : putE es k v = insE es (low es (kb k)) (k, v) := by unfold putE; rw [if_neg (by rw [hh]; simp)]
    rw [hput] at hrp ⊢
    have hle := low_le es (kb k)
    generalize low es (kb k) = i at *
    have H := Lib.hid h
    have Hrp := Lib.hid hrp
    clear h hput hrp hh
    go_enter Try.func33, Try.ntmps33
    go_wp2_with fail
    refine (C.out).mono ?_
    rintro e w1 ⟨rfl, hk1⟩
    obtain ⟨h0, h1, h2, A, c, hb, ho⟩ := H.out.kept hk1 (fun _ _ _ h => h)
    have hc := hb.cell
    have hsz := hk1.size
    have hgl := hF g hgF
    have C2 := Lib.hid (i_insert es A es.length c i w1.heap.size (k, v) (w1.alloc (.cells #[.string k, .int .i64 v] 65)) (fun b => F b ∧ b ≠ g) (ho.alloc _) (by omega) (Blk.new _ _ _) (fun h => absurd (hF _ h.1) (by omega)) hle)
    have Hbg := Lib.hid (hb.alloc (.cells #[.string k, .int .i64 v] 65))
    have Hk2 := Lib.hid (hk1.alloc (.cells #[.string k, .int .i64 v] 65))
    clear hb ho h1
    go_wp2_with fail
    refine C2.out.mono ?_
    rintro e w3 ⟨A', c', rfl, ho3, hk3⟩
    have hlen : (insE es i (k, v)).length = es.length + 1 := insE_length _ _ _
    have hbg3 := Hbg.out.kept hk3 (fun h => h.2 rfl)
    have hc3 := hbg3.cell
    have hf3 := hbg3.frozen 0
    have hgl3 : g < w3.heap.size := hbg3.lt
    have hb4 := hbg3.set 0 (.slice A' (es.length + 1) c')
    have hks := (Kept.refl (· = g) w3).setCell (p := ⟨g, 0, none⟩) (.inl rfl) (.slice A' (es.length + 1) c')
    have hsz3 : w.heap.size ≤ (w1.alloc (.cells #[.string k, .int .i64 v] 65)).heap.size := by simp; omega
    have ho3' : Own w3 (fun b => (F b ∨ w.heap.size ≤ b) ∧ b ≠ g) 65 2 (.slice A' (es.length + 1) c') (es.length + 1) (ecs (Value.int .i64) (insE es i (k, v))) := ho3.imp (fun b hl hb => by
      rcases hb with hb | hb
      · exact ⟨.inl hb.1, hb.2⟩
      · exact ⟨.inr (by omega), by omega⟩)
    have hown := ho3'.kept hks (fun b hl hb e => hb.2 e)
    have hkF : Kept F w (w3.setCell ⟨g, 0, none⟩ (.slice A' (es.length + 1) c')) := (((Hk2.out.mono (fun _ _ h => h.elim)).same (hk3.mono (fun _ _ h => h.1)))).same (hks.mono (fun j _ h => by have h2 : j = g := h; rw [h2]; exact hgF))
    have Hown := Lib.hid hown
    have Hbg := Lib.hid hb4
    have HkF := Lib.hid hkF
    clear ho3 ho3' hk3 hb4 hbg3 hks hown hkF
    go_wp2
    go_ret
    exact ⟨rfl, ⟨.inl hgF, Hrp.out, by rw [hlen]; omega, A', c', by rw [hlen]; exact Hbg.out, by rw [hlen]; exact Hown.out⟩, HkF.out⟩
end Go.Proofs.Ytmpbmfahnbbbdaa
