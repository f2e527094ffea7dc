/-
  omap: Del, New walked.
-/
import Derived.Test.YtmpbmfahnbbbdaaOmD
import Derived.Test.YtmpbmfahnbbbdaaOmW
set_option linter.unusedSimpArgs false
set_option linter.unusedVariables false
namespace Go.Proofs.Ytmpbmfahnbbbdaa
open Go.RowKit
set_option maxRecDepth 100000
theorem ecs_one {α : Type} (enc : α → Value) (h : ∀ x, (enc x).oneCell' = true) (es : List (En α)) : ∀ u ∈ ecs enc es, u.oneCell' = true := by
  intro u hu
  simp only [ecs, List.mem_flatMap, enCells, List.mem_cons, List.not_mem_nil, or_false] at hu
  obtain ⟨x, _, rfl | rfl⟩ := hu
  · rfl
  · exact h _
theorem delE_le {α : Type} (es : List (En α)) (t : List UInt8) : (delE es t).length ≤ es.length := by
  unfold delE
  split
  · rw [List.length_eraseIdx]; split <;> omega
  · exact Nat.le_refl _

set_option maxHeartbeats 1600000 in
theorem i_mdel (w : World) (F : Nat → Prop) (g : Nat) (es : List (En Int)) (k : ByteArray) (h : Mpi w F g es) :
    Calls Try.prog 34 #[.pointer (some ⟨g, 0, none⟩), .string k] w (MpP 63 65 (Value.int .i64) F g (delE es (kb k)) (has es (kb k)) w) := by
  have C := Lib.hid (i_find w F g es k h)
  have hrp := rises_del h.2.1 (kb k)
  have hgF := h.1
  cases hh : has es (kb k) with
  | true =>
    rw [hh] at C
    obtain ⟨e, he⟩ : ∃ e, es[low es (kb k)]? = some e := by
      cases hl : es[low es (kb k)]? with
      | none => unfold has at hh; rw [hl] at hh; cases hh
      | some e => exact ⟨e, rfl⟩
    have hdel : delE es (kb k) = es.eraseIdx (low es (kb k)) := by unfold delE; rw [if_pos hh]
    rw [hdel] at hrp ⊢
    have hk := (List.getElem?_eq_some_iff.1 he).1
    have hn1 := h.2.2.1
    generalize low es (kb k) = i at *
    have H := Lib.hid h
    have Hrp := Lib.hid hrp
    have hki : (i : Int) < (es.length : Int) := by omega
    have hi1 : (0 : Int) ≤ (i : Int) + 1 ∧ (i : Int) + 1 ≤ 1000000 := by omega
    have hwi : IntKind.i64.wrap ((i : Int) + 1) = (i : Int) + 1 := by rw [IntKind.wrap_i64]; omega
    have hlen : (es.eraseIdx i).length = es.length - (i + 1 - i) := by rw [List.length_eraseIdx]; split <;> omega
    obtain ⟨fs, hfs⟩ : ∃ fs, es.eraseIdx i = fs := ⟨_, rfl⟩
    rw [hfs] at hlen ⊢
    have Hfs := Lib.hid hfs
    clear h he hdel hrp hh hfs
    go_enter Try.func34, Try.ntmps34
    go_wp2_with fail
    refine (C.out).mono ?_
    rintro e w1 ⟨rfl, hk1⟩
    obtain ⟨h0, h1, h2, A, c, hb, ho⟩ := H.out.kept hk1 (fun _ _ _ h => h)
    have hc := hb.cell
    have c2 := (i_del (ecs (Value.int .i64) es) (ecs_one (Value.int .i64) (fun _ => rfl) es) A es.length c i (i + 1) w1 _ ho (by omega) (by omega) (by omega))
    rw [← ecs_take, ← ecs_drop, ← ecs_append, ← List.eraseIdx_eq_take_drop_succ, Hfs.out, ← hlen] at c2
    have C2 := Lib.hid c2
    have Hbg := Lib.hid hb
    have Hk1 := Lib.hid hk1
    have hle : fs.length ≤ 100000 := by omega
    clear hb ho h1 hk1 c2 hlen
    go_wp2_with fail
    refine C2.out.mono ?_
    rintro e' w3 ⟨A', c', rfl, ho3, hk3⟩
    have hbg3 := Hbg.out.kept hk3 (fun h => h.2 rfl)
    have hc3 := hbg3.cell
    have hf3 := hbg3.frozen 0
    have hb4 := hbg3.set 0 (.slice A' fs.length c')
    have hks := (Kept.refl (· = g) w3).setCell (p := ⟨g, 0, none⟩) (.inl rfl) (.slice A' fs.length c')
    have hgl3 : g < w3.heap.size := hbg3.lt
    have hgl1 := Hbg.out.lt
    have hsz := Hk1.out.size
    have ho3' : Own w3 (fun b => (F b ∨ w.heap.size ≤ b) ∧ b ≠ g) 65 2 (.slice A' fs.length c') fs.length (ecs (Value.int .i64) (fs)) := ho3.imp (fun b hl hb => by
      rcases hb with hb | hb
      · exact ⟨.inl hb.1, hb.2⟩
      · exact ⟨.inr (by omega), by omega⟩)
    have hown := ho3'.kept hks (fun b hl hb e => hb.2 e)
    have hkF : Kept F w (w3.setCell ⟨g, 0, none⟩ (.slice A' fs.length c')) := (((Hk1.out.mono (fun _ _ h => h.elim)).same (hk3.mono (fun _ _ h => h.1)))).same (hks.mono (fun j _ h => by have h2 : j = g := h; rw [h2]; exact hgF))
    have Hown := Lib.hid hown
    have Hbg := Lib.hid hb4
    have HkF := Lib.hid hkF
    clear ho3 ho3' hk3 hb4 hbg3 hks hown hkF
    go_wp2
    go_ret
    exact ⟨rfl, ⟨.inl hgF, Hfs.out ▸ Hrp.out, hle, A', c', Hbg.out, Hown.out⟩, HkF.out⟩
  | false =>
    rw [hh] at C
    have hdel : delE es (kb k) = es := by unfold delE; rw [if_neg (by rw [hh]; simp)]
    rw [hdel] at hrp ⊢
    have H := Lib.hid h
    clear h hdel hrp hh
    go_enter Try.func34, Try.ntmps34
    go_wp2_with fail
    refine (C.out).mono ?_
    rintro e w1 ⟨rfl, hk1⟩
    go_wp2
    go_ret
    exact ⟨rfl, (H.out.kept hk1 (fun _ _ _ h => h)).imp (fun _ _ h => .inl h), hk1.mono (fun _ _ h => h.elim)⟩
theorem i_new (w : World) : Calls Try.prog 27 #[] w fun e w' => e = .returned (.pointer (some ⟨w.heap.size, 0, none⟩)) ∧ Mpi w' (fun b => b = w.heap.size) w.heap.size [] ∧ Pure w w' := by
  have h : Mpi (w.alloc (.cells #[.slice none 0 0] 63)) (fun b => b = w.heap.size) w.heap.size [] :=
    ⟨rfl, List.Pairwise.nil, by simp, none, 0, Blk.new w _ _, Own.nil _ _ _ _⟩
  have H := Lib.hid h
  clear h
  go_enter Try.func27, Try.ntmps27
  go_wp2
  go_ret
  exact ⟨rfl, H.out, (Kept.refl _ _).alloc _⟩
end Go.Proofs.Ytmpbmfahnbbbdaa
