/-
  omap: All, Keys.
-/
import Derived.Test.YtdgfefnaoionpaaOmU
import Derived.Test.YtdgfefnaoionpaaIter
set_option linter.unusedSimpArgs false
set_option linter.unusedVariables false
namespace Go.Proofs.Ytdgfefnaoionpaa
open Go.RowKit
set_option maxRecDepth 100000
attribute [local go_sem] Oper.semAt_some

theorem underE_all {α : Type} (es : List (En α)) : underE es (kb ⟨#[]⟩) = es := by
  have h0 : low es (kb ⟨#[]⟩) = 0 := low_of es 0 (Nat.zero_le _) (fun p e h => by omega) (fun e _ h => by simp [kb] at h)
  unfold underE
  rw [h0, List.drop_zero, takeWhile_all es es.length (Nat.le_refl _) (fun j e hj he => by simp [kb, Lib.hasPrefix]) (fun e he => by have := (List.getElem?_eq_some_iff.1 he).1; omega), List.take_length]

theorem info_str : (Try.prog.info? 9).map (fun i => (i.zero, i.size, i.bytes)) = some (some (.string ⟨#[]⟩), 1, 16) := by kernel_rfl
theorem i_all (w : World) (g : Nat) : Calls Try.prog 17 #[.pointer (some ⟨g, 0, none⟩)] w fun e w' =>
    e = .returned (.func (.func 30) #[] #[.pointer (some ⟨w.heap.size, 0, none⟩), .pointer (some ⟨w.heap.size + 1, 0, none⟩)]) ∧ w' = (w.alloc (.cells #[.pointer (some ⟨g, 0, none⟩)] 25)).alloc (.cells #[.string ⟨#[]⟩] 9) := by
  have C := Lib.hid (fun w => i_under w g ⟨#[]⟩)
  go_enter Try.func17, Try.ntmps17
  go_wp2_with fail
  refine (C.out _).mono ?_
  rintro e w' ⟨rfl, rfl⟩
  go_wp2
  go_ret
  exact ⟨rfl, rfl⟩
set_option maxHeartbeats 3200000 in
theorem i_keys (w : World) (F : Nat → Prop) (g : Nat) (es : List (En Int)) (h : Mpi w F g es) : Calls Try.prog 11 #[.pointer (some ⟨g, 0, none⟩)] w fun e w' =>
    ∃ A c, e = .returned (.slice A es.length c) ∧ Own w' (fun b => w.heap.size ≤ b) 9 1 (.slice A es.length c) es.length (es.map fun e : En Int => Value.string e.1) ∧ Pure w w' := by
  have hn := h.2.2.1
  have H := Lib.hid h
  obtain ⟨N, hN⟩ : ∃ N, w.heap.size = N := ⟨_, rfl⟩
  clear h
  refine callsIn_wide (n := 5).1 ?_
  refine callsIn_of_wp_marks Try.func11 rfl trivial ?_ rfl
  simp only [Try.ntmps11, List.size_toArray, List.length_cons, List.length_nil, Nat.reduceAdd, Nat.reduceSub, Array.replicate_succ, Array.replicate_zero, List.push_toArray, List.append_toArray, List.nil_append, List.cons_append]
  gi_wp2_with (refine ⟨trivial, ?_⟩; gi_at_call 17; refine (callsIn_wide.2 (i_all _ g)).mono ?_; rintro e w' ⟨rfl, rfl⟩)
  obtain ⟨W0, hW0⟩ : ∃ W0, ((w.alloc (.cells #[.slice none 0 0] 30)).alloc (.cells #[.pointer (some ⟨g, 0, none⟩)] 25)).alloc (.cells #[.string ⟨#[]⟩] 9) = W0 := ⟨_, rfl⟩
  have hk0 : Pure w W0 := by rw [← hW0]; exact (((Kept.refl _ w).alloc _).alloc _).alloc _
  have hs0 : W0.heap.size = N + 3 := by rw [← hW0, ← hN]; simp
  have hO : Blk W0 N 30 #[.slice none 0 0] := by rw [← hW0, ← hN]; exact ((Blk.new w _ _).alloc _).alloc _
  have hM : Blk W0 (N + 1) 25 #[.pointer (some ⟨g, 0, none⟩)] := by
    rw [← hW0, ← hN]
    have := Blk.new (w.alloc (.cells #[.slice none 0 0] 30)) 25 #[.pointer (some ⟨g, 0, none⟩)]
    rw [World.size_alloc] at this
    exact this.alloc _
  have hP : Blk W0 (N + 2) 9 #[.string ⟨#[]⟩] := by
    rw [← hW0, ← hN]
    have := Blk.new ((w.alloc (.cells #[.slice none 0 0] 30)).alloc (.cells #[.pointer (some ⟨g, 0, none⟩)] 25)) 9 #[.string ⟨#[]⟩]
    rw [World.size_alloc, World.size_alloc] at this
    exact this
  have hMp : Mpi W0 (fun b => F b ∧ b < N) g es := (H.out.imp (fun b hl h => ⟨h, by omega⟩)).kept hk0 (fun _ _ _ h => h)
  have hst := i_stops (5 - 1) (by omega) (N + 1) (N + 2) g (fun b => b = N ∨ N + 3 ≤ b) _ es ⟨#[]⟩ W0 hM (by omega) hP (by omega) hMp (fun b h => by omega)
  rw [underE_all] at hst
  rw [hW0]
  clear hW0 hM hP hMp
  refine wpIn_rangeFunc_ownG rfl (by omega) (gf := 30) (lb := #[.pointer (some ⟨N + 1, 0, none⟩), .pointer (some ⟨N + 2, 0, none⟩)]) rfl trivial (enters_of Try.func30 (by kernel_rfl) rfl) hst kept_t (kept_b (fun b hb => by omega)) (Below.refl _ _) (fun _ => rfl)
    (fun pre W => (∃ A c, Blk W N 30 #[.slice A pre.length c] ∧ Own W (fun b => N + 3 ≤ b) 9 1 (.slice A pre.length c) pre.length (pre.map fun e : En Int => Value.string e.1)) ∧ Kept (fun b => b = N ∨ N + 3 ≤ b) W0 W)
    (fun _ _ _ => False)
    (OwnFrom.and (fun pre A B row ⟨a, c, h1, h2⟩ hg hr => ⟨a, c, h1.grown hg (fun r e => (hr r e).2), h2.grown hg (fun r e => (hr r e).2)⟩) (ownFrom_kept (fun b hb => by omega)))
    (fun _ _ _ _ _ hs _ _ => hs)
    ⟨⟨none, 0, hO, Own.nil _ _ _ _⟩, Kept.refl _ _⟩
    (fun x => { tmps := #[.pointer (some ⟨g, 0, none⟩), undef, .slice none 0 0, .pointer (some ⟨N, 0, none⟩), .string x.1, .pointer (some ⟨g, 0, none⟩), .func (.func 30) #[] #[.pointer (some ⟨N + 1, 0, none⟩), .pointer (some ⟨N + 2, 0, none⟩)], .string x.1, (Value.int .i64) x.2, undef, undef, undef, undef, undef], defers := [] }) ?assign ?body ?done ?stop
  case assign =>
    intro l x W K hK
    simp only [encE]
    gi_wp2
    exact hK
  case body =>
    rintro l pre x W ⟨⟨A, c, hv, hrow⟩, hk⟩ hlt
    have hc := hv.cell
    have hsz := hk.size
    gi_wp2_with (gi_at_builtin; refine held ?_)
    refine unheld ?_
    refine wpIn_collect (N + 3) Try.underlying30 info_str rfl (by omega) (by simp; omega) (hrow.alloc _) (Sl.one W (.string x.1) _) (by simp [Value.oneCell']) (by omega) (by omega) rfl _ _ rfl rfl rfl ?_
    intro A' c' w1 ho1 hk1 hoth1
    have hv1 := (hv.alloc (.cells #[.string x.1] 9)).kept hk1 (by omega)
    have hc1 := hv1.cell
    have hf1 := hv1.frozen 0
    have hb2 := hv1.set 0 (.slice A' (pre.length + 1) c')
    have hks := (Kept.refl (· = N) w1).setCell (p := ⟨N, 0, none⟩) (.inl rfl) (.slice A' (pre.length + 1) c')
    have ho2 := ho1.kept hks (fun b _ h e => by omega)
    have hkk : Kept (fun b => b = N ∨ N + 3 ≤ b) W (w1.setCell ⟨N, 0, none⟩ (.slice A' (pre.length + 1) c')) := ((((Kept.refl _ W).alloc (.cells #[.string x.1] 9)).same (hk1.mono (fun _ _ h => .inr h))).same (hks.mono (fun _ _ h => .inl h)))
    have hko : KeepsOthers W (w1.setCell ⟨N, 0, none⟩ (.slice A' (pre.length + 1) c')) := ((KeepsOthers.alloc W _).trans hoth1).trans (KeepsOthers.setCell _ _ _)
    have Hb2 := Lib.hid hb2
    have Ho2 := Lib.hid ho2
    have Hkk := Lib.hid hkk
    have Hko := Lib.hid hko
    clear hb2 ho2 hkk hko hks hv1 hk1 hoth1 ho1
    gi_wp2
    refine ⟨Hko.out.from _, Hkk.out, ⟨A', c', ?_, ?_⟩, hk.same Hkk.out⟩
    · simpa using Hb2.out
    · simpa using Ho2.out
  case done =>
    rintro D ys W hD rfl ⟨⟨A, c, hv, hrow⟩, hk⟩ hK
    have hc := hv.cell
    gi_wp2
    refine ⟨by simp, .inl ⟨_, _, rfl, run_takeDeferred hK, ?_⟩⟩
    have hgr := grownBy_putObj' W D (.deferred none)
    have hr : ∀ r, some D = some r → ∃ o : Obj, W.heap[r]? = some o ∧ o.isCells = false := fun r e => by cases e; exact ⟨_, hK, rfl⟩
    refine ⟨_, results_tmp rfl _ _ _, A, c, rfl, (hrow.grown hgr hr).imp (fun b _ h => by omega), ?_⟩
    have hkk : Kept (fun b => b = N ∨ N + 3 ≤ b) W0 (W.putObj D (.deferred none)) := hk.grown hgr (fun k e => by cases e; exact .inl (.inr (by omega)))
    exact hk0.trans hkk (fun i hi h => by omega)
  case stop =>
    rintro D c pre W _ _ h _
    exact h.elim
end Go.Proofs.Ytdgfefnaoionpaa
