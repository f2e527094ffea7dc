/-
  rw: Ask, Leave, Queue walked.
-/
import Derived.Test.YtggnndopncegaaaRwM
import Derived.Deep.QuietTactic
import Derived.BigQuiet
set_option linter.unusedSimpArgs false
set_option linter.unusedVariables false
namespace Go.Proofs.Ytggnndopncegaaa
open Go.RowKit
set_option maxRecDepth 100000

set_option maxHeartbeats 3200000 in
theorem lk_ask (w : World) (F : Nat → Prop) (g : Nat) (k : Lk) (who : Int) (b : Bool) (h : Lp w F g k) (hz : k.size ≤ 99999) :
    Calls Try.prog 9 #[.pointer (some ⟨g, 0, none⟩), .int .i64 who, .bool b] w fun e w' => e = .returned (.bool (k.ask who b).1) ∧ Lp w' (fun b => F b ∨ w.heap.size ≤ b) g (k.ask who b).2 ∧ Kept F w w' := by
  have C1 := Lib.hid (lk_state w F g k who h (by omega))
  by_cases hs : k.st who = 0
  · rw [hs] at C1
    have hask : k.ask who b = (decide (((Lk.move { k with qu := k.qu ++ [(who, b)] }).2).st who ≠ 1), (Lk.move { k with qu := k.qu ++ [(who, b)] }).2) := by unfold Lk.ask; rw [if_pos hs]
    rw [hask]
    obtain ⟨k2, hk2⟩ : ∃ k2, Lk.move { k with qu := k.qu ++ [(who, b)] } = k2 := ⟨_, rfl⟩
    have hz2 : k2.2.size ≤ 100000 := by
      have := move_size { k with qu := k.qu ++ [(who, b)] }
      rw [hk2] at this
      simp only [Lk.size, List.length_append, List.length_cons, List.length_nil] at this hz ⊢
      omega
    rw [hk2]
    have Hk2 := Lib.hid hk2
    have H := Lib.hid h
    clear h hask hs hk2
    go_enter Try.func9, Try.ntmps9
    go_wp2_with fail
    refine (C1.out).mono ?_
    rintro e w1 ⟨rfl, hk1⟩
    obtain ⟨h0, A1, c1, A2, c2, hb, h1, h2⟩ := H.out.kept hk1 (fun _ _ _ h => h)
    have hc := hb.cell
    have hf := hb.frozen
    have hgl := hb.lt
    have Hb := Lib.hid hb
    have H1 := Lib.hid h1
    have H2 := Lib.hid h2
    have Hk1 := Lib.hid hk1
    clear hb h1 h2 hk1
    have hzq : k.qu.length ≤ 99999 := by simp only [Lk.size] at hz; omega
    go_wp2_with (first | (at_builtin; refine held ?_))
    refine unheld ?_
    refine wp_app Try.underlying41 info_q rfl (by omega) (H2.out.mini.alloc _) (Sl.lit w1 #[.int .i64 who, .bool b] 45 2 1 _ rfl rfl) (qcs_one [(who, b)]) (by omega) (by omega) rfl _ _ rfl rfl rfl ?_
    intro v3 w3 ho3 hk3
    obtain ⟨A3, c3, rfl, _⟩ := ho3.form
    have hb3 := (Hb.out.alloc (.cells #[.int .i64 who, .bool b] 45)).kept hk3 (fun h => (H2.out.2 g h).2 rfl)
    have hf3 := hb3.frozen
    have hc3 := hb3.cell
    have hb4 := hb3.set 3 (.slice A3 (k.qu.length + 1) c3)
    have hk4 : Kept (· = g) w3 (w3.setCell ⟨g, 3, none⟩ (.slice A3 (k.qu.length + 1) c3)) := (Kept.refl (· = g) w3).setCell (p := ⟨g, 3, none⟩) (.inl rfl) _
    have hL : Lp (w3.setCell ⟨g, 3, none⟩ (.slice A3 (k.qu.length + 1) c3)) (fun b => F b ∨ w.heap.size ≤ b) g { k with qu := k.qu ++ [(who, b)] } := by
      refine ⟨.inl h0, A1, c1, A3, c3, by simpa using hb4, ?_, ?_⟩
      · exact (((H1.out.mini.alloc (.cells #[.int .i64 who, .bool b] 45)).kept hk3 (fun b _ h1 h2 => own_apart H1.out H2.out (by decide) h1 h2)).kept hk4 (fun b _ h e => (H1.out.2 b h).2 e)).imp (fun b _ h => ⟨.inl (H1.out.2 b h).1, (H1.out.2 b h).2⟩)
      · have hs1 := Hk1.out.size
        have := (ho3.kept hk4 (fun b _ h e => by
          have e' : b = g := e
          rcases h with h | h
          · exact (H2.out.2 b h).2 e'
          · simp at h; omega)).imp (G := fun b => (F b ∨ w.heap.size ≤ b) ∧ b ≠ g) (fun b _ h => by
          rcases h with h | h
          · exact ⟨.inl (H2.out.2 b h).1, (H2.out.2 b h).2⟩
          · simp at h; exact ⟨.inr (by omega), by omega⟩)
        simpa [qcs] using this
    have hk14 : Kept F w (w3.setCell ⟨g, 3, none⟩ (.slice A3 (k.qu.length + 1) c3)) := (((Hk1.out.mono (fun _ _ h => h.elim)).alloc _).trans hk3 (fun b _ h => (H2.out.2 b h).1)).trans hk4 (fun b _ h => by have h' : b = g := h; rw [h']; exact h0)
    have CM := Lib.hid (lk_move _ _ g _ hL (by simp only [Lk.size, List.length_append, List.length_cons, List.length_nil] at hz ⊢; omega))
    have Hk14 := Lib.hid hk14
    clear hb3 hb4 hL hk4 hk14 ho3 hk3
    go_wp2_with fail
    refine (CM.out).mono ?_
    rintro e w5 ⟨A5, n5, c5, rfl, _, hl5, hk5⟩
    rw [Hk2.out] at hl5
    have C2 := Lib.hid (lk_state w5 _ g k2.2 who hl5 hz2)
    have Hl5 := Lib.hid hl5
    have Hk5 := Lib.hid hk5
    clear hl5 hk5
    go_wp2_with fail
    refine (C2.out).mono ?_
    rintro e w6 ⟨rfl, hk6⟩
    go_wp2
    go_ret
    have hsz := Hk14.out.size
    refine ⟨?_, (Hl5.out.kept hk6 (fun _ _ _ h => h)).imp (fun b _ h => ?_), ((Hk14.out.trans Hk5.out (fun b hb h => h.elim id (fun h => by omega))).same (hk6.mono (fun _ _ h => h.elim)))⟩
    · have he : decide (k2.2.st who ≠ 1) = (k2.2.st who != 1) := by rw [Bool.eq_iff_iff]; simp
      rw [he]; rfl
    · rcases h with (h | h) | h
      · exact .inl h
      · exact .inr h
      · exact .inr (by omega)
  · have hask : k.ask who b = (false, k) := by unfold Lk.ask; rw [if_neg hs]
    rw [hask]
    have H := Lib.hid h
    clear h hask
    go_enter Try.func9, Try.ntmps9
    go_wp2_with fail
    refine (C1.out).mono ?_
    rintro e w1 ⟨rfl, hk1⟩
    go_wp2
    go_ret
    exact ⟨rfl, (H.out.kept hk1 (fun _ _ _ h => h)).imp (fun _ _ h => .inl h), hk1.mono (fun _ _ h => h.elim)⟩
end Go.Proofs.Ytggnndopncegaaa
