/-
  rw: Leave walked.
-/
import Derived.Test.YtggnndopncegaaaRwA
import Derived.Deep.QuietTactic
import Derived.BigQuiet
set_option linter.unusedSimpArgs false
set_option linter.unusedVariables false
namespace Go.Proofs.Ytggnndopncegaaa
open Go.RowKit
set_option maxRecDepth 100000

/-- What Leave leaves. -/
def LvP (w : World) (F : Nat → Prop) (g : Nat) (r : List Int × Lk) (e : Ending) (w' : World) : Prop :=
  ∃ A n c, e = .returned (.slice A n c) ∧ Sl w' (fun b => w.heap.size ≤ b) 1 A n (ics r.1) ∧ Lp w' (fun b => F b ∨ w.heap.size ≤ b) g r.2 ∧ Kept F w w'
theorem LvP.of_move {w w4 w5 : World} {F G : Nat → Prop} {g : Nat} {r : List Int × Lk} {A : Option Addr} {n c : Nat} (hk : Kept F w w4) (hG : ∀ b, G b → F b ∨ w.heap.size ≤ b)
    (hs : Sl w5 (fun b => w4.heap.size ≤ b) 1 A n (ics r.1)) (hl : Lp w5 (fun b => G b ∨ w4.heap.size ≤ b) g r.2) (hk5 : Kept G w4 w5) : LvP w F g r (.returned (.slice A n c)) w5 := by
  have hsz := hk.size
  refine ⟨A, n, c, rfl, hs.imp (fun b _ h => by omega), hl.imp (fun b _ h => h.elim (hG b) (fun h => .inr (by omega))), hk.trans hk5 (fun b hb h => (hG b h).elim id (fun h => by omega))⟩
set_option maxHeartbeats 3200000 in
theorem lk_leave (w : World) (F : Nat → Prop) (g : Nat) (k : Lk) (who : Int) (h : Lp w F g k) (hz : k.size ≤ 100000) :
    Calls Try.prog 12 #[.pointer (some ⟨g, 0, none⟩), .int .i64 who] w (LvP w F g (k.leave who)) := by
  have hkx : Pure w (w.alloc (.cells #[.int .i64 who] 3)) := (Kept.refl _ _).alloc _
  have hx := Blk.new w 3 #[.int .i64 who]
  have hxc := hx.cell
  have H := Lib.hid (h.kept hkx (fun _ _ _ h => h))
  have C1 := Lib.hid (lk_state _ F g k who H.out hz)
  have Hkx := Lib.hid hkx
  have Hx := Lib.hid hx
  have hgl := h.lt
  have h0 : F g := h.1
  have H00 := Lib.hid h
  clear h hkx hx
  have hsz : (w.alloc (.cells #[.int .i64 who] 3)).heap.size = w.heap.size + 1 := by simp
  rcases st_cases k who with hs | hs | hs | hs
  · rw [hs] at C1
    have hlv : k.leave who = Lk.move { k with ws := false } := by unfold Lk.leave; rw [if_pos hs]
    rw [hlv]
    clear hlv hs
    go_enter Try.func12, Try.ntmps12
    go_wp2_with fail
    refine (C1.out).mono ?_
    rintro e w1 ⟨rfl, hk1⟩
    obtain ⟨_, A1, c1, A2, c2, hb, h1, h2⟩ := H.out.kept hk1 (fun _ _ _ h => h)
    have hc := hb.cell
    have hf := hb.frozen
    have hb4 := hb.set 2 (.bool false)
    have hk4 : Kept (· = g) w1 (w1.setCell ⟨g, 2, none⟩ (.bool false)) := (Kept.refl (· = g) w1).setCell (p := ⟨g, 2, none⟩) (.inl rfl) _
    have hL : Lp (w1.setCell ⟨g, 2, none⟩ (.bool false)) F g { k with ws := false } := ⟨h0, A1, c1, A2, c2, by simpa using hb4, h1.kept hk4 (fun b _ h e => h.2 e), h2.kept hk4 (fun b _ h e => h.2 e)⟩
    have hk14 : Kept F w (w1.setCell ⟨g, 2, none⟩ (.bool false)) := ((Hkx.out.same hk1).mono (fun _ _ h => h.elim)).trans hk4 (fun b _ h => by have h' : b = g := h; rw [h']; exact h0)
    have CM := Lib.hid (lk_move _ _ g _ hL hz)
    have Hk14 := Lib.hid hk14
    clear hb h1 h2 hb4 hk4 hL hk14
    go_wp2_with fail
    refine (CM.out).mono ?_
    rintro e w5 ⟨A5, n5, c5, rfl, hs5, hl5, hk5⟩
    have hfin := LvP.of_move Hk14.out (fun b h => .inl h) hs5 hl5 hk5 (c := c5)
    have Hfin := Lib.hid hfin
    clear hfin hs5 hl5 hk5
    go_wp2
    go_ret
    exact Hfin.out
  · rw [hs] at C1
    have hlv : k.leave who = Lk.move { k with rd := lessI k.rd who } := by unfold Lk.leave; rw [if_neg (by omega), if_pos hs]
    rw [hlv]
    have hzr : k.rd.length ≤ 100000 ∧ k.qu.length ≤ 100000 := by simp only [Lk.size] at hz; omega
    clear hlv hs
    go_enter Try.func12, Try.ntmps12
    go_wp2_with fail
    refine (C1.out).mono ?_
    rintro e w1 ⟨rfl, hk1⟩
    have hk01 : Pure w w1 := Hkx.out.same hk1
    obtain ⟨_, A1, c1, A2, c2, hb, h1, h2⟩ := H00.out
    have hb1 := hb.kept hk01 (fun h => h)
    have h11 := h1.mini.kept hk01 (fun _ _ _ h => h)
    have h12 := h2.mini.kept hk01 (fun _ _ _ h => h)
    have hxb := Hx.out.kept hk1 (fun h => h)
    have hc1 := hb1.cell
    have hxc1 := hxb.cell
    have hsz1 := hk01.size
    have C2 := Lib.hid (li_delf k.rd who A1 _ c1 w.heap.size w1 _ h11 (by omega) (hxb.cell 0) hxb.lt (fun e => by have := h1.ltB e; omega))
    have Hb1 := Lib.hid hb1
    have H1 := Lib.hid h1
    have H2 := Lib.hid h2
    have H11 := Lib.hid h11
    have H12 := Lib.hid h12
    have Hk01 := Lib.hid hk01
    have H1 := Lib.hid h1
    clear hb hb1 h1 h2 h11 h12 hk01 hk1 hxb
    go_wp2_with fail
    refine (C2.out).mono ?_
    rintro e w2 ⟨A3, c3, rfl, ho3, hk3⟩
    have hb2 := Hb1.out.kept hk3 (fun h => (H1.out.2 g h).2 rfl)
    have hc2 := hb2.cell
    have hf2 := hb2.frozen
    have hk4 : Kept (· = g) w2 (w2.setCell ⟨g, 0, none⟩ (.slice A3 (lessI k.rd who).length c3)) := (Kept.refl (· = g) w2).setCell (p := ⟨g, 0, none⟩) (.inl rfl) _
    have hb4 := hb2.set 0 (.slice A3 (lessI k.rd who).length c3)
    have hk14 : Kept F w (w2.setCell ⟨g, 0, none⟩ (.slice A3 (lessI k.rd who).length c3)) := ((Hk01.out.mono (fun _ _ h => h.elim)).trans hk3 (fun b _ h => (H1.out.2 b h).1)).trans hk4 (fun b _ h => by have h' : b = g := h; rw [h']; exact h0)
    have hown4 := (ho3.kept hk4 (fun b _ h e => by
      have e' : b = g := e
      rcases h with h | h
      · exact (H1.out.2 b h).2 e'
      · omega)).imp (G := fun b => (F b ∨ w.heap.size ≤ b) ∧ b ≠ g) (fun b _ h => by
      rcases h with h | h
      · exact ⟨.inl (H1.out.2 b h).1, (H1.out.2 b h).2⟩
      · exact ⟨.inr (by omega), by omega⟩)
    have hoth4 := ((H12.out.kept hk3 (fun b _ h1 h2 => own_apart H11.out H12.out (by decide) h2 h1)).kept hk4 (fun b _ h e => (H2.out.2 b h).2 e)).imp (G := fun b => (F b ∨ w.heap.size ≤ b) ∧ b ≠ g) (fun b _ h => ⟨.inl (H2.out.2 b h).1, (H2.out.2 b h).2⟩)
    have hL : Lp (w2.setCell ⟨g, 0, none⟩ (.slice A3 (lessI k.rd who).length c3)) (fun b => F b ∨ w.heap.size ≤ b) g { k with rd := lessI k.rd who } := ⟨.inl h0, A3, c3, A2, c2, by simpa using hb4, hown4, hoth4⟩
    have CM := Lib.hid (lk_move _ _ g _ hL (by simp only [Lk.size] at hz ⊢; have := lessI_length k.rd who; omega))
    have Hk14 := Lib.hid hk14
    clear hb2 hb4 hk4 hL hk14 hown4 hoth4 ho3 hk3
    go_wp2_with fail
    refine (CM.out).mono ?_
    rintro e w5 ⟨A5, n5, c5, rfl, hs5, hl5, hk5⟩
    have hfin := LvP.of_move Hk14.out (fun b h => h) hs5 hl5 hk5 (c := c5)
    have Hfin := Lib.hid hfin
    clear hfin hs5 hl5 hk5
    go_wp2
    go_ret
    exact Hfin.out
  · rw [hs] at C1
    have hlv : k.leave who = Lk.move { k with qu := lessQ k.qu who } := by unfold Lk.leave; rw [if_neg (by omega), if_neg (by omega), if_pos hs]
    rw [hlv]
    have hzr : k.rd.length ≤ 100000 ∧ k.qu.length ≤ 100000 := by simp only [Lk.size] at hz; omega
    clear hlv hs
    go_enter Try.func12, Try.ntmps12
    go_wp2_with fail
    refine (C1.out).mono ?_
    rintro e w1 ⟨rfl, hk1⟩
    have hk01 : Pure w w1 := Hkx.out.same hk1
    obtain ⟨_, A1, c1, A2, c2, hb, h1, h2⟩ := H00.out
    have hb1 := hb.kept hk01 (fun h => h)
    have h11 := h1.mini.kept hk01 (fun _ _ _ h => h)
    have h12 := h2.mini.kept hk01 (fun _ _ _ h => h)
    have hxb := Hx.out.kept hk1 (fun h => h)
    have hc1 := hb1.cell
    have hxc1 := hxb.cell
    have hsz1 := hk01.size
    have C2 := Lib.hid (lq_delf k.qu who A2 _ c2 w.heap.size w1 _ h12 (by omega) (hxb.cell 0) hxb.lt (fun e => by have := h2.ltB e; omega))
    have Hb1 := Lib.hid hb1
    have H1 := Lib.hid h1
    have H2 := Lib.hid h2
    have H11 := Lib.hid h11
    have H12 := Lib.hid h12
    have Hk01 := Lib.hid hk01
    have H2 := Lib.hid h2
    clear hb hb1 h1 h2 h11 h12 hk01 hk1 hxb
    go_wp2_with fail
    refine (C2.out).mono ?_
    rintro e w2 ⟨A3, c3, rfl, ho3, hk3⟩
    have hb2 := Hb1.out.kept hk3 (fun h => (H2.out.2 g h).2 rfl)
    have hc2 := hb2.cell
    have hf2 := hb2.frozen
    have hk4 : Kept (· = g) w2 (w2.setCell ⟨g, 3, none⟩ (.slice A3 (lessQ k.qu who).length c3)) := (Kept.refl (· = g) w2).setCell (p := ⟨g, 3, none⟩) (.inl rfl) _
    have hb4 := hb2.set 3 (.slice A3 (lessQ k.qu who).length c3)
    have hk14 : Kept F w (w2.setCell ⟨g, 3, none⟩ (.slice A3 (lessQ k.qu who).length c3)) := ((Hk01.out.mono (fun _ _ h => h.elim)).trans hk3 (fun b _ h => (H2.out.2 b h).1)).trans hk4 (fun b _ h => by have h' : b = g := h; rw [h']; exact h0)
    have hown4 := (ho3.kept hk4 (fun b _ h e => by
      have e' : b = g := e
      rcases h with h | h
      · exact (H2.out.2 b h).2 e'
      · omega)).imp (G := fun b => (F b ∨ w.heap.size ≤ b) ∧ b ≠ g) (fun b _ h => by
      rcases h with h | h
      · exact ⟨.inl (H2.out.2 b h).1, (H2.out.2 b h).2⟩
      · exact ⟨.inr (by omega), by omega⟩)
    have hoth4 := ((H11.out.kept hk3 (fun b _ h1 h2 => own_apart H11.out H12.out (by decide) h1 h2)).kept hk4 (fun b _ h e => (H1.out.2 b h).2 e)).imp (G := fun b => (F b ∨ w.heap.size ≤ b) ∧ b ≠ g) (fun b _ h => ⟨.inl (H1.out.2 b h).1, (H1.out.2 b h).2⟩)
    have hL : Lp (w2.setCell ⟨g, 3, none⟩ (.slice A3 (lessQ k.qu who).length c3)) (fun b => F b ∨ w.heap.size ≤ b) g { k with qu := lessQ k.qu who } := ⟨.inl h0, A1, c1, A3, c3, by simpa using hb4, hoth4, hown4⟩
    have CM := Lib.hid (lk_move _ _ g _ hL (by simp only [Lk.size] at hz ⊢; have := lessQ_length k.qu who; omega))
    have Hk14 := Lib.hid hk14
    clear hb2 hb4 hk4 hL hk14 hown4 hoth4 ho3 hk3
    go_wp2_with fail
    refine (CM.out).mono ?_
    rintro e w5 ⟨A5, n5, c5, rfl, hs5, hl5, hk5⟩
    have hfin := LvP.of_move Hk14.out (fun b h => h) hs5 hl5 hk5 (c := c5)
    have Hfin := Lib.hid hfin
    clear hfin hs5 hl5 hk5
    go_wp2
    go_ret
    exact Hfin.out
  · rw [hs] at C1
    have hlv : k.leave who = ([], k) := by unfold Lk.leave; rw [if_neg (by omega), if_neg (by omega), if_neg (by omega)]
    rw [hlv]
    clear hlv hs
    go_enter Try.func12, Try.ntmps12
    go_wp2_with fail
    refine (C1.out).mono ?_
    rintro e w1 ⟨rfl, hk1⟩
    go_wp2
    go_ret
    exact ⟨none, 0, 0, rfl, Sl.nil _ _ _ _, (H.out.kept hk1 (fun _ _ _ h => h)).imp (fun _ _ h => .inl h), (Hkx.out.same hk1).mono (fun _ _ h => h.elim)⟩
end Go.Proofs.Ytggnndopncegaaa
