/-
  The walks of resp's reader.
-/
import Derived.Test.YtlmfpadlgdmflaaRsD
import Derived.Test.YtlmfpadlgdmflaaRsV
import Derived.Test.YtlmfpadlgdmflaaPackB
import Derived.Test.YtlmfpadlgdmflaaPackT
set_option linter.unusedSimpArgs false
set_option linter.unusedVariables false
namespace Go.Proofs.Ytlmfpadlgdmflaa
open Go.RowKit
set_option maxRecDepth 100000

/-- resp's reader in memory: block x; pack's reader in block g, its blocks from b0 on, below b1. -/
def Xr (w : World) (b0 b1 x g : Nat) (d : Dr) : Prop := Rd w (fun b => b0 ≤ b ∧ b < b1) g d.1 ∧ b1 ≤ x ∧ Blk w x 62 #[.pointer (some ⟨g, 0, none⟩), .bool d.2]
/-- The blocks that its calls may turn. -/
def Xs (b0 b1 x : Nat) (b : Nat) : Prop := (b0 ≤ b ∧ b < b1) ∨ b = x
theorem Xr.kept {S : Nat → Prop} {w w' : World} {b0 b1 x g : Nat} {d : Dr} (h : Xr w b0 b1 x g d) (hk : Kept S w w') (hd : ∀ b, Xs b0 b1 x b → ¬ S b) : Xr w' b0 b1 x g d :=
  ⟨h.1.kept hk fun b _ hb => hd b (.inl hb), h.2.1, h.2.2.kept hk (hd x (.inr rfl))⟩
theorem Xr.g {w : World} {b0 b1 x g : Nat} {d : Dr} (h : Xr w b0 b1 x g d) : b0 ≤ g ∧ g < b1 := h.1.1
theorem Rd.imp {F G : Nat → Prop} {w : World} {g : Nat} {s : Pk.St} (h : Rd w F g s) (hF : ∀ b, b < w.heap.size → F b → G b) : Rd w G g s := by
  obtain ⟨h0, h1, h2, A, c, hc1, hc2, hb, hs⟩ := h
  exact ⟨hF g hb.lt h0, h1, h2, A, c, hc1, hc2, hb, hs.imp fun b hl hb => ⟨hF b hl hb.1, hb.2⟩⟩
def XPost (w : World) (b0 b1 x g : Nat) (v : Value) (d : Dr) (e : Ending) (w' : World) : Prop := e = .returned v ∧ Xr w' b0 b1 x g d ∧ Kept (Xs b0 b1 x) w w'

theorem xtok_any (w : World) (b0 b1 x g : Nat) (d : Dr) (h : Xr w b0 b1 x g d) :
    Calls Try.prog 12 #[.pointer (some ⟨g, 0, none⟩)] w (XPost w b0 b1 x g (.int .i64 (tokD d).1) (tokD d).2) := by
  refine (num_any w _ g d.1 h.1).mono ?_
  rintro e w1 ⟨rfl, h1, h2⟩
  have hg := h.g
  exact ⟨rfl, ⟨h1, h.2.1, h.2.2.kept h2 (by have := h.2.1; intro e; omega)⟩, h2.mono fun i _ hi => .inl (by omega)⟩

set_option maxHeartbeats 400000 in
theorem xnum_any (w : World) (b0 b1 x g : Nat) (d : Dr) (h : Xr w b0 b1 x g d) (most : Int) :
    Calls Try.prog 33 #[.pointer (some ⟨x, 0, none⟩), .int .i64 most] w (XPost w b0 b1 x g (.int .i64 (numD d most).1) (numD d most).2) := by
  have hn := Lib.hid (xtok_any w b0 b1 x g d h)
  have hc := h.2.2.cell
  obtain ⟨n, hN⟩ : ∃ n, (tokD d).1 = n := ⟨_, rfl⟩
  obtain ⟨s, hS⟩ : ∃ s, (tokD d).2 = s := ⟨_, rfl⟩
  have e1 : (numD d most).1 = n := hN
  have e2 : (numD d most).2 = (s.1, s.2 || decide (n > most)) := by rw [← hN, ← hS]; rfl
  rw [e1, e2]
  rw [hN, hS] at hn
  have HS : Hid (s.2 = d.2) := by rw [Hid, ← hS]; rfl
  clear e1 e2 hN hS
  go_enter Try.func33, Try.ntmps33
  go_wp2_with fail
  refine (hn.out).mono ?_
  rintro e w1 ⟨rfl, hx, hk⟩
  have hc1 := hx.2.2.cell
  have hf1 := hx.2.2.frozen
  have hxs := hx.2.2.set 1
  obtain ⟨s, b⟩ := s
  simp only at hx hc1 hxs ⊢
  have hkx := fun v => (Kept.refl (· = x) w1).setCell (p := ⟨x, 1, none⟩) (.inl rfl) v
  have hrx := fun v => hx.1.kept (hkx v) (fun b hb1 hb2 e => by have := hx.2.1; omega)
  have hkk := fun v => hk.same ((hkx v).mono (T := Xs b0 b1 x) fun i _ hi => .inr hi)
  have Hxs := Lib.hid hxs
  have Hr := Lib.hid hrx
  have Hk := Lib.hid hkk
  have hle := hx.2.1
  clear hxs hx hk hn hkx hrx hkk
  cases b with
  | true =>
    go_wp2_with fail
    go_ret
    exact ⟨rfl, ⟨Hr.out _, hle, by simpa using Hxs.out (.bool true)⟩, Hk.out _⟩
  | false =>
    go_wp2_with fail
    go_ret
    exact ⟨rfl, ⟨Hr.out _, hle, by simpa using Hxs.out (.bool (decide (n > most)))⟩, Hk.out _⟩

set_option maxHeartbeats 400000 in
theorem xtxt_any (w : World) (b0 b1 x g : Nat) (d : Dr) (h : Xr w b0 b1 x g d) :
    Calls Try.prog 34 #[.pointer (some ⟨x, 0, none⟩)] w (XPost w b0 b1 x g (.string ⟨(txtD d).1.toArray⟩) (txtD d).2) := by
  have hn := Lib.hid (text_any w _ g d.1 20000 h.1)
  have hc := h.2.2.cell
  have h0 := Lib.hid h
  unfold txtD
  generalize (d.1.text 20000).1 = t at *
  generalize (d.1.text 20000).2 = s at *
  clear h
  go_enter Try.func34, Try.ntmps34
  go_wp2_with fail
  refine (hn.out).mono ?_
  rintro e w1 ⟨rfl, hx, hk⟩
  go_wp2_with fail
  go_ret
  have hg := h0.out.g
  exact ⟨rfl, ⟨hx, h0.out.2.1, h0.out.2.2.kept hk (by have := h0.out.2.1; intro e; omega)⟩, hk.mono fun i _ hi => .inl (by omega)⟩
end Go.Proofs.Ytlmfpadlgdmflaa
