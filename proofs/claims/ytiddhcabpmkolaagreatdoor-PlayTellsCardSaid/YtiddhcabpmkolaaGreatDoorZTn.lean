/-
  A call that turns one piece: told of the piece alone, carried to whatever holds it.
-/
import Derived.Test.YtiddhcabpmkolaaGreatDoorProg
import Derived.Test.YtiddhcabpmkolaaGreatDoorZOwnO
set_option linter.unusedSimpArgs false
set_option linter.unusedVariables false
namespace Go.Proofs.YtiddhcabpmkolaaGreatDoor
open Go.RowKit
set_option maxRecDepth 100000

/-- The call returns r and leaves the piece xs Q, in its old blocks or new ones; nothing else has turned. -/
def Turn (f : Nat) (args : Array Value) (w : World) (G : Nat → Prop) (r : Value) (Q : Ch) : Prop :=
  Calls Tryz.prog f args w fun e w' => e = .returned r ∧ Q.p w' (fun b => G b ∨ w.heap.size ≤ b) ∧ Kept G w w'
/-- .. with something that the call chooses. -/
def TurnX {α : Type} (f : Nat) (args : Array Value) (w : World) (G : Nat → Prop) (r : α → Value) (Q : α → Ch) : Prop :=
  Calls Tryz.prog f args w fun e w' => ∃ x, e = .returned (r x) ∧ (Q x).p w' (fun b => G b ∨ w.heap.size ≤ b) ∧ Kept G w w'
/-- A call that reads. -/
def Reads (f : Nat) (args : Array Value) (w : World) (r : Value) : Prop := Calls Tryz.prog f args w fun e w' => e = .returned r ∧ Pure w w'
theorem Turn.x {f : Nat} {args : Array Value} {w : World} {G : Nat → Prop} {r : Value} {Q : Ch} (h : Turn f args w G r Q) : TurnX (α := Unit) f args w G (fun _ => r) (fun _ => Q) :=
  h.mono fun e w' ⟨h1, h2, h3⟩ => ⟨(), h1, h2, h3⟩
section
variable {f : Nat} {args : Array Value} {w w₀ : World} {F G : Nat → Prop} {r : Value} {P Q : Ch} {Ps : List Ch}
theorem Run.atL (h : Run w₀ F w Ps) (i : Nat) (hi : Ps[i]? = some P) : ∃ G, (∀ b, G b → (F b ∨ w₀.heap.size ≤ b) ∧ b < w.heap.size) ∧ P.p w G ∧
    ∀ (w' : World) (Q : Ch), Q.p w' (fun b => G b ∨ w.heap.size ≤ b) → Kept G w w' → Run w₀ F w' (Ps.set i Q) := by
  obtain ⟨G, h1, h2, h3⟩ := h.at i hi
  exact ⟨fun b => G b ∧ b < w.heap.size, fun b h => ⟨h1 b h.1, h.2⟩, P.imp h2 (fun b hb h => ⟨h, hb⟩), fun w' Q hQ hk =>
    h3 w' Q (Q.imp hQ (fun b _ h => h.elim (fun h => .inl h.1) .inr)) (hk.mono (fun b _ h => h.1))⟩
theorem Run.turn1 (h : Run w₀ F w Ps) (i : Nat) (hi : Ps[i]? = some P) (hc : ∀ G, (∀ b, G b → b < w.heap.size) → P.p w G → Turn f args w G r Q) :
    Calls Tryz.prog f args w fun e w' => e = .returned r ∧ Run w₀ F w' (Ps.set i Q) := by
  obtain ⟨G, hG, hp, hup⟩ := h.atL i hi
  exact (hc G (fun b h => (hG b h).2) hp).mono fun e w' ⟨h1, h2, h3⟩ => ⟨h1, hup w' Q h2 h3⟩
theorem Run.turnX {α : Type} {r : α → Value} {Q : α → Ch} (h : Run w₀ F w Ps) (i : Nat) (hi : Ps[i]? = some P) (hc : ∀ G, (∀ b, G b → b < w.heap.size) → P.p w G → TurnX f args w G r Q) :
    Calls Tryz.prog f args w fun e w' => ∃ x, e = .returned (r x) ∧ Run w₀ F w' (Ps.set i (Q x)) := by
  obtain ⟨G, hG, hp, hup⟩ := h.atL i hi
  exact (hc G (fun b h => (hG b h).2) hp).mono fun e w' ⟨x, h1, h2, h3⟩ => ⟨x, h1, hup w' (Q x) h2 h3⟩
theorem Star.turn1 (h : Star w G Ps) (i : Nat) (hG : ∀ b, G b → b < w.heap.size) (hi : Ps[i]? = some P) (hc : ∀ G, (∀ b, G b → b < w.heap.size) → P.p w G → Turn f args w G r Q) :
    Turn f args w G r (starC (Ps.set i Q)) := by
  obtain ⟨G1, k1, k2, k3⟩ := h.at i hi
  exact (hc G1 (fun b h => hG b (k1 b h)) k2).mono fun e w' ⟨h1, h2, h3⟩ => ⟨h1, k3 w' Q h2 h3, h3.mono (fun b _ h => k1 b h)⟩
theorem Star.turnX {α : Type} {r : α → Value} {Q : α → Ch} (h : Star w G Ps) (i : Nat) (hG : ∀ b, G b → b < w.heap.size) (hi : Ps[i]? = some P) (hc : ∀ G, (∀ b, G b → b < w.heap.size) → P.p w G → TurnX f args w G r Q) :
    TurnX f args w G r (fun x => starC (Ps.set i (Q x))) := by
  obtain ⟨G1, k1, k2, k3⟩ := h.at i hi
  exact (hc G1 (fun b h => hG b (k1 b h)) k2).mono fun e w' ⟨x, h1, h2, h3⟩ => ⟨x, h1, k3 w' (Q x) h2 h3, h3.mono (fun b _ h => k1 b h)⟩
theorem Star.map {P Q : Ch} {i : Nat} (h : Star w G Ps) (hi : Ps[i]? = some P) (hc : ∀ G, P.p w G → Q.p w G) : Star w G (Ps.set i Q) := by
  induction Ps generalizing G i with
  | nil => simp at hi
  | cons P0 Ps ih =>
    obtain ⟨H, h1, h2, h3⟩ := h
    cases i with
    | zero => simp at hi; subst hi; exact ⟨H, h1, hc _ h2, h3⟩
    | succ i => exact ⟨H, h1, h2, ih h3 (by simpa using hi)⟩
theorem Run.map {Q : Ch} (h : Run w₀ F w Ps) (i : Nat) (hi : Ps[i]? = some P) (hc : ∀ G, P.p w G → Q.p w G) : Run w₀ F w (Ps.set i Q) := ⟨h.star.map hi hc, h.kept⟩
theorem Star.snoc (h : Star w F (P :: Ps)) : Star w F (Ps ++ [P]) := Star.perm (List.perm_append_singleton P Ps).symm h
/-- A piece at the head is laid open, and shut again. -/
theorem Run.open1 {α : Type} {L : α → List Ch} (h : Run w₀ F w (P :: Ps)) (hP : ∀ G, P.p w G → ∃ x, Star w G (L x)) : ∃ x, Run w₀ F w (L x ++ Ps) := by
  obtain ⟨G, h1, h2, h3⟩ := h.star
  obtain ⟨x, hx⟩ := hP G h2
  exact ⟨x, Star.flat (Qs := L x) ⟨G, h1, hx, h3⟩, h.kept⟩
theorem Run.shut1 {Qs : List Ch} (h : Run w₀ F w (Qs ++ Ps)) (hP : ∀ G, Star w G Qs → P.p w G) : Run w₀ F w (P :: Ps) := by
  obtain ⟨G, h1, h2, h3⟩ := h.star.unflat
  exact ⟨⟨G, h1, hP G h2, h3⟩, h.kept⟩
theorem Run.of (h : P.p w F) : Run w F w [P] := Run.start ⟨F, fun _ h => h, h, trivial⟩
/-- At the end of a call that a piece was handed to. -/
theorem Run.fin1 (h : Run w G w₀ [Q]) : Q.p w₀ (fun b => G b ∨ w.heap.size ≤ b) ∧ Kept G w w₀ := ⟨h.get 0 rfl, h.kept⟩
end
section
variable {α β : Type} {C : α → β → Ch} {a : α} {b : β}
theorem zw_at {xs : List α} {bs : List β} {k : Nat} (ha : xs[k]? = some a) (hb : bs[k]? = some b) : (List.zipWith C xs bs)[k]? = some (C a b) := by
  rw [List.getElem?_zipWith, ha, hb]
theorem zw_set (b' : β) : ∀ {xs : List α} {bs : List β} {k : Nat}, xs[k]? = some a → (List.zipWith C xs bs).set k (C a b') = List.zipWith C xs (bs.set k b')
  | [], bs, k, h => by simp at h
  | y :: xs, [], k, h => by simp
  | y :: xs, x :: bs, 0, h => by simp at h; subst h; rfl
  | y :: xs, x :: bs, k + 1, h => by
    have ih := zw_set b' (xs := xs) (bs := bs) (k := k) (by simpa using h)
    simp only [List.zipWith_cons_cons, List.set_cons_succ]
    rw [ih]
/-- Alike pieces, each of a thing with its places. -/
def zwC (C : α → β → Ch) (xs : List α) (bs : List β) : Ch := starC (List.zipWith C xs bs)
theorem zw_get {w : World} {G : Nat → Prop} {xs : List α} {bs : List β} {k : Nat} (h : (zwC C xs bs).p w G) (ha : xs[k]? = some a) (hb : bs[k]? = some b) : (C a b).p w G := Star.get (show Star w G _ from h) k (zw_at ha hb)
theorem zw_turn {f : Nat} {args : Array Value} {w : World} {G : Nat → Prop} {r : Value} {xs : List α} {bs : List β} {k : Nat} (h : (zwC C xs bs).p w G) (hG : ∀ b, G b → b < w.heap.size) (ha : xs[k]? = some a) (hb : bs[k]? = some b) (b' : β)
    (hc : ∀ G, (∀ b, G b → b < w.heap.size) → (C a b).p w G → Turn f args w G r (C a b')) : Turn f args w G r (zwC C xs (bs.set k b')) := by
  have := Star.turn1 (show Star w G (List.zipWith C xs bs) from h) k hG (zw_at ha hb) hc
  rwa [zw_set b' ha] at this
theorem zw_map {w : World} {G : Nat → Prop} {xs : List α} {bs : List β} {k : Nat} (h : (zwC C xs bs).p w G) (ha : xs[k]? = some a) (hb : bs[k]? = some b) (b' : β) (hc : ∀ G, (C a b).p w G → (C a b').p w G) : (zwC C xs (bs.set k b')).p w G := by
  have := Star.map (show Star w G (List.zipWith C xs bs) from h) (zw_at ha hb) hc
  rwa [zw_set b' ha] at this
theorem zw_snoc {xs : List α} {bs : List β} (hl : xs.length = bs.length) : List.zipWith C (xs ++ [a]) (bs ++ [b]) = List.zipWith C xs bs ++ [C a b] := by
  rw [List.zipWith_append hl]; rfl
/-- One more joins. -/
theorem Run.zw_add {w₀ w : World} {F : Nat → Prop} {Ps : List Ch} {xs : List α} {bs : List β} (h : Run w₀ F w (C a b :: zwC C xs bs :: Ps)) (hl : xs.length = bs.length) : Run w₀ F w (zwC C (xs ++ [a]) (bs ++ [b]) :: Ps) := by
  refine ⟨?_, h.kept⟩
  have h1 := h.star.swap.flat
  have h2 : Star w (fun b => F b ∨ w₀.heap.size ≤ b) ((List.zipWith C xs bs ++ [C a b]) ++ Ps) := by rw [List.append_assoc]; exact h1
  rw [← zw_snoc (C := C) (a := a) (b := b) hl] at h2
  exact h2.unflat
end
end Go.Proofs.YtiddhcabpmkolaaGreatDoor
