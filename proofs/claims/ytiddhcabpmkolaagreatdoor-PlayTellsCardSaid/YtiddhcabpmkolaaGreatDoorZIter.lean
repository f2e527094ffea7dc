/-
  Loops over an iterator: what a round keeps, in this claim's words.
-/
import Derived.RangeFuncNested
import Derived.RangeFuncBound
import Derived.RangeFuncCalls
import Derived.RangeFuncLeaves
import Derived.RangeFuncBox
import Derived.Shelf.Abstract
import Derived.Shelf.RegionOpen
import Derived.Sort.QuietIn
import Derived.OwnWalkIn
import Derived.TacticsInMore
import Derived.LoopNIn
import Derived.LoopIn
import Derived.Test.YtiddhcabpmkolaaGreatDoorZLib
import Derived.Test.YtiddhcabpmkolaaGreatDoorZBlk
set_option linter.unusedSimpArgs false
set_option linter.unusedVariables false
namespace Go.Proofs.YtiddhcabpmkolaaGreatDoor
open Go.RowKit
set_option maxRecDepth 100000

theorem Pure.grown {w w' : World} (h : Pure w w') : w.grownBy w' none := ⟨h.os, h.tape, h.output, h.size, fun k hk _ => h.block k hk (fun h => h)⟩
theorem abides_pure {β : Type} {B : Nat} {J : β → World → Prop} (hJ : AbidesFrom B J) {s : β} {W W' : World} (h : J s W) (hp : Pure W W') : J s W' := hJ s W W' none h hp.grown (fun _ e => by cases e)
theorem kept_t {S : Nat → Prop} {A B C : World} (h : Kept S A B) (k : Kept S B C) : Kept S A C := h.same k
theorem kept_b {S : Nat → Prop} {w : World} (hS : ∀ b, w.heap.size ≤ b → S b) (W : World) (l : Nat) (o o' : Obj) (hl : w.heap.size ≤ l) (_ : W.heap[l]? = some o) (_ : o.isCells = false) (_ : o.isWalk = false) : Kept S W (W.putObj l o') :=
  (Kept.refl S W).grown (grownBy_putObj' W l o') (fun k e => by cases e; exact .inl (hS l hl))
theorem others_of_kept {S : Nat → Prop} {W W' : World} (h : Kept S W W') (hS : ∀ k o, W.heap[k]? = some o → S k → o.isCells = true) : KeepsOthers W W' :=
  ⟨h.size, fun k o hk ho => (h.block k (Array.getElem?_eq_some_iff.1 hk).1 (fun hs => by rw [hS k o hk hs] at ho; cases ho)).trans hk⟩
theorem others_of_pure {W W' : World} (h : Pure W W') : KeepsOthers W W' := others_of_kept h (fun _ _ _ h => h.elim)
theorem kept_of_below {n : Nat} {W W' : World} (h : Below n W W') : Kept (fun b => n ≤ b) W W' := ⟨h.os, h.tape, h.output, h.size, fun k _ hn => h.block k (by omega)⟩
theorem ownFrom_kept {β : Type} {S : Nat → Prop} {B : Nat} {w₀ : World} (hS : ∀ b, B ≤ b → S b) : OwnFrom B (fun (_ : β) W => Kept S w₀ W) :=
  fun _ _ _ _ hs hg hr => hs.grown hg (fun k e => .inl (hS k (hr k e).1))
theorem Blk.grown {w w' : World} {g : Nat} {t : TypeId} {cs : Array Value} {row : Option Nat} (h : Blk w g t cs) (hg : w.grownBy w' row) (hr : ∀ r, row = some r → ∃ o : Obj, w.heap[r]? = some o ∧ o.isCells = false) : Blk w' g t cs := by
  refine (hg.block g h.lt (fun e => ?_)).trans h
  obtain ⟨o, ho, hc⟩ := hr g e.symm
  unfold Blk at h
  rw [h] at ho
  injection ho with ho
  subst ho
  cases hc
theorem Own.grown {w w' : World} {F : Nat → Prop} {e : TypeId} {k n : Nat} {v : Value} {xs : List Value} {row : Option Nat} (h : Own w F e k v n xs) (hg : w.grownBy w' row) (hr : ∀ r, row = some r → ∃ o : Obj, w.heap[r]? = some o ∧ o.isCells = false) : Own w' F e k v n xs := by
  refine ⟨⟨h.1.1, ?_⟩, h.2⟩
  rcases h.1.2 with hn | ⟨g, cap, cur, rfl, hb, hgb, rest⟩
  · exact .inl hn
  · exact .inr ⟨g, cap, cur, rfl, hb, Blk.grown (g := g) hgb hg hr, rest⟩

/-- 'append(v, x...)', run: v a row of the call's own, x whatever reads as a list. -/
theorem run_app {P : Program} {w : World} {t e ty : TypeId} {z : Value} {k by_ : Nat} (ht : P.underlying t = some (.slice e)) (hI : (P.info? e).map (fun i => (i.zero, i.size, i.bytes)) = some (some z, k, by_)) (hzs : z.cells.size = k) (hk : 0 < k)
    {v : Value} {n : Nat} {xs : List Value} {F G : Nat → Prop} (hown : Own w F e k v n xs) {A : Option Addr} {m c : Nat} {news : List Value} (hr : Sl w G k A m news) (h1 : ∀ u ∈ news, u.oneCell' = true)
    (hbytes : n + m ≤ 1073741824) (hb2 : by_ ≤ 65536) :
    ∃ v' w', (Builtin.append_ #[t, t] ty #[v, .slice A m c]).run P w = .ok v' w' ∧ Own w' (fun g => F g ∨ g = w.heap.size) e k v' (n + m) (xs ++ news) ∧ Kept F w w' := by
  obtain ⟨i, hi, hz, hsize, hby⟩ := info_parts hI
  have h63 : n + m ≤ maxLen := by unfold maxLen; omega
  have hbb : (n + m) * by_ ≤ 140737488355328 := by
    have := Nat.mul_le_mul hbytes hb2
    omega
  rcases Nat.eq_zero_or_pos m with h0 | h0
  · subst h0
    have hn : news = [] := List.eq_nil_of_length_eq_zero (by simpa using hr.1)
    subst hn
    cases A with
    | none => exact ⟨v, w, run_app_nil t _ e i k ht hi v n xs hown.1 c, by simpa using hown.imp (fun _ _ h => .inl h), Kept.refl _ _⟩
    | some ad =>
      obtain ⟨v', w', hrun, h2, h3, _, h5⟩ := run_append_own_at (P := P) w 0 t ty e i z k by_ ht hi hz hsize hby hzs hk v n xs hown.1 ad 0 c [] (by simp) (by simp) (by simp) h63 hbb (Nat.zero_le _)
      exact ⟨v', w', hrun, hown.of_append h2 h5, hown.kept_of_append h3⟩
  · obtain ⟨b, off, rfl, _, _, hc⟩ := hr.2 h0
    have hcells : ∀ j u, news[j]? = some u → w.cell? ((⟨b, off, none⟩ : Addr).add j) = some u := by
      intro j u hu
      rw [Addr.add_lit, hc j (List.getElem?_eq_some_iff.1 hu).1]
      exact hu
    obtain ⟨v', w', hrun, h2, h3, _, h5⟩ := run_append_own_at (P := P) w 0 t ty e i z k by_ ht hi hz hsize hby hzs hk v n xs hown.1 ⟨b, off, none⟩ m c news hr.1 hcells h1 h63 hbb (Nat.zero_le _)
    exact ⟨v', w', hrun, hown.of_append h2 h5, hown.kept_of_append h3⟩
/-- The walk stands still at an append, inside a fence. -/
theorem wpIn_app {Fe : Fence} {nn : Nat} {P : Program} {w : World} {ops : Array Oper} {rest : List Oper} {o : Oper} {a : Act} {Q : Exit → Act → World → Prop} {t e : TypeId} {z : Value} {k by_ : Nat} (ht : P.underlying t = some (.slice e)) (hI : (P.info? e).map (fun i => (i.zero, i.size, i.bytes)) = some (some z, k, by_)) (hzs : z.cells.size = k) (hk : 0 < k)
    {v : Value} {n : Nat} {xs : List Value} {F G : Nat → Prop} (hown : Own w F e k v n xs) {A : Option Addr} {m c : Nat} {news : List Value} (hr : Sl w G k A m news) (h1 : ∀ u ∈ news, u.oneCell' = true)
    (hbytes : n + m ≤ 1073741824) (hb2 : by_ ≤ 65536)
    (hgd : o.guard = none) (s x : Operand) (ho : o.op = .call { callee := .builtin .append, args := #[s, x], argTypes := #[t, t] }) (hs : a.eval s = v) (hx : a.eval x = .slice A m c)
    (h : ∀ v' w', Own w' (fun g => F g ∨ g = w.heap.size) e k v' (n + m) (xs ++ news) → Kept F w w' → wpListIn Fe nn P ops Q rest (a.put o.dst v') w') : wpListIn Fe nn P ops Q (o :: rest) a w := by
  obtain ⟨v', w', hrun, h2, h3⟩ := run_app (ty := o.type) (c := c) ht hI hzs hk hown hr h1 hbytes hb2
  refine wpListIn_plain hgd fun K hK' => ?_
  unfold Oper.wpIn
  refine ⟨?_, ?_⟩
  · simp [Oper.about, ho, resolve, Target.leads, Sem.run_pure]
  · rw [Oper.semAt_plain Fe _ _ (by rw [ho]; intro c hc'; cases hc')]
    simp [execOp, ho, resolve, invoke, builtin, hs, hx, hrun, Result.andThen]
    exact hK' _ _ (h v' w' h2 h3)
theorem own_cells {w : World} {F : Nat → Prop} {e : TypeId} {k n b : Nat} {v : Value} {xs : List Value} {o : Obj} (h : Own w F e k v n xs) (hb : v.ownBlock = some b) (ho : w.heap[b]? = some o) : o.isCells = true := by
  rcases h.1.2 with ⟨rfl, _⟩ | ⟨g, cap, cur, rfl, _, hg, _⟩
  · cases hb
  · simp [Value.ownBlock] at hb
    subst hb
    rw [hg] at ho
    injection ho with ho
    subst ho
    rfl
/-- A round collects: its row lies from block N on. -/
theorem wpIn_collect (N : Nat) {Fe : Fence} {nn : Nat} {P : Program} {w : World} {ops : Array Oper} {rest : List Oper} {o : Oper} {a : Act} {Q : Exit → Act → World → Prop} {t e : TypeId} {z : Value} {k by_ : Nat} (ht : P.underlying t = some (.slice e)) (hI : (P.info? e).map (fun i => (i.zero, i.size, i.bytes)) = some (some z, k, by_)) (hzs : z.cells.size = k) (hk : 0 < k)
    (hN : N ≤ w.heap.size) {v : Value} {n : Nat} {xs : List Value} {G : Nat → Prop} (hown : Own w (fun g => N ≤ g) e k v n xs) {A : Option Addr} {m c : Nat} {news : List Value} (hr : Sl w G k A m news) (h1 : ∀ u ∈ news, u.oneCell' = true)
    (hbytes : n + m ≤ 1073741824) (hb2 : by_ ≤ 65536)
    (hgd : o.guard = none) (s x : Operand) (ho : o.op = .call { callee := .builtin .append, args := #[s, x], argTypes := #[t, t] }) (hs : a.eval s = v) (hx : a.eval x = .slice A m c)
    (h : ∀ A' c' w', Own w' (fun g => N ≤ g) e k (.slice A' (n + m) c') (n + m) (xs ++ news) → Kept (fun g => N ≤ g) w w' → KeepsOthers w w' → wpListIn Fe nn P ops Q rest (a.put o.dst (.slice A' (n + m) c')) w') : wpListIn Fe nn P ops Q (o :: rest) a w := by
  have hown' : Own w (fun b => v.ownBlock = some b) e k v n xs := ⟨hown.1, fun g h => h⟩
  refine wpIn_app ht hI hzs hk hown' hr h1 hbytes hb2 hgd s x ho hs hx fun v' w' h2 h3 => ?_
  have h4 : Own w' (fun g => N ≤ g) e k v' (n + m) (xs ++ news) := h2.imp fun b _ h => by
    rcases h with h | h
    · exact hown.2 b h
    · omega
  obtain ⟨A', c', rfl, _⟩ := h4.form
  exact h A' c' w' h4 (h3.mono fun i _ h => hown.2 i h) (others_of_kept h3 fun k' o' hk' hs' => own_cells hown hs' hk')
end Go.Proofs.YtiddhcabpmkolaaGreatDoor
