/-
  A row of the call's own that a slice looks into from an offset on: appended to, shifted. Memory in pieces: each piece has blocks of its own; what turns one piece leaves the others.
-/
import Derived.ArgAppend
import Derived.Test.YtiddhcabpmkolaaGreatDoorZLib
import Derived.Test.YtiddhcabpmkolaaGreatDoorZBlk
import Derived.Test.YtiddhcabpmkolaaGreatDoorZIter
set_option linter.unusedSimpArgs false
set_option linter.unusedVariables false
namespace Go.Proofs.YtiddhcabpmkolaaGreatDoor
open Go.RowKit
set_option maxRecDepth 100000

/-- The slice v looks into a block of F, from some offset on; it may be appended to. -/
def OwnO (w : World) (F : Nat → Prop) (e : TypeId) (k : Nat) (v : Value) (n : Nat) (xs : List Value) : Prop :=
  xs.length = n * k ∧ ((v = .slice none 0 0 ∧ n = 0) ∨ ∃ g o cap cur, v = .slice (some ⟨g, o, none⟩) n cap ∧ F g ∧ Blk w g e cur ∧ n ≤ cap ∧ cap ≤ maxLen ∧ o + cap * k ≤ cur.size ∧ (cur.toList.drop o).take (n * k) = xs)
section
variable {w w' : World} {F G S : Nat → Prop} {e : TypeId} {k n : Nat} {v : Value} {xs : List Value}
theorem Own.toO (h : Own w F e k v n xs) : OwnO w F e k v n xs := by
  obtain ⟨⟨h1, h2⟩, h3⟩ := h
  refine ⟨h1, ?_⟩
  rcases h2 with h | ⟨g, cap, cur, rfl, _, hg, hc, hm, hs, ht⟩
  · exact .inl h
  · exact .inr ⟨g, 0, cap, cur, rfl, h3 g rfl, hg, hc, hm, by omega, by simpa using ht⟩
theorem OwnO.imp (h : OwnO w F e k v n xs) (hF : ∀ b, b < w.heap.size → F b → G b) : OwnO w G e k v n xs := by
  obtain ⟨h1, h | ⟨g, o, cap, cur, h2, h3, h4, h5⟩⟩ := h
  · exact ⟨h1, .inl h⟩
  · exact ⟨h1, .inr ⟨g, o, cap, cur, h2, hF g h4.lt h3, h4, h5⟩⟩
theorem OwnO.kept (h : OwnO w F e k v n xs) (hk : Kept S w w') (hd : ∀ b, b < w.heap.size → F b → ¬ S b) : OwnO w' F e k v n xs := by
  obtain ⟨h1, h | ⟨g, o, cap, cur, h2, h3, h4, h5⟩⟩ := h
  · exact ⟨h1, .inl h⟩
  · exact ⟨h1, .inr ⟨g, o, cap, cur, h2, h3, h4.kept hk (hd g h4.lt h3), h5⟩⟩
theorem OwnO.form (h : OwnO w F e k v n xs) : ∃ A c, v = .slice A n c ∧ n ≤ c ∧ c ≤ maxLen ∧ Sl w F k A n xs := by
  obtain ⟨h1, ⟨rfl, rfl⟩ | ⟨g, o, cap, cur, rfl, hF, hb, hc, hm, hs, ht⟩⟩ := h
  · exact ⟨none, 0, rfl, Nat.le_refl _, Nat.zero_le _, h1, fun h => absurd h (by omega)⟩
  · refine ⟨_, cap, rfl, hc, hm, h1, fun hn => ⟨g, o, rfl, hF, hb.lt, fun j hj => ?_⟩⟩
    rw [hb.cell, ← Array.getElem?_toList, ← ht, List.getElem?_take, if_pos (by omega), List.getElem?_drop]
theorem OwnO.sl {A : Option Addr} {c : Nat} (h : OwnO w F e k (.slice A n c) n xs) : Sl w F k A n xs := by
  obtain ⟨A', c', hv, _, _, hs⟩ := h.form
  injection hv with h1 _ _
  subst h1
  exact hs
/-- 'v[m:]'. -/
theorem OwnO.shift {A : Option Addr} {c : Nat} (h : OwnO w F e k (.slice A n c) n xs) (m : Nat) (hm : m ≤ n) {Z : Option Addr} (hZ : (if c = m then A else A.map (fun a => ⟨a.block, a.off + m * k, none⟩)) = Z) :
    OwnO w F e k (.slice Z (n - m) (c - m)) (n - m) (xs.drop (m * k)) := by
  obtain ⟨h1, ⟨h2, rfl⟩ | ⟨g, o, cap, cur, h2, hF, hb, hc, hmx, hs, ht⟩⟩ := h
  · injection h2 with e1 e2 e3
    subst e1 e3
    obtain rfl : m = 0 := by omega
    simp at hZ
    subst hZ
    exact ⟨by simpa using h1, .inl ⟨rfl, rfl⟩⟩
  · injection h2 with e1 e2 e3
    subst e1 e3
    have hmk : m * k ≤ n * k := Nat.mul_le_mul_right _ hm
    have hck : m * k ≤ c * k := Nat.mul_le_mul_right _ (by omega)
    refine ⟨by rw [List.length_drop, h1, Nat.sub_mul], ?_⟩
    by_cases hcm : c = m
    · rw [if_pos hcm] at hZ
      subst hZ
      refine .inr ⟨g, o, c - m, cur, rfl, hF, hb, by omega, by omega, by rw [hcm]; simp; have := hb; omega, ?_⟩
      have h0 : n - m = 0 := by omega
      rw [h0, Nat.zero_mul, List.take_zero]
      symm
      apply List.eq_nil_of_length_eq_zero
      rw [List.length_drop, h1]
      have : n * k ≤ m * k := Nat.mul_le_mul_right _ (by omega)
      omega
    · rw [if_neg hcm] at hZ
      subst hZ
      refine .inr ⟨g, o + m * k, c - m, cur, rfl, hF, hb, by omega, by omega, by rw [Nat.sub_mul]; omega, ?_⟩
      rw [← ht, List.drop_take, List.drop_drop, Nat.sub_mul]
/-- 'append(v, x...)', run. -/
theorem run_appO {P : Program} {t ty : TypeId} {z : Value} {by_ : Nat} (ht : P.underlying t = some (.slice e)) (hI : (P.info? e).map (fun i => (i.zero, i.size, i.bytes)) = some (some z, k, by_)) (hzs : z.cells.size = k) (hk : 0 < k)
    (hown : OwnO w F e k v n xs) {A : Option Addr} {m c : Nat} {news : List Value} (hr : Sl w G k A m news) (h1 : ∀ u ∈ news, u.oneCell' = true) (h0 : 0 < m)
    (hbytes : n + m ≤ 1073741824) (hb2 : by_ ≤ 65536) :
    ∃ v' w', (Builtin.append_ #[t, t] ty #[v, .slice A m c]).run P w = .ok v' w' ∧ OwnO w' (fun g => F g ∨ w.heap.size ≤ g) e k v' (n + m) (xs ++ news) ∧ Kept F w w' := by
  obtain ⟨hl, ⟨rfl, rfl⟩ | ⟨g, o, cap, cur, rfl, hF, hb, hc, hmx, hs, htk⟩⟩ := hown
  · have hx : xs = [] := List.eq_nil_of_length_eq_zero (by simpa using hl)
    subst hx
    obtain ⟨v', w', h1, h2, h3⟩ := run_app (P := P) (ty := ty) ht hI hzs hk (Own.nil w F e k) hr h1 hbytes hb2
    exact ⟨v', w', h1, h2.toO.imp (fun b _ h => h.imp id (fun h => by omega)), h3⟩
  · obtain ⟨i, hi, hz, hsize, hby⟩ := info_parts hI
    obtain ⟨b, off, rfl, _, _, hcell⟩ := hr.2 h0
    have hcells : ∀ j u, news[j]? = some u → w.cell? ((⟨b, off, none⟩ : Addr).add j) = some u := by
      intro j u hu
      rw [Addr.add_lit, hcell j (List.getElem?_eq_some_iff.1 hu).1]
      exact hu
    by_cases hroom : n + m ≤ cap
    · have hnk : (n + m) * k ≤ cap * k := Nat.mul_le_mul_right _ hroom
      rw [Nat.add_mul] at hnk
      have hnl := hr.1
      have hfit : o + n * k + news.length ≤ cur.size := by omega
      have hf := run_firstCells_some (P := P) w i.size m ⟨b, off, none⟩ m c news (by rw [hsize]; exact hnl) hcells
      rw [hsize] at hf
      have hst := run_storeCells_at P g (o + n * k) e news 0 cur w hb (by simpa using hfit) h1
      simp only [Nat.add_zero] at hst
      refine ⟨.slice (some ⟨g, o, none⟩) (n + m) cap, w.setRow g (cur.toList.take (o + n * k) ++ news ++ cur.toList.drop (o + n * k + news.length)).toArray, ?_, ?_, (setRow_kept w g _).mono (fun i _ h => by have h' : i = g := h; rw [h']; exact hF)⟩
      · simp [Builtin.append_, run_underlying ht, sizeOf, typeInfo, hi, Builtin.lenOf, hroom, hf, Addr.add_lit, hsize, hst]
      · have hpre : (cur.toList.take (o + n * k)).length = o + n * k := by rw [List.length_take, Array.length_toList]; omega
        refine ⟨by rw [List.length_append, hl, hnl, Nat.add_mul], .inr ⟨g, o, cap, _, rfl, .inl hF, setRow_heap w g cur _ e (0, 0) hb, hroom, hmx, ?_, ?_⟩⟩
        · simp only [List.size_toArray, List.length_append, hpre, List.length_drop, Array.length_toList]
          omega
        · have h3 : cur.toList.take (o + n * k) = cur.toList.take o ++ xs := by
            rw [← htk, List.take_add]
          have ho : (cur.toList.take o).length = o := by rw [List.length_take, Array.length_toList]; omega
          rw [h3]
          show ((cur.toList.take o ++ xs ++ news ++ cur.toList.drop (o + n * k + news.length)).drop o).take ((n + m) * k) = _
          rw [List.append_assoc, List.append_assoc, List.drop_append_of_le_length (by omega), List.drop_of_length_le (by omega), List.nil_append, ← List.append_assoc, List.take_append_of_le_length (by rw [List.length_append, hl, hnl, Nat.add_mul]; exact Nat.le_refl _), List.take_of_length_le (by rw [List.length_append, hl, hnl, Nat.add_mul]; exact Nat.le_refl _)]
    · have holds : ∀ j u, xs[j]? = some u → w.cell? ((⟨g, o, none⟩ : Addr).add j) = some u := by
        intro j u hu
        have hjl := (List.getElem?_eq_some_iff.1 hu).1
        rw [Addr.add_lit, hb.cell, ← Array.getElem?_toList, ← hu, ← htk, List.getElem?_take, if_pos (by omega), List.getElem?_drop]
      have hbb : (n + m) * by_ ≤ 140737488355328 := by
        have := Nat.mul_le_mul hbytes hb2
        omega
      obtain ⟨v', w', hrun, ho, hg⟩ := run_append_arg_grows (P := P) w t ty e i z k by_ ht hi hz hsize hby hzs hk ⟨g, o, none⟩ n cap xs hl holds ⟨b, off, none⟩ m c news hr.1 hcells (by omega) (by unfold maxLen; omega) hbb
      refine ⟨v', w', hrun, ?_, (Kept.refl F w).grown hg (fun k e => by cases e)⟩
      obtain ⟨h1, h2⟩ := ho
      refine ⟨h1, ?_⟩
      rcases h2 with h | ⟨g', cap', cur', rfl, hB, hg', hc', hm', hs', ht'⟩
      · exact .inl h
      · exact .inr ⟨g', 0, cap', cur', rfl, .inr hB, hg', hc', hm', by omega, by simpa using ht'⟩
section
variable {P : Program} {ops : Array Oper} {rest : List Oper} {o : Oper} {a : Act} {Q : Exit → Act → World → Prop}
theorem wp_appO {t : TypeId} {z : Value} {by_ : Nat} (ht : P.underlying t = some (.slice e)) (hI : (P.info? e).map (fun i => (i.zero, i.size, i.bytes)) = some (some z, k, by_)) (hzs : z.cells.size = k) (hk : 0 < k)
    (hown : OwnO w F e k v n xs) {A : Option Addr} {m c : Nat} {news : List Value} (hr : Sl w G k A m news) (h1 : ∀ u ∈ news, u.oneCell' = true) (h0 : 0 < m)
    (hbytes : n + m ≤ 1073741824) (hb2 : by_ ≤ 65536)
    (hgd : o.guard = none) (s x : Operand) (ho : o.op = .call { callee := .builtin .append, args := #[s, x], argTypes := #[t, t] }) (hs : a.eval s = v) (hx : a.eval x = .slice A m c)
    (h : ∀ v' w', OwnO w' (fun g => F g ∨ w.heap.size ≤ g) e k v' (n + m) (xs ++ news) → Kept F w w' → wpList P ops Q rest (a.put o.dst v') w') : wpList P ops Q (o :: rest) a w := by
  obtain ⟨v', w', hrun, h2, h3⟩ := run_appO (P := P) (ty := o.type) ht hI hzs hk hown hr h1 h0 hbytes hb2
  refine wpList_plain hgd fun K hK => ?_
  unfold Oper.wp execOp
  simp only [ho, resolve, invoke, builtin, Sem.run_bind, Sem.run_pure, Result.andThen_ok, List.map_toArray, List.map_cons, List.map_nil, hs, hx]
  rw [hrun]
  exact hK _ _ (h v' w' h2 h3)
end
end
end Go.Proofs.YtiddhcabpmkolaaGreatDoor
set_option linter.unusedSimpArgs false
set_option linter.unusedVariables false
namespace Go.Proofs.YtiddhcabpmkolaaGreatDoor
open Go.RowKit
set_option maxRecDepth 100000

/-- A piece of memory: what holds of a world, all of it in blocks of a class. -/
structure Ch where
  p : World → (Nat → Prop) → Prop
  imp : ∀ {w : World} {F G : Nat → Prop}, p w F → (∀ b, b < w.heap.size → F b → G b) → p w G
  kept : ∀ {w w' : World} {F S : Nat → Prop}, p w F → Kept S w w' → (∀ b, b < w.heap.size → F b → ¬ S b) → p w' F
def ownC (e : TypeId) (k : Nat) (v : Value) (n : Nat) (xs : List Value) : Ch := ⟨fun w F => Own w F e k v n xs, Own.imp, Own.kept⟩
def ownOC (e : TypeId) (k : Nat) (v : Value) (n : Nat) (xs : List Value) : Ch := ⟨fun w F => OwnO w F e k v n xs, OwnO.imp, OwnO.kept⟩
def blkC (g : Nat) (t : TypeId) (cs : Array Value) : Ch := ⟨fun w F => F g ∧ Blk w g t cs, fun h hF => ⟨hF _ h.2.lt h.1, h.2⟩, fun h hk hd => ⟨h.1, h.2.kept hk (hd _ h.2.lt h.1)⟩⟩
def slC (k : Nat) (A : Option Addr) (n : Nat) (xs : List Value) : Ch := ⟨fun w F => Sl w F k A n xs, Sl.imp, Sl.kept⟩
def Star (w : World) (F : Nat → Prop) : List Ch → Prop
  | [] => True
  | P :: Ps => ∃ G, (∀ b, G b → F b) ∧ P.p w G ∧ Star w (fun b => F b ∧ ¬ G b) Ps
section
variable {w w' : World} {F G S : Nat → Prop} {P Q : Ch} {Ps Qs : List Ch}
theorem Star.imp (h : Star w F Ps) (hF : ∀ b, b < w.heap.size → F b → G b) : Star w G Ps := by
  induction Ps generalizing F G with
  | nil => trivial
  | cons P Ps ih =>
    obtain ⟨H, h1, h2, h3⟩ := h
    exact ⟨fun b => H b ∧ b < w.heap.size, fun b h => hF b h.2 (h1 b h.1), P.imp h2 (fun b hb h => ⟨h, hb⟩), ih h3 (fun b hb h => ⟨hF b hb h.1, fun e => h.2 e.1⟩)⟩
theorem Star.kept (h : Star w F Ps) (hk : Kept S w w') (hd : ∀ b, b < w.heap.size → F b → ¬ S b) : Star w' F Ps := by
  induction Ps generalizing F with
  | nil => trivial
  | cons P Ps ih =>
    obtain ⟨H, h1, h2, h3⟩ := h
    exact ⟨H, h1, P.kept h2 hk (fun b hb h => hd b hb (h1 b h)), ih h3 (fun b hb h => hd b hb h.1)⟩
def starC (Ps : List Ch) : Ch := ⟨fun w F => Star w F Ps, Star.imp, Star.kept⟩
def exC {α : Type} (P : α → Ch) : Ch := ⟨fun w F => ∃ a, (P a).p w F, fun ⟨a, h⟩ hF => ⟨a, (P a).imp h hF⟩, fun ⟨a, h⟩ hk hd => ⟨a, (P a).kept h hk hd⟩⟩
theorem Star.pure (h : Star w F Ps) (hk : Pure w w') : Star w' F Ps := h.kept hk (fun _ _ _ h => h)
/-- One piece, and the way back. -/
theorem Star.at (h : Star w F Ps) (i : Nat) (hi : Ps[i]? = some P) : ∃ G, (∀ b, G b → F b) ∧ P.p w G ∧
    ∀ (w' : World) (Q : Ch), Q.p w' (fun b => G b ∨ w.heap.size ≤ b) → Kept G w w' → Star w' (fun b => F b ∨ w.heap.size ≤ b) (Ps.set i Q) := by
  induction Ps generalizing F i with
  | nil => simp at hi
  | cons P0 Ps ih =>
    obtain ⟨H, h1, h2, h3⟩ := h
    cases i with
    | zero =>
      simp at hi
      subst hi
      refine ⟨H, h1, h2, fun w' Q hQ hk => ⟨fun b => H b ∨ w.heap.size ≤ b, fun b h => h.imp (h1 b) id, hQ, ?_⟩⟩
      have h4 := h3.imp (G := fun b => (F b ∧ ¬ H b) ∧ b < w.heap.size) (fun b hb h => ⟨h, hb⟩)
      exact (h4.kept hk (fun b _ h => h.1.2)).imp (fun b _ h => ⟨.inl h.1.1, fun e => e.elim h.1.2 (fun e => by have := h.2; omega)⟩)
    | succ i =>
      obtain ⟨G, g1, g2, g3⟩ := ih h3 i (by simpa using hi)
      refine ⟨G, fun b h => (g1 b h).1, g2, fun w' Q hQ hk => ⟨fun b => H b ∧ b < w.heap.size, fun b h => .inl (h1 b h.1), ?_, ?_⟩⟩
      · exact (P0.imp (G := fun b => H b ∧ b < w.heap.size) h2 (fun b hb h => ⟨h, hb⟩)) |> fun h => P0.kept h hk (fun b _ h e => (g1 b e).2 h.1)
      · exact (g3 w' Q hQ hk).imp (fun b _ h => by
          rcases h with h | h
          · exact ⟨.inl h.1, fun e => h.2 e.1⟩
          · exact ⟨.inr h, fun e => by have := e.2; omega⟩)
theorem Star.get (h : Star w F Ps) (i : Nat) (hi : Ps[i]? = some P) : P.p w F := by
  obtain ⟨G, h1, h2, _⟩ := h.at i hi
  exact P.imp h2 (fun b _ h => h1 b h)
theorem Star.add (h : Star w F Ps) (hk : Pure w w') (hQ : Q.p w' (fun b => w.heap.size ≤ b)) : Star w' (fun b => F b ∨ w.heap.size ≤ b) (Q :: Ps) :=
  ⟨fun b => w.heap.size ≤ b, fun b h => .inr h, hQ, ((h.imp (G := fun b => F b ∧ b < w.heap.size) (fun b hb h => ⟨h, hb⟩)).pure hk).imp (fun b _ h => ⟨.inl h.1, by have := h.2; omega⟩)⟩
theorem Star.tail (h : Star w F (P :: Ps)) : Star w F Ps := by
  obtain ⟨G, _, _, h⟩ := h
  exact h.imp (fun b _ h => h.1)
theorem Star.drop (h : Star w F Ps) (i : Nat) : Star w F (Ps.eraseIdx i) := by
  induction Ps generalizing F i with
  | nil => trivial
  | cons P Ps ih =>
    cases i with
    | zero => exact h.tail
    | succ i =>
      obtain ⟨G, h1, h2, h3⟩ := h
      exact ⟨G, h1, h2, ih h3 i⟩
/-- Two pieces change places. -/
theorem Star.swap (h : Star w F (P :: Q :: Ps)) : Star w F (Q :: P :: Ps) := by
  obtain ⟨G, h1, h2, H, k1, k2, k3⟩ := h
  exact ⟨H, fun b h => (k1 b h).1, k2, G, fun b h => ⟨h1 b h, fun e => (k1 b e).2 h⟩, h2, k3.imp (fun b _ h => ⟨⟨h.1.1, h.2⟩, h.1.2⟩)⟩
theorem Star.cons (h : Star w F (P :: Ps)) (hQ : ∀ G, (∀ b, G b → F b) → Star w G Ps → Star w G Qs) : Star w F (P :: Qs) := by
  obtain ⟨G, h1, h2, h3⟩ := h
  exact ⟨G, h1, h2, hQ _ (fun b h => h.1) h3⟩
theorem Star.perm (hp : Ps.Perm Qs) (h : Star w F Ps) : Star w F Qs := by
  induction hp generalizing F with
  | nil => exact h
  | cons P _ ih => exact h.cons (fun G _ h => ih h)
  | swap P Q Ps => exact h.swap
  | trans _ _ ih1 ih2 => exact ih2 (ih1 h)
/-- A piece of pieces is laid open. -/
theorem Star.flat (h : Star w F (starC Qs :: Ps)) : Star w F (Qs ++ Ps) := by
  obtain ⟨G, h1, h2, h3⟩ := h
  have h2' : Star w G Qs := h2
  clear h2
  induction Qs generalizing F G with
  | nil => exact h3.imp (fun b _ h => h.1)
  | cons Q Qs ih =>
    obtain ⟨H, k1, k2, k3⟩ := h2'
    exact ⟨H, fun b h => h1 b (k1 b h), k2, ih (G := fun b => G b ∧ ¬ H b) (F := fun b => F b ∧ ¬ H b) (fun b h => ⟨h1 b h.1, h.2⟩) (h3.imp (fun b _ h => ⟨⟨h.1, fun e => h.2 (k1 b e)⟩, fun e => h.2 e.1⟩)) k3⟩
theorem Star.unflat (h : Star w F (Qs ++ Ps)) : Star w F (starC Qs :: Ps) := by
  induction Qs generalizing F with
  | nil => exact ⟨fun _ => False, fun _ h => h.elim, trivial, h.imp (fun b _ h => ⟨h, fun e => e⟩)⟩
  | cons Q Qs ih =>
    obtain ⟨H, k1, k2, k3⟩ := h
    obtain ⟨G, h1, h2, h3⟩ := ih k3
    exact ⟨fun b => H b ∨ G b, fun b h => h.elim (k1 b) (fun h => (h1 b h).1), ⟨H, fun b h => .inl h, k2, Star.imp h2 (fun b _ h => ⟨.inr h, (h1 b h).2⟩)⟩, h3.imp (fun b _ h => ⟨h.1.1, fun e => e.elim h.1.2 h.2⟩)⟩
end

/-- A call on its way: the pieces lie in blocks of F and in new ones; nothing else has turned. -/
structure Run (w₀ : World) (F : Nat → Prop) (w : World) (Ps : List Ch) : Prop where
  star : Star w (fun b => F b ∨ w₀.heap.size ≤ b) Ps
  kept : Kept F w₀ w
section
variable {w₀ w w' : World} {F S : Nat → Prop} {P Q : Ch} {Ps Qs : List Ch} {g k n : Nat} {t e : TypeId} {cs : Array Value} {v : Value} {xs : List Value}
theorem Run.start (h : Star w F Ps) : Run w F w Ps := ⟨h.imp (fun _ _ h => .inl h), Kept.refl _ _⟩
theorem Run.size (h : Run w₀ F w Ps) : w₀.heap.size ≤ w.heap.size := h.kept.size
theorem Run.keptW {G : Nat → Prop} (h : Run w₀ F w Ps) (hG : ∀ b, G b → F b ∨ w₀.heap.size ≤ b) (hk : Kept G w w') : Kept F w₀ w' := h.kept.trans hk (fun b hb h => (hG b h).elim id (fun h => by omega))
theorem Run.at (h : Run w₀ F w Ps) (i : Nat) (hi : Ps[i]? = some P) : ∃ G, (∀ b, G b → F b ∨ w₀.heap.size ≤ b) ∧ P.p w G ∧
    ∀ (w' : World) (Q : Ch), Q.p w' (fun b => G b ∨ w.heap.size ≤ b) → Kept G w w' → Run w₀ F w' (Ps.set i Q) := by
  obtain ⟨G, h1, h2, h3⟩ := h.star.at i hi
  exact ⟨G, h1, h2, fun w' Q hQ hk => ⟨(h3 w' Q hQ hk).imp (fun b _ e => by
    have := h.size
    rcases e with (e | e) | e
    · exact .inl e
    · exact .inr e
    · exact .inr (by omega)), h.keptW h1 hk⟩⟩
theorem Run.get (h : Run w₀ F w Ps) (i : Nat) (hi : Ps[i]? = some P) : P.p w (fun b => F b ∨ w₀.heap.size ≤ b) := h.star.get i hi
theorem Run.blk (h : Run w₀ F w Ps) (i : Nat) (hi : Ps[i]? = some (blkC g t cs)) : Blk w g t cs := (h.get i hi).2
theorem Run.own (h : Run w₀ F w Ps) (i : Nat) (hi : Ps[i]? = some (ownC e k v n xs)) : Own w (fun b => F b ∨ w₀.heap.size ≤ b) e k v n xs := h.get i hi
theorem Run.pure (h : Run w₀ F w Ps) (hk : Pure w w') : Run w₀ F w' Ps := ⟨h.star.pure hk, h.kept.same (hk.mono (fun _ _ h => h.elim))⟩
theorem Run.alloc (h : Run w₀ F w Ps) (o : Obj) : Run w₀ F (w.alloc o) Ps := h.pure ((Kept.refl _ _).alloc o)
theorem Run.drewN (h : Run w₀ F w Ps) (m : Nat) : Run w₀ F (w.drewN m) Ps := h.pure ((Kept.refl _ _).drewN m)
theorem Run.drew (h : Run w₀ F w Ps) : Run w₀ F w.drew Ps := h.pure (Kept.refl _ _).drew
theorem Run.add (h : Run w₀ F w Ps) (hk : Pure w w') (hQ : Q.p w' (fun b => w.heap.size ≤ b)) : Run w₀ F w' (Q :: Ps) :=
  ⟨(h.star.add hk hQ).imp (fun b _ e => by
    have := h.size
    rcases e with (e | e) | e
    · exact .inl e
    · exact .inr e
    · exact .inr (by omega)), h.kept.same (hk.mono (fun _ _ h => h.elim))⟩
theorem Run.addBlk (h : Run w₀ F w Ps) (cs : Array Value) (t : TypeId) : Run w₀ F (w.alloc (.cells cs t)) (blkC w.heap.size t cs :: Ps) :=
  h.add ((Kept.refl _ _).alloc _) ⟨Nat.le_refl _, Blk.new w t cs⟩
theorem Run.addNil (h : Run w₀ F w Ps) (e : TypeId) (k : Nat) : Run w₀ F w (ownC e k (.slice none 0 0) 0 [] :: Ps) := h.add (Kept.refl _ _) (Own.nil _ _ _ _)
theorem Run.addOwn (h : Run w₀ F w Ps) (hk : Pure w w') (ho : Own w' (fun b => w.heap.size ≤ b) e k v n xs) : Run w₀ F w' (ownC e k v n xs :: Ps) := h.add hk ho
theorem Run.drop (h : Run w₀ F w Ps) (i : Nat) : Run w₀ F w (Ps.eraseIdx i) := ⟨h.star.drop i, h.kept⟩
theorem Run.perm (h : Run w₀ F w Ps) (hp : Ps.Perm Qs) : Run w₀ F w Qs := ⟨h.star.perm hp, h.kept⟩
theorem Run.flat (h : Run w₀ F w (starC Qs :: Ps)) : Run w₀ F w (Qs ++ Ps) := ⟨h.star.flat, h.kept⟩
theorem Run.unflat (h : Run w₀ F w (Qs ++ Ps)) : Run w₀ F w (starC Qs :: Ps) := ⟨h.star.unflat, h.kept⟩
/-- A cell is stored. -/
theorem Run.set (h : Run w₀ F w Ps) (i : Nat) (hi : Ps[i]? = some (blkC g t cs)) (j : Nat) (u : Value) : Run w₀ F (w.setCell ⟨g, j, none⟩ u) (Ps.set i (blkC g t (cs.setIfInBounds j u))) := by
  obtain ⟨G, _, ⟨h2, h2'⟩, h3⟩ := h.at i hi
  exact h3 _ _ ⟨.inl h2, h2'.set j u⟩ ((Kept.refl G w).setCell (p := ⟨g, j, none⟩) (.inl h2) u)
/-- A block is turned as a whole. -/
theorem Run.turn (h : Run w₀ F w Ps) (i : Nat) (hi : Ps[i]? = some (blkC g t cs)) {cs' : Array Value} (hb : Blk w' g t cs') (hk : Kept (· = g) w w') : Run w₀ F w' (Ps.set i (blkC g t cs')) := by
  obtain ⟨G, _, ⟨h2, _⟩, h3⟩ := h.at i hi
  exact h3 _ _ ⟨.inl h2, hb⟩ (hk.mono (fun b _ e => by have e' : b = g := e; rw [e']; exact h2))
/-- At the end. -/
theorem Run.fin (h : Run w₀ F w Ps) : Star w (fun b => F b ∨ w₀.heap.size ≤ b) Ps ∧ Kept F w₀ w := ⟨h.star, h.kept⟩
theorem Run.pureOf (h : Run w₀ (fun _ => False) w Ps) : Pure w₀ w := h.kept
variable {Pr : Program} {ops : Array Oper} {rest : List Oper} {o : Oper} {a : Act} {Qx : Exit → Act → World → Prop}
/-- 'append(v, x...)'. -/
theorem Run.app (h : Run w₀ F w Ps) (i : Nat) {z : Value} {by_ : Nat} {v : Value} {n : Nat} {xs : List Value} (hi : Ps[i]? = some (ownC e k v n xs)) (ht : Pr.underlying t = some (.slice e)) (hI : (Pr.info? e).map (fun i => (i.zero, i.size, i.bytes)) = some (some z, k, by_)) (hzs : z.cells.size = k) (hk : 0 < k)
    {A : Option Addr} {m c : Nat} {G : Nat → Prop} {news : List Value} (hr : Sl w G k A m news) (h1 : ∀ u ∈ news, u.oneCell' = true) (hbytes : n + m ≤ 1073741824) (hb2 : by_ ≤ 65536)
    (hgd : o.guard = none) (s x : Operand) (ho : o.op = .call { callee := .builtin .append, args := #[s, x], argTypes := #[t, t] }) (hs : a.eval s = v) (hx : a.eval x = .slice A m c)
    (hh : ∀ v' w', (∃ A' c', v' = .slice A' (n + m) c' ∧ n + m ≤ c' ∧ c' ≤ maxLen) → Run w₀ F w' (Ps.set i (ownC e k v' (n + m) (xs ++ news))) → wpList Pr ops Qx rest (a.put o.dst v') w') : wpList Pr ops Qx (o :: rest) a w := by
  obtain ⟨G', _, h2, h3⟩ := h.at i hi
  refine wp_app ht hI hzs hk h2 hr h1 hbytes hb2 hgd s x ho hs hx fun v' w' h4 h5 => hh v' w' ?_ (h3 _ _ (h4.imp (fun b _ e => e.imp id (fun e => by omega))) h5)
  obtain ⟨A', c', e1, e2, e3, _⟩ := h4.form
  exact ⟨A', c', e1, e2, e3⟩
end
section
variable {w₀ w w' : World} {F S : Nat → Prop} {P Q : Ch} {Ps Qs : List Ch} {g n c : Nat} {t e : TypeId} {xs : List Value}
theorem Own.frozen1 {k : Nat} (h : Own w F e k (.slice (some ⟨g, 0, none⟩) n c) n xs) (j : Nat) : w.frozen? ⟨g, j, none⟩ = false := by
  obtain ⟨⟨_, h⟩, _⟩ := h
  rcases h with ⟨h, _⟩ | ⟨g', cap, cur, h, _, hg, _⟩
  · cases h
  · injection h with h
    injection h with h
    injection h with h
    subst h
    exact frozen_of_row w g j cur e hg
theorem Own.set1 (h : Own w F e 1 (.slice (some ⟨g, 0, none⟩) n c) n xs) (j : Nat) (hj : j < n) (u : Value) : Own (w.setCell ⟨g, j, none⟩ u) F e 1 (.slice (some ⟨g, 0, none⟩) n c) n (xs.set j u) ∧ Kept F w (w.setCell ⟨g, j, none⟩ u) := by
  obtain ⟨⟨h1, h⟩, hF⟩ := h
  have hFg : F g := hF g rfl
  refine ⟨⟨⟨by simpa using h1, .inr ?_⟩, hF⟩, (Kept.refl F w).setCell (p := ⟨g, j, none⟩) (.inl hFg) u⟩
  rcases h with ⟨h, _⟩ | ⟨g', cap, cur, h, hb, hg, hc, hm, hs, ht⟩
  · cases h
  · injection h with h2 h3 h4
    injection h2 with h2
    injection h2 with h2
    subst h2 h4
    refine ⟨g, c, cur.setIfInBounds j u, rfl, hb, Blk.set (g := g) hg j u, hc, hm, by simpa using hs, ?_⟩
    rw [← ht, Array.toList_setIfInBounds, List.take_set]
theorem Run.setOwn (h : Run w₀ F w Ps) (i : Nat) (hi : Ps[i]? = some (ownC e 1 (.slice (some ⟨g, 0, none⟩) n c) n xs)) (j : Nat) (hj : j < n) (u : Value) : Run w₀ F (w.setCell ⟨g, j, none⟩ u) (Ps.set i (ownC e 1 (.slice (some ⟨g, 0, none⟩) n c) n (xs.set j u))) := by
  obtain ⟨G, _, h2, h3⟩ := h.at i hi
  obtain ⟨k1, k2⟩ := Own.set1 h2 j hj u
  exact h3 _ _ (k1.imp (fun b _ h => .inl h)) k2
end
/-- A piece whose blocks lie ahead of block B. -/
def ltC (B : Nat) (P : Ch) : Ch := ⟨fun w F => P.p w (fun b => F b ∧ b < B), fun h hF => P.imp h (fun b hb h => ⟨hF b hb h.1, h.2⟩), fun h hk hd => P.kept h hk (fun b hb h => hd b hb h.1)⟩
theorem Star.low {w : World} {F : Nat → Prop} {Ps : List Ch} (h : Star w F Ps) : Star w F (Ps.map (ltC w.heap.size)) := by
  induction Ps generalizing F with
  | nil => trivial
  | cons P Ps ih =>
    obtain ⟨G, h1, h2, h3⟩ := h
    exact ⟨G, h1, P.imp h2 (fun b hb h => ⟨h, hb⟩), ih h3⟩
theorem Run.low {w₀ w : World} {F : Nat → Prop} {Ps : List Ch} (h : Run w₀ F w Ps) : Run w₀ F w (Ps.map (ltC w.heap.size)) := ⟨h.star.low, h.kept⟩
end Go.Proofs.YtiddhcabpmkolaaGreatDoor
