/-
  Words of this claim's own for memory: what a slice reads as, a block known whole, which blocks a call may turn. Rows of things of some cells each.
-/
import Derived.WalkKit
import Derived.WalkLawsBesides
import Derived.WalkSpells
import Derived.Lib.Hide
import Derived.Deep.Draws
import Derived.Maps.AppendAt
import Derived.Lib.AppendStr
import Derived.OwnWalk
import Derived.Handy
namespace Go.Proofs.YtiddhcabpmkolaaGreatDoor
open Go.RowKit Go.Lib
set_option linter.unusedVariables false
set_option linter.unusedSimpArgs false

/-! ### Addresses -/
theorem add_blk (a : Addr) (n : Nat) : (a.add n).block = a.block := by unfold Addr.add; split <;> rfl

/-! ### Which blocks a call may turn -/

/-- Outside the blocks of S (and what is new) nothing has turned. -/
structure Kept (S : Nat → Prop) (w w' : World) : Prop where
  os : w'.os = w.os
  tape : w'.tape = w.tape
  output : w'.output = w.output
  size : w.heap.size ≤ w'.heap.size
  block : ∀ k, k < w.heap.size → ¬ S k → w'.heap[k]? = w.heap[k]?

section
variable {S T : Nat → Prop} {a b w w' : World}
theorem Kept.refl (S : Nat → Prop) (w : World) : Kept S w w := ⟨rfl, rfl, rfl, Nat.le_refl _, fun _ _ _ => rfl⟩
theorem Kept.trans (h : Kept S a b) (k : Kept T b w) (hT : ∀ i, i < a.heap.size → T i → S i) : Kept S a w :=
  ⟨k.os.trans h.os, k.tape.trans h.tape, k.output.trans h.output, Nat.le_trans h.size k.size,
   fun i hi hn => (k.block i (Nat.lt_of_lt_of_le hi h.size) (fun ht => hn (hT i hi ht))).trans (h.block i hi hn)⟩
theorem Kept.mono (h : Kept S a b) (hT : ∀ i, i < a.heap.size → S i → T i) : Kept T a b :=
  ⟨h.os, h.tape, h.output, h.size, fun i hi hn => h.block i hi fun hs => hn (hT i hi hs)⟩
theorem Kept.same (h : Kept S a b) (k : Kept S b w) : Kept S a w := h.trans k fun _ _ h => h
theorem Kept.drew (h : Kept S a w) : Kept S a w.drew := ⟨h.os, h.tape, h.output, h.size, h.block⟩
theorem Kept.drewN (h : Kept S a w) (n : Nat) : Kept S a (w.drewN n) := ⟨h.os, h.tape, h.output, h.size, h.block⟩
theorem Kept.alloc (h : Kept S a w) (o : Obj) : Kept S a (w.alloc o) :=
  ⟨h.os, h.tape, h.output, Nat.le_trans h.size (by simp), fun i hi hn => (Below.heap_alloc w o i (Nat.lt_of_lt_of_le hi h.size)).trans (h.block i hi hn)⟩
theorem Kept.setCell (h : Kept S a w) {p : Addr} (hp : S p.block ∨ a.heap.size ≤ p.block) (u : Value) : Kept S a (w.setCell p u) :=
  ⟨h.os, h.tape, h.output, by simpa [World.setCell] using h.size, fun i hi hn => (Below.heap_setCell w p u i (by
    rintro rfl
    rcases hp with hp | hp
    · exact hn hp
    · omega)).trans (h.block i hi hn)⟩
theorem Kept.grown (h : Kept S a w) {row : Option Nat} (hg : w.grownBy w' row) (hr : ∀ k, row = some k → S k ∨ a.heap.size ≤ k) : Kept S a w' :=
  ⟨hg.os.trans h.os, hg.tape.trans h.tape, hg.output.trans h.output, Nat.le_trans h.size hg.size,
   fun i hi hn => (hg.block i (Nat.lt_of_lt_of_le hi h.size) (fun e => by
     rcases hr i e.symm with hs | hs
     · exact hn hs
     · omega)).trans (h.block i hi hn)⟩
end

/-- Nothing that was there has turned. -/
abbrev Pure (w w' : World) : Prop := Kept (fun _ => False) w w'
theorem Pure.below {w w' : World} (h : Pure w w') : Below w.heap.size w w' := ⟨h.os, h.tape, h.output, h.size, fun k hk => h.block k hk (fun h => h)⟩
theorem Pure.of_below {w w' : World} (h : Below w.heap.size w w') : Pure w w' := ⟨h.os, h.tape, h.output, h.size, fun k hk _ => h.block k hk⟩

/-! ### A block known whole -/
def Blk (w : World) (g : Nat) (t : TypeId) (cs : Array Value) : Prop := w.heap[g]? = some (.cells cs t (0, 0))

section
variable {S : Nat → Prop} {w w' : World} {g : Nat} {t : TypeId} {cs : Array Value}
theorem Blk.lt (h : Blk w g t cs) : g < w.heap.size := (Array.getElem?_eq_some_iff.1 h).1
theorem Blk.cell (h : Blk w g t cs) (i : Nat) : w.cell? ⟨g, i, none⟩ = cs[i]? := cell_of_row w g i cs t (0, 0) h
theorem Blk.frozen (h : Blk w g t cs) (i : Nat) : w.frozen? ⟨g, i, none⟩ = false := frozen_of_row w g i cs t h
theorem Blk.new (w : World) (t : TypeId) (cs : Array Value) : Blk (w.alloc (.cells cs t)) w.heap.size t cs := heap_alloc_new w _
theorem Blk.drewN (h : Blk w g t cs) (n : Nat) : Blk (w.drewN n) g t cs := h
theorem Blk.alloc (h : Blk w g t cs) (o : Obj) : Blk (w.alloc o) g t cs := (Below.heap_alloc w o g h.lt).trans h
theorem Blk.set (h : Blk w g t cs) (i : Nat) (u : Value) : Blk (w.setCell ⟨g, i, none⟩ u) g t (cs.setIfInBounds i u) := by
  unfold Blk at h ⊢
  simp [World.setCell, Array.getElem?_modify, h]
theorem Blk.far (h : Blk w g t cs) {p : Addr} (hp : g ≠ p.block) (u : Value) : Blk (w.setCell p u) g t cs := (Below.heap_setCell w p u g hp).trans h
theorem Blk.kept (h : Blk w g t cs) (hk : Kept S w w') (hg : ¬ S g) : Blk w' g t cs := (hk.block g h.lt hg).trans h
theorem Blk.ne {g' : Nat} {t' : TypeId} {cs' : Array Value} (h : Blk w g t cs) (h' : Blk w g' t' cs') (hne : t ≠ t') : g ≠ g' := by
  rintro rfl
  unfold Blk at h h'
  rw [h] at h'
  injection h' with h'
  injection h' with _ ht
  exact hne ht
end

/-! ### A slice that reads as a list of cells: nil, empty or not -/

/-- The slice (A, n elements of k cells each) reads as the cells xs, all of them in a block with the property F. -/
def Sl (w : World) (F : Nat → Prop) (k : Nat) (A : Option Addr) (n : Nat) (xs : List Value) : Prop :=
  xs.length = n * k ∧ (0 < n → ∃ b o, A = some ⟨b, o, none⟩ ∧ F b ∧ b < w.heap.size ∧ ∀ j, j < xs.length → w.cell? ⟨b, o + j, none⟩ = xs[j]?)

section
variable {S F G : Nat → Prop} {w w' : World} {k n : Nat} {A : Option Addr} {xs : List Value}
theorem Sl.nil (w : World) (F : Nat → Prop) (k : Nat) (A : Option Addr) : Sl w F k A 0 [] := ⟨by simp, fun h => absurd h (by omega)⟩
theorem Sl.imp (h : Sl w F k A n xs) (hF : ∀ b, b < w.heap.size → F b → G b) : Sl w G k A n xs :=
  ⟨h.1, fun hn => let ⟨b, o, e, f, l, c⟩ := h.2 hn; ⟨b, o, e, hF b l f, l, c⟩⟩
theorem Sl.kept (h : Sl w F k A n xs) (hk : Kept S w w') (hd : ∀ b, b < w.heap.size → F b → ¬ S b) : Sl w' F k A n xs :=
  ⟨h.1, fun hn => let ⟨b, o, e, f, l, c⟩ := h.2 hn
    ⟨b, o, e, f, Nat.lt_of_lt_of_le l hk.size, fun j hj => (World.cell?_of_block (a := ⟨b, o + j, none⟩) (hk.block b l (hd b l f))).trans (c j hj)⟩⟩
theorem Sl.drewN (h : Sl w F k A n xs) (m : Nat) : Sl (w.drewN m) F k A n xs := h
theorem Sl.alloc (h : Sl w F k A n xs) (o : Obj) : Sl (w.alloc o) F k A n xs := h.kept (S := fun _ => False) ((Kept.refl _ _).alloc o) (fun _ _ _ h => h)
theorem Sl.of_own {base : Nat} {e : TypeId} {c : Nat} (h : w.ownsRow base e k (.slice A n c) n xs) : Sl w (fun b => base ≤ b) k A n xs := by
  refine ⟨h.1, fun hn => ?_⟩
  rcases h.2 with ⟨hv, h0⟩ | ⟨g, cap, cur, hv, hb, hg, hc, _, hs, ht⟩
  · omega
  · injection hv with hA
    subst hA
    refine ⟨g, 0, rfl, hb, (Array.getElem?_eq_some_iff.1 hg).1, fun j hj => ?_⟩
    rw [Nat.zero_add, cell_of_row w g j cur e (0, 0) hg, ← ht, List.getElem?_take, if_pos (by have := h.1; omega)]
    simp
end

theorem Sl.one (w : World) (v : Value) (t : TypeId) : Sl (w.alloc (.cells #[v] t)) (fun g => g = w.heap.size) 1 (some ⟨w.heap.size, 0, none⟩) 1 [v] :=
  ⟨rfl, fun _ => ⟨w.heap.size, 0, rfl, rfl, by simp, fun j hj => by simp at hj; subst hj; simp⟩⟩

theorem Sl.lit (w : World) (cs : Array Value) (t : TypeId) (k n : Nat) (xs : List Value) (h : cs.size = n * k) (hx : cs.toList = xs) : Sl (w.alloc (.cells cs t)) (fun g => g = w.heap.size) k (some ⟨w.heap.size, 0, none⟩) n xs := by
  subst hx
  exact ⟨by simpa using h, fun _ => ⟨w.heap.size, 0, rfl, rfl, by simp, fun j hj => by simp⟩⟩

/-! ### Bytes -/
def bv (b : UInt8) : Value := .int .u8 (b.toNat : Int)
def bvs (l : List UInt8) : List Value := l.map bv
@[simp] theorem bvs_length (l : List UInt8) : (bvs l).length = l.length := by simp [bvs]
theorem bvs_append (a b : List UInt8) : bvs (a ++ b) = bvs a ++ bvs b := by simp [bvs]
theorem bvs_one (l : List UInt8) : ∀ u ∈ bvs l, u.oneCell' = true := by
  intro u hu
  obtain ⟨_, _, rfl⟩ := List.mem_map.1 hu
  rfl
theorem bvs_at (l : List UInt8) (j : Nat) (h : j < l.length) : (bvs l)[j]? = some (.int .u8 ((l[j]'h).toNat : Int)) := by
  simp [bvs, bv, h]

theorem strCells_bvs (s : ByteArray) : strCells s = bvs s.data.toList := rfl

/-- 'string(b)': what the slice reads as. -/
theorem run_str {P : Program} {w : World} {F : Nat → Prop} {A : Option Addr} {n : Nat} {l : List UInt8} (h : Sl w F 1 A n (bvs l)) (src dst e : TypeId) (c : Nat)
    (hs : P.underlying src = some (.slice e)) (he : P.underlying e = some (.int .u8)) (hd : P.underlying dst = some .string) :
    (convert src dst (.slice A n c)).run P w = .ok (.string ⟨l.toArray⟩) w := by
  have hl : l.length = n := by have := h.1; simp at this; omega
  have hmap : (l.map fun b => (b.toNat : Int)).map (fun n => UInt8.ofNat n.toNat) = l := by
    rw [List.map_map]
    conv => rhs; rw [← List.map_id l]
    apply List.map_congr_left
    intro b _
    simp
  rcases Nat.eq_zero_or_pos n with h0 | h0
  · subst h0
    have : l = [] := List.eq_nil_of_length_eq_zero hl
    subst this
    cases A with
    | none => exact run_convert_bytes_nil w src e hs he 0 c dst hd
    | some a =>
      rw [run_convert_bytes_string w src dst e _ 0 c hs he hd]
      have := run_bytesToString (P := P) w a 0 c [] (by simpa using run_loadCells_list (P := P) w a [] (by simp))
      rw [this]
      rfl
  · obtain ⟨b, o, rfl, _, _, hc⟩ := h.2 h0
    rw [run_convert_bytes_arg (P := P) w src e hs he b o n c (l.map fun b => (b.toNat : Int)) (by simpa using hl) ?_ dst hd]
    · unfold strOfNums
      rw [hmap]
    · intro i hi
      rw [hc i (by simpa [hl] using hi), bvs_at _ _ (by omega)]
      simp [show i < l.length by omega]
theorem bvs_take (l : List UInt8) (k : Nat) : bvs (l.take k) = (bvs l).take k := by simp [bvs]
theorem bvs_drop (l : List UInt8) (k : Nat) : bvs (l.drop k) = (bvs l).drop k := by simp [bvs]
theorem Sl.pre {w : World} {F : Nat → Prop} {k n : Nat} {A : Option Addr} {xs : List Value} (h : Sl w F k A n xs) (m : Nat) (hm : m ≤ n) : Sl w F k A m (xs.take (m * k)) := by
  have hle : m * k ≤ n * k := Nat.mul_le_mul_right _ hm
  refine ⟨by rw [List.length_take, h.1]; omega, fun h0 => ?_⟩
  obtain ⟨b, o, e, f, l, c⟩ := h.2 (by omega)
  refine ⟨b, o, e, f, l, fun j hj => ?_⟩
  rw [List.length_take] at hj
  rw [c j (by omega), List.getElem?_take, if_pos (by omega)]
theorem Sl.cut {w : World} {F : Nat → Prop} {b o n : Nat} {l : List UInt8} (h : Sl w F 1 (some ⟨b, o, none⟩) n (bvs l)) (i m : Nat) (him : i + m ≤ n) :
    Sl w F 1 (some ⟨b, o + i, none⟩) m (bvs ((l.drop i).take m)) := by
  have hl : l.length = n := by have := h.1; simp at this; omega
  refine ⟨by simp; omega, fun hm => ?_⟩
  obtain ⟨b', o', e, hF, hlt, hc⟩ := h.2 (by omega)
  injection e with e
  injection e with e1 e2
  subst e1 e2
  refine ⟨b, o + i, rfl, hF, hlt, fun j hj => ?_⟩
  simp at hj
  rw [Nat.add_assoc, hc (i + j) (by simp; omega)]
  simp [bvs, List.getElem?_take, show j < m by omega]

/-! ### A row of the call's own: it may be appended to -/
def Own (w : World) (F : Nat → Prop) (e : TypeId) (k : Nat) (v : Value) (n : Nat) (xs : List Value) : Prop :=
  w.ownsRow 0 e k v n xs ∧ ∀ g, v.ownBlock = some g → F g

section
variable {S F G : Nat → Prop} {w w' : World} {e : TypeId} {k n : Nat} {v : Value} {xs : List Value}
theorem Own.nil (w : World) (F : Nat → Prop) (e : TypeId) (k : Nat) : Own w F e k (.slice none 0 0) 0 [] := ⟨World.ownsRow_nil w 0 e k, fun _ h => by cases h⟩
theorem Own.imp (h : Own w F e k v n xs) (hF : ∀ b, b < w.heap.size → F b → G b) : Own w G e k v n xs := ⟨h.1, fun g hg => hF g (h.1.lt g hg).2 (h.2 g hg)⟩
theorem Own.form (h : Own w F e k v n xs) : ∃ A c, v = .slice A n c ∧ n ≤ c ∧ c ≤ maxLen ∧ xs.length = n * k ∧ Sl w F k A n xs := by
  obtain ⟨h1, h2⟩ := h
  have hl := h1.1
  rcases h1.2 with ⟨rfl, rfl⟩ | ⟨g, cap, cur, rfl, hb, hg, hc, hm, hs, ht⟩
  · have hx : xs = [] := List.eq_nil_of_length_eq_zero (by simpa using hl)
    subst hx
    exact ⟨none, 0, rfl, Nat.le_refl _, Nat.zero_le _, by simp, Sl.nil _ _ _ _⟩
  · refine ⟨_, cap, rfl, hc, hm, hl, hl, fun hn => ⟨g, 0, rfl, h2 g rfl, (Array.getElem?_eq_some_iff.1 hg).1, fun j hj => ?_⟩⟩
    rw [Nat.zero_add, cell_of_row w g j cur e (0, 0) hg, ← ht, List.getElem?_take, if_pos (by omega)]
    simp
theorem Own.sl {A : Option Addr} {c : Nat} (h : Own w F e k (.slice A n c) n xs) : Sl w F k A n xs := by
  obtain ⟨A', c', hv, _, _, _, hs⟩ := h.form
  injection hv with h1 _ _
  subst h1
  exact hs
theorem Own.kept (h : Own w F e k v n xs) (hk : Kept S w w') (hd : ∀ b, b < w.heap.size → F b → ¬ S b) : Own w' F e k v n xs := by
  refine ⟨⟨h.1.1, ?_⟩, h.2⟩
  rcases h.1.2 with hn | ⟨g, cap, cur, rfl, hb, hg, rest⟩
  · exact .inl hn
  · have hlt := (Array.getElem?_eq_some_iff.1 hg).1
    exact .inr ⟨g, cap, cur, rfl, hb, (hk.block g hlt (hd g hlt (h.2 g rfl))).trans hg, rest⟩
theorem Own.alloc (h : Own w F e k v n xs) (o : Obj) : Own (w.alloc o) F e k v n xs := ⟨h.1.alloc o, h.2⟩
theorem Own.drewN (h : Own w F e k v n xs) (m : Nat) : Own (w.drewN m) F e k v n xs := h
theorem Own.drew (h : Own w F e k v n xs) : Own w.drew F e k v n xs := h
theorem Own.lit (w : World) (e : TypeId) (k : Nat) (cs : Array Value) (n : Nat) (hs : cs.size = n * k) (hm : n ≤ maxLen) :
    Own (w.alloc (.cells cs e)) (fun g => g = w.heap.size) e k (.slice (some ⟨w.heap.size, 0, none⟩) n n) n cs.toList :=
  ⟨World.ownsRow_lit w cs n (Nat.zero_le _) hm hs, fun g hg => by simp [Value.ownBlock] at hg; exact hg.symm⟩
/-- Behind an append: its block is the old one or the new one. -/
theorem Own.of_append {w1 : World} {v' : Value} {n' : Nat} {xs' : List Value} (h : Own w F e k v n xs) (ho : w1.ownsRow 0 e k v' n' xs') (ha : v'.ownBlock = v.ownBlock ∨ v'.ownBlock = some w.heap.size) :
    Own w1 (fun g => F g ∨ g = w.heap.size) e k v' n' xs' :=
  ⟨ho, fun g hg => by
    rcases ha with ha | ha
    · exact .inl (h.2 g (by rw [← ha]; exact hg))
    · rw [hg] at ha; injection ha with ha; exact .inr ha⟩
theorem Own.kept_of_append {w1 : World} (h : Own w F e k v n xs) (hg : w.grownBy w1 v.ownBlock) : Kept F w w1 :=
  (Kept.refl F w).grown hg fun g hg => .inl (h.2 g hg)
end

/-! ### Laws of the walk -/
/-- The walk stands still here. -/
def Held (p : Prop) : Prop := p
theorem held {p : Prop} (h : Held p) : p := h
theorem unheld {p : Prop} (h : p) : Held p := h

section
variable {P : Program} {w : World} {ops : Array Oper} {rest : List Oper} {o : Oper} {a : Act} {Q : Exit → Act → World → Prop}

theorem run_app_nil (t ty e : TypeId) (i : TypeInfo) (k : Nat) (ht : P.underlying t = some (.slice e)) (hi : P.info? e = some i)
    (v : Value) (n : Nat) (xs : List Value) (hown : w.ownsRow 0 e k v n xs) (c : Nat) : (Builtin.append_ #[t, t] ty #[v, .slice none 0 c]).run P w = .ok v w := by
  rcases hown.2 with ⟨rfl, rfl⟩ | ⟨g, cap, cur, rfl, _, _, hnc, _⟩
  · simp [Builtin.append_, run_underlying ht, sizeOf, typeInfo, hi, Builtin.lenOf, Builtin.firstCells]
  · simp [Builtin.append_, run_underlying ht, sizeOf, typeInfo, hi, Builtin.lenOf, Builtin.firstCells, hnc, storeCells]

/-- 'append(v, x...)': v a row of the call's own, x whatever reads as a list. -/
theorem wp_app {t e : TypeId} {z : Value} {k by_ : Nat} (ht : P.underlying t = some (.slice e)) (hI : (P.info? e).map (fun i => (i.zero, i.size, i.bytes)) = some (some z, k, by_)) (hzs : z.cells.size = k) (hk : 0 < k)
    {v : Value} {n : Nat} {xs : List Value} {F G : Nat → Prop} (hown : Own w F e k v n xs) {A : Option Addr} {m c : Nat} {news : List Value} (hr : Sl w G k A m news) (h1 : ∀ u ∈ news, u.oneCell' = true)
    (hbytes : n + m ≤ 1073741824) (hb2 : by_ ≤ 65536)
    (hgd : o.guard = none) (s x : Operand) (ho : o.op = .call { callee := .builtin .append, args := #[s, x], argTypes := #[t, t] }) (hs : a.eval s = v) (hx : a.eval x = .slice A m c)
    (h : ∀ v' w', Own w' (fun g => F g ∨ g = w.heap.size) e k v' (n + m) (xs ++ news) → Kept F w w' → wpList P ops Q rest (a.put o.dst v') w') : wpList P ops Q (o :: rest) a w := by
  obtain ⟨i, hi, hz, hsize, hby⟩ := info_parts hI
  have h63 : n + m ≤ maxLen := by unfold maxLen; omega
  have hbb : (n + m) * by_ ≤ 140737488355328 := by
    have := Nat.mul_le_mul hbytes hb2
    omega
  have key : ∃ v' w', (Builtin.append_ #[t, t] o.type #[v, .slice A m c]).run P w = .ok v' w' ∧ Own w' (fun g => F g ∨ g = w.heap.size) e k v' (n + m) (xs ++ news) ∧ Kept F w w' := by
    rcases Nat.eq_zero_or_pos m with h0 | h0
    · subst h0
      have hn : news = [] := List.eq_nil_of_length_eq_zero (by simpa using hr.1)
      subst hn
      cases A with
      | none => exact ⟨v, w, run_app_nil t _ e i k ht hi v n xs hown.1 c, by simpa using hown.imp (fun _ _ h => .inl h), Kept.refl _ _⟩
      | some ad =>
        obtain ⟨v', w', hrun, h2, h3, _, h5⟩ := run_append_own_at (P := P) w 0 t o.type e i z k by_ ht hi hz hsize hby hzs hk v n xs hown.1 ad 0 c [] (by simp) (by simp) (by simp) h63 hbb (Nat.zero_le _)
        exact ⟨v', w', hrun, hown.of_append h2 h5, hown.kept_of_append h3⟩
    · obtain ⟨b, off, rfl, _, _, hc⟩ := hr.2 h0
      have hcells : ∀ j u, news[j]? = some u → w.cell? ((⟨b, off, none⟩ : Addr).add j) = some u := by
        intro j u hu
        rw [Addr.add_lit, hc j (List.getElem?_eq_some_iff.1 hu).1]
        exact hu
      obtain ⟨v', w', hrun, h2, h3, _, h5⟩ := run_append_own_at (P := P) w 0 t o.type e i z k by_ ht hi hz hsize hby hzs hk v n xs hown.1 ⟨b, off, none⟩ m c news hr.1 hcells h1 h63 hbb (Nat.zero_le _)
      exact ⟨v', w', hrun, hown.of_append h2 h5, hown.kept_of_append h3⟩
  refine wpList_plain hgd fun K hK => ?_
  obtain ⟨v', w', hrun, h2, h3⟩ := key
  unfold Oper.wp execOp
  simp only [ho, resolve, invoke, builtin, Sem.run_bind, Sem.run_pure, Result.andThen_ok, List.map_toArray, List.map_cons, List.map_nil, hs, hx, hrun]
  exact hK _ _ (h v' w' h2 h3)

/-- The same where the row lies from block B on. -/
theorem wp_appB (B : Nat) {t e : TypeId} {z : Value} {k by_ : Nat} (ht : P.underlying t = some (.slice e)) (hI : (P.info? e).map (fun i => (i.zero, i.size, i.bytes)) = some (some z, k, by_)) (hzs : z.cells.size = k) (hk : 0 < k)
    (hB : B ≤ w.heap.size) {v : Value} {n : Nat} {xs : List Value} {G : Nat → Prop} (hown : Own w (fun g => B ≤ g) e k v n xs) {A : Option Addr} {m c : Nat} {news : List Value} (hr : Sl w G k A m news) (h1 : ∀ u ∈ news, u.oneCell' = true)
    (hbytes : n + m ≤ 1073741824) (hb2 : by_ ≤ 65536)
    (hgd : o.guard = none) (s x : Operand) (ho : o.op = .call { callee := .builtin .append, args := #[s, x], argTypes := #[t, t] }) (hs : a.eval s = v) (hx : a.eval x = .slice A m c)
    (h : ∀ v' w', Own w' (fun g => B ≤ g) e k v' (n + m) (xs ++ news) → Kept (fun g => B ≤ g) w w' → wpList P ops Q rest (a.put o.dst v') w') : wpList P ops Q (o :: rest) a w :=
  wp_app ht hI hzs hk hown hr h1 hbytes hb2 hgd s x ho hs hx fun v' w' h2 h3 => h v' w' (h2.imp fun b _ h => by rcases h with h | h <;> omega) h3

/-- 'append(v, s...)', s a string. -/
theorem wp_app_string {t u e : TypeId} (ht : P.underlying t = some (.slice e)) (hu : P.underlying u = some .string) (hI : (P.info? e).map (fun i => (i.zero, i.size, i.bytes)) = some (some (.int .u8 0), 1, 1))
    {v : Value} {n : Nat} {xs : List Value} {F : Nat → Prop} (hown : Own w F e 1 v n xs) {str : ByteArray}
    (hbytes : n + str.size ≤ 1073741824)
    (hgd : o.guard = none) (s x : Operand) (ho : o.op = .call { callee := .builtin .append, args := #[s, x], argTypes := #[t, u] }) (hs : a.eval s = v) (hx : a.eval x = .string str)
    (h : ∀ v' w', Own w' (fun g => F g ∨ g = w.heap.size) e 1 v' (n + str.size) (xs ++ bvs str.data.toList) → Kept F w w' → wpList P ops Q rest (a.put o.dst v') w') : wpList P ops Q (o :: rest) a w := by
  obtain ⟨i, hi, hz, hsize, hby⟩ := info_parts hI
  have h63 : n + str.size ≤ maxLen := by unfold maxLen; omega
  have key : ∃ v' w', (Builtin.append_ #[t, u] o.type #[v, .string str]).run P w = .ok v' w' ∧ w'.ownsRow 0 e 1 v' (n + str.size) (xs ++ bvs str.data.toList) ∧ w.grownBy w' v.ownBlock ∧ (v'.ownBlock = v.ownBlock ∨ v'.ownBlock = some w.heap.size) := by
    obtain ⟨v', w', hrun, h2, h3, _⟩ := run_append_own_string (P := P) w 0 t u o.type e i ht hu hi hz hsize hby v n xs hown.1 str h63 (by omega) (Nat.zero_le _)
    refine ⟨v', w', hrun, h2, h3, ?_⟩
    have hown' := hown.1
    rcases hown'.2 with ⟨rfl, rfl⟩ | ⟨g, cap, cur, rfl, hbg, hg, hnc, hcm, hcs, htake⟩
    · by_cases h0 : str.size = 0
      · obtain ⟨v2, w2, hrun2, _, _, h4⟩ := run_append_own_string (P := P) w 0 t u o.type e i ht hu hi hz hsize hby _ _ xs hown' str h63 (by omega) (Nat.zero_le _)
        rw [hrun] at hrun2
        injection hrun2 with e1 e2
        subst e1
        rw [h4.2 ⟨rfl, h0⟩]
        exact .inl rfl
      · have hr := run_append_nil_string (P := P) w t u o.type e i (.int .u8 0) ht hu hi hz str (by omega) (by unfold maxLen at h63; omega) (by rw [hby]; omega)
        rw [hrun] at hr
        injection hr with e1 e2
        subst e1
        exact .inr rfl
    · by_cases hroom : n + str.size ≤ cap
      · have hcs' : cur.size = cap := by simpa using hcs
        have hr := run_append_room_string (P := P) w t u o.type e i ht hu hi hsize g n cap cur hg str hroom (by omega)
        rw [hrun] at hr
        injection hr with e1 e2
        subst e1
        exact .inl rfl
      · have hxl : xs.length = n := by simpa using hown'.1
        have holds : ∀ j u, xs[j]? = some u → w.cell? ((⟨g, 0, none⟩ : Addr).add j) = some u := hown'.cells (g := g) rfl
        have hr := run_append_grow_string (P := P) w t u o.type e i (.int .u8 0) ht hu hi hz ⟨g, 0, none⟩ n cap xs (by rw [hsize]; simpa using hxl) holds str (by omega) (by unfold maxLen at h63; omega) (by rw [hby]; exact growslice_fits (by omega) (by omega))
        rw [hrun] at hr
        injection hr with e1 e2
        subst e1
        exact .inr rfl
  obtain ⟨v', w', hrun, h2, h3, h4⟩ := key
  have hk : Kept F w w' := hown.kept_of_append h3
  have ho' : Own w' (fun g => F g ∨ g = w.heap.size) e 1 v' (n + str.size) (xs ++ bvs str.data.toList) := hown.of_append h2 h4
  refine wpList_plain hgd fun K hK => ?_
  unfold Oper.wp execOp
  simp only [ho, resolve, invoke, builtin, Sem.run_bind, Sem.run_pure, Result.andThen_ok, List.map_toArray, List.map_cons, List.map_nil, hs, hx, hrun]
  exact hK _ _ (h v' w' ho' hk)

/-- 'make([]T, 0, n)': a row of the call's own, empty. -/
theorem wp_make0 {t e : TypeId} {z : Value} {k by_ : Nat} (ht : P.underlying t = some (.slice e)) (hI : (P.info? e).map (fun i => (i.zero, i.size, i.bytes)) = some (some z, k, by_))
    {l c : Operand} {kl kc : IntKind} {C : Int} {m : Nat} (hC : C = (m : Int)) (hm : m ≤ 1073741824) (hb2 : by_ ≤ 65536)
    (hgd : o.guard = none) (hop : o.op = Op.makeSlice t l c) (hl : a.eval l = .int kl 0) (hc : a.eval c = .int kc C)
    (h : ∀ v' w', Own w' (fun g => g = w.heap.size) e k v' 0 [] → Pure w w' → wpList P ops Q rest (a.put o.dst v') w') : wpList P ops Q (o :: rest) a w := by
  obtain ⟨i, hi, hz, hsize, hby⟩ := info_parts hI
  refine wpList_make_own w hgd l c t hop 0 e i z k ht hi hz hsize kl kc C m hl hc hC ?_ (by unfold maxLen; omega) (Nat.zero_le _) ?_
  · have := Nat.mul_le_mul hb2 hm
    rw [hby]
    omega
  · intro w' h1 h2
    exact h _ w' ⟨h1, fun g hg => by simp [Value.ownBlock] at hg; exact hg.symm⟩ ((Kept.refl _ _).grown h2 (fun _ h => by cases h))

theorem wp_app_stringB (B : Nat) {t u e : TypeId} (ht : P.underlying t = some (.slice e)) (hu : P.underlying u = some .string) (hI : (P.info? e).map (fun i => (i.zero, i.size, i.bytes)) = some (some (.int .u8 0), 1, 1))
    (hB : B ≤ w.heap.size) {v : Value} {n : Nat} {xs : List Value} (hown : Own w (fun g => B ≤ g) e 1 v n xs) {str : ByteArray}
    (hbytes : n + str.size ≤ 1073741824)
    (hgd : o.guard = none) (s x : Operand) (ho : o.op = .call { callee := .builtin .append, args := #[s, x], argTypes := #[t, u] }) (hs : a.eval s = v) (hx : a.eval x = .string str)
    (h : ∀ v' w', Own w' (fun g => B ≤ g) e 1 v' (n + str.size) (xs ++ bvs str.data.toList) → Kept (fun g => B ≤ g) w w' → wpList P ops Q rest (a.put o.dst v') w') : wpList P ops Q (o :: rest) a w :=
  wp_app_string ht hu hI hown hbytes hgd s x ho hs hx fun v' w' h2 h3 => h v' w' (h2.imp fun b _ h => by rcases h with h | h <;> omega) h3
end
end Go.Proofs.YtiddhcabpmkolaaGreatDoor
set_option linter.unusedSimpArgs false
set_option linter.unusedVariables false
namespace Go.Proofs.YtiddhcabpmkolaaGreatDoor
open Go.RowKit
set_option maxRecDepth 100000

section
variable {α : Type}
theorem fm_length (f : α → List Value) (k : Nat) (hf : ∀ a, (f a).length = k) (l : List α) : (l.flatMap f).length = l.length * k := by
  induction l with
  | nil => simp
  | cons a l ih => rw [List.flatMap_cons, List.length_append, hf, ih, List.length_cons, Nat.succ_mul]; omega
theorem fm_get (f : α → List Value) (k : Nat) (hf : ∀ a, (f a).length = k) (l : List α) (i j : Nat) (e : α) (h : l[i]? = some e) (hj : j < k) : (l.flatMap f)[i * k + j]? = (f e)[j]? := by
  induction l generalizing i with
  | nil => simp at h
  | cons x l ih =>
    cases i with
    | zero =>
      simp at h
      subst h
      rw [List.flatMap_cons, List.getElem?_append_left (by rw [hf]; omega)]
      congr 1
      omega
    | succ i =>
      rw [List.flatMap_cons, Nat.succ_mul, List.getElem?_append_right (by rw [hf]; omega), hf, show i * k + k + j - k = i * k + j from by omega]
      exact ih i (by simpa using h)
/-- Of a slice that reads as a row of things: the cells of one of them. -/
theorem sl_at {f : α → List Value} {k : Nat} (hf : ∀ a, (f a).length = k) {w : World} {F : Nat → Prop} {b o n : Nat} {l : List α} (h : Sl w F k (some ⟨b, o, none⟩) n (l.flatMap f)) (hn : 0 < n) {i : Nat} {e : α} (he : l[i]? = some e) (j : Nat) (hj : j < k) :
    w.cell? ⟨b, o + i * k + j, none⟩ = (f e)[j]? := by
  obtain ⟨b', o', hA, _, _, hc⟩ := h.2 hn
  injection hA with hA
  injection hA with e1 e2
  subst e1 e2
  have hi := (List.getElem?_eq_some_iff.1 he).1
  have hle : (i + 1) * k ≤ l.length * k := Nat.mul_le_mul_right _ hi
  rw [Nat.succ_mul] at hle
  rw [Nat.add_assoc, hc (i * k + j) (by rw [fm_length f k hf]; omega), fm_get f k hf l i j e he hj]
/-- A row of single values. -/
theorem sl_one {w : World} {F : Nat → Prop} {b o n : Nat} {f : α → Value} {l : List α} (h : Sl w F 1 (some ⟨b, o, none⟩) n (l.map f)) {i : Nat} {e : α} (he : l[i]? = some e) : w.cell? ⟨b, o + i, none⟩ = some (f e) := by
  have hi := (List.getElem?_eq_some_iff.1 he).1
  have hl := h.1
  simp at hl
  obtain ⟨b', o', hA, _, _, hc⟩ := h.2 (by omega)
  injection hA with hA
  injection hA with e1 e2
  subst e1 e2
  rw [hc i (by simpa using hi), List.getElem?_map, he]
  rfl
end
end Go.Proofs.YtiddhcabpmkolaaGreatDoor
