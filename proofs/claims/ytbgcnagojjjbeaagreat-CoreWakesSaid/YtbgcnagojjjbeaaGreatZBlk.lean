/-
  A block known whole: stored into as a whole, handed back as a result; where the walk stands still. Answers and items, in plain Lean and in memory.
-/
import Derived.Lib.SlBytesConst
import Derived.Test.YtbgcnagojjjbeaaGreatZLib
set_option linter.unusedSimpArgs false
set_option linter.unusedVariables false
namespace Go.Proofs.YtbgcnagojjjbeaaGreat
open Go.RowKit
set_option maxRecDepth 100000
section
variable {P : Program} {w : World} {ops : Array Oper} {rest : List Oper} {o : Oper} {a : Act} {Q : Exit → Act → World → Prop}

theorem setRow_kept (w : World) (g : Nat) (cs : Array Value) : Kept (· = g) w (w.setRow g cs) :=
  ⟨rfl, rfl, rfl, by simp, fun k _ hn => setRow_other w g k cs hn⟩

/-- A whole aggregate stored into a block that is known whole. -/
theorem wp_store_blk (hgd : o.guard = none) (ty : TypeId) (x y : Operand) (ho : o.op = .store ty x y) {g : Nat} (hx : a.eval x = .pointer (some ⟨g, 0, none⟩)) {vs : Array Value} (hy : a.eval y = .agg vs)
    {t : TypeId} {old : Array Value} (hb : Blk w g t old) (hs : old.size = vs.size) (hi : (P.info? ty).map (·.size) = some vs.size) (h1 : vs.all (·.oneCell') = true)
    (hdst : o.dst = none) (h : ∀ w', Blk w' g t vs → Kept (· = g) w w' → wpList P ops Q rest a w') : wpList P ops Q (o :: rest) a w :=
  wpList_store_row hgd ty x y ho g vs hx hy t old hb hi hs h1 (by rw [hdst]; exact h _ (setRow_heap w g old vs t (0, 0) hb) (setRow_kept w g vs))

/-- A whole aggregate loaded out of a block that is known whole. -/
theorem wp_load_blk (hgd : o.guard = none) (ty : TypeId) (x : Operand) (ho : o.op = .load ty x) {g : Nat} (hx : a.eval x = .pointer (some ⟨g, 0, none⟩)) {t : TypeId} {cs : Array Value} {d : TypeDesc} (hb : Blk w g t cs)
    (hu : P.underlying ty = some d) (hd : (match d with | .struct _ | .array _ _ => true | _ => false) = true) (hi : (P.info? ty).map (·.size) = some cs.size)
    (h : wpList P ops Q rest (a.put o.dst (.agg cs)) w) : wpList P ops Q (o :: rest) a w :=
  wpList_load_row hgd ty x ho g hx t cs (0, 0) d hb hu hd hi h

/-- The walk stands still at a store, a load of a type. -/
theorem stop_store {ty : TypeId} {x y : Operand} {d : Option Tmp} {tp : TypeId} {pos : String} {af : Array Edge} (h : Held (wpList P ops Q (⟨d, .store ty x y, tp, pos, af, none⟩ :: rest) a w)) : wpList P ops Q (⟨d, .store ty x y, tp, pos, af, none⟩ :: rest) a w := h
theorem stop_load {ty : TypeId} {x : Operand} {d : Option Tmp} {tp : TypeId} {pos : String} {af : Array Edge} (h : Held (wpList P ops Q (⟨d, .load ty x, tp, pos, af, none⟩ :: rest) a w)) : wpList P ops Q (⟨d, .load ty x, tp, pos, af, none⟩ :: rest) a w := h

theorem loadVar_blk {g : Nat} {t ty : TypeId} {cs : Array Value} {d : TypeDesc} (hb : Blk w g t cs) (hu : P.underlying ty = some d) (hd : (match d with | .struct _ | .array _ _ => true | _ => false) = true) (hi : (P.info? ty).map (·.size) = some cs.size) :
    (loadVar ty ⟨g, 0, none⟩).run P w = .ok (.agg cs) w := run_loadVar_row w g t ty cs (0, 0) d hb hu hd hi

/-- A struct and a plain value are handed back. -/
theorem results_cell_tmp {fn : Func} {p q : Tmp} {ty : TypeId} (h : fn.results = #[.cell p ty, .tmp q]) {tmps : Array Value} {g : Nat} {t : TypeId} {cs : Array Value} {d : TypeDesc}
    (hp : tmps.getD p undef = .pointer (some ⟨g, 0, none⟩)) (hb : Blk w g t cs) (hu : P.underlying ty = some d) (hd : (match d with | .struct _ | .array _ _ => true | _ => false) = true) (hi : (P.info? ty).map (·.size) = some cs.size) :
    (results fn tmps).run P w = .ok (.tuple #[.agg cs, tmps.getD q undef]) w := by
  have hp' : tmps[p]?.getD undef = .pointer (some ⟨g, 0, none⟩) := by simpa using hp
  simp [results, h, hp', asAddr, loadVar_blk hb hu hd hi]
/-- A struct is handed back. -/
theorem results_cell {fn : Func} {p : Tmp} {ty : TypeId} (h : fn.results = #[.cell p ty]) {tmps : Array Value} {g : Nat} {t : TypeId} {cs : Array Value} {d : TypeDesc}
    (hp : tmps.getD p undef = .pointer (some ⟨g, 0, none⟩)) (hb : Blk w g t cs) (hu : P.underlying ty = some d) (hd : (match d with | .struct _ | .array _ _ => true | _ => false) = true) (hi : (P.info? ty).map (·.size) = some cs.size) :
    (results fn tmps).run P w = .ok (.agg cs) w := results_cell_row h tmps w g t cs (0, 0) d hp hb hu hd hi
end

/-- 'make([]T, n)', T of one cell. -/
theorem wp_makeN {P : Program} {w : World} {ops : Array Oper} {rest : List Oper} {o : Oper} {a : Act} {Q : Exit → Act → World → Prop} {t e : TypeId} {z : Value} {by_ : Nat} (ht : P.underlying t = some (.slice e)) (hI : (P.info? e).map (fun i => (i.zero, i.size, i.bytes)) = some (some z, 1, by_)) (hzc : z.cells = #[z])
    {l c : Operand} {kl kc : IntKind} {L C : Int} {m : Nat} (hL : L = (m : Int)) (hC : C = (m : Int)) (hm : m ≤ 1073741824) (hb2 : by_ ≤ 65536)
    (hgd : o.guard = none) (hop : o.op = Op.makeSlice t l c) (hl : a.eval l = .int kl L) (hc : a.eval c = .int kc C)
    (h : ∀ w', Own w' (fun g => g = w.heap.size) e 1 (.slice (some ⟨w.heap.size, 0, none⟩) m m) m (List.replicate m z) → Pure w w' → wpList P ops Q rest (a.put o.dst (.slice (some ⟨w.heap.size, 0, none⟩) m m)) w') : wpList P ops Q (o :: rest) a w := by
  obtain ⟨i, hi, hz, hsize, hby⟩ := info_parts hI
  refine wpList_make_full w hgd l c t hop 0 e i z 1 ht hi hz hsize kl kc L C m hl hc hL hC ?_ (by unfold maxLen; omega) (Nat.zero_le _) ?_
  · have := Nat.mul_le_mul hb2 hm
    rw [hby]
    omega
  · intro w' h1 h2
    rw [hzc, Nat.mul_one, toList_madeCells_one] at h1
    exact h w' ⟨h1, fun g hg => by simp [Value.ownBlock] at hg; exact hg.symm⟩ ((Kept.refl _ _).grown h2 (fun _ h => by cases h))

/-- A literal's row that bears a mark. -/
theorem Sl.lit_mark (w : World) (cs : Array Value) (t : TypeId) (m : Nat × Nat) (k n : Nat) (xs : List Value) (h : cs.size = n * k) (hx : cs.toList = xs) : Sl (w.alloc (.cells cs t m)) (fun g => g = w.heap.size) k (some ⟨w.heap.size, 0, none⟩) n xs := by
  subst hx
  exact ⟨by simpa using h, fun _ => ⟨w.heap.size, 0, rfl, rfl, by simp, fun j hj => by
    rw [Nat.zero_add, World.cell?_alloc_mark]
    simp⟩⟩
end Go.Proofs.YtbgcnagojjjbeaaGreat
set_option linter.unusedSimpArgs false
set_option linter.unusedVariables false
namespace Go.Proofs.YtbgcnagojjjbeaaGreat
open Go.RowKit
set_option maxRecDepth 100000

/-- One item of an answer. -/
structure It where
  uid : ByteArray
  ver : Int
  gone : Bool
  card : ByteArray
deriving DecidableEq
/-- An answer. -/
structure Rs where
  kind : Int
  err : Int
  token : Int
  version : Int
  card : ByteArray
  index : Int
  more : Bool
  items : List It

/-- The cells of an item, of items. -/
def It.cells (i : It) : List Value := [.string i.uid, .int .i64 i.ver, .bool i.gone, .string i.card]
def itc (l : List It) : List Value := l.flatMap It.cells
theorem itc_length (l : List It) : (itc l).length = l.length * 4 := by
  induction l with
  | nil => rfl
  | cons i l ih => simp only [itc, List.flatMap_cons, List.length_append, List.length_cons] at ih ⊢; rw [ih]; simp [It.cells]; omega
theorem itc_get (l : List It) (k j : Nat) (h : k < l.length) (hj : j < 4) : (itc l)[k * 4 + j]? = (l[k]'h).cells[j]? := by
  induction l generalizing k with
  | nil => simp at h
  | cons i l ih =>
    simp only [itc, List.flatMap_cons]
    cases k with
    | zero =>
      rw [Nat.zero_mul, Nat.zero_add, List.getElem?_append_left (by simp [It.cells]; omega)]
      rfl
    | succ k =>
      rw [List.getElem?_append_right (by simp [It.cells]; omega)]
      have := ih k (by simpa using h)
      simp only [itc] at this
      rw [show (k + 1) * 4 + j - i.cells.length = k * 4 + j from by simp [It.cells]; omega, this]
      rfl
theorem itc_one (l : List It) : ∀ u ∈ itc l, u.oneCell' = true := by
  intro u hu
  obtain ⟨i, _, hu⟩ := List.mem_flatMap.1 hu
  simp [It.cells] at hu
  rcases hu with rfl | rfl | rfl | rfl <;> rfl

/-- An answer as a value. -/
def rsa (r : Rs) (A : Option Addr) (c : Nat) : Array Value :=
  #[.int .i64 r.kind, .int .i64 r.err, .int .i64 r.token, .int .i64 r.version, .string r.card, .int .i64 r.index, .bool r.more, .slice A r.items.length c]

/-- An answer's box: its cells. -/
theorem rsa_cells {w : World} {g : Nat} {t : TypeId} {r : Rs} {A : Option Addr} {c : Nat} (h : Blk w g t (rsa r A c)) :
    w.cell? ⟨g, 0, none⟩ = some (.int .i64 r.kind) ∧ w.cell? ⟨g, 1, none⟩ = some (.int .i64 r.err) ∧ w.cell? ⟨g, 2, none⟩ = some (.int .i64 r.token) ∧ w.cell? ⟨g, 3, none⟩ = some (.int .i64 r.version) ∧
    w.cell? ⟨g, 4, none⟩ = some (.string r.card) ∧ w.cell? ⟨g, 5, none⟩ = some (.int .i64 r.index) ∧ w.cell? ⟨g, 6, none⟩ = some (.bool r.more) ∧ w.cell? ⟨g, 7, none⟩ = some (.slice A r.items.length c) :=
  ⟨h.cell 0, h.cell 1, h.cell 2, h.cell 3, h.cell 4, h.cell 5, h.cell 6, h.cell 7⟩

theorem it_cells {w : World} {F : Nat → Prop} {b o n : Nat} {l : List It} (h : Sl w F 4 (some ⟨b, o, none⟩) n (itc l)) {k : Nat} {i : It} (hk : l[k]? = some i) :
    w.cell? ⟨b, o + k * 4, none⟩ = some (.string i.uid) ∧ w.cell? ⟨b, o + k * 4 + 1, none⟩ = some (.int .i64 i.ver) ∧ w.cell? ⟨b, o + k * 4 + 2, none⟩ = some (.bool i.gone) ∧ w.cell? ⟨b, o + k * 4 + 3, none⟩ = some (.string i.card) := by
  obtain ⟨hkl, rfl⟩ := List.getElem?_eq_some_iff.1 hk
  have hl := itc_length l
  have hn : n = l.length := by have := h.1; omega
  obtain ⟨b', o', e, _, _, hc⟩ := h.2 (by omega)
  injection e with e
  injection e with e1 e2
  subst e1 e2
  have key : ∀ j, j < 4 → w.cell? ⟨b, o + (k * 4 + j), none⟩ = (l[k]'hkl).cells[j]? := fun j hj => by
    rw [hc (k * 4 + j) (by omega), itc_get l k j hkl hj]
  refine ⟨?_, ?_, ?_, ?_⟩
  · exact key 0 (by omega)
  · exact key 1 (by omega)
  · exact key 2 (by omega)
  · exact key 3 (by omega)
end Go.Proofs.YtbgcnagojjjbeaaGreat
