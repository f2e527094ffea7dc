/-
  A block known whole: stored into as a whole, handed back as a result; where the walk stands still. A walk by what is known of the slots: the frame is never written out. For functions of great frames. The walk by what is known of the slots: sums. The walk by what is known of the slots, in few words.
-/
import Derived.Lib.SlBytesConst
import Derived.Test.YtiddhcabpmkolaaGreatDoorZLib
set_option linter.unusedSimpArgs false
set_option linter.unusedVariables false
namespace Go.Proofs.YtiddhcabpmkolaaGreatDoor
open Go.RowKit
set_option maxRecDepth 100000
section
variable {P : Program} {w : World} {ops : Array Oper} {rest : List Oper} {o : Oper} {a : Act} {Q : Exit → Act → World → Prop}

theorem setRow_kept (w : World) (g : Nat) (cs : Array Value) : Kept (· = g) w (w.setRow g cs) :=
  ⟨rfl, rfl, rfl, by simp, fun k _ hn => setRow_other w g k cs hn⟩

/-- A whole aggregate stored into a block that is known whole. -/
theorem wp_store_blk (hgd : o.guard = none) (ty : TypeId) (x y : Operand) (ho : o.op = .store ty x y) {g : Nat} (hx : a.eval x = .pointer (some ⟨g, 0, none⟩)) {vs : Array Value} (hy : a.eval y = .agg vs)
    {t : TypeId} {old : Array Value} (hb : Blk w g t old) (hs : old.size = vs.size) (hi : (P.info? ty).map (·.size) = some vs.size) (h1 : vs.all (·.oneCell') = true)
    (hdst : o.dst = none) (h : ∀ w', Blk w' g t vs → Kept (· = g) w w' → wpList P ops Q rest a w') : wpList P ops Q (o :: rest) a w :=
  wpList_store_row hgd ty x y ho g vs hx hy t old hb hi hs h1 (by rw [hdst]; exact h _ (setRow_heap w g old vs t (0, 0) hb) (setRow_kept w g vs))

/-- A whole aggregate loaded out of a block that is known whole. -/
theorem wp_load_blk (hgd : o.guard = none) (ty : TypeId) (x : Operand) (ho : o.op = .load ty x) {g : Nat} (hx : a.eval x = .pointer (some ⟨g, 0, none⟩)) {t : TypeId} {cs : Array Value} {d : TypeDesc} (hb : Blk w g t cs)
    (hu : P.underlying ty = some d) (hd : (match d with | .struct _ | .array _ _ => true | _ => false) = true) (hi : (P.info? ty).map (·.size) = some cs.size)
    (h : wpList P ops Q rest (a.put o.dst (.agg cs)) w) : wpList P ops Q (o :: rest) a w :=
  wpList_load_row hgd ty x ho g hx t cs (0, 0) d hb hu hd hi h

/-- The walk stands still at a store, a load of a type. -/
theorem stop_store {ty : TypeId} {x y : Operand} {d : Option Tmp} {tp : TypeId} {pos : String} {af : Array Edge} (h : Held (wpList P ops Q (⟨d, .store ty x y, tp, pos, af, none⟩ :: rest) a w)) : wpList P ops Q (⟨d, .store ty x y, tp, pos, af, none⟩ :: rest) a w := h
theorem stop_load {ty : TypeId} {x : Operand} {d : Option Tmp} {tp : TypeId} {pos : String} {af : Array Edge} (h : Held (wpList P ops Q (⟨d, .load ty x, tp, pos, af, none⟩ :: rest) a w)) : wpList P ops Q (⟨d, .load ty x, tp, pos, af, none⟩ :: rest) a w := h

theorem loadVar_blk {g : Nat} {t ty : TypeId} {cs : Array Value} {d : TypeDesc} (hb : Blk w g t cs) (hu : P.underlying ty = some d) (hd : (match d with | .struct _ | .array _ _ => true | _ => false) = true) (hi : (P.info? ty).map (·.size) = some cs.size) :
    (loadVar ty ⟨g, 0, none⟩).run P w = .ok (.agg cs) w := run_loadVar_row w g t ty cs (0, 0) d hb hu hd hi

/-- A struct and a plain value are handed back. -/
theorem results_cell_tmp {fn : Func} {p q : Tmp} {ty : TypeId} (h : fn.results = #[.cell p ty, .tmp q]) {tmps : Array Value} {g : Nat} {t : TypeId} {cs : Array Value} {d : TypeDesc}
    (hp : tmps.getD p undef = .pointer (some ⟨g, 0, none⟩)) (hb : Blk w g t cs) (hu : P.underlying ty = some d) (hd : (match d with | .struct _ | .array _ _ => true | _ => false) = true) (hi : (P.info? ty).map (·.size) = some cs.size) :
    (results fn tmps).run P w = .ok (.tuple #[.agg cs, tmps.getD q undef]) w := by
  have hp' : tmps[p]?.getD undef = .pointer (some ⟨g, 0, none⟩) := by simpa using hp
  simp [results, h, hp', asAddr, loadVar_blk hb hu hd hi]
/-- A struct is handed back. -/
theorem results_cell {fn : Func} {p : Tmp} {ty : TypeId} (h : fn.results = #[.cell p ty]) {tmps : Array Value} {g : Nat} {t : TypeId} {cs : Array Value} {d : TypeDesc}
    (hp : tmps.getD p undef = .pointer (some ⟨g, 0, none⟩)) (hb : Blk w g t cs) (hu : P.underlying ty = some d) (hd : (match d with | .struct _ | .array _ _ => true | _ => false) = true) (hi : (P.info? ty).map (·.size) = some cs.size) :
    (results fn tmps).run P w = .ok (.agg cs) w := results_cell_row h tmps w g t cs (0, 0) d hp hb hu hd hi
end

/-- 'make([]T, n)', T of one cell. -/
theorem wp_makeN {P : Program} {w : World} {ops : Array Oper} {rest : List Oper} {o : Oper} {a : Act} {Q : Exit → Act → World → Prop} {t e : TypeId} {z : Value} {by_ : Nat} (ht : P.underlying t = some (.slice e)) (hI : (P.info? e).map (fun i => (i.zero, i.size, i.bytes)) = some (some z, 1, by_)) (hzc : z.cells = #[z])
    {l c : Operand} {kl kc : IntKind} {L C : Int} {m : Nat} (hL : L = (m : Int)) (hC : C = (m : Int)) (hm : m ≤ 1073741824) (hb2 : by_ ≤ 65536)
    (hgd : o.guard = none) (hop : o.op = Op.makeSlice t l c) (hl : a.eval l = .int kl L) (hc : a.eval c = .int kc C)
    (h : ∀ w', Own w' (fun g => g = w.heap.size) e 1 (.slice (some ⟨w.heap.size, 0, none⟩) m m) m (List.replicate m z) → Pure w w' → wpList P ops Q rest (a.put o.dst (.slice (some ⟨w.heap.size, 0, none⟩) m m)) w') : wpList P ops Q (o :: rest) a w := by
  obtain ⟨i, hi, hz, hsize, hby⟩ := info_parts hI
  refine wpList_make_full w hgd l c t hop 0 e i z 1 ht hi hz hsize kl kc L C m hl hc hL hC ?_ (by unfold maxLen; omega) (Nat.zero_le _) ?_
  · have := Nat.mul_le_mul hb2 hm
    rw [hby]
    omega
  · intro w' h1 h2
    rw [hzc, Nat.mul_one, toList_madeCells_one] at h1
    exact h w' ⟨h1, fun g hg => by simp [Value.ownBlock] at hg; exact hg.symm⟩ ((Kept.refl _ _).grown h2 (fun _ h => by cases h))

/-- A literal's row that bears a mark. -/
theorem Sl.lit_mark (w : World) (cs : Array Value) (t : TypeId) (m : Nat × Nat) (k n : Nat) (xs : List Value) (h : cs.size = n * k) (hx : cs.toList = xs) : Sl (w.alloc (.cells cs t m)) (fun g => g = w.heap.size) k (some ⟨w.heap.size, 0, none⟩) n xs := by
  subst hx
  exact ⟨by simpa using h, fun _ => ⟨w.heap.size, 0, rfl, rfl, by simp, fun j hj => by
    rw [Nat.zero_add, World.cell?_alloc_mark]
    simp⟩⟩
end Go.Proofs.YtiddhcabpmkolaaGreatDoor
set_option linter.unusedSimpArgs false
set_option linter.unusedVariables false
namespace Go.Proofs.YtiddhcabpmkolaaGreatDoor

set_option maxRecDepth 100000
open Go

/-- What is known of slots. -/
abbrev Kn := List (Nat × Value)
def Kn.Holds (k : Kn) (a : Act) : Prop := ∀ s v, k.lookup s = some v → a.tmps[s]? = some v
structure KA (n : Nat) (k : Kn) (a : Act) : Prop where
  size : a.tmps.size = n
  defers : a.defers = []
  holds : k.Holds a
structure KW (P : Program) (n : Nat) (c : Code) (Q : Exit → Act → World → Prop) (k : Kn) (w : World) : Prop where
  go : ∀ a, KA n k a → c.wp P Q a w
structure KL (P : Program) (n : Nat) (ops : Array Oper) (l : List Oper) (Q : Exit → Act → World → Prop) (k : Kn) (w : World) : Prop where
  go : ∀ a, KA n k a → wpList P ops Q l a w
/-- How a piece of code ends. -/
structure KE (n : Nat) (Q : Exit → Act → World → Prop) (k : Kn) (w : World) : Prop where
  go : ∀ a, KA n k a → Q .normal a w
structure KX (n id : Nat) (Q : Exit → Act → World → Prop) (k : Kn) (w : World) : Prop where
  go : ∀ a, KA n k a → Q (.exit id) a w
structure KR (n : Nat) (Q : Exit → Act → World → Prop) (k : Kn) (w : World) : Prop where
  go : ∀ a, KA n k a → Q .ret a w
def knX (k : Kn) : Operand → Option Value
  | .tmp s => k.lookup s
  | .const v => some v
  | .global g => some (.pointer (some ⟨g, 0, none⟩))
  | .func f => some (.func (.func f) #[] #[])
def knWant (ops : Array Oper) (k : Kn) (o : Oper) : Option Bool :=
  match o.guard with
  | none => some true
  | some (j, want) => match (ops[j]?).bind (·.dst) with
    | none => some false
    | some s => match k.lookup s with
      | some (.bool b) => some (b == want)
      | some _ => some false
      | none => none
def cmpK (op : BinOp) (x y : Int) : Option Value :=
  match op with
  | .eql => some (.bool (decide (x = y)))
  | .neq => some (.bool (!decide (x = y)))
  | .lss => some (.bool (decide (x < y)))
  | .leq => some (.bool (decide (x ≤ y)))
  | .gtr => some (.bool (decide (y < x)))
  | .geq => some (.bool (decide (y ≤ x)))
  | _ => none
def cmpS (op : BinOp) (x y : ByteArray) : Option Value :=
  match op with
  | .eql => some (.bool (decide (x = y)))
  | .neq => some (.bool (!decide (x = y)))
  | .lss => some (.bool (Op.bytesLess x.toList y.toList))
  | _ => none
def evK (k : Kn) : Op → Option Value
  | .move x => knX k x
  | .assign x => knX k x
  | .pick c x y => match knX k c with
    | some (.bool true) => knX k x
    | some (.bool false) => knX k y
    | _ => none
  | .unOp .not _ x => match knX k x with
    | some (.bool true) => some (.bool false)
    | some (.bool false) => some (.bool true)
    | _ => none
  | .binOp op _ x y _ => match knX k x, knX k y with
    | some (.int i a), some (.int j b) => if i = j then cmpK op a b else none
    | some (.string a), some (.string b) => cmpS op a b
    | _, _ => none
  | _ => none
/-- Operands that read as is known. -/
def Fits (k : Kn) (ρ : Operand → Value) : Prop := ∀ x v, knX k x = some v → ρ x = v
theorem KA.fits {n : Nat} {k : Kn} {a : Act} (h : KA n k a) : Fits k a.eval := by
  intro x v hx
  cases x with
  | tmp s =>
    have := h.holds s v hx
    simp only [Act.eval, Array.getD_eq_getD_getElem?, this, Option.getD_some]
  | const u => simp only [knX, Option.some.injEq] at hx; exact hx
  | global g => simp only [knX, Option.some.injEq] at hx; exact hx
  | func f => simp only [knX, Option.some.injEq] at hx; exact hx
theorem knWant_ok {ops : Array Oper} {n : Nat} {k : Kn} {a : Act} {o : Oper} {b : Bool} (hk : KA n k a) (h : knWant ops k o = some b) : Region.wanted o (yielded ops a.tmps) = b := by
  unfold knWant at h
  unfold Region.wanted
  cases hg : o.guard with
  | none => rw [hg] at h; simpa using h
  | some p =>
    obtain ⟨j, want⟩ := p
    rw [hg] at h
    simp only at h ⊢
    unfold yielded
    cases hd : (ops[j]?).bind (·.dst) with
    | none => rw [hd] at h; simp only [Option.some.injEq] at h; subst h; rfl
    | some s =>
      rw [hd] at h
      simp only at h
      cases hs : k.lookup s with
      | none => rw [hs] at h; cases h
      | some v =>
        have e := hk.holds s v hs
        rw [hs] at h
        cases v <;> simp only [Option.some.injEq] at h <;> subst h <;> simp [e]
theorem evK_run {k : Kn} {ρ : Operand → Value} {o : Oper} {v : Value} (hk : Fits k ρ) (h : evK k o.op = some v) (P : Program) (w : World) : (execOp ρ o).run P w = .ok (.value v) w := by
  unfold execOp
  cases ho : o.op <;> rw [ho] at h <;> simp only [evK] at h <;> try (exact absurd h (by intro h; cases h))
  case move x => simp only [hk _ _ h]; rfl
  case assign x => simp only [hk _ _ h]; rfl
  case pick c x y =>
    split at h
    · rename_i hc; simp only [hk _ _ hc, hk _ _ h]; rfl
    · rename_i hc; simp only [hk _ _ hc, hk _ _ h]; rfl
    · cases h
  case unOp op t x =>
    cases op <;> simp only at h
    case not =>
      split at h
      · rename_i hc; simp only [Option.some.injEq] at h; subst h; simp only [hk _ _ hc]; rfl
      · rename_i hc; simp only [Option.some.injEq] at h; subst h; simp only [hk _ _ hc]; rfl
      · cases h
    all_goals cases h
  case binOp op t x y t' =>
    split at h
    · rename_i i a j b hx hy
      split at h
      · rename_i hij
        subst hij
        simp only [hk _ _ hx, hk _ _ hy]
        cases op <;> simp only [cmpK] at h <;> first | (cases h; done) | skip
        all_goals (simp only [Option.some.injEq] at h; subst h; simp [eqGuard, binOp, Op.intCmp]; try rfl)
      · cases h
    · rename_i a b hx hy
      simp only [hk _ _ hx, hk _ _ hy]
      have hbe : ∀ a b : ByteArray, (a.toList == b.toList) = decide (a = b) := fun a b => by
        rw [Bool.eq_iff_iff, beq_iff_eq, decide_eq_true_iff, ByteArray.toList_eq, ByteArray.toList_eq]
        exact ⟨fun h => ByteArray.ext (Array.toList_inj.mp h), fun h => by rw [h]⟩
      cases op <;> simp only [cmpS] at h <;> first | (cases h; done) | skip
      all_goals (simp only [Option.some.injEq] at h; subst h; first | (simp [eqGuard, binOp, Op.stringOp, hbe]; done) | (simp [eqGuard, binOp, Op.stringOp, hbe]; rfl))
    · cases h
theorem KA.put {n : Nat} {k : Kn} {a : Act} {d : Nat} {v : Value} (hk : KA n k a) (hd : (d < n)) : KA n ((d, v) :: k) (a.put (some d) v) := by
  refine ⟨by simp only [Act.put, Array.size_setIfInBounds]; exact hk.size, hk.defers, ?_⟩
  intro s u h
  simp only [Act.put]
  rw [List.lookup_cons] at h
  by_cases e : s = d
  · subst e
    simp only [beq_self_eq_true] at h
    obtain rfl : v = u := by simpa using h
    simp [hk.size, hd]
  · have : (s == d) = false := by simpa using e
    rw [this] at h
    simp only at h
    rw [Array.getElem?_setIfInBounds_ne (by omega)]
    exact hk.holds s u h
section
variable {P : Program} {n d : Nat} {ops : Array Oper} {o : Oper} {rest l : List Oper} {Q : Exit → Act → World → Prop} {N : Act → World → Prop} {k k' : Kn} {w : World} {v : Value} {c c1 c2 : Code} {x : Operand}
theorem KL.skip (hd : o.dst = some d) (hw : knWant ops k o = some false) (hn : Nat.blt d n = true) (h : KL P n ops rest Q ((d, undef) :: k) w) : KL P n ops (o :: rest) Q k w := ⟨fun a ha => by
  simp only [wpList]
  rw [if_neg (by rw [knWant_ok ha hw]; exact Bool.false_ne_true), hd]
  exact h.go _ (ha.put (Nat.le_of_ble_eq_true hn))⟩
/-- An operation whose value is told. -/
theorem KL.told (hd : o.dst = some d) (hw : knWant ops k o = some true) (hn : Nat.blt d n = true) (hv : ∀ ρ, Fits k ρ → (execOp ρ o).run P w = .ok (.value v) w) (h : KL P n ops rest Q ((d, v) :: k) w) : KL P n ops (o :: rest) Q k w := ⟨fun a ha => by
  simp only [wpList]
  rw [if_pos (knWant_ok ha hw)]
  refine .inl ?_
  unfold Oper.wp
  rw [hv _ ha.fits, Oper.upon_value, hd]
  exact h.go _ (ha.put (Nat.le_of_ble_eq_true hn))⟩
theorem KL.ev (hd : o.dst = some d) (hw : knWant ops k o = some true) (hv : evK k o.op = some v) (hn : Nat.blt d n = true) (h : KL P n ops rest Q ((d, v) :: k) w) : KL P n ops (o :: rest) Q k w :=
  KL.told hd hw hn (fun ρ hρ => evK_run hρ hv P w) h
/-- A test whose Bool has a name. -/
theorem KL.evc {op : BinOp} {ty ty' : TypeId} {y : Operand} {c b : Bool} (hd : o.dst = some d) (hw : knWant ops k o = some true) (ho : o.op = .binOp op ty x y ty') (hv : evK k (.binOp op ty x y ty') = some (.bool c)) (hc : c = b) (hn : Nat.blt d n = true) (h : KL P n ops rest Q ((d, .bool b) :: k) w) : KL P n ops (o :: rest) Q k w :=
  KL.ev hd hw (by rw [ho, hv, hc]) hn h
/-- A call of a named function. -/
theorem KL.enter {f : FuncId} {args : Array Value} {R : Ending → World → Prop} (hd : o.dst = some d) (hw : knWant ops k o = some true) (hn : Nat.blt d n = true) (hv : ∀ ρ, Fits k ρ → (execOp ρ o).run P w = .ok (.enter f args) w) (hc : Calls P f args w R)
    (h : ∀ e w', R e w' → ∃ v, e = .returned v ∧ KL P n ops rest Q ((d, v) :: k) w') : KL P n ops (o :: rest) Q k w := ⟨fun a ha => by
  simp only [wpList]
  rw [if_pos (knWant_ok ha hw)]
  refine .inl ?_
  unfold Oper.wp
  rw [hv _ ha.fits, Oper.upon_enter]
  refine hc.mono fun e w' hR => ?_
  obtain ⟨v, rfl, hk⟩ := h e w' hR
  rw [hd]
  exact hk.go _ (ha.put (Nat.le_of_ble_eq_true hn))⟩
/-- An operation that turns the world and yields nothing. -/
theorem KL.stores {w' : World} (hd : o.dst = none) (hw : knWant ops k o = some true) (hv : ∀ ρ, Fits k ρ → (execOp ρ o).run P w = .ok .skip w') (h : KL P n ops rest Q k w') : KL P n ops (o :: rest) Q k w := ⟨fun a ha => by
  simp only [wpList]
  rw [if_pos (knWant_ok ha hw)]
  refine .inl ?_
  unfold Oper.wp
  rw [hv _ ha.fits, Oper.upon_skip, hd]
  exact h.go _ ha⟩
/-- An operation that turns the world and yields a value. -/
theorem KL.makes {w' : World} (hd : o.dst = some d) (hw : knWant ops k o = some true) (hn : Nat.blt d n = true) (hv : ∀ ρ, Fits k ρ → (execOp ρ o).run P w = .ok (.value v) w') (h : KL P n ops rest Q ((d, v) :: k) w') : KL P n ops (o :: rest) Q k w := ⟨fun a ha => by
  simp only [wpList]
  rw [if_pos (knWant_ok ha hw)]
  refine .inl ?_
  unfold Oper.wp
  rw [hv _ ha.fits, Oper.upon_value, hd]
  exact h.go _ (ha.put (Nat.le_of_ble_eq_true hn))⟩
/-- Loads, fields, elements. -/
theorem KL.ld {ty : TypeId} {u : Value} (hd : o.dst = some d) (hw : knWant ops k o = some true) (ho : o.op = .load ty x) (hx : knX k x = some u) (hn : Nat.blt d n = true) (hr : (Instr.loadAt ty u).run P w = .ok v w) (h : KL P n ops rest Q ((d, v) :: k) w) : KL P n ops (o :: rest) Q k w :=
  KL.told hd hw hn (fun ρ hρ => by unfold execOp; rw [ho]; simp only [hρ _ _ hx, Sem.run_bind, hr, Result.andThen_ok]; rfl) h
theorem KL.fa {ty : TypeId} {u : Value} {i : Nat} (hd : o.dst = some d) (hw : knWant ops k o = some true) (ho : o.op = .fieldAddr ty x i) (hx : knX k x = some u) (hn : Nat.blt d n = true) (hr : (Instr.fieldAt ty u i).run P w = .ok v w) (h : KL P n ops rest Q ((d, v) :: k) w) : KL P n ops (o :: rest) Q k w :=
  KL.told hd hw hn (fun ρ hρ => by unfold execOp; rw [ho]; simp only [hρ _ _ hx, Sem.run_bind, hr, Result.andThen_ok]; rfl) h
theorem KL.fd {ty : TypeId} {u : Value} {i : Nat} (hd : o.dst = some d) (hw : knWant ops k o = some true) (ho : o.op = .field ty x i) (hx : knX k x = some u) (hn : Nat.blt d n = true) (hr : (Instr.field ty u i).run P w = .ok v w) (h : KL P n ops rest Q ((d, v) :: k) w) : KL P n ops (o :: rest) Q k w :=
  KL.told hd hw hn (fun ρ hρ => by unfold execOp; rw [ho]; simp only [hρ _ _ hx, Sem.run_bind, hr, Result.andThen_ok]; rfl) h
theorem KL.ex {u : Value} {i : Nat} (hd : o.dst = some d) (hw : knWant ops k o = some true) (ho : o.op = .extract x i) (hx : knX k x = some u) (hn : Nat.blt d n = true) (hr : (Instr.extract u i).run P w = .ok v w) (h : KL P n ops rest Q ((d, v) :: k) w) : KL P n ops (o :: rest) Q k w :=
  KL.told hd hw hn (fun ρ hρ => by unfold execOp; rw [ho]; simp only [hρ _ _ hx, Sem.run_bind, hr, Result.andThen_ok]; rfl) h
theorem KL.ia {ty : TypeId} {u1 u2 : Value} {y : Operand} (hd : o.dst = some d) (hw : knWant ops k o = some true) (ho : o.op = .indexAddr ty x y) (hx : knX k x = some u1) (hy : knX k y = some u2) (hn : Nat.blt d n = true) (hr : (Instr.indexAt ty u1 u2).run P w = .ok v w) (h : KL P n ops rest Q ((d, v) :: k) w) : KL P n ops (o :: rest) Q k w :=
  KL.told hd hw hn (fun ρ hρ => by unfold execOp; rw [ho]; simp only [hρ _ _ hx, hρ _ _ hy, Sem.run_bind, hr, Result.andThen_ok]; rfl) h
theorem KL.nc {u : Value} {a : Addr} (hd : o.dst = some d) (hw : knWant ops k o = some true) (ho : o.op = .nilCheck x) (hx : knX k x = some (.pointer (some a))) (hn : Nat.blt d n = true) (h : KL P n ops rest Q ((d, .pointer (some a)) :: k) w) : KL P n ops (o :: rest) Q k w :=
  KL.told hd hw hn (fun ρ hρ => by unfold execOp; rw [ho]; simp only [hρ _ _ hx]; rfl) h
theorem KL.bop {ty ty' : TypeId} {u1 u2 : Value} {y : Operand} {op : BinOp} (hd : o.dst = some d) (hw : knWant ops k o = some true) (ho : o.op = .binOp op ty x y ty') (hx : knX k x = some u1) (hy : knX k y = some u2) (hn : Nat.blt d n = true)
    (hr : (do eqGuard op ty x y u1 u2; binOp op ty u1 u2 : Sem Value).run P w = .ok v w) (h : KL P n ops rest Q ((d, v) :: k) w) : KL P n ops (o :: rest) Q k w :=
  KL.told hd hw hn (fun ρ hρ => by
    unfold execOp; rw [ho]; simp only [hρ _ _ hx, hρ _ _ hy, Sem.run_bind] at hr ⊢
    rw [hr]; rfl) h
/-- The known values of a call's arguments. -/
def argsK (k : Kn) : List Operand → Option (List Value)
  | [] => some []
  | x :: xs => match knX k x, argsK k xs with
    | some v, some vs => some (v :: vs)
    | _, _ => none
theorem argsK_map {ρ : Operand → Value} (hρ : Fits k ρ) : ∀ {xs : List Operand} {vs : List Value}, argsK k xs = some vs → xs.map ρ = vs
  | [], vs, h => by simp only [argsK, Option.some.injEq] at h; subst h; rfl
  | x :: xs, vs, h => by
    simp only [argsK] at h
    split at h
    · rename_i v vs' h1 h2
      simp only [Option.some.injEq] at h
      subst h
      rw [List.map_cons, hρ _ _ h1, argsK_map hρ h2]
    · cases h
theorem KL.call {f : FuncId} {xs : List Operand} {ats : Array TypeId} {args : List Value} {R : Ending → World → Prop} (hd : o.dst = some d) (hw : knWant ops k o = some true) (ho : o.op = .call { callee := .value (.func f), args := xs.toArray, argTypes := ats }) (ha : argsK k xs = some args) (hn : Nat.blt d n = true)
    (hf : (callFunc f args.toArray).run P w = .ok (.enter f args.toArray) w) (hc : Calls P f args.toArray w R)
    (h : ∀ e w', R e w' → ∃ v, e = .returned v ∧ KL P n ops rest Q ((d, v) :: k) w') : KL P n ops (o :: rest) Q k w :=
  KL.enter hd hw hn (fun ρ hρ => by
    have hfn := hρ (.func f) _ rfl
    have e : execOp ρ o = callFunc f (#[] ++ xs.toArray.map ρ ++ #[]) := by
      unfold execOp
      rw [ho]
      show (do let d ← resolve ρ { callee := .value (.func f), args := xs.toArray, argTypes := ats } o.type; invoke d.target d.args) = _
      unfold resolve
      simp only [hfn]
      rfl
    have e2 : (#[] ++ xs.toArray.map ρ ++ #[] : Array Value) = args.toArray := by simp [argsK_map hρ ha]
    rw [e, e2]; exact hf) hc h
/-- 'len'. -/
theorem KL.len {ats : Array TypeId} {u : Value} (hd : o.dst = some d) (hw : knWant ops k o = some true) (ho : o.op = .call { callee := .builtin .len, args := #[x], argTypes := ats }) (hx : knX k x = some u) (hn : Nat.blt d n = true)
    (hr : (Builtin.len_ ats o.type #[u]).run P w = .ok v w) (h : KL P n ops rest Q ((d, v) :: k) w) : KL P n ops (o :: rest) Q k w :=
  KL.told hd hw hn (fun ρ hρ => by
    have e : execOp ρ o = (do pure (Next.value (← Builtin.len_ ats o.type #[u]))) := by
      unfold execOp
      rw [ho]
      show (do let d ← resolve ρ { callee := .builtin .len, args := #[x], argTypes := ats } o.type; invoke d.target d.args) = _
      unfold resolve
      simp only [List.map_toArray, List.map_cons, List.map_nil, hρ _ _ hx]
      rfl
    rw [e, Sem.run_bind, hr]; rfl) h
/-- Pure operations run in one go. -/
def runK (ops : Array Oper) : List Oper → Kn → Option Kn
  | [], k => some k
  | o :: rest, k => match o.dst, knWant ops k o with
    | some d, some false => runK ops rest ((d, undef) :: k)
    | some d, some true => match evK k o.op with
      | some v => runK ops rest ((d, v) :: k)
      | none => none
    | _, _ => none
def dstsB (n : Nat) (l : List Oper) : Bool := l.all fun o => match o.dst with | some d => Nat.blt d n | none => true
theorem runK_ok : ∀ {l : List Oper} {k k' : Kn}, runK ops l k = some k' → dstsB n l = true → (∀ a, KA n k' a → Q .normal a w) → KL P n ops l Q k w
  | [], k, k', h, _, hq => by
    simp only [runK, Option.some.injEq] at h
    subst h
    exact ⟨fun a ha => hq a ha⟩
  | o :: rest, k, k', h, hd, hq => by
    simp only [runK] at h
    simp only [dstsB, List.all_cons, Bool.and_eq_true] at hd
    split at h
    · rename_i d e1 e2
      rw [e1] at hd
      exact KL.skip e1 e2 hd.1 (runK_ok h hd.2 hq)
    · rename_i d e1 e2
      rw [e1] at hd
      split at h
      · rename_i v e3
        exact KL.ev e1 e2 e3 hd.1 (runK_ok h hd.2 hq)
      · cases h
    · cases h
/-- .. and of what they leave one slot is looked at. -/
theorem KL.pass (s : Nat) (v : Value) (h : (runK ops l k).bind (·.lookup s) = some v) (hd : dstsB n l = true) (hq : KE n Q [(s, v)] w) : KL P n ops l Q k w := by
  cases hr : runK ops l k with
  | none => rw [hr] at h; cases h
  | some k' =>
    rw [hr] at h
    refine runK_ok hr hd (fun a ha => hq.go a ⟨ha.size, ha.defers, fun s' v' e => ?_⟩)
    rw [List.lookup_cons] at e
    by_cases e' : s' = s
    · subst e'
      simp only [beq_self_eq_true] at e
      obtain rfl : v = v' := by simpa using e
      exact ha.holds _ _ h
    · have e2 : (s' == s) = false := by simpa using e'
      rw [e2] at e; cases e
theorem KA.forget {a : Act} (hf : ∀ s v, k'.lookup s = some v → k.lookup s = some v) (ha : KA n k a) : KA n k' a := ⟨ha.size, ha.defers, fun s v e => ha.holds s v (hf s v e)⟩
theorem KL.nil (h : KE n Q k w) : KL P n ops [] Q k w := ⟨fun a ha => h.go a ha⟩
theorem KL.forget (k' : Kn) (hf : ∀ s v, k'.lookup s = some v → k.lookup s = some v) (h : KL P n ops l Q k' w) : KL P n ops l Q k w := ⟨fun a ha => h.go a (ha.forget hf)⟩
theorem KW.forget (k' : Kn) (hf : ∀ s v, k'.lookup s = some v → k.lookup s = some v) (h : KW P n c Q k' w) : KW P n c Q k w := ⟨fun a ha => h.go a (ha.forget hf)⟩
theorem KE.forget (k' : Kn) (hf : ∀ s v, k'.lookup s = some v → k.lookup s = some v) (h : KE n Q k' w) : KE n Q k w := ⟨fun a ha => h.go a (ha.forget hf)⟩
theorem KW.seq (h : KW P n c1 (Exit.then (c2.wp P Q) Q) k w) : KW P n (c1.seq c2) Q k w := ⟨fun a ha => wp_seq (h.go a ha)⟩
theorem KW.region {id : Nat} (h : KL P n l.toArray l Q k w) : KW P n (.region id l.toArray false) Q k w := ⟨fun a ha => wp_region_lit (h.go a ha)⟩
theorem KW.yes (hx : knX k x = some (.bool true)) (h : KW P n c1 Q k w) : KW P n (.cond x c1 c2) Q k w := ⟨fun a ha => wp_cond_true (ha.fits _ _ hx) (h.go a ha)⟩
theorem KW.no (hx : knX k x = some (.bool false)) (h : KW P n c2 Q k w) : KW P n (.cond x c1 c2) Q k w := ⟨fun a ha => wp_cond_false (ha.fits _ _ hx) (h.go a ha)⟩
theorem KW.skip (h : KE n Q k w) : KW P n .skip Q k w := ⟨fun a ha => wp_skip (h.go a ha)⟩
theorem KW.label {i : Nat} (h : KE n Q k w) : KW P n (.label i) Q k w := ⟨fun a ha => wp_label (h.go a ha)⟩
theorem KW.ret (h : KR n Q k w) : KW P n .ret Q k w := ⟨fun a ha => wp_ret (h.go a ha)⟩
theorem KW.exit {id : Nat} (h : KX n id Q k w) : KW P n (.exit id) Q k w := ⟨fun a ha => wp_exit (h.go a ha)⟩
theorem KW.block {id : Nat} (h : KW P n c (Exit.inBlock id Q) k w) : KW P n (.block id c) Q k w := ⟨fun a ha => wp_block (h.go a ha)⟩
theorem KW.scope (h : KW P n c (Exit.noGoto Q) k w) : KW P n (.scope c) Q k w := ⟨fun a ha => wp_scope_straight (h.go a ha)⟩
/-- A loop that is left in its first round. -/
theorem KW.loop1 (h : KW P n c (Exit.then (fun _ _ => False) Q) k w) : KW P n (.loop c) Q k w := ⟨fun a ha => wp_loop_once (h.go a ha)⟩
theorem KE.next (h : KW P n c Q k w) : KE n (Exit.then (c.wp P Q) Q) k w := ⟨fun a ha => h.go a ha⟩
theorem KE.blk {id : Nat} (h : KE n Q k w) : KE n (Exit.inBlock id Q) k w := ⟨fun a ha => h.go a ha⟩
theorem KE.scp (h : KE n Q k w) : KE n (Exit.noGoto Q) k w := ⟨fun a ha => h.go a ha⟩
theorem KX.next {id : Nat} (h : KX n id Q k w) : KX n id (Exit.then N Q) k w := ⟨fun a ha => h.go a ha⟩
theorem KX.scp {id : Nat} (h : KX n id Q k w) : KX n id (Exit.noGoto Q) k w := ⟨fun a ha => h.go a ha⟩
theorem KX.hit {id : Nat} (h : KE n Q k w) : KX n id (Exit.inBlock id Q) k w := ⟨fun a ha => by
  show (if id = id then _ else _)
  rw [if_pos rfl]; exact h.go a ha⟩
theorem KX.far {id j : Nat} (hne : Nat.beq id j = false) (h : KX n id Q k w) : KX n id (Exit.inBlock j Q) k w := ⟨fun a ha => by
  show (if id = j then _ else _)
  rw [if_neg (Nat.ne_of_beq_eq_false hne)]; exact h.go a ha⟩
theorem KR.next (h : KR n Q k w) : KR n (Exit.then N Q) k w := ⟨fun a ha => h.go a ha⟩
theorem KR.blk {id : Nat} (h : KR n Q k w) : KR n (Exit.inBlock id Q) k w := ⟨fun a ha => h.go a ha⟩
theorem KR.scp (h : KR n Q k w) : KR n (Exit.noGoto Q) k w := ⟨fun a ha => h.go a ha⟩
theorem KR.fin {fn : Func} {R : Ending → World → Prop} (hr : ∀ a, KA n k a → (results fn a.tmps).run P w = .ok v w) (hR : R (.returned v) w) : KR n (bodyPost P fn R) k w := ⟨fun a ha => bodyPost_ret (hr a ha) ha.defers hR⟩
theorem KA.getD {a : Act} {s : Nat} {u : Value} (ha : KA n k a) (h : k.lookup s = some u) : a.tmps.getD s undef = u := by
  simp only [Array.getD_eq_getD_getElem?, ha.holds s u h, Option.getD_some]
theorem KR.fin1 {fn : Func} {R : Ending → World → Prop} {t : Nat} (hf : fn.results = #[.tmp t]) (hl : k.lookup t = some v) (hR : R (.returned v) w) : KR n (bodyPost P fn R) k w :=
  KR.fin (fun a ha => by rw [results_tmp hf, ha.getD hl]) hR
theorem KR.fin2 {fn : Func} {R : Ending → World → Prop} {t s : Nat} {u : Value} (hf : fn.results = #[.tmp t, .tmp s]) (hl : k.lookup t = some v) (hs : k.lookup s = some u) (hR : R (.returned (.tuple #[v, u])) w) : KR n (bodyPost P fn R) k w :=
  KR.fin (fun a ha => by rw [results_tmp2 hf, ha.getD hl, ha.getD hs]) hR
theorem KR.fin0 {fn : Func} {R : Ending → World → Prop} (hf : fn.results = #[]) (hR : R (.returned (.tuple #[])) w) : KR n (bodyPost P fn R) k w :=
  KR.fin (fun a ha => by rw [results_none hf]) hR
theorem KE.fin0 {fn : Func} {R : Ending → World → Prop} (hf : fn.results = #[]) (hR : R (.returned (.tuple #[])) w) : KE n (bodyPost P fn R) k w := ⟨fun a ha => bodyPost_end (by rw [results_none hf]) ha.defers hR⟩
/-- A struct handed back. -/
theorem KR.finC {fn : Func} {R : Ending → World → Prop} {p : Nat} {ty : TypeId} {g : Nat} {t : TypeId} {cs : Array Value} {td : TypeDesc} (hf : fn.results = #[.cell p ty]) (hl : k.lookup p = some (.pointer (some ⟨g, 0, none⟩))) (hb : Blk w g t cs) (hu : P.underlying ty = some td)
    (htd : (match td with | .struct _ | .array _ _ => true | _ => false) = true) (hi : (P.info? ty).map (·.size) = some cs.size) (hR : R (.returned (.agg cs)) w) : KR n (bodyPost P fn R) k w :=
  KR.fin (fun a ha => results_cell hf (ha.getD hl) hb hu htd hi) hR
theorem KR.finCT {fn : Func} {R : Ending → World → Prop} {p q : Nat} {ty : TypeId} {g : Nat} {t : TypeId} {cs : Array Value} {td : TypeDesc} {u : Value} (hf : fn.results = #[.cell p ty, .tmp q]) (hl : k.lookup p = some (.pointer (some ⟨g, 0, none⟩))) (hq : k.lookup q = some u) (hb : Blk w g t cs) (hu : P.underlying ty = some td)
    (htd : (match td with | .struct _ | .array _ _ => true | _ => false) = true) (hi : (P.info? ty).map (·.size) = some cs.size) (hR : R (.returned (.tuple #[.agg cs, u])) w) : KR n (bodyPost P fn R) k w :=
  KR.fin (fun a ha => by have := results_cell_tmp (P := P) hf (tmps := a.tmps) (ha.getD hl) hb hu htd hi; rw [ha.getD hq] at this; exact this) hR
end
/-- A call entered. -/
def argK : Nat → List Value → Kn
  | _, [] => []
  | i, v :: vs => (i, v) :: argK (i + 1) vs
theorem argK_at : ∀ (vs : List Value) (i s : Nat) (v : Value), (argK i vs).lookup s = some v → i ≤ s ∧ vs[s - i]? = some v
  | [], i, s, v, h => by cases h
  | u :: vs, i, s, v, h => by
    simp only [argK, List.lookup_cons] at h
    by_cases e : s = i
    · subst e
      simp only [beq_self_eq_true] at h
      obtain rfl : u = v := by simpa using h
      exact ⟨Nat.le_refl _, by simp⟩
    · have e' : (s == i) = false := by simpa using e
      rw [e'] at h
      obtain ⟨h1, h2⟩ := argK_at vs (i + 1) s v h
      refine ⟨by omega, ?_⟩
      rw [show s - i = (s - (i + 1)) + 1 by omega, List.getElem?_cons_succ]
      exact h2
theorem calls_kn {P : Program} {f : FuncId} {fn : Func} {c : Code} {args : List Value} {w : World} {R : Ending → World → Prop} {n : Nat} (hf : P.funcs[f]? = some fn) (hb : fn.body = some c) (hn : fn.ntmps = n) (hl : Nat.ble args.length n = true)
    (h : KW P n c (bodyPost P fn R) (argK 0 args) w) : Calls P f args.toArray w R := by
  have hl := Nat.le_of_ble_eq_true hl
  refine calls_of_wp hf hb (h.go _ ⟨?_, rfl, ?_⟩)
  · simp [hn]; omega
  · intro s v hs
    obtain ⟨_, h2⟩ := argK_at args 0 s v hs
    rw [Nat.sub_zero] at h2
    have hs := (List.getElem?_eq_some_iff.1 h2).1
    show (args.toArray ++ _)[s]? = _
    rw [Array.getElem?_append_left (by simpa using hs)]
    simpa using h2
theorem least {p : Nat → Prop} (h : ∃ x, p x) : ∃ x, p x ∧ ∀ y, p y → x ≤ y := by
  obtain ⟨x, hx⟩ := h
  induction x using Nat.strongRecOn with
  | _ x ih =>
    by_cases hy : ∃ y, y < x ∧ p y
    · obtain ⟨y, h1, h2⟩ := hy
      exact ih y h1 h2
    · exact ⟨x, hx, fun y py => by
        refine Nat.le_of_not_lt (fun hlt => hy ⟨y, hlt, py⟩)⟩
open Classical in
noncomputable def lm (p : Nat → Prop) : Nat := if h : ∃ x, p x then Classical.choose (least h) else 0
theorem lm_le {p : Nat → Prop} {x : Nat} (h : p x) : p (lm p) ∧ lm p ≤ x := by
  have he : ∃ x, p x := ⟨x, h⟩
  unfold lm
  rw [dif_pos he]
  have := Classical.choose_spec (least he)
  exact ⟨this.1, this.2 x h⟩
/-- A loop: what is known and what holds of the world at the head of a round, by an index of one's own that falls. -/
theorem KW.loop {P : Program} {n : Nat} {c : Code} {Q : Exit → Act → World → Prop} {k : Kn} {w : World} {ι : Type} (K : ι → Kn) (R : ι → World → Prop) (m : ι → Nat) (i0 : ι) (h0 : R i0 w) (hk : ∀ s v, (K i0).lookup s = some v → k.lookup s = some v)
    (hs : ∀ i w', R i w' → KW P n c (Exit.then (fun a w'' => ∃ j, KA n (K j) a ∧ R j w'' ∧ m j < m i) Q) (K i) w') : KW P n (.loop c) Q k w := ⟨fun a ha => by
  refine wp_loop (fun a w => ∃ i, KA n (K i) a ∧ R i w) (fun a w => lm (fun x => ∃ i, KA n (K i) a ∧ R i w ∧ m i = x)) ⟨i0, ⟨ha.size, ha.defers, fun s v e => ha.holds s v (hk s v e)⟩, h0⟩ ?_
  rintro a' w' ⟨i, h1, h2⟩
  obtain ⟨⟨i', g1, g2, g3⟩, _⟩ := lm_le (p := fun x => ∃ i, KA n (K i) a' ∧ R i w' ∧ m i = x) (x := m i) ⟨i, h1, h2, rfl⟩
  refine wp_mono ((hs i' w' g2).go a' g1) (fun e a w q => ?_)
  cases e with
  | normal =>
    obtain ⟨j, q1, q2, q3⟩ := q
    refine ⟨⟨j, q1, q2⟩, ?_⟩
    have := (lm_le (p := fun x => ∃ i, KA n (K i) a ∧ R i w ∧ m i = x) (x := m j) ⟨j, q1, q2, rfl⟩).2
    rw [← g3]
    omega
  | _ => exact q⟩
/-- At the loop's round's end. -/
theorem KE.round {P : Program} {n : Nat} {ops : Array Oper} {Q : Exit → Act → World → Prop} {k : Kn} {w : World} {ι : Type} {K : ι → Kn} {R : ι → World → Prop} {m : ι → Nat} {i : ι} (j : ι) (hk : ∀ s v, (K j).lookup s = some v → k.lookup s = some v) (hR : R j w) (hm : m j < m i) :
    KE n (Exit.then (fun a w'' => ∃ j, KA n (K j) a ∧ R j w'' ∧ m j < m i) Q) k w := ⟨fun a ha => ⟨j, ha.forget hk, hR, hm⟩⟩
/-- A list of what is known, looked at slot by slot. -/
def kle : Kn → Kn → Prop
  | [], _ => True
  | (s, v) :: k', k => k.lookup s = some v ∧ kle k' k
theorem kle_ok : ∀ {k' k : Kn}, kle k' k → ∀ s v, k'.lookup s = some v → k.lookup s = some v
  | [], _, _, s, v, h => by cases h
  | (s0, v0) :: k', k, hk, s, v, h => by
    rw [List.lookup_cons] at h
    by_cases e : s = s0
    · subst e
      simp only [beq_self_eq_true] at h
      obtain rfl : v0 = v := by simpa using h
      exact hk.1
    · have e' : (s == s0) = false := by simpa using e
      rw [e'] at h
      exact kle_ok hk.2 s v h
end Go.Proofs.YtiddhcabpmkolaaGreatDoor
set_option linter.unusedSimpArgs false
set_option linter.unusedVariables false
namespace Go.Proofs.YtiddhcabpmkolaaGreatDoor

set_option maxRecDepth 100000
open Go
section
variable {P : Program} {n d : Nat} {ops : Array Oper} {o : Oper} {rest l : List Oper} {Q : Exit → Act → World → Prop} {k : Kn} {w : World} {v : Value} {x : Operand}
/-- Sums and differences in bounds. -/
theorem KL.add {ty ty' : TypeId} {a b : Int} {y : Operand} (c : Int) (hd : o.dst = some d) (hw : knWant ops k o = some true) (ho : o.op = .binOp .add ty x y ty') (hx : knX k x = some (.int .i64 a)) (hy : knX k y = some (.int .i64 b)) (hn : Nat.blt d n = true)
    (hb : -9223372036854775808 ≤ c ∧ c ≤ 9223372036854775807) (hc : a + b = c) (h : KL P n ops rest Q ((d, .int .i64 c) :: k) w) : KL P n ops (o :: rest) Q k w :=
  KL.bop hd hw ho hx hy hn (by
    subst hc
    simp only [eqGuard, binOp, Op.intArith, Sem.run_bind]
    have := IntWalk.i64_in (a + b) hb
    rw [this]; rfl) h
theorem KL.sub {ty ty' : TypeId} {a b : Int} {y : Operand} (c : Int) (hd : o.dst = some d) (hw : knWant ops k o = some true) (ho : o.op = .binOp .sub ty x y ty') (hx : knX k x = some (.int .i64 a)) (hy : knX k y = some (.int .i64 b)) (hn : Nat.blt d n = true)
    (hb : -9223372036854775808 ≤ c ∧ c ≤ 9223372036854775807) (hc : a - b = c) (h : KL P n ops rest Q ((d, .int .i64 c) :: k) w) : KL P n ops (o :: rest) Q k w :=
  KL.bop hd hw ho hx hy hn (by
    subst hc
    simp only [eqGuard, binOp, Op.intArith, Sem.run_bind]
    have := IntWalk.i64_in (a - b) hb
    rw [this]; rfl) h
/-- A whole aggregate stored into a block that is known whole. -/
theorem KL.storeB {ty : TypeId} {y : Operand} {g : Nat} {vs : Array Value} {t : TypeId} {old : Array Value} (hd : o.dst = none) (hw : knWant ops k o = some true) (ho : o.op = .store ty x y) (hx : knX k x = some (.pointer (some ⟨g, 0, none⟩))) (hy : knX k y = some (.agg vs)) (hb : Blk w g t old) (hs : old.size = vs.size) (hi : (P.info? ty).map (·.size) = some vs.size) (h1 : vs.all (·.oneCell') = true)
    (h : ∀ w', Blk w' g t vs → Kept (· = g) w w' → KL P n ops rest Q k w') : KL P n ops (o :: rest) Q k w :=
  KL.stores hd hw (fun ρ hρ => by
    unfold execOp
    simp only [ho, hρ _ _ hx, hρ _ _ hy, Instr.storeAt, Instr.sureAddr, Sem.run_bind, Sem.run_pure, Result.andThen_ok, run_storeVar_row w g t ty old vs hb hi hs h1]) (h _ (setRow_heap w g old vs t (0, 0) hb) (setRow_kept w g vs))
/-- At a loop's round's end. -/
theorem KE.rnd {ι : Type} {K : ι → Kn} {R : ι → World → Prop} {m : ι → Nat} {i : ι} (j : ι) (hk : kle (K j) k) (hR : R j w) (hm : m j < m i) : KE n (Exit.then (fun a w'' => ∃ j, KA n (K j) a ∧ R j w'' ∧ m j < m i) Q) k w :=
  ⟨fun a ha => ⟨j, ha.forget (kle_ok hk), hR, hm⟩⟩
end
end Go.Proofs.YtiddhcabpmkolaaGreatDoor
set_option linter.unusedSimpArgs false
set_option linter.unusedVariables false
namespace Go.Proofs.YtiddhcabpmkolaaGreatDoor

set_option maxRecDepth 100000
open Go
/-- A step that the goal's form alone decides. -/
class Ctl (g : Prop) (n : outParam Prop) : Prop where
  imp : n → g
theorem qq {g n : Prop} [c : Ctl g n] (h : n) : g := c.imp h
section
variable {P : Program} {n d : Nat} {ops : Array Oper} {o : Oper} {rest l : List Oper} {Q : Exit → Act → World → Prop} {N : Act → World → Prop} {k : Kn} {w : World} {v : Value} {c c1 c2 : Code} {x y : Operand} {ty ty' : TypeId} {u u1 u2 : Value}
instance : Ctl (KW P n (c1.seq c2) Q k w) (KW P n c1 (Exit.then (c2.wp P Q) Q) k w) := ⟨KW.seq⟩
instance {i : Nat} : Ctl (KW P n (.region i l.toArray false) Q k w) (KL P n l.toArray l Q k w) := ⟨KW.region⟩
instance : Ctl (KL P n ops [] Q k w) (KE n Q k w) := ⟨KL.nil⟩
instance : Ctl (KE n (Exit.then (c.wp P Q) Q) k w) (KW P n c Q k w) := ⟨KE.next⟩
instance {i : Nat} : Ctl (KE n (Exit.inBlock i Q) k w) (KE n Q k w) := ⟨KE.blk⟩
instance : Ctl (KE n (Exit.noGoto Q) k w) (KE n Q k w) := ⟨KE.scp⟩
instance : Ctl (KW P n .skip Q k w) (KE n Q k w) := ⟨KW.skip⟩
instance {i : Nat} : Ctl (KW P n (.block i c) Q k w) (KW P n c (Exit.inBlock i Q) k w) := ⟨KW.block⟩
instance : Ctl (KW P n (.scope c) Q k w) (KW P n c (Exit.noGoto Q) k w) := ⟨KW.scope⟩
instance {i : Nat} : Ctl (KW P n (.exit i) Q k w) (KX n i Q k w) := ⟨KW.exit⟩
instance {i : Nat} : Ctl (KX n i (Exit.inBlock i Q) k w) (KE n Q k w) := ⟨KX.hit⟩
instance {i : Nat} : Ctl (KX n i (Exit.then N Q) k w) (KX n i Q k w) := ⟨KX.next⟩
instance {i : Nat} : Ctl (KX n i (Exit.noGoto Q) k w) (KX n i Q k w) := ⟨KX.scp⟩
instance : Ctl (KW P n .ret Q k w) (KR n Q k w) := ⟨KW.ret⟩
instance : Ctl (KR n (Exit.then N Q) k w) (KR n Q k w) := ⟨KR.next⟩
instance {i : Nat} : Ctl (KR n (Exit.inBlock i Q) k w) (KR n Q k w) := ⟨KR.blk⟩
instance : Ctl (KR n (Exit.noGoto Q) k w) (KR n Q k w) := ⟨KR.scp⟩
theorem qc {op : BinOp} {a b : Bool} (h : KL P n ops rest Q ((d, .bool b) :: k) w) (hd : o.dst = some d := by exact rfl) (hw : knWant ops k o = some true := by exact rfl) (ho : o.op = .binOp op ty x y ty' := by exact rfl) (hv : evK k (.binOp op ty x y ty') = some (.bool a) := by exact rfl) (hc : a = b := by with_reducible assumption) (hn : Nat.blt d n = true := by exact rfl) : KL P n ops (o :: rest) Q k w := KL.evc hd hw ho hv hc hn h
theorem qe (h : KL P n ops rest Q ((d, v) :: k) w) (hd : o.dst = some d := by exact rfl) (hw : knWant ops k o = some true := by exact rfl) (hv : evK k o.op = some v := by exact rfl) (hn : Nat.blt d n = true := by exact rfl) : KL P n ops (o :: rest) Q k w := KL.ev hd hw hv hn h
theorem qs (h : KL P n ops rest Q ((d, undef) :: k) w) (hd : o.dst = some d := by exact rfl) (hw : knWant ops k o = some false := by exact rfl) (hn : Nat.blt d n = true := by exact rfl) : KL P n ops (o :: rest) Q k w := KL.skip hd hw hn h
theorem qn (h : KW P n c2 Q k w) (hx : knX k x = some (.bool false) := by exact rfl) : KW P n (.cond x c1 c2) Q k w := KW.no hx h
theorem qy (h : KW P n c1 Q k w) (hx : knX k x = some (.bool true) := by exact rfl) : KW P n (.cond x c1 c2) Q k w := KW.yes hx h
theorem ql (h : KL P n ops rest Q ((d, v) :: k) w) (hd : o.dst = some d := by exact rfl) (hw : knWant ops k o = some true := by exact rfl) (ho : o.op = .load ty x := by exact rfl) (hx : knX k x = some u := by exact rfl) (hn : Nat.blt d n = true := by exact rfl) (hr : (Instr.loadAt ty u).run P w = .ok v w := by go_simp; first | done | rfl) : KL P n ops (o :: rest) Q k w := KL.ld hd hw ho hx hn hr h
theorem qf {i : Nat} (h : KL P n ops rest Q ((d, v) :: k) w) (hd : o.dst = some d := by exact rfl) (hw : knWant ops k o = some true := by exact rfl) (ho : o.op = .fieldAddr ty x i := by exact rfl) (hx : knX k x = some u := by exact rfl) (hn : Nat.blt d n = true := by exact rfl) (hr : (Instr.fieldAt ty u i).run P w = .ok v w := by go_simp; first | done | rfl) : KL P n ops (o :: rest) Q k w := KL.fa hd hw ho hx hn hr h
theorem qi (h : KL P n ops rest Q ((d, v) :: k) w) (hd : o.dst = some d := by exact rfl) (hw : knWant ops k o = some true := by exact rfl) (ho : o.op = .indexAddr ty x y := by exact rfl) (hx : knX k x = some u1 := by exact rfl) (hy : knX k y = some u2 := by exact rfl) (hn : Nat.blt d n = true := by exact rfl) (hr : (Instr.indexAt ty u1 u2).run P w = .ok v w := by go_simp; first | done | rfl) : KL P n ops (o :: rest) Q k w := KL.ia hd hw ho hx hy hn hr h
theorem qw {ats : Array TypeId} (h : KL P n ops rest Q ((d, v) :: k) w) (hd : o.dst = some d := by exact rfl) (hw : knWant ops k o = some true := by exact rfl) (ho : o.op = .call { callee := .builtin .len, args := #[x], argTypes := ats } := by exact rfl) (hx : knX k x = some u := by exact rfl) (hn : Nat.blt d n = true := by exact rfl) (hr : (Builtin.len_ ats o.type #[u]).run P w = .ok v w := by go_simp; first | done | rfl) : KL P n ops (o :: rest) Q k w := KL.len hd hw ho hx hn hr h
theorem qx {i : Nat} (h : KL P n ops rest Q ((d, v) :: k) w) (hd : o.dst = some d := by exact rfl) (hw : knWant ops k o = some true := by exact rfl) (ho : o.op = .extract x i := by exact rfl) (hx : knX k x = some u := by exact rfl) (hn : Nat.blt d n = true := by exact rfl) (hr : (Instr.extract u i).run P w = .ok v w := by go_simp; first | done | rfl) : KL P n ops (o :: rest) Q k w := KL.ex hd hw ho hx hn hr h
theorem qr {i j : Nat} (h : KX n i Q k w) (hne : Nat.beq i j = false := by exact rfl) : KX n i (Exit.inBlock j Q) k w := KX.far hne h
theorem qk (h : KW P n c (Exit.then (fun _ _ => False) Q) k w) : KW P n (.loop c) Q k w := KW.loop1 h
end
end Go.Proofs.YtiddhcabpmkolaaGreatDoor
