/-
  A region that draws its order of evaluation, in which whatever makes or turns memory need not be ordered. Of each such operation (a mover) one tells a fact about what it yields and the world behind it, a fact that abides what the other operations do;   each other operation yields one value in every world in which the facts of those that it waits for hold. Then one walk in the order of the text, over whatever the movers yield, serves every order. A region that draws its order, whose movers (what makes or turns memory) are ordered against all that reads: one walk in the order of the text, world by world, serves every order. The walk by what is known of the slots, in a region that draws its order: movers ordered among themselves (XSeq). A region that draws its order, whose movers are ordered against all that reads but for operations of one value in every world of a class; late movers, behind all of those, may leave the class. A region that draws its order, whose movers are ordered against all that reads but for operations of one value in every world of a class of their own. A region where two movers may come in either order: one walk with each of them ahead.
-/
import Derived.Test.YtiddhcabpmkolaaGreatDoorMix
import Derived.Test.YtiddhcabpmkolaaGreatDoorZBlk
namespace Go.Proofs.YtiddhcabpmkolaaGreatDoor
set_option linter.unusedSimpArgs false
set_option linter.unusedVariables false
open Go

section
variable {P : Program} {ops : Array Oper} {md : Region.Mode}

/-! ### What a state of the region's temporaries is -/
def dstOf (ops : Array Oper) (j : Nat) : Option Tmp := (ops[j]?).bind (·.dst)
def Edge' (md : Region.Mode) (ops : Array Oper) (k i : Nat) : Prop := ∃ o e, ops[k]? = some o ∧ e ∈ o.after ∧ Region.binds md e = true ∧ e.on = i
open Classical in
/-- The first k operations' values, of those in L. -/
noncomputable def putTo (ops : Array Oper) (a0 : Act) (vals : Nat → Value) (L : Nat → Prop) : Nat → Act
  | 0 => a0
  | k + 1 => if L k then (putTo ops a0 vals L k).put (dstOf ops k) (vals k) else putTo ops a0 vals L k
def Distinct (ops : Array Oper) : Prop := ∀ i j d, dstOf ops i = some d → dstOf ops j = some d → i = j

theorem put_size (a : Act) (d : Option Tmp) (v : Value) : (a.put d v).tmps.size = a.tmps.size := by
  cases d <;> simp [Act.put]
theorem put_ne (a : Act) (x : Option Tmp) (v : Value) (d : Tmp) (h : x ≠ some d) : (a.put x v).tmps[d]? = a.tmps[d]? := by
  cases x with
  | none => rfl
  | some e =>
    have hne : e ≠ d := fun he => h (by rw [he])
    simp [Act.put, Array.getElem?_setIfInBounds_ne hne]
theorem put_at (a : Act) (d : Tmp) (v : Value) : (a.put (some d) v).tmps[d]? = if d < a.tmps.size then some v else none := by
  simp [Act.put, Array.getElem?_setIfInBounds]

section
variable {a0 : Act} {vals vals' : Nat → Value} {L M : Nat → Prop}
theorem putTo_yes {k : Nat} (h : L k) : putTo ops a0 vals L (k + 1) = (putTo ops a0 vals L k).put (dstOf ops k) (vals k) := by
  simp [putTo, h]
theorem putTo_no {k : Nat} (h : ¬ L k) : putTo ops a0 vals L (k + 1) = putTo ops a0 vals L k := by
  simp [putTo, h]
theorem putTo_size : ∀ k, (putTo ops a0 vals L k).tmps.size = a0.tmps.size
  | 0 => rfl
  | k + 1 => by
    by_cases h : L k
    · rw [putTo_yes h, put_size, putTo_size k]
    · rw [putTo_no h, putTo_size k]
theorem putTo_none {d : Tmp} : ∀ k, (∀ j, j < k → L j → dstOf ops j ≠ some d) → (putTo ops a0 vals L k).tmps[d]? = a0.tmps[d]?
  | 0, _ => rfl
  | k + 1, h => by
    have ih := putTo_none k (fun j hj => h j (by omega))
    by_cases c : L k
    · rw [putTo_yes c, put_ne _ _ _ _ (h k (by omega) c), ih]
    · rw [putTo_no c, ih]
theorem putTo_some (hd : Distinct ops) {d : Tmp} {j : Nat} (hL : L j) (hj : dstOf ops j = some d) : ∀ k, j < k → (putTo ops a0 vals L k).tmps[d]? = if d < a0.tmps.size then some (vals j) else none
  | 0, h => by omega
  | k + 1, h => by
    by_cases e : j = k
    · subst e
      rw [putTo_yes hL, hj, put_at, putTo_size]
    · have ih := putTo_some hd hL hj k (by omega)
      by_cases c : L k
      · rw [putTo_yes c, put_ne _ _ _ _ (fun hk => e (hd j k d hj hk)), ih]
      · rw [putTo_no c, ih]
theorem putTo_congr : ∀ k, (∀ j, j < k → (L j ↔ M j)) → (∀ j, j < k → L j → vals j = vals' j) → putTo ops a0 vals L k = putTo ops a0 vals' M k
  | 0, _, _ => rfl
  | k + 1, h1, h2 => by
    have ih := putTo_congr k (fun j hj => h1 j (by omega)) (fun j hj => h2 j (by omega))
    by_cases c : L k
    · rw [putTo_yes c, putTo_yes ((h1 k (by omega)).1 c), ih, h2 k (by omega) c]
    · rw [putTo_no c, putTo_no (fun hm => c ((h1 k (by omega)).2 hm)), ih]
def upd (vals : Nat → Value) (i : Nat) (v : Value) : Nat → Value := fun j => if j = i then v else vals j
theorem upd_at (i : Nat) (v : Value) : upd vals i v i = v := by simp [upd]
theorem upd_ne {i j : Nat} (v : Value) (h : j ≠ i) : upd vals i v j = vals j := by simp [upd, h]
theorem putTo_add (hd : Distinct ops) {i : Nat} {v : Value} (hi : ¬ L i) : ∀ k, i < k → (putTo ops a0 vals L k).put (dstOf ops i) v = putTo ops a0 (upd vals i v) (fun j => L j ∨ j = i) k
  | 0, h => by omega
  | k + 1, h => by
    by_cases e : i = k
    · subst e
      rw [putTo_no hi, putTo_yes (L := fun j => L j ∨ j = i) (.inr rfl), upd_at]
      congr 1
      refine putTo_congr i (fun j hj => ⟨.inl, fun h => h.resolve_right (by omega)⟩) (fun j hj _ => (upd_ne v (by omega)).symm)
    · have ih := putTo_add hd hi (v := v) k (by omega)
      by_cases c : L k
      · rw [putTo_yes c, putTo_yes (L := fun j => L j ∨ j = i) (.inl c), ← ih, upd_ne v (fun h => e h.symm)]
        refine Act.put_comm _ _ _ (fun d hk hi => e (hd i k d hi hk))
      · rw [putTo_no c, putTo_no (L := fun j => L j ∨ j = i) (fun h => h.elim c (fun h => e h.symm)), ih]
end

/-- What an operation looks at is all that matters to it. -/
def AgreeOn (ds : List Tmp) (a a' : Act) : Prop := ∀ d ∈ ds, a.tmps[d]? = a'.tmps[d]?
theorem exec_agree {o : Oper} (hs : ∀ cs b, o.op ≠ .select cs b) {a a' : Act} (h : AgreeOn (o.looksAt ops) a a') : execOp a.eval o = execOp a'.eval o :=
  execOp_congr o hs fun x hx => by
    cases x with
    | tmp t =>
      have h1 := h t (List.mem_append_left _ (List.mem_filterMap.2 ⟨.tmp t, by simpa using hx, rfl⟩))
      simp [Act.eval, h1]
    | _ => rfl
theorem wanted_agree {o : Oper} {a a' : Act} (h : AgreeOn (o.looksAt ops) a a') : Region.wanted o (yielded ops a.tmps) = Region.wanted o (yielded ops a'.tmps) := by
  unfold Region.wanted
  cases hg : o.guard with
  | none => rfl
  | some gw =>
    obtain ⟨g, want⟩ := gw
    have hy : yielded ops a.tmps g = yielded ops a'.tmps g := by
      unfold yielded
      cases ht : (ops[g]?).bind (·.dst) with
      | none => rfl
      | some t =>
        have h1 := h t (by simp [Oper.looksAt, hg, ht])
        simp [h1]
    simp only [hy]

/-! ### The region's own conditions, as a test -/
def edgeB (md : Region.Mode) (ops : Array Oper) (k i : Nat) : Bool := match ops[k]? with | some o => o.after.any (fun e => Region.binds md e && e.on == i) | none => false
theorem edgeB_iff {k i : Nat} : edgeB md ops k i = true ↔ Edge' md ops k i := by
  unfold edgeB Edge'
  cases ho : ops[k]? with
  | none => simp
  | some o =>
    rw [Array.any_eq_true']
    constructor
    · rintro ⟨e, he, hb⟩
      simp only [Bool.and_eq_true, beq_iff_eq] at hb
      exact ⟨o, e, rfl, he, hb.1, hb.2⟩
    · rintro ⟨o', e, h1, he, hb, hi⟩
      injection h1 with h1
      subst h1
      exact ⟨e, he, by simp [hb, hi]⟩
/-- Each waits for earlier ones alone; no temporary is written twice; what is looked at is written by one it waits for, or by one that waits for it. -/
def freeB (md : Region.Mode) (ops : Array Oper) : Bool :=
  Region.noSelect ops &&
  (List.range ops.size).all fun k => match ops[k]? with
    | none => true
    | some o => o.after.all (fun e => !Region.binds md e || decide (e.on < k)) &&
      (List.range ops.size).all fun i => match dstOf ops i with
        | none => true
        | some d => (decide (i = k) || !(o.dst == some d)) && (!(o.looksAt ops).contains d || (decide (i < k) && edgeB md ops k i) || (decide (k < i) && edgeB md ops i k))
structure FreeOk (md : Region.Mode) (ops : Array Oper) : Prop where
  sel : ∀ (j : Nat) (o : Oper) cs b, ops[j]? = some o → o.op ≠ .select cs b
  before : ∀ k i, Edge' md ops k i → i < k
  distinct : Distinct ops
  looks : ∀ k o d i, ops[k]? = some o → d ∈ o.looksAt ops → dstOf ops i = some d → (i < k ∧ Edge' md ops k i) ∨ (k < i ∧ Edge' md ops i k)
theorem dst_lt {i : Nat} {d : Tmp} (h : dstOf ops i = some d) : i < ops.size := by
  rcases Nat.lt_or_ge i ops.size with h1 | h1
  · exact h1
  · simp [dstOf, Array.getElem?_eq_none h1] at h
theorem freeOk (h : freeB md ops = true) : FreeOk md ops := by
  unfold freeB at h
  rw [Bool.and_eq_true] at h
  obtain ⟨hs, h⟩ := h
  have key : ∀ k o, ops[k]? = some o → (∀ e ∈ o.after, Region.binds md e = true → e.on < k) ∧ ∀ i d, dstOf ops i = some d → (i = k ∨ o.dst ≠ some d) ∧ (d ∈ o.looksAt ops → (i < k ∧ Edge' md ops k i) ∨ (k < i ∧ Edge' md ops i k)) := by
    intro k o ho
    have hk : k < ops.size := (Array.getElem?_eq_some_iff.1 ho).1
    have h1 := List.all_eq_true.1 h k (List.mem_range.2 hk)
    simp only [ho, Bool.and_eq_true] at h1
    refine ⟨fun e he hb => ?_, fun i d hi => ?_⟩
    · have := Array.all_eq_true_iff_forall_mem.1 h1.1 e he
      simpa [hb] using this
    · have h2 := List.all_eq_true.1 h1.2 i (List.mem_range.2 (dst_lt hi))
      simp only [hi, Bool.and_eq_true, Bool.or_eq_true, decide_eq_true_eq, Bool.not_eq_true', beq_eq_false_iff_ne, edgeB_iff] at h2
      refine ⟨h2.1, fun hm => ?_⟩
      have h3 := h2.2
      rcases h3 with (h3 | h3) | h3
      · exact absurd (by simpa using hm) (by simpa using h3)
      · exact .inl h3
      · exact .inr h3
  refine ⟨Region.noSelect_spec hs, ?_, ?_, ?_⟩
  · rintro k i ⟨o, e, ho, he, hb, rfl⟩
    exact (key k o ho).1 e he hb
  · intro i j d hi hj
    obtain ⟨o, ho⟩ : ∃ o, ops[j]? = some o := ⟨_, Array.getElem?_eq_getElem (dst_lt hj)⟩
    rcases ((key j o ho).2 i d hi).1 with h1 | h1
    · exact h1
    · exact absurd (by simpa [dstOf, ho] using hj) h1
  · exact fun k o d i ho hd hi => ((key k o ho).2 i d hi).2 hd

/-! ### What an operation leaves -/
def upN (P : Program) (N : Value → World → Prop) : Result Next → Prop
  | .ok (.value v) w' => N v w'
  | .ok .skip w' => N undef w'
  | .ok (.enter f args) w' => Calls P f args w' fun e w'' => ∃ v, e = .returned v ∧ N v w''
  | _ => False
theorem upN_mono {N N' : Value → World → Prop} (h : ∀ v w, N v w → N' v w) : ∀ {r : Result Next}, upN P N r → upN P N' r := by
  intro r hh
  cases r with
  | ok n w' =>
    cases n <;> simp only [upN] at hh ⊢
    case value v => exact h _ _ hh
    case skip => exact h _ _ hh
    case enter f args => exact Calls.mono hh fun _ _ ⟨v, e, hn⟩ => ⟨v, e, h _ _ hn⟩
  | halt x w' => simp only [upN] at hh
theorem upN_some {N : Value → World → Prop} {r : Result Next} (hh : upN P N r) : ∃ v w, N v w := by
  cases r with
  | ok n w' =>
    cases n <;> simp only [upN] at hh
    case value v => exact ⟨v, w', hh⟩
    case skip => exact ⟨_, w', hh⟩
    case enter f args =>
      obtain ⟨e, w'', fr, ⟨v, _, hn⟩, _⟩ := hh []
      exact ⟨v, w'', hn⟩
  | halt x w' => simp only [upN] at hh
theorem upN_upon {o : Oper} {a : Act} {K : Act → World → Prop} {Q : Exit → Act → World → Prop} {N : Value → World → Prop} (h : ∀ v w, N v w → K (a.put o.dst v) w) {r : Result Next} (hh : upN P N r) : o.upon P a K Q r := by
  cases r with
  | ok n w' =>
    cases n <;> simp only [upN] at hh <;> simp only [Oper.upon]
    case value v => exact h _ _ hh
    case skip => exact h _ _ hh
    case enter f args => exact Calls.mono hh fun e w'' ⟨v, he, hn⟩ => by subst he; exact h _ _ hn
  | halt x w' => simp only [upN] at hh

/-! ### The walk in the order of the text -/
/-- May the operation k lean on the fact of i? Whoever breaks it is k itself, or waits for k. -/
def seesB (md : Region.Mode) (ops : Array Oper) (brk : Nat → List Nat) (k i : Nat) : Bool := (List.range ops.size).all fun b => !(brk b).contains i || (waits md ops b).contains i || b == k || (waits md ops k).contains b
def endB (md : Region.Mode) (ops : Array Oper) (brk : Nat → List Nat) (i : Nat) : Bool := (List.range ops.size).all fun b => !(brk b).contains i || (waits md ops b).contains i
section
variable (P : Program) (ops : Array Oper) (md : Region.Mode) (S : World → Prop) (T : Nat → World → World → Prop) (ms : List Nat) (brk : Nat → List Nat) (mf : Nat → Value → World → Prop)

abbrev Facts := List (Nat × Value)
/-- The worlds in which the operation k may come up: the facts of those that it waits for hold. -/
def clsF (F : Facts) (k : Nat) (w : World) : Prop := S w ∧ ∀ p ∈ F, (waits md ops p.1).contains k = true → seesB md ops brk k p.1 = true → mf p.1 p.2 w
def wpFree (Q : Act → World → Prop) : Nat → List Oper → Facts → Act → Prop
  | _, [], F, a => ∀ w, S w → (∀ p ∈ F, endB md ops brk p.1 = true → mf p.1 p.2 w) → Q a w
  | k, o :: rest, F, a =>
    if Region.wanted o (yielded ops a.tmps) = true then
      if k ∈ ms then (∀ w, clsF ops md S brk mf F k w → upN P (fun v w' => S w' ∧ T k w w' ∧ mf k v w') ((execOp a.eval o).run P w)) ∧ ∀ v, (∃ w, S w ∧ mf k v w) → wpFree Q (k + 1) rest ((k, v) :: F) (a.put o.dst v)
      else ∃ v, (∀ w, clsF ops md S brk mf F k w → (execOp a.eval o).run P w = .ok (.value v) w) ∧ wpFree Q (k + 1) rest F (a.put o.dst v)
    else wpFree Q (k + 1) rest F (a.put o.dst undef)

noncomputable def actAt (a0 : Act) (vals : Nat → Value) (k : Nat) : Act := putTo ops a0 vals (Edge' md ops k) ops.size
def FactAt (a0 : Act) (vals : Nat → Value) (k : Nat) (w : World) : Prop := ∀ o, ops[k]? = some o → k ∈ ms → Region.wanted o (yielded ops (actAt ops md a0 vals k).tmps) = true → mf k (vals k) w
def clsAt (a0 : Act) (vals : Nat → Value) (k : Nat) (w : World) : Prop := S w ∧ ∀ i, k ∈ waits md ops i → seesB md ops brk k i = true → FactAt ops md ms mf a0 vals i w
/-- A value that the operation k may have left. -/
def Valid (a0 : Act) (vals : Nat → Value) (k : Nat) : Prop := ∀ o, ops[k]? = some o →
  (Region.wanted o (yielded ops (actAt ops md a0 vals k).tmps) = true → k ∈ ms → ∃ w, S w ∧ mf k (vals k) w) ∧
  (Region.wanted o (yielded ops (actAt ops md a0 vals k).tmps) = true → k ∉ ms → (∃ w, clsAt ops md S ms brk mf a0 vals k w) ∧ ∀ w', clsAt ops md S ms brk mf a0 vals k w' → (execOp (actAt ops md a0 vals k).eval o).run P w' = .ok (.value (vals k)) w') ∧
  (Region.wanted o (yielded ops (actAt ops md a0 vals k).tmps) = false → vals k = undef)
/-- What has come: L, with its values, in the world w. -/
structure Come (a0 : Act) (L : Nat → Prop) (vals : Nat → Value) (w : World) : Prop where
  lt : ∀ j, L j → j < ops.size
  down : ∀ k i, L k → Edge' md ops k i → L i
  cls : S w
  valid : ∀ j, L j → Valid P ops md S ms brk mf a0 vals j
  fact : ∀ i, L i → (∀ b, L b → i ∈ brk b → i ∈ waits md ops b) → FactAt ops md ms mf a0 vals i w
end

section
variable {S : World → Prop} {T : Nat → World → World → Prop} {ms : List Nat} {brk : Nat → List Nat} {mf : Nat → Value → World → Prop} {a0 : Act} {vals vals' : Nat → Value} {L : Nat → Prop}

/-- A set of operations that holds whatever its own wait for. -/
def Down (md : Region.Mode) (ops : Array Oper) (L : Nat → Prop) : Prop := ∀ k i, L k → Edge' md ops k i → L i

theorem waits_lt (ok : FreeOk md ops) {i : Nat} : ∀ k, k ∈ waits md ops i → i < k := by
  intro k
  induction k using Nat.strongRecOn with
  | ind k ih =>
    intro h
    obtain ⟨o, e, h1, h2, h3, h4⟩ := waits_ok md ops i k h
    have h5 := ok.before k e.on ⟨o, e, h1, h2, h3, rfl⟩
    rcases h4 with h4 | h4
    · omega
    · have := ih e.on h5 h4
      omega
theorem waits_in (ok : FreeOk md ops) (hL : Down md ops L) {i : Nat} : ∀ k, (∀ j, Edge' md ops k j → L j) → k ∈ waits md ops i → L i := by
  intro k
  induction k using Nat.strongRecOn with
  | ind k ih =>
    intro hk h
    obtain ⟨o, e, h1, h2, h3, h4⟩ := waits_ok md ops i k h
    have he : Edge' md ops k e.on := ⟨o, e, h1, h2, h3, rfl⟩
    rcases h4 with h4 | h4
    · rw [← h4]; exact hk _ he
    · exact ih e.on (ok.before k _ he) (fun j hj => hL _ _ (hk _ he) hj) h4

theorem actAt_congr (hv : ∀ j, L j → vals j = vals' j) {k : Nat} (hk : ∀ j, Edge' md ops k j → L j) : actAt ops md a0 vals k = actAt ops md a0 vals' k :=
  putTo_congr _ (fun _ _ => Iff.rfl) (fun j _ hj => hv j (hk j hj))
theorem factAt_congr (hL : Down md ops L) (hv : ∀ j, L j → vals j = vals' j) {k : Nat} (hk : L k) {w : World} (h : FactAt ops md ms mf a0 vals k w) : FactAt ops md ms mf a0 vals' k w := fun o ho hm hw => by
  rw [← actAt_congr hv (fun j hj => hL k j hk hj)] at hw
  rw [← hv k hk]
  exact h o ho hm hw
theorem clsAt_congr (ok : FreeOk md ops) (hL : Down md ops L) (hv : ∀ j, L j → vals j = vals' j) {k : Nat} (hk : ∀ j, Edge' md ops k j → L j) {w : World} (h : clsAt ops md S ms brk mf a0 vals k w) : clsAt ops md S ms brk mf a0 vals' k w :=
  ⟨h.1, fun i hi hs => factAt_congr hL hv (waits_in ok hL k hk hi) (h.2 i hi hs)⟩
theorem valid_congr (ok : FreeOk md ops) (hL : Down md ops L) (hv : ∀ j, L j → vals j = vals' j) {k : Nat} (hk : L k) (h : Valid P ops md S ms brk mf a0 vals k) : Valid P ops md S ms brk mf a0 vals' k := fun o ho => by
  have hd : ∀ j, Edge' md ops k j → L j := fun j hj => hL k j hk hj
  obtain ⟨h1, h2, h3⟩ := h o ho
  rw [actAt_congr hv hd, hv k hk] at h1 h2 h3
  exact ⟨h1, fun a b => ⟨(h2 a b).1.imp fun w hw => clsAt_congr ok hL hv hd hw, fun w' hw' => (h2 a b).2 w' (clsAt_congr ok hL (fun j hj => (hv j hj).symm) hd hw')⟩, h3⟩

/-- What an operation looks at, where what it waits for has come and what waits for it has not. -/
theorem looks_agree (ok : FreeOk md ops) {k n : Nat} {o : Oper} (ho : ops[k]? = some o) (h1 : ∀ i, Edge' md ops k i → L i ∧ i < n) (h2 : ∀ i, Edge' md ops i k → ¬ (L i ∧ i < n)) : AgreeOn (o.looksAt ops) (putTo ops a0 vals L n) (actAt ops md a0 vals k) := by
  intro d hd
  by_cases c : ∃ i, dstOf ops i = some d
  · obtain ⟨i, hi⟩ := c
    have hin := dst_lt hi
    rcases ok.looks k o d i ho hd hi with ⟨h3, h4⟩ | ⟨h3, h4⟩
    · rw [putTo_some ok.distinct (h1 i h4).1 hi n (h1 i h4).2, actAt, putTo_some ok.distinct h4 hi _ hin]
    · rw [putTo_none n (fun j hj hL hjd => by rw [ok.distinct j i d hjd hi] at hj hL; exact h2 i h4 ⟨hL, hj⟩), actAt, putTo_none _ (fun j hj hL hjd => by
        rw [ok.distinct j i d hjd hi] at hL
        have := ok.before _ _ hL
        omega)]
  · rw [putTo_none n (fun j _ _ hj => c ⟨j, hj⟩), actAt, putTo_none _ (fun j _ _ hj => c ⟨j, hj⟩)]
theorem text_agree (ok : FreeOk md ops) {k : Nat} {o : Oper} (ho : ops[k]? = some o) : AgreeOn (o.looksAt ops) (putTo ops a0 vals (fun _ => True) k) (actAt ops md a0 vals k) :=
  looks_agree ok ho (fun i hi => ⟨trivial, ok.before _ _ hi⟩) (fun i hi h => by have := ok.before _ _ hi; omega)

/-- The facts that the walk in the order of the text has laid. -/
def FOk (md : Region.Mode) (ops : Array Oper) (ms : List Nat) (a0 : Act) (vals : Nat → Value) (k : Nat) (F : Facts) : Prop :=
  ∀ p ∈ F, p.2 = vals p.1 ∧ p.1 < k ∧ p.1 ∈ ms ∧ ∃ o, ops[p.1]? = some o ∧ Region.wanted o (yielded ops (actAt ops md a0 vals p.1).tmps) = true
theorem FOk.cls {k : Nat} {F : Facts} (hF : FOk md ops ms a0 vals k F) {w : World} (h : clsAt ops md S ms brk mf a0 vals k w) : clsF ops md S brk mf F k w :=
  ⟨h.1, fun p hp hw hs => by
    obtain ⟨h1, h2, h3, o, h4, h5⟩ := hF p hp
    rw [h1]
    exact h.2 p.1 (by simpa using hw) hs o h4 h3 h5⟩

theorem text_walk (ok : FreeOk md ops) {Q : Act → World → Prop} (h0 : wpFree P ops md S T ms brk mf Q 0 ops.toList [] a0) : ∀ k, k ≤ ops.size → (∀ j, j < k → Valid P ops md S ms brk mf a0 vals j) →
    ∃ F, FOk md ops ms a0 vals k F ∧ wpFree P ops md S T ms brk mf Q k (ops.toList.drop k) F (putTo ops a0 vals (fun _ => True) k)
  | 0, _, _ => ⟨[], (fun p hp => by cases hp), by simpa [putTo] using h0⟩
  | k + 1, hk, hg => by
    obtain ⟨F, hF, hw⟩ := text_walk ok h0 k (by omega) (fun j hj => hg j (by omega))
    obtain ⟨o, ho⟩ : ∃ o, ops[k]? = some o := ⟨_, Array.getElem?_eq_getElem (by omega)⟩
    have hdrop : ops.toList.drop k = o :: ops.toList.drop (k + 1) := by
      rw [List.drop_eq_getElem_cons (by simp; omega)]
      congr 1
      have := (Array.getElem?_eq_some_iff.1 ho).2
      simpa using this
    have hag := text_agree (a0 := a0) (vals := vals) ok ho
    have hdst : dstOf ops k = o.dst := by simp [dstOf, ho]
    have hF' : FOk md ops ms a0 vals (k + 1) F := fun p hp => let ⟨a, b, c⟩ := hF p hp; ⟨a, by omega, c⟩
    obtain ⟨g1, g2, g3⟩ := hg k (by omega) o ho
    rw [hdrop] at hw
    simp only [wpFree] at hw
    rw [wanted_agree hag] at hw
    rw [putTo_yes (L := fun _ => True) trivial, hdst]
    by_cases hwt : Region.wanted o (yielded ops (actAt ops md a0 vals k).tmps) = true
    · rw [if_pos hwt] at hw
      by_cases hm : k ∈ ms
      · rw [if_pos hm] at hw
        refine ⟨(k, vals k) :: F, fun p hp => ?_, hw.2 (vals k) (g1 hwt hm)⟩
        rcases List.mem_cons.1 hp with rfl | hp
        · exact ⟨rfl, by simp, hm, o, ho, hwt⟩
        · exact hF' p hp
      · rw [if_neg hm] at hw
        obtain ⟨v, h1, h2⟩ := hw
        obtain ⟨⟨w, hcls⟩, g2⟩ := g2 hwt hm
        have e1 := h1 w (hF.cls hcls)
        have e2 := g2 w hcls
        rw [exec_agree (ok.sel k o · · ho) hag, e2] at e1
        injection e1 with e1
        injection e1 with e1
        subst e1
        exact ⟨F, hF', h2⟩
    · rw [if_neg hwt] at hw
      rw [g3 (by simpa using hwt)]
      exact ⟨F, hF', hw⟩

/-- One operation has come. -/
def Step' (P : Program) (ops : Array Oper) (md : Region.Mode) (S : World → Prop) (T : Nat → World → World → Prop) (ms : List Nat) (brk : Nat → List Nat) (mf : Nat → Value → World → Prop) (a0 : Act) (k : Nat) (vals : Nat → Value) (w : World) (v : Value) (w' : World) : Prop :=
  S w' ∧ (w' = w ∨ (k ∈ ms ∧ T k w w')) ∧ Valid P ops md S ms brk mf a0 (upd vals k v) k ∧ FactAt ops md ms mf a0 (upd vals k v) k w'
theorem Come.step (ok : FreeOk md ops) (hst : ∀ k i v w w', k ∈ ms → i ∈ ms → i ≠ k → i ∉ brk k → T k w w' → mf i v w → mf i v w') {w w' : World} {v : Value} {k : Nat} (hkn : k < ops.size) (h : Come P ops md S ms brk mf a0 L vals w) (hE : ∀ i, Edge' md ops k i → L i) (hk : ¬ L k)
    (hs : Step' P ops md S T ms brk mf a0 k vals w v w') : Come P ops md S ms brk mf a0 (fun j => L j ∨ j = k) (upd vals k v) w' := by
  obtain ⟨s1, s2, s3, s4⟩ := hs
  have hv : ∀ j, L j → vals j = upd vals k v j := fun j hj => (upd_ne v (by rintro rfl; exact hk hj)).symm
  refine ⟨fun j hj => ?_, fun a b ha hab => ?_, s1, fun j hj => ?_, fun i hi hb => ?_⟩
  · rcases hj with hj | rfl
    · exact h.lt j hj
    · exact hkn
  · rcases ha with ha | rfl
    · exact .inl (h.down a b ha hab)
    · exact .inl (hE b hab)
  · rcases hj with hj | rfl
    · exact valid_congr ok h.down hv hj (h.valid j hj)
    · exact s3
  · rcases hi with hi | rfl
    · have h1 := factAt_congr h.down hv hi (h.fact i hi (fun b hL => hb b (.inl hL)))
      rcases s2 with rfl | ⟨hm, ht⟩
      · exact h1
      · exact fun o ho hmi hw => hst k i _ _ _ hm hmi (by rintro rfl; exact hk hi) (fun hib => hk (waits_in ok h.down i (fun j hj => h.down i j hi hj) (hb k (.inr rfl) hib))) ht (h1 o ho hmi hw)
    · exact s4
theorem Come.clsAt (ok : FreeOk md ops) {w : World} {k : Nat} (h : Come P ops md S ms brk mf a0 L vals w) (hE : ∀ i, Edge' md ops k i → L i) (hk : ¬ L k) : clsAt ops md S ms brk mf a0 vals k w :=
  ⟨h.cls, fun i hi hs => h.fact i (waits_in ok h.down k hE hi) (fun b hb hib => by
    have := List.all_eq_true.1 hs b (List.mem_range.2 (h.lt b hb))
    simp only [Bool.or_eq_true, Bool.not_eq_true', List.contains_eq_mem, decide_eq_false_iff_not, decide_eq_true_eq, beq_iff_eq] at this
    rcases this with ((h1 | h1) | h1) | h1
    · exact absurd hib h1
    · exact h1
    · subst h1; exact absurd hb hk
    · exact absurd (waits_in ok h.down b (fun j hj => h.down b j hb hj) h1) hk)⟩

/-- One operation, whatever has come ahead of it. -/
def StepOk (P : Program) (ops : Array Oper) (md : Region.Mode) (S : World → Prop) (T : Nat → World → World → Prop) (ms : List Nat) (brk : Nat → List Nat) (mf : Nat → Value → World → Prop) (a0 : Act) (k : Nat) : Prop :=
  ∀ (L : Nat → Prop) (vals : Nat → Value) (w : World) (o : Oper), ops[k]? = some o → Come P ops md S ms brk mf a0 L vals w → (∀ i, Edge' md ops k i → L i) → ¬ L k →
    (Region.wanted o (yielded ops (actAt ops md a0 vals k).tmps) = true → upN P (fun v w' => Step' P ops md S T ms brk mf a0 k vals w v w') ((execOp (actAt ops md a0 vals k).eval o).run P w)) ∧
    (Region.wanted o (yielded ops (actAt ops md a0 vals k).tmps) = false → Step' P ops md S T ms brk mf a0 k vals w undef w)

theorem step_ok (ok : FreeOk md ops) {Q : Act → World → Prop} (h0 : wpFree P ops md S T ms brk mf Q 0 ops.toList [] a0)
    (hst : ∀ k i v w w', k ∈ ms → i ∈ ms → i ≠ k → i ∉ brk k → T k w w' → mf i v w → mf i v w') : ∀ k, StepOk P ops md S T ms brk mf a0 k := by
  intro k
  induction k using Nat.strongRecOn with
  | ind k ih =>
    intro L vals w o ho hC hE hk
    have hkn : k < ops.size := (Array.getElem?_eq_some_iff.1 ho).1
    have claim : ∀ m, m ≤ k → ∃ vals' w', (∀ j, L j → vals j = vals' j) ∧ Come P ops md S ms brk mf a0 (fun j => L j ∨ j < m) vals' w' := by
      intro m
      induction m with
      | zero =>
        refine fun _ => ⟨vals, w, fun _ _ => rfl, ?_⟩
        have e : (fun j => L j ∨ j < 0) = L := by funext j; simp
        rw [e]; exact hC
      | succ m ihm =>
        intro hm
        obtain ⟨vals', w', h1, h2⟩ := ihm (by omega)
        by_cases c : L m
        · refine ⟨vals', w', h1, ?_⟩
          have e : (fun j => L j ∨ j < m + 1) = (fun j => L j ∨ j < m) := by
            funext j
            apply propext
            constructor
            · rintro (hj | hj)
              · exact .inl hj
              · by_cases e : j = m
                · subst e; exact .inl c
                · exact .inr (by omega)
            · exact fun hj => hj.imp id (by omega)
          rw [e]; exact h2
        · obtain ⟨om, hom⟩ : ∃ o, ops[m]? = some o := ⟨_, Array.getElem?_eq_getElem (by omega)⟩
          have hEm : ∀ i, Edge' md ops m i → (L i ∨ i < m) := fun i hi => .inr (ok.before _ _ hi)
          have hnm : ¬ (L m ∨ m < m) := fun h => h.elim c (by omega)
          have hst' := ih m (by omega) (fun j => L j ∨ j < m) vals' w' om hom h2 hEm hnm
          have e : (fun j => (L j ∨ j < m) ∨ j = m) = (fun j => L j ∨ j < m + 1) := by
            funext j
            apply propext
            constructor
            · rintro ((hj | hj) | rfl)
              · exact .inl hj
              · exact .inr (by omega)
              · exact .inr (by omega)
            · rintro (hj | hj)
              · exact .inl (.inl hj)
              · by_cases e : j = m
                · exact .inr e
                · exact .inl (.inr (by omega))
          have fin : ∀ v w'', Step' P ops md S T ms brk mf a0 m vals' w' v w'' → ∃ vals' w', (∀ j, L j → vals j = vals' j) ∧ Come P ops md S ms brk mf a0 (fun j => L j ∨ j < m + 1) vals' w' := fun v w'' hs =>
            ⟨upd vals' m v, w'', fun j hj => (h1 j hj).trans (upd_ne v (by rintro rfl; exact c hj)).symm, e ▸ h2.step ok hst (by omega) hEm hnm hs⟩
          cases hwt : Region.wanted om (yielded ops (actAt ops md a0 vals' m).tmps) with
          | true =>
            obtain ⟨v, w'', hs⟩ := upN_some (hst'.1 hwt)
            exact fin v w'' hs
          | false => exact fin undef w' (hst'.2 hwt)
    obtain ⟨vals', w', h1, h2⟩ := claim k (Nat.le_refl k)
    obtain ⟨F, hF, hw⟩ := text_walk (vals := vals') ok h0 k (by omega) (fun j hj => h2.valid j (.inr hj))
    have hdrop : ops.toList.drop k = o :: ops.toList.drop (k + 1) := by
      rw [List.drop_eq_getElem_cons (by simpa using hkn)]
      congr 1
      have := (Array.getElem?_eq_some_iff.1 ho).2
      simpa using this
    have hag := text_agree (a0 := a0) (vals := vals') ok ho
    have hact : actAt ops md a0 vals' k = actAt ops md a0 vals k := (actAt_congr h1 hE).symm
    have hactu : ∀ v, actAt ops md a0 (upd vals k v) k = actAt ops md a0 vals k := fun v => (actAt_congr (L := L) (fun j hj => (upd_ne v (by rintro rfl; exact hk hj)).symm) hE).symm
    rw [hdrop] at hw
    simp only [wpFree] at hw
    rw [wanted_agree hag, exec_agree (ok.sel k o · · ho) hag, hact] at hw
    have hup : ∀ v, ∀ j, L j → upd vals k v j = vals' j := fun v j hj => (upd_ne v (by rintro rfl; exact hk hj)).trans (h1 j hj)
    have hcA : clsAt ops md S ms brk mf a0 vals k w := hC.clsAt ok hE hk
    have hcU : ∀ v, clsAt ops md S ms brk mf a0 (upd vals k v) k w := fun v => clsAt_congr ok hC.down (fun j hj => (upd_ne v (by rintro rfl; exact hk hj)).symm) hE hcA
    have hcF : ∀ v x, clsAt ops md S ms brk mf a0 (upd vals k v) k x → clsF ops md S brk mf F k x := fun v x hx => hF.cls (clsAt_congr ok hC.down (hup v) hE hx)
    have hcw : clsF ops md S brk mf F k w := hF.cls (clsAt_congr ok hC.down h1 hE hcA)
    refine ⟨fun hwt => ?_, fun hwt => ?_⟩
    · rw [if_pos hwt] at hw
      by_cases hm : k ∈ ms
      · rw [if_pos hm] at hw
        refine upN_mono (fun v w'' ⟨s1, s2, s3⟩ => ⟨s1, .inr ⟨hm, s2⟩, fun o' ho' => ?_, fun o' ho' _ _ => by rw [upd_at]; exact s3⟩) (hw.1 w hcw)
        rw [ho] at ho'
        injection ho' with ho'
        subst ho'
        rw [hactu, upd_at]
        exact ⟨fun _ _ => ⟨w'', s1, s3⟩, fun _ h => absurd hm h, fun h => by rw [hwt] at h; cases h⟩
      · rw [if_neg hm] at hw
        obtain ⟨v, e1, _⟩ := hw
        rw [e1 w hcw]
        refine ⟨hC.cls, .inl rfl, fun o' ho' => ?_, fun o' ho' hm' _ => absurd hm' hm⟩
        rw [ho] at ho'
        injection ho' with ho'
        subst ho'
        rw [hactu, upd_at]
        exact ⟨fun _ h => absurd h hm, fun _ _ => ⟨⟨w, hcU v⟩, fun x hx => e1 x (hcF v x hx)⟩, fun h => by rw [hwt] at h; cases h⟩
    · refine ⟨hC.cls, .inl rfl, fun o' ho' => ?_, fun o' ho' _ hw' => ?_⟩
      · rw [ho] at ho'
        injection ho' with ho'
        subst ho'
        rw [hactu, upd_at]
        exact ⟨(fun h => by rw [hwt] at h; cases h), (fun h => by rw [hwt] at h; cases h), fun _ => rfl⟩
      · rw [ho] at ho'
        injection ho' with ho'
        subst ho'
        rw [hactu, hwt] at hw'
        cases hw'

theorem free_any (ok : FreeOk md ops) {Q : Act → World → Prop} {Q' : Exit → Act → World → Prop} (hQ : ∀ a w, Q a w → Q' .normal a w) (h0 : wpFree P ops md S T ms brk mf Q 0 ops.toList [] a0)
    (hst : ∀ k i v w w', k ∈ ms → i ∈ ms → i ≠ k → i ∉ brk k → T k w w' → mf i v w → mf i v w') : ∀ (fuel : Nat) (listed : Array Bool) (vals : Nat → Value) (w : World) (U : List Nat), listed.size = ops.size → U.length ≤ fuel → (∀ j, j < ops.size → listed.getD j false = false → j ∈ U) →
      Come P ops md S ms brk mf a0 (fun j => listed.getD j false = true) vals w → wpAny P md ops Q' fuel listed (putTo ops a0 vals (fun j => listed.getD j false = true) ops.size) w := by
  intro fuel
  have hall : ∀ (listed : Array Bool) (vals : Nat → Value) (w : World), (∀ j, j < ops.size → listed.getD j false = true) → Come P ops md S ms brk mf a0 (fun j => listed.getD j false = true) vals w → Q' .normal (putTo ops a0 vals (fun j => listed.getD j false = true) ops.size) w := by
    intro listed vals w h1 hC
    obtain ⟨F, hF, hw⟩ := text_walk (vals := vals) ok h0 ops.size (Nat.le_refl _) (fun j hj => hC.valid j (h1 j hj))
    rw [List.drop_eq_nil_of_le (by simp)] at hw
    simp only [wpFree] at hw
    rw [putTo_congr (M := fun _ => True) (vals' := vals) ops.size (fun j hj => ⟨fun _ => trivial, fun _ => h1 j hj⟩) (fun _ _ _ => rfl)]
    refine hQ _ _ (hw w hC.cls fun p hp he => ?_)
    obtain ⟨e1, e2, e3, o, e4, e5⟩ := hF p hp
    rw [e1]
    refine hC.fact p.1 (h1 _ e2) (fun b hb hib => ?_) o e4 e3 e5
    have := List.all_eq_true.1 he b (List.mem_range.2 (hC.lt b hb))
    simp only [Bool.or_eq_true, Bool.not_eq_true', List.contains_eq_mem, decide_eq_false_iff_not, decide_eq_true_eq] at this
    exact this.resolve_left (fun h => h hib)
  have hnone : ∀ (listed : Array Bool), listed.size = ops.size → (∀ j, j < ops.size → listed.getD j false = true) → Region.ready md ops listed = [] := by
    intro listed hsz h1
    refine List.eq_nil_iff_forall_not_mem.2 fun j hj => ?_
    obtain ⟨h2, o, ho, _⟩ := mem_ready.1 hj
    have hjn := (Array.getElem?_eq_some_iff.1 ho).1
    have h3 := h1 j hjn
    simp [hsz, hjn] at h2 h3
    rw [h2] at h3; cases h3
  have hfull : ∀ (listed : Array Bool), listed.size = ops.size → Region.ready md ops listed = [] → ∀ j, j < ops.size → listed.getD j false = true := by
    intro listed hsz hnil j
    induction j using Nat.strongRecOn with
    | ind j ih =>
      intro hj
      cases hjl : listed.getD j false with
      | true => rfl
      | false =>
        exfalso
        obtain ⟨o, ho⟩ : ∃ o, ops[j]? = some o := ⟨_, Array.getElem?_eq_getElem hj⟩
        have : j ∈ Region.ready md ops listed := mem_ready.2 ⟨by simp [hsz, hj] at hjl ⊢; exact hjl, o, ho, fun e he hb => by
          have := ok.before j e.on ⟨o, e, ho, he, hb, rfl⟩
          exact ih e.on this (by omega)⟩
        rw [hnil] at this
        cases this
  induction fuel with
  | zero =>
    intro listed vals w U hsz hU hin hC
    have h1 : ∀ j, j < ops.size → listed.getD j false = true := fun j hj => by
      cases hjl : listed.getD j false with
      | true => rfl
      | false =>
        have := hin j hj hjl
        rw [List.eq_nil_of_length_eq_zero (by omega : U.length = 0)] at this
        cases this
    exact ⟨hnone listed hsz h1, hall listed vals w h1 hC⟩
  | succ fuel ih =>
    intro listed vals w U hsz hU hin hC
    refine ⟨fun hnil => hall listed vals w (hfull listed hsz hnil) hC, fun i hi => ?_⟩
    obtain ⟨hi0, o, ho, hde⟩ := mem_ready.1 hi
    have hin' : i < ops.size := (Array.getElem?_eq_some_iff.1 ho).1
    have hi1 : listed.getD i false = false := by simp [hsz, hin'] at hi0 ⊢; exact hi0
    have hE : ∀ j, Edge' md ops i j → listed.getD j false = true := by
      rintro j ⟨o', e, ho', he, hb, rfl⟩
      rw [ho] at ho'
      injection ho' with ho'
      subst ho'
      exact hde e he hb
    have hnot : ¬ listed.getD i false = true := by rw [hi1]; simp
    have hs := step_ok ok h0 hst i (fun j => listed.getD j false = true) vals w o ho hC hE hnot
    have hag : AgreeOn (o.looksAt ops) (putTo ops a0 vals (fun j => listed.getD j false = true) ops.size) (actAt ops md a0 vals i) :=
      looks_agree ok ho (fun j hj => ⟨hE j hj, by have := ok.before _ _ hj; omega⟩) (fun j hj h => hnot (hC.down j i h.1 hj))
    have hdst : dstOf ops i = o.dst := by simp [dstOf, ho]
    have next : ∀ v w', Step' P ops md S T ms brk mf a0 i vals w v w' → wpAny P md ops Q' fuel (listed.setIfInBounds i true) ((putTo ops a0 vals (fun j => listed.getD j false = true) ops.size).put o.dst v) w' := by
      intro v w' hst'
      have hset : ∀ j, (listed.setIfInBounds i true).getD j false = true ↔ (listed.getD j false = true ∨ j = i) := fun j => by
        by_cases e : j = i
        · subst e; simp [hsz, hin']
        · rw [getD_set_ne false (fun h => e h.symm)]; simp [e]
      have hfun : (fun j => (listed.setIfInBounds i true).getD j false = true) = (fun j => listed.getD j false = true ∨ j = i) := by
        funext j; exact propext (hset j)
      rw [← hdst, putTo_add ok.distinct hnot ops.size hin', ← hfun]
      refine ih (listed.setIfInBounds i true) (upd vals i v) w' (U.erase i) (by simp [hsz]) ?_ ?_ ?_
      · have := List.length_erase_of_mem (hin i hin' hi1)
        have := List.length_pos_of_mem (hin i hin' hi1)
        omega
      · intro j hj hjl
        have hne : j ≠ i := by
          rintro rfl
          have := (hset j).2 (.inr rfl)
          rw [this] at hjl; cases hjl
        rw [getD_set_ne false (fun h => hne h.symm)] at hjl
        exact (List.mem_erase_of_ne hne).2 (hin j hj hjl)
      · rw [hfun]
        exact hC.step ok hst hin' hE hnot hst'
    unfold wpOp
    simp only [ho]
    rw [wanted_agree hag]
    split
    · rename_i hwt
      refine .inl ?_
      unfold Oper.wp
      rw [exec_agree (ok.sel i o · · ho) hag]
      exact upN_upon (fun v w' hst' => next v w' hst') (hs.1 hwt)
    · rename_i hwt
      exact next undef w (hs.2 (by simpa using hwt))
end

theorem rep_false (n j : Nat) : (Array.replicate n false).getD j false = false := by
  simp [Array.getElem?_replicate]
  split <;> rfl
/-- One walk in the order of the text serves every order. S: the worlds of the region; ms: the movers; T k: what the mover k may do; mf: the movers' facts; brk k: whose facts k breaks. -/
theorem wp_region_free {id : Nat} {Q : Exit → Act → World → Prop} {a : Act} {w : World} {l : List Oper} (S : World → Prop) (T : Nat → World → World → Prop) (ms : List Nat) (brk : Nat → List Nat) (mf : Nat → Value → World → Prop) (hm : P.follows .mixedOrders = true) (hB : freeB .any l.toArray = true)
    (hst : ∀ k i v w w', k ∈ ms → i ∈ ms → i ≠ k → i ∉ brk k → T k w w' → mf i v w → mf i v w')
    (hS : S w.drew) (h : wpFree P l.toArray .any S T ms brk mf (fun a' w' => Q .normal a' w') 0 l [] a) : (Code.region id l.toArray true).wp P Q a w := by
  refine wp_region_any hm ?_
  have no : ∀ j, (Array.replicate l.toArray.size false).getD j false = true → False := fun j hj => by rw [rep_false] at hj; cases hj
  have h1 := free_any (vals := fun _ => undef) (a0 := a) (freeOk hB) (Q' := Q) (fun _ _ h => h) (by simpa using h) hst l.toArray.size (Array.replicate l.toArray.size false) w.drew (List.range l.toArray.size) (by simp) (by simp) (fun j hj _ => List.mem_range.2 hj)
    ⟨fun j hj => (no j hj).elim, fun k i hk _ => (no k hk).elim, hS, fun j hj => (no j hj).elim, fun j hj => (no j hj).elim⟩
  have e : putTo l.toArray a (fun _ => undef) (fun j => (Array.replicate l.toArray.size false).getD j false = true) l.toArray.size = a := by
    have : ∀ k, putTo l.toArray a (fun _ => undef) (fun j => (Array.replicate l.toArray.size false).getD j false = true) k = a := by
      intro k
      induction k with
      | zero => rfl
      | succ k ih => rw [putTo_no (by rw [rep_false]; simp), ih]
    exact this _
  rw [e] at h1
  exact h1

/-! ### The steps of the walk -/
section
variable {S : World → Prop} {T : Nat → World → World → Prop} {ms : List Nat} {brk : Nat → List Nat} {mf : Nat → Value → World → Prop} {Q : Act → World → Prop} {k : Nat} {o : Oper} {rest : List Oper} {F : Facts} {a : Act}
/-- One value in every world of the class. -/
def steadyF (P : Program) (C : World → Prop) (o : Oper) (a : Act) (v : Value) : Prop := ∀ w, C w → (execOp a.eval o).run P w = .ok (.value v) w
theorem ex_steadyF {C : World → Prop} {K : Value → Prop} (v : Value) (h : ∀ w, C w → (execOp a.eval o).run P w = .ok (.value v) w) (hk : K v) : ∃ v, steadyF P C o a v ∧ K v := ⟨v, h, hk⟩
theorem free_step (hk : k ∉ ms)
    (h : ∀ K : Act → Prop, (∀ a, wpFree P ops md S T ms brk mf Q (k + 1) rest F a → K a) → if Region.wanted o (yielded ops a.tmps) = true then ∃ v, steadyF P (clsF ops md S brk mf F k) o a v ∧ K (a.put o.dst v) else K (a.put o.dst undef)) : wpFree P ops md S T ms brk mf Q k (o :: rest) F a := by
  have h' := h _ (fun _ h => h)
  simp only [wpFree]
  split
  · rename_i hw
    rw [if_pos hw] at h'
    first | exact h' | (rw [if_neg hk]; exact h')
  · rename_i hw
    rw [if_neg hw] at h'
    exact h'
theorem free_move (hk : k ∈ ms)
    (h : ∀ K : Facts → Act → Prop, (∀ F a, wpFree P ops md S T ms brk mf Q (k + 1) rest F a → K F a) → if Region.wanted o (yielded ops a.tmps) = true then (∀ w, clsF ops md S brk mf F k w → upN P (fun v w' => S w' ∧ T k w w' ∧ mf k v w') ((execOp a.eval o).run P w)) ∧ ∀ v, (∃ w, S w ∧ mf k v w) → K ((k, v) :: F) (a.put o.dst v) else K F (a.put o.dst undef)) : wpFree P ops md S T ms brk mf Q k (o :: rest) F a := by
  have h' := h _ (fun _ _ h => h)
  simp only [wpFree]
  split
  · rename_i hw
    rw [if_pos hw] at h'
    first | exact h' | (rw [if_pos hk]; exact h')
  · rename_i hw
    rw [if_neg hw] at h'
    exact h'
theorem free_nil (h : ∀ w, S w → (∀ p ∈ F, endB md ops brk p.1 = true → mf p.1 p.2 w) → Q a w) : wpFree P ops md S T ms brk mf Q k [] F a := h
theorem up_enter {N : Value → World → Prop} {f : FuncId} {args : Array Value} {w : World} (h : Calls P f args w fun e w'' => ∃ v, e = .returned v ∧ N v w'') : upN P N (.ok (.enter f args) w) := h
theorem free_move0 (hk : k ∈ ms) (hg : o.guard = none) (h1 : ∀ w, clsF ops md S brk mf F k w → upN P (fun v w' => S w' ∧ T k w w' ∧ mf k v w') ((execOp a.eval o).run P w)) (h2 : ∀ v, (∃ w, S w ∧ mf k v w) → wpFree P ops md S T ms brk mf Q (k + 1) rest ((k, v) :: F) (a.put o.dst v)) : wpFree P ops md S T ms brk mf Q k (o :: rest) F a := by
  simp only [wpFree, Region.wanted, hg]
  first | exact (if_pos hk).symm ▸ ⟨h1, h2⟩ | (rw [if_pos hk]; exact ⟨h1, h2⟩) | (simp only [if_true]; rw [if_pos hk]; exact ⟨h1, h2⟩)
end
/-- A whole aggregate stored into a block that is known whole. -/
theorem up_store {N : Value → World → Prop} {o : Oper} {a : Act} {w : World} (ty : TypeId) (x y : Operand) (ho : o.op = .store ty x y) {g : Nat} {cells : Array Value} (hx : a.eval x = .pointer (some ⟨g, 0, none⟩)) (hy : a.eval y = .agg cells)
    {t : TypeId} {old : Array Value} (hb : Blk w g t old) (hold : old.size = cells.size) (hi : (P.info? ty).map (·.size) = some cells.size) (h1 : cells.all (·.oneCell') = true)
    (h : ∀ w', Blk w' g t cells → Kept (· = g) w w' → (∀ k, k ≠ g → w'.heap[k]? = w.heap[k]?) → N undef w') : upN P N ((execOp a.eval o).run P w) := by
  unfold execOp
  simp only [ho, hx, hy, Instr.storeAt, Instr.sureAddr, Sem.run_bind, Sem.run_pure, Result.andThen_ok, run_storeVar_row w g t ty old cells hb hi hold h1]
  exact h _ (setRow_heap w g old cells t (0, 0) hb) (setRow_kept w g cells) (fun k hk => setRow_other w g k cells hk)
/-- 'append(v, x...)': v a row of the call's own, x whatever reads as a list. -/
theorem up_app {N : Value → World → Prop} {o : Oper} {a : Act} {w : World} {t e : TypeId} {z : Value} {k by_ : Nat} (ht : P.underlying t = some (.slice e)) (hI : (P.info? e).map (fun i => (i.zero, i.size, i.bytes)) = some (some z, k, by_)) (hzs : z.cells.size = k) (hk : 0 < k)
    {v : Value} {n : Nat} {xs : List Value} {F G : Nat → Prop} (hown : Own w F e k v n xs) {A : Option Addr} {m c : Nat} {news : List Value} (hr : Sl w G k A m news) (h1 : ∀ u ∈ news, u.oneCell' = true)
    (hbytes : n + m ≤ 1073741824) (hb2 : by_ ≤ 65536)
    (s x : Operand) (ho : o.op = .call { callee := .builtin .append, args := #[s, x], argTypes := #[t, t] }) (hs : a.eval s = v) (hx : a.eval x = .slice A m c)
    (h : ∀ v' w', Own w' (fun g => F g ∨ g = w.heap.size) e k v' (n + m) (xs ++ news) → Kept F w w' → N v' w') : upN P N ((execOp a.eval o).run P w) := by
  obtain ⟨i, hi, hz, hsize, hby⟩ := info_parts hI
  have h63 : n + m ≤ maxLen := by unfold maxLen; omega
  have hbb : (n + m) * by_ ≤ 140737488355328 := by
    have := Nat.mul_le_mul hbytes hb2
    omega
  have key : ∃ v' w', (Builtin.append_ #[t, t] o.type #[v, .slice A m c]).run P w = .ok v' w' ∧ Own w' (fun g => F g ∨ g = w.heap.size) e k v' (n + m) (xs ++ news) ∧ Kept F w w' := by
    rcases Nat.eq_zero_or_pos m with h0 | h0
    · subst h0
      have hn : news = [] := List.eq_nil_of_length_eq_zero (by simpa using hr.1)
      subst hn
      cases A with
      | none => exact ⟨v, w, run_app_nil t _ e i k ht hi v n xs hown.1 c, by simpa using hown.imp (fun _ _ h => .inl h), Kept.refl _ _⟩
      | some ad =>
        obtain ⟨v', w', hrun, h2, h3, _, h5⟩ := run_append_own_at (P := P) w 0 t o.type e i z k by_ ht hi hz hsize hby hzs hk v n xs hown.1 ad 0 c [] (by simp) (by simp) (by simp) h63 hbb (Nat.zero_le _)
        exact ⟨v', w', hrun, hown.of_append h2 h5, hown.kept_of_append h3⟩
    · obtain ⟨b, off, rfl, _, _, hc⟩ := hr.2 h0
      have hcells : ∀ j u, news[j]? = some u → w.cell? ((⟨b, off, none⟩ : Addr).add j) = some u := by
        intro j u hu
        rw [Addr.add_lit, hc j (List.getElem?_eq_some_iff.1 hu).1]
        exact hu
      obtain ⟨v', w', hrun, h2, h3, _, h5⟩ := run_append_own_at (P := P) w 0 t o.type e i z k by_ ht hi hz hsize hby hzs hk v n xs hown.1 ⟨b, off, none⟩ m c news hr.1 hcells h1 h63 hbb (Nat.zero_le _)
      exact ⟨v', w', hrun, hown.of_append h2 h5, hown.kept_of_append h3⟩
  obtain ⟨v', w', hrun, h2, h3⟩ := key
  unfold execOp
  simp only [ho, resolve, invoke, builtin, Sem.run_bind, Sem.run_pure, Result.andThen_ok, List.map_toArray, List.map_cons, List.map_nil, hs, hx, hrun]
  exact h v' w' h2 h3
theorem ptr_inj {g g' : Nat} (h : Value.pointer (some ⟨g, 0, none⟩) = Value.pointer (some ⟨g', 0, none⟩)) : g = g' := by
  injection h with h
  injection h with h
  injection h
theorem sl_inj {g g' a b c d : Nat} (h : Value.slice (some ⟨g, 0, none⟩) a b = Value.slice (some ⟨g', 0, none⟩) c d) : g = g' := by
  injection h with h
  injection h with h
  injection h
/-- Behind B whatever may turn; a block that is known whole stays one of its size. -/
def Grows (B : Nat) (w w' : World) : Prop := Kept (fun b => B ≤ b) w w' ∧ ∀ g t cs, Blk w g t cs → ∃ cs', Blk w' g t cs' ∧ cs'.size = cs.size
theorem Grows.refl (B : Nat) (w : World) : Grows B w w := ⟨Kept.refl _ _, fun _ _ cs h => ⟨cs, h, rfl⟩⟩
theorem Grows.trans {B : Nat} (a b c : World) (h : Grows B a b) (k : Grows B b c) : Grows B a c := ⟨h.1.same k.1, fun g t cs hb => by
  obtain ⟨cs1, h1, e1⟩ := h.2 g t cs hb
  obtain ⟨cs2, h2, e2⟩ := k.2 g t cs1 h1
  exact ⟨cs2, h2, e2.trans e1⟩⟩
theorem Grows.pure {B : Nat} {w w' : World} (h : Pure w w') : Grows B w w' := ⟨h.mono (fun _ _ h => h.elim), fun g t cs hb => ⟨cs, hb.kept h (fun h => h), rfl⟩⟩
theorem Grows.store {B g : Nat} {t : TypeId} {w w' : World} {old cells : Array Value} (hB : B ≤ g) (hb : Blk w g t old) (hs : old.size = cells.size) (hb' : Blk w' g t cells) (hk : Kept (· = g) w w') (ho : ∀ k, k ≠ g → w'.heap[k]? = w.heap[k]?) : Grows B w w' :=
  ⟨hk.mono (fun i _ h => by have : i = g := h; omega), fun j t' cs h => by
    by_cases e : j = g
    · subst e
      unfold Blk at h hb
      rw [hb] at h
      injection h with h
      injection h with h1 h2
      subst h1 h2
      exact ⟨cells, hb', hs.symm⟩
    · exact ⟨cs, (ho j e).trans h, rfl⟩⟩
end
end Go.Proofs.YtiddhcabpmkolaaGreatDoor
set_option linter.unusedSimpArgs false
set_option linter.unusedVariables false
namespace Go.Proofs.YtiddhcabpmkolaaGreatDoor
open Go.RowKit
set_option maxRecDepth 100000
open Go

section
variable (P : Program) (ops : Array Oper) (ms us : List Nat) (S : World → Prop)
/-- ms: the movers; us: operations that yield one value in every world of the class S. -/
def wpSeq (Q : Act → World → Prop) : Nat → List Oper → Act → World → Prop
  | _, [], a, w => Q a w
  | k, o :: rest, a, w =>
    if Region.wanted o (yielded ops a.tmps) = true then
      if k ∈ ms then upN P (fun v w' => S w' ∧ wpSeq Q (k + 1) rest (a.put o.dst v) w') ((execOp a.eval o).run P w)
      else if k ∈ us then ∃ v, (∀ x, S x → (execOp a.eval o).run P x = .ok (.value v) x) ∧ wpSeq Q (k + 1) rest (a.put o.dst v) w
      else ∃ v, (execOp a.eval o).run P w = .ok (.value v) w ∧ wpSeq Q (k + 1) rest (a.put o.dst v) w
    else wpSeq Q (k + 1) rest (a.put o.dst undef) w
/-- Each mover waits for whatever stands ahead of it, and whatever stands behind it waits for it: but for the operations of us. -/
def seqB (md : Region.Mode) : Bool := ms.all fun m => decide (m < ops.size) && !us.contains m && (List.range ops.size).all fun k => us.contains k || (if k < m then (waits md ops k).contains m else if m < k then (waits md ops m).contains k else true)
end
section
variable {P : Program} {ops : Array Oper} {md : Region.Mode} {ms us : List Nat} {S : World → Prop} {a0 : Act} {vals vals' : Nat → Value} {L : Nat → Prop} {w : World}
structure SeqOk (md : Region.Mode) (ops : Array Oper) (ms us : List Nat) : Prop where
  lt : ∀ m ∈ ms, m < ops.size
  far : ∀ m ∈ ms, m ∉ us
  pre : ∀ m ∈ ms, ∀ k, k ∉ us → k < m → m ∈ waits md ops k
  post : ∀ m ∈ ms, ∀ k, k < ops.size → k ∉ us → m < k → k ∈ waits md ops m
theorem seqOk (h : seqB ops ms us md = true) : SeqOk md ops ms us := by
  have key : ∀ m ∈ ms, m < ops.size ∧ m ∉ us ∧ ∀ k, k < ops.size → k ∉ us → (k < m → m ∈ waits md ops k) ∧ (m < k → k ∈ waits md ops m) := by
    intro m hm
    have h1 := List.all_eq_true.1 h m hm
    rw [Bool.and_eq_true, Bool.and_eq_true] at h1
    refine ⟨of_decide_eq_true h1.1.1, by simpa using h1.1.2, fun k hk hu => ?_⟩
    have h2 := List.all_eq_true.1 h1.2 k (List.mem_range.2 hk)
    have hu' : us.contains k = false := by simpa using hu
    rw [hu', Bool.false_or] at h2
    refine ⟨fun hlt => ?_, fun hlt => ?_⟩
    · rw [if_pos hlt] at h2; simpa using h2
    · rw [if_neg (by omega), if_pos hlt] at h2; simpa using h2
  exact ⟨fun m hm => (key m hm).1, fun m hm => (key m hm).2.1, fun m hm k hu hlt => ((key m hm).2.2 k (by have := (key m hm).1; omega) hu).1 hlt, fun m hm k hk hu hlt => ((key m hm).2.2 k hk hu).2 hlt⟩

/-- The value of the operation k, which is no mover: what it yields, looking at what it waits for. -/
def RV (P : Program) (ops : Array Oper) (md : Region.Mode) (us : List Nat) (S : World → Prop) (a0 : Act) (L : Nat → Prop) (vals : Nat → Value) (w : World) (k : Nat) : Prop :=
  ∀ o, ops[k]? = some o →
    (Region.wanted o (yielded ops (actAt ops md a0 vals k).tmps) = true → k ∈ us → ∀ x, S x → (execOp (actAt ops md a0 vals k).eval o).run P x = .ok (.value (vals k)) x) ∧
    (Region.wanted o (yielded ops (actAt ops md a0 vals k).tmps) = true → k ∉ us → ¬ L k → (execOp (actAt ops md a0 vals k).eval o).run P w = .ok (.value (vals k)) w) ∧
    (Region.wanted o (yielded ops (actAt ops md a0 vals k).tmps) = false → vals k = undef)
/-- Where a region stands: L has come; the next mover is n. -/
structure At (P : Program) (ops : Array Oper) (md : Region.Mode) (ms us : List Nat) (S : World → Prop) (Q : Act → World → Prop) (a0 : Act) (L : Nat → Prop) (vals : Nat → Value) (w : World) (n : Nat) : Prop where
  lt : ∀ j, L j → j < ops.size
  down : Down md ops L
  next : n ≤ ops.size ∧ (n < ops.size → n ∈ ms)
  none : ∀ m ∈ ms, m < n → L m
  far : ∀ m ∈ ms, n ≤ m → ¬ L m
  rv : ∀ k, k < n → k ∉ ms → RV P ops md us S a0 L vals w k
  rvu : ∀ k, L k → k ∈ us → RV P ops md us S a0 L vals w k
  st : S w
  text : wpSeq P ops ms us S Q n (ops.toList.drop n) (putTo ops a0 vals (fun _ => True) n) w

theorem rv_congr (ok : FreeOk md ops) {M : Nat → Prop} {w' : World} {k : Nat} (hk : vals k = vals' k) (hE : ∀ j, Edge' md ops k j → vals j = vals' j) (hL : k ∉ us → ¬ M k → ¬ L k ∧ w' = w) (h : RV P ops md us S a0 L vals w k) : RV P ops md us S a0 M vals' w' k := by
  intro o ho
  have e : actAt ops md a0 vals k = actAt ops md a0 vals' k := putTo_congr _ (fun _ _ => Iff.rfl) (fun j _ hj => hE j hj)
  obtain ⟨h1, h2, h3⟩ := h o ho
  rw [e, hk] at h1 h2 h3
  refine ⟨h1, fun a b c => ?_, h3⟩
  obtain ⟨d, rfl⟩ := hL b c
  exact h2 a b d

/-- On to the next mover. -/
theorem seq_advance (ok : FreeOk md ops) (hL : Down md ops L) (hS : S w) {Q : Act → World → Prop} : ∀ (m p : Nat) (vals : Nat → Value), ops.size - p = m → p ≤ ops.size → (∀ j, L j → j ∈ us ∨ j < p) → (∀ j, L j → p ≤ j → j ∉ ms) →
    (∀ k, L k → k ∈ us → RV P ops md us S a0 L vals w k) → wpSeq P ops ms us S Q p (ops.toList.drop p) (putTo ops a0 vals (fun _ => True) p) w →
    ∃ n vals', p ≤ n ∧ n ≤ ops.size ∧ (n < ops.size → n ∈ ms) ∧ (∀ k, p ≤ k → k < n → k ∉ ms ∧ RV P ops md us S a0 L vals' w k) ∧ (∀ k, L k ∨ k < p → vals k = vals' k) ∧
      wpSeq P ops ms us S Q n (ops.toList.drop n) (putTo ops a0 vals' (fun _ => True) n) w := by
  intro m
  induction m with
  | zero =>
    intro p vals hm hp _ _ _ ht
    exact ⟨p, vals, Nat.le_refl _, hp, fun h => by omega, fun k h1 h2 => by omega, fun _ _ => rfl, ht⟩
  | succ m ih =>
    intro p vals hm hp hU hF hR ht
    by_cases hpm : p ∈ ms
    · exact ⟨p, vals, Nat.le_refl _, hp, fun _ => hpm, fun k h1 h2 => by omega, fun _ _ => rfl, ht⟩
    · obtain ⟨o, ho⟩ : ∃ o, ops[p]? = some o := ⟨_, Array.getElem?_eq_getElem (by omega)⟩
      have hdrop : ops.toList.drop p = o :: ops.toList.drop (p + 1) := by
        rw [List.drop_eq_getElem_cons (by simp; omega)]
        congr 1
        have := (Array.getElem?_eq_some_iff.1 ho).2
        simpa using this
      have hag := text_agree (a0 := a0) (vals := vals) ok ho
      have hdst : dstOf ops p = o.dst := by simp [dstOf, ho]
      rw [hdrop] at ht
      simp only [wpSeq] at ht
      rw [wanted_agree hag, exec_agree (ok.sel p o · · ho) hag] at ht
      -- the value
      obtain ⟨v, hv, hLv, ht'⟩ : ∃ v, ((Region.wanted o (yielded ops (actAt ops md a0 vals p).tmps) = true → p ∈ us → ∀ x, S x → (execOp (actAt ops md a0 vals p).eval o).run P x = .ok (.value v) x) ∧
          (Region.wanted o (yielded ops (actAt ops md a0 vals p).tmps) = true → p ∉ us → ¬ L p → (execOp (actAt ops md a0 vals p).eval o).run P w = .ok (.value v) w) ∧
          (Region.wanted o (yielded ops (actAt ops md a0 vals p).tmps) = false → v = undef)) ∧ (L p → v = vals p) ∧ wpSeq P ops ms us S Q (p + 1) (ops.toList.drop (p + 1)) ((putTo ops a0 vals (fun _ => True) p).put o.dst v) w := by
        by_cases hw : Region.wanted o (yielded ops (actAt ops md a0 vals p).tmps) = true
        · rw [if_pos hw, if_neg hpm] at ht
          by_cases hu : p ∈ us
          · rw [if_pos hu] at ht
            obtain ⟨v, h1, h2⟩ := ht
            refine ⟨v, ⟨fun _ _ => h1, fun _ h => absurd hu h, fun h => by rw [hw] at h; cases h⟩, fun hLp => ?_, h2⟩
            have := ((hR p hLp hu) o ho).1 hw hu w hS
            rw [h1 w hS] at this
            injection this with this
            injection this
          · rw [if_neg hu] at ht
            obtain ⟨v, h1, h2⟩ := ht
            refine ⟨v, ⟨fun _ h => absurd h hu, fun _ _ _ => h1, fun h => by rw [hw] at h; cases h⟩, fun hLp => ?_, h2⟩
            rcases hU p hLp with h | h
            · exact absurd h hu
            · omega
        · rw [if_neg hw] at ht
          have hw' : Region.wanted o (yielded ops (actAt ops md a0 vals p).tmps) = false := by simpa using hw
          refine ⟨undef, ⟨fun h => absurd h hw, fun h => absurd h hw, fun _ => rfl⟩, fun hLp => ?_, ht⟩
          rcases hU p hLp with h | h
          · exact (((hR p hLp h) o ho).2.2 hw').symm
          · omega
      have hun : ∀ k, L k ∨ k < p → vals k = upd vals p v k := fun k hk => by
        by_cases e : k = p
        · subst e
          rw [upd_at]
          rcases hk with hk | hk
          · exact (hLv hk).symm
          · omega
        · exact (upd_ne v e).symm
      have hp1 : wpSeq P ops ms us S Q (p + 1) (ops.toList.drop (p + 1)) (putTo ops a0 (upd vals p v) (fun _ => True) (p + 1)) w := by
        rw [putTo_yes (L := fun _ => True) trivial, hdst, upd_at, ← putTo_congr (M := fun _ => True) (L := fun _ => True) (vals := vals) p (fun _ _ => Iff.rfl) (fun j hj _ => hun j (.inr hj))]
        exact ht'
      have hact : actAt ops md a0 vals p = actAt ops md a0 (upd vals p v) p := putTo_congr _ (fun _ _ => Iff.rfl) (fun j _ hj => hun j (.inr (ok.before _ _ hj)))
      have hRp : RV P ops md us S a0 L (upd vals p v) w p := fun o' ho' => by
        rw [ho] at ho'
        injection ho' with ho'
        subst ho'
        rw [← hact, upd_at]
        exact hv
      have hR1 : ∀ k, L k → k ∈ us → RV P ops md us S a0 L (upd vals p v) w k := fun k hk hu => rv_congr ok (hun k (.inl hk)) (fun j hj => hun j (.inl (hL k j hk hj))) (fun _ h => ⟨h, rfl⟩) (hR k hk hu)
      obtain ⟨n, vals', h1, h2, h3, h4, h5, h6⟩ := ih (p + 1) (upd vals p v) (by omega) (by omega) (fun j hj => (hU j hj).imp id (by omega)) (fun j hj hpj => hF j hj (by omega)) hR1 hp1
      refine ⟨n, vals', by omega, h2, h3, fun k hk1 hk2 => ?_, fun k hk => (hun k hk).trans (h5 k (hk.imp id (by omega))), h6⟩
      by_cases e : k = p
      · subst e
        exact ⟨hpm, rv_congr ok (h5 k (.inr (by omega))) (fun j hj => h5 j (.inr (by have := ok.before _ _ hj; omega))) (fun _ h => ⟨h, rfl⟩) hRp⟩
      · exact h4 k (by omega) hk2

theorem At.begin (ok : FreeOk md ops) {Q : Act → World → Prop} (hS : S w) (h : wpSeq P ops ms us S Q 0 ops.toList a0 w) : ∃ vals n, At P ops md ms us S Q a0 (fun _ => False) vals w n := by
  obtain ⟨n, vals, h1, h2, h3, h4, _, h6⟩ := seq_advance (L := fun _ => False) (md := md) ok (fun _ _ h => h.elim) hS ops.size 0 (fun _ => undef) (by omega) (Nat.zero_le _) (fun _ h => h.elim) (fun _ h => h.elim) (fun _ h => h.elim) (by simpa [putTo] using h)
  exact ⟨vals, n, fun _ h => h.elim, fun _ _ h => h.elim, ⟨h2, h3⟩, fun m hm hlt => absurd hm (h4 m (Nat.zero_le _) hlt).1, fun _ _ _ h => h, fun k hk _ => (h4 k (Nat.zero_le _) hk).2, fun _ h => h.elim, hS, h6⟩

theorem down_add (hL : Down md ops L) {i : Nat} (hE : ∀ j, Edge' md ops i j → L j) : Down md ops (fun j => L j ∨ j = i) := fun k j hk hj => by
  rcases hk with hk | rfl
  · exact .inl (hL k j hk hj)
  · exact .inl (hE j hj)

/-- On to the operation i, in the order of the text, by whatever the movers may leave. -/
theorem seq_reach (ok : FreeOk md ops) (hL : Down md ops L) {Q : Act → World → Prop} {i : Nat} (hi : i < ops.size) : ∀ (m p : Nat) (vals : Nat → Value) (w : World), S w → i - p = m → p ≤ i → (∀ j, L j → j ∈ us ∨ j < p) → (∀ j, L j → p ≤ j → j ∉ ms) →
    (∀ k, L k → k ∈ us → RV P ops md us S a0 L vals w k) → wpSeq P ops ms us S Q p (ops.toList.drop p) (putTo ops a0 vals (fun _ => True) p) w →
    ∃ vals' w', (∀ k, L k → vals k = vals' k) ∧ wpSeq P ops ms us S Q i (ops.toList.drop i) (putTo ops a0 vals' (fun _ => True) i) w' := by
  intro m
  induction m with
  | zero =>
    intro p vals w _ hm hp _ _ _ ht
    obtain rfl : p = i := by omega
    exact ⟨vals, w, fun _ _ => rfl, ht⟩
  | succ m ih =>
    intro p vals w hS hm hp hU hF hR ht
    obtain ⟨o, ho⟩ : ∃ o, ops[p]? = some o := ⟨_, Array.getElem?_eq_getElem (by omega)⟩
    have hdrop : ops.toList.drop p = o :: ops.toList.drop (p + 1) := by
      rw [List.drop_eq_getElem_cons (by simp; omega)]
      congr 1
      have := (Array.getElem?_eq_some_iff.1 ho).2
      simpa using this
    have hag := text_agree (a0 := a0) (vals := vals) ok ho
    have hdst : dstOf ops p = o.dst := by simp [dstOf, ho]
    rw [hdrop] at ht
    simp only [wpSeq] at ht
    rw [wanted_agree hag, exec_agree (ok.sel p o · · ho) hag] at ht
    obtain ⟨v, w', hS', hLv, ht'⟩ : ∃ v w', S w' ∧ (L p → v = vals p) ∧ wpSeq P ops ms us S Q (p + 1) (ops.toList.drop (p + 1)) ((putTo ops a0 vals (fun _ => True) p).put o.dst v) w' := by
      by_cases hw : Region.wanted o (yielded ops (actAt ops md a0 vals p).tmps) = true
      · rw [if_pos hw] at ht
        by_cases hpm : p ∈ ms
        · rw [if_pos hpm] at ht
          obtain ⟨v, w', hs, h⟩ := upN_some ht
          exact ⟨v, w', hs, fun hLp => absurd hpm (hF p hLp (Nat.le_refl _)), h⟩
        · rw [if_neg hpm] at ht
          by_cases hu : p ∈ us
          · rw [if_pos hu] at ht
            obtain ⟨v, h1, h2⟩ := ht
            refine ⟨v, w, hS, fun hLp => ?_, h2⟩
            have := ((hR p hLp hu) o ho).1 hw hu w hS
            rw [h1 w hS] at this
            injection this with this
            injection this
          · rw [if_neg hu] at ht
            obtain ⟨v, h1, h2⟩ := ht
            refine ⟨v, w, hS, fun hLp => ?_, h2⟩
            rcases hU p hLp with h | h
            · exact absurd h hu
            · omega
      · rw [if_neg hw] at ht
        have hw' : Region.wanted o (yielded ops (actAt ops md a0 vals p).tmps) = false := by simpa using hw
        refine ⟨undef, w, hS, fun hLp => ?_, ht⟩
        rcases hU p hLp with h | h
        · exact (((hR p hLp h) o ho).2.2 hw').symm
        · omega
    have hun : ∀ k, L k ∨ k < p → vals k = upd vals p v k := fun k hk => by
      by_cases e : k = p
      · subst e
        rw [upd_at]
        rcases hk with hk | hk
        · exact (hLv hk).symm
        · omega
      · exact (upd_ne v e).symm
    have hp1 : wpSeq P ops ms us S Q (p + 1) (ops.toList.drop (p + 1)) (putTo ops a0 (upd vals p v) (fun _ => True) (p + 1)) w' := by
      rw [putTo_yes (L := fun _ => True) trivial, hdst, upd_at, ← putTo_congr (M := fun _ => True) (L := fun _ => True) (vals := vals) p (fun _ _ => Iff.rfl) (fun j hj _ => hun j (.inr hj))]
      exact ht'
    have hR1 : ∀ k, L k → k ∈ us → RV P ops md us S a0 L (upd vals p v) w' k := fun k hk hu => rv_congr ok (hun k (.inl hk)) (fun j hj => hun j (.inl (hL k j hk hj))) (fun h => absurd hu h) (hR k hk hu)
    obtain ⟨vals', w2, h1, h2⟩ := ih (p + 1) (upd vals p v) w' hS' (by omega) (by omega) (fun j hj => (hU j hj).imp id (by omega)) (fun j hj hpj => hF j hj (by omega)) hR1 hp1
    exact ⟨vals', w2, fun k hk => (hun k (.inl hk)).trans (h1 k hk), h2⟩

theorem At.inU (ok : FreeOk md ops) (so : SeqOk md ops ms us) {Q : Act → World → Prop} {n : Nat} (h : At P ops md ms us S Q a0 L vals w n) (j : Nat) (hj : L j) : j ∈ us ∨ j < n := by
  by_cases hu : j ∈ us
  · exact .inl hu
  · refine .inr (Nat.lt_of_not_le fun hle => ?_)
    have hjs := h.lt j hj
    have hn := h.next.2 (by omega)
    by_cases e : j = n
    · subst e; exact h.far j hn (Nat.le_refl _) hj
    · exact h.far n hn (Nat.le_refl _) (waits_in ok h.down j (fun i hi => h.down j i hj hi) (so.post n hn j hjs hu (by omega)))

/-- One operation has come. -/
theorem At.step (ok : FreeOk md ops) (so : SeqOk md ops ms us) {Q : Act → World → Prop} {n i : Nat} {o : Oper} (h : At P ops md ms us S Q a0 L vals w n) (ho : ops[i]? = some o) (hE : ∀ j, Edge' md ops i j → L j) (hi : ¬ L i) :
    (Region.wanted o (yielded ops (actAt ops md a0 vals i).tmps) = true → upN P (fun v w' => ∃ vals' n', (∀ j, L j ∨ j = i → upd vals i v j = vals' j) ∧ At P ops md ms us S Q a0 (fun j => L j ∨ j = i) vals' w' n') ((execOp (actAt ops md a0 vals i).eval o).run P w)) ∧
    (Region.wanted o (yielded ops (actAt ops md a0 vals i).tmps) = false → ∃ vals' n', (∀ j, L j ∨ j = i → upd vals i undef j = vals' j) ∧ At P ops md ms us S Q a0 (fun j => L j ∨ j = i) vals' w n') := by
  have his : i < ops.size := (Array.getElem?_eq_some_iff.1 ho).1
  have hD := down_add h.down hE
  have hlt : ∀ j, L j ∨ j = i → j < ops.size := fun j hj => by
    rcases hj with hj | rfl
    · exact h.lt j hj
    · exact his
  by_cases him : i ∈ ms
  · -- a mover
    have hin : i = n := by
      rcases Nat.lt_trichotomy i n with hl | he | hg
      · exact absurd (h.none i him hl) hi
      · exact he
      · have hn := h.next.2 (by omega)
        exact absurd (waits_in ok h.down i hE (so.post n hn i his (so.far i him) hg)) (h.far n hn (Nat.le_refl _))
    subst hin
    have hpre : ∀ k, k < i → k ∉ us → L k := fun k hk hu => waits_in ok h.down i hE (so.pre i him k hu hk)
    have hdrop : ops.toList.drop i = o :: ops.toList.drop (i + 1) := by
      rw [List.drop_eq_getElem_cons (by simpa using his)]
      congr 1
      have := (Array.getElem?_eq_some_iff.1 ho).2
      simpa using this
    have hag := text_agree (a0 := a0) (vals := vals) ok ho
    have hdst : dstOf ops i = o.dst := by simp [dstOf, ho]
    have ht := h.text
    rw [hdrop] at ht
    simp only [wpSeq] at ht
    rw [wanted_agree hag, exec_agree (ok.sel i o · · ho) hag] at ht
    have fin : ∀ v w', S w' ∧ wpSeq P ops ms us S Q (i + 1) (ops.toList.drop (i + 1)) ((putTo ops a0 vals (fun _ => True) i).put o.dst v) w' →
        ∃ vals' n', (∀ j, L j ∨ j = i → upd vals i v j = vals' j) ∧ At P ops md ms us S Q a0 (fun j => L j ∨ j = i) vals' w' n' := by
      rintro v w' ⟨hS', ht'⟩
      have hun : ∀ k, k ≠ i → vals k = upd vals i v k := fun k hk => (upd_ne v hk).symm
      have hp1 : wpSeq P ops ms us S Q (i + 1) (ops.toList.drop (i + 1)) (putTo ops a0 (upd vals i v) (fun _ => True) (i + 1)) w' := by
        rw [putTo_yes (L := fun _ => True) trivial, hdst, upd_at, ← putTo_congr (M := fun _ => True) (L := fun _ => True) (vals := vals) i (fun _ _ => Iff.rfl) (fun j hj _ => hun j (by omega))]
        exact ht'
      have hRu : ∀ k, L k → k ∈ us → RV P ops md us S a0 (fun j => L j ∨ j = i) (upd vals i v) w' k := fun k hk hu =>
        rv_congr ok (hun k (by rintro rfl; exact hi hk)) (fun j hj => hun j (by rintro rfl; exact hi (h.down k j hk hj))) (fun hu' => absurd hu hu') (h.rvu k hk hu)
      obtain ⟨n', vals', h1, h2, h3, h4, h5, h6⟩ := seq_advance (ms := ms) (Q := Q) ok hD hS' (ops.size - (i + 1)) (i + 1) (upd vals i v) rfl (by omega) (fun j hj => by
          rcases hj with hj | rfl
          · exact (h.inU ok so j hj).imp id (by omega)
          · exact .inr (by omega)) (fun j hj hlj => by
          rcases hj with hj | rfl
          · exact fun hm => h.far j hm (by omega) hj
          · omega) (fun k hk hu => by
          rcases hk with hk | rfl
          · exact hRu k hk hu
          · exact absurd hu (so.far k him)) hp1
      refine ⟨vals', n', fun j hj => h5 j (.inl hj), hlt, hD, ⟨h2, h3⟩, fun m hm hlm => ?_, fun m hm hle hLm => ?_, fun k hk hkm => ?_, fun k hk hu => ?_, hS', h6⟩
      · by_cases c : m < i
        · exact .inl (h.none m hm c)
        · by_cases e : m = i
          · exact .inr e
          · exact absurd hm (h4 m (by omega) hlm).1
      · rcases hLm with hLm | rfl
        · exact h.far m hm (by omega) hLm
        · omega
      · by_cases c : k < i
        · refine rv_congr ok ((hun k (by omega)).trans (h5 k (.inr (by omega)))) (fun j hj => ?_) (fun hu hL' => absurd (.inl (hpre k c hu)) hL') (h.rv k c hkm)
          have := ok.before _ _ hj
          exact (hun j (by omega)).trans (h5 j (.inr (by omega)))
        · exact (h4 k (by
            by_cases e : k = i
            · subst e; exact absurd him hkm
            · omega) hk).2
      · rcases hk with hk | rfl
        · exact rv_congr ok (h5 k (.inl (.inl hk))) (fun j hj => h5 j (.inl (.inl (h.down k j hk hj)))) (fun hu' => absurd hu hu') (hRu k hk hu)
        · exact absurd hu (so.far k him)
    refine ⟨fun hw => ?_, fun hw => ?_⟩
    · rw [if_pos hw, if_pos him] at ht
      exact upN_mono (fun v w' hh => fin v w' hh) ht
    · rw [if_neg (by rw [hw]; simp)] at ht
      exact fin undef w ⟨h.st, ht⟩
  · -- it reads
    have fin : ∀ v, (i < n → v = vals i) → RV P ops md us S a0 (fun j => L j ∨ j = i) (upd vals i v) w i → (n ≤ i → i ∈ us) → ∃ vals' n', (∀ j, L j ∨ j = i → upd vals i v j = vals' j) ∧ At P ops md ms us S Q a0 (fun j => L j ∨ j = i) vals' w n' := by
      intro v hv hR hu0
      have hun : ∀ k, k < n ∨ k ≠ i → vals k = upd vals i v k := fun k hk => by
        by_cases e : k = i
        · subst e
          rw [upd_at]
          rcases hk with hk | hk
          · exact (hv hk).symm
          · exact absurd rfl hk
        · exact (upd_ne v e).symm
      refine ⟨upd vals i v, n, fun _ _ => rfl, hlt, hD, h.next, fun m hm hlm => .inl (h.none m hm hlm), fun m hm hle hLm => ?_, fun k hk hkm => ?_, fun k hk hu => ?_, h.st, ?_⟩
      · rcases hLm with hLm | rfl
        · exact h.far m hm hle hLm
        · exact him hm
      · by_cases e : k = i
        · subst e; exact hR
        · refine rv_congr ok (hun k (.inl hk)) (fun j hj => hun j (.inl ?_)) (fun _ hL' => ⟨fun hh => hL' (.inl hh), rfl⟩) (h.rv k hk hkm)
          have := ok.before _ _ hj
          omega
      · rcases hk with hk | rfl
        · exact rv_congr ok (hun k (.inr (by rintro rfl; exact hi hk))) (fun j hj => hun j (.inr (by rintro rfl; exact hi (h.down k j hk hj)))) (fun hu' => absurd hu hu') (h.rvu k hk hu)
        · exact hR
      · rw [← putTo_congr (M := fun _ => True) (L := fun _ => True) (vals := vals) n (fun _ _ => Iff.rfl) (fun j hj _ => hun j (.inl hj))]
        exact h.text
    have hactu : ∀ v, actAt ops md a0 (upd vals i v) i = actAt ops md a0 vals i := fun v => (putTo_congr _ (fun _ _ => Iff.rfl) (fun j _ hj => (upd_ne v (by rintro rfl; exact hi (hE j hj))).symm)).symm
    by_cases hin : i < n
    · have hR := h.rv i hin him
      have hR' : RV P ops md us S a0 (fun j => L j ∨ j = i) (upd vals i (vals i)) w i := fun o' ho' => by
        rw [hactu, upd_at]
        obtain ⟨h1, h2, h3⟩ := hR o' ho'
        exact ⟨h1, fun a b c => absurd (.inr rfl) c, h3⟩
      obtain ⟨h1, h2, h3⟩ := hR o ho
      refine ⟨fun hw => ?_, fun hw => ?_⟩
      · have hrun : (execOp (actAt ops md a0 vals i).eval o).run P w = .ok (.value (vals i)) w := by
          by_cases hu : i ∈ us
          · exact h1 hw hu w h.st
          · exact h2 hw hu hi
        rw [hrun]
        exact fin (vals i) (fun _ => rfl) hR' (fun h => by omega)
      · have := fin (vals i) (fun _ => rfl) hR' (fun h => by omega)
        rw [h3 hw] at this
        exact this
    · have hn := h.next.2 (by omega)
      have hni : n < i := by
        rcases Nat.lt_or_ge n i with h1 | h1
        · exact h1
        · have : i = n := by omega
          subst this
          exact absurd hn him
      have hu : i ∈ us := by
        by_cases hu : i ∈ us
        · exact hu
        · exact absurd (waits_in ok h.down i hE (so.post n hn i his hu hni)) (h.far n hn (Nat.le_refl _))
      obtain ⟨vals', w', e1, e2⟩ := seq_reach (L := L) (ms := ms) ok h.down his (i - n) n vals w h.st rfl (by omega) (fun j hj => h.inU ok so j hj) (fun j hj hle hm => h.far j hm hle hj) h.rvu h.text
      have hdrop : ops.toList.drop i = o :: ops.toList.drop (i + 1) := by
        rw [List.drop_eq_getElem_cons (by simpa using his)]
        congr 1
        have := (Array.getElem?_eq_some_iff.1 ho).2
        simpa using this
      have hag := text_agree (a0 := a0) (vals := vals') ok ho
      have hact : actAt ops md a0 vals' i = actAt ops md a0 vals i := (putTo_congr _ (fun _ _ => Iff.rfl) (fun j _ hj => (e1 j (hE j hj)))).symm
      rw [hdrop] at e2
      simp only [wpSeq] at e2
      rw [wanted_agree hag, exec_agree (ok.sel i o · · ho) hag, hact] at e2
      refine ⟨fun hw => ?_, fun hw => ?_⟩
      · rw [if_pos hw, if_neg him, if_pos hu] at e2
        obtain ⟨v, hv, _⟩ := e2
        rw [hv w h.st]
        refine fin v (fun hh => absurd hh hin) (fun o' ho' => ?_) (fun _ => hu)
        rw [ho] at ho'
        injection ho' with ho'
        subst ho'
        rw [hactu, upd_at]
        exact ⟨fun _ _ => hv, fun _ hh => absurd hu hh, fun hh => by rw [hw] at hh; cases hh⟩
      · refine fin undef (fun hh => absurd hh hin) (fun o' ho' => ?_) (fun _ => hu)
        rw [ho] at ho'
        injection ho' with ho'
        subst ho'
        rw [hactu, upd_at]
        exact ⟨(fun hh => by rw [hw] at hh; cases hh), (fun hh => by rw [hw] at hh; cases hh), fun _ => rfl⟩

theorem seq_any (ok : FreeOk md ops) (so : SeqOk md ops ms us) {Q : Act → World → Prop} {Q' : Exit → Act → World → Prop} (hQ : ∀ a w, Q a w → Q' .normal a w) : ∀ (fuel : Nat) (listed : Array Bool) (vals : Nat → Value) (w : World) (n : Nat) (U : List Nat), listed.size = ops.size → U.length ≤ fuel → (∀ j, j < ops.size → listed.getD j false = false → j ∈ U) →
      At P ops md ms us S Q a0 (fun j => listed.getD j false = true) vals w n → wpAny P md ops Q' fuel listed (putTo ops a0 vals (fun j => listed.getD j false = true) ops.size) w := by
  intro fuel
  have hall : ∀ (listed : Array Bool) (vals : Nat → Value) (w : World) (n : Nat), (∀ j, j < ops.size → listed.getD j false = true) → At P ops md ms us S Q a0 (fun j => listed.getD j false = true) vals w n → Q' .normal (putTo ops a0 vals (fun j => listed.getD j false = true) ops.size) w := by
    intro listed vals w n h1 hA
    have hn : n = ops.size := by
      rcases Nat.lt_or_ge n ops.size with h2 | h2
      · exact absurd (h1 n h2) (hA.far n (hA.next.2 h2) (Nat.le_refl _))
      · have := hA.next.1; omega
    subst hn
    have ht := hA.text
    rw [List.drop_eq_nil_of_le (by simp)] at ht
    simp only [wpSeq] at ht
    rw [putTo_congr (M := fun _ => True) (vals' := vals) ops.size (fun j hj => ⟨fun _ => trivial, fun _ => h1 j hj⟩) (fun _ _ _ => rfl)]
    exact hQ _ _ ht
  have hnone : ∀ (listed : Array Bool), listed.size = ops.size → (∀ j, j < ops.size → listed.getD j false = true) → Region.ready md ops listed = [] := by
    intro listed hsz h1
    refine List.eq_nil_iff_forall_not_mem.2 fun j hj => ?_
    obtain ⟨h2, o, ho, _⟩ := mem_ready.1 hj
    have hjn := (Array.getElem?_eq_some_iff.1 ho).1
    have h3 := h1 j hjn
    simp [hsz, hjn] at h2 h3
    rw [h2] at h3; cases h3
  have hfull : ∀ (listed : Array Bool), listed.size = ops.size → Region.ready md ops listed = [] → ∀ j, j < ops.size → listed.getD j false = true := by
    intro listed hsz hnil j
    induction j using Nat.strongRecOn with
    | ind j ih =>
      intro hj
      cases hjl : listed.getD j false with
      | true => rfl
      | false =>
        exfalso
        obtain ⟨o, ho⟩ : ∃ o, ops[j]? = some o := ⟨_, Array.getElem?_eq_getElem hj⟩
        have : j ∈ Region.ready md ops listed := mem_ready.2 ⟨by simp [hsz, hj] at hjl ⊢; exact hjl, o, ho, fun e he hb => by
          have := ok.before j e.on ⟨o, e, ho, he, hb, rfl⟩
          exact ih e.on this (by omega)⟩
        rw [hnil] at this
        cases this
  induction fuel with
  | zero =>
    intro listed vals w n U hsz hU hin hA
    have h1 : ∀ j, j < ops.size → listed.getD j false = true := fun j hj => by
      cases hjl : listed.getD j false with
      | true => rfl
      | false =>
        have := hin j hj hjl
        rw [List.eq_nil_of_length_eq_zero (by omega : U.length = 0)] at this
        cases this
    exact ⟨hnone listed hsz h1, hall listed vals w n h1 hA⟩
  | succ fuel ih =>
    intro listed vals w n U hsz hU hin hA
    refine ⟨fun hnil => hall listed vals w n (hfull listed hsz hnil) hA, fun i hi => ?_⟩
    obtain ⟨hi0, o, ho, hde⟩ := mem_ready.1 hi
    have hin' : i < ops.size := (Array.getElem?_eq_some_iff.1 ho).1
    have hi1 : listed.getD i false = false := by simp [hsz, hin'] at hi0 ⊢; exact hi0
    have hE : ∀ j, Edge' md ops i j → listed.getD j false = true := by
      rintro j ⟨o', e, ho', he, hb, rfl⟩
      rw [ho] at ho'
      injection ho' with ho'
      subst ho'
      exact hde e he hb
    have hnot : ¬ listed.getD i false = true := by rw [hi1]; simp
    have hs := hA.step ok so ho hE hnot
    have hag : AgreeOn (o.looksAt ops) (putTo ops a0 vals (fun j => listed.getD j false = true) ops.size) (actAt ops md a0 vals i) :=
      looks_agree ok ho (fun j hj => ⟨hE j hj, by have := ok.before _ _ hj; omega⟩) (fun j hj h => hnot (hA.down j i h.1 hj))
    have hdst : dstOf ops i = o.dst := by simp [dstOf, ho]
    have next : ∀ v w', (∃ vals' n', (∀ j, listed.getD j false = true ∨ j = i → upd vals i v j = vals' j) ∧ At P ops md ms us S Q a0 (fun j => listed.getD j false = true ∨ j = i) vals' w' n') → wpAny P md ops Q' fuel (listed.setIfInBounds i true) ((putTo ops a0 vals (fun j => listed.getD j false = true) ops.size).put o.dst v) w' := by
      rintro v w' ⟨vals', n', hag', hA'⟩
      have hset : ∀ j, (listed.setIfInBounds i true).getD j false = true ↔ (listed.getD j false = true ∨ j = i) := fun j => by
        by_cases e : j = i
        · subst e; simp [hsz, hin']
        · rw [getD_set_ne false (fun h => e h.symm)]; simp [e]
      have hfun : (fun j => (listed.setIfInBounds i true).getD j false = true) = (fun j => listed.getD j false = true ∨ j = i) := by
        funext j; exact propext (hset j)
      rw [← hdst, putTo_add ok.distinct hnot ops.size hin', putTo_congr (M := fun j => listed.getD j false = true ∨ j = i) (vals' := vals') ops.size (fun _ _ => Iff.rfl) (fun j _ hj => hag' j hj), ← hfun]
      refine ih (listed.setIfInBounds i true) vals' w' n' (U.erase i) (by simp [hsz]) ?_ ?_ ?_
      · have := List.length_erase_of_mem (hin i hin' hi1)
        have := List.length_pos_of_mem (hin i hin' hi1)
        omega
      · intro j hj hjl
        have hne : j ≠ i := by
          rintro rfl
          have := (hset j).2 (.inr rfl)
          rw [this] at hjl; cases hjl
        rw [getD_set_ne false (fun h => hne h.symm)] at hjl
        exact (List.mem_erase_of_ne hne).2 (hin j hj hjl)
      · rw [hfun]
        exact hA'
    unfold wpOp
    simp only [ho]
    rw [wanted_agree hag]
    split
    · rename_i hwt
      refine .inl ?_
      unfold Oper.wp
      rw [exec_agree (ok.sel i o · · ho) hag]
      exact upN_upon (fun v w' hst' => next v w' hst') (hs.1 hwt)
    · rename_i hwt
      exact next undef w (hs.2 (by simpa using hwt))

/-- One walk in the order of the text, world by world, serves every order. -/
theorem wp_region_seqS (S : World → Prop) {id : Nat} {Q : Exit → Act → World → Prop} {a : Act} {w : World} {l : List Oper} (ms us : List Nat) (hm : P.follows .mixedOrders = true) (hB : freeB .any l.toArray = true) (hS : seqB l.toArray ms us .any = true)
    (hw : S w.drew) (h : wpSeq P l.toArray ms us S (fun a' w' => Q .normal a' w') 0 l a w.drew) : (Code.region id l.toArray true).wp P Q a w := by
  refine wp_region_any hm ?_
  obtain ⟨vals, n, hA⟩ := At.begin (P := P) (ops := l.toArray) (md := .any) (ms := ms) (us := us) (S := S) (a0 := a) (freeOk hB) (Q := fun a' w' => Q .normal a' w') hw (by simpa using h)
  have no : ∀ j, ¬ (Array.replicate l.toArray.size false).getD j false = true := fun j hj => by rw [rep_false] at hj; cases hj
  have hfun : (fun j => (Array.replicate l.toArray.size false).getD j false = true) = (fun _ => False) := by funext j; exact propext ⟨fun h => (no j h).elim, fun h => h.elim⟩
  have h1 := seq_any (a0 := a) (freeOk hB) (seqOk hS) (Q' := Q) (fun _ _ h => h) l.toArray.size (Array.replicate l.toArray.size false) vals w.drew n (List.range l.toArray.size) (by simp) (by simp) (fun j hj _ => List.mem_range.2 hj) (by rw [hfun]; exact hA)
  have e : putTo l.toArray a vals (fun j => (Array.replicate l.toArray.size false).getD j false = true) l.toArray.size = a := by
    have : ∀ k, putTo l.toArray a vals (fun j => (Array.replicate l.toArray.size false).getD j false = true) k = a := by
      intro k
      induction k with
      | zero => rfl
      | succ k ih => rw [putTo_no (no k), ih]
    exact this _
  rw [e] at h1
  exact h1

theorem wp_region_seq {id : Nat} {Q : Exit → Act → World → Prop} {a : Act} {w : World} {l : List Oper} (ms us : List Nat) (hm : P.follows .mixedOrders = true) (hB : freeB .any l.toArray = true) (hS : seqB l.toArray ms us .any = true)
    (h : wpSeq P l.toArray ms us (fun _ => True) (fun a' w' => Q .normal a' w') 0 l a w.drew) : (Code.region id l.toArray true).wp P Q a w := wp_region_seqS _ ms us hm hB hS trivial h

/-! ### The steps of the walk -/
variable {Q : Act → World → Prop} {k : Nat} {o : Oper} {rest : List Oper} {a : Act}
theorem seq_step (hk : k ∉ ms) (hu : k ∉ us)
    (h : ∀ K : Act → World → Prop, (∀ a w, wpSeq P ops ms us S Q (k + 1) rest a w → K a w) → if Region.wanted o (yielded ops a.tmps) = true then ∃ v, (execOp a.eval o).run P w = .ok (.value v) w ∧ K (a.put o.dst v) w else K (a.put o.dst undef) w) : wpSeq P ops ms us S Q k (o :: rest) a w := by
  have h' := h _ (fun _ _ h => h)
  simp only [wpSeq]
  split
  · rename_i hw
    rw [if_pos hw] at h'
    exact h'
  · rename_i hw
    rw [if_neg hw] at h'
    exact h'
theorem seq_free (hk : k ∉ ms) (hu : k ∈ us)
    (h : ∀ K : Act → World → Prop, (∀ a w, wpSeq P ops ms us S Q (k + 1) rest a w → K a w) → if Region.wanted o (yielded ops a.tmps) = true then ∃ v, steadyF P S o a v ∧ K (a.put o.dst v) w else K (a.put o.dst undef) w) : wpSeq P ops ms us S Q k (o :: rest) a w := by
  have h' := h _ (fun _ _ h => h)
  simp only [wpSeq]
  split
  · rename_i hw
    rw [if_pos hw] at h'
    exact h'
  · rename_i hw
    rw [if_neg hw] at h'
    exact h'
theorem seq_move (hk : k ∈ ms)
    (h : ∀ K : Act → World → Prop, (∀ a w, wpSeq P ops ms us S Q (k + 1) rest a w → K a w) → if Region.wanted o (yielded ops a.tmps) = true then upN P (fun v w' => S w' ∧ K (a.put o.dst v) w') ((execOp a.eval o).run P w) else K (a.put o.dst undef) w) : wpSeq P ops ms us S Q k (o :: rest) a w := by
  have h' := h _ (fun _ _ h => h)
  simp only [wpSeq]
  split
  · rename_i hw
    rw [if_pos hw] at h'
    exact h'
  · rename_i hw
    rw [if_neg hw] at h'
    exact h'
theorem seq_move0 (hk : k ∈ ms) (hg : o.guard = none) (h : upN P (fun v w' => S w' ∧ wpSeq P ops ms us S Q (k + 1) rest (a.put o.dst v) w') ((execOp a.eval o).run P w)) : wpSeq P ops ms us S Q k (o :: rest) a w := by
  simp only [wpSeq, Region.wanted, hg]
  first | exact h | (simp only [if_true]; rw [if_pos hk]; exact h) | (rw [if_pos hk]; exact h)
theorem up_value {N : Value → World → Prop} {v : Value} (h : N v w) : upN P N (.ok (.value v) w) := h
theorem up_skip {N : Value → World → Prop} (h : N undef w) : upN P N (.ok .skip w) := h
theorem seq_nil (h : Q a w) : wpSeq P ops ms us S Q k [] a w := h
end
end Go.Proofs.YtiddhcabpmkolaaGreatDoor
set_option linter.unusedSimpArgs false
set_option linter.unusedVariables false
namespace Go.Proofs.YtiddhcabpmkolaaGreatDoor

set_option maxRecDepth 100000
open Go

/-- What an operation yields, by what is known. -/
structure PR (P : Program) (k : Kn) (w : World) (o : Oper) (v : Value) : Prop where
  run : ∀ ρ, Fits k ρ → (execOp ρ o).run P w = .ok (.value v) w
section
variable {P : Program} {k : Kn} {w : World} {o : Oper} {v u u1 u2 : Value} {x y : Operand} {ty ty' : TypeId} {i : Nat}
theorem PR.ev (hv : evK k o.op = some v) : PR P k w o v := ⟨fun ρ hρ => evK_run hρ hv P w⟩
theorem PR.evc {op : BinOp} {c b : Bool} (ho : o.op = .binOp op ty x y ty') (hv : evK k (.binOp op ty x y ty') = some (.bool c)) (hc : c = b) : PR P k w o (.bool b) := PR.ev (by rw [ho, hv, hc])
theorem PR.ld (ho : o.op = .load ty x) (hx : knX k x = some u) (hr : (Instr.loadAt ty u).run P w = .ok v w) : PR P k w o v := ⟨fun ρ hρ => by unfold execOp; rw [ho]; simp only [hρ _ _ hx, Sem.run_bind, hr, Result.andThen_ok]; rfl⟩
theorem PR.fa (ho : o.op = .fieldAddr ty x i) (hx : knX k x = some u) (hr : (Instr.fieldAt ty u i).run P w = .ok v w) : PR P k w o v := ⟨fun ρ hρ => by unfold execOp; rw [ho]; simp only [hρ _ _ hx, Sem.run_bind, hr, Result.andThen_ok]; rfl⟩
theorem PR.ex (ho : o.op = .extract x i) (hx : knX k x = some u) (hr : (Instr.extract u i).run P w = .ok v w) : PR P k w o v := ⟨fun ρ hρ => by unfold execOp; rw [ho]; simp only [hρ _ _ hx, Sem.run_bind, hr, Result.andThen_ok]; rfl⟩
theorem PR.ia (ho : o.op = .indexAddr ty x y) (hx : knX k x = some u1) (hy : knX k y = some u2) (hr : (Instr.indexAt ty u1 u2).run P w = .ok v w) : PR P k w o v := ⟨fun ρ hρ => by unfold execOp; rw [ho]; simp only [hρ _ _ hx, hρ _ _ hy, Sem.run_bind, hr, Result.andThen_ok]; rfl⟩
theorem PR.bop {op : BinOp} (ho : o.op = .binOp op ty x y ty') (hx : knX k x = some u1) (hy : knX k y = some u2) (hr : (do eqGuard op ty x y u1 u2; binOp op ty u1 u2 : Sem Value).run P w = .ok v w) : PR P k w o v := ⟨fun ρ hρ => by
    unfold execOp; rw [ho]; simp only [hρ _ _ hx, hρ _ _ hy, Sem.run_bind] at hr ⊢
    rw [hr]; rfl⟩
theorem PR.len {ats : Array TypeId} (ho : o.op = .call { callee := .builtin .len, args := #[x], argTypes := ats }) (hx : knX k x = some u) (hr : (Builtin.len_ ats o.type #[u]).run P w = .ok v w) : PR P k w o v := ⟨fun ρ hρ => by
    have e : execOp ρ o = (do pure (Next.value (← Builtin.len_ ats o.type #[u]))) := by
      unfold execOp
      rw [ho]
      show (do let d ← resolve ρ { callee := .builtin .len, args := #[x], argTypes := ats } o.type; invoke d.target d.args) = _
      unfold resolve
      simp only [List.map_toArray, List.map_cons, List.map_nil, hρ _ _ hx]
      rfl
    rw [e, Sem.run_bind, hr]; rfl⟩
end
/-- A region that draws, walked in the order of the text. -/
structure KS (P : Program) (n : Nat) (ops : Array Oper) (ms us : List Nat) (S : World → Prop) (i : Nat) (l : List Oper) (Q : Exit → Act → World → Prop) (k : Kn) (w : World) : Prop where
  go : ∀ a, KA n k a → wpSeq P ops ms us S (fun a w => Q .normal a w) i l a w
section
variable {P : Program} {n d id i : Nat} {ops : Array Oper} {ms us : List Nat} {S : World → Prop} {o : Oper} {rest l : List Oper} {Q : Exit → Act → World → Prop} {k : Kn} {w : World} {v : Value}
theorem KW.regionS (S : World → Prop) (ms us : List Nat) (hm : P.follows .mixedOrders = true) (hB : freeB .any l.toArray = true) (hS : seqB l.toArray ms us .any = true) (hw : S w.drew) (h : KS P n l.toArray ms us S 0 l Q k w.drew) : KW P n (.region id l.toArray true) Q k w :=
  ⟨fun a ha => wp_region_seqS S ms us hm hB hS hw (h.go a ha)⟩
theorem KS.nil (h : KE n Q k w) : KS P n ops ms us S i [] Q k w := ⟨fun a ha => h.go a ha⟩
theorem KS.skip (hd : o.dst = some d) (hw : knWant ops k o = some false) (hn : Nat.blt d n = true) (h : KS P n ops ms us S (i + 1) rest Q ((d, undef) :: k) w) : KS P n ops ms us S i (o :: rest) Q k w := ⟨fun a ha => by
  simp only [wpSeq]
  rw [if_neg (by rw [knWant_ok ha hw]; exact Bool.false_ne_true), hd]
  exact h.go _ (ha.put (Nat.le_of_ble_eq_true hn))⟩
theorem KS.pr (hi : (!ms.contains i && !us.contains i) = true) (hd : o.dst = some d) (hw : knWant ops k o = some true) (hv : PR P k w o v) (hn : Nat.blt d n = true) (h : KS P n ops ms us S (i + 1) rest Q ((d, v) :: k) w) : KS P n ops ms us S i (o :: rest) Q k w := ⟨fun a ha => by
  have h1 : i ∉ ms := by simp at hi; exact hi.1
  have h2 : i ∉ us := by simp at hi; exact hi.2
  simp only [wpSeq]
  rw [if_pos (knWant_ok ha hw), if_neg h1, if_neg h2]
  refine ⟨v, hv.run _ ha.fits, ?_⟩
  rw [hd]
  exact h.go _ (ha.put (Nat.le_of_ble_eq_true hn))⟩
/-- One that no mover is ordered against. -/
theorem KS.free (hi : (!ms.contains i && us.contains i) = true) (hd : o.dst = some d) (hw : knWant ops k o = some true) (hv : ∀ x, S x → PR P k x o v) (hn : Nat.blt d n = true) (h : KS P n ops ms us S (i + 1) rest Q ((d, v) :: k) w) : KS P n ops ms us S i (o :: rest) Q k w := ⟨fun a ha => by
  have h1 : i ∉ ms := by simp at hi; exact hi.1
  have h2 : i ∈ us := by simp at hi; exact hi.2
  simp only [wpSeq]
  rw [if_pos (knWant_ok ha hw), if_neg h1, if_pos h2]
  refine ⟨v, fun x hx => (hv x hx).run _ ha.fits, ?_⟩
  rw [hd]
  exact h.go _ (ha.put (Nat.le_of_ble_eq_true hn))⟩
/-- A call. -/
theorem KS.call {f : FuncId} {xs : List Operand} {ats : Array TypeId} {args : List Value} {R : Ending → World → Prop} (hi : ms.contains i = true) (hd : o.dst = some d) (hw : knWant ops k o = some true) (ho : o.op = .call { callee := .value (.func f), args := xs.toArray, argTypes := ats }) (ha : argsK k xs = some args) (hn : Nat.blt d n = true)
    (hf : (callFunc f args.toArray).run P w = .ok (.enter f args.toArray) w) (hc : Calls P f args.toArray w R)
    (h : ∀ e w', R e w' → ∃ v, e = .returned v ∧ S w' ∧ KS P n ops ms us S (i + 1) rest Q ((d, v) :: k) w') : KS P n ops ms us S i (o :: rest) Q k w := ⟨fun a hA => by
  have h1 : i ∈ ms := by simpa using hi
  simp only [wpSeq]
  rw [if_pos (knWant_ok hA hw), if_pos h1]
  have hfn := hA.fits (.func f) _ rfl
  have e : execOp a.eval o = callFunc f (#[] ++ xs.toArray.map a.eval ++ #[]) := by
    unfold execOp
    rw [ho]
    show (do let d ← resolve a.eval { callee := .value (.func f), args := xs.toArray, argTypes := ats } o.type; invoke d.target d.args) = _
    unfold resolve
    simp only [hfn]
    rfl
  have e2 : (#[] ++ xs.toArray.map a.eval ++ #[] : Array Value) = args.toArray := by simp [argsK_map hA.fits ha]
  rw [e, e2, hf]
  refine Calls.mono hc fun e w' hR => ?_
  obtain ⟨v, rfl, hs, hk⟩ := h e w' hR
  refine ⟨v, rfl, hs, ?_⟩
  rw [hd]
  exact hk.go _ (hA.put (Nat.le_of_ble_eq_true hn))⟩
/-- A mover that turns the world: a store. -/
theorem KS.stores {w' : World} (hi : ms.contains i = true) (hd : o.dst = none) (hw : knWant ops k o = some true) (hv : ∀ ρ, Fits k ρ → (execOp ρ o).run P w = .ok .skip w') (hs : S w') (h : KS P n ops ms us S (i + 1) rest Q k w') : KS P n ops ms us S i (o :: rest) Q k w := ⟨fun a ha => by
  have h1 : i ∈ ms := by simpa using hi
  simp only [wpSeq]
  rw [if_pos (knWant_ok ha hw), if_pos h1, hv _ ha.fits, hd]
  exact ⟨hs, h.go _ ha⟩⟩
/-- A mover that makes memory. -/
theorem KS.makes {w' : World} (hi : ms.contains i = true) (hd : o.dst = some d) (hw : knWant ops k o = some true) (hn : Nat.blt d n = true) (hv : ∀ ρ, Fits k ρ → (execOp ρ o).run P w = .ok (.value v) w') (hs : S w') (h : KS P n ops ms us S (i + 1) rest Q ((d, v) :: k) w') : KS P n ops ms us S i (o :: rest) Q k w := ⟨fun a ha => by
  have h1 : i ∈ ms := by simpa using hi
  simp only [wpSeq]
  rw [if_pos (knWant_ok ha hw), if_pos h1, hv _ ha.fits, hd]
  exact ⟨hs, h.go _ (ha.put (Nat.le_of_ble_eq_true hn))⟩⟩
theorem KS.storeB {x y : Operand} {ty : TypeId} {g : Nat} {vs : Array Value} {t : TypeId} {old : Array Value} (hi : ms.contains i = true) (hd : o.dst = none) (hw : knWant ops k o = some true) (ho : o.op = .store ty x y) (hx : knX k x = some (.pointer (some ⟨g, 0, none⟩))) (hy : knX k y = some (.agg vs)) (hb : Blk w g t old) (hs : old.size = vs.size) (hz : (P.info? ty).map (·.size) = some vs.size) (h1 : vs.all (·.oneCell') = true)
    (h : ∀ w', Blk w' g t vs → Kept (· = g) w w' → S w' ∧ KS P n ops ms us S (i + 1) rest Q k w') : KS P n ops ms us S i (o :: rest) Q k w :=
  KS.stores hi hd hw (fun ρ hρ => by
    unfold execOp
    simp only [ho, hρ _ _ hx, hρ _ _ hy, Instr.storeAt, Instr.sureAddr, Sem.run_bind, Sem.run_pure, Result.andThen_ok, run_storeVar_row w g t ty old vs hb hz hs h1]) (h _ (setRow_heap w g old vs t (0, 0) hb) (setRow_kept w g vs)).1 (h _ (setRow_heap w g old vs t (0, 0) hb) (setRow_kept w g vs)).2
theorem PR.blk {P : Program} {k : Kn} {w : World} {o : Oper} {x : Operand} {ty : TypeId} {g : Nat} {t : TypeId} {cs : Array Value} {d : TypeDesc} (ho : o.op = .load ty x) (hx : knX k x = some (.pointer (some ⟨g, 0, none⟩))) (hb : Blk w g t cs) (hu : P.underlying ty = some d) (hd : (match d with | .struct _ | .array _ _ => true | _ => false) = true) (hi : (P.info? ty).map (·.size) = some cs.size) : PR P k w o (.agg cs) :=
  PR.ld ho hx (by simp [Instr.loadAt, Instr.sureAddr, loadVar_blk hb hu hd hi])
end
end Go.Proofs.YtiddhcabpmkolaaGreatDoor
set_option linter.unusedSimpArgs false
set_option linter.unusedVariables false
namespace Go.Proofs.YtiddhcabpmkolaaGreatDoor
open Go.RowKit
set_option maxRecDepth 100000
open Go

section
variable (P : Program) (ops : Array Oper) (ms us ls : List Nat) (S : World → Prop)
/-- ms: the movers; us: operations that yield one value in every world of the class S. -/
def wpLate (Q : Act → World → Prop) : Nat → List Oper → Act → World → Prop
  | _, [], a, w => Q a w
  | k, o :: rest, a, w =>
    if Region.wanted o (yielded ops a.tmps) = true then
      if k ∈ ms then upN P (fun v w' => (k ∉ ls → S w') ∧ wpLate Q (k + 1) rest (a.put o.dst v) w') ((execOp a.eval o).run P w)
      else if k ∈ us then ∃ v, (∀ x, S x → (execOp a.eval o).run P x = .ok (.value v) x) ∧ wpLate Q (k + 1) rest (a.put o.dst v) w
      else ∃ v, (execOp a.eval o).run P w = .ok (.value v) w ∧ wpLate Q (k + 1) rest (a.put o.dst v) w
    else wpLate Q (k + 1) rest (a.put o.dst undef) w
/-- The late ones come behind whatever yields one value. -/
def lateB (ls us : List Nat) (ops : Array Oper) (md : Region.Mode) : Bool := ls.all fun m => us.all fun u => (waits md ops u).contains m
end
section
variable {P : Program} {ops : Array Oper} {md : Region.Mode} {ms us ls : List Nat} {S : World → Prop} {a0 : Act} {vals vals' : Nat → Value} {L : Nat → Prop} {w : World}
def LateOk (md : Region.Mode) (ops : Array Oper) (ls us : List Nat) : Prop := ∀ m ∈ ls, ∀ u ∈ us, m ∈ waits md ops u
theorem lateOk (h : lateB ls us ops md = true) : LateOk md ops ls us := fun m hm u hu => by
  have h1 := List.all_eq_true.1 (List.all_eq_true.1 h m hm) u hu
  simpa using h1
/-- Where a region stands: L has come; the next mover is n. -/
structure AtL (P : Program) (ops : Array Oper) (md : Region.Mode) (ms us ls : List Nat) (S : World → Prop) (Q : Act → World → Prop) (a0 : Act) (L : Nat → Prop) (vals : Nat → Value) (w : World) (n : Nat) : Prop where
  lt : ∀ j, L j → j < ops.size
  down : Down md ops L
  next : n ≤ ops.size ∧ (n < ops.size → n ∈ ms)
  none : ∀ m ∈ ms, m < n → L m
  far : ∀ m ∈ ms, n ≤ m → ¬ L m
  rv : ∀ k, k < n → k ∉ ms → RV P ops md us S a0 L vals w k
  rvu : ∀ k, L k → k ∈ us → RV P ops md us S a0 L vals w k
  st : (∃ u, u ∈ us ∧ u < ops.size ∧ ¬ L u) → S w
  ex : ∃ x, S x
  text : wpLate P ops ms us ls S Q n (ops.toList.drop n) (putTo ops a0 vals (fun _ => True) n) w

/-- On to the next mover. -/
theorem late_advance (ok : FreeOk md ops) (hL : Down md ops L) (hS : ∃ x, S x) {Q : Act → World → Prop} : ∀ (m p : Nat) (vals : Nat → Value), ops.size - p = m → p ≤ ops.size → (∀ j, L j → j ∈ us ∨ j < p) → (∀ j, L j → p ≤ j → j ∉ ms) →
    (∀ k, L k → k ∈ us → RV P ops md us S a0 L vals w k) → wpLate P ops ms us ls S Q p (ops.toList.drop p) (putTo ops a0 vals (fun _ => True) p) w →
    ∃ n vals', p ≤ n ∧ n ≤ ops.size ∧ (n < ops.size → n ∈ ms) ∧ (∀ k, p ≤ k → k < n → k ∉ ms ∧ RV P ops md us S a0 L vals' w k) ∧ (∀ k, L k ∨ k < p → vals k = vals' k) ∧
      wpLate P ops ms us ls S Q n (ops.toList.drop n) (putTo ops a0 vals' (fun _ => True) n) w := by
  intro m
  induction m with
  | zero =>
    intro p vals hm hp _ _ _ ht
    exact ⟨p, vals, Nat.le_refl _, hp, fun h => by omega, fun k h1 h2 => by omega, fun _ _ => rfl, ht⟩
  | succ m ih =>
    intro p vals hm hp hU hF hR ht
    by_cases hpm : p ∈ ms
    · exact ⟨p, vals, Nat.le_refl _, hp, fun _ => hpm, fun k h1 h2 => by omega, fun _ _ => rfl, ht⟩
    · obtain ⟨o, ho⟩ : ∃ o, ops[p]? = some o := ⟨_, Array.getElem?_eq_getElem (by omega)⟩
      have hdrop : ops.toList.drop p = o :: ops.toList.drop (p + 1) := by
        rw [List.drop_eq_getElem_cons (by simp; omega)]
        congr 1
        have := (Array.getElem?_eq_some_iff.1 ho).2
        simpa using this
      have hag := text_agree (a0 := a0) (vals := vals) ok ho
      have hdst : dstOf ops p = o.dst := by simp [dstOf, ho]
      rw [hdrop] at ht
      simp only [wpLate] at ht
      rw [wanted_agree hag, exec_agree (ok.sel p o · · ho) hag] at ht
      -- the value
      obtain ⟨v, hv, hLv, ht'⟩ : ∃ v, ((Region.wanted o (yielded ops (actAt ops md a0 vals p).tmps) = true → p ∈ us → ∀ x, S x → (execOp (actAt ops md a0 vals p).eval o).run P x = .ok (.value v) x) ∧
          (Region.wanted o (yielded ops (actAt ops md a0 vals p).tmps) = true → p ∉ us → ¬ L p → (execOp (actAt ops md a0 vals p).eval o).run P w = .ok (.value v) w) ∧
          (Region.wanted o (yielded ops (actAt ops md a0 vals p).tmps) = false → v = undef)) ∧ (L p → v = vals p) ∧ wpLate P ops ms us ls S Q (p + 1) (ops.toList.drop (p + 1)) ((putTo ops a0 vals (fun _ => True) p).put o.dst v) w := by
        by_cases hw : Region.wanted o (yielded ops (actAt ops md a0 vals p).tmps) = true
        · rw [if_pos hw, if_neg hpm] at ht
          by_cases hu : p ∈ us
          · rw [if_pos hu] at ht
            obtain ⟨v, h1, h2⟩ := ht
            refine ⟨v, ⟨fun _ _ => h1, fun _ h => absurd hu h, fun h => by rw [hw] at h; cases h⟩, fun hLp => ?_, h2⟩
            obtain ⟨x, hx⟩ := hS
            have := ((hR p hLp hu) o ho).1 hw hu x hx
            rw [h1 x hx] at this
            injection this with this
            injection this
          · rw [if_neg hu] at ht
            obtain ⟨v, h1, h2⟩ := ht
            refine ⟨v, ⟨fun _ h => absurd h hu, fun _ _ _ => h1, fun h => by rw [hw] at h; cases h⟩, fun hLp => ?_, h2⟩
            rcases hU p hLp with h | h
            · exact absurd h hu
            · omega
        · rw [if_neg hw] at ht
          have hw' : Region.wanted o (yielded ops (actAt ops md a0 vals p).tmps) = false := by simpa using hw
          refine ⟨undef, ⟨fun h => absurd h hw, fun h => absurd h hw, fun _ => rfl⟩, fun hLp => ?_, ht⟩
          rcases hU p hLp with h | h
          · exact (((hR p hLp h) o ho).2.2 hw').symm
          · omega
      have hun : ∀ k, L k ∨ k < p → vals k = upd vals p v k := fun k hk => by
        by_cases e : k = p
        · subst e
          rw [upd_at]
          rcases hk with hk | hk
          · exact (hLv hk).symm
          · omega
        · exact (upd_ne v e).symm
      have hp1 : wpLate P ops ms us ls S Q (p + 1) (ops.toList.drop (p + 1)) (putTo ops a0 (upd vals p v) (fun _ => True) (p + 1)) w := by
        rw [putTo_yes (L := fun _ => True) trivial, hdst, upd_at, ← putTo_congr (M := fun _ => True) (L := fun _ => True) (vals := vals) p (fun _ _ => Iff.rfl) (fun j hj _ => hun j (.inr hj))]
        exact ht'
      have hact : actAt ops md a0 vals p = actAt ops md a0 (upd vals p v) p := putTo_congr _ (fun _ _ => Iff.rfl) (fun j _ hj => hun j (.inr (ok.before _ _ hj)))
      have hRp : RV P ops md us S a0 L (upd vals p v) w p := fun o' ho' => by
        rw [ho] at ho'
        injection ho' with ho'
        subst ho'
        rw [← hact, upd_at]
        exact hv
      have hR1 : ∀ k, L k → k ∈ us → RV P ops md us S a0 L (upd vals p v) w k := fun k hk hu => rv_congr ok (hun k (.inl hk)) (fun j hj => hun j (.inl (hL k j hk hj))) (fun _ h => ⟨h, rfl⟩) (hR k hk hu)
      obtain ⟨n, vals', h1, h2, h3, h4, h5, h6⟩ := ih (p + 1) (upd vals p v) (by omega) (by omega) (fun j hj => (hU j hj).imp id (by omega)) (fun j hj hpj => hF j hj (by omega)) hR1 hp1
      refine ⟨n, vals', by omega, h2, h3, fun k hk1 hk2 => ?_, fun k hk => (hun k hk).trans (h5 k (hk.imp id (by omega))), h6⟩
      by_cases e : k = p
      · subst e
        exact ⟨hpm, rv_congr ok (h5 k (.inr (by omega))) (fun j hj => h5 j (.inr (by have := ok.before _ _ hj; omega))) (fun _ h => ⟨h, rfl⟩) hRp⟩
      · exact h4 k (by omega) hk2

theorem AtL.begin (ok : FreeOk md ops) {Q : Act → World → Prop} (hS : S w) (h : wpLate P ops ms us ls S Q 0 ops.toList a0 w) : ∃ vals n, AtL P ops md ms us ls S Q a0 (fun _ => False) vals w n := by
  obtain ⟨n, vals, h1, h2, h3, h4, _, h6⟩ := late_advance (L := fun _ => False) (md := md) ok (fun _ _ h => h.elim) ⟨w, hS⟩ ops.size 0 (fun _ => undef) (by omega) (Nat.zero_le _) (fun _ h => h.elim) (fun _ h => h.elim) (fun _ h => h.elim) (by simpa [putTo] using h)
  exact ⟨vals, n, fun _ h => h.elim, fun _ _ h => h.elim, ⟨h2, h3⟩, fun m hm hlt => absurd hm (h4 m (Nat.zero_le _) hlt).1, fun _ _ _ h => h, fun k hk _ => (h4 k (Nat.zero_le _) hk).2, fun _ h => h.elim, fun _ => hS, ⟨w, hS⟩, h6⟩

/-- On to the operation i, in the order of the text, by whatever the movers may leave. -/
theorem late_reach (ok : FreeOk md ops) (hL : Down md ops L) (hS : ∃ x, S x) {Q : Act → World → Prop} {i : Nat} (hi : i < ops.size) : ∀ (m p : Nat) (vals : Nat → Value) (w : World), i - p = m → p ≤ i → (∀ j, L j → j ∈ us ∨ j < p) → (∀ j, L j → p ≤ j → j ∉ ms) →
    (∀ k, L k → k ∈ us → RV P ops md us S a0 L vals w k) → wpLate P ops ms us ls S Q p (ops.toList.drop p) (putTo ops a0 vals (fun _ => True) p) w →
    ∃ vals' w', (∀ k, L k → vals k = vals' k) ∧ wpLate P ops ms us ls S Q i (ops.toList.drop i) (putTo ops a0 vals' (fun _ => True) i) w' := by
  intro m
  induction m with
  | zero =>
    intro p vals w hm hp _ _ _ ht
    obtain rfl : p = i := by omega
    exact ⟨vals, w, fun _ _ => rfl, ht⟩
  | succ m ih =>
    intro p vals w hm hp hU hF hR ht
    obtain ⟨o, ho⟩ : ∃ o, ops[p]? = some o := ⟨_, Array.getElem?_eq_getElem (by omega)⟩
    have hdrop : ops.toList.drop p = o :: ops.toList.drop (p + 1) := by
      rw [List.drop_eq_getElem_cons (by simp; omega)]
      congr 1
      have := (Array.getElem?_eq_some_iff.1 ho).2
      simpa using this
    have hag := text_agree (a0 := a0) (vals := vals) ok ho
    have hdst : dstOf ops p = o.dst := by simp [dstOf, ho]
    rw [hdrop] at ht
    simp only [wpLate] at ht
    rw [wanted_agree hag, exec_agree (ok.sel p o · · ho) hag] at ht
    obtain ⟨v, w', hLv, ht'⟩ : ∃ v w', (L p → v = vals p) ∧ wpLate P ops ms us ls S Q (p + 1) (ops.toList.drop (p + 1)) ((putTo ops a0 vals (fun _ => True) p).put o.dst v) w' := by
      by_cases hw : Region.wanted o (yielded ops (actAt ops md a0 vals p).tmps) = true
      · rw [if_pos hw] at ht
        by_cases hpm : p ∈ ms
        · rw [if_pos hpm] at ht
          obtain ⟨v, w', hs, h⟩ := upN_some ht
          exact ⟨v, w', fun hLp => absurd hpm (hF p hLp (Nat.le_refl _)), h⟩
        · rw [if_neg hpm] at ht
          by_cases hu : p ∈ us
          · rw [if_pos hu] at ht
            obtain ⟨v, h1, h2⟩ := ht
            refine ⟨v, w, fun hLp => ?_, h2⟩
            obtain ⟨x, hx⟩ := hS
            have := ((hR p hLp hu) o ho).1 hw hu x hx
            rw [h1 x hx] at this
            injection this with this
            injection this
          · rw [if_neg hu] at ht
            obtain ⟨v, h1, h2⟩ := ht
            refine ⟨v, w, fun hLp => ?_, h2⟩
            rcases hU p hLp with h | h
            · exact absurd h hu
            · omega
      · rw [if_neg hw] at ht
        have hw' : Region.wanted o (yielded ops (actAt ops md a0 vals p).tmps) = false := by simpa using hw
        refine ⟨undef, w, fun hLp => ?_, ht⟩
        rcases hU p hLp with h | h
        · exact (((hR p hLp h) o ho).2.2 hw').symm
        · omega
    have hun : ∀ k, L k ∨ k < p → vals k = upd vals p v k := fun k hk => by
      by_cases e : k = p
      · subst e
        rw [upd_at]
        rcases hk with hk | hk
        · exact (hLv hk).symm
        · omega
      · exact (upd_ne v e).symm
    have hp1 : wpLate P ops ms us ls S Q (p + 1) (ops.toList.drop (p + 1)) (putTo ops a0 (upd vals p v) (fun _ => True) (p + 1)) w' := by
      rw [putTo_yes (L := fun _ => True) trivial, hdst, upd_at, ← putTo_congr (M := fun _ => True) (L := fun _ => True) (vals := vals) p (fun _ _ => Iff.rfl) (fun j hj _ => hun j (.inr hj))]
      exact ht'
    have hR1 : ∀ k, L k → k ∈ us → RV P ops md us S a0 L (upd vals p v) w' k := fun k hk hu => rv_congr ok (hun k (.inl hk)) (fun j hj => hun j (.inl (hL k j hk hj))) (fun h => absurd hu h) (hR k hk hu)
    obtain ⟨vals', w2, h1, h2⟩ := ih (p + 1) (upd vals p v) w' (by omega) (by omega) (fun j hj => (hU j hj).imp id (by omega)) (fun j hj hpj => hF j hj (by omega)) hR1 hp1
    exact ⟨vals', w2, fun k hk => (hun k (.inl hk)).trans (h1 k hk), h2⟩

theorem AtL.inU (ok : FreeOk md ops) (so : SeqOk md ops ms us) {Q : Act → World → Prop} {n : Nat} (h : AtL P ops md ms us ls S Q a0 L vals w n) (j : Nat) (hj : L j) : j ∈ us ∨ j < n := by
  by_cases hu : j ∈ us
  · exact .inl hu
  · refine .inr (Nat.lt_of_not_le fun hle => ?_)
    have hjs := h.lt j hj
    have hn := h.next.2 (by omega)
    by_cases e : j = n
    · subst e; exact h.far j hn (Nat.le_refl _) hj
    · exact h.far n hn (Nat.le_refl _) (waits_in ok h.down j (fun i hi => h.down j i hj hi) (so.post n hn j hjs hu (by omega)))

/-- One operation has come. -/
theorem AtL.step (ok : FreeOk md ops) (so : SeqOk md ops ms us) (sl : LateOk md ops ls us) {Q : Act → World → Prop} {n i : Nat} {o : Oper} (h : AtL P ops md ms us ls S Q a0 L vals w n) (ho : ops[i]? = some o) (hE : ∀ j, Edge' md ops i j → L j) (hi : ¬ L i) :
    (Region.wanted o (yielded ops (actAt ops md a0 vals i).tmps) = true → upN P (fun v w' => ∃ vals' n', (∀ j, L j ∨ j = i → upd vals i v j = vals' j) ∧ AtL P ops md ms us ls S Q a0 (fun j => L j ∨ j = i) vals' w' n') ((execOp (actAt ops md a0 vals i).eval o).run P w)) ∧
    (Region.wanted o (yielded ops (actAt ops md a0 vals i).tmps) = false → ∃ vals' n', (∀ j, L j ∨ j = i → upd vals i undef j = vals' j) ∧ AtL P ops md ms us ls S Q a0 (fun j => L j ∨ j = i) vals' w n') := by
  have his : i < ops.size := (Array.getElem?_eq_some_iff.1 ho).1
  have hD := down_add h.down hE
  have hlt : ∀ j, L j ∨ j = i → j < ops.size := fun j hj => by
    rcases hj with hj | rfl
    · exact h.lt j hj
    · exact his
  by_cases him : i ∈ ms
  · -- a mover
    have hin : i = n := by
      rcases Nat.lt_trichotomy i n with hl | he | hg
      · exact absurd (h.none i him hl) hi
      · exact he
      · have hn := h.next.2 (by omega)
        exact absurd (waits_in ok h.down i hE (so.post n hn i his (so.far i him) hg)) (h.far n hn (Nat.le_refl _))
    subst hin
    have hpre : ∀ k, k < i → k ∉ us → L k := fun k hk hu => waits_in ok h.down i hE (so.pre i him k hu hk)
    have hdrop : ops.toList.drop i = o :: ops.toList.drop (i + 1) := by
      rw [List.drop_eq_getElem_cons (by simpa using his)]
      congr 1
      have := (Array.getElem?_eq_some_iff.1 ho).2
      simpa using this
    have hag := text_agree (a0 := a0) (vals := vals) ok ho
    have hdst : dstOf ops i = o.dst := by simp [dstOf, ho]
    have ht := h.text
    rw [hdrop] at ht
    simp only [wpLate] at ht
    rw [wanted_agree hag, exec_agree (ok.sel i o · · ho) hag] at ht
    have fin : ∀ v w', ((∃ u, u ∈ us ∧ u < ops.size ∧ ¬ (L u ∨ u = i)) → S w') ∧ wpLate P ops ms us ls S Q (i + 1) (ops.toList.drop (i + 1)) ((putTo ops a0 vals (fun _ => True) i).put o.dst v) w' →
        ∃ vals' n', (∀ j, L j ∨ j = i → upd vals i v j = vals' j) ∧ AtL P ops md ms us ls S Q a0 (fun j => L j ∨ j = i) vals' w' n' := by
      rintro v w' ⟨hS', ht'⟩
      have hun : ∀ k, k ≠ i → vals k = upd vals i v k := fun k hk => (upd_ne v hk).symm
      have hp1 : wpLate P ops ms us ls S Q (i + 1) (ops.toList.drop (i + 1)) (putTo ops a0 (upd vals i v) (fun _ => True) (i + 1)) w' := by
        rw [putTo_yes (L := fun _ => True) trivial, hdst, upd_at, ← putTo_congr (M := fun _ => True) (L := fun _ => True) (vals := vals) i (fun _ _ => Iff.rfl) (fun j hj _ => hun j (by omega))]
        exact ht'
      have hRu : ∀ k, L k → k ∈ us → RV P ops md us S a0 (fun j => L j ∨ j = i) (upd vals i v) w' k := fun k hk hu =>
        rv_congr ok (hun k (by rintro rfl; exact hi hk)) (fun j hj => hun j (by rintro rfl; exact hi (h.down k j hk hj))) (fun hu' => absurd hu hu') (h.rvu k hk hu)
      obtain ⟨n', vals', h1, h2, h3, h4, h5, h6⟩ := late_advance (ms := ms) (Q := Q) ok hD h.ex (ops.size - (i + 1)) (i + 1) (upd vals i v) rfl (by omega) (fun j hj => by
          rcases hj with hj | rfl
          · exact (h.inU ok so j hj).imp id (by omega)
          · exact .inr (by omega)) (fun j hj hlj => by
          rcases hj with hj | rfl
          · exact fun hm => h.far j hm (by omega) hj
          · omega) (fun k hk hu => by
          rcases hk with hk | rfl
          · exact hRu k hk hu
          · exact absurd hu (so.far k him)) hp1
      refine ⟨vals', n', fun j hj => h5 j (.inl hj), hlt, hD, ⟨h2, h3⟩, fun m hm hlm => ?_, fun m hm hle hLm => ?_, fun k hk hkm => ?_, fun k hk hu => ?_, hS', h.ex, h6⟩
      · by_cases c : m < i
        · exact .inl (h.none m hm c)
        · by_cases e : m = i
          · exact .inr e
          · exact absurd hm (h4 m (by omega) hlm).1
      · rcases hLm with hLm | rfl
        · exact h.far m hm (by omega) hLm
        · omega
      · by_cases c : k < i
        · refine rv_congr ok ((hun k (by omega)).trans (h5 k (.inr (by omega)))) (fun j hj => ?_) (fun hu hL' => absurd (.inl (hpre k c hu)) hL') (h.rv k c hkm)
          have := ok.before _ _ hj
          exact (hun j (by omega)).trans (h5 j (.inr (by omega)))
        · exact (h4 k (by
            by_cases e : k = i
            · subst e; exact absurd him hkm
            · omega) hk).2
      · rcases hk with hk | rfl
        · exact rv_congr ok (h5 k (.inl (.inl hk))) (fun j hj => h5 j (.inl (.inl (h.down k j hk hj)))) (fun hu' => absurd hu hu') (hRu k hk hu)
        · exact absurd hu (so.far k him)
    refine ⟨fun hw => ?_, fun hw => ?_⟩
    · rw [if_pos hw, if_pos him] at ht
      exact upN_mono (fun v w' hh => fin v w' ⟨fun hu => hh.1 (fun hl => by obtain ⟨u, hu1, _, hu3⟩ := hu; exact hu3 (.inl (waits_in ok h.down i hE (sl i hl u hu1)))), hh.2⟩) ht
    · rw [if_neg (by rw [hw]; simp)] at ht
      exact fin undef w ⟨fun ⟨u, h1, h2, h3⟩ => h.st ⟨u, h1, h2, fun h => h3 (.inl h)⟩, ht⟩
  · -- it reads
    have fin : ∀ v, (i < n → v = vals i) → RV P ops md us S a0 (fun j => L j ∨ j = i) (upd vals i v) w i → (n ≤ i → i ∈ us) → ∃ vals' n', (∀ j, L j ∨ j = i → upd vals i v j = vals' j) ∧ AtL P ops md ms us ls S Q a0 (fun j => L j ∨ j = i) vals' w n' := by
      intro v hv hR hu0
      have hun : ∀ k, k < n ∨ k ≠ i → vals k = upd vals i v k := fun k hk => by
        by_cases e : k = i
        · subst e
          rw [upd_at]
          rcases hk with hk | hk
          · exact (hv hk).symm
          · exact absurd rfl hk
        · exact (upd_ne v e).symm
      refine ⟨upd vals i v, n, fun _ _ => rfl, hlt, hD, h.next, fun m hm hlm => .inl (h.none m hm hlm), fun m hm hle hLm => ?_, fun k hk hkm => ?_, fun k hk hu => ?_, fun ⟨u, h1, h2, h3⟩ => h.st ⟨u, h1, h2, fun h => h3 (.inl h)⟩, h.ex, ?_⟩
      · rcases hLm with hLm | rfl
        · exact h.far m hm hle hLm
        · exact him hm
      · by_cases e : k = i
        · subst e; exact hR
        · refine rv_congr ok (hun k (.inl hk)) (fun j hj => hun j (.inl ?_)) (fun _ hL' => ⟨fun hh => hL' (.inl hh), rfl⟩) (h.rv k hk hkm)
          have := ok.before _ _ hj
          omega
      · rcases hk with hk | rfl
        · exact rv_congr ok (hun k (.inr (by rintro rfl; exact hi hk))) (fun j hj => hun j (.inr (by rintro rfl; exact hi (h.down k j hk hj)))) (fun hu' => absurd hu hu') (h.rvu k hk hu)
        · exact hR
      · rw [← putTo_congr (M := fun _ => True) (L := fun _ => True) (vals := vals) n (fun _ _ => Iff.rfl) (fun j hj _ => hun j (.inl hj))]
        exact h.text
    have hactu : ∀ v, actAt ops md a0 (upd vals i v) i = actAt ops md a0 vals i := fun v => (putTo_congr _ (fun _ _ => Iff.rfl) (fun j _ hj => (upd_ne v (by rintro rfl; exact hi (hE j hj))).symm)).symm
    by_cases hin : i < n
    · have hR := h.rv i hin him
      have hR' : RV P ops md us S a0 (fun j => L j ∨ j = i) (upd vals i (vals i)) w i := fun o' ho' => by
        rw [hactu, upd_at]
        obtain ⟨h1, h2, h3⟩ := hR o' ho'
        exact ⟨h1, fun a b c => absurd (.inr rfl) c, h3⟩
      obtain ⟨h1, h2, h3⟩ := hR o ho
      refine ⟨fun hw => ?_, fun hw => ?_⟩
      · have hrun : (execOp (actAt ops md a0 vals i).eval o).run P w = .ok (.value (vals i)) w := by
          by_cases hu : i ∈ us
          · exact h1 hw hu w (h.st ⟨i, hu, his, hi⟩)
          · exact h2 hw hu hi
        rw [hrun]
        exact fin (vals i) (fun _ => rfl) hR' (fun h => by omega)
      · have := fin (vals i) (fun _ => rfl) hR' (fun h => by omega)
        rw [h3 hw] at this
        exact this
    · have hn := h.next.2 (by omega)
      have hni : n < i := by
        rcases Nat.lt_or_ge n i with h1 | h1
        · exact h1
        · have : i = n := by omega
          subst this
          exact absurd hn him
      have hu : i ∈ us := by
        by_cases hu : i ∈ us
        · exact hu
        · exact absurd (waits_in ok h.down i hE (so.post n hn i his hu hni)) (h.far n hn (Nat.le_refl _))
      obtain ⟨vals', w', e1, e2⟩ := late_reach (L := L) (ms := ms) ok h.down h.ex his (i - n) n vals w rfl (by omega) (fun j hj => h.inU ok so j hj) (fun j hj hle hm => h.far j hm hle hj) h.rvu h.text
      have hdrop : ops.toList.drop i = o :: ops.toList.drop (i + 1) := by
        rw [List.drop_eq_getElem_cons (by simpa using his)]
        congr 1
        have := (Array.getElem?_eq_some_iff.1 ho).2
        simpa using this
      have hag := text_agree (a0 := a0) (vals := vals') ok ho
      have hact : actAt ops md a0 vals' i = actAt ops md a0 vals i := (putTo_congr _ (fun _ _ => Iff.rfl) (fun j _ hj => (e1 j (hE j hj)))).symm
      rw [hdrop] at e2
      simp only [wpLate] at e2
      rw [wanted_agree hag, exec_agree (ok.sel i o · · ho) hag, hact] at e2
      refine ⟨fun hw => ?_, fun hw => ?_⟩
      · rw [if_pos hw, if_neg him, if_pos hu] at e2
        obtain ⟨v, hv, _⟩ := e2
        rw [hv w (h.st ⟨i, hu, his, hi⟩)]
        refine fin v (fun hh => absurd hh hin) (fun o' ho' => ?_) (fun _ => hu)
        rw [ho] at ho'
        injection ho' with ho'
        subst ho'
        rw [hactu, upd_at]
        exact ⟨fun _ _ => hv, fun _ hh => absurd hu hh, fun hh => by rw [hw] at hh; cases hh⟩
      · refine fin undef (fun hh => absurd hh hin) (fun o' ho' => ?_) (fun _ => hu)
        rw [ho] at ho'
        injection ho' with ho'
        subst ho'
        rw [hactu, upd_at]
        exact ⟨(fun hh => by rw [hw] at hh; cases hh), (fun hh => by rw [hw] at hh; cases hh), fun _ => rfl⟩

theorem late_any (ok : FreeOk md ops) (so : SeqOk md ops ms us) (sl : LateOk md ops ls us) {Q : Act → World → Prop} {Q' : Exit → Act → World → Prop} (hQ : ∀ a w, Q a w → Q' .normal a w) : ∀ (fuel : Nat) (listed : Array Bool) (vals : Nat → Value) (w : World) (n : Nat) (U : List Nat), listed.size = ops.size → U.length ≤ fuel → (∀ j, j < ops.size → listed.getD j false = false → j ∈ U) →
      AtL P ops md ms us ls S Q a0 (fun j => listed.getD j false = true) vals w n → wpAny P md ops Q' fuel listed (putTo ops a0 vals (fun j => listed.getD j false = true) ops.size) w := by
  intro fuel
  have hall : ∀ (listed : Array Bool) (vals : Nat → Value) (w : World) (n : Nat), (∀ j, j < ops.size → listed.getD j false = true) → AtL P ops md ms us ls S Q a0 (fun j => listed.getD j false = true) vals w n → Q' .normal (putTo ops a0 vals (fun j => listed.getD j false = true) ops.size) w := by
    intro listed vals w n h1 hA
    have hn : n = ops.size := by
      rcases Nat.lt_or_ge n ops.size with h2 | h2
      · exact absurd (h1 n h2) (hA.far n (hA.next.2 h2) (Nat.le_refl _))
      · have := hA.next.1; omega
    subst hn
    have ht := hA.text
    rw [List.drop_eq_nil_of_le (by simp)] at ht
    simp only [wpLate] at ht
    rw [putTo_congr (M := fun _ => True) (vals' := vals) ops.size (fun j hj => ⟨fun _ => trivial, fun _ => h1 j hj⟩) (fun _ _ _ => rfl)]
    exact hQ _ _ ht
  have hnone : ∀ (listed : Array Bool), listed.size = ops.size → (∀ j, j < ops.size → listed.getD j false = true) → Region.ready md ops listed = [] := by
    intro listed hsz h1
    refine List.eq_nil_iff_forall_not_mem.2 fun j hj => ?_
    obtain ⟨h2, o, ho, _⟩ := mem_ready.1 hj
    have hjn := (Array.getElem?_eq_some_iff.1 ho).1
    have h3 := h1 j hjn
    simp [hsz, hjn] at h2 h3
    rw [h2] at h3; cases h3
  have hfull : ∀ (listed : Array Bool), listed.size = ops.size → Region.ready md ops listed = [] → ∀ j, j < ops.size → listed.getD j false = true := by
    intro listed hsz hnil j
    induction j using Nat.strongRecOn with
    | ind j ih =>
      intro hj
      cases hjl : listed.getD j false with
      | true => rfl
      | false =>
        exfalso
        obtain ⟨o, ho⟩ : ∃ o, ops[j]? = some o := ⟨_, Array.getElem?_eq_getElem hj⟩
        have : j ∈ Region.ready md ops listed := mem_ready.2 ⟨by simp [hsz, hj] at hjl ⊢; exact hjl, o, ho, fun e he hb => by
          have := ok.before j e.on ⟨o, e, ho, he, hb, rfl⟩
          exact ih e.on this (by omega)⟩
        rw [hnil] at this
        cases this
  induction fuel with
  | zero =>
    intro listed vals w n U hsz hU hin hA
    have h1 : ∀ j, j < ops.size → listed.getD j false = true := fun j hj => by
      cases hjl : listed.getD j false with
      | true => rfl
      | false =>
        have := hin j hj hjl
        rw [List.eq_nil_of_length_eq_zero (by omega : U.length = 0)] at this
        cases this
    exact ⟨hnone listed hsz h1, hall listed vals w n h1 hA⟩
  | succ fuel ih =>
    intro listed vals w n U hsz hU hin hA
    refine ⟨fun hnil => hall listed vals w n (hfull listed hsz hnil) hA, fun i hi => ?_⟩
    obtain ⟨hi0, o, ho, hde⟩ := mem_ready.1 hi
    have hin' : i < ops.size := (Array.getElem?_eq_some_iff.1 ho).1
    have hi1 : listed.getD i false = false := by simp [hsz, hin'] at hi0 ⊢; exact hi0
    have hE : ∀ j, Edge' md ops i j → listed.getD j false = true := by
      rintro j ⟨o', e, ho', he, hb, rfl⟩
      rw [ho] at ho'
      injection ho' with ho'
      subst ho'
      exact hde e he hb
    have hnot : ¬ listed.getD i false = true := by rw [hi1]; simp
    have hs := hA.step ok so sl ho hE hnot
    have hag : AgreeOn (o.looksAt ops) (putTo ops a0 vals (fun j => listed.getD j false = true) ops.size) (actAt ops md a0 vals i) :=
      looks_agree ok ho (fun j hj => ⟨hE j hj, by have := ok.before _ _ hj; omega⟩) (fun j hj h => hnot (hA.down j i h.1 hj))
    have hdst : dstOf ops i = o.dst := by simp [dstOf, ho]
    have next : ∀ v w', (∃ vals' n', (∀ j, listed.getD j false = true ∨ j = i → upd vals i v j = vals' j) ∧ AtL P ops md ms us ls S Q a0 (fun j => listed.getD j false = true ∨ j = i) vals' w' n') → wpAny P md ops Q' fuel (listed.setIfInBounds i true) ((putTo ops a0 vals (fun j => listed.getD j false = true) ops.size).put o.dst v) w' := by
      rintro v w' ⟨vals', n', hag', hA'⟩
      have hset : ∀ j, (listed.setIfInBounds i true).getD j false = true ↔ (listed.getD j false = true ∨ j = i) := fun j => by
        by_cases e : j = i
        · subst e; simp [hsz, hin']
        · rw [getD_set_ne false (fun h => e h.symm)]; simp [e]
      have hfun : (fun j => (listed.setIfInBounds i true).getD j false = true) = (fun j => listed.getD j false = true ∨ j = i) := by
        funext j; exact propext (hset j)
      rw [← hdst, putTo_add ok.distinct hnot ops.size hin', putTo_congr (M := fun j => listed.getD j false = true ∨ j = i) (vals' := vals') ops.size (fun _ _ => Iff.rfl) (fun j _ hj => hag' j hj), ← hfun]
      refine ih (listed.setIfInBounds i true) vals' w' n' (U.erase i) (by simp [hsz]) ?_ ?_ ?_
      · have := List.length_erase_of_mem (hin i hin' hi1)
        have := List.length_pos_of_mem (hin i hin' hi1)
        omega
      · intro j hj hjl
        have hne : j ≠ i := by
          rintro rfl
          have := (hset j).2 (.inr rfl)
          rw [this] at hjl; cases hjl
        rw [getD_set_ne false (fun h => hne h.symm)] at hjl
        exact (List.mem_erase_of_ne hne).2 (hin j hj hjl)
      · rw [hfun]
        exact hA'
    unfold wpOp
    simp only [ho]
    rw [wanted_agree hag]
    split
    · rename_i hwt
      refine .inl ?_
      unfold Oper.wp
      rw [exec_agree (ok.sel i o · · ho) hag]
      exact upN_upon (fun v w' hst' => next v w' hst') (hs.1 hwt)
    · rename_i hwt
      exact next undef w (hs.2 (by simpa using hwt))

/-- One walk in the order of the text, world by world, serves every order. -/
theorem wp_region_late (S : World → Prop) {id : Nat} {Q : Exit → Act → World → Prop} {a : Act} {w : World} {l : List Oper} (ms us ls : List Nat) (hm : P.follows .mixedOrders = true) (hB : freeB .any l.toArray = true) (hS : seqB l.toArray ms us .any = true) (hl : lateB ls us l.toArray .any = true)
    (hw : S w.drew) (h : wpLate P l.toArray ms us ls S (fun a' w' => Q .normal a' w') 0 l a w.drew) : (Code.region id l.toArray true).wp P Q a w := by
  refine wp_region_any hm ?_
  obtain ⟨vals, n, hA⟩ := AtL.begin (P := P) (ops := l.toArray) (md := .any) (ms := ms) (us := us) (ls := ls) (S := S) (a0 := a) (freeOk hB) (Q := fun a' w' => Q .normal a' w') hw (by simpa using h)
  have no : ∀ j, ¬ (Array.replicate l.toArray.size false).getD j false = true := fun j hj => by rw [rep_false] at hj; cases hj
  have hfun : (fun j => (Array.replicate l.toArray.size false).getD j false = true) = (fun _ => False) := by funext j; exact propext ⟨fun h => (no j h).elim, fun h => h.elim⟩
  have h1 := late_any (a0 := a) (freeOk hB) (seqOk hS) (lateOk hl) (Q' := Q) (fun _ _ h => h) l.toArray.size (Array.replicate l.toArray.size false) vals w.drew n (List.range l.toArray.size) (by simp) (by simp) (fun j hj _ => List.mem_range.2 hj) (by rw [hfun]; exact hA)
  have e : putTo l.toArray a vals (fun j => (Array.replicate l.toArray.size false).getD j false = true) l.toArray.size = a := by
    have : ∀ k, putTo l.toArray a vals (fun j => (Array.replicate l.toArray.size false).getD j false = true) k = a := by
      intro k
      induction k with
      | zero => rfl
      | succ k ih => rw [putTo_no (no k), ih]
    exact this _
  rw [e] at h1
  exact h1

/-! ### The steps of the walk -/
variable {Q : Act → World → Prop} {k : Nat} {o : Oper} {rest : List Oper} {a : Act}
theorem late_step (hk : k ∉ ms) (hu : k ∉ us)
    (h : ∀ K : Act → World → Prop, (∀ a w, wpLate P ops ms us ls S Q (k + 1) rest a w → K a w) → if Region.wanted o (yielded ops a.tmps) = true then ∃ v, (execOp a.eval o).run P w = .ok (.value v) w ∧ K (a.put o.dst v) w else K (a.put o.dst undef) w) : wpLate P ops ms us ls S Q k (o :: rest) a w := by
  have h' := h _ (fun _ _ h => h)
  simp only [wpLate]
  split
  · rename_i hw
    rw [if_pos hw] at h'
    exact h'
  · rename_i hw
    rw [if_neg hw] at h'
    exact h'
theorem late_free (hk : k ∉ ms) (hu : k ∈ us)
    (h : ∀ K : Act → World → Prop, (∀ a w, wpLate P ops ms us ls S Q (k + 1) rest a w → K a w) → if Region.wanted o (yielded ops a.tmps) = true then ∃ v, steadyF P S o a v ∧ K (a.put o.dst v) w else K (a.put o.dst undef) w) : wpLate P ops ms us ls S Q k (o :: rest) a w := by
  have h' := h _ (fun _ _ h => h)
  simp only [wpLate]
  split
  · rename_i hw
    rw [if_pos hw] at h'
    exact h'
  · rename_i hw
    rw [if_neg hw] at h'
    exact h'
theorem late_move (hk : k ∈ ms)
    (h : ∀ K : Act → World → Prop, (∀ a w, wpLate P ops ms us ls S Q (k + 1) rest a w → K a w) → if Region.wanted o (yielded ops a.tmps) = true then upN P (fun v w' => (k ∉ ls → S w') ∧ K (a.put o.dst v) w') ((execOp a.eval o).run P w) else K (a.put o.dst undef) w) : wpLate P ops ms us ls S Q k (o :: rest) a w := by
  have h' := h _ (fun _ _ h => h)
  simp only [wpLate]
  split
  · rename_i hw
    rw [if_pos hw] at h'
    exact h'
  · rename_i hw
    rw [if_neg hw] at h'
    exact h'
theorem late_move0 (hk : k ∈ ms) (hg : o.guard = none) (h : upN P (fun v w' => (k ∉ ls → S w') ∧ wpLate P ops ms us ls S Q (k + 1) rest (a.put o.dst v) w') ((execOp a.eval o).run P w)) : wpLate P ops ms us ls S Q k (o :: rest) a w := by
  simp only [wpLate, Region.wanted, hg]
  first | exact h | (simp only [if_true]; rw [if_pos hk]; exact h) | (rw [if_pos hk]; exact h)
theorem late_nil (h : Q a w) : wpLate P ops ms us ls S Q k [] a w := h
end
end Go.Proofs.YtiddhcabpmkolaaGreatDoor
set_option linter.unusedSimpArgs false
set_option linter.unusedVariables false
namespace Go.Proofs.YtiddhcabpmkolaaGreatDoor
open Go.RowKit
set_option maxRecDepth 100000
open Go

section
variable (P : Program) (ops : Array Oper) (md : Region.Mode) (ms us : List Nat) (S : Nat → World → Prop)
/-- ms: the movers; us: operations that yield one value in every world of a class; the class holds till the operation has come. -/
def wpLatu (Q : Act → World → Prop) : Nat → List Oper → Act → World → Prop
  | _, [], a, w => Q a w
  | k, o :: rest, a, w =>
    if Region.wanted o (yielded ops a.tmps) = true then
      if k ∈ ms then upN P (fun v w' => (∀ u, u ∈ us → (waits md ops u).contains k = false → S u w') ∧ wpLatu Q (k + 1) rest (a.put o.dst v) w') ((execOp a.eval o).run P w)
      else if k ∈ us then ∃ v, (∀ x, S k x → (execOp a.eval o).run P x = .ok (.value v) x) ∧ wpLatu Q (k + 1) rest (a.put o.dst v) w
      else ∃ v, (execOp a.eval o).run P w = .ok (.value v) w ∧ wpLatu Q (k + 1) rest (a.put o.dst v) w
    else wpLatu Q (k + 1) rest (a.put o.dst undef) w
end
section
variable {P : Program} {ops : Array Oper} {md : Region.Mode} {ms us : List Nat} {S : Nat → World → Prop} {a0 : Act} {vals vals' : Nat → Value} {L : Nat → Prop} {w : World}
/-- Where a region stands: L has come; the next mover is n. -/
structure AtU (P : Program) (ops : Array Oper) (md : Region.Mode) (ms us : List Nat) (S : Nat → World → Prop) (Q : Act → World → Prop) (a0 : Act) (L : Nat → Prop) (vals : Nat → Value) (w : World) (n : Nat) : Prop where
  lt : ∀ j, L j → j < ops.size
  down : Down md ops L
  next : n ≤ ops.size ∧ (n < ops.size → n ∈ ms)
  none : ∀ m ∈ ms, m < n → L m
  far : ∀ m ∈ ms, n ≤ m → ¬ L m
  rv : ∀ k, k < n → k ∉ ms → RV P ops md us (S k) a0 L vals w k
  rvu : ∀ k, L k → k ∈ us → RV P ops md us (S k) a0 L vals w k
  st : ∀ u, u ∈ us → u < ops.size → ¬ L u → S u w
  ex : ∀ u, u ∈ us → ∃ x, S u x
  text : wpLatu P ops md ms us S Q n (ops.toList.drop n) (putTo ops a0 vals (fun _ => True) n) w

/-- On to the next mover. -/
theorem latu_advance (ok : FreeOk md ops) (hL : Down md ops L) (hS : ∀ u, u ∈ us → ∃ x, S u x) {Q : Act → World → Prop} : ∀ (m p : Nat) (vals : Nat → Value), ops.size - p = m → p ≤ ops.size → (∀ j, L j → j ∈ us ∨ j < p) → (∀ j, L j → p ≤ j → j ∉ ms) →
    (∀ k, L k → k ∈ us → RV P ops md us (S k) a0 L vals w k) → wpLatu P ops md ms us S Q p (ops.toList.drop p) (putTo ops a0 vals (fun _ => True) p) w →
    ∃ n vals', p ≤ n ∧ n ≤ ops.size ∧ (n < ops.size → n ∈ ms) ∧ (∀ k, p ≤ k → k < n → k ∉ ms ∧ RV P ops md us (S k) a0 L vals' w k) ∧ (∀ k, L k ∨ k < p → vals k = vals' k) ∧
      wpLatu P ops md ms us S Q n (ops.toList.drop n) (putTo ops a0 vals' (fun _ => True) n) w := by
  intro m
  induction m with
  | zero =>
    intro p vals hm hp _ _ _ ht
    exact ⟨p, vals, Nat.le_refl _, hp, fun h => by omega, fun k h1 h2 => by omega, fun _ _ => rfl, ht⟩
  | succ m ih =>
    intro p vals hm hp hU hF hR ht
    by_cases hpm : p ∈ ms
    · exact ⟨p, vals, Nat.le_refl _, hp, fun _ => hpm, fun k h1 h2 => by omega, fun _ _ => rfl, ht⟩
    · obtain ⟨o, ho⟩ : ∃ o, ops[p]? = some o := ⟨_, Array.getElem?_eq_getElem (by omega)⟩
      have hdrop : ops.toList.drop p = o :: ops.toList.drop (p + 1) := by
        rw [List.drop_eq_getElem_cons (by simp; omega)]
        congr 1
        have := (Array.getElem?_eq_some_iff.1 ho).2
        simpa using this
      have hag := text_agree (a0 := a0) (vals := vals) ok ho
      have hdst : dstOf ops p = o.dst := by simp [dstOf, ho]
      rw [hdrop] at ht
      simp only [wpLatu] at ht
      rw [wanted_agree hag, exec_agree (ok.sel p o · · ho) hag] at ht
      -- the value
      obtain ⟨v, hv, hLv, ht'⟩ : ∃ v, ((Region.wanted o (yielded ops (actAt ops md a0 vals p).tmps) = true → p ∈ us → ∀ x, S p x → (execOp (actAt ops md a0 vals p).eval o).run P x = .ok (.value v) x) ∧
          (Region.wanted o (yielded ops (actAt ops md a0 vals p).tmps) = true → p ∉ us → ¬ L p → (execOp (actAt ops md a0 vals p).eval o).run P w = .ok (.value v) w) ∧
          (Region.wanted o (yielded ops (actAt ops md a0 vals p).tmps) = false → v = undef)) ∧ (L p → v = vals p) ∧ wpLatu P ops md ms us S Q (p + 1) (ops.toList.drop (p + 1)) ((putTo ops a0 vals (fun _ => True) p).put o.dst v) w := by
        by_cases hw : Region.wanted o (yielded ops (actAt ops md a0 vals p).tmps) = true
        · rw [if_pos hw, if_neg hpm] at ht
          by_cases hu : p ∈ us
          · rw [if_pos hu] at ht
            obtain ⟨v, h1, h2⟩ := ht
            refine ⟨v, ⟨fun _ _ => h1, fun _ h => absurd hu h, fun h => by rw [hw] at h; cases h⟩, fun hLp => ?_, h2⟩
            obtain ⟨x, hx⟩ := hS p hu
            have := ((hR p hLp hu) o ho).1 hw hu x hx
            rw [h1 x hx] at this
            injection this with this
            injection this
          · rw [if_neg hu] at ht
            obtain ⟨v, h1, h2⟩ := ht
            refine ⟨v, ⟨fun _ h => absurd h hu, fun _ _ _ => h1, fun h => by rw [hw] at h; cases h⟩, fun hLp => ?_, h2⟩
            rcases hU p hLp with h | h
            · exact absurd h hu
            · omega
        · rw [if_neg hw] at ht
          have hw' : Region.wanted o (yielded ops (actAt ops md a0 vals p).tmps) = false := by simpa using hw
          refine ⟨undef, ⟨fun h => absurd h hw, fun h => absurd h hw, fun _ => rfl⟩, fun hLp => ?_, ht⟩
          rcases hU p hLp with h | h
          · exact (((hR p hLp h) o ho).2.2 hw').symm
          · omega
      have hun : ∀ k, L k ∨ k < p → vals k = upd vals p v k := fun k hk => by
        by_cases e : k = p
        · subst e
          rw [upd_at]
          rcases hk with hk | hk
          · exact (hLv hk).symm
          · omega
        · exact (upd_ne v e).symm
      have hp1 : wpLatu P ops md ms us S Q (p + 1) (ops.toList.drop (p + 1)) (putTo ops a0 (upd vals p v) (fun _ => True) (p + 1)) w := by
        rw [putTo_yes (L := fun _ => True) trivial, hdst, upd_at, ← putTo_congr (M := fun _ => True) (L := fun _ => True) (vals := vals) p (fun _ _ => Iff.rfl) (fun j hj _ => hun j (.inr hj))]
        exact ht'
      have hact : actAt ops md a0 vals p = actAt ops md a0 (upd vals p v) p := putTo_congr _ (fun _ _ => Iff.rfl) (fun j _ hj => hun j (.inr (ok.before _ _ hj)))
      have hRp : RV P ops md us (S p) a0 L (upd vals p v) w p := fun o' ho' => by
        rw [ho] at ho'
        injection ho' with ho'
        subst ho'
        rw [← hact, upd_at]
        exact hv
      have hR1 : ∀ k, L k → k ∈ us → RV P ops md us (S k) a0 L (upd vals p v) w k := fun k hk hu => rv_congr ok (hun k (.inl hk)) (fun j hj => hun j (.inl (hL k j hk hj))) (fun _ h => ⟨h, rfl⟩) (hR k hk hu)
      obtain ⟨n, vals', h1, h2, h3, h4, h5, h6⟩ := ih (p + 1) (upd vals p v) (by omega) (by omega) (fun j hj => (hU j hj).imp id (by omega)) (fun j hj hpj => hF j hj (by omega)) hR1 hp1
      refine ⟨n, vals', by omega, h2, h3, fun k hk1 hk2 => ?_, fun k hk => (hun k hk).trans (h5 k (hk.imp id (by omega))), h6⟩
      by_cases e : k = p
      · subst e
        exact ⟨hpm, rv_congr ok (h5 k (.inr (by omega))) (fun j hj => h5 j (.inr (by have := ok.before _ _ hj; omega))) (fun _ h => ⟨h, rfl⟩) hRp⟩
      · exact h4 k (by omega) hk2

theorem AtU.begin (ok : FreeOk md ops) {Q : Act → World → Prop} (hS : ∀ u, u ∈ us → S u w) (h : wpLatu P ops md ms us S Q 0 ops.toList a0 w) : ∃ vals n, AtU P ops md ms us S Q a0 (fun _ => False) vals w n := by
  obtain ⟨n, vals, h1, h2, h3, h4, _, h6⟩ := latu_advance (L := fun _ => False) (md := md) ok (fun _ _ h => h.elim) (fun u hu => ⟨w, hS u hu⟩) ops.size 0 (fun _ => undef) (by omega) (Nat.zero_le _) (fun _ h => h.elim) (fun _ h => h.elim) (fun _ h => h.elim) (by simpa [putTo] using h)
  exact ⟨vals, n, fun _ h => h.elim, fun _ _ h => h.elim, ⟨h2, h3⟩, fun m hm hlt => absurd hm (h4 m (Nat.zero_le _) hlt).1, fun _ _ _ h => h, fun k hk _ => (h4 k (Nat.zero_le _) hk).2, fun _ h => h.elim, fun u hu _ _ => hS u hu, fun u hu => ⟨w, hS u hu⟩, h6⟩

/-- On to the operation i, in the order of the text, by whatever the movers may leave. -/
theorem latu_reach (ok : FreeOk md ops) (hL : Down md ops L) (hS : ∀ u, u ∈ us → ∃ x, S u x) {Q : Act → World → Prop} {i : Nat} (hi : i < ops.size) : ∀ (m p : Nat) (vals : Nat → Value) (w : World), i - p = m → p ≤ i → (∀ j, L j → j ∈ us ∨ j < p) → (∀ j, L j → p ≤ j → j ∉ ms) →
    (∀ k, L k → k ∈ us → RV P ops md us (S k) a0 L vals w k) → wpLatu P ops md ms us S Q p (ops.toList.drop p) (putTo ops a0 vals (fun _ => True) p) w →
    ∃ vals' w', (∀ k, L k → vals k = vals' k) ∧ wpLatu P ops md ms us S Q i (ops.toList.drop i) (putTo ops a0 vals' (fun _ => True) i) w' := by
  intro m
  induction m with
  | zero =>
    intro p vals w hm hp _ _ _ ht
    obtain rfl : p = i := by omega
    exact ⟨vals, w, fun _ _ => rfl, ht⟩
  | succ m ih =>
    intro p vals w hm hp hU hF hR ht
    obtain ⟨o, ho⟩ : ∃ o, ops[p]? = some o := ⟨_, Array.getElem?_eq_getElem (by omega)⟩
    have hdrop : ops.toList.drop p = o :: ops.toList.drop (p + 1) := by
      rw [List.drop_eq_getElem_cons (by simp; omega)]
      congr 1
      have := (Array.getElem?_eq_some_iff.1 ho).2
      simpa using this
    have hag := text_agree (a0 := a0) (vals := vals) ok ho
    have hdst : dstOf ops p = o.dst := by simp [dstOf, ho]
    rw [hdrop] at ht
    simp only [wpLatu] at ht
    rw [wanted_agree hag, exec_agree (ok.sel p o · · ho) hag] at ht
    obtain ⟨v, w', hLv, ht'⟩ : ∃ v w', (L p → v = vals p) ∧ wpLatu P ops md ms us S Q (p + 1) (ops.toList.drop (p + 1)) ((putTo ops a0 vals (fun _ => True) p).put o.dst v) w' := by
      by_cases hw : Region.wanted o (yielded ops (actAt ops md a0 vals p).tmps) = true
      · rw [if_pos hw] at ht
        by_cases hpm : p ∈ ms
        · rw [if_pos hpm] at ht
          obtain ⟨v, w', hs, h⟩ := upN_some ht
          exact ⟨v, w', fun hLp => absurd hpm (hF p hLp (Nat.le_refl _)), h⟩
        · rw [if_neg hpm] at ht
          by_cases hu : p ∈ us
          · rw [if_pos hu] at ht
            obtain ⟨v, h1, h2⟩ := ht
            refine ⟨v, w, fun hLp => ?_, h2⟩
            obtain ⟨x, hx⟩ := hS p hu
            have := ((hR p hLp hu) o ho).1 hw hu x hx
            rw [h1 x hx] at this
            injection this with this
            injection this
          · rw [if_neg hu] at ht
            obtain ⟨v, h1, h2⟩ := ht
            refine ⟨v, w, fun hLp => ?_, h2⟩
            rcases hU p hLp with h | h
            · exact absurd h hu
            · omega
      · rw [if_neg hw] at ht
        have hw' : Region.wanted o (yielded ops (actAt ops md a0 vals p).tmps) = false := by simpa using hw
        refine ⟨undef, w, fun hLp => ?_, ht⟩
        rcases hU p hLp with h | h
        · exact (((hR p hLp h) o ho).2.2 hw').symm
        · omega
    have hun : ∀ k, L k ∨ k < p → vals k = upd vals p v k := fun k hk => by
      by_cases e : k = p
      · subst e
        rw [upd_at]
        rcases hk with hk | hk
        · exact (hLv hk).symm
        · omega
      · exact (upd_ne v e).symm
    have hp1 : wpLatu P ops md ms us S Q (p + 1) (ops.toList.drop (p + 1)) (putTo ops a0 (upd vals p v) (fun _ => True) (p + 1)) w' := by
      rw [putTo_yes (L := fun _ => True) trivial, hdst, upd_at, ← putTo_congr (M := fun _ => True) (L := fun _ => True) (vals := vals) p (fun _ _ => Iff.rfl) (fun j hj _ => hun j (.inr hj))]
      exact ht'
    have hR1 : ∀ k, L k → k ∈ us → RV P ops md us (S k) a0 L (upd vals p v) w' k := fun k hk hu => rv_congr ok (hun k (.inl hk)) (fun j hj => hun j (.inl (hL k j hk hj))) (fun h => absurd hu h) (hR k hk hu)
    obtain ⟨vals', w2, h1, h2⟩ := ih (p + 1) (upd vals p v) w' (by omega) (by omega) (fun j hj => (hU j hj).imp id (by omega)) (fun j hj hpj => hF j hj (by omega)) hR1 hp1
    exact ⟨vals', w2, fun k hk => (hun k (.inl hk)).trans (h1 k hk), h2⟩

theorem AtU.inU (ok : FreeOk md ops) (so : SeqOk md ops ms us) {Q : Act → World → Prop} {n : Nat} (h : AtU P ops md ms us S Q a0 L vals w n) (j : Nat) (hj : L j) : j ∈ us ∨ j < n := by
  by_cases hu : j ∈ us
  · exact .inl hu
  · refine .inr (Nat.lt_of_not_le fun hle => ?_)
    have hjs := h.lt j hj
    have hn := h.next.2 (by omega)
    by_cases e : j = n
    · subst e; exact h.far j hn (Nat.le_refl _) hj
    · exact h.far n hn (Nat.le_refl _) (waits_in ok h.down j (fun i hi => h.down j i hj hi) (so.post n hn j hjs hu (by omega)))

/-- One operation has come. -/
theorem AtU.step (ok : FreeOk md ops) (so : SeqOk md ops ms us) {Q : Act → World → Prop} {n i : Nat} {o : Oper} (h : AtU P ops md ms us S Q a0 L vals w n) (ho : ops[i]? = some o) (hE : ∀ j, Edge' md ops i j → L j) (hi : ¬ L i) :
    (Region.wanted o (yielded ops (actAt ops md a0 vals i).tmps) = true → upN P (fun v w' => ∃ vals' n', (∀ j, L j ∨ j = i → upd vals i v j = vals' j) ∧ AtU P ops md ms us S Q a0 (fun j => L j ∨ j = i) vals' w' n') ((execOp (actAt ops md a0 vals i).eval o).run P w)) ∧
    (Region.wanted o (yielded ops (actAt ops md a0 vals i).tmps) = false → ∃ vals' n', (∀ j, L j ∨ j = i → upd vals i undef j = vals' j) ∧ AtU P ops md ms us S Q a0 (fun j => L j ∨ j = i) vals' w n') := by
  have his : i < ops.size := (Array.getElem?_eq_some_iff.1 ho).1
  have hD := down_add h.down hE
  have hlt : ∀ j, L j ∨ j = i → j < ops.size := fun j hj => by
    rcases hj with hj | rfl
    · exact h.lt j hj
    · exact his
  by_cases him : i ∈ ms
  · -- a mover
    have hin : i = n := by
      rcases Nat.lt_trichotomy i n with hl | he | hg
      · exact absurd (h.none i him hl) hi
      · exact he
      · have hn := h.next.2 (by omega)
        exact absurd (waits_in ok h.down i hE (so.post n hn i his (so.far i him) hg)) (h.far n hn (Nat.le_refl _))
    subst hin
    have hpre : ∀ k, k < i → k ∉ us → L k := fun k hk hu => waits_in ok h.down i hE (so.pre i him k hu hk)
    have hdrop : ops.toList.drop i = o :: ops.toList.drop (i + 1) := by
      rw [List.drop_eq_getElem_cons (by simpa using his)]
      congr 1
      have := (Array.getElem?_eq_some_iff.1 ho).2
      simpa using this
    have hag := text_agree (a0 := a0) (vals := vals) ok ho
    have hdst : dstOf ops i = o.dst := by simp [dstOf, ho]
    have ht := h.text
    rw [hdrop] at ht
    simp only [wpLatu] at ht
    rw [wanted_agree hag, exec_agree (ok.sel i o · · ho) hag] at ht
    have fin : ∀ v w', (∀ u, u ∈ us → u < ops.size → ¬ (L u ∨ u = i) → S u w') ∧ wpLatu P ops md ms us S Q (i + 1) (ops.toList.drop (i + 1)) ((putTo ops a0 vals (fun _ => True) i).put o.dst v) w' →
        ∃ vals' n', (∀ j, L j ∨ j = i → upd vals i v j = vals' j) ∧ AtU P ops md ms us S Q a0 (fun j => L j ∨ j = i) vals' w' n' := by
      rintro v w' ⟨hS', ht'⟩
      have hun : ∀ k, k ≠ i → vals k = upd vals i v k := fun k hk => (upd_ne v hk).symm
      have hp1 : wpLatu P ops md ms us S Q (i + 1) (ops.toList.drop (i + 1)) (putTo ops a0 (upd vals i v) (fun _ => True) (i + 1)) w' := by
        rw [putTo_yes (L := fun _ => True) trivial, hdst, upd_at, ← putTo_congr (M := fun _ => True) (L := fun _ => True) (vals := vals) i (fun _ _ => Iff.rfl) (fun j hj _ => hun j (by omega))]
        exact ht'
      have hRu : ∀ k, L k → k ∈ us → RV P ops md us (S k) a0 (fun j => L j ∨ j = i) (upd vals i v) w' k := fun k hk hu =>
        rv_congr ok (hun k (by rintro rfl; exact hi hk)) (fun j hj => hun j (by rintro rfl; exact hi (h.down k j hk hj))) (fun hu' => absurd hu hu') (h.rvu k hk hu)
      obtain ⟨n', vals', h1, h2, h3, h4, h5, h6⟩ := latu_advance (ms := ms) (Q := Q) ok hD h.ex (ops.size - (i + 1)) (i + 1) (upd vals i v) rfl (by omega) (fun j hj => by
          rcases hj with hj | rfl
          · exact (h.inU ok so j hj).imp id (by omega)
          · exact .inr (by omega)) (fun j hj hlj => by
          rcases hj with hj | rfl
          · exact fun hm => h.far j hm (by omega) hj
          · omega) (fun k hk hu => by
          rcases hk with hk | rfl
          · exact hRu k hk hu
          · exact absurd hu (so.far k him)) hp1
      refine ⟨vals', n', fun j hj => h5 j (.inl hj), hlt, hD, ⟨h2, h3⟩, fun m hm hlm => ?_, fun m hm hle hLm => ?_, fun k hk hkm => ?_, fun k hk hu => ?_, hS', h.ex, h6⟩
      · by_cases c : m < i
        · exact .inl (h.none m hm c)
        · by_cases e : m = i
          · exact .inr e
          · exact absurd hm (h4 m (by omega) hlm).1
      · rcases hLm with hLm | rfl
        · exact h.far m hm (by omega) hLm
        · omega
      · by_cases c : k < i
        · refine rv_congr ok ((hun k (by omega)).trans (h5 k (.inr (by omega)))) (fun j hj => ?_) (fun hu hL' => absurd (.inl (hpre k c hu)) hL') (h.rv k c hkm)
          have := ok.before _ _ hj
          exact (hun j (by omega)).trans (h5 j (.inr (by omega)))
        · exact (h4 k (by
            by_cases e : k = i
            · subst e; exact absurd him hkm
            · omega) hk).2
      · rcases hk with hk | rfl
        · exact rv_congr ok (h5 k (.inl (.inl hk))) (fun j hj => h5 j (.inl (.inl (h.down k j hk hj)))) (fun hu' => absurd hu hu') (hRu k hk hu)
        · exact absurd hu (so.far k him)
    refine ⟨fun hw => ?_, fun hw => ?_⟩
    · rw [if_pos hw, if_pos him] at ht
      exact upN_mono (fun v w' hh => fin v w' ⟨fun u hu1 _ hu3 => hh.1 u hu1 (by
        cases hc : (waits md ops u).contains i with
        | false => rfl
        | true => exact absurd (.inl (waits_in ok h.down i hE (by simpa using hc))) hu3), hh.2⟩) ht
    · rw [if_neg (by rw [hw]; simp)] at ht
      exact fin undef w ⟨fun u h1 h2 h3 => h.st u h1 h2 (fun h => h3 (.inl h)), ht⟩
  · -- it reads
    have fin : ∀ v, (i < n → v = vals i) → RV P ops md us (S i) a0 (fun j => L j ∨ j = i) (upd vals i v) w i → (n ≤ i → i ∈ us) → ∃ vals' n', (∀ j, L j ∨ j = i → upd vals i v j = vals' j) ∧ AtU P ops md ms us S Q a0 (fun j => L j ∨ j = i) vals' w n' := by
      intro v hv hR hu0
      have hun : ∀ k, k < n ∨ k ≠ i → vals k = upd vals i v k := fun k hk => by
        by_cases e : k = i
        · subst e
          rw [upd_at]
          rcases hk with hk | hk
          · exact (hv hk).symm
          · exact absurd rfl hk
        · exact (upd_ne v e).symm
      refine ⟨upd vals i v, n, fun _ _ => rfl, hlt, hD, h.next, fun m hm hlm => .inl (h.none m hm hlm), fun m hm hle hLm => ?_, fun k hk hkm => ?_, fun k hk hu => ?_, fun u h1 h2 h3 => h.st u h1 h2 (fun h => h3 (.inl h)), h.ex, ?_⟩
      · rcases hLm with hLm | rfl
        · exact h.far m hm hle hLm
        · exact him hm
      · by_cases e : k = i
        · subst e; exact hR
        · refine rv_congr ok (hun k (.inl hk)) (fun j hj => hun j (.inl ?_)) (fun _ hL' => ⟨fun hh => hL' (.inl hh), rfl⟩) (h.rv k hk hkm)
          have := ok.before _ _ hj
          omega
      · rcases hk with hk | rfl
        · exact rv_congr ok (hun k (.inr (by rintro rfl; exact hi hk))) (fun j hj => hun j (.inr (by rintro rfl; exact hi (h.down k j hk hj)))) (fun hu' => absurd hu hu') (h.rvu k hk hu)
        · exact hR
      · rw [← putTo_congr (M := fun _ => True) (L := fun _ => True) (vals := vals) n (fun _ _ => Iff.rfl) (fun j hj _ => hun j (.inl hj))]
        exact h.text
    have hactu : ∀ v, actAt ops md a0 (upd vals i v) i = actAt ops md a0 vals i := fun v => (putTo_congr _ (fun _ _ => Iff.rfl) (fun j _ hj => (upd_ne v (by rintro rfl; exact hi (hE j hj))).symm)).symm
    by_cases hin : i < n
    · have hR := h.rv i hin him
      have hR' : RV P ops md us (S i) a0 (fun j => L j ∨ j = i) (upd vals i (vals i)) w i := fun o' ho' => by
        rw [hactu, upd_at]
        obtain ⟨h1, h2, h3⟩ := hR o' ho'
        exact ⟨h1, fun a b c => absurd (.inr rfl) c, h3⟩
      obtain ⟨h1, h2, h3⟩ := hR o ho
      refine ⟨fun hw => ?_, fun hw => ?_⟩
      · have hrun : (execOp (actAt ops md a0 vals i).eval o).run P w = .ok (.value (vals i)) w := by
          by_cases hu : i ∈ us
          · exact h1 hw hu w (h.st i hu his hi)
          · exact h2 hw hu hi
        rw [hrun]
        exact fin (vals i) (fun _ => rfl) hR' (fun h => by omega)
      · have := fin (vals i) (fun _ => rfl) hR' (fun h => by omega)
        rw [h3 hw] at this
        exact this
    · have hn := h.next.2 (by omega)
      have hni : n < i := by
        rcases Nat.lt_or_ge n i with h1 | h1
        · exact h1
        · have : i = n := by omega
          subst this
          exact absurd hn him
      have hu : i ∈ us := by
        by_cases hu : i ∈ us
        · exact hu
        · exact absurd (waits_in ok h.down i hE (so.post n hn i his hu hni)) (h.far n hn (Nat.le_refl _))
      obtain ⟨vals', w', e1, e2⟩ := latu_reach (L := L) (ms := ms) ok h.down h.ex his (i - n) n vals w rfl (by omega) (fun j hj => h.inU ok so j hj) (fun j hj hle hm => h.far j hm hle hj) h.rvu h.text
      have hdrop : ops.toList.drop i = o :: ops.toList.drop (i + 1) := by
        rw [List.drop_eq_getElem_cons (by simpa using his)]
        congr 1
        have := (Array.getElem?_eq_some_iff.1 ho).2
        simpa using this
      have hag := text_agree (a0 := a0) (vals := vals') ok ho
      have hact : actAt ops md a0 vals' i = actAt ops md a0 vals i := (putTo_congr _ (fun _ _ => Iff.rfl) (fun j _ hj => (e1 j (hE j hj)))).symm
      rw [hdrop] at e2
      simp only [wpLatu] at e2
      rw [wanted_agree hag, exec_agree (ok.sel i o · · ho) hag, hact] at e2
      refine ⟨fun hw => ?_, fun hw => ?_⟩
      · rw [if_pos hw, if_neg him, if_pos hu] at e2
        obtain ⟨v, hv, _⟩ := e2
        rw [hv w (h.st i hu his hi)]
        refine fin v (fun hh => absurd hh hin) (fun o' ho' => ?_) (fun _ => hu)
        rw [ho] at ho'
        injection ho' with ho'
        subst ho'
        rw [hactu, upd_at]
        exact ⟨fun _ _ => hv, fun _ hh => absurd hu hh, fun hh => by rw [hw] at hh; cases hh⟩
      · refine fin undef (fun hh => absurd hh hin) (fun o' ho' => ?_) (fun _ => hu)
        rw [ho] at ho'
        injection ho' with ho'
        subst ho'
        rw [hactu, upd_at]
        exact ⟨(fun hh => by rw [hw] at hh; cases hh), (fun hh => by rw [hw] at hh; cases hh), fun _ => rfl⟩

theorem latu_any (ok : FreeOk md ops) (so : SeqOk md ops ms us) {Q : Act → World → Prop} {Q' : Exit → Act → World → Prop} (hQ : ∀ a w, Q a w → Q' .normal a w) : ∀ (fuel : Nat) (listed : Array Bool) (vals : Nat → Value) (w : World) (n : Nat) (U : List Nat), listed.size = ops.size → U.length ≤ fuel → (∀ j, j < ops.size → listed.getD j false = false → j ∈ U) →
      AtU P ops md ms us S Q a0 (fun j => listed.getD j false = true) vals w n → wpAny P md ops Q' fuel listed (putTo ops a0 vals (fun j => listed.getD j false = true) ops.size) w := by
  intro fuel
  have hall : ∀ (listed : Array Bool) (vals : Nat → Value) (w : World) (n : Nat), (∀ j, j < ops.size → listed.getD j false = true) → AtU P ops md ms us S Q a0 (fun j => listed.getD j false = true) vals w n → Q' .normal (putTo ops a0 vals (fun j => listed.getD j false = true) ops.size) w := by
    intro listed vals w n h1 hA
    have hn : n = ops.size := by
      rcases Nat.lt_or_ge n ops.size with h2 | h2
      · exact absurd (h1 n h2) (hA.far n (hA.next.2 h2) (Nat.le_refl _))
      · have := hA.next.1; omega
    subst hn
    have ht := hA.text
    rw [List.drop_eq_nil_of_le (by simp)] at ht
    simp only [wpLatu] at ht
    rw [putTo_congr (M := fun _ => True) (vals' := vals) ops.size (fun j hj => ⟨fun _ => trivial, fun _ => h1 j hj⟩) (fun _ _ _ => rfl)]
    exact hQ _ _ ht
  have hnone : ∀ (listed : Array Bool), listed.size = ops.size → (∀ j, j < ops.size → listed.getD j false = true) → Region.ready md ops listed = [] := by
    intro listed hsz h1
    refine List.eq_nil_iff_forall_not_mem.2 fun j hj => ?_
    obtain ⟨h2, o, ho, _⟩ := mem_ready.1 hj
    have hjn := (Array.getElem?_eq_some_iff.1 ho).1
    have h3 := h1 j hjn
    simp [hsz, hjn] at h2 h3
    rw [h2] at h3; cases h3
  have hfull : ∀ (listed : Array Bool), listed.size = ops.size → Region.ready md ops listed = [] → ∀ j, j < ops.size → listed.getD j false = true := by
    intro listed hsz hnil j
    induction j using Nat.strongRecOn with
    | ind j ih =>
      intro hj
      cases hjl : listed.getD j false with
      | true => rfl
      | false =>
        exfalso
        obtain ⟨o, ho⟩ : ∃ o, ops[j]? = some o := ⟨_, Array.getElem?_eq_getElem hj⟩
        have : j ∈ Region.ready md ops listed := mem_ready.2 ⟨by simp [hsz, hj] at hjl ⊢; exact hjl, o, ho, fun e he hb => by
          have := ok.before j e.on ⟨o, e, ho, he, hb, rfl⟩
          exact ih e.on this (by omega)⟩
        rw [hnil] at this
        cases this
  induction fuel with
  | zero =>
    intro listed vals w n U hsz hU hin hA
    have h1 : ∀ j, j < ops.size → listed.getD j false = true := fun j hj => by
      cases hjl : listed.getD j false with
      | true => rfl
      | false =>
        have := hin j hj hjl
        rw [List.eq_nil_of_length_eq_zero (by omega : U.length = 0)] at this
        cases this
    exact ⟨hnone listed hsz h1, hall listed vals w n h1 hA⟩
  | succ fuel ih =>
    intro listed vals w n U hsz hU hin hA
    refine ⟨fun hnil => hall listed vals w n (hfull listed hsz hnil) hA, fun i hi => ?_⟩
    obtain ⟨hi0, o, ho, hde⟩ := mem_ready.1 hi
    have hin' : i < ops.size := (Array.getElem?_eq_some_iff.1 ho).1
    have hi1 : listed.getD i false = false := by simp [hsz, hin'] at hi0 ⊢; exact hi0
    have hE : ∀ j, Edge' md ops i j → listed.getD j false = true := by
      rintro j ⟨o', e, ho', he, hb, rfl⟩
      rw [ho] at ho'
      injection ho' with ho'
      subst ho'
      exact hde e he hb
    have hnot : ¬ listed.getD i false = true := by rw [hi1]; simp
    have hs := hA.step ok so ho hE hnot
    have hag : AgreeOn (o.looksAt ops) (putTo ops a0 vals (fun j => listed.getD j false = true) ops.size) (actAt ops md a0 vals i) :=
      looks_agree ok ho (fun j hj => ⟨hE j hj, by have := ok.before _ _ hj; omega⟩) (fun j hj h => hnot (hA.down j i h.1 hj))
    have hdst : dstOf ops i = o.dst := by simp [dstOf, ho]
    have next : ∀ v w', (∃ vals' n', (∀ j, listed.getD j false = true ∨ j = i → upd vals i v j = vals' j) ∧ AtU P ops md ms us S Q a0 (fun j => listed.getD j false = true ∨ j = i) vals' w' n') → wpAny P md ops Q' fuel (listed.setIfInBounds i true) ((putTo ops a0 vals (fun j => listed.getD j false = true) ops.size).put o.dst v) w' := by
      rintro v w' ⟨vals', n', hag', hA'⟩
      have hset : ∀ j, (listed.setIfInBounds i true).getD j false = true ↔ (listed.getD j false = true ∨ j = i) := fun j => by
        by_cases e : j = i
        · subst e; simp [hsz, hin']
        · rw [getD_set_ne false (fun h => e h.symm)]; simp [e]
      have hfun : (fun j => (listed.setIfInBounds i true).getD j false = true) = (fun j => listed.getD j false = true ∨ j = i) := by
        funext j; exact propext (hset j)
      rw [← hdst, putTo_add ok.distinct hnot ops.size hin', putTo_congr (M := fun j => listed.getD j false = true ∨ j = i) (vals' := vals') ops.size (fun _ _ => Iff.rfl) (fun j _ hj => hag' j hj), ← hfun]
      refine ih (listed.setIfInBounds i true) vals' w' n' (U.erase i) (by simp [hsz]) ?_ ?_ ?_
      · have := List.length_erase_of_mem (hin i hin' hi1)
        have := List.length_pos_of_mem (hin i hin' hi1)
        omega
      · intro j hj hjl
        have hne : j ≠ i := by
          rintro rfl
          have := (hset j).2 (.inr rfl)
          rw [this] at hjl; cases hjl
        rw [getD_set_ne false (fun h => hne h.symm)] at hjl
        exact (List.mem_erase_of_ne hne).2 (hin j hj hjl)
      · rw [hfun]
        exact hA'
    unfold wpOp
    simp only [ho]
    rw [wanted_agree hag]
    split
    · rename_i hwt
      refine .inl ?_
      unfold Oper.wp
      rw [exec_agree (ok.sel i o · · ho) hag]
      exact upN_upon (fun v w' hst' => next v w' hst') (hs.1 hwt)
    · rename_i hwt
      exact next undef w (hs.2 (by simpa using hwt))

/-- One walk in the order of the text, world by world, serves every order. -/
theorem any_of_latu {l : List Oper} {Q : Exit → Act → World → Prop} {a : Act} {w : World} (hB : freeB .any l.toArray = true) (hS : seqB l.toArray ms us .any = true)
    (hw : ∀ u, u ∈ us → S u w) (h : wpLatu P l.toArray .any ms us S (fun a' w' => Q .normal a' w') 0 l a w) : wpAny P .any l.toArray Q l.toArray.size (Array.replicate l.toArray.size false) a w := by
  obtain ⟨vals, n, hA⟩ := AtU.begin (P := P) (ops := l.toArray) (md := .any) (ms := ms) (us := us) (S := S) (a0 := a) (freeOk hB) (Q := fun a' w' => Q .normal a' w') hw (by simpa using h)
  have no : ∀ j, ¬ (Array.replicate l.toArray.size false).getD j false = true := fun j hj => by rw [rep_false] at hj; cases hj
  have hfun : (fun j => (Array.replicate l.toArray.size false).getD j false = true) = (fun _ => False) := by funext j; exact propext ⟨fun h => (no j h).elim, fun h => h.elim⟩
  have h1 := latu_any (a0 := a) (freeOk hB) (seqOk hS) (Q' := Q) (fun _ _ h => h) l.toArray.size (Array.replicate l.toArray.size false) vals w n (List.range l.toArray.size) (by simp) (by simp) (fun j hj _ => List.mem_range.2 hj) (by rw [hfun]; exact hA)
  have e : putTo l.toArray a vals (fun j => (Array.replicate l.toArray.size false).getD j false = true) l.toArray.size = a := by
    have : ∀ k, putTo l.toArray a vals (fun j => (Array.replicate l.toArray.size false).getD j false = true) k = a := by
      intro k
      induction k with
      | zero => rfl
      | succ k ih => rw [putTo_no (no k), ih]
    exact this _
  rw [e] at h1
  exact h1
end
end Go.Proofs.YtiddhcabpmkolaaGreatDoor
set_option linter.unusedSimpArgs false
set_option linter.unusedVariables false
namespace Go.Proofs.YtiddhcabpmkolaaGreatDoor
open Go.RowKit
set_option maxRecDepth 100000

section
variable {P : Program} {md : Region.Mode} {ops : Array Oper} {Q : Exit → Act → World → Prop}
/-- Operations that end in one way: with a value, or with none. -/
def calmB (o : Oper) : Bool := match o.op with
  | .move _ | .assign _ | .pick .. | .alloc _ | .box .. | .build .. | .buildSlice .. | .load .. | .store .. | .nilCheck _ | .binOp .. | .unOp .. | .convert .. | .slice .. | .fieldAddr .. | .field .. | .indexAddr .. | .index .. | .extract .. => true
  | _ => false
def tame (r : Result Next) : Prop := match r with | .ok (.value _) _ => True | .ok .skip _ => True | .ok _ _ => False | .halt _ _ => True
theorem tame_v {s : Sem Value} {w : World} : tame ((do pure (Next.value (← s)) : Sem Next).run P w) := by
  simp only [Sem.run_bind]
  cases h : s.run P w with
  | ok v w' => simp [tame]
  | halt x w' => simp [tame]
theorem tame_u {s : Sem Unit} {w : World} : tame ((do s; pure Next.skip : Sem Next).run P w) := by
  simp only [Sem.run_bind]
  cases h : s.run P w with
  | ok v w' => simp [tame]
  | halt x w' => simp [tame]
theorem calm_tame {o : Oper} (h : calmB o = true) (ρ : Operand → Value) (w : World) : tame ((execOp ρ o).run P w) := by
  unfold calmB at h
  unfold execOp
  cases ho : o.op <;> simp only [ho] at h ⊢ <;> first | exact tame_v | exact tame_u | (simp [tame]; done) | (cases h; done) | skip
  · simp only [Sem.run_bind]
    generalize Sem.run P (asBool (ρ _)) w = r
    cases r <;> simp [tame]
  · (repeat' split) <;> first
      | (simp [tame, runtimePanic, goPanic]; done)
      | (simp only [Sem.run_bind]
         cases h : (program).run P w with
         | ok v w' =>
           simp only [Result.andThen_ok]
           cases h2 : (nilAhead (v.types.size + Made.depth) _ _ _).run P w' with
           | ok v2 w2 =>
             simp only [Result.andThen_ok]
             split <;> simp [tame, unsupported]
           | halt x w2 => simp [tame]
         | halt x w' => simp [tame])
/-- Two walks of one operation are one. -/
theorem calm_and {o : Oper} (h : calmB o = true) {a : Act} {w : World} {K1 K2 : Act → World → Prop} (h1 : o.wp P a w K1 Q) (h2 : o.wp P a w K2 Q) : o.wp P a w (fun a w => K1 a w ∧ K2 a w) Q := by
  have ht := calm_tame (P := P) h a.eval w
  unfold Oper.wp at *
  generalize (execOp a.eval o).run P w = r at *
  cases r with
  | ok n w' =>
    cases n <;> simp only [tame] at ht
    · exact ⟨h1, h2⟩
    · exact ⟨h1, h2⟩
  | halt x w' => cases x <;> simp only [Oper.upon] at h1 ⊢ <;> exact h1
/-- y waits for x as well. -/
def holdO (x : Nat) (o : Oper) : Oper := { o with after := o.after.push ⟨x, .data⟩ }
def holdA (x y : Nat) (ops : Array Oper) : Array Oper := ops.modify y (holdO x)
theorem hold_get {x y i : Nat} : (holdA x y ops)[i]? = (ops[i]?).map (fun o => if i = y then holdO x o else o) := by
  unfold holdA
  rw [Array.getElem?_modify]
  by_cases h : y = i
  · subst h; simp
  · rw [if_neg h]; cases ops[i]? <;> simp [Ne.symm h]
theorem hold_size {x y : Nat} : (holdA x y ops).size = ops.size := by unfold holdA; exact Array.size_modify
theorem hold_ready {x y i : Nat} {listed : Array Bool} (h : i ∈ Region.ready .any ops listed) (hy : i ≠ y ∨ listed.getD x false = true) : i ∈ Region.ready .any (holdA x y ops) listed := by
  unfold Region.ready at h ⊢
  rw [List.mem_filter] at h ⊢
  refine ⟨by rw [hold_size]; exact h.1, ?_⟩
  have h2 := h.2
  rw [hold_get]
  cases ho : ops[i]? with
  | none => rw [ho] at h2; simp at h2
  | some o =>
    rw [ho] at h2
    simp only [Option.map_some, Option.getD_some, Bool.and_eq_true] at h2 ⊢
    refine ⟨h2.1, ?_⟩
    split
    · rename_i hiy
      rcases hy with hy | hy
      · exact absurd hiy hy
      · simp only [holdO, Array.all_push, Bool.and_eq_true]
        exact ⟨h2.2, by simp [hy]⟩
    · exact h2.2
theorem hold_ready' {x y i : Nat} {listed : Array Bool} (h : i ∈ Region.ready .any (holdA x y ops) listed) : i ∈ Region.ready .any ops listed := by
  unfold Region.ready at h ⊢
  rw [List.mem_filter] at h ⊢
  refine ⟨by rw [hold_size] at h; exact h.1, ?_⟩
  have h2 := h.2
  rw [hold_get] at h2
  cases ho : ops[i]? with
  | none => rw [ho] at h2; simp at h2
  | some o =>
    rw [ho] at h2
    simp only [Option.map_some, Option.getD_some, Bool.and_eq_true] at h2 ⊢
    refine ⟨h2.1, ?_⟩
    have h3 := h2.2
    split at h3
    · simp only [holdO, Array.all_push, Bool.and_eq_true] at h3; exact h3.1
    · exact h3
theorem hold_wanted {x y : Nat} {o : Oper} {tmps : Array Value} : Region.wanted (holdO x o) (yielded (holdA x y ops) tmps) = Region.wanted o (yielded ops tmps) := by
  have hy : yielded (holdA x y ops) tmps = yielded ops tmps := by
    funext j
    unfold yielded
    rw [hold_get]
    cases ops[j]? with
    | none => rfl
    | some o =>
      simp only [Option.map_some, Option.bind_some]
      have : (if j = y then holdO x o else o).dst = o.dst := by split <;> rfl
      rw [this]
  rw [hy]
  rfl
theorem hold_op {x y i : Nat} {a : Act} {w : World} {K K' : Act → World → Prop} (hK : ∀ a w, K a w → K' a w) (h : wpOp P (holdA x y ops) Q i K a w) : wpOp P ops Q i K' a w := by
  unfold wpOp at h ⊢
  rw [hold_get] at h
  cases ho : ops[i]? with
  | none => rw [ho] at h; exact hK _ _ h
  | some o =>
    rw [ho] at h
    simp only [Option.map_some] at h ⊢
    have hw : Region.wanted (if i = y then holdO x o else o) (yielded (holdA x y ops) a.tmps) = Region.wanted o (yielded ops a.tmps) := by
      split
      · exact hold_wanted
      · exact hold_wanted (o := o)
    rw [hw] at h
    have he : ∀ (K : Act → World → Prop), (if i = y then holdO x o else o).wp P a w K Q = o.wp P a w K Q := fun K => by split <;> rfl
    have ha : (if i = y then holdO x o else o).asks P a w = o.asks P a w := by split <;> rfl
    have hd : (if i = y then holdO x o else o).dst = o.dst := by split <;> rfl
    rw [he, ha, hd] at h
    split
    · rename_i hw; rw [if_pos hw] at h; exact h.imp (Oper.wp_mono hK) id
    · rename_i hw; rw [if_neg hw] at h; exact hK _ _ h
theorem hold_drop {x y : Nat} : ∀ (fuel : Nat) (listed : Array Bool) (a : Act) (w : World), listed.getD x false = true → wpAny P .any (holdA x y ops) Q fuel listed a w → wpAny P .any ops Q fuel listed a w := by
  intro fuel
  have hr : ∀ listed : Array Bool, listed.getD x false = true → ∀ i, i ∈ Region.ready .any ops listed → i ∈ Region.ready .any (holdA x y ops) listed := fun listed hx i hi => hold_ready hi (.inr hx)
  have hn : ∀ listed : Array Bool, Region.ready .any ops listed = [] → Region.ready .any (holdA x y ops) listed = [] := fun listed h => by
    cases he : Region.ready .any (holdA x y ops) listed with
    | nil => rfl
    | cons i l => have := hold_ready' (x := x) (y := y) (ops := ops) (listed := listed) (i := i) (by rw [he]; exact List.mem_cons_self); rw [h] at this; cases this
  induction fuel with
  | zero =>
    intro listed a w hx h
    refine ⟨?_, h.2⟩
    cases he : Region.ready .any ops listed with
    | nil => rfl
    | cons i l => have := hr listed hx i (by rw [he]; exact List.mem_cons_self); rw [h.1] at this; cases this
  | succ fuel ih =>
    intro listed a w hx h
    refine ⟨fun h0 => h.1 (hn listed h0), fun i hi => hold_op (fun a w => ih _ a w ?_) (h.2 i (hr listed hx i hi))⟩
    rw [Array.getD_eq_getD_getElem?] at hx ⊢
    rw [Array.getElem?_setIfInBounds]
    split
    · split
      · rfl
      · rename_i h1 h2
        subst h1
        rw [Array.getElem?_eq_none (by omega)] at hx
        exact hx
    · exact hx
/-- Whichever of two comes first. -/
theorem hold_split {x y : Nat} (hxy : x ≠ y) (hc : ∀ i o, ops[i]? = some o → i ≠ x → i ≠ y → calmB o = true ∨ (o.after.any (fun e => Region.binds .any e && (e.on == x || e.on == y))) = true) :
    ∀ (fuel : Nat) (listed : Array Bool) (a : Act) (w : World), listed.getD x false = false → listed.getD y false = false → wpAny P .any (holdA x y ops) Q fuel listed a w → wpAny P .any (holdA y x ops) Q fuel listed a w → wpAny P .any ops Q fuel listed a w := by
  have hn : ∀ listed : Array Bool, Region.ready .any ops listed = [] → Region.ready .any (holdA x y ops) listed = [] := fun listed h => by
    cases he : Region.ready .any (holdA x y ops) listed with
    | nil => rfl
    | cons i l => have := hold_ready' (x := x) (y := y) (ops := ops) (listed := listed) (i := i) (by rw [he]; exact List.mem_cons_self); rw [h] at this; cases this
  have hset : ∀ (listed : Array Bool) (i j : Nat), i ≠ j → listed.getD j false = false → (listed.setIfInBounds i true).getD j false = false := fun listed i j hij h => by
    rw [Array.getD_eq_getD_getElem?] at h ⊢
    rw [Array.getElem?_setIfInBounds, if_neg hij]
    exact h
  have hme : ∀ (listed : Array Bool) (i : Nat), i ∈ Region.ready .any ops listed → (listed.setIfInBounds i true).getD i false = true := fun listed i hi => by
    unfold Region.ready at hi
    rw [List.mem_filter] at hi
    have h2 := hi.2
    simp only [Bool.and_eq_true, Bool.not_eq_true'] at h2
    have h3 := h2.1
    have hlt : i < listed.size := by
      by_cases h : i < listed.size
      · exact h
      · rw [Array.getD_eq_getD_getElem?, Array.getElem?_eq_none (by omega)] at h3; cases h3
    rw [Array.getD_eq_getD_getElem?, Array.getElem?_setIfInBounds, if_pos rfl, if_pos hlt]
    rfl
  intro fuel
  induction fuel with
  | zero =>
    intro listed a w hx hy h1 h2
    refine ⟨?_, h1.2⟩
    cases he : Region.ready .any ops listed with
    | nil => rfl
    | cons i l =>
      have hi : i ∈ Region.ready .any ops listed := by rw [he]; exact List.mem_cons_self
      by_cases hiy : i = y
      · have := hold_ready (x := y) (y := x) hi (.inl (by omega)); rw [h2.1] at this; cases this
      · have := hold_ready (x := x) (y := y) hi (.inl hiy); rw [h1.1] at this; cases this
  | succ fuel ih =>
    intro listed a w hx hy h1 h2
    refine ⟨fun h0 => h1.1 (hn listed h0), fun i hi => ?_⟩
    by_cases hix : i = x
    · subst hix
      exact hold_op (fun a w => hold_drop _ _ a w (hme listed i hi)) (h1.2 i (hold_ready hi (.inl hxy)))
    · by_cases hiy : i = y
      · subst hiy
        exact hold_op (fun a w => hold_drop _ _ a w (hme listed i hi)) (h2.2 i (hold_ready hi (.inl (Ne.symm hxy))))
      · have k1 := h1.2 i (hold_ready hi (.inl hiy))
        have k2 := h2.2 i (hold_ready hi (.inl hix))
        have k1' := hold_op (fun a w (h : wpAny P .any (holdA x y ops) Q fuel (listed.setIfInBounds i true) a w) => h) k1
        have k2' := hold_op (fun a w (h : wpAny P .any (holdA y x ops) Q fuel (listed.setIfInBounds i true) a w) => h) k2
        refine wpOp_mono (K := fun a w => wpAny P .any (holdA x y ops) Q fuel (listed.setIfInBounds i true) a w ∧ wpAny P .any (holdA y x ops) Q fuel (listed.setIfInBounds i true) a w) (fun a w h => ih _ a w (hset _ _ _ hix hx) (hset _ _ _ hiy hy) h.1 h.2) ?_
        unfold wpOp at k1' k2' ⊢
        cases ho : ops[i]? with
        | none => rw [ho] at k1' k2'; exact ⟨k1', k2'⟩
        | some o =>
          rw [ho] at k1' k2'
          simp only at k1' k2' ⊢
          split
          · rename_i hw
            rw [if_pos hw] at k1' k2'
            rcases k1' with k1' | k1'
            · rcases k2' with k2' | k2'
              · rcases hc i o ho hix hiy with hcalm | haft
                · exact .inl (calm_and hcalm k1' k2')
                · exfalso
                  unfold Region.ready at hi
                  rw [List.mem_filter, ho] at hi
                  have h3 := hi.2
                  simp only [Option.map_some, Option.getD_some, Bool.and_eq_true] at h3
                  obtain ⟨j, hj, h4⟩ := Array.any_eq_true.1 haft
                  have h5 := Array.all_eq_true.1 h3.2 j hj
                  simp only [Bool.and_eq_true, Bool.or_eq_true, beq_iff_eq, Bool.not_eq_true'] at h4 h5
                  obtain ⟨h4a, h4b⟩ := h4
                  rw [h4a] at h5
                  rcases h5 with h5 | h5
                  · cases h5
                  · rcases h4b with h4b | h4b
                    · rw [h4b, hx] at h5; cases h5
                    · rw [h4b, hy] at h5; cases h5
              · exact .inr k2'
            · exact .inr k1'
          · rename_i hw
            rw [if_neg hw] at k1' k2'
            exact ⟨k1', k2'⟩
end
/-! ### One operation moved to the front -/
def ren (p j : Nat) : Nat := if j = p then 0 else if j < p then j + 1 else j
def unr (p j : Nat) : Nat := if j = 0 then p else if j ≤ p then j - 1 else j
theorem ren_unr (p j : Nat) : ren p (unr p j) = j := by unfold ren unr; split <;> (try split) <;> (try split) <;> (try split) <;> omega
theorem ren_inj {p i j : Nat} (h : ren p i = ren p j) : i = j := by unfold ren at h; split at h <;> (try split at h) <;> (try split at h) <;> (try split at h) <;> omega
def renO (p : Nat) (o : Oper) : Oper := { o with after := o.after.map (fun e => { e with on := ren p e.on }), guard := o.guard.map (fun g => (ren p g.1, g.2)) }
def frontL (p : Nat) (l : List Oper) : List Oper := match l[p]? with | some o => renO p o :: (l.eraseIdx p).map (renO p) | none => l
theorem front_get {p : Nat} {l : List Oper} (hp : p < l.length) (i : Nat) : (frontL p l)[ren p i]? = (l[i]?).map (renO p) := by
  have ho : l[p]? = some l[p] := List.getElem?_eq_getElem hp
  unfold frontL
  rw [ho]
  simp only
  by_cases h1 : i = p
  · subst h1
    have : ren i i = 0 := by simp [ren]
    rw [this, ho]; rfl
  · by_cases h2 : i < p
    · have : ren p i = i + 1 := by unfold ren; rw [if_neg h1, if_pos h2]
      rw [this, List.getElem?_cons_succ, List.getElem?_map, List.getElem?_eraseIdx, if_pos h2]
    · have : ren p i = (i - 1) + 1 := by unfold ren; rw [if_neg h1, if_neg h2]; omega
      rw [this, List.getElem?_cons_succ, List.getElem?_map, List.getElem?_eraseIdx, if_neg (by omega)]
      congr 2; omega
theorem front_length {p : Nat} {l : List Oper} (hp : p < l.length) : (frontL p l).length = l.length := by
  have ho : l[p]? = some l[p] := List.getElem?_eq_getElem hp
  unfold frontL
  rw [ho]
  simp only [List.length_cons, List.length_map, List.length_eraseIdx, if_pos hp]
  omega
section
variable {P : Program} {md : Region.Mode} {l : List Oper} {Q : Exit → Act → World → Prop} {p : Nat}
theorem front_edges {o : Oper} {listed listed' : Array Bool} (H : ∀ i, listed'[ren p i]? = listed[i]?) :
    ((renO p o).after.all fun e => !Region.binds md e || listed'.getD e.on false) = (o.after.all fun e => !Region.binds md e || listed.getD e.on false) := by
  unfold renO
  simp only [Array.all_map]
  congr 1
  funext e
  simp only [Function.comp]
  rw [Array.getD_eq_getD_getElem?, Array.getD_eq_getD_getElem?, H]
  rfl
theorem front_ready (hp : p < l.length) {listed listed' : Array Bool} (H : ∀ i, listed'[ren p i]? = listed[i]?) (i : Nat) : ren p i ∈ Region.ready md (frontL p l).toArray listed' ↔ i ∈ Region.ready md l.toArray listed := by
  unfold Region.ready
  rw [List.mem_filter, List.mem_filter, List.mem_range, List.mem_range]
  simp only [List.size_toArray, front_length hp, List.getElem?_toArray, front_get hp, Array.getD_eq_getD_getElem?, H]
  have hlt : ren p i < l.length ↔ i < l.length := by unfold ren; split <;> (try split) <;> omega
  rw [hlt]
  cases l[i]? with
  | none => simp
  | some o =>
    simp only [Option.map_some, Option.getD_some]
    have := front_edges (md := md) (o := o) H
    simp only [Array.getD_eq_getD_getElem?] at this
    rw [this]
theorem front_op (hp : p < l.length) {i : Nat} {a : Act} {w : World} {K K' : Act → World → Prop} (hK : ∀ a w, K a w → K' a w) (h : wpOp P (frontL p l).toArray Q (ren p i) K a w) : wpOp P l.toArray Q i K' a w := by
  unfold wpOp at h ⊢
  simp only [List.getElem?_toArray, front_get hp] at h ⊢
  cases ho : l[i]? with
  | none => rw [ho] at h; exact hK _ _ h
  | some o =>
    rw [ho] at h
    simp only [Option.map_some] at h ⊢
    have hy : ∀ j, yielded (frontL p l).toArray a.tmps (ren p j) = yielded l.toArray a.tmps j := fun j => by
      unfold yielded
      simp only [List.getElem?_toArray, front_get hp]
      cases l[j]? with
      | none => rfl
      | some o => rfl
    have hw : Region.wanted (renO p o) (yielded (frontL p l).toArray a.tmps) = Region.wanted o (yielded l.toArray a.tmps) := by
      unfold Region.wanted renO
      cases hg : o.guard with
      | none => rfl
      | some g =>
        obtain ⟨g1, g2⟩ := g
        simp only [Option.map_some]
        rw [hy]
    rw [hw] at h
    split
    · rename_i hw; rw [if_pos hw] at h; exact h.imp (fun h => Oper.wp_mono hK h) id
    · rename_i hw; rw [if_neg hw] at h; exact hK _ _ h
theorem front_any (hp : p < l.length) : ∀ (fuel : Nat) (listed listed' : Array Bool) (a : Act) (w : World), (∀ i, listed'[ren p i]? = listed[i]?) → wpAny P md (frontL p l).toArray Q fuel listed' a w → wpAny P md l.toArray Q fuel listed a w := by
  intro fuel
  have hn : ∀ (listed listed' : Array Bool), (∀ i, listed'[ren p i]? = listed[i]?) → (Region.ready md l.toArray listed = [] ↔ Region.ready md (frontL p l).toArray listed' = []) := fun listed listed' H => by
    constructor
    · intro h
      cases he : Region.ready md (frontL p l).toArray listed' with
      | nil => rfl
      | cons j t =>
        have hj : j ∈ Region.ready md (frontL p l).toArray listed' := by rw [he]; exact List.mem_cons_self
        rw [← ren_unr p j] at hj
        have := (front_ready (md := md) hp H _).1 hj
        rw [h] at this; cases this
    · intro h
      cases he : Region.ready md l.toArray listed with
      | nil => rfl
      | cons j t =>
        have hj : j ∈ Region.ready md l.toArray listed := by rw [he]; exact List.mem_cons_self
        have := (front_ready (md := md) hp H _).2 hj
        rw [h] at this; cases this
  induction fuel with
  | zero => intro listed listed' a w H h; exact ⟨(hn listed listed' H).2 h.1, h.2⟩
  | succ fuel ih =>
    intro listed listed' a w H h
    refine ⟨fun h0 => h.1 ((hn listed listed' H).1 h0), fun i hi => front_op hp (fun a w => ih _ _ a w (fun j => ?_)) (h.2 (ren p i) ((front_ready (md := md) hp H i).2 hi))⟩
    rw [Array.getElem?_setIfInBounds, Array.getElem?_setIfInBounds]
    by_cases hij : i = j
    · subst hij
      rw [if_pos rfl, if_pos rfl]
      have hs : (ren p i < listed'.size) ↔ i < listed.size := by
        have := H i
        by_cases h1 : ren p i < listed'.size
        · rw [Array.getElem?_eq_getElem h1] at this
          have h2 := (Array.getElem?_eq_some_iff.1 this.symm).1
          exact ⟨fun _ => h2, fun _ => h1⟩
        · rw [Array.getElem?_eq_none (by omega)] at this
          have h2 := Array.getElem?_eq_none_iff.1 this.symm
          exact ⟨fun h => absurd h h1, fun h => by omega⟩
      by_cases h1 : i < listed.size
      · rw [if_pos h1, if_pos (hs.2 h1)]
      · rw [if_neg h1, if_neg (fun h => h1 (hs.1 h))]
    · rw [if_neg hij, if_neg (fun h => hij (ren_inj h))]
      exact H j
end
/-- A walk in the order of the text covers every order. -/
theorem any_of_seq {P : Program} {l : List Oper} (S : World → Prop) {Q : Exit → Act → World → Prop} {a : Act} {w : World} (ms us : List Nat) (hB : freeB .any l.toArray = true) (hS : seqB l.toArray ms us .any = true)
    (hw : S w) (h : wpSeq P l.toArray ms us S (fun a' w' => Q .normal a' w') 0 l a w) : wpAny P .any l.toArray Q l.toArray.size (Array.replicate l.toArray.size false) a w := by
  obtain ⟨vals, n, hA⟩ := At.begin (P := P) (ops := l.toArray) (md := .any) (ms := ms) (us := us) (S := S) (a0 := a) (freeOk hB) (Q := fun a' w' => Q .normal a' w') hw (by simpa using h)
  have no : ∀ j, ¬ (Array.replicate l.toArray.size false).getD j false = true := fun j hj => by rw [rep_false] at hj; cases hj
  have hfun : (fun j => (Array.replicate l.toArray.size false).getD j false = true) = (fun _ => False) := by funext j; exact propext ⟨fun h => (no j h).elim, fun h => h.elim⟩
  have h1 := seq_any (a0 := a) (freeOk hB) (seqOk hS) (Q' := Q) (fun _ _ h => h) l.toArray.size (Array.replicate l.toArray.size false) vals w n (List.range l.toArray.size) (by simp) (by simp) (fun j hj _ => List.mem_range.2 hj) (by rw [hfun]; exact hA)
  have e : putTo l.toArray a vals (fun j => (Array.replicate l.toArray.size false).getD j false = true) l.toArray.size = a := by
    have : ∀ k, putTo l.toArray a vals (fun j => (Array.replicate l.toArray.size false).getD j false = true) k = a := by
      intro k
      induction k with
      | zero => rfl
      | succ k ih => rw [putTo_no (no k), ih]
    exact this _
  rw [e] at h1
  exact h1
def holdL (x y : Nat) (l : List Oper) : List Oper := (holdA x y l.toArray).toList
def calmsB (x y : Nat) (l : List Oper) : Bool := (List.range l.length).all fun i => match l[i]? with | none => true | some o => i == x || i == y || calmB o || o.after.any (fun e => Region.binds .any e && (e.on == x || e.on == y))
/-- A region in which x (which waits for nothing) and y < x may come in either order: x ahead of all, or behind y. -/
theorem wp_region_two {P : Program} (x y : Nat) (S1 S2 : World → Prop) {id : Nat} {Q : Exit → Act → World → Prop} {a : Act} {w : World} {l : List Oper} (ms1 us1 ms2 us2 : List Nat) (hm : P.follows .mixedOrders = true)
    (hc : calmsB x y l = true) (hxy : (x != y && decide (x < l.length)) = true)
    (hB1 : freeB .any (frontL x (holdL x y l)).toArray = true) (hQ1 : seqB (frontL x (holdL x y l)).toArray ms1 us1 .any = true) (hB2 : freeB .any (holdL y x l).toArray = true) (hQ2 : seqB (holdL y x l).toArray ms2 us2 .any = true)
    (hw1 : S1 w.drew) (hw2 : S2 w.drew)
    (h1 : wpSeq P (frontL x (holdL x y l)).toArray ms1 us1 S1 (fun a' w' => Q .normal a' w') 0 (frontL x (holdL x y l)) a w.drew)
    (h2 : wpSeq P (holdL y x l).toArray ms2 us2 S2 (fun a' w' => Q .normal a' w') 0 (holdL y x l) a w.drew) : (Code.region id l.toArray true).wp P Q a w := by
  simp only [Bool.and_eq_true, bne_iff_ne, ne_eq, decide_eq_true_eq] at hxy
  have hz1 : (holdL x y l).length = l.length := by unfold holdL; rw [Array.length_toList, hold_size, List.size_toArray]
  have hz2 : (holdL y x l).length = l.length := by unfold holdL; rw [Array.length_toList, hold_size, List.size_toArray]
  have no : ∀ j, (Array.replicate l.toArray.size false).getD j false = false := fun j => rep_false _ j
  have k1 := any_of_seq (Q := Q) S1 ms1 us1 hB1 hQ1 hw1 h1
  have k2 := any_of_seq (Q := Q) S2 ms2 us2 hB2 hQ2 hw2 h2
  have k1 := front_any (p := x) (l := holdL x y l) (by rw [hz1]; exact hxy.2) _ (Array.replicate l.toArray.size false) _ a w.drew (fun i => by
    rw [Array.getElem?_replicate, Array.getElem?_replicate]
    simp only [List.size_toArray]
    rw [front_length (by rw [hz1]; exact hxy.2), hz1]
    have : ren x i < l.length ↔ i < l.length := by have := hxy.2; unfold ren; split <;> (try split) <;> omega
    by_cases h : i < l.length
    · rw [if_pos h, if_pos (this.2 h)]
    · rw [if_neg h, if_neg (fun e => h (this.1 e))]) k1
  refine wp_region_any hm ?_
  have e1 : (frontL x (holdL x y l)).toArray.size = l.toArray.size := by simp only [List.size_toArray]; rw [front_length (by rw [hz1]; exact hxy.2), hz1]
  have e2 : (holdL y x l).toArray.size = l.toArray.size := by simp only [List.size_toArray]; exact hz2
  rw [e1] at k1
  rw [e2] at k2
  have t1 : (holdL x y l).toArray = holdA x y l.toArray := by unfold holdL; simp
  have t2 : (holdL y x l).toArray = holdA y x l.toArray := by unfold holdL; simp
  rw [t1] at k1
  rw [t2] at k2
  refine hold_split hxy.1 (fun i o ho hix hiy => ?_) _ _ a _ (no x) (no y) k1 k2
  have hil : i < l.length := by
    have := (Array.getElem?_eq_some_iff.1 ho).1
    simpa using this
  have h3 := List.all_eq_true.1 hc i (List.mem_range.2 hil)
  rw [show l[i]? = some o by simpa using ho] at h3
  simp only [Bool.or_eq_true, beq_iff_eq, hix, hiy, false_or] at h3
  exact h3
/-! ### The walk, operation by operation, in whatever order a list of numbers tells -/
structure Vw (l : List Oper) (g : Nat → Oper → Oper) (ops : Array Oper) : Prop where
  ex : ∀ i o (ρ : Operand → Value), execOp ρ (g i o) = execOp ρ o
  dst : ∀ i o, (g i o).dst = o.dst
  gd : ∀ i o, o.guard = none → (g i o).guard = none
  wt : ∀ i o tmps, l[i]? = some o → Region.wanted (g i o) (yielded ops tmps) = Region.wanted o (yielded l.toArray tmps)
def viewL (g : Nat → Oper → Oper) (l : List Oper) (is : List Nat) : List Oper := is.filterMap (fun i => (l[i]?).map (g i))
def wpView (P : Program) (l : List Oper) (g : Nat → Oper → Oper) (ops : Array Oper) (ms us : List Nat) (S : World → Prop) (Q : Act → World → Prop) (k : Nat) (is : List Nat) (a : Act) (w : World) : Prop := wpSeq P ops ms us S Q k (viewL g l is) a w
section
variable {P : Program} {l : List Oper} {g : Nat → Oper → Oper} {ops : Array Oper} {ms us : List Nat} {S : World → Prop} {Q : Act → World → Prop} {k i : Nat} {is : List Nat} {o : Oper} {a : Act} {w : World}
theorem view_cons (ho : l[i]? = some o) : viewL g l (i :: is) = g i o :: viewL g l is := by simp [viewL, ho]
theorem view_step (V : Vw l g ops) (ho : l[i]? = some o) (hk : k ∉ ms) (hu : k ∉ us)
    (h : ∀ K : Act → World → Prop, (∀ a w, wpView P l g ops ms us S Q (k + 1) is a w → K a w) → if Region.wanted o (yielded l.toArray a.tmps) = true then ∃ v, (execOp a.eval o).run P w = .ok (.value v) w ∧ K (a.put o.dst v) w else K (a.put o.dst undef) w) : wpView P l g ops ms us S Q k (i :: is) a w := by
  unfold wpView
  rw [view_cons ho]
  refine seq_step hk hu (fun K hK => ?_)
  have := h K hK
  rw [V.wt i o a.tmps ho, V.ex, V.dst]
  exact this
theorem view_free (V : Vw l g ops) (ho : l[i]? = some o) (hk : k ∉ ms) (hu : k ∈ us)
    (h : ∀ K : Act → World → Prop, (∀ a w, wpView P l g ops ms us S Q (k + 1) is a w → K a w) → if Region.wanted o (yielded l.toArray a.tmps) = true then ∃ v, steadyF P S o a v ∧ K (a.put o.dst v) w else K (a.put o.dst undef) w) : wpView P l g ops ms us S Q k (i :: is) a w := by
  unfold wpView
  rw [view_cons ho]
  refine seq_free hk hu (fun K hK => ?_)
  have := h K hK
  rw [V.wt i o a.tmps ho, V.dst]
  split
  · rename_i hw
    rw [if_pos hw] at this
    obtain ⟨v, h1, h2⟩ := this
    refine ⟨v, fun x hx => ?_, h2⟩
    have h3 := h1 x hx
    rw [V.ex]
    exact h3
  · rename_i hw
    rw [if_neg hw] at this
    exact this
theorem view_move (V : Vw l g ops) (ho : l[i]? = some o) (hk : k ∈ ms)
    (h : ∀ K : Act → World → Prop, (∀ a w, wpView P l g ops ms us S Q (k + 1) is a w → K a w) → if Region.wanted o (yielded l.toArray a.tmps) = true then upN P (fun v w' => S w' ∧ K (a.put o.dst v) w') ((execOp a.eval o).run P w) else K (a.put o.dst undef) w) : wpView P l g ops ms us S Q k (i :: is) a w := by
  unfold wpView
  rw [view_cons ho]
  refine seq_move hk (fun K hK => ?_)
  have := h K hK
  rw [V.wt i o a.tmps ho, V.ex, V.dst]
  exact this
theorem view_move0 (V : Vw l g ops) (ho : l[i]? = some o) (hk : k ∈ ms) (hg : o.guard = none) (h : upN P (fun v w' => S w' ∧ wpView P l g ops ms us S Q (k + 1) is (a.put o.dst v) w') ((execOp a.eval o).run P w)) : wpView P l g ops ms us S Q k (i :: is) a w := by
  unfold wpView
  rw [view_cons ho]
  refine seq_move0 hk (V.gd i o hg) ?_
  rw [V.ex, V.dst]
  exact h
theorem view_nil (h : Q a w) : wpView P l g ops ms us S Q k [] a w := h
end
def holdV (x y : Nat) (i : Nat) (o : Oper) : Oper := if i = y then holdO x o else o
def frontV (x y : Nat) (i : Nat) (o : Oper) : Oper := renO x (holdV x y i o)
theorem exec_holdO (x : Nat) (o : Oper) (ρ : Operand → Value) : execOp ρ (holdO x o) = execOp ρ o := rfl
theorem exec_renO (x : Nat) (o : Oper) (ρ : Operand → Value) : execOp ρ (renO x o) = execOp ρ o := rfl
theorem vw_hold (l : List Oper) (x y : Nat) : Vw l (holdV x y) (holdL x y l).toArray where
  ex i o ρ := by unfold holdV; split <;> rfl
  dst i o := by unfold holdV; split <;> rfl
  gd i o h := by unfold holdV; split <;> exact h
  wt i o tmps ho := by
    have e : (holdL x y l).toArray = holdA x y l.toArray := by unfold holdL; simp
    rw [e]
    unfold holdV
    split
    · exact hold_wanted
    · exact hold_wanted (o := o)
theorem holdL_get (l : List Oper) (x y i : Nat) : (holdL x y l)[i]? = (l[i]?).map (holdV x y i) := by
  unfold holdL
  rw [Array.getElem?_toList, hold_get]
  simp only [List.getElem?_toArray]
  rfl
theorem vw_front (l : List Oper) (x y : Nat) (hx : x < l.length) : Vw l (frontV x y) (frontL x (holdL x y l)).toArray where
  ex i o ρ := by unfold frontV; rw [exec_renO, (vw_hold l x y).ex]
  dst i o := by unfold frontV renO; exact (vw_hold l x y).dst i o
  gd i o h := by unfold frontV renO; simp only; rw [(vw_hold l x y).gd i o h]; rfl
  wt i o tmps ho := by
    have hz1 : (holdL x y l).length = l.length := by unfold holdL; rw [Array.length_toList, hold_size, List.size_toArray]
    rw [← (vw_hold l x y).wt i o tmps ho]
    have hy : ∀ j, yielded (frontL x (holdL x y l)).toArray tmps (ren x j) = yielded (holdL x y l).toArray tmps j := fun j => by
      unfold yielded
      simp only [List.getElem?_toArray, front_get (l := holdL x y l) (p := x) (by rw [hz1]; exact hx)]
      cases (holdL x y l)[j]? with
      | none => rfl
      | some o => rfl
    unfold frontV Region.wanted renO
    cases hg : (holdV x y i o).guard with
    | none => rfl
    | some g =>
      obtain ⟨g1, g2⟩ := g
      simp only [Option.map_some]
      rw [hy]
theorem view_hold (l : List Oper) (x y : Nat) : holdL x y l = viewL (holdV x y) l (List.range l.length) := by
  have hz1 : (holdL x y l).length = l.length := by unfold holdL; rw [Array.length_toList, hold_size, List.size_toArray]
  unfold viewL
  have h2 : ∀ (n : Nat), n ≤ l.length → (List.range n).filterMap (fun i => (l[i]?).map (holdV x y i)) = (holdL x y l).take n := by
    intro n
    induction n with
    | zero => intro _; simp
    | succ n ih =>
      intro hn
      rw [List.range_succ, List.filterMap_append, ih (by omega), List.take_add_one, holdL_get]
      congr 1
  rw [h2 l.length (Nat.le_refl _), ← hz1, List.take_length]
theorem view_front (l : List Oper) (x y : Nat) (hx : x < l.length) : frontL x (holdL x y l) = viewL (frontV x y) l (x :: (List.range l.length).eraseIdx x) := by
  have hz1 : (holdL x y l).length = l.length := by unfold holdL; rw [Array.length_toList, hold_size, List.size_toArray]
  have ho : l[x]? = some l[x] := List.getElem?_eq_getElem hx
  have ho2 : (holdL x y l)[x]? = some (holdV x y x l[x]) := by rw [holdL_get, ho]; rfl
  unfold frontL
  rw [ho2, view_cons ho]
  simp only
  congr 1
  rw [view_hold]
  unfold viewL
  have h3 : ∀ (is : List Nat) (p : Nat), (∀ i ∈ is, i < l.length) → ((is.filterMap fun i => (l[i]?).map (holdV x y i)).eraseIdx p).map (renO x) = (is.eraseIdx p).filterMap (fun i => (l[i]?).map (frontV x y i)) := by
    intro is
    induction is with
    | nil => intro p _; simp
    | cons j is ih =>
      intro p hi
      have hj : l[j]? = some (l[j]'(hi j List.mem_cons_self)) := List.getElem?_eq_getElem _
      have hm : ∀ i ∈ is, i < l.length := fun i h => hi i (List.mem_cons_of_mem _ h)
      have h4 : ∀ is : List Nat, (is.filterMap fun i => (l[i]?).map (holdV x y i)).map (renO x) = is.filterMap (fun i => (l[i]?).map (frontV x y i)) := by
        intro is
        rw [List.map_filterMap]
        congr 1
        funext i
        cases l[i]? <;> rfl
      cases p with
      | zero => simp only [List.eraseIdx_zero]; rw [List.filterMap_cons, hj]; simp only [Option.map_some, List.eraseIdx_zero, List.tail_cons]; exact h4 is
      | succ p =>
        rw [List.filterMap_cons, hj]
        simp only [Option.map_some, List.eraseIdx_cons_succ, List.map_cons]
        rw [List.filterMap_cons, hj]
        simp only [Option.map_some]
        rw [ih p hm]; rfl
  exact h3 (List.range l.length) x (fun i h => List.mem_range.1 h)
/-- The law, with the walk's two views. -/
theorem wp_region_duo {P : Program} (x y : Nat) (isA isB : List Nat) (S1 S2 : World → Prop) {id : Nat} {Q : Exit → Act → World → Prop} {a : Act} {w : World} {l : List Oper} (ms1 us1 ms2 us2 : List Nat) (hm : P.follows .mixedOrders = true)
    (hc : (calmsB x y l && x != y && decide (x < l.length) && isA == x :: (List.range l.length).eraseIdx x && isB == List.range l.length &&
      freeB .any (frontL x (holdL x y l)).toArray && seqB (frontL x (holdL x y l)).toArray ms1 us1 .any && freeB .any (holdL y x l).toArray && seqB (holdL y x l).toArray ms2 us2 .any) = true)
    (hw1 : S1 w.drew) (hw2 : S2 w.drew)
    (h1 : ∀ g ops, Vw l g ops → wpView P l g ops ms1 us1 S1 (fun a' w' => Q .normal a' w') 0 isA a w.drew)
    (h2 : ∀ g ops, Vw l g ops → wpView P l g ops ms2 us2 S2 (fun a' w' => Q .normal a' w') 0 isB a w.drew) : (Code.region id l.toArray true).wp P Q a w := by
  simp only [Bool.and_eq_true, beq_iff_eq, bne_iff_ne, ne_eq, decide_eq_true_eq] at hc
  obtain ⟨⟨⟨⟨⟨⟨⟨⟨c1, c2⟩, c3⟩, c4⟩, c5⟩, c6⟩, c7⟩, c8⟩, c9⟩ := hc
  have k1 := h1 _ _ (vw_front l x y c3)
  have k2 := h2 _ _ (vw_hold l y x)
  unfold wpView at k1 k2
  rw [c4, ← view_front l x y c3] at k1
  rw [c5, ← view_hold l y x] at k2
  exact wp_region_two x y S1 S2 ms1 us1 ms2 us2 hm c1 (by simp [c2, c3]) c6 c7 c8 c9 hw1 hw2 k1 k2
end Go.Proofs.YtiddhcabpmkolaaGreatDoor
