/-
  A region that draws its order of evaluation, in which whatever makes or turns memory need not be ordered. Of each such operation (a mover) one tells a fact about what it yields and the world behind it, a fact that abides what the other operations do;
  each other operation yields one value in every world in which the facts of those that it waits for hold. Then one walk in the order of the text, over whatever the movers yield, serves every order.
-/
import Derived.Test.YtmpbmfahnbbbdaaMix
import Derived.Test.YtmpbmfahnbbbdaaBlk
namespace Go.Proofs.Ytmpbmfahnbbbdaa
set_option linter.unusedSimpArgs false
set_option linter.unusedVariables false
open Go

section
variable {P : Program} {ops : Array Oper} {md : Region.Mode}

/-! ### What a state of the region's temporaries is -/
def dstOf (ops : Array Oper) (j : Nat) : Option Tmp := (ops[j]?).bind (·.dst)
def Edge' (md : Region.Mode) (ops : Array Oper) (k i : Nat) : Prop := ∃ o e, ops[k]? = some o ∧ e ∈ o.after ∧ Region.binds md e = true ∧ e.on = i
open Classical in
/-- The first k operations' values, of those in L. -/
noncomputable def putTo (ops : Array Oper) (a0 : Act) (vals : Nat → Value) (L : Nat → Prop) : Nat → Act
  | 0 => a0
  | k + 1 => if L k then (putTo ops a0 vals L k).put (dstOf ops k) (vals k) else putTo ops a0 vals L k
def Distinct (ops : Array Oper) : Prop := ∀ i j d, dstOf ops i = some d → dstOf ops j = some d → i = j

theorem put_size (a : Act) (d : Option Tmp) (v : Value) : (a.put d v).tmps.size = a.tmps.size := by
  cases d <;> simp [Act.put]
theorem put_ne (a : Act) (x : Option Tmp) (v : Value) (d : Tmp) (h : x ≠ some d) : (a.put x v).tmps[d]? = a.tmps[d]? := by
  cases x with
  | none => rfl
  | some e =>
    have hne : e ≠ d := fun he => h (by rw [he])
    simp [Act.put, Array.getElem?_setIfInBounds_ne hne]
theorem put_at (a : Act) (d : Tmp) (v : Value) : (a.put (some d) v).tmps[d]? = if d < a.tmps.size then some v else none := by
  simp [Act.put, Array.getElem?_setIfInBounds]

section
variable {a0 : Act} {vals vals' : Nat → Value} {L M : Nat → Prop}
theorem putTo_yes {k : Nat} (h : L k) : putTo ops a0 vals L (k + 1) = (putTo ops a0 vals L k).put (dstOf ops k) (vals k) := by
  simp [putTo, h]
theorem putTo_no {k : Nat} (h : ¬ L k) : putTo ops a0 vals L (k + 1) = putTo ops a0 vals L k := by
  simp [putTo, h]
theorem putTo_size : ∀ k, (putTo ops a0 vals L k).tmps.size = a0.tmps.size
  | 0 => rfl
  | k + 1 => by
    by_cases h : L k
    · rw [putTo_yes h, put_size, putTo_size k]
    · rw [putTo_no h, putTo_size k]
theorem putTo_none {d : Tmp} : ∀ k, (∀ j, j < k → L j → dstOf ops j ≠ some d) → (putTo ops a0 vals L k).tmps[d]? = a0.tmps[d]?
  | 0, _ => rfl
  | k + 1, h => by
    have ih := putTo_none k (fun j hj => h j (by omega))
    by_cases c : L k
    · rw [putTo_yes c, put_ne _ _ _ _ (h k (by omega) c), ih]
    · rw [putTo_no c, ih]
theorem putTo_some (hd : Distinct ops) {d : Tmp} {j : Nat} (hL : L j) (hj : dstOf ops j = some d) : ∀ k, j < k → (putTo ops a0 vals L k).tmps[d]? = if d < a0.tmps.size then some (vals j) else none
  | 0, h => by omega
  | k + 1, h => by
    by_cases e : j = k
    · subst e
      rw [putTo_yes hL, hj, put_at, putTo_size]
    · have ih := putTo_some hd hL hj k (by omega)
      by_cases c : L k
      · rw [putTo_yes c, put_ne _ _ _ _ (fun hk => e (hd j k d hj hk)), ih]
      · rw [putTo_no c, ih]
theorem putTo_congr : ∀ k, (∀ j, j < k → (L j ↔ M j)) → (∀ j, j < k → L j → vals j = vals' j) → putTo ops a0 vals L k = putTo ops a0 vals' M k
  | 0, _, _ => rfl
  | k + 1, h1, h2 => by
    have ih := putTo_congr k (fun j hj => h1 j (by omega)) (fun j hj => h2 j (by omega))
    by_cases c : L k
    · rw [putTo_yes c, putTo_yes ((h1 k (by omega)).1 c), ih, h2 k (by omega) c]
    · rw [putTo_no c, putTo_no (fun hm => c ((h1 k (by omega)).2 hm)), ih]
def upd (vals : Nat → Value) (i : Nat) (v : Value) : Nat → Value := fun j => if j = i then v else vals j
theorem upd_at (i : Nat) (v : Value) : upd vals i v i = v := by simp [upd]
theorem upd_ne {i j : Nat} (v : Value) (h : j ≠ i) : upd vals i v j = vals j := by simp [upd, h]
theorem putTo_add (hd : Distinct ops) {i : Nat} {v : Value} (hi : ¬ L i) : ∀ k, i < k → (putTo ops a0 vals L k).put (dstOf ops i) v = putTo ops a0 (upd vals i v) (fun j => L j ∨ j = i) k
  | 0, h => by omega
  | k + 1, h => by
    by_cases e : i = k
    · subst e
      rw [putTo_no hi, putTo_yes (L := fun j => L j ∨ j = i) (.inr rfl), upd_at]
      congr 1
      refine putTo_congr i (fun j hj => ⟨.inl, fun h => h.resolve_right (by omega)⟩) (fun j hj _ => (upd_ne v (by omega)).symm)
    · have ih := putTo_add hd hi (v := v) k (by omega)
      by_cases c : L k
      · rw [putTo_yes c, putTo_yes (L := fun j => L j ∨ j = i) (.inl c), ← ih, upd_ne v (fun h => e h.symm)]
        refine Act.put_comm _ _ _ (fun d hk hi => e (hd i k d hi hk))
      · rw [putTo_no c, putTo_no (L := fun j => L j ∨ j = i) (fun h => h.elim c (fun h => e h.symm)), ih]
end

/-- What an operation looks at is all that matters to it. -/
def AgreeOn (ds : List Tmp) (a a' : Act) : Prop := ∀ d ∈ ds, a.tmps[d]? = a'.tmps[d]?
theorem exec_agree {o : Oper} (hs : ∀ cs b, o.op ≠ .select cs b) {a a' : Act} (h : AgreeOn (o.looksAt ops) a a') : execOp a.eval o = execOp a'.eval o :=
  execOp_congr o hs fun x hx => by
    cases x with
    | tmp t =>
      have h1 := h t (List.mem_append_left _ (List.mem_filterMap.2 ⟨.tmp t, by simpa using hx, rfl⟩))
      simp [Act.eval, h1]
    | _ => rfl
theorem wanted_agree {o : Oper} {a a' : Act} (h : AgreeOn (o.looksAt ops) a a') : Region.wanted o (yielded ops a.tmps) = Region.wanted o (yielded ops a'.tmps) := by
  unfold Region.wanted
  cases hg : o.guard with
  | none => rfl
  | some gw =>
    obtain ⟨g, want⟩ := gw
    have hy : yielded ops a.tmps g = yielded ops a'.tmps g := by
      unfold yielded
      cases ht : (ops[g]?).bind (·.dst) with
      | none => rfl
      | some t =>
        have h1 := h t (by simp [Oper.looksAt, hg, ht])
        simp [h1]
    simp only [hy]

/-! ### The region's own conditions, as a test -/
def edgeB (md : Region.Mode) (ops : Array Oper) (k i : Nat) : Bool := match ops[k]? with | some o => o.after.any (fun e => Region.binds md e && e.on == i) | none => false
theorem edgeB_iff {k i : Nat} : edgeB md ops k i = true ↔ Edge' md ops k i := by
  unfold edgeB Edge'
  cases ho : ops[k]? with
  | none => simp
  | some o =>
    rw [Array.any_eq_true']
    constructor
    · rintro ⟨e, he, hb⟩
      simp only [Bool.and_eq_true, beq_iff_eq] at hb
      exact ⟨o, e, rfl, he, hb.1, hb.2⟩
    · rintro ⟨o', e, h1, he, hb, hi⟩
      injection h1 with h1
      subst h1
      exact ⟨e, he, by simp [hb, hi]⟩
/-- Each waits for earlier ones alone; no temporary is written twice; what is looked at is written by one it waits for, or by one that waits for it. -/
def freeB (md : Region.Mode) (ops : Array Oper) : Bool :=
  Region.noSelect ops &&
  (List.range ops.size).all fun k => match ops[k]? with
    | none => true
    | some o => o.after.all (fun e => !Region.binds md e || decide (e.on < k)) &&
      (List.range ops.size).all fun i => match dstOf ops i with
        | none => true
        | some d => (decide (i = k) || !(o.dst == some d)) && (!(o.looksAt ops).contains d || (decide (i < k) && edgeB md ops k i) || (decide (k < i) && edgeB md ops i k))
structure FreeOk (md : Region.Mode) (ops : Array Oper) : Prop where
  sel : ∀ (j : Nat) (o : Oper) cs b, ops[j]? = some o → o.op ≠ .select cs b
  before : ∀ k i, Edge' md ops k i → i < k
  distinct : Distinct ops
  looks : ∀ k o d i, ops[k]? = some o → d ∈ o.looksAt ops → dstOf ops i = some d → (i < k ∧ Edge' md ops k i) ∨ (k < i ∧ Edge' md ops i k)
theorem dst_lt {i : Nat} {d : Tmp} (h : dstOf ops i = some d) : i < ops.size := by
  rcases Nat.lt_or_ge i ops.size with h1 | h1
  · exact h1
  · simp [dstOf, Array.getElem?_eq_none h1] at h
theorem freeOk (h : freeB md ops = true) : FreeOk md ops := by
  unfold freeB at h
  rw [Bool.and_eq_true] at h
  obtain ⟨hs, h⟩ := h
  have key : ∀ k o, ops[k]? = some o → (∀ e ∈ o.after, Region.binds md e = true → e.on < k) ∧ ∀ i d, dstOf ops i = some d → (i = k ∨ o.dst ≠ some d) ∧ (d ∈ o.looksAt ops → (i < k ∧ Edge' md ops k i) ∨ (k < i ∧ Edge' md ops i k)) := by
    intro k o ho
    have hk : k < ops.size := (Array.getElem?_eq_some_iff.1 ho).1
    have h1 := List.all_eq_true.1 h k (List.mem_range.2 hk)
    simp only [ho, Bool.and_eq_true] at h1
    refine ⟨fun e he hb => ?_, fun i d hi => ?_⟩
    · have := Array.all_eq_true_iff_forall_mem.1 h1.1 e he
      simpa [hb] using this
    · have h2 := List.all_eq_true.1 h1.2 i (List.mem_range.2 (dst_lt hi))
      simp only [hi, Bool.and_eq_true, Bool.or_eq_true, decide_eq_true_eq, Bool.not_eq_true', beq_eq_false_iff_ne, edgeB_iff] at h2
      refine ⟨h2.1, fun hm => ?_⟩
      have h3 := h2.2
      rcases h3 with (h3 | h3) | h3
      · exact absurd (by simpa using hm) (by simpa using h3)
      · exact .inl h3
      · exact .inr h3
  refine ⟨Region.noSelect_spec hs, ?_, ?_, ?_⟩
  · rintro k i ⟨o, e, ho, he, hb, rfl⟩
    exact (key k o ho).1 e he hb
  · intro i j d hi hj
    obtain ⟨o, ho⟩ : ∃ o, ops[j]? = some o := ⟨_, Array.getElem?_eq_getElem (dst_lt hj)⟩
    rcases ((key j o ho).2 i d hi).1 with h1 | h1
    · exact h1
    · exact absurd (by simpa [dstOf, ho] using hj) h1
  · exact fun k o d i ho hd hi => ((key k o ho).2 i d hi).2 hd

/-! ### What an operation leaves -/
def upN (P : Program) (N : Value → World → Prop) : Result Next → Prop
  | .ok (.value v) w' => N v w'
  | .ok .skip w' => N undef w'
  | .ok (.enter f args) w' => Calls P f args w' fun e w'' => ∃ v, e = .returned v ∧ N v w''
  | _ => False
theorem upN_mono {N N' : Value → World → Prop} (h : ∀ v w, N v w → N' v w) : ∀ {r : Result Next}, upN P N r → upN P N' r := by
  intro r hh
  cases r with
  | ok n w' =>
    cases n <;> simp only [upN] at hh ⊢
    case value v => exact h _ _ hh
    case skip => exact h _ _ hh
    case enter f args => exact Calls.mono hh fun _ _ ⟨v, e, hn⟩ => ⟨v, e, h _ _ hn⟩
  | halt x w' => simp only [upN] at hh
theorem upN_some {N : Value → World → Prop} {r : Result Next} (hh : upN P N r) : ∃ v w, N v w := by
  cases r with
  | ok n w' =>
    cases n <;> simp only [upN] at hh
    case value v => exact ⟨v, w', hh⟩
    case skip => exact ⟨_, w', hh⟩
    case enter f args =>
      obtain ⟨e, w'', fr, ⟨v, _, hn⟩, _⟩ := hh []
      exact ⟨v, w'', hn⟩
  | halt x w' => simp only [upN] at hh
theorem upN_upon {o : Oper} {a : Act} {K : Act → World → Prop} {Q : Exit → Act → World → Prop} {N : Value → World → Prop} (h : ∀ v w, N v w → K (a.put o.dst v) w) {r : Result Next} (hh : upN P N r) : o.upon P a K Q r := by
  cases r with
  | ok n w' =>
    cases n <;> simp only [upN] at hh <;> simp only [Oper.upon]
    case value v => exact h _ _ hh
    case skip => exact h _ _ hh
    case enter f args => exact Calls.mono hh fun e w'' ⟨v, he, hn⟩ => by subst he; exact h _ _ hn
  | halt x w' => simp only [upN] at hh

/-! ### The walk in the order of the text -/
/-- May the operation k lean on the fact of i? Whoever breaks it is k itself, or waits for k. -/
def seesB (md : Region.Mode) (ops : Array Oper) (brk : Nat → List Nat) (k i : Nat) : Bool := (List.range ops.size).all fun b => !(brk b).contains i || (waits md ops b).contains i || b == k || (waits md ops k).contains b
def endB (md : Region.Mode) (ops : Array Oper) (brk : Nat → List Nat) (i : Nat) : Bool := (List.range ops.size).all fun b => !(brk b).contains i || (waits md ops b).contains i
section
variable (P : Program) (ops : Array Oper) (md : Region.Mode) (S : World → Prop) (T : Nat → World → World → Prop) (ms : List Nat) (brk : Nat → List Nat) (mf : Nat → Value → World → Prop)

abbrev Facts := List (Nat × Value)
/-- The worlds in which the operation k may come up: the facts of those that it waits for hold. -/
def clsF (F : Facts) (k : Nat) (w : World) : Prop := S w ∧ ∀ p ∈ F, (waits md ops p.1).contains k = true → seesB md ops brk k p.1 = true → mf p.1 p.2 w
def wpFree (Q : Act → World → Prop) : Nat → List Oper → Facts → Act → Prop
  | _, [], F, a => ∀ w, S w → (∀ p ∈ F, endB md ops brk p.1 = true → mf p.1 p.2 w) → Q a w
  | k, o :: rest, F, a =>
    if Region.wanted o (yielded ops a.tmps) = true then
      if k ∈ ms then (∀ w, clsF ops md S brk mf F k w → upN P (fun v w' => S w' ∧ T k w w' ∧ mf k v w') ((execOp a.eval o).run P w)) ∧ ∀ v, (∃ w, S w ∧ mf k v w) → wpFree Q (k + 1) rest ((k, v) :: F) (a.put o.dst v)
      else ∃ v, (∀ w, clsF ops md S brk mf F k w → (execOp a.eval o).run P w = .ok (.value v) w) ∧ wpFree Q (k + 1) rest F (a.put o.dst v)
    else wpFree Q (k + 1) rest F (a.put o.dst undef)

noncomputable def actAt (a0 : Act) (vals : Nat → Value) (k : Nat) : Act := putTo ops a0 vals (Edge' md ops k) ops.size
def FactAt (a0 : Act) (vals : Nat → Value) (k : Nat) (w : World) : Prop := ∀ o, ops[k]? = some o → k ∈ ms → Region.wanted o (yielded ops (actAt ops md a0 vals k).tmps) = true → mf k (vals k) w
def clsAt (a0 : Act) (vals : Nat → Value) (k : Nat) (w : World) : Prop := S w ∧ ∀ i, k ∈ waits md ops i → seesB md ops brk k i = true → FactAt ops md ms mf a0 vals i w
/-- A value that the operation k may have left. -/
def Valid (a0 : Act) (vals : Nat → Value) (k : Nat) : Prop := ∀ o, ops[k]? = some o →
  (Region.wanted o (yielded ops (actAt ops md a0 vals k).tmps) = true → k ∈ ms → ∃ w, S w ∧ mf k (vals k) w) ∧
  (Region.wanted o (yielded ops (actAt ops md a0 vals k).tmps) = true → k ∉ ms → (∃ w, clsAt ops md S ms brk mf a0 vals k w) ∧ ∀ w', clsAt ops md S ms brk mf a0 vals k w' → (execOp (actAt ops md a0 vals k).eval o).run P w' = .ok (.value (vals k)) w') ∧
  (Region.wanted o (yielded ops (actAt ops md a0 vals k).tmps) = false → vals k = undef)
/-- What has come: L, with its values, in the world w. -/
structure Come (a0 : Act) (L : Nat → Prop) (vals : Nat → Value) (w : World) : Prop where
  lt : ∀ j, L j → j < ops.size
  down : ∀ k i, L k → Edge' md ops k i → L i
  cls : S w
  valid : ∀ j, L j → Valid P ops md S ms brk mf a0 vals j
  fact : ∀ i, L i → (∀ b, L b → i ∈ brk b → i ∈ waits md ops b) → FactAt ops md ms mf a0 vals i w
end

section
variable {S : World → Prop} {T : Nat → World → World → Prop} {ms : List Nat} {brk : Nat → List Nat} {mf : Nat → Value → World → Prop} {a0 : Act} {vals vals' : Nat → Value} {L : Nat → Prop}

/-- A set of operations that holds whatever its own wait for. -/
def Down (md : Region.Mode) (ops : Array Oper) (L : Nat → Prop) : Prop := ∀ k i, L k → Edge' md ops k i → L i

theorem waits_lt (ok : FreeOk md ops) {i : Nat} : ∀ k, k ∈ waits md ops i → i < k := by
  intro k
  induction k using Nat.strongRecOn with
  | ind k ih =>
    intro h
    obtain ⟨o, e, h1, h2, h3, h4⟩ := waits_ok md ops i k h
    have h5 := ok.before k e.on ⟨o, e, h1, h2, h3, rfl⟩
    rcases h4 with h4 | h4
    · omega
    · have := ih e.on h5 h4
      omega
theorem waits_in (ok : FreeOk md ops) (hL : Down md ops L) {i : Nat} : ∀ k, (∀ j, Edge' md ops k j → L j) → k ∈ waits md ops i → L i := by
  intro k
  induction k using Nat.strongRecOn with
  | ind k ih =>
    intro hk h
    obtain ⟨o, e, h1, h2, h3, h4⟩ := waits_ok md ops i k h
    have he : Edge' md ops k e.on := ⟨o, e, h1, h2, h3, rfl⟩
    rcases h4 with h4 | h4
    · rw [← h4]; exact hk _ he
    · exact ih e.on (ok.before k _ he) (fun j hj => hL _ _ (hk _ he) hj) h4

theorem actAt_congr (hv : ∀ j, L j → vals j = vals' j) {k : Nat} (hk : ∀ j, Edge' md ops k j → L j) : actAt ops md a0 vals k = actAt ops md a0 vals' k :=
  putTo_congr _ (fun _ _ => Iff.rfl) (fun j _ hj => hv j (hk j hj))
theorem factAt_congr (hL : Down md ops L) (hv : ∀ j, L j → vals j = vals' j) {k : Nat} (hk : L k) {w : World} (h : FactAt ops md ms mf a0 vals k w) : FactAt ops md ms mf a0 vals' k w := fun o ho hm hw => by
  rw [← actAt_congr hv (fun j hj => hL k j hk hj)] at hw
  rw [← hv k hk]
  exact h o ho hm hw
theorem clsAt_congr (ok : FreeOk md ops) (hL : Down md ops L) (hv : ∀ j, L j → vals j = vals' j) {k : Nat} (hk : ∀ j, Edge' md ops k j → L j) {w : World} (h : clsAt ops md S ms brk mf a0 vals k w) : clsAt ops md S ms brk mf a0 vals' k w :=
  ⟨h.1, fun i hi hs => factAt_congr hL hv (waits_in ok hL k hk hi) (h.2 i hi hs)⟩
theorem valid_congr (ok : FreeOk md ops) (hL : Down md ops L) (hv : ∀ j, L j → vals j = vals' j) {k : Nat} (hk : L k) (h : Valid P ops md S ms brk mf a0 vals k) : Valid P ops md S ms brk mf a0 vals' k := fun o ho => by
  have hd : ∀ j, Edge' md ops k j → L j := fun j hj => hL k j hk hj
  obtain ⟨h1, h2, h3⟩ := h o ho
  rw [actAt_congr hv hd, hv k hk] at h1 h2 h3
  exact ⟨h1, fun a b => ⟨(h2 a b).1.imp fun w hw => clsAt_congr ok hL hv hd hw, fun w' hw' => (h2 a b).2 w' (clsAt_congr ok hL (fun j hj => (hv j hj).symm) hd hw')⟩, h3⟩

/-- What an operation looks at, where what it waits for has come and what waits for it has not. -/
theorem looks_agree (ok : FreeOk md ops) {k n : Nat} {o : Oper} (ho : ops[k]? = some o) (h1 : ∀ i, Edge' md ops k i → L i ∧ i < n) (h2 : ∀ i, Edge' md ops i k → ¬ (L i ∧ i < n)) : AgreeOn (o.looksAt ops) (putTo ops a0 vals L n) (actAt ops md a0 vals k) := by
  intro d hd
  by_cases c : ∃ i, dstOf ops i = some d
  · obtain ⟨i, hi⟩ := c
    have hin := dst_lt hi
    rcases ok.looks k o d i ho hd hi with ⟨h3, h4⟩ | ⟨h3, h4⟩
    · rw [putTo_some ok.distinct (h1 i h4).1 hi n (h1 i h4).2, actAt, putTo_some ok.distinct h4 hi _ hin]
    · rw [putTo_none n (fun j hj hL hjd => by rw [ok.distinct j i d hjd hi] at hj hL; exact h2 i h4 ⟨hL, hj⟩), actAt, putTo_none _ (fun j hj hL hjd => by
        rw [ok.distinct j i d hjd hi] at hL
        have := ok.before _ _ hL
        omega)]
  · rw [putTo_none n (fun j _ _ hj => c ⟨j, hj⟩), actAt, putTo_none _ (fun j _ _ hj => c ⟨j, hj⟩)]
theorem text_agree (ok : FreeOk md ops) {k : Nat} {o : Oper} (ho : ops[k]? = some o) : AgreeOn (o.looksAt ops) (putTo ops a0 vals (fun _ => True) k) (actAt ops md a0 vals k) :=
  looks_agree ok ho (fun i hi => ⟨trivial, ok.before _ _ hi⟩) (fun i hi h => by have := ok.before _ _ hi; omega)

/-- The facts that the walk in the order of the text has laid. -/
def FOk (md : Region.Mode) (ops : Array Oper) (ms : List Nat) (a0 : Act) (vals : Nat → Value) (k : Nat) (F : Facts) : Prop :=
  ∀ p ∈ F, p.2 = vals p.1 ∧ p.1 < k ∧ p.1 ∈ ms ∧ ∃ o, ops[p.1]? = some o ∧ Region.wanted o (yielded ops (actAt ops md a0 vals p.1).tmps) = true
theorem FOk.cls {k : Nat} {F : Facts} (hF : FOk md ops ms a0 vals k F) {w : World} (h : clsAt ops md S ms brk mf a0 vals k w) : clsF ops md S brk mf F k w :=
  ⟨h.1, fun p hp hw hs => by
    obtain ⟨h1, h2, h3, o, h4, h5⟩ := hF p hp
    rw [h1]
    exact h.2 p.1 (by simpa using hw) hs o h4 h3 h5⟩

theorem text_walk (ok : FreeOk md ops) {Q : Act → World → Prop} (h0 : wpFree P ops md S T ms brk mf Q 0 ops.toList [] a0) : ∀ k, k ≤ ops.size → (∀ j, j < k → Valid P ops md S ms brk mf a0 vals j) →
    ∃ F, FOk md ops ms a0 vals k F ∧ wpFree P ops md S T ms brk mf Q k (ops.toList.drop k) F (putTo ops a0 vals (fun _ => True) k)
  | 0, _, _ => ⟨[], (fun p hp => by cases hp), by simpa [putTo] using h0⟩
  | k + 1, hk, hg => by
    obtain ⟨F, hF, hw⟩ := text_walk ok h0 k (by omega) (fun j hj => hg j (by omega))
    obtain ⟨o, ho⟩ : ∃ o, ops[k]? = some o := ⟨_, Array.getElem?_eq_getElem (by omega)⟩
    have hdrop : ops.toList.drop k = o :: ops.toList.drop (k + 1) := by
      rw [List.drop_eq_getElem_cons (by simp; omega)]
      congr 1
      have := (Array.getElem?_eq_some_iff.1 ho).2
      simpa using this
    have hag := text_agree (a0 := a0) (vals := vals) ok ho
    have hdst : dstOf ops k = o.dst := by simp [dstOf, ho]
    have hF' : FOk md ops ms a0 vals (k + 1) F := fun p hp => let ⟨a, b, c⟩ := hF p hp; ⟨a, by omega, c⟩
    obtain ⟨g1, g2, g3⟩ := hg k (by omega) o ho
    rw [hdrop] at hw
    simp only [wpFree] at hw
    rw [wanted_agree hag] at hw
    rw [putTo_yes (L := fun _ => True) trivial, hdst]
    by_cases hwt : Region.wanted o (yielded ops (actAt ops md a0 vals k).tmps) = true
    · rw [if_pos hwt] at hw
      by_cases hm : k ∈ ms
      · rw [if_pos hm] at hw
        refine ⟨(k, vals k) :: F, fun p hp => ?_, hw.2 (vals k) (g1 hwt hm)⟩
        rcases List.mem_cons.1 hp with rfl | hp
        · exact ⟨rfl, by simp, hm, o, ho, hwt⟩
        · exact hF' p hp
      · rw [if_neg hm] at hw
        obtain ⟨v, h1, h2⟩ := hw
        obtain ⟨⟨w, hcls⟩, g2⟩ := g2 hwt hm
        have e1 := h1 w (hF.cls hcls)
        have e2 := g2 w hcls
        rw [exec_agree (ok.sel k o · · ho) hag, e2] at e1
        injection e1 with e1
        injection e1 with e1
        subst e1
        exact ⟨F, hF', h2⟩
    · rw [if_neg hwt] at hw
      rw [g3 (by simpa using hwt)]
      exact ⟨F, hF', hw⟩

/-- One operation has come. -/
def Step' (P : Program) (ops : Array Oper) (md : Region.Mode) (S : World → Prop) (T : Nat → World → World → Prop) (ms : List Nat) (brk : Nat → List Nat) (mf : Nat → Value → World → Prop) (a0 : Act) (k : Nat) (vals : Nat → Value) (w : World) (v : Value) (w' : World) : Prop :=
  S w' ∧ (w' = w ∨ (k ∈ ms ∧ T k w w')) ∧ Valid P ops md S ms brk mf a0 (upd vals k v) k ∧ FactAt ops md ms mf a0 (upd vals k v) k w'
theorem Come.step (ok : FreeOk md ops) (hst : ∀ k i v w w', k ∈ ms → i ∈ ms → i ≠ k → i ∉ brk k → T k w w' → mf i v w → mf i v w') {w w' : World} {v : Value} {k : Nat} (hkn : k < ops.size) (h : Come P ops md S ms brk mf a0 L vals w) (hE : ∀ i, Edge' md ops k i → L i) (hk : ¬ L k)
    (hs : Step' P ops md S T ms brk mf a0 k vals w v w') : Come P ops md S ms brk mf a0 (fun j => L j ∨ j = k) (upd vals k v) w' := by
  obtain ⟨s1, s2, s3, s4⟩ := hs
  have hv : ∀ j, L j → vals j = upd vals k v j := fun j hj => (upd_ne v (by rintro rfl; exact hk hj)).symm
  refine ⟨fun j hj => ?_, fun a b ha hab => ?_, s1, fun j hj => ?_, fun i hi hb => ?_⟩
  · rcases hj with hj | rfl
    · exact h.lt j hj
    · exact hkn
  · rcases ha with ha | rfl
    · exact .inl (h.down a b ha hab)
    · exact .inl (hE b hab)
  · rcases hj with hj | rfl
    · exact valid_congr ok h.down hv hj (h.valid j hj)
    · exact s3
  · rcases hi with hi | rfl
    · have h1 := factAt_congr h.down hv hi (h.fact i hi (fun b hL => hb b (.inl hL)))
      rcases s2 with rfl | ⟨hm, ht⟩
      · exact h1
      · exact fun o ho hmi hw => hst k i _ _ _ hm hmi (by rintro rfl; exact hk hi) (fun hib => hk (waits_in ok h.down i (fun j hj => h.down i j hi hj) (hb k (.inr rfl) hib))) ht (h1 o ho hmi hw)
    · exact s4
theorem Come.clsAt (ok : FreeOk md ops) {w : World} {k : Nat} (h : Come P ops md S ms brk mf a0 L vals w) (hE : ∀ i, Edge' md ops k i → L i) (hk : ¬ L k) : clsAt ops md S ms brk mf a0 vals k w :=
  ⟨h.cls, fun i hi hs => h.fact i (waits_in ok h.down k hE hi) (fun b hb hib => by
    have := List.all_eq_true.1 hs b (List.mem_range.2 (h.lt b hb))
    simp only [Bool.or_eq_true, Bool.not_eq_true', List.contains_eq_mem, decide_eq_false_iff_not, decide_eq_true_eq, beq_iff_eq] at this
    rcases this with ((h1 | h1) | h1) | h1
    · exact absurd hib h1
    · exact h1
    · subst h1; exact absurd hb hk
    · exact absurd (waits_in ok h.down b (fun j hj => h.down b j hb hj) h1) hk)⟩

/-- One operation, whatever has come ahead of it. -/
def StepOk (P : Program) (ops : Array Oper) (md : Region.Mode) (S : World → Prop) (T : Nat → World → World → Prop) (ms : List Nat) (brk : Nat → List Nat) (mf : Nat → Value → World → Prop) (a0 : Act) (k : Nat) : Prop :=
  ∀ (L : Nat → Prop) (vals : Nat → Value) (w : World) (o : Oper), ops[k]? = some o → Come P ops md S ms brk mf a0 L vals w → (∀ i, Edge' md ops k i → L i) → ¬ L k →
    (Region.wanted o (yielded ops (actAt ops md a0 vals k).tmps) = true → upN P (fun v w' => Step' P ops md S T ms brk mf a0 k vals w v w') ((execOp (actAt ops md a0 vals k).eval o).run P w)) ∧
    (Region.wanted o (yielded ops (actAt ops md a0 vals k).tmps) = false → Step' P ops md S T ms brk mf a0 k vals w undef w)

theorem step_ok (ok : FreeOk md ops) {Q : Act → World → Prop} (h0 : wpFree P ops md S T ms brk mf Q 0 ops.toList [] a0)
    (hst : ∀ k i v w w', k ∈ ms → i ∈ ms → i ≠ k → i ∉ brk k → T k w w' → mf i v w → mf i v w') : ∀ k, StepOk P ops md S T ms brk mf a0 k := by
  intro k
  induction k using Nat.strongRecOn with
  | ind k ih =>
    intro L vals w o ho hC hE hk
    have hkn : k < ops.size := (Array.getElem?_eq_some_iff.1 ho).1
    have claim : ∀ m, m ≤ k → ∃ vals' w', (∀ j, L j → vals j = vals' j) ∧ Come P ops md S ms brk mf a0 (fun j => L j ∨ j < m) vals' w' := by
      intro m
      induction m with
      | zero =>
        refine fun _ => ⟨vals, w, fun _ _ => rfl, ?_⟩
        have e : (fun j => L j ∨ j < 0) = L := by funext j; simp
        rw [e]; exact hC
      | succ m ihm =>
        intro hm
        obtain ⟨vals', w', h1, h2⟩ := ihm (by omega)
        by_cases c : L m
        · refine ⟨vals', w', h1, ?_⟩
          have e : (fun j => L j ∨ j < m + 1) = (fun j => L j ∨ j < m) := by
            funext j
            apply propext
            constructor
            · rintro (hj | hj)
              · exact .inl hj
              · by_cases e : j = m
                · subst e; exact .inl c
                · exact .inr (by omega)
            · exact fun hj => hj.imp id (by omega)
          rw [e]; exact h2
        · obtain ⟨om, hom⟩ : ∃ o, ops[m]? = some o := ⟨_, Array.getElem?_eq_getElem (by omega)⟩
          have hEm : ∀ i, Edge' md ops m i → (L i ∨ i < m) := fun i hi => .inr (ok.before _ _ hi)
          have hnm : ¬ (L m ∨ m < m) := fun h => h.elim c (by omega)
          have hst' := ih m (by omega) (fun j => L j ∨ j < m) vals' w' om hom h2 hEm hnm
          have e : (fun j => (L j ∨ j < m) ∨ j = m) = (fun j => L j ∨ j < m + 1) := by
            funext j
            apply propext
            constructor
            · rintro ((hj | hj) | rfl)
              · exact .inl hj
              · exact .inr (by omega)
              · exact .inr (by omega)
            · rintro (hj | hj)
              · exact .inl (.inl hj)
              · by_cases e : j = m
                · exact .inr e
                · exact .inl (.inr (by omega))
          have fin : ∀ v w'', Step' P ops md S T ms brk mf a0 m vals' w' v w'' → ∃ vals' w', (∀ j, L j → vals j = vals' j) ∧ Come P ops md S ms brk mf a0 (fun j => L j ∨ j < m + 1) vals' w' := fun v w'' hs =>
            ⟨upd vals' m v, w'', fun j hj => (h1 j hj).trans (upd_ne v (by rintro rfl; exact c hj)).symm, e ▸ h2.step ok hst (by omega) hEm hnm hs⟩
          cases hwt : Region.wanted om (yielded ops (actAt ops md a0 vals' m).tmps) with
          | true =>
            obtain ⟨v, w'', hs⟩ := upN_some (hst'.1 hwt)
            exact fin v w'' hs
          | false => exact fin undef w' (hst'.2 hwt)
    obtain ⟨vals', w', h1, h2⟩ := claim k (Nat.le_refl k)
    obtain ⟨F, hF, hw⟩ := text_walk (vals := vals') ok h0 k (by omega) (fun j hj => h2.valid j (.inr hj))
    have hdrop : ops.toList.drop k = o :: ops.toList.drop (k + 1) := by
      rw [List.drop_eq_getElem_cons (by simpa using hkn)]
      congr 1
      have := (Array.getElem?_eq_some_iff.1 ho).2
      simpa using this
    have hag := text_agree (a0 := a0) (vals := vals') ok ho
    have hact : actAt ops md a0 vals' k = actAt ops md a0 vals k := (actAt_congr h1 hE).symm
    have hactu : ∀ v, actAt ops md a0 (upd vals k v) k = actAt ops md a0 vals k := fun v => (actAt_congr (L := L) (fun j hj => (upd_ne v (by rintro rfl; exact hk hj)).symm) hE).symm
    rw [hdrop] at hw
    simp only [wpFree] at hw
    rw [wanted_agree hag, exec_agree (ok.sel k o · · ho) hag, hact] at hw
    have hup : ∀ v, ∀ j, L j → upd vals k v j = vals' j := fun v j hj => (upd_ne v (by rintro rfl; exact hk hj)).trans (h1 j hj)
    have hcA : clsAt ops md S ms brk mf a0 vals k w := hC.clsAt ok hE hk
    have hcU : ∀ v, clsAt ops md S ms brk mf a0 (upd vals k v) k w := fun v => clsAt_congr ok hC.down (fun j hj => (upd_ne v (by rintro rfl; exact hk hj)).symm) hE hcA
    have hcF : ∀ v x, clsAt ops md S ms brk mf a0 (upd vals k v) k x → clsF ops md S brk mf F k x := fun v x hx => hF.cls (clsAt_congr ok hC.down (hup v) hE hx)
    have hcw : clsF ops md S brk mf F k w := hF.cls (clsAt_congr ok hC.down h1 hE hcA)
    refine ⟨fun hwt => ?_, fun hwt => ?_⟩
    · rw [if_pos hwt] at hw
      by_cases hm : k ∈ ms
      · rw [if_pos hm] at hw
        refine upN_mono (fun v w'' ⟨s1, s2, s3⟩ => ⟨s1, .inr ⟨hm, s2⟩, fun o' ho' => ?_, fun o' ho' _ _ => by rw [upd_at]; exact s3⟩) (hw.1 w hcw)
        rw [ho] at ho'
        injection ho' with ho'
        subst ho'
        rw [hactu, upd_at]
        exact ⟨fun _ _ => ⟨w'', s1, s3⟩, fun _ h => absurd hm h, fun h => by rw [hwt] at h; cases h⟩
      · rw [if_neg hm] at hw
        obtain ⟨v, e1, _⟩ := hw
        rw [e1 w hcw]
        refine ⟨hC.cls, .inl rfl, fun o' ho' => ?_, fun o' ho' hm' _ => absurd hm' hm⟩
        rw [ho] at ho'
        injection ho' with ho'
        subst ho'
        rw [hactu, upd_at]
        exact ⟨fun _ h => absurd h hm, fun _ _ => ⟨⟨w, hcU v⟩, fun x hx => e1 x (hcF v x hx)⟩, fun h => by rw [hwt] at h; cases h⟩
    · refine ⟨hC.cls, .inl rfl, fun o' ho' => ?_, fun o' ho' _ hw' => ?_⟩
      · rw [ho] at ho'
        injection ho' with ho'
        subst ho'
        rw [hactu, upd_at]
        exact ⟨(fun h => by rw [hwt] at h; cases h), (fun h => by rw [hwt] at h; cases h), fun _ => rfl⟩
      · rw [ho] at ho'
        injection ho' with ho'
        subst ho'
        rw [hactu, hwt] at hw'
        cases hw'

theorem free_any (ok : FreeOk md ops) {Q : Act → World → Prop} {Q' : Exit → Act → World → Prop} (hQ : ∀ a w, Q a w → Q' .normal a w) (h0 : wpFree P ops md S T ms brk mf Q 0 ops.toList [] a0)
    (hst : ∀ k i v w w', k ∈ ms → i ∈ ms → i ≠ k → i ∉ brk k → T k w w' → mf i v w → mf i v w') : ∀ (fuel : Nat) (listed : Array Bool) (vals : Nat → Value) (w : World) (U : List Nat), listed.size = ops.size → U.length ≤ fuel → (∀ j, j < ops.size → listed.getD j false = false → j ∈ U) →
      Come P ops md S ms brk mf a0 (fun j => listed.getD j false = true) vals w → wpAny P md ops Q' fuel listed (putTo ops a0 vals (fun j => listed.getD j false = true) ops.size) w := by
  intro fuel
  have hall : ∀ (listed : Array Bool) (vals : Nat → Value) (w : World), (∀ j, j < ops.size → listed.getD j false = true) → Come P ops md S ms brk mf a0 (fun j => listed.getD j false = true) vals w → Q' .normal (putTo ops a0 vals (fun j => listed.getD j false = true) ops.size) w := by
    intro listed vals w h1 hC
    obtain ⟨F, hF, hw⟩ := text_walk (vals := vals) ok h0 ops.size (Nat.le_refl _) (fun j hj => hC.valid j (h1 j hj))
    rw [List.drop_eq_nil_of_le (by simp)] at hw
    simp only [wpFree] at hw
    rw [putTo_congr (M := fun _ => True) (vals' := vals) ops.size (fun j hj => ⟨fun _ => trivial, fun _ => h1 j hj⟩) (fun _ _ _ => rfl)]
    refine hQ _ _ (hw w hC.cls fun p hp he => ?_)
    obtain ⟨e1, e2, e3, o, e4, e5⟩ := hF p hp
    rw [e1]
    refine hC.fact p.1 (h1 _ e2) (fun b hb hib => ?_) o e4 e3 e5
    have := List.all_eq_true.1 he b (List.mem_range.2 (hC.lt b hb))
    simp only [Bool.or_eq_true, Bool.not_eq_true', List.contains_eq_mem, decide_eq_false_iff_not, decide_eq_true_eq] at this
    exact this.resolve_left (fun h => h hib)
  have hnone : ∀ (listed : Array Bool), listed.size = ops.size → (∀ j, j < ops.size → listed.getD j false = true) → Region.ready md ops listed = [] := by
    intro listed hsz h1
    refine List.eq_nil_iff_forall_not_mem.2 fun j hj => ?_
    obtain ⟨h2, o, ho, _⟩ := mem_ready.1 hj
    have hjn := (Array.getElem?_eq_some_iff.1 ho).1
    have h3 := h1 j hjn
    simp [hsz, hjn] at h2 h3
    rw [h2] at h3; cases h3
  have hfull : ∀ (listed : Array Bool), listed.size = ops.size → Region.ready md ops listed = [] → ∀ j, j < ops.size → listed.getD j false = true := by
    intro listed hsz hnil j
    induction j using Nat.strongRecOn with
    | ind j ih =>
      intro hj
      cases hjl : listed.getD j false with
      | true => rfl
      | false =>
        exfalso
        obtain ⟨o, ho⟩ : ∃ o, ops[j]? = some o := ⟨_, Array.getElem?_eq_getElem hj⟩
        have : j ∈ Region.ready md ops listed := mem_ready.2 ⟨by simp [hsz, hj] at hjl ⊢; exact hjl, o, ho, fun e he hb => by
          have := ok.before j e.on ⟨o, e, ho, he, hb, rfl⟩
          exact ih e.on this (by omega)⟩
        rw [hnil] at this
        cases this
  induction fuel with
  | zero =>
    intro listed vals w U hsz hU hin hC
    have h1 : ∀ j, j < ops.size → listed.getD j false = true := fun j hj => by
      cases hjl : listed.getD j false with
      | true => rfl
      | false =>
        have := hin j hj hjl
        rw [List.eq_nil_of_length_eq_zero (by omega : U.length = 0)] at this
        cases this
    exact ⟨hnone listed hsz h1, hall listed vals w h1 hC⟩
  | succ fuel ih =>
    intro listed vals w U hsz hU hin hC
    refine ⟨fun hnil => hall listed vals w (hfull listed hsz hnil) hC, fun i hi => ?_⟩
    obtain ⟨hi0, o, ho, hde⟩ := mem_ready.1 hi
    have hin' : i < ops.size := (Array.getElem?_eq_some_iff.1 ho).1
    have hi1 : listed.getD i false = false := by simp [hsz, hin'] at hi0 ⊢; exact hi0
    have hE : ∀ j, Edge' md ops i j → listed.getD j false = true := by
      rintro j ⟨o', e, ho', he, hb, rfl⟩
      rw [ho] at ho'
      injection ho' with ho'
      subst ho'
      exact hde e he hb
    have hnot : ¬ listed.getD i false = true := by rw [hi1]; simp
    have hs := step_ok ok h0 hst i (fun j => listed.getD j false = true) vals w o ho hC hE hnot
    have hag : AgreeOn (o.looksAt ops) (putTo ops a0 vals (fun j => listed.getD j false = true) ops.size) (actAt ops md a0 vals i) :=
      looks_agree ok ho (fun j hj => ⟨hE j hj, by have := ok.before _ _ hj; omega⟩) (fun j hj h => hnot (hC.down j i h.1 hj))
    have hdst : dstOf ops i = o.dst := by simp [dstOf, ho]
    have next : ∀ v w', Step' P ops md S T ms brk mf a0 i vals w v w' → wpAny P md ops Q' fuel (listed.setIfInBounds i true) ((putTo ops a0 vals (fun j => listed.getD j false = true) ops.size).put o.dst v) w' := by
      intro v w' hst'
      have hset : ∀ j, (listed.setIfInBounds i true).getD j false = true ↔ (listed.getD j false = true ∨ j = i) := fun j => by
        by_cases e : j = i
        · subst e; simp [hsz, hin']
        · rw [getD_set_ne false (fun h => e h.symm)]; simp [e]
      have hfun : (fun j => (listed.setIfInBounds i true).getD j false = true) = (fun j => listed.getD j false = true ∨ j = i) := by
        funext j; exact propext (hset j)
      rw [← hdst, putTo_add ok.distinct hnot ops.size hin', ← hfun]
      refine ih (listed.setIfInBounds i true) (upd vals i v) w' (U.erase i) (by simp [hsz]) ?_ ?_ ?_
      · have := List.length_erase_of_mem (hin i hin' hi1)
        have := List.length_pos_of_mem (hin i hin' hi1)
        omega
      · intro j hj hjl
        have hne : j ≠ i := by
          rintro rfl
          have := (hset j).2 (.inr rfl)
          rw [this] at hjl; cases hjl
        rw [getD_set_ne false (fun h => hne h.symm)] at hjl
        exact (List.mem_erase_of_ne hne).2 (hin j hj hjl)
      · rw [hfun]
        exact hC.step ok hst hin' hE hnot hst'
    unfold wpOp
    simp only [ho]
    rw [wanted_agree hag]
    split
    · rename_i hwt
      refine .inl ?_
      unfold Oper.wp
      rw [exec_agree (ok.sel i o · · ho) hag]
      exact upN_upon (fun v w' hst' => next v w' hst') (hs.1 hwt)
    · rename_i hwt
      exact next undef w (hs.2 (by simpa using hwt))
end

theorem rep_false (n j : Nat) : (Array.replicate n false).getD j false = false := by
  simp [Array.getElem?_replicate]
  split <;> rfl
/-- One walk in the order of the text serves every order. S: the worlds of the region; ms: the movers; T k: what the mover k may do; mf: the movers' facts; brk k: whose facts k breaks. -/
theorem wp_region_free {id : Nat} {Q : Exit → Act → World → Prop} {a : Act} {w : World} {l : List Oper} (S : World → Prop) (T : Nat → World → World → Prop) (ms : List Nat) (brk : Nat → List Nat) (mf : Nat → Value → World → Prop) (hm : P.follows .mixedOrders = true) (hB : freeB .any l.toArray = true)
    (hst : ∀ k i v w w', k ∈ ms → i ∈ ms → i ≠ k → i ∉ brk k → T k w w' → mf i v w → mf i v w')
    (hS : S w.drew) (h : wpFree P l.toArray .any S T ms brk mf (fun a' w' => Q .normal a' w') 0 l [] a) : (Code.region id l.toArray true).wp P Q a w := by
  refine wp_region_any hm ?_
  have no : ∀ j, (Array.replicate l.toArray.size false).getD j false = true → False := fun j hj => by rw [rep_false] at hj; cases hj
  have h1 := free_any (vals := fun _ => undef) (a0 := a) (freeOk hB) (Q' := Q) (fun _ _ h => h) (by simpa using h) hst l.toArray.size (Array.replicate l.toArray.size false) w.drew (List.range l.toArray.size) (by simp) (by simp) (fun j hj _ => List.mem_range.2 hj)
    ⟨fun j hj => (no j hj).elim, fun k i hk _ => (no k hk).elim, hS, fun j hj => (no j hj).elim, fun j hj => (no j hj).elim⟩
  have e : putTo l.toArray a (fun _ => undef) (fun j => (Array.replicate l.toArray.size false).getD j false = true) l.toArray.size = a := by
    have : ∀ k, putTo l.toArray a (fun _ => undef) (fun j => (Array.replicate l.toArray.size false).getD j false = true) k = a := by
      intro k
      induction k with
      | zero => rfl
      | succ k ih => rw [putTo_no (by rw [rep_false]; simp), ih]
    exact this _
  rw [e] at h1
  exact h1

/-! ### The steps of the walk -/
section
variable {S : World → Prop} {T : Nat → World → World → Prop} {ms : List Nat} {brk : Nat → List Nat} {mf : Nat → Value → World → Prop} {Q : Act → World → Prop} {k : Nat} {o : Oper} {rest : List Oper} {F : Facts} {a : Act}
/-- One value in every world of the class. -/
def steadyF (P : Program) (C : World → Prop) (o : Oper) (a : Act) (v : Value) : Prop := ∀ w, C w → (execOp a.eval o).run P w = .ok (.value v) w
theorem ex_steadyF {C : World → Prop} {K : Value → Prop} (v : Value) (h : ∀ w, C w → (execOp a.eval o).run P w = .ok (.value v) w) (hk : K v) : ∃ v, steadyF P C o a v ∧ K v := ⟨v, h, hk⟩
theorem free_step (hk : k ∉ ms)
    (h : ∀ K : Act → Prop, (∀ a, wpFree P ops md S T ms brk mf Q (k + 1) rest F a → K a) → if Region.wanted o (yielded ops a.tmps) = true then ∃ v, steadyF P (clsF ops md S brk mf F k) o a v ∧ K (a.put o.dst v) else K (a.put o.dst undef)) : wpFree P ops md S T ms brk mf Q k (o :: rest) F a := by
  have h' := h _ (fun _ h => h)
  simp only [wpFree]
  split
  · rename_i hw
    rw [if_pos hw] at h'
    first | exact h' | (rw [if_neg hk]; exact h')
  · rename_i hw
    rw [if_neg hw] at h'
    exact h'
theorem free_move (hk : k ∈ ms)
    (h : ∀ K : Facts → Act → Prop, (∀ F a, wpFree P ops md S T ms brk mf Q (k + 1) rest F a → K F a) → if Region.wanted o (yielded ops a.tmps) = true then (∀ w, clsF ops md S brk mf F k w → upN P (fun v w' => S w' ∧ T k w w' ∧ mf k v w') ((execOp a.eval o).run P w)) ∧ ∀ v, (∃ w, S w ∧ mf k v w) → K ((k, v) :: F) (a.put o.dst v) else K F (a.put o.dst undef)) : wpFree P ops md S T ms brk mf Q k (o :: rest) F a := by
  have h' := h _ (fun _ _ h => h)
  simp only [wpFree]
  split
  · rename_i hw
    rw [if_pos hw] at h'
    first | exact h' | (rw [if_pos hk]; exact h')
  · rename_i hw
    rw [if_neg hw] at h'
    exact h'
theorem free_nil (h : ∀ w, S w → (∀ p ∈ F, endB md ops brk p.1 = true → mf p.1 p.2 w) → Q a w) : wpFree P ops md S T ms brk mf Q k [] F a := h
theorem up_enter {N : Value → World → Prop} {f : FuncId} {args : Array Value} {w : World} (h : Calls P f args w fun e w'' => ∃ v, e = .returned v ∧ N v w'') : upN P N (.ok (.enter f args) w) := h
theorem free_move0 (hk : k ∈ ms) (hg : o.guard = none) (h1 : ∀ w, clsF ops md S brk mf F k w → upN P (fun v w' => S w' ∧ T k w w' ∧ mf k v w') ((execOp a.eval o).run P w)) (h2 : ∀ v, (∃ w, S w ∧ mf k v w) → wpFree P ops md S T ms brk mf Q (k + 1) rest ((k, v) :: F) (a.put o.dst v)) : wpFree P ops md S T ms brk mf Q k (o :: rest) F a := by
  simp only [wpFree, Region.wanted, hg]
  first | exact (if_pos hk).symm ▸ ⟨h1, h2⟩ | (rw [if_pos hk]; exact ⟨h1, h2⟩) | (simp only [if_true]; rw [if_pos hk]; exact ⟨h1, h2⟩)
end
/-- A whole aggregate stored into a block that is known whole. -/
theorem up_store {N : Value → World → Prop} {o : Oper} {a : Act} {w : World} (ty : TypeId) (x y : Operand) (ho : o.op = .store ty x y) {g : Nat} {cells : Array Value} (hx : a.eval x = .pointer (some ⟨g, 0, none⟩)) (hy : a.eval y = .agg cells)
    {t : TypeId} {old : Array Value} (hb : Blk w g t old) (hold : old.size = cells.size) (hi : (P.info? ty).map (·.size) = some cells.size) (h1 : cells.all (·.oneCell') = true)
    (h : ∀ w', Blk w' g t cells → Kept (· = g) w w' → (∀ k, k ≠ g → w'.heap[k]? = w.heap[k]?) → N undef w') : upN P N ((execOp a.eval o).run P w) := by
  unfold execOp
  simp only [ho, hx, hy, Instr.storeAt, Instr.sureAddr, Sem.run_bind, Sem.run_pure, Result.andThen_ok, run_storeVar_row w g t ty old cells hb hi hold h1]
  exact h _ (setRow_heap w g old cells t (0, 0) hb) (setRow_kept w g cells) (fun k hk => setRow_other w g k cells hk)
/-- 'append(v, x...)': v a row of the call's own, x whatever reads as a list. -/
theorem up_app {N : Value → World → Prop} {o : Oper} {a : Act} {w : World} {t e : TypeId} {z : Value} {k by_ : Nat} (ht : P.underlying t = some (.slice e)) (hI : (P.info? e).map (fun i => (i.zero, i.size, i.bytes)) = some (some z, k, by_)) (hzs : z.cells.size = k) (hk : 0 < k)
    {v : Value} {n : Nat} {xs : List Value} {F G : Nat → Prop} (hown : Own w F e k v n xs) {A : Option Addr} {m c : Nat} {news : List Value} (hr : Sl w G k A m news) (h1 : ∀ u ∈ news, u.oneCell' = true)
    (hbytes : n + m ≤ 1073741824) (hb2 : by_ ≤ 65536)
    (s x : Operand) (ho : o.op = .call { callee := .builtin .append, args := #[s, x], argTypes := #[t, t] }) (hs : a.eval s = v) (hx : a.eval x = .slice A m c)
    (h : ∀ v' w', Own w' (fun g => F g ∨ g = w.heap.size) e k v' (n + m) (xs ++ news) → Kept F w w' → N v' w') : upN P N ((execOp a.eval o).run P w) := by
  obtain ⟨i, hi, hz, hsize, hby⟩ := info_parts hI
  have h63 : n + m ≤ maxLen := by unfold maxLen; omega
  have hbb : (n + m) * by_ ≤ 140737488355328 := by
    have := Nat.mul_le_mul hbytes hb2
    omega
  have key : ∃ v' w', (Builtin.append_ #[t, t] o.type #[v, .slice A m c]).run P w = .ok v' w' ∧ Own w' (fun g => F g ∨ g = w.heap.size) e k v' (n + m) (xs ++ news) ∧ Kept F w w' := by
    rcases Nat.eq_zero_or_pos m with h0 | h0
    · subst h0
      have hn : news = [] := List.eq_nil_of_length_eq_zero (by simpa using hr.1)
      subst hn
      cases A with
      | none => exact ⟨v, w, run_app_nil t _ e i k ht hi v n xs hown.1 c, by simpa using hown.imp (fun _ _ h => .inl h), Kept.refl _ _⟩
      | some ad =>
        obtain ⟨v', w', hrun, h2, h3, _, h5⟩ := run_append_own_at (P := P) w 0 t o.type e i z k by_ ht hi hz hsize hby hzs hk v n xs hown.1 ad 0 c [] (by simp) (by simp) (by simp) h63 hbb (Nat.zero_le _)
        exact ⟨v', w', hrun, hown.of_append h2 h5, hown.kept_of_append h3⟩
    · obtain ⟨b, off, rfl, _, _, hc⟩ := hr.2 h0
      have hcells : ∀ j u, news[j]? = some u → w.cell? ((⟨b, off, none⟩ : Addr).add j) = some u := by
        intro j u hu
        rw [Addr.add_lit, hc j (List.getElem?_eq_some_iff.1 hu).1]
        exact hu
      obtain ⟨v', w', hrun, h2, h3, _, h5⟩ := run_append_own_at (P := P) w 0 t o.type e i z k by_ ht hi hz hsize hby hzs hk v n xs hown.1 ⟨b, off, none⟩ m c news hr.1 hcells h1 h63 hbb (Nat.zero_le _)
      exact ⟨v', w', hrun, hown.of_append h2 h5, hown.kept_of_append h3⟩
  obtain ⟨v', w', hrun, h2, h3⟩ := key
  unfold execOp
  simp only [ho, resolve, invoke, builtin, Sem.run_bind, Sem.run_pure, Result.andThen_ok, List.map_toArray, List.map_cons, List.map_nil, hs, hx, hrun]
  exact h v' w' h2 h3
theorem ptr_inj {g g' : Nat} (h : Value.pointer (some ⟨g, 0, none⟩) = Value.pointer (some ⟨g', 0, none⟩)) : g = g' := by
  injection h with h
  injection h with h
  injection h
theorem sl_inj {g g' a b c d : Nat} (h : Value.slice (some ⟨g, 0, none⟩) a b = Value.slice (some ⟨g', 0, none⟩) c d) : g = g' := by
  injection h with h
  injection h with h
  injection h
/-- Behind B whatever may turn; a block that is known whole stays one of its size. -/
def Grows (B : Nat) (w w' : World) : Prop := Kept (fun b => B ≤ b) w w' ∧ ∀ g t cs, Blk w g t cs → ∃ cs', Blk w' g t cs' ∧ cs'.size = cs.size
theorem Grows.refl (B : Nat) (w : World) : Grows B w w := ⟨Kept.refl _ _, fun _ _ cs h => ⟨cs, h, rfl⟩⟩
theorem Grows.trans {B : Nat} (a b c : World) (h : Grows B a b) (k : Grows B b c) : Grows B a c := ⟨h.1.same k.1, fun g t cs hb => by
  obtain ⟨cs1, h1, e1⟩ := h.2 g t cs hb
  obtain ⟨cs2, h2, e2⟩ := k.2 g t cs1 h1
  exact ⟨cs2, h2, e2.trans e1⟩⟩
theorem Grows.pure {B : Nat} {w w' : World} (h : Pure w w') : Grows B w w' := ⟨h.mono (fun _ _ h => h.elim), fun g t cs hb => ⟨cs, hb.kept h (fun h => h), rfl⟩⟩
theorem Grows.store {B g : Nat} {t : TypeId} {w w' : World} {old cells : Array Value} (hB : B ≤ g) (hb : Blk w g t old) (hs : old.size = cells.size) (hb' : Blk w' g t cells) (hk : Kept (· = g) w w') (ho : ∀ k, k ≠ g → w'.heap[k]? = w.heap[k]?) : Grows B w w' :=
  ⟨hk.mono (fun i _ h => by have : i = g := h; omega), fun j t' cs h => by
    by_cases e : j = g
    · subst e
      unfold Blk at h hb
      rw [hb] at h
      injection h with h
      injection h with h1 h2
      subst h1 h2
      exact ⟨cells, hb', hs.symm⟩
    · exact ⟨cs, (ho j e).trans h, rfl⟩⟩
end
end Go.Proofs.Ytmpbmfahnbbbdaa
