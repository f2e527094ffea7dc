/-
  A region that draws its order, whose movers (what makes or turns memory) are ordered against all that reads: one walk in the order of the text, world by world, serves every order.
-/
import Derived.Test.YtmpbmfahnbbbdaaFree
set_option linter.unusedSimpArgs false
set_option linter.unusedVariables false
namespace Go.Proofs.Ytmpbmfahnbbbdaa
open Go.RowKit
set_option maxRecDepth 100000
open Go

section
variable (P : Program) (ops : Array Oper) (ms us : List Nat) (S : World → Prop)
/-- ms: the movers; us: operations that yield one value in every world of the class S. -/
def wpSeq (Q : Act → World → Prop) : Nat → List Oper → Act → World → Prop
  | _, [], a, w => Q a w
  | k, o :: rest, a, w =>
    if Region.wanted o (yielded ops a.tmps) = true then
      if k ∈ ms then upN P (fun v w' => S w' ∧ wpSeq Q (k + 1) rest (a.put o.dst v) w') ((execOp a.eval o).run P w)
      else if k ∈ us then ∃ v, (∀ x, S x → (execOp a.eval o).run P x = .ok (.value v) x) ∧ wpSeq Q (k + 1) rest (a.put o.dst v) w
      else ∃ v, (execOp a.eval o).run P w = .ok (.value v) w ∧ wpSeq Q (k + 1) rest (a.put o.dst v) w
    else wpSeq Q (k + 1) rest (a.put o.dst undef) w
/-- Each mover waits for whatever stands ahead of it, and whatever stands behind it waits for it: but for the operations of us. -/
def seqB (md : Region.Mode) : Bool := ms.all fun m => decide (m < ops.size) && !us.contains m && (List.range ops.size).all fun k => us.contains k || (if k < m then (waits md ops k).contains m else if m < k then (waits md ops m).contains k else true)
end
section
variable {P : Program} {ops : Array Oper} {md : Region.Mode} {ms us : List Nat} {S : World → Prop} {a0 : Act} {vals vals' : Nat → Value} {L : Nat → Prop} {w : World}
structure SeqOk (md : Region.Mode) (ops : Array Oper) (ms us : List Nat) : Prop where
  lt : ∀ m ∈ ms, m < ops.size
  far : ∀ m ∈ ms, m ∉ us
  pre : ∀ m ∈ ms, ∀ k, k ∉ us → k < m → m ∈ waits md ops k
  post : ∀ m ∈ ms, ∀ k, k < ops.size → k ∉ us → m < k → k ∈ waits md ops m
theorem seqOk (h : seqB ops ms us md = true) : SeqOk md ops ms us := by
  have key : ∀ m ∈ ms, m < ops.size ∧ m ∉ us ∧ ∀ k, k < ops.size → k ∉ us → (k < m → m ∈ waits md ops k) ∧ (m < k → k ∈ waits md ops m) := by
    intro m hm
    have h1 := List.all_eq_true.1 h m hm
    rw [Bool.and_eq_true, Bool.and_eq_true] at h1
    refine ⟨of_decide_eq_true h1.1.1, by simpa using h1.1.2, fun k hk hu => ?_⟩
    have h2 := List.all_eq_true.1 h1.2 k (List.mem_range.2 hk)
    have hu' : us.contains k = false := by simpa using hu
    rw [hu', Bool.false_or] at h2
    refine ⟨fun hlt => ?_, fun hlt => ?_⟩
    · rw [if_pos hlt] at h2; simpa using h2
    · rw [if_neg (by omega), if_pos hlt] at h2; simpa using h2
  exact ⟨fun m hm => (key m hm).1, fun m hm => (key m hm).2.1, fun m hm k hu hlt => ((key m hm).2.2 k (by have := (key m hm).1; omega) hu).1 hlt, fun m hm k hk hu hlt => ((key m hm).2.2 k hk hu).2 hlt⟩

/-- The value of the operation k, which is no mover: what it yields, looking at what it waits for. -/
def RV (P : Program) (ops : Array Oper) (md : Region.Mode) (us : List Nat) (S : World → Prop) (a0 : Act) (L : Nat → Prop) (vals : Nat → Value) (w : World) (k : Nat) : Prop :=
  ∀ o, ops[k]? = some o →
    (Region.wanted o (yielded ops (actAt ops md a0 vals k).tmps) = true → k ∈ us → ∀ x, S x → (execOp (actAt ops md a0 vals k).eval o).run P x = .ok (.value (vals k)) x) ∧
    (Region.wanted o (yielded ops (actAt ops md a0 vals k).tmps) = true → k ∉ us → ¬ L k → (execOp (actAt ops md a0 vals k).eval o).run P w = .ok (.value (vals k)) w) ∧
    (Region.wanted o (yielded ops (actAt ops md a0 vals k).tmps) = false → vals k = undef)
/-- Where a region stands: L has come; the next mover is n. -/
structure At (P : Program) (ops : Array Oper) (md : Region.Mode) (ms us : List Nat) (S : World → Prop) (Q : Act → World → Prop) (a0 : Act) (L : Nat → Prop) (vals : Nat → Value) (w : World) (n : Nat) : Prop where
  lt : ∀ j, L j → j < ops.size
  down : Down md ops L
  next : n ≤ ops.size ∧ (n < ops.size → n ∈ ms)
  none : ∀ m ∈ ms, m < n → L m
  far : ∀ m ∈ ms, n ≤ m → ¬ L m
  rv : ∀ k, k < n → k ∉ ms → RV P ops md us S a0 L vals w k
  rvu : ∀ k, L k → k ∈ us → RV P ops md us S a0 L vals w k
  st : S w
  text : wpSeq P ops ms us S Q n (ops.toList.drop n) (putTo ops a0 vals (fun _ => True) n) w

theorem rv_congr (ok : FreeOk md ops) {M : Nat → Prop} {w' : World} {k : Nat} (hk : vals k = vals' k) (hE : ∀ j, Edge' md ops k j → vals j = vals' j) (hL : k ∉ us → ¬ M k → ¬ L k ∧ w' = w) (h : RV P ops md us S a0 L vals w k) : RV P ops md us S a0 M vals' w' k := by
  intro o ho
  have e : actAt ops md a0 vals k = actAt ops md a0 vals' k := putTo_congr _ (fun _ _ => Iff.rfl) (fun j _ hj => hE j hj)
  obtain ⟨h1, h2, h3⟩ := h o ho
  rw [e, hk] at h1 h2 h3
  refine ⟨h1, fun a b c => ?_, h3⟩
  obtain ⟨d, rfl⟩ := hL b c
  exact h2 a b d

/-- On to the next mover. -/
theorem seq_advance (ok : FreeOk md ops) (hL : Down md ops L) (hS : S w) {Q : Act → World → Prop} : ∀ (m p : Nat) (vals : Nat → Value), ops.size - p = m → p ≤ ops.size → (∀ j, L j → j ∈ us ∨ j < p) → (∀ j, L j → p ≤ j → j ∉ ms) →
    (∀ k, L k → k ∈ us → RV P ops md us S a0 L vals w k) → wpSeq P ops ms us S Q p (ops.toList.drop p) (putTo ops a0 vals (fun _ => True) p) w →
    ∃ n vals', p ≤ n ∧ n ≤ ops.size ∧ (n < ops.size → n ∈ ms) ∧ (∀ k, p ≤ k → k < n → k ∉ ms ∧ RV P ops md us S a0 L vals' w k) ∧ (∀ k, L k ∨ k < p → vals k = vals' k) ∧
      wpSeq P ops ms us S Q n (ops.toList.drop n) (putTo ops a0 vals' (fun _ => True) n) w := by
  intro m
  induction m with
  | zero =>
    intro p vals hm hp _ _ _ ht
    exact ⟨p, vals, Nat.le_refl _, hp, fun h => by omega, fun k h1 h2 => by omega, fun _ _ => rfl, ht⟩
  | succ m ih =>
    intro p vals hm hp hU hF hR ht
    by_cases hpm : p ∈ ms
    · exact ⟨p, vals, Nat.le_refl _, hp, fun _ => hpm, fun k h1 h2 => by omega, fun _ _ => rfl, ht⟩
    · obtain ⟨o, ho⟩ : ∃ o, ops[p]? = some o := ⟨_, Array.getElem?_eq_getElem (by omega)⟩
      have hdrop : ops.toList.drop p = o :: ops.toList.drop (p + 1) := by
        rw [List.drop_eq_getElem_cons (by simp; omega)]
        congr 1
        have := (Array.getElem?_eq_some_iff.1 ho).2
        simpa using this
      have hag := text_agree (a0 := a0) (vals := vals) ok ho
      have hdst : dstOf ops p = o.dst := by simp [dstOf, ho]
      rw [hdrop] at ht
      simp only [wpSeq] at ht
      rw [wanted_agree hag, exec_agree (ok.sel p o · · ho) hag] at ht
      -- the value
      obtain ⟨v, hv, hLv, ht'⟩ : ∃ v, ((Region.wanted o (yielded ops (actAt ops md a0 vals p).tmps) = true → p ∈ us → ∀ x, S x → (execOp (actAt ops md a0 vals p).eval o).run P x = .ok (.value v) x) ∧
          (Region.wanted o (yielded ops (actAt ops md a0 vals p).tmps) = true → p ∉ us → ¬ L p → (execOp (actAt ops md a0 vals p).eval o).run P w = .ok (.value v) w) ∧
          (Region.wanted o (yielded ops (actAt ops md a0 vals p).tmps) = false → v = undef)) ∧ (L p → v = vals p) ∧ wpSeq P ops ms us S Q (p + 1) (ops.toList.drop (p + 1)) ((putTo ops a0 vals (fun _ => True) p).put o.dst v) w := by
        by_cases hw : Region.wanted o (yielded ops (actAt ops md a0 vals p).tmps) = true
        · rw [if_pos hw, if_neg hpm] at ht
          by_cases hu : p ∈ us
          · rw [if_pos hu] at ht
            obtain ⟨v, h1, h2⟩ := ht
            refine ⟨v, ⟨fun _ _ => h1, fun _ h => absurd hu h, fun h => by rw [hw] at h; cases h⟩, fun hLp => ?_, h2⟩
            have := ((hR p hLp hu) o ho).1 hw hu w hS
            rw [h1 w hS] at this
            injection this with this
            injection this
          · rw [if_neg hu] at ht
            obtain ⟨v, h1, h2⟩ := ht
            refine ⟨v, ⟨fun _ h => absurd h hu, fun _ _ _ => h1, fun h => by rw [hw] at h; cases h⟩, fun hLp => ?_, h2⟩
            rcases hU p hLp with h | h
            · exact absurd h hu
            · omega
        · rw [if_neg hw] at ht
          have hw' : Region.wanted o (yielded ops (actAt ops md a0 vals p).tmps) = false := by simpa using hw
          refine ⟨undef, ⟨fun h => absurd h hw, fun h => absurd h hw, fun _ => rfl⟩, fun hLp => ?_, ht⟩
          rcases hU p hLp with h | h
          · exact (((hR p hLp h) o ho).2.2 hw').symm
          · omega
      have hun : ∀ k, L k ∨ k < p → vals k = upd vals p v k := fun k hk => by
        by_cases e : k = p
        · subst e
          rw [upd_at]
          rcases hk with hk | hk
          · exact (hLv hk).symm
          · omega
        · exact (upd_ne v e).symm
      have hp1 : wpSeq P ops ms us S Q (p + 1) (ops.toList.drop (p + 1)) (putTo ops a0 (upd vals p v) (fun _ => True) (p + 1)) w := by
        rw [putTo_yes (L := fun _ => True) trivial, hdst, upd_at, ← putTo_congr (M := fun _ => True) (L := fun _ => True) (vals := vals) p (fun _ _ => Iff.rfl) (fun j hj _ => hun j (.inr hj))]
        exact ht'
      have hact : actAt ops md a0 vals p = actAt ops md a0 (upd vals p v) p := putTo_congr _ (fun _ _ => Iff.rfl) (fun j _ hj => hun j (.inr (ok.before _ _ hj)))
      have hRp : RV P ops md us S a0 L (upd vals p v) w p := fun o' ho' => by
        rw [ho] at ho'
        injection ho' with ho'
        subst ho'
        rw [← hact, upd_at]
        exact hv
      have hR1 : ∀ k, L k → k ∈ us → RV P ops md us S a0 L (upd vals p v) w k := fun k hk hu => rv_congr ok (hun k (.inl hk)) (fun j hj => hun j (.inl (hL k j hk hj))) (fun _ h => ⟨h, rfl⟩) (hR k hk hu)
      obtain ⟨n, vals', h1, h2, h3, h4, h5, h6⟩ := ih (p + 1) (upd vals p v) (by omega) (by omega) (fun j hj => (hU j hj).imp id (by omega)) (fun j hj hpj => hF j hj (by omega)) hR1 hp1
      refine ⟨n, vals', by omega, h2, h3, fun k hk1 hk2 => ?_, fun k hk => (hun k hk).trans (h5 k (hk.imp id (by omega))), h6⟩
      by_cases e : k = p
      · subst e
        exact ⟨hpm, rv_congr ok (h5 k (.inr (by omega))) (fun j hj => h5 j (.inr (by have := ok.before _ _ hj; omega))) (fun _ h => ⟨h, rfl⟩) hRp⟩
      · exact h4 k (by omega) hk2

theorem At.begin (ok : FreeOk md ops) {Q : Act → World → Prop} (hS : S w) (h : wpSeq P ops ms us S Q 0 ops.toList a0 w) : ∃ vals n, At P ops md ms us S Q a0 (fun _ => False) vals w n := by
  obtain ⟨n, vals, h1, h2, h3, h4, _, h6⟩ := seq_advance (L := fun _ => False) (md := md) ok (fun _ _ h => h.elim) hS ops.size 0 (fun _ => undef) (by omega) (Nat.zero_le _) (fun _ h => h.elim) (fun _ h => h.elim) (fun _ h => h.elim) (by simpa [putTo] using h)
  exact ⟨vals, n, fun _ h => h.elim, fun _ _ h => h.elim, ⟨h2, h3⟩, fun m hm hlt => absurd hm (h4 m (Nat.zero_le _) hlt).1, fun _ _ _ h => h, fun k hk _ => (h4 k (Nat.zero_le _) hk).2, fun _ h => h.elim, hS, h6⟩

theorem down_add (hL : Down md ops L) {i : Nat} (hE : ∀ j, Edge' md ops i j → L j) : Down md ops (fun j => L j ∨ j = i) := fun k j hk hj => by
  rcases hk with hk | rfl
  · exact .inl (hL k j hk hj)
  · exact .inl (hE j hj)

/-- On to the operation i, in the order of the text, by whatever the movers may leave. -/
theorem seq_reach (ok : FreeOk md ops) (hL : Down md ops L) {Q : Act → World → Prop} {i : Nat} (hi : i < ops.size) : ∀ (m p : Nat) (vals : Nat → Value) (w : World), S w → i - p = m → p ≤ i → (∀ j, L j → j ∈ us ∨ j < p) → (∀ j, L j → p ≤ j → j ∉ ms) →
    (∀ k, L k → k ∈ us → RV P ops md us S a0 L vals w k) → wpSeq P ops ms us S Q p (ops.toList.drop p) (putTo ops a0 vals (fun _ => True) p) w →
    ∃ vals' w', (∀ k, L k → vals k = vals' k) ∧ wpSeq P ops ms us S Q i (ops.toList.drop i) (putTo ops a0 vals' (fun _ => True) i) w' := by
  intro m
  induction m with
  | zero =>
    intro p vals w _ hm hp _ _ _ ht
    obtain rfl : p = i := by omega
    exact ⟨vals, w, fun _ _ => rfl, ht⟩
  | succ m ih =>
    intro p vals w hS hm hp hU hF hR ht
    obtain ⟨o, ho⟩ : ∃ o, ops[p]? = some o := ⟨_, Array.getElem?_eq_getElem (by omega)⟩
    have hdrop : ops.toList.drop p = o :: ops.toList.drop (p + 1) := by
      rw [List.drop_eq_getElem_cons (by simp; omega)]
      congr 1
      have := (Array.getElem?_eq_some_iff.1 ho).2
      simpa using this
    have hag := text_agree (a0 := a0) (vals := vals) ok ho
    have hdst : dstOf ops p = o.dst := by simp [dstOf, ho]
    rw [hdrop] at ht
    simp only [wpSeq] at ht
    rw [wanted_agree hag, exec_agree (ok.sel p o · · ho) hag] at ht
    obtain ⟨v, w', hS', hLv, ht'⟩ : ∃ v w', S w' ∧ (L p → v = vals p) ∧ wpSeq P ops ms us S Q (p + 1) (ops.toList.drop (p + 1)) ((putTo ops a0 vals (fun _ => True) p).put o.dst v) w' := by
      by_cases hw : Region.wanted o (yielded ops (actAt ops md a0 vals p).tmps) = true
      · rw [if_pos hw] at ht
        by_cases hpm : p ∈ ms
        · rw [if_pos hpm] at ht
          obtain ⟨v, w', hs, h⟩ := upN_some ht
          exact ⟨v, w', hs, fun hLp => absurd hpm (hF p hLp (Nat.le_refl _)), h⟩
        · rw [if_neg hpm] at ht
          by_cases hu : p ∈ us
          · rw [if_pos hu] at ht
            obtain ⟨v, h1, h2⟩ := ht
            refine ⟨v, w, hS, fun hLp => ?_, h2⟩
            have := ((hR p hLp hu) o ho).1 hw hu w hS
            rw [h1 w hS] at this
            injection this with this
            injection this
          · rw [if_neg hu] at ht
            obtain ⟨v, h1, h2⟩ := ht
            refine ⟨v, w, hS, fun hLp => ?_, h2⟩
            rcases hU p hLp with h | h
            · exact absurd h hu
            · omega
      · rw [if_neg hw] at ht
        have hw' : Region.wanted o (yielded ops (actAt ops md a0 vals p).tmps) = false := by simpa using hw
        refine ⟨undef, w, hS, fun hLp => ?_, ht⟩
        rcases hU p hLp with h | h
        · exact (((hR p hLp h) o ho).2.2 hw').symm
        · omega
    have hun : ∀ k, L k ∨ k < p → vals k = upd vals p v k := fun k hk => by
      by_cases e : k = p
      · subst e
        rw [upd_at]
        rcases hk with hk | hk
        · exact (hLv hk).symm
        · omega
      · exact (upd_ne v e).symm
    have hp1 : wpSeq P ops ms us S Q (p + 1) (ops.toList.drop (p + 1)) (putTo ops a0 (upd vals p v) (fun _ => True) (p + 1)) w' := by
      rw [putTo_yes (L := fun _ => True) trivial, hdst, upd_at, ← putTo_congr (M := fun _ => True) (L := fun _ => True) (vals := vals) p (fun _ _ => Iff.rfl) (fun j hj _ => hun j (.inr hj))]
      exact ht'
    have hR1 : ∀ k, L k → k ∈ us → RV P ops md us S a0 L (upd vals p v) w' k := fun k hk hu => rv_congr ok (hun k (.inl hk)) (fun j hj => hun j (.inl (hL k j hk hj))) (fun h => absurd hu h) (hR k hk hu)
    obtain ⟨vals', w2, h1, h2⟩ := ih (p + 1) (upd vals p v) w' hS' (by omega) (by omega) (fun j hj => (hU j hj).imp id (by omega)) (fun j hj hpj => hF j hj (by omega)) hR1 hp1
    exact ⟨vals', w2, fun k hk => (hun k (.inl hk)).trans (h1 k hk), h2⟩

theorem At.inU (ok : FreeOk md ops) (so : SeqOk md ops ms us) {Q : Act → World → Prop} {n : Nat} (h : At P ops md ms us S Q a0 L vals w n) (j : Nat) (hj : L j) : j ∈ us ∨ j < n := by
  by_cases hu : j ∈ us
  · exact .inl hu
  · refine .inr (Nat.lt_of_not_le fun hle => ?_)
    have hjs := h.lt j hj
    have hn := h.next.2 (by omega)
    by_cases e : j = n
    · subst e; exact h.far j hn (Nat.le_refl _) hj
    · exact h.far n hn (Nat.le_refl _) (waits_in ok h.down j (fun i hi => h.down j i hj hi) (so.post n hn j hjs hu (by omega)))

/-- One operation has come. -/
theorem At.step (ok : FreeOk md ops) (so : SeqOk md ops ms us) {Q : Act → World → Prop} {n i : Nat} {o : Oper} (h : At P ops md ms us S Q a0 L vals w n) (ho : ops[i]? = some o) (hE : ∀ j, Edge' md ops i j → L j) (hi : ¬ L i) :
    (Region.wanted o (yielded ops (actAt ops md a0 vals i).tmps) = true → upN P (fun v w' => ∃ vals' n', (∀ j, L j ∨ j = i → upd vals i v j = vals' j) ∧ At P ops md ms us S Q a0 (fun j => L j ∨ j = i) vals' w' n') ((execOp (actAt ops md a0 vals i).eval o).run P w)) ∧
    (Region.wanted o (yielded ops (actAt ops md a0 vals i).tmps) = false → ∃ vals' n', (∀ j, L j ∨ j = i → upd vals i undef j = vals' j) ∧ At P ops md ms us S Q a0 (fun j => L j ∨ j = i) vals' w n') := by
  have his : i < ops.size := (Array.getElem?_eq_some_iff.1 ho).1
  have hD := down_add h.down hE
  have hlt : ∀ j, L j ∨ j = i → j < ops.size := fun j hj => by
    rcases hj with hj | rfl
    · exact h.lt j hj
    · exact his
  by_cases him : i ∈ ms
  · -- a mover
    have hin : i = n := by
      rcases Nat.lt_trichotomy i n with hl | he | hg
      · exact absurd (h.none i him hl) hi
      · exact he
      · have hn := h.next.2 (by omega)
        exact absurd (waits_in ok h.down i hE (so.post n hn i his (so.far i him) hg)) (h.far n hn (Nat.le_refl _))
    subst hin
    have hpre : ∀ k, k < i → k ∉ us → L k := fun k hk hu => waits_in ok h.down i hE (so.pre i him k hu hk)
    have hdrop : ops.toList.drop i = o :: ops.toList.drop (i + 1) := by
      rw [List.drop_eq_getElem_cons (by simpa using his)]
      congr 1
      have := (Array.getElem?_eq_some_iff.1 ho).2
      simpa using this
    have hag := text_agree (a0 := a0) (vals := vals) ok ho
    have hdst : dstOf ops i = o.dst := by simp [dstOf, ho]
    have ht := h.text
    rw [hdrop] at ht
    simp only [wpSeq] at ht
    rw [wanted_agree hag, exec_agree (ok.sel i o · · ho) hag] at ht
    have fin : ∀ v w', S w' ∧ wpSeq P ops ms us S Q (i + 1) (ops.toList.drop (i + 1)) ((putTo ops a0 vals (fun _ => True) i).put o.dst v) w' →
        ∃ vals' n', (∀ j, L j ∨ j = i → upd vals i v j = vals' j) ∧ At P ops md ms us S Q a0 (fun j => L j ∨ j = i) vals' w' n' := by
      rintro v w' ⟨hS', ht'⟩
      have hun : ∀ k, k ≠ i → vals k = upd vals i v k := fun k hk => (upd_ne v hk).symm
      have hp1 : wpSeq P ops ms us S Q (i + 1) (ops.toList.drop (i + 1)) (putTo ops a0 (upd vals i v) (fun _ => True) (i + 1)) w' := by
        rw [putTo_yes (L := fun _ => True) trivial, hdst, upd_at, ← putTo_congr (M := fun _ => True) (L := fun _ => True) (vals := vals) i (fun _ _ => Iff.rfl) (fun j hj _ => hun j (by omega))]
        exact ht'
      have hRu : ∀ k, L k → k ∈ us → RV P ops md us S a0 (fun j => L j ∨ j = i) (upd vals i v) w' k := fun k hk hu =>
        rv_congr ok (hun k (by rintro rfl; exact hi hk)) (fun j hj => hun j (by rintro rfl; exact hi (h.down k j hk hj))) (fun hu' => absurd hu hu') (h.rvu k hk hu)
      obtain ⟨n', vals', h1, h2, h3, h4, h5, h6⟩ := seq_advance (ms := ms) (Q := Q) ok hD hS' (ops.size - (i + 1)) (i + 1) (upd vals i v) rfl (by omega) (fun j hj => by
          rcases hj with hj | rfl
          · exact (h.inU ok so j hj).imp id (by omega)
          · exact .inr (by omega)) (fun j hj hlj => by
          rcases hj with hj | rfl
          · exact fun hm => h.far j hm (by omega) hj
          · omega) (fun k hk hu => by
          rcases hk with hk | rfl
          · exact hRu k hk hu
          · exact absurd hu (so.far k him)) hp1
      refine ⟨vals', n', fun j hj => h5 j (.inl hj), hlt, hD, ⟨h2, h3⟩, fun m hm hlm => ?_, fun m hm hle hLm => ?_, fun k hk hkm => ?_, fun k hk hu => ?_, hS', h6⟩
      · by_cases c : m < i
        · exact .inl (h.none m hm c)
        · by_cases e : m = i
          · exact .inr e
          · exact absurd hm (h4 m (by omega) hlm).1
      · rcases hLm with hLm | rfl
        · exact h.far m hm (by omega) hLm
        · omega
      · by_cases c : k < i
        · refine rv_congr ok ((hun k (by omega)).trans (h5 k (.inr (by omega)))) (fun j hj => ?_) (fun hu hL' => absurd (.inl (hpre k c hu)) hL') (h.rv k c hkm)
          have := ok.before _ _ hj
          exact (hun j (by omega)).trans (h5 j (.inr (by omega)))
        · exact (h4 k (by
            by_cases e : k = i
            · subst e; exact absurd him hkm
            · omega) hk).2
      · rcases hk with hk | rfl
        · exact rv_congr ok (h5 k (.inl (.inl hk))) (fun j hj => h5 j (.inl (.inl (h.down k j hk hj)))) (fun hu' => absurd hu hu') (hRu k hk hu)
        · exact absurd hu (so.far k him)
    refine ⟨fun hw => ?_, fun hw => ?_⟩
    · rw [if_pos hw, if_pos him] at ht
      exact upN_mono (fun v w' hh => fin v w' hh) ht
    · rw [if_neg (by rw [hw]; simp)] at ht
      exact fin undef w ⟨h.st, ht⟩
  · -- it reads
    have fin : ∀ v, (i < n → v = vals i) → RV P ops md us S a0 (fun j => L j ∨ j = i) (upd vals i v) w i → (n ≤ i → i ∈ us) → ∃ vals' n', (∀ j, L j ∨ j = i → upd vals i v j = vals' j) ∧ At P ops md ms us S Q a0 (fun j => L j ∨ j = i) vals' w n' := by
      intro v hv hR hu0
      have hun : ∀ k, k < n ∨ k ≠ i → vals k = upd vals i v k := fun k hk => by
        by_cases e : k = i
        · subst e
          rw [upd_at]
          rcases hk with hk | hk
          · exact (hv hk).symm
          · exact absurd rfl hk
        · exact (upd_ne v e).symm
      refine ⟨upd vals i v, n, fun _ _ => rfl, hlt, hD, h.next, fun m hm hlm => .inl (h.none m hm hlm), fun m hm hle hLm => ?_, fun k hk hkm => ?_, fun k hk hu => ?_, h.st, ?_⟩
      · rcases hLm with hLm | rfl
        · exact h.far m hm hle hLm
        · exact him hm
      · by_cases e : k = i
        · subst e; exact hR
        · refine rv_congr ok (hun k (.inl hk)) (fun j hj => hun j (.inl ?_)) (fun _ hL' => ⟨fun hh => hL' (.inl hh), rfl⟩) (h.rv k hk hkm)
          have := ok.before _ _ hj
          omega
      · rcases hk with hk | rfl
        · exact rv_congr ok (hun k (.inr (by rintro rfl; exact hi hk))) (fun j hj => hun j (.inr (by rintro rfl; exact hi (h.down k j hk hj)))) (fun hu' => absurd hu hu') (h.rvu k hk hu)
        · exact hR
      · rw [← putTo_congr (M := fun _ => True) (L := fun _ => True) (vals := vals) n (fun _ _ => Iff.rfl) (fun j hj _ => hun j (.inl hj))]
        exact h.text
    have hactu : ∀ v, actAt ops md a0 (upd vals i v) i = actAt ops md a0 vals i := fun v => (putTo_congr _ (fun _ _ => Iff.rfl) (fun j _ hj => (upd_ne v (by rintro rfl; exact hi (hE j hj))).symm)).symm
    by_cases hin : i < n
    · have hR := h.rv i hin him
      have hR' : RV P ops md us S a0 (fun j => L j ∨ j = i) (upd vals i (vals i)) w i := fun o' ho' => by
        rw [hactu, upd_at]
        obtain ⟨h1, h2, h3⟩ := hR o' ho'
        exact ⟨h1, fun a b c => absurd (.inr rfl) c, h3⟩
      obtain ⟨h1, h2, h3⟩ := hR o ho
      refine ⟨fun hw => ?_, fun hw => ?_⟩
      · have hrun : (execOp (actAt ops md a0 vals i).eval o).run P w = .ok (.value (vals i)) w := by
          by_cases hu : i ∈ us
          · exact h1 hw hu w h.st
          · exact h2 hw hu hi
        rw [hrun]
        exact fin (vals i) (fun _ => rfl) hR' (fun h => by omega)
      · have := fin (vals i) (fun _ => rfl) hR' (fun h => by omega)
        rw [h3 hw] at this
        exact this
    · have hn := h.next.2 (by omega)
      have hni : n < i := by
        rcases Nat.lt_or_ge n i with h1 | h1
        · exact h1
        · have : i = n := by omega
          subst this
          exact absurd hn him
      have hu : i ∈ us := by
        by_cases hu : i ∈ us
        · exact hu
        · exact absurd (waits_in ok h.down i hE (so.post n hn i his hu hni)) (h.far n hn (Nat.le_refl _))
      obtain ⟨vals', w', e1, e2⟩ := seq_reach (L := L) (ms := ms) ok h.down his (i - n) n vals w h.st rfl (by omega) (fun j hj => h.inU ok so j hj) (fun j hj hle hm => h.far j hm hle hj) h.rvu h.text
      have hdrop : ops.toList.drop i = o :: ops.toList.drop (i + 1) := by
        rw [List.drop_eq_getElem_cons (by simpa using his)]
        congr 1
        have := (Array.getElem?_eq_some_iff.1 ho).2
        simpa using this
      have hag := text_agree (a0 := a0) (vals := vals') ok ho
      have hact : actAt ops md a0 vals' i = actAt ops md a0 vals i := (putTo_congr _ (fun _ _ => Iff.rfl) (fun j _ hj => (e1 j (hE j hj)))).symm
      rw [hdrop] at e2
      simp only [wpSeq] at e2
      rw [wanted_agree hag, exec_agree (ok.sel i o · · ho) hag, hact] at e2
      refine ⟨fun hw => ?_, fun hw => ?_⟩
      · rw [if_pos hw, if_neg him, if_pos hu] at e2
        obtain ⟨v, hv, _⟩ := e2
        rw [hv w h.st]
        refine fin v (fun hh => absurd hh hin) (fun o' ho' => ?_) (fun _ => hu)
        rw [ho] at ho'
        injection ho' with ho'
        subst ho'
        rw [hactu, upd_at]
        exact ⟨fun _ _ => hv, fun _ hh => absurd hu hh, fun hh => by rw [hw] at hh; cases hh⟩
      · refine fin undef (fun hh => absurd hh hin) (fun o' ho' => ?_) (fun _ => hu)
        rw [ho] at ho'
        injection ho' with ho'
        subst ho'
        rw [hactu, upd_at]
        exact ⟨(fun hh => by rw [hw] at hh; cases hh), (fun hh => by rw [hw] at hh; cases hh), fun _ => rfl⟩

theorem seq_any (ok : FreeOk md ops) (so : SeqOk md ops ms us) {Q : Act → World → Prop} {Q' : Exit → Act → World → Prop} (hQ : ∀ a w, Q a w → Q' .normal a w) : ∀ (fuel : Nat) (listed : Array Bool) (vals : Nat → Value) (w : World) (n : Nat) (U : List Nat), listed.size = ops.size → U.length ≤ fuel → (∀ j, j < ops.size → listed.getD j false = false → j ∈ U) →
      At P ops md ms us S Q a0 (fun j => listed.getD j false = true) vals w n → wpAny P md ops Q' fuel listed (putTo ops a0 vals (fun j => listed.getD j false = true) ops.size) w := by
  intro fuel
  have hall : ∀ (listed : Array Bool) (vals : Nat → Value) (w : World) (n : Nat), (∀ j, j < ops.size → listed.getD j false = true) → At P ops md ms us S Q a0 (fun j => listed.getD j false = true) vals w n → Q' .normal (putTo ops a0 vals (fun j => listed.getD j false = true) ops.size) w := by
    intro listed vals w n h1 hA
    have hn : n = ops.size := by
      rcases Nat.lt_or_ge n ops.size with h2 | h2
      · exact absurd (h1 n h2) (hA.far n (hA.next.2 h2) (Nat.le_refl _))
      · have := hA.next.1; omega
    subst hn
    have ht := hA.text
    rw [List.drop_eq_nil_of_le (by simp)] at ht
    simp only [wpSeq] at ht
    rw [putTo_congr (M := fun _ => True) (vals' := vals) ops.size (fun j hj => ⟨fun _ => trivial, fun _ => h1 j hj⟩) (fun _ _ _ => rfl)]
    exact hQ _ _ ht
  have hnone : ∀ (listed : Array Bool), listed.size = ops.size → (∀ j, j < ops.size → listed.getD j false = true) → Region.ready md ops listed = [] := by
    intro listed hsz h1
    refine List.eq_nil_iff_forall_not_mem.2 fun j hj => ?_
    obtain ⟨h2, o, ho, _⟩ := mem_ready.1 hj
    have hjn := (Array.getElem?_eq_some_iff.1 ho).1
    have h3 := h1 j hjn
    simp [hsz, hjn] at h2 h3
    rw [h2] at h3; cases h3
  have hfull : ∀ (listed : Array Bool), listed.size = ops.size → Region.ready md ops listed = [] → ∀ j, j < ops.size → listed.getD j false = true := by
    intro listed hsz hnil j
    induction j using Nat.strongRecOn with
    | ind j ih =>
      intro hj
      cases hjl : listed.getD j false with
      | true => rfl
      | false =>
        exfalso
        obtain ⟨o, ho⟩ : ∃ o, ops[j]? = some o := ⟨_, Array.getElem?_eq_getElem hj⟩
        have : j ∈ Region.ready md ops listed := mem_ready.2 ⟨by simp [hsz, hj] at hjl ⊢; exact hjl, o, ho, fun e he hb => by
          have := ok.before j e.on ⟨o, e, ho, he, hb, rfl⟩
          exact ih e.on this (by omega)⟩
        rw [hnil] at this
        cases this
  induction fuel with
  | zero =>
    intro listed vals w n U hsz hU hin hA
    have h1 : ∀ j, j < ops.size → listed.getD j false = true := fun j hj => by
      cases hjl : listed.getD j false with
      | true => rfl
      | false =>
        have := hin j hj hjl
        rw [List.eq_nil_of_length_eq_zero (by omega : U.length = 0)] at this
        cases this
    exact ⟨hnone listed hsz h1, hall listed vals w n h1 hA⟩
  | succ fuel ih =>
    intro listed vals w n U hsz hU hin hA
    refine ⟨fun hnil => hall listed vals w n (hfull listed hsz hnil) hA, fun i hi => ?_⟩
    obtain ⟨hi0, o, ho, hde⟩ := mem_ready.1 hi
    have hin' : i < ops.size := (Array.getElem?_eq_some_iff.1 ho).1
    have hi1 : listed.getD i false = false := by simp [hsz, hin'] at hi0 ⊢; exact hi0
    have hE : ∀ j, Edge' md ops i j → listed.getD j false = true := by
      rintro j ⟨o', e, ho', he, hb, rfl⟩
      rw [ho] at ho'
      injection ho' with ho'
      subst ho'
      exact hde e he hb
    have hnot : ¬ listed.getD i false = true := by rw [hi1]; simp
    have hs := hA.step ok so ho hE hnot
    have hag : AgreeOn (o.looksAt ops) (putTo ops a0 vals (fun j => listed.getD j false = true) ops.size) (actAt ops md a0 vals i) :=
      looks_agree ok ho (fun j hj => ⟨hE j hj, by have := ok.before _ _ hj; omega⟩) (fun j hj h => hnot (hA.down j i h.1 hj))
    have hdst : dstOf ops i = o.dst := by simp [dstOf, ho]
    have next : ∀ v w', (∃ vals' n', (∀ j, listed.getD j false = true ∨ j = i → upd vals i v j = vals' j) ∧ At P ops md ms us S Q a0 (fun j => listed.getD j false = true ∨ j = i) vals' w' n') → wpAny P md ops Q' fuel (listed.setIfInBounds i true) ((putTo ops a0 vals (fun j => listed.getD j false = true) ops.size).put o.dst v) w' := by
      rintro v w' ⟨vals', n', hag', hA'⟩
      have hset : ∀ j, (listed.setIfInBounds i true).getD j false = true ↔ (listed.getD j false = true ∨ j = i) := fun j => by
        by_cases e : j = i
        · subst e; simp [hsz, hin']
        · rw [getD_set_ne false (fun h => e h.symm)]; simp [e]
      have hfun : (fun j => (listed.setIfInBounds i true).getD j false = true) = (fun j => listed.getD j false = true ∨ j = i) := by
        funext j; exact propext (hset j)
      rw [← hdst, putTo_add ok.distinct hnot ops.size hin', putTo_congr (M := fun j => listed.getD j false = true ∨ j = i) (vals' := vals') ops.size (fun _ _ => Iff.rfl) (fun j _ hj => hag' j hj), ← hfun]
      refine ih (listed.setIfInBounds i true) vals' w' n' (U.erase i) (by simp [hsz]) ?_ ?_ ?_
      · have := List.length_erase_of_mem (hin i hin' hi1)
        have := List.length_pos_of_mem (hin i hin' hi1)
        omega
      · intro j hj hjl
        have hne : j ≠ i := by
          rintro rfl
          have := (hset j).2 (.inr rfl)
          rw [this] at hjl; cases hjl
        rw [getD_set_ne false (fun h => hne h.symm)] at hjl
        exact (List.mem_erase_of_ne hne).2 (hin j hj hjl)
      · rw [hfun]
        exact hA'
    unfold wpOp
    simp only [ho]
    rw [wanted_agree hag]
    split
    · rename_i hwt
      refine .inl ?_
      unfold Oper.wp
      rw [exec_agree (ok.sel i o · · ho) hag]
      exact upN_upon (fun v w' hst' => next v w' hst') (hs.1 hwt)
    · rename_i hwt
      exact next undef w (hs.2 (by simpa using hwt))

/-- One walk in the order of the text, world by world, serves every order. -/
theorem wp_region_seqS (S : World → Prop) {id : Nat} {Q : Exit → Act → World → Prop} {a : Act} {w : World} {l : List Oper} (ms us : List Nat) (hm : P.follows .mixedOrders = true) (hB : freeB .any l.toArray = true) (hS : seqB l.toArray ms us .any = true)
    (hw : S w.drew) (h : wpSeq P l.toArray ms us S (fun a' w' => Q .normal a' w') 0 l a w.drew) : (Code.region id l.toArray true).wp P Q a w := by
  refine wp_region_any hm ?_
  obtain ⟨vals, n, hA⟩ := At.begin (P := P) (ops := l.toArray) (md := .any) (ms := ms) (us := us) (S := S) (a0 := a) (freeOk hB) (Q := fun a' w' => Q .normal a' w') hw (by simpa using h)
  have no : ∀ j, ¬ (Array.replicate l.toArray.size false).getD j false = true := fun j hj => by rw [rep_false] at hj; cases hj
  have hfun : (fun j => (Array.replicate l.toArray.size false).getD j false = true) = (fun _ => False) := by funext j; exact propext ⟨fun h => (no j h).elim, fun h => h.elim⟩
  have h1 := seq_any (a0 := a) (freeOk hB) (seqOk hS) (Q' := Q) (fun _ _ h => h) l.toArray.size (Array.replicate l.toArray.size false) vals w.drew n (List.range l.toArray.size) (by simp) (by simp) (fun j hj _ => List.mem_range.2 hj) (by rw [hfun]; exact hA)
  have e : putTo l.toArray a vals (fun j => (Array.replicate l.toArray.size false).getD j false = true) l.toArray.size = a := by
    have : ∀ k, putTo l.toArray a vals (fun j => (Array.replicate l.toArray.size false).getD j false = true) k = a := by
      intro k
      induction k with
      | zero => rfl
      | succ k ih => rw [putTo_no (no k), ih]
    exact this _
  rw [e] at h1
  exact h1

theorem wp_region_seq {id : Nat} {Q : Exit → Act → World → Prop} {a : Act} {w : World} {l : List Oper} (ms us : List Nat) (hm : P.follows .mixedOrders = true) (hB : freeB .any l.toArray = true) (hS : seqB l.toArray ms us .any = true)
    (h : wpSeq P l.toArray ms us (fun _ => True) (fun a' w' => Q .normal a' w') 0 l a w.drew) : (Code.region id l.toArray true).wp P Q a w := wp_region_seqS _ ms us hm hB hS trivial h

/-! ### The steps of the walk -/
variable {Q : Act → World → Prop} {k : Nat} {o : Oper} {rest : List Oper} {a : Act}
theorem seq_step (hk : k ∉ ms) (hu : k ∉ us)
    (h : ∀ K : Act → World → Prop, (∀ a w, wpSeq P ops ms us S Q (k + 1) rest a w → K a w) → if Region.wanted o (yielded ops a.tmps) = true then ∃ v, (execOp a.eval o).run P w = .ok (.value v) w ∧ K (a.put o.dst v) w else K (a.put o.dst undef) w) : wpSeq P ops ms us S Q k (o :: rest) a w := by
  have h' := h _ (fun _ _ h => h)
  simp only [wpSeq]
  split
  · rename_i hw
    rw [if_pos hw] at h'
    exact h'
  · rename_i hw
    rw [if_neg hw] at h'
    exact h'
theorem seq_free (hk : k ∉ ms) (hu : k ∈ us)
    (h : ∀ K : Act → World → Prop, (∀ a w, wpSeq P ops ms us S Q (k + 1) rest a w → K a w) → if Region.wanted o (yielded ops a.tmps) = true then ∃ v, steadyF P S o a v ∧ K (a.put o.dst v) w else K (a.put o.dst undef) w) : wpSeq P ops ms us S Q k (o :: rest) a w := by
  have h' := h _ (fun _ _ h => h)
  simp only [wpSeq]
  split
  · rename_i hw
    rw [if_pos hw] at h'
    exact h'
  · rename_i hw
    rw [if_neg hw] at h'
    exact h'
theorem seq_move (hk : k ∈ ms)
    (h : ∀ K : Act → World → Prop, (∀ a w, wpSeq P ops ms us S Q (k + 1) rest a w → K a w) → if Region.wanted o (yielded ops a.tmps) = true then upN P (fun v w' => S w' ∧ K (a.put o.dst v) w') ((execOp a.eval o).run P w) else K (a.put o.dst undef) w) : wpSeq P ops ms us S Q k (o :: rest) a w := by
  have h' := h _ (fun _ _ h => h)
  simp only [wpSeq]
  split
  · rename_i hw
    rw [if_pos hw] at h'
    exact h'
  · rename_i hw
    rw [if_neg hw] at h'
    exact h'
theorem seq_move0 (hk : k ∈ ms) (hg : o.guard = none) (h : upN P (fun v w' => S w' ∧ wpSeq P ops ms us S Q (k + 1) rest (a.put o.dst v) w') ((execOp a.eval o).run P w)) : wpSeq P ops ms us S Q k (o :: rest) a w := by
  simp only [wpSeq, Region.wanted, hg]
  first | exact h | (simp only [if_true]; rw [if_pos hk]; exact h) | (rw [if_pos hk]; exact h)
theorem up_value {N : Value → World → Prop} {v : Value} (h : N v w) : upN P N (.ok (.value v) w) := h
theorem up_skip {N : Value → World → Prop} (h : N undef w) : upN P N (.ok .skip w) := h
theorem seq_nil (h : Q a w) : wpSeq P ops ms us S Q k [] a w := h
end
end Go.Proofs.Ytmpbmfahnbbbdaa
