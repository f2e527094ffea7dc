/-
  As XFree: what lies ahead of the region may be looked at by whatever comes ahead of those who break it.
-/
import Derived.Test.YtdgfefnaoionpaaRound
set_option linter.unusedSimpArgs false
set_option linter.unusedVariables false
namespace Go.Proofs.Ytdgfefnaoionpaa
open Go.RowKit
set_option maxRecDepth 100000
open Go

section
variable {P : Program} {ops : Array Oper} {md : Region.Mode}
section
variable (P : Program) (ops : Array Oper) (md : Region.Mode) (S : World → Prop) (S0 : Nat → World → Prop) (T : Nat → World → World → Prop) (ms : List Nat) (brk : Nat → List Nat) (mf : Nat → Value → World → Prop)

/-- The worlds in which the operation k may come up: the facts of those that it waits for hold. -/
def clsI (F : Facts) (k : Nat) (w : World) : Prop := S w ∧ (∀ j, seesB md ops brk k (ops.size + j) = true → S0 j w) ∧ ∀ p ∈ F, (waits md ops p.1).contains k = true → seesB md ops brk k p.1 = true → mf p.1 p.2 w
def wpFreeI (Q : Act → World → Prop) : Nat → List Oper → Facts → Act → Prop
  | _, [], F, a => ∀ w, S w → (∀ p ∈ F, endB md ops brk p.1 = true → mf p.1 p.2 w) → Q a w
  | k, o :: rest, F, a =>
    if Region.wanted o (yielded ops a.tmps) = true then
      if k ∈ ms then (∀ w, clsI ops md S S0 brk mf F k w → upN P (fun v w' => S w' ∧ T k w w' ∧ mf k v w') ((execOp a.eval o).run P w)) ∧ ∀ v, (∃ w, S w ∧ mf k v w) → wpFreeI Q (k + 1) rest ((k, v) :: F) (a.put o.dst v)
      else ∃ v, (∀ w, clsI ops md S S0 brk mf F k w → (execOp a.eval o).run P w = .ok (.value v) w) ∧ wpFreeI Q (k + 1) rest F (a.put o.dst v)
    else wpFreeI Q (k + 1) rest F (a.put o.dst undef)

def clsAtI (a0 : Act) (vals : Nat → Value) (k : Nat) (w : World) : Prop := S w ∧ (∀ j, seesB md ops brk k (ops.size + j) = true → S0 j w) ∧ ∀ i, k ∈ waits md ops i → seesB md ops brk k i = true → FactAt ops md ms mf a0 vals i w
/-- A value that the operation k may have left. -/
def ValidI (a0 : Act) (vals : Nat → Value) (k : Nat) : Prop := ∀ o, ops[k]? = some o →
  (Region.wanted o (yielded ops (actAt ops md a0 vals k).tmps) = true → k ∈ ms → ∃ w, S w ∧ mf k (vals k) w) ∧
  (Region.wanted o (yielded ops (actAt ops md a0 vals k).tmps) = true → k ∉ ms → (∃ w, clsAtI ops md S S0 ms brk mf a0 vals k w) ∧ ∀ w', clsAtI ops md S S0 ms brk mf a0 vals k w' → (execOp (actAt ops md a0 vals k).eval o).run P w' = .ok (.value (vals k)) w') ∧
  (Region.wanted o (yielded ops (actAt ops md a0 vals k).tmps) = false → vals k = undef)
/-- What has come: L, with its values, in the world w. -/
structure ComeI (a0 : Act) (L : Nat → Prop) (vals : Nat → Value) (w : World) : Prop where
  lt : ∀ j, L j → j < ops.size
  down : ∀ k i, L k → Edge' md ops k i → L i
  cls : S w
  init : ∀ j, (∀ b, L b → ops.size + j ∉ brk b) → S0 j w
  valid : ∀ j, L j → ValidI P ops md S S0 ms brk mf a0 vals j
  fact : ∀ i, L i → (∀ b, L b → i ∈ brk b → i ∈ waits md ops b) → FactAt ops md ms mf a0 vals i w
end

section
variable {S : World → Prop} {S0 : Nat → World → Prop} {T : Nat → World → World → Prop} {ms : List Nat} {brk : Nat → List Nat} {mf : Nat → Value → World → Prop} {a0 : Act} {vals vals' : Nat → Value} {L : Nat → Prop}

theorem clsAtI_congr (ok : FreeOk md ops) (hL : Down md ops L) (hv : ∀ j, L j → vals j = vals' j) {k : Nat} (hk : ∀ j, Edge' md ops k j → L j) {w : World} (h : clsAtI ops md S S0 ms brk mf a0 vals k w) : clsAtI ops md S S0 ms brk mf a0 vals' k w :=
  ⟨h.1, h.2.1, fun i hi hs => factAt_congr hL hv (waits_in ok hL k hk hi) (h.2.2 i hi hs)⟩
theorem validI_congr (ok : FreeOk md ops) (hL : Down md ops L) (hv : ∀ j, L j → vals j = vals' j) {k : Nat} (hk : L k) (h : ValidI P ops md S S0 ms brk mf a0 vals k) : ValidI P ops md S S0 ms brk mf a0 vals' k := fun o ho => by
  have hd : ∀ j, Edge' md ops k j → L j := fun j hj => hL k j hk hj
  obtain ⟨h1, h2, h3⟩ := h o ho
  rw [actAt_congr hv hd, hv k hk] at h1 h2 h3
  exact ⟨h1, fun a b => ⟨(h2 a b).1.imp fun w hw => clsAtI_congr ok hL hv hd hw, fun w' hw' => (h2 a b).2 w' (clsAtI_congr ok hL (fun j hj => (hv j hj).symm) hd hw')⟩, h3⟩

theorem FOk.clsI {k : Nat} {F : Facts} (hF : FOk md ops ms a0 vals k F) {w : World} (h : clsAtI ops md S S0 ms brk mf a0 vals k w) : clsI ops md S S0 brk mf F k w :=
  ⟨h.1, h.2.1, fun p hp hw hs => by
    obtain ⟨h1, h2, h3, o, h4, h5⟩ := hF p hp
    rw [h1]
    exact h.2.2 p.1 (by simpa using hw) hs o h4 h3 h5⟩

theorem textI_walk (ok : FreeOk md ops) {Q : Act → World → Prop} (h0 : wpFreeI P ops md S S0 T ms brk mf Q 0 ops.toList [] a0) : ∀ k, k ≤ ops.size → (∀ j, j < k → ValidI P ops md S S0 ms brk mf a0 vals j) →
    ∃ F, FOk md ops ms a0 vals k F ∧ wpFreeI P ops md S S0 T ms brk mf Q k (ops.toList.drop k) F (putTo ops a0 vals (fun _ => True) k)
  | 0, _, _ => ⟨[], (fun p hp => by cases hp), by simpa [putTo] using h0⟩
  | k + 1, hk, hg => by
    obtain ⟨F, hF, hw⟩ := textI_walk ok h0 k (by omega) (fun j hj => hg j (by omega))
    obtain ⟨o, ho⟩ : ∃ o, ops[k]? = some o := ⟨_, Array.getElem?_eq_getElem (by omega)⟩
    have hdrop : ops.toList.drop k = o :: ops.toList.drop (k + 1) := by
      rw [List.drop_eq_getElem_cons (by simp; omega)]
      congr 1
      have := (Array.getElem?_eq_some_iff.1 ho).2
      simpa using this
    have hag := text_agree (a0 := a0) (vals := vals) ok ho
    have hdst : dstOf ops k = o.dst := by simp [dstOf, ho]
    have hF' : FOk md ops ms a0 vals (k + 1) F := fun p hp => let ⟨a, b, c⟩ := hF p hp; ⟨a, by omega, c⟩
    obtain ⟨g1, g2, g3⟩ := hg k (by omega) o ho
    rw [hdrop] at hw
    simp only [wpFreeI] at hw
    rw [wanted_agree hag] at hw
    rw [putTo_yes (L := fun _ => True) trivial, hdst]
    by_cases hwt : Region.wanted o (yielded ops (actAt ops md a0 vals k).tmps) = true
    · rw [if_pos hwt] at hw
      by_cases hm : k ∈ ms
      · rw [if_pos hm] at hw
        refine ⟨(k, vals k) :: F, fun p hp => ?_, hw.2 (vals k) (g1 hwt hm)⟩
        rcases List.mem_cons.1 hp with rfl | hp
        · exact ⟨rfl, by simp, hm, o, ho, hwt⟩
        · exact hF' p hp
      · rw [if_neg hm] at hw
        obtain ⟨v, h1, h2⟩ := hw
        obtain ⟨⟨w, hcls⟩, g2⟩ := g2 hwt hm
        have e1 := h1 w (hF.clsI hcls)
        have e2 := g2 w hcls
        rw [exec_agree (ok.sel k o · · ho) hag, e2] at e1
        injection e1 with e1
        injection e1 with e1
        subst e1
        exact ⟨F, hF', h2⟩
    · rw [if_neg hwt] at hw
      rw [g3 (by simpa using hwt)]
      exact ⟨F, hF', hw⟩

/-- One operation has come. -/
def StepI (P : Program) (ops : Array Oper) (md : Region.Mode) (S : World → Prop) (S0 : Nat → World → Prop) (T : Nat → World → World → Prop) (ms : List Nat) (brk : Nat → List Nat) (mf : Nat → Value → World → Prop) (a0 : Act) (k : Nat) (vals : Nat → Value) (w : World) (v : Value) (w' : World) : Prop :=
  S w' ∧ (w' = w ∨ (k ∈ ms ∧ T k w w')) ∧ ValidI P ops md S S0 ms brk mf a0 (upd vals k v) k ∧ FactAt ops md ms mf a0 (upd vals k v) k w'
theorem ComeI.step (ok : FreeOk md ops) (hst0 : ∀ k j w w', k ∈ ms → ops.size + j ∉ brk k → T k w w' → S0 j w → S0 j w') (hst : ∀ k i v w w', k ∈ ms → i ∈ ms → i ≠ k → i ∉ brk k → T k w w' → mf i v w → mf i v w') {w w' : World} {v : Value} {k : Nat} (hkn : k < ops.size) (h : ComeI P ops md S S0 ms brk mf a0 L vals w) (hE : ∀ i, Edge' md ops k i → L i) (hk : ¬ L k)
    (hs : StepI P ops md S S0 T ms brk mf a0 k vals w v w') : ComeI P ops md S S0 ms brk mf a0 (fun j => L j ∨ j = k) (upd vals k v) w' := by
  obtain ⟨s1, s2, s3, s4⟩ := hs
  have hv : ∀ j, L j → vals j = upd vals k v j := fun j hj => (upd_ne v (by rintro rfl; exact hk hj)).symm
  refine ⟨fun j hj => ?_, fun a b ha hab => ?_, s1, fun j hb => ?_, fun j hj => ?_, fun i hi hb => ?_⟩
  · rcases hj with hj | rfl
    · exact h.lt j hj
    · exact hkn
  · rcases ha with ha | rfl
    · exact .inl (h.down a b ha hab)
    · exact .inl (hE b hab)
  · have h0 := h.init j (fun b hL => hb b (.inl hL))
    rcases s2 with rfl | ⟨hm, ht⟩
    · exact h0
    · exact hst0 k j _ _ hm (hb k (.inr rfl)) ht h0
  · rcases hj with hj | rfl
    · exact validI_congr ok h.down hv hj (h.valid j hj)
    · exact s3
  · rcases hi with hi | rfl
    · have h1 := factAt_congr h.down hv hi (h.fact i hi (fun b hL => hb b (.inl hL)))
      rcases s2 with rfl | ⟨hm, ht⟩
      · exact h1
      · exact fun o ho hmi hw => hst k i _ _ _ hm hmi (by rintro rfl; exact hk hi) (fun hib => hk (waits_in ok h.down i (fun j hj => h.down i j hi hj) (hb k (.inr rfl) hib))) ht (h1 o ho hmi hw)
    · exact s4
theorem ComeI.clsAtI (ok : FreeOk md ops) {w : World} {k : Nat} (h : ComeI P ops md S S0 ms brk mf a0 L vals w) (hE : ∀ i, Edge' md ops k i → L i) (hk : ¬ L k) : clsAtI ops md S S0 ms brk mf a0 vals k w :=
  ⟨h.cls, fun j hs => h.init j (fun b hb hib => by
    have := List.all_eq_true.1 hs b (List.mem_range.2 (h.lt b hb))
    simp only [Bool.or_eq_true, Bool.not_eq_true', List.contains_eq_mem, decide_eq_false_iff_not, decide_eq_true_eq, beq_iff_eq] at this
    rcases this with ((h1 | h1) | h1) | h1
    · exact absurd hib h1
    · obtain ⟨o, _, h2, _⟩ := waits_ok md ops _ _ h1
      have := (Array.getElem?_eq_some_iff.1 h2).1
      omega
    · subst h1; exact absurd hb hk
    · exact absurd (waits_in ok h.down b (fun j hj => h.down b j hb hj) h1) hk), fun i hi hs => h.fact i (waits_in ok h.down k hE hi) (fun b hb hib => by
    have := List.all_eq_true.1 hs b (List.mem_range.2 (h.lt b hb))
    simp only [Bool.or_eq_true, Bool.not_eq_true', List.contains_eq_mem, decide_eq_false_iff_not, decide_eq_true_eq, beq_iff_eq] at this
    rcases this with ((h1 | h1) | h1) | h1
    · exact absurd hib h1
    · exact h1
    · subst h1; exact absurd hb hk
    · exact absurd (waits_in ok h.down b (fun j hj => h.down b j hb hj) h1) hk)⟩

/-- One operation, whatever has come ahead of it. -/
def StepOkI (P : Program) (ops : Array Oper) (md : Region.Mode) (S : World → Prop) (S0 : Nat → World → Prop) (T : Nat → World → World → Prop) (ms : List Nat) (brk : Nat → List Nat) (mf : Nat → Value → World → Prop) (a0 : Act) (k : Nat) : Prop :=
  ∀ (L : Nat → Prop) (vals : Nat → Value) (w : World) (o : Oper), ops[k]? = some o → ComeI P ops md S S0 ms brk mf a0 L vals w → (∀ i, Edge' md ops k i → L i) → ¬ L k →
    (Region.wanted o (yielded ops (actAt ops md a0 vals k).tmps) = true → upN P (fun v w' => StepI P ops md S S0 T ms brk mf a0 k vals w v w') ((execOp (actAt ops md a0 vals k).eval o).run P w)) ∧
    (Region.wanted o (yielded ops (actAt ops md a0 vals k).tmps) = false → StepI P ops md S S0 T ms brk mf a0 k vals w undef w)

theorem stepI_ok (ok : FreeOk md ops) {Q : Act → World → Prop} (h0 : wpFreeI P ops md S S0 T ms brk mf Q 0 ops.toList [] a0)
    (hst0 : ∀ k j w w', k ∈ ms → ops.size + j ∉ brk k → T k w w' → S0 j w → S0 j w') (hst : ∀ k i v w w', k ∈ ms → i ∈ ms → i ≠ k → i ∉ brk k → T k w w' → mf i v w → mf i v w') : ∀ k, StepOkI P ops md S S0 T ms brk mf a0 k := by
  intro k
  induction k using Nat.strongRecOn with
  | ind k ih =>
    intro L vals w o ho hC hE hk
    have hkn : k < ops.size := (Array.getElem?_eq_some_iff.1 ho).1
    have claim : ∀ m, m ≤ k → ∃ vals' w', (∀ j, L j → vals j = vals' j) ∧ ComeI P ops md S S0 ms brk mf a0 (fun j => L j ∨ j < m) vals' w' := by
      intro m
      induction m with
      | zero =>
        refine fun _ => ⟨vals, w, fun _ _ => rfl, ?_⟩
        have e : (fun j => L j ∨ j < 0) = L := by funext j; simp
        rw [e]; exact hC
      | succ m ihm =>
        intro hm
        obtain ⟨vals', w', h1, h2⟩ := ihm (by omega)
        by_cases c : L m
        · refine ⟨vals', w', h1, ?_⟩
          have e : (fun j => L j ∨ j < m + 1) = (fun j => L j ∨ j < m) := by
            funext j
            apply propext
            constructor
            · rintro (hj | hj)
              · exact .inl hj
              · by_cases e : j = m
                · subst e; exact .inl c
                · exact .inr (by omega)
            · exact fun hj => hj.imp id (by omega)
          rw [e]; exact h2
        · obtain ⟨om, hom⟩ : ∃ o, ops[m]? = some o := ⟨_, Array.getElem?_eq_getElem (by omega)⟩
          have hEm : ∀ i, Edge' md ops m i → (L i ∨ i < m) := fun i hi => .inr (ok.before _ _ hi)
          have hnm : ¬ (L m ∨ m < m) := fun h => h.elim c (by omega)
          have hst' := ih m (by omega) (fun j => L j ∨ j < m) vals' w' om hom h2 hEm hnm
          have e : (fun j => (L j ∨ j < m) ∨ j = m) = (fun j => L j ∨ j < m + 1) := by
            funext j
            apply propext
            constructor
            · rintro ((hj | hj) | rfl)
              · exact .inl hj
              · exact .inr (by omega)
              · exact .inr (by omega)
            · rintro (hj | hj)
              · exact .inl (.inl hj)
              · by_cases e : j = m
                · exact .inr e
                · exact .inl (.inr (by omega))
          have fin : ∀ v w'', StepI P ops md S S0 T ms brk mf a0 m vals' w' v w'' → ∃ vals' w', (∀ j, L j → vals j = vals' j) ∧ ComeI P ops md S S0 ms brk mf a0 (fun j => L j ∨ j < m + 1) vals' w' := fun v w'' hs =>
            ⟨upd vals' m v, w'', fun j hj => (h1 j hj).trans (upd_ne v (by rintro rfl; exact c hj)).symm, e ▸ h2.step ok hst0 hst (by omega) hEm hnm hs⟩
          cases hwt : Region.wanted om (yielded ops (actAt ops md a0 vals' m).tmps) with
          | true =>
            obtain ⟨v, w'', hs⟩ := upN_some (hst'.1 hwt)
            exact fin v w'' hs
          | false => exact fin undef w' (hst'.2 hwt)
    obtain ⟨vals', w', h1, h2⟩ := claim k (Nat.le_refl k)
    obtain ⟨F, hF, hw⟩ := textI_walk (vals := vals') ok h0 k (by omega) (fun j hj => h2.valid j (.inr hj))
    have hdrop : ops.toList.drop k = o :: ops.toList.drop (k + 1) := by
      rw [List.drop_eq_getElem_cons (by simpa using hkn)]
      congr 1
      have := (Array.getElem?_eq_some_iff.1 ho).2
      simpa using this
    have hag := text_agree (a0 := a0) (vals := vals') ok ho
    have hact : actAt ops md a0 vals' k = actAt ops md a0 vals k := (actAt_congr h1 hE).symm
    have hactu : ∀ v, actAt ops md a0 (upd vals k v) k = actAt ops md a0 vals k := fun v => (actAt_congr (L := L) (fun j hj => (upd_ne v (by rintro rfl; exact hk hj)).symm) hE).symm
    rw [hdrop] at hw
    simp only [wpFreeI] at hw
    rw [wanted_agree hag, exec_agree (ok.sel k o · · ho) hag, hact] at hw
    have hup : ∀ v, ∀ j, L j → upd vals k v j = vals' j := fun v j hj => (upd_ne v (by rintro rfl; exact hk hj)).trans (h1 j hj)
    have hcA : clsAtI ops md S S0 ms brk mf a0 vals k w := hC.clsAtI ok hE hk
    have hcU : ∀ v, clsAtI ops md S S0 ms brk mf a0 (upd vals k v) k w := fun v => clsAtI_congr ok hC.down (fun j hj => (upd_ne v (by rintro rfl; exact hk hj)).symm) hE hcA
    have hcF : ∀ v x, clsAtI ops md S S0 ms brk mf a0 (upd vals k v) k x → clsI ops md S S0 brk mf F k x := fun v x hx => hF.clsI (clsAtI_congr ok hC.down (hup v) hE hx)
    have hcw : clsI ops md S S0 brk mf F k w := hF.clsI (clsAtI_congr ok hC.down h1 hE hcA)
    refine ⟨fun hwt => ?_, fun hwt => ?_⟩
    · rw [if_pos hwt] at hw
      by_cases hm : k ∈ ms
      · rw [if_pos hm] at hw
        refine upN_mono (fun v w'' ⟨s1, s2, s3⟩ => ⟨s1, .inr ⟨hm, s2⟩, fun o' ho' => ?_, fun o' ho' _ _ => by rw [upd_at]; exact s3⟩) (hw.1 w hcw)
        rw [ho] at ho'
        injection ho' with ho'
        subst ho'
        rw [hactu, upd_at]
        exact ⟨fun _ _ => ⟨w'', s1, s3⟩, fun _ h => absurd hm h, fun h => by rw [hwt] at h; cases h⟩
      · rw [if_neg hm] at hw
        obtain ⟨v, e1, _⟩ := hw
        rw [e1 w hcw]
        refine ⟨hC.cls, .inl rfl, fun o' ho' => ?_, fun o' ho' hm' _ => absurd hm' hm⟩
        rw [ho] at ho'
        injection ho' with ho'
        subst ho'
        rw [hactu, upd_at]
        exact ⟨fun _ h => absurd h hm, fun _ _ => ⟨⟨w, hcU v⟩, fun x hx => e1 x (hcF v x hx)⟩, fun h => by rw [hwt] at h; cases h⟩
    · refine ⟨hC.cls, .inl rfl, fun o' ho' => ?_, fun o' ho' _ hw' => ?_⟩
      · rw [ho] at ho'
        injection ho' with ho'
        subst ho'
        rw [hactu, upd_at]
        exact ⟨(fun h => by rw [hwt] at h; cases h), (fun h => by rw [hwt] at h; cases h), fun _ => rfl⟩
      · rw [ho] at ho'
        injection ho' with ho'
        subst ho'
        rw [hactu, hwt] at hw'
        cases hw'

theorem freeI_any (ok : FreeOk md ops) {Q : Act → World → Prop} {Q' : Exit → Act → World → Prop} (hQ : ∀ a w, Q a w → Q' .normal a w) (h0 : wpFreeI P ops md S S0 T ms brk mf Q 0 ops.toList [] a0)
    (hst0 : ∀ k j w w', k ∈ ms → ops.size + j ∉ brk k → T k w w' → S0 j w → S0 j w') (hst : ∀ k i v w w', k ∈ ms → i ∈ ms → i ≠ k → i ∉ brk k → T k w w' → mf i v w → mf i v w') : ∀ (fuel : Nat) (listed : Array Bool) (vals : Nat → Value) (w : World) (U : List Nat), listed.size = ops.size → U.length ≤ fuel → (∀ j, j < ops.size → listed.getD j false = false → j ∈ U) →
      ComeI P ops md S S0 ms brk mf a0 (fun j => listed.getD j false = true) vals w → wpAny P md ops Q' fuel listed (putTo ops a0 vals (fun j => listed.getD j false = true) ops.size) w := by
  intro fuel
  have hall : ∀ (listed : Array Bool) (vals : Nat → Value) (w : World), (∀ j, j < ops.size → listed.getD j false = true) → ComeI P ops md S S0 ms brk mf a0 (fun j => listed.getD j false = true) vals w → Q' .normal (putTo ops a0 vals (fun j => listed.getD j false = true) ops.size) w := by
    intro listed vals w h1 hC
    obtain ⟨F, hF, hw⟩ := textI_walk (vals := vals) ok h0 ops.size (Nat.le_refl _) (fun j hj => hC.valid j (h1 j hj))
    rw [List.drop_eq_nil_of_le (by simp)] at hw
    simp only [wpFreeI] at hw
    rw [putTo_congr (M := fun _ => True) (vals' := vals) ops.size (fun j hj => ⟨fun _ => trivial, fun _ => h1 j hj⟩) (fun _ _ _ => rfl)]
    refine hQ _ _ (hw w hC.cls fun p hp he => ?_)
    obtain ⟨e1, e2, e3, o, e4, e5⟩ := hF p hp
    rw [e1]
    refine hC.fact p.1 (h1 _ e2) (fun b hb hib => ?_) o e4 e3 e5
    have := List.all_eq_true.1 he b (List.mem_range.2 (hC.lt b hb))
    simp only [Bool.or_eq_true, Bool.not_eq_true', List.contains_eq_mem, decide_eq_false_iff_not, decide_eq_true_eq] at this
    exact this.resolve_left (fun h => h hib)
  have hnone : ∀ (listed : Array Bool), listed.size = ops.size → (∀ j, j < ops.size → listed.getD j false = true) → Region.ready md ops listed = [] := by
    intro listed hsz h1
    refine List.eq_nil_iff_forall_not_mem.2 fun j hj => ?_
    obtain ⟨h2, o, ho, _⟩ := mem_ready.1 hj
    have hjn := (Array.getElem?_eq_some_iff.1 ho).1
    have h3 := h1 j hjn
    simp [hsz, hjn] at h2 h3
    rw [h2] at h3; cases h3
  have hfull : ∀ (listed : Array Bool), listed.size = ops.size → Region.ready md ops listed = [] → ∀ j, j < ops.size → listed.getD j false = true := by
    intro listed hsz hnil j
    induction j using Nat.strongRecOn with
    | ind j ih =>
      intro hj
      cases hjl : listed.getD j false with
      | true => rfl
      | false =>
        exfalso
        obtain ⟨o, ho⟩ : ∃ o, ops[j]? = some o := ⟨_, Array.getElem?_eq_getElem hj⟩
        have : j ∈ Region.ready md ops listed := mem_ready.2 ⟨by simp [hsz, hj] at hjl ⊢; exact hjl, o, ho, fun e he hb => by
          have := ok.before j e.on ⟨o, e, ho, he, hb, rfl⟩
          exact ih e.on this (by omega)⟩
        rw [hnil] at this
        cases this
  induction fuel with
  | zero =>
    intro listed vals w U hsz hU hin hC
    have h1 : ∀ j, j < ops.size → listed.getD j false = true := fun j hj => by
      cases hjl : listed.getD j false with
      | true => rfl
      | false =>
        have := hin j hj hjl
        rw [List.eq_nil_of_length_eq_zero (by omega : U.length = 0)] at this
        cases this
    exact ⟨hnone listed hsz h1, hall listed vals w h1 hC⟩
  | succ fuel ih =>
    intro listed vals w U hsz hU hin hC
    refine ⟨fun hnil => hall listed vals w (hfull listed hsz hnil) hC, fun i hi => ?_⟩
    obtain ⟨hi0, o, ho, hde⟩ := mem_ready.1 hi
    have hin' : i < ops.size := (Array.getElem?_eq_some_iff.1 ho).1
    have hi1 : listed.getD i false = false := by simp [hsz, hin'] at hi0 ⊢; exact hi0
    have hE : ∀ j, Edge' md ops i j → listed.getD j false = true := by
      rintro j ⟨o', e, ho', he, hb, rfl⟩
      rw [ho] at ho'
      injection ho' with ho'
      subst ho'
      exact hde e he hb
    have hnot : ¬ listed.getD i false = true := by rw [hi1]; simp
    have hs := stepI_ok ok h0 hst0 hst i (fun j => listed.getD j false = true) vals w o ho hC hE hnot
    have hag : AgreeOn (o.looksAt ops) (putTo ops a0 vals (fun j => listed.getD j false = true) ops.size) (actAt ops md a0 vals i) :=
      looks_agree ok ho (fun j hj => ⟨hE j hj, by have := ok.before _ _ hj; omega⟩) (fun j hj h => hnot (hC.down j i h.1 hj))
    have hdst : dstOf ops i = o.dst := by simp [dstOf, ho]
    have next : ∀ v w', StepI P ops md S S0 T ms brk mf a0 i vals w v w' → wpAny P md ops Q' fuel (listed.setIfInBounds i true) ((putTo ops a0 vals (fun j => listed.getD j false = true) ops.size).put o.dst v) w' := by
      intro v w' hst'
      have hset : ∀ j, (listed.setIfInBounds i true).getD j false = true ↔ (listed.getD j false = true ∨ j = i) := fun j => by
        by_cases e : j = i
        · subst e; simp [hsz, hin']
        · rw [getD_set_ne false (fun h => e h.symm)]; simp [e]
      have hfun : (fun j => (listed.setIfInBounds i true).getD j false = true) = (fun j => listed.getD j false = true ∨ j = i) := by
        funext j; exact propext (hset j)
      rw [← hdst, putTo_add ok.distinct hnot ops.size hin', ← hfun]
      refine ih (listed.setIfInBounds i true) (upd vals i v) w' (U.erase i) (by simp [hsz]) ?_ ?_ ?_
      · have := List.length_erase_of_mem (hin i hin' hi1)
        have := List.length_pos_of_mem (hin i hin' hi1)
        omega
      · intro j hj hjl
        have hne : j ≠ i := by
          rintro rfl
          have := (hset j).2 (.inr rfl)
          rw [this] at hjl; cases hjl
        rw [getD_set_ne false (fun h => hne h.symm)] at hjl
        exact (List.mem_erase_of_ne hne).2 (hin j hj hjl)
      · rw [hfun]
        exact hC.step ok hst0 hst hin' hE hnot hst'
    unfold wpOp
    simp only [ho]
    rw [wanted_agree hag]
    split
    · rename_i hwt
      refine .inl ?_
      unfold Oper.wp
      rw [exec_agree (ok.sel i o · · ho) hag]
      exact upN_upon (fun v w' hst' => next v w' hst') (hs.1 hwt)
    · rename_i hwt
      exact next undef w (hs.2 (by simpa using hwt))
end

/-- One walk in the order of the text serves every order; the plain operations that come ahead of whoever breaks S0 (the index ops.size in brk) may lean on it (S0 j: the index ops.size + j). -/
theorem any_freeI {Q' : Exit → Act → World → Prop} {Q : Act → World → Prop} (hQ : ∀ a w, Q a w → Q' .normal a w) {a : Act} {w : World} (S : World → Prop) (S0 : Nat → World → Prop) (T : Nat → World → World → Prop) (ms : List Nat) (brk : Nat → List Nat) (mf : Nat → Value → World → Prop) (hB : freeB md ops = true)
    (hst0 : ∀ k j w w', k ∈ ms → ops.size + j ∉ brk k → T k w w' → S0 j w → S0 j w') (hst : ∀ k i v w w', k ∈ ms → i ∈ ms → i ≠ k → i ∉ brk k → T k w w' → mf i v w → mf i v w')
    (hS : S w) (hS0 : ∀ j, S0 j w) (h : wpFreeI P ops md S S0 T ms brk mf Q 0 ops.toList [] a) : wpAny P md ops Q' ops.size (Array.replicate ops.size false) a w := by
  have no : ∀ j, (Array.replicate ops.size false).getD j false = true → False := fun j hj => by rw [rep_false] at hj; cases hj
  have h1 := freeI_any (vals := fun _ => undef) (a0 := a) (freeOk hB) (Q' := Q') hQ h hst0 hst ops.size (Array.replicate ops.size false) w (List.range ops.size) (by simp) (by simp) (fun j hj _ => List.mem_range.2 hj)
    ⟨fun j hj => (no j hj).elim, fun k i hk _ => (no k hk).elim, hS, fun j _ => hS0 j, fun j hj => (no j hj).elim, fun j hj => (no j hj).elim⟩
  have e : putTo ops a (fun _ => undef) (fun j => (Array.replicate ops.size false).getD j false = true) ops.size = a := by
    have : ∀ k, putTo ops a (fun _ => undef) (fun j => (Array.replicate ops.size false).getD j false = true) k = a := by
      intro k
      induction k with
      | zero => rfl
      | succ k ih => rw [putTo_no (by rw [rep_false]; simp), ih]
    exact this _
  rw [e] at h1
  exact h1
theorem wp_region_freeI {id : Nat} {Q : Exit → Act → World → Prop} {a : Act} {w : World} {l : List Oper} (S : World → Prop) (S0 : Nat → World → Prop) (T : Nat → World → World → Prop) (ms : List Nat) (brk : Nat → List Nat) (mf : Nat → Value → World → Prop) (hm : P.follows .mixedOrders = true) (hB : freeB .any l.toArray = true)
    (hst0 : ∀ k j w w', k ∈ ms → l.toArray.size + j ∉ brk k → T k w w' → S0 j w → S0 j w') (hst : ∀ k i v w w', k ∈ ms → i ∈ ms → i ≠ k → i ∉ brk k → T k w w' → mf i v w → mf i v w')
    (hS : S w.drew) (hS0 : ∀ j, S0 j w.drew) (h : wpFreeI P l.toArray .any S S0 T ms brk mf (fun a' w' => Q .normal a' w') 0 l [] a) : (Code.region id l.toArray true).wp P Q a w :=
  wp_region_any hm (any_freeI (Q := fun a' w' => Q .normal a' w') (fun _ _ h => h) S S0 T ms brk mf hB hst0 hst hS hS0 (by simpa using h))
theorem wpIn_region_freeI {lp n id : Nat} {Q : Exit → Act → World → Prop} {a : Act} {w : World} {l : List Oper} (S : World → Prop) (S0 : Nat → World → Prop) (T : Nat → World → World → Prop) (ms : List Nat) (brk : Nat → List Nat) (mf : Nat → Value → World → Prop) (hm : P.follows .mixedOrders = true) (hB : freeB .any l.toArray = true) (hd : noDeferB l.toArray = true)
    (hst0 : ∀ k j w w', k ∈ ms → l.toArray.size + j ∉ brk k → T k w w' → S0 j w → S0 j w') (hst : ∀ k i v w w', k ∈ ms → i ∈ ms → i ≠ k → i ∉ brk k → T k w w' → mf i v w → mf i v w')
    (hS : S w.drew) (hS0 : ∀ j, S0 j w.drew) (h : wpFreeI P l.toArray .any S S0 T ms brk mf (fun a' w' => Q .normal a' w') 0 l [] a) : (Code.region id l.toArray true).wpIn (Fence.wide.inRound lp) n P Q a w :=
  wpIn_region_any hm (any_in hd _ _ _ _ (any_freeI (Q' := Nrm Q) (Q := fun a' w' => Q .normal a' w') (fun _ _ h => h) S S0 T ms brk mf hB hst0 hst hS hS0 (by simpa using h)))

/-! ### The steps of the walk -/
section
variable {S : World → Prop} {S0 : Nat → World → Prop} {T : Nat → World → World → Prop} {ms : List Nat} {brk : Nat → List Nat} {mf : Nat → Value → World → Prop} {Q : Act → World → Prop} {k : Nat} {o : Oper} {rest : List Oper} {F : Facts} {a : Act}
theorem freeI_step (hk : k ∉ ms)
    (h : ∀ K : Act → Prop, (∀ a, wpFreeI P ops md S S0 T ms brk mf Q (k + 1) rest F a → K a) → if Region.wanted o (yielded ops a.tmps) = true then ∃ v, steadyF P (clsI ops md S S0 brk mf F k) o a v ∧ K (a.put o.dst v) else K (a.put o.dst undef)) : wpFreeI P ops md S S0 T ms brk mf Q k (o :: rest) F a := by
  have h' := h _ (fun _ h => h)
  simp only [wpFreeI]
  split
  · rename_i hw
    rw [if_pos hw] at h'
    first | exact h' | (rw [if_neg hk]; exact h')
  · rename_i hw
    rw [if_neg hw] at h'
    exact h'
theorem freeI_move (hk : k ∈ ms)
    (h : ∀ K : Facts → Act → Prop, (∀ F a, wpFreeI P ops md S S0 T ms brk mf Q (k + 1) rest F a → K F a) → if Region.wanted o (yielded ops a.tmps) = true then (∀ w, clsI ops md S S0 brk mf F k w → upN P (fun v w' => S w' ∧ T k w w' ∧ mf k v w') ((execOp a.eval o).run P w)) ∧ ∀ v, (∃ w, S w ∧ mf k v w) → K ((k, v) :: F) (a.put o.dst v) else K F (a.put o.dst undef)) : wpFreeI P ops md S S0 T ms brk mf Q k (o :: rest) F a := by
  have h' := h _ (fun _ _ h => h)
  simp only [wpFreeI]
  split
  · rename_i hw
    rw [if_pos hw] at h'
    first | exact h' | (rw [if_pos hk]; exact h')
  · rename_i hw
    rw [if_neg hw] at h'
    exact h'
theorem freeI_nil (h : ∀ w, S w → (∀ p ∈ F, endB md ops brk p.1 = true → mf p.1 p.2 w) → Q a w) : wpFreeI P ops md S S0 T ms brk mf Q k [] F a := h
theorem freeI_move0 (hk : k ∈ ms) (hg : o.guard = none) (h1 : ∀ w, clsI ops md S S0 brk mf F k w → upN P (fun v w' => S w' ∧ T k w w' ∧ mf k v w') ((execOp a.eval o).run P w)) (h2 : ∀ v, (∃ w, S w ∧ mf k v w) → wpFreeI P ops md S S0 T ms brk mf Q (k + 1) rest ((k, v) :: F) (a.put o.dst v)) : wpFreeI P ops md S S0 T ms brk mf Q k (o :: rest) F a := by
  simp only [wpFreeI, Region.wanted, hg]
  first | exact (if_pos hk).symm ▸ ⟨h1, h2⟩ | (rw [if_pos hk]; exact ⟨h1, h2⟩) | (simp only [if_true]; rw [if_pos hk]; exact ⟨h1, h2⟩)
end
end
end Go.Proofs.Ytdgfefnaoionpaa
