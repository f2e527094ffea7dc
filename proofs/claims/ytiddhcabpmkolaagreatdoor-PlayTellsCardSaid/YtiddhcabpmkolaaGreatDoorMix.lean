/-
  A region that draws its order of evaluation, some of whose operations (calls, above all) make memory. Those that turn the world are ordered among themselves; every other operation yields one value in every world of a class.
  Then one walk in the order of the text serves every order.
-/
import Derived.Deep.QuietTactic
import Derived.BigQuiet
namespace Go.Proofs.YtiddhcabpmkolaaGreatDoor
set_option linter.unusedSimpArgs false
set_option linter.unusedVariables false
open Go
set_option linter.unusedVariables false

section
variable {P : Program} {ops : Array Oper} {md : Region.Mode} {C : World → Prop} {ms : List Nat}

/-- One value in every world of the class, the world left as it is. -/
def steady (P : Program) (C : World → Prop) (o : Oper) (a : Act) (v : Value) : Prop :=
  ∀ w, C w → (execOp a.eval o).run P w = .ok (.value v) w ∨ ((execOp a.eval o).run P w = .ok .skip w ∧ v = undef)

def moveUpon (P : Program) (N : Value → World → Prop) : Result Next → Prop
  | .ok (.value v) w' => N v w'
  | .ok (.enter f args) w' => Calls P f args w' fun e w'' => ∃ v, e = .returned v ∧ N v w''
  | _ => False

/-- It yields a value and leaves a world. -/
def move (P : Program) (o : Oper) (a : Act) (w : World) (N : Value → World → Prop) : Prop := moveUpon P N ((execOp a.eval o).run P w)

theorem moveUpon_mono {N N' : Value → World → Prop} (h : ∀ v w, N v w → N' v w) : ∀ {r : Result Next}, moveUpon P N r → moveUpon P N' r
  | .ok (.value _) _, hh => h _ _ hh
  | .ok (.enter _ _) _, hh => Calls.mono hh fun _ _ ⟨v, e, hn⟩ => ⟨v, e, h _ _ hn⟩
  | .ok .skip _, hh => hh.elim
  | .ok (.defer _) _, hh => hh.elim
  | .ok (.row _ _) _, hh => hh.elim
  | .halt _ _, hh => hh.elim
theorem move_mono {o : Oper} {a : Act} {w : World} {N N' : Value → World → Prop} (h : ∀ v w, N v w → N' v w) (hh : move P o a w N) : move P o a w N' := moveUpon_mono h hh

theorem moveUpon_some {N : Value → World → Prop} : ∀ {r : Result Next}, moveUpon P N r → ∃ v w, N v w
  | .ok (.value v) w, hh => ⟨v, w, hh⟩
  | .ok (.enter _ _) _, hh => by
    obtain ⟨e, w', fr, ⟨v, _, hn⟩, _⟩ := hh []
    exact ⟨v, w', hn⟩
  | .ok .skip _, hh => hh.elim
  | .ok (.defer _) _, hh => hh.elim
  | .ok (.row _ _) _, hh => hh.elim
  | .halt _ _, hh => hh.elim

theorem steady_one {o : Oper} {a : Act} {u v : Value} {w : World} (hw : C w) (h : steady P C o a u) (k : steady P C o a v) : u = v := by
  rcases h w hw with h1 | ⟨h1, rfl⟩ <;> rcases k w hw with h2 | ⟨h2, rfl⟩
  · rw [h1] at h2
    injection h2 with h2
    injection h2
  · rw [h1] at h2
    injection h2 with h2
    cases h2
  · rw [h1] at h2
    injection h2 with h2
    cases h2
  · rfl

/-! ### What waits for an operation -/
def waitsB (md : Region.Mode) (ops : Array Oper) (i : Nat) (W : List Nat) (j : Nat) : Bool :=
  match ops[j]? with | some oj => oj.after.any (fun e => Region.binds md e && (e.on == i || W.contains e.on)) | none => false
def waitsStep (md : Region.Mode) (ops : Array Oper) (i : Nat) (W : List Nat) (j : Nat) : List Nat := if waitsB md ops i W j then j :: W else W
def waits (md : Region.Mode) (ops : Array Oper) (i : Nat) : List Nat := (List.range ops.size).foldl (waitsStep md ops i) []
/-- The movers are ordered among themselves. -/
def moversB (md : Region.Mode) (ops : Array Oper) (ms : List Nat) : Bool := ms.all fun i => ms.all fun j => decide (j ≤ i) || (waits md ops i).contains j

def waitOk (md : Region.Mode) (ops : Array Oper) (i : Nat) (W : List Nat) : Prop :=
  ∀ j ∈ W, ∃ oj e, ops[j]? = some oj ∧ e ∈ oj.after ∧ Region.binds md e = true ∧ (e.on = i ∨ e.on ∈ W)
theorem waits_ok (md : Region.Mode) (ops : Array Oper) (i : Nat) : waitOk md ops i (waits md ops i) := by
  have key : ∀ (l : List Nat) (W : List Nat), waitOk md ops i W → waitOk md ops i (l.foldl (waitsStep md ops i) W) := by
    intro l
    induction l with
    | nil => exact fun W h => h
    | cons j l ih =>
      intro W h
      refine ih _ ?_
      unfold waitsStep
      split
      · rename_i hj
        unfold waitsB at hj
        cases ho : ops[j]? with
        | none => simp [ho] at hj
        | some oj =>
          simp only [ho] at hj
          obtain ⟨e, he, hb⟩ := Array.any_eq_true'.1 hj
          simp only [Bool.and_eq_true, Bool.or_eq_true, beq_iff_eq, List.contains_iff_mem] at hb
          intro k hk
          rcases List.mem_cons.1 hk with rfl | hk
          · exact ⟨oj, e, ho, he, hb.1, hb.2.imp id (List.mem_cons_of_mem _)⟩
          · obtain ⟨ok, e', h1, h2, h3, h4⟩ := h k hk
            exact ⟨ok, e', h1, h2, h3, h4.imp id (List.mem_cons_of_mem _)⟩
      · exact h
  exact key _ [] (fun j hj => by cases hj)

theorem steady_put {oi oj : Oper} {u v : Value} {a : Act} (hap : ∀ d, oi.dst = some d → d ∉ oj.looksAt ops) (hsj : ∀ cs b, oj.op ≠ .select cs b) : steady P C oj (a.put oi.dst v) u ↔ steady P C oj a u := by
  unfold steady
  rw [execOp_put oj hsj a oi.dst v hap]
theorem move_put {oi oj : Oper} {v : Value} {a : Act} {w : World} {N : Value → World → Prop} (hap : ∀ d, oi.dst = some d → d ∉ oj.looksAt ops) (hsj : ∀ cs b, oj.op ≠ .select cs b) : move P oj (a.put oi.dst v) w N ↔ move P oj a w N := by
  unfold move
  rw [execOp_put oj hsj a oi.dst v hap]

theorem not_waits {i j : Nat} {oj : Oper} {listed : Array Bool} (hoj : ops[j]? = some oj) (hall : ∀ e ∈ oj.after, Region.binds md e = true → listed.getD e.on false = true) (hi0 : listed.getD i true = false) :
    ∀ e ∈ oj.after, Region.binds md e = true → e.on ≠ i := fun e he hb heq => by
  have h1 := hall e he hb
  rw [heq] at h1
  rcases Nat.lt_or_ge i listed.size with h' | h'
  · simp [h'] at hi0 h1; rw [hi0] at h1; cases h1
  · simp [Array.getElem?_eq_none h'] at h1


/-! ### Classes of worlds: those in which an operation may come up -/
/-- Of each mover that has come: the class of worlds behind it. -/
abbrev Past := List (Nat × (World → Prop))
def cls (md : Region.Mode) (ops : Array Oper) (C : World → Prop) (H : Past) (k : Nat) (x : World) : Prop := C x ∧ ∀ p ∈ H, k ∈ waits md ops p.1 → p.2 x
def cur (C : World → Prop) (H : Past) (x : World) : Prop := C x ∧ ∀ p ∈ H, p.2 x
theorem cls_of_cur {H : Past} {x : World} (h : cur C H x) (k : Nat) : cls md ops C H k x := ⟨h.1, fun p hp _ => h.2 p hp⟩
theorem cls_cons {H : Past} {i k : Nat} {C1 : World → Prop} (h : k ∉ waits md ops i) : cls md ops C ((i, C1) :: H) k = cls md ops C H k := by
  funext x
  apply propext
  constructor
  · exact fun hh => ⟨hh.1, fun p hp => hh.2 p (List.mem_cons_of_mem _ hp)⟩
  · exact fun hh => ⟨hh.1, fun p hp hk => by
      rcases List.mem_cons.1 hp with rfl | hp
      · exact absurd hk h
      · exact hh.2 p hp hk⟩

def mixAt (P : Program) (md : Region.Mode) (ops : Array Oper) (C : World → Prop) (ms : List Nat) (H : Past) (i : Nat) (o : Oper) (K : Past → Act → World → Prop) (a : Act) (w : World) : Prop :=
  (∃ v, steady P (cls md ops C H i) o a v ∧ K H (a.put o.dst v) w) ∨ (i ∈ ms ∧ move P o a w fun v w' => ∃ C1 : World → Prop, cur C ((i, C1) :: H) w' ∧ K ((i, C1) :: H) (a.put o.dst v) w')

def mixOp (P : Program) (md : Region.Mode) (ops : Array Oper) (C : World → Prop) (ms : List Nat) (H : Past) (i : Nat) (K : Past → Act → World → Prop) (a : Act) (w : World) : Prop :=
  match ops[i]? with
  | none => K H a w
  | some o => if Region.wanted o (yielded ops a.tmps) then mixAt P md ops C ms H i o K a w else K H (a.put o.dst undef) w
theorem mixOp_some {H : Past} {i : Nat} {o : Oper} (hi : ops[i]? = some o) {K : Past → Act → World → Prop} {a : Act} {w : World} :
    mixOp P md ops C ms H i K a w ↔ if Region.wanted o (yielded ops a.tmps) then mixAt P md ops C ms H i o K a w else K H (a.put o.dst undef) w := by
  unfold mixOp
  simp only [hi]

/-- The walk in the order of the text; k: the number of the next operation. -/
def wpMix (P : Program) (md : Region.Mode) (ops : Array Oper) (C : World → Prop) (ms : List Nat) (Q : Past → Act → World → Prop) : Nat → List Oper → Past → Act → World → Prop
  | _, [], H, a, w => Q H a w
  | k, o :: rest, H, a, w => if Region.wanted o (yielded ops a.tmps) then mixAt P md ops C ms H k o (wpMix P md ops C ms Q (k + 1) rest) a w else wpMix P md ops C ms Q (k + 1) rest H (a.put o.dst undef) w

def wpAnyM (P : Program) (md : Region.Mode) (ops : Array Oper) (C : World → Prop) (ms : List Nat) (Q : Past → Act → World → Prop) : Nat → Array Bool → Past → Act → World → Prop
  | 0, listed, H, a, w => Region.ready md ops listed = [] ∧ Q H a w
  | fuel + 1, listed, H, a, w =>
    (Region.ready md ops listed = [] → Q H a w) ∧
    ∀ i ∈ Region.ready md ops listed, mixOp P md ops C ms H i (wpAnyM P md ops C ms Q fuel (listed.setIfInBounds i true)) a w

theorem wp_of_mixAt {H : Past} {i : Nat} {o : Oper} {K : Past → Act → World → Prop} {K' : Act → World → Prop} {Q' : Exit → Act → World → Prop} {a : Act} {w : World} (hw : cur C H w) (h : ∀ H a w, cur C H w → K H a w → K' a w)
    (hh : mixAt P md ops C ms H i o K a w) : o.wp P a w K' Q' := by
  unfold Oper.wp
  rcases hh with ⟨v, hs, hk⟩ | ⟨_, hv⟩
  · rcases hs w (cls_of_cur hw i) with e | ⟨e, rfl⟩
    · rw [e]; exact h _ _ _ hw hk
    · rw [e]; exact h _ _ _ hw hk
  · unfold move at hv
    generalize (execOp a.eval o).run P w = r at *
    cases r with
    | ok n w' =>
      cases n <;> simp only [moveUpon] at hv <;> simp only [Oper.upon]
      case value u => obtain ⟨C1, h1, h2⟩ := hv; exact h _ _ _ h1 h2
      case enter f args => exact hv.mono fun e w'' ⟨v, he, C1, h1, h2⟩ => by subst he; exact h _ _ _ h1 h2
    | halt x w' => simp only [moveUpon] at hv

theorem wpAny_of_mix {Q : Past → Act → World → Prop} {Q' : Exit → Act → World → Prop} (hQ : ∀ H a w, cur C H w → Q H a w → Q' .normal a w) : ∀ (fuel : Nat) (listed : Array Bool) (H : Past) (a : Act) (w : World), cur C H w →
    wpAnyM P md ops C ms Q fuel listed H a w → wpAny P md ops Q' fuel listed a w
  | 0, _, _, _, _, hw, h => ⟨h.1, hQ _ _ _ hw h.2⟩
  | fuel + 1, _, H, a, w, hw, h => ⟨fun h0 => hQ _ _ _ hw (h.1 h0), fun i hi => by
      have h2 := h.2 i hi
      unfold mixOp at h2
      unfold wpOp
      split
      · rename_i ho; simp only [ho] at h2; exact wpAny_of_mix hQ fuel _ _ _ _ hw h2
      · rename_i o ho
        simp only [ho] at h2
        split
        · rename_i hwt; simp only [hwt, if_true] at h2; exact .inl (wp_of_mixAt hw (fun H a w hw h => wpAny_of_mix hQ fuel _ H a w hw h) h2)
        · rename_i hwt; simp only [hwt] at h2; exact wpAny_of_mix hQ fuel _ _ _ _ hw h2⟩

/-! ### Taking an operation first -/
/-- What waits for an operation does not come ahead of it. -/
def Closed (md : Region.Mode) (ops : Array Oper) (listed : Array Bool) : Prop := ∀ j, ∀ k ∈ waits md ops j, listed.getD k false = true → listed.getD j false = true
theorem Closed.not_mem {listed : Array Bool} (h : Closed md ops listed) {i j : Nat} (hi : i ∈ Region.ready md ops listed) (hj : listed.getD j true = false) : i ∉ waits md ops j := fun hw => by
  obtain ⟨oi, e, h1, h2, h3, h4⟩ := waits_ok md ops j i hw
  obtain ⟨_, oi', h1', hall⟩ := mem_ready.1 hi
  rw [h1] at h1'
  injection h1' with h1'
  subst h1'
  rcases h4 with h4 | h4
  · exact not_waits h1 hall hj e h2 h3 h4
  · have h5 := h j e.on h4 (hall e h2 h3)
    rcases Nat.lt_or_ge j listed.size with h' | h'
    · simp [h'] at hj h5; rw [hj] at h5; cases h5
    · simp [Array.getElem?_eq_none h'] at h5
theorem Closed.add {listed : Array Bool} (h : Closed md ops listed) {i : Nat} (hi : i ∈ Region.ready md ops listed) : Closed md ops (listed.setIfInBounds i true) := by
  intro j k hk hl
  by_cases hik : i = k
  · subst hik
    by_cases hij : i = j
    · subst hij
      exact hl
    · rw [getD_set_ne false hij]
      cases hj : listed.getD j true with
      | false => exact absurd hk (h.not_mem hi hj)
      | true =>
        rcases Nat.lt_or_ge j listed.size with h' | h'
        · simp [h'] at hj ⊢; exact hj
        · exfalso
          obtain ⟨oi, e, h1, h2, h3, h4⟩ := waits_ok md ops j i hk
          obtain ⟨_, oi', h1', hall⟩ := mem_ready.1 hi
          rw [h1] at h1'
          injection h1' with h1'
          subst h1'
          have h6 := hall e h2 h3
          rcases h4 with h4 | h4
          · rw [h4] at h6
            simp [Array.getElem?_eq_none h'] at h6
          · have h5 := h j e.on h4 h6
            simp [Array.getElem?_eq_none h'] at h5
  · rw [getD_set_ne false hik] at hl
    exact getD_set_true (h j k hk hl)

/-- What the operation 'i' (steady, or not wanted) leaves in its temporary. -/
def YieldsC (P : Program) (ops : Array Oper) (C : World → Prop) (o : Oper) (v : Value) (a : Act) : Prop :=
  (Region.wanted o (yielded ops a.tmps) = true ∧ steady P C o a v) ∨ (Region.wanted o (yielded ops a.tmps) = false ∧ v = undef)
theorem YieldsC.put {oi oj : Oper} {u v : Value} {a : Act} (h : YieldsC P ops C oi v a) (hap : ∀ d, oj.dst = some d → d ∉ oi.looksAt ops) (hsi : ∀ cs b, oi.op ≠ .select cs b) : YieldsC P ops C oi v (a.put oj.dst u) := by
  unfold YieldsC at *
  rw [wanted_put oi a oj.dst u hap, steady_put hap hsi]
  exact h
theorem YieldsC.mix {H : Past} {i : Nat} {o : Oper} {v : Value} {a : Act} {w : World} (hi : ops[i]? = some o) (hy : YieldsC P ops (cls md ops C H i) o v a) {K : Past → Act → World → Prop} (h : K H (a.put o.dst v) w) : mixOp P md ops C ms H i K a w := by
  rw [mixOp_some hi]
  rcases hy with ⟨hw, hs⟩ | ⟨hw, rfl⟩
  · rw [if_pos hw]; exact .inl ⟨v, hs, h⟩
  · rw [if_neg (by simp [hw])]; exact h

theorem mix_first {Q : Past → Act → World → Prop} {i : Nat} {oi : Oper} {v : Value} (hi : ops[i]? = some oi) (hsel : ∀ (j : Nat) (o : Oper) cs b, ops[j]? = some o → o.op ≠ .select cs b) :
    ∀ (fuel : Nat) (listed : Array Bool) (H : Past) (a : Act) (w : World),
      (∀ j oj, ops[j]? = some oj → j ≠ i → listed.getD j true = false → (∀ e ∈ oj.after, Region.binds md e = true → e.on ≠ i) → oi.apart ops oj = true) →
      Closed md ops listed → i ∈ Region.ready md ops listed → YieldsC P ops (cls md ops C H i) oi v a →
      wpAnyM P md ops C ms Q fuel (listed.setIfInBounds i true) H (a.put oi.dst v) w → wpAnyM P md ops C ms Q (fuel + 1) listed H a w := by
  intro fuel
  induction fuel with
  | zero =>
    intro listed H a w _ _ hr hy hh
    refine ⟨fun h => (by rw [h] at hr; cases hr), fun j hj => ?_⟩
    by_cases hji : j = i
    · subst hji; exact hy.mix hi hh
    · have := ready_mono hj hji
      rw [hh.1] at this
      cases this
  | succ fuel ih =>
    intro listed H a w hfree hcl hr hy hh
    refine ⟨fun h => (by rw [h] at hr; cases hr), fun j hj => ?_⟩
    by_cases hji : j = i
    · subst hji; exact hy.mix hi hh
    · have h1 := hh.2 j (ready_mono hj hji)
      obtain ⟨hjun, oj, hoj, hall⟩ := mem_ready.1 hj
      have hap := hfree j oj hoj hji hjun (not_waits hoj hall (mem_ready.1 hr).1)
      obtain ⟨p1, p2, p3⟩ := Oper.apart_spec hap
      have hfree' : ∀ k ok, ops[k]? = some ok → k ≠ i → (listed.setIfInBounds j true).getD k true = false →
          (∀ e ∈ ok.after, Region.binds md e = true → e.on ≠ i) → oi.apart ops ok = true := fun k ok hk hki hun hno => by
        refine hfree k ok hk hki ?_ hno
        by_cases hjk : j = k
        · subst hjk; exact hjun
        · rw [getD_set_ne true hjk] at hun; exact hun
      have step : ∀ H' u w', cls md ops C H' i = cls md ops C H i → wpAnyM P md ops C ms Q fuel ((listed.setIfInBounds i true).setIfInBounds j true) H' ((a.put oi.dst v).put oj.dst u) w' →
          wpAnyM P md ops C ms Q (fuel + 1) (listed.setIfInBounds j true) H' (a.put oj.dst u) w' := fun H' u w' hc hh => by
        refine ih (listed.setIfInBounds j true) H' (a.put oj.dst u) w' hfree' (hcl.add hj) (ready_mono hr (Ne.symm hji)) ?_ ?_
        · rw [hc]; exact hy.put p3 (fun cs b => hsel i oi cs b hi)
        · rw [Array.setIfInBounds_comm _ _ hji, ← Act.put_comm a v u p2]
          exact hh
      rw [mixOp_some hoj] at h1 ⊢
      rw [wanted_put oj a oi.dst v p1] at h1
      split
      · rename_i hwt
        rw [if_pos hwt] at h1
        rcases h1 with ⟨u, hs, hk⟩ | ⟨hm, hv⟩
        · rw [steady_put p1 (fun cs b => hsel j oj cs b hoj)] at hs
          exact .inl ⟨u, hs, step H u w rfl hk⟩
        · rw [move_put p1 (fun cs b => hsel j oj cs b hoj)] at hv
          exact .inr ⟨hm, move_mono (fun u w' ⟨C1, h1, h2⟩ => ⟨C1, h1, step _ u w' (cls_cons (hcl.not_mem hr hjun)) h2⟩) hv⟩
      · rename_i hwt
        rw [if_neg hwt] at h1
        exact step H undef w rfl h1

/-- A mover may be taken first, too: whatever is ready beside it is steady. -/
theorem mix_first_move {Q : Past → Act → World → Prop} {i : Nat} {oi : Oper} (hi : ops[i]? = some oi) (him : i ∈ ms) (hms : moversB md ops ms = true)
    (hsel : ∀ (j : Nat) (o : Oper) cs b, ops[j]? = some o → o.op ≠ .select cs b) :
    ∀ (fuel : Nat) (listed : Array Bool) (H : Past) (a : Act) (w : World),
      (∀ j oj, ops[j]? = some oj → j ≠ i → listed.getD j true = false → (∀ e ∈ oj.after, Region.binds md e = true → e.on ≠ i) → oi.apart ops oj = true) →
      Closed md ops listed → i ∈ Region.ready md ops listed → cur C H w → Region.wanted oi (yielded ops a.tmps) = true →
      move P oi a w (fun v w' => ∃ C1 : World → Prop, cur C ((i, C1) :: H) w' ∧ wpAnyM P md ops C ms Q fuel (listed.setIfInBounds i true) ((i, C1) :: H) (a.put oi.dst v) w') → wpAnyM P md ops C ms Q (fuel + 1) listed H a w := by
  intro fuel
  induction fuel with
  | zero =>
    intro listed H a w _ _ hr hC hwi hh
    refine ⟨fun h => (by rw [h] at hr; cases hr), fun j hj => ?_⟩
    by_cases hji : j = i
    · subst hji
      rw [mixOp_some hi, if_pos hwi]
      exact .inr ⟨him, hh⟩
    · obtain ⟨v, w', C1, _, h1, _⟩ := moveUpon_some hh
      have := ready_mono hj hji
      rw [h1] at this
      cases this
  | succ fuel ih =>
    intro listed H a w hfree hcl hr hC hwi hh
    refine ⟨fun h => (by rw [h] at hr; cases hr), fun j hj => ?_⟩
    by_cases hji : j = i
    · subst hji
      rw [mixOp_some hi, if_pos hwi]
      exact .inr ⟨him, hh⟩
    · obtain ⟨hjun, oj, hoj, hall⟩ := mem_ready.1 hj
      have hiun := (mem_ready.1 hr).1
      have hap := hfree j oj hoj hji hjun (not_waits hoj hall hiun)
      obtain ⟨p1, p2, p3⟩ := Oper.apart_spec hap
      have hjW : j ∉ waits md ops i := hcl.not_mem hj hiun
      have hjm : j ∉ ms := fun hjm => by
        have hM := List.all_eq_true.1 hms
        rcases Nat.lt_or_ge i j with hlt | hge
        · have := List.all_eq_true.1 (hM i him) j hjm
          simp only [Bool.or_eq_true, decide_eq_true_eq, List.contains_iff_mem] at this
          rcases this with h | h
          · omega
          · exact hjW h
        · have := List.all_eq_true.1 (hM j hjm) i him
          simp only [Bool.or_eq_true, decide_eq_true_eq, List.contains_iff_mem] at this
          rcases this with h | h
          · omega
          · exact hcl.not_mem hr hjun h
      have hfree' : ∀ k ok, ops[k]? = some ok → k ≠ i → (listed.setIfInBounds j true).getD k true = false →
          (∀ e ∈ ok.after, Region.binds md e = true → e.on ≠ i) → oi.apart ops ok = true := fun k ok hk hki hun hno => by
        refine hfree k ok hk hki ?_ hno
        by_cases hjk : j = k
        · subst hjk; exact hjun
        · rw [getD_set_ne true hjk] at hun; exact hun
      have step : ∀ u, move P oi a w (fun v w' => ∃ C1 : World → Prop, cur C ((i, C1) :: H) w' ∧ wpAnyM P md ops C ms Q fuel ((listed.setIfInBounds i true).setIfInBounds j true) ((i, C1) :: H) ((a.put oi.dst v).put oj.dst u) w') →
          wpAnyM P md ops C ms Q (fuel + 1) (listed.setIfInBounds j true) H (a.put oj.dst u) w := fun u hh => by
        refine ih (listed.setIfInBounds j true) H (a.put oj.dst u) w hfree' (hcl.add hj) (ready_mono hr (Ne.symm hji)) hC ?_ ?_
        · rw [wanted_put oi a oj.dst u p3]; exact hwi
        · rw [move_put p3 (fun cs b => hsel i oi cs b hi)]
          refine move_mono (fun v w' ⟨C1, h1, h2⟩ => ⟨C1, h1, ?_⟩) hh
          rw [Array.setIfInBounds_comm _ _ hji, ← Act.put_comm a v u p2]
          exact h2
      have hin : ∀ C1 v w', wpAnyM P md ops C ms Q (fuel + 1) (listed.setIfInBounds i true) ((i, C1) :: H) (a.put oi.dst v) w' →
          if Region.wanted oj (yielded ops a.tmps) then ∃ u, steady P (cls md ops C H j) oj a u ∧ wpAnyM P md ops C ms Q fuel ((listed.setIfInBounds i true).setIfInBounds j true) ((i, C1) :: H) ((a.put oi.dst v).put oj.dst u) w'
          else wpAnyM P md ops C ms Q fuel ((listed.setIfInBounds i true).setIfInBounds j true) ((i, C1) :: H) ((a.put oi.dst v).put oj.dst undef) w' := fun C1 v w' hh => by
        have h1 := hh.2 j (ready_mono hj hji)
        rw [mixOp_some hoj, wanted_put oj a oi.dst v p1] at h1
        split
        · rename_i hwt
          rw [if_pos hwt] at h1
          rcases h1 with ⟨u, hs, hk⟩ | ⟨hm, _⟩
          · rw [cls_cons hjW] at hs
            exact ⟨u, (steady_put p1 (fun cs b => hsel j oj cs b hoj)).1 hs, hk⟩
          · exact absurd hm hjm
        · rename_i hwt
          rw [if_neg hwt] at h1
          exact h1
      rw [mixOp_some hoj]
      split
      · rename_i hwt
        obtain ⟨v0, w0, C0, _, h0⟩ := moveUpon_some hh
        have h0' := hin C0 v0 w0 h0
        rw [if_pos hwt] at h0'
        obtain ⟨u, hs, _⟩ := h0'
        refine .inl ⟨u, hs, step u (move_mono (fun v w' ⟨C1, h1, h2⟩ => ⟨C1, h1, ?_⟩) hh)⟩
        have h3 := hin C1 v w' h2
        rw [if_pos hwt] at h3
        obtain ⟨u', hs', hk⟩ := h3
        rw [steady_one (cls_of_cur hC j) hs hs']
        exact hk
      · rename_i hwt
        refine step undef (move_mono (fun v w' ⟨C1, h1, h2⟩ => ⟨C1, h1, ?_⟩) hh)
        have h3 := hin C1 v w' h2
        rw [if_neg hwt] at h3
        exact h3

theorem mix_lex {Q : Past → Act → World → Prop} (hs : Region.noSelect ops = true) (hms : moversB md ops ms = true) : ∀ (l : List Oper) (k : Nat) (listed : Array Bool) (H : Past) (a : Act) (w : World), (∀ j, l[j]? = ops[k + j]?) →
    Region.lexFrom md ops l.length k listed = true → Closed md ops listed → cur C H w → wpMix P md ops C ms Q k l H a w → wpAnyM P md ops C ms Q l.length listed H a w
  | [], _, _, _, _, _, _, hB, _, _, h => ⟨by simpa [Region.lexFrom] using hB, h⟩
  | o :: l, k, listed, H, a, w, hl, hB, hcl, hC, h => by
    have h0 : ops[k]? = some o := by simpa using (hl 0).symm
    simp only [List.length_cons, Region.lexFrom, Bool.and_eq_true] at hB
    obtain ⟨⟨hr, hf⟩, hB'⟩ := hB
    have hl' : ∀ j, l[j]? = ops[k + 1 + j]? := fun j => by have := hl (j + 1); simpa [Nat.add_assoc, Nat.add_comm 1 j] using this
    have hfree := Region.free_spec h0 hf
    have hr' : k ∈ Region.ready md ops listed := by simpa using hr
    simp only [wpMix] at h
    have rec_ : ∀ H a w, cur C H w → wpMix P md ops C ms Q (k + 1) l H a w → wpAnyM P md ops C ms Q l.length (listed.setIfInBounds k true) H a w := fun H a w hw hh => mix_lex hs hms l (k + 1) _ H a w hl' hB' (hcl.add hr') hw hh
    split at h
    · rename_i hwt
      rcases h with ⟨v, hst, hk⟩ | ⟨hm, hv⟩
      · exact mix_first h0 (Region.noSelect_spec hs) l.length listed H a w hfree hcl hr' (.inl ⟨hwt, hst⟩) (rec_ _ _ _ hC hk)
      · exact mix_first_move h0 hm hms (Region.noSelect_spec hs) l.length listed H a w hfree hcl hr' hC hwt
          (move_mono (fun v w' ⟨C1, h1, h2⟩ => ⟨C1, h1, rec_ _ _ _ h1 h2⟩) hv)
    · rename_i hwt
      exact mix_first h0 (Region.noSelect_spec hs) l.length listed H a w hfree hcl hr' (.inr ⟨by simpa using hwt, rfl⟩) (rec_ _ _ _ hC h)

/-- One walk in the order of the text serves every order. -/
theorem wp_region_mix {id : Nat} {Q : Exit → Act → World → Prop} {a : Act} {w : World} {l : List Oper} (C : World → Prop) (ms : List Nat) (hm : P.follows .mixedOrders = true) (hB : Region.lexB .any l.toArray = true) (hms : moversB .any l.toArray ms = true)
    (hC : C w.drew) (h : wpMix P .any l.toArray C ms (fun _ a' w' => C w' → Q .normal a' w') 0 l [] a w.drew) : (Code.region id l.toArray true).wp P Q a w := by
  simp only [Region.lexB, Bool.and_eq_true] at hB
  have hC' : cur C [] w.drew := ⟨hC, fun _ h => by cases h⟩
  refine wp_region_any hm (wpAny_of_mix (C := C) (ms := ms) (Q := fun _ a' w' => C w' → Q .normal a' w') (fun _ _ w' hw' h => h hw'.1) _ _ [] _ _ hC' ?_)
  have := mix_lex (C := C) (P := P) (md := .any) (Q := fun _ a' w' => C w' → Q .normal a' w') hB.1 hms l 0 (Array.replicate l.toArray.size false) [] a w.drew (by simp) (by simpa using hB.2)
    (fun j k _ h => by
      exfalso
      simp [Array.getElem?_replicate] at h
      split at h <;> simp at h) hC' h
  simpa using this

/-! ### The steps of the walk -/
/-- A steady operation: one value in every world of the first class. -/
theorem mix_step {Q : Past → Act → World → Prop} {k : Nat} {o : Oper} {rest : List Oper} {H : Past} {a : Act} {w : World}
    (h : ∀ K : Act → World → Prop, (∀ a w, wpMix P md ops C ms Q (k + 1) rest H a w → K a w) → if Region.wanted o (yielded ops a.tmps) then ∃ v, steady P C o a v ∧ K (a.put o.dst v) w else K (a.put o.dst undef) w) : wpMix P md ops C ms Q k (o :: rest) H a w := by
  have h' := h _ (fun _ _ h => h)
  simp only [wpMix]
  split
  · rename_i hw
    rw [if_pos hw] at h'
    obtain ⟨v, h1, h2⟩ := h'
    exact .inl ⟨v, fun x hx => h1 x hx.1, h2⟩
  · rename_i hw
    rw [if_neg hw] at h'
    exact h'
/-- A steady operation that waits for the mover i: one value in every world of the class behind it. -/
theorem mix_step_in {Q : Past → Act → World → Prop} {k : Nat} {o : Oper} {rest : List Oper} {H : Past} {a : Act} {w : World} (i : Nat) (C1 : World → Prop) (hi : (i, C1) ∈ H) (hk : (waits md ops i).contains k = true)
    (h : ∀ K : Act → World → Prop, (∀ a w, wpMix P md ops C ms Q (k + 1) rest H a w → K a w) → if Region.wanted o (yielded ops a.tmps) then ∃ v, steady P C1 o a v ∧ K (a.put o.dst v) w else K (a.put o.dst undef) w) : wpMix P md ops C ms Q k (o :: rest) H a w := by
  have h' := h _ (fun _ _ h => h)
  simp only [wpMix]
  split
  · rename_i hw
    rw [if_pos hw] at h'
    obtain ⟨v, h1, h2⟩ := h'
    exact .inl ⟨v, fun x hx => h1 x (hx.2 _ hi (by simpa using hk)), h2⟩
  · rename_i hw
    rw [if_neg hw] at h'
    exact h'
/-- A mover: it leaves a world of a class of its own. -/
theorem mix_call {Q : Past → Act → World → Prop} {k : Nat} {o : Oper} {rest : List Oper} {H : Past} {a : Act} {w : World} (hk : k ∈ ms)
    (h : ∀ K : Past → Act → World → Prop, (∀ H a w, wpMix P md ops C ms Q (k + 1) rest H a w → K H a w) → if Region.wanted o (yielded ops a.tmps) then move P o a w (fun v w' => ∃ C1 : World → Prop, cur C ((k, C1) :: H) w' ∧ K ((k, C1) :: H) (a.put o.dst v) w') else K H (a.put o.dst undef) w) : wpMix P md ops C ms Q k (o :: rest) H a w := by
  have h' := h _ (fun _ _ _ h => h)
  simp only [wpMix]
  split
  · rename_i hw
    rw [if_pos hw] at h'
    exact .inr ⟨hk, h'⟩
  · rename_i hw
    rw [if_neg hw] at h'
    exact h'
theorem mix_nil {Q : Past → Act → World → Prop} {k : Nat} {H : Past} {a : Act} {w : World} (h : Q H a w) : wpMix P md ops C ms Q k [] H a w := h
theorem ex_steady {o : Oper} {a : Act} {K : Value → Prop} (v : Value) (h : ∀ w, C w → (execOp a.eval o).run P w = .ok (.value v) w) (hk : K v) : ∃ v, steady P C o a v ∧ K v := ⟨v, fun w hw => .inl (h w hw), hk⟩
/-- At a call: what its contract leaves. -/
theorem move_enter {N : Value → World → Prop} {f : FuncId} {args : Array Value} {w : World} (h : Calls P f args w fun e w'' => ∃ v, e = .returned v ∧ N v w'') : moveUpon P N (.ok (.enter f args) w) := h
end
end Go.Proofs.YtiddhcabpmkolaaGreatDoor
