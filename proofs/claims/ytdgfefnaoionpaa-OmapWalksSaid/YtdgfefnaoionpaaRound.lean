/-
  A region that draws its order, in a round of a loop over an iterator.
-/
import Derived.Test.YtdgfefnaoionpaaSeq
import Derived.Test.YtdgfefnaoionpaaIter
set_option linter.unusedSimpArgs false
set_option linter.unusedVariables false
namespace Go.Proofs.Ytdgfefnaoionpaa
open Go.RowKit
set_option maxRecDepth 100000
open Go

/-- What is asked of a normal end alone. -/
def Nrm (Q : Exit → Act → World → Prop) : Exit → Act → World → Prop
  | .normal, a, w => Q .normal a w
  | _, _, _ => False
theorem nrm_out {Q : Exit → Act → World → Prop} (h : LetsOut (Nrm Q)) : False := by
  obtain ⟨_, _, h⟩ := h
  exact h
section
variable {P : Program} {ops : Array Oper} {md : Region.Mode} {Q : Exit → Act → World → Prop} {n lp : Nat}
def noDeferB (ops : Array Oper) : Bool := ops.all fun o => match o.op with | .defer _ => false | _ => true
theorem noDefer (h : noDeferB ops = true) {i : Nat} {o : Oper} (ho : ops[i]? = some o) (c : _) : o.op ≠ .defer c := fun e => by
  have h1 := Array.all_eq_true_iff_forall_mem.1 h o (Array.mem_of_getElem? ho)
  rw [e] at h1
  cases h1
theorem upon_in {o : Oper} {a : Act} {K K' : Act → World → Prop} (hK : ∀ a w, K a w → K' a w) {r : Result Next} (h : o.upon P a K (Nrm Q) r) : o.uponIn (Fence.wide.inRound lp) n P a K' Q r := by
  cases r with
  | ok x w' =>
    cases x <;> simp only [Oper.upon, Oper.uponIn] at h ⊢
    case value v => exact hK _ _ h
    case skip => exact hK _ _ h
    case defer d => exact hK _ _ h
    case enter f args =>
      refine ⟨fun h => by simp [Fence.wide] at h, CallsIn.inRound lp (callsIn_wide.2 (h.mono fun e w'' hh => ?_))⟩
      cases e with
      | returned v => exact hK _ _ hh
      | panicked c => exact hh.elim
      | outgrown => exact (nrm_out hh).elim
    case row row args => exact ⟨fun h => by simp [Fence.wide] at h, fun c cs _ => let ⟨v, w2, r, s⟩ := h c cs; ⟨v, w2, hK _ _ r, stepsIn_wide.2 s⟩⟩
  | halt x w' =>
    cases x <;> simp only [Oper.upon, Oper.uponIn] at h ⊢ <;> first | exact h.elim | exact h
theorem any_in (hd : noDeferB ops = true) : ∀ (fuel : Nat) (listed : Array Bool) (a : Act) (w : World), wpAny P md ops (Nrm Q) fuel listed a w → wpAnyIn (Fence.wide.inRound lp) n P md ops Q fuel listed a w := by
  intro fuel
  induction fuel with
  | zero => intro listed a w h; exact h
  | succ fuel ih =>
    intro listed a w h
    refine ⟨fun hr => h.1 hr, fun i hi => ?_⟩
    have h1 := h.2 i hi
    unfold wpOp at h1
    unfold wpOpIn
    split
    · rename_i hn
      rw [hn] at h1
      exact ih _ _ _ h1
    · rename_i o ho
      rw [ho] at h1
      simp only at h1
      split
      · rename_i hw
        rw [if_pos hw] at h1
        rcases h1 with h1 | ⟨_, h1⟩
        · refine ⟨fun _ _ => trivial, ?_⟩
          rw [Oper.semAt_plain (Fence.wide.inRound lp) _ _ (noDefer hd ho)]
          exact upon_in (fun a w hh => ih _ _ _ hh) h1
        · exact (nrm_out h1).elim
      · rename_i hw
        rw [if_neg hw] at h1
        exact ⟨fun _ _ => trivial, ih _ _ _ h1⟩
theorem wpIn_region_free {id : Nat} {a : Act} {w : World} {l : List Oper} (S : World → Prop) (T : Nat → World → World → Prop) (ms : List Nat) (brk : Nat → List Nat) (mf : Nat → Value → World → Prop) (hm : P.follows .mixedOrders = true) (hB : freeB .any l.toArray = true) (hd : noDeferB l.toArray = true)
    (hst : ∀ k i v w w', k ∈ ms → i ∈ ms → i ≠ k → i ∉ brk k → T k w w' → mf i v w → mf i v w')
    (hS : S w.drew) (h : wpFree P l.toArray .any S T ms brk mf (fun a' w' => Q .normal a' w') 0 l [] a) : (Code.region id l.toArray true).wpIn (Fence.wide.inRound lp) n P Q a w := by
  refine wpIn_region_any hm (any_in hd _ _ _ _ ?_)
  have no : ∀ j, (Array.replicate l.toArray.size false).getD j false = true → False := fun j hj => by rw [rep_false] at hj; cases hj
  have h1 := free_any (vals := fun _ => undef) (a0 := a) (freeOk hB) (Q := fun a' w' => Q .normal a' w') (Q' := Nrm Q) (fun _ _ h => h) (by simpa using h) hst l.toArray.size (Array.replicate l.toArray.size false) w.drew (List.range l.toArray.size) (by simp) (by simp) (fun j hj _ => List.mem_range.2 hj)
    ⟨fun j hj => (no j hj).elim, fun k i hk _ => (no k hk).elim, hS, fun j hj => (no j hj).elim, fun j hj => (no j hj).elim⟩
  have e : putTo l.toArray a (fun _ => undef) (fun j => (Array.replicate l.toArray.size false).getD j false = true) l.toArray.size = a := by
    have : ∀ k, putTo l.toArray a (fun _ => undef) (fun j => (Array.replicate l.toArray.size false).getD j false = true) k = a := by
      intro k
      induction k with
      | zero => rfl
      | succ k ih => rw [putTo_no (by rw [rep_false]; simp), ih]
    exact this _
  rw [e] at h1
  exact h1
theorem wpIn_region_seqS (S : World → Prop) {id : Nat} {a : Act} {w : World} {l : List Oper} (ms us : List Nat) (hm : P.follows .mixedOrders = true) (hB : freeB .any l.toArray = true) (hS : seqB l.toArray ms us .any = true) (hd : noDeferB l.toArray = true)
    (hw : S w.drew) (h : wpSeq P l.toArray ms us S (fun a' w' => Q .normal a' w') 0 l a w.drew) : (Code.region id l.toArray true).wpIn (Fence.wide.inRound lp) n P Q a w := by
  refine wpIn_region_any hm (any_in hd _ _ _ _ ?_)
  obtain ⟨vals, k, hA⟩ := At.begin (P := P) (ops := l.toArray) (md := .any) (ms := ms) (us := us) (S := S) (a0 := a) (freeOk hB) (Q := fun a' w' => Q .normal a' w') hw (by simpa using h)
  have no : ∀ j, ¬ (Array.replicate l.toArray.size false).getD j false = true := fun j hj => by rw [rep_false] at hj; cases hj
  have hfun : (fun j => (Array.replicate l.toArray.size false).getD j false = true) = (fun _ => False) := by funext j; exact propext ⟨fun h => (no j h).elim, fun h => h.elim⟩
  have h1 := seq_any (a0 := a) (freeOk hB) (seqOk hS) (Q' := Nrm Q) (fun _ _ h => h) l.toArray.size (Array.replicate l.toArray.size false) vals w.drew k (List.range l.toArray.size) (by simp) (by simp) (fun j hj _ => List.mem_range.2 hj) (by rw [hfun]; exact hA)
  have e : putTo l.toArray a vals (fun j => (Array.replicate l.toArray.size false).getD j false = true) l.toArray.size = a := by
    have : ∀ k, putTo l.toArray a vals (fun j => (Array.replicate l.toArray.size false).getD j false = true) k = a := by
      intro k
      induction k with
      | zero => rfl
      | succ k ih => rw [putTo_no (no k), ih]
    exact this _
  rw [e] at h1
  exact h1
end
end Go.Proofs.Ytdgfefnaoionpaa
