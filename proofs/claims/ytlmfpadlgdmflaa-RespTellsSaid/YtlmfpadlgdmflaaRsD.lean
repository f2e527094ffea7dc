/-
   Answers read, in plain Lean: what Decode computes.
-/
import Derived.Test.YtlmfpadlgdmflaaRs
set_option linter.unusedSimpArgs false
set_option linter.unusedVariables false
namespace Go.Proofs.Ytlmfpadlgdmflaa

set_option maxRecDepth 100000

theorem num_spec (s : Pk.St) : 0 ≤ s.num.1 ∧ s.num.1 ≤ 9223372036854775807 ∧ s.num.2.l = s.l ∧ s.at_ ≤ s.num.2.at_ ∧ (s.num.2.err = 0 → s.err = 0 ∧ s.at_ < s.num.2.at_) := by
  unfold Pk.St.num
  by_cases he : s.err = 0
  · rw [if_neg (by simpa using he)]
    rcases Pk.front_ways (s.l.drop s.at_) with ⟨e, hf, hee⟩ | ⟨n, k, hf, hn0, hn1, hk0, hk1⟩
    · simp only [hf]
      rw [if_pos (by omega)]
      exact ⟨by simp, by simp, rfl, Nat.le_refl _, fun h => by simp only at h; omega⟩
    · simp only [hf]
      rw [if_neg (by simp)]
      exact ⟨hn0, hn1, rfl, by simp, fun _ => ⟨he, by simp only; omega⟩⟩
  · rw [if_pos (by simpa using he)]
    exact ⟨by simp, by simp, rfl, Nat.le_refl _, fun h => absurd h he⟩
theorem text_spec (s : Pk.St) (m : Int) : (s.text m).2.l = s.l ∧ s.at_ ≤ (s.text m).2.at_ ∧ ((s.text m).2.err = 0 → s.err = 0 ∧ s.at_ < (s.text m).2.at_) := by
  unfold Pk.St.text
  by_cases he : s.err = 0
  · rw [if_neg (by simpa using he)]
    rcases Pk.front_ways (s.l.drop s.at_) with ⟨e, hf, hee⟩ | ⟨n, k, hf, hn0, hn1, hk0, hk1⟩
    · simp only [hf]
      rw [if_pos (by omega)]
      exact ⟨rfl, Nat.le_refl _, fun h => by simp only at h; omega⟩
    · simp only [hf]
      rw [if_neg (by simp)]
      split
      · exact ⟨rfl, Nat.le_refl _, fun h => by simp at h⟩
      · split
        · exact ⟨rfl, Nat.le_refl _, fun h => by simp at h⟩
        · exact ⟨rfl, by simp only; omega, fun _ => ⟨he, by simp only; omega⟩⟩
  · rw [if_pos (by simpa using he)]
    exact ⟨rfl, Nat.le_refl _, fun h => absurd h he⟩

/-- A reader of pack, and: was a number too great? -/
abbrev Dr := Pk.St × Bool
def numD (d : Dr) (most : Int) : Int × Dr := (d.1.num.1, (d.1.num.2, d.2 || decide (d.1.num.1 > most)))
def tokD (d : Dr) : Int × Dr := (d.1.num.1, (d.1.num.2, d.2))
def txtD (d : Dr) : List UInt8 × Dr := ((d.1.text 20000).1, ((d.1.text 20000).2, d.2))
/-- How far a reading has come: never back; without an error further. -/
def On (a b : Dr) : Prop := b.1.l = a.1.l ∧ a.1.at_ ≤ b.1.at_ ∧ (b.1.err = 0 → a.1.err = 0 ∧ a.1.at_ < b.1.at_)
theorem On.trans {a b c : Dr} (h : On a b) (k : On b c) : On a c :=
  ⟨k.1.trans h.1, Nat.le_trans h.2.1 k.2.1, fun e => by have h1 := k.2.2 e; have h2 := h.2.2 h1.1; exact ⟨h2.1, by omega⟩⟩
theorem numD_on (d : Dr) (m : Int) : On d (numD d m).2 := by have := num_spec d.1; exact ⟨this.2.2.1, this.2.2.2.1, this.2.2.2.2⟩
theorem tokD_on (d : Dr) : On d (tokD d).2 := by have := num_spec d.1; exact ⟨this.2.2.1, this.2.2.2.1, this.2.2.2.2⟩
theorem txtD_on (d : Dr) : On d (txtD d).2 := text_spec d.1 20000
theorem numD_fits (d : Dr) (m : Int) : 0 ≤ (numD d m).1 ∧ (numD d m).1 ≤ 9223372036854775807 := ⟨(num_spec d.1).1, (num_spec d.1).2.1⟩
theorem tokD_fits (d : Dr) : 0 ≤ (tokD d).1 ∧ (tokD d).1 ≤ 9223372036854775807 := ⟨(num_spec d.1).1, (num_spec d.1).2.1⟩

def itemD (d : Dr) : It × Dr :=
  (⟨⟨(txtD d).1.toArray⟩, (tokD (txtD d).2).1, (numD (tokD (txtD d).2).2 1).1 == 1, ⟨(txtD (numD (tokD (txtD d).2).2 1).2).1.toArray⟩⟩, (txtD (numD (tokD (txtD d).2).2 1).2).2)
theorem itemD_on (d : Dr) : On d (itemD d).2 := (((txtD_on d).trans (tokD_on _)).trans (numD_on _ 1)).trans (txtD_on _)

/-- The items, at most k of them. -/
def itemsD : Nat → Int → Dr → List It × Dr
  | 0, _, d => ([], d)
  | k + 1, m, d => if 0 < m ∧ d.2 = false ∧ d.1.err = 0 then ((itemD d).1 :: (itemsD k (m - 1) (itemD d).2).1, (itemsD k (m - 1) (itemD d).2).2) else ([], d)
theorem itemsD_stop (k : Nat) (m : Int) (d : Dr) (h : ¬ (0 < m ∧ d.2 = false ∧ d.1.err = 0)) : itemsD k m d = ([], d) := by
  cases k with
  | zero => rfl
  | succ k => unfold itemsD; rw [if_neg h]
theorem itemsD_go (k : Nat) (m : Int) (d : Dr) (h : 0 < m ∧ d.2 = false ∧ d.1.err = 0) : itemsD (k + 1) m d = ((itemD d).1 :: (itemsD k (m - 1) (itemD d).2).1, (itemsD k (m - 1) (itemD d).2).2) := by
  show (if 0 < m ∧ d.2 = false ∧ d.1.err = 0 then _ else _) = _
  rw [if_pos h]

def zeroR : Rs := ⟨0, 0, 0, 0, ⟨#[]⟩, 0, false, []⟩
abbrev most32 : Int := 2147483647

/-- The steps of Decode, one behind the other. -/
structure Steps (l : List UInt8) where
  e : Int × Dr
  t : Int × Dr
  v : Int × Dr
  c : List UInt8 × Dr
  i : Int × Dr
  m : Int × Dr
  n : Int × Dr
  x : List It × Dr
def stepsD (l : List UInt8) : Steps l :=
  let e := numD (⟨l, 0, 0⟩, false) most32
  let t := tokD e.2
  let v := tokD t.2
  let c := txtD v.2
  let i := numD c.2 most32
  let m := numD i.2 1
  let n := numD m.2 most32
  { e := e, t := t, v := v, c := c, i := i, m := m, n := n, x := itemsD (l.length + 2) n.1 n.2 }
def Steps.rs {l : List UInt8} (s : Steps l) (kind : Int) : Rs := ⟨kind, s.e.1, s.t.1, s.v.1, ⟨s.c.1.toArray⟩, s.i.1, s.m.1 == 1, s.x.1⟩
/-- What the bytes answer. -/
def decodeR (kind : Int) (l : List UInt8) : Rs × Int :=
  if kind < 128 ∨ 139 < kind then (zeroR, 12)
  else if (stepsD l).x.2.2 = true ∨ (stepsD l).x.2.1.err ≠ 0 ∨ 0 < (stepsD l).x.2.1.left then (zeroR, 1)
  else if checkR ((stepsD l).rs (kind - 128)) ≠ 0 then (zeroR, checkR ((stepsD l).rs (kind - 128)))
  else ((stepsD l).rs (kind - 128), 0)

theorem itemsD_fits : ∀ (k : Nat) (m : Int) (d : Dr), ∀ i ∈ (itemsD k m d).1, 0 ≤ i.ver ∧ i.ver ≤ 9223372036854775807
  | 0, _, _, i, hi => by cases hi
  | k + 1, m, d, i, hi => by
    unfold itemsD at hi
    split at hi
    · simp only [List.mem_cons] at hi
      rcases hi with rfl | hi
      · exact tokD_fits _
      · exact itemsD_fits k _ _ i hi
    · cases hi
end Go.Proofs.Ytlmfpadlgdmflaa
