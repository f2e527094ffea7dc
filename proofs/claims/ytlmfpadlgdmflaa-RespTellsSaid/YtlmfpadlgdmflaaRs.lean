/-
   Answers in plain Lean: what package resp computes.
-/
import Derived.Test.YtlmfpadlgdmflaaPack
set_option linter.unusedSimpArgs false
set_option linter.unusedVariables false
namespace Go.Proofs.Ytlmfpadlgdmflaa

set_option maxRecDepth 100000

/-- One item of an answer. -/
structure It where
  uid : ByteArray
  ver : Int
  gone : Bool
  card : ByteArray
deriving DecidableEq
/-- An answer. -/
structure Rs where
  kind : Int
  err : Int
  token : Int
  version : Int
  card : ByteArray
  index : Int
  more : Bool
  items : List It

def bitI (b : Bool) : Int := if b then 1 else 0
theorem bitI_01 (b : Bool) : 0 ≤ bitI b ∧ bitI b ≤ 1 := by cases b <;> decide

/-- An item's bytes. -/
def layIt (i : It) : List UInt8 := Pk.text i.uid.data.toList ++ Pk.num i.ver ++ Pk.num (bitI i.gone) ++ Pk.text i.card.data.toList
/-- What stands ahead of the items. -/
def layHead (r : Rs) : List UInt8 :=
  Pk.num r.err ++ Pk.num r.token ++ Pk.num r.version ++ Pk.text r.card.data.toList ++ Pk.num r.index ++ Pk.num (bitI r.more) ++ Pk.num r.items.length
/-- An answer's bytes. -/
def lay (r : Rs) : List UInt8 := layHead r ++ r.items.flatMap layIt

theorem lay_take (r : Rs) (k : Nat) : (layHead r ++ (r.items.take k).flatMap layIt).length ≤ (lay r).length := by
  unfold lay
  have : r.items.flatMap layIt = (r.items.take k).flatMap layIt ++ (r.items.drop k).flatMap layIt := by rw [← List.flatMap_append, List.take_append_drop]
  rw [this, List.length_append, List.length_append, List.length_append]
  omega
theorem take_more (l : List It) (k : Nat) (i : It) (h : l[k]? = some i) : (l.take (k + 1)).flatMap layIt = (l.take k).flatMap layIt ++ layIt i := by
  obtain ⟨hk, rfl⟩ := List.getElem?_eq_some_iff.1 h
  rw [List.take_succ_eq_append_getElem hk, List.flatMap_append]
  simp

/-! ### Why an answer may not be -/
def checkR (r : Rs) : Int :=
  if r.kind < 0 ∨ 11 < r.kind ∨ r.err < 0 ∨ 15 < r.err ∨ r.token < 0 ∨ r.version < 0 ∨ r.index < 0 ∨ 2147483647 < r.index ∨ 100 < r.items.length then 12
  else if ∃ i ∈ r.items, i.ver < 0 then 12
  else if 900 < r.card.size then 2
  else if ∃ i ∈ r.items, 900 < i.card.size ∨ 24 < i.uid.size then 2
  else if 20000 < (lay r).length then 2 else 0

def HeadOk (r : Rs) : Prop := 0 ≤ r.kind ∧ r.kind ≤ 11 ∧ 0 ≤ r.err ∧ r.err ≤ 15 ∧ 0 ≤ r.token ∧ 0 ≤ r.version ∧ 0 ≤ r.index ∧ r.index ≤ 2147483647 ∧ r.items.length ≤ 100
theorem check_head {r : Rs} (h : ¬ HeadOk r) : checkR r = 12 := by
  unfold HeadOk at h
  unfold checkR
  rw [if_pos (by omega)]
theorem check_ver {r : Rs} {i : It} (hi : i ∈ r.items) (h : i.ver < 0) : checkR r = 12 := by
  unfold checkR
  split
  · rfl
  · rw [if_pos ⟨i, hi, h⟩]
theorem check_card {r : Rs} (h : HeadOk r) (hv : ∀ i ∈ r.items, 0 ≤ i.ver) (hc : 900 < r.card.size) : checkR r = 2 := by
  unfold HeadOk at h
  unfold checkR
  rw [if_neg (by omega), if_neg (by rintro ⟨i, hi, h⟩; have := hv i hi; omega), if_pos hc]
theorem check_item {r : Rs} (h : HeadOk r) (hv : ∀ i ∈ r.items, 0 ≤ i.ver) {i : It} (hi : i ∈ r.items) (hb : 900 < i.card.size ∨ 24 < i.uid.size) : checkR r = 2 := by
  unfold HeadOk at h
  unfold checkR
  rw [if_neg (by omega), if_neg (by rintro ⟨i, hi, h⟩; have := hv i hi; omega)]
  split
  · rfl
  · rw [if_pos ⟨i, hi, hb⟩]
theorem check_rest {r : Rs} (h : HeadOk r) (hv : ∀ i ∈ r.items, 0 ≤ i.ver) (hc : r.card.size ≤ 900) (hs : ∀ i ∈ r.items, i.card.size ≤ 900 ∧ i.uid.size ≤ 24) : checkR r = if 20000 < (lay r).length then 2 else 0 := by
  unfold HeadOk at h
  unfold checkR
  rw [if_neg (by omega), if_neg (by rintro ⟨i, hi, h⟩; have := hv i hi; omega), if_neg (by omega), if_neg (by rintro ⟨i, hi, h⟩; have := hs i hi; omega)]
theorem check_zero {r : Rs} (h : checkR r = 0) : HeadOk r ∧ (∀ i ∈ r.items, 0 ≤ i.ver) ∧ r.card.size ≤ 900 ∧ (∀ i ∈ r.items, i.card.size ≤ 900 ∧ i.uid.size ≤ 24) ∧ (lay r).length ≤ 20000 := by
  unfold checkR at h
  unfold HeadOk
  split at h
  · simp at h
  · split at h
    · simp at h
    · split at h
      · simp at h
      · split at h
        · simp at h
        · split at h
          · simp at h
          · rename_i h1 h2 h3 h4 h5
            refine ⟨by omega, fun i hi => ?_, by omega, fun i hi => ?_, by omega⟩
            · rcases Int.lt_or_le i.ver 0 with a | a
              · exact absurd ⟨i, hi, a⟩ h2
              · exact a
            · constructor
              · rcases Nat.lt_or_ge 900 i.card.size with a | a
                · exact absurd ⟨i, hi, .inl a⟩ h4
                · exact a
              · rcases Nat.lt_or_ge 24 i.uid.size with a | a
                · exact absurd ⟨i, hi, .inr a⟩ h4
                · exact a
theorem check_ways (r : Rs) : checkR r = 0 ∨ checkR r = 12 ∨ checkR r = 2 := by
  unfold checkR
  (repeat' split) <;> simp

theorem text_le (s : ByteArray) : (Pk.text s.data.toList).length ≤ 9 + s.size := by
  have := Pk.num_length_le (s.data.toList.length : Int)
  have e : s.data.toList.length = s.size := by rw [Array.length_toList]; rfl
  rw [Pk.text, List.length_append]; omega
theorem layIt_le (i : It) : (layIt i).length ≤ 36 + i.uid.size + i.card.size := by
  have h1 := text_le i.uid
  have h2 := text_le i.card
  have h3 := Pk.num_length_le i.ver
  have h4 := Pk.num_length_le (bitI i.gone)
  simp only [layIt, List.length_append]
  omega
theorem layIts_le (l : List It) (m : Nat) (h : ∀ i ∈ l, i.card.size + i.uid.size ≤ m) : (l.flatMap layIt).length ≤ l.length * (36 + m) := by
  induction l with
  | nil => simp
  | cons i l ih =>
    have h1 := layIt_le i
    have h2 := h i (List.mem_cons_self ..)
    have h3 := ih fun j hj => h j (List.mem_cons_of_mem _ hj)
    rw [List.flatMap_cons, List.length_append, List.length_cons, Nat.add_mul]
    omega
theorem lay_le (r : Rs) (m n : Nat) (h : ∀ i ∈ r.items, i.card.size + i.uid.size ≤ m) (hn : r.items.length ≤ n) : (lay r).length ≤ 63 + r.card.size + n * (36 + m) := by
  have h0 := text_le r.card
  have h1 := Pk.num_length_le r.err
  have h2 := Pk.num_length_le r.token
  have h3 := Pk.num_length_le r.version
  have h4 := Pk.num_length_le r.index
  have h5 := Pk.num_length_le (bitI r.more)
  have h6 := Pk.num_length_le (r.items.length : Int)
  have h7 := layIts_le r.items m h
  have h8 := Nat.mul_le_mul_right (36 + m) hn
  simp only [lay, layHead, List.length_append]
  omega
end Go.Proofs.Ytlmfpadlgdmflaa
