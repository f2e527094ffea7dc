/-
   Texts made clean, folded, held against each other: the plain law.
-/
import Derived.Test.YtemjpmkmpfpdhaaDoorLib
import Derived.Sort.Walk0
set_option linter.unusedSimpArgs false
set_option linter.unusedVariables false
namespace Go.Proofs.YtemjpmkmpfpdhaaDoor

set_option maxRecDepth 100000

def foldB (b : UInt8) : UInt8 := if 65 ≤ b.toNat ∧ b.toNat ≤ 90 then b + 32 else b
def foldL (l : List UInt8) : List UInt8 := l.map foldB
theorem foldL_length (l : List UInt8) : (foldL l).length = l.length := by simp [foldL]
theorem foldB_up (b : UInt8) (h1 : 65 ≤ b.toNat) (h2 : b.toNat ≤ 90) : foldB b = b + 32 ∧ (foldB b).toNat = b.toNat + 32 := by
  have e : foldB b = b + 32 := by simp [foldB, h1, h2]
  refine ⟨e, ?_⟩
  rw [e, UInt8.toNat_add]
  have : (32 : UInt8).toNat = 32 := rfl
  omega
theorem foldB_no (b : UInt8) (h : ¬ (65 ≤ b.toNat ∧ b.toNat ≤ 90)) : foldB b = b := by simp [foldB, h]
theorem foldB_foldB (b : UInt8) : foldB (foldB b) = foldB b := by
  by_cases h : 65 ≤ b.toNat ∧ b.toNat ≤ 90
  · have := (foldB_up b h.1 h.2).2
    exact foldB_no _ (by omega)
  · rw [foldB_no b h, foldB_no b h]
theorem foldL_foldL (l : List UInt8) : foldL (foldL l) = foldL l := by
  simp [foldL, foldB_foldB]
/-- The row in the midst of the fold: k bytes are done. -/
def foldTo (k : Nat) (l : List UInt8) : List UInt8 := foldL (l.take k) ++ l.drop k
theorem foldTo_zero (l : List UInt8) : foldTo 0 l = l := by simp [foldTo, foldL]
theorem foldTo_all (l : List UInt8) : foldTo l.length l = foldL l := by simp [foldTo]
theorem foldTo_length (k : Nat) (l : List UInt8) : (foldTo k l).length = l.length := by
  simp [foldTo, foldL]; omega
theorem foldTo_get (l : List UInt8) (k : Nat) (j : Nat) : (foldTo k l)[j]? = if j < k then l[j]?.map foldB else l[j]? := by
  by_cases hk : j < k
  · rw [if_pos hk]
    by_cases hl : j < l.length
    · rw [foldTo, List.getElem?_append_left (by simp [foldL]; omega)]
      simp [foldL, List.getElem?_take, hk]
    · rw [List.getElem?_eq_none (by rw [foldTo_length]; omega), List.getElem?_eq_none (by omega)]
      rfl
  · rw [if_neg hk]
    by_cases hl : k ≤ l.length
    · rw [foldTo, List.getElem?_append_right (by simp [foldL]; omega), List.getElem?_drop]
      congr 1
      simp [foldL]; omega
    · rw [List.getElem?_eq_none (by rw [foldTo_length]; omega), List.getElem?_eq_none (by omega)]
theorem foldTo_at (l : List UInt8) (k : Nat) : (foldTo k l)[k]? = l[k]? := by rw [foldTo_get, if_neg (Nat.lt_irrefl k)]
theorem foldTo_succ (l : List UInt8) (k : Nat) (b : UInt8) (h : l[k]? = some b) : foldTo (k + 1) l = (foldTo k l).set k (foldB b) := by
  apply List.ext_getElem?
  intro j
  obtain ⟨hkl, hb⟩ := List.getElem?_eq_some_iff.1 h
  rw [List.getElem?_set, foldTo_get, foldTo_get, foldTo_length]
  by_cases hj : k = j
  · subst hj
    simp [h, hkl, hb]
  · rw [if_neg hj]
    by_cases h1 : j < k
    · rw [if_pos (by omega), if_pos h1]
    · rw [if_neg (by omega), if_neg h1]

/-- Is one text ahead of another one? -/
def lessL (a b : List UInt8) : Bool := if foldL a ≠ foldL b then Op.bytesLess (foldL a) (foldL b) else Op.bytesLess a b

/-- The blanks that say nothing go. -/
def sqStep (out : List UInt8) (b : UInt8) : List UInt8 := if b = 32 ∧ (out = [] ∨ out.getLast? = some 32) then out else out ++ [b]
def sq (l : List UInt8) : List UInt8 := l.foldl sqStep []
theorem sq_nil : sq [] = [] := rfl
theorem sq_snoc (l : List UInt8) (b : UInt8) : sq (l ++ [b]) = sqStep (sq l) b := by simp [sq]
theorem sq_take (l : List UInt8) (k : Nat) (b : UInt8) (h : l[k]? = some b) : sq (l.take (k + 1)) = sqStep (sq (l.take k)) b := by
  rw [List.take_add_one, h, Option.toList_some, sq_snoc]
theorem sq_length (l : List UInt8) : (sq l).length ≤ l.length := by
  have : ∀ (l o : List UInt8), (l.foldl sqStep o).length ≤ o.length + l.length := by
    intro l
    induction l with
    | nil => intro o; simp
    | cons b t ih =>
      intro o
      refine Nat.le_trans (ih _) ?_
      unfold sqStep
      split <;> simp <;> omega
  simpa [sq] using this l []
def endL (o : List UInt8) : List UInt8 := if o.getLast? = some 32 then o.dropLast else o
def ctl (b : UInt8) : Bool := decide (b.toNat < 32 ∨ b.toNat = 127)
def outL (o : List UInt8) : List UInt8 × Int := if o.length = 0 then ([], 14) else if 64 < o.length then ([], 2) else (o, 0)
def cleanL (v : Bool) (l : List UInt8) : List UInt8 × Int := if v = true ∧ l.any ctl = false then outL (endL (sq l)) else ([], 1)
end Go.Proofs.YtemjpmkmpfpdhaaDoor
