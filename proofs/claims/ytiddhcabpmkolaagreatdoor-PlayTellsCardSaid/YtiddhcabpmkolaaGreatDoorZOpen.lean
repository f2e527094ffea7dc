/-
  What comes in, opened: slices of numbers
-/
import Derived.ProofKit
import Derived.OpenShut
import Derived.ShutString
import Derived.ChangeOld
import Derived.Test.YtiddhcabpmkolaaGreatDoorZLib
namespace Go.Proofs.YtiddhcabpmkolaaGreatDoor
set_option linter.unusedSimpArgs false
set_option linter.unusedVariables false
open Go.ChangeShapes Go.WideShapes Go.ChangeAt Go.RowKit

/-- A slice of integers that came in: nil, or a row of 'cap' cells, the numbers zs, each fitting its kind. -/
def IsRow (k : IntKind) (w : World) (a : Option Addr) (len cap : Nat) (zs : List Int) : Prop :=
  (a = none ∧ len = 0 ∧ cap = 0 ∧ zs = []) ∨
  ∃ x, a = some x ∧ len ≤ cap ∧ cap ≤ maxLen ∧ zs.length = cap ∧ (∀ i, i < zs.length → w.cell? (x.add i) = some (.int k (zs.getD i 0))) ∧ ∀ n ∈ zs, (Lit.int k n).wf = true

theorem wf_u8 {n : Int} (h : (Lit.int .u8 n).wf = true) : 0 ≤ n ∧ n ≤ 255 := bounds_u8 h

theorem IsRow.ints {k : IntKind} {w : World} {a : Option Addr} {len cap : Nat} {zs : List Int} (h : IsRow k w a len cap zs) :
    len ≤ cap ∧ cap ≤ maxLen ∧ (zs.take len).length = len ∧ (∀ n ∈ zs.take len, (Lit.int k n).wf = true) ∧ Sl w (fun _ => True) 1 a len ((zs.take len).map (Value.int k)) := by
  rcases h with ⟨rfl, rfl, rfl, rfl⟩ | ⟨x, rfl, hl, hm, hz, hc, hw⟩
  · exact ⟨Nat.le_refl _, Nat.zero_le _, by simp, by simp, by simp, fun h => absurd h (by omega)⟩
  · refine ⟨hl, hm, by simp; omega, fun n hn => hw n (List.mem_of_mem_take hn), by simp; omega, fun h0 => ?_⟩
    obtain ⟨b, off, spot⟩ := x
    have h1 := hc 0 (by omega)
    have hspot : spot = none := by simpa [Addr.add] using World.cell?_spot h1
    subst hspot
    refine ⟨b, off, rfl, trivial, World.block_lt_of_cell? w _ (by rw [Addr.add_lit] at h1; exact h1), fun j hj => ?_⟩
    simp at hj
    have h2 := hc j (by omega)
    rw [Addr.add_lit] at h2
    rw [h2]
    simp [List.getElem?_take, show j < len by omega, show j < zs.length by omega]

theorem IsRow.bytes {w : World} {a : Option Addr} {len cap : Nat} {zs : List Int} (h : IsRow .u8 w a len cap zs) :
    ∃ l : List UInt8, len ≤ cap ∧ cap ≤ maxLen ∧ l.length = len ∧ Sl w (fun _ => True) 1 a len (bvs l) := by
  obtain ⟨h1, h2, h3, h4, h5⟩ := h.ints
  refine ⟨(zs.take len).map fun n => UInt8.ofNat n.toNat, h1, h2, by simpa using h3, ?_⟩
  have e : bvs ((zs.take len).map fun n => UInt8.ofNat n.toNat) = (zs.take len).map (Value.int .u8) := by
    unfold bvs
    rw [List.map_map]
    apply List.map_congr_left
    intro n hn
    have := wf_u8 (h4 n hn)
    simp [bv]
    omega
  rw [e]
  exact h5

/-- A slice of strings that came in. -/
def IsStrs (w : World) (a : Option Addr) (len cap : Nat) (zs : List ByteArray) : Prop :=
  (a = none ∧ len = 0 ∧ cap = 0 ∧ zs = []) ∨
  ∃ x, a = some x ∧ len ≤ cap ∧ cap ≤ maxLen ∧ zs.length = cap ∧ (∀ i, i < zs.length → w.cell? (x.add i) = some (.string (zs.getD i ByteArray.empty))) ∧ ∀ s ∈ zs, s.size ≤ maxLen
theorem IsStrs.strs {w : World} {a : Option Addr} {len cap : Nat} {zs : List ByteArray} (h : IsStrs w a len cap zs) :
    len ≤ cap ∧ cap ≤ maxLen ∧ (zs.take len).length = len ∧ Sl w (fun _ => True) 1 a len ((zs.take len).map Value.string) := by
  rcases h with ⟨rfl, rfl, rfl, rfl⟩ | ⟨x, rfl, hl, hm, hz, hc, hw⟩
  · exact ⟨Nat.le_refl _, Nat.zero_le _, by simp, by simp, fun h => absurd h (by omega)⟩
  · refine ⟨hl, hm, by simp; omega, by simp; omega, fun h0 => ?_⟩
    obtain ⟨b, off, spot⟩ := x
    have h1 := hc 0 (by omega)
    have hspot : spot = none := by simpa [Addr.add] using World.cell?_spot h1
    subst hspot
    refine ⟨b, off, rfl, trivial, World.block_lt_of_cell? w _ (by rw [Addr.add_lit] at h1; exact h1), fun j hj => ?_⟩
    simp at hj
    have h2 := hc j (by omega)
    rw [Addr.add_lit] at h2
    rw [h2]
    simp [List.getElem?_take, show j < len by omega, show j < zs.length by omega]
end Go.Proofs.YtiddhcabpmkolaaGreatDoor
