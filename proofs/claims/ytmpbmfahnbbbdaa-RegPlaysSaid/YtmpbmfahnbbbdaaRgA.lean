/-
  reg: the acts that come in, opened.
-/
import Derived.Test.YtmpbmfahnbbbdaaOpen2
import Derived.Test.YtmpbmfahnbbbdaaRowC
import Derived.Test.YtmpbmfahnbbbdaaRows
set_option linter.unusedSimpArgs false
set_option linter.unusedVariables false
namespace Go.Proofs.Ytmpbmfahnbbbdaa
open Go.RowKit
set_option maxRecDepth 100000
open Go.Joins Go.ChangeShapes Go.WideShapes Go.Deep
structure Act where
  op : Int
  key : ByteArray
  id : Int
def Act.cells (a : Act) : List Value := [Value.int .i64 a.op, Value.string a.key, Value.int .i64 a.id]
theorem Act.cells_len (a : Act) : a.cells.length = 3 := rfl
def Act.Fits (a : Act) : Prop := (-9223372036854775808 ≤ a.op ∧ a.op ≤ 9223372036854775807) ∧ (a.key.size ≤ maxLen) ∧ (-9223372036854775808 ≤ a.id ∧ a.id ≤ 9223372036854775807)
section
variable {H : Type} {enc : TypeId × Value → H} {W : World}
theorem open_acts {fuel : Nat} {cs : List Value} {x : DataW H × List MemPlace} (h : DataW.trod enc Try.prog W 0 (fun _ => true) true fuel 22 cs = some x) :
    ∃ (A : Option Addr) (c : Nat) (l : List Act), cs = [.slice A l.length c] ∧ Sl W (fun _ => True) 3 A l.length (l.flatMap Act.cells) ∧ l.length ≤ maxLen ∧ (∀ i ∈ l, i.Fits) ∧ l.length ≤ c ∧ c ≤ maxLen := by
  rcases open_rows Try.underlying22 Try.underlying29 (by kernel_rfl) (by kernel_rfl) h with h0 | ⟨a, len, cap, hcs, hl, hm, hi⟩
  · exact ⟨none, 0, [], h0, Sl.nil _ _ _ _, Nat.zero_le _, (fun i hi => by cases hi), Nat.zero_le _, Nat.zero_le _⟩
  · have key : ∀ i, i < len → ∃ it : Act, (∀ j, j < 3 → W.cell? (a.add (i * 3 + j)) = it.cells[j]?) ∧ it.Fits := fun i hil => by
      obtain ⟨n, hf⟩ := hi i hil
      obtain ⟨v0, y0, c0, t0⟩ := hf 0 _ rfl
      obtain ⟨v1, y1, c1, t1⟩ := hf 1 _ rfl
      obtain ⟨v2, y2, c2, t2⟩ := hf 2 _ rfl
      obtain ⟨s0, e0, _, w0⟩ := DataW.trod_int Try.underlying3 t0
      obtain ⟨s1, e1, _, w1⟩ := DataW.trod_string Try.underlying9 t1
      obtain ⟨s2, e2, _, w2⟩ := DataW.trod_int Try.underlying3 t2
      injection e0 with e0 _
      injection e1 with e1 _
      injection e2 with e2 _
      subst e0 e1 e2
      have b0 := bounds_i64 w0
      have b2 := bounds_i64 w2
      refine ⟨⟨s0, s1, s2⟩, fun j hj => ?_, ⟨b0.1, b0.2⟩, w1, ⟨b2.1, b2.2⟩⟩
      rcases (show j = 0 ∨ j = 1 ∨ j = 2 by omega) with rfl | rfl | rfl
      · exact c0
      · exact c1
      · exact c2
    obtain ⟨l, hll, hp⟩ := choose_row key
    refine ⟨some a, cap, l, by rw [hcs, hll], ⟨fm_length _ 3 Act.cells_len l, fun h0 => ?_⟩, by omega, fun i hi => ?_, by omega, hm⟩
    · obtain ⟨i0, hi0⟩ : ∃ it, l[0]? = some it := ⟨_, List.getElem?_eq_getElem h0⟩
      have hc0 := (hp 0 i0 hi0).1 0 (by omega)
      have hsp := add_spot (hc0.trans rfl)
      obtain ⟨b, off, spot⟩ := a
      simp only at hsp
      subst hsp
      refine ⟨b, off, rfl, trivial, ?_, fun j hj => ?_⟩
      · rw [Addr.add_lit] at hc0
        exact World.block_lt_of_cell? W _ hc0
      · rw [fm_length _ 3 Act.cells_len] at hj
        obtain ⟨it, hit⟩ : ∃ it, l[j / 3]? = some it := ⟨_, List.getElem?_eq_getElem (by omega)⟩
        have h1 := (hp (j / 3) it hit).1 (j % 3) (by omega)
        have h2 := fm_get _ 3 Act.cells_len l (j / 3) (j % 3) it hit (by omega)
        rw [show j / 3 * 3 + j % 3 = j from by omega] at h1 h2
        rw [Addr.add_lit] at h1
        rw [h1, h2]
    · obtain ⟨j, hj, e⟩ := List.getElem_of_mem hi
      exact (hp j i (by rw [List.getElem?_eq_getElem hj, e])).2
theorem open_actsV {r0 : Reach} {b0 : Nat} {v : Value} {d : DataW H} {p : List MemPlace} (hv : Value.okWide Try.prog W r0 b0 22 v) (h : DataW.Trod enc Try.prog W 0 (fun _ => true) true 22 v d p) :
    ∃ (A : Option Addr) (c : Nat) (l : List Act), v = .slice A l.length c ∧ Sl W (fun _ => True) 3 A l.length (l.flatMap Act.cells) ∧ l.length ≤ maxLen ∧ (∀ i ∈ l, i.Fits) ∧ l.length ≤ c ∧ c ≤ maxLen := by
  obtain ⟨a, len, cap, rfl⟩ := okWide_slice Try.underlying22 hv
  obtain ⟨fuel, hf⟩ := h
  obtain ⟨A, c, l, hcs, h1, h2, h3, h4, h5⟩ := open_acts hf
  simp [Value.cells] at hcs
  obtain ⟨rfl, rfl, rfl⟩ := hcs
  exact ⟨_, _, l, rfl, h1, h2, h3, h4, h5⟩
end
end Go.Proofs.Ytmpbmfahnbbbdaa
