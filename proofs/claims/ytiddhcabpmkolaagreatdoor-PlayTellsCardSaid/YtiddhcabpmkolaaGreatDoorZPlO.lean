/-
  Scripts: the acts that come in, opened.
-/
import Derived.Test.YtiddhcabpmkolaaGreatDoorRows
import Derived.Test.YtiddhcabpmkolaaGreatDoorZOpen2
import Derived.Test.YtiddhcabpmkolaaGreatDoorZLib
import Derived.Test.YtiddhcabpmkolaaGreatDoorZPlV
set_option linter.unusedSimpArgs false
set_option linter.unusedVariables false
namespace Go.Proofs.YtiddhcabpmkolaaGreatDoor
open Go.RowKit
set_option maxRecDepth 100000
open Go.Joins Go.ChangeShapes Go.WideShapes Go.Deep
section
variable {H : Type} {enc : TypeId × Value → H} {W : World}
theorem open_pActs {fuel : Nat} {cs : List Value} {x : DataW H × List MemPlace} (h : DataW.trod enc Tryz.prog W 0 (fun _ => true) true fuel 22 cs = some x) :
    ∃ (A : Option Addr) (c : Nat) (l : List PAct), cs = [.slice A l.length c] ∧ Sl W (fun _ => True) 4 A l.length (l.flatMap PAct.cells) ∧ l.length ≤ maxLen ∧ (∀ i ∈ l, i.Fits) ∧ l.length ≤ c ∧ c ≤ maxLen := by
  rcases open_rows Tryz.underlying22 Tryz.underlying33 (by kernel_rfl) (by kernel_rfl) h with h0 | ⟨a, len, cap, hcs, hl, hm, hi⟩
  · exact ⟨none, 0, [], h0, Sl.nil _ _ _ _, Nat.zero_le _, (fun i hi => by cases hi), Nat.zero_le _, Nat.zero_le _⟩
  · have key : ∀ i, i < len → ∃ it : PAct, (∀ j, j < 4 → W.cell? (a.add (i * 4 + j)) = it.cells[j]?) ∧ it.Fits := fun i hil => by
      obtain ⟨n, hf⟩ := hi i hil
      obtain ⟨v0, y0, c0, t0⟩ := hf 0 _ rfl
      obtain ⟨v1, y1, c1, t1⟩ := hf 1 _ rfl
      obtain ⟨v2, y2, c2, t2⟩ := hf 2 _ rfl
      obtain ⟨v3, y3, c3, t3⟩ := hf 3 _ rfl
      obtain ⟨s0, e0, _, w0⟩ := DataW.trod_int Tryz.underlying3 t0
      obtain ⟨s1, e1, _, w1⟩ := DataW.trod_int Tryz.underlying3 t1
      obtain ⟨s2, e2, _, w2⟩ := DataW.trod_int Tryz.underlying3 t2
      obtain ⟨s3, e3, _, w3⟩ := DataW.trod_string Tryz.underlying9 t3
      injection e0 with e0 _
      injection e1 with e1 _
      injection e2 with e2 _
      injection e3 with e3 _
      subst e0 e1 e2 e3
      have b0 := bounds_i64 w0
      have b1 := bounds_i64 w1
      have b2 := bounds_i64 w2
      refine ⟨⟨s0, s1, s2, s3⟩, fun j hj => ?_, ⟨b0.1, b0.2⟩, ⟨b1.1, b1.2⟩, ⟨b2.1, b2.2⟩, w3⟩
      rcases (show j = 0 ∨ j = 1 ∨ j = 2 ∨ j = 3 by omega) with rfl | rfl | rfl | rfl
      · exact c0
      · exact c1
      · exact c2
      · exact c3
    obtain ⟨l, hll, hp⟩ := choose_row key
    refine ⟨some a, cap, l, by rw [hcs, hll], ⟨fm_length _ 4 PAct.cells_len l, fun h0 => ?_⟩, by omega, fun i hi => ?_, by omega, hm⟩
    · obtain ⟨i0, hi0⟩ : ∃ it, l[0]? = some it := ⟨_, List.getElem?_eq_getElem h0⟩
      have hc0 := (hp 0 i0 hi0).1 0 (by omega)
      have hsp := add_spot (hc0.trans rfl)
      obtain ⟨b, off, spot⟩ := a
      simp only at hsp
      subst hsp
      refine ⟨b, off, rfl, trivial, ?_, fun j hj => ?_⟩
      · rw [Addr.add_lit] at hc0
        exact World.block_lt_of_cell? W _ hc0
      · rw [fm_length _ 4 PAct.cells_len] at hj
        obtain ⟨it, hit⟩ : ∃ it, l[j / 4]? = some it := ⟨_, List.getElem?_eq_getElem (by omega)⟩
        have h1 := (hp (j / 4) it hit).1 (j % 4) (by omega)
        have h2 := fm_get _ 4 PAct.cells_len l (j / 4) (j % 4) it hit (by omega)
        rw [show j / 4 * 4 + j % 4 = j from by omega] at h1 h2
        rw [Addr.add_lit] at h1
        rw [h1, h2]
    · obtain ⟨j, hj, e⟩ := List.getElem_of_mem hi
      exact (hp j i (by rw [List.getElem?_eq_getElem hj, e])).2
theorem open_pActsV {r0 : Reach} {b0 : Nat} {v : Value} {d : DataW H} {p : List MemPlace} (hv : Value.okWide Tryz.prog W r0 b0 22 v) (h : DataW.Trod enc Tryz.prog W 0 (fun _ => true) true 22 v d p) :
    ∃ (A : Option Addr) (c : Nat) (l : List PAct), v = .slice A l.length c ∧ Sl W (fun _ => True) 4 A l.length (l.flatMap PAct.cells) ∧ l.length ≤ maxLen ∧ (∀ i ∈ l, i.Fits) ∧ l.length ≤ c ∧ c ≤ maxLen := by
  obtain ⟨a, len, cap, rfl⟩ := okWide_slice Tryz.underlying22 hv
  obtain ⟨fuel, hf⟩ := h
  obtain ⟨A, c, l, hcs, h1, h2, h3, h4, h5⟩ := open_pActs hf
  simp [Value.cells] at hcs
  obtain ⟨rfl, rfl, rfl⟩ := hcs
  exact ⟨_, _, l, rfl, h1, h2, h3, h4, h5⟩
end
end Go.Proofs.YtiddhcabpmkolaaGreatDoor
