/-
  An answer that comes in, opened.
-/
import Derived.Test.YtlmfpadlgdmflaaRsV
import Derived.Test.YtlmfpadlgdmflaaOpen2
set_option linter.unusedSimpArgs false
set_option linter.unusedVariables false
namespace Go.Proofs.Ytlmfpadlgdmflaa
open Go.RowKit
set_option maxRecDepth 100000
open Go.Joins Go.ChangeShapes Go.WideShapes Go.Deep

structure Rs.Wf (r : Rs) : Prop where
  kind : -9223372036854775808 ≤ r.kind ∧ r.kind ≤ 9223372036854775807
  err : -9223372036854775808 ≤ r.err ∧ r.err ≤ 9223372036854775807
  token : -9223372036854775808 ≤ r.token ∧ r.token ≤ 9223372036854775807
  version : -9223372036854775808 ≤ r.version ∧ r.version ≤ 9223372036854775807
  index : -9223372036854775808 ≤ r.index ∧ r.index ≤ 9223372036854775807
  card : r.card.size ≤ maxLen
  ver : ∀ i ∈ r.items, -9223372036854775808 ≤ i.ver ∧ i.ver ≤ 9223372036854775807
  text : ∀ i ∈ r.items, i.uid.size ≤ maxLen ∧ i.card.size ≤ maxLen
  len : r.items.length ≤ maxLen

section
variable {H : Type} {enc : TypeId × Value → H} {W : World}
theorem open_items {fuel : Nat} {cs : List Value} {x : DataW H × List MemPlace} (h : DataW.trod enc Try.prog W 0 (fun _ => true) true fuel 38 cs = some x) :
    ∃ (A : Option Addr) (c : Nat) (l : List It), cs = [.slice A l.length c] ∧ Sl W (fun _ => True) 4 A l.length (itc l) ∧ l.length ≤ maxLen ∧ ∀ i ∈ l, -9223372036854775808 ≤ i.ver ∧ i.ver ≤ 9223372036854775807 ∧ i.uid.size ≤ maxLen ∧ i.card.size ≤ maxLen := by
  rcases open_rows Try.underlying38 Try.underlying52 (by kernel_rfl) (by kernel_rfl) h with h0 | ⟨a, len, cap, hcs, hl, hm, hi⟩
  · exact ⟨none, 0, [], h0, Sl.nil _ _ _ _, Nat.zero_le _, fun i hi => by cases hi⟩
  · have key : ∀ i, i < len → ∃ it : It, (∀ j, j < 4 → W.cell? (a.add (i * 4 + j)) = it.cells[j]?) ∧ (-9223372036854775808 ≤ it.ver ∧ it.ver ≤ 9223372036854775807 ∧ it.uid.size ≤ maxLen ∧ it.card.size ≤ maxLen) := fun i hil => by
      obtain ⟨n, hf⟩ := hi i hil
      obtain ⟨v0, y0, c0, t0⟩ := hf 0 _ rfl
      obtain ⟨v1, y1, c1, t1⟩ := hf 1 _ rfl
      obtain ⟨v2, y2, c2, t2⟩ := hf 2 _ rfl
      obtain ⟨v3, y3, c3, t3⟩ := hf 3 _ rfl
      obtain ⟨s0, e0, _, w0⟩ := DataW.trod_string Try.underlying9 t0
      obtain ⟨s1, e1, _, w1⟩ := DataW.trod_int Try.underlying2 t1
      obtain ⟨s2, e2, _⟩ := DataW.trod_bool Try.underlying4 t2
      obtain ⟨s3, e3, _, w3⟩ := DataW.trod_string Try.underlying9 t3
      injection e0 with e0 _
      injection e1 with e1 _
      injection e2 with e2 _
      injection e3 with e3 _
      subst e0 e1 e2 e3
      have hb := bounds_i64 w1
      refine ⟨⟨s0, s1, s2, s3⟩, fun j hj => ?_, hb.1, hb.2, w0, w3⟩
      rcases (show j = 0 ∨ j = 1 ∨ j = 2 ∨ j = 3 by omega) with rfl | rfl | rfl | rfl
      · exact c0
      · exact c1
      · exact c2
      · exact c3
    obtain ⟨l, hll, hp⟩ := choose_row key
    refine ⟨some a, cap, l, by rw [hcs, hll], ⟨itc_length l, fun h0 => ?_⟩, by omega, fun i hi => ?_⟩
    · obtain ⟨i0, hi0⟩ : ∃ it, l[0]? = some it := ⟨_, List.getElem?_eq_getElem h0⟩
      have hc0 := (hp 0 i0 hi0).1 0 (by omega)
      have hsp := add_spot (hc0.trans rfl)
      obtain ⟨b, off, spot⟩ := a
      simp only at hsp
      subst hsp
      refine ⟨b, off, rfl, trivial, ?_, fun j hj => ?_⟩
      · rw [Addr.add_lit] at hc0
        exact World.block_lt_of_cell? W _ hc0
      · rw [itc_length] at hj
        obtain ⟨it, hit⟩ : ∃ it, l[j / 4]? = some it := ⟨_, List.getElem?_eq_getElem (by omega)⟩
        have h1 := (hp (j / 4) it hit).1 (j % 4) (by omega)
        obtain ⟨hkl, rfl⟩ := List.getElem?_eq_some_iff.1 hit
        have h2 := itc_get l (j / 4) (j % 4) hkl (by omega)
        rw [show j / 4 * 4 + j % 4 = j from by omega] at h1 h2
        rw [Addr.add_lit] at h1
        rw [h1, h2]
    · obtain ⟨j, hj, e⟩ := List.getElem_of_mem hi
      exact (hp j i (by rw [List.getElem?_eq_getElem hj, e])).2

theorem open_resp {r0 : Reach} {b0 : Nat} {v : Value} {d : DataW H} {p : List MemPlace} (hv : Value.okWide Try.prog W r0 b0 40 v) (h : DataW.Trod enc Try.prog W 0 (fun _ => true) true 40 v d p) :
    ∃ (r : Rs) (A : Option Addr) (c : Nat), v = .agg (rsa r A c) ∧ Sl W (fun _ => True) 4 A r.items.length (itc r.items) ∧ r.Wf := by
  obtain ⟨cs, n, rfl, hsz, hf⟩ := open_fields Try.underlying40 (by kernel_rfl) (by kernel_rfl) hv h
  obtain ⟨v0, y0, c0, t0⟩ := hf 0 _ rfl
  obtain ⟨v1, y1, c1, t1⟩ := hf 1 _ rfl
  obtain ⟨v2, y2, c2, t2⟩ := hf 2 _ rfl
  obtain ⟨v3, y3, c3, t3⟩ := hf 3 _ rfl
  obtain ⟨v4, y4, c4, t4⟩ := hf 4 _ rfl
  obtain ⟨v5, y5, c5, t5⟩ := hf 5 _ rfl
  obtain ⟨v6, y6, c6, t6⟩ := hf 6 _ rfl
  obtain ⟨v7, y7, c7, t7⟩ := hf 7 _ rfl
  obtain ⟨s0, e0, _, w0⟩ := DataW.trod_int Try.underlying3 t0
  obtain ⟨s1, e1, _, w1⟩ := DataW.trod_int Try.underlying27 t1
  obtain ⟨s2, e2, _, w2⟩ := DataW.trod_int Try.underlying2 t2
  obtain ⟨s3, e3, _, w3⟩ := DataW.trod_int Try.underlying2 t3
  obtain ⟨s4, e4, _, w4⟩ := DataW.trod_string Try.underlying9 t4
  obtain ⟨s5, e5, _, w5⟩ := DataW.trod_int Try.underlying3 t5
  obtain ⟨s6, e6, _⟩ := DataW.trod_bool Try.underlying4 t6
  obtain ⟨A, c, l, e7, hs, hlen, hok⟩ := open_items t7
  injection e0 with e0 _
  injection e1 with e1 _
  injection e2 with e2 _
  injection e3 with e3 _
  injection e4 with e4 _
  injection e5 with e5 _
  injection e6 with e6 _
  injection e7 with e7 _
  subst e0 e1 e2 e3 e4 e5 e6 e7
  have b0 := bounds_i64 w0
  have b1 := bounds_i64 w1
  have b2 := bounds_i64 w2
  have b3 := bounds_i64 w3
  have b5 := bounds_i64 w5
  refine ⟨⟨s0, s1, s2, s3, s4, s5, s6, l⟩, A, c, ?_, hs, ⟨by omega, by omega, by omega, by omega, by omega, w4, fun i hi => ⟨(hok i hi).1, (hok i hi).2.1⟩, fun i hi => ⟨(hok i hi).2.2.1, (hok i hi).2.2.2⟩, hlen⟩⟩
  congr 1
  have h8 : cs.size = 8 := hsz
  apply Array.ext
  · exact h8
  · intro i h1 h2
    have key : ∀ j u, cs[j]? = some u → (h : j < cs.size) → cs[j] = u := fun j u hu h => by rw [Array.getElem?_eq_getElem h] at hu; exact Option.some.inj hu
    rcases (show i = 0 ∨ i = 1 ∨ i = 2 ∨ i = 3 ∨ i = 4 ∨ i = 5 ∨ i = 6 ∨ i = 7 by omega) with rfl | rfl | rfl | rfl | rfl | rfl | rfl | rfl
    · exact key _ _ c0 h1
    · exact key _ _ c1 h1
    · exact key _ _ c2 h1
    · exact key _ _ c3 h1
    · exact key _ _ c4 h1
    · exact key _ _ c5 h1
    · exact key _ _ c6 h1
    · exact key _ _ c7 h1
end
end Go.Proofs.Ytlmfpadlgdmflaa
