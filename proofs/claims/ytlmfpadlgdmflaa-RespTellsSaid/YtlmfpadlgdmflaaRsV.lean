/-
  Answers in memory.
-/
import Derived.Test.YtlmfpadlgdmflaaRs
import Derived.Test.YtlmfpadlgdmflaaPackW
import Derived.Test.YtlmfpadlgdmflaaRows
set_option linter.unusedSimpArgs false
set_option linter.unusedVariables false
namespace Go.Proofs.Ytlmfpadlgdmflaa
open Go.RowKit
set_option maxRecDepth 100000

/-- The cells of an item, of items. -/
def It.cells (i : It) : List Value := [.string i.uid, .int .i64 i.ver, .bool i.gone, .string i.card]
def itc (l : List It) : List Value := l.flatMap It.cells
theorem itc_length (l : List It) : (itc l).length = l.length * 4 := by
  induction l with
  | nil => rfl
  | cons i l ih => simp only [itc, List.flatMap_cons, List.length_append, List.length_cons] at ih ⊢; rw [ih]; simp [It.cells]; omega
theorem itc_get (l : List It) (k j : Nat) (h : k < l.length) (hj : j < 4) : (itc l)[k * 4 + j]? = (l[k]'h).cells[j]? := by
  induction l generalizing k with
  | nil => simp at h
  | cons i l ih =>
    simp only [itc, List.flatMap_cons]
    cases k with
    | zero =>
      rw [Nat.zero_mul, Nat.zero_add, List.getElem?_append_left (by simp [It.cells]; omega)]
      rfl
    | succ k =>
      rw [List.getElem?_append_right (by simp [It.cells]; omega)]
      have := ih k (by simpa using h)
      simp only [itc] at this
      rw [show (k + 1) * 4 + j - i.cells.length = k * 4 + j from by simp [It.cells]; omega, this]
      rfl
theorem itc_one (l : List It) : ∀ u ∈ itc l, u.oneCell' = true := by
  intro u hu
  obtain ⟨i, _, hu⟩ := List.mem_flatMap.1 hu
  simp [It.cells] at hu
  rcases hu with rfl | rfl | rfl | rfl <;> rfl

/-- An answer as a value. -/
def rsa (r : Rs) (A : Option Addr) (c : Nat) : Array Value :=
  #[.int .i64 r.kind, .int .i64 r.err, .int .i64 r.token, .int .i64 r.version, .string r.card, .int .i64 r.index, .bool r.more, .slice A r.items.length c]

/-- An answer's box: its cells. -/
theorem rsa_cells {w : World} {g : Nat} {t : TypeId} {r : Rs} {A : Option Addr} {c : Nat} (h : Blk w g t (rsa r A c)) :
    w.cell? ⟨g, 0, none⟩ = some (.int .i64 r.kind) ∧ w.cell? ⟨g, 1, none⟩ = some (.int .i64 r.err) ∧ w.cell? ⟨g, 2, none⟩ = some (.int .i64 r.token) ∧ w.cell? ⟨g, 3, none⟩ = some (.int .i64 r.version) ∧
    w.cell? ⟨g, 4, none⟩ = some (.string r.card) ∧ w.cell? ⟨g, 5, none⟩ = some (.int .i64 r.index) ∧ w.cell? ⟨g, 6, none⟩ = some (.bool r.more) ∧ w.cell? ⟨g, 7, none⟩ = some (.slice A r.items.length c) :=
  ⟨h.cell 0, h.cell 1, h.cell 2, h.cell 3, h.cell 4, h.cell 5, h.cell 6, h.cell 7⟩

theorem bit_any (b : Bool) (w : World) : Calls Try.prog 41 #[.bool b] w fun e w' => e = .returned (.int .i64 (bitI b)) ∧ w = w' := by
  cases b
  all_goals
    go_enter Try.func41, Try.ntmps41
    go_wp2
    go_ret
    exact ⟨rfl, rfl⟩
theorem ref_bit (b : Bool) (w : World) : Calls Try.prog 42 #[.bool b] w fun e w' => e = .returned (.int .i64 (bitI b)) ∧ w = w' := by
  cases b
  all_goals
    go_enter Try.func42, Try.ntmps42
    go_wp2
    go_ret
    exact ⟨rfl, rfl⟩

theorem it_cells {w : World} {F : Nat → Prop} {b o n : Nat} {l : List It} (h : Sl w F 4 (some ⟨b, o, none⟩) n (itc l)) {k : Nat} {i : It} (hk : l[k]? = some i) :
    w.cell? ⟨b, o + k * 4, none⟩ = some (.string i.uid) ∧ w.cell? ⟨b, o + k * 4 + 1, none⟩ = some (.int .i64 i.ver) ∧ w.cell? ⟨b, o + k * 4 + 2, none⟩ = some (.bool i.gone) ∧ w.cell? ⟨b, o + k * 4 + 3, none⟩ = some (.string i.card) := by
  obtain ⟨hkl, rfl⟩ := List.getElem?_eq_some_iff.1 hk
  have hl := itc_length l
  have hn : n = l.length := by have := h.1; omega
  obtain ⟨b', o', e, _, _, hc⟩ := h.2 (by omega)
  injection e with e
  injection e with e1 e2
  subst e1 e2
  have key : ∀ j, j < 4 → w.cell? ⟨b, o + (k * 4 + j), none⟩ = (l[k]'hkl).cells[j]? := fun j hj => by
    rw [hc (k * 4 + j) (by omega), itc_get l k j hkl hj]
  refine ⟨?_, ?_, ?_, ?_⟩
  · exact key 0 (by omega)
  · exact key 1 (by omega)
  · exact key 2 (by omega)
  · exact key 3 (by omega)
end Go.Proofs.Ytlmfpadlgdmflaa
