/-
  What is in a map; the law's own words, in plain Lean.
-/
import Derived.Test.YtdgfefnaoionpaaOmQ
import Derived.Test.YtdgfefnaoionpaaOmR
import Derived.Test.YtdgfefnaoionpaaOmA
import Derived.Test.YtdgfefnaoionpaaStr
import Derived.Sort.Walk0
set_option linter.unusedSimpArgs false
set_option linter.unusedVariables false
namespace Go.Proofs.Ytdgfefnaoionpaa
open Go.RowKit
set_option maxRecDepth 100000

theorem str_lt (a b : ByteArray) : Op.bytesLess a.toList b.toList = decide (kb a < kb b) := by
  rw [Go.Lib.toList_data, Go.Lib.toList_data, bytesLess_eq]
  rfl
section
variable {α : Type}
theorem low_mem {es : List (En α)} (hr : Rises es) {i : Nat} {e : En α} (h : es[i]? = some e) : low es (kb e.1) = i :=
  low_of es i (Nat.le_of_lt (List.getElem?_eq_some_iff.1 h).1) (fun _ _ hp hx => hr.get hp hx h) (fun e' he' => by rw [h] at he'; injection he' with he'; subst he'; exact lt_irr _)
theorem has_iff {es : List (En α)} (hr : Rises es) (t : List UInt8) : has es t = true ↔ ∃ e ∈ es, kb e.1 = t := by
  constructor
  · intro h
    unfold has at h
    cases hl : es[low es t]? with
    | none => rw [hl] at h; cases h
    | some e => rw [hl] at h; exact ⟨e, List.mem_of_getElem? hl, by simpa using h⟩
  · rintro ⟨e, he, rfl⟩
    obtain ⟨i, hi⟩ := List.getElem?_of_mem he
    unfold has
    rw [low_mem hr hi, hi]
    simp
theorem val_mem {es : List (En α)} (hr : Rises es) {i : Nat} {e : En α} (h : es[i]? = some e) : valAt es (kb e.1) = some e.2 := by
  unfold valAt
  rw [low_mem hr h, h]
  simp
theorem put_mem {es : List (En α)} (k : ByteArray) (v : α) : (∃ e ∈ putE es k v, kb e.1 = kb k) ∧ ∀ t, (∃ e ∈ es, kb e.1 = t) → ∃ e ∈ putE es k v, kb e.1 = t := by
  unfold putE
  split
  · rename_i hh
    have key : ∀ t, (∃ e ∈ es, kb e.1 = t) → ∃ e ∈ es.modify (low es (kb k)) (fun e => (e.1, v)), kb e.1 = t := by
      rintro t ⟨e, he, rfl⟩
      obtain ⟨i, hi⟩ := List.getElem?_of_mem he
      by_cases h : low es (kb k) = i
      · exact ⟨(e.1, v), List.mem_of_getElem? (i := i) (by rw [List.getElem?_modify, hi]; simp [h]), rfl⟩
      · exact ⟨e, List.mem_of_getElem? (i := i) (by rw [List.getElem?_modify, hi]; simp [h]), rfl⟩
    refine ⟨key _ ?_, key⟩
    unfold has at hh
    cases hl : es[low es (kb k)]? with
    | none => rw [hl] at hh; cases hh
    | some e => rw [hl] at hh; exact ⟨e, List.mem_of_getElem? hl, by simpa using hh⟩
  · refine ⟨⟨(k, v), by simp [insE], rfl⟩, ?_⟩
    rintro t ⟨e, he, rfl⟩
    refine ⟨e, ?_, rfl⟩
    rw [← List.take_append_drop (low es (kb k)) es] at he
    simp only [insE, List.mem_append] at he ⊢
    rcases he with h | h
    · exact .inl (.inl h)
    · exact .inr h
end

def lightL (l : List Act) : Bool := decide (l.length ≤ 80) && l.all fun a => decide (a.k.size ≤ 40)
def plc (ks : List ByteArray) (t : ByteArray) : Nat := (ks.takeWhile fun x => decide (kb x < kb t)).length
def inn (ks : List ByteArray) (t : ByteArray) : Bool := match ks[plc ks t]? with | some x => decide (x = t) | none => false
theorem plc_low {α : Type} (es : List (En α)) (t : ByteArray) : plc (es.map Prod.fst) t = low es (kb t) := by
  unfold plc low
  rw [List.takeWhile_map, List.length_map]
  rfl
theorem inn_has {α : Type} (es : List (En α)) (t : ByteArray) : inn (es.map Prod.fst) t = has es (kb t) := by
  unfold inn has
  rw [plc_low, List.getElem?_map]
  cases es[low es (kb t)]? with
  | none => rfl
  | some e =>
    simp only [Option.map_some]
    by_cases h : e.1 = t
    · subst h; simp
    · have : ¬ kb e.1 = kb t := fun hh => h (kb_inj.1 hh)
      simp [h, this]
theorem plc_le (ks : List ByteArray) (t : ByteArray) : plc ks t ≤ ks.length := by
  unfold plc
  have := (List.takeWhile_sublist (l := ks) (fun x => decide (kb x < kb t))).length_le
  exact this
theorem plc_of {t : ByteArray} : ∀ (ks : List ByteArray) (i : Nat), i ≤ ks.length → (∀ p x, p < i → ks[p]? = some x → kb x < kb t) → (∀ x, ks[i]? = some x → ¬ kb x < kb t) → plc ks t = i
  | [], i, h, _, _ => by simp at h; subst h; rfl
  | e :: es, 0, _, _, h2 => by
    have := h2 e rfl
    simp [plc, this]
  | e :: es, i + 1, h, h1, h2 => by
    have he := h1 0 e (by omega) rfl
    have ih := plc_of es i (by simpa using h) (fun p x hp hx => h1 (p + 1) x (by omega) (by simpa using hx)) (fun x hx => h2 x (by simpa using hx))
    unfold plc at ih ⊢
    rw [List.takeWhile_cons_of_pos (by simpa using he), List.length_cons, ih]
end Go.Proofs.Ytdgfefnaoionpaa
