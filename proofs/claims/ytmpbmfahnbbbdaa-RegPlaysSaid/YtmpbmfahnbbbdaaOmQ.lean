/-
   What Put and Del make of a map's list.
-/
import Derived.Test.YtmpbmfahnbbbdaaOmP
set_option linter.unusedSimpArgs false
set_option linter.unusedVariables false
namespace Go.Proofs.Ytmpbmfahnbbbdaa

set_option maxRecDepth 100000

section
variable {α : Type}
def insE (es : List (En α)) (i : Nat) (e : En α) : List (En α) := es.take i ++ [e] ++ es.drop i
theorem insE_length (es : List (En α)) (i : Nat) (e : En α) : (insE es i e).length = es.length + 1 := by
  simp [insE]; omega
def putE (es : List (En α)) (k : ByteArray) (v : α) : List (En α) := if has es (kb k) = true then es.modify (low es (kb k)) (fun e => (e.1, v)) else insE es (low es (kb k)) (k, v)
def delE (es : List (En α)) (t : List UInt8) : List (En α) := if has es t = true then es.eraseIdx (low es t) else es
theorem putE_le (es : List (En α)) (k : ByteArray) (v : α) : (putE es k v).length ≤ es.length + 1 := by
  unfold putE
  split
  · simp
  · rw [insE_length]; exact Nat.le_refl _
theorem rises_keys {es fs : List (En α)} (h : es.map (fun e => kb e.1) = fs.map (fun e => kb e.1)) (hr : Rises es) : Rises fs := by
  unfold Rises at *
  rw [← List.pairwise_map (f := fun e : En α => kb e.1) (R := (· < ·))] at hr ⊢
  rwa [← h]
theorem has_not {es : List (En α)} {t : List UInt8} (h : has es t = false) {e : En α} (he : es[low es t]? = some e) : t < kb e.1 := by
  unfold has at h
  rw [he] at h
  simp only [beq_eq_false_iff_ne, ne_eq] at h
  rcases cmp_tri (kb e.1) t with ⟨h1, _⟩ | ⟨h1, _⟩ | ⟨h1, _⟩
  · exact absurd h1 (low_at he)
  · exact absurd h1 h
  · exact h1
theorem rises_put {es : List (En α)} (hr : Rises es) (k : ByteArray) (v : α) : Rises (putE es k v) := by
  unfold putE
  split
  · refine rises_keys ?_ hr
    apply List.ext_getElem?
    intro j
    simp only [List.getElem?_map, List.getElem?_modify]
    split
    · cases es[j]? <;> simp
    · cases es[j]? <;> simp
  · rename_i hn
    have hn : has es (kb k) = false := by simpa using hn
    have hp : Rises es := hr
    unfold Rises at hr ⊢
    unfold insE
    have hsplit : es = es.take (low es (kb k)) ++ es.drop (low es (kb k)) := (List.take_append_drop _ _).symm
    have hr2 := hr
    rw [hsplit, List.pairwise_append] at hr2
    rw [List.append_assoc, List.pairwise_append]
    refine ⟨hr2.1, ?_, ?_⟩
    · rw [List.singleton_append, List.pairwise_cons]
      refine ⟨fun a ha => ?_, hr2.2.1⟩
      obtain ⟨j, hj⟩ := List.getElem?_of_mem ha
      rw [List.getElem?_drop] at hj
      cases hl : es[low es (kb k)]? with
      | none =>
        have := List.getElem?_eq_none_iff.1 hl
        rw [List.getElem?_eq_none (by omega)] at hj
        cases hj
      | some e0 =>
        have h0 := has_not hn hl
        by_cases hj0 : j = 0
        · subst hj0
          rw [Nat.add_zero, hl] at hj
          injection hj with hj
          subst hj
          exact h0
        · exact lt_tr h0 (hp.get (by omega) hl hj)
    · intro a ha b hb
      rw [List.singleton_append, List.mem_cons] at hb
      rcases hb with rfl | hb
      · obtain ⟨j, hj⟩ := List.getElem?_of_mem ha
        rw [List.getElem?_take] at hj
        split at hj
        · exact low_before (by assumption) hj
        · cases hj
      · exact hr2.2.2 a ha b hb
theorem rises_del {es : List (En α)} (hr : Rises es) (t : List UInt8) : Rises (delE es t) := by
  unfold delE
  split
  · exact List.Pairwise.sublist (List.eraseIdx_sublist _ _) hr
  · exact hr
end
end Go.Proofs.Ytmpbmfahnbbbdaa
