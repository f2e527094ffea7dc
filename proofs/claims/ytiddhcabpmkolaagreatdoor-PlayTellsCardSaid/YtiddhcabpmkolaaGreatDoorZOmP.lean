/-
  A map whose keys rise, in plain Lean. What Put and Del make of a map's list.
-/
import Derived.Sort.Walk0
import Derived.Lib.Bytealg
import Derived.Test.YtiddhcabpmkolaaGreatDoorZLib
set_option linter.unusedSimpArgs false
set_option linter.unusedVariables false
namespace Go.Proofs.YtiddhcabpmkolaaGreatDoor

set_option maxRecDepth 100000

/-- A key, and what is there. -/
abbrev En (α : Type) := ByteArray × α
def kb (k : ByteArray) : List UInt8 := k.data.toList
theorem kb_inj {a b : ByteArray} : kb a = kb b ↔ a = b := by
  refine ⟨fun h => ?_, fun h => by rw [h]⟩
  cases a; cases b
  simp only [kb] at h
  rw [Array.toList_inj.1 h]
/-- How two texts stand to each other, and what Compare says of it. -/
theorem cmp_tri : ∀ a b : List UInt8, (a < b ∧ Lib.compareBytes a b = -1) ∨ (a = b ∧ Lib.compareBytes a b = 0) ∨ (b < a ∧ Lib.compareBytes a b = 1)
  | [], [] => .inr (.inl ⟨rfl, rfl⟩)
  | [], y :: b => .inl ⟨by simp, rfl⟩
  | x :: a, [] => .inr (.inr ⟨by simp, rfl⟩)
  | x :: a, y :: b => by
    have ih := cmp_tri a b
    simp only [List.cons_lt_cons_iff, Lib.compareBytes]
    by_cases h1 : x < y
    · exact .inl ⟨.inl h1, by rw [if_pos h1]⟩
    · by_cases h2 : y < x
      · exact .inr (.inr ⟨.inl h2, by rw [if_neg h1, if_pos h2]⟩)
      · have e : x = y := by
          rw [UInt8.lt_iff_toNat_lt] at h1 h2
          exact UInt8.toNat_inj.1 (by omega)
        subst e
        rw [if_neg h1, if_neg h1]
        rcases ih with ⟨h, e⟩ | ⟨h, e⟩ | ⟨h, e⟩
        · exact .inl ⟨.inr ⟨rfl, h⟩, e⟩
        · exact .inr (.inl ⟨by rw [h], e⟩)
        · exact .inr (.inr ⟨.inr ⟨rfl, h⟩, e⟩)
theorem lt_irr (a : List UInt8) : ¬ a < a := List.lt_irrefl a
theorem lt_tr {a b c : List UInt8} (h : a < b) (k : b < c) : a < c := List.lt_trans h k
theorem lt_asym {a b : List UInt8} (h : a < b) (k : b < a) : False := lt_irr a (lt_tr h k)
theorem le_tr {a b c : List UInt8} (h : ¬ b < a) (k : ¬ c < b) : ¬ c < a := fun hc => by
  rcases cmp_tri a b with ⟨h1, _⟩ | ⟨h1, _⟩ | ⟨h1, _⟩
  · exact k (lt_tr hc h1)
  · subst h1; exact k hc
  · exact h h1
theorem cmp_lt (a b : List UInt8) : (Lib.compareBytes a b < 0) ↔ a < b := by
  rcases cmp_tri a b with ⟨h, e⟩ | ⟨h, e⟩ | ⟨h, e⟩
  · rw [e]; exact ⟨fun _ => h, fun _ => by decide⟩
  · rw [e]; subst h; exact ⟨fun h => absurd h (by decide), fun h => absurd h (lt_irr _)⟩
  · rw [e]; exact ⟨fun h => absurd h (by decide), fun h' => (lt_asym h h').elim⟩
theorem cmp_eq0 (a b : List UInt8) : (Lib.compareBytes a b = 0) ↔ a = b := by
  rcases cmp_tri a b with ⟨h, e⟩ | ⟨h, e⟩ | ⟨h, e⟩
  · rw [e]; exact ⟨fun h => absurd h (by decide), fun h' => by subst h'; exact absurd h (lt_irr _)⟩
  · rw [e]; exact ⟨fun _ => h, fun _ => rfl⟩
  · rw [e]; exact ⟨fun h => absurd h (by decide), fun h' => by subst h'; exact absurd h (lt_irr _)⟩

section
variable {α : Type}
def Rises (es : List (En α)) : Prop := es.Pairwise fun a b => kb a.1 < kb b.1
theorem Rises.get {es : List (En α)} (h : Rises es) {i j : Nat} {a b : En α} (hij : i < j) (ha : es[i]? = some a) (hb : es[j]? = some b) : kb a.1 < kb b.1 := by
  obtain ⟨hi, rfl⟩ := List.getElem?_eq_some_iff.1 ha
  obtain ⟨hj, rfl⟩ := List.getElem?_eq_some_iff.1 hb
  exact List.pairwise_iff_getElem.1 h i j hi hj hij
/-- The place of a key; is it there? -/
def low (es : List (En α)) (t : List UInt8) : Nat := (es.takeWhile fun e => decide (kb e.1 < t)).length
def has (es : List (En α)) (t : List UInt8) : Bool := match es[low es t]? with | some e => kb e.1 == t | none => false
theorem low_le (es : List (En α)) (t : List UInt8) : low es t ≤ es.length := by
  unfold low
  have := (List.takeWhile_sublist (l := es) (fun e => decide (kb e.1 < t))).length_le
  exact this
theorem low_of {t : List UInt8} : ∀ (es : List (En α)) (i : Nat), i ≤ es.length → (∀ p e, p < i → es[p]? = some e → kb e.1 < t) → (∀ e, es[i]? = some e → ¬ kb e.1 < t) → low es t = i
  | [], i, h, _, _ => by simp at h; subst h; rfl
  | e :: es, 0, _, _, h2 => by
    have := h2 e rfl
    simp [low, this]
  | e :: es, i + 1, h, h1, h2 => by
    have he := h1 0 e (by omega) rfl
    have ih := low_of es i (by simpa using h) (fun p x hp hx => h1 (p + 1) x (by omega) (by simpa using hx)) (fun x hx => h2 x (by simpa using hx))
    unfold low at ih ⊢
    rw [List.takeWhile_cons_of_pos (by simpa using he), List.length_cons, ih]
theorem low_before {t : List UInt8} : ∀ {es : List (En α)} {p : Nat} {e : En α}, p < low es t → es[p]? = some e → kb e.1 < t
  | [], p, e, _, h => by simp at h
  | x :: es, p, e, hp, h => by
    unfold low at hp
    by_cases hx : kb x.1 < t
    · rw [List.takeWhile_cons_of_pos (by simpa using hx), List.length_cons] at hp
      cases p with
      | zero => simp at h; subst h; exact hx
      | succ p => exact low_before (es := es) (p := p) (by unfold low; omega) (by simpa using h)
    · rw [List.takeWhile_cons_of_neg (by simpa using hx)] at hp
      simp at hp
theorem low_at {es : List (En α)} {t : List UInt8} {e : En α} (h : es[low es t]? = some e) : ¬ kb e.1 < t := by
  intro hlt
  induction es with
  | nil => simp at h
  | cons x es ih =>
    unfold low at h ih
    by_cases hx : kb x.1 < t
    · rw [List.takeWhile_cons_of_pos (by simpa using hx), List.length_cons, List.getElem?_cons_succ] at h
      exact ih h
    · rw [List.takeWhile_cons_of_neg (by simpa using hx)] at h
      simp at h
      subst h
      exact hx hlt
theorem Rises.below {es : List (En α)} (h : Rises es) {t : List UInt8} {m : Nat} {e : En α} (hm : es[m]? = some e) (he : kb e.1 < t) : ∀ p x, p < m + 1 → es[p]? = some x → kb x.1 < t := fun p x hp hx => by
  by_cases c : p = m
  · subst c; rw [hm] at hx; injection hx with hx; subst hx; exact he
  · exact lt_tr (h.get (by omega) hx hm) he
theorem Rises.above {es : List (En α)} (h : Rises es) {t : List UInt8} {m : Nat} {e : En α} (hm : es[m]? = some e) (he : ¬ kb e.1 < t) : ∀ p x, m ≤ p → es[p]? = some x → ¬ kb x.1 < t := fun p x hp hx => by
  by_cases c : p = m
  · subst c; rw [hm] at hx; injection hx with hx; subst hx; exact he
  · exact fun hlt => he (lt_tr (h.get (by omega) hm hx) hlt)
end
end Go.Proofs.YtiddhcabpmkolaaGreatDoor
set_option linter.unusedSimpArgs false
set_option linter.unusedVariables false
namespace Go.Proofs.YtiddhcabpmkolaaGreatDoor

set_option maxRecDepth 100000

section
variable {α : Type}
def insE (es : List (En α)) (i : Nat) (e : En α) : List (En α) := es.take i ++ [e] ++ es.drop i
theorem insE_length (es : List (En α)) (i : Nat) (e : En α) : (insE es i e).length = es.length + 1 := by
  simp [insE]; omega
def putE (es : List (En α)) (k : ByteArray) (v : α) : List (En α) := if has es (kb k) = true then es.modify (low es (kb k)) (fun e => (e.1, v)) else insE es (low es (kb k)) (k, v)
def delE (es : List (En α)) (t : List UInt8) : List (En α) := if has es t = true then es.eraseIdx (low es t) else es
theorem putE_le (es : List (En α)) (k : ByteArray) (v : α) : (putE es k v).length ≤ es.length + 1 := by
  unfold putE
  split
  · simp
  · rw [insE_length]; exact Nat.le_refl _
theorem rises_keys {es fs : List (En α)} (h : es.map (fun e => kb e.1) = fs.map (fun e => kb e.1)) (hr : Rises es) : Rises fs := by
  unfold Rises at *
  rw [← List.pairwise_map (f := fun e : En α => kb e.1) (R := (· < ·))] at hr ⊢
  rwa [← h]
theorem has_not {es : List (En α)} {t : List UInt8} (h : has es t = false) {e : En α} (he : es[low es t]? = some e) : t < kb e.1 := by
  unfold has at h
  rw [he] at h
  simp only [beq_eq_false_iff_ne, ne_eq] at h
  rcases cmp_tri (kb e.1) t with ⟨h1, _⟩ | ⟨h1, _⟩ | ⟨h1, _⟩
  · exact absurd h1 (low_at he)
  · exact absurd h1 h
  · exact h1
theorem rises_put {es : List (En α)} (hr : Rises es) (k : ByteArray) (v : α) : Rises (putE es k v) := by
  unfold putE
  split
  · refine rises_keys ?_ hr
    apply List.ext_getElem?
    intro j
    simp only [List.getElem?_map, List.getElem?_modify]
    split
    · cases es[j]? <;> simp
    · cases es[j]? <;> simp
  · rename_i hn
    have hn : has es (kb k) = false := by simpa using hn
    have hp : Rises es := hr
    unfold Rises at hr ⊢
    unfold insE
    have hsplit : es = es.take (low es (kb k)) ++ es.drop (low es (kb k)) := (List.take_append_drop _ _).symm
    have hr2 := hr
    rw [hsplit, List.pairwise_append] at hr2
    rw [List.append_assoc, List.pairwise_append]
    refine ⟨hr2.1, ?_, ?_⟩
    · rw [List.singleton_append, List.pairwise_cons]
      refine ⟨fun a ha => ?_, hr2.2.1⟩
      obtain ⟨j, hj⟩ := List.getElem?_of_mem ha
      rw [List.getElem?_drop] at hj
      cases hl : es[low es (kb k)]? with
      | none =>
        have := List.getElem?_eq_none_iff.1 hl
        rw [List.getElem?_eq_none (by omega)] at hj
        cases hj
      | some e0 =>
        have h0 := has_not hn hl
        by_cases hj0 : j = 0
        · subst hj0
          rw [Nat.add_zero, hl] at hj
          injection hj with hj
          subst hj
          exact h0
        · exact lt_tr h0 (hp.get (by omega) hl hj)
    · intro a ha b hb
      rw [List.singleton_append, List.mem_cons] at hb
      rcases hb with rfl | hb
      · obtain ⟨j, hj⟩ := List.getElem?_of_mem ha
        rw [List.getElem?_take] at hj
        split at hj
        · exact low_before (by assumption) hj
        · cases hj
      · exact hr2.2.2 a ha b hb
theorem rises_del {es : List (En α)} (hr : Rises es) (t : List UInt8) : Rises (delE es t) := by
  unfold delE
  split
  · exact List.Pairwise.sublist (List.eraseIdx_sublist _ _) hr
  · exact hr
end
end Go.Proofs.YtiddhcabpmkolaaGreatDoor
