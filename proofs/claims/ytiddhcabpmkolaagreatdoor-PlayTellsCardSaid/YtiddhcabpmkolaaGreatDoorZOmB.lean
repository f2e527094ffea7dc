/-
  What is in a map; what begins with a text.
-/
import Derived.Sort.Walk0
import Derived.RangeFuncCalls
import Derived.Test.YtiddhcabpmkolaaGreatDoorZOmP
import Derived.Test.YtiddhcabpmkolaaGreatDoorZStr
set_option linter.unusedSimpArgs false
set_option linter.unusedVariables false
namespace Go.Proofs.YtiddhcabpmkolaaGreatDoor

set_option maxRecDepth 100000

/-- What is at a key. -/
def valAt {α : Type} (es : List (En α)) (t : List UInt8) : Option α := match es[low es t]? with | some e => if kb e.1 = t then some e.2 else none | none => none
theorem has_val {α : Type} (es : List (En α)) (t : List UInt8) : has es t = (valAt es t).isSome := by
  unfold has valAt
  cases es[low es t]? with
  | none => rfl
  | some e =>
    simp only
    by_cases h : kb e.1 = t
    · rw [if_pos h]; simp [h]
    · rw [if_neg h]; simp [h]

section
variable {α : Type}
def underE (es : List (En α)) (t : List UInt8) : List (En α) := (es.drop (low es t)).takeWhile (fun e => Lib.hasPrefix (kb e.1) t)
def encE (enc : α → Value) (e : En α) : Array Value := #[.string e.1, enc e.2]
theorem takeWhile_all {α : Type} {p : α → Bool} : ∀ (l : List α) (m : Nat), m ≤ l.length → (∀ j e, j < m → l[j]? = some e → p e = true) → (∀ e, l[m]? = some e → p e = false) → l.takeWhile p = l.take m
  | [], m, h, _, _ => by simp
  | x :: l, 0, _, _, h2 => by
    rw [List.takeWhile_cons_of_neg (by rw [h2 x rfl]; simp)]
    rfl
  | x :: l, m + 1, h, h1, h2 => by
    rw [List.takeWhile_cons_of_pos (h1 0 x (by omega) rfl), List.take_succ_cons, takeWhile_all l m (by simpa using h) (fun j e hj he => h1 (j + 1) e (by omega) (by simpa using he)) (fun e he => h2 e (by simpa using he))]
theorem take_prefix {α : Type} {p : α → Bool} : ∀ (l : List α) (m : Nat), (∀ j e, j < m → l[j]? = some e → p e = true) → l.take m <+: l.takeWhile p
  | [], m, _ => by simp
  | x :: l, 0, _ => by simp
  | x :: l, m + 1, h1 => by
    rw [List.takeWhile_cons_of_pos (h1 0 x (by omega) rfl), List.take_succ_cons, List.prefix_cons_inj]
    exact take_prefix l m (fun j e hj he => h1 (j + 1) e (by omega) (by simpa using he))
end
theorem str_lt (a b : ByteArray) : Op.bytesLess a.toList b.toList = decide (kb a < kb b) := by
  rw [Go.Lib.toList_data, Go.Lib.toList_data, bytesLess_eq]
  rfl
section
variable {α : Type}
theorem low_mem {es : List (En α)} (hr : Rises es) {i : Nat} {e : En α} (h : es[i]? = some e) : low es (kb e.1) = i :=
  low_of es i (Nat.le_of_lt (List.getElem?_eq_some_iff.1 h).1) (fun _ _ hp hx => hr.get hp hx h) (fun e' he' => by rw [h] at he'; injection he' with he'; subst he'; exact lt_irr _)
theorem has_iff {es : List (En α)} (hr : Rises es) (t : List UInt8) : has es t = true ↔ ∃ e ∈ es, kb e.1 = t := by
  constructor
  · intro h
    unfold has at h
    cases hl : es[low es t]? with
    | none => rw [hl] at h; cases h
    | some e => rw [hl] at h; exact ⟨e, List.mem_of_getElem? hl, by simpa using h⟩
  · rintro ⟨e, he, rfl⟩
    obtain ⟨i, hi⟩ := List.getElem?_of_mem he
    unfold has
    rw [low_mem hr hi, hi]
    simp
theorem val_mem {es : List (En α)} (hr : Rises es) {i : Nat} {e : En α} (h : es[i]? = some e) : valAt es (kb e.1) = some e.2 := by
  unfold valAt
  rw [low_mem hr h, h]
  simp
theorem put_mem {es : List (En α)} (k : ByteArray) (v : α) : (∃ e ∈ putE es k v, kb e.1 = kb k) ∧ ∀ t, (∃ e ∈ es, kb e.1 = t) → ∃ e ∈ putE es k v, kb e.1 = t := by
  unfold putE
  split
  · rename_i hh
    have key : ∀ t, (∃ e ∈ es, kb e.1 = t) → ∃ e ∈ es.modify (low es (kb k)) (fun e => (e.1, v)), kb e.1 = t := by
      rintro t ⟨e, he, rfl⟩
      obtain ⟨i, hi⟩ := List.getElem?_of_mem he
      by_cases h : low es (kb k) = i
      · exact ⟨(e.1, v), List.mem_of_getElem? (i := i) (by rw [List.getElem?_modify, hi]; simp [h]), rfl⟩
      · exact ⟨e, List.mem_of_getElem? (i := i) (by rw [List.getElem?_modify, hi]; simp [h]), rfl⟩
    refine ⟨key _ ?_, key⟩
    unfold has at hh
    cases hl : es[low es (kb k)]? with
    | none => rw [hl] at hh; cases hh
    | some e => rw [hl] at hh; exact ⟨e, List.mem_of_getElem? hl, by simpa using hh⟩
  · refine ⟨⟨(k, v), by simp [insE], rfl⟩, ?_⟩
    rintro t ⟨e, he, rfl⟩
    refine ⟨e, ?_, rfl⟩
    rw [← List.take_append_drop (low es (kb k)) es] at he
    simp only [insE, List.mem_append] at he ⊢
    rcases he with h | h
    · exact .inl (.inl h)
    · exact .inr h
end
def plc (ks : List ByteArray) (t : ByteArray) : Nat := (ks.takeWhile fun x => decide (kb x < kb t)).length
def inn (ks : List ByteArray) (t : ByteArray) : Bool := match ks[plc ks t]? with | some x => decide (x = t) | none => false
theorem plc_low {α : Type} (es : List (En α)) (t : ByteArray) : plc (es.map Prod.fst) t = low es (kb t) := by
  unfold plc low
  rw [List.takeWhile_map, List.length_map]
  rfl
theorem inn_has {α : Type} (es : List (En α)) (t : ByteArray) : inn (es.map Prod.fst) t = has es (kb t) := by
  unfold inn has
  rw [plc_low, List.getElem?_map]
  cases es[low es (kb t)]? with
  | none => rfl
  | some e =>
    simp only [Option.map_some]
    by_cases h : e.1 = t
    · subst h; simp
    · have : ¬ kb e.1 = kb t := fun hh => h (kb_inj.1 hh)
      simp [h, this]
theorem plc_le (ks : List ByteArray) (t : ByteArray) : plc ks t ≤ ks.length := by
  unfold plc
  have := (List.takeWhile_sublist (l := ks) (fun x => decide (kb x < kb t))).length_le
  exact this
theorem plc_of {t : ByteArray} : ∀ (ks : List ByteArray) (i : Nat), i ≤ ks.length → (∀ p x, p < i → ks[p]? = some x → kb x < kb t) → (∀ x, ks[i]? = some x → ¬ kb x < kb t) → plc ks t = i
  | [], i, h, _, _ => by simp at h; subst h; rfl
  | e :: es, 0, _, _, h2 => by
    have := h2 e rfl
    simp [plc, this]
  | e :: es, i + 1, h, h1, h2 => by
    have he := h1 0 e (by omega) rfl
    have ih := plc_of es i (by simpa using h) (fun p x hp hx => h1 (p + 1) x (by omega) (by simpa using hx)) (fun x hx => h2 x (by simpa using hx))
    unfold plc at ih ⊢
    rw [List.takeWhile_cons_of_pos (by simpa using he), List.length_cons, ih]
theorem hp_cons (x y : UInt8) (p b : List UInt8) : Lib.hasPrefix (y :: b) (x :: p) = (x == y && Lib.hasPrefix b p) := by
  simp [Lib.hasPrefix, List.isPrefixOf]
theorem hp_nil (b : List UInt8) : Lib.hasPrefix b [] = true := by simp [Lib.hasPrefix]
section
variable {α : Type}
theorem pre_mid : ∀ p a b : List UInt8, ¬ a < p → a < b → Lib.hasPrefix b p = true → Lib.hasPrefix a p = true
  | [], a, b, _, _, _ => hp_nil a
  | x :: p, a, [], _, _, hb => by simp [Lib.hasPrefix] at hb
  | x :: p, [], y :: b, h, _, _ => absurd (by simp) h
  | x :: p, z :: a, y :: b, h1, h2, hb => by
    simp only [hp_cons, Bool.and_eq_true, beq_iff_eq] at hb ⊢
    rw [List.cons_lt_cons_iff] at h1 h2
    obtain ⟨rfl, hb⟩ := hb
    have hz : z = x := by
      rcases h2 with h2 | ⟨h2, _⟩
      · exact absurd (.inl h2) h1
      · exact h2
    subst hz
    refine ⟨rfl, pre_mid p a b (fun h => h1 (.inr ⟨rfl, h⟩)) ?_ hb⟩
    rcases h2 with h2 | ⟨_, h2⟩
    · exact absurd h2 (by rw [UInt8.lt_iff_toNat_lt]; omega)
    · exact h2
theorem pre_not : ∀ p a : List UInt8, a < p → Lib.hasPrefix a p = false
  | [], a, h => by cases a <;> simp at h
  | x :: p, [], _ => by simp [Lib.hasPrefix]
  | x :: p, z :: a, h => by
    rw [List.cons_lt_cons_iff] at h
    simp only [hp_cons, Bool.and_eq_false_iff]
    rcases h with h | ⟨rfl, h⟩
    · left
      simp only [beq_eq_false_iff_ne, ne_eq]
      rintro rfl
      rw [UInt8.lt_iff_toNat_lt] at h
      omega
    · exact .inr (pre_not p a h)
theorem takeWhile_filter {β : Type} (q : β → Bool) : ∀ l : List β, (l.Pairwise fun a b => q b = true → q a = true) → l.takeWhile q = l.filter q
  | [], _ => rfl
  | a :: l, h => by
    rw [List.pairwise_cons] at h
    cases ha : q a with
    | true => rw [List.takeWhile_cons_of_pos ha, List.filter_cons_of_pos ha, takeWhile_filter q l h.2]
    | false =>
      rw [List.takeWhile_cons_of_neg (by simp [ha]), List.filter_cons_of_neg (by simp [ha])]
      symm
      rw [List.filter_eq_nil_iff]
      intro b hb hq
      rw [h.1 b hb hq] at ha
      cases ha
theorem under_filter {es : List (En α)} (hr : Rises es) (t : List UInt8) : underE es t = es.filter (fun e => Lib.hasPrefix (kb e.1) t) := by
  have h0 : es.filter (fun e => Lib.hasPrefix (kb e.1) t) = (es.take (low es t)).filter (fun e => Lib.hasPrefix (kb e.1) t) ++ (es.drop (low es t)).filter (fun e => Lib.hasPrefix (kb e.1) t) := by
    rw [← List.filter_append, List.take_append_drop]
  have h1 : (es.take (low es t)).filter (fun e => Lib.hasPrefix (kb e.1) t) = [] := by
    rw [List.filter_eq_nil_iff]
    intro e he
    obtain ⟨j, hj⟩ := List.getElem?_of_mem he
    rw [List.getElem?_take] at hj
    split at hj
    · rw [pre_not _ _ (low_before (by assumption) hj)]; simp
    · cases hj
  rw [h0, h1, List.nil_append]
  unfold underE
  refine takeWhile_filter _ _ ?_
  rw [List.pairwise_iff_getElem]
  intro i j hi hj hij hq
  have hgi : es[low es t + i]? = some (es.drop (low es t))[i] := by rw [← List.getElem?_drop, List.getElem?_eq_getElem hi]
  have hgj : es[low es t + j]? = some (es.drop (low es t))[j] := by rw [← List.getElem?_drop, List.getElem?_eq_getElem hj]
  refine pre_mid _ _ _ ?_ (hr.get (by omega) hgi hgj) hq
  intro hlt
  cases hl : es[low es t]? with
  | none =>
    have := List.getElem?_eq_none_iff.1 hl
    rw [List.getElem?_eq_none (by omega)] at hgi
    cases hgi
  | some e0 =>
    exact hr.above hl (low_at hl) _ _ (by omega) hgi hlt
end
end Go.Proofs.YtiddhcabpmkolaaGreatDoor
