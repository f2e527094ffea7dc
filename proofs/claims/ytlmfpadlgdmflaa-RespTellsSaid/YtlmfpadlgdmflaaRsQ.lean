/-
   Answers: what is laid is read as it was.
-/
import Derived.Test.YtlmfpadlgdmflaaRsP
set_option linter.unusedSimpArgs false
set_option linter.unusedVariables false
namespace Go.Proofs.Ytlmfpadlgdmflaa

set_option maxRecDepth 100000

theorem drop_more {D x r : List UInt8} {p : Nat} (h : D.drop p = x ++ r) : D.drop (p + x.length) = r := by
  rw [← List.drop_drop, h, List.drop_left]
theorem numD_lay {D : List UInt8} {p : Nat} {n m : Int} {r : List UInt8} (h0 : 0 ≤ n) (h1 : n ≤ 9223372036854775807) (hm : n ≤ m) (h : D.drop p = Pk.num n ++ r) : numD (⟨D, p, 0⟩, false) m = (n, (⟨D, p + (Pk.num n).length, 0⟩, false)) := by
  have e := Pk.num_read D p n r h0 h1 h
  unfold numD
  simp only [e, Bool.false_or]
  rw [decide_eq_false (by omega)]
theorem tokD_lay {D : List UInt8} {p : Nat} {n : Int} {r : List UInt8} (h0 : 0 ≤ n) (h1 : n ≤ 9223372036854775807) (h : D.drop p = Pk.num n ++ r) : tokD (⟨D, p, 0⟩, false) = (n, (⟨D, p + (Pk.num n).length, 0⟩, false)) := by
  have e := Pk.num_read D p n r h0 h1 h
  unfold tokD
  simp only [e]
theorem txtD_lay {D : List UInt8} {p : Nat} {s r : List UInt8} (h0 : s.length ≤ 20000) (h : D.drop p = Pk.text s ++ r) : txtD (⟨D, p, 0⟩, false) = (s, (⟨D, p + (Pk.text s).length, 0⟩, false)) := by
  have e := Pk.text_read D p s r 20000 (by omega) (by omega) h
  unfold txtD
  simp only [e]
theorem bit_eq (b : Bool) : (bitI b == 1) = b := by cases b <;> rfl
theorem size_toList (s : ByteArray) : s.data.toList.length = s.size := by rw [Array.length_toList]; rfl
theorem back_bytes (s : ByteArray) : (⟨s.data.toList.toArray⟩ : ByteArray) = s := by simp

def ItOk (i : It) : Prop := 0 ≤ i.ver ∧ i.ver ≤ 9223372036854775807 ∧ i.uid.size ≤ 20000 ∧ i.card.size ≤ 20000
theorem itemD_lay {D : List UInt8} {p : Nat} {i : It} {r : List UInt8} (ok : ItOk i) (h : D.drop p = layIt i ++ r) : itemD (⟨D, p, 0⟩, false) = (i, (⟨D, p + (layIt i).length, 0⟩, false)) := by
  obtain ⟨o1, o2, o3, o4⟩ := ok
  have hb := bitI_01 i.gone
  have d1 : D.drop p = Pk.text i.uid.data.toList ++ (Pk.num i.ver ++ (Pk.num (bitI i.gone) ++ (Pk.text i.card.data.toList ++ r))) := by rw [h]; simp [layIt]
  have d2 := drop_more d1
  have d3 := drop_more d2
  have d4 := drop_more d3
  have e1 := txtD_lay (by rw [size_toList]; exact o3) d1
  have e2 := tokD_lay o1 o2 d2
  have e3 := numD_lay (m := 1) hb.1 (by omega) hb.2 d3
  have e4 := txtD_lay (by rw [size_toList]; exact o4) d4
  unfold itemD
  simp only [e1, e2, e3, e4, bit_eq, back_bytes]
  simp only [layIt, List.length_append, Nat.add_assoc]
theorem itemsD_lay {D r : List UInt8} : ∀ (xs : List It) (k p : Nat), D.drop p = xs.flatMap layIt ++ r → xs.length ≤ k → (∀ i ∈ xs, ItOk i) → itemsD k xs.length (⟨D, p, 0⟩, false) = (xs, (⟨D, p + (xs.flatMap layIt).length, 0⟩, false))
  | [], k, p, _, _, _ => by
    rw [itemsD_stop _ _ _ (by simp)]
    simp
  | i :: xs, 0, p, _, hk, _ => by simp at hk
  | i :: xs, k + 1, p, h, hk, ok => by
    have h' : D.drop p = layIt i ++ (xs.flatMap layIt ++ r) := by rw [h]; simp
    have e := itemD_lay (ok i (List.mem_cons_self ..)) h'
    rw [itemsD_go _ _ _ ⟨by simp <;> omega, rfl, rfl⟩, e]
    have hm : (((i :: xs).length : Nat) : Int) - 1 = (xs.length : Int) := by simp <;> omega
    have ih := itemsD_lay xs k (p + (layIt i).length) (drop_more h') (by simpa using hk) (fun j hj => ok j (List.mem_cons_of_mem _ hj))
    simp only [hm, ih, List.flatMap_cons, List.length_append, Nat.add_assoc]
theorem layIt_pos (i : It) : 1 ≤ (layIt i).length := by
  have := Pk.num_pos (i.uid.data.toList.length : Int) (by omega)
  simp only [layIt, Pk.text, List.length_append]
  omega
theorem layIts_pos (xs : List It) : xs.length ≤ (xs.flatMap layIt).length := by
  induction xs with
  | nil => simp
  | cons i xs ih =>
    have := layIt_pos i
    simp only [List.flatMap_cons, List.length_append, List.length_cons]
    omega

/-- What is laid is read as it was. -/
theorem decode_lay {a : Rs} (hc : checkR a = 0) (hv : ∀ i ∈ a.items, i.ver ≤ 9223372036854775807) (ht : a.token ≤ 9223372036854775807) (hw : a.version ≤ 9223372036854775807) : decodeR (128 + a.kind) (lay a) = (a, 0) := by
  obtain ⟨q1, q2, q3, q4, q5⟩ := check_zero hc
  unfold HeadOk at q1
  obtain ⟨k0, k1, e0, e1, t0, v0, i0, i1, n0⟩ := q1
  have hb := bitI_01 a.more
  have d1 : (lay a).drop 0 = Pk.num a.err ++ (Pk.num a.token ++ (Pk.num a.version ++ (Pk.text a.card.data.toList ++ (Pk.num a.index ++ (Pk.num (bitI a.more) ++ (Pk.num (a.items.length : Int) ++ (a.items.flatMap layIt ++ []))))))) := by simp [lay, layHead]
  have d2 := drop_more d1
  have d3 := drop_more d2
  have d4 := drop_more d3
  have d5 := drop_more d4
  have d6 := drop_more d5
  have d7 := drop_more d6
  have d8 := drop_more d7
  have s1 := numD_lay (m := most32) e0 (by omega) (by show _ ≤ (2147483647 : Int); omega) d1
  have s2 := tokD_lay t0 ht d2
  have s3 := tokD_lay v0 hw d3
  have s4 := txtD_lay (by rw [size_toList]; omega) d4
  have s5 := numD_lay (m := most32) i0 (by omega) (by show _ ≤ (2147483647 : Int); omega) d5
  have s6 := numD_lay (m := 1) hb.1 (by omega) hb.2 d6
  have s7 := numD_lay (m := most32) (n := (a.items.length : Int)) (by omega) (by omega) (by show _ ≤ (2147483647 : Int); omega) d7
  have hlen : a.items.length ≤ (lay a).length + 2 := by
    have := layIts_pos a.items
    simp only [lay, List.length_append]
    omega
  have s8 := itemsD_lay a.items ((lay a).length + 2) _ d8 hlen (fun i hi => ⟨q2 i hi, hv i hi, by have := q4 i hi; omega, by have := q4 i hi; omega⟩)
  have hend := drop_more d8
  have hle := List.drop_eq_nil_iff.1 hend
  obtain ⟨Q, hx, hQ⟩ : ∃ Q, (stepsD (lay a)).x = (a.items, (⟨lay a, Q, 0⟩, false)) ∧ (lay a).length ≤ Q := ⟨_, by
    simp only [stepsD, s1, s2, s3, s4, s5, s6, s7]
    exact s8, hle⟩
  have hr : (stepsD (lay a)).rs (128 + a.kind - 128) = a := by
    have hk : 128 + a.kind - 128 = a.kind := by omega
    simp only [Steps.rs, hx]
    simp only [stepsD, s1, s2, s3, s4, s5, s6, s7, back_bytes, bit_eq, hk]
  unfold decodeR
  rw [if_neg (by omega), if_neg ?_, hr, if_neg (by simpa using hc)]
  rw [hx]
  simp only [Pk.St.left]
  rintro (h | h | h)
  · cases h
  · exact h rfl
  · omega
end Go.Proofs.Ytlmfpadlgdmflaa
