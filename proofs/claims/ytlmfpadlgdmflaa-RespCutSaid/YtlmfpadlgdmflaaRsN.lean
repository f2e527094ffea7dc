/-
   Answers cut off, or with one byte more, say nothing.
-/
import Derived.Test.YtlmfpadlgdmflaaRsQ
set_option linter.unusedSimpArgs false
set_option linter.unusedVariables false
namespace Go.Proofs.Ytlmfpadlgdmflaa

set_option maxRecDepth 100000

theorem txt20_len (s : Pk.St) : (s.text 20000).1.length ≤ 20000 := by
  unfold Pk.St.text
  split
  · simp
  · rcases Pk.front_ways (s.l.drop s.at_) with ⟨e, hf, hee⟩ | ⟨n, k, hf, hn0, hn1, hk0, hk1⟩
    · simp only [hf]
      rw [if_pos (by omega)]
      simp
    · simp only [hf]
      rw [if_neg (by simp)]
      split
      · simp
      · split
        · simp
        · simp only [List.length_take, List.length_drop]
          omega
theorem txtD_len (d : Dr) : (txtD d).1.length ≤ 20000 := txt20_len d.1
theorem mk_len (l : List UInt8) : (ByteArray.mk l.toArray).size = l.length := by show l.toArray.size = _; simp
theorem itemD_ok (d : Dr) : ItOk (itemD d).1 := by
  refine ⟨(tokD_fits _).1, (tokD_fits _).2, ?_, ?_⟩
  · simp only [itemD, mk_len]; exact txtD_len _
  · simp only [itemD, mk_len]; exact txtD_len _
theorem itemsD_ok : ∀ (k : Nat) (m : Int) (d : Dr), ∀ i ∈ (itemsD k m d).1, ItOk i
  | 0, _, _, i, hi => by cases hi
  | k + 1, m, d, i, hi => by
    unfold itemsD at hi
    split at hi
    · simp only [List.mem_cons] at hi
      rcases hi with rfl | hi
      · exact itemD_ok _
      · exact itemsD_ok k _ _ i hi
    · cases hi

/-- Fields that can be laid and read. -/
structure FOk' (r : Rs) : Prop where
  e : 0 ≤ r.err ∧ r.err ≤ 2147483647
  t : 0 ≤ r.token ∧ r.token ≤ 9223372036854775807
  v : 0 ≤ r.version ∧ r.version ≤ 9223372036854775807
  c : r.card.size ≤ 20000
  i : 0 ≤ r.index ∧ r.index ≤ 2147483647
  n : (r.items.length : Int) ≤ 2147483647
  x : ∀ i ∈ r.items, ItOk i

def goodD (l : List UInt8) : Prop := (stepsD l).x.2.2 = false ∧ (stepsD l).x.2.1.err = 0 ∧ (stepsD l).x.2.1.left ≤ 0
theorem steps_canon {l : List UInt8} (kind : Int) (hb : goodD l) : lay ((stepsD l).rs kind) = l ∧ FOk' ((stepsD l).rs kind) := by
  obtain ⟨b1, b2, b3⟩ := hb
  have w0 : Within (⟨l, 0, 0⟩, false) := Nat.zero_le _
  have w1 := numD_within _ most32 w0
  have w2 := tokD_within _ w1
  have w3 := tokD_within _ w2
  have w4 := txtD_within _ w3
  have w5 := numD_within _ most32 w4
  have w6 := numD_within _ 1 w5
  have w7 := numD_within _ most32 w6
  have o1 := numD_on (⟨l, 0, 0⟩, false) most32
  have o2 := o1.trans (tokD_on _)
  have o3 := o2.trans (tokD_on _)
  have o4 := o3.trans (txtD_on _)
  have o5 := o4.trans (numD_on _ most32)
  have o6 := o5.trans (numD_on _ 1)
  have o7 := o6.trans (numD_on _ most32)
  have f7 := numD_fits (stepsD l).m.2 most32
  obtain ⟨i1, i2, i3, i4⟩ := itemsD_canon (l.length + 2) (stepsD l).n.1 (stepsD l).n.2 f7.1 w7 (fun _ => by have := o7.1; show (stepsD l).n.2.1.l.length - _ + 1 ≤ _; rw [show (stepsD l).n.2.1.l = l from this]; omega) b2 b1
  have e6 : (stepsD l).m.2.1.err = 0 := ((numD_on _ most32).2.2 i3).1
  have e5 : (stepsD l).i.2.1.err = 0 := ((numD_on _ 1).2.2 e6).1
  have e4 : (stepsD l).c.2.1.err = 0 := ((numD_on _ most32).2.2 e5).1
  have e3 : (stepsD l).v.2.1.err = 0 := ((txtD_on _).2.2 e4).1
  have e2 : (stepsD l).t.2.1.err = 0 := ((tokD_on _).2.2 e3).1
  have e1 : (stepsD l).e.2.1.err = 0 := ((tokD_on _).2.2 e2).1
  have g7 := numD_bad (stepsD l).m.2 most32 i4
  have g6 := numD_bad (stepsD l).i.2 1 g7.1
  have g5 := numD_bad (stepsD l).c.2 most32 g6.1
  have g1 := numD_bad (⟨l, 0, 0⟩, false) most32 (show (stepsD l).e.2.2 = false from g5.1)
  have c0 : l = restD (⟨l, 0, 0⟩, false) := rfl
  have c1 : restD (⟨l, 0, 0⟩, false) = Pk.num (stepsD l).e.1 ++ restD (stepsD l).e.2 := numD_canon _ most32 e1
  have c2 : restD (stepsD l).e.2 = Pk.num (stepsD l).t.1 ++ restD (stepsD l).t.2 := tokD_canon _ e2
  have c3 : restD (stepsD l).t.2 = Pk.num (stepsD l).v.1 ++ restD (stepsD l).v.2 := tokD_canon _ e3
  have c4 : restD (stepsD l).v.2 = Pk.text (stepsD l).c.1 ++ restD (stepsD l).c.2 := txtD_canon _ e4
  have c5 : restD (stepsD l).c.2 = Pk.num (stepsD l).i.1 ++ restD (stepsD l).i.2 := numD_canon _ most32 e5
  have c6 : restD (stepsD l).i.2 = Pk.num (stepsD l).m.1 ++ restD (stepsD l).m.2 := numD_canon _ 1 e6
  have c7 : restD (stepsD l).m.2 = Pk.num (stepsD l).n.1 ++ restD (stepsD l).n.2 := numD_canon _ most32 i3
  have c8 : restD (stepsD l).x.2 = [] := by
    unfold restD
    apply List.drop_eq_nil_of_le
    unfold Pk.St.left at b3
    omega
  have hm : bitI ((stepsD l).m.1 == 1) = (stepsD l).m.1 := bit_back _ (numD_fits (stepsD l).i.2 1).1 g6.2
  have hx : restD (stepsD l).n.2 = (stepsD l).x.1.flatMap layIt ++ restD (stepsD l).x.2 := i1
  have hn : ((stepsD l).x.1.length : Int) = (stepsD l).n.1 := i2
  have goal : lay ((stepsD l).rs (kind)) = Pk.num (stepsD l).e.1 ++ (Pk.num (stepsD l).t.1 ++ (Pk.num (stepsD l).v.1 ++ (Pk.text (stepsD l).c.1 ++ (Pk.num (stepsD l).i.1 ++ (Pk.num (stepsD l).m.1 ++ (Pk.num (stepsD l).n.1 ++ (stepsD l).x.1.flatMap layIt)))))) := by
    simp only [lay, layHead, Steps.rs, hm, hn, List.append_assoc]
  refine ⟨?_, ⟨(numD_fits _ most32).1, ?_⟩, tokD_fits _, tokD_fits _, ?_, ⟨(numD_fits _ most32).1, ?_⟩, ?_, itemsD_ok _ _ _⟩
  · rw [goal]
    conv => rhs; rw [c0, c1, c2, c3, c4, c5, c6, c7, hx, c8, List.append_nil]
  · exact g1.2
  · simp only [Steps.rs, mk_len]; exact txtD_len _
  · exact g5.2
  · show ((stepsD l).x.1.length : Int) ≤ _
    rw [hn]; exact g7.2
/-- What is laid is read, whatever stands behind it. -/
theorem steps_lay {r : Rs} (ok : FOk' r) {D z : List UInt8} (h : D = lay r ++ z) : (stepsD D).x.2 = (⟨D, (lay r).length, 0⟩, false) := by
  obtain ⟨⟨e0, e1⟩, ⟨t0, ht⟩, ⟨v0, hw⟩, hc, ⟨i0, i1⟩, n1, hx⟩ := ok
  have hb := bitI_01 r.more
  have d1 : D.drop 0 = Pk.num r.err ++ (Pk.num r.token ++ (Pk.num r.version ++ (Pk.text r.card.data.toList ++ (Pk.num r.index ++ (Pk.num (bitI r.more) ++ (Pk.num (r.items.length : Int) ++ (r.items.flatMap layIt ++ z))))))) := by rw [h]; simp [lay, layHead]
  have d2 := drop_more d1
  have d3 := drop_more d2
  have d4 := drop_more d3
  have d5 := drop_more d4
  have d6 := drop_more d5
  have d7 := drop_more d6
  have d8 := drop_more d7
  have s1 := numD_lay (m := most32) e0 (by omega) (by show _ ≤ (2147483647 : Int); omega) d1
  have s2 := tokD_lay t0 ht d2
  have s3 := tokD_lay v0 hw d3
  have s4 := txtD_lay (by rw [size_toList]; omega) d4
  have s5 := numD_lay (m := most32) i0 (by omega) (by show _ ≤ (2147483647 : Int); omega) d5
  have s6 := numD_lay (m := 1) hb.1 (by omega) hb.2 d6
  have s7 := numD_lay (m := most32) (n := (r.items.length : Int)) (by omega) (by omega) (by show _ ≤ (2147483647 : Int); omega) d7
  have hlen : r.items.length ≤ D.length + 2 := by
    have := layIts_pos r.items
    rw [h]
    simp only [lay, List.length_append]
    omega
  have s8 := itemsD_lay r.items (D.length + 2) _ d8 hlen hx
  simp only [stepsD, s1, s2, s3, s4, s5, s6, s7, s8]
  simp only [lay, layHead, List.length_append, Nat.add_assoc, Nat.zero_add]
theorem fok_of {a : Rs} (hc : checkR a = 0) (hv : ∀ i ∈ a.items, i.ver ≤ 9223372036854775807) (ht : a.token ≤ 9223372036854775807) (hw : a.version ≤ 9223372036854775807) : FOk' a := by
  obtain ⟨q1, q2, q3, q4, q5⟩ := check_zero hc
  unfold HeadOk at q1
  obtain ⟨k0, k1, e0, e1, t0, v0, i0, i1, n0⟩ := q1
  exact ⟨⟨e0, by omega⟩, ⟨t0, ht⟩, ⟨v0, hw⟩, by omega, ⟨i0, i1⟩, by omega, fun i hi => ⟨q2 i hi, hv i hi, by have := q4 i hi; omega, by have := q4 i hi; omega⟩⟩
theorem decode_no {kind : Int} {l : List UInt8} (h1 : 128 ≤ kind) (h2 : kind ≤ 139) (h : ¬ goodD l) : decodeR kind l = (zeroR, 1) := by
  unfold decodeR
  rw [if_neg (by omega), if_pos]
  unfold goodD at h
  by_cases c1 : (stepsD l).x.2.2 = true
  · exact .inl c1
  · by_cases c2 : (stepsD l).x.2.1.err = 0
    · exact .inr (.inr (by
        have : ¬ (stepsD l).x.2.1.left ≤ 0 := fun h3 => h ⟨by simpa using c1, c2, h3⟩
        omega))
    · exact .inr (.inl c2)
/-- Cut off. -/
theorem cut_no {a : Rs} (ok : FOk' a) (k : Nat) (hk : k < (lay a).length) : ¬ goodD ((lay a).take k) := fun h => by
  obtain ⟨h1, h2⟩ := steps_canon 0 h
  have e1 := steps_lay ok (D := lay a) (z := []) (by simp)
  have e2 := steps_lay h2 (D := lay a) (z := (lay a).drop k) (by rw [h1, List.take_append_drop])
  rw [e1] at e2
  have := congrArg (fun p : Dr => p.1.at_) e2
  simp only at this
  rw [h1, List.length_take] at this
  omega
/-- One more. -/
theorem more_no {a : Rs} (ok : FOk' a) (b : UInt8) : ¬ goodD (lay a ++ [b]) := fun h => by
  have e := steps_lay ok (D := lay a ++ [b]) (z := [b]) rfl
  have := h.2.2
  rw [e] at this
  simp [Pk.St.left] at this
  omega
end Go.Proofs.Ytlmfpadlgdmflaa
