/-
   What the reference's DecodeResp computes is what Decode computes.
-/
import Derived.Test.YtlmfpadlgdmflaaRdC
import Derived.Test.YtlmfpadlgdmflaaRsD
import Derived.Test.YtlmfpadlgdmflaaRsG
set_option linter.unusedSimpArgs false
set_option linter.unusedVariables false
namespace Go.Proofs.Ytlmfpadlgdmflaa

set_option maxRecDepth 100000

/-- The two readers stand alike, or both have failed. -/
def Ra (d : Dr) (s : Pk.St) : Prop := (d.2 = false ∧ d.1.err = 0 ∧ s = d.1) ∨ ((d.2 = true ∨ d.1.err ≠ 0) ∧ s.err ≠ 0)
theorem Ra.good {d : Dr} {s : Pk.St} (h : Ra d s) : (d.2 = false ∧ d.1.err = 0) ↔ s.err = 0 := by
  rcases h with ⟨h1, h2, rfl⟩ | ⟨h1, h2⟩
  · exact ⟨fun _ => h2, fun _ => ⟨h1, h2⟩⟩
  · exact ⟨fun h => by rcases h1 with h1 | h1; rw [h.1] at h1; cases h1; exact absurd h.2 h1, fun h => absurd h h2⟩
theorem Ra.eq {d : Dr} {s : Pk.St} (h : Ra d s) (he : s.err = 0) : s = d.1 := by
  rcases h with ⟨_, _, h⟩ | ⟨_, h⟩
  · exact h
  · exact absurd he h
theorem num_err {s : Pk.St} (h : s.num.2.err = 0) : s.err = 0 := ((num_spec s).2.2.2.2 h).1
theorem txt_err {s : Pk.St} {m : Int} (h : (s.text m).2.err = 0) : s.err = 0 := ((text_spec s m).2.2 h).1
theorem ra_tok {d : Dr} {s : Pk.St} (h : Ra d s) : Ra (tokD d).2 s.num.2 ∧ (s.num.2.err = 0 → s.err = 0 ∧ (tokD d).1 = s.num.1) := by
  rcases h with ⟨h1, h2, rfl⟩ | ⟨h1, h2⟩
  · refine ⟨?_, fun h => ⟨h2, rfl⟩⟩
    by_cases e : d.1.num.2.err = 0
    · exact .inl ⟨h1, e, rfl⟩
    · exact .inr ⟨.inr e, e⟩
  · have hs : s.num.2.err ≠ 0 := fun h => h2 (num_err h)
    exact ⟨.inr ⟨h1.imp id (fun h e => h (num_err e)), hs⟩, fun h => absurd h hs⟩
theorem ra_txt {d : Dr} {s : Pk.St} (h : Ra d s) : Ra (txtD d).2 (s.text 20000).2 ∧ ((s.text 20000).2.err = 0 → s.err = 0 ∧ (txtD d).1 = (s.text 20000).1) := by
  rcases h with ⟨h1, h2, rfl⟩ | ⟨h1, h2⟩
  · refine ⟨?_, fun h => ⟨h2, rfl⟩⟩
    by_cases e : (d.1.text 20000).2.err = 0
    · exact .inl ⟨h1, e, rfl⟩
    · exact .inr ⟨.inr e, e⟩
  · have hs : (s.text 20000).2.err ≠ 0 := fun h => h2 (txt_err h)
    exact ⟨.inr ⟨h1.imp id (fun h e => h (txt_err e)), hs⟩, fun h => absurd h hs⟩
theorem ra_small {d : Dr} {s : Pk.St} (h : Ra d s) : Ra (numD d most32).2 (smallS s).2 ∧ ((smallS s).2.err = 0 → s.err = 0 ∧ (numD d most32).1 = (smallS s).1) := by
  unfold smallS
  rcases h with ⟨h1, h2, rfl⟩ | ⟨h1, h2⟩
  · by_cases hb : d.1.num.1 > 2147483647
    · rw [if_pos hb]
      refine ⟨.inr ⟨.inl ?_, by simp⟩, fun h => by simp at h⟩
      show (d.2 || decide (d.1.num.1 > 2147483647)) = true
      rw [decide_eq_true hb, Bool.or_true]
    · rw [if_neg hb]
      refine ⟨?_, fun h => ⟨h2, rfl⟩⟩
      have hd : (numD d most32).2.2 = false := by
        show (d.2 || decide (d.1.num.1 > 2147483647)) = false
        rw [h1, decide_eq_false hb]; rfl
      by_cases e : d.1.num.2.err = 0
      · exact .inl ⟨hd, e, rfl⟩
      · exact .inr ⟨.inr e, e⟩
  · have hs : s.num.2.err ≠ 0 := fun h => h2 (num_err h)
    have hs' : (if s.num.1 > 2147483647 then ((0 : Int), { s.num.2 with err := 1 }) else s.num).2.err ≠ 0 := by
      split
      · simp
      · exact hs
    refine ⟨.inr ⟨?_, hs'⟩, fun h => absurd h hs'⟩
    rcases h1 with h1 | h1
    · exact .inl (by show (d.2 || _) = true; rw [h1]; rfl)
    · exact .inr (fun e => h1 (num_err e))
theorem ra_mark {d : Dr} {s : Pk.St} (h : Ra d s) : Ra (numD d 1).2 (markS s).2 ∧ ((markS s).2.err = 0 → s.err = 0 ∧ ((numD d 1).1 == 1) = (markS s).1) := by
  unfold markS
  rcases h with ⟨h1, h2, rfl⟩ | ⟨h1, h2⟩
  · by_cases hb : d.1.num.2.err = 0 ∧ d.1.num.1 > 1
    · rw [if_pos hb]
      refine ⟨.inr ⟨.inl ?_, by simp⟩, fun h => by simp at h⟩
      show (d.2 || decide (d.1.num.1 > 1)) = true
      rw [decide_eq_true hb.2, Bool.or_true]
    · rw [if_neg hb]
      refine ⟨?_, fun h => ⟨h2, rfl⟩⟩
      by_cases e : d.1.num.2.err = 0
      · have hd : (numD d 1).2.2 = false := by
          show (d.2 || decide (d.1.num.1 > 1)) = false
          rw [h1, decide_eq_false (fun h => hb ⟨e, h⟩)]; rfl
        exact .inl ⟨hd, e, rfl⟩
      · exact .inr ⟨.inr e, e⟩
  · have hs : s.num.2.err ≠ 0 := fun h => h2 (num_err h)
    rw [if_neg (fun h => hs h.1)]
    refine ⟨.inr ⟨?_, hs⟩, fun h => absurd h hs⟩
    rcases h1 with h1 | h1
    · exact .inl (by show (d.2 || _) = true; rw [h1]; rfl)
    · exact .inr (fun e => h1 (num_err e))

def itemS (s : Pk.St) : It × Pk.St :=
  (⟨⟨(s.text 20000).1.toArray⟩, (s.text 20000).2.num.1, (markS (s.text 20000).2.num.2).1, ⟨((markS (s.text 20000).2.num.2).2.text 20000).1.toArray⟩⟩, ((markS (s.text 20000).2.num.2).2.text 20000).2)
theorem ra_item {d : Dr} {s : Pk.St} (h : Ra d s) : Ra (itemD d).2 (itemS s).2 ∧ ((itemS s).2.err = 0 → s.err = 0 ∧ (itemD d).1 = (itemS s).1) := by
  obtain ⟨a1, b1⟩ := ra_txt h
  obtain ⟨a2, b2⟩ := ra_tok a1
  obtain ⟨a3, b3⟩ := ra_mark a2
  obtain ⟨a4, b4⟩ := ra_txt a3
  refine ⟨a4, fun e => ?_⟩
  obtain ⟨e3, v4⟩ := b4 e
  obtain ⟨e2, v3⟩ := b3 e3
  obtain ⟨e1, v2⟩ := b2 e2
  obtain ⟨e0, v1⟩ := b1 e1
  refine ⟨e0, ?_⟩
  simp only [itemD, itemS, v1, v2, v3, v4]
/-- The items, at most k of them. -/
def itemsS : Nat → Int → Pk.St → List It × Pk.St
  | 0, _, s => ([], s)
  | k + 1, m, s => if 0 < m ∧ s.err = 0 then ((itemS s).1 :: (itemsS k (m - 1) (itemS s).2).1, (itemsS k (m - 1) (itemS s).2).2) else ([], s)
theorem itemsS_stop (k : Nat) (m : Int) (s : Pk.St) (h : ¬ (0 < m ∧ s.err = 0)) : itemsS k m s = ([], s) := by
  cases k with
  | zero => rfl
  | succ k => unfold itemsS; rw [if_neg h]
theorem itemsS_go (k : Nat) (m : Int) (s : Pk.St) (h : 0 < m ∧ s.err = 0) : itemsS (k + 1) m s = ((itemS s).1 :: (itemsS k (m - 1) (itemS s).2).1, (itemsS k (m - 1) (itemS s).2).2) := by
  show (if 0 < m ∧ s.err = 0 then _ else _) = _
  rw [if_pos h]
theorem ra_items : ∀ (k : Nat) (m : Int) (d : Dr) (s : Pk.St), Ra d s → Ra (itemsD k m d).2 (itemsS k m s).2 ∧ ((itemsS k m s).2.err = 0 → s.err = 0 ∧ (itemsD k m d).1 = (itemsS k m s).1)
  | 0, _, _, _, h => ⟨h, fun e => ⟨e, rfl⟩⟩
  | k + 1, m, d, s, h => by
    by_cases c : 0 < m ∧ s.err = 0
    · rw [itemsS_go _ _ _ c, itemsD_go _ _ _ ⟨c.1, h.good.2 c.2⟩]
      obtain ⟨a1, b1⟩ := ra_item h
      obtain ⟨a2, b2⟩ := ra_items k (m - 1) _ _ a1
      refine ⟨a2, fun e => ?_⟩
      obtain ⟨e1, v2⟩ := b2 e
      exact ⟨c.2, by simp only; rw [(b1 e1).2, v2]⟩
    · rw [itemsS_stop _ _ _ c, itemsD_stop _ _ _ (fun h' => c ⟨h'.1, h.good.1 h'.2⟩)]
      exact ⟨h, fun e => ⟨e, rfl⟩⟩

structure StepsS (l : List UInt8) where
  e : Int × Pk.St
  t : Int × Pk.St
  v : Int × Pk.St
  c : List UInt8 × Pk.St
  i : Int × Pk.St
  m : Bool × Pk.St
  n : Int × Pk.St
  x : List It × Pk.St
def stepsS (l : List UInt8) : StepsS l :=
  let e := smallS ⟨l, 0, 0⟩
  let t := e.2.num
  let v := t.2.num
  let c := v.2.text 20000
  let i := smallS c.2
  let m := markS i.2
  let n := smallS m.2
  { e := e, t := t, v := v, c := c, i := i, m := m, n := n, x := itemsS (l.length + 2) n.1 n.2 }
def StepsS.rs {l : List UInt8} (s : StepsS l) (kind : Int) : Rs := ⟨kind, s.e.1, s.t.1, s.v.1, ⟨s.c.1.toArray⟩, s.i.1, s.m.1, s.x.1⟩
theorem ra_steps (l : List UInt8) : Ra (stepsD l).x.2 (stepsS l).x.2 ∧ ((stepsS l).x.2.err = 0 → ∀ kind, (stepsD l).rs kind = (stepsS l).rs kind) := by
  have a0 : Ra (⟨l, 0, 0⟩, false) ⟨l, 0, 0⟩ := .inl ⟨rfl, rfl, rfl⟩
  obtain ⟨a1, b1⟩ := ra_small a0
  obtain ⟨a2, b2⟩ := ra_tok a1
  obtain ⟨a3, b3⟩ := ra_tok a2
  obtain ⟨a4, b4⟩ := ra_txt a3
  obtain ⟨a5, b5⟩ := ra_small a4
  obtain ⟨a6, b6⟩ := ra_mark a5
  obtain ⟨a7, b7⟩ := ra_small a6
  -- a failed reader stops at once, whatever the count
  by_cases e7 : (stepsS l).n.2.err = 0
  · obtain ⟨e6, v7⟩ := b7 e7
    obtain ⟨a8, b8⟩ := ra_items (l.length + 2) (stepsS l).n.1 _ _ a7
    have hx : (stepsD l).x = itemsD (l.length + 2) (stepsS l).n.1 (stepsD l).n.2 := by
      show itemsD (l.length + 2) (stepsD l).n.1 (stepsD l).n.2 = _
      rw [show (stepsD l).n.1 = (stepsS l).n.1 from v7]
    refine ⟨by rw [hx]; exact a8, fun e8 kind => ?_⟩
    obtain ⟨_, v8⟩ := b8 e8
    obtain ⟨e5, v6⟩ := b6 e6
    obtain ⟨e4, v5⟩ := b5 e5
    obtain ⟨e3, v4⟩ := b4 e4
    obtain ⟨e2, v3⟩ := b3 e3
    obtain ⟨e1, v2⟩ := b2 e2
    obtain ⟨e0, v1⟩ := b1 e1
    have v8' : (stepsD l).x.1 = (stepsS l).x.1 := by rw [hx]; exact v8
    have w1 : (stepsD l).e.1 = (stepsS l).e.1 := v1
    have w2 : (stepsD l).t.1 = (stepsS l).t.1 := v2
    have w3 : (stepsD l).v.1 = (stepsS l).v.1 := v3
    have w4 : (stepsD l).c.1 = (stepsS l).c.1 := v4
    have w5 : (stepsD l).i.1 = (stepsS l).i.1 := v5
    have w6 : ((stepsD l).m.1 == 1) = (stepsS l).m.1 := v6
    simp only [Steps.rs, StepsS.rs, w1, w2, w3, w4, w5, w6, v8']
  · have hs : (stepsS l).x = ([], (stepsS l).n.2) := itemsS_stop _ _ _ (fun h => e7 h.2)
    have hd : (stepsD l).x = ([], (stepsD l).n.2) := itemsD_stop _ _ _ (fun h => e7 (a7.good.1 h.2))
    rw [hs, hd]
    exact ⟨a7, fun e => absurd e e7⟩
theorem ref_bad {kind : Int} {l : List UInt8} (h1 : 128 ≤ kind) (h2 : kind ≤ 139) (hat : (stepsS l).x.2.at_ ≤ (stepsS l).x.2.l.length) (h : (stepsS l).x.2.err ≠ 0 ∨ (stepsS l).x.2.left ≠ 0) : decodeR kind l = (zeroR, 1) := by
  refine dec_bad h1 h2 ?_
  rcases (ra_steps l).1 with ⟨r1, r2, r3⟩ | ⟨r1, r2⟩
  · rw [r3] at h hat
    rcases h with h | h
    · exact absurd r2 h
    · exact .inr (.inr (by unfold Pk.St.left at h ⊢; omega))
  · exact r1.imp id .inl
theorem ref_rest {kind : Int} {l : List UInt8} (h1 : 128 ≤ kind) (h2 : kind ≤ 139) (h : ¬ ((stepsS l).x.2.err ≠ 0 ∨ (stepsS l).x.2.left ≠ 0)) {r : Rs} (hr : (stepsS l).rs (kind - 128) = r) :
    decodeR kind l = if checkR r ≠ 0 then (zeroR, checkR r) else (r, 0) := by
  have he : (stepsS l).x.2.err = 0 := Decidable.not_not.1 (fun hh => h (.inl hh))
  have hl : (stepsS l).x.2.left = 0 := Decidable.not_not.1 (fun hh => h (.inr hh))
  have hg := (ra_steps l).1.good.2 he
  have e := (ra_steps l).1.eq he
  refine dec_rest h1 h2 (fun hh => ?_) (((ra_steps l).2 he _).trans hr)
  rw [e] at hl
  rcases hh with hh | hh | hh
  · rw [hg.1] at hh; cases hh
  · exact hh hg.2
  · omega
theorem small_on (s : Pk.St) : (smallS s).2.l = s.l ∧ ((smallS s).2.err = 0 → s.err = 0 ∧ s.at_ < (smallS s).2.at_) ∧ 0 ≤ (smallS s).1 ∧ (smallS s).1 ≤ 9223372036854775807 := by
  obtain ⟨h0, h1, h2, _, h3⟩ := num_spec s
  unfold smallS
  split
  · exact ⟨h2, fun h => by simp at h, by simp, by simp⟩
  · exact ⟨h2, h3, h0, h1⟩
theorem mark_on (s : Pk.St) : (markS s).2.l = s.l ∧ ((markS s).2.err = 0 → s.err = 0 ∧ s.at_ < (markS s).2.at_) := by
  obtain ⟨h0, h1, h2, _, h3⟩ := num_spec s
  unfold markS
  simp only
  split
  · exact ⟨h2, fun h => by simp at h⟩
  · exact ⟨h2, h3⟩
theorem itemS_on (s : Pk.St) : (itemS s).2.l = s.l ∧ ((itemS s).2.err = 0 → s.err = 0 ∧ s.at_ < (itemS s).2.at_) := by
  have a1 := text_spec s 20000
  have a2 := num_spec (s.text 20000).2
  have a3 := mark_on (s.text 20000).2.num.2
  have a4 := text_spec (markS (s.text 20000).2.num.2).2 20000
  refine ⟨a4.1.trans (a3.1.trans (a2.2.2.1.trans a1.1)), fun h => ?_⟩
  have b4 := a4.2.2 h
  have b3 := a3.2 b4.1
  have b2 := a2.2.2.2.2 b3.1
  have b1 := a1.2.2 b2.1
  refine ⟨b1.1, ?_⟩
  have c1 := b1.2
  have c2 := b2.2
  have c3 := b3.2
  have c4 : _ < (itemS s).2.at_ := b4.2
  omega
theorem itemsS_fits : ∀ (k : Nat) (m : Int) (s : Pk.St), ∀ i ∈ (itemsS k m s).1, 0 ≤ i.ver ∧ i.ver ≤ 9223372036854775807
  | 0, _, _, i, hi => by cases hi
  | k + 1, m, s, i, hi => by
    unfold itemsS at hi
    split at hi
    · simp only [List.mem_cons] at hi
      rcases hi with rfl | hi
      · exact ⟨(num_spec _).1, (num_spec _).2.1⟩
      · exact itemsS_fits k _ _ i hi
    · cases hi
end Go.Proofs.Ytlmfpadlgdmflaa
