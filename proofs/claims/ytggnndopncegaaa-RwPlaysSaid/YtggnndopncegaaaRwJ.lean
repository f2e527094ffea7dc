/-
  rw: calls played, .
-/
import Derived.Test.YtggnndopncegaaaRwU
import Derived.Test.YtggnndopncegaaaRwO
set_option linter.unusedSimpArgs false
set_option linter.unusedVariables false
namespace Go.Proofs.Ytggnndopncegaaa

set_option maxRecDepth 100000

def stepL (k : Lk) (a : Act) : Lk := if a.op = 0 ∨ a.op = 1 then (k.ask a.who (decide (a.op = 1))).2 else (k.leave a.who).2
def playL (l : List Act) : Lk := l.foldl stepL Lk.none
theorem playL_snoc (l : List Act) (a : Act) : playL (l ++ [a]) = stepL (playL l) a := by simp [playL]
theorem stepL_law {k : Lk} (hg : Good k) (a : Act) : Good (stepL k a) ∧ (stepL k a).sz ≤ k.sz + 1 ∧ (stepL k a).size ≤ k.size + 1 := by
  unfold stepL
  split
  · refine ⟨?_, ?_, ask_size _ _ _⟩
    · by_cases h0 : k.st a.who = 0
      · exact (ask_law hg h0).1
      · rw [ask_same h0]; exact hg
    · by_cases h0 : k.st a.who = 0
      · exact Nat.le_of_eq (ask_law hg h0).2.1
      · rw [ask_same h0]; exact Nat.le_succ _
  · obtain ⟨h1, _, _, _, _, h6⟩ := leave_law hg a.who
    exact ⟨h1, by omega, by have := leave_size k a.who; omega⟩
theorem foldl_law (l : List Act) : ∀ k : Lk, Good k → Good (l.foldl stepL k) ∧ (l.foldl stepL k).sz ≤ k.sz + l.length ∧ (l.foldl stepL k).size ≤ k.size + l.length := by
  induction l with
  | nil => intro k h; exact ⟨h, Nat.le_refl _, Nat.le_refl _⟩
  | cons a l ih =>
    intro k h
    obtain ⟨h1, h2, h3⟩ := stepL_law h a
    obtain ⟨i1, i2, i3⟩ := ih _ h1
    simp only [List.foldl_cons, List.length_cons]
    exact ⟨i1, by omega, by omega⟩
theorem playL_law (l : List Act) : Good (playL l) ∧ (playL l).sz ≤ l.length ∧ (playL l).size ≤ l.length := by
  obtain ⟨h1, h2, h3⟩ := foldl_law l Lk.none good_none
  rw [sz_none, Nat.zero_add] at h2
  rw [show Lk.none.size = 0 from rfl, Nat.zero_add] at h3
  exact ⟨h1, h2, h3⟩
theorem alone_law {k : Lk} (hg : Good k) : (∀ (j : Nat) (x : Int), k.holders[j]? = some x → (k.st x = 2 ∨ k.st x = 3) ∧ (k.st x = 3 → k.holders.length = 1)) ∧
    (∀ (j : Nat) (x y : Int), k.holders[j]? = some y → k.holders[j + 1]? = some x → y < x) ∧ (∀ x ∈ k.qu.map (·.1), k.st x = 1) ∧ (k.holders.length = 0 → k.qu.length = 0) := by
  refine ⟨fun j x hx => ⟨st_hd.2 ((holders_mem hg).1 (List.mem_of_getElem? hx)), fun h3 => ?_⟩, fun j x y hy hx => ?_, fun x hx => ?_, fun h0 => ?_⟩
  · have hw : k.ws = true ∧ k.wr = x := by
      unfold Lk.st at h3
      apply Classical.byContradiction
      intro hc
      rw [if_neg hc] at h3
      split at h3
      · omega
      · split at h3 <;> omega
    unfold Lk.holders; rw [if_pos hw.1]; rfl
  · have hp := holders_rise hg
    rw [List.pairwise_iff_getElem] at hp
    obtain ⟨h1, e1⟩ := List.getElem?_eq_some_iff.1 hy
    obtain ⟨h2, e2⟩ := List.getElem?_eq_some_iff.1 hx
    have := hp j (j + 1) h1 h2 (by omega)
    rw [e1, e2] at this; exact this
  · refine st_one hx (fun hd => ?_)
    rcases hd with h | h
    · exact (hg.pre.dis x hx).2 h
    · exact (hg.pre.dis x hx).1 h
  · cases hq : k.qu with
    | nil => rfl
    | cons a q =>
      have := (front_law hg hq).1
      exact absurd (List.eq_nil_of_length_eq_zero h0) this
/-- One who holds it leaves. -/
theorem ends_law {k : Lk} (hg : Good k) {x : Int} (hx : x ∈ k.holders) :
    Good (k.leave x).2 ∧ (k.leave x).2.sz + 1 = k.sz ∧ (k.leave x).1.length + (k.leave x).2.qu.length = k.qu.length := by
  have hd := (holders_mem hg).1 hx
  have hnz : ¬ k.st x = 0 := fun h => (st_zero.1 h).1 hd
  obtain ⟨h1, h2, h3, h4, h5, h6⟩ := leave_law hg x
  rw [if_neg hnz] at h6
  have hnq : x ∉ k.qu.map (·.1) := fun h => by
    rcases hd with hd | hd
    · exact (hg.pre.dis x h).2 hd
    · exact (hg.pre.dis x h).1 hd
  rw [lessQ_none hnq] at h2 h4
  refine ⟨h1, h6, ?_⟩
  rw [h4, List.length_drop]; omega
end Go.Proofs.Ytggnndopncegaaa
