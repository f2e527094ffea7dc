/-
  TelMatch: the plain law.
-/
import Derived.Test.YtemjpmkmpfpdhaaDoorTlD
set_option linter.unusedSimpArgs false
set_option linter.unusedVariables false
namespace Go.Proofs.YtemjpmkmpfpdhaaDoor
open Go.RowKit
set_option maxRecDepth 100000

theorem digs_dig (n : Nat) : ∀ b ∈ digs n, digL b = true := by
  induction n using Nat.strongRecOn with
  | ind n ih =>
    intro b hb
    have h48 : ∀ r, r < 10 → digL (UInt8.ofNat (48 + r)) = true := fun r hr => by
      simp only [digL, decide_eq_true_eq, UInt8.toNat_ofNat']
      omega
    rw [digs] at hb
    split at hb
    · rename_i h
      rw [List.mem_singleton.1 hb]; exact h48 n h
    · rcases List.mem_append.1 hb with hb | hb
      · exact ih (n / 10) (by omega) b hb
      · rw [List.mem_singleton.1 hb]; exact h48 (n % 10) (by omega)
theorem digs_pos (n : Nat) : 1 ≤ (digs n).length := by
  rw [digs]; split <;> simp
theorem digs_head (n : Nat) (h : 1 ≤ n) : (digs n)[0]? ≠ some 48 := by
  induction n using Nat.strongRecOn with
  | ind n ih =>
    rw [digs]
    split
    · intro e
      have := congrArg UInt8.toNat (Option.some.inj (show some (UInt8.ofNat (48 + n)) = some 48 from e))
      rw [UInt8.toNat_ofNat'] at this
      have h2 : (48 : UInt8).toNat = 48 := rfl
      omega
    · rw [List.getElem?_append_left (digs_pos _)]
      exact ih (n / 10) (by omega) (by omega)
theorem digs_small (n : Nat) (h : 2 ≤ (digs n).length) : 1 ≤ n := by
  rcases Nat.eq_zero_or_pos n with h0 | h0
  · subst h0; rw [digs, dif_pos (by omega)] at h; simp at h
  · exact h0
theorem digs_len : ∀ (k n : Nat), n < 10 ^ k → 1 ≤ k → (digs n).length ≤ k
  | 0, _, _, h => by omega
  | k + 1, n, hn, _ => by
    rw [digs]
    split
    · simp
    · rw [List.length_append, List.length_singleton]
      rcases Nat.eq_zero_or_pos k with h0 | h0
      · subst h0; simp at hn; omega
      · have := digs_len k (n / 10) (by rw [Nat.pow_succ] at hn; omega) h0
        omega
theorem zl_zeros (d : List UInt8) : ∀ k, zl (List.replicate k 48 ++ d) = zl d
  | 0 => rfl
  | k + 1 => by
    have := zl_step (List.replicate (k + 1) 48 ++ d) (by simp [List.replicate_succ])
    rw [← this, List.replicate_succ, List.cons_append, List.drop_one, List.tail_cons, zl_zeros d k]
theorem suffix_self (d e : List UInt8) : Lib.hasSuffix (e ++ d) d = true := by
  rw [Lib.hasSuffix, List.isSuffixOf_iff_suffix]; exact List.suffix_append _ _
theorem match_off {a b : List UInt8} (h : isL a = false ∨ isL b = false) : matchL a b = false := by
  unfold matchL
  rw [show (rowL a).2 = isL a from rfl, show (rowL b).2 = isL b from rfl]
  rcases h with h | h <;> rw [h]
  · rw [Bool.false_and, Bool.false_and]
  · rw [Bool.and_false, Bool.false_and]
theorem match_of {a b x y : List UInt8} (ha : isL a = true) (hb : isL b = true) (hx : zl (bareL a) = x) (hy : zl (bareL b) = y) : matchL a b = if y.length < x.length then ends y x else ends x y := by
  unfold matchL
  rw [row_fst _ ha, row_fst _ hb, show (rowL a).2 = isL a from rfl, show (rowL b).2 = isL b from rfl, ha, hb, hx, hy, Bool.true_and, Bool.true_and]
theorem ends_more (d e : List UInt8) : ends d (e ++ d) = decide (5 ≤ d.length) := by
  unfold ends
  rw [suffix_self, Bool.and_true]
theorem match_more {a b d e : List UInt8} (ha : isL a = true) (hb : isL b = true) (hx : zl (bareL a) = d) (hy : zl (bareL b) = e ++ d) : matchL a b = decide (5 ≤ d.length) ∧ matchL b a = decide (5 ≤ d.length) := by
  rw [match_of ha hb hx hy, match_of hb ha hy hx, List.length_append]
  constructor
  · rw [if_neg (by omega)]; exact ends_more d e
  · split
    · exact ends_more d e
    · rename_i h
      have : e = [] := List.eq_nil_of_length_eq_zero (by omega)
      subst this
      exact ends_more d []
theorem bare_digs {d : List UInt8} (h : ∀ b ∈ d, digL b = true) : bareL d = d := bareL_no _ (fun e => by
  have := h 43 (List.mem_of_getElem? e)
  simp [digL] at this)
theorem digs_zl {n : Nat} (h : isL (digs n) = true) : zl (bareL (digs n)) = digs n := by
  rw [bare_digs (digs_dig n)]
  refine zl_stop _ (digs_head n (digs_small n ?_))
  have := tel_len h
  omega
theorem match_zeros (n k : Nat) (h : isL (digs n) = true) (hs : isL (List.replicate k 48 ++ digs n) = true) :
    matchL (digs n) (List.replicate k 48 ++ digs n) = decide (5 ≤ (digs n).length) ∧ matchL (List.replicate k 48 ++ digs n) (digs n) = decide (5 ≤ (digs n).length) := by
  refine match_more (e := []) h hs (digs_zl h) ?_
  rw [bare_digs (fun b hb => by
    rcases List.mem_append.1 hb with hb | hb
    · rw [(List.mem_replicate.1 hb).2]; decide
    · exact digs_dig n b hb), zl_zeros, List.nil_append]
  have := digs_zl h
  rwa [bare_digs (digs_dig n)] at this
theorem match_plus (n : Nat) (h : isL (digs n) = true) (hs : isL ([43, 52, 57] ++ digs n) = true) :
    matchL (digs n) ([43, 52, 57] ++ digs n) = decide (5 ≤ (digs n).length) ∧ matchL ([43, 52, 57] ++ digs n) (digs n) = decide (5 ≤ (digs n).length) := by
  refine match_more (e := [52, 57]) h hs (digs_zl h) ?_
  rw [bareL_plus _ (by rfl)]
  exact zl_stop _ (by simp)
/-- What the law asks of a number and of another form of it. -/
theorem match_law (n : Nat) (s : List UInt8) (hs : (∃ k, s = List.replicate k 48 ++ digs n) ∨ s = [43, 52, 57] ++ digs n) :
    (isL (digs n) = false ∨ isL s = false → matchL (digs n) s = false) ∧
    (isL (digs n) = true → isL s = true → matchL (digs n) s = decide (5 ≤ (digs n).length) ∧ matchL s (digs n) = decide (5 ≤ (digs n).length) ∧ matchL (digs n) (digs n) = decide (5 ≤ (digs n).length)) := by
  refine ⟨match_off, fun h1 h2 => ?_⟩
  have h3 := (match_zeros n 0 h1 (by simpa using h1)).1
  simp only [List.replicate_zero, List.nil_append] at h3
  rcases hs with ⟨k, rfl⟩ | rfl
  · exact ⟨(match_zeros n k h1 h2).1, (match_zeros n k h1 h2).2, h3⟩
  · exact ⟨(match_plus n h1 h2).1, (match_plus n h1 h2).2, h3⟩
end Go.Proofs.YtemjpmkmpfpdhaaDoor
