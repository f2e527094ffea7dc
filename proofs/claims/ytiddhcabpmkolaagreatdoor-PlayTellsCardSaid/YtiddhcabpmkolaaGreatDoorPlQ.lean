/-
   Scripts in plain Lean: how a line is read back: words, numbers, digits.
-/
import Derived.Test.YtiddhcabpmkolaaGreatDoorPlP
import Derived.Lib.SplitLaws
set_option linter.unusedSimpArgs false
set_option linter.unusedVariables false
namespace Go.Proofs.YtiddhcabpmkolaaGreatDoor

set_option maxRecDepth 100000
open Go
theorem idx1 (c : UInt8) : ∀ l : List UInt8, (Lib.index l [c] = -1 ∧ ∀ x ∈ l, x ≠ c) ∨ ∃ a r, l = a ++ c :: r ∧ (∀ x ∈ a, x ≠ c) ∧ Lib.index l [c] = (a.length : Int)
  | [] => .inl ⟨by simp [Lib.index], fun x h => by cases h⟩
  | b :: l => by
    by_cases hb : b = c
    · subst hb
      exact .inr ⟨[], l, rfl, fun x h => (by cases h), by simp [Lib.index]⟩
    · have hp : List.isPrefixOf [c] (b :: l) = false := by simp [List.isPrefixOf, Ne.symm hb]
      rcases idx1 c l with ⟨h1, h2⟩ | ⟨a, r, h1, h2, h3⟩
      · refine .inl ⟨by rw [Lib.index, hp, h1]; rfl, fun x hx => ?_⟩
        rcases List.mem_cons.1 hx with rfl | hx
        · exact hb
        · exact h2 x hx
      · refine .inr ⟨b :: a, r, by rw [h1]; rfl, fun x hx => ?_, ?_⟩
        · rcases List.mem_cons.1 hx with rfl | hx
          · exact hb
          · exact h2 x hx
        · rw [Lib.index, hp, h3]
          have : ((a.length : Int) == -1) = false := by rw [beq_eq_false_iff_ne]; omega
          simp [this]
theorem split1 : ∀ (k : Nat) (l : List UInt8), Lib.count l [32] = k → ∃ x r, Lib.splitK [32] 0 k l = x :: r ∧ l = x ++ glue r ∧ ∀ p ∈ x :: r, ∀ c ∈ p, c ≠ (32 : UInt8)
  | k, l, h => by
    rcases idx1 32 l with ⟨h1, h2⟩ | ⟨a, r, h1, h2, h3⟩
    · have e : Lib.splitK [32] 0 k l = [l] := by
        cases k with
        | zero => rfl
        | succ k => rw [Lib.splitK, h1]; rfl
      refine ⟨l, [], e, by simp [glue], fun p hp => ?_⟩
      rw [List.mem_singleton] at hp
      subst hp
      exact h2
    · have hc := Lib.count_hit (s := l) (sub := [32]) (by simp) h3
      rw [h] at hc
      cases k with
      | zero => omega
      | succ k =>
        have hd : l.drop (a.length + 1) = r := by rw [h1]; simp
        have hc' : Lib.count r [32] = k := by
          have : (a.length + [(32 : UInt8)].length) = a.length + 1 := rfl
          rw [this, hd] at hc
          omega
        obtain ⟨x, s, e1, e2, e3⟩ := split1 k r hc'
        have e : Lib.splitK [32] 0 (k + 1) l = a :: Lib.splitK [32] 0 k r := by
          rw [Lib.splitK, h3]
          have : ((a.length : Int) == -1) = false := by rw [beq_eq_false_iff_ne]; omega
          rw [this]
          simp only [Bool.false_eq_true, if_false, Int.toNat_natCast, Nat.add_zero, List.length_singleton, hd]
          rw [h1]
          simp
        refine ⟨a, x :: s, by rw [e, e1], by rw [h1, e2, glue], fun p hp => ?_⟩
        rcases List.mem_cons.1 hp with rfl | hp
        · exact h2
        · exact e3 p hp
theorem cut_none {s : List UInt8} (h : nl1 s = none) : Lib.cut s [10] = (s, [], false) := by
  rw [nl1_none] at h
  rcases idx1 10 s with ⟨h1, _⟩ | ⟨a, r, h1, _, _⟩
  · unfold Lib.cut; rw [h1]; rfl
  · exact absurd rfl (h 10 (by rw [h1]; simp))
theorem cut_some {s h r : List UInt8} (e : nl1 s = some (h, r)) : Lib.cut s [10] = (h, r, true) := by
  obtain ⟨e1, e2⟩ := nl1_some e
  rcases idx1 10 s with ⟨_, h2⟩ | ⟨a, q, h1, h2, h3⟩
  · exact absurd rfl (h2 10 (by rw [e1]; simp))
  · have e3 : nl1 s = some (a, q) := by rw [h1]; exact nl1_app _ _ h2
    rw [e] at e3
    injection e3 with e3
    injection e3 with e4 e5
    subst e4 e5
    unfold Lib.cut
    rw [h3, if_pos (by omega)]
    simp only [Int.toNat_natCast, List.length_singleton]
    rw [h1]
    simp
/-! A hexadecimal digit's value. -/
def hxv (c : UInt8) : Nat := if 48 ≤ c.toNat ∧ c.toNat ≤ 57 then c.toNat - 48 else if 97 ≤ (c ||| 32).toNat ∧ (c ||| 32).toNat ≤ 122 then (c ||| 32).toNat - 87 else 99
theorem hxv_hex_fin : ∀ d : Fin 16, hxv (hexD d.val) = d.val := by decide
theorem hxv_hex {d : Nat} (h : d < 16) : hxv (hexD d) = d := hxv_hex_fin ⟨d, h⟩
def unhexL : List UInt8 → Option (List UInt8)
  | a :: b :: r => if hxv a < 16 ∧ hxv b < 16 then (unhexL r).map (UInt8.ofNat (hxv a * 16 + hxv b) :: ·) else none
  | _ => some []
theorem unhex_hex : ∀ l, unhexL (hexL l) = some l
  | [] => rfl
  | b :: r => by
    have hb : b.toNat < 256 := b.toNat_lt
    rw [hexL, unhexL, hxv_hex (by omega), hxv_hex (by omega), if_pos ⟨by omega, by omega⟩, unhex_hex r]
    have : UInt8.ofNat (b.toNat / 16 * 16 + b.toNat % 16) = b := by
      rw [show b.toNat / 16 * 16 + b.toNat % 16 = b.toNat by omega]
      simp
    rw [this]; rfl
theorem unhexL_len : ∀ (l r : List UInt8), unhexL l = some r → r.length ≤ l.length
  | [], r, h => by simp [unhexL] at h; subst h; simp
  | [a], r, h => by simp [unhexL] at h; subst h; simp
  | a :: b :: l, r, h => by
    rw [unhexL] at h
    split at h
    · cases hu : unhexL l with
      | none => rw [hu] at h; cases h
      | some q =>
        rw [hu] at h
        injection h with h
        subst h
        have := unhexL_len l q hu
        simp only [List.length_cons]; omega
    · cases h
def unhexT (l : List UInt8) : List UInt8 := if l = [45] then [] else (unhexL l).getD []
theorem unhexT_hex (l : List UInt8) : unhexT (hexT l) = l := by
  unfold hexT
  split
  · rename_i h; subst h; rfl
  · rename_i h
    unfold unhexT
    rw [if_neg, unhex_hex]; rfl
    intro e
    obtain ⟨c, r, h1, h2⟩ := hexL_head l h
    rw [h1] at e
    injection e with e _
    subst e
    exact absurd h2 (by decide)
theorem unhexT_len (l : List UInt8) : (unhexT l).length ≤ l.length := by
  unfold unhexT
  split
  · simp
  · cases h : unhexL l with
    | none => simp
    | some r => exact unhexL_len l r h
/-! A number. -/
def numT (l : List UInt8) : Int := match Lib.atoiAll l with
  | .ok n => if n < 0 ∨ 999999 < n then -1 else n
  | _ => -1
theorem numT_itoa {n : Int} (h0 : 0 ≤ n) (h1 : n ≤ 999999) : numT (Lib.itoa n) = n := by
  unfold numT
  rw [atoi_itoa h0 h1]
  simp only
  rw [if_neg (by omega)]
theorem numT_le (l : List UInt8) : -1 ≤ numT l ∧ numT l ≤ 999999 := by
  unfold numT
  split
  · split <;> omega
  · omega
/-! A line's words read. -/
def takeN (b : Bool) (ws : List (List UInt8)) : Int × List (List UInt8) := match b, ws with
  | true, x :: r => (numT x, r)
  | _, r => (0, r)
def takeB (b : Bool) (ws : List (List UInt8)) : List UInt8 := match b, ws with
  | true, x :: _ => unhexT x
  | _, _ => []
def rdK (k : Int) (ws : List (List UInt8)) : PAct :=
  ⟨k, (takeN (plConn k) ws).1, (takeN (plNum k) (takeN (plConn k) ws).2).1, ⟨(takeB (decide (k = 2)) (takeN (plNum k) (takeN (plConn k) ws).2).2).toArray⟩⟩
def zAct : PAct := ⟨0, 0, 0, ⟨#[]⟩⟩
def rdS (w0 : List UInt8) (ws : List (List UInt8)) : Nat → PAct
  | 0 => zAct
  | k + 1 => if plWord ((k : Int) + 1) = w0 then rdK ((k : Int) + 1) ws else rdS w0 ws k
theorem rdS_zero {w0 : List UInt8} {ws : List (List UInt8)} : ∀ {k : Nat}, (∀ j : Nat, j < k → plWord ((j : Int) + 1) ≠ w0) → rdS w0 ws k = zAct
  | 0, _ => rfl
  | k + 1, h => by
    rw [rdS, if_neg (h k (by omega))]
    exact rdS_zero (fun j hj => h j (by omega))
theorem rdS_first {w0 : List UInt8} {ws : List (List UInt8)} {k : Nat} (hk : k < 7) (h : plWord ((k : Int) + 1) = w0) : rdS w0 ws k = zAct :=
  rdS_zero (fun j hj e => by
    have := word_inj (j := (j : Int) + 1) (k := (k : Int) + 1) (by omega) (by omega) (e.trans h.symm)
    omega)
theorem rdS_word {w0 : List UInt8} {ws : List (List UInt8)} {k : Int} (h1 : 1 ≤ k) (h7 : k ≤ 7) (h : plWord k = w0) : ∀ {n : Nat}, k.toNat ≤ n → n ≤ 7 → rdS w0 ws n = rdK k ws
  | 0, h, _ => by omega
  | n + 1, hn, h8 => by
    rw [rdS]
    by_cases e : (n : Int) + 1 = k
    · rw [if_pos (by rw [e]; exact h), e]
    · rw [if_neg (fun e2 => e (word_inj (by omega) (by omega) (e2.trans h.symm)))]
      exact rdS_word h1 h7 h (by omega) (by omega)
theorem plNum_two : plNum 2 = false := rfl
theorem rdK_rest {b : PAct} (hb : b.Ok) : rdK b.kind b.rest = b := by
  have h1 := hb.k1; have h7 := hb.k7
  have hc0 := hb.c0; have hc1 := hb.c1; have hn0 := hb.n0; have hn1 := hb.n1
  have hcc := hb.cc; have hnn := hb.nn; have hbb := hb.bb
  obtain ⟨k, c, n, ⟨bs⟩⟩ := b
  simp only at h1 h7 hc0 hc1 hn0 hn1 hcc hnn hbb
  unfold rdK PAct.rest
  simp only
  have ec : takeN (plConn k) ((if plConn k = true then [Lib.itoa c] else []) ++ ((if plNum k = true then [Lib.itoa n] else []) ++ (if k = 2 then [hexT bs.toList] else []))) = (c, (if plNum k = true then [Lib.itoa n] else []) ++ (if k = 2 then [hexT bs.toList] else [])) := by
    cases hp : plConn k with
    | true => rw [if_pos rfl, List.singleton_append, takeN, numT_itoa hc0 hc1]
    | false =>
      rw [hp] at hcc
      rw [if_neg Bool.false_ne_true, List.nil_append, takeN]
      · rw [hcc.resolve_left Bool.false_ne_true]
      · intro _ _ h; cases h
  rw [ec]
  have en : takeN (plNum k) ((if plNum k = true then [Lib.itoa n] else []) ++ (if k = 2 then [hexT bs.toList] else [])) = (n, (if k = 2 then [hexT bs.toList] else [])) := by
    cases hp : plNum k with
    | true => rw [if_pos rfl, List.singleton_append, takeN, numT_itoa hn0 hn1]
    | false =>
      rw [hp] at hnn
      rw [if_neg Bool.false_ne_true, List.nil_append, takeN]
      · rw [hnn.resolve_left Bool.false_ne_true]
      · intro _ _ h; cases h
  rw [en]
  have eb : takeB (decide (k = 2)) (if k = 2 then [hexT bs.toList] else []) = bs.toList := by
    by_cases h2 : k = 2
    · rw [if_pos h2, decide_eq_true h2, takeB, unhexT_hex]
    · rw [if_neg h2, decide_eq_false h2, takeB]
      · rcases hbb with h | h
        · exact absurd h h2
        · injection h with h; subst h; rfl
      · intro _ _ h; cases h
  rw [eb]
/-- What a line's words say. -/
def rdL : List (List UInt8) → PAct
  | [] => zAct
  | w0 :: ws => rdS w0 ws 7
theorem rd_back {b : PAct} (hb : b.Ok) {x : List UInt8} {r : List (List UInt8)} (h : b.head = x ++ glue r) (hn : ∀ p ∈ x :: r, ∀ c ∈ p, c ≠ (32 : UInt8)) : rdL (x :: r) = b := by
  rw [head_glue] at h
  have e := glue_inj (plWord b.kind :: b.rest) (x :: r) (fun y hy => by
    rcases List.mem_cons.1 hy with rfl | hy
    · exact word_no _ _ (by decide)
    · exact rest_no hb _ (by decide) y hy) hn (by simp only [glue]; rw [h])
  injection e with e1 e2
  subst e1 e2
  rw [rdL, rdS_word hb.k1 hb.k7 rfl (by have := hb.k7; omega) (Nat.le_refl _)]
  exact rdK_rest hb
theorem rdK_fit (k : Int) (ws : List (List UInt8)) : (rdK k ws).kind = k ∧ -1 ≤ (rdK k ws).conn ∧ (rdK k ws).conn ≤ 999999 ∧ -1 ≤ (rdK k ws).n ∧ (rdK k ws).n ≤ 999999 := by
  have key : ∀ b ws, -1 ≤ (takeN b ws).1 ∧ (takeN b ws).1 ≤ 999999 := by
    intro b ws
    unfold takeN
    split
    · exact numT_le _
    · simp
  exact ⟨rfl, (key _ _).1, (key _ _).2, (key _ _).1, (key _ _).2⟩
end Go.Proofs.YtiddhcabpmkolaaGreatDoor
