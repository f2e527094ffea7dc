/-
   Scripts in plain Lean: an act's line, a script's text, what a text is as a script.
-/
import Derived.Lib.ItoaNum
import Derived.Lib.AtoiAll
set_option linter.unusedSimpArgs false
set_option linter.unusedVariables false
namespace Go.Proofs.YtiddhcabpmkolaaGreatDoor

set_option maxRecDepth 100000
open Go
structure PAct where
  kind : Int
  conn : Int
  n : Int
  bytes : ByteArray
deriving DecidableEq
def plWord (k : Int) : List UInt8 :=
  if k = 1 then [111, 112, 101, 110] else if k = 2 then [115, 101, 110, 100] else if k = 3 then [104, 97, 108, 102] else if k = 4 then [112, 105, 99, 107] else if k = 5 then [116, 105, 99, 107] else if k = 6 then [116, 97, 107, 101] else if k = 7 then [115, 116, 111, 112] else []
def plConn (k : Int) : Bool := decide (k = 2 ∨ k = 3 ∨ k = 4 ∨ k = 6)
def plNum (k : Int) : Bool := decide (k = 5 ∨ k = 6)
def hexD (d : Nat) : UInt8 := if d < 10 then UInt8.ofNat (48 + d) else UInt8.ofNat (87 + d)
def hexL : List UInt8 → List UInt8
  | [] => []
  | b :: r => hexD (b.toNat / 16) :: hexD (b.toNat % 16) :: hexL r
def hexT (l : List UInt8) : List UInt8 := if l = [] then [45] else hexL l
def PAct.ok (a : PAct) : Bool := decide (1 ≤ a.kind ∧ a.kind ≤ 7 ∧ 0 ≤ a.conn ∧ a.conn ≤ 999999 ∧ 0 ≤ a.n ∧ a.n ≤ 999999 ∧ (plConn a.kind = true ∨ a.conn = 0) ∧ (plNum a.kind = true ∨ a.n = 0) ∧ (a.kind = 2 ∨ a.bytes = ⟨#[]⟩))
def PAct.head (a : PAct) : List UInt8 :=
  plWord a.kind ++ ((if plConn a.kind = true then 32 :: Lib.itoa a.conn else []) ++ ((if plNum a.kind = true then 32 :: Lib.itoa a.n else []) ++ (if a.kind = 2 then 32 :: hexT a.bytes.data.toList else [])))
/-- What stands ahead of the first blank, and behind it. -/
def sp1 : List UInt8 → List UInt8 × List UInt8
  | [] => ([], [])
  | c :: r => if c = 32 then ([], r) else (c :: (sp1 r).1, (sp1 r).2)
theorem sp1_app : ∀ (l r : List UInt8), (∀ c ∈ l, c ≠ 32) → sp1 (l ++ 32 :: r) = (l, r)
  | [], r, _ => by simp [sp1]
  | c :: l, r, h => by
    rw [List.cons_append, sp1, if_neg (h c (by simp)), sp1_app l r (fun x hx => h x (by simp [hx]))]
theorem sp1_all : ∀ (l : List UInt8), (∀ c ∈ l, c ≠ 32) → sp1 l = (l, [])
  | [], _ => rfl
  | c :: l, h => by
    rw [sp1, if_neg (h c (by simp)), sp1_all l (fun x hx => h x (by simp [hx]))]
/-! Decimal numerals. -/
theorem dec_digit : ∀ (u : Nat), ∀ c ∈ Lib.decDigits u, 48 ≤ c.toNat ∧ c.toNat ≤ 57 := by
  intro u
  induction u using Nat.strongRecOn with
  | _ u ih =>
    intro c hc
    rw [Lib.decDigits] at hc
    split at hc
    · rename_i h
      rw [List.mem_singleton] at hc
      subst hc
      rw [UInt8.toNat_ofNat']
      omega
    · rename_i h
      rcases List.mem_append.1 hc with hc | hc
      · exact ih (u / 10) (by omega) c hc
      · rw [List.mem_singleton] at hc
        subst hc
        rw [UInt8.toNat_ofNat']
        omega
theorem itoa_digit {n : Int} (h : 0 ≤ n) : ∀ c ∈ Lib.itoa n, 48 ≤ c.toNat ∧ c.toNat ≤ 57 := by
  unfold Lib.itoa
  rw [if_neg (by omega)]
  exact dec_digit _
theorem itoa_no {n : Int} (h : 0 ≤ n) (b : UInt8) (hb : b.toNat < 48) : ∀ c ∈ Lib.itoa n, c ≠ b := by
  intro c hc e
  have := itoa_digit h c hc
  subst e
  omega
theorem dec_ne (u : Nat) : Lib.decDigits u ≠ [] := by
  rw [Lib.decDigits]
  split <;> simp
theorem itoa_ne {n : Int} (h : 0 ≤ n) : Lib.itoa n ≠ [] := by
  unfold Lib.itoa
  rw [if_neg (by omega)]
  exact dec_ne _
def dstep (a : Nat) (c : UInt8) : Nat := a * 10 + (c.toNat - 48)
def dval (acc : Nat) (l : List UInt8) : Nat := l.foldl dstep acc
theorem dval_app (l r : List UInt8) (acc : Nat) : dval acc (l ++ r) = dval (dval acc l) r := List.foldl_append
theorem dval_cons (acc : Nat) (c : UInt8) (r : List UInt8) : dval acc (c :: r) = dval (acc * 10 + (c.toNat - 48)) r := List.foldl_cons ..
theorem dval_one (acc : Nat) (c : UInt8) : dval acc [c] = acc * 10 + (c.toNat - 48) := by rw [dval_cons]; unfold dval; rw [List.foldl_nil]
theorem dval_dec (u : Nat) : dval 0 (Lib.decDigits u) = u := by
  induction u using Nat.strongRecOn with
  | _ u ih =>
    rw [Lib.decDigits]
    split
    · rename_i h
      rw [dval_one, UInt8.toNat_ofNat']
      omega
    · rename_i h
      rw [dval_app, ih (u / 10) (by omega), dval_one, UInt8.toNat_ofNat']
      omega
theorem dval_ge : ∀ (l : List UInt8) (acc : Nat), acc ≤ dval acc l
  | [], _ => Nat.le_refl _
  | c :: r, acc => by rw [dval_cons]; exact Nat.le_trans (by omega) (dval_ge r _)
theorem parse_dval : ∀ (l : List UInt8) (acc : Nat), (∀ c ∈ l, 48 ≤ c.toNat ∧ c.toNat ≤ 57) → dval acc l ≤ 999999 → Lib.parseUint10 acc l = .ok (dval acc l)
  | [], _, _, _ => rfl
  | c :: r, acc, h, hl => by
    have h1 := h c (by simp)
    rw [dval_cons] at hl ⊢
    have h2 : acc * 10 + (c.toNat - 48) ≤ 999999 := Nat.le_trans (dval_ge r _) hl
    rw [Lib.parseUint10, if_pos h1, if_neg (by omega), if_neg (by omega), parse_dval r _ (fun x hx => h x (by simp [hx])) hl]
theorem itoa_inj {m n : Int} (hm : 0 ≤ m) (hn : 0 ≤ n) (h : Lib.itoa m = Lib.itoa n) : m = n := by
  unfold Lib.itoa at h
  rw [if_neg (by omega), if_neg (by omega)] at h
  have := congrArg (dval 0) h
  rw [dval_dec, dval_dec] at this
  omega
theorem atoi_itoa {n : Int} (h0 : 0 ≤ n) (h1 : n ≤ 999999) : Lib.atoiAll (Lib.itoa n) = .ok n := by
  have hd := itoa_digit h0
  have hne := itoa_ne h0
  have hv : dval 0 (Lib.itoa n) = n.toNat := by
    unfold Lib.itoa
    rw [if_neg (by omega), dval_dec]
  cases hl : Lib.itoa n with
  | nil => exact absurd hl hne
  | cons c r =>
    have hc := hd c (by rw [hl]; simp)
    unfold Lib.atoiAll
    simp only
    have e : (if c.toNat = 43 ∨ c.toNat = 45 then r else c :: r) = Lib.itoa n := by rw [if_neg (by omega), hl]
    rw [e]
    unfold Lib.parseMag
    rw [if_neg hne, parse_dval _ 0 hd (by rw [hv]; omega), hv]
    simp only
    rw [if_neg (by omega), if_neg (by omega), if_neg (by omega)]
    congr 1
    omega
/-! Hexadecimal digits. -/
theorem hexD_val {d : Nat} (h : d < 16) : (hexD d).toNat = if d < 10 then 48 + d else 87 + d := by
  unfold hexD
  split <;> rw [UInt8.toNat_ofNat'] <;> omega
theorem hexD_inj {d e : Nat} (hd : d < 16) (he : e < 16) (h : hexD d = hexD e) : d = e := by
  have := congrArg UInt8.toNat h
  rw [hexD_val hd, hexD_val he] at this
  split at this <;> split at this <;> omega
theorem hexL_no (b : UInt8) (hb : b.toNat < 48) : ∀ (l : List UInt8), ∀ c ∈ hexL l, c ≠ b
  | [], c, h => by simp [hexL] at h
  | x :: r, c, h => by
    have h1 : x.toNat < 256 := x.toNat_lt
    simp only [hexL, List.mem_cons] at h
    rcases h with h | h | h
    · intro e
      have := congrArg UInt8.toNat (h.symm.trans e)
      rw [hexD_val (by omega)] at this
      split at this <;> omega
    · intro e
      have := congrArg UInt8.toNat (h.symm.trans e)
      rw [hexD_val (by omega)] at this
      split at this <;> omega
    · exact hexL_no b hb r c h
theorem hexT_no (b : UInt8) (hb : b.toNat < 45) (l : List UInt8) : ∀ c ∈ hexT l, c ≠ b := by
  unfold hexT
  split
  · intro c hc e
    rw [List.mem_singleton] at hc
    have := congrArg UInt8.toNat (hc.symm.trans e)
    have h45 : (45 : UInt8).toNat = 45 := rfl
    omega
  · exact hexL_no b (by omega) l
theorem hexL_inj : ∀ (l r : List UInt8), hexL l = hexL r → l = r
  | [], [], _ => rfl
  | [], b :: r, h => by simp [hexL] at h
  | a :: l, [], h => by simp [hexL] at h
  | a :: l, b :: r, h => by
    have ha : a.toNat < 256 := a.toNat_lt
    have hb : b.toNat < 256 := b.toNat_lt
    simp only [hexL, List.cons.injEq] at h
    have h1 := hexD_inj (by omega) (by omega) h.1
    have h2 := hexD_inj (by omega) (by omega) h.2.1
    rw [hexL_inj l r h.2.2]
    congr 1
    apply UInt8.toNat_inj.1
    omega
theorem hexL_head : ∀ (l : List UInt8), l ≠ [] → ∃ c r, hexL l = c :: r ∧ 48 ≤ c.toNat
  | [], h => absurd rfl h
  | a :: l, _ => ⟨_, _, rfl, by
    have ha : a.toNat < 256 := a.toNat_lt
    rw [hexD_val (by omega)]
    split <;> omega⟩
theorem hexT_inj {l r : List UInt8} (h : hexT l = hexT r) : l = r := by
  unfold hexT at h
  split at h
  · split at h
    · rename_i h1 h2; rw [h1, h2]
    · rename_i h1 h2
      obtain ⟨c, s, e, hc⟩ := hexL_head r h2
      rw [e] at h
      injection h with h
      have := congrArg UInt8.toNat h
      have h45 : (45 : UInt8).toNat = 45 := rfl
      omega
  · split at h
    · rename_i h1 h2
      obtain ⟨c, s, e, hc⟩ := hexL_head l h1
      rw [e] at h
      injection h with h
      have := congrArg UInt8.toNat h
      have h45 : (45 : UInt8).toNat = 45 := rfl
      omega
    · exact hexL_inj _ _ h
theorem word_no (k : Int) (b : UInt8) (hb : b.toNat < 97) : ∀ c ∈ plWord k, c ≠ b := by
  intro c hc e
  subst e
  unfold plWord at hc
  repeat (split at hc; · simp only [List.mem_cons, List.not_mem_nil, or_false] at hc; rcases hc with rfl | rfl | rfl | rfl <;> exact absurd hb (by decide))
  cases hc
theorem word_inj {j k : Int} (hj : 1 ≤ j ∧ j ≤ 7) (hk : 1 ≤ k ∧ k ≤ 7) (h : plWord j = plWord k) : j = k := by
  have hj' : j = 1 ∨ j = 2 ∨ j = 3 ∨ j = 4 ∨ j = 5 ∨ j = 6 ∨ j = 7 := by omega
  have hk' : k = 1 ∨ k = 2 ∨ k = 3 ∨ k = 4 ∨ k = 5 ∨ k = 6 ∨ k = 7 := by omega
  rcases hj' with rfl | rfl | rfl | rfl | rfl | rfl | rfl <;> rcases hk' with rfl | rfl | rfl | rfl | rfl | rfl | rfl <;> first | rfl | exact absurd h (by decide)
structure PAct.Ok (a : PAct) : Prop where
  k1 : 1 ≤ a.kind
  k7 : a.kind ≤ 7
  c0 : 0 ≤ a.conn
  c1 : a.conn ≤ 999999
  n0 : 0 ≤ a.n
  n1 : a.n ≤ 999999
  cc : plConn a.kind = true ∨ a.conn = 0
  nn : plNum a.kind = true ∨ a.n = 0
  bb : a.kind = 2 ∨ a.bytes = ⟨#[]⟩
theorem ok_iff {a : PAct} : a.ok = true ↔ a.Ok := by
  unfold PAct.ok
  rw [decide_eq_true_eq]
  exact ⟨fun ⟨h1, h2, h3, h4, h5, h6, h7, h8, h9⟩ => ⟨h1, h2, h3, h4, h5, h6, h7, h8, h9⟩, fun h => ⟨h.k1, h.k7, h.c0, h.c1, h.n0, h.n1, h.cc, h.nn, h.bb⟩⟩
/-- The line's words behind the first. -/
def PAct.rest (a : PAct) : List (List UInt8) :=
  (if plConn a.kind = true then [Lib.itoa a.conn] else []) ++ ((if plNum a.kind = true then [Lib.itoa a.n] else []) ++ (if a.kind = 2 then [hexT a.bytes.data.toList] else []))
def glue : List (List UInt8) → List UInt8
  | [] => []
  | x :: r => 32 :: (x ++ glue r)
theorem glue_app : ∀ (l r : List (List UInt8)), glue (l ++ r) = glue l ++ glue r
  | [], _ => rfl
  | x :: l, r => by rw [List.cons_append, glue, glue_app l r, glue]; simp
theorem head_glue (a : PAct) : a.head = plWord a.kind ++ glue a.rest := by
  unfold PAct.head PAct.rest
  rw [glue_app, glue_app]
  congr 1
  congr 1
  · split <;> simp [glue]
  · congr 1
    · split <;> simp [glue]
    · split <;> simp [glue]
theorem rest_no {a : PAct} (h : a.Ok) (b : UInt8) (hb : b.toNat < 45) : ∀ x ∈ a.rest, ∀ c ∈ x, c ≠ b := by
  intro x hx
  unfold PAct.rest at hx
  rcases List.mem_append.1 hx with hx | hx
  · split at hx
    · rw [List.mem_singleton] at hx; subst hx; exact itoa_no h.c0 b (by omega)
    · cases hx
  · rcases List.mem_append.1 hx with hx | hx
    · split at hx
      · rw [List.mem_singleton] at hx; subst hx; exact itoa_no h.n0 b (by omega)
      · cases hx
    · split at hx
      · rw [List.mem_singleton] at hx; subst hx; exact hexT_no b hb _
      · cases hx
theorem glue_inj : ∀ (l r : List (List UInt8)), (∀ x ∈ l, ∀ c ∈ x, c ≠ (32 : UInt8)) → (∀ x ∈ r, ∀ c ∈ x, c ≠ (32 : UInt8)) → glue l = glue r → l = r
  | [], [], _, _, _ => rfl
  | [], x :: r, _, _, h => by simp [glue] at h
  | x :: l, [], _, _, h => by simp [glue] at h
  | x :: l, y :: r, hl, hr, h => by
    simp only [glue, List.cons.injEq, true_and] at h
    have hx := hl x (by simp)
    have hy := hr y (by simp)
    have key : ∀ (z : List UInt8) (s : List (List UInt8)), (∀ c ∈ z, c ≠ (32 : UInt8)) → sp1 (z ++ glue s) = (z, (glue s).drop 1) := by
      intro z s hz
      cases s with
      | nil => rw [glue, List.append_nil, sp1_all z hz]; rfl
      | cons u s => rw [glue, sp1_app z _ hz]; rfl
    have e := congrArg sp1 h
    rw [key x l hx, key y r hy] at e
    injection e with e1 e2
    subst e1
    have h' := List.append_cancel_left h
    rw [glue_inj l r (fun z hz => hl z (by simp [hz])) (fun z hz => hr z (by simp [hz])) h']
theorem head_inj {a b : PAct} (ha : a.Ok) (hb : b.Ok) (h : a.head = b.head) : a = b := by
  rw [head_glue, head_glue] at h
  have e := glue_inj (plWord a.kind :: a.rest) (plWord b.kind :: b.rest) (fun x hx => by
    rcases List.mem_cons.1 hx with rfl | hx
    · exact word_no _ _ (by decide)
    · exact rest_no ha _ (by decide) x hx) (fun x hx => by
    rcases List.mem_cons.1 hx with rfl | hx
    · exact word_no _ _ (by decide)
    · exact rest_no hb _ (by decide) x hx) (by simp only [glue]; rw [h])
  injection e with e1 e2
  have hk := word_inj ⟨ha.k1, ha.k7⟩ ⟨hb.k1, hb.k7⟩ e1
  obtain ⟨k, c, n, ⟨bs⟩⟩ := a
  obtain ⟨k', c', n', ⟨bs'⟩⟩ := b
  have hk : k = k' := hk
  subst hk
  have ha1 := ha.cc; have ha2 := ha.nn; have ha3 := ha.bb; have ha4 := ha.c0; have ha5 := ha.n0
  have hb1 := hb.cc; have hb2 := hb.nn; have hb3 := hb.bb; have hb4 := hb.c0; have hb5 := hb.n0
  unfold PAct.rest at e2
  simp only at e2 ha1 ha2 ha3 hb1 hb2 hb3 ha4 ha5 hb4 hb5
  have hc : c = c' := by
    rcases ha1 with h1 | h1
    · rw [if_pos h1, if_pos h1] at e2
      injection e2 with e2 _
      exact itoa_inj ha4 hb4 e2
    · rcases hb1 with h2 | h2
      · rw [if_pos h2, if_pos h2] at e2
        injection e2 with e2 _
        exact itoa_inj ha4 hb4 e2
      · rw [h1, h2]
  subst hc
  have e3 := List.append_cancel_left e2
  have hn : n = n' := by
    rcases ha2 with h1 | h1
    · rw [if_pos h1, if_pos h1] at e3
      injection e3 with e3 _
      exact itoa_inj ha5 hb5 e3
    · rcases hb2 with h2 | h2
      · rw [if_pos h2, if_pos h2] at e3
        injection e3 with e3 _
        exact itoa_inj ha5 hb5 e3
      · rw [h1, h2]
  subst hn
  have e4 := List.append_cancel_left e3
  have hbs : (⟨bs⟩ : ByteArray) = ⟨bs'⟩ := by
    by_cases h2 : k = 2
    · rw [if_pos h2, if_pos h2] at e4
      injection e4 with e4 _
      have e5 := hexT_inj e4
      congr 1
      exact Array.toList_inj.1 e5
    · rcases ha3 with h3 | h3
      · exact absurd h3 h2
      · rcases hb3 with h4 | h4
        · exact absurd h4 h2
        · rw [h3, h4]
  rw [hbs]
theorem head_nl {a : PAct} (ha : a.Ok) : ∀ c ∈ a.head, c ≠ (10 : UInt8) := by
  rw [head_glue]
  intro c hc
  rcases List.mem_append.1 hc with hc | hc
  · exact word_no _ _ (by decide) c hc
  · have : ∀ (l : List (List UInt8)), (∀ x ∈ l, ∀ c ∈ x, c ≠ (10 : UInt8)) → ∀ c ∈ glue l, c ≠ (10 : UInt8) := by
      intro l
      induction l with
      | nil => intro _ c hc; cases hc
      | cons x l ih =>
        intro h c hc
        simp only [glue, List.mem_cons, List.mem_append] at hc
        rcases hc with rfl | hc | hc
        · decide
        · exact h x (by simp) c hc
        · exact ih (fun y hy => h y (by simp [hy])) c hc
    exact this a.rest (rest_no ha _ (by decide)) c hc
/-! Lines. -/
/-- What stands ahead of the first line's end, and behind it. -/
def nl1 : List UInt8 → Option (List UInt8 × List UInt8)
  | [] => none
  | c :: r => if c = 10 then some ([], r) else (nl1 r).map fun p => (c :: p.1, p.2)
theorem nl1_app : ∀ (l r : List UInt8), (∀ c ∈ l, c ≠ (10 : UInt8)) → nl1 (l ++ 10 :: r) = some (l, r)
  | [], r, _ => by simp [nl1]
  | c :: l, r, h => by
    rw [List.cons_append, nl1, if_neg (h c (by simp)), nl1_app l r (fun x hx => h x (by simp [hx]))]
    rfl
theorem nl1_some : ∀ {s h r : List UInt8}, nl1 s = some (h, r) → s = h ++ 10 :: r ∧ ∀ c ∈ h, c ≠ (10 : UInt8)
  | [], _, _, e => by simp [nl1] at e
  | c :: s, h, r, e => by
    rw [nl1] at e
    split at e
    · rename_i hc
      injection e with e
      injection e with e1 e2
      subst e1 e2 hc
      exact ⟨rfl, fun c hc => by cases hc⟩
    · rename_i hc
      cases hs : nl1 s with
      | none => rw [hs] at e; cases e
      | some p =>
        rw [hs] at e
        injection e with e
        injection e with e1 e2
        obtain ⟨h1, h2⟩ := nl1_some hs
        subst e1 e2
        refine ⟨by rw [h1]; simp, fun x hx => ?_⟩
        rcases List.mem_cons.1 hx with rfl | hx
        · exact hc
        · exact h2 x hx
theorem nl1_none : ∀ {s : List UInt8}, nl1 s = none ↔ ∀ c ∈ s, c ≠ (10 : UInt8)
  | [] => by simp [nl1]
  | c :: s => by
    rw [nl1]
    split
    · rename_i h; subst h; simp
    · rename_i h
      rw [Option.map_eq_none_iff, nl1_none (s := s)]
      simp [h]
open Classical in
/-- The act that a line is. -/
noncomputable def actOf (h : List UInt8) : Option PAct := if hh : ∃ a : PAct, a.Ok ∧ a.head = h then some hh.choose else none
theorem actOf_some {a : PAct} (h : a.Ok) : actOf a.head = some a := by
  have hh : ∃ b : PAct, b.Ok ∧ b.head = a.head := ⟨a, h, rfl⟩
  unfold actOf
  rw [dif_pos hh]
  congr 1
  exact head_inj hh.choose_spec.1 h hh.choose_spec.2
theorem actOf_of {a : PAct} {h : List UInt8} (e : actOf h = some a) : a.Ok ∧ a.head = h := by
  unfold actOf at e
  split at e
  · rename_i hh
    injection e with e
    subst e
    exact hh.choose_spec
  · cases e
theorem actOf_none {a : PAct} {h : List UInt8} (e : actOf h = none) (ha : a.Ok) : a.head ≠ h := by
  intro e2
  subst e2
  rw [actOf_some ha] at e
  cases e
/-- What a text is as a script: its acts; or where it is none. -/
inductive Prs where
  | ok (l : List PAct)
  | bad (n : Nat)
def Prs.put (a : PAct) (n : Nat) : Prs → Prs
  | .ok l => .ok (a :: l)
  | .bad m => .bad (n + m)
noncomputable def prs : Nat → List UInt8 → Prs
  | _, [] => .ok []
  | 0, _ :: _ => .bad 0
  | k + 1, c :: s => match nl1 (c :: s) with
    | none => .bad 0
    | some (h, r) => match actOf h with
      | none => .bad 0
      | some a => (prs k r).put a (h.length + 1)
noncomputable def prsL (s : List UInt8) : Prs := prs s.length s
theorem nl1_len {s h r : List UInt8} (e : nl1 s = some (h, r)) : s.length = h.length + 1 + r.length := by
  rw [(nl1_some e).1]
  simp
  omega
theorem prs_fuel : ∀ (k j : Nat) (s : List UInt8), s.length ≤ k → s.length ≤ j → prs k s = prs j s
  | k, j, [], _, _ => by cases k <;> cases j <;> rfl
  | k + 1, j + 1, c :: s, hk, hj => by
    rw [prs, prs]
    cases e : nl1 (c :: s) with
    | none => rfl
    | some p =>
      obtain ⟨h, r⟩ := p
      simp only
      have hl := nl1_len e
      simp only [List.length_cons] at hl hk hj
      cases actOf h with
      | none => rfl
      | some a => simp only; rw [prs_fuel k j r (by omega) (by omega)]
theorem prsL_nil : prsL [] = .ok [] := rfl
theorem prsL_none {s : List UInt8} (hs : s ≠ []) (e : nl1 s = none) : prsL s = .bad 0 := by
  cases s with
  | nil => exact absurd rfl hs
  | cons c s => unfold prsL; rw [List.length_cons, prs, e]
theorem prsL_bad {s h r : List UInt8} (e : nl1 s = some (h, r)) (ea : actOf h = none) : prsL s = .bad 0 := by
  cases s with
  | nil => cases e
  | cons c s => unfold prsL; rw [List.length_cons, prs, e]; simp only; rw [ea]
theorem prsL_put {s h r : List UInt8} {a : PAct} (e : nl1 s = some (h, r)) (ea : actOf h = some a) : prsL s = (prsL r).put a (h.length + 1) := by
  cases s with
  | nil => cases e
  | cons c s =>
    have hl := nl1_len e
    unfold prsL
    rw [List.length_cons, prs, e]
    simp only
    rw [ea]
    simp only
    rw [prs_fuel s.length r.length r (by simp only [List.length_cons] at hl; omega) (Nat.le_refl _)]
/-- A script's text. -/
def shw : List PAct → List UInt8
  | [] => []
  | a :: l => a.head ++ 10 :: shw l
theorem shw_app : ∀ (l r : List PAct), shw (l ++ r) = shw l ++ shw r
  | [], _ => rfl
  | a :: l, r => by rw [List.cons_append, shw, shw_app l r, shw]; simp
def Prs.puts (l : List PAct) (n : Nat) : Prs → Prs
  | .ok m => .ok (l ++ m)
  | .bad m => .bad (n + m)
/-- What is shown is read as it was, whatever stands behind. -/
theorem prs_shw : ∀ (l : List PAct) (s : List UInt8), (∀ a ∈ l, a.Ok) → prsL (shw l ++ s) = (prsL s).puts l (shw l).length
  | [], s, _ => by
    show prsL s = _
    cases prsL s <;> simp [Prs.puts, shw]
  | a :: l, s, h => by
    have ha := h a (by simp)
    have e : shw (a :: l) ++ s = a.head ++ 10 :: (shw l ++ s) := by rw [shw]; simp
    rw [e, prsL_put (nl1_app _ _ (head_nl ha)) (actOf_some ha), prs_shw l s (fun b hb => h b (by simp [hb]))]
    cases prsL s with
    | ok m => rfl
    | bad m =>
      simp only [Prs.puts, Prs.put, shw]
      congr 1
      simp
      omega
theorem prs_back : ∀ (k : Nat) (s : List UInt8), s.length ≤ k → ∀ l, prsL s = .ok l → shw l = s ∧ ∀ a ∈ l, a.Ok
  | 0, s, hk, l, e => by
    obtain rfl : s = [] := List.eq_nil_of_length_eq_zero (by omega)
    injection e with e
    subst e
    exact ⟨rfl, fun a h => by cases h⟩
  | k + 1, s, hk, l, e => by
    cases hs : nl1 s with
    | none =>
      by_cases h0 : s = []
      · subst h0
        injection e with e
        subst e
        exact ⟨rfl, fun a h => by cases h⟩
      · rw [prsL_none h0 hs] at e; cases e
    | some p =>
      obtain ⟨h, r⟩ := p
      cases ha : actOf h with
      | none => rw [prsL_bad hs ha] at e; cases e
      | some a =>
        rw [prsL_put hs ha] at e
        have hl := nl1_len hs
        cases hr : prsL r with
        | bad m => rw [hr] at e; cases e
        | ok m =>
          rw [hr] at e
          injection e with e
          subst e
          obtain ⟨h1, h2⟩ := prs_back k r (by omega) m hr
          obtain ⟨h3, h4⟩ := actOf_of ha
          refine ⟨by rw [shw, h1, h4, (nl1_some hs).1], fun b hb => ?_⟩
          rcases List.mem_cons.1 hb with rfl | hb
          · exact h3
          · exact h2 b hb
theorem prs_lt : ∀ (k : Nat) (s : List UInt8), s.length ≤ k → ∀ n, prsL s = .bad n → n < s.length
  | k, [], _, n, e => by cases e
  | 0, c :: s, hk, n, e => by simp at hk
  | k + 1, c :: s, hk, n, e => by
    cases hs : nl1 (c :: s) with
    | none => rw [prsL_none (by simp) hs] at e; injection e with e; subst e; simp
    | some p =>
      obtain ⟨h, r⟩ := p
      cases ha : actOf h with
      | none => rw [prsL_bad hs ha] at e; injection e with e; subst e; simp
      | some a =>
        rw [prsL_put hs ha] at e
        have hl := nl1_len hs
        cases hr : prsL r with
        | ok m => rw [hr] at e; cases e
        | bad m =>
          rw [hr] at e
          injection e with e
          subst e
          have := prs_lt k r (by omega) m hr
          omega
end Go.Proofs.YtiddhcabpmkolaaGreatDoor
