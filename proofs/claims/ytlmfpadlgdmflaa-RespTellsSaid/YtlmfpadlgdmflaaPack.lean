/-
  Numbers and texts in bytes, in plain Lean: what package pack computes. No program in sight.
-/
namespace Go.Proofs.Ytlmfpadlgdmflaa.Pk

/-- How many bytes a number has (at least one). -/
def width (n : Nat) : Nat :=
  if n < 256 then 1 else if n < 65536 then 2 else if n < 16777216 then 3 else if n < 4294967296 then 4
  else if n < 1099511627776 then 5 else if n < 281474976710656 then 6 else if n < 72057594037927936 then 7 else 8

theorem width_le (n : Nat) : width n ≤ 8 := by unfold width; (repeat' split) <;> omega

theorem width_more (n j : Nat) (h : j ≤ width n) (h8 : j < 8) (hn : ((n : Int) / 2 ^ (8 * j) != 0) = true) : j + 1 ≤ width n := by
  have h1 : ((n : Int) / 2 ^ (8 * j)) ≠ 0 := by simpa using hn
  unfold width at *
  rcases (show j = 0 ∨ j = 1 ∨ j = 2 ∨ j = 3 ∨ j = 4 ∨ j = 5 ∨ j = 6 ∨ j = 7 by omega) with rfl | rfl | rfl | rfl | rfl | rfl | rfl | rfl <;> simp only [Nat.reduceMul, Int.reducePow] at h1 <;> (repeat' split) <;> omega
theorem width_done (n j : Nat) (h : j ≤ width n) (hn : ((n : Int) / 2 ^ (8 * j) != 0) = false) (h0 : 0 < n) : j = width n := by
  have h1 : ((n : Int) / 2 ^ (8 * j)) = 0 := by simpa using hn
  have h8 := width_le n
  unfold width at *
  rcases (show j = 0 ∨ j = 1 ∨ j = 2 ∨ j = 3 ∨ j = 4 ∨ j = 5 ∨ j = 6 ∨ j = 7 ∨ j = 8 by omega) with rfl | rfl | rfl | rfl | rfl | rfl | rfl | rfl | rfl <;> simp only [Nat.reduceMul, Int.reducePow] at h1 <;> revert h <;> (repeat' split) <;> omega

/-- The k lowest bytes, the highest of them first. -/
def be : Nat → Nat → List UInt8
  | 0, _ => []
  | k + 1, n => UInt8.ofNat (n / 256 ^ k) :: be k n

theorem be_length (k n : Nat) : (be k n).length = k := by induction k with | zero => rfl | succ k ih => simp [be, ih]

/-- The bytes of a number. -/
def num (n : Int) : List UInt8 :=
  if n < 0 then [] else if n ≤ 247 then [UInt8.ofNat n.toNat] else UInt8.ofNat (247 + width n.toNat) :: be (width n.toNat) n.toNat

/-- A text's bytes. -/
def text (s : List UInt8) : List UInt8 := num s.length ++ s

/-- The number that some bytes are. -/
def val : Nat → List UInt8 → Nat
  | u, [] => u
  | u, c :: r => val (u * 256 + c.toNat) r

/-- The number at the front: it, how many bytes it takes, its error. -/
def front : List UInt8 → Int × Nat × Int
  | [] => (0, 0, 14)
  | c :: r =>
    if c.toNat ≤ 247 then ((c.toNat : Int), 1, 0)
    else if r.length < c.toNat - 247 then (0, 0, 14)
    else if r.head? = some 0 ∨ val 0 (r.take (c.toNat - 247)) ≤ 247 ∨ 9223372036854775808 ≤ val 0 (r.take (c.toNat - 247)) then (0, 0, 1)
    else ((val 0 (r.take (c.toNat - 247)) : Nat), 1 + (c.toNat - 247), 0)

/-- A reader: its bytes, its place, its first error. -/
structure St where
  l : List UInt8
  at_ : Nat
  err : Int
deriving DecidableEq

/-- The number that stands next. -/
def St.num (s : St) : Int × St :=
  if s.err ≠ 0 then (0, s)
  else
    let f := front (s.l.drop s.at_)
    if f.2.2 ≠ 0 then (0, { s with err := f.2.2 }) else (f.1, { s with at_ := s.at_ + f.2.1 })

/-- The text that stands next. -/
def St.text (s : St) (most : Int) : List UInt8 × St :=
  if s.err ≠ 0 then ([], s)
  else
    let f := front (s.l.drop s.at_)
    if f.2.2 ≠ 0 then ([], { s with err := f.2.2 })
    else if f.1 > (s.l.length : Int) - (s.at_ + f.2.1 : Nat) then ([], { s with err := 14 })
    else if f.1 > most then ([], { s with err := 2 })
    else (((s.l.drop (s.at_ + f.2.1)).take f.1.toNat), { s with at_ := s.at_ + f.2.1 + f.1.toNat })

def St.left (s : St) : Int := (s.l.length : Int) - s.at_

/-! ### How much a number takes -/
theorem front_cons (c : UInt8) (r : List UInt8) : front (c :: r) =
    if c.toNat ≤ 247 then ((c.toNat : Int), 1, 0)
    else if r.length < c.toNat - 247 then (0, 0, 14)
    else if r.head? = some 0 ∨ val 0 (r.take (c.toNat - 247)) ≤ 247 ∨ 9223372036854775808 ≤ val 0 (r.take (c.toNat - 247)) then (0, 0, 1)
    else ((val 0 (r.take (c.toNat - 247)) : Nat), 1 + (c.toNat - 247), 0) := rfl

/-- What front may answer. -/
theorem front_ways (l : List UInt8) : (∃ e, front l = (0, 0, e) ∧ (e = 14 ∨ e = 1)) ∨
    ∃ n k, front l = (n, k, 0) ∧ 0 ≤ n ∧ n ≤ 9223372036854775807 ∧ 0 < k ∧ k ≤ l.length := by
  cases l with
  | nil => exact .inl ⟨14, rfl, .inl rfl⟩
  | cons c r =>
    rw [front_cons]
    have := c.toNat_lt
    split
    · exact .inr ⟨_, _, rfl, by omega, by omega, by omega, by simp⟩
    · split
      · exact .inl ⟨_, rfl, .inl rfl⟩
      · split
        · exact .inl ⟨_, rfl, .inr rfl⟩
        · rename_i h
          simp only [not_or] at h
          exact .inr ⟨_, _, rfl, by omega, by omega, by omega, by simp; omega⟩

theorem val_snoc (u : Nat) (l : List UInt8) (c : UInt8) : val u (l ++ [c]) = val u l * 256 + c.toNat := by
  induction l generalizing u with
  | nil => rfl
  | cons d l ih => exact ih _

theorem val_take (r : List UInt8) (j : Nat) (h : j < r.length) : val 0 (r.take (j + 1)) = val 0 (r.take j) * 256 + (r[j]?.getD 0).toNat := by
  rw [List.take_succ_eq_append_getElem h, val_snoc, List.getElem?_eq_getElem h]
  rfl

theorem val_lt (l : List UInt8) : val 0 l < 256 ^ l.length := by
  have key : ∀ (l : List UInt8) (u : Nat), val u l < (u + 1) * 256 ^ l.length := by
    intro l
    induction l with
    | nil => intro u; simp [val]
    | cons c l ih =>
      intro u
      have h1 := ih (u * 256 + c.toNat)
      have h2 := c.toNat_lt
      have h3 : (u * 256 + c.toNat + 1) * 256 ^ l.length ≤ (u + 1) * 256 ^ (l.length + 1) := by
        rw [Nat.pow_succ, Nat.mul_comm (256 ^ l.length) 256, ← Nat.mul_assoc]
        exact Nat.mul_le_mul_right _ (by omega)
      exact Nat.lt_of_lt_of_le h1 h3
  have := key l 0
  omega

theorem val_take_lt (r : List UInt8) (j : Nat) (h : j ≤ 7) : val 0 (r.take j) < 72057594037927936 := by
  have h1 := val_lt (r.take j)
  have h2 : (r.take j).length ≤ 7 := by simp; omega
  have h3 : 256 ^ (r.take j).length ≤ 256 ^ 7 := Nat.pow_le_pow_right (by omega) h2
  omega

theorem front_long {x : UInt8} {r : List UInt8} {j : Nat} {V Y : Int} (hj : j + 247 = x.toNat) (hk : ¬ r.length < x.toNat - 247) (hs : ¬ x.toNat ≤ 247) (hV : V = (val 0 (r.take j) : Nat)) (hY : Y = ((r[0]?.getD 0).toNat : Int)) :
    (Y = 0 ∨ V ≤ 247 ∨ 9223372036854775808 ≤ V → front (x :: r) = (0, 0, 1)) ∧ (¬ Y = 0 → 247 < V → V < 9223372036854775808 → front (x :: r) = (V, 1 + j, 0)) := by
  have e1 : x.toNat - 247 = j := by omega
  have e2 : r.head? = some 0 ↔ Y = 0 := by
    cases r with
    | nil => simp at hk; omega
    | cons c r =>
      simp at hY
      simp
      rw [hY, ← UInt8.toNat_inj]
      simp
  rw [front_cons, if_neg hs, if_neg hk, e1]
  constructor
  · intro h
    rw [if_pos (by rw [e2]; omega)]
  · intro h1 h2 h3
    rw [if_neg (by rw [e2]; omega), hV]

theorem be_get (n : Nat) : ∀ (k p : Nat), p < k → (be k n)[k - (p + 1)]? = some (UInt8.ofNat (n / 256 ^ p))
  | 0, _, h => absurd h (by omega)
  | k + 1, p, h => by
    by_cases e : p = k
    · subst e
      simp [be]
    · rw [show k + 1 - (p + 1) = (k - (p + 1)) + 1 from by omega]
      simp only [be, List.getElem?_cons_succ]
      exact be_get n k p (by omega)
theorem be_take (n k p : Nat) (h : p < k) : (be k n).take (k - p) = (be k n).take (k - (p + 1)) ++ [UInt8.ofNat (n / 256 ^ p)] := by
  have hl : k - (p + 1) < (be k n).length := by rw [be_length]; omega
  rw [show k - p = k - (p + 1) + 1 from by omega, List.take_succ_eq_append_getElem hl]
  congr 2
  have := be_get n k p h
  rw [List.getElem?_eq_getElem hl] at this
  injection this

theorem num_length_le (n : Int) : (num n).length ≤ 9 := by
  unfold num
  have := width_le n.toNat
  split
  · simp
  · split
    · simp
    · simp [be_length]; omega

theorem width_of (n k : Nat) (h1 : 1 ≤ k) (h8 : k ≤ 8) (hlo : 256 ^ (k - 1) ≤ n) (hhi : n < 256 ^ k) : width n = k := by
  unfold width
  rcases (show k = 1 ∨ k = 2 ∨ k = 3 ∨ k = 4 ∨ k = 5 ∨ k = 6 ∨ k = 7 ∨ k = 8 by omega) with rfl | rfl | rfl | rfl | rfl | rfl | rfl | rfl <;> simp only [Nat.reduceSub, Nat.reducePow] at hlo hhi <;> (repeat' split) <;> omega

theorem val_acc : ∀ (l : List UInt8) (u : Nat), val u l = u * 256 ^ l.length + val 0 l
  | [], u => by simp [val]
  | c :: l, u => by
    simp only [val, List.length_cons]
    rw [val_acc l (u * 256 + c.toNat), val_acc l (0 * 256 + c.toNat), Nat.pow_succ, Nat.add_mul, Nat.zero_mul, Nat.zero_add, Nat.mul_assoc, Nat.mul_comm 256, Nat.add_assoc]

theorem be_val : ∀ (l : List UInt8) (u : Nat), be l.length (u * 256 ^ l.length + val 0 l) = l
  | [], _ => rfl
  | c :: l, u => by
    have hv := val_lt l
    have hpos : 0 < 256 ^ l.length := Nat.pow_pos (by omega)
    have e : u * 256 ^ (l.length + 1) + val 0 (c :: l) = (u * 256 + c.toNat) * 256 ^ l.length + val 0 l := by
      simp only [val]
      rw [val_acc l (0 * 256 + c.toNat), Nat.pow_succ, Nat.zero_mul, Nat.zero_add, Nat.add_mul, ← Nat.add_assoc]
      congr 2
      rw [Nat.mul_assoc, Nat.mul_comm 256]
    simp only [List.length_cons, be]
    rw [e, be_val l (u * 256 + c.toNat)]
    congr 1
    rw [Nat.mul_comm, Nat.mul_add_div hpos, Nat.div_eq_of_lt hv, Nat.add_zero]
    rw [← UInt8.toNat_inj]
    have := c.toNat_lt
    simp

/-- A number has one form. -/
theorem num_front (l : List UInt8) (n : Int) (k : Nat) (h : front l = (n, k, 0)) : num n = l.take k := by
  cases l with
  | nil => simp [front] at h
  | cons c r =>
    rw [front_cons] at h
    have hc := c.toNat_lt
    by_cases h1 : c.toNat ≤ 247
    · rw [if_pos h1] at h
      simp only [Prod.mk.injEq, and_true] at h
      obtain ⟨rfl, rfl⟩ := h
      unfold num
      rw [if_neg (by omega), if_pos (by omega)]
      simp
    · rw [if_neg h1] at h
      by_cases h2 : r.length < c.toNat - 247
      · rw [if_pos h2] at h
        simp at h
      · rw [if_neg h2] at h
        generalize hK : c.toNat - 247 = K at h h2
        by_cases h3 : r.head? = some 0 ∨ val 0 (r.take K) ≤ 247 ∨ 9223372036854775808 ≤ val 0 (r.take K)
        · rw [if_pos h3] at h
          simp at h
        · rw [if_neg h3] at h
          simp only [Prod.mk.injEq, and_true] at h
          obtain ⟨rfl, rfl⟩ := h
          simp only [not_or] at h3
          obtain ⟨h3, h4, h5⟩ := h3
          have hlen : (r.take K).length = K := by simp; omega
          have hhi := val_lt (r.take K)
          rw [hlen] at hhi
          have hw : width (val 0 (r.take K)) = K := by
            refine width_of _ _ (by omega) (by omega) ?_ hhi
            cases r with
            | nil => simp at h2; omega
            | cons d r =>
              obtain ⟨K, rfl⟩ : ∃ K', K = K' + 1 := ⟨K - 1, by omega⟩
              have hd : d ≠ 0 := by simpa using h3
              have hd0 : 0 < d.toNat := by
                rcases Nat.eq_zero_or_pos d.toNat with h | h
                · exact absurd (UInt8.toNat_inj.1 (by simpa using h)) hd
                · exact h
              simp only [List.take_succ_cons, val, Nat.add_sub_cancel]
              rw [val_acc]
              have hl2 : (r.take K).length = K := by simp at hlen; simp; omega
              rw [hl2, Nat.zero_mul, Nat.zero_add]
              have : 1 * 256 ^ K ≤ d.toNat * 256 ^ K := Nat.mul_le_mul_right _ hd0
              omega
          unfold num
          rw [if_neg (by omega), if_neg (by omega), Int.toNat_natCast, hw]
          have hb := be_val (r.take K) 0
          rw [hlen, Nat.zero_mul, Nat.zero_add] at hb
          rw [hb, Nat.add_comm 1 K, List.take_succ_cons]
          have e : UInt8.ofNat (247 + K) = c := by
            apply UInt8.toNat_inj.1
            rw [UInt8.toNat_ofNat']
            omega
          rw [e]

theorem width_lt (n : Nat) (h : n < 18446744073709551616) : n < 256 ^ width n := by
  unfold width
  (repeat' split) <;> omega
theorem width_ge (n : Nat) (h : 0 < n) : 256 ^ (width n - 1) ≤ n := by
  unfold width
  (repeat' split) <;> omega
theorem width_up (n j V : Nat) (hV : V = n / 256 ^ j) (h0 : 0 < V) (hn : n < 18446744073709551616) : j + 1 ≤ width n := by
  rcases Nat.lt_or_ge j (width n) with h | h
  · exact h
  · exfalso
    have h1 := width_lt n hn
    have h2 : 256 ^ width n ≤ 256 ^ j := Nat.pow_le_pow_right (by omega) h
    rw [Nat.div_eq_of_lt (by omega)] at hV
    omega
theorem width_end (n j V : Nat) (hV : V = n / 256 ^ j) (h0 : V = 0) (hj : j ≤ width n) (hn : 0 < n) : j = width n := by
  rcases Nat.lt_or_ge j (width n) with h | h
  · exfalso
    have h1 := width_ge n hn
    have h2 : 256 ^ j ≤ 256 ^ (width n - 1) := Nat.pow_le_pow_right (by omega) (by omega)
    have h3 : 0 < n / 256 ^ j := Nat.div_pos (by omega) (Nat.pow_pos (by omega))
    omega
  · omega

theorem val_be (n : Nat) : ∀ k, val 0 (be k n) = n % 256 ^ k
  | 0 => by simp [be, val, Nat.mod_one]
  | k + 1 => by
    simp only [be, val]
    rw [val_acc, val_be n k, be_length, Nat.zero_mul, Nat.zero_add, UInt8.toNat_ofNat']
    have e : n % (256 ^ k * 256) = n % 256 ^ k + 256 ^ k * (n / 256 ^ k % 256) := Nat.mod_mul
    have e2 : 256 ^ (k + 1) = 256 ^ k * 256 := Nat.pow_succ ..
    have e3 : (2 ^ 8 : Nat) = 256 := rfl
    rw [e2, e, e3, Nat.add_comm, Nat.mul_comm]

theorem front_num (n : Int) (rest : List UInt8) (h0 : 0 ≤ n) (h1 : n ≤ 9223372036854775807) : front (num n ++ rest) = (n, (num n).length, 0) := by
  by_cases h : n ≤ 247
  · have e : num n = [UInt8.ofNat n.toNat] := by unfold num; rw [if_neg (by omega), if_pos h]
    have hc : (UInt8.ofNat n.toNat).toNat = n.toNat := by rw [UInt8.toNat_ofNat']; omega
    rw [e, List.singleton_append, front_cons, hc, if_pos (by omega)]
    simp
    omega
  · obtain ⟨N, rfl⟩ := Int.eq_ofNat_of_zero_le h0
    have hN : 0 < N := by omega
    have e : num (N : Int) = UInt8.ofNat (247 + width N) :: be (width N) N := by unfold num; rw [if_neg (by omega), if_neg h, Int.toNat_natCast]
    have hw := width_le N
    have hw1 := width_lt N (by omega)
    have hw2 := width_ge N hN
    have hw0 : 0 < width N := by unfold width; (repeat' split) <;> omega
    have hv := val_be N (width N)
    rw [Nat.mod_eq_of_lt hw1] at hv
    have hc : (UInt8.ofNat (247 + width N)).toNat = 247 + width N := by rw [UInt8.toNat_ofNat']; omega
    have hlen := be_length (width N) N
    have htake : (be (width N) N ++ rest).take (width N) = be (width N) N := by
      rw [List.take_append_of_le_length (by omega), List.take_of_length_le (by omega)]
    have hhead : (be (width N) N ++ rest).head? ≠ some 0 := by
      obtain ⟨k, hk⟩ : ∃ k, width N = k + 1 := ⟨width N - 1, by omega⟩
      rw [hk] at hw1 hw2 ⊢
      simp only [be, List.cons_append, List.head?_cons]
      intro hh
      injection hh with hh
      have h3 := congrArg UInt8.toNat hh
      rw [UInt8.toNat_ofNat', Nat.add_sub_cancel] at *
      have h4 : N / 256 ^ k < 256 := by rw [Nat.div_lt_iff_lt_mul (Nat.pow_pos (by omega)), ← Nat.pow_succ']; exact hw1
      have h5 : 0 < N / 256 ^ k := Nat.div_pos hw2 (Nat.pow_pos (by omega))
      rw [Nat.mod_eq_of_lt h4] at h3
      have h6 : (0 : UInt8).toNat = 0 := rfl
      omega
    rw [e, List.cons_append, front_cons, hc, if_neg (by omega), if_neg (by rw [List.length_append]; omega), show 247 + width N - 247 = width N from by omega, htake, hv, if_neg (by
      rintro (h2 | h2 | h2)
      · exact hhead h2
      · omega
      · omega)]
    simp [hlen]
    omega

theorem num_pos (n : Int) (h : 0 ≤ n) : 0 < (num n).length := by
  unfold num
  rw [if_neg (by omega)]
  split <;> simp

/-- A number that was put is read as it was. -/
theorem num_read (D : List UInt8) (a : Nat) (n : Int) (rest : List UInt8) (h0 : 0 ≤ n) (h1 : n ≤ 9223372036854775807) (hd : D.drop a = num n ++ rest) : St.num ⟨D, a, 0⟩ = (n, ⟨D, a + (num n).length, 0⟩) := by
  unfold St.num
  rw [if_neg (by simp)]
  simp only [hd, front_num n rest h0 h1]
  rw [if_neg (by simp)]

theorem text_read (D : List UInt8) (a : Nat) (s rest : List UInt8) (most : Int) (h0 : s.length ≤ 9223372036854775807) (hm : (s.length : Int) ≤ most) (hd : D.drop a = text s ++ rest) : St.text ⟨D, a, 0⟩ most = (s, ⟨D, a + (text s).length, 0⟩) := by
  unfold St.text
  have hf := front_num (s.length : Int) (s ++ rest) (by omega) (by omega)
  have hd' : D.drop a = num (s.length : Int) ++ (s ++ rest) := by rw [hd, text, List.append_assoc]
  have hlen := congrArg List.length hd'
  have hpos := num_pos (s.length : Int) (by omega)
  rw [List.length_drop, List.length_append, List.length_append] at hlen
  have hdd : D.drop (a + (num (s.length : Int)).length) = s ++ rest := by
    rw [← List.drop_drop, hd', List.drop_left]
  rw [if_neg (by simp)]
  simp only [hd', hf]
  rw [if_neg (by simp), if_neg (by omega), if_neg (by omega), hdd, Int.toNat_natCast, List.take_left, text, List.length_append, Nat.add_assoc]

/-- A text cut off by a byte is none. -/
theorem text_cut (s : List UInt8) (most : Int) (hs : s.length ≤ 9223372036854775807) : St.text ⟨(text s).take ((text s).length - 1), 0, 0⟩ most = ([], ⟨(text s).take ((text s).length - 1), 0, 14⟩) := by
  unfold St.text
  rw [if_neg (by simp)]
  simp only [List.drop_zero]
  cases s with
  | nil =>
    have e : text [] = [0] := by decide
    rw [e]
    simp [front]
  | cons c s =>
    have e : (text (c :: s)).take ((text (c :: s)).length - 1) = num ((c :: s).length : Int) ++ (c :: s).take s.length := by
      unfold text
      rw [List.length_append, List.length_cons, show (num (((s.length + 1 : Nat)) : Int)).length + (s.length + 1) - 1 = (num ((s.length + 1 : Nat) : Int)).length + s.length from by omega, List.take_length_add_append]
    rw [e, front_num _ _ (by omega) (by omega)]
    simp only
    rw [if_neg (by simp), if_pos ?_]
    rw [List.length_append, List.length_take]
    simp
    omega
end Go.Proofs.Ytlmfpadlgdmflaa.Pk
