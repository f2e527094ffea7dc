/-
  play: the reference's half, num, dec walked. play: the reference's num, dec walked. play: the reference's hex walked.
-/
import Derived.Test.YtiddhcabpmkolaaGreatDoorZPlG
set_option linter.unusedSimpArgs false
set_option linter.unusedVariables false
namespace Go.Proofs.YtiddhcabpmkolaaGreatDoor
open Go.RowKit
set_option maxRecDepth 100000
open Go
section
variable {P : Program} {w : World} {a b : Int}
theorem run_u8i64 {a : Int} (h : 0 ≤ a ∧ a ≤ 255) : (convert 5 3 (.int .u8 a)).run Tryz.prog w = .ok (.int .i64 a) w := by
  go_simp
  exact IntWalk.i64_in a (by omega)
end
def halfR (c : UInt8) : Int := if 48 ≤ c.toNat ∧ c.toNat ≤ 57 then (c.toNat : Int) - 48 else if 97 ≤ c.toNat ∧ c.toNat ≤ 102 then (c.toNat : Int) - 97 + 10 else -1
set_option maxHeartbeats 1600000 in
theorem rf_half (c : UInt8) (w : World) : Calls Tryz.prog 43 #[.int .u8 (c.toNat : Int)] w fun e w' => e = .returned (.int .i64 (halfR c)) ∧ w' = w := by
  have hlt := c.toNat_lt
  obtain ⟨R, hR⟩ : ∃ R, halfR c = R := ⟨_, rfl⟩
  rw [hR]
  have HR := Lib.hid hR
  clear hR
  obtain ⟨t1, ht1⟩ : ∃ t, decide ((48 : Int) ≤ (c.toNat : Int)) = t := ⟨_, rfl⟩
  obtain ⟨t2, ht2⟩ : ∃ t, decide ((c.toNat : Int) ≤ (57 : Int)) = t := ⟨_, rfl⟩
  obtain ⟨t3, ht3⟩ : ∃ t, decide ((97 : Int) ≤ (c.toNat : Int)) = t := ⟨_, rfl⟩
  obtain ⟨t4, ht4⟩ : ∃ t, decide ((c.toNat : Int) ≤ (102 : Int)) = t := ⟨_, rfl⟩
  have hno : ((t1 && t2) = false) → (t3 && t4) = false → R = -1 := fun h1 h2 => by
    subst ht1 ht2 ht3 ht4
    simp at h1 h2
    rw [← HR.out]
    unfold halfR
    rw [if_neg (by omega), if_neg (by omega)]
  have hA : t1 = true → t2 = true → R = (c.toNat : Int) - 48 := fun h1 h2 => by
    subst ht1 ht2
    simp at h1 h2
    rw [← HR.out]; unfold halfR; rw [if_pos ⟨by omega, by omega⟩]
  have hB : (t1 && t2) = false → t3 = true → t4 = true → R = (c.toNat : Int) - 97 + 10 := fun h0 h1 h2 => by
    subst ht1 ht2 ht3 ht4
    simp at h0 h1 h2
    rw [← HR.out]; unfold halfR; rw [if_neg (by omega), if_pos ⟨by omega, by omega⟩]
  clear HR
  have hc1 := c.toNat_lt
  refine calls_kn Tryz.func43 rfl Tryz.ntmps43 rfl ?_
  refine gg ?_
  cases t1
  case true =>
    refine gg ?_
    cases t2
    case true =>
      have h1 := of_decide_eq_true ht1
      have h2 := of_decide_eq_true ht2
      refine gg ?_
      refine kp ?_ (oK (run_sub (kk := .u8) (a := (c.toNat : Int)) (b := 48) (r := (c.toNat : Int) - 48) (by rw [IntKind.wrap_u8']; omega)))
      refine gg ?_
      refine kp ?_ (oCv (v := .int .i64 ((c.toNat : Int) - 48)) (hr := run_u8i64 (by omega)))
      refine gg ?_
      refine KR.fin1 Tryz.results43 rfl ⟨by rw [hA rfl rfl], rfl⟩
    refine gg ?_
    cases t3
    case true =>
      refine gg ?_
      cases t4
      case true =>
        have h1 := of_decide_eq_true ht3
        have h2 := of_decide_eq_true ht4
        refine gg ?_
        refine kp ?_ (oK (run_sub (kk := .u8) (a := (c.toNat : Int)) (b := 97) (r := (c.toNat : Int) - 97) (by rw [IntKind.wrap_u8']; omega)))
        refine gg ?_
        refine kp ?_ (oCv (v := .int .i64 ((c.toNat : Int) - 97)) (hr := run_u8i64 (by omega)))
        refine gg ?_
        refine KR.fin1 Tryz.results43 rfl ⟨by rw [hB rfl rfl rfl], rfl⟩
      refine gg ?_
      refine KR.fin1 Tryz.results43 rfl ⟨by rw [hno rfl rfl], rfl⟩
    refine gg ?_
    refine KR.fin1 Tryz.results43 rfl ⟨by rw [hno rfl rfl], rfl⟩
  refine gg ?_
  cases t3
  case true =>
    refine gg ?_
    cases t4
    case true =>
      have h1 := of_decide_eq_true ht3
      have h2 := of_decide_eq_true ht4
      refine gg ?_
      refine kp ?_ (oK (run_sub (kk := .u8) (a := (c.toNat : Int)) (b := 97) (r := (c.toNat : Int) - 97) (by rw [IntKind.wrap_u8']; omega)))
      refine gg ?_
      refine kp ?_ (oCv (v := .int .i64 ((c.toNat : Int) - 97)) (hr := run_u8i64 (by omega)))
      refine gg ?_
      refine KR.fin1 Tryz.results43 rfl ⟨by rw [hB rfl rfl rfl], rfl⟩
    refine gg ?_
    refine KR.fin1 Tryz.results43 rfl ⟨by rw [hno rfl rfl], rfl⟩
  refine gg ?_
  refine KR.fin1 Tryz.results43 rfl ⟨by rw [hno rfl rfl], rfl⟩
def dgt (c : UInt8) : Bool := decide (48 ≤ c.toNat ∧ c.toNat ≤ 57)
def valL (l : List UInt8) : Nat := l.foldl (fun v c => 10 * v + (c.toNat - 48)) 0
theorem valL_snoc (l : List UInt8) (c : UInt8) : valL (l ++ [c]) = 10 * valL l + (c.toNat - 48) := by simp [valL, List.foldl_append]
theorem val_lt : ∀ (l : List UInt8) (v : Nat), (∀ c ∈ l, dgt c = true) → l.foldl (fun v c => 10 * v + (c.toNat - 48)) v < (v + 1) * 10 ^ l.length
  | [], v, _ => by simp
  | c :: l, v, h => by
    rw [List.foldl_cons, List.length_cons]
    have h1 := val_lt l (10 * v + (c.toNat - 48)) (fun x hx => h x (by simp [hx]))
    have h2 : dgt c = true := h c (by simp)
    unfold dgt at h2
    have h3 := of_decide_eq_true h2
    have h4 : (10 * v + (c.toNat - 48) + 1) * 10 ^ l.length ≤ (10 * (v + 1)) * 10 ^ l.length := Nat.mul_le_mul_right _ (by omega)
    have h5 : (10 * (v + 1)) * 10 ^ l.length = (v + 1) * 10 ^ (l.length + 1) := by rw [Nat.pow_succ, Nat.mul_comm 10 (v + 1), Nat.mul_assoc, Nat.mul_comm 10]
    omega
theorem valL_lt {l : List UInt8} (h : ∀ c ∈ l, dgt c = true) (h6 : l.length ≤ 6) : valL l < 1000000 := by
  have h1 := val_lt l 0 h
  have h2 : 10 ^ l.length ≤ 10 ^ 6 := Nat.pow_le_pow_right (by omega) h6
  unfold valL
  omega
def numR (l : List UInt8) : Int := if l.length < 1 ∨ 6 < l.length then -1 else if l.all dgt = true then (valL l : Int) else -1
theorem dec_val (n : Nat) : (∀ c ∈ Lib.decDigits n, dgt c = true) ∧ valL (Lib.decDigits n) = n ∧ 1 ≤ (Lib.decDigits n).length := by
  induction n using Nat.strongRecOn with
  | _ n ih =>
    have hd : ∀ m, m < 10 → (UInt8.ofNat (48 + m)).toNat = 48 + m := fun m hm => by
      rw [UInt8.toNat_ofNat']
      exact Nat.mod_eq_of_lt (by omega)
    by_cases h : n < 10
    · rw [Lib.decDigits, dif_pos h]
      refine ⟨fun c hc => ?_, ?_, by simp⟩
      · rw [List.mem_singleton.1 hc]; unfold dgt; rw [hd n h]; simp; omega
      · show 10 * 0 + ((UInt8.ofNat (48 + n)).toNat - 48) = n
        rw [hd n h]; omega
    · obtain ⟨h1, h2, h3⟩ := ih (n / 10) (by omega)
      rw [Lib.decDigits, dif_neg h]
      refine ⟨fun c hc => ?_, ?_, by rw [List.length_append]; omega⟩
      · rcases List.mem_append.1 hc with hc | hc
        · exact h1 c hc
        · rw [List.mem_singleton.1 hc]; unfold dgt; rw [hd _ (by omega)]; simp; omega
      · rw [valL_snoc, h2, hd _ (by omega)]; omega
theorem dec_len (n k : Nat) (h : n < 10 ^ (k + 1)) : (Lib.decDigits n).length ≤ k + 1 := by
  induction k generalizing n with
  | zero => rw [Lib.decDigits, dif_pos (by omega)]; simp
  | succ k ih =>
    by_cases h10 : n < 10
    · rw [Lib.decDigits, dif_pos h10]; simp
    · rw [Lib.decDigits, dif_neg h10, List.length_append]
      have := ih (n / 10) (by rw [Nat.pow_succ] at h; omega)
      simp; omega
theorem numR_itoa {n : Int} (h0 : 0 ≤ n) (h1 : n ≤ 999999) : numR (Lib.itoa n) = n := by
  unfold Lib.itoa
  rw [if_neg (by omega)]
  obtain ⟨e1, e2, e3⟩ := dec_val n.toNat
  have e4 := dec_len n.toNat 5 (by show n.toNat < 1000000; omega)
  unfold numR
  rw [if_neg (by omega), if_pos (List.all_eq_true.2 e1), e2]
  omega
theorem numR_le (l : List UInt8) : -1 ≤ numR l ∧ numR l ≤ 999999 := by
  unfold numR
  split
  · omega
  · split
    · rename_i h1 h2
      have := valL_lt (List.all_eq_true.1 h2) (by omega)
      omega
    · omega
end Go.Proofs.YtiddhcabpmkolaaGreatDoor
set_option linter.unusedSimpArgs false
set_option linter.unusedVariables false
namespace Go.Proofs.YtiddhcabpmkolaaGreatDoor
open Go.RowKit
set_option maxRecDepth 100000
open Go
set_option maxHeartbeats 1600000 in
theorem rf_num (s : ByteArray) (w : World) (hs : s.size ≤ 100000) : Calls Tryz.prog 42 #[.string s] w fun e w' => e = .returned (.int .i64 (numR (kb s))) ∧ w' = w := by
  obtain ⟨R, hR⟩ : ∃ R, numR (kb s) = R := ⟨_, rfl⟩
  rw [hR]
  have HR := Lib.hid hR
  have Hz := Lib.hid (kb_len s)
  clear hR
  obtain ⟨t1, ht1⟩ : ∃ t, decide ((s.size : Int) < (1 : Int)) = t := ⟨_, rfl⟩
  obtain ⟨t2, ht2⟩ : ∃ t, decide ((6 : Int) < (s.size : Int)) = t := ⟨_, rfl⟩
  refine calls_kn Tryz.func42 rfl Tryz.ntmps42 rfl ?_
  refine gg ?_
  cases t1
  case true =>
    have h1 := of_decide_eq_true ht1
    refine gg ?_
    refine KR.fin1 Tryz.results42 rfl ⟨by rw [← HR.out]; unfold numR; rw [if_pos (.inl (by rw [Hz.out]; omega))], rfl⟩
  have h1 := of_decide_eq_false ht1
  refine gg ?_
  cases t2
  case true =>
    have h2 := of_decide_eq_true ht2
    refine gg ?_
    refine KR.fin1 Tryz.results42 rfl ⟨by rw [← HR.out]; unfold numR; rw [if_pos (.inr (by rw [Hz.out]; omega))], rfl⟩
  have h2 := of_decide_eq_false ht2
  have hR2 : Hid (R = if (kb s).all dgt = true then (valL (kb s) : Int) else -1) := Lib.hid (by
    rw [← HR.out]; unfold numR; rw [if_neg (by rw [Hz.out]; omega)])
  refine gg ?_
  refine KW.loop (ι := Nat) (fun i => [(0, .string s), (3, .int .i64 ((valL ((kb s).take i) : Nat) : Int)), (4, .int .i64 (i : Int))]) (fun i w' => i ≤ s.size ∧ w' = w ∧ Hid (∀ c ∈ (kb s).take i, dgt c = true)) (fun i => s.size - i) 0 ⟨Nat.zero_le _, rfl, Lib.hid (fun a ha => by cases ha)⟩ (kle_ok (by repeat' (first | exact trivial | refine ⟨rfl, ?_⟩))) ?_
  rintro i w1 ⟨hi, e1, hall⟩
  obtain rfl := e1.symm
  clear e1
  by_cases hlt : i < s.size
  · have hd : decide ((i : Int) < (s.size : Int)) = true := by simp; omega
    have hsl : s.data.toList.length = s.size := by simp
    obtain ⟨c, hc⟩ : ∃ c, s.data.toList[i]? = some c := ⟨_, List.getElem?_eq_getElem (by omega)⟩
    clear hsl
    have hk : (kb s).take (i + 1) = (kb s).take i ++ [c] := by
      rw [List.take_add_one]
      show _ ++ (s.data.toList[i]?).toList = _
      rw [hc]; rfl
    have hmem : c ∈ kb s := List.mem_of_getElem? (show (kb s)[i]? = some c from hc)
    have hv := valL_lt hall.out (by rw [List.length_take]; omega)
    obtain ⟨V, hV⟩ : ∃ V, valL ((kb s).take i) = V := ⟨_, rfl⟩
    have hk2 : valL ((kb s).take (i + 1)) = 10 * V + (c.toNat - 48) := by rw [hk, valL_snoc, hV]
    rw [hV] at hv
    rw [hV]
    have Hc := Lib.hid hc
    have Hk2 := Lib.hid hk2
    have Hk := Lib.hid hk
    have Hm := Lib.hid hmem
    clear hc hk2 hk hV hmem
    obtain ⟨t3, ht3⟩ : ∃ t, decide ((c.toNat : Int) < (48 : Int)) = t := ⟨_, rfl⟩
    obtain ⟨t4, ht4⟩ : ∃ t, decide ((57 : Int) < (c.toNat : Int)) = t := ⟨_, rfl⟩
    have hno : dgt c = false → R = -1 := fun h => by
      rw [hR2.out, if_neg]
      intro hh
      have := List.all_eq_true.1 hh c Hm.out
      rw [h] at this; cases this
    have hall2 : dgt c = true → Hid (∀ x ∈ (kb s).take (i + 1), dgt x = true) := fun h => Lib.hid (fun x hx => by
      rw [Hk.out] at hx
      rcases List.mem_append.1 hx with hx | hx
      · exact hall.out x hx
      · rw [List.mem_singleton.1 hx]; exact h)
    refine gg ?_
    refine kp ?_ (oJ Hc.out)
    refine gg ?_
    cases t3
    case true =>
      have h3 := of_decide_eq_true ht3
      refine gg ?_
      refine KR.fin1 Tryz.results42 rfl ⟨by rw [hno (by unfold dgt; simp; omega)], rfl⟩
    have h3 := of_decide_eq_false ht3
    refine gg ?_
    refine kp ?_ (oJ Hc.out)
    refine gg ?_
    cases t4
    case true =>
      have h4 := of_decide_eq_true ht4
      refine gg ?_
      refine KR.fin1 Tryz.results42 rfl ⟨by rw [hno (by unfold dgt; simp; omega)], rfl⟩
    have h4 := of_decide_eq_false ht4
    have hall3 := hall2 (by unfold dgt; simp; omega)
    clear hall2 hno
    refine gg ?_
    refine kp ?_ (oMul (a := 10) (b := (V : Int)))
    refine gg ?_
    refine kp ?_ (oJ Hc.out)
    refine gg ?_
    refine kp ?_ (oK (run_sub (kk := .u8) (a := (c.toNat : Int)) (b := 48) (r := (c.toNat : Int) - 48) (by rw [IntKind.wrap_u8']; have := c.toNat_lt; omega)))
    refine gg ?_
    refine kp ?_ (oCv (v := .int .i64 ((c.toNat : Int) - 48)) (hr := run_u8i64 (by omega)))
    refine gg ?_
    have e1 : (10 : Int) * (V : Int) + ((c.toNat : Int) - 48) = ((valL ((kb s).take (i + 1)) : Nat) : Int) := by rw [Hk2.out]; omega
    refine KE.rnd2 (i + 1) (by
      refine ⟨rfl, ⟨?_, ⟨rfl, trivial⟩⟩⟩
      rw [← e1]
      rfl) ⟨hlt, rfl, hall3⟩ (by omega)
  · have hd : decide ((i : Int) < (s.size : Int)) = false := by simp; omega
    have hti : (kb s).take i = kb s := List.take_of_length_le (by rw [Hz.out]; omega)
    rw [hti] at hall
    have HT := Lib.hid hti
    have hRv : R = (valL ((kb s).take i) : Int) := by rw [hR2.out, if_pos (List.all_eq_true.2 hall.out), HT.out]
    have HRv := Lib.hid hRv
    clear hti hRv
    refine gg ?_
    refine KR.fin1 Tryz.results42 rfl ⟨by rw [HRv.out], rfl⟩
theorem run_rem10 {x y : Operand} {n : Nat} {w : World} (h : n ≤ 1000000000) : (do eqGuard .rem 3 x y (.int .i64 (n : Int)) (.int .i64 10); binOp .rem 3 (.int .i64 (n : Int)) (.int .i64 10) : Sem Value).run Tryz.prog w = .ok (.int .i64 ((n % 10 : Nat) : Int)) w := by
  have e : (n : Int).tmod 10 = ((n % 10 : Nat) : Int) := by rw [Int.tmod_eq_emod_of_nonneg (by omega)]; omega
  have e2 : IntKind.i64.wrap ((n % 10 : Nat) : Int) = ((n % 10 : Nat) : Int) := IntWalk.i64_in _ (by omega)
  go_simp
theorem run_quo10 {x y : Operand} {n : Nat} {w : World} (h : n ≤ 1000000000) : (do eqGuard .quo 3 x y (.int .i64 (n : Int)) (.int .i64 10); binOp .quo 3 (.int .i64 (n : Int)) (.int .i64 10) : Sem Value).run Tryz.prog w = .ok (.int .i64 ((n / 10 : Nat) : Int)) w := by
  have e : (n : Int).tdiv 10 = ((n / 10 : Nat) : Int) := by rw [Int.tdiv_eq_ediv_of_nonneg (by omega)]; omega
  have e2 : IntKind.i64.wrap ((n / 10 : Nat) : Int) = ((n / 10 : Nat) : Int) := IntWalk.i64_in _ (by omega)
  go_simp
  exact IntWalk.i64_in _ (by omega)
theorem dec_step (n : Nat) (t : List UInt8) : Lib.decDigits n ++ t = (if n < 10 then [UInt8.ofNat (48 + n % 10)] ++ t else Lib.decDigits (n / 10) ++ ([UInt8.ofNat (48 + n % 10)] ++ t)) := by
  by_cases h : n < 10
  · rw [if_pos h, Lib.decDigits, dif_pos h, Nat.mod_eq_of_lt h]
  · rw [if_neg h]
    conv => lhs; rw [Lib.decDigits, dif_neg h]
    simp
set_option maxHeartbeats 1600000 in
theorem rf_dec (m : Nat) (w : World) (h1 : m ≤ 999999) : Calls Tryz.prog 35 #[.int .i64 (m : Int)] w fun e w' => e = .returned (.string ⟨(Lib.decDigits m).toArray⟩) ∧ Pure w w' := by
  obtain ⟨R, hR⟩ : ∃ R, Lib.decDigits m = R := ⟨_, rfl⟩
  rw [hR]
  have hlen : R.length ≤ 6 := by rw [← hR]; exact dec_len m 5 (by show m < 1000000; omega)
  have HR := Lib.hid hR
  clear hR
  refine calls_kn Tryz.func35 rfl Tryz.ntmps35 rfl ?_
  refine gg ?_
  refine KW.loop (ι := Nat × List UInt8) (fun p => [(0, .int .i64 (p.1 : Int)), (3, .string ⟨p.2.toArray⟩)]) (fun p w' => p.1 ≤ 999999 ∧ p.2.length ≤ 6 ∧ Hid (R = Lib.decDigits p.1 ++ p.2) ∧ Pure w w') (fun p => p.1) (m, []) ⟨h1, Nat.zero_le _, Lib.hid (by rw [List.append_nil, HR.out]), Kept.refl _ _⟩ (kle_ok (by repeat' (first | exact trivial | refine ⟨rfl, ?_⟩))) ?_
  rintro ⟨n, t⟩ w1 ⟨hn, ht, hr, hk⟩
  simp only at hn ht hr hk ⊢
  have Hk := Lib.hid hk
  clear hk
  have hstep := dec_step n t
  have Hst := Lib.hid hstep
  clear hstep
  obtain ⟨d, hd⟩ : ∃ d, n % 10 = d := ⟨_, rfl⟩
  obtain ⟨q, hq⟩ : ∃ q, n / 10 = q := ⟨_, rfl⟩
  have hd10 : d < 10 := by omega
  have hqq : q ≤ n / 10 := by omega
  rw [hd, hq] at Hst
  obtain ⟨c, hc⟩ : ∃ c, UInt8.ofNat (48 + d) = c := ⟨_, rfl⟩
  have hcn : c.toNat = 48 + d := by rw [← hc, UInt8.toNat_ofNat']; exact Nat.mod_eq_of_lt (by omega)
  rw [hc] at Hst
  have Hd := Lib.hid (And.intro hd hq)
  have Hcn := Lib.hid hcn
  clear hc hd hq hcn
  refine gg ?_
  refine kp ?_ (oK (r := (d : Int)) (by have := run_rem10 (x := .tmp 4) (y := .const (.int .i64 10)) (n := n) (w := w1) (by omega); rw [Hd.out.1] at this; exact this))
  refine gg ?_
  refine kp ?_ (oCv (v := .int .u8 (c.toNat : Int)) (hr := by go_simp; rw [IntKind.wrap_u8']; rw [Hcn.out]; omega))
  refine KL.makes (v := .slice (some ⟨w1.heap.size, 0, none⟩) 1 1) (w' := w1.alloc (.cells #[.int .u8 (c.toNat : Int)] 5)) rfl rfl rfl (fun ρ hρ => by have e := hρ (.tmp 7) _ rfl; simp only [execOp]; go_simp; first | done | rfl) ?_
  have hsl := Sl.lit w1 #[.int .u8 (c.toNat : Int)] 5 1 1 (bvs [c]) rfl rfl
  have hk2 : Pure w (w1.alloc (.cells #[.int .u8 (c.toNat : Int)] 5)) := Hk.out.alloc _
  have Hk2 := Lib.hid hk2
  generalize w1.alloc _ = w2 at *
  generalize w1.heap.size = g1 at *
  clear hk2
  refine kp ?_ (oStr hsl Tryz.underlying50 Tryz.underlying5)
  clear hsl
  refine gg ?_
  refine kp ?_ (oCat (hb := by rw [bs_size, bs_size]; simp; omega))
  rw [bs_app]
  refine gg ?_
  refine kp ?_ (oK (r := (q : Int)) (by have := run_quo10 (x := .tmp 12) (y := .const (.int .i64 10)) (n := n) (w := w2) (by omega); rw [Hd.out.2] at this; exact this))
  by_cases h10 : n < 10
  · have hq0 : decide ((q : Int) = 0) = true := by simp; have := Hd.out.2; omega
    have hres : [c] ++ t = R := by
      have := Hst.out
      rw [if_pos h10, ← hr.out] at this
      exact this.symm
    have Hres := Lib.hid hres
    clear hres
    refine gg ?_
    refine KR.fin1 Tryz.results35 rfl ⟨by rw [Hres.out], Hk2.out⟩
  · have hq0 : decide ((q : Int) = 0) = false := by simp; have := Hd.out.2; omega
    have hres : R = Lib.decDigits q ++ ([c] ++ t) := by
      have := Hst.out
      rw [if_neg h10, ← hr.out] at this
      exact this
    have Hres := Lib.hid hres
    have hqn : q < n := by omega
    have hl : ([c] ++ t).length ≤ 6 := by
      rw [hres, List.length_append] at hlen
      omega
    clear hres
    refine gg ?_
    refine KE.rnd2 (q, [c] ++ t) (by repeat' (first | exact trivial | refine ⟨rfl, ?_⟩)) ⟨by omega, hl, Hres, Hk2.out⟩ hqn
end Go.Proofs.YtiddhcabpmkolaaGreatDoor
set_option linter.unusedSimpArgs false
set_option linter.unusedVariables false
namespace Go.Proofs.YtiddhcabpmkolaaGreatDoor
open Go.RowKit
set_option maxRecDepth 100000
open Go
section
variable {P : Program} {n d : Nat} {o : Oper} {k : Kn} {w : World} {v : Value} {x y z : Operand} {ty ty' : TypeId} {a b : Int}
theorem oZu {s : ByteArray} {i j : Nat} (ho : o.op = .slice ty x (some y) (some z) none := by exact rfl) (hx : knX k x = some (.string s) := by exact rfl) (hy : knX k y = some (.int .u8 a) := by exact rfl) (hz : knX k z = some (.int .u8 b) := by exact rfl) (ht : P.underlying ty = some .string := by exact rfl)
    (ha : a = (i : Int)) (hb : b = (j : Int)) (hij : i ≤ j) (hj : j ≤ s.size) : PR P k w o (.string (s.extract i j)) := ⟨fun ρ hρ => by
  subst ha hb
  have h1 : ((i : Int) ≤ (j : Int)) := by omega
  have h2 : ((j : Int) ≤ (s.size : Int)) := by omega
  have hr : (Instr.sliceAt ty (.string s) (some (.int .u8 (i : Int))) (some (.int .u8 (j : Int))) none).run P w = .ok (.string (s.extract i j)) w := by
    go_simp
    first | done | rfl | (simp; done)
  unfold execOp; rw [ho]
  simp only [Option.map, hρ _ _ hx, hρ _ _ hy, hρ _ _ hz, Sem.run_bind, hr, Result.andThen_ok]; rfl⟩
end
theorem dig_ext {j : Nat} (h : j < 16) : digs16.extract j (j + 1) = ⟨[hexD j].toArray⟩ := by
  have : ∀ j : Fin 16, digs16.extract j.val (j.val + 1) = ⟨[hexD j.val].toArray⟩ := by decide
  exact this ⟨j, h⟩
set_option maxHeartbeats 1600000 in
theorem rf_hex (s : ByteArray) (w : World) (hs : s.size ≤ 100000) : Calls Tryz.prog 36 #[.string s] w fun e w' => e = .returned (.string (hexB s)) ∧ Pure w w' := by
  obtain ⟨l, hl⟩ : ∃ l, s.data.toList = l := ⟨_, rfl⟩
  have hn : l.length = s.size := by rw [← hl]; simp
  unfold hexB
  rw [hl]
  by_cases h0 : l = []
  · subst h0
    have hd : decide (s = ⟨#[]⟩) = true := decide_eq_true (by
      apply ByteArray.ext
      apply Array.toList_inj.1
      exact hl)
    clear hn hl hs
    refine calls_kn Tryz.func36 rfl Tryz.ntmps36 rfl ?_
    refine gg ?_
    refine KR.fin1 Tryz.results36 rfl ⟨rfl, Kept.refl _ _⟩
  · have hd : decide (s = ⟨#[]⟩) = false := decide_eq_false (fun e => h0 (by rw [← hl, e]))
    have ht : hexT l = hexL l := by unfold hexT; rw [if_neg h0]
    rw [ht]
    have Hl := Lib.hid hl
    have Hn := Lib.hid hn
    clear hn hl h0 ht
    refine calls_kn Tryz.func36 rfl Tryz.ntmps36 rfl ?_
    refine gg ?_
    refine KW.loop (ι := Nat) (fun i => [(0, .string s), (3, .string digs16), (4, .string ⟨(hexL (l.take i)).toArray⟩), (5, .int .i64 (i : Int))]) (fun i w' => i ≤ s.size ∧ Pure w w') (fun i => s.size - i) 0 ⟨Nat.zero_le _, Kept.refl _ _⟩ (kle_ok (by repeat' (first | exact trivial | refine ⟨rfl, ?_⟩))) ?_
    clear hd
    rintro i w1 ⟨hi, hk⟩
    have Hk := Lib.hid hk
    clear hk
    by_cases hlt : i < s.size
    · have hd : decide ((i : Int) < (s.size : Int)) = true := by simp; omega
      obtain ⟨b, hb⟩ : ∃ b, l[i]? = some b := ⟨_, List.getElem?_eq_getElem (by have := Hn.out; omega)⟩
      have hb0 : b.toNat < 256 := b.toNat_lt
      have Hc := Lib.hid (show s.data.toList[i]? = some b by rw [Hl.out]; exact hb)
      have e : hexL (l.take (i + 1)) = hexL (l.take i) ++ ([hexD (b.toNat / 16)] ++ [hexD (b.toNat % 16)]) := by
        rw [List.take_add_one, hb, Option.toList_some, hexL_app]; rfl
      have He := Lib.hid e
      have hlen : (hexL (l.take i)).length ≤ 200000 := by rw [hexL_len, List.length_take]; have := Hn.out; omega
      clear hb e
      have hk2 : Pure w w1.drew := Hk.out.drew
      have Hk2 := Lib.hid hk2
      clear hk2
      refine gg ?_
      refine sd ?_
      generalize w1.drew = w2 at *
      refine gs ?_
      refine sp ?_ (oJ Hc.out)
      refine sp ?_ (oK (run_shr4 (a := (b.toNat : Int))))
      refine gs ?_
      refine sp ?_ (oJ Hc.out)
      refine sp ?_ (oK (run_shr4 (a := (b.toNat : Int))))
      refine sp ?_ (oK (run_add (kk := .u8) (a := (b.toNat : Int) / 16) (b := 1) (r := (b.toNat : Int) / 16 + 1) (by rw [IntKind.wrap_u8']; omega)))
      refine sp ?_ (oZu (i := b.toNat / 16) (j := b.toNat / 16 + 1) (ha := by omega) (hb := by omega) (hij := by omega) (hj := by show _ ≤ 16; omega) (ht := Tryz.underlying9))
      rw [dig_ext (show b.toNat / 16 < 16 by omega)]
      refine gs ?_
      refine sp ?_ (oJ Hc.out)
      refine sp ?_ (oK (run_and15 (a := (b.toNat : Int)) (by omega) (by omega)))
      refine gs ?_
      refine sp ?_ (oJ Hc.out)
      refine sp ?_ (oK (run_and15 (a := (b.toNat : Int)) (by omega) (by omega)))
      refine sp ?_ (oK (run_add (kk := .u8) (a := (b.toNat : Int) % 16) (b := 1) (r := (b.toNat : Int) % 16 + 1) (by rw [IntKind.wrap_u8']; omega)))
      refine sp ?_ (oZu (i := b.toNat % 16) (j := b.toNat % 16 + 1) (ha := by omega) (hb := by omega) (hij := by omega) (hj := by show _ ≤ 16; omega) (ht := Tryz.underlying9))
      rw [dig_ext (show b.toNat % 16 < 16 by omega)]
      refine sp ?_ (oCat (hb := by rw [bs_size, bs_size]; simp))
      rw [bs_app]
      refine sp ?_ (oCat (hb := by rw [bs_size, bs_size]; simp; omega))
      rw [bs_app, ← He.out]
      refine gs ?_
      refine gg ?_
      refine KE.rnd2 (i + 1) (by repeat' (first | exact trivial | refine ⟨rfl, ?_⟩)) ⟨hlt, Hk2.out⟩ (by omega)
    · have hd : decide ((i : Int) < (s.size : Int)) = false := by simp; omega
      have hti : l.take i = l := List.take_of_length_le (by have := Hn.out; omega)
      rw [hti]
      clear hti
      refine gg ?_
      refine KR.fin1 Tryz.results36 rfl ⟨rfl, Hk.out⟩
end Go.Proofs.YtiddhcabpmkolaaGreatDoor
