/-
  The reference's Signs and Clean walked; its sign is the decoder's.
-/
import Derived.Test.YtemjpmkmpfpdhaaDoorFoC
import Derived.Test.YtemjpmkmpfpdhaaDoorFoR
import Derived.Lib.TrimUEq
import Derived.Lib.MapLaws
set_option linter.unusedSimpArgs false
set_option linter.unusedVariables false
namespace Go.Proofs.YtemjpmkmpfpdhaaDoor
open Go.RowKit
set_option maxRecDepth 100000

theorem contN_2 (l : List UInt8) : contN l 2 ↔ (l.getD 1 0).toNat / 64 = 2 :=
  ⟨fun h => h 1 (by omega) (by omega), fun h i h1 h2 => by rw [show i = 1 by omega]; exact h⟩
theorem contN_3 (l : List UInt8) : contN l 3 ↔ (l.getD 1 0).toNat / 64 = 2 ∧ (l.getD 2 0).toNat / 64 = 2 :=
  ⟨fun h => ⟨h 1 (by omega) (by omega), h 2 (by omega) (by omega)⟩, fun h i h1 h2 => by
    rcases (show i = 1 ∨ i = 2 by omega) with rfl | rfl
    · exact h.1
    · exact h.2⟩
theorem contN_4 (l : List UInt8) : contN l 4 ↔ (l.getD 1 0).toNat / 64 = 2 ∧ (l.getD 2 0).toNat / 64 = 2 ∧ (l.getD 3 0).toNat / 64 = 2 :=
  ⟨fun h => ⟨h 1 (by omega) (by omega), h 2 (by omega) (by omega), h 3 (by omega) (by omega)⟩, fun h i h1 h2 => by
    rcases (show i = 1 ∨ i = 2 ∨ i = 3 by omega) with rfl | rfl | rfl
    · exact h.1
    · exact h.2.1
    · exact h.2.2⟩
theorem getD_cont (l : List UInt8) (i : Nat) (h : (l.getD i 0).toNat / 64 = 2) : i < l.length := by
  by_cases hi : i < l.length
  · exact hi
  · rw [List.getD, List.getElem?_eq_none (by omega)] at h
    simp at h
section
variable {n x0 x1 x2 x3 : Nat}
theorem dec2 (h : 194 ≤ x0 ∧ x0 ≤ 223) (g1 : x1 / 64 = 2 → 1 < n) : Lib.decodeN n x0 x1 x2 x3 = if x1 / 64 = 2 then (x0 % 32 * 64 + x1 % 64, 2) else (65533, 1) := by
  unfold Lib.decodeN
  rw [if_neg (by omega)]
  by_cases c : x1 / 64 = 2
  · rw [if_pos ⟨by omega, g1 c, c⟩, if_pos (by omega), if_pos c]
  · rw [if_neg (by omega), if_neg (by omega), if_neg (by omega), if_neg c]
theorem dec3 (h : 224 ≤ x0 ∧ x0 ≤ 239) (g1 : x1 / 64 = 2 → 1 < n) (g2 : x2 / 64 = 2 → 2 < n) : Lib.decodeN n x0 x1 x2 x3 =
    if (x1 / 64 = 2 ∧ x2 / 64 = 2) ∧ 2048 ≤ x0 % 16 * 4096 + x1 % 64 * 64 + x2 % 64 ∧ ¬ (55296 ≤ x0 % 16 * 4096 + x1 % 64 * 64 + x2 % 64 ∧ x0 % 16 * 4096 + x1 % 64 * 64 + x2 % 64 ≤ 57343) then (x0 % 16 * 4096 + x1 % 64 * 64 + x2 % 64, 3) else (65533, 1) := by
  unfold Lib.decodeN
  rw [if_neg (by omega), if_neg (by omega)]
  by_cases c : x1 / 64 = 2 ∧ x2 / 64 = 2
  · rw [if_pos ⟨by omega, ⟨g1 c.1, c.1⟩, g2 c.2, c.2⟩]
    by_cases d : 2048 ≤ x0 % 16 * 4096 + x1 % 64 * 64 + x2 % 64 ∧ ¬ (55296 ≤ x0 % 16 * 4096 + x1 % 64 * 64 + x2 % 64 ∧ x0 % 16 * 4096 + x1 % 64 * 64 + x2 % 64 ≤ 57343)
    · rw [if_pos (by omega), if_pos ⟨c, d⟩]
    · rw [if_neg (by omega), if_neg (fun h => d h.2)]
  · rw [if_neg (by omega), if_neg (by omega), if_neg (fun h => c h.1)]
theorem dec4 (h : 240 ≤ x0 ∧ x0 ≤ 244) (g1 : x1 / 64 = 2 → 1 < n) (g2 : x2 / 64 = 2 → 2 < n) (g3 : x3 / 64 = 2 → 3 < n) : Lib.decodeN n x0 x1 x2 x3 =
    if (x1 / 64 = 2 ∧ x2 / 64 = 2 ∧ x3 / 64 = 2) ∧ 65536 ≤ x0 % 8 * 262144 + x1 % 64 * 4096 + x2 % 64 * 64 + x3 % 64 ∧ ¬ 1114111 < x0 % 8 * 262144 + x1 % 64 * 4096 + x2 % 64 * 64 + x3 % 64 then (x0 % 8 * 262144 + x1 % 64 * 4096 + x2 % 64 * 64 + x3 % 64, 4) else (65533, 1) := by
  unfold Lib.decodeN
  rw [if_neg (by omega), if_neg (by omega), if_neg (by omega)]
  by_cases c : x1 / 64 = 2 ∧ x2 / 64 = 2 ∧ x3 / 64 = 2
  · rw [if_pos ⟨by omega, ⟨g1 c.1, c.1⟩, ⟨g2 c.2.1, c.2.1⟩, g3 c.2.2, c.2.2⟩]
    by_cases d : 65536 ≤ x0 % 8 * 262144 + x1 % 64 * 4096 + x2 % 64 * 64 + x3 % 64 ∧ ¬ 1114111 < x0 % 8 * 262144 + x1 % 64 * 4096 + x2 % 64 * 64 + x3 % 64
    · rw [if_pos (by omega), if_pos ⟨c, d⟩]
    · rw [if_neg (by omega), if_neg (fun h => d h.2)]
  · rw [if_neg (by omega), if_neg (fun h => c h.1)]
theorem dec0 (h0 : ¬ x0 < 128) (h2 : ¬ (194 ≤ x0 ∧ x0 ≤ 223)) (h3 : ¬ (224 ≤ x0 ∧ x0 ≤ 239)) (h4 : ¬ (240 ≤ x0 ∧ x0 ≤ 244)) (hb : x0 < 256) : Lib.decodeN n x0 x1 x2 x3 = (65533, 1) := by
  unfold Lib.decodeN
  rw [if_neg h0]
  by_cases f1 : x0 / 32 = 6 ∧ (1 < n ∧ x1 / 64 = 2)
  · rw [if_pos f1, if_neg (by omega)]
  · rw [if_neg f1, if_neg (by omega)]
    by_cases f2 : x0 / 8 = 30 ∧ (1 < n ∧ x1 / 64 = 2) ∧ (2 < n ∧ x2 / 64 = 2) ∧ (3 < n ∧ x3 / 64 = 2)
    · have := f2.1
      rw [if_pos f2, if_neg (by omega)]
    · rw [if_neg f2]
end
theorem bad_iff (a b : Nat) (c : Nat) (hc : c ≠ 1) (p : Prop) [Decidable p] : (if ((if p then (a, c) else (65533, 1)) : Nat × Nat).1 = 65533 ∧ ((if p then (a, c) else (65533, 1)) : Nat × Nat).2 = 1 then 0 else ((if p then (a, c) else (65533, 1)) : Nat × Nat).2) = if p then c else 0 := by
  by_cases h : p <;> simp [h, hc]
set_option maxHeartbeats 3200000 in
theorem sign_decode (l : List UInt8) : signL l = if (Lib.decodeL l).1 = 65533 ∧ (Lib.decodeL l).2 = 1 then 0 else (Lib.decodeL l).2 := by
  rw [Lib.decodeL_N]
  have g1 := getD_cont l 1
  have g2 := getD_cont l 2
  have g3 := getD_cont l 3
  have b0 : (l.getD 0 0).toNat < 256 := UInt8.toNat_lt _
  unfold signL leadN
  simp only [contN_2, contN_3, contN_4, accN, Nat.add_one_sub_one, Nat.reduceAdd]
  generalize (l.getD 0 0).toNat = x0 at *
  generalize (l.getD 1 0).toNat = x1 at *
  generalize (l.getD 2 0).toNat = x2 at *
  generalize (l.getD 3 0).toNat = x3 at *
  generalize l.length = n at *
  by_cases a1 : x0 < 128
  · rw [if_pos a1, Lib.decodeN, if_pos a1, if_neg (by omega)]
  · rw [if_neg a1]
    by_cases a2 : 194 ≤ x0 ∧ x0 ≤ 223
    · rw [if_pos a2, dec2 a2 g1, bad_iff _ 0 _ (by omega)]
      by_cases c : x1 / 64 = 2
      · rw [if_neg (by have := g1 c; omega), if_neg (fun h => h c), if_neg (by omega), if_pos c]
      · rw [if_neg c]
        by_cases m : n < 2
        · rw [if_pos m]
        · rw [if_neg m, if_pos c]
    · rw [if_neg a2]
      by_cases a3 : 224 ≤ x0 ∧ x0 ≤ 239
      · rw [if_pos a3, dec3 a3 g1 g2, bad_iff _ 0 _ (by omega)]
        by_cases c : x1 / 64 = 2 ∧ x2 / 64 = 2
        · have e3 : (x0 % 16 * 64 + x1 % 64) * 64 + x2 % 64 = x0 % 16 * 4096 + x1 % 64 * 64 + x2 % 64 := by omega
          rw [if_neg (by have := g2 c.2; omega), if_neg (fun h => h c), e3]
          by_cases d : 2048 ≤ x0 % 16 * 4096 + x1 % 64 * 64 + x2 % 64 ∧ ¬ (55296 ≤ x0 % 16 * 4096 + x1 % 64 * 64 + x2 % 64 ∧ x0 % 16 * 4096 + x1 % 64 * 64 + x2 % 64 ≤ 57343)
          · rw [if_neg (by omega), if_pos ⟨c, d⟩]
          · rw [if_pos (by omega), if_neg (fun h => d h.2)]
        · have e : ∀ p : Prop, ¬ ((x1 / 64 = 2 ∧ x2 / 64 = 2) ∧ p) := fun p h => c h.1
          rw [if_neg (e _)]
          by_cases m : n < 3
          · rw [if_pos m]
          · rw [if_neg m, if_pos c]
      · rw [if_neg a3]
        by_cases a4 : 240 ≤ x0 ∧ x0 ≤ 244
        · rw [if_pos a4, dec4 a4 g1 g2 g3, bad_iff _ 0 _ (by omega)]
          by_cases c : x1 / 64 = 2 ∧ x2 / 64 = 2 ∧ x3 / 64 = 2
          · have e3 : ((x0 % 8 * 64 + x1 % 64) * 64 + x2 % 64) * 64 + x3 % 64 = x0 % 8 * 262144 + x1 % 64 * 4096 + x2 % 64 * 64 + x3 % 64 := by omega
            rw [if_neg (by have := g3 c.2.2; omega), if_neg (fun h => h c), e3]
            by_cases d : 65536 ≤ x0 % 8 * 262144 + x1 % 64 * 4096 + x2 % 64 * 64 + x3 % 64 ∧ ¬ 1114111 < x0 % 8 * 262144 + x1 % 64 * 4096 + x2 % 64 * 64 + x3 % 64
            · rw [if_neg (by omega), if_pos ⟨c, d⟩]
            · rw [if_pos (by omega), if_neg (fun h => d h.2)]
          · have e : ∀ p : Prop, ¬ ((x1 / 64 = 2 ∧ x2 / 64 = 2 ∧ x3 / 64 = 2) ∧ p) := fun p h => c h.1
            rw [if_neg (e _)]
            by_cases m : n < 4
            · rw [if_pos m]
            · rw [if_neg m, if_pos c]
        · rw [if_neg a4, dec0 a1 a2 a3 a4 b0, if_pos ⟨rfl, rfl⟩]

/-- What sign finds at a place: the step of ValidString and of RuneCountInString. -/
theorem sign_step (l : List UInt8) (k : Nat) (hk : k < l.length) :
    (signL (l.drop k) = 0 → Lib.validD (l.drop k) = false) ∧ (signL (l.drop k) ≠ 0 → Lib.validD (l.drop k) = Lib.validD (l.drop (k + signL (l.drop k))) ∧ k + signL (l.drop k) ≤ l.length ∧ signL (l.drop k) = (Lib.decodeL (l.drop k)).2) := by
  have hne : l.drop k ≠ [] := fun h => by have := congrArg List.length h; simp at this; omega
  rw [sign_decode, Lib.validD_step _ hne]
  by_cases h : (Lib.decodeL (l.drop k)).1 = 65533 ∧ (Lib.decodeL (l.drop k)).2 = 1
  · rw [if_pos h, if_pos h]; exact ⟨fun _ => rfl, fun h => absurd rfl h⟩
  · rw [if_neg h, if_neg h]
    refine ⟨fun h0 => ?_, fun _ => ?_⟩
    · have := Lib.decodeL_width (l.drop k); omega
    · have h2 := Lib.decodeL_le (l.drop k) hne
      rw [List.length_drop] at h2
      rw [List.drop_drop]
      exact ⟨rfl, by omega, rfl⟩
theorem sign_cont (l : List UInt8) (h : signL l ≠ 0) : contN l (signL l) := by
  have hl : ∀ n least v0, leadN l n least v0 ≠ 0 → contN l (leadN l n least v0) := fun n least v0 h => by
    unfold leadN at h ⊢
    split at h
    · exact absurd rfl h
    · split at h
      · exact absurd rfl h
      · rename_i h1 h2
        split at h
        · exact absurd rfl h
        · rename_i h3
          rw [if_neg h1, if_neg h2, if_neg h3]
          exact Decidable.not_not.1 h2
  revert h
  unfold signL
  split
  · intro _ i h1 h2; omega
  · split
    · exact hl _ _ _
    · split
      · exact hl _ _ _
      · split
        · exact hl _ _ _
        · intro h; exact absurd rfl h
theorem count_step (s : ByteArray) (k b : Nat) (hk : k < s.size) (hb : s.size ≤ k + b) (h0 : signL (s.data.toList.drop k) ≠ 0) :
    ∃ b', Lib.runeCountFrom s b k = 1 + Lib.runeCountFrom s b' (k + signL (s.data.toList.drop k)) ∧ s.size ≤ (k + signL (s.data.toList.drop k)) + b' := by
  obtain ⟨c, rfl⟩ : ∃ c, b = c + 1 := ⟨b - 1, by omega⟩
  refine ⟨c, ?_, by omega⟩
  rw [Lib.runeCountFrom, if_pos hk, ((sign_step s.data.toList k (by simpa using hk)).2 h0).2.2, Lib.decodeL_drop]

set_option maxHeartbeats 800000 in
theorem ref_signs (s : ByteArray) (w : World) (hs : s.size ≤ 1000) : Calls Tryd.prog 18 #[.string s] w fun e w' => e = .returned (.int .i64 (signs s)) ∧ w = w' := by
  have hsg := Lib.hid (fun k hk => sign_any s k w hs hk)
  have hn : s.data.toList.length = s.size := by simp
  have hct := Lib.hid (count_step s)
  have hst := Lib.hid (sign_step s.data.toList)
  have E : Hid (signs s = if Lib.validD s.data.toList then Lib.runeCount s else 0) := rfl
  generalize signs s = R at *
  generalize s.data.toList = l at *
  go_enter Tryd.func18, Tryd.ntmps18
  go_wp2
  go_loop [3, 4] (fun c i => ∃ k n b : Nat, c = .int .i64 n ∧ i = .int .i64 k ∧ k ≤ s.size ∧ n ≤ k ∧ Hid (n + Lib.runeCountFrom s b k = Lib.runeCount s ∧ s.size ≤ k + b ∧ Lib.validD l = Lib.validD (l.drop k))) (fun _ i => s.size - (intOf i).toNat)
  case atStart => exact ⟨0, 0, s.size, rfl, rfl, by omega, by omega, ⟨by rw [Lib.runeCount]; omega, by omega, rfl⟩⟩
  case round =>
    obtain ⟨k, n, b, rfl, rfl, hk, hnk, hh⟩ := hrel
    by_cases hlt : k < s.size
    · have Hs := Lib.hid (hsg.out k hlt)
      have Hst := Lib.hid (hst.out k (by omega))
      have Hct := Lib.hid (hct.out k b hlt hh.out.2.1)
      have HL : Hid (l.length = s.size) := hn
      generalize hd : signL (l.drop k) = d at *
      have hD := Lib.hid hd
      clear hd hn
      by_cases h0 : d = 0
      · subst h0
        have e : R = 0 := by rw [E.out, hh.out.2.2, Hst.out.1 rfl]; rfl
        have He := Lib.hid e
        clear e
        go_wp2_with fail
        refine (Hs.out).mono ?_
        rintro e w' ⟨rfl, rfl⟩
        go_wp2
        go_ret
        exact ⟨by rw [He.out]; rfl, rfl⟩
      · have h0' : ((d : Int) == 0) = false := by simpa using h0
        obtain ⟨b', c1, c2⟩ := Hct.out h0
        obtain ⟨v1, v2, v3⟩ := Hst.out.2 h0
        rw [HL.out] at v2
        have hpos : 0 < d := by omega
        have H1 : Hid (n + 1 + Lib.runeCountFrom s b' (k + d) = Lib.runeCount s ∧ s.size ≤ k + d + b' ∧ Lib.validD l = Lib.validD (l.drop (k + d))) := ⟨by have := hh.out.1; omega, c2, hh.out.2.2.trans v1⟩
        clear c1 c2 v1 v3 h0
        go_wp2_with fail
        refine (Hs.out).mono ?_
        rintro e w' ⟨rfl, rfl⟩
        go_wp2
        go_round
        case measure => first | omega | (simp [intOf]; omega)
        case rel => exact ⟨k + d, n + 1, b', by first | rfl | go_num, by first | rfl | go_num, v2, by omega, H1⟩
    · have hke : k = s.size := by omega
      subst hke
      have e : R = n := by
        have h1 := hh.out.1
        rw [Lib.runeCountFrom_end s b s.size (by omega)] at h1
        rw [E.out, hh.out.2.2, List.drop_eq_nil_of_le (by omega), Lib.validD_nil, if_pos rfl]
        omega
      have He := Lib.hid e
      clear e
      go_wp2
      go_ret
      exact ⟨by rw [He.out]; rfl, rfl⟩
end Go.Proofs.YtemjpmkmpfpdhaaDoor
