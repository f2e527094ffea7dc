/-
  RespItems: the walk.
-/
import Derived.Test.YtlmfpadlgdmflaaRsF
import Derived.Deep.LoopGhost
set_option linter.unusedSimpArgs false
set_option linter.unusedVariables false
namespace Go.Proofs.Ytlmfpadlgdmflaa
open Go.RowKit
set_option maxRecDepth 100000

/-- The items that the law makes. -/
def uit (i : Nat) : It := ⟨⟨#[117]⟩, i, false, ⟨#[]⟩⟩
def zit : It := ⟨⟨#[]⟩, 0, false, ⟨#[]⟩⟩
def uits (n : Nat) : List It := (List.range n).map uit
theorem uits_succ (n : Nat) : uits (n + 1) = uits n ++ [uit n] := by simp [uits, List.range_succ]
theorem uits_length (n : Nat) : (uits n).length = n := by simp [uits]
def mixd (n m : Nat) : List It := uits n ++ List.replicate (m - n) zit
theorem mixd_length (n m : Nat) (h : n ≤ m) : (mixd n m).length = m := by simp [mixd, uits_length]; omega
theorem mixd_succ (n m : Nat) (h : n ≤ m) : mixd n (m + 1) = mixd n m ++ [zit] := by
  unfold mixd
  rw [show m + 1 - n = (m - n) + 1 from by omega, List.replicate_succ', List.append_assoc]
theorem itc_snoc (l : List It) (i : It) : itc (l ++ [i]) = itc l ++ i.cells := by simp [itc]
theorem and_255 (n : Int) : ∃ V : Nat, bits .and .i64 n 255 = (V : Int) ∧ V ≤ 255 := by
  have e : bits .and .i64 n 255 = IntKind.i64.wrap ((BitVec.ofInt 64 n &&& BitVec.ofInt 64 ((255 : Nat) : Int)).toNat : Int) := rfl
  have h2 : (BitVec.ofInt 64 n &&& BitVec.ofInt 64 ((255 : Nat) : Int)).toNat ≤ 255 := by
    rw [BitVec.toNat_and, BitVec.ofInt_natCast, BitVec.toNat_ofNat]
    have : (BitVec.ofInt 64 n).toNat &&& (255 % 2 ^ 64) = (BitVec.ofInt 64 n).toNat % 256 := Nat.and_two_pow_sub_one_eq_mod _ 8
    rw [this]
    omega
  refine ⟨_, ?_, h2⟩
  rw [e, IntKind.wrap_i64]
  omega

def rsA (l : List It) : Rs := ⟨10, 0, 0, 0, ⟨#[]⟩, 0, false, l⟩
def rsB (s : ByteArray) : Rs := ⟨6, 0, 0, 0, s, 0, false, []⟩
theorem rsA_fits (l : List It) (h : ∀ i ∈ l, i.ver ≤ 9223372036854775807) : (rsA l).Fits := ⟨by simp [rsA], by simp [rsA], by simp [rsA], by simp [rsA], h⟩
theorem rsB_fits (s : ByteArray) : (rsB s).Fits := ⟨by simp [rsB], by simp [rsB], by simp [rsB], by simp [rsB], fun i hi => by cases hi⟩
theorem uits_mem {n : Nat} {i : It} (h : i ∈ uits n) : ∃ j, j < n ∧ i = uit j := by
  simp only [uits, List.mem_map, List.mem_range] at h
  obtain ⟨j, hj, rfl⟩ := h
  exact ⟨j, hj, rfl⟩
theorem check_u (n : Nat) (h : n ≤ 100) : checkR (rsA (uits n)) = 0 := by
  have hz : (⟨#[]⟩ : ByteArray).size = 0 := rfl
  have h1 : (⟨#[117]⟩ : ByteArray).size = 1 := rfl
  have hs : ∀ i ∈ (rsA (uits n)).items, i.card.size ≤ 900 ∧ i.uid.size ≤ 24 := fun i hi => by
    obtain ⟨j, _, rfl⟩ := uits_mem hi
    simp only [uit]
    omega
  rw [check_rest ⟨by simp [rsA], by simp [rsA], by simp [rsA], by simp [rsA], by simp [rsA], by simp [rsA], by simp [rsA], by simp [rsA], by simp [rsA, uits_length, h]⟩ (fun i hi => by
    obtain ⟨j, _, rfl⟩ := uits_mem hi
    simp [uit]) (by simp only [rsA]; omega) hs]
  have := lay_le (rsA (uits n)) 1 100 (fun i hi => by
    obtain ⟨j, _, rfl⟩ := uits_mem hi
    simp only [uit]
    omega) (by simp [rsA, uits_length, h])
  simp only [rsA] at this
  rw [if_neg]
  simp only [rsA]
  omega
theorem check_long (l : List It) (h : 100 < l.length) : checkR (rsA l) = 12 := check_head (by unfold HeadOk rsA; simp only; omega)
theorem check_b (s : ByteArray) : checkR (rsB s) = if 900 < s.size then 2 else 0 := by
  have hh : HeadOk (rsB s) := ⟨by simp [rsB], by simp [rsB], by simp [rsB], by simp [rsB], by simp [rsB], by simp [rsB], by simp [rsB], by simp [rsB], by simp [rsB]⟩
  by_cases h : 900 < s.size
  · rw [if_pos h, check_card hh (fun i hi => by cases hi) h]
  · rw [if_neg h, check_rest hh (fun i hi => by cases hi) (by simp only [rsB]; omega) (fun i hi => by cases hi)]
    have := lay_le (rsB s) 0 0 (fun i hi => by cases hi) (by simp [rsB])
    rw [if_neg]
    simp only [rsB] at this ⊢
    omega

set_option maxHeartbeats 1600000 in
theorem items_walk (n : Int) (over : Bool) (w : World) : Calls Try.prog 9 #[.int .i64 n, .bool over] w (BoolP true w) := by
  have Hf := Lib.hid first13
  obtain ⟨V, hV, hV2⟩ := and_255 n
  obtain ⟨N, hN⟩ : ∃ N : Nat, (V : Int) % 101 = (N : Int) := ⟨V % 101, by omega⟩
  have hN2 : N ≤ 100 := by omega
  go_enter Try.func9, Try.ntmps9
  go_wp2_with fail
  refine (Hf.out _).mono ?_
  rintro e w1 ⟨rfl, hk1⟩
  go_wp2_with fail
  rw [hN]
  clear hV hV2 hN
  have hba := Blk.new w1 40 #[.int .i64 10, .int .i64 0, .int .i64 0, .int .i64 0, .string ⟨#[]⟩, .int .i64 0, .bool false, .slice none 0 0]
  have hk := hk1.alloc (.cells #[.int .i64 10, .int .i64 0, .int .i64 0, .int .i64 0, .string ⟨#[]⟩, .int .i64 0, .bool false, .slice none 0 0] 40)
  have hPw : Hid (w.heap.size ≤ w1.heap.size) := hk1.size
  generalize w1.alloc _ = W at hba hk ⊢
  generalize w1.heap.size = P at hba hPw ⊢
  clear hk1
  go_loopw [6] (fun i wr => ∃ (k : Nat) (Av : Option Addr) (cv : Nat), k ≤ N ∧ i = .int .i64 k ∧ Blk wr P 40 #[.int .i64 10, .int .i64 0, .int .i64 0, .int .i64 0, .string ⟨#[]⟩, .int .i64 0, .bool false, .slice Av k cv] ∧ Own wr (fun b => P + 1 ≤ b) 52 4 (.slice Av k cv) k (itc (uits k)) ∧ Pure w wr) (fun i _ => N - (intOf i).toNat)
  case atStart => exact ⟨0, none, 0, Nat.zero_le _, rfl, hba, Own.nil _ _ _ _, hk⟩
  case round =>
    clear hba hk
    obtain ⟨k, Av, cv, hkN, rfl, hb, ho, hk⟩ := hrel
    have hc := hb.cell
    have hf := hb.frozen
    have hlt := hb.lt
    by_cases hgo : k < N
    · go_wp2_with (at_builtin; refine held ?_)
      refine unheld ?_
      refine wp_appB (P + 1) Try.underlying38 info_item rfl (by omega) (by simp; omega) (ho.alloc _) (Sl.lit wr #[.string ⟨#[117]⟩, .int .i64 k, .bool false, .string ⟨#[]⟩] 52 4 1 _ rfl rfl) (itc_one [uit k]) (by omega) (by omega) rfl _ _ rfl rfl rfl ?_
      intro v' w8 ho8 hk8
      have hk9 : Kept (fun b => P + 1 ≤ b) wr w8 := ((Kept.refl _ wr).alloc _).same hk8
      have hb8 := hb.kept hk9 (by omega)
      have hP := hPw.out
      have hkw := hk.trans hk9 (fun i hi h => by omega)
      obtain ⟨A8, c8, rfl, _⟩ := ho8.form
      clear hc hf hb ho hk hk8 hk9
      have hc := hb8.cell
      have hf := hb8.frozen
      go_wp2_with fail
      have hks := (Kept.refl (· = P) w8).setCell (p := ⟨P, 7, none⟩) (.inl rfl) (.slice A8 (k + 1) c8)
      have hb9 := hb8.set 7 (.slice A8 (k + 1) c8)
      simp only [List.setIfInBounds_toArray, List.set_cons_succ, List.set_cons_zero] at hb9
      have ho9 := ho8.kept hks (fun b _ hb e => by have h1 : P + 1 ≤ b := hb; have h2 : b = P := e; omega)
      have hkz := hkw.setCell (p := ⟨P, 7, none⟩) (.inr (by simp only; omega)) (.slice A8 (k + 1) c8)
      go_roundw
      case measure => simp [intOf]; omega
      case rel =>
        refine ⟨k + 1, A8, c8, by omega, by go_num, hb9, ?_, hkz⟩
        rw [uits_succ, itc_snoc]
        exact ho9
    · obtain rfl : k = N := by omega
      go_wp2_with (first | (at_make; refine held ?_) | (at_builtin; refine held ?_))
      obtain ⟨M, hM⟩ : ∃ M : Nat, M = 900 := ⟨_, rfl⟩
      refine unheld ?_
      refine wp_makeN (m := M) (L := 900) (C := 900) Try.underlying22 info_u8 rfl (by omega) (by omega) (by omega) (by omega) rfl rfl rfl rfl ?_
      intro w3 ho3 hk3
      have hb3 := hb.kept hk3 (fun h => h)
      have hoI := ho.kept hk3 (fun _ _ _ h => h)
      have hk4 := hk.same hk3
      have hM900 : (M : Int) = 900 := by omega
      have hz : List.replicate M (Value.int .u8 0) = bvs (List.replicate M 0) := by simp [bvs, bv]
      rw [hz] at ho3
      obtain ⟨S, hS⟩ : ∃ S : ByteArray, S = ⟨(List.replicate M 0).toArray⟩ := ⟨_, rfl⟩
      have hSs : S.size = M := by rw [hS]; show (List.replicate M (0 : UInt8)).toArray.size = M; simp
      have hcv := run_str (P := Try.prog) ho3.sl 22 9 5 M Try.underlying22 Try.underlying5 Try.underlying9
      rw [← hS] at hcv
      have HM := Lib.hid hM
      have HS := Lib.hid hSs
      clear hM hz hS hSs hc hf hb ho hk ho3 hk3 hM900
      have hoP := (hoI.imp (G := fun b => P + 1 ≤ b ∧ b ≠ w3.heap.size) (fun b hb h => ⟨h, by omega⟩)).alloc (.cells #[.int .i64 6, .int .i64 0, .int .i64 0, .int .i64 0, .string S, .int .i64 0, .bool false, .slice none 0 0] 40)
      have hbP := hb3.alloc (.cells #[.int .i64 6, .int .i64 0, .int .i64 0, .int .i64 0, .string S, .int .i64 0, .bool false, .slice none 0 0] 40)
      have hbQ := Blk.new w3 40 #[.int .i64 6, .int .i64 0, .int .i64 0, .int .i64 0, .string S, .int .i64 0, .bool false, .slice none 0 0]
      have hkQ := hk4.alloc (.cells #[.int .i64 6, .int .i64 0, .int .i64 0, .int .i64 0, .string S, .int .i64 0, .bool false, .slice none 0 0] 40)
      have hPQ : P < w3.heap.size := hb3.lt
      have hlen : ∀ i ∈ uits k, i.ver ≤ 9223372036854775807 := fun i hi => by obtain ⟨j, hj, rfl⟩ := uits_mem hi; simp only [uit]; omega
      cases over with
      | false =>
        have hca := fun w' hI => check_any (rsA (uits k)) Av cv w' hI (rsA_fits _ hlen)
        have hcb := fun w' => check_any (rsB S) none 0 w' (Sl.nil _ _ _ _) (rsB_fits S)
        unfold CheckP at hca hcb
        rw [check_u k hN2] at hca
        rw [check_b, if_neg (by have := HM.out; have := HS.out; omega)] at hcb
        simp only [rsa, rsA, uits_length] at hca
        simp only [rsa, rsB, List.length_nil] at hcb
        have Hca := Lib.hid hca
        have Hcb := Lib.hid hcb
        clear hca hcb hlen
        have hc := hbP.cell
        go_wp2_with fail
        refine (Hca.out _ (hoP.sl.imp fun _ _ _ => trivial)).mono ?_
        rintro e w5 ⟨rfl, hk5⟩
        have hcQ := (hbQ.kept hk5 (fun h => h)).cell
        go_wp2_with fail
        refine (Hcb.out _).mono ?_
        rintro e w6 ⟨rfl, hk6⟩
        go_wp2_with fail
        go_ret
        exact ⟨rfl, (hkQ.same hk5).same hk6⟩
      | true =>
        go_wp2_with fail
        generalize w3.alloc _ = W3 at hoP hbP hbQ hkQ ⊢
        generalize w3.heap.size = Q at hbQ hPQ hoP ⊢
        have HQ := Lib.hid hbQ.lt
        clear hb3 hoI hk4 hcv
        have hmx : uits k = mixd k k := by simp [mixd]
        rw [hmx] at hoP
        go_loopg [] 102 (fun gk wr => ∃ (m : Nat) (Am : Option Addr) (cm : Nat), k ≤ m ∧ m ≤ 101 ∧ 102 ≤ m + gk ∧ Blk wr P 40 #[.int .i64 10, .int .i64 0, .int .i64 0, .int .i64 0, .string ⟨#[]⟩, .int .i64 0, .bool false, .slice Am m cm] ∧
          Own wr (fun b => P + 1 ≤ b ∧ b ≠ Q) 52 4 (.slice Am m cm) m (itc (mixd k m)) ∧ Pure w wr ∧ Blk wr Q 40 #[.int .i64 6, .int .i64 0, .int .i64 0, .int .i64 0, .string S, .int .i64 0, .bool false, .slice none 0 0])
        case atStart => exact ⟨k, Av, cv, Nat.le_refl _, by omega, by omega, hbP, hoP, hkQ, hbQ⟩
        case round =>
          clear hbP hoP hkQ hbQ HQ
          obtain ⟨m, Am, cm, hkm, hm, hgk, hb, ho, hk, hq⟩ := hrel
          have hc := hb.cell
          have hf := hb.frozen
          have hlt := hb.lt
          have hql := hq.lt
          by_cases hgo : m < 101
          · obtain ⟨g', rfl⟩ : ∃ g', gk = g' + 1 := ⟨gk - 1, by omega⟩
            have hm1 : (m : Int) ≤ 100 := by omega
            go_wp2_with (at_builtin; refine held ?_)
            refine unheld ?_
            refine wp_app Try.underlying38 info_item rfl (by omega) (ho.alloc _) (Sl.lit wr #[.string ⟨#[]⟩, .int .i64 0, .bool false, .string ⟨#[]⟩] 52 4 1 _ rfl rfl) (itc_one [zit]) (by omega) (by omega) rfl _ _ rfl rfl rfl ?_
            intro v' w8 ho8 hk8
            have hk9 : Kept (fun b => P + 1 ≤ b ∧ b ≠ Q) wr w8 := ((Kept.refl _ wr).alloc _).same hk8
            have hb8 := hb.kept hk9 (by omega)
            have hq8 := hq.kept hk9 (by omega)
            have hP := hPw.out
            have hkw := hk.trans hk9 (fun i hi h => by omega)
            replace ho8 := ho8.imp (G := fun b => P + 1 ≤ b ∧ b ≠ Q) (fun b _ h => by
              rcases h with h | h
              · exact h
              · simp at h
                omega)
            obtain ⟨A8, c8, rfl, _⟩ := ho8.form
            clear hc hf hb ho hk hk8 hk9 hq
            have hc := hb8.cell
            have hf := hb8.frozen
            go_wp2_with fail
            have hks := (Kept.refl (· = P) w8).setCell (p := ⟨P, 7, none⟩) (.inl rfl) (.slice A8 (m + 1) c8)
            have hb9 := hb8.set 7 (.slice A8 (m + 1) c8)
            simp only [List.setIfInBounds_toArray, List.set_cons_succ, List.set_cons_zero] at hb9
            have ho9 := ho8.kept hks (fun b _ hb e => by have h1 : P + 1 ≤ b := hb.1; have h2 : b = P := e; omega)
            have hq9 := hq8.kept hks (by omega)
            have hkz := hkw.setCell (p := ⟨P, 7, none⟩) (.inr (by simp only; omega)) (.slice A8 (m + 1) c8)
            go_roundg g'
            case measure => omega
            case rel =>
              refine ⟨m + 1, A8, c8, by omega, by omega, by omega, hb9, ?_, hkz, hq9⟩
              rw [mixd_succ _ _ hkm, itc_snoc]
              exact ho9
          · obtain rfl : m = 101 := by omega
            have hvers : ∀ i ∈ mixd k 101, i.ver ≤ 9223372036854775807 := fun i hi => by
              rcases List.mem_append.1 hi with h | h
              · exact hlen i h
              · rw [List.eq_of_mem_replicate h]; simp [zit]
            have hca := fun w' hI => check_any (rsA (mixd k 101)) Am cm w' hI (rsA_fits _ hvers)
            have hcb := fun w' => check_any (rsB (S ++ ⟨#[120]⟩)) none 0 w' (Sl.nil _ _ _ _) (rsB_fits _)
            have hsz : (S ++ (⟨#[120]⟩ : ByteArray)).size = S.size + 1 := by rw [ByteArray.size_append]; rfl
            have hcat : ((9223372036854775807 : Int) < ((S ++ (⟨#[120]⟩ : ByteArray)).size : Int)) = False := eq_false (by have := HM.out; have := HS.out; omega)
            have hcat2 : ((9223372036854775807 : Int) < (S.size : Int) + 1) = False := eq_false (by have := HM.out; have := HS.out; omega)
            have hcat3 : ((9223372036854775807 : Nat) < S.size + 1) = False := eq_false (by have := HM.out; have := HS.out; omega)
            unfold CheckP at hca hcb
            rw [check_long _ (by rw [mixd_length _ _ hkm]; omega)] at hca
            rw [check_b, if_pos (by have := HM.out; have := HS.out; omega)] at hcb
            simp only [rsa, rsA, mixd_length _ _ hkm] at hca
            simp only [rsa, rsB, List.length_nil] at hcb
            have Hca := Lib.hid hca
            have Hcb := Lib.hid hcb
            have hcq := hq.cell
            have hfq := hq.frozen
            have hne1 : ¬ P = Q := by omega
            have hne2 : ¬ Q = P := by omega
            have hks := (Kept.refl (· = Q) wr).setCell (p := ⟨Q, 4, none⟩) (.inl rfl) (.string (S ++ ⟨#[120]⟩))
            have ho9 := ho.kept hks (fun b _ hb e => hb.2 e)
            have hq9 := hq.set 4 (.string (S ++ ⟨#[120]⟩))
            simp only [List.setIfInBounds_toArray, List.set_cons_succ, List.set_cons_zero] at hq9
            have hkz := hk.setCell (p := ⟨Q, 4, none⟩) (.inr (by have := hPw.out; simp only; omega)) (.string (S ++ ⟨#[120]⟩))
            clear hca hcb hlen hvers hsz hks ho hq hk
            go_wp2_with fail
            refine (Hca.out _ (ho9.sl.imp fun _ _ _ => trivial)).mono ?_
            rintro e w5 ⟨rfl, hk5⟩
            have hcQ := (hq9.kept hk5 (fun h => h)).cell
            go_wp2_with fail
            refine (Hcb.out _).mono ?_
            rintro e w6 ⟨rfl, hk6⟩
            go_wp2_with fail
            go_ret
            exact ⟨rfl, (hkz.same hk5).same hk6⟩

theorem respItems_top (n : Int) (over : Bool) (w : World) (_hn : (Lit.int .i64 n).wf = true) : Calls Try.prog 9 #[.int .i64 n, .bool over] w (BoolP true w) := items_walk n over w
end Go.Proofs.Ytlmfpadlgdmflaa
