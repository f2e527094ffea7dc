/-
  The reference's Clean walked.
-/
import Derived.Test.YtemjpmkmpfpdhaaDoorFoS
set_option linter.unusedSimpArgs false
set_option linter.unusedVariables false
namespace Go.Proofs.YtemjpmkmpfpdhaaDoor
open Go.RowKit
set_option maxRecDepth 100000

theorem ctl_cont {l : List UInt8} {k d : Nat} {b : UInt8} (hno : (l.take k).any ctl = false) (hb : l[k]? = some b) (h1 : ¬ b.toNat < 32) (h2 : ¬ b.toNat = 127) (hc : contN (l.drop k) d) (hd : 1 ≤ d) : (l.take (k + d)).any ctl = false := by
  induction d with
  | zero => omega
  | succ d ih =>
    rcases Nat.eq_zero_or_pos d with h0 | h0
    · subst h0
      exact ctl_next hno hb h1 h2
    · have ih := ih (fun i a b => hc i a (by omega)) h0
      have h3 := hc d h0 (by omega)
      have hl := getD_cont _ _ h3
      rw [List.length_drop] at hl
      have hg : l[k + d]? = some (l[k + d]'(by omega)) := List.getElem?_eq_getElem (by omega)
      have h4 : (l.drop k).getD d 0 = l[k + d]'(by omega) := by simp [List.getD, hg]
      rw [h4] at h3
      exact ctl_next ih hg (by omega) (by omega)

set_option maxHeartbeats 1600000 in
theorem ref_clean (s : ByteArray) (w : World) (hs : s.size ≤ 1000) :
    Calls Tryd.prog 12 #[.string s] w (CleanPost w (cleanL (Lib.validD s.data.toList) s.data.toList)) := by
  have hsg := Lib.hid (fun k hk => sign_any s k w hs hk)
  have hn : s.data.toList.length = s.size := by simp
  have Hget := Lib.hid (str_at s)
  generalize hl : s.data.toList = l at *
  clear hl
  have Hst := Lib.hid (sign_step l)
  have HR : ∃ R, cleanL (Lib.validD l) l = R := ⟨_, rfl⟩
  obtain ⟨R, hR⟩ := HR
  rw [hR]
  have ER := Lib.hid hR
  clear hR
  have hk1 : Pure w w := Kept.refl _ _
  go_enter Tryd.func12, Tryd.ntmps12
  go_wp2
  go_loop [4] (fun i => ∃ k : Nat, i = .int .i64 k ∧ k ≤ s.size ∧ Hid ((l.take k).any ctl = false ∧ Lib.validD l = Lib.validD (l.drop k))) (fun i => s.size - (intOf i).toNat)
  case atStart => exact ⟨0, rfl, Nat.zero_le _, ⟨by simp, rfl⟩⟩
  case round =>
    obtain ⟨k, rfl, hk, hno⟩ := hrel
    by_cases hlt : k < s.size
    · obtain ⟨b, hg⟩ : ∃ b, l[k]? = some b := ⟨_, List.getElem?_eq_getElem (by omega)⟩
      have hgb := Hget.out k b hlt hg
      have hb256 : b.toNat < 256 := b.toNat_lt
      have Hs := Lib.hid (hsg.out k hlt)
      have Hs2 := Lib.hid (Hst.out k (by omega))
      have hsc := sign_cont (l.drop k)
      have HL : Hid (l.length = s.size) := hn
      generalize hd : signL (l.drop k) = d at *
      have Hsc := Lib.hid hsc
      clear hd hn hsc
      by_cases h0 : d = 0
      · subst h0
        have e : R = ([], 1) := by rw [← ER.out, hno.out.2, Hs2.out.1 rfl]; simp [cleanL]
        have He := Lib.hid e
        clear e
        go_wp2_with fail
        refine (Hs.out).mono ?_
        rintro e w' ⟨rfl, rfl⟩
        go_wp2
        go_ret2
        exact ⟨by rw [He.out]; rfl, hk1⟩
      · have h0' : ((d : Int) == 0) = false := by simpa using h0
        by_cases c1 : b.toNat < 32
        · have e : R = ([], 1) := by rw [← ER.out]; simp [cleanL, ctl_any hg (.inl c1)]
          have He := Lib.hid e
          clear e
          go_wp2_with fail
          refine (Hs.out).mono ?_
          rintro e w' ⟨rfl, rfl⟩
          go_wp2
          go_ret2
          exact ⟨by rw [He.out]; rfl, hk1⟩
        · by_cases c2 : b.toNat = 127
          · have e : R = ([], 1) := by rw [← ER.out]; simp [cleanL, ctl_any hg (.inr c2)]
            have He := Lib.hid e
            clear e
            go_wp2_with fail
            refine (Hs.out).mono ?_
            rintro e w' ⟨rfl, rfl⟩
            go_wp2
            go_ret2
            exact ⟨by rw [He.out]; rfl, hk1⟩
          · obtain ⟨v1, v2, v3⟩ := Hs2.out.2 h0
            rw [HL.out] at v2
            have hpos : 0 < d := by omega
            have H1 : Hid ((l.take (k + d)).any ctl = false ∧ Lib.validD l = Lib.validD (l.drop (k + d))) := ⟨ctl_cont hno.out.1 hg c1 c2 (Hsc.out h0) hpos, hno.out.2.trans v1⟩
            have c2' : ((b.toNat : Int) == 127) = false := by simpa using (by omega : ¬ (b.toNat : Int) = 127)
            clear v1 v3 h0 c2
            go_wp2_with fail
            refine (Hs.out).mono ?_
            rintro e w' ⟨rfl, rfl⟩
            go_wp2
            go_round
            case measure => first | omega | (simp [intOf]; omega)
            case rel => exact ⟨k + d, by first | rfl | go_num, v2, H1⟩
    · have hke : k = s.size := by omega
      subst hke
      have hno1 := hno.out.1
      have hno2 := hno.out.2
      rw [List.take_of_length_le (by omega)] at hno1
      rw [List.drop_eq_nil_of_le (by omega), Lib.validD_nil] at hno2
      have E : Hid (R = outL (endL (sq l))) := by rw [Hid, ← ER.out]; simp [cleanL, hno1, hno2]
      clear hno1 hno2
      go_wp2
      go_loopw [6, 7] (fun v i wr => ∃ k : Nat, i = .int .i64 k ∧ k ≤ s.size ∧ Own wr (fun g => w.heap.size ≤ g) 5 1 v (sq (l.take k)).length (bvs (sq (l.take k))) ∧ Pure w wr) (fun _ i _ => s.size - (intOf i).toNat)
      case atStart => exact ⟨0, rfl, Nat.zero_le _, Own.nil _ _ _ _, Kept.refl _ _⟩
      case round =>
        obtain ⟨k, rfl, hk, ho, hk2⟩ := hrel
        have hol := sq_length (l.take k)
        rw [List.length_take] at hol
        by_cases hlt : k < s.size
        · obtain ⟨b, hg⟩ : ∃ b, l[k]? = some b := ⟨_, List.getElem?_eq_getElem (by omega)⟩
          have hgb := Hget.out k b hlt hg
          have hb256 : b.toNat < 256 := b.toNat_lt
          have Hg := Lib.hid (sq_take l k b hg)
          generalize ho0 : sq (l.take k) = o at *
          clear ho0
          obtain ⟨n, hn0⟩ : ∃ n, o.length = n := ⟨_, rfl⟩
          obtain ⟨A, c, rfl, _, _, _, hsl⟩ := ho.form
          rw [hn0] at ho hol hsl ⊢
          have Hn := Lib.hid hn0
          have Ho := Lib.hid ho
          have Hk2 := Lib.hid hk2
          have hcut : ((n : Int) - 1).toNat = n - 1 := by omega
          clear hn0 ho hk2
          by_cases c1 : b.toNat = 32
          · have c1' : ((b.toNat : Int) == 32) = true := by simp [c1]
            by_cases hz : n = 0
            · subst hz
              have hnx : Hid (sq (l.take (k + 1)) = o) := Hg.out.trans (sqStep_skip (u8_eq.2 c1) (.inl (List.eq_nil_of_length_eq_zero Hn.out)))
              clear hsl
              go_wp2
              go_roundw
              case measure => first | omega | (simp [intOf]; omega)
              case rel => exact ⟨k + 1, by first | rfl | go_num, hlt, by rw [hnx.out, Hn.out]; exact Ho.out, Hk2.out⟩
            · have hz' : ((n : Int) == 0) = false := by simpa using hz
              obtain ⟨B, f, rfl, _, hBl, hcs⟩ := hsl.2 (by omega)
              obtain ⟨d, hd⟩ : ∃ d, o[n - 1]? = some d := ⟨_, List.getElem?_eq_getElem (by rw [Hn.out]; omega)⟩
              have hcd := hcs (n - 1) (by rw [bvs_length, Hn.out]; omega)
              rw [show (bvs o)[n - 1]? = some (.int .u8 (d.toNat : Int)) from by simp [bvs, hd, bv]] at hcd
              have hlast : o.getLast? = some d := by rw [List.getLast?_eq_getElem?, Hn.out]; exact hd
              have Hlast := Lib.hid hlast
              have hd256 : d.toNat < 256 := d.toNat_lt
              clear hsl hcs hlast hd
              by_cases c2 : d.toNat = 32
              · have c2' : ((d.toNat : Int) == 32) = true := by simp [c2]
                have hnx : Hid (sq (l.take (k + 1)) = o) := Hg.out.trans (sqStep_skip (u8_eq.2 c1) (.inr (by rw [Hlast.out, u8_eq.2 c2])))
                clear c1 c2
                go_wp2
                go_roundw
                case measure => first | omega | (simp [intOf]; omega)
                case rel => exact ⟨k + 1, by first | rfl | go_num, hlt, by rw [hnx.out, Hn.out]; exact Ho.out, Hk2.out⟩
              · have c2' : ((d.toNat : Int) == 32) = false := by simpa using (by omega : ¬ (d.toNat : Int) = 32)
                have hnx : Hid (sq (l.take (k + 1)) = o ++ [b]) := Hg.out.trans (sqStep_add (by
                  rintro ⟨_, h | h⟩
                  · rw [h] at Hlast; cases Hlast.out
                  · rw [Hlast.out] at h; injection h with h; exact c2 (by rw [h]; rfl)))
                clear c1 c2
                go_wp2_with (first | (at_builtin; refine held ?_) | (at_make; refine held ?_))
                refine unheld ?_
                refine wp_appB w.heap.size Tryd.underlying36 info_u8 rfl (by omega) (by have := Hk2.out.size; simp; omega) (Ho.out.alloc _) (Sl.one _ _ _) (by intro u hu; simp at hu; subst hu; rfl) (by omega) (by omega) rfl _ _ rfl rfl rfl ?_
                intro v4 w4 ho4 hk4
                have hk5 := (Hk2.out.alloc (.cells #[.int .u8 (b.toNat : Int)] 5)).trans hk4 (fun i hi h => absurd h (by omega))
                have Ho4 := Lib.hid ho4
                have Hk5 := Lib.hid hk5
                clear ho4 hk4 hk5
                go_wp2
                go_roundw
                case measure => first | omega | (simp [intOf]; omega)
                case rel =>
                  have h6 := Ho4.out
                  rw [show bvs o ++ [Value.int .u8 (b.toNat : Int)] = bvs (o ++ [b]) from by rw [bvs_append]; rfl, show n + 1 = (o ++ [b]).length from by rw [List.length_append, Hn.out]; rfl] at h6
                  exact ⟨k + 1, by first | rfl | go_num, hlt, by rw [hnx.out]; exact h6, Hk5.out⟩
          · have c1' : ((b.toNat : Int) == 32) = false := by simpa using (by omega : ¬ (b.toNat : Int) = 32)
            have hnx : Hid (sq (l.take (k + 1)) = o ++ [b]) := Hg.out.trans (sqStep_add (by rintro ⟨h, _⟩; exact c1 (by rw [h]; rfl)))
            clear c1 hsl
            go_wp2_with (first | (at_builtin; refine held ?_) | (at_make; refine held ?_))
            refine unheld ?_
            refine wp_appB w.heap.size Tryd.underlying36 info_u8 rfl (by omega) (by have := Hk2.out.size; simp; omega) (Ho.out.alloc _) (Sl.one _ _ _) (by intro u hu; simp at hu; subst hu; rfl) (by omega) (by omega) rfl _ _ rfl rfl rfl ?_
            intro v4 w4 ho4 hk4
            have hk5 := (Hk2.out.alloc (.cells #[.int .u8 (b.toNat : Int)] 5)).trans hk4 (fun i hi h => absurd h (by omega))
            have Ho4 := Lib.hid ho4
            have Hk5 := Lib.hid hk5
            clear ho4 hk4 hk5
            go_wp2
            go_roundw
            case measure => first | omega | (simp [intOf]; omega)
            case rel =>
              have h6 := Ho4.out
              rw [show bvs o ++ [Value.int .u8 (b.toNat : Int)] = bvs (o ++ [b]) from by rw [bvs_append]; rfl, show n + 1 = (o ++ [b]).length from by rw [List.length_append, Hn.out]; rfl] at h6
              exact ⟨k + 1, by first | rfl | go_num, hlt, by rw [hnx.out]; exact h6, Hk5.out⟩
        · have hke : k = s.size := by omega
          subst hke
          rw [List.take_of_length_le (by omega)] at ho
          replace hol := sq_length l
          generalize ho0 : sq l = o at *
          clear ho0
          obtain ⟨n, hn0⟩ : ∃ n, o.length = n := ⟨_, rfl⟩
          obtain ⟨A, c, rfl, hnc, hcm, _, hsl⟩ := ho.form
          rw [hn0] at ho hol hsl hnc ⊢
          have Hn := Lib.hid hn0
          have Hk := Lib.hid (hk1.same hk2)
          have hcut : ((n : Int) - 1).toNat = n - 1 := by omega
          clear hn0 ho hk2
          by_cases hz : n = 0
          · subst hz
            have e : R = ([], 14) := by rw [E.out, List.eq_nil_of_length_eq_zero Hn.out]; rfl
            have He := Lib.hid e
            clear hsl e
            go_wp2
            go_ret2
            exact ⟨by rw [He.out]; rfl, Hk.out⟩
          · obtain ⟨B, f, rfl, _, hBl, hcs⟩ := hsl.2 (by omega)
            obtain ⟨d, hd⟩ : ∃ d, o[n - 1]? = some d := ⟨_, List.getElem?_eq_getElem (by rw [Hn.out]; omega)⟩
            have hcd := hcs (n - 1) (by rw [bvs_length, Hn.out]; omega)
            rw [show (bvs o)[n - 1]? = some (.int .u8 (d.toNat : Int)) from by simp [bvs, hd, bv]] at hcd
            have hlast : o.getLast? = some d := by rw [List.getLast?_eq_getElem?, Hn.out]; exact hd
            have hd256 : d.toNat < 256 := d.toNat_lt
            have hz' : 0 < n := by omega
            clear hcs hd hz
            by_cases c2 : d.toNat = 32
            · have c2' : ((d.toNat : Int) == 32) = true := by simp [c2]
              have e1 : endL o = o.take (n - 1) := by rw [endL, if_pos (by rw [hlast, u8_eq.2 c2]), List.dropLast_eq_take, Hn.out]
              have hl1 : (o.take (n - 1)).length = n - 1 := by rw [List.length_take, Hn.out]; omega
              rw [Hid, e1] at E
              replace E := Lib.hid E
              have hs1 := hsl.pre (n - 1) (by omega)
              rw [Nat.mul_one, ← bvs_take] at hs1
              have hcv := run_str (P := Tryd.prog) hs1 36 9 5 c Tryd.underlying36 Tryd.underlying5 Tryd.underlying9
              clear hsl hs1 c2 e1 hlast
              by_cases z1 : n = 1
              · subst z1
                have e : R = ([], 14) := by rw [E.out]; rfl
                have He := Lib.hid e
                replace hcd : wr.cell? ⟨B, f, none⟩ = some (.int .u8 (d.toNat : Int)) := hcd
                clear e hcv hcut hl1
                go_wp2
                go_ret2
                exact ⟨by rw [He.out]; rfl, Hk.out⟩
              · by_cases z2 : 65 < n
                · have e : R = ([], 2) := by rw [E.out, outL, hl1, if_neg (by omega), if_pos (by omega)]
                  have z3 : (((n - 1 : Nat) : Int) == 0) = false := by simp; omega
                  have z4 : 64 < n - 1 := by omega
                  have z5 : n - 1 ≤ c := by omega
                  have He := Lib.hid e
                  clear e hcv hl1
                  go_wp2
                  go_ret2
                  exact ⟨by rw [He.out]; rfl, Hk.out⟩
                · have e : R = (o.take (n - 1), 0) := by rw [E.out, outL, hl1, if_neg (by omega), if_neg (by omega)]
                  have z3 : (((n - 1 : Nat) : Int) == 0) = false := by simp; omega
                  have z4 : ¬ 64 < n - 1 := by omega
                  have z5 : n - 1 ≤ c := by omega
                  have He := Lib.hid e
                  clear e hl1
                  go_wp2_with (simp only [hcv])
                  go_ret2
                  exact ⟨by rw [He.out]; rfl, Hk.out⟩
            · have c2' : ((d.toNat : Int) == 32) = false := by simpa using (by omega : ¬ (d.toNat : Int) = 32)
              have e1 : endL o = o := by rw [endL, if_neg (by rw [hlast]; intro h; injection h with h; exact c2 (by rw [h]; rfl))]
              rw [Hid, e1] at E
              replace E := Lib.hid E
              have hcv := run_str (P := Tryd.prog) hsl 36 9 5 c Tryd.underlying36 Tryd.underlying5 Tryd.underlying9
              have z3 : ((n : Int) == 0) = false := by simp; omega
              clear hsl c2 e1 hlast
              by_cases z2 : 64 < n
              · have e : R = ([], 2) := by rw [E.out, outL, Hn.out, if_neg (by omega), if_pos (by omega)]
                have He := Lib.hid e
                clear e hcv
                go_wp2
                go_ret2
                exact ⟨by rw [He.out]; rfl, Hk.out⟩
              · have e : R = (o, 0) := by rw [E.out, outL, Hn.out, if_neg (by omega), if_neg (by omega)]
                have He := Lib.hid e
                clear e
                go_wp2_with (simp only [hcv])
                go_ret2
                exact ⟨by rw [He.out]; rfl, Hk.out⟩
end Go.Proofs.YtemjpmkmpfpdhaaDoor
