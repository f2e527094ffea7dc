/-
  rw: RwTurns walked.
-/
import Derived.Test.YtggnndopncegaaaRwV
import Derived.LoopTactic
import Derived.Deep.QuietTactic
import Derived.BigQuiet
import Derived.Deep.CutBlock
import Derived.Deep.CutRange
set_option linter.unusedSimpArgs false
set_option linter.unusedVariables false
namespace Go.Proofs.Ytggnndopncegaaa
open Go.RowKit
set_option maxRecDepth 100000

set_option maxHeartbeats 6400000 in
theorem turns_top (A : Option Addr) (c : Nat) (l : List Act) (w : World) (F : Nat → Prop) (hs : Sl w F 2 A l.length (l.flatMap Act.cells)) (hf : ∀ a ∈ l, a.Fits) :
    Calls Try.prog 5 #[.slice A l.length c] w (BoolP true w) := by
  have CF := Lib.hid first22
  have CN := Lib.hid lk_new
  obtain ⟨n, hn⟩ : ∃ n, l.length = n := ⟨_, rfl⟩
  rw [hn] at hs ⊢
  by_cases h100 : n ≤ 100
  · have Hs := Lib.hid hs
    have Hn := Lib.hid hn
    have Hf := Lib.hid hf
    clear hs hn hf
    have hgt : ¬ (100 : Int) < (n : Int) := by omega
    go_enter Try.func5, Try.ntmps5
    go_wp2_with fail
    refine (CF.out _).mono ?_
    rintro e w1 ⟨rfl, hk1⟩
    go_wp2_with fail
    refine (CN.out _).mono ?_
    rintro e w3 ⟨rfl, hm3, hk3⟩
    obtain ⟨N, hN⟩ : ∃ N, w1.heap.size = N := ⟨_, rfl⟩
    rw [hN] at hm3
    have hk : Pure w w3 := hk1.same hk3
    have hNw : w.heap.size ≤ N := by have := hk1.size; omega
    have h0 : TS N w3 Lk.none (.slice none 0 0) 0 (.slice none 0 0) 0 0 :=
      ⟨[], ⟨fun b => N ≤ b, fun _ => False, fun _ => False, fun b h => h, fun b h => h.elim, fun b h => h.elim, hm3, (Own.nil _ _ _ _).toO, Own.nil _ _ _ _⟩, good_none, (fun x h => by cases h), rfl, rfl, Nat.le_refl _, Nat.le_refl _, Nat.le_refl _⟩
    have Hk := Lib.hid hk
    have H0 := Lib.hid h0
    clear hk1 hk3 hk hm3 h0
    rw [hN]
    clear hN
    go_wp2
    go_loopw [4, 5, 6] (fun v4 v5 i wr => ∃ (k n4 c4 n5 c5 : Nat) (A4 A5 : Option Addr) (kk : Lk), i = .int .i64 k ∧ v4 = .slice A4 n4 c4 ∧ v5 = .slice A5 n5 c5 ∧ k ≤ n ∧ Hid (playL (l.take k) = kk) ∧ Hid (TS N wr kk (.slice A4 n4 c4) n4 (.slice A5 n5 c5) n5 k) ∧ Hid (Kept (fun b => N ≤ b) w3 wr)) (fun _ _ i _ => n - (intOf i).toNat)
    case atStart => exact ⟨0, 0, 0, 0, 0, none, none, Lk.none, rfl, rfl, rfl, Nat.zero_le _, rfl, H0.out, Kept.refl _ _⟩
    case round =>
      obtain ⟨k, n4, c4, n5, c5, A4, A5, kk, rfl, rfl, rfl, hkn, htk, hts, hkr⟩ := hrel
      by_cases hlt : k < n
      · obtain ⟨b, o, rfl, _, _, _⟩ := Hs.out.2 (by omega)
        obtain ⟨a, ha⟩ : ∃ a, l[k]? = some a := ⟨_, List.getElem?_eq_getElem (by have := Hn.out; omega)⟩
        have hsr := fun (wx : World) (h : Kept (fun b => N ≤ b) w3 wx) => Hs.out.kept ((Hk.out.mono (fun _ _ h => h.elim)).same h) (fun b hb _ h => by omega)
        have hcc := fun (wx : World) (h : Kept (fun b => N ≤ b) w3 wx) => (⟨sl_at Act.cells_len (hsr wx h) (by omega) ha 0 (by omega), sl_at Act.cells_len (hsr wx h) (by omega) ha 1 (by omega)⟩ : _ ∧ _)
        simp only [Act.cells] at hcc
        obtain ⟨op, who⟩ := a
        have hcc2 : ∀ wx : World, Kept (fun b => N ≤ b) w3 wx → wx.cell? ⟨b, o + k * 2, none⟩ = some (.int .i64 op) ∧ wx.cell? ⟨b, o + k * 2 + 1, none⟩ = some (.int .i64 who) := hcc
        obtain ⟨hc0, hc1⟩ := hcc2 wr hkr.out
        have Hcc := Lib.hid hcc2
        have hki : (k : Int) < (n : Int) := by omega
        have hst : playL (l.take (k + 1)) = stepL (playL (l.take k)) ⟨op, who⟩ := by rw [List.take_add_one, ha, Option.toList_some, playL_snoc]
        have Hst := Lib.hid hst
        obtain ⟨wl, htn, htg, hwl, hn4, hn5, hm4, hm5, hmz⟩ := hts.out
        have CS := Lib.hid (lk_state wr _ N kk who htn.lock (by omega))
        obtain ⟨z, hz⟩ : ∃ z, kk.st who = z := ⟨_, rfl⟩
        rw [hz] at CS
        have Htn := Lib.hid htn
        have Hwl := Lib.hid hwl
        have Htg := Lib.hid htg
        have Hz := Lib.hid hz
        have Hn4 := Lib.hid hn4
        have Hn5 := Lib.hid hn5
        clear hst hsr hcc hcc2 ha hts htn htg hwl hz hn4 hn5
        go_wp2_with fail
        refine (CS.out).mono ?_
        rintro e w4 ⟨rfl, hk4⟩
        have hkr4 : Kept (fun b => N ≤ b) w3 w4 := hkr.out.same (hk4.mono (fun _ _ h => h.elim))
        obtain ⟨hc04, hc14⟩ := Hcc.out w4 hkr4
        have Hkr4 := Lib.hid hkr4
        have Hk4 := Lib.hid hk4
        clear hkr hkr4 hk4 hc0 hc1
        go_upto_region 14 with fail
        go_cut [48] from 21 to 156 (fun s wx => s = .bool (decide (op = 0) || decide (op = 1)) ∧ w4 = wx)
        case first =>
          by_cases hop0 : op = 0
          · subst hop0
            go_wp2
            go_meet
            exact ⟨rfl, rfl⟩
          · have h0 : (op == 0) = false := by simpa using hop0
            by_cases hop1 : op = 1
            · subst hop1
              go_wp2
              go_meet
              exact ⟨rfl, rfl⟩
            · have h1 : (op == 1) = false := by simpa using hop1
              go_wp2
              go_meet
              exact ⟨by simp [hop0, hop1], rfl⟩
        case rest =>
        obtain ⟨rfl, rfl⟩ := hcut
        go_upto_if 48 with fail
        go_cut [4, 5] from 21 to 156 (fun v4 v5 wx => ∃ (n4 c4 n5 c5 : Nat) (A4 A5 : Option Addr), v4 = .slice A4 n4 c4 ∧ v5 = .slice A5 n5 c5 ∧ Hid (TS N wx (playL (l.take (k + 1))) (.slice A4 n4 c4) n4 (.slice A5 n5 c5) n5 (k + 1)) ∧ Hid (Kept (fun b => N ≤ b) w4 wx))
        case first =>
          by_cases hopa : op = 0 ∨ op = 1
          · by_cases hz0 : z = 0
            · obtain ⟨aG, aS, aT, aF⟩ := ask_law Htg.out (w := who) (b := decide (op = 1)) (Hz.out.trans hz0)
              have hwq : who ∉ kk.qu.map (·.1) := (st_zero.1 (Hz.out.trans hz0)).2
              have hasz := ask_size kk who (decide (op = 1))
              have he : playL (l.take (k + 1)) = (kk.ask who (decide (op = 1))).2 := Hst.out.trans (by rw [htk.out]; unfold stepL; rw [if_pos hopa])
              subst hz0
              rcases hopa with hopv | hopv
              · have hd : decide (op = 1) = false := by simp [hopv]
                rw [hd] at aG aT aF hasz he
                have HaG := Lib.hid aG
                have Hwq := Lib.hid hwq
                have He := Lib.hid he
                have hkz : (kk.ask who false).2.size ≤ k + 1 := by omega
                have Hkz := Lib.hid hkz
                cases hin : (kk.ask who false).1 with
                | true =>
                  have HaT := Lib.hid (aT hin)
                  have Hin := Lib.hid hin
                  have hn40 : n4 = 0 := by rw [← Hn4.out, (aT hin).1]; rfl
                  subst hn40
                  clear aG aS aT aF hwq hasz he hd hkz hin
                  
                  have CA := tn_ask (Htn.out.pure Hk4.out) who false (by omega)
                  rw [Hin.out] at CA
                  have CA := Lib.hid CA
                  subst hopv
                  go_wp2_with fail
                  refine (CA.out).mono ?_
                  rintro e w5 ⟨rfl, htn5, hk5⟩
                  have CW := Lib.hid (without_any A5 n5 c5 wl who w5 _ (htn5.sl5 Hn5.out) (by omega))
                  have hkr5 := Hkr4.out.same hk5
                  obtain ⟨hc05, hc15⟩ := Hcc.out w5 hkr5
                  have Htn5 := Lib.hid htn5
                  have Hk5 := Lib.hid hk5
                  clear htn5 hk5 hc04 hc14
                  go_wp2_with fail
                  refine (CW.out).mono ?_
                  rintro e w6 ⟨A6, c6, rfl, ho6, hk6⟩
                  have htn6 := Htn5.out.new5 hk6 ho6
                  have hkr6 : Kept (fun b => N ≤ b) w3 w6 := hkr5.same (hk6.mono (fun _ _ h => h.elim))
                  obtain ⟨hc06, hc16⟩ := Hcc.out w6 hkr6
                  have hk46 : Kept (fun b => N ≤ b) w4 w6 := Hk5.out.same (hk6.mono (fun _ _ h => h.elim))
                  have hlw := lessI_length wl who
                  rw [Hn5.out] at hlw
                  have Htn6 := Lib.hid htn6
                  have Hk46 := Lib.hid hk46
                  clear htn6 hkr6 hk46 hkr5 hk6 ho6 hc05 hc15
                  have hfin := ts_in Htn6.out HaG.out HaT.out rfl (show (lessI wl who).length ≤ k + 1 by omega) Hkz.out
                  rw [← He.out] at hfin
                  have Hfin := Lib.hid hfin
                  clear hfin
                  go_wp2
                  go_meet
                  exact ⟨0, c4, (lessI wl who).length, c6, A4, A6, rfl, rfl, Hfin, Hk46⟩
                | false =>
                  have HaF := Lib.hid (aF hin)
                  have Hin := Lib.hid hin
                  clear aG aS aT aF hwq hasz he hd hkz hin
                  
                  have CA := tn_ask (Htn.out.pure Hk4.out) who false (by omega)
                  rw [Hin.out] at CA
                  have CA := Lib.hid CA
                  subst hopv
                  go_wp2_with fail
                  refine (CA.out).mono ?_
                  rintro e w5 ⟨rfl, htn5, hk5⟩
                  have CW := Lib.hid (without_any A5 n5 c5 wl who w5 _ (htn5.sl5 Hn5.out) (by omega))
                  have hkr5 := Hkr4.out.same hk5
                  obtain ⟨hc05, hc15⟩ := Hcc.out w5 hkr5
                  have Htn5 := Lib.hid htn5
                  have Hk5 := Lib.hid hk5
                  clear htn5 hk5 hc04 hc14
                  go_wp2_with fail
                  refine (CW.out).mono ?_
                  rintro e w6 ⟨A6, c6, rfl, ho6, hk6⟩
                  have htn6 := Htn5.out.new5 hk6 ho6
                  have hkr6 : Kept (fun b => N ≤ b) w3 w6 := hkr5.same (hk6.mono (fun _ _ h => h.elim))
                  obtain ⟨hc06, hc16⟩ := Hcc.out w6 hkr6
                  have hk46 : Kept (fun b => N ≤ b) w4 w6 := Hk5.out.same (hk6.mono (fun _ _ h => h.elim))
                  have hlw := lessI_length wl who
                  rw [Hn5.out] at hlw
                  have Htn6 := Lib.hid htn6
                  have Hk46 := Lib.hid hk46
                  clear htn6 hkr6 hk46 hkr5 hk6 ho6 hc05 hc15
                  
                  go_wp2_with (first | (at_builtin; refine held ?_))
                  refine unheld ?_
                  obtain ⟨G, hoG, hG⟩ := (Htn6.out.pure ((Kept.refl (fun _ => False) w6).alloc (.cells #[.int .i64 who] 3))).open4
                  rw [List.length_map, Hn4.out] at hoG
                  refine wp_appO Try.underlying34 info_di rfl (by omega) hoG (Sl.lit w6 #[.int .i64 who] 3 1 1 _ rfl rfl) (ics_one [who]) (by omega) (by omega) (by omega) rfl _ _ rfl rfl rfl ?_
                  intro v8 w8 ho8 hk8
                  obtain ⟨htn8, hk78⟩ := hG w8 v8 (kk.qu.map (·.1) ++ [who]) (by rw [List.length_append, List.length_map, Hn4.out]; simpa [ics] using ho8) hk8
                  obtain ⟨A8, c8, rfl, _⟩ := htn8.form4
                  have hk48 : Kept (fun b => N ≤ b) w4 w8 := (Hk46.out.same ((Kept.refl _ _).alloc _)).same hk78
                  have hfin := ts_out htn8 HaG.out HaF.out (mem_false Hwl.out Hwq.out) rfl rfl (show kk.qu.length + 1 ≤ k + 1 by have := Hn4.out; omega) (show (lessI wl who).length ≤ k + 1 by omega) Hkz.out
                  rw [← He.out, Hn4.out] at hfin
                  have Hfin := Lib.hid hfin
                  have Hk48 := Lib.hid hk48
                  have hl8 : (kk.qu.map (·.1) ++ [who]).length = n4 + 1 := by rw [List.length_append, List.length_map, Hn4.out]; rfl
                  rw [hl8] at Hfin ⊢
                  clear hfin hk48 htn8 ho8 hk8 hk78 hoG hG hl8
                  go_wp2
                  go_meet
                  exact ⟨n4 + 1, c8, (lessI wl who).length, c6, A8, A6, rfl, rfl, Hfin, Hk48⟩
              · have hd : decide (op = 1) = true := by simp [hopv]
                rw [hd] at aG aT aF hasz he
                have HaG := Lib.hid aG
                have Hwq := Lib.hid hwq
                have He := Lib.hid he
                have hkz : (kk.ask who true).2.size ≤ k + 1 := by omega
                have Hkz := Lib.hid hkz
                cases hin : (kk.ask who true).1 with
                | true =>
                  have HaT := Lib.hid (aT hin)
                  have Hin := Lib.hid hin
                  have hn40 : n4 = 0 := by rw [← Hn4.out, (aT hin).1]; rfl
                  subst hn40
                  clear aG aS aT aF hwq hasz he hd hkz hin
                  
                  have CA := tn_ask (Htn.out.pure Hk4.out) who true (by omega)
                  rw [Hin.out] at CA
                  have CA := Lib.hid CA
                  subst hopv
                  go_wp2_with fail
                  refine (CA.out).mono ?_
                  rintro e w5 ⟨rfl, htn5, hk5⟩
                  have CW := Lib.hid (without_any A5 n5 c5 wl who w5 _ (htn5.sl5 Hn5.out) (by omega))
                  have hkr5 := Hkr4.out.same hk5
                  obtain ⟨hc05, hc15⟩ := Hcc.out w5 hkr5
                  have Htn5 := Lib.hid htn5
                  have Hk5 := Lib.hid hk5
                  clear htn5 hk5 hc04 hc14
                  go_wp2_with fail
                  refine (CW.out).mono ?_
                  rintro e w6 ⟨A6, c6, rfl, ho6, hk6⟩
                  have htn6 := Htn5.out.new5 hk6 ho6
                  have hkr6 : Kept (fun b => N ≤ b) w3 w6 := hkr5.same (hk6.mono (fun _ _ h => h.elim))
                  obtain ⟨hc06, hc16⟩ := Hcc.out w6 hkr6
                  have hk46 : Kept (fun b => N ≤ b) w4 w6 := Hk5.out.same (hk6.mono (fun _ _ h => h.elim))
                  have hlw := lessI_length wl who
                  rw [Hn5.out] at hlw
                  have Htn6 := Lib.hid htn6
                  have Hk46 := Lib.hid hk46
                  clear htn6 hkr6 hk46 hkr5 hk6 ho6 hc05 hc15
                  go_wp2_with (first | (at_builtin; refine held ?_))
                  refine unheld ?_
                  obtain ⟨G, hoG, hG⟩ := (Htn6.out.pure ((Kept.refl (fun _ => False) w6).alloc (.cells #[.int .i64 who] 3))).open5
                  refine wp_app Try.underlying34 info_di rfl (by omega) hoG (Sl.lit w6 #[.int .i64 who] 3 1 1 _ rfl rfl) (ics_one [who]) (by omega) (by omega) rfl _ _ rfl rfl rfl ?_
                  intro v7 w7 ho7 hk7
                  obtain ⟨htn7, hk67⟩ := hG w7 v7 (lessI wl who ++ [who]) (by
                    have := ho7.imp (G := fun b => G b ∨ (w6.alloc (.cells #[.int .i64 who] 3)).heap.size ≤ b) (fun b _ h => h.imp id (fun h => by omega))
                    simpa [ics] using this) hk7
                  obtain ⟨A7, c7, rfl⟩ := htn7.form5
                  have hk47 : Kept (fun b => N ≤ b) w4 w7 := (Hk46.out.same ((Kept.refl _ _).alloc _)).same hk67
                  have hln : (lessI wl who ++ [who]).length = (lessI wl who).length + 1 := by simp
                  have Htn7 := Lib.hid htn7
                  have Hk47 := Lib.hid hk47
                  clear htn7 hk47 ho7 hk7 hk67 hoG hG hc06 hc16
                  have hfin := ts_in Htn7.out HaG.out HaT.out hln (show (lessI wl who).length + 1 ≤ k + 1 by omega) Hkz.out
                  rw [← He.out, hln] at hfin
                  have Hfin := Lib.hid hfin
                  rw [hln]
                  clear hfin hln
                  go_wp2
                  go_meet
                  exact ⟨0, c4, (lessI wl who).length + 1, c7, A4, A7, rfl, rfl, Hfin, Hk47⟩
                | false =>
                  have HaF := Lib.hid (aF hin)
                  have Hin := Lib.hid hin
                  clear aG aS aT aF hwq hasz he hd hkz hin
                  
                  have CA := tn_ask (Htn.out.pure Hk4.out) who true (by omega)
                  rw [Hin.out] at CA
                  have CA := Lib.hid CA
                  subst hopv
                  go_wp2_with fail
                  refine (CA.out).mono ?_
                  rintro e w5 ⟨rfl, htn5, hk5⟩
                  have CW := Lib.hid (without_any A5 n5 c5 wl who w5 _ (htn5.sl5 Hn5.out) (by omega))
                  have hkr5 := Hkr4.out.same hk5
                  obtain ⟨hc05, hc15⟩ := Hcc.out w5 hkr5
                  have Htn5 := Lib.hid htn5
                  have Hk5 := Lib.hid hk5
                  clear htn5 hk5 hc04 hc14
                  go_wp2_with fail
                  refine (CW.out).mono ?_
                  rintro e w6 ⟨A6, c6, rfl, ho6, hk6⟩
                  have htn6 := Htn5.out.new5 hk6 ho6
                  have hkr6 : Kept (fun b => N ≤ b) w3 w6 := hkr5.same (hk6.mono (fun _ _ h => h.elim))
                  obtain ⟨hc06, hc16⟩ := Hcc.out w6 hkr6
                  have hk46 : Kept (fun b => N ≤ b) w4 w6 := Hk5.out.same (hk6.mono (fun _ _ h => h.elim))
                  have hlw := lessI_length wl who
                  rw [Hn5.out] at hlw
                  have Htn6 := Lib.hid htn6
                  have Hk46 := Lib.hid hk46
                  clear htn6 hkr6 hk46 hkr5 hk6 ho6 hc05 hc15
                  go_wp2_with (first | (at_builtin; refine held ?_))
                  refine unheld ?_
                  obtain ⟨G, hoG, hG⟩ := (Htn6.out.pure ((Kept.refl (fun _ => False) w6).alloc (.cells #[.int .i64 who] 3))).open5
                  refine wp_app Try.underlying34 info_di rfl (by omega) hoG (Sl.lit w6 #[.int .i64 who] 3 1 1 _ rfl rfl) (ics_one [who]) (by omega) (by omega) rfl _ _ rfl rfl rfl ?_
                  intro v7 w7 ho7 hk7
                  obtain ⟨htn7, hk67⟩ := hG w7 v7 (lessI wl who ++ [who]) (by
                    have := ho7.imp (G := fun b => G b ∨ (w6.alloc (.cells #[.int .i64 who] 3)).heap.size ≤ b) (fun b _ h => h.imp id (fun h => by omega))
                    simpa [ics] using this) hk7
                  obtain ⟨A7, c7, rfl⟩ := htn7.form5
                  have hk47 : Kept (fun b => N ≤ b) w4 w7 := (Hk46.out.same ((Kept.refl _ _).alloc _)).same hk67
                  have hln : (lessI wl who ++ [who]).length = (lessI wl who).length + 1 := by simp
                  have Htn7 := Lib.hid htn7
                  have Hk47 := Lib.hid hk47
                  clear htn7 hk47 ho7 hk7 hk67 hoG hG hc06 hc16
                  
                  go_wp2_with (first | (at_builtin; refine held ?_))
                  refine unheld ?_
                  obtain ⟨G, hoG, hG⟩ := (Htn7.out.pure ((Kept.refl (fun _ => False) w7).alloc (.cells #[.int .i64 who] 3))).open4
                  rw [List.length_map, Hn4.out] at hoG
                  refine wp_appO Try.underlying34 info_di rfl (by omega) hoG (Sl.lit w7 #[.int .i64 who] 3 1 1 _ rfl rfl) (ics_one [who]) (by omega) (by omega) (by omega) rfl _ _ rfl rfl rfl ?_
                  intro v8 w8 ho8 hk8
                  obtain ⟨htn8, hk78⟩ := hG w8 v8 (kk.qu.map (·.1) ++ [who]) (by rw [List.length_append, List.length_map, Hn4.out]; simpa [ics] using ho8) hk8
                  obtain ⟨A8, c8, rfl, _⟩ := htn8.form4
                  have hk48 : Kept (fun b => N ≤ b) w4 w8 := (Hk47.out.same ((Kept.refl _ _).alloc _)).same hk78
                  have hfin := ts_out htn8 HaG.out HaF.out (mem_true Hwl.out Hwq.out) rfl hln (show kk.qu.length + 1 ≤ k + 1 by have := Hn4.out; omega) (show (lessI wl who).length + 1 ≤ k + 1 by omega) Hkz.out
                  rw [← He.out, Hn4.out, hln] at hfin
                  have Hfin := Lib.hid hfin
                  have Hk48 := Lib.hid hk48
                  have hl8 : (kk.qu.map (·.1) ++ [who]).length = n4 + 1 := by rw [List.length_append, List.length_map, Hn4.out]; rfl
                  rw [hl8] at Hfin ⊢
                  clear hfin hk48 htn8 ho8 hk8 hk78 hoG hG hl8 hln
                  go_wp2
                  go_meet
                  exact ⟨n4 + 1, c8, (lessI wl who).length + 1, c7, A8, A7, rfl, rfl, Hfin, Hk48⟩
            · rcases hopa with hopv | hopv
              · have hsame := ask_same (b := false) (fun e => hz0 (Hz.out.symm.trans e))
                have CA := tn_ask (Htn.out.pure Hk4.out) who false (by omega)
                rw [hsame] at CA
                have CA := Lib.hid CA
                have hstep : stepL kk ⟨op, who⟩ = kk := by unfold stepL; rw [if_pos (by simp only; omega)]; rw [show (decide ((⟨op, who⟩ : Act).op = 1)) = false from by simp [hopv]]; exact congrArg Prod.snd hsame
                have Hstep := Lib.hid (show playL (l.take (k + 1)) = kk from Hst.out.trans (by rw [htk.out]; exact hstep))
                have hz0' : (z == 0) = false := by simpa using hz0
                clear hsame hstep
                subst hopv
                go_wp2_with fail
                refine (CA.out).mono ?_
                rintro e w5 ⟨rfl, htn5, hk5⟩
                have CS2 := lk_state w5 _ N kk who htn5.lock (by omega)
                rw [Hz.out] at CS2
                have CS2 := Lib.hid CS2
                have Htn5 := Lib.hid htn5
                have Hk5 := Lib.hid hk5
                clear htn5 hk5
                go_wp2_with fail
                refine (CS2.out).mono ?_
                rintro e w6 ⟨rfl, hk6⟩
                have hfin : TS N w6 kk (.slice A4 n4 c4) n4 (.slice A5 n5 c5) n5 (k + 1) := ⟨wl, Htn5.out.pure hk6, Htg.out, Hwl.out, Hn4.out, Hn5.out, by omega, by omega, by omega⟩
                have hkfin : Kept (fun b => N ≤ b) w3 w6 := (Hkr4.out.same Hk5.out).same (hk6.mono (fun _ _ h => h.elim))
                have Hfin := Lib.hid hfin
                have Hkfin := Lib.hid hkfin
                clear hfin hkfin hk6
                go_wp2
                go_roundw
                case measure => simp [intOf]; omega
                case rel => exact ⟨k + 1, n4, c4, n5, c5, A4, A5, kk, by first | rfl | go_num, rfl, rfl, by omega, Hstep, Hfin, Hkfin⟩
              · have hsame := ask_same (b := true) (fun e => hz0 (Hz.out.symm.trans e))
                have CA := tn_ask (Htn.out.pure Hk4.out) who true (by omega)
                rw [hsame] at CA
                have CA := Lib.hid CA
                have hstep : stepL kk ⟨op, who⟩ = kk := by unfold stepL; rw [if_pos (by simp only; omega)]; rw [show (decide ((⟨op, who⟩ : Act).op = 1)) = true from by simp [hopv]]; exact congrArg Prod.snd hsame
                have Hstep := Lib.hid (show playL (l.take (k + 1)) = kk from Hst.out.trans (by rw [htk.out]; exact hstep))
                have hz0' : (z == 0) = false := by simpa using hz0
                clear hsame hstep
                subst hopv
                go_wp2_with fail
                refine (CA.out).mono ?_
                rintro e w5 ⟨rfl, htn5, hk5⟩
                have CS2 := lk_state w5 _ N kk who htn5.lock (by omega)
                rw [Hz.out] at CS2
                have CS2 := Lib.hid CS2
                have Htn5 := Lib.hid htn5
                have Hk5 := Lib.hid hk5
                clear htn5 hk5
                go_wp2_with fail
                refine (CS2.out).mono ?_
                rintro e w6 ⟨rfl, hk6⟩
                have hfin : TS N w6 kk (.slice A4 n4 c4) n4 (.slice A5 n5 c5) n5 (k + 1) := ⟨wl, Htn5.out.pure hk6, Htg.out, Hwl.out, Hn4.out, Hn5.out, by omega, by omega, by omega⟩
                have hkfin : Kept (fun b => N ≤ b) w3 w6 := (Hkr4.out.same Hk5.out).same (hk6.mono (fun _ _ h => h.elim))
                have Hfin := Lib.hid hfin
                have Hkfin := Lib.hid hkfin
                clear hfin hkfin hk6
                go_wp2
                go_roundw
                case measure => simp [intOf]; omega
                case rel => exact ⟨k + 1, n4, c4, n5, c5, A4, A5, kk, by first | rfl | go_num, rfl, rfl, by omega, Hstep, Hfin, Hkfin⟩
          · obtain ⟨hop0, hop1⟩ : ¬ op = 0 ∧ ¬ op = 1 := by omega
            have hcc1 : (decide (op = 0) || decide (op = 1)) = false := by simp [hop0, hop1]
            obtain ⟨lG, lL, lI, lQ, lS, _⟩ := leave_law Htg.out who
            have CL := Lib.hid (tn_leave (Htn.out.pure Hk4.out) who (by omega))
            have he : playL (l.take (k + 1)) = (kk.leave who).2 := Hst.out.trans (by rw [htk.out]; unfold stepL; rw [if_neg hopa])
            have hsz := leave_size kk who
            obtain ⟨r, hr⟩ : ∃ r, (kk.leave who).1.length = r := ⟨_, rfl⟩
            obtain ⟨m, hm⟩ : ∃ m, (lessI (kk.qu.map (·.1)) who).length = m := ⟨_, rfl⟩
            rw [hr] at lL lI lQ
            have hrm : r ≤ m := by rw [← hm, ← lessQ_map, List.length_map]; exact lL
            have hmn : m ≤ n4 := by rw [← hm, ← Hn4.out, ← List.length_map (f := fun x : Int × Bool => x.1)]; exact lessI_length _ _
            have HlG := Lib.hid lG
            have HlI := Lib.hid lI
            have HlQ := Lib.hid lQ
            have HlS := Lib.hid lS
            have Hsz := Lib.hid hsz
            have He := Lib.hid he
            have Hr := Lib.hid hr
            have Hm := Lib.hid hm
            clear hopa lG lL lI lQ lS hsz he hr hm hc04 hc14
            go_wp2_with fail
            refine (CL.out).mono ?_
            rintro e w5 ⟨A7, c7, rfl, hs5, htn5, hk5⟩
            rw [Hr.out] at hs5 ⊢
            have CW := Lib.hid (without_any A4 n4 c4 (kk.qu.map (·.1)) who w5 _ (htn5.sl4 (by rw [List.length_map]; exact Hn4.out)) (by omega))
            have Hs5 := Lib.hid hs5
            have Htn5 := Lib.hid htn5
            have Hk5 := Lib.hid hk5
            clear hs5 htn5 hk5
            go_wp2_with fail
            refine (CW.out).mono ?_
            rintro e w6 ⟨A6, c6, rfl, ho6, hk6⟩
            have htn6 := Htn5.out.new4 hk6 ho6.toO
            have hs6 := Hs5.out.kept hk6 (fun _ _ _ h => h)
            have CS2 := lk_state w6 _ N (kk.leave who).2 who htn6.lock (by have := Hsz.out; omega)
            rw [HlS.out] at CS2
            have CS2 := Lib.hid CS2
            have hk46 := Hk5.out.same (hk6.mono (fun _ _ h => h.elim))
            rw [Hm.out] at ho6 htn6 ⊢
            have hmc : m ≤ c6 := by
              obtain ⟨_, _, hvv, hmc, _⟩ := ho6.form
              injection hvv with _ _ hvc
              omega
            have Htn6 := Lib.hid htn6
            have Hs6 := Lib.hid hs6
            have Hk46 := Lib.hid hk46
            have Ho6 := Lib.hid ho6
            clear htn6 hs6 hk46 hk6 ho6
            go_wp2_with fail
            refine (CS2.out).mono ?_
            rintro e w7 ⟨rfl, hk7⟩
            have htn7 := Htn6.out.pure hk7
            have hs7 := Hs6.out.kept hk7 (fun _ _ _ h => h)
            have hq7 := (htn7.sl4 Hm.out).pre r hrm
            have CI := ints_any A7 r c7 (kk.leave who).1 A6 r c6 ((lessI (kk.qu.map (·.1)) who).take r) w7 _ _ hs7 (by rw [Nat.mul_one] at hq7; simpa [ics, List.map_take] using hq7) (by omega) (by omega)
            rw [decide_eq_true HlI.out] at CI
            have CI := Lib.hid CI
            have Htn7 := Lib.hid htn7
            have hk47 := Hk46.out.same (hk7.mono (fun _ _ h => h.elim))
            have Hk47 := Lib.hid hk47
            have hmr : ¬ (m : Int) < (r : Int) := by omega
            have hrc : (r : Int) ≤ (c6 : Int) := by omega
            clear htn7 hs7 hq7 hk47 hk7
            go_wp2_with fail
            refine (CI.out).mono ?_
            rintro e w8 ⟨rfl, hk8⟩
            obtain ⟨Z1, hZ1⟩ : ∃ Z, (if c6 = r then A6 else A6.map (fun a => a.add r)) = Z := ⟨_, rfl⟩
            have hrmi : (r : Int) ≤ (m : Int) := by omega
            have Hk8 := Lib.hid hk8
            clear hk8
            have htn8 := (Htn7.out.pure Hk8.out).shift Hm.out hrm hZ1
            have hfin := ts_leave htn8 rfl HlQ.out HlG.out Hwl.out Hm.out Hn5.out (show m - r ≤ k + 1 by omega) (show n5 ≤ k + 1 by omega) (by have := Hsz.out; omega)
            rw [← He.out] at hfin
            have Hfin := Lib.hid hfin
            have hk48 := Hk47.out.same (Hk8.out.mono (fun _ _ h => h.elim))
            have Hk48 := Lib.hid hk48
            clear htn8 hfin hk48
            go_wp2
            go_meet
            exact ⟨m - r, c6 - r, n5, c5, Z1, A5, rfl, rfl, Hfin, Hk48⟩
        case rest =>
        obtain ⟨n6, c6, n7, c7, A6, A7, rfl, rfl, hts, hkx⟩ := hcut
        obtain ⟨wl', htn, htg, hwl, hn6, hn7, hm6, hm7, hmz⟩ := hts.out
        obtain ⟨k2, hk2⟩ : ∃ k2, playL (l.take (k + 1)) = k2 := ⟨_, rfl⟩
        rw [hk2] at htn htg hwl hn6 hmz
        have hts' := hts.out
        rw [hk2] at hts'
        have CQ := Lib.hid (lk_queue wc _ N k2 htn.lock (by omega))
        have Hts := Lib.hid hts'
        have Hk2 := Lib.hid hk2
        have Htn' := Lib.hid htn
        have Htg' := Lib.hid htg
        have Hwl' := Lib.hid hwl
        have Hn6 := Lib.hid hn6
        have Hn7 := Lib.hid hn7
        have hkr := Hkr4.out.same hkx.out
        have Hkr := Lib.hid hkr
        clear htk Hcc Hst CS Htn Hwl Htg Hz Hn4 Hn5 hts hts' hk2 htn htg hwl hn6 hn7 hkr hkx hc04 hc14 Hk4
        go_wp2_with fail
        refine (CQ.out).mono ?_
        rintro e w9 ⟨A9, n9, c9, rfl, hs9, hk9⟩
        have hn9 : n9 = n6 := by have := sli_len hs9; rw [List.length_map] at this; have := Hn6.out; omega
        subst hn9
        have htn9 := Htn'.out.pure hk9
        have CI := ints_any A9 n9 c9 (k2.qu.map (·.1)) A6 n9 c6 (k2.qu.map (·.1)) w9 _ _ hs9 (htn9.sl4 (by rw [List.length_map]; exact Hn6.out)) (by omega) (by omega)
        rw [decide_eq_true rfl] at CI
        have CI := Lib.hid CI
        have Htn9 := Lib.hid htn9
        have hkr9 := Hkr.out.same (hk9.mono (fun _ _ h => h.elim))
        have Hkr9 := Lib.hid hkr9
        clear htn9 hs9 hk9 hkr9
        go_wp2_with fail
        refine (CI.out).mono ?_
        rintro e w10 ⟨rfl, hk10⟩
        have htn10 := Htn9.out.pure hk10
        have CH := Lib.hid (lk_holders w10 _ N k2 htn10.lock (by omega))
        have Htn10 := Lib.hid htn10
        have hkr10 := Hkr9.out.same (hk10.mono (fun _ _ h => h.elim))
        have Hkr10 := Lib.hid hkr10
        clear htn10 hk10 hkr10
        go_wp2_with fail
        refine (CH.out).mono ?_
        rintro e w11 ⟨A11, n11, c11, rfl, hs11, hk11⟩
        have htn11 := Htn10.out.pure hk11
        have hn11 := sli_len hs11
        have hkr11 := Hkr10.out.same (hk11.mono (fun _ _ h => h.elim))
        have Htn11 := Lib.hid htn11
        have Hs11 := Lib.hid hs11
        have Hn11 := Lib.hid hn11
        have Hkr11 := Lib.hid hkr11
        clear htn11 hs11 hn11 hk11 hkr11
        have Htk := Lib.hid Hk2.out
        cases hqu : k2.qu with
        | nil =>
          have hn0 : n9 = 0 := by rw [← Hn6.out, hqu]; rfl
          subst hn0
          have hfin : TS N w11 k2 (.slice A6 0 c6) 0 (.slice A7 n7 c7) n7 (k + 1) := ⟨wl', Htn11.out, Htg'.out, Hwl'.out, Hn6.out, Hn7.out, hm6, hm7, hmz⟩
          have Hfin := Lib.hid hfin
          clear hfin hqu
          go_wp2
          go_roundw
          case measure => simp [intOf]; omega
          case rel => exact ⟨k + 1, 0, c6, n7, c7, A6, A7, k2, by first | rfl | go_num, rfl, rfl, by omega, Hk2, Hfin, Hkr11⟩
        | cons a0 q0 =>
          obtain ⟨hh, hfr⟩ := front_law Htg'.out hqu
          have hn0 : 0 < n9 := by rw [← Hn6.out, hqu]; simp
          have hn11p : 0 < n11 := by rw [← Hn11.out]; exact List.length_pos_iff.2 hh
          have hs6 := Htn11.out.sl4 (by rw [List.length_map]; exact Hn6.out)
          have h0 : (k2.qu.map (·.1))[0]? = some a0.1 := by rw [hqu]; rfl
          obtain ⟨b6, o6, rfl, _, _, _⟩ := hs6.2 hn0
          have hc6 := sli_at hs6 h0
          rw [Nat.add_zero] at hc6
          have ha0 := Hwl'.out a0 (by rw [hqu]; exact List.mem_cons_self ..)
          obtain ⟨x, hx⟩ : ∃ x, k2.holders[0]? = some x := ⟨_, List.getElem?_eq_getElem (by have := Hn11.out; omega)⟩
          obtain ⟨b11, o11, rfl, _, _, _⟩ := Hs11.out.2 hn11p
          have CW := Lib.hid (without_any A7 n7 c7 wl' a0.1 w11 _ (Htn11.out.sl5 Hn7.out) (by omega))
          have hlw := lessI_length wl' a0.1
          obtain ⟨m7, hm7'⟩ : ∃ m7, (lessI wl' a0.1).length = m7 := ⟨_, rfl⟩
          have hfs : m7 = n7 → k2.st x = 3 := fun e => by
            have hn : a0.1 ∉ wl' := lessI_len.1 (by rw [hm7', e, Hn7.out])
            rcases hfr with h | h
            · exact absurd (ha0.1 h) hn
            · exact h x (List.mem_of_getElem? hx)
          have Hfs := Lib.hid hfs
          have Hm7 := Lib.hid hm7'
          have Hx := Lib.hid hx
          have hni : (0 : Int) < (n9 : Int) := by omega
          have hni11 : (0 : Int) < (n11 : Int) := by omega
          have hnz11 : ((n11 : Int) == 0) = false := by simp; omega
          clear hs6 h0 ha0 hx hfr hh hqu hfs hm7'
          go_wp2_with fail
          refine (CW.out).mono ?_
          rintro e w12 ⟨A12, c12, rfl, _, hk12⟩
          rw [Hm7.out]
          have hs12 := Hs11.out.kept hk12 (fun _ _ _ h => h)
          have hc12 := sli_at hs12 Hx.out
          rw [Nat.add_zero] at hc12
          have htn12 := Htn11.out.pure hk12
          have CS3 := lk_state w12 _ N k2 x htn12.lock (by omega)
          have hkr12 := Hkr11.out.same (hk12.mono (fun _ _ h => h.elim))
          have Htn12 := Lib.hid htn12
          have Hkr12 := Lib.hid hkr12
          clear hs12 hk12 htn12 hkr12
          by_cases hmn : m7 = n7
          · rw [Hfs.out hmn] at CS3
            have CS3 := Lib.hid CS3
            subst hmn
            go_wp2_with fail
            refine (CS3.out).mono ?_
            rintro e w13 ⟨rfl, hk13⟩
            have hfin : TS N w13 k2 (.slice (some ⟨b6, o6, none⟩) n9 c6) n9 (.slice A7 m7 c7) m7 (k + 1) := ⟨wl', Htn12.out.pure hk13, Htg'.out, Hwl'.out, Hn6.out, Hn7.out, hm6, hm7, hmz⟩
            have hkr13 := Hkr12.out.same (hk13.mono (fun _ _ h => h.elim))
            have Hfin := Lib.hid hfin
            have Hkr13 := Lib.hid hkr13
            clear hfin hkr13 hk13
            go_wp2
            go_roundw
            case measure => simp [intOf]; omega
            case rel => exact ⟨k + 1, n9, c6, m7, c7, _, A7, k2, by first | rfl | go_num, rfl, rfl, by omega, Hk2, Hfin, Hkr13⟩
          · have hne : ((m7 : Int) == (n7 : Int)) = false := by simp; omega
            have hfin : TS N w12 k2 (.slice (some ⟨b6, o6, none⟩) n9 c6) n9 (.slice A7 n7 c7) n7 (k + 1) := ⟨wl', Htn12.out, Htg'.out, Hwl'.out, Hn6.out, Hn7.out, hm6, hm7, hmz⟩
            have Hfin := Lib.hid hfin
            clear hfin CS3
            go_wp2
            go_roundw
            case measure => simp [intOf]; omega
            case rel => exact ⟨k + 1, n9, c6, n7, c7, _, A7, k2, by first | rfl | go_num, rfl, rfl, by omega, Hk2, Hfin, Hkr12⟩
      · obtain rfl : k = n := by omega
        go_wp2
        go_ret
        exact ⟨rfl, Hk.out.trans hkr.out (fun b hb h => by omega)⟩
  · have h100' : (100 : Int) < (n : Int) := by omega
    clear hs hf hn
    go_enter Try.func5, Try.ntmps5
    go_wp2_with fail
    refine (CF.out _).mono ?_
    rintro e w1 ⟨rfl, hk1⟩
    go_wp2_with fail
    refine (CF.out _).mono ?_
    rintro e w3 ⟨rfl, hk3⟩
    go_wp2
    go_ret
    exact ⟨rfl, hk1.same hk3⟩
theorem rwTurns_top (A : Option Addr) (c : Nat) (l : List Act) (W : World) (h0 : Sl W (fun _ => True) 2 A l.length (l.flatMap Act.cells)) (_ : l.length ≤ maxLen) (h2 : ∀ i ∈ l, i.Fits) (h3 : l.length ≤ c) (h4 : c ≤ maxLen) :
    Calls Try.prog 5 #[.slice A l.length c] W fun e W' => e = .returned (.bool true) ∧ Pure W W' := turns_top A c l W _ h0 h2
end Go.Proofs.Ytggnndopncegaaa
