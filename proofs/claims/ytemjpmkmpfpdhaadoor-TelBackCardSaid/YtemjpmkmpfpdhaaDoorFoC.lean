/-
  The walks of Clean and Signs.
-/
import Derived.Test.YtemjpmkmpfpdhaaDoorFo
import Derived.Test.YtemjpmkmpfpdhaaDoorLays
import Derived.Lib.ValidLaws
set_option linter.unusedSimpArgs false
set_option linter.unusedVariables false
namespace Go.Proofs.YtemjpmkmpfpdhaaDoor
open Go.RowKit
set_option maxRecDepth 100000

theorem info_u8 : (Tryd.prog.info? 5).map (fun i => (i.zero, i.size, i.bytes)) = some (some (.int .u8 0), 1, 1) := by kernel_rfl
/-- The tables of unicode/utf8. -/
def Tb (w : World) : Prop := Lib.Utf8Tabs 0 1 w
theorem Tb.kept {w w' : World} (h : Tb w) (hk : Pure w w') : Tb w' := by
  have key : ∀ (a : Addr) (v : Value), w.cell? a = some v → w'.cell? a = some v := fun a v ha => by
    have hl := World.block_lt_of_cell? w a ha
    exact (World.cell?_of_block (hk.block _ hl (fun h => h))).trans ha
  exact ⟨fun c hc => key _ _ (h.1 c hc), fun i hi => ⟨key _ _ (h.2 i hi).1, key _ _ (h.2 i hi).2⟩⟩

theorem valid_any (s : ByteArray) (w : World) (hs : s.size ≤ 1000) (hT : Tb w) :
    Calls Tryd.prog 29 #[.string s] w fun e w' => e = .returned (.bool (Lib.validD s.data.toList)) ∧ Pure w w' :=
  (Any.utf8_ValidString Tryd.lays196 s w (by omega) hT).mono fun e w' h => ⟨h.1, Pure.of_below h.2⟩
theorem count_any (s : ByteArray) (w : World) (hs : s.size ≤ 1000) :
    Calls Tryd.prog 32 #[.string s] w fun e w' => e = .returned (.int .i64 (Lib.runeCount s)) ∧ Pure w w' :=
  (Any.utf8_RuneCountInString Tryd.lays195 s w (by omega)).mono fun e w' h => ⟨h.1, by obtain ⟨_, pos, rfl⟩ := h; exact (Kept.refl _ _).alloc _⟩

def signs (s : ByteArray) : Nat := if Lib.validD s.data.toList then Lib.runeCount s else 0
set_option maxHeartbeats 400000 in
theorem signs_any (s : ByteArray) (w : World) (hs : s.size ≤ 1000) (hT : Tb w) :
    Calls Tryd.prog 17 #[.string s] w fun e w' => e = .returned (.int .i64 (signs s)) ∧ Pure w w' := by
  have h1 := Lib.hid (valid_any s w hs hT)
  have h2 := Lib.hid (fun w => count_any s w hs)
  rcases hv : Lib.validD s.data.toList with _ | _
  · have e : signs s = 0 := by simp [signs, hv]
    rw [e]
    rw [hv] at h1
    go_enter Tryd.func17, Tryd.ntmps17
    go_wp2_with fail
    refine (h1.out).mono ?_
    rintro e w1 ⟨rfl, hk1⟩
    go_wp2
    go_ret
    exact ⟨rfl, hk1⟩
  · have e : signs s = Lib.runeCount s := by simp [signs, hv]
    rw [e]
    rw [hv] at h1
    go_enter Tryd.func17, Tryd.ntmps17
    go_wp2_with fail
    refine (h1.out).mono ?_
    rintro e w1 ⟨rfl, hk1⟩
    go_wp2_with fail
    refine (h2.out w1).mono ?_
    rintro e w2 ⟨rfl, hk2⟩
    go_wp2
    go_ret
    exact ⟨rfl, hk1.same hk2⟩
theorem str_at (s : ByteArray) (k : Nat) (b : UInt8) (hk : k < s.size) (h : s.data.toList[k]? = some b) : s[k]'hk = b := by
  rw [List.getElem?_eq_getElem (by simpa using hk)] at h
  injection h
theorem ctl_any {l : List UInt8} {k : Nat} {b : UInt8} (h : l[k]? = some b) (hc : b.toNat < 32 ∨ b.toNat = 127) : l.any ctl = true := by
  rw [List.any_eq_true]
  exact ⟨b, List.mem_of_getElem? h, by simpa [ctl] using hc⟩
theorem ctl_next {l : List UInt8} {k : Nat} {b : UInt8} (hno : (l.take k).any ctl = false) (h : l[k]? = some b) (h1 : ¬ b.toNat < 32) (h2 : ¬ b.toNat = 127) : (l.take (k + 1)).any ctl = false := by
  rw [List.take_add_one, h, Option.toList_some, List.any_append, hno]
  simp [ctl]; omega
theorem sqStep_skip {o : List UInt8} {b : UInt8} (hb : b = 32) (h : o = [] ∨ o.getLast? = some 32) : sqStep o b = o := by simp [sqStep, hb, h]
theorem sqStep_add {o : List UInt8} {b : UInt8} (h : ¬ (b = 32 ∧ (o = [] ∨ o.getLast? = some 32))) : sqStep o b = o ++ [b] := by simp only [sqStep, if_neg h]
theorem u8_eq {b : UInt8} : b = 32 ↔ b.toNat = 32 := ⟨fun h => by rw [h]; rfl, fun h => by
  apply UInt8.toNat_inj.1; exact h⟩


def CleanPost (w : World) (r : List UInt8 × Int) (e : Ending) (w' : World) : Prop := e = .returned (.tuple #[.string ⟨r.1.toArray⟩, .int .i64 r.2]) ∧ Pure w w'
set_option maxHeartbeats 1600000 in
theorem clean_any (s : ByteArray) (w : World) (hs : s.size ≤ 1000) (hT : Tb w) :
    Calls Tryd.prog 11 #[.string s] w (CleanPost w (cleanL (Lib.validD s.data.toList) s.data.toList)) := by
  have h1 := Lib.hid (valid_any s w hs hT)
  have hn : s.data.toList.length = s.size := by simp
  have hget := str_at s
  generalize hl : s.data.toList = l at *
  clear hl
  have Hget := Lib.hid hget
  clear hget
  rcases hv : Lib.validD l with _ | _
  · rw [hv] at h1
    have e : cleanL false l = ([], 1) := by simp [cleanL]
    rw [e]
    go_enter Tryd.func11, Tryd.ntmps11
    go_wp2_with fail
    refine (h1.out).mono ?_
    rintro e w1 ⟨rfl, hk1⟩
    go_wp2
    go_ret2
    exact ⟨rfl, hk1⟩
  · rw [hv] at h1
    go_enter Tryd.func11, Tryd.ntmps11
    go_wp2_with fail
    refine (h1.out).mono ?_
    rintro e w1 ⟨rfl, hk1⟩
    go_wp2
    go_loop [13] (fun i => ∃ k : Nat, i = .int .i64 k ∧ k ≤ s.size ∧ Hid ((l.take k).any ctl = false)) (fun i => s.size - (intOf i).toNat)
    case atStart => exact ⟨0, rfl, Nat.zero_le _, by simp [Hid]⟩
    case round =>
      obtain ⟨k, rfl, hk, hno⟩ := hrel
      by_cases hlt : k < s.size
      · obtain ⟨b, hg⟩ : ∃ b, l[k]? = some b := ⟨_, List.getElem?_eq_getElem (by omega)⟩
        have hgb := Hget.out k b hlt hg
        have hb256 : b.toNat < 256 := b.toNat_lt
        by_cases c1 : b.toNat < 32
        · have hca := ctl_any hg (.inl c1)
          have e : cleanL true l = ([], 1) := by simp [cleanL, hca]
          rw [e]
          clear hca e
          go_wp2
          go_ret2
          exact ⟨rfl, hk1⟩
        · by_cases c2 : b.toNat = 127
          · have hca := ctl_any hg (.inr c2)
            have e : cleanL true l = ([], 1) := by simp [cleanL, hca]
            rw [e]
            clear hca e
            go_wp2
            go_ret2
            exact ⟨rfl, hk1⟩
          · have hnx := ctl_next hno.out hg c1 c2
            have Hnx := Lib.hid hnx
            have c2' : ((b.toNat : Int) == 127) = false := by simpa using (by omega : ¬ (b.toNat : Int) = 127)
            clear hnx c2
            go_wp2
            go_round
            case measure => first | omega | (simp [intOf]; omega)
            case rel => exact ⟨k + 1, by first | rfl | go_num, hlt, Hnx⟩
      · have hke : k = s.size := by omega
        subst hke
        rw [List.take_of_length_le (by omega)] at hno
        have E : Hid (cleanL true l = outL (endL (sq l))) := by simp [Hid, cleanL, hno.out]
        generalize cleanL true l = R at *
        go_wp2
        go_loopw [5, 29] (fun v i wr => ∃ k : Nat, i = .int .i64 k ∧ k ≤ s.size ∧ Own wr (fun g => w1.heap.size ≤ g) 5 1 v (sq (l.take k)).length (bvs (sq (l.take k))) ∧ Pure w1 wr) (fun _ i _ => s.size - (intOf i).toNat)
        case atStart => exact ⟨0, rfl, Nat.zero_le _, Own.nil _ _ _ _, Kept.refl _ _⟩
        case round =>
          obtain ⟨k, rfl, hk, ho, hk2⟩ := hrel
          have hol := sq_length (l.take k)
          rw [List.length_take] at hol
          by_cases hlt : k < s.size
          · obtain ⟨b, hg⟩ : ∃ b, l[k]? = some b := ⟨_, List.getElem?_eq_getElem (by omega)⟩
            have hgb := Hget.out k b hlt hg
            have hb256 : b.toNat < 256 := b.toNat_lt
            have Hg := Lib.hid (sq_take l k b hg)
            generalize ho0 : sq (l.take k) = o at *
            clear ho0
            obtain ⟨n, hn0⟩ : ∃ n, o.length = n := ⟨_, rfl⟩
            obtain ⟨A, c, rfl, _, _, _, hsl⟩ := ho.form
            rw [hn0] at ho hol hsl ⊢
            have Hn := Lib.hid hn0
            have Ho := Lib.hid ho
            have Hk2 := Lib.hid hk2
            have hcut : ((n : Int) - 1).toNat = n - 1 := by omega
            clear hn0 ho hk2
            by_cases c1 : b.toNat = 32
            · have c1' : ((b.toNat : Int) == 32) = true := by simp [c1]
              by_cases hz : n = 0
              · subst hz
                have hnx : Hid (sq (l.take (k + 1)) = o) := Hg.out.trans (sqStep_skip (u8_eq.2 c1) (.inl (List.eq_nil_of_length_eq_zero Hn.out)))
                clear hsl
                go_wp2
                go_roundw
                case measure => first | omega | (simp [intOf]; omega)
                case rel => exact ⟨k + 1, by first | rfl | go_num, hlt, by rw [hnx.out, Hn.out]; exact Ho.out, Hk2.out⟩
              · have hz' : ((n : Int) == 0) = false := by simpa using hz
                obtain ⟨B, f, rfl, _, hBl, hcs⟩ := hsl.2 (by omega)
                obtain ⟨d, hd⟩ : ∃ d, o[n - 1]? = some d := ⟨_, List.getElem?_eq_getElem (by rw [Hn.out]; omega)⟩
                have hcd := hcs (n - 1) (by rw [bvs_length, Hn.out]; omega)
                rw [show (bvs o)[n - 1]? = some (.int .u8 (d.toNat : Int)) from by simp [bvs, hd, bv]] at hcd
                have hlast : o.getLast? = some d := by rw [List.getLast?_eq_getElem?, Hn.out]; exact hd
                have Hlast := Lib.hid hlast
                have hd256 : d.toNat < 256 := d.toNat_lt
                clear hsl hcs hlast hd
                by_cases c2 : d.toNat = 32
                · have c2' : ((d.toNat : Int) == 32) = true := by simp [c2]
                  have hnx : Hid (sq (l.take (k + 1)) = o) := Hg.out.trans (sqStep_skip (u8_eq.2 c1) (.inr (by rw [Hlast.out, u8_eq.2 c2])))
                  clear c1 c2
                  go_wp2
                  go_roundw
                  case measure => first | omega | (simp [intOf]; omega)
                  case rel => exact ⟨k + 1, by first | rfl | go_num, hlt, by rw [hnx.out, Hn.out]; exact Ho.out, Hk2.out⟩
                · have c2' : ((d.toNat : Int) == 32) = false := by simpa using (by omega : ¬ (d.toNat : Int) = 32)
                  have hnx : Hid (sq (l.take (k + 1)) = o ++ [b]) := Hg.out.trans (sqStep_add (by
                    rintro ⟨_, h | h⟩
                    · rw [h] at Hlast; cases Hlast.out
                    · rw [Hlast.out] at h; injection h with h; exact c2 (by rw [h]; rfl)))
                  clear c1 c2
                  go_wp2_with (first | (at_builtin; refine held ?_) | (at_make; refine held ?_))
                  refine unheld ?_
                  refine wp_appB w1.heap.size Tryd.underlying36 info_u8 rfl (by omega) (by have := Hk2.out.size; simp; omega) (Ho.out.alloc _) (Sl.one _ _ _) (by intro u hu; simp at hu; subst hu; rfl) (by omega) (by omega) rfl _ _ rfl rfl rfl ?_
                  intro v4 w4 ho4 hk4
                  have hk5 := (Hk2.out.alloc (.cells #[.int .u8 (b.toNat : Int)] 5)).trans hk4 (fun i hi h => absurd h (by omega))
                  have Ho4 := Lib.hid ho4
                  have Hk5 := Lib.hid hk5
                  clear ho4 hk4 hk5
                  go_wp2
                  go_roundw
                  case measure => first | omega | (simp [intOf]; omega)
                  case rel =>
                    have h6 := Ho4.out
                    rw [show bvs o ++ [Value.int .u8 (b.toNat : Int)] = bvs (o ++ [b]) from by rw [bvs_append]; rfl, show n + 1 = (o ++ [b]).length from by rw [List.length_append, Hn.out]; rfl] at h6
                    exact ⟨k + 1, by first | rfl | go_num, hlt, by rw [hnx.out]; exact h6, Hk5.out⟩
            · have c1' : ((b.toNat : Int) == 32) = false := by simpa using (by omega : ¬ (b.toNat : Int) = 32)
              have hnx : Hid (sq (l.take (k + 1)) = o ++ [b]) := Hg.out.trans (sqStep_add (by rintro ⟨h, _⟩; exact c1 (by rw [h]; rfl)))
              clear c1 hsl
              go_wp2_with (first | (at_builtin; refine held ?_) | (at_make; refine held ?_))
              refine unheld ?_
              refine wp_appB w1.heap.size Tryd.underlying36 info_u8 rfl (by omega) (by have := Hk2.out.size; simp; omega) (Ho.out.alloc _) (Sl.one _ _ _) (by intro u hu; simp at hu; subst hu; rfl) (by omega) (by omega) rfl _ _ rfl rfl rfl ?_
              intro v4 w4 ho4 hk4
              have hk5 := (Hk2.out.alloc (.cells #[.int .u8 (b.toNat : Int)] 5)).trans hk4 (fun i hi h => absurd h (by omega))
              have Ho4 := Lib.hid ho4
              have Hk5 := Lib.hid hk5
              clear ho4 hk4 hk5
              go_wp2
              go_roundw
              case measure => first | omega | (simp [intOf]; omega)
              case rel =>
                have h6 := Ho4.out
                rw [show bvs o ++ [Value.int .u8 (b.toNat : Int)] = bvs (o ++ [b]) from by rw [bvs_append]; rfl, show n + 1 = (o ++ [b]).length from by rw [List.length_append, Hn.out]; rfl] at h6
                exact ⟨k + 1, by first | rfl | go_num, hlt, by rw [hnx.out]; exact h6, Hk5.out⟩
          · have hke : k = s.size := by omega
            subst hke
            rw [List.take_of_length_le (by omega)] at ho
            replace hol := sq_length l
            generalize ho0 : sq l = o at *
            clear ho0
            obtain ⟨n, hn0⟩ : ∃ n, o.length = n := ⟨_, rfl⟩
            obtain ⟨A, c, rfl, hnc, hcm, _, hsl⟩ := ho.form
            rw [hn0] at ho hol hsl hnc ⊢
            have Hn := Lib.hid hn0
            have Hk := Lib.hid (hk1.same hk2)
            have hcut : ((n : Int) - 1).toNat = n - 1 := by omega
            clear hn0 ho hk2
            by_cases hz : n = 0
            · subst hz
              have e : R = ([], 14) := by rw [E.out, List.eq_nil_of_length_eq_zero Hn.out]; rfl
              have He := Lib.hid e
              clear hsl e
              go_wp2
              go_ret2
              exact ⟨by rw [He.out]; rfl, Hk.out⟩
            · obtain ⟨B, f, rfl, _, hBl, hcs⟩ := hsl.2 (by omega)
              obtain ⟨d, hd⟩ : ∃ d, o[n - 1]? = some d := ⟨_, List.getElem?_eq_getElem (by rw [Hn.out]; omega)⟩
              have hcd := hcs (n - 1) (by rw [bvs_length, Hn.out]; omega)
              rw [show (bvs o)[n - 1]? = some (.int .u8 (d.toNat : Int)) from by simp [bvs, hd, bv]] at hcd
              have hlast : o.getLast? = some d := by rw [List.getLast?_eq_getElem?, Hn.out]; exact hd
              have hd256 : d.toNat < 256 := d.toNat_lt
              have hz' : 0 < n := by omega
              clear hcs hd hz
              by_cases c2 : d.toNat = 32
              · have c2' : ((d.toNat : Int) == 32) = true := by simp [c2]
                have e1 : endL o = o.take (n - 1) := by rw [endL, if_pos (by rw [hlast, u8_eq.2 c2]), List.dropLast_eq_take, Hn.out]
                have hl1 : (o.take (n - 1)).length = n - 1 := by rw [List.length_take, Hn.out]; omega
                rw [Hid, e1] at E
                replace E := Lib.hid E
                have hs1 := hsl.pre (n - 1) (by omega)
                rw [Nat.mul_one, ← bvs_take] at hs1
                have hcv := run_str (P := Tryd.prog) hs1 36 9 5 c Tryd.underlying36 Tryd.underlying5 Tryd.underlying9
                clear hsl hs1 c2 e1 hlast
                by_cases z1 : n = 1
                · subst z1
                  have e : R = ([], 14) := by rw [E.out]; rfl
                  have He := Lib.hid e
                  replace hcd : wr.cell? ⟨B, f, none⟩ = some (.int .u8 (d.toNat : Int)) := hcd
                  clear e hcv hcut hl1
                  go_wp2
                  go_ret2
                  exact ⟨by rw [He.out]; rfl, Hk.out⟩
                · by_cases z2 : 65 < n
                  · have e : R = ([], 2) := by rw [E.out, outL, hl1, if_neg (by omega), if_pos (by omega)]
                    have z3 : (((n - 1 : Nat) : Int) == 0) = false := by simp; omega
                    have z4 : 64 < n - 1 := by omega
                    have z5 : n - 1 ≤ c := by omega
                    have He := Lib.hid e
                    clear e hcv hl1
                    go_wp2
                    go_ret2
                    exact ⟨by rw [He.out]; rfl, Hk.out⟩
                  · have e : R = (o.take (n - 1), 0) := by rw [E.out, outL, hl1, if_neg (by omega), if_neg (by omega)]
                    have z3 : (((n - 1 : Nat) : Int) == 0) = false := by simp; omega
                    have z4 : ¬ 64 < n - 1 := by omega
                    have z5 : n - 1 ≤ c := by omega
                    have He := Lib.hid e
                    clear e hl1
                    go_wp2_with (simp only [hcv])
                    go_ret2
                    exact ⟨by rw [He.out]; rfl, Hk.out⟩
              · have c2' : ((d.toNat : Int) == 32) = false := by simpa using (by omega : ¬ (d.toNat : Int) = 32)
                have e1 : endL o = o := by rw [endL, if_neg (by rw [hlast]; intro h; injection h with h; exact c2 (by rw [h]; rfl))]
                rw [Hid, e1] at E
                replace E := Lib.hid E
                have hcv := run_str (P := Tryd.prog) hsl 36 9 5 c Tryd.underlying36 Tryd.underlying5 Tryd.underlying9
                have z3 : ((n : Int) == 0) = false := by simp; omega
                clear hsl c2 e1 hlast
                by_cases z2 : 64 < n
                · have e : R = ([], 2) := by rw [E.out, outL, Hn.out, if_neg (by omega), if_pos (by omega)]
                  have He := Lib.hid e
                  clear e hcv
                  go_wp2
                  go_ret2
                  exact ⟨by rw [He.out]; rfl, Hk.out⟩
                · have e : R = (o, 0) := by rw [E.out, outL, Hn.out, if_neg (by omega), if_neg (by omega)]
                  have He := Lib.hid e
                  clear e
                  go_wp2_with (simp only [hcv])
                  go_ret2
                  exact ⟨by rw [He.out]; rfl, Hk.out⟩
end Go.Proofs.YtemjpmkmpfpdhaaDoor
