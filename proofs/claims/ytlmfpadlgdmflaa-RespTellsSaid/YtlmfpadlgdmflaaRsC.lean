/-
  The walks of Check, of the reference's CheckResp; Encode, EncodeResp.
-/
import Derived.Test.YtlmfpadlgdmflaaRsM
set_option linter.unusedSimpArgs false
set_option linter.unusedVariables false
namespace Go.Proofs.Ytlmfpadlgdmflaa
open Go.RowKit
set_option maxRecDepth 100000

/-- What fits. -/
structure Rs.Fits (r : Rs) : Prop where
  err : r.err ≤ 9223372036854775807
  token : r.token ≤ 9223372036854775807
  version : r.version ≤ 9223372036854775807
  index : r.index ≤ 9223372036854775807
  ver : ∀ i ∈ r.items, i.ver ≤ 9223372036854775807
def CheckP (r : Rs) (w : World) (e : Ending) (w' : World) : Prop := e = .returned (.int .i64 (checkR r)) ∧ Pure w w'
theorem CheckP.mk {r : Rs} {w w' : World} {v : Int} (h : checkR r = v) (k : Pure w w') : CheckP r w (.returned (.int .i64 v)) w' := ⟨by rw [h], k⟩

/-- What lay asks, of an answer that has come so far. -/
theorem lay_ok {r : Rs} (hf : r.Fits) (h : HeadOk r) (hc : r.card.size ≤ 900) (hs : ∀ i ∈ r.items, i.card.size ≤ 900 ∧ i.uid.size ≤ 24) :
    (lay r).length ≤ 1000000 ∧ r.card.size ≤ 20500 ∧ (∀ i ∈ r.items, i.uid.size ≤ 20500 ∧ i.card.size ≤ 20500 ∧ i.ver ≤ 9223372036854775807) ∧ r.items.length ≤ 1000000 := by
  unfold HeadOk at h
  have := lay_le r 924 100 (fun i hi => by have := hs i hi; omega) (by omega)
  exact ⟨by omega, by omega, fun i hi => ⟨by have := hs i hi; omega, by have := hs i hi; omega, hf.ver i hi⟩, by omega⟩


set_option maxHeartbeats 3200000 in
theorem check_any (r : Rs) (A : Option Addr) (c : Nat) (w : World) (hI : Sl w (fun _ => True) 4 A r.items.length (itc r.items)) (hf : r.Fits) :
    Calls Try.prog 26 #[.agg (rsa r A c)] w (CheckP r w) := by
  have hb := Blk.new w 40 (rsa r A c)
  have hkb : Pure w (w.alloc (.cells (rsa r A c) 40)) := (Kept.refl _ _).alloc _
  have Hlay := Lib.hid (lay_any r A c)
  have hc := hb.cell
  have HF := Lib.hid hf
  clear hf
  unfold rsa at hb hkb hc Hlay ⊢
  go_enter Try.func26, Try.ntmps26
  go_wp2_with fail
  all_goals first
    | (go_ret
       exact CheckP.mk (check_head (by unfold HeadOk; omega)) hkb)
    | skip
  have hh : HeadOk r := by unfold HeadOk; omega
  have HH := Lib.hid hh
  have hn : r.items.length ≤ 100 := by omega
  clear hh
  generalize hW0 : w.alloc _ = W0 at hb hkb hc ⊢
  have hI0 := hI.kept hkb (fun _ _ _ h => h)
  have HB := Lib.hid hb
  clear hW0 hc hb
  go_loopw [54] (fun i wr => ∃ k : Nat, k ≤ r.items.length ∧ i = .int .i64 k ∧ Pure W0 wr ∧ Hid (∀ (j : Nat) (i : It), j < k → r.items[j]? = some i → 0 ≤ i.ver)) (fun i _ => r.items.length - (intOf i).toNat)
  case atStart => exact ⟨0, Nat.zero_le _, rfl, Kept.refl _ _, fun j i hj => absurd hj (by omega)⟩
  case round =>
    obtain ⟨k, hk, rfl, hkr, hall⟩ := hrel
    have hc := (HB.out.kept hkr (fun h => h)).cell
    have hir := hI0.kept hkr (fun _ _ _ h => h)
    by_cases hlt : k < r.items.length
    · obtain ⟨b, o, rfl, _, hbl, _⟩ := hir.2 (by omega)
      obtain ⟨it, hit⟩ : ∃ it, r.items[k]? = some it := ⟨_, List.getElem?_eq_getElem hlt⟩
      obtain ⟨c0, c1, c2, c3⟩ := it_cells hir hit
      have Hit := Lib.hid hit
      have hkw := hkb.same hkr
      have hkw2 := hkw.alloc (.cells #[.string it.uid, .int .i64 it.ver, .bool it.gone, .string it.card] 52)
      have hkr2 := hkr.alloc (.cells #[.string it.uid, .int .i64 it.ver, .bool it.gone, .string it.card] 52)
      clear hit hir hI hI0
      by_cases hv : it.ver < 0
      · go_wp2_with fail
        go_ret
        exact CheckP.mk (check_ver (List.mem_of_getElem? Hit.out) hv) (by first | exact hkw2 | exact hkw)
      · go_wp2_with fail
        go_roundw
        case measure => simp [intOf]; omega
        case rel =>
          refine ⟨k + 1, by omega, by go_num, by first | exact hkr2 | exact hkr, fun j i hj hji => ?_⟩
          by_cases hjk : j < k
          · exact hall.out j i hjk hji
          · obtain rfl : j = k := by omega
            rw [Hit.out] at hji
            injection hji with hji
            subst hji
            omega
    · obtain rfl : k = r.items.length := by omega
      have hv : ∀ i ∈ r.items, 0 ≤ i.ver := fun i hi => by
        obtain ⟨j, hj, e⟩ := List.getElem_of_mem hi
        exact hall.out j i hj (by rw [List.getElem?_eq_getElem hj, e])
      have HV := Lib.hid hv
      have hkw := hkb.same hkr
      clear hall hv
      by_cases hcard : 900 < r.card.size
      · go_wp2_with fail
        go_ret
        exact CheckP.mk (check_card HH.out HV.out hcard) hkw
      · go_wp2_with fail
        have HB2 := Lib.hid (HB.out.kept hkr (fun h => h))
        have hir2 := hir
        obtain ⟨wo, hwo⟩ : ∃ wo, wo = wr := ⟨_, rfl⟩
        rw [← hwo] at hkw HB2 hir2
        clear hkr hir hc HB hI0
        go_loopw [69] (fun i wr => ∃ k : Nat, k ≤ r.items.length ∧ i = .int .i64 k ∧ Pure wo wr ∧ Hid (∀ (j : Nat) (i : It), j < k → r.items[j]? = some i → i.card.size ≤ 900 ∧ i.uid.size ≤ 24)) (fun i _ => r.items.length - (intOf i).toNat)
        case atStart => exact ⟨0, Nat.zero_le _, rfl, by rw [hwo]; exact Kept.refl _ _, fun j i hj => absurd hj (by omega)⟩
        case round =>
          clear hwo
          obtain ⟨k, hk, rfl, hkr, hall⟩ := hrel
          have hc := (HB2.out.kept hkr (fun h => h)).cell
          have hir := hir2.kept hkr (fun _ _ _ h => h)
          have hkx := hkw.same hkr
          by_cases hlt : k < r.items.length
          · obtain ⟨b, o, rfl, _, hbl, _⟩ := hir.2 (by omega)
            obtain ⟨it, hit⟩ : ∃ it, r.items[k]? = some it := ⟨_, List.getElem?_eq_getElem hlt⟩
            obtain ⟨c0, c1, c2, c3⟩ := it_cells hir hit
            have Hit := Lib.hid hit
            have hkx2 := hkx.alloc (.cells #[.string it.uid, .int .i64 it.ver, .bool it.gone, .string it.card] 52)
            have hkr2 := hkr.alloc (.cells #[.string it.uid, .int .i64 it.ver, .bool it.gone, .string it.card] 52)
            clear hit hir hI hir2
            by_cases hs1 : 900 < it.card.size
            · go_wp2_with fail
              go_ret
              exact CheckP.mk (check_item HH.out HV.out (List.mem_of_getElem? Hit.out) (.inl hs1)) (by first | exact hkx2 | exact hkx)
            · by_cases hs2 : 24 < it.uid.size
              · go_wp2_with fail
                go_ret
                exact CheckP.mk (check_item HH.out HV.out (List.mem_of_getElem? Hit.out) (.inr hs2)) (by first | exact hkx2 | exact hkx)
              · go_wp2_with fail
                go_roundw
                case measure => simp [intOf]; omega
                case rel =>
                  refine ⟨k + 1, by omega, by go_num, by first | exact hkr2 | exact hkr, fun j i hj hji => ?_⟩
                  by_cases hjk : j < k
                  · exact hall.out j i hjk hji
                  · obtain rfl : j = k := by omega
                    rw [Hit.out] at hji
                    injection hji with hji
                    subst hji
                    omega
          · obtain rfl : k = r.items.length := by omega
            have hs : ∀ i ∈ r.items, i.card.size ≤ 900 ∧ i.uid.size ≤ 24 := fun i hi => by
              obtain ⟨j, hj, e⟩ := List.getElem_of_mem hi
              exact hall.out j i hj (by rw [List.getElem?_eq_getElem hj, e])
            have HR := Lib.hid (check_rest HH.out HV.out (by omega) hs)
            obtain ⟨q1, q2, q3, q4⟩ := lay_ok HF.out HH.out (by omega) hs
            have HL := Lib.hid (Hlay.out wr hir q1 q2 q3 q4 HF.out.err HF.out.token HF.out.version HF.out.index)
            clear hall hs q1 q2 q3 q4 hir
            by_cases hbig : 20000 < (lay r).length
            · have hr : checkR r = 2 := by rw [HR.out, if_pos hbig]
              have HR2 := Lib.hid hr
              clear hr HR
              go_wp2_with fail
              refine (HL.out).mono ?_
              rintro e w9 ⟨A9, k9, rfl, ho9, hk9⟩
              go_wp2_with fail
              go_ret
              exact CheckP.mk HR2.out (hkx.same hk9)
            · have hr : checkR r = 0 := by rw [HR.out, if_neg hbig]
              have HR2 := Lib.hid hr
              clear hr HR
              go_wp2_with fail
              refine (HL.out).mono ?_
              rintro e w9 ⟨A9, k9, rfl, ho9, hk9⟩
              go_wp2_with fail
              go_ret
              exact CheckP.mk HR2.out (hkx.same hk9)

set_option maxHeartbeats 3200000 in
theorem ref_check (r : Rs) (A : Option Addr) (c : Nat) (w : World) (hI : Sl w (fun _ => True) 4 A r.items.length (itc r.items)) (hf : r.Fits) :
    Calls Try.prog 27 #[.agg (rsa r A c)] w (CheckP r w) := by
  have hb := Blk.new w 40 (rsa r A c)
  have hkb : Pure w (w.alloc (.cells (rsa r A c) 40)) := (Kept.refl _ _).alloc _
  have Hlay := Lib.hid (ref_lay r A c)
  have hc := hb.cell
  have HF := Lib.hid hf
  clear hf
  unfold rsa at hb hkb hc Hlay ⊢
  go_enter Try.func27, Try.ntmps27
  go_wp2_with fail
  all_goals first
    | (go_ret
       exact CheckP.mk (check_head (by unfold HeadOk; omega)) hkb)
    | skip
  have hh : HeadOk r := by unfold HeadOk; omega
  have HH := Lib.hid hh
  have hn : r.items.length ≤ 100 := by omega
  clear hh
  generalize hW0 : w.alloc _ = W0 at hb hkb hc ⊢
  have hI0 := hI.kept hkb (fun _ _ _ h => h)
  have HB := Lib.hid hb
  clear hW0 hc hb
  go_loopw [3] (fun i wr => ∃ k : Nat, k ≤ r.items.length ∧ i = .int .i64 k ∧ Pure W0 wr ∧ Hid (∀ (j : Nat) (i : It), j < k → r.items[j]? = some i → 0 ≤ i.ver)) (fun i _ => r.items.length - (intOf i).toNat)
  case atStart => exact ⟨0, Nat.zero_le _, rfl, Kept.refl _ _, fun j i hj => absurd hj (by omega)⟩
  case round =>
    obtain ⟨k, hk, rfl, hkr, hall⟩ := hrel
    have hc := (HB.out.kept hkr (fun h => h)).cell
    have hir := hI0.kept hkr (fun _ _ _ h => h)
    by_cases hlt : k < r.items.length
    · obtain ⟨b, o, rfl, _, hbl, _⟩ := hir.2 (by omega)
      obtain ⟨it, hit⟩ : ∃ it, r.items[k]? = some it := ⟨_, List.getElem?_eq_getElem hlt⟩
      obtain ⟨c0, c1, c2, c3⟩ := it_cells hir hit
      have Hit := Lib.hid hit
      have hkw := hkb.same hkr
      have hkw2 := hkw.alloc (.cells #[.string it.uid, .int .i64 it.ver, .bool it.gone, .string it.card] 52)
      have hkr2 := hkr.alloc (.cells #[.string it.uid, .int .i64 it.ver, .bool it.gone, .string it.card] 52)
      clear hit hir hI hI0
      by_cases hv : it.ver < 0
      · go_wp2_with fail
        go_ret
        exact CheckP.mk (check_ver (List.mem_of_getElem? Hit.out) hv) (by first | exact hkw2 | exact hkw)
      · go_wp2_with fail
        go_roundw
        case measure => simp [intOf]; omega
        case rel =>
          refine ⟨k + 1, by omega, by go_num, by first | exact hkr2 | exact hkr, fun j i hj hji => ?_⟩
          by_cases hjk : j < k
          · exact hall.out j i hjk hji
          · obtain rfl : j = k := by omega
            rw [Hit.out] at hji
            injection hji with hji
            subst hji
            omega
    · obtain rfl : k = r.items.length := by omega
      have hv : ∀ i ∈ r.items, 0 ≤ i.ver := fun i hi => by
        obtain ⟨j, hj, e⟩ := List.getElem_of_mem hi
        exact hall.out j i hj (by rw [List.getElem?_eq_getElem hj, e])
      have HV := Lib.hid hv
      have hkw := hkb.same hkr
      clear hall hv
      by_cases hcard : 900 < r.card.size
      · go_wp2_with fail
        go_ret
        exact CheckP.mk (check_card HH.out HV.out hcard) hkw
      · go_wp2_with fail
        have HB2 := Lib.hid (HB.out.kept hkr (fun h => h))
        have hir2 := hir
        obtain ⟨wo, hwo⟩ : ∃ wo, wo = wr := ⟨_, rfl⟩
        rw [← hwo] at hkw HB2 hir2
        clear hkr hir hc HB hI0
        go_loopw [4] (fun i wr => ∃ k : Nat, k ≤ r.items.length ∧ i = .int .i64 k ∧ Pure wo wr ∧ Hid (∀ (j : Nat) (i : It), j < k → r.items[j]? = some i → i.card.size ≤ 900 ∧ i.uid.size ≤ 24)) (fun i _ => r.items.length - (intOf i).toNat)
        case atStart => exact ⟨0, Nat.zero_le _, rfl, by rw [hwo]; exact Kept.refl _ _, fun j i hj => absurd hj (by omega)⟩
        case round =>
          clear hwo
          obtain ⟨k, hk, rfl, hkr, hall⟩ := hrel
          have hc := (HB2.out.kept hkr (fun h => h)).cell
          have hir := hir2.kept hkr (fun _ _ _ h => h)
          have hkx := hkw.same hkr
          by_cases hlt : k < r.items.length
          · obtain ⟨b, o, rfl, _, hbl, _⟩ := hir.2 (by omega)
            obtain ⟨it, hit⟩ : ∃ it, r.items[k]? = some it := ⟨_, List.getElem?_eq_getElem hlt⟩
            obtain ⟨c0, c1, c2, c3⟩ := it_cells hir hit
            have Hit := Lib.hid hit
            have hkx2 := hkx.alloc (.cells #[.string it.uid, .int .i64 it.ver, .bool it.gone, .string it.card] 52)
            have hkr2 := hkr.alloc (.cells #[.string it.uid, .int .i64 it.ver, .bool it.gone, .string it.card] 52)
            clear hit hir hI hir2
            by_cases hs1 : 900 < it.card.size
            · go_wp2_with fail
              go_ret
              exact CheckP.mk (check_item HH.out HV.out (List.mem_of_getElem? Hit.out) (.inl hs1)) (by first | exact hkx2 | exact hkx)
            · by_cases hs2 : 24 < it.uid.size
              · go_wp2_with fail
                go_ret
                exact CheckP.mk (check_item HH.out HV.out (List.mem_of_getElem? Hit.out) (.inr hs2)) (by first | exact hkx2 | exact hkx)
              · go_wp2_with fail
                go_roundw
                case measure => simp [intOf]; omega
                case rel =>
                  refine ⟨k + 1, by omega, by go_num, by first | exact hkr2 | exact hkr, fun j i hj hji => ?_⟩
                  by_cases hjk : j < k
                  · exact hall.out j i hjk hji
                  · obtain rfl : j = k := by omega
                    rw [Hit.out] at hji
                    injection hji with hji
                    subst hji
                    omega
          · obtain rfl : k = r.items.length := by omega
            have hs : ∀ i ∈ r.items, i.card.size ≤ 900 ∧ i.uid.size ≤ 24 := fun i hi => by
              obtain ⟨j, hj, e⟩ := List.getElem_of_mem hi
              exact hall.out j i hj (by rw [List.getElem?_eq_getElem hj, e])
            have HR := Lib.hid (check_rest HH.out HV.out (by omega) hs)
            obtain ⟨q1, q2, q3, q4⟩ := lay_ok HF.out HH.out (by omega) hs
            have HL := Lib.hid (Hlay.out wr hir q1 q2 q3 q4 HF.out.err HF.out.token HF.out.version HF.out.index)
            clear hall hs q1 q2 q3 q4 hir
            by_cases hbig : 20000 < (lay r).length
            · have hr : checkR r = 2 := by rw [HR.out, if_pos hbig]
              have HR2 := Lib.hid hr
              clear hr HR
              go_wp2_with fail
              refine (HL.out).mono ?_
              rintro e w9 ⟨A9, k9, rfl, ho9, hk9⟩
              go_wp2_with fail
              go_ret
              exact CheckP.mk HR2.out (hkx.same hk9)
            · have hr : checkR r = 0 := by rw [HR.out, if_neg hbig]
              have HR2 := Lib.hid hr
              clear hr HR
              go_wp2_with fail
              refine (HL.out).mono ?_
              rintro e w9 ⟨A9, k9, rfl, ho9, hk9⟩
              go_wp2_with fail
              go_ret
              exact CheckP.mk HR2.out (hkx.same hk9)
end Go.Proofs.Ytlmfpadlgdmflaa
