/-
  omap: the law's helpers.
-/
import Derived.Test.YtdgfefnaoionpaaStr
import Derived.Test.YtdgfefnaoionpaaBlk
import Derived.Test.YtdgfefnaoionpaaRows
import Derived.Test.YtdgfefnaoionpaaOmG
import Derived.LoopTactic
import Derived.Deep.QuietTactic
import Derived.BigQuiet
set_option linter.unusedSimpArgs false
set_option linter.unusedVariables false
namespace Go.Proofs.Ytdgfefnaoionpaa
open Go.RowKit
set_option maxRecDepth 100000
set_option maxHeartbeats 800000 in
theorem texts_any (A : Option Addr) (n c : Nat) (l : List ByteArray) (B : Option Addr) (m d : Nat) (l' : List ByteArray) (w : World) (F G : Nat → Prop) (hs : Sl w F 1 A n (l.map Value.string)) (ht : Sl w G 1 B m (l'.map Value.string)) (hn : n ≤ 1000000) (hm : m ≤ 1000000) :
    Calls Try.prog 15 #[.slice A n c, .slice B m d] w fun e w' => e = .returned (.bool (decide (l = l'))) ∧ Pure w w' := by
  have hl : l.length = n := by have := hs.1; simpa using this
  have hl' : l'.length = m := by have := ht.1; simpa using this
  by_cases hnm : n = m
  · subst hnm
    have Hl := Lib.hid hl
    have Hl' := Lib.hid hl'
    have Hs := Lib.hid hs
    have Ht := Lib.hid ht
    clear hl hl' hs ht
    go_enter Try.func15, Try.ntmps15
    go_wp2
    go_loopw [5] (fun i wr => ∃ k : Nat, i = .int .i64 k ∧ k ≤ n ∧ Hid (∀ j, j < k → l[j]? = l'[j]?) ∧ Pure w wr) (fun i _ => n - (intOf i).toNat)
    case atStart => exact ⟨0, rfl, Nat.zero_le _, fun j h => by omega, Kept.refl _ _⟩
    case round =>
      obtain ⟨k, rfl, hk, hj, hp⟩ := hrel
      by_cases hkn : k < n
      · obtain ⟨b, o, rfl, _, _, hc⟩ := (Hs.out.kept hp (fun _ _ _ h => h)).2 (by omega)
        obtain ⟨b', o', rfl, _, _, hc'⟩ := (Ht.out.kept hp (fun _ _ _ h => h)).2 (by omega)
        obtain ⟨x, hx⟩ : ∃ x, l[k]? = some x := ⟨_, List.getElem?_eq_getElem (by have := Hl.out; omega)⟩
        obtain ⟨y, hy⟩ : ∃ y, l'[k]? = some y := ⟨_, List.getElem?_eq_getElem (by have := Hl'.out; omega)⟩
        have hc1 := hc k (by have := Hl.out; simp; omega)
        have hc1' := hc' k (by have := Hl'.out; simp; omega)
        rw [List.getElem?_map, hx] at hc1
        rw [List.getElem?_map, hy] at hc1'
        simp only [Option.map_some] at hc1 hc1'
        have hki : (k : Int) < (n : Int) := by omega
        have Hx := Lib.hid hx
        have Hy := Lib.hid hy
        clear hc hc' hx hy
        by_cases hxy : x = y
        · subst hxy
          go_wp2
          go_quiet (fail)
          go_wp2
          go_roundw
          case measure => simp [intOf]; omega
          case rel => exact ⟨k + 1, by first | rfl | go_num, by omega, fun j h => by
            by_cases hjk : j = k
            · subst hjk; rw [Hx.out, Hy.out]
            · exact hj.out j (by omega), hp.drewN _⟩
        · have hne : decide (l = l') = false := by
            simp only [decide_eq_false_iff_not]
            rintro rfl
            have := Hx.out
            rw [Hy.out] at this
            injection this with this
            exact hxy this.symm
          have Hne := Lib.hid hne
          have hq : (x.toList == y.toList) = false := str_ne hxy
          clear hne
          go_wp2
          go_quiet (fail)
          go_wp2
          go_ret
          exact ⟨by rw [Hne.out]; rfl, hp.drewN _⟩
      · obtain rfl : k = n := by omega
        have he : decide (l = l') = true := by
          simp only [decide_eq_true_eq]
          apply List.ext_getElem?
          intro j
          by_cases hjk : j < k
          · exact hj.out j hjk
          · rw [List.getElem?_eq_none (by have := Hl.out; omega), List.getElem?_eq_none (by have := Hl'.out; omega)]
        have He := Lib.hid he
        clear he
        go_wp2
        go_ret
        exact ⟨by rw [He.out]; rfl, hp⟩
  · have he : decide (l = l') = false := by
      simp only [decide_eq_false_iff_not]
      rintro rfl
      omega
    rw [he]
    have h1 : ¬ ((n : Int) = (m : Int)) := by omega
    clear he hs ht hl hl'
    go_enter Try.func15, Try.ntmps15
    go_wp2
    go_ret
    exact ⟨rfl, Kept.refl _ _⟩

set_option maxHeartbeats 800000 in
theorem light_any (A : Option Addr) (c : Nat) (l : List Act) (w : World) (F : Nat → Prop) (hs : Sl w F 3 A l.length (l.flatMap Act.cells)) (hf : ∀ a ∈ l, a.Fits) :
    Calls Try.prog 8 #[.slice A l.length c] w fun e w' => e = .returned (.bool (lightL l)) ∧ w' = w := by
  obtain ⟨n, hn⟩ : ∃ n, l.length = n := ⟨_, rfl⟩
  rw [hn] at hs ⊢
  by_cases h80 : n ≤ 80
  · have Hs := Lib.hid hs
    have Hn := Lib.hid hn
    have Hf := Lib.hid hf
    clear hs hn hf
    go_enter Try.func8, Try.ntmps8
    go_wp2
    go_loopw [3] (fun i wr => ∃ k : Nat, i = .int .i64 k ∧ k ≤ n ∧ Hid (∀ j a, j < k → l[j]? = some a → a.k.size ≤ 40) ∧ wr = w) (fun i _ => n - (intOf i).toNat)
    case atStart => exact ⟨0, rfl, Nat.zero_le _, fun j a h => by omega, rfl⟩
    case round =>
      obtain ⟨k, rfl, hk, hj, rfl⟩ := hrel
      by_cases hkn : k < n
      · obtain ⟨b, o, rfl, _, _, _⟩ := Hs.out.2 (by omega)
        obtain ⟨a, ha⟩ : ∃ a, l[k]? = some a := ⟨_, List.getElem?_eq_getElem (by have := Hn.out; omega)⟩
        have hc1 := sl_at Act.cells_len Hs.out (by omega) ha 1 (by omega)
        simp only [Act.cells] at hc1
        have hki : (k : Int) < (n : Int) := by omega
        have Ha := Lib.hid ha
        have hsz : a.k.size ≤ 9223372036854775807 := by
          have := (Hf.out a (List.mem_of_getElem? ha)).2.1
          unfold maxLen at this
          exact this
        clear ha
        by_cases h40 : a.k.size ≤ 40
        · have h40' : ¬ (40 : Int) < (a.k.size : Int) := by omega
          go_wp2
          go_roundw
          case measure => simp [intOf]; omega
          case rel => exact ⟨k + 1, by first | rfl | go_num, by omega, fun j x h hx => by
            by_cases hjk : j = k
            · subst hjk
              have := Ha.out
              rw [hx] at this
              injection this with this
              subst this
              exact h40
            · exact hj.out j x (by omega) hx, by first | rfl | trivial⟩
        · have h40' : (40 : Int) < (a.k.size : Int) := by omega
          have hne : lightL l = false := by
            simp only [lightL, Bool.and_eq_false_iff]
            right
            rw [List.all_eq_false]
            exact ⟨a, List.mem_of_getElem? Ha.out, by simpa using h40⟩
          have Hne := Lib.hid hne
          clear hne
          go_wp2
          go_ret
          exact ⟨by rw [Hne.out]; rfl, rfl⟩
      · obtain rfl : k = n := by omega
        have he : lightL l = true := by
          simp only [lightL, Bool.and_eq_true, decide_eq_true_eq, List.all_eq_true]
          refine ⟨by have := Hn.out; omega, fun a ha => ?_⟩
          obtain ⟨j, hj'⟩ := List.getElem?_of_mem ha
          exact hj.out j a (by have := (List.getElem?_eq_some_iff.1 hj').1; have := Hn.out; omega) hj'
        have He := Lib.hid he
        clear he
        go_wp2
        go_ret
        exact ⟨by rw [He.out]; rfl, rfl⟩
  · have hne : lightL l = false := by simp [lightL]; omega
    have h80' : (80 : Int) < (n : Int) := by omega
    rw [hne]
    clear hs hn hne
    go_enter Try.func8, Try.ntmps8
    go_wp2
    go_ret
    exact ⟨rfl, rfl⟩

set_option maxHeartbeats 800000 in
theorem place_any (A : Option Addr) (n c : Nat) (ks : List ByteArray) (t : ByteArray) (w : World) (F : Nat → Prop) (hs : Sl w F 1 A n (ks.map Value.string)) (hn : n ≤ 1000000) :
    Calls Try.prog 13 #[.slice A n c, .string t] w fun e w' => e = .returned (.tuple #[.int .i64 (plc ks t : Nat), .bool (inn ks t)]) ∧ Pure w w' := by
  have hl : ks.length = n := by have := hs.1; simpa using this
  have Hs := Lib.hid hs
  have Hl := Lib.hid hl
  clear hs hl
  go_enter Try.func13, Try.ntmps13
  go_wp2
  go_loopw [6] (fun i wr => ∃ k : Nat, i = .int .i64 k ∧ k ≤ n ∧ Hid (∀ j x, j < k → ks[j]? = some x → kb x < kb t) ∧ Pure w wr) (fun i _ => n - (intOf i).toNat)
  case atStart => exact ⟨0, rfl, Nat.zero_le _, fun j a h => by omega, Kept.refl _ _⟩
  case round =>
    obtain ⟨k, rfl, hk, hj, hp⟩ := hrel
    by_cases hkn : k < n
    · obtain ⟨b, o, rfl, _, _, _⟩ := Hs.out.2 (by omega)
      obtain ⟨x, hx⟩ : ∃ x, ks[k]? = some x := ⟨_, List.getElem?_eq_getElem (by have := Hl.out; omega)⟩
      have hc1 := sl_one (Hs.out.kept hp (fun _ _ _ h => h)) hx
      have hki : (k : Int) < (n : Int) := by omega
      have Hx := Lib.hid hx
      clear hx
      by_cases hlt : kb x < kb t
      · have hb : Op.bytesLess x.toList t.toList = true := by rw [str_lt]; simpa using hlt
        go_wp2
        go_roundw
        case measure => simp [intOf]; omega
        case rel => exact ⟨k + 1, by first | rfl | go_num, by omega, fun j y h hy => by
          by_cases hjk : j = k
          · subst hjk
            have := Hx.out
            rw [hy] at this
            injection this with this
            subst this
            exact hlt
          · exact hj.out j y (by omega) hy, hp⟩
      · have hb : Op.bytesLess x.toList t.toList = false := by rw [str_lt]; simpa using hlt
        have hpl : plc ks t = k := plc_of ks k (by have := Hl.out; omega) hj.out (fun y hy => by have := Hx.out; rw [hy] at this; injection this with this; subst this; exact hlt)
        have hin : inn ks t = decide (x = t) := by unfold inn; rw [hpl, Hx.out]
        have Hpl := Lib.hid hpl
        have Hin := Lib.hid hin
        obtain ⟨V, hV⟩ : ∃ V, (x.toList == t.toList) = V := ⟨_, rfl⟩
        have hV2 := hV
        rw [str_same] at hV2
        have HV2 := Lib.hid hV2
        clear hpl hin hV2
        go_wp2
        go_quiet (fail)
        go_wp2
        go_ret2
        exact ⟨by rw [Hpl.out, Hin.out, HV2.out]; rfl, hp.drewN _⟩
    · obtain rfl : k = n := by omega
      have hpl : plc ks t = k := plc_of ks k (by have := Hl.out; omega) hj.out (fun y hy => by have := (List.getElem?_eq_some_iff.1 hy).1; have := Hl.out; omega)
      have hin : inn ks t = false := by unfold inn; rw [hpl, List.getElem?_eq_none (by have := Hl.out; omega)]
      have Hpl := Lib.hid hpl
      have Hin := Lib.hid hin
      clear hpl hin
      go_wp2
      go_ret2
      exact ⟨by rw [Hpl.out, Hin.out]; rfl, hp⟩
end Go.Proofs.Ytdgfefnaoionpaa
