/-
  reg: the law's helpers: Texts, light, step; the registry lies from a block on.
-/
import Derived.Test.YtmpbmfahnbbbdaaRgU
import Derived.Test.YtmpbmfahnbbbdaaRgA
import Derived.Test.YtmpbmfahnbbbdaaRgN
import Derived.Test.YtmpbmfahnbbbdaaRowC
import Derived.LoopTactic
import Derived.Deep.QuietTactic
import Derived.BigQuiet
set_option linter.unusedSimpArgs false
set_option linter.unusedVariables false
namespace Go.Proofs.Ytmpbmfahnbbbdaa
open Go.RowKit
set_option maxRecDepth 100000
set_option maxHeartbeats 800000 in
theorem texts_any (A : Option Addr) (n c : Nat) (l : List ByteArray) (B : Option Addr) (m d : Nat) (l' : List ByteArray) (w : World) (F G : Nat → Prop) (hs : Sl w F 1 A n (l.map Value.string)) (ht : Sl w G 1 B m (l'.map Value.string)) (hn : n ≤ 1000000) (hm : m ≤ 1000000) :
    Calls Try.prog 14 #[.slice A n c, .slice B m d] w fun e w' => e = .returned (.bool (decide (l = l'))) ∧ Pure w w' := by
  have hl : l.length = n := by have := hs.1; simpa using this
  have hl' : l'.length = m := by have := ht.1; simpa using this
  by_cases hnm : n = m
  · subst hnm
    have Hl := Lib.hid hl
    have Hl' := Lib.hid hl'
    have Hs := Lib.hid hs
    have Ht := Lib.hid ht
    clear hl hl' hs ht
    go_enter Try.func14, Try.ntmps14
    go_wp2
    go_loopw [5] (fun i wr => ∃ k : Nat, i = .int .i64 k ∧ k ≤ n ∧ Hid (∀ j, j < k → l[j]? = l'[j]?) ∧ Pure w wr) (fun i _ => n - (intOf i).toNat)
    case atStart => exact ⟨0, rfl, Nat.zero_le _, fun j h => by omega, Kept.refl _ _⟩
    case round =>
      obtain ⟨k, rfl, hk, hj, hp⟩ := hrel
      by_cases hkn : k < n
      · obtain ⟨b, o, rfl, _, _, hc⟩ := (Hs.out.kept hp (fun _ _ _ h => h)).2 (by omega)
        obtain ⟨b', o', rfl, _, _, hc'⟩ := (Ht.out.kept hp (fun _ _ _ h => h)).2 (by omega)
        obtain ⟨x, hx⟩ : ∃ x, l[k]? = some x := ⟨_, List.getElem?_eq_getElem (by have := Hl.out; omega)⟩
        obtain ⟨y, hy⟩ : ∃ y, l'[k]? = some y := ⟨_, List.getElem?_eq_getElem (by have := Hl'.out; omega)⟩
        have hc1 := hc k (by have := Hl.out; simp; omega)
        have hc1' := hc' k (by have := Hl'.out; simp; omega)
        rw [List.getElem?_map, hx] at hc1
        rw [List.getElem?_map, hy] at hc1'
        simp only [Option.map_some] at hc1 hc1'
        have hki : (k : Int) < (n : Int) := by omega
        have Hx := Lib.hid hx
        have Hy := Lib.hid hy
        clear hc hc' hx hy
        by_cases hxy : x = y
        · subst hxy
          go_wp2
          go_quiet (fail)
          go_wp2
          go_roundw
          case measure => simp [intOf]; omega
          case rel => exact ⟨k + 1, by first | rfl | go_num, by omega, fun j h => by
            by_cases hjk : j = k
            · subst hjk; rw [Hx.out, Hy.out]
            · exact hj.out j (by omega), hp.drewN _⟩
        · have hne : decide (l = l') = false := by
            simp only [decide_eq_false_iff_not]
            rintro rfl
            have := Hx.out
            rw [Hy.out] at this
            injection this with this
            exact hxy this.symm
          have Hne := Lib.hid hne
          have hq : (x.toList == y.toList) = false := str_ne hxy
          clear hne
          go_wp2
          go_quiet (fail)
          go_wp2
          go_ret
          exact ⟨by rw [Hne.out]; rfl, hp.drewN _⟩
      · obtain rfl : k = n := by omega
        have he : decide (l = l') = true := by
          simp only [decide_eq_true_eq]
          apply List.ext_getElem?
          intro j
          by_cases hjk : j < k
          · exact hj.out j hjk
          · rw [List.getElem?_eq_none (by have := Hl.out; omega), List.getElem?_eq_none (by have := Hl'.out; omega)]
        have He := Lib.hid he
        clear he
        go_wp2
        go_ret
        exact ⟨by rw [He.out]; rfl, hp⟩
  · have he : decide (l = l') = false := by
      simp only [decide_eq_false_iff_not]
      rintro rfl
      omega
    rw [he]
    have h1 : ¬ ((n : Int) = (m : Int)) := by omega
    clear he hs ht hl hl'
    go_enter Try.func14, Try.ntmps14
    go_wp2
    go_ret
    exact ⟨rfl, Kept.refl _ _⟩

def lightL (l : List Act) : Bool := decide (l.length ≤ 80) && l.all fun a => decide (a.key.size ≤ 40)
def lightB (s : Int) (l : List Act) : Bool := decide (s ≤ 64) && lightL l
set_option maxHeartbeats 800000 in
theorem light_any (s : Int) (A : Option Addr) (c : Nat) (l : List Act) (w : World) (F : Nat → Prop) (hs : Sl w F 3 A l.length (l.flatMap Act.cells)) (hf : ∀ a ∈ l, a.Fits) :
    Calls Try.prog 9 #[.int .i64 s, .slice A l.length c] w fun e w' => e = .returned (.bool (lightB s l)) ∧ w' = w := by
  obtain ⟨n, hn⟩ : ∃ n, l.length = n := ⟨_, rfl⟩
  rw [hn] at hs ⊢
  by_cases h64 : s ≤ 64
  · have hlb : lightB s l = lightL l := by unfold lightB; simp [h64]
    rw [hlb]
    have hs64 : (64 < s) = False := by simp; omega
    clear hlb
    by_cases h80 : n ≤ 80
    · have Hs := Lib.hid hs
      have Hn := Lib.hid hn
      have Hf := Lib.hid hf
      clear hs hn hf
      go_enter Try.func9, Try.ntmps9
      go_wp2
      go_loopw [5] (fun i wr => ∃ k : Nat, i = .int .i64 k ∧ k ≤ n ∧ Hid (∀ j a, j < k → l[j]? = some a → a.key.size ≤ 40) ∧ wr = w) (fun i _ => n - (intOf i).toNat)
      case atStart => exact ⟨0, rfl, Nat.zero_le _, fun j a h => by omega, rfl⟩
      case round =>
        obtain ⟨k, rfl, hk, hj, hw⟩ := hrel
        obtain rfl := hw.symm
        by_cases hkn : k < n
        · obtain ⟨b, o, rfl, _, _, _⟩ := Hs.out.2 (by omega)
          obtain ⟨a, ha⟩ : ∃ a, l[k]? = some a := ⟨_, List.getElem?_eq_getElem (by have := Hn.out; omega)⟩
          have hc1 := sl_at Act.cells_len Hs.out (by omega) ha 1 (by omega)
          simp only [Act.cells] at hc1
          have hki : (k : Int) < (n : Int) := by omega
          have Ha := Lib.hid ha
          have hsz : a.key.size ≤ 9223372036854775807 := by
            have := (Hf.out a (List.mem_of_getElem? ha)).2.1
            unfold maxLen at this
            exact this
          clear ha
          by_cases h40 : a.key.size ≤ 40
          · have h40' : ¬ (40 : Int) < (a.key.size : Int) := by omega
            go_wp2
            go_roundw
            case measure => simp [intOf]; omega
            case rel => exact ⟨k + 1, by first | rfl | go_num, by omega, fun j x h hx => by
              by_cases hjk : j = k
              · subst hjk
                have := Ha.out
                rw [hx] at this
                injection this with this
                subst this
                exact h40
              · exact hj.out j x (by omega) hx, by first | rfl | trivial⟩
          · have h40' : (40 : Int) < (a.key.size : Int) := by omega
            have hne : lightL l = false := by
              simp only [lightL, Bool.and_eq_false_iff]
              right
              rw [List.all_eq_false]
              exact ⟨a, List.mem_of_getElem? Ha.out, by simpa using h40⟩
            have Hne := Lib.hid hne
            clear hne
            go_wp2
            go_ret
            exact ⟨by rw [Hne.out]; rfl, rfl⟩
        · obtain rfl : k = n := by omega
          have hyes : lightL l = true := by
            simp only [lightL, Bool.and_eq_true]
            refine ⟨by have := Hn.out; simp; omega, ?_⟩
            rw [List.all_eq_true]
            intro a ha
            obtain ⟨j, hjl, rfl⟩ := List.getElem_of_mem ha
            have := hj.out j _ (by have := Hn.out; omega) (List.getElem?_eq_getElem hjl)
            simpa using this
          have Hyes := Lib.hid hyes
          clear hyes
          go_wp2
          go_ret
          exact ⟨by rw [Hyes.out]; rfl, rfl⟩
    · have hne : lightL l = false := by
        simp only [lightL, Bool.and_eq_false_iff]
        left
        simpa [hn] using h80
      have Hne := Lib.hid hne
      have h80' : (80 : Int) < (n : Int) := by omega
      clear hs hf hn hne
      go_enter Try.func9, Try.ntmps9
      go_wp2
      go_ret
      exact ⟨by rw [Hne.out]; rfl, rfl⟩
  · have hne : lightB s l = false := by unfold lightB; simp [h64]
    have Hne := Lib.hid hne
    have hs64 : (64 < s) = True := by simp; omega
    clear hs hf hn hne
    go_enter Try.func9, Try.ntmps9
    go_wp2
    go_ret
    exact ⟨by rw [Hne.out]; rfl, rfl⟩
/-- A registry that lies from block N on. -/
abbrev RN (N m : Nat) (w : World) (g : Nat) (es : Es) : Prop := Rg m w (fun b => N ≤ b) g es
theorem Rg.lt {m g : Nat} {w : World} {F : Nat → Prop} {es : Es} (h : Rg m w F g es) : g < w.heap.size ∧ F g := by
  obtain ⟨ms, A, c, gs, h⟩ := h
  exact ⟨h.blk.lt, h.fg⟩
theorem rn_le {N m g : Nat} {w : World} {es : Es} (h : RN N m w g es) : N ≤ w.heap.size := by have := h.lt; have := this.2; omega
theorem add_n (N m g : Nat) (w : World) (es : Es) (k : ByteArray) (id : Int) (h : RN N m w g es) (hk : k.size ≤ 1000000) (hn : es.length < 90000) :
    Calls Try.prog 16 #[ptrV g, .string k, .int .i64 id] w fun e w' => e = .returned (.bool (addE es k id).1) ∧ RN N m w' g (addE es k id).2 ∧ Kept (fun b => N ≤ b) w w' :=
  (rg_add w (fun b => N ≤ b ∧ b < w.heap.size) m g es k id (h.imp (fun b hb h => ⟨h, hb⟩)) hk hn (fun b h => h.2)).mono fun e w' ⟨h1, h2, h3⟩ => ⟨h1, h2.imp (fun b _ e => by have := rn_le h; omega), h3.mono (fun b _ h => h.1)⟩
theorem rem_n (N m g : Nat) (w : World) (es : Es) (k : ByteArray) (id : Int) (h : RN N m w g es) (hk : k.size ≤ 1000000) :
    Calls Try.prog 17 #[ptrV g, .string k, .int .i64 id] w fun e w' => e = .returned (.bool (remE es k id).1) ∧ RN N m w' g (remE es k id).2 ∧ Kept (fun b => N ≤ b) w w' :=
  (rg_rem w _ m g es k id h hk).mono fun e w' ⟨h1, h2, h3⟩ => ⟨h1, h2.imp (fun b _ e => by have := rn_le h; omega), h3⟩
set_option maxHeartbeats 800000 in
theorem rg_step (w : World) (F : Nat → Prop) (m g : Nat) (es : Es) (a : Act) (h : Rg m w F g es) (hk : a.key.size ≤ 1000000) (hn : es.length < 90000) (hF : ∀ b, F b → b < w.heap.size) :
    Calls Try.prog 11 #[ptrV g, .agg #[.int .i64 a.op, .string a.key, .int .i64 a.id]] w fun e w' => e = .returned (.bool (stepE es a.op a.key a.id).1) ∧ Rg m w' (fun b => F b ∨ w.heap.size ≤ b) g (stepE es a.op a.key a.id).2 ∧ Kept F w w' := by
  obtain ⟨op, k, id⟩ := a
  simp only at hk ⊢
  have hB := Blk.new w 29 #[.int .i64 op, .string k, .int .i64 id]
  have hp : Pure w (w.alloc (.cells #[.int .i64 op, .string k, .int .i64 id] 29)) := (Kept.refl _ w).alloc _
  have hsz := hp.size
  have hc := hB.cell
  have H := h.kept hp (fun _ _ _ h => h)
  by_cases h0 : op = 0
  · subst h0
    have he : stepE es 0 k id = addE es k id := rfl
    rw [he]
    have C := Lib.hid (rg_add (w.alloc (.cells #[.int .i64 0, .string k, .int .i64 id] 29)) F m g es k id H hk hn (fun b h => by have := hF b h; omega))
    clear H h hB he
    go_enter Try.func11, Try.ntmps11
    go_wp2_with fail
    refine (C.out).mono ?_
    rintro e w1 ⟨rfl, h1, hk1⟩
    have H1 := Lib.hid h1
    have Hk := Lib.hid ((hp.mono (fun _ _ h => h.elim)).same hk1)
    clear h1 hk1
    go_wp2
    go_ret
    exact ⟨rfl, H1.out.imp (fun b _ h => h.imp (fun h => h) (fun h => Nat.le_trans hsz h)), Hk.out⟩
  · have hb0 : (op == 0) = false := by simpa using h0
    by_cases h1 : op = 1
    · subst h1
      have he : stepE es 1 k id = remE es k id := rfl
      rw [he]
      have C := Lib.hid (rg_rem (w.alloc (.cells #[.int .i64 1, .string k, .int .i64 id] 29)) F m g es k id H hk)
      clear H h hB he
      go_enter Try.func11, Try.ntmps11
      go_wp2_with fail
      refine (C.out).mono ?_
      rintro e w1 ⟨rfl, h1, hk1⟩
      have H1 := Lib.hid h1
      have Hk := Lib.hid ((hp.mono (fun _ _ h => h.elim)).same hk1)
      clear h1 hk1
      go_wp2
      go_ret
      exact ⟨rfl, H1.out.imp (fun b _ h => h.imp (fun h => h) (fun h => Nat.le_trans hsz h)), Hk.out⟩
    · have hb1 : (op == 1) = false := by simpa using h1
      have he : stepE es op k id = (decide (0 ≤ fdE es k), es) := by unfold stepE; rw [if_neg h0, if_neg h1]
      rw [he]
      have C := Lib.hid (rg_find (w.alloc (.cells #[.int .i64 op, .string k, .int .i64 id] 29)) F m g es k H hk)
      have H1 := Lib.hid H
      clear H h hB he
      go_enter Try.func11, Try.ntmps11
      go_wp2_with fail
      refine (C.out).mono ?_
      rintro e w1 ⟨rfl, hk1⟩
      have H2 := Lib.hid (H1.out.kept hk1 (fun _ _ _ h => h))
      go_wp2
      go_ret
      exact ⟨rfl, H2.out.imp (fun b _ h => .inl h), (hp.same hk1).mono (fun _ _ h => h.elim)⟩
end Go.Proofs.Ytmpbmfahnbbbdaa
