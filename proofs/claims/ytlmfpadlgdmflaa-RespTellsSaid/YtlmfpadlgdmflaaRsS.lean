/-
  The walks of SameResp, Items, LightResp, Bad.
-/
import Derived.Test.YtlmfpadlgdmflaaRsV
import Derived.Test.YtlmfpadlgdmflaaBlk
import Derived.Deep.QuietTactic
import Derived.BigQuiet
import Derived.Lib.Bytealg
set_option linter.unusedSimpArgs false
set_option linter.unusedVariables false
namespace Go.Proofs.Ytlmfpadlgdmflaa
open Go.RowKit
set_option maxRecDepth 100000

theorem toList_eq {a b : ByteArray} : a.toList = b.toList ↔ a = b := by
  constructor
  · intro h
    rw [Go.Lib.toList_data, Go.Lib.toList_data] at h
    exact ByteArray.ext (Array.toList_inj.1 h)
  · rintro rfl; rfl
theorem neq_item (i1 i2 : It) (w : World) : (binOp .neq 52 (.agg #[.string i1.uid, .int .i64 i1.ver, .bool i1.gone, .string i1.card]) (.agg #[.string i2.uid, .int .i64 i2.ver, .bool i2.gone, .string i2.card])).run Try.prog w = .ok (.bool (!decide (i1 = i2))) w := by
  obtain ⟨u1, v1, g1, c1⟩ := i1
  obtain ⟨u2, v2, g2, c2⟩ := i2
  go_simp
  simp only [toList_eq]
  (repeat' split) <;> simp_all
theorem guard_item (x y : Operand) (xs ys : Array Value) (op : BinOp) (w : World) : (eqGuard op 52 x y (.agg xs) (.agg ys)).run Try.prog w = .ok () w := run_eqGuard_agg w op _ x y xs ys (by kernel_rfl)
def BoolD (b : Bool) (w : World) (e : Ending) (w' : World) : Prop := e = .returned (.bool b) ∧ ∃ n, w' = w.drewN n

set_option maxHeartbeats 1600000 in
theorem items_any (A1 : Option Addr) (n1 c1 : Nat) (l1 : List It) (A2 : Option Addr) (n2 c2 : Nat) (l2 : List It) (w : World) (F G : Nat → Prop) (h1 : Sl w F 4 A1 n1 (itc l1)) (h2 : Sl w G 4 A2 n2 (itc l2)) (hn1 : n1 ≤ 1000000) (hn2 : n2 ≤ 1000000) :
    Calls Try.prog 40 #[.slice A1 n1 c1, .slice A2 n2 c2] w (BoolD (decide (l1 = l2)) w) := by
  have hl1 : l1.length = n1 := by have := h1.1; rw [itc_length] at this; omega
  have hl2 : l2.length = n2 := by have := h2.1; rw [itc_length] at this; omega
  by_cases hnn : n1 = n2
  · subst hnn
    have HL := Lib.hid (And.intro hl1 hl2)
    clear hl1 hl2
    go_enter Try.func40, Try.ntmps40
    go_wp2_with fail
    go_loopw [5] (fun i wr => ∃ k : Nat, k ≤ n1 ∧ i = .int .i64 k ∧ (∃ q, wr = w.drewN q) ∧ Hid (∀ j, j < k → l1[j]? = l2[j]?)) (fun i _ => n1 - (intOf i).toNat)
    case atStart => exact ⟨0, Nat.zero_le _, rfl, ⟨0, rfl⟩, fun j hj => absurd hj (by omega)⟩
    case round =>
      obtain ⟨k, hk, rfl, ⟨q, rfl⟩, hall⟩ := hrel
      by_cases hlt : k < n1
      · obtain ⟨b1, o1, rfl, _, hb1, _⟩ := h1.2 (by omega)
        obtain ⟨b2, o2, rfl, _, hb2, _⟩ := h2.2 (by omega)
        obtain ⟨i1, hi1⟩ : ∃ it, l1[k]? = some it := ⟨_, List.getElem?_eq_getElem (by have := HL.out.1; omega)⟩
        obtain ⟨i2, hi2⟩ : ∃ it, l2[k]? = some it := ⟨_, List.getElem?_eq_getElem (by have := HL.out.2; omega)⟩
        obtain ⟨a0, a1, a2, a3⟩ := it_cells h1 hi1
        obtain ⟨b0, b1', b2', b3⟩ := it_cells h2 hi2
        have HI := Lib.hid (And.intro hi1 hi2)
        have hne := neq_item i1 i2
        have hgd := fun x y xs ys => guard_item x y xs ys .neq
        clear hi1 hi2 h1 h2
        by_cases hii : i1 = i2
        · rw [decide_eq_true hii] at hne
          have HII := Lib.hid hii
          clear hii
          go_wp2_with fail
          go_quiet (fail)
          go_wp2_with fail
          go_roundw
          case measure => simp [intOf]; omega
          case rel =>
            refine ⟨k + 1, by omega, by go_num, ⟨_, rfl⟩, fun j hj => ?_⟩
            by_cases hjk : j < k
            · exact hall.out j hjk
            · obtain rfl : j = k := by omega
              rw [HI.out.1, HI.out.2, HII.out]
        · rw [decide_eq_false hii] at hne
          have hno : decide (l1 = l2) = false := decide_eq_false (by
            rintro rfl
            have h1 := HI.out.1
            rw [HI.out.2] at h1
            injection h1 with h1
            exact hii h1.symm)
          have HNO := Lib.hid hno
          clear hii hno
          go_wp2_with fail
          go_quiet (fail)
          go_wp2_with fail
          go_ret
          rw [HNO.out]
          exact ⟨rfl, _, World.drewN_drewN _ _ _⟩
      · obtain rfl : k = n1 := by omega
        have hyes : decide (l1 = l2) = true := decide_eq_true (List.ext_getElem? fun j => by
          rcases Nat.lt_or_ge j k with h | h
          · exact hall.out j h
          · rw [List.getElem?_eq_none (by have := HL.out.1; omega), List.getElem?_eq_none (by have := HL.out.2; omega)])
        have HY := Lib.hid hyes
        clear hyes
        go_wp2_with fail
        go_ret
        rw [HY.out]
        exact ⟨rfl, q, rfl⟩
  · have hno : decide (l1 = l2) = false := decide_eq_false (by rintro rfl; omega)
    have HNO := Lib.hid hno
    have hne : ((n1 : Int) != (n2 : Int)) = true := by simp; omega
    clear hno hnn hl1 hl2
    go_enter Try.func40, Try.ntmps40
    go_wp2_with fail
    go_ret
    rw [HNO.out]
    exact ⟨rfl, 0, rfl⟩

/-- Alike? -/
def sameR (a b : Rs) : Bool := decide (a.kind = b.kind ∧ a.err = b.err ∧ a.token = b.token ∧ a.version = b.version ∧ a.card = b.card ∧ a.index = b.index ∧ a.more = b.more ∧ a.items = b.items)
theorem sameR_self (a : Rs) : sameR a a = true := by simp [sameR]
def BoolP (b : Bool) (w : World) (e : Ending) (w' : World) : Prop := e = .returned (.bool b) ∧ Pure w w'

set_option maxHeartbeats 1600000 in
theorem same_any (a b : Rs) (A1 : Option Addr) (c1 : Nat) (A2 : Option Addr) (c2 : Nat) (w : World) (F G : Nat → Prop) (h1 : Sl w F 4 A1 a.items.length (itc a.items)) (h2 : Sl w G 4 A2 b.items.length (itc b.items)) (hn1 : a.items.length ≤ 1000000) (hn2 : b.items.length ≤ 1000000) :
    Calls Try.prog 28 #[.agg (rsa a A1 c1), .agg (rsa b A2 c2)] w (BoolP (sameR a b) w) := by
  have hi := Lib.hid (fun w' h1 h2 => items_any A1 _ c1 a.items A2 _ c2 b.items w' F G h1 h2 hn1 hn2)
  have hk := (((Kept.refl (fun _ => False) w).alloc (.cells (rsa a A1 c1) 40)).alloc (.cells (rsa b A2 c2) 40))
  have hs1 := Lib.hid (h1.kept hk (fun _ _ _ h => h))
  have hs2 := Lib.hid (h2.kept hk (fun _ _ _ h => h))
  unfold rsa at *
  clear h1 h2
  by_cases k1 : ¬ a.kind = b.kind
  · have hno : sameR a b = false := decide_eq_false (fun h => k1 h.1)
    have hne : (a.kind == b.kind) = false := by simpa using k1
    have HNO := Lib.hid hno
    clear hno k1
    go_enter Try.func28, Try.ntmps28
    go_wp2_with fail
    go_ret
    rw [HNO.out]
    exact ⟨rfl, hk⟩
  have Hk1 := Lib.hid (Decidable.not_not.1 k1)
  have ek1 : (a.kind == b.kind) = true := by rw [Hk1.out]; simp
  clear k1
  by_cases k2 : ¬ a.err = b.err
  · have hno : sameR a b = false := decide_eq_false (fun h => k2 h.2.1)
    have hne : (a.err == b.err) = false := by simpa using k2
    have HNO := Lib.hid hno
    clear hno k2
    go_enter Try.func28, Try.ntmps28
    go_wp2_with fail
    go_ret
    rw [HNO.out]
    exact ⟨rfl, hk⟩
  have Hk2 := Lib.hid (Decidable.not_not.1 k2)
  have ek2 : (a.err == b.err) = true := by rw [Hk2.out]; simp
  clear k2
  by_cases k3 : ¬ a.token = b.token
  · have hno : sameR a b = false := decide_eq_false (fun h => k3 h.2.2.1)
    have hne : (a.token == b.token) = false := by simpa using k3
    have HNO := Lib.hid hno
    clear hno k3
    go_enter Try.func28, Try.ntmps28
    go_wp2_with fail
    go_ret
    rw [HNO.out]
    exact ⟨rfl, hk⟩
  have Hk3 := Lib.hid (Decidable.not_not.1 k3)
  have ek3 : (a.token == b.token) = true := by rw [Hk3.out]; simp
  clear k3
  by_cases k4 : ¬ a.version = b.version
  · have hno : sameR a b = false := decide_eq_false (fun h => k4 h.2.2.2.1)
    have hne : (a.version == b.version) = false := by simpa using k4
    have HNO := Lib.hid hno
    clear hno k4
    go_enter Try.func28, Try.ntmps28
    go_wp2_with fail
    go_ret
    rw [HNO.out]
    exact ⟨rfl, hk⟩
  have Hk4 := Lib.hid (Decidable.not_not.1 k4)
  have ek4 : (a.version == b.version) = true := by rw [Hk4.out]; simp
  clear k4
  by_cases k5 : ¬ a.card.toList = b.card.toList
  · have hno : sameR a b = false := decide_eq_false (fun h => k5 (by rw [h.2.2.2.2.1]))
    have hne : (a.card.toList == b.card.toList) = false := by simpa using k5
    have HNO := Lib.hid hno
    clear hno k5
    go_enter Try.func28, Try.ntmps28
    go_wp2_with fail
    go_ret
    rw [HNO.out]
    exact ⟨rfl, hk⟩
  have Hk5 := Lib.hid (Decidable.not_not.1 k5)
  have ek5 : (a.card.toList == b.card.toList) = true := by rw [Hk5.out]; simp
  clear k5
  by_cases k6 : ¬ a.index = b.index
  · have hno : sameR a b = false := decide_eq_false (fun h => k6 h.2.2.2.2.2.1)
    have hne : (a.index == b.index) = false := by simpa using k6
    have HNO := Lib.hid hno
    clear hno k6
    go_enter Try.func28, Try.ntmps28
    go_wp2_with fail
    go_ret
    rw [HNO.out]
    exact ⟨rfl, hk⟩
  have Hk6 := Lib.hid (Decidable.not_not.1 k6)
  have ek6 : (a.index == b.index) = true := by rw [Hk6.out]; simp
  clear k6
  by_cases k7 : ¬ a.more = b.more
  · have hno : sameR a b = false := decide_eq_false (fun h => k7 h.2.2.2.2.2.2.1)
    have hne : (a.more == b.more) = false := by simpa using k7
    have HNO := Lib.hid hno
    clear hno k7
    go_enter Try.func28, Try.ntmps28
    go_wp2_with fail
    go_ret
    rw [HNO.out]
    exact ⟨rfl, hk⟩
  have Hk7 := Lib.hid (Decidable.not_not.1 k7)
  have ek7 : (a.more == b.more) = true := by rw [Hk7.out]; simp
  clear k7
  have hl : sameR a b = decide (a.items = b.items) := by
    unfold sameR
    congr 1
    rw [eq_iff_iff]
    exact ⟨fun h => h.2.2.2.2.2.2.2, fun h => ⟨Hk1.out, Hk2.out, Hk3.out, Hk4.out, toList_eq.1 Hk5.out, Hk6.out, Hk7.out, h⟩⟩
  have HL := Lib.hid hl
  clear hl
  go_enter Try.func28, Try.ntmps28
  go_wp2_with fail
  refine (hi.out _ hs1.out hs2.out).mono ?_
  rintro e w1 ⟨rfl, n, rfl⟩
  go_wp2_with fail
  go_ret
  rw [HL.out]
  exact ⟨rfl, hk.drewN n⟩

/-! ### Light enough? -/
def lightR (r : Rs) : Bool := decide (r.card.size ≤ 2000 ∧ r.items.length ≤ 120 ∧ ∀ i ∈ r.items, i.uid.size ≤ 60 ∧ i.card.size ≤ 2000)
set_option maxHeartbeats 1600000 in
theorem light_any (r : Rs) (A : Option Addr) (c : Nat) (w : World) (F : Nat → Prop) (hI : Sl w F 4 A r.items.length (itc r.items)) :
    Calls Try.prog 21 #[.agg (rsa r A c)] w (BoolP (lightR r) w) := by
  have hb := Blk.new w 40 (rsa r A c)
  have hkb : Pure w (w.alloc (.cells (rsa r A c) 40)) := (Kept.refl _ _).alloc _
  have hc := hb.cell
  unfold rsa at hb hkb hc ⊢
  have hI0 := hI.kept hkb (fun _ _ _ h => h)
  by_cases k1 : 2000 < r.card.size
  · have HNO := Lib.hid (show lightR r = false from decide_eq_false (by omega))
    go_enter Try.func21, Try.ntmps21
    go_wp2_with fail
    go_ret
    rw [HNO.out]
    exact ⟨rfl, hkb⟩
  by_cases k2 : 120 < r.items.length
  · have HNO := Lib.hid (show lightR r = false from decide_eq_false (by omega))
    go_enter Try.func21, Try.ntmps21
    go_wp2_with fail
    go_ret
    rw [HNO.out]
    exact ⟨rfl, hkb⟩
  have hn : r.items.length ≤ 120 := by omega
  clear hI
  go_enter Try.func21, Try.ntmps21
  go_wp2_with fail
  generalize w.alloc _ = W0 at hb hkb hc hI0 ⊢
  go_loop [3] (fun i => ∃ k : Nat, k ≤ r.items.length ∧ i = .int .i64 k ∧ Hid (∀ (j : Nat) (i : It), j < k → r.items[j]? = some i → i.uid.size ≤ 60 ∧ i.card.size ≤ 2000)) (fun i => r.items.length - (intOf i).toNat)
  case atStart => exact ⟨0, Nat.zero_le _, rfl, fun j i hj => absurd hj (by omega)⟩
  case round =>
    obtain ⟨k, hk, rfl, hall⟩ := hrel
    by_cases hlt : k < r.items.length
    · obtain ⟨b, o, rfl, _, hbl, _⟩ := hI0.2 (by omega)
      obtain ⟨it, hit⟩ : ∃ it, r.items[k]? = some it := ⟨_, List.getElem?_eq_getElem hlt⟩
      obtain ⟨c0, c1, c2, c3⟩ := it_cells hI0 hit
      have Hit := Lib.hid hit
      clear hit hI0
      by_cases hu : 60 < it.uid.size
      · have HNO := Lib.hid (show lightR r = false from decide_eq_false (by rintro ⟨_, _, h⟩; have := h it (List.mem_of_getElem? Hit.out); omega))
        go_wp2_with fail
        go_ret
        rw [HNO.out]
        exact ⟨rfl, hkb⟩
      · by_cases hcd : 2000 < it.card.size
        · have HNO := Lib.hid (show lightR r = false from decide_eq_false (by rintro ⟨_, _, h⟩; have := h it (List.mem_of_getElem? Hit.out); omega))
          go_wp2_with fail
          go_ret
          rw [HNO.out]
          exact ⟨rfl, hkb⟩
        · go_wp2_with fail
          go_round
          case measure => simp [intOf]; omega
          case rel =>
            refine ⟨k + 1, by omega, by go_num, fun j i hj hji => ?_⟩
            by_cases hjk : j < k
            · exact hall.out j i hjk hji
            · obtain rfl : j = k := by omega
              rw [Hit.out] at hji
              injection hji with hji
              subst hji
              omega
    · obtain rfl : k = r.items.length := by omega
      have HY := Lib.hid (show lightR r = true from decide_eq_true ⟨by omega, by omega, fun i hi => by
        obtain ⟨j, hj, e⟩ := List.getElem_of_mem hi
        exact hall.out j i hj (by rw [List.getElem?_eq_getElem hj, e])⟩)
      go_wp2_with fail
      go_ret
      rw [HY.out]
      exact ⟨rfl, hkb⟩

theorem bad_any (kind err : Int) (w : World) :
    Calls Try.prog 29 #[.int .i64 kind, .int .i64 err] w fun e w' => e = .returned (.agg (rsa ⟨kind, err, 0, 0, ⟨#[]⟩, 0, false, []⟩ none 0)) ∧ Pure w w' := by
  have hb := Blk.new w 40 #[.int .i64 0, .int .i64 0, .int .i64 0, .int .i64 0, .string ⟨#[]⟩, .int .i64 0, .bool false, .slice none 0 0]
  have hk : Pure w (w.alloc (.cells #[.int .i64 0, .int .i64 0, .int .i64 0, .int .i64 0, .string ⟨#[]⟩, .int .i64 0, .bool false, .slice none 0 0] 40)) := (Kept.refl _ _).alloc _
  go_enter Try.func29, Try.ntmps29
  go_wp2_with (with_reducible refine stop_store (ty := 40) ?_)
  refine unheld ?_
  refine wp_store_blk rfl _ _ _ rfl rfl rfl hb rfl (by kernel_rfl) (by kernel_rfl) rfl ?_
  intro w9 hb9 hk9
  repeat go_step
  refine bodyPost_ret (results_cell Try.results29 rfl hb9 Try.underlying40 rfl (by kernel_rfl)) rfl ⟨rfl, hk.trans hk9 (fun i hi h => by omega)⟩
end Go.Proofs.Ytlmfpadlgdmflaa
