/-
  The walk of resp.lay.
-/
import Derived.Test.YtlmfpadlgdmflaaRsV
set_option linter.unusedSimpArgs false
set_option linter.unusedVariables false
namespace Go.Proofs.Ytlmfpadlgdmflaa
open Go.RowKit
set_option maxRecDepth 100000


theorem put_nil (w : World) (n : Int) (hn : n ≤ 9223372036854775807) : Calls Try.prog 15 #[.slice none 0 0, .int .i64 n] w (OutPost w (Pk.num n)) :=
  put_any none 0 0 [] w (fun _ => False) (Sl.nil _ _ _ _) (by omega) n hn
theorem put_more {w : World} {F : Nat → Prop} {A : Option Addr} {c : Nat} {l : List UInt8} (h : Own w F 5 1 (.slice A l.length c) l.length (bvs l)) (hl : l.length ≤ 1048576) (n : Int) (hn : n ≤ 9223372036854775807) :
    Calls Try.prog 15 #[.slice A l.length c, .int .i64 n] w (OutPost w (l ++ Pk.num n)) := put_any A l.length c l w F h.sl hl n hn
theorem text_more {w : World} {F : Nat → Prop} {A : Option Addr} {c : Nat} {l : List UInt8} (h : Own w F 5 1 (.slice A l.length c) l.length (bvs l)) (hl : l.length ≤ 1048576) (s : ByteArray) (hs : s.size ≤ 1048576) :
    Calls Try.prog 16 #[.slice A l.length c, .string s] w (OutPost w (l ++ Pk.text s.data.toList)) := text_put A l.length c l w F h.sl hl s hs
theorem num_len {l : List UInt8} (n : Int) : (l ++ Pk.num n).length ≤ l.length + 9 := by have := Pk.num_length_le n; rw [List.length_append]; omega
theorem text_len {l : List UInt8} (s : ByteArray) : (l ++ Pk.text s.data.toList).length ≤ l.length + 9 + s.size := by
  have := Pk.num_length_le (s.data.toList.length : Int)
  have e : s.data.toList.length = s.size := by rw [Array.length_toList]; rfl
  rw [List.length_append, Pk.text, List.length_append]; omega

set_option maxHeartbeats 1600000 in
theorem lay_any (r : Rs) (A : Option Addr) (c : Nat) (w : World) (hI : Sl w (fun _ => True) 4 A r.items.length (itc r.items)) (hlen : (lay r).length ≤ 1000000) (hcard : r.card.size ≤ 20500)
    (hits : ∀ i ∈ r.items, i.uid.size ≤ 20500 ∧ i.card.size ≤ 20500 ∧ i.ver ≤ 9223372036854775807) (hn : r.items.length ≤ 1000000) (e1 : r.err ≤ 9223372036854775807) (e2 : r.token ≤ 9223372036854775807) (e3 : r.version ≤ 9223372036854775807) (e4 : r.index ≤ 9223372036854775807) :
    Calls Try.prog 31 #[.agg (rsa r A c)] w (OutPost w (lay r)) := by
  have hb := Blk.new w 40 (rsa r A c)
  have hkb : Pure w (w.alloc (.cells (rsa r A c) 40)) := (Kept.refl _ _).alloc _
  have hc := hb.cell
  have hb01 := bitI_01 r.more
  unfold rsa at hb hkb hc ⊢
  go_enter Try.func31, Try.ntmps31
  go_wp2_with fail
  refine (put_nil _ r.err e1).mono ?_
  rintro e w1 ⟨A1, k1, rfl, ho, hk⟩
  have zL1 := Pk.num_length_le r.err
  generalize hL1 : Pk.num r.err = L1 at ho zL1 ⊢
  have HL1 := Lib.hid hL1
  have sL1 := hkb.size
  replace hb := hb.kept hk (fun h => h)
  replace hkb := hkb.same hk
  clear hk hL1 hc
  have hc := hb.cell
  go_wp2_with fail
  refine (put_more ho (by omega) r.token e2).mono ?_
  rintro e w2 ⟨A2, k2, rfl, ho, hk⟩
  have zL2 := num_len (l := L1) r.token
  generalize hL2 : L1 ++ Pk.num r.token = L2 at ho zL2 ⊢
  have HL2 := Lib.hid hL2
  have sL2 := hkb.size
  replace hb := hb.kept hk (fun h => h)
  replace hkb := hkb.same hk
  clear hk hL2 hc
  have hc := hb.cell
  go_wp2_with fail
  refine (put_more ho (by omega) r.version e3).mono ?_
  rintro e w3 ⟨A3, k3, rfl, ho, hk⟩
  have zL3 := num_len (l := L2) r.version
  generalize hL3 : L2 ++ Pk.num r.version = L3 at ho zL3 ⊢
  have HL3 := Lib.hid hL3
  have sL3 := hkb.size
  replace hb := hb.kept hk (fun h => h)
  replace hkb := hkb.same hk
  clear hk hL3 hc
  have hc := hb.cell
  go_wp2_with fail
  refine (text_more ho (by omega) r.card (by omega)).mono ?_
  rintro e w4 ⟨A4, k4, rfl, ho, hk⟩
  have zL4 := text_len (l := L3) r.card
  generalize hL4 : L3 ++ Pk.text r.card.data.toList = L4 at ho zL4 ⊢
  have HL4 := Lib.hid hL4
  have sL4 := hkb.size
  replace hb := hb.kept hk (fun h => h)
  replace hkb := hkb.same hk
  clear hk hL4 hc
  have hc := hb.cell
  go_wp2_with fail
  refine (put_more ho (by omega) r.index e4).mono ?_
  rintro e w5 ⟨A5, k5, rfl, ho, hk⟩
  have zL5 := num_len (l := L4) r.index
  generalize hL5 : L4 ++ Pk.num r.index = L5 at ho zL5 ⊢
  have HL5 := Lib.hid hL5
  have sL5 := hkb.size
  replace hb := hb.kept hk (fun h => h)
  replace hkb := hkb.same hk
  clear hk hL5 hc
  have hc := hb.cell
  go_wp2_with fail
  refine (bit_any r.more _).mono ?_
  rintro e w' ⟨rfl, rfl⟩
  go_wp2_with fail
  refine (put_more ho (by omega) (bitI r.more) (by omega)).mono ?_
  rintro e w6 ⟨A6, k6, rfl, ho, hk⟩
  have zL6 := num_len (l := L5) (bitI r.more)
  generalize hL6 : L5 ++ Pk.num (bitI r.more) = L6 at ho zL6 ⊢
  have HL6 := Lib.hid hL6
  have sL6 := hkb.size
  replace hb := hb.kept hk (fun h => h)
  replace hkb := hkb.same hk
  clear hk hL6 hc
  have hc := hb.cell
  go_wp2_with fail
  refine (put_more ho (by omega) (r.items.length : Int) (by omega)).mono ?_
  rintro e w7 ⟨A7, k7, rfl, ho, hk⟩
  have zL7 := num_len (l := L6) (r.items.length : Int)
  generalize hL7 : L6 ++ Pk.num (r.items.length : Int) = L7 at ho zL7 ⊢
  have HL7 := Lib.hid hL7
  have sL7 := hkb.size
  replace hb := hb.kept hk (fun h => h)
  replace hkb := hkb.same hk
  clear hk hL7 hc
  have hc := hb.cell
  go_wp2_with fail
  have HL : Hid (layHead r = L7) := by
    rw [Hid, ← HL7.out, ← HL6.out, ← HL5.out, ← HL4.out, ← HL3.out, ← HL2.out, ← HL1.out]
    simp [layHead]
  have ho7 : Own w7 (fun g => w.heap.size ≤ g) 5 1 (.slice A7 L7.length k7) L7.length (bvs L7) := ho.imp fun b _ h => by omega
  clear HL7 HL6 HL5 HL4 HL3 HL2 HL1 zL1 zL2 zL3 zL4 zL5 zL6 zL7 hb01 hc hb ho e1 e2 e3 e4
  have Hits := Lib.hid hits
  have Hlen := Lib.hid hlen
  clear hits hlen
  have hI7 := hI.kept hkb (fun _ _ _ h => h)
  go_loopw [3, 38] (fun v i wr => ∃ (k : Nat) (B : Option Addr) (kc : Nat) (L : List UInt8), k ≤ r.items.length ∧ i = .int .i64 k ∧ v = .slice B L.length kc ∧ Own wr (fun g => w.heap.size ≤ g) 5 1 (.slice B L.length kc) L.length (bvs L) ∧ Pure w7 wr ∧
      Hid (L = L7 ++ (r.items.take k).flatMap layIt)) (fun _ i _ => r.items.length - (intOf i).toNat)
  case atStart => exact ⟨0, A7, k7, L7, Nat.zero_le _, rfl, rfl, ho7, Kept.refl _ _, by simp [Hid]⟩
  case round =>
    obtain ⟨k, B, kc, L, hk, rfl, rfl, hor, hkr, hL⟩ := hrel
    have hLl : L.length ≤ 1000000 := by
      have := lay_take r k
      have h2 := Hlen.out
      rw [hL.out, ← HL.out]
      omega
    by_cases hlt : k < r.items.length
    · obtain ⟨b, o, rfl, _, hbl, _⟩ := hI.2 (by omega)
      obtain ⟨it, hit⟩ : ∃ it, r.items[k]? = some it := ⟨_, List.getElem?_eq_getElem hlt⟩
      have hitm := Hits.out it (List.mem_of_getElem? hit)
      have hir := hI7.kept hkr (fun _ _ _ h => h)
      obtain ⟨c0, c1, c2, c3⟩ := it_cells hir hit
      have Hit := Lib.hid hit
      have hsz2 := hkb.size
      have hb := Blk.new wr 52 #[.string it.uid, .int .i64 it.ver, .bool it.gone, .string it.card]
      have hkb : Pure wr (wr.alloc (.cells #[.string it.uid, .int .i64 it.ver, .bool it.gone, .string it.card] 52)) := (Kept.refl _ _).alloc _
      have hc := hb.cell
      have hb01 := bitI_01 it.gone
      have hsz := hkr.size
      clear hir hit hI hI7
      go_wp2_with fail
      refine (text_more (hor.alloc _) (by omega) it.uid (by omega)).mono ?_
      rintro e v1 ⟨B1, q1, rfl, ho, hk⟩
      have zM1 := text_len (l := L) it.uid
      generalize hM1 : L ++ Pk.text it.uid.data.toList = M1 at ho zM1 ⊢
      have HM1 := Lib.hid hM1
      have sM1 := hkb.size
      replace hb := hb.kept hk (fun h => h)
      replace hkb := hkb.same hk
      clear hk hM1 hc
      have hc := hb.cell
      clear c0 c1 c2 c3
      go_wp2_with fail
      refine (put_more ho (by omega) it.ver (by omega)).mono ?_
      rintro e v2 ⟨B2, q2, rfl, ho, hk⟩
      have zM2 := num_len (l := M1) it.ver
      generalize hM2 : M1 ++ Pk.num it.ver = M2 at ho zM2 ⊢
      have HM2 := Lib.hid hM2
      have sM2 := hkb.size
      replace hb := hb.kept hk (fun h => h)
      replace hkb := hkb.same hk
      clear hk hM2 hc
      have hc := hb.cell
      go_wp2_with fail
      refine (bit_any it.gone _).mono ?_
      rintro e w' ⟨rfl, rfl⟩
      go_wp2_with fail
      refine (put_more ho (by omega) (bitI it.gone) (by omega)).mono ?_
      rintro e v3 ⟨B3, q3, rfl, ho, hk⟩
      have zM3 := num_len (l := M2) (bitI it.gone)
      generalize hM3 : M2 ++ Pk.num (bitI it.gone) = M3 at ho zM3 ⊢
      have HM3 := Lib.hid hM3
      have sM3 := hkb.size
      replace hb := hb.kept hk (fun h => h)
      replace hkb := hkb.same hk
      clear hk hM3 hc
      have hc := hb.cell
      go_wp2_with fail
      refine (text_more ho (by omega) it.card (by omega)).mono ?_
      rintro e v4 ⟨B4, q4, rfl, ho, hk⟩
      have zM4 := text_len (l := M3) it.card
      generalize hM4 : M3 ++ Pk.text it.card.data.toList = M4 at ho zM4 ⊢
      have HM4 := Lib.hid hM4
      have sM4 := hkb.size
      replace hb := hb.kept hk (fun h => h)
      replace hkb := hkb.same hk
      clear hk hM4 hc
      have hc := hb.cell
      go_wp2_with fail
      go_roundw
      case measure => simp [intOf]; omega
      case rel =>
        refine ⟨k + 1, B4, q4, M4, by omega, by go_num, rfl, ho.imp fun b _ h => by omega, hkr.same hkb, ?_⟩
        rw [Hid, take_more _ _ _ Hit.out, ← HM4.out, ← HM3.out, ← HM2.out, ← HM1.out, hL.out]
        simp [layIt]
    · obtain rfl : k = r.items.length := by omega
      have e : L = lay r := by rw [hL.out, ← HL.out, List.take_length]; rfl
      have E := Lib.hid e
      clear e
      go_wp2
      go_ret
      rw [← E.out]
      exact ⟨B, kc, rfl, hor, hkb.same hkr⟩
end Go.Proofs.Ytlmfpadlgdmflaa
