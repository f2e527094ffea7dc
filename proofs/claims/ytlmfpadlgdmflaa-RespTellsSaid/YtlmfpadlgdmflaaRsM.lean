/-
  The walk of the reference's layResp.
-/
import Derived.Test.YtlmfpadlgdmflaaRsL
import Derived.Test.YtlmfpadlgdmflaaRefW
import Derived.Test.YtlmfpadlgdmflaaMix
set_option linter.unusedSimpArgs false
set_option linter.unusedVariables false
namespace Go.Proofs.Ytlmfpadlgdmflaa
open Go.RowKit
set_option maxRecDepth 100000



theorem ref_nil (w : World) (n : Int) (hn : n ≤ 9223372036854775807) : Calls Try.prog 17 #[.slice none 0 0, .int .i64 n] w (OutPost w (Pk.num n)) :=
  ref_put none 0 0 [] w (fun _ => False) (Sl.nil _ _ _ _) (by omega) n hn
theorem ref_more {w : World} {F : Nat → Prop} {A : Option Addr} {c : Nat} {l : List UInt8} (h : Own w F 5 1 (.slice A l.length c) l.length (bvs l)) (hl : l.length ≤ 1048576) (n : Int) (hn : n ≤ 9223372036854775807) :
    Calls Try.prog 17 #[.slice A l.length c, .int .i64 n] w (OutPost w (l ++ Pk.num n)) := ref_put A l.length c l w F h.sl hl n hn
theorem reft_more {w : World} {F : Nat → Prop} {A : Option Addr} {c : Nat} {l : List UInt8} (h : Own w F 5 1 (.slice A l.length c) l.length (bvs l)) (hl : l.length ≤ 1048576) (s : ByteArray) (hs : s.size ≤ 1048576) :
    Calls Try.prog 18 #[.slice A l.length c, .string s] w (OutPost w (l ++ Pk.text s.data.toList)) := ref_text_put A l.length c l w F h.sl hl s hs

set_option maxHeartbeats 1600000 in
theorem ref_lay (r : Rs) (A : Option Addr) (c : Nat) (w : World) (hI : Sl w (fun _ => True) 4 A r.items.length (itc r.items)) (hlen : (lay r).length ≤ 1000000) (hcard : r.card.size ≤ 20500)
    (hits : ∀ i ∈ r.items, i.uid.size ≤ 20500 ∧ i.card.size ≤ 20500 ∧ i.ver ≤ 9223372036854775807) (hn : r.items.length ≤ 1000000) (e1 : r.err ≤ 9223372036854775807) (e2 : r.token ≤ 9223372036854775807) (e3 : r.version ≤ 9223372036854775807) (e4 : r.index ≤ 9223372036854775807) :
    Calls Try.prog 32 #[.agg (rsa r A c)] w (OutPost w (lay r)) := by
  have hb := Blk.new w 40 (rsa r A c)
  have hkb : Pure w (w.alloc (.cells (rsa r A c) 40)) := (Kept.refl _ _).alloc _
  have hb01 := bitI_01 r.more
  unfold rsa at hb hkb ⊢
  go_enter Try.func32, Try.ntmps32
  go_wp2_with fail
  generalize hW0 : w.alloc _ = W0 at hb hkb ⊢
  clear hW0
  have hC : ∀ x, Pure W0 x → ∀ i, x.cell? ⟨w.heap.size, i, none⟩ = _ := fun x hx => (hb.kept hx (fun h => h)).cell
  refine wp_region_mix (fun w' => Pure W0 w') [2, 5, 8, 11] (by kernel_rfl) (by kernel_rfl) (by kernel_rfl) (Kept.refl _ _).drew ?_
  have hp : Pure W0 W0.drew := (Kept.refl _ _).drew
  have s0 := hkb.size
  repeat (refine mix_step (fun K hK => ?_); go_simp; first | (refine ex_steady ?_ (fun w' hw' => ?_) ?_; rotate_left; (replace hw' : Pure _ w' := hw'; go_simp; first | done | rfl); (refine hK _ _ ?_; clear hK K)) | (refine hK _ _ ?_; clear hK K))
  refine mix_call (by decide) (fun K hK => ?_)
  go_simp
  unfold move
  go_simp
  refine move_enter ((ref_nil _ r.err e1).mono ?_)
  rintro e w1 ⟨A1, k1, rfl, ho, hk⟩
  have zL1 := Pk.num_length_le r.err
  generalize hL1 : Pk.num r.err = L1 at ho zL1 ⊢
  have HL1 := Lib.hid hL1
  have sL1 := hp.size
  replace hp := hp.same hk
  refine ⟨_, rfl, fun _ => True, ⟨hp, by simp⟩, hK _ _ _ ?_⟩
  clear hK K hk hL1
  repeat (refine mix_step (fun K hK => ?_); go_simp; first | (refine ex_steady ?_ (fun w' hw' => ?_) ?_; rotate_left; (replace hw' : Pure _ w' := hw'; go_simp; first | done | rfl); (refine hK _ _ ?_; clear hK K)) | (refine hK _ _ ?_; clear hK K))
  refine mix_call (by decide) (fun K hK => ?_)
  go_simp
  unfold move
  go_simp
  refine move_enter ((ref_more ho (by omega) r.token e2).mono ?_)
  rintro e w2 ⟨A2, k2, rfl, ho, hk⟩
  have zL2 := num_len (l := L1) r.token
  generalize hL2 : L1 ++ Pk.num r.token = L2 at ho zL2 ⊢
  have HL2 := Lib.hid hL2
  have sL2 := hp.size
  replace hp := hp.same hk
  refine ⟨_, rfl, fun _ => True, ⟨hp, by simp⟩, hK _ _ _ ?_⟩
  clear hK K hk hL2
  repeat (refine mix_step (fun K hK => ?_); go_simp; first | (refine ex_steady ?_ (fun w' hw' => ?_) ?_; rotate_left; (replace hw' : Pure _ w' := hw'; go_simp; first | done | rfl); (refine hK _ _ ?_; clear hK K)) | (refine hK _ _ ?_; clear hK K))
  refine mix_call (by decide) (fun K hK => ?_)
  go_simp
  unfold move
  go_simp
  refine move_enter ((ref_more ho (by omega) r.version e3).mono ?_)
  rintro e w3 ⟨A3, k3, rfl, ho, hk⟩
  have zL3 := num_len (l := L2) r.version
  generalize hL3 : L2 ++ Pk.num r.version = L3 at ho zL3 ⊢
  have HL3 := Lib.hid hL3
  have sL3 := hp.size
  replace hp := hp.same hk
  refine ⟨_, rfl, fun _ => True, ⟨hp, by simp⟩, hK _ _ _ ?_⟩
  clear hK K hk hL3
  repeat (refine mix_step (fun K hK => ?_); go_simp; first | (refine ex_steady ?_ (fun w' hw' => ?_) ?_; rotate_left; (replace hw' : Pure _ w' := hw'; go_simp; first | done | rfl); (refine hK _ _ ?_; clear hK K)) | (refine hK _ _ ?_; clear hK K))
  refine mix_call (by decide) (fun K hK => ?_)
  go_simp
  unfold move
  go_simp
  refine move_enter ((reft_more ho (by omega) r.card (by omega)).mono ?_)
  rintro e w4 ⟨A4, k4, rfl, ho, hk⟩
  have zL4 := text_len (l := L3) r.card
  generalize hL4 : L3 ++ Pk.text r.card.data.toList = L4 at ho zL4 ⊢
  have HL4 := Lib.hid hL4
  have sL4 := hp.size
  replace hp := hp.same hk
  refine ⟨_, rfl, fun _ => True, ⟨hp, by simp⟩, hK _ _ _ ?_⟩
  clear hK K hk hL4
  repeat (refine mix_step (fun K hK => ?_); go_simp; first | (refine ex_steady ?_ (fun w' hw' => ?_) ?_; rotate_left; (replace hw' : Pure _ w' := hw'; go_simp; first | done | rfl); (refine hK _ _ ?_; clear hK K)) | (refine hK _ _ ?_; clear hK K))
  refine mix_nil ?_
  intro _
  go_wp2_with fail
  replace hp := hp.drew
  have ho := ho.drew
  refine wp_region_mix (fun w' => Pure W0 w') [3, 6, 7, 11] (by kernel_rfl) (by kernel_rfl) (by kernel_rfl) hp ?_
  repeat (refine mix_step (fun K hK => ?_); go_simp; first | (refine ex_steady ?_ (fun w' hw' => ?_) ?_; rotate_left; (replace hw' : Pure _ w' := hw'; go_simp; first | done | rfl); (refine hK _ _ ?_; clear hK K)) | (refine hK _ _ ?_; clear hK K))
  refine mix_call (by decide) (fun K hK => ?_)
  go_simp
  unfold move
  go_simp
  refine move_enter ((ref_more ho (by omega) r.index e4).mono ?_)
  rintro e w5 ⟨A5, k5, rfl, ho, hk⟩
  have zL5 := num_len (l := L4) r.index
  generalize hL5 : L4 ++ Pk.num r.index = L5 at ho zL5 ⊢
  have HL5 := Lib.hid hL5
  have sL5 := hp.size
  replace hp := hp.same hk
  refine ⟨_, rfl, fun _ => True, ⟨hp, by simp⟩, hK _ _ _ ?_⟩
  clear hK K hk hL5
  repeat (refine mix_step (fun K hK => ?_); go_simp; first | (refine ex_steady ?_ (fun w' hw' => ?_) ?_; rotate_left; (replace hw' : Pure _ w' := hw'; go_simp; first | done | rfl); (refine hK _ _ ?_; clear hK K)) | (refine hK _ _ ?_; clear hK K))
  refine mix_call (by decide) (fun K hK => ?_)
  go_simp
  unfold move
  go_simp
  refine move_enter ((ref_bit r.more _).mono ?_)
  rintro e w' ⟨rfl, rfl⟩
  refine ⟨_, rfl, fun _ => True, ⟨hp, by simp⟩, hK _ _ _ ?_⟩
  clear hK K
  repeat (refine mix_step (fun K hK => ?_); go_simp; first | (refine ex_steady ?_ (fun w' hw' => ?_) ?_; rotate_left; (replace hw' : Pure _ w' := hw'; go_simp; first | done | rfl); (refine hK _ _ ?_; clear hK K)) | (refine hK _ _ ?_; clear hK K))
  refine mix_call (by decide) (fun K hK => ?_)
  go_simp
  unfold move
  go_simp
  refine move_enter ((ref_more ho (by omega) (bitI r.more) (by omega)).mono ?_)
  rintro e w6 ⟨A6, k6, rfl, ho, hk⟩
  have zL6 := num_len (l := L5) (bitI r.more)
  generalize hL6 : L5 ++ Pk.num (bitI r.more) = L6 at ho zL6 ⊢
  have HL6 := Lib.hid hL6
  have sL6 := hp.size
  replace hp := hp.same hk
  refine ⟨_, rfl, fun _ => True, ⟨hp, by simp⟩, hK _ _ _ ?_⟩
  clear hK K hk hL6
  repeat (refine mix_step (fun K hK => ?_); go_simp; first | (refine ex_steady ?_ (fun w' hw' => ?_) ?_; rotate_left; (replace hw' : Pure _ w' := hw'; go_simp; first | done | rfl); (refine hK _ _ ?_; clear hK K)) | (refine hK _ _ ?_; clear hK K))
  refine mix_call (by decide) (fun K hK => ?_)
  go_simp
  unfold move
  go_simp
  refine move_enter ((ref_more ho (by omega) (r.items.length : Int) (by omega)).mono ?_)
  rintro e w7 ⟨A7, k7, rfl, ho, hk⟩
  have zL7 := num_len (l := L6) (r.items.length : Int)
  generalize hL7 : L6 ++ Pk.num (r.items.length : Int) = L7 at ho zL7 ⊢
  have HL7 := Lib.hid hL7
  have sL7 := hp.size
  replace hp := hp.same hk
  refine ⟨_, rfl, fun _ => True, ⟨hp, by simp⟩, hK _ _ _ ?_⟩
  clear hK K hk hL7
  repeat (refine mix_step (fun K hK => ?_); go_simp; first | (refine ex_steady ?_ (fun w' hw' => ?_) ?_; rotate_left; (replace hw' : Pure _ w' := hw'; go_simp; first | done | rfl); (refine hK _ _ ?_; clear hK K)) | (refine hK _ _ ?_; clear hK K))
  refine mix_nil ?_
  intro _
  go_wp2_with fail
  have HL : Hid (layHead r = L7) := by
    rw [Hid, ← HL7.out, ← HL6.out, ← HL5.out, ← HL4.out, ← HL3.out, ← HL2.out, ← HL1.out]
    simp [layHead]
  have ho7 : Own w7 (fun g => w.heap.size ≤ g) 5 1 (.slice A7 L7.length k7) L7.length (bvs L7) := ho.imp fun b _ h => by omega
  have s8 := hp.size
  clear HL7 HL6 HL5 HL4 HL3 HL2 HL1 zL1 zL2 zL3 zL4 zL5 zL6 zL7 hb01 ho e1 e2 e3 e4 sL1 sL2 sL3 sL4 sL5 sL6 sL7
  have Hits := Lib.hid hits
  have Hlen := Lib.hid hlen
  have HC := Lib.hid hC
  clear hits hlen hC
  have hI7 := hI.kept (hkb.same hp) (fun _ _ _ h => h)
  go_loopw [3, 4] (fun v i wr => ∃ (k : Nat) (B : Option Addr) (kc : Nat) (L : List UInt8), k ≤ r.items.length ∧ i = .int .i64 k ∧ v = .slice B L.length kc ∧ Own wr (fun g => w.heap.size ≤ g) 5 1 (.slice B L.length kc) L.length (bvs L) ∧ Pure w7 wr ∧
      Hid (L = L7 ++ (r.items.take k).flatMap layIt)) (fun _ i _ => r.items.length - (intOf i).toNat)
  case atStart => exact ⟨0, A7, k7, L7, Nat.zero_le _, rfl, rfl, ho7, Kept.refl _ _, by simp [Hid]⟩
  case round =>
    obtain ⟨k, B, kc, L, hk, rfl, rfl, hor, hkr, hL⟩ := hrel
    have hLl : L.length ≤ 1000000 := by
      have := lay_take r k
      have h2 := Hlen.out
      rw [hL.out, ← HL.out]
      omega
    have hcw := HC.out wr (hp.same hkr)
    by_cases hlt : k < r.items.length
    · obtain ⟨b, o, rfl, _, hbl, _⟩ := hI.2 (by omega)
      obtain ⟨it, hit⟩ : ∃ it, r.items[k]? = some it := ⟨_, List.getElem?_eq_getElem hlt⟩
      have hitm := Hits.out it (List.mem_of_getElem? hit)
      have hir := hI7.kept hkr (fun _ _ _ h => h)
      obtain ⟨c0, c1, c2, c3⟩ := it_cells hir hit
      have Hit := Lib.hid hit
      have hb2 := Blk.new wr 52 #[.string it.uid, .int .i64 it.ver, .bool it.gone, .string it.card]
      have hkb2 : Pure wr (wr.alloc (.cells #[.string it.uid, .int .i64 it.ver, .bool it.gone, .string it.card] 52)) := (Kept.refl _ _).alloc _
      have hb01 := bitI_01 it.gone
      have hsz := hkr.size
      clear hir hit hI hI7
      go_wp2_with fail
      have ho := hor.alloc (.cells #[.string it.uid, .int .i64 it.ver, .bool it.gone, .string it.card] 52)
      generalize hW2 : wr.alloc _ = W2 at hb2 hkb2 ho ⊢
      clear hW2 c0 c1 c2 c3 hcw
      have hp2 := hp
      clear hp
      have hp : Pure W2 W2.drew := (Kept.refl _ _).drew
      have hC2 : ∀ x, Pure W2 x → ∀ i, x.cell? ⟨wr.heap.size, i, none⟩ = _ := fun x hx => (hb2.kept hx (fun h => h)).cell
      have ho := ho.drew
      have s9 := hkb2.size
      refine wp_region_mix (fun w' => Pure W2 w') [3, 6, 9, 10, 13] (by kernel_rfl) (by kernel_rfl) (by kernel_rfl) hp ?_
      repeat (refine mix_step (fun K hK => ?_); go_simp; first | (refine ex_steady ?_ (fun w' hw' => ?_) ?_; rotate_left; (replace hw' : Pure _ w' := hw'; go_simp; first | done | rfl); (refine hK _ _ ?_; clear hK K)) | (refine hK _ _ ?_; clear hK K))
      refine mix_call (by decide) (fun K hK => ?_)
      go_simp
      unfold move
      go_simp
      refine move_enter ((reft_more ho (by omega) it.uid (by omega)).mono ?_)
      rintro e v1 ⟨B1, q1, rfl, ho, hk⟩
      have zM1 := text_len (l := L) it.uid
      generalize hM1 : L ++ Pk.text it.uid.data.toList = M1 at ho zM1 ⊢
      have HM1 := Lib.hid hM1
      have sM1 := hp.size
      replace hp := hp.same hk
      refine ⟨_, rfl, fun _ => True, ⟨hp, by simp⟩, hK _ _ _ ?_⟩
      clear hK K hk hM1
      repeat (refine mix_step (fun K hK => ?_); go_simp; first | (refine ex_steady ?_ (fun w' hw' => ?_) ?_; rotate_left; (replace hw' : Pure _ w' := hw'; go_simp; first | done | rfl); (refine hK _ _ ?_; clear hK K)) | (refine hK _ _ ?_; clear hK K))
      refine mix_call (by decide) (fun K hK => ?_)
      go_simp
      unfold move
      go_simp
      refine move_enter ((ref_more ho (by omega) it.ver (by omega)).mono ?_)
      rintro e v2 ⟨B2, q2, rfl, ho, hk⟩
      have zM2 := num_len (l := M1) it.ver
      generalize hM2 : M1 ++ Pk.num it.ver = M2 at ho zM2 ⊢
      have HM2 := Lib.hid hM2
      have sM2 := hp.size
      replace hp := hp.same hk
      refine ⟨_, rfl, fun _ => True, ⟨hp, by simp⟩, hK _ _ _ ?_⟩
      clear hK K hk hM2
      repeat (refine mix_step (fun K hK => ?_); go_simp; first | (refine ex_steady ?_ (fun w' hw' => ?_) ?_; rotate_left; (replace hw' : Pure _ w' := hw'; go_simp; first | done | rfl); (refine hK _ _ ?_; clear hK K)) | (refine hK _ _ ?_; clear hK K))
      refine mix_call (by decide) (fun K hK => ?_)
      go_simp
      unfold move
      go_simp
      refine move_enter ((ref_bit it.gone _).mono ?_)
      rintro e w' ⟨rfl, rfl⟩
      refine ⟨_, rfl, fun _ => True, ⟨hp, by simp⟩, hK _ _ _ ?_⟩
      clear hK K
      repeat (refine mix_step (fun K hK => ?_); go_simp; first | (refine ex_steady ?_ (fun w' hw' => ?_) ?_; rotate_left; (replace hw' : Pure _ w' := hw'; go_simp; first | done | rfl); (refine hK _ _ ?_; clear hK K)) | (refine hK _ _ ?_; clear hK K))
      refine mix_call (by decide) (fun K hK => ?_)
      go_simp
      unfold move
      go_simp
      refine move_enter ((ref_more ho (by omega) (bitI it.gone) (by omega)).mono ?_)
      rintro e v3 ⟨B3, q3, rfl, ho, hk⟩
      have zM3 := num_len (l := M2) (bitI it.gone)
      generalize hM3 : M2 ++ Pk.num (bitI it.gone) = M3 at ho zM3 ⊢
      have HM3 := Lib.hid hM3
      have sM3 := hp.size
      replace hp := hp.same hk
      refine ⟨_, rfl, fun _ => True, ⟨hp, by simp⟩, hK _ _ _ ?_⟩
      clear hK K hk hM3
      repeat (refine mix_step (fun K hK => ?_); go_simp; first | (refine ex_steady ?_ (fun w' hw' => ?_) ?_; rotate_left; (replace hw' : Pure _ w' := hw'; go_simp; first | done | rfl); (refine hK _ _ ?_; clear hK K)) | (refine hK _ _ ?_; clear hK K))
      refine mix_call (by decide) (fun K hK => ?_)
      go_simp
      unfold move
      go_simp
      refine move_enter ((reft_more ho (by omega) it.card (by omega)).mono ?_)
      rintro e v4 ⟨B4, q4, rfl, ho, hk⟩
      have zM4 := text_len (l := M3) it.card
      generalize hM4 : M3 ++ Pk.text it.card.data.toList = M4 at ho zM4 ⊢
      have HM4 := Lib.hid hM4
      have sM4 := hp.size
      replace hp := hp.same hk
      refine ⟨_, rfl, fun _ => True, ⟨hp, by simp⟩, hK _ _ _ ?_⟩
      clear hK K hk hM4
      repeat (refine mix_step (fun K hK => ?_); go_simp; first | (refine ex_steady ?_ (fun w' hw' => ?_) ?_; rotate_left; (replace hw' : Pure _ w' := hw'; go_simp; first | done | rfl); (refine hK _ _ ?_; clear hK K)) | (refine hK _ _ ?_; clear hK K))
      refine mix_nil ?_
      intro _
      go_wp2_with fail
      go_roundw
      case measure => simp [intOf]; omega
      case rel =>
        refine ⟨k + 1, B4, q4, M4, by omega, by go_num, rfl, ho.imp fun b _ h => by omega, hkr.same (hkb2.same hp), ?_⟩
        rw [Hid, take_more _ _ _ Hit.out, ← HM4.out, ← HM3.out, ← HM2.out, ← HM1.out, hL.out]
        simp [layIt]
    · obtain rfl : k = r.items.length := by omega
      have e : L = lay r := by rw [hL.out, ← HL.out, List.take_length]; rfl
      have E := Lib.hid e
      clear e
      go_wp2
      go_ret
      rw [← E.out]
      exact ⟨B, kc, rfl, hor, (hkb.same hp).same hkr⟩
end Go.Proofs.Ytlmfpadlgdmflaa
