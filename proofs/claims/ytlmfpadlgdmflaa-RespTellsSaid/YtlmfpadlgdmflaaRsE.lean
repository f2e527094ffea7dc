/-
  The walks of Encode, EncodeResp.
-/
import Derived.Test.YtlmfpadlgdmflaaRsC
set_option linter.unusedSimpArgs false
set_option linter.unusedVariables false
namespace Go.Proofs.Ytlmfpadlgdmflaa
open Go.RowKit
set_option maxRecDepth 100000

def encR (r : Rs) : List UInt8 := if checkR r = 0 then lay r else []
def EncP (r : Rs) (w : World) (e : Ending) (w' : World) : Prop :=
  ∃ A n c, e = .returned (.tuple #[.slice A n c, .int .i64 (checkR r)]) ∧ Sl w' (fun g => w.heap.size ≤ g) 1 A n (bvs (encR r)) ∧ n ≤ c ∧ c ≤ 9223372036854775807 ∧ Pure w w'
theorem EncP.no {r : Rs} {w w' : World} {v : Int} (h : checkR r = v) (hv : v ≠ 0) (k : Pure w w') : EncP r w (.returned (.tuple #[.slice none 0 0, .int .i64 v])) w' := by
  refine ⟨none, 0, 0, by rw [h], ?_, Nat.le_refl _, by omega, k⟩
  have : encR r = [] := by unfold encR; rw [if_neg (by omega)]
  rw [this]
  exact Sl.nil _ _ _ _
theorem EncP.yes {r : Rs} {w w' : World} {F : Nat → Prop} {A : Option Addr} {c : Nat} (h : checkR r = 0) (ho : Own w' F 5 1 (.slice A (lay r).length c) (lay r).length (bvs (lay r))) (hF : ∀ b, F b → w.heap.size ≤ b) (k : Pure w w') : EncP r w (.returned (.tuple #[.slice A (lay r).length c, .int .i64 0])) w' := by
  have e : encR r = lay r := by unfold encR; rw [if_pos h]
  obtain ⟨A', c', hv, h1, h2, _, _⟩ := ho.form
  injection hv with a1 a2 a3
  subst a3
  refine ⟨A, _, c, by rw [h], by rw [e]; exact ho.sl.imp fun b _ hb => hF b hb, h1, by unfold maxLen at h2; omega, k⟩


set_option maxHeartbeats 1600000 in
theorem enc_any (r : Rs) (A : Option Addr) (c : Nat) (w : World) (hI : Sl w (fun _ => True) 4 A r.items.length (itc r.items)) (hf : r.Fits) :
    Calls Try.prog 22 #[.agg (rsa r A c)] w (EncP r w) := by
  have hb := Blk.new w 40 (rsa r A c)
  have hkb : Pure w (w.alloc (.cells (rsa r A c) 40)) := (Kept.refl _ _).alloc _
  have Hlay := Lib.hid (lay_any r A c)
  have Hc := Lib.hid (check_any r A c)
  have hc := hb.cell
  have HF := Lib.hid hf
  clear hf
  obtain ⟨v, hv⟩ : ∃ v, checkR r = v := ⟨_, rfl⟩
  unfold CheckP at Hc
  rw [hv] at Hc
  have HV := Lib.hid hv
  have hz : v = 0 → (lay r).length ≤ 1000000 ∧ r.card.size ≤ 20500 ∧ (∀ i ∈ r.items, i.uid.size ≤ 20500 ∧ i.card.size ≤ 20500 ∧ i.ver ≤ 9223372036854775807) ∧ r.items.length ≤ 1000000 := fun h0 => by
    obtain ⟨a1, a2, a3, a4, a5⟩ := check_zero (hv.trans h0)
    exact lay_ok HF.out a1 a3 a4
  have HZ := Lib.hid hz
  clear hz hv
  unfold rsa at hb hkb hc Hlay Hc ⊢
  by_cases h0 : v = 0
  · subst h0
    go_enter Try.func22, Try.ntmps22
    go_wp2_with fail
    refine (Hc.out _ (hI.kept hkb (fun _ _ _ h => h)) HF.out).mono ?_
    rintro e w1 ⟨rfl, hk1⟩
    have hk2 := hkb.same hk1
    have hc := (hb.kept hk1 (fun h => h)).cell
    obtain ⟨q1, q2, q3, q4⟩ := HZ.out (by trivial)
    have HL := Lib.hid (Hlay.out w1 (hI.kept hk2 (fun _ _ _ h => h)) q1 q2 q3 q4 HF.out.err HF.out.token HF.out.version HF.out.index)
    clear q1 q2 q3 q4
    go_wp2_with fail
    refine (HL.out).mono ?_
    rintro e w2 ⟨A2, k2, rfl, ho, hk3⟩
    go_wp2_with fail
    go_ret2
    have s2 := hk2.size
    exact EncP.yes HV.out ho (fun b hb => by omega) (hk2.same hk3)
  · have hne : (v != 0) = true := by simpa using h0
    have H0 := Lib.hid h0
    clear h0
    go_enter Try.func22, Try.ntmps22
    go_wp2_with fail
    refine (Hc.out _ (hI.kept hkb (fun _ _ _ h => h)) HF.out).mono ?_
    rintro e w1 ⟨rfl, hk1⟩
    go_wp2_with fail
    go_ret2
    exact EncP.no HV.out H0.out (hkb.same hk1)

set_option maxHeartbeats 1600000 in
theorem ref_enc (r : Rs) (A : Option Addr) (c : Nat) (w : World) (hI : Sl w (fun _ => True) 4 A r.items.length (itc r.items)) (hf : r.Fits) :
    Calls Try.prog 23 #[.agg (rsa r A c)] w (EncP r w) := by
  have hb := Blk.new w 40 (rsa r A c)
  have hkb : Pure w (w.alloc (.cells (rsa r A c) 40)) := (Kept.refl _ _).alloc _
  have Hlay := Lib.hid (ref_lay r A c)
  have Hc := Lib.hid (ref_check r A c)
  have hc := hb.cell
  have HF := Lib.hid hf
  clear hf
  obtain ⟨v, hv⟩ : ∃ v, checkR r = v := ⟨_, rfl⟩
  unfold CheckP at Hc
  rw [hv] at Hc
  have HV := Lib.hid hv
  have hz : v = 0 → (lay r).length ≤ 1000000 ∧ r.card.size ≤ 20500 ∧ (∀ i ∈ r.items, i.uid.size ≤ 20500 ∧ i.card.size ≤ 20500 ∧ i.ver ≤ 9223372036854775807) ∧ r.items.length ≤ 1000000 := fun h0 => by
    obtain ⟨a1, a2, a3, a4, a5⟩ := check_zero (hv.trans h0)
    exact lay_ok HF.out a1 a3 a4
  have HZ := Lib.hid hz
  clear hz hv
  unfold rsa at hb hkb hc Hlay Hc ⊢
  by_cases h0 : v = 0
  · subst h0
    go_enter Try.func23, Try.ntmps23
    go_wp2_with fail
    refine (Hc.out _ (hI.kept hkb (fun _ _ _ h => h)) HF.out).mono ?_
    rintro e w1 ⟨rfl, hk1⟩
    have hk2 := hkb.same hk1
    have hc := (hb.kept hk1 (fun h => h)).cell
    obtain ⟨q1, q2, q3, q4⟩ := HZ.out (by trivial)
    have HL := Lib.hid (Hlay.out w1 (hI.kept hk2 (fun _ _ _ h => h)) q1 q2 q3 q4 HF.out.err HF.out.token HF.out.version HF.out.index)
    clear q1 q2 q3 q4
    go_wp2_with fail
    refine (HL.out).mono ?_
    rintro e w2 ⟨A2, k2, rfl, ho, hk3⟩
    go_wp2_with fail
    go_ret2
    have s2 := hk2.size
    exact EncP.yes HV.out ho (fun b hb => by omega) (hk2.same hk3)
  · have hne : (v != 0) = true := by simpa using h0
    have H0 := Lib.hid h0
    clear h0
    go_enter Try.func23, Try.ntmps23
    go_wp2_with fail
    refine (Hc.out _ (hI.kept hkb (fun _ _ _ h => h)) HF.out).mono ?_
    rintro e w1 ⟨rfl, hk1⟩
    go_wp2_with fail
    go_ret2
    exact EncP.no HV.out H0.out (hkb.same hk1)
end Go.Proofs.Ytlmfpadlgdmflaa
