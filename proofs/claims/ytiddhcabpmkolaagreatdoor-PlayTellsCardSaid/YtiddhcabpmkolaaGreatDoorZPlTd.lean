/-
  play: the reference's lineOf walked. play: the reference's Show walked. play: the reference's split walked. play: the reference's actOf walked. play: the reference's Parse walked. play: PlayTells walked.
-/
import Derived.Test.YtiddhcabpmkolaaGreatDoorZPlTa
import Derived.Test.YtiddhcabpmkolaaGreatDoorZPlX
import Derived.Test.YtiddhcabpmkolaaGreatDoorZPlC
import Derived.Test.YtiddhcabpmkolaaGreatDoorZPlG
import Derived.Test.YtiddhcabpmkolaaGreatDoorZKa
set_option linter.unusedSimpArgs false
set_option linter.unusedVariables false
namespace Go.Proofs.YtiddhcabpmkolaaGreatDoor
open Go.RowKit
set_option maxRecDepth 100000
open Go
theorem rf_itoa (n : Int) (w : World) (h0 : 0 ≤ n) (h1 : n ≤ 999999) : Calls Tryz.prog 35 #[.int .i64 n] w fun e w' => e = .returned (.string ⟨(Lib.itoa n).toArray⟩) ∧ Pure w w' := by
  obtain ⟨m, rfl⟩ : ∃ m : Nat, n = (m : Int) := ⟨n.toNat, by omega⟩
  have e : Lib.itoa (m : Int) = Lib.decDigits m := by unfold Lib.itoa; rw [if_neg (by omega)]; simp
  rw [e]
  exact rf_dec m w (by omega)
theorem nnd {p : Prop} [Decidable p] (h : (!decide p) = false) : p := by simpa using h
theorem nd {p : Prop} [Decidable p] (h : p) : (!decide p) = false := by rw [decide_eq_true h]; rfl
def lineR (a : PAct) : ByteArray := if a.ok = true then ⟨a.head.toArray⟩ else ⟨#[]⟩
abbrev wrds8 : Array Value := #[.string ⟨#[]⟩, .string { data := #[111, 112, 101, 110] }, .string { data := #[115, 101, 110, 100] }, .string { data := #[104, 97, 108, 102] }, .string { data := #[112, 105, 99, 107] }, .string { data := #[116, 105, 99, 107] }, .string { data := #[116, 97, 107, 101] }, .string { data := #[115, 116, 111, 112] }]
set_option maxHeartbeats 12800000 in
theorem rf_line (a : PAct) (w : World) (hb : a.bytes.size ≤ 100000) : Calls Tryz.prog 20 #[a.val] w fun e w' => e = .returned (.tuple #[.string (lineR a), .bool a.ok]) ∧ Pure w w' := by
  obtain ⟨kd, cn, nn, bs⟩ := a
  have Hr := Lib.hid ((Run.start (F := fun _ => False) (w := w) (Ps := []) trivial).addBlk #[.int .i64 kd, .int .i64 cn, .int .i64 nn, .string bs] 33)
  obtain ⟨L, hL⟩ : ∃ L, lineR ⟨kd, cn, nn, bs⟩ = L := ⟨_, rfl⟩
  obtain ⟨r, hr⟩ : ∃ r, PAct.ok ⟨kd, cn, nn, bs⟩ = r := ⟨_, rfl⟩
  rw [hL, hr]
  have HL := Lib.hid hL
  have HR := Lib.hid hr
  clear hL hr
  refine calls_kn Tryz.func20 rfl Tryz.ntmps20 rfl ?_
  refine gg ?_
  refine KL.makes (v := .pointer (some ⟨World.heap w |>.size, 0, none⟩)) rfl rfl rfl (fun ρ hρ => by have e := hρ (.tmp 0) _ rfl; simp only [execOp, e]; go_simp; first | done | rfl) ?_
  generalize w.alloc _ = w1 at *
  generalize w.heap.size = g1 at *
  refine gg ?_
  refine KL.makes (v := .slice (some ⟨w1.heap.size, 0, none⟩) 8 8) (w' := w1.alloc (.cells wrds8 9)) rfl rfl rfl (fun ρ hρ => by have e0 := hρ (.const (.string ⟨#[]⟩)) _ rfl; have e1 := hρ (.const (.string { data := #[111, 112, 101, 110] })) _ rfl; have e2 := hρ (.const (.string { data := #[115, 101, 110, 100] })) _ rfl; have e3 := hρ (.const (.string { data := #[104, 97, 108, 102] })) _ rfl; have e4 := hρ (.const (.string { data := #[112, 105, 99, 107] })) _ rfl; have e5 := hρ (.const (.string { data := #[116, 105, 99, 107] })) _ rfl; have e6 := hρ (.const (.string { data := #[116, 97, 107, 101] })) _ rfl; have e7 := hρ (.const (.string { data := #[115, 116, 111, 112] })) _ rfl; simp only [execOp]; go_simp; first | done | rfl) ?_
  have hsl := Sl.lit w1 wrds8 9 1 8 wrds8.toList rfl rfl
  have Hr' := Lib.hid (Hr.out.add ((Kept.refl _ _).alloc (.cells wrds8 9)) (Q := slC 1 (some ⟨w1.heap.size, 0, none⟩) 8 wrds8.toList) (hsl.imp (fun b _ e => by have e : b = w1.heap.size := e; omega)))
  clear Hr
  have Hr := Hr'
  clear Hr'
  clear hsl
  generalize w1.alloc _ = w2 at *
  generalize w1.heap.size = g2 at *
  have hcl := (Hr.out.blk 1 rfl).cell
  by_cases hok : PAct.Ok ⟨kd, cn, nn, bs⟩
  · have hrt : r = true := by rw [← HR.out]; exact ok_iff.2 hok
    subst hrt
    have hLt : L = ⟨(PAct.head ⟨kd, cn, nn, bs⟩).toArray⟩ := by rw [← HL.out]; exact if_pos HR.out
    have HL2 := Lib.hid hLt
    have Hok := Lib.hid hok
    have q1 : 1 ≤ kd := hok.k1
    have q7 : kd ≤ 7 := hok.k7
    have qc0 : 0 ≤ cn := hok.c0
    have qc1 : cn ≤ 999999 := hok.c1
    have qn0 : 0 ≤ nn := hok.n0
    have qn1 : nn ≤ 999999 := hok.n1
    have hcc : plConn kd = true ∨ cn = 0 := hok.cc
    have hnn : plNum kd = true ∨ nn = 0 := hok.nn
    have hbb : kd = 2 ∨ bs = ⟨#[]⟩ := hok.bb
    have c0 : decide (cn < (0 : Int)) = false := decide_eq_false (by omega)
    have c1 : decide ((999999 : Int) < cn) = false := decide_eq_false (by omega)
    have n0 : decide (nn < (0 : Int)) = false := decide_eq_false (by omega)
    have n1 : decide ((999999 : Int) < nn) = false := decide_eq_false (by omega)
    have hsx := (Hr.out.get (P := slC 1 (some ⟨g2, 0, none⟩) 8 wrds8.toList) 0 rfl)
    obtain ⟨b0, o0, hA0, _, _, hx⟩ := hsx.2 (by omega)
    injection hA0 with hA0
    injection hA0 with hb0 ho0
    subst hb0 ho0
    clear hsx hLt HL
    have Hx := Lib.hid hx
    clear hx
    have Hfin : Hid (∀ X, kb X = PAct.head ⟨kd, cn, nn, bs⟩ → Ending.returned (.tuple #[.string X, .bool true]) = Ending.returned (.tuple #[.string L, .bool true])) := Lib.hid (fun X h => by rw [HL2.out, ← h, bs_kb])
    have hbs : bs.size ≤ 100000 := hb
    clear HR hok Hok HL2 hb
    rcases (show kd = 1 ∨ kd = 2 ∨ kd = 3 ∨ kd = 4 ∨ kd = 5 ∨ kd = 6 ∨ kd = 7 by omega) with rfl | rfl | rfl | rfl | rfl | rfl | rfl
    all_goals
      clear q1 q7
      simp (config := { decide := true }) only [plConn, plNum, false_or, true_or] at hcc hnn hbb
      replace hcc := nd hcc
      replace hnn := nd hnn
      replace hbb := nd hbb
      refine gg ?_
    · have hx1 : w2.cell? ⟨g2, 1, none⟩ = some (.string { data := #[111, 112, 101, 110] }) := Hx.out 1 (by decide)
      refine gg ?_
      refine KR.fin2 Tryz.results20 rfl rfl ⟨Hfin.out _ (by (try simp only [kb_app, kb_bs, hexB]); simp (config := { decide := true }) [PAct.head, plWord, plConn, plNum, kb]), Hr.out.kept⟩
    · have hx1 : w2.cell? ⟨g2, 2, none⟩ = some (.string { data := #[115, 101, 110, 100] }) := Hx.out 2 (by decide)
      refine gg ?_
      refine KL.call rfl rfl rfl rfl rfl (by go_simp) (rf_itoa cn _ qc0 qc1) ?_
      have hI1 : (⟨(Lib.itoa cn).toArray⟩ : ByteArray).size ≤ 21 := by rw [bs_size]; exact Lib.itoa_length_le _ (by omega) (by omega)
      rintro e w3 ⟨rfl, hk⟩
      refine ⟨_, rfl, ?_⟩
      have Hr' := Lib.hid (Hr.out.pure hk)
      clear Hr
      have Hr := Hr'
      clear Hr'
      have hcl := (Hr.out.blk 1 rfl).cell
      clear hk
      refine gg ?_
      refine kp ?_ (oCat (hb := by have z1 : (⟨#[32]⟩ : ByteArray).size = 1 := rfl; (try simp only [bs_app_size]); omega))
      refine gg ?_
      refine kp ?_ (oCat (hb := by have z1 : (⟨#[32]⟩ : ByteArray).size = 1 := rfl; have z2 : ({ data := #[115, 101, 110, 100] } : ByteArray).size = 4 := rfl; (try simp only [bs_app_size]); omega))
      refine gg ?_
      refine KL.call rfl rfl rfl rfl rfl (by go_simp) (rf_hex bs _ hbs) ?_
      have hI2 := hexB_size bs
      rintro e w4 ⟨rfl, hk⟩
      refine ⟨_, rfl, ?_⟩
      have Hr' := Lib.hid (Hr.out.pure hk)
      clear Hr
      have Hr := Hr'
      clear Hr'
      have hcl := (Hr.out.blk 1 rfl).cell
      clear hk
      refine gg ?_
      refine kp ?_ (oCat (hb := by have z1 : (⟨#[32]⟩ : ByteArray).size = 1 := rfl; (try simp only [bs_app_size]); omega))
      refine gg ?_
      refine kp ?_ (oCat (hb := by have z1 : (⟨#[32]⟩ : ByteArray).size = 1 := rfl; have z2 : ({ data := #[115, 101, 110, 100] } : ByteArray).size = 4 := rfl; (try simp only [bs_app_size]); omega))
      refine gg ?_
      refine KR.fin2 Tryz.results20 rfl rfl ⟨Hfin.out _ (by (try simp only [kb_app, kb_bs, hexB]); simp (config := { decide := true }) [PAct.head, plWord, plConn, plNum, kb]), Hr.out.kept⟩
    · have hx1 : w2.cell? ⟨g2, 3, none⟩ = some (.string { data := #[104, 97, 108, 102] }) := Hx.out 3 (by decide)
      refine gg ?_
      refine KL.call rfl rfl rfl rfl rfl (by go_simp) (rf_itoa cn _ qc0 qc1) ?_
      have hI1 : (⟨(Lib.itoa cn).toArray⟩ : ByteArray).size ≤ 21 := by rw [bs_size]; exact Lib.itoa_length_le _ (by omega) (by omega)
      rintro e w3 ⟨rfl, hk⟩
      refine ⟨_, rfl, ?_⟩
      have Hr' := Lib.hid (Hr.out.pure hk)
      clear Hr
      have Hr := Hr'
      clear Hr'
      have hcl := (Hr.out.blk 1 rfl).cell
      clear hk
      refine gg ?_
      refine kp ?_ (oCat (hb := by have z1 : (⟨#[32]⟩ : ByteArray).size = 1 := rfl; (try simp only [bs_app_size]); omega))
      refine gg ?_
      refine kp ?_ (oCat (hb := by have z1 : (⟨#[32]⟩ : ByteArray).size = 1 := rfl; have z2 : ({ data := #[104, 97, 108, 102] } : ByteArray).size = 4 := rfl; (try simp only [bs_app_size]); omega))
      refine gg ?_
      refine KR.fin2 Tryz.results20 rfl rfl ⟨Hfin.out _ (by (try simp only [kb_app, kb_bs, hexB]); simp (config := { decide := true }) [PAct.head, plWord, plConn, plNum, kb]), Hr.out.kept⟩
    · have hx1 : w2.cell? ⟨g2, 4, none⟩ = some (.string { data := #[112, 105, 99, 107] }) := Hx.out 4 (by decide)
      refine gg ?_
      refine KL.call rfl rfl rfl rfl rfl (by go_simp) (rf_itoa cn _ qc0 qc1) ?_
      have hI1 : (⟨(Lib.itoa cn).toArray⟩ : ByteArray).size ≤ 21 := by rw [bs_size]; exact Lib.itoa_length_le _ (by omega) (by omega)
      rintro e w3 ⟨rfl, hk⟩
      refine ⟨_, rfl, ?_⟩
      have Hr' := Lib.hid (Hr.out.pure hk)
      clear Hr
      have Hr := Hr'
      clear Hr'
      have hcl := (Hr.out.blk 1 rfl).cell
      clear hk
      refine gg ?_
      refine kp ?_ (oCat (hb := by have z1 : (⟨#[32]⟩ : ByteArray).size = 1 := rfl; (try simp only [bs_app_size]); omega))
      refine gg ?_
      refine kp ?_ (oCat (hb := by have z1 : (⟨#[32]⟩ : ByteArray).size = 1 := rfl; have z2 : ({ data := #[112, 105, 99, 107] } : ByteArray).size = 4 := rfl; (try simp only [bs_app_size]); omega))
      refine gg ?_
      refine KR.fin2 Tryz.results20 rfl rfl ⟨Hfin.out _ (by (try simp only [kb_app, kb_bs, hexB]); simp (config := { decide := true }) [PAct.head, plWord, plConn, plNum, kb]), Hr.out.kept⟩
    · have hx1 : w2.cell? ⟨g2, 5, none⟩ = some (.string { data := #[116, 105, 99, 107] }) := Hx.out 5 (by decide)
      refine gg ?_
      refine KL.call rfl rfl rfl rfl rfl (by go_simp) (rf_itoa nn _ qn0 qn1) ?_
      have hI1 : (⟨(Lib.itoa nn).toArray⟩ : ByteArray).size ≤ 21 := by rw [bs_size]; exact Lib.itoa_length_le _ (by omega) (by omega)
      rintro e w3 ⟨rfl, hk⟩
      refine ⟨_, rfl, ?_⟩
      have Hr' := Lib.hid (Hr.out.pure hk)
      clear Hr
      have Hr := Hr'
      clear Hr'
      have hcl := (Hr.out.blk 1 rfl).cell
      clear hk
      refine gg ?_
      refine kp ?_ (oCat (hb := by have z1 : (⟨#[32]⟩ : ByteArray).size = 1 := rfl; (try simp only [bs_app_size]); omega))
      refine gg ?_
      refine kp ?_ (oCat (hb := by have z1 : (⟨#[32]⟩ : ByteArray).size = 1 := rfl; have z2 : ({ data := #[116, 105, 99, 107] } : ByteArray).size = 4 := rfl; (try simp only [bs_app_size]); omega))
      refine gg ?_
      refine KR.fin2 Tryz.results20 rfl rfl ⟨Hfin.out _ (by (try simp only [kb_app, kb_bs, hexB]); simp (config := { decide := true }) [PAct.head, plWord, plConn, plNum, kb]), Hr.out.kept⟩
    · have hx1 : w2.cell? ⟨g2, 6, none⟩ = some (.string { data := #[116, 97, 107, 101] }) := Hx.out 6 (by decide)
      refine gg ?_
      refine KL.call rfl rfl rfl rfl rfl (by go_simp) (rf_itoa cn _ qc0 qc1) ?_
      have hI1 : (⟨(Lib.itoa cn).toArray⟩ : ByteArray).size ≤ 21 := by rw [bs_size]; exact Lib.itoa_length_le _ (by omega) (by omega)
      rintro e w3 ⟨rfl, hk⟩
      refine ⟨_, rfl, ?_⟩
      have Hr' := Lib.hid (Hr.out.pure hk)
      clear Hr
      have Hr := Hr'
      clear Hr'
      have hcl := (Hr.out.blk 1 rfl).cell
      clear hk
      refine gg ?_
      refine kp ?_ (oCat (hb := by have z1 : (⟨#[32]⟩ : ByteArray).size = 1 := rfl; (try simp only [bs_app_size]); omega))
      refine gg ?_
      refine kp ?_ (oCat (hb := by have z1 : (⟨#[32]⟩ : ByteArray).size = 1 := rfl; have z2 : ({ data := #[116, 97, 107, 101] } : ByteArray).size = 4 := rfl; (try simp only [bs_app_size]); omega))
      refine gg ?_
      refine KL.call rfl rfl rfl rfl rfl (by go_simp) (rf_itoa nn _ qn0 qn1) ?_
      have hI2 : (⟨(Lib.itoa nn).toArray⟩ : ByteArray).size ≤ 21 := by rw [bs_size]; exact Lib.itoa_length_le _ (by omega) (by omega)
      rintro e w4 ⟨rfl, hk⟩
      refine ⟨_, rfl, ?_⟩
      have Hr' := Lib.hid (Hr.out.pure hk)
      clear Hr
      have Hr := Hr'
      clear Hr'
      have hcl := (Hr.out.blk 1 rfl).cell
      clear hk
      refine gg ?_
      refine kp ?_ (oCat (hb := by have z1 : (⟨#[32]⟩ : ByteArray).size = 1 := rfl; (try simp only [bs_app_size]); omega))
      refine gg ?_
      refine kp ?_ (oCat (hb := by have z1 : (⟨#[32]⟩ : ByteArray).size = 1 := rfl; have z2 : ({ data := #[116, 97, 107, 101] } : ByteArray).size = 4 := rfl; (try simp only [bs_app_size]); omega))
      refine gg ?_
      refine KR.fin2 Tryz.results20 rfl rfl ⟨Hfin.out _ (by (try simp only [kb_app, kb_bs, hexB]); simp (config := { decide := true }) [PAct.head, plWord, plConn, plNum, kb]), Hr.out.kept⟩
    · have hx1 : w2.cell? ⟨g2, 7, none⟩ = some (.string { data := #[115, 116, 111, 112] }) := Hx.out 7 (by decide)
      refine gg ?_
      refine KR.fin2 Tryz.results20 rfl rfl ⟨Hfin.out _ (by (try simp only [kb_app, kb_bs, hexB]); simp (config := { decide := true }) [PAct.head, plWord, plConn, plNum, kb]), Hr.out.kept⟩
  · have hrt : r = false := by
      rw [← HR.out]
      cases h : PAct.ok ⟨kd, cn, nn, bs⟩ with
      | false => rfl
      | true => exact absurd (ok_iff.1 h) hok
    subst hrt
    have hLt : L = ⟨#[]⟩ := by rw [← HL.out]; exact if_neg (by rw [HR.out]; exact Bool.false_ne_true)
    subst hLt
    have Hno : Hid (∀ {p : Prop}, PAct.Ok ⟨kd, cn, nn, bs⟩ → p) := Lib.hid (fun h => absurd h hok)
    clear hok HL HR
    obtain ⟨b1, hb1⟩ : ∃ t, decide (cn < (0 : Int)) = t := ⟨_, rfl⟩
    obtain ⟨b2, hb2⟩ : ∃ t, decide ((999999 : Int) < cn) = t := ⟨_, rfl⟩
    obtain ⟨b3, hb3⟩ : ∃ t, decide (nn < (0 : Int)) = t := ⟨_, rfl⟩
    obtain ⟨b4, hb4⟩ : ∃ t, decide ((999999 : Int) < nn) = t := ⟨_, rfl⟩
    obtain ⟨bc, hbc⟩ : ∃ t, (!decide (cn = (0 : Int))) = t := ⟨_, rfl⟩
    obtain ⟨bn, hbn⟩ : ∃ t, (!decide (nn = (0 : Int))) = t := ⟨_, rfl⟩
    obtain ⟨bb, hbb⟩ : ∃ t, (!decide (bs = ({ data := #[] } : ByteArray))) = t := ⟨_, rfl⟩
    by_cases hkk : 1 ≤ kd ∧ kd ≤ 7
    · rcases (show kd = 1 ∨ kd = 2 ∨ kd = 3 ∨ kd = 4 ∨ kd = 5 ∨ kd = 6 ∨ kd = 7 by omega) with rfl | rfl | rfl | rfl | rfl | rfl | rfl
      all_goals clear hkk
      · refine gg ?_
        cases b1
        case true =>
          refine gg ?_
          refine KR.fin2 Tryz.results20 rfl rfl ⟨rfl, Hr.out.kept⟩
        refine gg ?_
        cases b2
        case true =>
          refine gg ?_
          refine KR.fin2 Tryz.results20 rfl rfl ⟨rfl, Hr.out.kept⟩
        refine gg ?_
        cases b3
        case true =>
          refine gg ?_
          refine KR.fin2 Tryz.results20 rfl rfl ⟨rfl, Hr.out.kept⟩
        refine gg ?_
        cases b4
        case true =>
          refine gg ?_
          refine KR.fin2 Tryz.results20 rfl rfl ⟨rfl, Hr.out.kept⟩
        refine gg ?_
        cases bc
        case true =>
          refine gg ?_
          refine KR.fin2 Tryz.results20 rfl rfl ⟨rfl, Hr.out.kept⟩
        refine gg ?_
        cases bn
        case true =>
          refine gg ?_
          refine KR.fin2 Tryz.results20 rfl rfl ⟨rfl, Hr.out.kept⟩
        refine gg ?_
        cases bb
        case true =>
          refine gg ?_
          refine KR.fin2 Tryz.results20 rfl rfl ⟨rfl, Hr.out.kept⟩
        exact Hno.out ⟨by dsimp only; omega, by dsimp only; omega, by have := of_decide_eq_false hb1; show 0 ≤ cn; omega, by have := of_decide_eq_false hb2; show cn ≤ 999999; omega, by have := of_decide_eq_false hb3; show 0 ≤ nn; omega, by have := of_decide_eq_false hb4; show nn ≤ 999999; omega, by first | exact Or.inl rfl | exact Or.inr (nnd hbc), by first | exact Or.inl rfl | exact Or.inr (nnd hbn), by first | exact Or.inl rfl | exact Or.inr (nnd hbb)⟩
      · refine gg ?_
        cases b1
        case true =>
          refine gg ?_
          refine KR.fin2 Tryz.results20 rfl rfl ⟨rfl, Hr.out.kept⟩
        refine gg ?_
        cases b2
        case true =>
          refine gg ?_
          refine KR.fin2 Tryz.results20 rfl rfl ⟨rfl, Hr.out.kept⟩
        refine gg ?_
        cases b3
        case true =>
          refine gg ?_
          refine KR.fin2 Tryz.results20 rfl rfl ⟨rfl, Hr.out.kept⟩
        refine gg ?_
        cases b4
        case true =>
          refine gg ?_
          refine KR.fin2 Tryz.results20 rfl rfl ⟨rfl, Hr.out.kept⟩
        refine gg ?_
        cases bn
        case true =>
          refine gg ?_
          refine KR.fin2 Tryz.results20 rfl rfl ⟨rfl, Hr.out.kept⟩
        exact Hno.out ⟨by dsimp only; omega, by dsimp only; omega, by have := of_decide_eq_false hb1; show 0 ≤ cn; omega, by have := of_decide_eq_false hb2; show cn ≤ 999999; omega, by have := of_decide_eq_false hb3; show 0 ≤ nn; omega, by have := of_decide_eq_false hb4; show nn ≤ 999999; omega, by first | exact Or.inl rfl | exact Or.inr (nnd hbc), by first | exact Or.inl rfl | exact Or.inr (nnd hbn), by first | exact Or.inl rfl | exact Or.inr (nnd hbb)⟩
      · refine gg ?_
        cases b1
        case true =>
          refine gg ?_
          refine KR.fin2 Tryz.results20 rfl rfl ⟨rfl, Hr.out.kept⟩
        refine gg ?_
        cases b2
        case true =>
          refine gg ?_
          refine KR.fin2 Tryz.results20 rfl rfl ⟨rfl, Hr.out.kept⟩
        refine gg ?_
        cases b3
        case true =>
          refine gg ?_
          refine KR.fin2 Tryz.results20 rfl rfl ⟨rfl, Hr.out.kept⟩
        refine gg ?_
        cases b4
        case true =>
          refine gg ?_
          refine KR.fin2 Tryz.results20 rfl rfl ⟨rfl, Hr.out.kept⟩
        refine gg ?_
        cases bn
        case true =>
          refine gg ?_
          refine KR.fin2 Tryz.results20 rfl rfl ⟨rfl, Hr.out.kept⟩
        refine gg ?_
        cases bb
        case true =>
          refine gg ?_
          refine KR.fin2 Tryz.results20 rfl rfl ⟨rfl, Hr.out.kept⟩
        exact Hno.out ⟨by dsimp only; omega, by dsimp only; omega, by have := of_decide_eq_false hb1; show 0 ≤ cn; omega, by have := of_decide_eq_false hb2; show cn ≤ 999999; omega, by have := of_decide_eq_false hb3; show 0 ≤ nn; omega, by have := of_decide_eq_false hb4; show nn ≤ 999999; omega, by first | exact Or.inl rfl | exact Or.inr (nnd hbc), by first | exact Or.inl rfl | exact Or.inr (nnd hbn), by first | exact Or.inl rfl | exact Or.inr (nnd hbb)⟩
      · refine gg ?_
        cases b1
        case true =>
          refine gg ?_
          refine KR.fin2 Tryz.results20 rfl rfl ⟨rfl, Hr.out.kept⟩
        refine gg ?_
        cases b2
        case true =>
          refine gg ?_
          refine KR.fin2 Tryz.results20 rfl rfl ⟨rfl, Hr.out.kept⟩
        refine gg ?_
        cases b3
        case true =>
          refine gg ?_
          refine KR.fin2 Tryz.results20 rfl rfl ⟨rfl, Hr.out.kept⟩
        refine gg ?_
        cases b4
        case true =>
          refine gg ?_
          refine KR.fin2 Tryz.results20 rfl rfl ⟨rfl, Hr.out.kept⟩
        refine gg ?_
        cases bn
        case true =>
          refine gg ?_
          refine KR.fin2 Tryz.results20 rfl rfl ⟨rfl, Hr.out.kept⟩
        refine gg ?_
        cases bb
        case true =>
          refine gg ?_
          refine KR.fin2 Tryz.results20 rfl rfl ⟨rfl, Hr.out.kept⟩
        exact Hno.out ⟨by dsimp only; omega, by dsimp only; omega, by have := of_decide_eq_false hb1; show 0 ≤ cn; omega, by have := of_decide_eq_false hb2; show cn ≤ 999999; omega, by have := of_decide_eq_false hb3; show 0 ≤ nn; omega, by have := of_decide_eq_false hb4; show nn ≤ 999999; omega, by first | exact Or.inl rfl | exact Or.inr (nnd hbc), by first | exact Or.inl rfl | exact Or.inr (nnd hbn), by first | exact Or.inl rfl | exact Or.inr (nnd hbb)⟩
      · refine gg ?_
        cases b1
        case true =>
          refine gg ?_
          refine KR.fin2 Tryz.results20 rfl rfl ⟨rfl, Hr.out.kept⟩
        refine gg ?_
        cases b2
        case true =>
          refine gg ?_
          refine KR.fin2 Tryz.results20 rfl rfl ⟨rfl, Hr.out.kept⟩
        refine gg ?_
        cases b3
        case true =>
          refine gg ?_
          refine KR.fin2 Tryz.results20 rfl rfl ⟨rfl, Hr.out.kept⟩
        refine gg ?_
        cases b4
        case true =>
          refine gg ?_
          refine KR.fin2 Tryz.results20 rfl rfl ⟨rfl, Hr.out.kept⟩
        refine gg ?_
        cases bc
        case true =>
          refine gg ?_
          refine KR.fin2 Tryz.results20 rfl rfl ⟨rfl, Hr.out.kept⟩
        refine gg ?_
        cases bb
        case true =>
          refine gg ?_
          refine KR.fin2 Tryz.results20 rfl rfl ⟨rfl, Hr.out.kept⟩
        exact Hno.out ⟨by dsimp only; omega, by dsimp only; omega, by have := of_decide_eq_false hb1; show 0 ≤ cn; omega, by have := of_decide_eq_false hb2; show cn ≤ 999999; omega, by have := of_decide_eq_false hb3; show 0 ≤ nn; omega, by have := of_decide_eq_false hb4; show nn ≤ 999999; omega, by first | exact Or.inl rfl | exact Or.inr (nnd hbc), by first | exact Or.inl rfl | exact Or.inr (nnd hbn), by first | exact Or.inl rfl | exact Or.inr (nnd hbb)⟩
      · refine gg ?_
        cases b1
        case true =>
          refine gg ?_
          refine KR.fin2 Tryz.results20 rfl rfl ⟨rfl, Hr.out.kept⟩
        refine gg ?_
        cases b2
        case true =>
          refine gg ?_
          refine KR.fin2 Tryz.results20 rfl rfl ⟨rfl, Hr.out.kept⟩
        refine gg ?_
        cases b3
        case true =>
          refine gg ?_
          refine KR.fin2 Tryz.results20 rfl rfl ⟨rfl, Hr.out.kept⟩
        refine gg ?_
        cases b4
        case true =>
          refine gg ?_
          refine KR.fin2 Tryz.results20 rfl rfl ⟨rfl, Hr.out.kept⟩
        refine gg ?_
        cases bb
        case true =>
          refine gg ?_
          refine KR.fin2 Tryz.results20 rfl rfl ⟨rfl, Hr.out.kept⟩
        exact Hno.out ⟨by dsimp only; omega, by dsimp only; omega, by have := of_decide_eq_false hb1; show 0 ≤ cn; omega, by have := of_decide_eq_false hb2; show cn ≤ 999999; omega, by have := of_decide_eq_false hb3; show 0 ≤ nn; omega, by have := of_decide_eq_false hb4; show nn ≤ 999999; omega, by first | exact Or.inl rfl | exact Or.inr (nnd hbc), by first | exact Or.inl rfl | exact Or.inr (nnd hbn), by first | exact Or.inl rfl | exact Or.inr (nnd hbb)⟩
      · refine gg ?_
        cases b1
        case true =>
          refine gg ?_
          refine KR.fin2 Tryz.results20 rfl rfl ⟨rfl, Hr.out.kept⟩
        refine gg ?_
        cases b2
        case true =>
          refine gg ?_
          refine KR.fin2 Tryz.results20 rfl rfl ⟨rfl, Hr.out.kept⟩
        refine gg ?_
        cases b3
        case true =>
          refine gg ?_
          refine KR.fin2 Tryz.results20 rfl rfl ⟨rfl, Hr.out.kept⟩
        refine gg ?_
        cases b4
        case true =>
          refine gg ?_
          refine KR.fin2 Tryz.results20 rfl rfl ⟨rfl, Hr.out.kept⟩
        refine gg ?_
        cases bc
        case true =>
          refine gg ?_
          refine KR.fin2 Tryz.results20 rfl rfl ⟨rfl, Hr.out.kept⟩
        refine gg ?_
        cases bn
        case true =>
          refine gg ?_
          refine KR.fin2 Tryz.results20 rfl rfl ⟨rfl, Hr.out.kept⟩
        refine gg ?_
        cases bb
        case true =>
          refine gg ?_
          refine KR.fin2 Tryz.results20 rfl rfl ⟨rfl, Hr.out.kept⟩
        exact Hno.out ⟨by dsimp only; omega, by dsimp only; omega, by have := of_decide_eq_false hb1; show 0 ≤ cn; omega, by have := of_decide_eq_false hb2; show cn ≤ 999999; omega, by have := of_decide_eq_false hb3; show 0 ≤ nn; omega, by have := of_decide_eq_false hb4; show nn ≤ 999999; omega, by first | exact Or.inl rfl | exact Or.inr (nnd hbc), by first | exact Or.inl rfl | exact Or.inr (nnd hbn), by first | exact Or.inl rfl | exact Or.inr (nnd hbb)⟩
    · by_cases hk1 : 1 ≤ kd
      · have h8 : decide (kd < (1 : Int)) = false := decide_eq_false (by omega)
        have h9 : decide ((7 : Int) < kd) = true := decide_eq_true (by omega)
        refine gg ?_
        refine KR.fin2 Tryz.results20 rfl rfl ⟨rfl, Hr.out.kept⟩
      · have h8 : decide (kd < (1 : Int)) = true := decide_eq_true (by omega)
        refine gg ?_
        refine KR.fin2 Tryz.results20 rfl rfl ⟨rfl, Hr.out.kept⟩
end Go.Proofs.YtiddhcabpmkolaaGreatDoor
set_option linter.unusedSimpArgs false
set_option linter.unusedVariables false
namespace Go.Proofs.YtiddhcabpmkolaaGreatDoor
open Go.RowKit
set_option maxRecDepth 100000
open Go
set_option maxHeartbeats 3200000 in
theorem rf_show (l : List PAct) (A : Option Addr) (c : Nat) (w : World) (hs : Sl w (fun _ => True) 4 A l.length (pac l)) (hb : ∀ a ∈ l, a.bytes.size ≤ 100000) (hz : (shw l).length ≤ 1000000) :
    Calls Tryz.prog 10 #[.slice A l.length c] w fun e w' => e = .returned (.tuple #[.string (showB l).1, .int .i64 (showB l).2]) ∧ Pure w w' := by
  have Hr := Lib.hid ((Run.start (F := fun _ => False) (w := w) (Ps := []) trivial).addNil 5 1)
  have Hs := Lib.hid hs
  have Hb := Lib.hid hb
  obtain ⟨n, hn⟩ : ∃ n, l.length = n := ⟨_, rfl⟩
  have Hn := Lib.hid hn
  have hn6 : n ≤ 1000000 := by have := shw_ge l; omega
  rw [hn]
  obtain ⟨R, hR⟩ : ∃ R, showB l = R := ⟨_, rfl⟩
  rw [hR]
  have HR := Lib.hid hR
  clear hs hb hn hR
  refine calls_kn Tryz.func10 rfl Tryz.ntmps10 rfl ?_
  refine gg ?_
  refine KW.loop (ι := Nat × (Option Addr × Nat)) (fun p => [(0, .slice A n c), (4, .slice p.2.1 (shw (l.take p.1)).length p.2.2), (5, .int .i64 (p.1 : Int))]) (fun p w' => p.1 ≤ n ∧ (∀ a ∈ l.take p.1, a.ok = true) ∧ Run w (fun _ => False) w' [ownC 5 1 (.slice p.2.1 (shw (l.take p.1)).length p.2.2) (shw (l.take p.1)).length (bvs (shw (l.take p.1)))]) (fun p => n - p.1) (0, (none, 0)) ⟨Nat.zero_le _, (fun a h => by cases h), Hr.out⟩ (kle_ok (by repeat' (first | exact trivial | refine ⟨rfl, ?_⟩))) ?_
  rintro ⟨i, ⟨A1, c1⟩⟩ w2 ⟨hi, hok, hr2⟩
  simp only at hi hok hr2
  have Hr' := Lib.hid hr2
  clear Hr
  have Hr := Hr'
  clear Hr'
  have Hok := Lib.hid hok
  clear hr2 hok
  by_cases hlt : i < n
  · have hd : decide ((i : Int) < (n : Int)) = true := by simp; omega
    obtain ⟨a, ha⟩ : ∃ a, l[i]? = some a := ⟨_, List.getElem?_eq_getElem (by have := Hn.out; omega)⟩
    have Ha := Lib.hid ha
    obtain ⟨b, o, hA, -⟩ := Hs.out.2 (by have := Hn.out; omega)
    subst hA
    obtain ⟨d0, d1, d2, d3⟩ := pa_c4 ((Hs.out.kept (S := fun _ => False) Hr.out.kept (fun _ _ _ h => h))) ha
    have hba := Hb.out a (List.mem_of_getElem? ha)
    have PL := Lib.hid (rf_line a w2 hba)
    obtain ⟨r, hr⟩ : ∃ r, a.ok = r := ⟨_, rfl⟩
    obtain ⟨L, hL⟩ : ∃ L, lineR a = L := ⟨_, rfl⟩
    rw [hr, hL] at PL
    have Hra := Lib.hid hr
    have HLa := Lib.hid hL
    clear ha hr hL
    refine gg ?_
    refine KL.call rfl rfl rfl rfl rfl (by go_simp) PL.out ?_
    rintro e w5 ⟨rfl, hk5⟩
    refine ⟨_, rfl, ?_⟩
    have Hr' := Lib.hid (Hr.out.pure hk5)
    clear Hr
    have Hr := Hr'
    clear Hr'
    clear hk5 PL d0 d1 d2 d3 hd
    refine gg ?_
    cases r
    case false =>
      refine gg ?_
      have hno : l.all PAct.ok = false := by
        rw [List.all_eq_false]
        exact ⟨a, List.mem_of_getElem? Ha.out, by rw [Hra.out]; exact Bool.false_ne_true⟩
      have hR : R = (⟨#[]⟩, 12) := by rw [← HR.out]; exact if_neg (by rw [hno]; exact Bool.false_ne_true)
      have HR2 := Lib.hid hR
      clear hR
      refine KR.fin2 Tryz.results10 rfl rfl ⟨by rw [HR2.out], Hr.out.kept⟩
    have hsz : (shw (l.take i)).length + L.size + 1 = (shw (l.take (i + 1))).length ∧ kb L = a.head := by
      rw [shw_take Ha.out, List.length_append, List.length_append, ← HLa.out, show lineR a = ⟨a.head.toArray⟩ from if_pos Hra.out, bs_size, kb_bs]
      exact ⟨by simp; omega, rfl⟩
    have hle := shw_len_take l (i + 1)
    have Hsz := Lib.hid hsz
    refine gg ?_
    refine KL.appS Hr.out 0 rfl Tryz.underlying50 Tryz.underlying9 info_u8 (str := L) (by omega) rfl rfl rfl rfl rfl rfl ?_
    intro A6 c6 w6 hr6
    have Hr' := Lib.hid hr6
    clear Hr
    have Hr := Hr'
    clear Hr'
    clear hr6
    refine gg ?_
    refine KL.makes (v := .slice (some ⟨w6.heap.size, 0, none⟩) 1 1) (w' := w6.alloc (.cells #[.int .u8 10] 5)) rfl rfl rfl (fun ρ hρ => by have e := hρ (.const (.int .u8 10)) _ rfl; simp only [execOp]; go_simp; first | done | rfl) ?_
    have hsl := Sl.lit w6 #[.int .u8 10] 5 1 1 (bvs [10]) rfl rfl
    refine KL.app (Hr.out.alloc _) 0 rfl Tryz.underlying50 info_u8 rfl (by omega) hsl (bvs_one _) (by omega) (by omega) rfl rfl rfl rfl rfl rfl ?_
    clear hsl
    intro A7 c7 w7 e1 e2 hr7
    clear e1 e2
    have hr8 : Run w (fun _ => False) w7 [ownC 5 1 (.slice A7 (shw (l.take (i + 1))).length c7) (shw (l.take (i + 1))).length (bvs (shw (l.take (i + 1))))] := by
      have e : bvs (shw (l.take (i + 1))) = bvs (shw (l.take i)) ++ bvs L.data.toList ++ bvs [10] := by
        rw [shw_take Ha.out, ← Hsz.out.2]
        simp [bvs, kb]
      rw [e, ← Hsz.out.1]
      exact hr7
    rw [Hsz.out.1]
    have Hr8 := Lib.hid hr8
    clear hr7 hr8 hsz hle
    refine gg ?_
    refine KE.rnd2 (i + 1, (A7, c7)) (by repeat' (first | exact trivial | refine ⟨rfl, ?_⟩)) ⟨hlt, ?_, Hr8.out⟩ (by show n - (i + 1) < n - i; omega)
    intro x hx
    rw [List.take_add_one, Ha.out, Option.toList_some] at hx
    rcases List.mem_append.1 hx with h | h
    · exact Hok.out x h
    · rw [List.mem_singleton.1 h]; exact Hra.out
  · have hd : decide ((i : Int) < (n : Int)) = false := by simp; omega
    have hin : l.take i = l := List.take_of_length_le (by have := Hn.out; omega)
    rw [hin] at Hr Hok
    rw [hin]
    clear hin
    have hall : l.all PAct.ok = true := by rw [List.all_eq_true]; exact Hok.out
    have hR : R = (⟨(shw l).toArray⟩, 0) := by rw [← HR.out]; exact if_pos hall
    have HR2 := Lib.hid hR
    have hs1 := (Hr.out.own 0 rfl).toO.form
    obtain ⟨A9, c9, e9, _, _, hs9⟩ := hs1
    injection e9 with e91 _ e93
    subst e91 e93
    clear hall hR
    refine gg ?_
    refine kp ?_ (oStr hs9 Tryz.underlying50 Tryz.underlying5)
    refine gg ?_
    refine KR.fin2 Tryz.results10 rfl rfl ⟨by rw [HR2.out], Hr.out.kept⟩
end Go.Proofs.YtiddhcabpmkolaaGreatDoor
set_option linter.unusedSimpArgs false
set_option linter.unusedVariables false
namespace Go.Proofs.YtiddhcabpmkolaaGreatDoor
open Go.RowKit
set_option maxRecDepth 100000
open Go
def jn : List (List UInt8) → List UInt8
  | [] => []
  | p :: r => p ++ 32 :: jn r
theorem jn_snoc : ∀ (l : List (List UInt8)) (y : List UInt8), jn (l ++ [y]) = jn l ++ (y ++ [32])
  | [], y => by simp [jn]
  | p :: r, y => by rw [List.cons_append, jn, jn_snoc r y, jn]; simp
theorem jn_glue : ∀ (l : List (List UInt8)) (y : List UInt8), ∃ x r, l ++ [y] = x :: r ∧ jn l ++ y = x ++ glue r
  | [], y => ⟨y, [], rfl, by simp [jn, glue]⟩
  | p :: l, y => by
    obtain ⟨x, r, h1, h2⟩ := jn_glue l y
    exact ⟨p, x :: r, by rw [List.cons_append, h1], by rw [jn, List.append_assoc, List.cons_append, h2, glue]⟩
/-- What stands at the loop's head. -/
def SpI (s : ByteArray) (i at_ : Nat) (ws : List ByteArray) : Prop :=
  (i ≤ s.size ∧ at_ ≤ i ∧ kb s = jn (ws.map kb) ++ (kb s).drop at_ ∧ (∀ p ∈ ws, ∀ c ∈ kb p, c ≠ (32 : UInt8)) ∧ ∀ c ∈ ((kb s).drop at_).take (i - at_), c ≠ (32 : UInt8)) ∨ (i = s.size + 1 ∧ WordsOf (kb s) ws)
theorem SpI.start (s : ByteArray) : SpI s 0 0 [] := .inl ⟨Nat.zero_le _, Nat.le_refl _, by simp [jn], (fun p hp => by cases hp), (fun c hc => by simp at hc)⟩
theorem SpI.last {s : ByteArray} {at_ : Nat} {ws : List ByteArray} (h : SpI s s.size at_ ws) : SpI s (s.size + 1) (s.size + 1) (ws ++ [s.extract at_ s.size]) := by
  rcases h with ⟨h1, h2, h3, h4, h5⟩ | ⟨h1, _⟩
  · refine .inr ⟨rfl, ?_⟩
    have hk : kb (s.extract at_ s.size) = (kb s).drop at_ := by rw [kb_ext, List.take_of_length_le (by rw [List.length_drop, kb_len]; omega)]
    obtain ⟨x, r, e1, e2⟩ := jn_glue (ws.map kb) ((kb s).drop at_)
    refine ⟨x, r, by rw [List.map_append, List.map_cons, List.map_nil, hk]; exact e1, by rw [← e2]; exact h3, fun p hp => ?_⟩
    rw [← e1] at hp
    rcases List.mem_append.1 hp with hp | hp
    · obtain ⟨q, hq, rfl⟩ := List.mem_map.1 hp
      exact h4 q hq
    · rw [List.mem_singleton.1 hp]
      rwa [List.take_of_length_le (by rw [List.length_drop, kb_len]; omega)] at h5
  · omega
theorem SpI.skip {s : ByteArray} {i at_ : Nat} {ws : List ByteArray} {c : UInt8} (h : SpI s i at_ ws) (hc : (kb s)[i]? = some c) (h32 : c ≠ 32) : SpI s (i + 1) at_ ws := by
  have hi : i < s.size := by have := (List.getElem?_eq_some_iff.1 hc).1; rwa [kb_len] at this
  rcases h with ⟨h1, h2, h3, h4, h5⟩ | ⟨h1, _⟩
  · refine .inl ⟨hi, by omega, h3, h4, fun x hx => ?_⟩
    rw [show i + 1 - at_ = (i - at_) + 1 by omega, List.take_add_one] at hx
    rcases List.mem_append.1 hx with hx | hx
    · exact h5 x hx
    · rw [List.getElem?_drop, show at_ + (i - at_) = i by omega, hc] at hx
      simp at hx
      rw [hx]; exact h32
  · omega
theorem SpI.word {s : ByteArray} {i at_ : Nat} {ws : List ByteArray} (h : SpI s i at_ ws) (hc : (kb s)[i]? = some 32) : SpI s (i + 1) (i + 1) (ws ++ [s.extract at_ i]) := by
  have hi : i < s.size := by have := (List.getElem?_eq_some_iff.1 hc).1; rwa [kb_len] at this
  rcases h with ⟨h1, h2, h3, h4, h5⟩ | ⟨h1, _⟩
  · have hk : kb (s.extract at_ i) = ((kb s).drop at_).take (i - at_) := kb_ext s at_ i
    refine .inl ⟨hi, Nat.le_refl _, ?_, fun p hp => ?_, fun x hx => by simp at hx⟩
    · rw [List.map_append, List.map_cons, List.map_nil, jn_snoc, hk]
      conv => lhs; rw [h3]
      rw [List.append_assoc]
      congr 1
      have e1 : (kb s).drop at_ = ((kb s).drop at_).take (i - at_) ++ ((kb s).drop at_).drop (i - at_) := (List.take_append_drop _ _).symm
      have e2 : ((kb s).drop at_).drop (i - at_) = 32 :: (kb s).drop (i + 1) := by
        rw [List.drop_drop, show at_ + (i - at_) = i by omega]
        obtain ⟨hlt, hget⟩ := List.getElem?_eq_some_iff.1 hc
        rw [List.drop_eq_getElem_cons hlt, hget]
      conv => lhs; rw [e1, e2]
      simp
    · rcases List.mem_append.1 hp with hp | hp
      · exact h4 p hp
      · rw [List.mem_singleton.1 hp, hk]; exact h5
  · omega
theorem SpI.at_le {s : ByteArray} {i at_ : Nat} {ws : List ByteArray} (h : SpI s i at_ ws) (hi : i ≤ s.size) : at_ ≤ i := by
  rcases h with ⟨_, h2, _⟩ | ⟨h1, _⟩
  · exact h2
  · omega
theorem SpI.done {s : ByteArray} {i at_ : Nat} {ws : List ByteArray} (h : SpI s i at_ ws) (hi : ¬ i ≤ s.size) : WordsOf (kb s) ws := by
  rcases h with ⟨h1, _⟩ | ⟨_, h2⟩
  · exact absurd h1 hi
  · exact h2
set_option maxHeartbeats 3200000 in
theorem rf_split (s : ByteArray) (w : World) (hs : s.size ≤ 100000) : Calls Tryz.prog 41 #[.string s] w fun e w' => ∃ (A : Option Addr) (c : Nat) (ws : List ByteArray), e = .returned (.slice A ws.length c) ∧ WordsOf (kb s) ws ∧ Sl w' (fun b => w.heap.size ≤ b) 1 A ws.length (strs ws) ∧ Pure w w' := by
  have Hr := Lib.hid ((Run.start (F := fun _ => False) (w := w) (Ps := []) trivial).addNil 9 1)
  refine calls_kn Tryz.func41 rfl Tryz.ntmps41 rfl ?_
  refine gg ?_
  refine KW.loop (ι := Nat × Nat × List ByteArray × (Option Addr × Nat)) (fun p => [(0, .string s), (3, .slice p.2.2.2.1 p.2.2.1.length p.2.2.2.2), (4, .int .i64 (p.2.1 : Int)), (5, .int .i64 (p.1 : Int))]) (fun p w' => p.1 ≤ s.size + 1 ∧ SpI s p.1 p.2.1 p.2.2.1 ∧ p.2.2.1.length ≤ p.1 ∧ Run w (fun _ => False) w' [ownC 9 1 (.slice p.2.2.2.1 p.2.2.1.length p.2.2.2.2) p.2.2.1.length (strs p.2.2.1)]) (fun p => s.size + 1 - p.1) (0, 0, [], (none, 0)) ⟨Nat.zero_le _, SpI.start s, Nat.le_refl _, Hr.out⟩ (kle_ok (by repeat' (first | exact trivial | refine ⟨rfl, ?_⟩))) ?_
  rintro ⟨i, at_, ws, ⟨A, c⟩⟩ w1 ⟨hi, hI, hlen, hr1⟩
  simp only at hi hI hlen hr1
  have Hr' := Lib.hid hr1
  clear Hr
  have Hr := Hr'
  clear Hr'
  have HI := Lib.hid hI
  clear hr1 hI
  by_cases hle : i ≤ s.size
  · have hd : decide ((i : Int) ≤ (s.size : Int)) = true := by simp; omega
    have hat := HI.out.at_le hle
    by_cases heq : i = s.size
    · subst heq
      have hd2 : decide ((s.size : Int) = (s.size : Int)) = true := by simp
      refine gg ?_
      refine kp ?_ (oZs (i := at_) (j := s.size) (ha := rfl) (hb := rfl) (hij := by omega) (hj := by omega) (ht := Tryz.underlying9))
      refine gg ?_
      refine KL.makes (v := .slice (some ⟨w1.heap.size, 0, none⟩) 1 1) (w' := w1.alloc (.cells #[.string (s.extract at_ s.size)] 9)) rfl rfl rfl (fun ρ hρ => by have e := hρ (.tmp 26) _ rfl; simp only [execOp]; go_simp; first | done | rfl) ?_
      have hsl := Sl.lit w1 #[.string (s.extract at_ s.size)] 9 1 1 (strs [s.extract at_ s.size]) rfl rfl
      refine KL.app (Hr.out.alloc _) 0 rfl Tryz.underlying35 info_st rfl (by omega) hsl (by intro u hu; rw [List.mem_singleton.1 hu]; rfl) (by omega) (by omega) rfl rfl rfl rfl rfl rfl ?_
      clear hsl
      intro A7 c7 w7 e1 e2 hr7
      clear e1 e2
      have hr8 : Run w (fun _ => False) w7 [ownC 9 1 (.slice A7 (ws ++ [s.extract at_ s.size]).length c7) (ws ++ [s.extract at_ s.size]).length (strs (ws ++ [s.extract at_ s.size]))] := by
        rw [List.length_append, show strs (ws ++ [s.extract at_ s.size]) = strs ws ++ strs [s.extract at_ s.size] from List.map_append]
        exact hr7
      have Hr8 := Lib.hid hr8
      clear hr7 hr8
      refine gg ?_
      refine KE.rnd2 (s.size + 1, s.size + 1, ws ++ [s.extract at_ s.size], (A7, c7)) (by
        refine ⟨rfl, ⟨?_, ⟨rfl, ⟨rfl, trivial⟩⟩⟩⟩
        show _ = some (Value.slice A7 (ws ++ [s.extract at_ s.size]).length c7)
        rw [List.length_append]
        rfl) ⟨by omega, HI.out.last, by rw [List.length_append]; simp; omega, Hr8.out⟩ (by show s.size + 1 - (s.size + 1) < s.size + 1 - s.size; omega)
    · have hd2 : decide ((i : Int) = (s.size : Int)) = false := by simp; omega
      have hlt : i < s.size := by omega
      have hsl : s.data.toList.length = s.size := by simp
      obtain ⟨ch, hc⟩ : ∃ c, s.data.toList[i]? = some c := ⟨_, List.getElem?_eq_getElem (by omega)⟩
      have Hc := Lib.hid hc
      clear hsl hc
      refine gg ?_
      refine kp ?_ (oJ Hc.out)
      obtain ⟨t, ht⟩ : ∃ t, decide ((ch.toNat : Int) = 32) = t := ⟨_, rfl⟩
      refine gg ?_
      cases t
      case true =>
        have h32 : ch = 32 := by
          have := of_decide_eq_true ht
          exact UInt8.toNat_inj.1 (by show ch.toNat = 32; omega)
        subst h32
        refine gg ?_
        refine kp ?_ (oZs (i := at_) (j := i) (ha := rfl) (hb := rfl) (hij := by omega) (hj := by omega) (ht := Tryz.underlying9))
        refine gg ?_
        refine KL.makes (v := .slice (some ⟨w1.heap.size, 0, none⟩) 1 1) (w' := w1.alloc (.cells #[.string (s.extract at_ i)] 9)) rfl rfl rfl (fun ρ hρ => by have e := hρ (.tmp 26) _ rfl; simp only [execOp]; go_simp; first | done | rfl) ?_
        have hsl := Sl.lit w1 #[.string (s.extract at_ i)] 9 1 1 (strs [s.extract at_ i]) rfl rfl
        refine KL.app (Hr.out.alloc _) 0 rfl Tryz.underlying35 info_st rfl (by omega) hsl (by intro u hu; rw [List.mem_singleton.1 hu]; rfl) (by omega) (by omega) rfl rfl rfl rfl rfl rfl ?_
        clear hsl
        intro A7 c7 w7 e1 e2 hr7
        clear e1 e2
        have hr8 : Run w (fun _ => False) w7 [ownC 9 1 (.slice A7 (ws ++ [s.extract at_ i]).length c7) (ws ++ [s.extract at_ i]).length (strs (ws ++ [s.extract at_ i]))] := by
          rw [List.length_append, show strs (ws ++ [s.extract at_ i]) = strs ws ++ strs [s.extract at_ i] from List.map_append]
          exact hr7
        have Hr8 := Lib.hid hr8
        clear hr7 hr8
        refine gg ?_
        refine KE.rnd2 (i + 1, i + 1, ws ++ [s.extract at_ i], (A7, c7)) (by
          refine ⟨rfl, ⟨?_, ⟨rfl, ⟨rfl, trivial⟩⟩⟩⟩
          show _ = some (Value.slice A7 (ws ++ [s.extract at_ i]).length c7)
          rw [List.length_append]
          rfl) ⟨by omega, (HI.out.word Hc.out), by rw [List.length_append]; simp; omega, Hr8.out⟩ (by show s.size + 1 - (i + 1) < s.size + 1 - i; omega)
      have h32 : ch ≠ 32 := by
        have := of_decide_eq_false ht
        intro e
        subst e
        exact this rfl
      refine gg ?_
      refine KE.rnd2 (i + 1, at_, ws, (A, c)) (by repeat' (first | exact trivial | refine ⟨rfl, ?_⟩)) ⟨by omega, HI.out.skip Hc.out h32, by show ws.length ≤ i + 1; omega, Hr.out⟩ (by show s.size + 1 - (i + 1) < s.size + 1 - i; omega)
  · have hd : decide ((i : Int) ≤ (s.size : Int)) = false := by simp; omega
    have hs1 := (Hr.out.own 0 rfl).toO.form
    obtain ⟨A9, c9, e9, _, _, hs9⟩ := hs1
    injection e9 with e91 _ e93
    subst e91 e93
    have Hs9 := Lib.hid hs9
    clear hs9
    refine gg ?_
    refine KR.fin1 Tryz.results41 rfl ⟨A, c, ws, rfl, HI.out.done hle, Hs9.out.imp (fun b _ e => e.resolve_left id), Hr.out.kept⟩
end Go.Proofs.YtiddhcabpmkolaaGreatDoor
set_option linter.unusedSimpArgs false
set_option linter.unusedVariables false
namespace Go.Proofs.YtiddhcabpmkolaaGreatDoor
open Go.RowKit
set_option maxRecDepth 100000
open Go
theorem w8_at {k : Nat} (h1 : 1 ≤ k) (h7 : k ≤ 7) : wrds8.toList[k]? = some (.string (plW (k : Int))) := by
  rcases (show k = 1 ∨ k = 2 ∨ k = 3 ∨ k = 4 ∨ k = 5 ∨ k = 6 ∨ k = 7 by omega) with rfl | rfl | rfl | rfl | rfl | rfl | rfl <;> rfl
theorem words_of {s : ByteArray} {ws : List ByteArray} {b : PAct} (h : WordsOf (kb s) ws) (hb : b.Ok) (e : b.head = kb s) : ws.map kb = plWord b.kind :: b.rest := by
  obtain ⟨x, r, h1, h2, h3⟩ := h
  rw [h1]
  refine glue_inj (x :: r) (plWord b.kind :: b.rest) h3 (fun y hy => ?_) ?_
  · rcases List.mem_cons.1 hy with rfl | hy
    · exact word_no _ _ (by decide)
    · exact rest_no hb _ (by decide) y hy
  · rw [glue, glue, ← h2, ← e, head_glue]
/-- What the reference's reader says of a line. -/
def RfA (s : ByteArray) (w : World) (e : Ending) (w' : World) : Prop := ∃ (a : PAct) (r : Bool), e = .returned (.tuple #[a.val, .bool r]) ∧ Pure w w' ∧ (r = true → a.Ok ∧ a.head = kb s) ∧ ∀ b : PAct, b.Ok → b.head = kb s → r = true
theorem act_eq {b : PAct} {k c n : Int} {z : ByteArray} (hk : b.kind = k) (hc : b.conn = c) (hn : b.n = n) (hz : b.bytes = z) : b = ⟨k, c, n, z⟩ := by
  obtain ⟨_, _, _, _⟩ := b
  simp only at hk hc hn hz
  subst hk hc hn hz
  rfl
theorem PAct.Ok.rest3 {a : PAct} (h : a.Ok) (hk : a.kind = 3) : a.rest = [Lib.itoa a.conn] := by
  unfold PAct.rest
  rw [hk]
  rfl
theorem PAct.Ok.rest4 {a : PAct} (h : a.Ok) (hk : a.kind = 4) : a.rest = [Lib.itoa a.conn] := by
  unfold PAct.rest
  rw [hk]
  rfl
theorem PAct.Ok.rest5 {a : PAct} (h : a.Ok) (hk : a.kind = 5) : a.rest = [Lib.itoa a.n] := by
  unfold PAct.rest
  rw [hk]
  rfl
theorem PAct.Ok.rest6 {a : PAct} (h : a.Ok) (hk : a.kind = 6) : a.rest = [Lib.itoa a.conn, Lib.itoa a.n] := by
  unfold PAct.rest
  rw [hk]
  rfl
theorem PAct.Ok.rest2 {a : PAct} (h : a.Ok) (hk : a.kind = 2) : a.rest = [Lib.itoa a.conn, hexT a.bytes.data.toList] := by
  unfold PAct.rest
  rw [hk]
  rfl
theorem of_not_decide {p : Prop} [Decidable p] (h : (!decide p) = true) : ¬ p := by simpa using h
theorem halfR_hex {d : Nat} (h : d < 16) : halfR (hexD d) = (d : Int) := by
  unfold halfR
  rw [hexD_val h]
  by_cases h1 : d < 10
  · rw [if_pos h1, if_pos (by omega)]; omega
  · rw [if_neg h1, if_neg (by omega), if_pos (by omega)]; omega
theorem halfR_le (c : UInt8) : -1 ≤ halfR c ∧ halfR c ≤ 15 := by
  unfold halfR
  split
  · omega
  · split <;> omega
theorem hexL_at : ∀ {l : List UInt8} {j : Nat} {c : UInt8}, l[j]? = some c → (hexL l)[2 * j]? = some (hexD (c.toNat / 16)) ∧ (hexL l)[2 * j + 1]? = some (hexD (c.toNat % 16))
  | [], j, c, h => by simp at h
  | b :: r, 0, c, h => by
    simp at h
    subst h
    exact ⟨rfl, rfl⟩
  | b :: r, j + 1, c, h => by
    have := hexL_at (l := r) (j := j) (c := c) (by simpa using h)
    exact this
theorem hex_even : ∀ (l : List UInt8), (hexL l).length = 2 * l.length
  | [] => rfl
  | b :: r => by
    have := hex_even r
    show (hexL r).length + 1 + 1 = _
    rw [this, List.length_cons]; omega
theorem run_rem2 {x y : Operand} {n : Nat} {w : World} (h : n ≤ 1000000000) : (do eqGuard .rem 3 x y (.int .i64 (n : Int)) (.int .i64 2); binOp .rem 3 (.int .i64 (n : Int)) (.int .i64 2) : Sem Value).run Tryz.prog w = .ok (.int .i64 ((n % 2 : Nat) : Int)) w := by
  have h1 : Int.tmod (n : Int) 2 = ((n % 2 : Nat) : Int) := by rw [Int.tmod_eq_emod_of_nonneg (by omega)]; omega
  go_simp
  first | done | (rw [h1]; first | done | exact IntWalk.i64_in _ (by omega))
theorem run_i64u8 {a : Int} (h : 0 ≤ a ∧ a ≤ 255) {w : World} : (convert 3 5 (.int .i64 a)).run Tryz.prog w = .ok (.int .u8 a) w := by
  have e : IntKind.wrap .u8 a = a := by rw [IntKind.wrap_u8']; omega
  go_simp
  first | done | (rw [e]; done) | (rw [e]; rfl) | simp [e]
set_option maxHeartbeats 6400000 in
theorem rf_act (s : ByteArray) (w : World) (hs : s.size ≤ 100000) : Calls Tryz.prog 23 #[.string s] w (RfA s w) := by
  have Hr := Lib.hid ((Run.start (F := fun _ => False) (w := w) (Ps := []) trivial).addBlk #[.int .i64 0, .int .i64 0, .int .i64 0, .string ⟨#[]⟩] 33)
  refine calls_kn Tryz.func23 rfl Tryz.ntmps23 rfl ?_
  refine gg ?_
  refine KL.makes (v := .pointer (some ⟨World.heap w |>.size, 0, none⟩)) rfl rfl rfl (fun ρ hρ => by simp only [execOp]; go_simp; first | done | rfl) ?_
  generalize w.alloc _ = w1 at *
  generalize w.heap.size = g2 at Hr ⊢
  refine gg ?_
  refine KL.call rfl rfl rfl rfl rfl (by go_simp) (rf_split s w1 hs) ?_
  rintro e w2 ⟨A, c, ws, rfl, hws, hsl, hk⟩
  refine ⟨_, rfl, ?_⟩
  have Hr' := Lib.hid ((Hr.out.add (Q := slC 1 A ws.length (strs ws)) hk hsl).addBlk #[.int .i64 0, .int .i64 0, .int .i64 0, .string ⟨#[]⟩] 33)
  clear Hr
  have Hr := Hr'
  clear Hr'
  have Hws := Lib.hid hws
  clear hk hsl hws
  refine gg ?_
  refine KL.makes (v := .pointer (some ⟨World.heap w2 |>.size, 0, none⟩)) rfl rfl rfl (fun ρ hρ => by simp only [execOp]; go_simp; first | done | rfl) ?_
  generalize w2.alloc _ = w3 at *
  generalize w2.heap.size = g5 at *
  refine gg ?_
  refine KL.makes (v := .slice (some ⟨w3.heap.size, 0, none⟩) 8 8) (w' := w3.alloc (.cells wrds8 9)) rfl rfl rfl (fun ρ hρ => by have e0 := hρ (.const (.string ⟨#[]⟩)) _ rfl; have e1 := hρ (.const (.string { data := #[111, 112, 101, 110] })) _ rfl; have e2 := hρ (.const (.string { data := #[115, 101, 110, 100] })) _ rfl; have e3 := hρ (.const (.string { data := #[104, 97, 108, 102] })) _ rfl; have e4 := hρ (.const (.string { data := #[112, 105, 99, 107] })) _ rfl; have e5 := hρ (.const (.string { data := #[116, 105, 99, 107] })) _ rfl; have e6 := hρ (.const (.string { data := #[116, 97, 107, 101] })) _ rfl; have e7 := hρ (.const (.string { data := #[115, 116, 111, 112] })) _ rfl; simp only [execOp]; go_simp; first | done | rfl) ?_
  have hsl := Sl.lit w3 wrds8 9 1 8 wrds8.toList rfl rfl
  have Hr' := Lib.hid (Hr.out.add ((Kept.refl _ _).alloc (.cells wrds8 9)) (Q := slC 1 (some ⟨w3.heap.size, 0, none⟩) 8 wrds8.toList) (hsl.imp (fun b _ e => by have e : b = w3.heap.size := e; omega)))
  clear Hr
  have Hr := Hr'
  clear Hr'
  clear hsl
  generalize w3.alloc _ = w4 at *
  generalize w3.heap.size = g6 at *
  obtain ⟨x0, ws', hx0⟩ : ∃ x r, ws = x :: r := by
    obtain ⟨x, r, h, _⟩ := Hws.out
    cases ws with
    | nil => cases h
    | cons a b => exact ⟨a, b, rfl⟩
  subst hx0
  obtain ⟨N, hN⟩ : ∃ N, (x0 :: ws').length = N := ⟨_, rfl⟩
  have hN1 : 1 ≤ N := by rw [← hN]; simp
  have HN := Lib.hid hN
  simp only [hN] at Hr ⊢
  clear hN
  refine gg ?_
  refine KW.loop (ι := Nat × Nat) (fun p => [(0, .string s), (2, .pointer (some ⟨g2, 0, none⟩)), (3, .bool false), (4, .slice A N c), (5, .pointer (some ⟨g5, 0, none⟩)), (6, .slice (some ⟨g6, 0, none⟩) 8 8), (7, .int .i64 (p.1 : Int))]) (fun p w' => 1 ≤ p.1 ∧ p.1 ≤ 8 ∧ p.2 ≤ 7 ∧ Hid (∀ j : Nat, 1 ≤ j → j < p.1 → plW (j : Int) = x0 → p.2 = j) ∧ Hid (p.2 = 0 ∨ plW (p.2 : Int) = x0) ∧ Run w (fun _ => False) w' [slC 1 (some ⟨g6, 0, none⟩) 8 wrds8.toList, blkC g5 33 #[.int .i64 (p.2 : Int), .int .i64 0, .int .i64 0, .string ⟨#[]⟩], slC 1 A N (strs (x0 :: ws')), blkC g2 33 #[.int .i64 0, .int .i64 0, .int .i64 0, .string ⟨#[]⟩]]) (fun p => 8 - p.1) (1, 0) ⟨Nat.le_refl _, by show 1 ≤ 8; omega, Nat.zero_le _, Lib.hid (fun j h1 h2 => absurd h2 (by show ¬ j < 1; omega)), Lib.hid (.inl rfl), Hr.out⟩ (kle_ok (by repeat' (first | exact trivial | refine ⟨rfl, ?_⟩))) ?_
  rintro ⟨k, kd⟩ w5 ⟨hk1, hk8, hkd, hall, hkx, hr5⟩
  simp only at hk1 hk8 hkd hall hkx hr5
  have Hr' := Lib.hid hr5
  clear Hr
  have Hr := Hr'
  clear Hr'
  clear hr5
  by_cases hlt : k ≤ 7
  · have hd : decide ((k : Int) ≤ (7 : Int)) = true := by simp; omega
    obtain ⟨b1, o1, hA1, _, _, hx1⟩ := (Hr.out.get (P := slC 1 A N (strs (x0 :: ws'))) 2 rfl).2 (by omega)
    have hc1 : w5.cell? ⟨b1, o1, none⟩ = some (.string x0) := by have := hx1 0 (by simp); simpa using this
    subst hA1
    obtain ⟨b2, o2, hA2, _, _, hx2⟩ := (Hr.out.get (P := slC 1 (some ⟨g6, 0, none⟩) 8 wrds8.toList) 0 rfl).2 (by omega)
    injection hA2 with hA2
    injection hA2 with hb2 ho2
    subst hb2 ho2
    have hc2 : w5.cell? ⟨g6, k, none⟩ = some (.string (plW (k : Int))) := by
      have := hx2 k (by show k < 8; omega)
      rw [w8_at hk1 hlt, Nat.zero_add] at this
      exact this
    have hc3 : w5.drew.cell? ⟨b1, o1, none⟩ = some (.string x0) := hc1
    have hc4 : w5.drew.cell? ⟨g6, k, none⟩ = some (.string (plW (k : Int))) := hc2
    clear hx1 hx2 hc1 hc2
    obtain ⟨t, ht⟩ : ∃ t, decide (x0 = plW (k : Int)) = t := ⟨_, rfl⟩
    have Hr' := Lib.hid Hr.out.drew
    clear Hr
    have Hr := Hr'
    clear Hr'
    have hk8' : ((k : Int) < 8) := by omega
    have hN0 : 0 < N := by omega
    have hN0' : (0 : Int) < (N : Int) := by omega
    have hk0 : (0 : Int) ≤ (k : Int) := by omega
    refine gg ?_
    refine sd ?_
    generalize w5.drew = w6 at *
    refine gs ?_
    cases t
    case true =>
      have Hxe := Lib.hid (of_decide_eq_true ht)
      have hcl := (Hr.out.blk 1 rfl).cell
      have hfz := (Hr.out.blk 1 rfl).frozen
      refine gg ?_
      refine KL.store1 Hr.out 1 0 rfl rfl rfl rfl rfl rfl (by go_simp; first | done | rfl) ?_
      clear hcl hfz
      intro w7 e7 hr7
      have Hr7 := Lib.hid hr7
      clear hr7 e7
      refine gg ?_
      refine KE.rnd2 (k + 1, k) (by repeat' (first | exact trivial | refine ⟨rfl, ?_⟩)) ⟨by show 1 ≤ k + 1; omega, by show k + 1 ≤ 8; omega, hlt, Lib.hid (fun j h1 h2 h3 => by
        have h2 : j < k + 1 := h2
        have e1 := Hxe.out
        rw [← h3] at e1
        have e2 : plWord (j : Int) = plWord (k : Int) := by
          have := congrArg kb e1
          simpa [plW, kb_bs] using this
        have := word_inj ⟨by omega, by omega⟩ ⟨by omega, by omega⟩ e2
        show k = j
        omega), Lib.hid (.inr Hxe.out.symm), Hr7.out⟩ (by show 8 - (k + 1) < 8 - k; omega)
    refine gg ?_
    have hxne := of_decide_eq_false ht
    refine KE.rnd2 (k + 1, kd) (by repeat' (first | exact trivial | refine ⟨rfl, ?_⟩)) ⟨by show 1 ≤ k + 1; omega, by show k + 1 ≤ 8; omega, hkd, Lib.hid (fun j h1 h2 h3 => by
      have h2 : j < k + 1 := h2
      by_cases hjk : j < k
      · exact hall.out j h1 hjk h3
      · obtain rfl : j = k := by omega
        exact absurd h3.symm hxne), hkx, Hr.out⟩ (by show 8 - (k + 1) < 8 - k; omega)
  · have hd : decide ((k : Int) ≤ (7 : Int)) = false := by simp; omega
    obtain rfl : k = 8 := by omega
    have HK : Hid (∀ b : PAct, b.Ok → b.head = kb s → (kd : Int) = b.kind ∧ ws'.map kb = b.rest) := Lib.hid (fun b hb he => by
      have h1 := words_of Hws.out hb he
      rw [List.map_cons] at h1
      injection h1 with h1 h2
      have hk1 := hb.k1
      have hk7 := hb.k7
      have e := hall.out b.kind.toNat (by omega) (by omega) (by
        rw [show ((b.kind.toNat : Nat) : Int) = b.kind by omega, ← bs_kb x0, h1]; rfl)
      exact ⟨by omega, h2⟩)
    clear hall hkx hk1 hk8 hlt
    rcases (show kd = 0 ∨ kd = 1 ∨ kd = 2 ∨ kd = 3 ∨ kd = 4 ∨ kd = 5 ∨ kd = 6 ∨ kd = 7 by omega) with rfl | rfl | rfl | rfl | rfl | rfl | rfl | rfl
    · have HC : Hid (∀ b : PAct, b.Ok → b.head = kb s → b = ⟨((0 : Nat) : Int), 0, 0, ⟨#[]⟩⟩) := Lib.hid (fun b hb he => by
        have h1 := (HK.out b hb he).1
        have h2 := hb.k1
        exact absurd h2 (by rw [← h1]; decide))
      have hcl := (Hr.out.blk 1 rfl).cell
      refine gg ?_
      have PL := fun w => rf_line ⟨((0 : Nat) : Int), 0, 0, ⟨#[]⟩⟩ w (show 0 ≤ 100000 by omega)
      obtain ⟨r, hr⟩ : ∃ r, PAct.ok ⟨((0 : Nat) : Int), 0, 0, ⟨#[]⟩⟩ = r := ⟨_, rfl⟩
      obtain ⟨L, hL⟩ : ∃ L, lineR ⟨((0 : Nat) : Int), 0, 0, ⟨#[]⟩⟩ = L := ⟨_, rfl⟩
      simp only [hr, hL] at PL
      have HrL := Lib.hid (And.intro hr hL)
      have PL := Lib.hid PL
      clear hr hL
      refine KL.call rfl rfl rfl rfl rfl (by go_simp) (PL.out _) ?_
      rintro e w6 ⟨rfl, hk6⟩
      refine ⟨_, rfl, ?_⟩
      have Hr' := Lib.hid (Hr.out.pure hk6)
      clear Hr
      have Hr := Hr'
      clear Hr'
      clear hk6 PL
      have hcl := (Hr.out.blk 1 rfl).cell
      obtain ⟨t2, ht2⟩ : ∃ t, decide (L = s) = t := ⟨_, rfl⟩
      refine gg ?_
      cases r
      case false =>
        refine gg ?_
        refine KL.storeB rfl rfl rfl rfl rfl (Hr.out.blk 3 rfl) rfl (by kernel_rfl) (by kernel_rfl) ?_
        intro w7 hb7 hk7
        have Hr' := Lib.hid (Hr.out.turn 3 rfl hb7 hk7)
        clear Hr
        have Hr := Hr'
        clear Hr'
        clear hb7 hk7
        refine gg ?_
        refine KR.finCT Tryz.results23 rfl rfl (Hr.out.blk 3 rfl) Tryz.underlying33 rfl (by kernel_rfl) ⟨⟨((0 : Nat) : Int), 0, 0, ⟨#[]⟩⟩, false, rfl, Hr.out.kept, (fun h => by cases h), (fun b hb he => by have e := HC.out b hb he; have h1 := HrL.out.1; rw [← e] at h1; rw [ok_iff.2 hb] at h1; cases h1)⟩
      have Hfh : Hid (L = ⟨(PAct.head ⟨((0 : Nat) : Int), 0, 0, ⟨#[]⟩⟩).toArray⟩) := Lib.hid (by rw [← HrL.out.2]; exact if_pos HrL.out.1)
      refine gg ?_
      cases t2
      case false =>
        have Hne := Lib.hid (of_decide_eq_false ht2)
        refine gg ?_
        refine KL.storeB rfl rfl rfl rfl rfl (Hr.out.blk 3 rfl) rfl (by kernel_rfl) (by kernel_rfl) ?_
        intro w7 hb7 hk7
        have Hr' := Lib.hid (Hr.out.turn 3 rfl hb7 hk7)
        clear Hr
        have Hr := Hr'
        clear Hr'
        clear hb7 hk7
        refine gg ?_
        refine KR.finCT Tryz.results23 rfl rfl (Hr.out.blk 3 rfl) Tryz.underlying33 rfl (by kernel_rfl) ⟨⟨((0 : Nat) : Int), 0, 0, ⟨#[]⟩⟩, false, rfl, Hr.out.kept, (fun h => by cases h), (fun b hb he => absurd (by have e := HC.out b hb he; rw [Hfh.out, ← e, he]; exact bs_kb s : L = s) Hne.out)⟩
      have Heq := Lib.hid (of_decide_eq_true ht2)
      refine gg ?_
      refine KL.storeB rfl rfl rfl rfl rfl (Hr.out.blk 3 rfl) rfl (by kernel_rfl) (by kernel_rfl) ?_
      intro w7 hb7 hk7
      have Hr' := Lib.hid (Hr.out.turn 3 rfl hb7 hk7)
      clear Hr
      have Hr := Hr'
      clear Hr'
      clear hb7 hk7
      refine gg ?_
      refine KR.finCT Tryz.results23 rfl rfl (Hr.out.blk 3 rfl) Tryz.underlying33 rfl (by kernel_rfl) ⟨⟨((0 : Nat) : Int), 0, 0, ⟨#[]⟩⟩, true, rfl, Hr.out.kept, (fun _ => ⟨ok_iff.1 HrL.out.1, by rw [← Heq.out, Hfh.out]; exact (kb_bs _).symm⟩), (fun _ _ _ => rfl)⟩
    · have HC : Hid (∀ b : PAct, b.Ok → b.head = kb s → b = ⟨((1 : Nat) : Int), 0, 0, ⟨#[]⟩⟩) := Lib.hid (fun b hb he => by
        have h1 := (HK.out b hb he).1
        have hc := hb.cc; have hn := hb.nn; have hz := hb.bb
        rw [← h1] at hc hn hz
        exact act_eq h1.symm (hc.resolve_left (by decide)) (hn.resolve_left (by decide)) (hz.resolve_left (by decide)))
      have hcl := (Hr.out.blk 1 rfl).cell
      refine gg ?_
      have PL := fun w => rf_line ⟨((1 : Nat) : Int), 0, 0, ⟨#[]⟩⟩ w (show 0 ≤ 100000 by omega)
      obtain ⟨r, hr⟩ : ∃ r, PAct.ok ⟨((1 : Nat) : Int), 0, 0, ⟨#[]⟩⟩ = r := ⟨_, rfl⟩
      obtain ⟨L, hL⟩ : ∃ L, lineR ⟨((1 : Nat) : Int), 0, 0, ⟨#[]⟩⟩ = L := ⟨_, rfl⟩
      simp only [hr, hL] at PL
      have HrL := Lib.hid (And.intro hr hL)
      have PL := Lib.hid PL
      clear hr hL
      refine KL.call rfl rfl rfl rfl rfl (by go_simp) (PL.out _) ?_
      rintro e w6 ⟨rfl, hk6⟩
      refine ⟨_, rfl, ?_⟩
      have Hr' := Lib.hid (Hr.out.pure hk6)
      clear Hr
      have Hr := Hr'
      clear Hr'
      clear hk6 PL
      have hcl := (Hr.out.blk 1 rfl).cell
      obtain ⟨t2, ht2⟩ : ∃ t, decide (L = s) = t := ⟨_, rfl⟩
      refine gg ?_
      cases r
      case false =>
        refine gg ?_
        refine KL.storeB rfl rfl rfl rfl rfl (Hr.out.blk 3 rfl) rfl (by kernel_rfl) (by kernel_rfl) ?_
        intro w7 hb7 hk7
        have Hr' := Lib.hid (Hr.out.turn 3 rfl hb7 hk7)
        clear Hr
        have Hr := Hr'
        clear Hr'
        clear hb7 hk7
        refine gg ?_
        refine KR.finCT Tryz.results23 rfl rfl (Hr.out.blk 3 rfl) Tryz.underlying33 rfl (by kernel_rfl) ⟨⟨((1 : Nat) : Int), 0, 0, ⟨#[]⟩⟩, false, rfl, Hr.out.kept, (fun h => by cases h), (fun b hb he => by have e := HC.out b hb he; have h1 := HrL.out.1; rw [← e] at h1; rw [ok_iff.2 hb] at h1; cases h1)⟩
      have Hfh : Hid (L = ⟨(PAct.head ⟨((1 : Nat) : Int), 0, 0, ⟨#[]⟩⟩).toArray⟩) := Lib.hid (by rw [← HrL.out.2]; exact if_pos HrL.out.1)
      refine gg ?_
      cases t2
      case false =>
        have Hne := Lib.hid (of_decide_eq_false ht2)
        refine gg ?_
        refine KL.storeB rfl rfl rfl rfl rfl (Hr.out.blk 3 rfl) rfl (by kernel_rfl) (by kernel_rfl) ?_
        intro w7 hb7 hk7
        have Hr' := Lib.hid (Hr.out.turn 3 rfl hb7 hk7)
        clear Hr
        have Hr := Hr'
        clear Hr'
        clear hb7 hk7
        refine gg ?_
        refine KR.finCT Tryz.results23 rfl rfl (Hr.out.blk 3 rfl) Tryz.underlying33 rfl (by kernel_rfl) ⟨⟨((1 : Nat) : Int), 0, 0, ⟨#[]⟩⟩, false, rfl, Hr.out.kept, (fun h => by cases h), (fun b hb he => absurd (by have e := HC.out b hb he; rw [Hfh.out, ← e, he]; exact bs_kb s : L = s) Hne.out)⟩
      have Heq := Lib.hid (of_decide_eq_true ht2)
      refine gg ?_
      refine KL.storeB rfl rfl rfl rfl rfl (Hr.out.blk 3 rfl) rfl (by kernel_rfl) (by kernel_rfl) ?_
      intro w7 hb7 hk7
      have Hr' := Lib.hid (Hr.out.turn 3 rfl hb7 hk7)
      clear Hr
      have Hr := Hr'
      clear Hr'
      clear hb7 hk7
      refine gg ?_
      refine KR.finCT Tryz.results23 rfl rfl (Hr.out.blk 3 rfl) Tryz.underlying33 rfl (by kernel_rfl) ⟨⟨((1 : Nat) : Int), 0, 0, ⟨#[]⟩⟩, true, rfl, Hr.out.kept, (fun _ => ⟨ok_iff.1 HrL.out.1, by rw [← Heq.out, Hfh.out]; exact (kb_bs _).symm⟩), (fun _ _ _ => rfl)⟩
    · obtain ⟨t1, ht1⟩ : ∃ t, decide ((N : Int) ≤ (1 : Int)) = t := ⟨_, rfl⟩
      have hcl := (Hr.out.blk 1 rfl).cell
      refine gg ?_
      cases t1
      case true =>
        have Ht1 := Lib.hid (of_decide_eq_true ht1)
        refine gg ?_
        refine KL.told (v := .agg #[.int .i64 0, .int .i64 0, .int .i64 0, .string ⟨#[]⟩]) rfl rfl rfl (fun ρ hρ => by skip; simp only [execOp]; go_simp; first | done | rfl) ?_
        refine gg ?_
        refine KL.storeB rfl rfl rfl rfl rfl (Hr.out.blk 3 rfl) rfl (by kernel_rfl) (by kernel_rfl) ?_
        intro w7 hb7 hk7
        have Hr' := Lib.hid (Hr.out.turn 3 rfl hb7 hk7)
        clear Hr
        have Hr := Hr'
        clear Hr'
        clear hb7 hk7
        refine gg ?_
        refine KR.finCT Tryz.results23 rfl rfl (Hr.out.blk 3 rfl) Tryz.underlying33 rfl (by kernel_rfl) ⟨⟨0, 0, 0, ⟨#[]⟩⟩, false, rfl, Hr.out.kept, (fun h => by cases h), (fun b hb he => by obtain ⟨h1, h2⟩ := HK.out b hb he; have h3 := HN.out; have h4 := congrArg List.length h2; rw [hb.rest2 (by rw [← h1]; rfl)] at h4; simp at h3 h4; have := Ht1.out; omega)⟩
      have ht1' := of_decide_eq_false ht1
      obtain ⟨x1, ws2, hx1⟩ : ∃ x r, ws' = x :: r := by
        cases ws' with
        | nil => have := HN.out; simp at this; omega
        | cons a b => exact ⟨a, b, rfl⟩
      subst hx1
      have hx1s : x1.size ≤ 100000 := Nat.le_trans (Hws.out.size x1 (by simp)) hs
      obtain ⟨b1, o1, hA1, _, _, hxx⟩ := (Hr.out.get (P := slC 1 A N (strs (x0 :: x1 :: ws2))) 2 rfl).2 (by omega)
      have hNi : (1 : Int) < (N : Int) := by omega
      have hNj : 1 < N := by omega
      have hcw : w5.cell? ⟨b1, o1 + 1, none⟩ = some (.string x1) := by have := hxx 1 (by simp); simpa using this
      subst hA1
      clear hxx
      refine gg ?_
      refine KL.call rfl rfl rfl rfl rfl (by go_simp) (rf_num x1 _ hx1s) ?_
      rintro e w6 ⟨rfl, e6⟩
      obtain rfl := e6.symm
      clear e6
      refine ⟨_, rfl, ?_⟩
      clear hcw
      have hfz := (Hr.out.blk 1 rfl).frozen
      refine gg ?_
      refine KL.store1 Hr.out 1 1 rfl rfl rfl rfl rfl rfl (by go_simp; first | done | rfl) ?_
      clear hcl hfz
      intro w7 e7 hr7
      have Hr' := Lib.hid hr7
      clear Hr
      have Hr := Hr'
      clear Hr'
      clear hr7 e7
      have hcl := (Hr.out.blk 1 rfl).cell
      obtain ⟨t3, ht3⟩ : ∃ t, decide ((N : Int) ≤ (1 : Int) + 1) = t := ⟨_, rfl⟩
      refine gg ?_
      cases t3
      case true =>
        have Ht3 := Lib.hid (of_decide_eq_true ht3)
        refine gg ?_
        refine KL.told (v := .agg #[.int .i64 0, .int .i64 0, .int .i64 0, .string ⟨#[]⟩]) rfl rfl rfl (fun ρ hρ => by skip; simp only [execOp]; go_simp; first | done | rfl) ?_
        refine gg ?_
        refine KL.storeB rfl rfl rfl rfl rfl (Hr.out.blk 3 rfl) rfl (by kernel_rfl) (by kernel_rfl) ?_
        intro w7 hb7 hk7
        have Hr' := Lib.hid (Hr.out.turn 3 rfl hb7 hk7)
        clear Hr
        have Hr := Hr'
        clear Hr'
        clear hb7 hk7
        refine gg ?_
        refine KR.finCT Tryz.results23 rfl rfl (Hr.out.blk 3 rfl) Tryz.underlying33 rfl (by kernel_rfl) ⟨⟨0, 0, 0, ⟨#[]⟩⟩, false, rfl, Hr.out.kept, (fun h => by cases h), (fun b hb he => by obtain ⟨h1, h2⟩ := HK.out b hb he; have h3 := HN.out; have h4 := congrArg List.length h2; rw [hb.rest2 (by rw [← h1]; rfl)] at h4; simp at h3 h4; have := Ht3.out; omega)⟩
      have ht3' := of_decide_eq_false ht3
      obtain ⟨x2, ws3, hx2⟩ : ∃ x r, ws2 = x :: r := by
        cases ws2 with
        | nil => have := HN.out; simp at this; omega
        | cons a b => exact ⟨a, b, rfl⟩
      subst hx2
      have hx2s : x2.size ≤ 100000 := Nat.le_trans (Hws.out.size x2 (by simp)) hs
      obtain ⟨b2, o2, hA2, _, _, hxx⟩ := (Hr.out.get (P := slC 1 (some ⟨b1, o1, none⟩) N (strs (x0 :: x1 :: x2 :: ws3))) 2 rfl).2 (by omega)
      injection hA2 with hA2
      injection hA2 with hb2 ho2
      subst hb2 ho2
      have hNk : (2 : Int) < (N : Int) := by omega
      have hNl : (1 : Int) + 1 < (N : Int) := by omega
      have hcw : w7.cell? ⟨b1, o1 + 2, none⟩ = some (.string x2) := by have := hxx 2 (by simp); simpa using this
      clear hxx
      obtain ⟨t4, ht4⟩ : ∃ t, (!decide (x2 = ({ data := #[45] } : ByteArray))) = t := ⟨_, rfl⟩
      have HB : Hid (∀ b : PAct, b.Ok → b.head = kb s → b.conn = numR (kb x1) ∧ b.n = 0 ∧ hexT b.bytes.data.toList = kb x2) := Lib.hid (fun b hb he => by
        obtain ⟨h1, h2⟩ := HK.out b hb he
        rw [hb.rest2 (by rw [← h1]; rfl), List.map_cons, List.map_cons] at h2
        injection h2 with h2 h4
        injection h4 with h4 _
        have hn := hb.nn
        rw [← h1] at hn
        exact ⟨by rw [h2]; exact (numR_itoa hb.c0 hb.c1).symm, hn.resolve_left (by decide), h4.symm⟩)
      refine gg ?_
      cases t4
      case false =>
        have H4 := Lib.hid (nnd ht4)
        have HC : Hid (∀ b : PAct, b.Ok → b.head = kb s → b = ⟨((2 : Nat) : Int), numR (kb x1), 0, ⟨#[]⟩⟩) := Lib.hid (fun b hb he => by
          obtain ⟨h1, h2, h3⟩ := HB.out b hb he
          have e : b.bytes.data.toList = [] := hexT_inj (by rw [h3, H4.out]; rfl)
          exact act_eq (HK.out b hb he).1.symm h1 h2 (by
            apply ByteArray.ext
            apply Array.toList_inj.1
            exact e))
        refine gg ?_
        have PL := fun w => rf_line ⟨((2 : Nat) : Int), numR (kb x1), 0, ⟨#[]⟩⟩ w (show 0 ≤ 100000 by omega)
        obtain ⟨r, hr⟩ : ∃ r, PAct.ok ⟨((2 : Nat) : Int), numR (kb x1), 0, ⟨#[]⟩⟩ = r := ⟨_, rfl⟩
        obtain ⟨L, hL⟩ : ∃ L, lineR ⟨((2 : Nat) : Int), numR (kb x1), 0, ⟨#[]⟩⟩ = L := ⟨_, rfl⟩
        simp only [hr, hL] at PL
        have HrL := Lib.hid (And.intro hr hL)
        have PL := Lib.hid PL
        clear hr hL
        refine KL.call rfl rfl rfl rfl rfl (by go_simp) (PL.out _) ?_
        rintro e w6 ⟨rfl, hk6⟩
        refine ⟨_, rfl, ?_⟩
        have Hr' := Lib.hid (Hr.out.pure hk6)
        clear Hr
        have Hr := Hr'
        clear Hr'
        clear hk6 PL
        have hcl := (Hr.out.blk 1 rfl).cell
        obtain ⟨t2, ht2⟩ : ∃ t, decide (L = s) = t := ⟨_, rfl⟩
        refine gg ?_
        cases r
        case false =>
          refine gg ?_
          refine KL.storeB rfl rfl rfl rfl rfl (Hr.out.blk 3 rfl) rfl (by kernel_rfl) (by kernel_rfl) ?_
          intro w7 hb7 hk7
          have Hr' := Lib.hid (Hr.out.turn 3 rfl hb7 hk7)
          clear Hr
          have Hr := Hr'
          clear Hr'
          clear hb7 hk7
          refine gg ?_
          refine KR.finCT Tryz.results23 rfl rfl (Hr.out.blk 3 rfl) Tryz.underlying33 rfl (by kernel_rfl) ⟨⟨((2 : Nat) : Int), numR (kb x1), 0, ⟨#[]⟩⟩, false, rfl, Hr.out.kept, (fun h => by cases h), (fun b hb he => by have e := HC.out b hb he; have h1 := HrL.out.1; rw [← e] at h1; rw [ok_iff.2 hb] at h1; cases h1)⟩
        have Hfh : Hid (L = ⟨(PAct.head ⟨((2 : Nat) : Int), numR (kb x1), 0, ⟨#[]⟩⟩).toArray⟩) := Lib.hid (by rw [← HrL.out.2]; exact if_pos HrL.out.1)
        refine gg ?_
        cases t2
        case false =>
          have Hne := Lib.hid (of_decide_eq_false ht2)
          refine gg ?_
          refine KL.storeB rfl rfl rfl rfl rfl (Hr.out.blk 3 rfl) rfl (by kernel_rfl) (by kernel_rfl) ?_
          intro w7 hb7 hk7
          have Hr' := Lib.hid (Hr.out.turn 3 rfl hb7 hk7)
          clear Hr
          have Hr := Hr'
          clear Hr'
          clear hb7 hk7
          refine gg ?_
          refine KR.finCT Tryz.results23 rfl rfl (Hr.out.blk 3 rfl) Tryz.underlying33 rfl (by kernel_rfl) ⟨⟨((2 : Nat) : Int), numR (kb x1), 0, ⟨#[]⟩⟩, false, rfl, Hr.out.kept, (fun h => by cases h), (fun b hb he => absurd (by have e := HC.out b hb he; rw [Hfh.out, ← e, he]; exact bs_kb s : L = s) Hne.out)⟩
        have Heq := Lib.hid (of_decide_eq_true ht2)
        refine gg ?_
        refine KL.storeB rfl rfl rfl rfl rfl (Hr.out.blk 3 rfl) rfl (by kernel_rfl) (by kernel_rfl) ?_
        intro w7 hb7 hk7
        have Hr' := Lib.hid (Hr.out.turn 3 rfl hb7 hk7)
        clear Hr
        have Hr := Hr'
        clear Hr'
        clear hb7 hk7
        refine gg ?_
        refine KR.finCT Tryz.results23 rfl rfl (Hr.out.blk 3 rfl) Tryz.underlying33 rfl (by kernel_rfl) ⟨⟨((2 : Nat) : Int), numR (kb x1), 0, ⟨#[]⟩⟩, true, rfl, Hr.out.kept, (fun _ => ⟨ok_iff.1 HrL.out.1, by rw [← Heq.out, Hfh.out]; exact (kb_bs _).symm⟩), (fun _ _ _ => rfl)⟩
      have H4 := Lib.hid (of_not_decide ht4)
      have HB2 : Hid (∀ b : PAct, b.Ok → b.head = kb s → b.conn = numR (kb x1) ∧ b.n = 0 ∧ hexL b.bytes.data.toList = kb x2) := Lib.hid (fun b hb he => by
        obtain ⟨h1, h2, h3⟩ := HB.out b hb he
        refine ⟨h1, h2, ?_⟩
        unfold hexT at h3
        split at h3
        · exact absurd (kb_inj.1 (by rw [← h3]; rfl)) H4.out
        · exact h3)
      clear HB
      obtain ⟨t5, ht5⟩ : ∃ t, (!decide (((x2.size % 2 : Nat) : Int) = 0)) = t := ⟨_, rfl⟩
      refine gg ?_
      refine kp ?_ (oK (run_rem2 (n := x2.size) (by omega)))
      refine gg ?_
      cases t5
      case true =>
        have H5 := Lib.hid (of_not_decide ht5)
        refine gg ?_
        refine KL.told (v := .agg #[.int .i64 0, .int .i64 0, .int .i64 0, .string ⟨#[]⟩]) rfl rfl rfl (fun ρ hρ => by skip; simp only [execOp]; go_simp; first | done | rfl) ?_
        refine gg ?_
        refine KL.storeB rfl rfl rfl rfl rfl (Hr.out.blk 3 rfl) rfl (by kernel_rfl) (by kernel_rfl) ?_
        intro w7 hb7 hk7
        have Hr' := Lib.hid (Hr.out.turn 3 rfl hb7 hk7)
        clear Hr
        have Hr := Hr'
        clear Hr'
        clear hb7 hk7
        refine gg ?_
        refine KR.finCT Tryz.results23 rfl rfl (Hr.out.blk 3 rfl) Tryz.underlying33 rfl (by kernel_rfl) ⟨⟨0, 0, 0, ⟨#[]⟩⟩, false, rfl, Hr.out.kept, (fun h => by cases h), (fun b hb he => by have h1 := (HB2.out b hb he).2.2; have h2 := hex_even b.bytes.data.toList; rw [h1, kb_len] at h2; exact absurd (by omega : ((x2.size % 2 : Nat) : Int) = 0) H5.out)⟩
      obtain ⟨M, hM⟩ : ∃ M, x2.size = 2 * M := ⟨x2.size / 2, by have := nnd ht5; omega⟩
      have HM := Lib.hid hM
      have Hr' := Lib.hid (Hr.out.addNil 5 1)
      clear Hr
      have Hr := Hr'
      clear Hr'
      clear hcw hcl ht5 hM
      refine gg ?_
      refine KW.loop (ι := Nat × List UInt8 × (Option Addr × Nat)) (fun p => [(0, .string s), (2, .pointer (some ⟨g2, 0, none⟩)), (3, .bool false), (4, .slice (some ⟨b1, o1, none⟩) N c), (5, .pointer (some ⟨g5, 0, none⟩)), (8, .int .i64 (1 + 1)), (9, .slice p.2.2.1 p.2.1.length p.2.2.2), (10, .int .i64 ((2 * p.1 : Nat) : Int))]) (fun p w' => p.1 ≤ M ∧ p.2.1.length = p.1 ∧ Hid (∀ l, hexL l = kb x2 → p.2.1 = l.take p.1) ∧ Run w (fun _ => False) w' [ownC 5 1 (.slice p.2.2.1 p.2.1.length p.2.2.2) p.2.1.length (bvs p.2.1), slC 1 (some ⟨g6, 0, none⟩) 8 wrds8.toList, blkC g5 33 #[.int .i64 ((2 : Nat) : Int), .int .i64 (numR (kb x1)), .int .i64 0, .string ⟨#[]⟩], slC 1 (some ⟨b1, o1, none⟩) N (strs (x0 :: x1 :: x2 :: ws3)), blkC g2 33 #[.int .i64 0, .int .i64 0, .int .i64 0, .string ⟨#[]⟩]]) (fun p => M - p.1) (0, [], (none, 0)) ⟨Nat.zero_le _, rfl, Lib.hid (fun l _ => rfl), Hr.out⟩ (kle_ok (by repeat' (first | exact trivial | refine ⟨rfl, ?_⟩))) ?_
      rintro ⟨j, out, ⟨A9, c9⟩⟩ w8 ⟨hjM, hol, Hout, hr8⟩
      simp only at hjM hol Hout hr8
      have Hr' := Lib.hid hr8
      clear Hr
      have Hr := Hr'
      clear Hr'
      clear hr8
      have hcw : w8.cell? ⟨b1, o1 + 2, none⟩ = some (.string x2) := by
        obtain ⟨b', o', hA', _, _, hx'⟩ := (Hr.out.get (P := slC 1 (some ⟨b1, o1, none⟩) N (strs (x0 :: x1 :: x2 :: ws3))) 3 rfl).2 (by omega)
        injection hA' with hA'
        injection hA' with h1 h2
        subst h1 h2
        have := hx' 2 (by simp)
        simpa using this
      by_cases hlt : j < M
      · have hd : decide (((2 * j : Nat) : Int) + 1 < (x2.size : Int)) = true := by rw [decide_eq_true_eq, HM.out]; omega
        obtain ⟨cx, hcx⟩ : ∃ b, x2.data.toList[2 * j]? = some b := ⟨_, List.getElem?_eq_getElem (by have := kb_len x2; unfold kb at this; rw [this, HM.out]; omega)⟩
        obtain ⟨cy, hcy⟩ : ∃ b, x2.data.toList[2 * j + 1]? = some b := ⟨_, List.getElem?_eq_getElem (by have := kb_len x2; unfold kb at this; rw [this, HM.out]; omega)⟩
        have Hcx := Lib.hid hcx
        have Hcy := Lib.hid hcy
        clear hcx hcy
        have hz2 : 2 * j + 1 ≤ 200000 := by have := HM.out; omega
        refine gg ?_
        refine KW.quiet [(6, .int .i64 (halfR cx)), (14, .int .i64 (halfR cy))] ?_
        have hcw2 : w8.drew.cell? ⟨b1, o1 + 2, none⟩ = some (.string x2) := hcw
        have Hr' := Lib.hid Hr.out.drew
        clear Hr
        have Hr := Hr'
        clear Hr'
        clear hcw
        generalize w8.drew = w9 at *
        refine gq ?_
        refine qk1 ?_ (oJ Hcx.out)
        refine gq ?_
        refine KQ.call rfl rfl rfl rfl rfl rfl (by go_simp) (rf_half cx w9) ?_
        refine gq ?_
        refine qk1 ?_ (oJ (j := 2 * j + 1) Hcy.out (hi := by omega))
        refine gq ?_
        refine KQ.call rfl rfl rfl rfl rfl rfl (by go_simp) (rf_half cy w9) ?_
        obtain ⟨X, hX⟩ : ∃ X, halfR cx = X := ⟨_, rfl⟩
        obtain ⟨Y, hY⟩ : ∃ Y, halfR cy = Y := ⟨_, rfl⟩
        have hXl := halfR_le cx
        have hYl := halfR_le cy
        rw [hX] at hXl
        rw [hY] at hYl
        have HX := Lib.hid hX
        have HY := Lib.hid hY
        simp only [hX, hY]
        clear hX hY hcw2 hd
        have Hin : Hid (∀ l, hexL l = kb x2 → ∃ b : UInt8, l[j]? = some b ∧ X = ((b.toNat / 16 : Nat) : Int) ∧ Y = ((b.toNat % 16 : Nat) : Int)) := Lib.hid (fun l hl => by
          have hz := hex_even l
          rw [hl, kb_len, HM.out] at hz
          obtain ⟨b, hb⟩ : ∃ b, l[j]? = some b := ⟨_, List.getElem?_eq_getElem (by omega)⟩
          obtain ⟨h1, h2⟩ := hexL_at hb
          rw [hl] at h1 h2
          have h3 : x2.data.toList[2 * j]? = some (hexD (b.toNat / 16)) := h1
          have h4 : x2.data.toList[2 * j + 1]? = some (hexD (b.toNat % 16)) := h2
          rw [Hcx.out] at h3
          rw [Hcy.out] at h4
          injection h3 with h3
          injection h4 with h4
          have hb256 := b.toNat_lt
          refine ⟨b, hb, ?_, ?_⟩
          · rw [← HX.out, h3, halfR_hex (by omega)]
          · rw [← HY.out, h4, halfR_hex (by omega)])
        obtain ⟨t6, ht6⟩ : ∃ t, decide (X < (0 : Int)) = t := ⟨_, rfl⟩
        obtain ⟨t7, ht7⟩ : ∃ t, decide (Y < (0 : Int)) = t := ⟨_, rfl⟩
        refine gq ?_
        refine gg ?_
        cases t6
        case true =>
          have H6 := Lib.hid (of_decide_eq_true ht6)
          have Hr' := Lib.hid (Hr.out.drop 0)
          clear Hr
          have Hr := Hr'
          clear Hr'
          refine gg ?_
          refine gg ?_
          refine KL.told (v := .agg #[.int .i64 0, .int .i64 0, .int .i64 0, .string ⟨#[]⟩]) rfl rfl rfl (fun ρ hρ => by skip; simp only [execOp]; go_simp; first | done | rfl) ?_
          refine gg ?_
          refine KL.storeB rfl rfl rfl rfl rfl (Hr.out.blk 3 rfl) rfl (by kernel_rfl) (by kernel_rfl) ?_
          intro w7 hb7 hk7
          have Hr' := Lib.hid (Hr.out.turn 3 rfl hb7 hk7)
          clear Hr
          have Hr := Hr'
          clear Hr'
          clear hb7 hk7
          refine gg ?_
          refine KR.finCT Tryz.results23 rfl rfl (Hr.out.blk 3 rfl) Tryz.underlying33 rfl (by kernel_rfl) ⟨⟨0, 0, 0, ⟨#[]⟩⟩, false, rfl, Hr.out.kept, (fun h => by cases h), (fun b hb he => by obtain ⟨c0, _, h1, _⟩ := Hin.out _ (HB2.out b hb he).2.2; have := H6.out; omega)⟩
        refine gg ?_
        cases t7
        case true =>
          have H7 := Lib.hid (of_decide_eq_true ht7)
          have Hr' := Lib.hid (Hr.out.drop 0)
          clear Hr
          have Hr := Hr'
          clear Hr'
          refine gg ?_
          refine gg ?_
          refine KL.told (v := .agg #[.int .i64 0, .int .i64 0, .int .i64 0, .string ⟨#[]⟩]) rfl rfl rfl (fun ρ hρ => by skip; simp only [execOp]; go_simp; first | done | rfl) ?_
          refine gg ?_
          refine KL.storeB rfl rfl rfl rfl rfl (Hr.out.blk 3 rfl) rfl (by kernel_rfl) (by kernel_rfl) ?_
          intro w7 hb7 hk7
          have Hr' := Lib.hid (Hr.out.turn 3 rfl hb7 hk7)
          clear Hr
          have Hr := Hr'
          clear Hr'
          clear hb7 hk7
          refine gg ?_
          refine KR.finCT Tryz.results23 rfl rfl (Hr.out.blk 3 rfl) Tryz.underlying33 rfl (by kernel_rfl) ⟨⟨0, 0, 0, ⟨#[]⟩⟩, false, rfl, Hr.out.kept, (fun h => by cases h), (fun b hb he => by obtain ⟨c0, _, _, h1⟩ := Hin.out _ (HB2.out b hb he).2.2; have := H7.out; omega)⟩
        have h6 := of_decide_eq_false ht6
        have h7 := of_decide_eq_false ht7
        obtain ⟨Z, hZ⟩ : ∃ Z : UInt8, (Z.toNat : Int) = 16 * X + Y := ⟨UInt8.ofNat (16 * X + Y).toNat, by rw [UInt8.toNat_ofNat', Nat.mod_eq_of_lt (by omega)]; omega⟩
        have HZ := Lib.hid hZ
        clear hZ
        refine gg ?_
        refine kp ?_ (oK (run_mul (kk := .i64) (a := 16) (b := X) (r := 16 * X) (IntWalk.i64_in _ (by omega))))
        refine gg ?_
        refine kp ?_ (oCv (v := .int .u8 (Z.toNat : Int)) (hr := by rw [HZ.out]; exact run_i64u8 (by omega)))
        refine KL.makes (v := .slice (some ⟨w9.heap.size, 0, none⟩) 1 1) (w' := w9.alloc (.cells #[.int .u8 (Z.toNat : Int)] 5)) rfl rfl rfl (fun ρ hρ => by have e := hρ (.tmp 121) _ rfl; simp only [execOp]; go_simp; first | done | rfl) ?_
        have hsl := Sl.lit w9 #[.int .u8 (Z.toNat : Int)] 5 1 1 (bvs [Z]) rfl rfl
        refine KL.app (Hr.out.alloc _) 0 rfl Tryz.underlying50 info_u8 rfl (by omega) hsl (bvs_one _) (by omega) (by omega) rfl rfl rfl rfl rfl rfl ?_
        clear hsl
        intro A7 c7 w10 e1 e2 hr10
        clear e1 e2
        have hr11 := hr10
        rw [show bvs out ++ bvs [Z] = bvs (out ++ [Z]) by simp [bvs]] at hr11
        have Hr11 := Lib.hid hr11
        clear hr10 hr11
        refine gg ?_
        refine KE.rnd2 (j + 1, out ++ [Z], (A7, c7)) (by
          refine ⟨rfl, rfl, rfl, rfl, rfl, rfl, ?_, ?_, trivial⟩
          · simp only [List.length_append, List.length_singleton]; rfl
          · show _ = some (Value.int .i64 ((2 * (j + 1) : Nat) : Int))
            rw [show ((2 * (j + 1) : Nat) : Int) = ((2 * j : Nat) : Int) + 2 by omega]; rfl) ⟨hlt, by simp only [List.length_append, List.length_singleton]; omega, Lib.hid (fun l hl => by
            obtain ⟨b, hb, h1, h2⟩ := Hin.out l hl
            have hZb : Z = b := UInt8.toNat_inj.1 (by have := HZ.out; omega)
            rw [List.take_add_one, hb, ← Hout.out l hl, hZb]; rfl), by simp only [List.length_append, List.length_singleton]; exact Hr11.out⟩ (by show M - (j + 1) < M - j; omega)
      · have hd : decide (((2 * j : Nat) : Int) + 1 < (x2.size : Int)) = false := by rw [decide_eq_false_iff_not, HM.out]; omega
        have hs1 := (Hr.out.own 0 rfl).toO.form
        obtain ⟨A10, c10, e9, _, _, hs9⟩ := hs1
        injection e9 with e91 _ e93
        subst e91 e93
        have HC : Hid (∀ b : PAct, b.Ok → b.head = kb s → b = ⟨((2 : Nat) : Int), numR (kb x1), 0, ⟨out.toArray⟩⟩) := Lib.hid (fun b hb he => by
          obtain ⟨h1, h2, h3⟩ := HB2.out b hb he
          have hz := hex_even b.bytes.data.toList
          rw [h3, kb_len, HM.out] at hz
          have h4 := Hout.out _ h3
          rw [List.take_of_length_le (by omega)] at h4
          exact act_eq (HK.out b hb he).1.symm h1 h2 (by
            apply ByteArray.ext
            apply Array.toList_inj.1
            rw [← h4]))
        have holz : out.length ≤ 100000 := by have := HM.out; omega
        refine gg ?_
        refine kp ?_ (oStr hs9 Tryz.underlying50 Tryz.underlying5)
        clear hs9
        have Hr' := Lib.hid (Hr.out.drop 0)
        clear Hr
        have Hr := Hr'
        clear Hr'
        have hcl := (Hr.out.blk 1 rfl).cell
        have hfz := (Hr.out.blk 1 rfl).frozen
        refine gg ?_
        refine KL.store1 Hr.out 1 3 rfl rfl rfl rfl rfl rfl (by go_simp; first | done | rfl) ?_
        clear hcl hfz
        intro w9 e9 hr9
        have Hr' := Lib.hid hr9
        clear Hr
        have Hr := Hr'
        clear Hr'
        clear hr9 e9
        have hcl := (Hr.out.blk 1 rfl).cell
        refine gg ?_
        have PL := fun w => rf_line ⟨((2 : Nat) : Int), numR (kb x1), 0, ⟨out.toArray⟩⟩ w (show (⟨out.toArray⟩ : ByteArray).size ≤ 100000 by rw [bs_size]; exact holz)
        obtain ⟨r, hr⟩ : ∃ r, PAct.ok ⟨((2 : Nat) : Int), numR (kb x1), 0, ⟨out.toArray⟩⟩ = r := ⟨_, rfl⟩
        obtain ⟨L, hL⟩ : ∃ L, lineR ⟨((2 : Nat) : Int), numR (kb x1), 0, ⟨out.toArray⟩⟩ = L := ⟨_, rfl⟩
        simp only [hr, hL] at PL
        have HrL := Lib.hid (And.intro hr hL)
        have PL := Lib.hid PL
        clear hr hL
        refine KL.call rfl rfl rfl rfl rfl (by go_simp) (PL.out _) ?_
        rintro e w6 ⟨rfl, hk6⟩
        refine ⟨_, rfl, ?_⟩
        have Hr' := Lib.hid (Hr.out.pure hk6)
        clear Hr
        have Hr := Hr'
        clear Hr'
        clear hk6 PL
        have hcl := (Hr.out.blk 1 rfl).cell
        obtain ⟨t2, ht2⟩ : ∃ t, decide (L = s) = t := ⟨_, rfl⟩
        refine gg ?_
        cases r
        case false =>
          refine gg ?_
          refine KL.storeB rfl rfl rfl rfl rfl (Hr.out.blk 3 rfl) rfl (by kernel_rfl) (by kernel_rfl) ?_
          intro w7 hb7 hk7
          have Hr' := Lib.hid (Hr.out.turn 3 rfl hb7 hk7)
          clear Hr
          have Hr := Hr'
          clear Hr'
          clear hb7 hk7
          refine gg ?_
          refine KR.finCT Tryz.results23 rfl rfl (Hr.out.blk 3 rfl) Tryz.underlying33 rfl (by kernel_rfl) ⟨⟨((2 : Nat) : Int), numR (kb x1), 0, ⟨out.toArray⟩⟩, false, rfl, Hr.out.kept, (fun h => by cases h), (fun b hb he => by have e := HC.out b hb he; have h1 := HrL.out.1; rw [← e] at h1; rw [ok_iff.2 hb] at h1; cases h1)⟩
        have Hfh : Hid (L = ⟨(PAct.head ⟨((2 : Nat) : Int), numR (kb x1), 0, ⟨out.toArray⟩⟩).toArray⟩) := Lib.hid (by rw [← HrL.out.2]; exact if_pos HrL.out.1)
        refine gg ?_
        cases t2
        case false =>
          have Hne := Lib.hid (of_decide_eq_false ht2)
          refine gg ?_
          refine KL.storeB rfl rfl rfl rfl rfl (Hr.out.blk 3 rfl) rfl (by kernel_rfl) (by kernel_rfl) ?_
          intro w7 hb7 hk7
          have Hr' := Lib.hid (Hr.out.turn 3 rfl hb7 hk7)
          clear Hr
          have Hr := Hr'
          clear Hr'
          clear hb7 hk7
          refine gg ?_
          refine KR.finCT Tryz.results23 rfl rfl (Hr.out.blk 3 rfl) Tryz.underlying33 rfl (by kernel_rfl) ⟨⟨((2 : Nat) : Int), numR (kb x1), 0, ⟨out.toArray⟩⟩, false, rfl, Hr.out.kept, (fun h => by cases h), (fun b hb he => absurd (by have e := HC.out b hb he; rw [Hfh.out, ← e, he]; exact bs_kb s : L = s) Hne.out)⟩
        have Heq := Lib.hid (of_decide_eq_true ht2)
        refine gg ?_
        refine KL.storeB rfl rfl rfl rfl rfl (Hr.out.blk 3 rfl) rfl (by kernel_rfl) (by kernel_rfl) ?_
        intro w7 hb7 hk7
        have Hr' := Lib.hid (Hr.out.turn 3 rfl hb7 hk7)
        clear Hr
        have Hr := Hr'
        clear Hr'
        clear hb7 hk7
        refine gg ?_
        refine KR.finCT Tryz.results23 rfl rfl (Hr.out.blk 3 rfl) Tryz.underlying33 rfl (by kernel_rfl) ⟨⟨((2 : Nat) : Int), numR (kb x1), 0, ⟨out.toArray⟩⟩, true, rfl, Hr.out.kept, (fun _ => ⟨ok_iff.1 HrL.out.1, by rw [← Heq.out, Hfh.out]; exact (kb_bs _).symm⟩), (fun _ _ _ => rfl)⟩
    · obtain ⟨t1, ht1⟩ : ∃ t, decide ((N : Int) ≤ (1 : Int)) = t := ⟨_, rfl⟩
      have hcl := (Hr.out.blk 1 rfl).cell
      refine gg ?_
      cases t1
      case true =>
        have Ht1 := Lib.hid (of_decide_eq_true ht1)
        refine gg ?_
        refine KL.told (v := .agg #[.int .i64 0, .int .i64 0, .int .i64 0, .string ⟨#[]⟩]) rfl rfl rfl (fun ρ hρ => by skip; simp only [execOp]; go_simp; first | done | rfl) ?_
        refine gg ?_
        refine KL.storeB rfl rfl rfl rfl rfl (Hr.out.blk 3 rfl) rfl (by kernel_rfl) (by kernel_rfl) ?_
        intro w7 hb7 hk7
        have Hr' := Lib.hid (Hr.out.turn 3 rfl hb7 hk7)
        clear Hr
        have Hr := Hr'
        clear Hr'
        clear hb7 hk7
        refine gg ?_
        refine KR.finCT Tryz.results23 rfl rfl (Hr.out.blk 3 rfl) Tryz.underlying33 rfl (by kernel_rfl) ⟨⟨0, 0, 0, ⟨#[]⟩⟩, false, rfl, Hr.out.kept, (fun h => by cases h), (fun b hb he => by obtain ⟨h1, h2⟩ := HK.out b hb he; have h3 := HN.out; have h4 := congrArg List.length h2; rw [hb.rest3 (by rw [← h1]; rfl)] at h4; simp at h3 h4; have := Ht1.out; omega)⟩
      have ht1' := of_decide_eq_false ht1
      obtain ⟨x1, ws2, hx1⟩ : ∃ x r, ws' = x :: r := by
        cases ws' with
        | nil => have := HN.out; simp at this; omega
        | cons a b => exact ⟨a, b, rfl⟩
      subst hx1
      have hx1s : x1.size ≤ 100000 := Nat.le_trans (Hws.out.size x1 (by simp)) hs
      obtain ⟨b1, o1, hA1, _, _, hxx⟩ := (Hr.out.get (P := slC 1 A N (strs (x0 :: x1 :: ws2))) 2 rfl).2 (by omega)
      have hNi : (1 : Int) < (N : Int) := by omega
      have hNj : 1 < N := by omega
      have hcw : w5.cell? ⟨b1, o1 + 1, none⟩ = some (.string x1) := by have := hxx 1 (by simp); simpa using this
      subst hA1
      clear hxx
      refine gg ?_
      refine KL.call rfl rfl rfl rfl rfl (by go_simp) (rf_num x1 _ hx1s) ?_
      rintro e w6 ⟨rfl, e6⟩
      obtain rfl := e6.symm
      clear e6
      refine ⟨_, rfl, ?_⟩
      clear hcw
      have hfz := (Hr.out.blk 1 rfl).frozen
      refine gg ?_
      refine KL.store1 Hr.out 1 1 rfl rfl rfl rfl rfl rfl (by go_simp; first | done | rfl) ?_
      clear hcl hfz
      intro w7 e7 hr7
      have Hr' := Lib.hid hr7
      clear Hr
      have Hr := Hr'
      clear Hr'
      clear hr7 e7
      have hcl := (Hr.out.blk 1 rfl).cell
      have HC : Hid (∀ b : PAct, b.Ok → b.head = kb s → b = ⟨((3 : Nat) : Int), numR (kb x1), 0, ⟨#[]⟩⟩) := Lib.hid (fun b hb he => by
        obtain ⟨h1, h2⟩ := HK.out b hb he
        rw [hb.rest3 (by rw [← h1]; rfl), List.map_cons] at h2
        injection h2 with h2 _
        have hc := hb.cc; have hn := hb.nn; have hz := hb.bb
        rw [← h1] at hc hn hz
        rw [h2]
        exact act_eq h1.symm (numR_itoa hb.c0 hb.c1).symm (hn.resolve_left (by decide)) (hz.resolve_left (by decide)))
      refine gg ?_
      have PL := fun w => rf_line ⟨((3 : Nat) : Int), numR (kb x1), 0, ⟨#[]⟩⟩ w (show 0 ≤ 100000 by omega)
      obtain ⟨r, hr⟩ : ∃ r, PAct.ok ⟨((3 : Nat) : Int), numR (kb x1), 0, ⟨#[]⟩⟩ = r := ⟨_, rfl⟩
      obtain ⟨L, hL⟩ : ∃ L, lineR ⟨((3 : Nat) : Int), numR (kb x1), 0, ⟨#[]⟩⟩ = L := ⟨_, rfl⟩
      simp only [hr, hL] at PL
      have HrL := Lib.hid (And.intro hr hL)
      have PL := Lib.hid PL
      clear hr hL
      refine KL.call rfl rfl rfl rfl rfl (by go_simp) (PL.out _) ?_
      rintro e w6 ⟨rfl, hk6⟩
      refine ⟨_, rfl, ?_⟩
      have Hr' := Lib.hid (Hr.out.pure hk6)
      clear Hr
      have Hr := Hr'
      clear Hr'
      clear hk6 PL
      have hcl := (Hr.out.blk 1 rfl).cell
      obtain ⟨t2, ht2⟩ : ∃ t, decide (L = s) = t := ⟨_, rfl⟩
      refine gg ?_
      cases r
      case false =>
        refine gg ?_
        refine KL.storeB rfl rfl rfl rfl rfl (Hr.out.blk 3 rfl) rfl (by kernel_rfl) (by kernel_rfl) ?_
        intro w7 hb7 hk7
        have Hr' := Lib.hid (Hr.out.turn 3 rfl hb7 hk7)
        clear Hr
        have Hr := Hr'
        clear Hr'
        clear hb7 hk7
        refine gg ?_
        refine KR.finCT Tryz.results23 rfl rfl (Hr.out.blk 3 rfl) Tryz.underlying33 rfl (by kernel_rfl) ⟨⟨((3 : Nat) : Int), numR (kb x1), 0, ⟨#[]⟩⟩, false, rfl, Hr.out.kept, (fun h => by cases h), (fun b hb he => by have e := HC.out b hb he; have h1 := HrL.out.1; rw [← e] at h1; rw [ok_iff.2 hb] at h1; cases h1)⟩
      have Hfh : Hid (L = ⟨(PAct.head ⟨((3 : Nat) : Int), numR (kb x1), 0, ⟨#[]⟩⟩).toArray⟩) := Lib.hid (by rw [← HrL.out.2]; exact if_pos HrL.out.1)
      refine gg ?_
      cases t2
      case false =>
        have Hne := Lib.hid (of_decide_eq_false ht2)
        refine gg ?_
        refine KL.storeB rfl rfl rfl rfl rfl (Hr.out.blk 3 rfl) rfl (by kernel_rfl) (by kernel_rfl) ?_
        intro w7 hb7 hk7
        have Hr' := Lib.hid (Hr.out.turn 3 rfl hb7 hk7)
        clear Hr
        have Hr := Hr'
        clear Hr'
        clear hb7 hk7
        refine gg ?_
        refine KR.finCT Tryz.results23 rfl rfl (Hr.out.blk 3 rfl) Tryz.underlying33 rfl (by kernel_rfl) ⟨⟨((3 : Nat) : Int), numR (kb x1), 0, ⟨#[]⟩⟩, false, rfl, Hr.out.kept, (fun h => by cases h), (fun b hb he => absurd (by have e := HC.out b hb he; rw [Hfh.out, ← e, he]; exact bs_kb s : L = s) Hne.out)⟩
      have Heq := Lib.hid (of_decide_eq_true ht2)
      refine gg ?_
      refine KL.storeB rfl rfl rfl rfl rfl (Hr.out.blk 3 rfl) rfl (by kernel_rfl) (by kernel_rfl) ?_
      intro w7 hb7 hk7
      have Hr' := Lib.hid (Hr.out.turn 3 rfl hb7 hk7)
      clear Hr
      have Hr := Hr'
      clear Hr'
      clear hb7 hk7
      refine gg ?_
      refine KR.finCT Tryz.results23 rfl rfl (Hr.out.blk 3 rfl) Tryz.underlying33 rfl (by kernel_rfl) ⟨⟨((3 : Nat) : Int), numR (kb x1), 0, ⟨#[]⟩⟩, true, rfl, Hr.out.kept, (fun _ => ⟨ok_iff.1 HrL.out.1, by rw [← Heq.out, Hfh.out]; exact (kb_bs _).symm⟩), (fun _ _ _ => rfl)⟩
    · obtain ⟨t1, ht1⟩ : ∃ t, decide ((N : Int) ≤ (1 : Int)) = t := ⟨_, rfl⟩
      have hcl := (Hr.out.blk 1 rfl).cell
      refine gg ?_
      cases t1
      case true =>
        have Ht1 := Lib.hid (of_decide_eq_true ht1)
        refine gg ?_
        refine KL.told (v := .agg #[.int .i64 0, .int .i64 0, .int .i64 0, .string ⟨#[]⟩]) rfl rfl rfl (fun ρ hρ => by skip; simp only [execOp]; go_simp; first | done | rfl) ?_
        refine gg ?_
        refine KL.storeB rfl rfl rfl rfl rfl (Hr.out.blk 3 rfl) rfl (by kernel_rfl) (by kernel_rfl) ?_
        intro w7 hb7 hk7
        have Hr' := Lib.hid (Hr.out.turn 3 rfl hb7 hk7)
        clear Hr
        have Hr := Hr'
        clear Hr'
        clear hb7 hk7
        refine gg ?_
        refine KR.finCT Tryz.results23 rfl rfl (Hr.out.blk 3 rfl) Tryz.underlying33 rfl (by kernel_rfl) ⟨⟨0, 0, 0, ⟨#[]⟩⟩, false, rfl, Hr.out.kept, (fun h => by cases h), (fun b hb he => by obtain ⟨h1, h2⟩ := HK.out b hb he; have h3 := HN.out; have h4 := congrArg List.length h2; rw [hb.rest4 (by rw [← h1]; rfl)] at h4; simp at h3 h4; have := Ht1.out; omega)⟩
      have ht1' := of_decide_eq_false ht1
      obtain ⟨x1, ws2, hx1⟩ : ∃ x r, ws' = x :: r := by
        cases ws' with
        | nil => have := HN.out; simp at this; omega
        | cons a b => exact ⟨a, b, rfl⟩
      subst hx1
      have hx1s : x1.size ≤ 100000 := Nat.le_trans (Hws.out.size x1 (by simp)) hs
      obtain ⟨b1, o1, hA1, _, _, hxx⟩ := (Hr.out.get (P := slC 1 A N (strs (x0 :: x1 :: ws2))) 2 rfl).2 (by omega)
      have hNi : (1 : Int) < (N : Int) := by omega
      have hNj : 1 < N := by omega
      have hcw : w5.cell? ⟨b1, o1 + 1, none⟩ = some (.string x1) := by have := hxx 1 (by simp); simpa using this
      subst hA1
      clear hxx
      refine gg ?_
      refine KL.call rfl rfl rfl rfl rfl (by go_simp) (rf_num x1 _ hx1s) ?_
      rintro e w6 ⟨rfl, e6⟩
      obtain rfl := e6.symm
      clear e6
      refine ⟨_, rfl, ?_⟩
      clear hcw
      have hfz := (Hr.out.blk 1 rfl).frozen
      refine gg ?_
      refine KL.store1 Hr.out 1 1 rfl rfl rfl rfl rfl rfl (by go_simp; first | done | rfl) ?_
      clear hcl hfz
      intro w7 e7 hr7
      have Hr' := Lib.hid hr7
      clear Hr
      have Hr := Hr'
      clear Hr'
      clear hr7 e7
      have hcl := (Hr.out.blk 1 rfl).cell
      have HC : Hid (∀ b : PAct, b.Ok → b.head = kb s → b = ⟨((4 : Nat) : Int), numR (kb x1), 0, ⟨#[]⟩⟩) := Lib.hid (fun b hb he => by
        obtain ⟨h1, h2⟩ := HK.out b hb he
        rw [hb.rest4 (by rw [← h1]; rfl), List.map_cons] at h2
        injection h2 with h2 _
        have hc := hb.cc; have hn := hb.nn; have hz := hb.bb
        rw [← h1] at hc hn hz
        rw [h2]
        exact act_eq h1.symm (numR_itoa hb.c0 hb.c1).symm (hn.resolve_left (by decide)) (hz.resolve_left (by decide)))
      refine gg ?_
      have PL := fun w => rf_line ⟨((4 : Nat) : Int), numR (kb x1), 0, ⟨#[]⟩⟩ w (show 0 ≤ 100000 by omega)
      obtain ⟨r, hr⟩ : ∃ r, PAct.ok ⟨((4 : Nat) : Int), numR (kb x1), 0, ⟨#[]⟩⟩ = r := ⟨_, rfl⟩
      obtain ⟨L, hL⟩ : ∃ L, lineR ⟨((4 : Nat) : Int), numR (kb x1), 0, ⟨#[]⟩⟩ = L := ⟨_, rfl⟩
      simp only [hr, hL] at PL
      have HrL := Lib.hid (And.intro hr hL)
      have PL := Lib.hid PL
      clear hr hL
      refine KL.call rfl rfl rfl rfl rfl (by go_simp) (PL.out _) ?_
      rintro e w6 ⟨rfl, hk6⟩
      refine ⟨_, rfl, ?_⟩
      have Hr' := Lib.hid (Hr.out.pure hk6)
      clear Hr
      have Hr := Hr'
      clear Hr'
      clear hk6 PL
      have hcl := (Hr.out.blk 1 rfl).cell
      obtain ⟨t2, ht2⟩ : ∃ t, decide (L = s) = t := ⟨_, rfl⟩
      refine gg ?_
      cases r
      case false =>
        refine gg ?_
        refine KL.storeB rfl rfl rfl rfl rfl (Hr.out.blk 3 rfl) rfl (by kernel_rfl) (by kernel_rfl) ?_
        intro w7 hb7 hk7
        have Hr' := Lib.hid (Hr.out.turn 3 rfl hb7 hk7)
        clear Hr
        have Hr := Hr'
        clear Hr'
        clear hb7 hk7
        refine gg ?_
        refine KR.finCT Tryz.results23 rfl rfl (Hr.out.blk 3 rfl) Tryz.underlying33 rfl (by kernel_rfl) ⟨⟨((4 : Nat) : Int), numR (kb x1), 0, ⟨#[]⟩⟩, false, rfl, Hr.out.kept, (fun h => by cases h), (fun b hb he => by have e := HC.out b hb he; have h1 := HrL.out.1; rw [← e] at h1; rw [ok_iff.2 hb] at h1; cases h1)⟩
      have Hfh : Hid (L = ⟨(PAct.head ⟨((4 : Nat) : Int), numR (kb x1), 0, ⟨#[]⟩⟩).toArray⟩) := Lib.hid (by rw [← HrL.out.2]; exact if_pos HrL.out.1)
      refine gg ?_
      cases t2
      case false =>
        have Hne := Lib.hid (of_decide_eq_false ht2)
        refine gg ?_
        refine KL.storeB rfl rfl rfl rfl rfl (Hr.out.blk 3 rfl) rfl (by kernel_rfl) (by kernel_rfl) ?_
        intro w7 hb7 hk7
        have Hr' := Lib.hid (Hr.out.turn 3 rfl hb7 hk7)
        clear Hr
        have Hr := Hr'
        clear Hr'
        clear hb7 hk7
        refine gg ?_
        refine KR.finCT Tryz.results23 rfl rfl (Hr.out.blk 3 rfl) Tryz.underlying33 rfl (by kernel_rfl) ⟨⟨((4 : Nat) : Int), numR (kb x1), 0, ⟨#[]⟩⟩, false, rfl, Hr.out.kept, (fun h => by cases h), (fun b hb he => absurd (by have e := HC.out b hb he; rw [Hfh.out, ← e, he]; exact bs_kb s : L = s) Hne.out)⟩
      have Heq := Lib.hid (of_decide_eq_true ht2)
      refine gg ?_
      refine KL.storeB rfl rfl rfl rfl rfl (Hr.out.blk 3 rfl) rfl (by kernel_rfl) (by kernel_rfl) ?_
      intro w7 hb7 hk7
      have Hr' := Lib.hid (Hr.out.turn 3 rfl hb7 hk7)
      clear Hr
      have Hr := Hr'
      clear Hr'
      clear hb7 hk7
      refine gg ?_
      refine KR.finCT Tryz.results23 rfl rfl (Hr.out.blk 3 rfl) Tryz.underlying33 rfl (by kernel_rfl) ⟨⟨((4 : Nat) : Int), numR (kb x1), 0, ⟨#[]⟩⟩, true, rfl, Hr.out.kept, (fun _ => ⟨ok_iff.1 HrL.out.1, by rw [← Heq.out, Hfh.out]; exact (kb_bs _).symm⟩), (fun _ _ _ => rfl)⟩
    · obtain ⟨t1, ht1⟩ : ∃ t, decide ((N : Int) ≤ (1 : Int)) = t := ⟨_, rfl⟩
      have hcl := (Hr.out.blk 1 rfl).cell
      refine gg ?_
      cases t1
      case true =>
        have Ht1 := Lib.hid (of_decide_eq_true ht1)
        refine gg ?_
        refine KL.told (v := .agg #[.int .i64 0, .int .i64 0, .int .i64 0, .string ⟨#[]⟩]) rfl rfl rfl (fun ρ hρ => by skip; simp only [execOp]; go_simp; first | done | rfl) ?_
        refine gg ?_
        refine KL.storeB rfl rfl rfl rfl rfl (Hr.out.blk 3 rfl) rfl (by kernel_rfl) (by kernel_rfl) ?_
        intro w7 hb7 hk7
        have Hr' := Lib.hid (Hr.out.turn 3 rfl hb7 hk7)
        clear Hr
        have Hr := Hr'
        clear Hr'
        clear hb7 hk7
        refine gg ?_
        refine KR.finCT Tryz.results23 rfl rfl (Hr.out.blk 3 rfl) Tryz.underlying33 rfl (by kernel_rfl) ⟨⟨0, 0, 0, ⟨#[]⟩⟩, false, rfl, Hr.out.kept, (fun h => by cases h), (fun b hb he => by obtain ⟨h1, h2⟩ := HK.out b hb he; have h3 := HN.out; have h4 := congrArg List.length h2; rw [hb.rest5 (by rw [← h1]; rfl)] at h4; simp at h3 h4; have := Ht1.out; omega)⟩
      have ht1' := of_decide_eq_false ht1
      obtain ⟨x1, ws2, hx1⟩ : ∃ x r, ws' = x :: r := by
        cases ws' with
        | nil => have := HN.out; simp at this; omega
        | cons a b => exact ⟨a, b, rfl⟩
      subst hx1
      have hx1s : x1.size ≤ 100000 := Nat.le_trans (Hws.out.size x1 (by simp)) hs
      obtain ⟨b1, o1, hA1, _, _, hxx⟩ := (Hr.out.get (P := slC 1 A N (strs (x0 :: x1 :: ws2))) 2 rfl).2 (by omega)
      have hNi : (1 : Int) < (N : Int) := by omega
      have hNj : 1 < N := by omega
      have hcw : w5.cell? ⟨b1, o1 + 1, none⟩ = some (.string x1) := by have := hxx 1 (by simp); simpa using this
      subst hA1
      clear hxx
      refine gg ?_
      refine KL.call rfl rfl rfl rfl rfl (by go_simp) (rf_num x1 _ hx1s) ?_
      rintro e w6 ⟨rfl, e6⟩
      obtain rfl := e6.symm
      clear e6
      refine ⟨_, rfl, ?_⟩
      clear hcw
      have hfz := (Hr.out.blk 1 rfl).frozen
      refine gg ?_
      refine KL.store1 Hr.out 1 2 rfl rfl rfl rfl rfl rfl (by go_simp; first | done | rfl) ?_
      clear hcl hfz
      intro w7 e7 hr7
      have Hr' := Lib.hid hr7
      clear Hr
      have Hr := Hr'
      clear Hr'
      clear hr7 e7
      have hcl := (Hr.out.blk 1 rfl).cell
      have HC : Hid (∀ b : PAct, b.Ok → b.head = kb s → b = ⟨((5 : Nat) : Int), 0, numR (kb x1), ⟨#[]⟩⟩) := Lib.hid (fun b hb he => by
        obtain ⟨h1, h2⟩ := HK.out b hb he
        rw [hb.rest5 (by rw [← h1]; rfl), List.map_cons] at h2
        injection h2 with h2 _
        have hc := hb.cc; have hn := hb.nn; have hz := hb.bb
        rw [← h1] at hc hn hz
        rw [h2]
        exact act_eq h1.symm (hc.resolve_left (by decide)) (numR_itoa hb.n0 hb.n1).symm (hz.resolve_left (by decide)))
      refine gg ?_
      have PL := fun w => rf_line ⟨((5 : Nat) : Int), 0, numR (kb x1), ⟨#[]⟩⟩ w (show 0 ≤ 100000 by omega)
      obtain ⟨r, hr⟩ : ∃ r, PAct.ok ⟨((5 : Nat) : Int), 0, numR (kb x1), ⟨#[]⟩⟩ = r := ⟨_, rfl⟩
      obtain ⟨L, hL⟩ : ∃ L, lineR ⟨((5 : Nat) : Int), 0, numR (kb x1), ⟨#[]⟩⟩ = L := ⟨_, rfl⟩
      simp only [hr, hL] at PL
      have HrL := Lib.hid (And.intro hr hL)
      have PL := Lib.hid PL
      clear hr hL
      refine KL.call rfl rfl rfl rfl rfl (by go_simp) (PL.out _) ?_
      rintro e w6 ⟨rfl, hk6⟩
      refine ⟨_, rfl, ?_⟩
      have Hr' := Lib.hid (Hr.out.pure hk6)
      clear Hr
      have Hr := Hr'
      clear Hr'
      clear hk6 PL
      have hcl := (Hr.out.blk 1 rfl).cell
      obtain ⟨t2, ht2⟩ : ∃ t, decide (L = s) = t := ⟨_, rfl⟩
      refine gg ?_
      cases r
      case false =>
        refine gg ?_
        refine KL.storeB rfl rfl rfl rfl rfl (Hr.out.blk 3 rfl) rfl (by kernel_rfl) (by kernel_rfl) ?_
        intro w7 hb7 hk7
        have Hr' := Lib.hid (Hr.out.turn 3 rfl hb7 hk7)
        clear Hr
        have Hr := Hr'
        clear Hr'
        clear hb7 hk7
        refine gg ?_
        refine KR.finCT Tryz.results23 rfl rfl (Hr.out.blk 3 rfl) Tryz.underlying33 rfl (by kernel_rfl) ⟨⟨((5 : Nat) : Int), 0, numR (kb x1), ⟨#[]⟩⟩, false, rfl, Hr.out.kept, (fun h => by cases h), (fun b hb he => by have e := HC.out b hb he; have h1 := HrL.out.1; rw [← e] at h1; rw [ok_iff.2 hb] at h1; cases h1)⟩
      have Hfh : Hid (L = ⟨(PAct.head ⟨((5 : Nat) : Int), 0, numR (kb x1), ⟨#[]⟩⟩).toArray⟩) := Lib.hid (by rw [← HrL.out.2]; exact if_pos HrL.out.1)
      refine gg ?_
      cases t2
      case false =>
        have Hne := Lib.hid (of_decide_eq_false ht2)
        refine gg ?_
        refine KL.storeB rfl rfl rfl rfl rfl (Hr.out.blk 3 rfl) rfl (by kernel_rfl) (by kernel_rfl) ?_
        intro w7 hb7 hk7
        have Hr' := Lib.hid (Hr.out.turn 3 rfl hb7 hk7)
        clear Hr
        have Hr := Hr'
        clear Hr'
        clear hb7 hk7
        refine gg ?_
        refine KR.finCT Tryz.results23 rfl rfl (Hr.out.blk 3 rfl) Tryz.underlying33 rfl (by kernel_rfl) ⟨⟨((5 : Nat) : Int), 0, numR (kb x1), ⟨#[]⟩⟩, false, rfl, Hr.out.kept, (fun h => by cases h), (fun b hb he => absurd (by have e := HC.out b hb he; rw [Hfh.out, ← e, he]; exact bs_kb s : L = s) Hne.out)⟩
      have Heq := Lib.hid (of_decide_eq_true ht2)
      refine gg ?_
      refine KL.storeB rfl rfl rfl rfl rfl (Hr.out.blk 3 rfl) rfl (by kernel_rfl) (by kernel_rfl) ?_
      intro w7 hb7 hk7
      have Hr' := Lib.hid (Hr.out.turn 3 rfl hb7 hk7)
      clear Hr
      have Hr := Hr'
      clear Hr'
      clear hb7 hk7
      refine gg ?_
      refine KR.finCT Tryz.results23 rfl rfl (Hr.out.blk 3 rfl) Tryz.underlying33 rfl (by kernel_rfl) ⟨⟨((5 : Nat) : Int), 0, numR (kb x1), ⟨#[]⟩⟩, true, rfl, Hr.out.kept, (fun _ => ⟨ok_iff.1 HrL.out.1, by rw [← Heq.out, Hfh.out]; exact (kb_bs _).symm⟩), (fun _ _ _ => rfl)⟩
    · obtain ⟨t1, ht1⟩ : ∃ t, decide ((N : Int) ≤ (1 : Int)) = t := ⟨_, rfl⟩
      have hcl := (Hr.out.blk 1 rfl).cell
      refine gg ?_
      cases t1
      case true =>
        have Ht1 := Lib.hid (of_decide_eq_true ht1)
        refine gg ?_
        refine KL.told (v := .agg #[.int .i64 0, .int .i64 0, .int .i64 0, .string ⟨#[]⟩]) rfl rfl rfl (fun ρ hρ => by skip; simp only [execOp]; go_simp; first | done | rfl) ?_
        refine gg ?_
        refine KL.storeB rfl rfl rfl rfl rfl (Hr.out.blk 3 rfl) rfl (by kernel_rfl) (by kernel_rfl) ?_
        intro w7 hb7 hk7
        have Hr' := Lib.hid (Hr.out.turn 3 rfl hb7 hk7)
        clear Hr
        have Hr := Hr'
        clear Hr'
        clear hb7 hk7
        refine gg ?_
        refine KR.finCT Tryz.results23 rfl rfl (Hr.out.blk 3 rfl) Tryz.underlying33 rfl (by kernel_rfl) ⟨⟨0, 0, 0, ⟨#[]⟩⟩, false, rfl, Hr.out.kept, (fun h => by cases h), (fun b hb he => by obtain ⟨h1, h2⟩ := HK.out b hb he; have h3 := HN.out; have h4 := congrArg List.length h2; rw [hb.rest6 (by rw [← h1]; rfl)] at h4; simp at h3 h4; have := Ht1.out; omega)⟩
      have ht1' := of_decide_eq_false ht1
      obtain ⟨x1, ws2, hx1⟩ : ∃ x r, ws' = x :: r := by
        cases ws' with
        | nil => have := HN.out; simp at this; omega
        | cons a b => exact ⟨a, b, rfl⟩
      subst hx1
      have hx1s : x1.size ≤ 100000 := Nat.le_trans (Hws.out.size x1 (by simp)) hs
      obtain ⟨b1, o1, hA1, _, _, hxx⟩ := (Hr.out.get (P := slC 1 A N (strs (x0 :: x1 :: ws2))) 2 rfl).2 (by omega)
      have hNi : (1 : Int) < (N : Int) := by omega
      have hNj : 1 < N := by omega
      have hcw : w5.cell? ⟨b1, o1 + 1, none⟩ = some (.string x1) := by have := hxx 1 (by simp); simpa using this
      subst hA1
      clear hxx
      refine gg ?_
      refine KL.call rfl rfl rfl rfl rfl (by go_simp) (rf_num x1 _ hx1s) ?_
      rintro e w6 ⟨rfl, e6⟩
      obtain rfl := e6.symm
      clear e6
      refine ⟨_, rfl, ?_⟩
      clear hcw
      have hfz := (Hr.out.blk 1 rfl).frozen
      refine gg ?_
      refine KL.store1 Hr.out 1 1 rfl rfl rfl rfl rfl rfl (by go_simp; first | done | rfl) ?_
      clear hcl hfz
      intro w7 e7 hr7
      have Hr' := Lib.hid hr7
      clear Hr
      have Hr := Hr'
      clear Hr'
      clear hr7 e7
      have hcl := (Hr.out.blk 1 rfl).cell
      obtain ⟨t3, ht3⟩ : ∃ t, decide ((N : Int) ≤ (1 : Int) + 1) = t := ⟨_, rfl⟩
      refine gg ?_
      cases t3
      case true =>
        have Ht3 := Lib.hid (of_decide_eq_true ht3)
        refine gg ?_
        refine KL.told (v := .agg #[.int .i64 0, .int .i64 0, .int .i64 0, .string ⟨#[]⟩]) rfl rfl rfl (fun ρ hρ => by skip; simp only [execOp]; go_simp; first | done | rfl) ?_
        refine gg ?_
        refine KL.storeB rfl rfl rfl rfl rfl (Hr.out.blk 3 rfl) rfl (by kernel_rfl) (by kernel_rfl) ?_
        intro w7 hb7 hk7
        have Hr' := Lib.hid (Hr.out.turn 3 rfl hb7 hk7)
        clear Hr
        have Hr := Hr'
        clear Hr'
        clear hb7 hk7
        refine gg ?_
        refine KR.finCT Tryz.results23 rfl rfl (Hr.out.blk 3 rfl) Tryz.underlying33 rfl (by kernel_rfl) ⟨⟨0, 0, 0, ⟨#[]⟩⟩, false, rfl, Hr.out.kept, (fun h => by cases h), (fun b hb he => by obtain ⟨h1, h2⟩ := HK.out b hb he; have h3 := HN.out; have h4 := congrArg List.length h2; rw [hb.rest6 (by rw [← h1]; rfl)] at h4; simp at h3 h4; have := Ht3.out; omega)⟩
      have ht3' := of_decide_eq_false ht3
      obtain ⟨x2, ws3, hx2⟩ : ∃ x r, ws2 = x :: r := by
        cases ws2 with
        | nil => have := HN.out; simp at this; omega
        | cons a b => exact ⟨a, b, rfl⟩
      subst hx2
      have hx2s : x2.size ≤ 100000 := Nat.le_trans (Hws.out.size x2 (by simp)) hs
      obtain ⟨b2, o2, hA2, _, _, hxx⟩ := (Hr.out.get (P := slC 1 (some ⟨b1, o1, none⟩) N (strs (x0 :: x1 :: x2 :: ws3))) 2 rfl).2 (by omega)
      injection hA2 with hA2
      injection hA2 with hb2 ho2
      subst hb2 ho2
      have hNk : (2 : Int) < (N : Int) := by omega
      have hNl : (1 : Int) + 1 < (N : Int) := by omega
      have hcw : w7.cell? ⟨b1, o1 + 2, none⟩ = some (.string x2) := by have := hxx 2 (by simp); simpa using this
      clear hxx
      refine gg ?_
      refine KL.call rfl rfl rfl rfl rfl (by go_simp) (rf_num x2 _ hx2s) ?_
      rintro e w8 ⟨rfl, e8⟩
      obtain rfl := e8.symm
      clear e8
      refine ⟨_, rfl, ?_⟩
      clear hcw
      have hfz := (Hr.out.blk 1 rfl).frozen
      refine gg ?_
      refine KL.store1 Hr.out 1 2 rfl rfl rfl rfl rfl rfl (by go_simp; first | done | rfl) ?_
      clear hcl hfz
      intro w9 e9 hr9
      have Hr' := Lib.hid hr9
      clear Hr
      have Hr := Hr'
      clear Hr'
      clear hr9 e9
      have hcl := (Hr.out.blk 1 rfl).cell
      have HC : Hid (∀ b : PAct, b.Ok → b.head = kb s → b = ⟨((6 : Nat) : Int), numR (kb x1), numR (kb x2), ⟨#[]⟩⟩) := Lib.hid (fun b hb he => by
        obtain ⟨h1, h2⟩ := HK.out b hb he
        rw [hb.rest6 (by rw [← h1]; rfl), List.map_cons, List.map_cons] at h2
        injection h2 with h2 h4
        injection h4 with h4 _
        have hz := hb.bb
        rw [← h1] at hz
        rw [h2, h4]
        exact act_eq h1.symm (numR_itoa hb.c0 hb.c1).symm (numR_itoa hb.n0 hb.n1).symm (hz.resolve_left (by decide)))
      refine gg ?_
      have PL := fun w => rf_line ⟨((6 : Nat) : Int), numR (kb x1), numR (kb x2), ⟨#[]⟩⟩ w (show 0 ≤ 100000 by omega)
      obtain ⟨r, hr⟩ : ∃ r, PAct.ok ⟨((6 : Nat) : Int), numR (kb x1), numR (kb x2), ⟨#[]⟩⟩ = r := ⟨_, rfl⟩
      obtain ⟨L, hL⟩ : ∃ L, lineR ⟨((6 : Nat) : Int), numR (kb x1), numR (kb x2), ⟨#[]⟩⟩ = L := ⟨_, rfl⟩
      simp only [hr, hL] at PL
      have HrL := Lib.hid (And.intro hr hL)
      have PL := Lib.hid PL
      clear hr hL
      refine KL.call rfl rfl rfl rfl rfl (by go_simp) (PL.out _) ?_
      rintro e w6 ⟨rfl, hk6⟩
      refine ⟨_, rfl, ?_⟩
      have Hr' := Lib.hid (Hr.out.pure hk6)
      clear Hr
      have Hr := Hr'
      clear Hr'
      clear hk6 PL
      have hcl := (Hr.out.blk 1 rfl).cell
      obtain ⟨t2, ht2⟩ : ∃ t, decide (L = s) = t := ⟨_, rfl⟩
      refine gg ?_
      cases r
      case false =>
        refine gg ?_
        refine KL.storeB rfl rfl rfl rfl rfl (Hr.out.blk 3 rfl) rfl (by kernel_rfl) (by kernel_rfl) ?_
        intro w7 hb7 hk7
        have Hr' := Lib.hid (Hr.out.turn 3 rfl hb7 hk7)
        clear Hr
        have Hr := Hr'
        clear Hr'
        clear hb7 hk7
        refine gg ?_
        refine KR.finCT Tryz.results23 rfl rfl (Hr.out.blk 3 rfl) Tryz.underlying33 rfl (by kernel_rfl) ⟨⟨((6 : Nat) : Int), numR (kb x1), numR (kb x2), ⟨#[]⟩⟩, false, rfl, Hr.out.kept, (fun h => by cases h), (fun b hb he => by have e := HC.out b hb he; have h1 := HrL.out.1; rw [← e] at h1; rw [ok_iff.2 hb] at h1; cases h1)⟩
      have Hfh : Hid (L = ⟨(PAct.head ⟨((6 : Nat) : Int), numR (kb x1), numR (kb x2), ⟨#[]⟩⟩).toArray⟩) := Lib.hid (by rw [← HrL.out.2]; exact if_pos HrL.out.1)
      refine gg ?_
      cases t2
      case false =>
        have Hne := Lib.hid (of_decide_eq_false ht2)
        refine gg ?_
        refine KL.storeB rfl rfl rfl rfl rfl (Hr.out.blk 3 rfl) rfl (by kernel_rfl) (by kernel_rfl) ?_
        intro w7 hb7 hk7
        have Hr' := Lib.hid (Hr.out.turn 3 rfl hb7 hk7)
        clear Hr
        have Hr := Hr'
        clear Hr'
        clear hb7 hk7
        refine gg ?_
        refine KR.finCT Tryz.results23 rfl rfl (Hr.out.blk 3 rfl) Tryz.underlying33 rfl (by kernel_rfl) ⟨⟨((6 : Nat) : Int), numR (kb x1), numR (kb x2), ⟨#[]⟩⟩, false, rfl, Hr.out.kept, (fun h => by cases h), (fun b hb he => absurd (by have e := HC.out b hb he; rw [Hfh.out, ← e, he]; exact bs_kb s : L = s) Hne.out)⟩
      have Heq := Lib.hid (of_decide_eq_true ht2)
      refine gg ?_
      refine KL.storeB rfl rfl rfl rfl rfl (Hr.out.blk 3 rfl) rfl (by kernel_rfl) (by kernel_rfl) ?_
      intro w7 hb7 hk7
      have Hr' := Lib.hid (Hr.out.turn 3 rfl hb7 hk7)
      clear Hr
      have Hr := Hr'
      clear Hr'
      clear hb7 hk7
      refine gg ?_
      refine KR.finCT Tryz.results23 rfl rfl (Hr.out.blk 3 rfl) Tryz.underlying33 rfl (by kernel_rfl) ⟨⟨((6 : Nat) : Int), numR (kb x1), numR (kb x2), ⟨#[]⟩⟩, true, rfl, Hr.out.kept, (fun _ => ⟨ok_iff.1 HrL.out.1, by rw [← Heq.out, Hfh.out]; exact (kb_bs _).symm⟩), (fun _ _ _ => rfl)⟩
    · have HC : Hid (∀ b : PAct, b.Ok → b.head = kb s → b = ⟨((7 : Nat) : Int), 0, 0, ⟨#[]⟩⟩) := Lib.hid (fun b hb he => by
        have h1 := (HK.out b hb he).1
        have hc := hb.cc; have hn := hb.nn; have hz := hb.bb
        rw [← h1] at hc hn hz
        exact act_eq h1.symm (hc.resolve_left (by decide)) (hn.resolve_left (by decide)) (hz.resolve_left (by decide)))
      have hcl := (Hr.out.blk 1 rfl).cell
      refine gg ?_
      have PL := fun w => rf_line ⟨((7 : Nat) : Int), 0, 0, ⟨#[]⟩⟩ w (show 0 ≤ 100000 by omega)
      obtain ⟨r, hr⟩ : ∃ r, PAct.ok ⟨((7 : Nat) : Int), 0, 0, ⟨#[]⟩⟩ = r := ⟨_, rfl⟩
      obtain ⟨L, hL⟩ : ∃ L, lineR ⟨((7 : Nat) : Int), 0, 0, ⟨#[]⟩⟩ = L := ⟨_, rfl⟩
      simp only [hr, hL] at PL
      have HrL := Lib.hid (And.intro hr hL)
      have PL := Lib.hid PL
      clear hr hL
      refine KL.call rfl rfl rfl rfl rfl (by go_simp) (PL.out _) ?_
      rintro e w6 ⟨rfl, hk6⟩
      refine ⟨_, rfl, ?_⟩
      have Hr' := Lib.hid (Hr.out.pure hk6)
      clear Hr
      have Hr := Hr'
      clear Hr'
      clear hk6 PL
      have hcl := (Hr.out.blk 1 rfl).cell
      obtain ⟨t2, ht2⟩ : ∃ t, decide (L = s) = t := ⟨_, rfl⟩
      refine gg ?_
      cases r
      case false =>
        refine gg ?_
        refine KL.storeB rfl rfl rfl rfl rfl (Hr.out.blk 3 rfl) rfl (by kernel_rfl) (by kernel_rfl) ?_
        intro w7 hb7 hk7
        have Hr' := Lib.hid (Hr.out.turn 3 rfl hb7 hk7)
        clear Hr
        have Hr := Hr'
        clear Hr'
        clear hb7 hk7
        refine gg ?_
        refine KR.finCT Tryz.results23 rfl rfl (Hr.out.blk 3 rfl) Tryz.underlying33 rfl (by kernel_rfl) ⟨⟨((7 : Nat) : Int), 0, 0, ⟨#[]⟩⟩, false, rfl, Hr.out.kept, (fun h => by cases h), (fun b hb he => by have e := HC.out b hb he; have h1 := HrL.out.1; rw [← e] at h1; rw [ok_iff.2 hb] at h1; cases h1)⟩
      have Hfh : Hid (L = ⟨(PAct.head ⟨((7 : Nat) : Int), 0, 0, ⟨#[]⟩⟩).toArray⟩) := Lib.hid (by rw [← HrL.out.2]; exact if_pos HrL.out.1)
      refine gg ?_
      cases t2
      case false =>
        have Hne := Lib.hid (of_decide_eq_false ht2)
        refine gg ?_
        refine KL.storeB rfl rfl rfl rfl rfl (Hr.out.blk 3 rfl) rfl (by kernel_rfl) (by kernel_rfl) ?_
        intro w7 hb7 hk7
        have Hr' := Lib.hid (Hr.out.turn 3 rfl hb7 hk7)
        clear Hr
        have Hr := Hr'
        clear Hr'
        clear hb7 hk7
        refine gg ?_
        refine KR.finCT Tryz.results23 rfl rfl (Hr.out.blk 3 rfl) Tryz.underlying33 rfl (by kernel_rfl) ⟨⟨((7 : Nat) : Int), 0, 0, ⟨#[]⟩⟩, false, rfl, Hr.out.kept, (fun h => by cases h), (fun b hb he => absurd (by have e := HC.out b hb he; rw [Hfh.out, ← e, he]; exact bs_kb s : L = s) Hne.out)⟩
      have Heq := Lib.hid (of_decide_eq_true ht2)
      refine gg ?_
      refine KL.storeB rfl rfl rfl rfl rfl (Hr.out.blk 3 rfl) rfl (by kernel_rfl) (by kernel_rfl) ?_
      intro w7 hb7 hk7
      have Hr' := Lib.hid (Hr.out.turn 3 rfl hb7 hk7)
      clear Hr
      have Hr := Hr'
      clear Hr'
      clear hb7 hk7
      refine gg ?_
      refine KR.finCT Tryz.results23 rfl rfl (Hr.out.blk 3 rfl) Tryz.underlying33 rfl (by kernel_rfl) ⟨⟨((7 : Nat) : Int), 0, 0, ⟨#[]⟩⟩, true, rfl, Hr.out.kept, (fun _ => ⟨ok_iff.1 HrL.out.1, by rw [← Heq.out, Hfh.out]; exact (kb_bs _).symm⟩), (fun _ _ _ => rfl)⟩
end Go.Proofs.YtiddhcabpmkolaaGreatDoor
set_option linter.unusedSimpArgs false
set_option linter.unusedVariables false
namespace Go.Proofs.YtiddhcabpmkolaaGreatDoor
open Go.RowKit
set_option maxRecDepth 100000
open Go
set_option maxHeartbeats 3200000 in
theorem rf_parse (s : ByteArray) (w : World) (hs : s.size ≤ 90000) : Calls Tryz.prog 12 #[.string s] w (ParP (prsL (kb s)) w) := by
  have Hr := Lib.hid ((Run.start (F := fun _ => False) (w := w) (Ps := []) trivial).addNil 33 4)
  have Hz := Lib.hid (kb_len s)
  have h0 : Hid (prsL (kb s) = (prsL ((kb s).drop 0)).puts [] 0) := Lib.hid (by
    rw [List.drop_zero]
    cases prsL (kb s) <;> simp [Prs.puts])
  refine calls_kn Tryz.func12 rfl Tryz.ntmps12 rfl ?_
  refine gg ?_
  refine KW.loop (ι := Nat × Nat × List PAct × (Option Addr × Nat)) (fun p => [(0, .string s), (5, .slice p.2.2.2.1 p.2.2.1.length p.2.2.2.2), (6, .int .i64 (p.2.1 : Int)), (7, .int .i64 (p.1 : Int))]) (fun p w' => p.1 ≤ s.size ∧ p.2.1 ≤ p.1 ∧ p.2.2.1.length ≤ p.2.1 ∧ Hid (∀ j b, p.2.1 ≤ j → j < p.1 → (kb s)[j]? = some b → b ≠ 10) ∧ Hid (prsL (kb s) = (prsL ((kb s).drop p.2.1)).puts p.2.2.1 p.2.1) ∧ Run w (fun _ => False) w' [ownC 33 4 (.slice p.2.2.2.1 p.2.2.1.length p.2.2.2.2) p.2.2.1.length (pac p.2.2.1)]) (fun p => s.size - p.1) (0, 0, [], (none, 0)) ⟨Nat.zero_le _, Nat.le_refl _, Nat.le_refl _, Lib.hid (fun j b _ h => absurd h (Nat.not_lt_zero _)), h0, Hr.out⟩ (kle_ok (by repeat' (first | exact trivial | refine ⟨rfl, ?_⟩))) ?_
  clear h0
  rintro ⟨i, from_, out, ⟨A, c⟩⟩ w1 ⟨hi, hfi, hol, Hno, Hpr, hr1⟩
  simp only at hi hfi hol Hno Hpr hr1
  have Hr' := Lib.hid hr1
  clear Hr
  have Hr := Hr'
  clear Hr'
  clear hr1
  by_cases hlt : i < s.size
  · have hd : decide ((i : Int) < (s.size : Int)) = true := by simp; omega
    obtain ⟨cb, hcb⟩ : ∃ b, (kb s)[i]? = some b := ⟨_, List.getElem?_eq_getElem (by rw [Hz.out]; exact hlt)⟩
    have Hcb := Lib.hid hcb
    have Hcd := Lib.hid (show s.data.toList[i]? = some cb from hcb)
    obtain ⟨t, ht⟩ : ∃ t, (!decide ((cb.toNat : Int) = 10)) = t := ⟨_, rfl⟩
    clear hcb
    refine gg ?_
    refine kp ?_ (oJ Hcd.out)
    refine gg ?_
    cases t
    case true =>
      have hne : cb ≠ 10 := fun e => by subst e; revert ht; decide
      have Hne := Lib.hid hne
      clear hne
      refine gg ?_
      refine KE.rnd2 (i + 1, from_, out, (A, c)) (by repeat' (first | exact trivial | refine ⟨rfl, ?_⟩)) ⟨hlt, by show from_ ≤ i + 1; omega, hol, Lib.hid (fun j b h1 h2 h3 => by
        rcases Nat.lt_or_ge j i with h | h
        · exact Hno.out j b h1 h h3
        · have h2 : j < i + 1 := h2
          obtain rfl : j = i := by omega
          rw [Hcb.out] at h3
          injection h3 with h3
          rw [← h3]; exact Hne.out), Hpr, Hr.out⟩ (by show s.size - (i + 1) < s.size - i; omega)
    have h10 : cb = 10 := UInt8.toNat_inj.1 (by have h := ht; simp at h; have e : (10 : UInt8).toNat = 10 := rfl; omega)
    obtain ⟨H, hH⟩ : ∃ H, s.extract from_ i = H := ⟨_, rfl⟩
    have hHk : kb H = ((kb s).drop from_).take (i - from_) := by rw [← hH, kb_ext]
    have hdr : (kb s).drop from_ = kb H ++ 10 :: (kb s).drop (i + 1) := by
      have e1 : (kb s).drop i = 10 :: (kb s).drop (i + 1) := by
        obtain ⟨q1, q2⟩ := List.getElem?_eq_some_iff.1 Hcb.out
        rw [List.drop_eq_getElem_cons q1, q2, h10]
      have e2 := (List.take_append_drop (i - from_) ((kb s).drop from_)).symm
      rw [List.drop_drop, show from_ + (i - from_) = i by omega, e1] at e2
      rw [e2, hHk]
    have hnl : nl1 ((kb s).drop from_) = some (kb H, (kb s).drop (i + 1)) := by
      rw [hdr]
      refine nl1_app _ _ (fun x hx => ?_)
      rw [hHk] at hx
      obtain ⟨j, hj, e⟩ := List.getElem_of_mem hx
      rw [List.length_take, List.length_drop, Hz.out] at hj
      have : (kb s)[from_ + j]? = some x := by
        rw [← e, ← List.getElem?_eq_getElem, List.getElem?_take, if_pos (by omega), List.getElem?_drop]
      exact Hno.out _ x (by omega) (by omega) this
    have hHz : H.size ≤ 100000 := by
      rw [← kb_len, hHk, List.length_take, List.length_drop, Hz.out]; omega
    have HH := Lib.hid hH
    have Hnl := Lib.hid hnl
    have RA := fun w => rf_act H w hHz
    have RA := Lib.hid RA
    clear hH hHk hdr hnl ht h10 hHz
    refine gg ?_
    refine kp ?_ (oZs (i := from_) (j := i) (ha := rfl) (hb := rfl) (hij := hfi) (hj := hi))
    rw [HH.out]
    refine gg ?_
    refine KL.call rfl rfl rfl rfl rfl (by go_simp) (RA.out _) ?_
    rintro e w2 ⟨a, r, rfl, hk2, hra, hbr⟩
    refine ⟨_, rfl, ?_⟩
    have Hra := Lib.hid hra
    have Hbr := Lib.hid hbr
    have Hr' := Lib.hid ((Hr.out.pure hk2).addBlk #[.int .i64 0, .int .i64 0, .int .i64 0, .string ⟨#[]⟩] 33)
    clear Hr
    have Hr := Hr'
    clear Hr'
    clear hk2 RA hra hbr
    refine gg ?_
    refine KL.makes (v := .pointer (some ⟨World.heap w2 |>.size, 0, none⟩)) rfl rfl rfl (fun ρ hρ => by simp only [execOp]; go_simp; first | done | rfl) ?_
    generalize w2.alloc _ = w3 at *
    generalize w2.heap.size = g4 at *
    refine KL.storeB rfl rfl rfl rfl rfl (Hr.out.blk 0 rfl) rfl (by kernel_rfl) (by kernel_rfl) ?_
    intro w4 hb4 hk4
    have Hr' := Lib.hid (Hr.out.turn 0 rfl hb4 hk4)
    clear Hr
    have Hr := Hr'
    clear Hr'
    clear hb4 hk4
    refine gg ?_
    cases r
    case false =>
      have hno : actOf (kb H) = none := by
        cases e : actOf (kb H) with
        | none => rfl
        | some b =>
          obtain ⟨h1, h2⟩ := actOf_of e
          cases Hbr.out b h1 h2
      have hbad : prsL (kb s) = .bad from_ := by
        have h := Hpr.out
        rw [prsL_bad Hnl.out hno] at h
        exact h
      have HB := Lib.hid hbad
      clear hbad hno
      refine gg ?_
      refine KR.fin3 Tryz.results12 rfl rfl rfl (by rw [HB.out]; exact ⟨rfl, Hr.out.kept⟩)
    obtain ⟨haok, hhead⟩ := Hra.out rfl
    have hact : actOf (kb H) = some a := by rw [← hhead]; exact actOf_some haok
    have hpr : Hid (prsL (kb s) = (prsL ((kb s).drop (i + 1))).puts (out ++ [a]) (i + 1)) := Lib.hid (by
      have hl := nl1_len Hnl.out
      rw [List.length_drop, List.length_drop, Hz.out] at hl
      rw [show i + 1 = from_ + ((kb H).length + 1) by omega, ← puts_put, ← prsL_put (by rw [show from_ + ((kb H).length + 1) = i + 1 by omega]; exact Hnl.out) hact]
      exact Hpr.out)
    clear hact haok hhead
    have hB := Hr.out.blk 0 rfl
    refine gg ?_
    refine kp ?_ (PR.blk rfl rfl hB Tryz.underlying33 rfl (by kernel_rfl))
    clear hB
    refine KL.makes (v := .slice (some ⟨w4.heap.size, 0, none⟩) 1 1) (w' := w4.alloc (.cells a.row 33)) rfl rfl rfl (fun ρ hρ => by have e := hρ (.tmp 32) _ rfl; simp only [execOp]; go_simp; first | done | rfl) ?_
    have hsl := Sl.lit w4 a.row 33 4 1 (pac [a]) rfl rfl
    refine KL.app (Hr.out.alloc (.cells a.row 33)) 1 rfl Tryz.underlying22 info_act rfl (by omega) hsl (pac_one _) (by omega) (by omega) rfl rfl rfl rfl rfl rfl ?_
    clear hsl
    intro A7 c7 w7 e1 e2 hr7
    clear e1 e2
    have hr8 : Run w (fun _ => False) w7 [ownC 33 4 (.slice A7 (out ++ [a]).length c7) (out ++ [a]).length (pac (out ++ [a]))] := by
      rw [List.length_append, pac_app]
      exact hr7.drop 0
    have Hr8 := Lib.hid hr8
    clear hr7 hr8
    refine gg ?_
    refine KE.rnd2 (i + 1, i + 1, out ++ [a], (A7, c7)) (by
      refine ⟨rfl, ⟨?_, ⟨rfl, ⟨rfl, trivial⟩⟩⟩⟩
      simp only [List.length_append, List.length_singleton]
      rfl) ⟨hlt, Nat.le_refl _, by simp only [List.length_append, List.length_singleton]; omega, Lib.hid (fun j b h1 h2 => by have h1 : i + 1 ≤ j := h1; have h2 : j < i + 1 := h2; omega), hpr, Hr8.out⟩ (by show s.size - (i + 1) < s.size - i; omega)
  · have hd : decide ((i : Int) < (s.size : Int)) = false := by simp; omega
    obtain rfl : i = s.size := by omega
    obtain ⟨t, ht⟩ : ∃ t, decide ((from_ : Int) < (s.size : Int)) = t := ⟨_, rfl⟩
    refine gg ?_
    cases t
    case true =>
      have hlt2 : from_ < s.size := by have := of_decide_eq_true ht; omega
      have hnone : nl1 ((kb s).drop from_) = none := nl1_none.2 (fun x hx => by
        obtain ⟨j, hj, e⟩ := List.getElem_of_mem hx
        rw [List.length_drop, Hz.out] at hj
        exact Hno.out (from_ + j) x (by omega) (by omega) (by rw [← e, ← List.getElem?_eq_getElem, List.getElem?_drop]))
      have hne : (kb s).drop from_ ≠ [] := fun e => by
        have := congrArg List.length e
        rw [List.length_drop, Hz.out] at this
        simp at this; omega
      have hbad : prsL (kb s) = .bad from_ := by
        have h := Hpr.out
        rw [prsL_none hne hnone] at h
        exact h
      have HB := Lib.hid hbad
      clear hbad hne hnone
      refine gg ?_
      refine KR.fin3 Tryz.results12 rfl rfl rfl (by rw [HB.out]; exact ⟨rfl, Hr.out.kept⟩)
    have he : from_ = s.size := by have := of_decide_eq_false ht; omega
    have hpr : prsL (kb s) = .ok out := by
      have h := Hpr.out
      rw [he, ← Hz.out, List.drop_length] at h
      rw [h, prsL_nil, Prs.puts, List.append_nil]
    have HP := Lib.hid hpr
    obtain ⟨A9, c9, e9, hc9, _, _, hs9⟩ := (Hr.out.own 0 rfl).form
    injection e9 with e9 _ e10
    subst e9 e10
    have Hs9 := Lib.hid (hs9.imp (fun b _ h => h.elim (fun h => h.elim) id))
    clear hpr he hs9
    refine gg ?_
    refine KR.fin3 Tryz.results12 rfl rfl rfl (by rw [HP.out]; exact ⟨_, _, rfl, hc9, Hs9.out, Hr.out.kept⟩)
end Go.Proofs.YtiddhcabpmkolaaGreatDoor
set_option linter.unusedSimpArgs false
set_option linter.unusedVariables false
namespace Go.Proofs.YtiddhcabpmkolaaGreatDoor
open Go.RowKit
set_option maxRecDepth 100000
open Go
set_option maxHeartbeats 3200000 in
theorem tells_top (A : Option Addr) (c : Nat) (l : List PAct) (s : ByteArray) (W : World) (hs : Sl W (fun _ => True) 4 A l.length (pac l)) (hf : ∀ a ∈ l, a.Fits) (hT : Tb W) : Calls Tryz.prog 3 #[.slice A l.length c, .string s] W (TrueW W) := by
  have Hs := Lib.hid hs
  have Hf := Lib.hid hf
  have HT := Lib.hid hT
  obtain ⟨t4, ht4⟩ : ∃ t, decide ((4000 : Int) < (s.size : Int)) = t := ⟨_, rfl⟩
  clear hs hf hT
  refine calls_kn Tryz.func3 rfl Tryz.ntmps3 rfl ?_
  refine gg ?_
  refine KL.call rfl rfl rfl rfl rfl (by go_simp) (pl_first W HT.out) ?_
  rintro e w1 ⟨rfl, hk⟩
  refine ⟨_, rfl, ?_⟩
  have Hr := Lib.hid ((Run.start (F := fun _ => False) (w := W) (Ps := []) trivial).pure hk)
  clear hk
  refine gg ?_
  refine KL.call rfl rfl rfl rfl rfl (by go_simp) (hk_acts A c l w1 (Hs.out.kept (S := fun _ => False) Hr.out.kept (fun _ _ _ h => h))) ?_
  rintro e w2 ⟨r, rfl, e2, hfew⟩
  obtain rfl := e2.symm
  clear e2
  refine ⟨_, rfl, ?_⟩
  refine gg ?_
  cases r
  case false =>
    refine gg ?_
    refine KL.call rfl rfl rfl rfl rfl (by go_simp) (pl_first _ (HT.out.kept Hr.out.kept)) ?_
    rintro e wz ⟨rfl, hk⟩
    refine ⟨_, rfl, ?_⟩
    have Hz := Lib.hid (Hr.out.pure hk).kept
    clear hk
    refine gg ?_
    refine KR.fin1 Tryz.results3 rfl ⟨rfl, Hz.out⟩
  have Hfew := Lib.hid (hfew rfl)
  clear hfew
  refine gg ?_
  cases t4
  case true =>
    refine gg ?_
    refine KL.call rfl rfl rfl rfl rfl (by go_simp) (pl_first _ (HT.out.kept Hr.out.kept)) ?_
    rintro e wz ⟨rfl, hk⟩
    refine ⟨_, rfl, ?_⟩
    have Hz := Lib.hid (Hr.out.pure hk).kept
    clear hk
    refine gg ?_
    refine KR.fin1 Tryz.results3 rfl ⟨rfl, Hz.out⟩
  have hs4 := of_decide_eq_false ht4
  have hsz : s.size ≤ 4000 := by omega
  have hzz := Hfew.out.shw Hf.out
  have S1 := fun w h1 h2 => pl_show l A c w h1 (fun a ha => by have := Hfew.out.each a ha; omega) (by omega) h2
  have S2 := fun w h1 => rf_show l A c w h1 (fun a ha => by have := Hfew.out.each a ha; omega) (by omega)
  obtain ⟨⟨T, E⟩, hSB⟩ : ∃ p, showB l = p := ⟨_, rfl⟩
  simp only [hSB] at S1 S2
  have S1 := Lib.hid S1
  have S2 := Lib.hid S2
  clear hSB hs4 ht4
  refine gg ?_
  have PX := Lib.hid (S1.out w1 (Hs.out.kept (S := fun _ => False) Hr.out.kept (fun _ _ _ h => h)) (HT.out.kept Hr.out.kept))
  refine KL.call rfl rfl rfl rfl rfl (by go_simp) PX.out ?_
  clear PX
  rintro e w3 ⟨rfl, hk3⟩
  refine ⟨_, rfl, ?_⟩
  have Hr' := Lib.hid (Hr.out.pure hk3)
  clear Hr
  have Hr := Hr'
  clear Hr'
  clear hk3
  refine gg ?_
  have PX := Lib.hid (S2.out w3 (Hs.out.kept (S := fun _ => False) Hr.out.kept (fun _ _ _ h => h)))
  refine KL.call rfl rfl rfl rfl rfl (by go_simp) PX.out ?_
  clear PX
  rintro e w4 ⟨rfl, hk4⟩
  refine ⟨_, rfl, ?_⟩
  have Hr' := Lib.hid (Hr.out.pure hk4)
  clear Hr
  have Hr := Hr'
  clear Hr'
  clear hk4 S1 S2
  have P1 := fun w h => pl_parse s w (by omega) h
  have P2 := fun w => rf_parse s w (by omega)
  have hTT : decide (T = T) = true := decide_eq_true rfl
  have hEE : decide (E = E) = true := decide_eq_true rfl
  cases hp : prsL (kb s) with
  | bad k =>
    simp only [hp] at P1 P2
    have P1 := Lib.hid P1
    have P2 := Lib.hid P2
    clear hp
    have hkk : decide ((k : Int) = (k : Int)) = true := decide_eq_true rfl
    refine gg ?_
    have PX := Lib.hid (P1.out w4 (HT.out.kept Hr.out.kept))
    refine KL.call rfl rfl rfl rfl rfl (by go_simp) PX.out ?_
    clear PX
    rintro e w5 ⟨rfl, hk5⟩
    refine ⟨_, rfl, ?_⟩
    have Hr' := Lib.hid (Hr.out.pure hk5)
    clear Hr
    have Hr := Hr'
    clear Hr'
    clear hk5
    refine gg ?_
    have PX := Lib.hid (P2.out w5)
    refine KL.call rfl rfl rfl rfl rfl (by go_simp) PX.out ?_
    clear PX
    rintro e w6 ⟨rfl, hk6⟩
    refine ⟨_, rfl, ?_⟩
    have Hr' := Lib.hid (Hr.out.pure hk6)
    clear Hr
    have Hr := Hr'
    clear Hr'
    clear hk6 P1 P2
    refine gg ?_
    have CC := hl_same none none 0 0 0 0 [] [] w6 (F := fun _ => True) (G := fun _ => True) (Sl.nil _ _ _ _) (Sl.nil _ _ _ _) (by omega) (by omega)
    rw [decide_eq_true (rfl : ([] : List PAct) = [])] at CC
    have PX := Lib.hid (CC)
    refine KL.call rfl rfl rfl rfl rfl (by go_simp) PX.out ?_
    clear PX
    rintro e w7 ⟨rfl, hk7⟩
    refine ⟨_, rfl, ?_⟩
    have Hr' := Lib.hid (Hr.out.pure hk7)
    clear Hr
    have Hr := Hr'
    clear Hr'
    clear hk7
    refine gg ?_
    refine KR.fin1 Tryz.results3 rfl ⟨rfl, Hr.out.kept⟩
  | ok m =>
    simp only [hp] at P1 P2
    have P1 := Lib.hid P1
    have P2 := Lib.hid P2
    have hml : m.length ≤ 4000 := by
      obtain ⟨h1, _⟩ := prs_back (kb s).length (kb s) (Nat.le_refl _) m hp
      have := shw_ge m
      rw [h1, kb_len] at this
      omega
    clear hp
    refine gg ?_
    have PX := Lib.hid (P1.out w4 (HT.out.kept Hr.out.kept))
    refine KL.call rfl rfl rfl rfl rfl (by go_simp) PX.out ?_
    clear PX
    rintro e w5 ⟨A5, c5, rfl, hc5, hs5, hk5⟩
    refine ⟨_, rfl, ?_⟩
    have Hr' := Lib.hid (Hr.out.add (Q := slC 4 A5 m.length (pac m)) hk5 hs5)
    clear Hr
    have Hr := Hr'
    clear Hr'
    clear hk5 hs5
    refine gg ?_
    have PX := Lib.hid (P2.out w5)
    refine KL.call rfl rfl rfl rfl rfl (by go_simp) PX.out ?_
    clear PX
    rintro e w6 ⟨A6, c6, rfl, hc6, hs6, hk6⟩
    refine ⟨_, rfl, ?_⟩
    have Hr' := Lib.hid (Hr.out.add (Q := slC 4 A6 m.length (pac m)) hk6 hs6)
    clear Hr
    have Hr := Hr'
    clear Hr'
    clear hk6 hs6 P1 P2 hc5 hc6
    refine gg ?_
    have CC := hl_same A5 A6 c5 c6 m.length m.length m m w6 (Hr.out.get (P := slC 4 A5 m.length (pac m)) 1 rfl) (Hr.out.get (P := slC 4 A6 m.length (pac m)) 0 rfl) (by omega) (by omega)
    rw [decide_eq_true (rfl : m = m)] at CC
    have PX := Lib.hid (CC)
    refine KL.call rfl rfl rfl rfl rfl (by go_simp) PX.out ?_
    clear PX
    rintro e w7 ⟨rfl, hk7⟩
    refine ⟨_, rfl, ?_⟩
    have Hr' := Lib.hid (Hr.out.pure hk7)
    clear Hr
    have Hr := Hr'
    clear Hr'
    clear hk7
    refine gg ?_
    refine KR.fin1 Tryz.results3 rfl ⟨rfl, Hr.out.kept⟩
end Go.Proofs.YtiddhcabpmkolaaGreatDoor
