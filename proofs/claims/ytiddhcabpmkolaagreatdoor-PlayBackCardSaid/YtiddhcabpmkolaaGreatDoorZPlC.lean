/-
  play: line walked. strings.Builder: copyCheck, WriteString, String walked. play: Show walked. play: number walked.
-/
import Derived.Lib.ItoaLen
import Derived.Test.YtiddhcabpmkolaaGreatDoorZPlT
import Derived.Shelf.Strings.BuilderK
set_option linter.unusedSimpArgs false
set_option linter.unusedVariables false
namespace Go.Proofs.YtiddhcabpmkolaaGreatDoor
open Go.RowKit
set_option maxRecDepth 100000
open Go
def lineB (a : PAct) : ByteArray := if a.ok = true then ⟨(a.head ++ [10]).toArray⟩ else ⟨#[]⟩
/-- A line as the program puts it together. -/
def lnT (W : ByteArray) (c m b : Bool) (a : PAct) : ByteArray :=
  (match b with
    | true => (match m with | true => (match c with | true => W ++ (⟨#[32]⟩ ++ ⟨(Lib.itoa a.conn).toArray⟩) | false => W) ++ (⟨#[32]⟩ ++ ⟨(Lib.itoa a.n).toArray⟩) | false => (match c with | true => W ++ (⟨#[32]⟩ ++ ⟨(Lib.itoa a.conn).toArray⟩) | false => W)) ++ (⟨#[32]⟩ ++ hexB a.bytes)
    | false => (match m with | true => (match c with | true => W ++ (⟨#[32]⟩ ++ ⟨(Lib.itoa a.conn).toArray⟩) | false => W) ++ (⟨#[32]⟩ ++ ⟨(Lib.itoa a.n).toArray⟩) | false => (match c with | true => W ++ (⟨#[32]⟩ ++ ⟨(Lib.itoa a.conn).toArray⟩) | false => W))) ++ ⟨#[10]⟩
theorem sp32 : (⟨#[32]⟩ : ByteArray) = ⟨[32].toArray⟩ := rfl
theorem sp10 : (⟨#[10]⟩ : ByteArray) = ⟨[10].toArray⟩ := rfl
theorem lnT_head (a : PAct) : lnT (plW a.kind) (plConn a.kind) (plNum a.kind) (decide (a.kind = 2)) a = ⟨(a.head ++ [10]).toArray⟩ := by
  unfold lnT plW PAct.head hexB
  by_cases h2 : a.kind = 2
  · rw [decide_eq_true h2]
    simp only [if_pos h2]
    cases plConn a.kind <;> cases plNum a.kind <;> simp only [if_true, if_false, Bool.false_eq_true, sp32, sp10, bs_app, List.append_assoc, List.nil_append, List.append_nil, List.singleton_append, List.cons_append]
  · rw [decide_eq_false h2]
    simp only [if_neg h2]
    cases plConn a.kind <;> cases plNum a.kind <;> simp only [if_true, if_false, Bool.false_eq_true, sp32, sp10, bs_app, List.append_assoc, List.nil_append, List.append_nil, List.singleton_append, List.cons_append]
theorem plW_nil (k : Int) : plW k = ⟨#[]⟩ ↔ ¬ (1 ≤ k ∧ k ≤ 7) := by
  constructor
  · intro h hk
    have h' : plWord k = [] := by
      have := congrArg kb h
      unfold plW at this
      rw [kb_bs] at this
      exact this
    rcases (show k = 1 ∨ k = 2 ∨ k = 3 ∨ k = 4 ∨ k = 5 ∨ k = 6 ∨ k = 7 by omega) with rfl | rfl | rfl | rfl | rfl | rfl | rfl <;> exact absurd h' (by decide)
  · intro h
    unfold plW plWord
    rw [if_neg (by omega), if_neg (by omega), if_neg (by omega), if_neg (by omega), if_neg (by omega), if_neg (by omega), if_neg (by omega)]
theorem ok_tests (a : PAct) : a.ok = !(decide (plW a.kind = ⟨#[]⟩) || decide (a.conn < 0) || decide (999999 < a.conn) || decide (a.n < 0) || decide (999999 < a.n) || (!plConn a.kind && !decide (a.conn = 0)) || (!plNum a.kind && !decide (a.n = 0)) || (!decide (a.kind = 2) && !decide (a.bytes = ⟨#[]⟩))) := by
  rw [Bool.eq_iff_iff, ok_iff]
  simp only [Bool.not_eq_true', Bool.or_eq_false_iff, Bool.and_eq_false_iff, Bool.not_eq_false', decide_eq_false_iff_not, decide_eq_true_eq, plW_nil, Bool.not_eq_eq_eq_not, Bool.not_true]
  constructor
  · intro h
    have h1 := h.k1; have h2 := h.k7; have h3 := h.c0; have h4 := h.c1; have h5 := h.n0; have h6 := h.n1; have h7 := h.cc; have h8 := h.nn; have h9 := h.bb
    refine ⟨⟨⟨⟨⟨⟨⟨?_, ?_⟩, ?_⟩, ?_⟩, ?_⟩, ?_⟩, ?_⟩, ?_⟩ <;> first | omega | assumption | simp_all
  · rintro ⟨⟨⟨⟨⟨⟨⟨h1, h2⟩, h3⟩, h4⟩, h5⟩, h6⟩, h7⟩, h8⟩
    refine ⟨?_, ?_, ?_, ?_, ?_, ?_, ?_, ?_, ?_⟩ <;> first | omega | assumption | simp_all
theorem hexB_size (s : ByteArray) : (hexB s).size ≤ 2 * s.size + 1 := by
  unfold hexB
  rw [bs_size]
  have e : s.data.toList.length = s.size := by simp
  unfold hexT
  split
  · simp
  · rw [hexL_len, e]; omega
theorem plW_size (k : Int) : (plW k).size ≤ 4 := by
  unfold plW
  rw [bs_size]
  unfold plWord
  repeat (split; · decide)
  decide
set_option maxHeartbeats 12800000 in
theorem pl_line (a : PAct) (w : World) (hb : a.bytes.size ≤ 100000) (hT : Tb w) : Calls Tryz.prog 17 #[a.val] w fun e w' => e = .returned (.tuple #[.string (lineB a), .bool a.ok]) ∧ Pure w w' := by
  have PC := fun w => pl_parts a.kind w
  have hok := ok_tests a
  have hL : (a.ok = true → lineB a = lnT (plW a.kind) (plConn a.kind) (plNum a.kind) (decide (a.kind = 2)) a) ∧ (a.ok = false → lineB a = ⟨#[]⟩) :=
    ⟨fun h => by rw [lnT_head]; exact if_pos h, fun h => if_neg (by rw [h]; exact Bool.false_ne_true)⟩
  have hW4 := plW_size a.kind
  obtain ⟨W, hW⟩ : ∃ W, plW a.kind = W := ⟨_, rfl⟩
  obtain ⟨c, hc⟩ : ∃ c, plConn a.kind = c := ⟨_, rfl⟩
  obtain ⟨m, hm⟩ : ∃ c, plNum a.kind = c := ⟨_, rfl⟩
  obtain ⟨b, hb2⟩ : ∃ c, decide (a.kind = 2) = c := ⟨_, rfl⟩
  obtain ⟨r, hr⟩ : ∃ c, a.ok = c := ⟨_, rfl⟩
  obtain ⟨L, hLe⟩ : ∃ c, lineB a = c := ⟨_, rfl⟩
  rw [hW, hc, hm, hb2, hr] at hok
  rw [hW, hc, hm, hb2, hr, hLe] at hL
  simp only [hW, hc, hm, hb2] at PC
  rw [hW] at hW4
  rw [hr, hLe]
  have hx := hexB_size a.bytes
  obtain ⟨X, hX⟩ : ∃ X, hexB a.bytes = X := ⟨_, rfl⟩
  have HX := fun w => pl_hex a.bytes w hb
  rw [hX] at hx
  simp only [hX] at HX
  have Hpost := Lib.hid hX
  obtain ⟨kd, cn, nn, bs⟩ := a
  simp only at hok hL PC hx HX hX hb
  have hr0 := (Run.start (F := fun _ => False) (w := w) (Ps := []) trivial).addBlk #[.int .i64 kd, .int .i64 cn, .int .i64 nn, .string bs] 33
  obtain ⟨t1, ht1⟩ : ∃ t, decide (W = ⟨#[]⟩) = t := ⟨_, rfl⟩
  obtain ⟨t2, ht2⟩ : ∃ t, decide (cn < 0) = t := ⟨_, rfl⟩
  obtain ⟨t3, ht3⟩ : ∃ t, decide (999999 < cn) = t := ⟨_, rfl⟩
  obtain ⟨t4, ht4⟩ : ∃ t, decide (nn < 0) = t := ⟨_, rfl⟩
  obtain ⟨t5, ht5⟩ : ∃ t, decide (999999 < nn) = t := ⟨_, rfl⟩
  obtain ⟨t6, ht6⟩ : ∃ t, (!decide (cn = 0)) = t := ⟨_, rfl⟩
  obtain ⟨t7, ht7⟩ : ∃ t, (!decide (nn = 0)) = t := ⟨_, rfl⟩
  obtain ⟨t8, ht8⟩ : ∃ t, (!decide (bs = ⟨#[]⟩)) = t := ⟨_, rfl⟩
  rw [ht1, ht2, ht3, ht4, ht5, ht6, ht7, ht8] at hok
  have Hok := Lib.hid hok
  have HL := Lib.hid hL
  have Hr := Lib.hid hr0
  have HP := Lib.hid PC
  have HH := Lib.hid HX
  have HT := Lib.hid hT
  clear hW hc hm hb2 hr hLe hX PC HX hok hL hr0 hT
  refine calls_kn Tryz.func17 rfl Tryz.ntmps17 rfl ?_
  refine gg ?_
  refine KL.makes (v := .pointer (some ⟨World.heap w |>.size, 0, none⟩)) rfl rfl rfl (fun ρ hρ => by have e := hρ (.tmp 0) _ rfl; simp only [execOp, e]; go_simp; first | done | rfl) ?_
  generalize w.alloc _ = w1 at *
  generalize w.heap.size = g1 at *
  have hcl := (Hr.out.blk 0 rfl).cell
  refine gg ?_
  refine KL.call rfl rfl rfl rfl rfl (by go_simp) (HP.out _) ?_
  rintro e w2 ⟨rfl, e2⟩
  obtain rfl := e2.symm
  refine ⟨_, rfl, ?_⟩
  clear e2
  refine gg ?_
  cases t1
  case true =>
    have hrf : r = false := by rw [Hok.out]; rfl
    have hLf := HL.out.2 hrf
    subst hrf
    try refine KL.pass 64 (.bool true) (by kernel_rfl) (by kernel_rfl) ?_
    refine gg ?_
    refine KR.fin2 Tryz.results17 rfl rfl ⟨by rw [hLf], Hr.out.kept⟩
  refine gg ?_
  cases t2
  case true =>
    have hrf : r = false := by rw [Hok.out]; rfl
    have hLf := HL.out.2 hrf
    subst hrf
    try refine KL.pass 64 (.bool true) (by kernel_rfl) (by kernel_rfl) ?_
    refine gg ?_
    refine KR.fin2 Tryz.results17 rfl rfl ⟨by rw [hLf], Hr.out.kept⟩
  refine gg ?_
  cases t3
  case true =>
    have hrf : r = false := by rw [Hok.out]; rfl
    have hLf := HL.out.2 hrf
    subst hrf
    try refine KL.pass 64 (.bool true) (by kernel_rfl) (by kernel_rfl) ?_
    refine gg ?_
    refine KR.fin2 Tryz.results17 rfl rfl ⟨by rw [hLf], Hr.out.kept⟩
  refine gg ?_
  cases t4
  case true =>
    have hrf : r = false := by rw [Hok.out]; rfl
    have hLf := HL.out.2 hrf
    subst hrf
    try refine KL.pass 64 (.bool true) (by kernel_rfl) (by kernel_rfl) ?_
    refine gg ?_
    refine KR.fin2 Tryz.results17 rfl rfl ⟨by rw [hLf], Hr.out.kept⟩
  refine gg ?_
  cases t5
  case true =>
    have hrf : r = false := by rw [Hok.out]; rfl
    have hLf := HL.out.2 hrf
    subst hrf
    try refine KL.pass 64 (.bool true) (by kernel_rfl) (by kernel_rfl) ?_
    refine gg ?_
    refine KR.fin2 Tryz.results17 rfl rfl ⟨by rw [hLf], Hr.out.kept⟩
  refine gg ?_
  cases c
  case false =>
    refine gg ?_
    cases t6
    case true =>
      have hrf : r = false := by rw [Hok.out]; rfl
      have hLf := HL.out.2 hrf
      subst hrf
      try refine KL.pass 64 (.bool true) (by kernel_rfl) (by kernel_rfl) ?_
      refine gg ?_
      refine KR.fin2 Tryz.results17 rfl rfl ⟨by rw [hLf], Hr.out.kept⟩
    refine gg ?_
    cases m
    case false =>
      refine gg ?_
      cases t7
      case true =>
        have hrf : r = false := by rw [Hok.out]; rfl
        have hLf := HL.out.2 hrf
        subst hrf
        try refine KL.pass 64 (.bool true) (by kernel_rfl) (by kernel_rfl) ?_
        refine gg ?_
        refine KR.fin2 Tryz.results17 rfl rfl ⟨by rw [hLf], Hr.out.kept⟩
      refine gg ?_
      cases b
      case false =>
        refine gg ?_
        cases t8
        case true =>
          have hrf : r = false := by rw [Hok.out]; rfl
          have hLf := HL.out.2 hrf
          subst hrf
          try refine KL.pass 64 (.bool true) (by kernel_rfl) (by kernel_rfl) ?_
          refine gg ?_
          refine KR.fin2 Tryz.results17 rfl rfl ⟨by rw [hLf], Hr.out.kept⟩
        refine gg ?_
        refine kp ?_ (oCat (hb := by have z1 : (⟨#[32]⟩ : ByteArray).size = 1 := rfl; have z2 : (⟨#[10]⟩ : ByteArray).size = 1 := rfl; (try simp only [bs_app_size]); omega))
        refine gg ?_
        have hrf : r = true := by rw [Hok.out]; rfl
        have hLf := HL.out.1 hrf
        subst hrf
        refine KR.fin2 Tryz.results17 rfl rfl ⟨by rw [hLf]; unfold lnT; simp only [Hpost.out], Hr.out.kept⟩
      case true =>
        refine gg ?_
        refine KL.call rfl rfl rfl rfl rfl (by go_simp) (HH.out _) ?_
        rintro e w5 ⟨rfl, hk⟩
        refine ⟨_, rfl, ?_⟩
        have Hr := Lib.hid (Hr.out.pure hk)
        clear hk
        refine gg ?_
        refine kp ?_ (oCat (hb := by have z1 : (⟨#[32]⟩ : ByteArray).size = 1 := rfl; (try simp only [bs_app_size]); omega))
        refine gg ?_
        refine kp ?_ (oCat (hb := by have z1 : (⟨#[32]⟩ : ByteArray).size = 1 := rfl; (try simp only [bs_app_size]); omega))
        refine gg ?_
        refine kp ?_ (oCat (hb := by have z1 : (⟨#[32]⟩ : ByteArray).size = 1 := rfl; have z2 : (⟨#[10]⟩ : ByteArray).size = 1 := rfl; (try simp only [bs_app_size]); omega))
        refine gg ?_
        have hrf : r = true := by rw [Hok.out]; rfl
        have hLf := HL.out.1 hrf
        subst hrf
        refine KR.fin2 Tryz.results17 rfl rfl ⟨by rw [hLf]; unfold lnT; simp only [Hpost.out], Hr.out.kept⟩
    case true =>
      refine gg ?_
      cases b
      case false =>
        refine gg ?_
        cases t8
        case true =>
          have hrf : r = false := by rw [Hok.out]; rfl
          have hLf := HL.out.2 hrf
          subst hrf
          try refine KL.pass 64 (.bool true) (by kernel_rfl) (by kernel_rfl) ?_
          refine gg ?_
          refine KR.fin2 Tryz.results17 rfl rfl ⟨by rw [hLf], Hr.out.kept⟩
        refine gg ?_
        have hI0 : (⟨(Lib.itoa nn).toArray⟩ : ByteArray).size ≤ 21 := by rw [bs_size]; exact Lib.itoa_length_le _ (by have := of_decide_eq_false ht4; omega) (by have := of_decide_eq_false ht5; omega)
        refine KL.call rfl rfl rfl rfl rfl (by go_simp) (it_itoa nn _ (by have := of_decide_eq_false ht4; omega) (by have := of_decide_eq_false ht5; omega) (HT.out.kept Hr.out.kept)) ?_
        rintro e w4 ⟨rfl, hk⟩
        refine ⟨_, rfl, ?_⟩
        have Hr := Lib.hid (Hr.out.pure hk)
        have hcl := (Hr.out.blk 0 rfl).cell
        clear hk
        refine gg ?_
        refine kp ?_ (oCat (hb := by have z1 : (⟨#[32]⟩ : ByteArray).size = 1 := rfl; (try simp only [bs_app_size]); omega))
        refine gg ?_
        refine kp ?_ (oCat (hb := by have z1 : (⟨#[32]⟩ : ByteArray).size = 1 := rfl; (try simp only [bs_app_size]); omega))
        refine gg ?_
        refine kp ?_ (oCat (hb := by have z1 : (⟨#[32]⟩ : ByteArray).size = 1 := rfl; have z2 : (⟨#[10]⟩ : ByteArray).size = 1 := rfl; (try simp only [bs_app_size]); omega))
        refine gg ?_
        have hrf : r = true := by rw [Hok.out]; rfl
        have hLf := HL.out.1 hrf
        subst hrf
        refine KR.fin2 Tryz.results17 rfl rfl ⟨by rw [hLf]; unfold lnT; simp only [Hpost.out], Hr.out.kept⟩
      case true =>
        refine gg ?_
        have hI0 : (⟨(Lib.itoa nn).toArray⟩ : ByteArray).size ≤ 21 := by rw [bs_size]; exact Lib.itoa_length_le _ (by have := of_decide_eq_false ht4; omega) (by have := of_decide_eq_false ht5; omega)
        refine KL.call rfl rfl rfl rfl rfl (by go_simp) (it_itoa nn _ (by have := of_decide_eq_false ht4; omega) (by have := of_decide_eq_false ht5; omega) (HT.out.kept Hr.out.kept)) ?_
        rintro e w4 ⟨rfl, hk⟩
        refine ⟨_, rfl, ?_⟩
        have Hr := Lib.hid (Hr.out.pure hk)
        have hcl := (Hr.out.blk 0 rfl).cell
        clear hk
        refine gg ?_
        refine kp ?_ (oCat (hb := by have z1 : (⟨#[32]⟩ : ByteArray).size = 1 := rfl; (try simp only [bs_app_size]); omega))
        refine gg ?_
        refine kp ?_ (oCat (hb := by have z1 : (⟨#[32]⟩ : ByteArray).size = 1 := rfl; (try simp only [bs_app_size]); omega))
        refine gg ?_
        refine KL.call rfl rfl rfl rfl rfl (by go_simp) (HH.out _) ?_
        rintro e w5 ⟨rfl, hk⟩
        refine ⟨_, rfl, ?_⟩
        have Hr := Lib.hid (Hr.out.pure hk)
        clear hk
        refine gg ?_
        refine kp ?_ (oCat (hb := by have z1 : (⟨#[32]⟩ : ByteArray).size = 1 := rfl; (try simp only [bs_app_size]); omega))
        refine gg ?_
        refine kp ?_ (oCat (hb := by have z1 : (⟨#[32]⟩ : ByteArray).size = 1 := rfl; (try simp only [bs_app_size]); omega))
        refine gg ?_
        refine kp ?_ (oCat (hb := by have z1 : (⟨#[32]⟩ : ByteArray).size = 1 := rfl; have z2 : (⟨#[10]⟩ : ByteArray).size = 1 := rfl; (try simp only [bs_app_size]); omega))
        refine gg ?_
        have hrf : r = true := by rw [Hok.out]; rfl
        have hLf := HL.out.1 hrf
        subst hrf
        refine KR.fin2 Tryz.results17 rfl rfl ⟨by rw [hLf]; unfold lnT; simp only [Hpost.out], Hr.out.kept⟩
  case true =>
    refine gg ?_
    cases m
    case false =>
      refine gg ?_
      cases t7
      case true =>
        have hrf : r = false := by rw [Hok.out]; rfl
        have hLf := HL.out.2 hrf
        subst hrf
        try refine KL.pass 64 (.bool true) (by kernel_rfl) (by kernel_rfl) ?_
        refine gg ?_
        refine KR.fin2 Tryz.results17 rfl rfl ⟨by rw [hLf], Hr.out.kept⟩
      refine gg ?_
      cases b
      case false =>
        refine gg ?_
        cases t8
        case true =>
          have hrf : r = false := by rw [Hok.out]; rfl
          have hLf := HL.out.2 hrf
          subst hrf
          try refine KL.pass 64 (.bool true) (by kernel_rfl) (by kernel_rfl) ?_
          refine gg ?_
          refine KR.fin2 Tryz.results17 rfl rfl ⟨by rw [hLf], Hr.out.kept⟩
        refine gg ?_
        have hI0 : (⟨(Lib.itoa cn).toArray⟩ : ByteArray).size ≤ 21 := by rw [bs_size]; exact Lib.itoa_length_le _ (by have := of_decide_eq_false ht2; omega) (by have := of_decide_eq_false ht3; omega)
        refine KL.call rfl rfl rfl rfl rfl (by go_simp) (it_itoa cn _ (by have := of_decide_eq_false ht2; omega) (by have := of_decide_eq_false ht3; omega) (HT.out.kept Hr.out.kept)) ?_
        rintro e w3 ⟨rfl, hk⟩
        refine ⟨_, rfl, ?_⟩
        have Hr := Lib.hid (Hr.out.pure hk)
        have hcl := (Hr.out.blk 0 rfl).cell
        clear hk
        refine gg ?_
        refine kp ?_ (oCat (hb := by have z1 : (⟨#[32]⟩ : ByteArray).size = 1 := rfl; (try simp only [bs_app_size]); omega))
        refine gg ?_
        refine kp ?_ (oCat (hb := by have z1 : (⟨#[32]⟩ : ByteArray).size = 1 := rfl; (try simp only [bs_app_size]); omega))
        refine gg ?_
        refine kp ?_ (oCat (hb := by have z1 : (⟨#[32]⟩ : ByteArray).size = 1 := rfl; have z2 : (⟨#[10]⟩ : ByteArray).size = 1 := rfl; (try simp only [bs_app_size]); omega))
        refine gg ?_
        have hrf : r = true := by rw [Hok.out]; rfl
        have hLf := HL.out.1 hrf
        subst hrf
        refine KR.fin2 Tryz.results17 rfl rfl ⟨by rw [hLf]; unfold lnT; simp only [Hpost.out], Hr.out.kept⟩
      case true =>
        refine gg ?_
        have hI0 : (⟨(Lib.itoa cn).toArray⟩ : ByteArray).size ≤ 21 := by rw [bs_size]; exact Lib.itoa_length_le _ (by have := of_decide_eq_false ht2; omega) (by have := of_decide_eq_false ht3; omega)
        refine KL.call rfl rfl rfl rfl rfl (by go_simp) (it_itoa cn _ (by have := of_decide_eq_false ht2; omega) (by have := of_decide_eq_false ht3; omega) (HT.out.kept Hr.out.kept)) ?_
        rintro e w3 ⟨rfl, hk⟩
        refine ⟨_, rfl, ?_⟩
        have Hr := Lib.hid (Hr.out.pure hk)
        have hcl := (Hr.out.blk 0 rfl).cell
        clear hk
        refine gg ?_
        refine kp ?_ (oCat (hb := by have z1 : (⟨#[32]⟩ : ByteArray).size = 1 := rfl; (try simp only [bs_app_size]); omega))
        refine gg ?_
        refine kp ?_ (oCat (hb := by have z1 : (⟨#[32]⟩ : ByteArray).size = 1 := rfl; (try simp only [bs_app_size]); omega))
        refine gg ?_
        refine KL.call rfl rfl rfl rfl rfl (by go_simp) (HH.out _) ?_
        rintro e w5 ⟨rfl, hk⟩
        refine ⟨_, rfl, ?_⟩
        have Hr := Lib.hid (Hr.out.pure hk)
        clear hk
        refine gg ?_
        refine kp ?_ (oCat (hb := by have z1 : (⟨#[32]⟩ : ByteArray).size = 1 := rfl; (try simp only [bs_app_size]); omega))
        refine gg ?_
        refine kp ?_ (oCat (hb := by have z1 : (⟨#[32]⟩ : ByteArray).size = 1 := rfl; (try simp only [bs_app_size]); omega))
        refine gg ?_
        refine kp ?_ (oCat (hb := by have z1 : (⟨#[32]⟩ : ByteArray).size = 1 := rfl; have z2 : (⟨#[10]⟩ : ByteArray).size = 1 := rfl; (try simp only [bs_app_size]); omega))
        refine gg ?_
        have hrf : r = true := by rw [Hok.out]; rfl
        have hLf := HL.out.1 hrf
        subst hrf
        refine KR.fin2 Tryz.results17 rfl rfl ⟨by rw [hLf]; unfold lnT; simp only [Hpost.out], Hr.out.kept⟩
    case true =>
      refine gg ?_
      cases b
      case false =>
        refine gg ?_
        cases t8
        case true =>
          have hrf : r = false := by rw [Hok.out]; rfl
          have hLf := HL.out.2 hrf
          subst hrf
          try refine KL.pass 64 (.bool true) (by kernel_rfl) (by kernel_rfl) ?_
          refine gg ?_
          refine KR.fin2 Tryz.results17 rfl rfl ⟨by rw [hLf], Hr.out.kept⟩
        refine gg ?_
        have hI0 : (⟨(Lib.itoa cn).toArray⟩ : ByteArray).size ≤ 21 := by rw [bs_size]; exact Lib.itoa_length_le _ (by have := of_decide_eq_false ht2; omega) (by have := of_decide_eq_false ht3; omega)
        refine KL.call rfl rfl rfl rfl rfl (by go_simp) (it_itoa cn _ (by have := of_decide_eq_false ht2; omega) (by have := of_decide_eq_false ht3; omega) (HT.out.kept Hr.out.kept)) ?_
        rintro e w3 ⟨rfl, hk⟩
        refine ⟨_, rfl, ?_⟩
        have Hr := Lib.hid (Hr.out.pure hk)
        have hcl := (Hr.out.blk 0 rfl).cell
        clear hk
        refine gg ?_
        refine kp ?_ (oCat (hb := by have z1 : (⟨#[32]⟩ : ByteArray).size = 1 := rfl; (try simp only [bs_app_size]); omega))
        refine gg ?_
        refine kp ?_ (oCat (hb := by have z1 : (⟨#[32]⟩ : ByteArray).size = 1 := rfl; (try simp only [bs_app_size]); omega))
        refine gg ?_
        have hI0 : (⟨(Lib.itoa nn).toArray⟩ : ByteArray).size ≤ 21 := by rw [bs_size]; exact Lib.itoa_length_le _ (by have := of_decide_eq_false ht4; omega) (by have := of_decide_eq_false ht5; omega)
        refine KL.call rfl rfl rfl rfl rfl (by go_simp) (it_itoa nn _ (by have := of_decide_eq_false ht4; omega) (by have := of_decide_eq_false ht5; omega) (HT.out.kept Hr.out.kept)) ?_
        rintro e w4 ⟨rfl, hk⟩
        refine ⟨_, rfl, ?_⟩
        have Hr := Lib.hid (Hr.out.pure hk)
        have hcl := (Hr.out.blk 0 rfl).cell
        clear hk
        refine gg ?_
        refine kp ?_ (oCat (hb := by have z1 : (⟨#[32]⟩ : ByteArray).size = 1 := rfl; (try simp only [bs_app_size]); omega))
        refine gg ?_
        refine kp ?_ (oCat (hb := by have z1 : (⟨#[32]⟩ : ByteArray).size = 1 := rfl; (try simp only [bs_app_size]); omega))
        refine gg ?_
        refine kp ?_ (oCat (hb := by have z1 : (⟨#[32]⟩ : ByteArray).size = 1 := rfl; have z2 : (⟨#[10]⟩ : ByteArray).size = 1 := rfl; (try simp only [bs_app_size]); omega))
        refine gg ?_
        have hrf : r = true := by rw [Hok.out]; rfl
        have hLf := HL.out.1 hrf
        subst hrf
        refine KR.fin2 Tryz.results17 rfl rfl ⟨by rw [hLf]; unfold lnT; simp only [Hpost.out], Hr.out.kept⟩
      case true =>
        refine gg ?_
        have hI0 : (⟨(Lib.itoa cn).toArray⟩ : ByteArray).size ≤ 21 := by rw [bs_size]; exact Lib.itoa_length_le _ (by have := of_decide_eq_false ht2; omega) (by have := of_decide_eq_false ht3; omega)
        refine KL.call rfl rfl rfl rfl rfl (by go_simp) (it_itoa cn _ (by have := of_decide_eq_false ht2; omega) (by have := of_decide_eq_false ht3; omega) (HT.out.kept Hr.out.kept)) ?_
        rintro e w3 ⟨rfl, hk⟩
        refine ⟨_, rfl, ?_⟩
        have Hr := Lib.hid (Hr.out.pure hk)
        have hcl := (Hr.out.blk 0 rfl).cell
        clear hk
        refine gg ?_
        refine kp ?_ (oCat (hb := by have z1 : (⟨#[32]⟩ : ByteArray).size = 1 := rfl; (try simp only [bs_app_size]); omega))
        refine gg ?_
        refine kp ?_ (oCat (hb := by have z1 : (⟨#[32]⟩ : ByteArray).size = 1 := rfl; (try simp only [bs_app_size]); omega))
        refine gg ?_
        have hI0 : (⟨(Lib.itoa nn).toArray⟩ : ByteArray).size ≤ 21 := by rw [bs_size]; exact Lib.itoa_length_le _ (by have := of_decide_eq_false ht4; omega) (by have := of_decide_eq_false ht5; omega)
        refine KL.call rfl rfl rfl rfl rfl (by go_simp) (it_itoa nn _ (by have := of_decide_eq_false ht4; omega) (by have := of_decide_eq_false ht5; omega) (HT.out.kept Hr.out.kept)) ?_
        rintro e w4 ⟨rfl, hk⟩
        refine ⟨_, rfl, ?_⟩
        have Hr := Lib.hid (Hr.out.pure hk)
        have hcl := (Hr.out.blk 0 rfl).cell
        clear hk
        refine gg ?_
        refine kp ?_ (oCat (hb := by have z1 : (⟨#[32]⟩ : ByteArray).size = 1 := rfl; (try simp only [bs_app_size]); omega))
        refine gg ?_
        refine kp ?_ (oCat (hb := by have z1 : (⟨#[32]⟩ : ByteArray).size = 1 := rfl; (try simp only [bs_app_size]); omega))
        refine gg ?_
        refine KL.call rfl rfl rfl rfl rfl (by go_simp) (HH.out _) ?_
        rintro e w5 ⟨rfl, hk⟩
        refine ⟨_, rfl, ?_⟩
        have Hr := Lib.hid (Hr.out.pure hk)
        clear hk
        refine gg ?_
        refine kp ?_ (oCat (hb := by have z1 : (⟨#[32]⟩ : ByteArray).size = 1 := rfl; (try simp only [bs_app_size]); omega))
        refine gg ?_
        refine kp ?_ (oCat (hb := by have z1 : (⟨#[32]⟩ : ByteArray).size = 1 := rfl; (try simp only [bs_app_size]); omega))
        refine gg ?_
        refine kp ?_ (oCat (hb := by have z1 : (⟨#[32]⟩ : ByteArray).size = 1 := rfl; have z2 : (⟨#[10]⟩ : ByteArray).size = 1 := rfl; (try simp only [bs_app_size]); omega))
        refine gg ?_
        have hrf : r = true := by rw [Hok.out]; rfl
        have hLf := HL.out.1 hrf
        subst hrf
        refine KR.fin2 Tryz.results17 rfl rfl ⟨by rw [hLf]; unfold lnT; simp only [Hpost.out], Hr.out.kept⟩
end Go.Proofs.YtiddhcabpmkolaaGreatDoor
set_option linter.unusedSimpArgs false
set_option linter.unusedVariables false
namespace Go.Proofs.YtiddhcabpmkolaaGreatDoor
open Go.RowKit
set_option maxRecDepth 100000
open Go
abbrev bP (b : Nat) : Value := .pointer (some ⟨b, 0, none⟩)
theorem bd_info : ∃ j, Tryz.prog.info? 52 = some j ∧ j.size = 2 := by
  have h : (Tryz.prog.info? 52).map (·.size) = some 2 := by kernel_rfl
  exact Option.map_eq_some_iff.1 h
set_option maxHeartbeats 1600000 in
theorem bd_check1 (b : Nat) (w : World) (h0 : w.cell? ⟨b, 0, none⟩ = some (bP b)) :
    Calls Tryz.prog 34 #[bP b] w fun e w' => e = .returned (.tuple #[]) ∧ w' = w := by
  obtain ⟨j, hj, _⟩ := bd_info
  go_enter Tryz.func34, Tryz.ntmps34
  go_wp2
  rw [Lib.run_neq_ptr_same w _ Tryz.underlying49 hj]
  go_wp2
  go_end0
  exact ⟨rfl, rfl⟩
set_option maxHeartbeats 1600000 in
theorem bd_check0 (b : Nat) (w : World) (h0 : w.cell? ⟨b, 0, none⟩ = some (.pointer none)) (hsh : w.shape? b = some (52, 2)) (hfz : w.frozen? ⟨b, 0, none⟩ = false) :
    Calls Tryz.prog 34 #[bP b] w fun e w' => e = .returned (.tuple #[]) ∧ w' = w.setCell ⟨b, 0, none⟩ (bP b) := by
  obtain ⟨j, hj, hjs⟩ := bd_info
  go_enter Tryz.func34, Tryz.ntmps34
  go_wp2
  rw [Lib.run_to_unsafe w ⟨b, 0, none⟩ Tryz.underlying49 Tryz.underlying118 hj (by rw [hjs]; decide) hsh (Nat.zero_lt_succ 1)]
  simp only [Result.andThen]
  rw [Oper.upon_value]
  go_wp2
  rw [run_callFunc_extern Tryz.func61 (by kernel_rfl) (by kernel_rfl) (by kernel_rfl) (e := Extern.AbiNoEscape.same) (by kernel_rfl)]
  rw [Lib.run_noEscape]
  simp only [Result.andThen]
  rw [Oper.upon_value]
  go_wp2
  rw [Lib.run_from_unsafe w ⟨b, 0, none⟩ Tryz.underlying118 Tryz.underlying49 hj hsh (by kernel_rfl)]
  simp only [Result.andThen]
  rw [Oper.upon_value]
  go_wp2
  go_end0
  exact ⟨rfl, rfl⟩
theorem bd_check {w w₀ : World} {F : Nat → Prop} {Ps : List Ch} {b : Nat} {p v : Value} (hr : Run w₀ F w (blkC b 52 #[p, v] :: Ps)) (hp : p = .pointer none ∨ p = bP b) :
    Calls Tryz.prog 34 #[bP b] w fun e w' => e = .returned (.tuple #[]) ∧ Run w₀ F w' (blkC b 52 #[bP b, v] :: Ps) := by
  have hB := hr.blk 0 rfl
  rcases hp with rfl | rfl
  · refine (bd_check0 b w (hB.cell 0) (by have h : w.heap[b]? = _ := hB; simp [World.shape?, h]) (hB.frozen 0)).mono ?_
    rintro e w' ⟨rfl, rfl⟩
    exact ⟨rfl, hr.set 0 rfl 0 (bP b)⟩
  · refine (bd_check1 b w (hB.cell 0)).mono ?_
    rintro e w' ⟨rfl, rfl⟩
    exact ⟨rfl, hr⟩
section
variable {P : Program} {n d : Nat} {ops : Array Oper} {o : Oper} {rest l : List Oper} {Q : Exit → Act → World → Prop} {k : Kn} {w : World} {v : Value} {x y : Operand} {ty ty' : TypeId}
/-- 'append(v, s...)', s a string. -/
theorem KL.appS {w₀ : World} {F : Nat → Prop} {Ps : List Ch} (hr : Run w₀ F w Ps) (i : Nat) {e : TypeId} {nn : Nat} {xs : List Value} (hi : Ps[i]? = some (ownC e 1 v nn xs)) (ht : P.underlying ty = some (.slice e)) (hu : P.underlying ty' = some .string) (hI : (P.info? e).map (fun i => (i.zero, i.size, i.bytes)) = some (some (.int .u8 0), 1, 1))
    {str : ByteArray} (hbytes : nn + str.size ≤ 1073741824)
    (hd : o.dst = some d) (hgd : o.guard = none) (ho : o.op = .call { callee := .builtin .append, args := #[x, y], argTypes := #[ty, ty'] }) (hx : knX k x = some v) (hy : knX k y = some (.string str)) (hn : Nat.blt d n = true)
    (h : ∀ A' c' w', Run w₀ F w' (Ps.set i (ownC e 1 (.slice A' (nn + str.size) c') (nn + str.size) (xs ++ bvs str.data.toList))) → KL P n ops rest Q ((d, .slice A' (nn + str.size) c') :: k) w') : KL P n ops (o :: rest) Q k w := ⟨fun a ha => by
  obtain ⟨G', _, h2, h3⟩ := hr.at i hi
  refine wp_app_string ht hu hI h2 hbytes hgd x y ho (ha.fits _ _ hx) (ha.fits _ _ hy) fun v' w' h4 h5 => ?_
  obtain ⟨A', c', e1, _⟩ := h4.form
  subst e1
  rw [hd]
  exact (h A' c' w' (h3 w' (ownC e 1 (.slice A' (nn + str.size) c') (nn + str.size) (xs ++ bvs str.data.toList)) (h4.imp (fun b _ e => e.imp id (fun e => by omega))) h5)).go _ (ha.put (Nat.le_of_ble_eq_true hn))⟩
end
set_option maxHeartbeats 1600000 in
theorem bd_write {w w₀ : World} {F : Nat → Prop} {Ps : List Ch} {b m c : Nat} {p : Value} {A : Option Addr} {l : List UInt8} (s : ByteArray) (hr : Run w₀ F w (blkC b 52 #[p, .slice A m c] :: ownC 5 1 (.slice A m c) m (bvs l) :: Ps)) (hp : p = .pointer none ∨ p = bP b) (hz : m + s.size ≤ 1000000) :
    Calls Tryz.prog 18 #[bP b, .string s] w fun e w' => e = .returned (.tuple #[.int .i64 (s.size : Int), .nilIface]) ∧ ∃ A' c', Run w₀ F w' (blkC b 52 #[bP b, .slice A' (m + s.size) c'] :: ownC 5 1 (.slice A' (m + s.size) c') (m + s.size) (bvs (l ++ kb s)) :: Ps) := by
  have HC := Lib.hid (bd_check hr hp)
  clear hr hp
  refine calls_kn Tryz.func18 rfl Tryz.ntmps18 rfl ?_
  refine gg ?_
  refine KL.call rfl rfl rfl rfl rfl (by go_simp) HC.out ?_
  rintro e w1 ⟨rfl, hr⟩
  refine ⟨_, rfl, ?_⟩
  have Hr := Lib.hid hr
  have hcl := (hr.blk 0 rfl).cell
  clear hr HC
  refine gg ?_
  refine KL.appS Hr.out 1 rfl Tryz.underlying50 Tryz.underlying9 info_u8 (str := s) (by omega) rfl rfl rfl rfl rfl rfl ?_
  intro A' c' w2 hr2
  have Hr2 := Lib.hid hr2
  have hc2 := (hr2.blk 0 rfl).cell
  have hfz := (hr2.blk 0 rfl).frozen
  clear hr2 hcl
  refine gg ?_
  refine KL.store1 Hr2.out 0 1 rfl rfl rfl rfl rfl rfl (by go_simp; first | done | rfl) ?_
  intro w3 e3 hr3
  have Hr3 := Lib.hid hr3
  clear hr3 hc2 hfz e3
  refine gg ?_
  refine KR.fin2 Tryz.results18 rfl rfl ⟨rfl, A', c', ?_⟩
  rw [bvs_append]
  exact Hr3.out
theorem bd_x : Builder.Extra Tryz.prog Tryz.lays169_ren where
  sizeBuilder := by kernel_rfl
  liesBuilder := by kernel_rfl
  t5 := Tryz.underlying5
  a5 := Tryz.isAgg5
  z5 := Tryz.sizeOf5
  v5 := Tryz.zeroValue5
  infoByte := by kernel_rfl
  cellsByte := by kernel_rfl
  sizeByte := by kernel_rfl
  neB5 := by decide
theorem own_base {w : World} {F : Nat → Prop} {e : TypeId} {k n B : Nat} {v : Value} {xs : List Value} (h : Own w F e k v n xs) (hB : ∀ g, F g → B ≤ g) : w.ownsRow B e k v n xs := by
  obtain ⟨⟨h1, h2⟩, h3⟩ := h
  refine ⟨h1, h2.imp id ?_⟩
  rintro ⟨g, cap, cur, rfl, _, hr⟩
  exact ⟨g, cap, cur, rfl, hB g (h3 g rfl), hr⟩
theorem bd_string {w w₀ : World} {Ps : List Ch} {b m c : Nat} {p : Value} {A : Option Addr} {l : List UInt8} (hr : Run w₀ (fun _ => False) w (blkC b 52 #[p, .slice A m c] :: ownC 5 1 (.slice A m c) m (bvs l) :: Ps)) (hp : p = .pointer none ∨ p = bP b) :
    Calls Tryz.prog 19 #[bP b] w fun e w' => e = .returned (.string ⟨l.toArray⟩) ∧ Pure w₀ w' := by
  have hB := hr.get (P := blkC b 52 #[p, .slice A m c]) 0 rfl
  have hO := hr.own 1 rfl
  have hb : w₀.heap.size ≤ b := hB.1.elim (fun h => h.elim) id
  have hml : m = l.length := by have := hO.sl.1; simp at this; omega
  have hown := own_base hO (B := w₀.heap.size) (fun g h => h.elim (fun h => h.elim) id)
  have hbk : w.heap[b]? = some (.cells #[p, .slice A m c] 52 (0, 0)) := hB.2
  have hne : (Value.slice A m c).ownBlock ≠ some b := Lib.ownBlock_ne (by rw [← show (1 : Nat) = 1 from rfl] at hown; exact hown) hbk (by decide)
  have hat : Lib.BuilderAt 52 5 w₀.heap.size b p (Lib.byteCells l) w := ⟨hb, _, hbk, by
    have e : (Lib.byteCells l).length = m := by rw [hml]; simp [Lib.byteCells]
    rw [e]; exact hown, hne⟩
  have hib : Lib.IsBuilder 52 5 w₀.heap.size b (Lib.byteCells l) w := by
    rcases hp with rfl | rfl
    · exact .inl hat
    · exact .inr hat
  refine (Any.Builder_String_any_k Tryz.lays169 bd_x w₀.heap.size b l w (Lib.IsBuilderF.of hib) hr.size).mono ?_
  rintro e w' ⟨h1, _, h2, _⟩
  refine ⟨h1, ?_⟩
  have hk := hr.kept
  exact ⟨h2.os.trans hk.os, h2.tape.trans hk.tape, h2.output.trans hk.output, Nat.le_trans hk.size h2.size, fun i hi hn => (h2.block i hi).trans (hk.block i hi hn)⟩
end Go.Proofs.YtiddhcabpmkolaaGreatDoor
set_option linter.unusedSimpArgs false
set_option linter.unusedVariables false
namespace Go.Proofs.YtiddhcabpmkolaaGreatDoor
open Go.RowKit
set_option maxRecDepth 100000
open Go
def showB (l : List PAct) : ByteArray × Int := if l.all PAct.ok = true then (⟨(shw l).toArray⟩, 0) else (⟨#[]⟩, 12)
theorem shw_len_take (l : List PAct) (i : Nat) : (shw (l.take i)).length ≤ (shw l).length := by
  have := shw_app (l.take i) (l.drop i)
  rw [List.take_append_drop] at this
  rw [this, List.length_append]; omega
theorem shw_ge : ∀ l : List PAct, l.length ≤ (shw l).length
  | [] => Nat.zero_le _
  | a :: l => by have := shw_ge l; rw [shw, List.length_append, List.length_cons, List.length_cons]; omega
theorem lineB_ok {a : PAct} (h : a.ok = true) : lineB a = ⟨(a.head ++ [10]).toArray⟩ := if_pos h
theorem shw_take {l : List PAct} {i : Nat} {a : PAct} (h : l[i]? = some a) : shw (l.take (i + 1)) = shw (l.take i) ++ (a.head ++ [10]) := by
  rw [List.take_add_one, h, Option.toList_some, shw_app]
  simp [shw]
set_option maxHeartbeats 3200000 in
theorem pl_show (l : List PAct) (A : Option Addr) (c : Nat) (w : World) (hs : Sl w (fun _ => True) 4 A l.length (pac l)) (hb : ∀ a ∈ l, a.bytes.size ≤ 100000) (hz : (shw l).length ≤ 1000000) (hT : Tb w) :
    Calls Tryz.prog 9 #[.slice A l.length c] w fun e w' => e = .returned (.tuple #[.string (showB l).1, .int .i64 (showB l).2]) ∧ Pure w w' := by
  have hr := (Run.start (F := fun _ => False) (w := w) (Ps := []) trivial).addNil 5 1
  have Hr := Lib.hid (hr.addBlk #[.pointer none, .slice none 0 0] 52)
  have Hs := Lib.hid hs
  have Hb := Lib.hid hb
  have HT := Lib.hid hT
  obtain ⟨n, hn⟩ : ∃ n, l.length = n := ⟨_, rfl⟩
  have Hn := Lib.hid hn
  have hn6 : n ≤ 1000000 := by have := shw_ge l; omega
  rw [hn]
  obtain ⟨R, hR⟩ : ∃ R, showB l = R := ⟨_, rfl⟩
  rw [hR]
  have HR := Lib.hid hR
  clear hr hs hb hT hn hR
  refine calls_kn Tryz.func9 rfl Tryz.ntmps9 rfl ?_
  refine gg ?_
  refine KL.makes (v := .pointer (some ⟨World.heap w |>.size, 0, none⟩)) rfl rfl rfl (fun ρ hρ => by simp only [execOp]; go_simp; first | done | rfl) ?_
  generalize w.alloc _ = w1 at *
  generalize w.heap.size = g1 at *
  refine gg ?_
  refine KW.loop (ι := Nat × Value × (Option Addr × Nat)) (fun p => [(4, bP g1), (9, .slice A n c), (10, .int .i64 (n : Int)), (11, .int .i64 (p.1 : Int))]) (fun p w' => p.1 ≤ n ∧ (∀ a ∈ l.take p.1, a.ok = true) ∧ (p.2.1 = .pointer none ∨ p.2.1 = bP g1) ∧ Run w (fun _ => False) w' [blkC g1 52 #[p.2.1, .slice p.2.2.1 (shw (l.take p.1)).length p.2.2.2], ownC 5 1 (.slice p.2.2.1 (shw (l.take p.1)).length p.2.2.2) (shw (l.take p.1)).length (bvs (shw (l.take p.1)))]) (fun p => n - p.1) (0, .pointer none, (none, 0)) ⟨Nat.zero_le _, (fun a h => by cases h), .inl rfl, Hr.out⟩ (kle_ok (by repeat' (first | exact trivial | refine ⟨rfl, ?_⟩))) ?_
  rintro ⟨i, p, ⟨A1, c1⟩⟩ w2 ⟨hi, hok, hp, hr2⟩
  simp only at hi hok hp hr2
  have Hr' := Lib.hid hr2
  clear Hr
  have Hr := Hr'
  clear Hr'
  have Hok := Lib.hid hok
  have Hp := Lib.hid hp
  clear hr2 hok hp
  by_cases hlt : i < n
  · have hd : decide ((i : Int) < (n : Int)) = true := by simp; omega
    obtain ⟨a, ha⟩ : ∃ a, l[i]? = some a := ⟨_, List.getElem?_eq_getElem (by have := Hn.out; omega)⟩
    have Ha := Lib.hid ha
    obtain ⟨b, o, hA, -⟩ := Hs.out.2 (by have := Hn.out; omega)
    subst hA
    obtain ⟨d0, d1, d2, d3⟩ := pa_c4 ((Hs.out.kept (S := fun _ => False) Hr.out.kept (fun _ _ _ h => h))) ha
    have hba := Hb.out a (List.mem_of_getElem? ha)
    clear ha
    refine gg ?_
    have Hr' := Lib.hid (Hr.out.addBlk #[.int .i64 0, .int .i64 0, .int .i64 0, .string ⟨#[]⟩] 33)
    clear Hr
    have Hr := Hr'
    clear Hr'
    refine gg ?_
    refine KL.makes (v := .pointer (some ⟨World.heap w2 |>.size, 0, none⟩)) rfl rfl rfl (fun ρ hρ => by simp only [execOp]; go_simp; first | done | rfl) ?_
    generalize w2.alloc _ = w3 at *
    generalize w2.heap.size = g3 at *
    refine KL.storeB rfl rfl rfl rfl rfl (Hr.out.blk 0 rfl) rfl (by kernel_rfl) (by kernel_rfl) ?_
    intro w4 hb4 hk4
    have Hr' := Lib.hid (Hr.out.turn 0 rfl hb4 hk4)
    clear Hr
    have Hr := Hr'
    clear Hr'
    clear hb4 hk4 d0 d1 d2 d3 hd
    have PL := Lib.hid (pl_line a w4 hba (HT.out.kept Hr.out.kept))
    obtain ⟨r, hr⟩ : ∃ r, a.ok = r := ⟨_, rfl⟩
    obtain ⟨L, hL⟩ : ∃ L, lineB a = L := ⟨_, rfl⟩
    rw [hr, hL] at PL
    have Hra := Lib.hid hr
    have HLa := Lib.hid hL
    clear hr hL
    have hB := Hr.out.blk 0 rfl
    refine gg ?_
    refine kp ?_ (PR.blk rfl rfl hB Tryz.underlying33 rfl (by kernel_rfl))
    clear hB
    refine gg ?_
    refine KL.call rfl rfl rfl rfl rfl (by go_simp) PL.out ?_
    rintro e w5 ⟨rfl, hk5⟩
    refine ⟨_, rfl, ?_⟩
    have Hr' := Lib.hid ((Hr.out.pure hk5).drop 0)
    clear Hr
    have Hr := Hr'
    clear Hr'
    clear hk5 PL
    refine gg ?_
    cases r
    case false =>
      refine gg ?_
      have hno : l.all PAct.ok = false := by
        rw [List.all_eq_false]
        exact ⟨a, List.mem_of_getElem? Ha.out, by rw [Hra.out]; exact Bool.false_ne_true⟩
      have hR : R = (⟨#[]⟩, 12) := by rw [← HR.out]; exact if_neg (by rw [hno]; exact Bool.false_ne_true)
      refine KR.fin2 Tryz.results9 rfl rfl ⟨by rw [hR], Hr.out.kept⟩
    refine gg ?_
    have hsz : (shw (l.take i)).length + L.size = (shw (l.take (i + 1))).length ∧ kb L = a.head ++ [10] := by
      rw [shw_take Ha.out, List.length_append, ← HLa.out, lineB_ok Hra.out, bs_size, kb_bs]
      exact ⟨rfl, rfl⟩
    have hle := shw_len_take l (i + 1)
    have Hsz := Lib.hid hsz
    refine KL.call rfl rfl rfl rfl rfl (by go_simp) (bd_write L Hr.out Hp.out (by omega)) ?_
    rintro e w6 ⟨rfl, A6, c6, hr6⟩
    refine ⟨_, rfl, ?_⟩
    rw [Hsz.out.1, Hsz.out.2, ← shw_take Ha.out] at hr6
    have Hr6 := Lib.hid hr6
    clear hr6 hsz hle
    refine gg ?_
    refine KE.rnd2 (i + 1, bP g1, (A6, c6)) (by repeat' (first | exact trivial | refine ⟨rfl, ?_⟩)) ⟨hlt, ?_, .inr rfl, Hr6.out⟩ (by show n - (i + 1) < n - i; omega)
    intro x hx
    rw [List.take_add_one, Ha.out, Option.toList_some] at hx
    rcases List.mem_append.1 hx with h | h
    · exact Hok.out x h
    · rw [List.mem_singleton.1 h]; exact Hra.out
  · have hd : decide ((i : Int) < (n : Int)) = false := by simp; omega
    have hin : l.take i = l := List.take_of_length_le (by have := Hn.out; omega)
    rw [hin] at Hr Hok
    clear hin
    refine gg ?_
    refine KL.call rfl rfl rfl rfl rfl (by go_simp) (bd_string Hr.out Hp.out) ?_
    rintro e w5 ⟨rfl, hk5⟩
    refine ⟨_, rfl, ?_⟩
    have hall : l.all PAct.ok = true := by rw [List.all_eq_true]; exact Hok.out
    have hR : R = (⟨(shw l).toArray⟩, 0) := by rw [← HR.out]; exact if_pos hall
    have HR2 := Lib.hid hR
    clear hall hR hd
    refine gg ?_
    refine KR.fin2 Tryz.results9 rfl rfl ⟨by rw [HR2.out], hk5⟩
end Go.Proofs.YtiddhcabpmkolaaGreatDoor
set_option linter.unusedSimpArgs false
set_option linter.unusedVariables false
namespace Go.Proofs.YtiddhcabpmkolaaGreatDoor
open Go.RowKit
set_option maxRecDepth 100000
open Go
set_option maxHeartbeats 1600000 in
theorem pl_number (s : ByteArray) (w : World) (hs : s.size ≤ 100000) (hT : Tb w) : Calls Tryz.prog 39 #[.string s] w fun e w' => e = .returned (.int .i64 (numT (kb s))) ∧ Pure w w' := by
  have hA := at_atoi s w hs hT
  obtain ⟨R, hR⟩ : ∃ R, numT (kb s) = R := ⟨_, rfl⟩
  rw [hR]
  have hbad : (∀ v, Lib.atoiAll (kb s) ≠ .ok v) → R = -1 := fun h => by
    rw [← hR]
    unfold numT
    split
    · rename_i n e; exact absurd e (h n)
    · rfl
  cases h : Lib.atoiAll (kb s) with
  | ok v =>
    rw [h] at hA
    have hA := Lib.hid hA
    have hR2 : R = if v < 0 ∨ 999999 < v then -1 else v := by rw [← hR]; unfold numT; rw [h]
    have HR := Lib.hid hR2
    clear hR h hbad hR2
    obtain ⟨t1, ht1⟩ : ∃ t, decide (v < 0) = t := ⟨_, rfl⟩
    obtain ⟨t2, ht2⟩ : ∃ t, decide (999999 < v) = t := ⟨_, rfl⟩
    refine calls_kn Tryz.func39 rfl Tryz.ntmps39 rfl ?_
    refine gg ?_
    refine KL.call rfl rfl rfl rfl rfl (by go_simp) hA.out ?_
    rintro e w1 ⟨rfl, hk⟩
    refine ⟨_, rfl, ?_⟩
    have Hk := Lib.hid hk
    clear hk hA
    refine gg ?_
    refine kp ?_ (oQ (v := .bool false))
    refine gg ?_
    cases t1
    case true =>
      refine gg ?_
      refine KR.fin1 Tryz.results39 rfl ⟨by rw [HR.out, if_pos (.inl (of_decide_eq_true ht1))], Hk.out⟩
    refine gg ?_
    cases t2
    case true =>
      refine gg ?_
      refine KR.fin1 Tryz.results39 rfl ⟨by rw [HR.out, if_pos (.inr (of_decide_eq_true ht2))], Hk.out⟩
    refine gg ?_
    refine KR.fin1 Tryz.results39 rfl ⟨by rw [HR.out, if_neg (by rintro (h | h); exact of_decide_eq_false ht1 h; exact of_decide_eq_false ht2 h)], Hk.out⟩
  | _ =>
    rw [h] at hA
    have HR := Lib.hid (hbad (fun v e => by rw [h] at e; cases e))
    have hA := Lib.hid hA
    clear hR h hbad
    refine calls_kn Tryz.func39 rfl Tryz.ntmps39 rfl ?_
    refine gg ?_
    refine KL.call rfl rfl rfl rfl rfl (by go_simp) hA.out ?_
    rintro e w1 ⟨⟨v, t, p, rfl⟩, hk⟩
    refine ⟨_, rfl, ?_⟩
    have Hk := Lib.hid hk
    clear hk hA
    refine gg ?_
    refine kp ?_ (oQ (v := .bool true))
    refine gg ?_
    refine KR.fin1 Tryz.results39 rfl ⟨by rw [HR.out], Hk.out⟩
end Go.Proofs.YtiddhcabpmkolaaGreatDoor
