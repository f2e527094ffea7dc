/-
  play: PlayBack, PlayLines walked. play: PlayBack walked. play: PlayWords walked.
-/
import Derived.Test.YtiddhcabpmkolaaGreatDoorZPlG
import Derived.Test.YtiddhcabpmkolaaGreatDoorZPlO
set_option linter.unusedSimpArgs false
set_option linter.unusedVariables false
namespace Go.Proofs.YtiddhcabpmkolaaGreatDoor
open Go.RowKit
set_option maxRecDepth 100000
open Go
theorem plWord_len (k : Int) : (plWord k).length ≤ 4 := by
  have := plW_size k
  unfold plW at this
  rwa [bs_size] at this
theorem head_len {a : PAct} (h : a.Fits) : a.head.length ≤ 49 + 2 * a.bytes.size := by
  obtain ⟨_, ⟨c0, c1⟩, ⟨n0, n1⟩, _⟩ := h
  have h1 := Lib.itoa_length_le a.conn c0 c1
  have h2 := Lib.itoa_length_le a.n n0 n1
  have h3 := plWord_len a.kind
  have h4 : (hexT a.bytes.data.toList).length ≤ 2 * a.bytes.size + 1 := by
    have := hexB_size a.bytes
    unfold hexB at this
    rwa [bs_size] at this
  unfold PAct.head
  simp only [List.length_append]
  have e1 : (if plConn a.kind = true then 32 :: Lib.itoa a.conn else []).length ≤ 22 := by split <;> simp <;> omega
  have e2 : (if plNum a.kind = true then 32 :: Lib.itoa a.n else []).length ≤ 22 := by split <;> simp <;> omega
  by_cases hk : a.kind = 2
  · have e4 : plNum a.kind = false := by rw [hk]; rfl
    rw [if_pos hk, e4, if_neg Bool.false_ne_true, List.length_cons]
    simp only [List.length_nil]
    omega
  · rw [if_neg hk]
    simp only [List.length_nil]
    omega
theorem shw_len : ∀ l : List PAct, (∀ a ∈ l, a.Fits) → (shw l).length ≤ 50 * l.length + 2 * totB l
  | [], _ => Nat.zero_le _
  | a :: l, h => by
    have h1 := head_len (h a (by simp))
    have h2 := shw_len l (fun b hb => h b (by simp [hb]))
    have h3 : totB (a :: l) = a.bytes.size + totB l := by simp [totB]
    rw [shw, List.length_append, List.length_cons, List.length_cons, h3]
    omega
theorem Few.shw {l : List PAct} (h : Few l) (hf : ∀ a ∈ l, a.Fits) : (shw l).length ≤ 60000 := by
  have := shw_len l hf
  have := h.n; have := h.tot
  omega
theorem hexL_ge : ∀ l : List UInt8, l.length ≤ (hexL l).length := fun l => by rw [hexL_len]; omega
theorem ok_bytes {a : PAct} (h : a.Ok) : a.bytes.size ≤ a.head.length := by
  rcases h.bb with hk | hb
  · unfold PAct.head
    rw [if_pos hk]
    simp only [List.length_append, List.length_cons]
    have h1 : a.bytes.data.toList.length = a.bytes.size := by simp
    have h2 : a.bytes.size ≤ (hexT a.bytes.data.toList).length := by
      unfold hexT
      split
      · rename_i h0; rw [← h1, h0]; simp
      · rw [← h1]; exact hexL_ge _
    omega
  · rw [hb]; exact Nat.zero_le _
theorem shw_mem : ∀ {l : List PAct} {a : PAct}, a ∈ l → a.head.length ≤ (shw l).length
  | b :: l, a, h => by
    rw [shw, List.length_append, List.length_cons]
    rcases List.mem_cons.1 h with rfl | h
    · omega
    · have := shw_mem h; omega
theorem showB_ok {l : List PAct} (h : ∀ a ∈ l, a.Ok) : showB l = (⟨(shw l).toArray⟩, 0) := if_pos (by rw [List.all_eq_true]; exact fun a ha => ok_iff.2 (h a ha))
theorem showB_cases (l : List PAct) : (showB l = (⟨(shw l).toArray⟩, 0) ∧ ∀ a ∈ l, a.Ok) ∨ showB l = (⟨#[]⟩, 12) := by
  by_cases h : l.all PAct.ok = true
  · left
    refine ⟨if_pos h, fun a ha => ok_iff.1 (List.all_eq_true.1 h a ha)⟩
  · right
    exact if_neg h
theorem KL.unguard {P : Program} {n : Nat} {ops : Array Oper} {rest : List Oper} {Q : Exit → Act → World → Prop} {k : Kn} {w : World} {o : Oper} (hw : knWant ops k o = some true) (h : KL P n ops ({ o with guard := none } :: rest) Q k w) : KL P n ops (o :: rest) Q k w := ⟨fun a ha => by
  have h2 := h.go a ha
  simp only [wpList] at h2 ⊢
  rw [if_pos (knWant_ok ha hw)]
  exact h2⟩
theorem ownk_empty {w : World} {g k : Nat} {T : TypeId} (h : Blk w g T #[]) : Own w (fun b => b = g) T k (.slice (some ⟨g, 0, none⟩) 0 0) 0 [] :=
  ⟨⟨by simp, .inr ⟨g, 0, #[], rfl, Nat.zero_le _, h, Nat.le_refl _, Nat.zero_le _, by simp, by simp⟩⟩, fun g hg => by simp [Value.ownBlock] at hg; exact hg.symm⟩
def TrueW (W : World) (e : Ending) (W' : World) : Prop := e = .returned (.bool true) ∧ Pure W W'
set_option maxHeartbeats 3200000 in
theorem lines_top (A : Option Addr) (c : Nat) (l : List PAct) (s : ByteArray) (W : World) (hs : Sl W (fun _ => True) 4 A l.length (pac l)) (hf : ∀ a ∈ l, a.Fits) (hT : Tb W) : Calls Tryz.prog 5 #[.slice A l.length c, .string s] W (TrueW W) := by
  have Hs := Lib.hid hs
  have Hf := Lib.hid hf
  have HT := Lib.hid hT
  obtain ⟨t4, ht4⟩ : ∃ t, decide ((4000 : Int) < (s.size : Int)) = t := ⟨_, rfl⟩
  clear hs hf hT
  refine calls_kn Tryz.func5 rfl Tryz.ntmps5 rfl ?_
  refine gg ?_
  refine KL.call rfl rfl rfl rfl rfl (by go_simp) (pl_first W HT.out) ?_
  rintro e w1 ⟨rfl, hk⟩
  refine ⟨_, rfl, ?_⟩
  have Hr := Lib.hid ((Run.start (F := fun _ => False) (w := W) (Ps := []) trivial).pure hk)
  clear hk
  refine gg ?_
  refine KL.call rfl rfl rfl rfl rfl (by go_simp) (hk_acts A c l w1 (Hs.out.kept (S := fun _ => False) Hr.out.kept (fun _ _ _ h => h))) ?_
  rintro e w2 ⟨r, rfl, e2, hfew⟩
  obtain rfl := e2.symm
  clear e2
  refine ⟨_, rfl, ?_⟩
  refine gg ?_
  cases r
  case false =>
    refine gg ?_
    refine KL.call rfl rfl rfl rfl rfl (by go_simp) (pl_first _ (HT.out.kept Hr.out.kept)) ?_
    rintro e wz ⟨rfl, hk⟩
    refine ⟨_, rfl, ?_⟩
    have Hz := Lib.hid (Hr.out.pure hk).kept
    clear hk
    refine gg ?_
    refine KR.fin1 Tryz.results5 rfl ⟨rfl, Hz.out⟩
  have Hfew := Lib.hid (hfew rfl)
  clear hfew
  refine gg ?_
  cases t4
  case true =>
    refine gg ?_
    refine KL.call rfl rfl rfl rfl rfl (by go_simp) (pl_first _ (HT.out.kept Hr.out.kept)) ?_
    rintro e wz ⟨rfl, hk⟩
    refine ⟨_, rfl, ?_⟩
    have Hz := Lib.hid (Hr.out.pure hk).kept
    clear hk
    refine gg ?_
    refine KR.fin1 Tryz.results5 rfl ⟨rfl, Hz.out⟩
  have hs4 := of_decide_eq_false ht4
  have hsz : s.size ≤ 4000 := by omega
  have hzz := Hfew.out.shw Hf.out
  refine gg ?_
  refine KL.call rfl rfl rfl rfl rfl (by go_simp) (pl_show l A c w1 (Hs.out.kept (S := fun _ => False) Hr.out.kept (fun _ _ _ h => h)) (fun a ha => by have := Hfew.out.each a ha; omega) (by omega) (HT.out.kept Hr.out.kept)) ?_
  rintro e w3 ⟨rfl, hk3⟩
  refine ⟨_, rfl, ?_⟩
  have Hr' := Lib.hid (Hr.out.pure hk3)
  clear Hr
  have Hr := Hr'
  clear Hr'
  clear hk3
  rcases showB_cases l with ⟨hsb, hok⟩ | hsb
  · rw [hsb]
    have Hok := Lib.hid hok
    clear hsb hok
    simp only
    obtain ⟨T, hT⟩ : ∃ T : ByteArray, (⟨(shw l).toArray⟩ : ByteArray) = T := ⟨_, rfl⟩
    rw [hT]
    have hTk : kb T = shw l := by rw [← hT, kb_bs]
    have hTz : T.size = (shw l).length := by rw [← kb_len, hTk]
    have HTk := Lib.hid hTk
    have HTz := Lib.hid hTz
    have hTl : T.size ≤ 60000 := by omega
    clear hT hTk hTz
    refine gg ?_
    refine kp ?_ (oCat (hb := by have := HTz.out; omega))
    have hprs : prsL (kb (T ++ s)) = (prsL (kb s)).puts l T.size := by rw [kb_app, HTk.out, prs_shw l (kb s) Hok.out, HTz.out]
    have P1 := pl_parse (T ++ s) w3 (by rw [bs_app_size]; have := HTz.out; omega) (HT.out.kept Hr.out.kept)
    rw [hprs] at P1
    have P1 := Lib.hid P1
    clear hprs
    refine gg ?_
    cases hp : prsL (kb s) with
    | bad k =>
      rw [hp] at P1
      have Hp := Lib.hid hp
      clear hp
      refine KL.call rfl rfl rfl rfl rfl (by go_simp) P1.out ?_
      rintro e w4 ⟨rfl, hk4⟩
      refine ⟨_, rfl, ?_⟩
      have Hr' := Lib.hid (Hr.out.pure hk4)
      clear Hr
      have Hr := Hr'
      clear Hr'
      clear hk4 P1
      have P2 := pl_parse s w4 (by omega) (HT.out.kept Hr.out.kept)
      rw [Hp.out] at P2
      have P2 := Lib.hid P2
      refine gg ?_
      refine KL.call rfl rfl rfl rfl rfl (by go_simp) P2.out ?_
      rintro e w5 ⟨rfl, hk5⟩
      refine ⟨_, rfl, ?_⟩
      have Hr' := Lib.hid (Hr.out.pure hk5)
      clear Hr
      have Hr := Hr'
      clear Hr'
      clear hk5 P2
      have hkl : k < s.size := by have := prs_lt (kb s).length (kb s) (Nat.le_refl _) k Hp.out; rwa [kb_len] at this
      have htt : decide ((T.size : Int) + (k : Int) = (T.size : Int) + (k : Int)) = true := decide_eq_true rfl
      refine gg ?_
      refine KR.fin1 Tryz.results5 rfl ⟨rfl, Hr.out.kept⟩
    | ok m =>
      rw [hp] at P1
      have Hp := Lib.hid hp
      clear hp
      refine KL.call rfl rfl rfl rfl rfl (by go_simp) P1.out ?_
      rintro e w4 ⟨A4, c4, rfl, hc4, hs4', hk4⟩
      refine ⟨_, rfl, ?_⟩
      have Hr' := Lib.hid (Hr.out.add (Q := slC 4 A4 (l ++ m).length (pac (l ++ m))) hk4 hs4')
      clear Hr
      have Hr := Hr'
      clear Hr'
      clear hk4 hs4' P1
      have P2 := pl_parse s w4 (by omega) (HT.out.kept Hr.out.kept)
      rw [Hp.out] at P2
      have P2 := Lib.hid P2
      refine gg ?_
      refine KL.call rfl rfl rfl rfl rfl (by go_simp) P2.out ?_
      rintro e w5 ⟨A5, c5, rfl, hc5, hs5, hk5⟩
      refine ⟨_, rfl, ?_⟩
      have Hr' := Lib.hid (Hr.out.add (Q := slC 4 A5 m.length (pac m)) hk5 hs5)
      clear Hr
      have Hr := Hr'
      clear Hr'
      clear hk5 hs5 P2
      have hml : m.length ≤ 4000 := by
        obtain ⟨h1, _⟩ := prs_back (kb s).length (kb s) (Nat.le_refl _) m Hp.out
        have := shw_ge m
        rw [h1, kb_len] at this
        omega
      have hll := Hfew.out.n
      refine gg ?_
      refine KL.makes (v := .slice (some ⟨w5.heap.size, 0, none⟩) 0 0) (w' := w5.alloc (.cells #[] 33)) rfl rfl rfl (fun ρ hρ => by simp only [execOp]; go_simp; first | done | rfl) ?_
      have Hr' := Lib.hid (Hr.out.addOwn ((Kept.refl _ _).alloc (.cells #[] 33)) ((ownk_empty (k := 4) (Blk.new w5 33 #[])).imp (G := fun b => w5.heap.size ≤ b) (fun b _ e => by have e : b = w5.heap.size := e; omega)))
      clear Hr
      have Hr := Hr'
      clear Hr'
      generalize w5.alloc _ = w6 at *
      refine gg ?_
      refine KL.unguard rfl ?_
      refine KL.app Hr.out 0 rfl Tryz.underlying22 info_act rfl (by omega) (Hs.out.kept (S := fun _ => False) Hr.out.kept (fun _ _ _ h => h)) (pac_one _) (by omega) (by omega) rfl rfl rfl rfl rfl rfl ?_
      intro A7 c7 w7 e1 e2 hr7
      clear e1 e2
      have hr8 : Run W (fun _ => False) w7 [ownC 33 4 (.slice A7 l.length c7) l.length (pac l), slC 4 A5 m.length (pac m), slC 4 A4 (l ++ m).length (pac (l ++ m))] := by
        rw [Nat.zero_add] at hr7
        exact hr7
      have Hr' := Lib.hid hr8
      clear Hr
      have Hr := Hr'
      clear Hr'
      clear hr7 hr8
      refine gg ?_
      rw [Nat.zero_add]
      refine KL.unguard rfl ?_
      refine KL.app Hr.out 0 rfl Tryz.underlying22 info_act rfl (by omega) (Hr.out.get (P := slC 4 A5 m.length (pac m)) 1 rfl) (pac_one _) (by omega) (by omega) rfl rfl rfl rfl rfl rfl ?_
      intro A8 c8 w8 e1 e2 hr7
      clear e1 e2
      have hr8 : Run W (fun _ => False) w8 [ownC 33 4 (.slice A8 (l ++ m).length c8) (l ++ m).length (pac (l ++ m)), slC 4 A5 m.length (pac m), slC 4 A4 (l ++ m).length (pac (l ++ m))] := by
        rw [List.length_append, pac_app]
        rw [List.length_append, pac_app] at hr7
        exact hr7
      have Hr' := Lib.hid hr8
      clear Hr
      have Hr := Hr'
      clear Hr'
      clear hr7 hr8
      obtain ⟨A9, c9, e9, hc9, _, hs9⟩ := (Hr.out.own 0 rfl).toO.form
      obtain ⟨h91, -, h92⟩ : A8 = A9 ∧ (l ++ m).length = (l ++ m).length ∧ c8 = c9 := by injection e9 with e1 e2 e3; exact ⟨e1, rfl, e3⟩
      subst h91 h92
      have Hs9 := Lib.hid hs9
      clear e9 hc9 hs9
      have hlm : (l ++ m).length ≤ 5000 := by rw [List.length_append]; omega
      have CC := hl_same A4 A8 c4 c8 (l ++ m).length (l ++ m).length (l ++ m) (l ++ m) w8 (Hr.out.get (P := slC 4 A4 (l ++ m).length (pac (l ++ m))) 2 rfl) Hs9.out (by omega) (by omega)
      rw [decide_eq_true (rfl : l ++ m = l ++ m)] at CC
      have CC := Lib.hid CC
      refine gg ?_
      rw [← List.length_append]
      refine KL.call rfl rfl rfl rfl rfl (by go_simp) CC.out ?_
      rintro e w9 ⟨rfl, hk9⟩
      refine ⟨_, rfl, ?_⟩
      have Hr' := Lib.hid (Hr.out.pure hk9)
      clear Hr
      have Hr := Hr'
      clear Hr'
      clear hk9
      refine gg ?_
      refine KR.fin1 Tryz.results5 rfl ⟨rfl, Hr.out.kept⟩
  · rw [hsb]
    simp only
    refine gg ?_
    refine KL.call rfl rfl rfl rfl rfl (by go_simp) (pl_first _ (HT.out.kept Hr.out.kept)) ?_
    rintro e wz ⟨rfl, hk⟩
    refine ⟨_, rfl, ?_⟩
    have Hz := Lib.hid (Hr.out.pure hk).kept
    clear hk
    refine gg ?_
    refine KR.fin1 Tryz.results5 rfl ⟨rfl, Hz.out⟩
end Go.Proofs.YtiddhcabpmkolaaGreatDoor
set_option linter.unusedSimpArgs false
set_option linter.unusedVariables false
namespace Go.Proofs.YtiddhcabpmkolaaGreatDoor
open Go.RowKit
set_option maxRecDepth 100000
open Go
set_option maxHeartbeats 3200000 in
theorem back_top (A : Option Addr) (c : Nat) (l : List PAct) (s : ByteArray) (W : World) (hs : Sl W (fun _ => True) 4 A l.length (pac l)) (hf : ∀ a ∈ l, a.Fits) (hT : Tb W) : Calls Tryz.prog 4 #[.slice A l.length c, .string s] W (TrueW W) := by
  have Hs := Lib.hid hs
  have Hf := Lib.hid hf
  have HT := Lib.hid hT
  obtain ⟨t4, ht4⟩ : ∃ t, decide ((4000 : Int) < (s.size : Int)) = t := ⟨_, rfl⟩
  clear hs hf hT
  refine calls_kn Tryz.func4 rfl Tryz.ntmps4 rfl ?_
  refine gg ?_
  refine KL.call rfl rfl rfl rfl rfl (by go_simp) (pl_first W HT.out) ?_
  rintro e w1 ⟨rfl, hk⟩
  refine ⟨_, rfl, ?_⟩
  have Hr := Lib.hid ((Run.start (F := fun _ => False) (w := W) (Ps := []) trivial).pure hk)
  clear hk
  refine gg ?_
  refine KL.call rfl rfl rfl rfl rfl (by go_simp) (hk_acts A c l w1 (Hs.out.kept (S := fun _ => False) Hr.out.kept (fun _ _ _ h => h))) ?_
  rintro e w2 ⟨r, rfl, e2, hfew⟩
  obtain rfl := e2.symm
  clear e2
  refine ⟨_, rfl, ?_⟩
  refine gg ?_
  cases r
  case false =>
    refine gg ?_
    refine KL.call rfl rfl rfl rfl rfl (by go_simp) (pl_first _ (HT.out.kept Hr.out.kept)) ?_
    rintro e wz ⟨rfl, hk⟩
    refine ⟨_, rfl, ?_⟩
    have Hz := Lib.hid (Hr.out.pure hk).kept
    clear hk
    refine gg ?_
    refine KR.fin1 Tryz.results4 rfl ⟨rfl, Hz.out⟩
  have Hfew := Lib.hid (hfew rfl)
  clear hfew
  refine gg ?_
  cases t4
  case true =>
    refine gg ?_
    refine KL.call rfl rfl rfl rfl rfl (by go_simp) (pl_first _ (HT.out.kept Hr.out.kept)) ?_
    rintro e wz ⟨rfl, hk⟩
    refine ⟨_, rfl, ?_⟩
    have Hz := Lib.hid (Hr.out.pure hk).kept
    clear hk
    refine gg ?_
    refine KR.fin1 Tryz.results4 rfl ⟨rfl, Hz.out⟩
  have hs4 := of_decide_eq_false ht4
  have hsz : s.size ≤ 4000 := by omega
  have hzz := Hfew.out.shw Hf.out
  refine gg ?_
  refine KL.call rfl rfl rfl rfl rfl (by go_simp) (pl_show l A c w1 (Hs.out.kept (S := fun _ => False) Hr.out.kept (fun _ _ _ h => h)) (fun a ha => by have := Hfew.out.each a ha; omega) (by omega) (HT.out.kept Hr.out.kept)) ?_
  rintro e w3 ⟨rfl, hk3⟩
  refine ⟨_, rfl, ?_⟩
  have Hr' := Lib.hid (Hr.out.pure hk3)
  clear Hr
  have Hr := Hr'
  clear Hr'
  clear hk3
  rcases showB_cases l with ⟨hsb, hok⟩ | hsb
  · rw [hsb]
    have Hok := Lib.hid hok
    clear hsb hok
    simp only
    obtain ⟨T, hT⟩ : ∃ T : ByteArray, (⟨(shw l).toArray⟩ : ByteArray) = T := ⟨_, rfl⟩
    rw [hT]
    have hTk : kb T = shw l := by rw [← hT, kb_bs]
    have hTz : T.size = (shw l).length := by rw [← kb_len, hTk]
    have hTl : T.size ≤ 60000 := by omega
    have hprs : prsL (kb T) = .ok l := by
      have := prs_shw l [] Hok.out
      rw [List.append_nil, ← hTk] at this
      rw [this, prsL_nil, Prs.puts, List.append_nil]
    clear hT hTk hTz
    have P1 := pl_parse T w3 (by omega) (HT.out.kept Hr.out.kept)
    rw [hprs] at P1
    have P1 := Lib.hid P1
    clear hprs
    refine gg ?_
    refine KL.call rfl rfl rfl rfl rfl (by go_simp) P1.out ?_
    rintro e w4 ⟨A4, c4, rfl, hc4, hs4', hk4⟩
    refine ⟨_, rfl, ?_⟩
    have Hr' := Lib.hid (Hr.out.add (Q := slC 4 A4 l.length (pac l)) hk4 hs4')
    clear Hr
    have Hr := Hr'
    clear Hr'
    clear hk4 hs4' P1
    have hll := Hfew.out.n
    have CC := hl_same A4 A c4 c l.length l.length l l w4 (Hr.out.get (P := slC 4 A4 l.length (pac l)) 0 rfl) (Hs.out.kept (S := fun _ => False) Hr.out.kept (fun _ _ _ h => h)) (by omega) (by omega)
    rw [decide_eq_true (rfl : l = l)] at CC
    have CC := Lib.hid CC
    refine gg ?_
    refine KL.call rfl rfl rfl rfl rfl (by go_simp) CC.out ?_
    rintro e w9 ⟨rfl, hk9⟩
    refine ⟨_, rfl, ?_⟩
    have Hr' := Lib.hid (Hr.out.pure hk9)
    clear Hr
    have Hr := Hr'
    clear Hr'
    clear hk9 CC
    refine gg ?_
    have P2 := Lib.hid (pl_parse s _ (by omega) (HT.out.kept Hr.out.kept))
    cases hp : prsL (kb s) with
    | bad k =>
      rw [hp] at P2
      have Hp := Lib.hid hp
      clear hp
      refine KL.call rfl rfl rfl rfl rfl (by go_simp) P2.out ?_
      rintro e w5 ⟨rfl, hk5⟩
      refine ⟨_, rfl, ?_⟩
      have Hr' := Lib.hid (Hr.out.pure hk5)
      clear Hr
      have Hr := Hr'
      clear Hr'
      clear hk5 P2
      have hkl : k < s.size := by have := prs_lt (kb s).length (kb s) (Nat.le_refl _) k Hp.out; rwa [kb_len] at this
      have ht1 : decide ((0 : Int) ≤ (k : Int)) = true := by simp
      have ht2 : decide ((k : Int) < (s.size : Int)) = true := by simp; omega
      refine gg ?_
      refine KR.fin1 Tryz.results4 rfl ⟨rfl, Hr.out.kept⟩
    | ok m =>
      rw [hp] at P2
      have Hp := Lib.hid hp
      clear hp
      refine KL.call rfl rfl rfl rfl rfl (by go_simp) P2.out ?_
      rintro e w5 ⟨A5, c5, rfl, hc5, hs5, hk5⟩
      refine ⟨_, rfl, ?_⟩
      have Hr' := Lib.hid (Hr.out.add (Q := slC 4 A5 m.length (pac m)) hk5 hs5)
      clear Hr
      have Hr := Hr'
      clear Hr'
      clear hk5 hs5 P2
      have Hb := Lib.hid (prs_back (kb s).length (kb s) (Nat.le_refl _) m Hp.out)
      have hml : (shw m).length ≤ 4000 := by rw [Hb.out.1, kb_len]; omega
      have hsb := showB_ok Hb.out.2
      have hsT : (⟨(shw m).toArray⟩ : ByteArray) = s := by
        rw [Hb.out.1]
        exact bs_kb s
      rw [hsT] at hsb
      have S2 := pl_show m A5 c5 w5 ((Hr.out.get (P := slC 4 A5 m.length (pac m)) 0 rfl).imp (fun _ _ _ => trivial)) (fun a ha => by have h1 := ok_bytes (Hb.out.2 a ha); have h2 := shw_mem ha; omega) (by omega) (HT.out.kept Hr.out.kept)
      rw [hsb] at S2
      have S2 := Lib.hid S2
      clear hsb hsT
      refine gg ?_
      refine KL.call rfl rfl rfl rfl rfl (by go_simp) S2.out ?_
      rintro e w6 ⟨rfl, hk6⟩
      refine ⟨_, rfl, ?_⟩
      have Hr' := Lib.hid (Hr.out.pure hk6)
      clear Hr
      have Hr := Hr'
      clear Hr'
      clear hk6 S2
      have hss : decide (s = s) = true := decide_eq_true rfl
      refine gg ?_
      refine KR.fin1 Tryz.results4 rfl ⟨rfl, Hr.out.kept⟩
  · rw [hsb]
    simp only
    refine gg ?_
    have P2 := Lib.hid (pl_parse s _ (by omega) (HT.out.kept Hr.out.kept))
    cases hp : prsL (kb s) with
    | bad k =>
      rw [hp] at P2
      have Hp := Lib.hid hp
      clear hp
      refine KL.call rfl rfl rfl rfl rfl (by go_simp) P2.out ?_
      rintro e w5 ⟨rfl, hk5⟩
      refine ⟨_, rfl, ?_⟩
      have Hr' := Lib.hid (Hr.out.pure hk5)
      clear Hr
      have Hr := Hr'
      clear Hr'
      clear hk5 P2
      have hkl : k < s.size := by have := prs_lt (kb s).length (kb s) (Nat.le_refl _) k Hp.out; rwa [kb_len] at this
      have ht1 : decide ((0 : Int) ≤ (k : Int)) = true := by simp
      have ht2 : decide ((k : Int) < (s.size : Int)) = true := by simp; omega
      refine gg ?_
      refine KR.fin1 Tryz.results4 rfl ⟨rfl, Hr.out.kept⟩
    | ok m =>
      rw [hp] at P2
      have Hp := Lib.hid hp
      clear hp
      refine KL.call rfl rfl rfl rfl rfl (by go_simp) P2.out ?_
      rintro e w5 ⟨A5, c5, rfl, hc5, hs5, hk5⟩
      refine ⟨_, rfl, ?_⟩
      have Hr' := Lib.hid (Hr.out.add (Q := slC 4 A5 m.length (pac m)) hk5 hs5)
      clear Hr
      have Hr := Hr'
      clear Hr'
      clear hk5 hs5 P2
      have Hb := Lib.hid (prs_back (kb s).length (kb s) (Nat.le_refl _) m Hp.out)
      have hml : (shw m).length ≤ 4000 := by rw [Hb.out.1, kb_len]; omega
      have hsb := showB_ok Hb.out.2
      have hsT : (⟨(shw m).toArray⟩ : ByteArray) = s := by
        rw [Hb.out.1]
        exact bs_kb s
      rw [hsT] at hsb
      have S2 := pl_show m A5 c5 w5 ((Hr.out.get (P := slC 4 A5 m.length (pac m)) 0 rfl).imp (fun _ _ _ => trivial)) (fun a ha => by have h1 := ok_bytes (Hb.out.2 a ha); have h2 := shw_mem ha; omega) (by omega) (HT.out.kept Hr.out.kept)
      rw [hsb] at S2
      have S2 := Lib.hid S2
      clear hsb hsT
      refine gg ?_
      refine KL.call rfl rfl rfl rfl rfl (by go_simp) S2.out ?_
      rintro e w6 ⟨rfl, hk6⟩
      refine ⟨_, rfl, ?_⟩
      have Hr' := Lib.hid (Hr.out.pure hk6)
      clear Hr
      have Hr := Hr'
      clear Hr'
      clear hk6 S2
      have hss : decide (s = s) = true := decide_eq_true rfl
      refine gg ?_
      refine KR.fin1 Tryz.results4 rfl ⟨rfl, Hr.out.kept⟩
end Go.Proofs.YtiddhcabpmkolaaGreatDoor
set_option linter.unusedSimpArgs false
set_option linter.unusedVariables false
namespace Go.Proofs.YtiddhcabpmkolaaGreatDoor
open Go.RowKit
set_option maxRecDepth 100000
open Go
theorem plWord_four {k : Int} (h1 : 1 ≤ k) (h7 : k ≤ 7) : (plWord k).length = 4 := by
  rcases (show k = 1 ∨ k = 2 ∨ k = 3 ∨ k = 4 ∨ k = 5 ∨ k = 6 ∨ k = 7 by omega) with rfl | rfl | rfl | rfl | rfl | rfl | rfl <;> rfl
theorem shw_one (a : PAct) : shw [a] = a.head ++ [10] := rfl
set_option maxHeartbeats 6400000 in
theorem words_top (kind conn n : Int) (s : ByteArray) (W : World) (hf : (⟨kind, conn, n, s⟩ : PAct).Fits) (hT : Tb W) : Calls Tryz.prog 6 #[.int .i64 kind, .int .i64 conn, .int .i64 n, .string s] W (TrueW W) := by
  have Hf := Lib.hid hf
  have HT := Lib.hid hT
  obtain ⟨t4, ht4⟩ : ∃ t, decide ((400 : Int) < (s.size : Int)) = t := ⟨_, rfl⟩
  clear hf hT
  refine calls_kn Tryz.func6 rfl Tryz.ntmps6 rfl ?_
  refine gg ?_
  refine KL.call rfl rfl rfl rfl rfl (by go_simp) (pl_first W HT.out) ?_
  rintro e w1 ⟨rfl, hk⟩
  refine ⟨_, rfl, ?_⟩
  have Hr := Lib.hid ((Run.start (F := fun _ => False) (w := W) (Ps := []) trivial).pure hk)
  clear hk
  refine gg ?_
  cases t4
  case true =>
    refine gg ?_
    refine KL.call rfl rfl rfl rfl rfl (by go_simp) (pl_first _ (HT.out.kept Hr.out.kept)) ?_
    rintro e wz ⟨rfl, hk⟩
    refine ⟨_, rfl, ?_⟩
    have Hz := Lib.hid (Hr.out.pure hk).kept
    clear hk
    refine gg ?_
    refine KR.fin1 Tryz.results6 rfl ⟨rfl, Hz.out⟩
  have hs4 := of_decide_eq_false ht4
  have hsz : s.size ≤ 400 := by omega
  clear hs4
  have Hr := Lib.hid (Hr.out.addBlk #[.int .i64 0, .int .i64 0, .int .i64 0, .string ⟨#[]⟩] 33)
  refine gg ?_
  refine KL.told (v := .agg #[.int .i64 kind, .int .i64 conn, .int .i64 n, .string s]) rfl rfl rfl (fun ρ hρ => by have e1 := hρ (.tmp 21) _ rfl; have e2 := hρ (.tmp 22) _ rfl; have e3 := hρ (.tmp 23) _ rfl; have e4 := hρ (.tmp 24) _ rfl; simp only [execOp]; go_simp; first | done | rfl) ?_
  refine gg ?_
  refine KL.makes (v := .pointer (some ⟨World.heap w1 |>.size, 0, none⟩)) rfl rfl rfl (fun ρ hρ => by simp only [execOp]; go_simp; first | done | rfl) ?_
  generalize w1.alloc _ = w2 at *
  generalize w1.heap.size = g1 at *
  refine gg ?_
  refine KL.storeB rfl rfl rfl rfl rfl (Hr.out.blk 0 rfl) rfl (by kernel_rfl) (by kernel_rfl) ?_
  intro w3 hb hk
  have Hr' := Lib.hid (Hr.out.turn 0 rfl hb hk)
  clear Hr
  have Hr := Hr'
  clear Hr'
  clear hb hk
  have hB := Hr.out.blk 0 rfl
  refine gg ?_
  refine kp ?_ (PR.blk rfl rfl hB Tryz.underlying33 rfl (by kernel_rfl))
  clear hB
  obtain ⟨a, ha⟩ : ∃ a : PAct, a = ⟨kind, conn, n, s⟩ := ⟨_, rfl⟩
  have ek : kind = a.kind := by rw [ha]
  have ec : conn = a.conn := by rw [ha]
  have en : n = a.n := by rw [ha]
  have es : s = a.bytes := by rw [ha]
  have hf : a.Fits := by rw [ha]; exact Hf.out
  clear Hf ha
  subst ek ec en es
  have Hf := Lib.hid hf
  clear hf
  refine KL.makes (v := .slice (some ⟨w3.heap.size, 0, none⟩) 1 1) (w' := w3.alloc (.cells a.row 33)) rfl rfl rfl (fun ρ hρ => by have e := hρ (.tmp 27) _ rfl; simp only [execOp]; go_simp; first | done | rfl) ?_
  have hsl := Sl.lit w3 a.row 33 4 1 (pac [a]) rfl rfl
  have Hr' := Lib.hid (Hr.out.alloc (.cells a.row 33))
  clear Hr
  have Hr := Hr'
  clear Hr'
  generalize w3.alloc _ = w4 at *
  generalize w3.heap.size = g3 at *
  have hhl := head_len Hf.out
  have hzl : (shw [a]).length = a.head.length + 1 := by rw [shw_one, List.length_append]; rfl
  have SS := Lib.hid (pl_show [a] _ 1 w4 (hsl.imp (fun _ _ _ => trivial)) (fun b hb => by rw [List.mem_singleton.1 hb]; omega) (by omega) (HT.out.kept Hr.out.kept))
  clear hsl hhl
  refine gg ?_
  refine KL.call rfl rfl rfl rfl rfl (by go_simp) SS.out ?_
  rintro e w5 ⟨rfl, hk5⟩
  refine ⟨_, rfl, ?_⟩
  have Hr' := Lib.hid (Hr.out.pure hk5)
  clear Hr
  have Hr := Hr'
  clear Hr'
  clear hk5 SS
  by_cases hok : a.Ok
  · have hsb := showB_ok (l := [a]) (fun b hb => by rw [List.mem_singleton.1 hb]; exact hok)
    rw [hsb]
    simp only
    have hsl : shw [a] = a.head ++ [10] := shw_one a
    obtain ⟨T, hT⟩ : ∃ T : ByteArray, (⟨(shw [a]).toArray⟩ : ByteArray) = T := ⟨_, rfl⟩
    rw [hT]
    have hTk : kb T = a.head ++ [10] := by rw [← hT, kb_bs, hsl]
    have hTz : T.size = a.head.length + 1 := by rw [← kb_len, hTk, List.length_append]; rfl
    have hch : T.data.toList[a.head.length]? = some 10 := by
      have e : T.data.toList = a.head ++ [10] := by rw [← hTk]; rfl
      rw [e, List.getElem?_append_right (by omega)]
      simp
    have h4 : 4 ≤ a.head.length := by
      unfold PAct.head
      rw [List.length_append, plWord_four hok.k1 hok.k7]
      omega
    have hT4 : decide ((4 : Int) < (T.size : Int)) = true := by simp; omega
    have hT6 : T.size ≤ 60000 := by
      have := head_len Hf.out
      omega
    have HTz := Lib.hid hTz
    have Hch := Lib.hid hch
    have Hok := Lib.hid hok
    have c0 : decide ((0 : Int) ≤ a.conn) = true := decide_eq_true hok.c0
    have c1 : decide (a.conn ≤ (999999 : Int)) = true := decide_eq_true hok.c1
    have n0 : decide ((0 : Int) ≤ a.n) = true := decide_eq_true hok.n0
    have n1 : decide (a.n ≤ (999999 : Int)) = true := decide_eq_true hok.n1
    clear hsb hsl hT hTk hTz hch hzl
    rcases (show a.kind = 1 ∨ a.kind = 2 ∨ a.kind = 3 ∨ a.kind = 4 ∨ a.kind = 5 ∨ a.kind = 6 ∨ a.kind = 7 by have := hok.k1; have := hok.k7; omega) with hk | hk | hk | hk | hk | hk | hk
    all_goals
      have hcc := hok.cc
      have hnn := hok.nn
      have hbb := hok.bb
      rw [hk] at hcc hnn hbb
      rw [hk]
      clear hok
      simp (config := { decide := true }) only [plConn, plNum, false_or, true_or] at hcc hnn hbb
      replace hcc := decide_eq_true hcc
      replace hnn := decide_eq_true hnn
      replace hbb := decide_eq_true hbb
      refine gg ?_
      refine kp ?_ (oJ Hch.out (hi := by have := HTz.out; omega))
      refine gg ?_
      refine KR.fin1 Tryz.results6 rfl ⟨rfl, Hr.out.kept⟩
  · have hsb : showB [a] = (⟨#[]⟩, 12) := if_neg (fun h => hok (ok_iff.1 (List.all_eq_true.1 h a (List.mem_singleton.2 rfl))))
    rw [hsb]
    simp only
    clear hsb hzl
    have hno : ∀ {p : Prop}, a.Ok → p := fun h => absurd h hok
    clear hok
    obtain ⟨b1, hb1⟩ : ∃ t, decide ((0 : Int) ≤ a.conn) = t := ⟨_, rfl⟩
    obtain ⟨b2, hb2⟩ : ∃ t, decide (a.conn ≤ (999999 : Int)) = t := ⟨_, rfl⟩
    obtain ⟨b3, hb3⟩ : ∃ t, decide ((0 : Int) ≤ a.n) = t := ⟨_, rfl⟩
    obtain ⟨b4, hb4⟩ : ∃ t, decide (a.n ≤ (999999 : Int)) = t := ⟨_, rfl⟩
    obtain ⟨bc, hbc⟩ : ∃ t, decide (a.conn = (0 : Int)) = t := ⟨_, rfl⟩
    obtain ⟨bn, hbn⟩ : ∃ t, decide (a.n = (0 : Int)) = t := ⟨_, rfl⟩
    obtain ⟨bb, hbb⟩ : ∃ t, decide (a.bytes = ({ data := #[] } : ByteArray)) = t := ⟨_, rfl⟩
    by_cases hkk : 1 ≤ a.kind ∧ a.kind ≤ 7
    · rcases (show a.kind = 1 ∨ a.kind = 2 ∨ a.kind = 3 ∨ a.kind = 4 ∨ a.kind = 5 ∨ a.kind = 6 ∨ a.kind = 7 by omega) with hk | hk | hk | hk | hk | hk | hk
      all_goals
        clear hkk
        have Hk := Lib.hid hk
        rw [hk]
        clear hk
      · refine gg ?_
        cases b1
        case false =>
          refine gg ?_
          refine KR.fin1 Tryz.results6 rfl ⟨rfl, Hr.out.kept⟩
        refine gg ?_
        cases b2
        case false =>
          refine gg ?_
          refine KR.fin1 Tryz.results6 rfl ⟨rfl, Hr.out.kept⟩
        refine gg ?_
        cases b3
        case false =>
          refine gg ?_
          refine KR.fin1 Tryz.results6 rfl ⟨rfl, Hr.out.kept⟩
        refine gg ?_
        cases b4
        case false =>
          refine gg ?_
          refine KR.fin1 Tryz.results6 rfl ⟨rfl, Hr.out.kept⟩
        refine gg ?_
        cases bc
        case false =>
          refine gg ?_
          refine KR.fin1 Tryz.results6 rfl ⟨rfl, Hr.out.kept⟩
        refine gg ?_
        cases bn
        case false =>
          refine gg ?_
          refine KR.fin1 Tryz.results6 rfl ⟨rfl, Hr.out.kept⟩
        refine gg ?_
        cases bb
        case false =>
          refine gg ?_
          refine KR.fin1 Tryz.results6 rfl ⟨rfl, Hr.out.kept⟩
        exact hno ⟨by rw [Hk.out]; decide, by rw [Hk.out]; decide, of_decide_eq_true hb1, of_decide_eq_true hb2, of_decide_eq_true hb3, of_decide_eq_true hb4, by first | exact Or.inl (by rw [Hk.out]; rfl) | exact Or.inr (of_decide_eq_true hbc), by first | exact Or.inl (by rw [Hk.out]; rfl) | exact Or.inr (of_decide_eq_true hbn), by first | exact Or.inl Hk.out | exact Or.inr (of_decide_eq_true hbb)⟩
      · refine gg ?_
        cases b1
        case false =>
          refine gg ?_
          refine KR.fin1 Tryz.results6 rfl ⟨rfl, Hr.out.kept⟩
        refine gg ?_
        cases b2
        case false =>
          refine gg ?_
          refine KR.fin1 Tryz.results6 rfl ⟨rfl, Hr.out.kept⟩
        refine gg ?_
        cases b3
        case false =>
          refine gg ?_
          refine KR.fin1 Tryz.results6 rfl ⟨rfl, Hr.out.kept⟩
        refine gg ?_
        cases b4
        case false =>
          refine gg ?_
          refine KR.fin1 Tryz.results6 rfl ⟨rfl, Hr.out.kept⟩
        refine gg ?_
        cases bn
        case false =>
          refine gg ?_
          refine KR.fin1 Tryz.results6 rfl ⟨rfl, Hr.out.kept⟩
        exact hno ⟨by rw [Hk.out]; decide, by rw [Hk.out]; decide, of_decide_eq_true hb1, of_decide_eq_true hb2, of_decide_eq_true hb3, of_decide_eq_true hb4, by first | exact Or.inl (by rw [Hk.out]; rfl) | exact Or.inr (of_decide_eq_true hbc), by first | exact Or.inl (by rw [Hk.out]; rfl) | exact Or.inr (of_decide_eq_true hbn), by first | exact Or.inl Hk.out | exact Or.inr (of_decide_eq_true hbb)⟩
      · refine gg ?_
        cases b1
        case false =>
          refine gg ?_
          refine KR.fin1 Tryz.results6 rfl ⟨rfl, Hr.out.kept⟩
        refine gg ?_
        cases b2
        case false =>
          refine gg ?_
          refine KR.fin1 Tryz.results6 rfl ⟨rfl, Hr.out.kept⟩
        refine gg ?_
        cases b3
        case false =>
          refine gg ?_
          refine KR.fin1 Tryz.results6 rfl ⟨rfl, Hr.out.kept⟩
        refine gg ?_
        cases b4
        case false =>
          refine gg ?_
          refine KR.fin1 Tryz.results6 rfl ⟨rfl, Hr.out.kept⟩
        refine gg ?_
        cases bn
        case false =>
          refine gg ?_
          refine KR.fin1 Tryz.results6 rfl ⟨rfl, Hr.out.kept⟩
        refine gg ?_
        cases bb
        case false =>
          refine gg ?_
          refine KR.fin1 Tryz.results6 rfl ⟨rfl, Hr.out.kept⟩
        exact hno ⟨by rw [Hk.out]; decide, by rw [Hk.out]; decide, of_decide_eq_true hb1, of_decide_eq_true hb2, of_decide_eq_true hb3, of_decide_eq_true hb4, by first | exact Or.inl (by rw [Hk.out]; rfl) | exact Or.inr (of_decide_eq_true hbc), by first | exact Or.inl (by rw [Hk.out]; rfl) | exact Or.inr (of_decide_eq_true hbn), by first | exact Or.inl Hk.out | exact Or.inr (of_decide_eq_true hbb)⟩
      · refine gg ?_
        cases b1
        case false =>
          refine gg ?_
          refine KR.fin1 Tryz.results6 rfl ⟨rfl, Hr.out.kept⟩
        refine gg ?_
        cases b2
        case false =>
          refine gg ?_
          refine KR.fin1 Tryz.results6 rfl ⟨rfl, Hr.out.kept⟩
        refine gg ?_
        cases b3
        case false =>
          refine gg ?_
          refine KR.fin1 Tryz.results6 rfl ⟨rfl, Hr.out.kept⟩
        refine gg ?_
        cases b4
        case false =>
          refine gg ?_
          refine KR.fin1 Tryz.results6 rfl ⟨rfl, Hr.out.kept⟩
        refine gg ?_
        cases bn
        case false =>
          refine gg ?_
          refine KR.fin1 Tryz.results6 rfl ⟨rfl, Hr.out.kept⟩
        refine gg ?_
        cases bb
        case false =>
          refine gg ?_
          refine KR.fin1 Tryz.results6 rfl ⟨rfl, Hr.out.kept⟩
        exact hno ⟨by rw [Hk.out]; decide, by rw [Hk.out]; decide, of_decide_eq_true hb1, of_decide_eq_true hb2, of_decide_eq_true hb3, of_decide_eq_true hb4, by first | exact Or.inl (by rw [Hk.out]; rfl) | exact Or.inr (of_decide_eq_true hbc), by first | exact Or.inl (by rw [Hk.out]; rfl) | exact Or.inr (of_decide_eq_true hbn), by first | exact Or.inl Hk.out | exact Or.inr (of_decide_eq_true hbb)⟩
      · refine gg ?_
        cases b1
        case false =>
          refine gg ?_
          refine KR.fin1 Tryz.results6 rfl ⟨rfl, Hr.out.kept⟩
        refine gg ?_
        cases b2
        case false =>
          refine gg ?_
          refine KR.fin1 Tryz.results6 rfl ⟨rfl, Hr.out.kept⟩
        refine gg ?_
        cases b3
        case false =>
          refine gg ?_
          refine KR.fin1 Tryz.results6 rfl ⟨rfl, Hr.out.kept⟩
        refine gg ?_
        cases b4
        case false =>
          refine gg ?_
          refine KR.fin1 Tryz.results6 rfl ⟨rfl, Hr.out.kept⟩
        refine gg ?_
        cases bc
        case false =>
          refine gg ?_
          refine KR.fin1 Tryz.results6 rfl ⟨rfl, Hr.out.kept⟩
        refine gg ?_
        cases bb
        case false =>
          refine gg ?_
          refine KR.fin1 Tryz.results6 rfl ⟨rfl, Hr.out.kept⟩
        exact hno ⟨by rw [Hk.out]; decide, by rw [Hk.out]; decide, of_decide_eq_true hb1, of_decide_eq_true hb2, of_decide_eq_true hb3, of_decide_eq_true hb4, by first | exact Or.inl (by rw [Hk.out]; rfl) | exact Or.inr (of_decide_eq_true hbc), by first | exact Or.inl (by rw [Hk.out]; rfl) | exact Or.inr (of_decide_eq_true hbn), by first | exact Or.inl Hk.out | exact Or.inr (of_decide_eq_true hbb)⟩
      · refine gg ?_
        cases b1
        case false =>
          refine gg ?_
          refine KR.fin1 Tryz.results6 rfl ⟨rfl, Hr.out.kept⟩
        refine gg ?_
        cases b2
        case false =>
          refine gg ?_
          refine KR.fin1 Tryz.results6 rfl ⟨rfl, Hr.out.kept⟩
        refine gg ?_
        cases b3
        case false =>
          refine gg ?_
          refine KR.fin1 Tryz.results6 rfl ⟨rfl, Hr.out.kept⟩
        refine gg ?_
        cases b4
        case false =>
          refine gg ?_
          refine KR.fin1 Tryz.results6 rfl ⟨rfl, Hr.out.kept⟩
        refine gg ?_
        cases bb
        case false =>
          refine gg ?_
          refine KR.fin1 Tryz.results6 rfl ⟨rfl, Hr.out.kept⟩
        exact hno ⟨by rw [Hk.out]; decide, by rw [Hk.out]; decide, of_decide_eq_true hb1, of_decide_eq_true hb2, of_decide_eq_true hb3, of_decide_eq_true hb4, by first | exact Or.inl (by rw [Hk.out]; rfl) | exact Or.inr (of_decide_eq_true hbc), by first | exact Or.inl (by rw [Hk.out]; rfl) | exact Or.inr (of_decide_eq_true hbn), by first | exact Or.inl Hk.out | exact Or.inr (of_decide_eq_true hbb)⟩
      · refine gg ?_
        cases b1
        case false =>
          refine gg ?_
          refine KR.fin1 Tryz.results6 rfl ⟨rfl, Hr.out.kept⟩
        refine gg ?_
        cases b2
        case false =>
          refine gg ?_
          refine KR.fin1 Tryz.results6 rfl ⟨rfl, Hr.out.kept⟩
        refine gg ?_
        cases b3
        case false =>
          refine gg ?_
          refine KR.fin1 Tryz.results6 rfl ⟨rfl, Hr.out.kept⟩
        refine gg ?_
        cases b4
        case false =>
          refine gg ?_
          refine KR.fin1 Tryz.results6 rfl ⟨rfl, Hr.out.kept⟩
        refine gg ?_
        cases bc
        case false =>
          refine gg ?_
          refine KR.fin1 Tryz.results6 rfl ⟨rfl, Hr.out.kept⟩
        refine gg ?_
        cases bn
        case false =>
          refine gg ?_
          refine KR.fin1 Tryz.results6 rfl ⟨rfl, Hr.out.kept⟩
        refine gg ?_
        cases bb
        case false =>
          refine gg ?_
          refine KR.fin1 Tryz.results6 rfl ⟨rfl, Hr.out.kept⟩
        exact hno ⟨by rw [Hk.out]; decide, by rw [Hk.out]; decide, of_decide_eq_true hb1, of_decide_eq_true hb2, of_decide_eq_true hb3, of_decide_eq_true hb4, by first | exact Or.inl (by rw [Hk.out]; rfl) | exact Or.inr (of_decide_eq_true hbc), by first | exact Or.inl (by rw [Hk.out]; rfl) | exact Or.inr (of_decide_eq_true hbn), by first | exact Or.inl Hk.out | exact Or.inr (of_decide_eq_true hbb)⟩
    · have h2 : decide (a.kind = 2) = false := by simp; omega
      have h3 : decide (a.kind = 3) = false := by simp; omega
      have h4 : decide (a.kind = 4) = false := by simp; omega
      have h5 : decide (a.kind = 5) = false := by simp; omega
      have h6 : decide (a.kind = 6) = false := by simp; omega
      by_cases hk1 : 1 ≤ a.kind
      · have h8 : decide ((1 : Int) ≤ a.kind) = true := decide_eq_true hk1
        have h9 : decide (a.kind ≤ (7 : Int)) = false := by simp; omega
        refine gg ?_
        refine KR.fin1 Tryz.results6 rfl ⟨rfl, Hr.out.kept⟩
      · have h8 : decide ((1 : Int) ≤ a.kind) = false := decide_eq_false hk1
        refine gg ?_
        refine KR.fin1 Tryz.results6 rfl ⟨rfl, Hr.out.kept⟩
end Go.Proofs.YtiddhcabpmkolaaGreatDoor
