/-
  The reference's reader: its look walked.
-/
import Derived.Test.YtlmfpadlgdmflaaPackB
import Derived.Test.YtlmfpadlgdmflaaBlk
import Derived.Deep.QuietTactic
import Derived.BigQuiet
set_option linter.unusedSimpArgs false
set_option linter.unusedVariables false
namespace Go.Proofs.Ytlmfpadlgdmflaa
open Go.RowKit
set_option maxRecDepth 100000

/-- The reference's reader in memory: block g, its bytes in a block with F. -/
def Rr (w : World) (F : Nat → Prop) (g : Nat) (s : Pk.St) : Prop :=
  F g ∧ s.at_ ≤ s.l.length ∧ s.l.length ≤ 1048576 ∧ ∃ A c, s.l.length ≤ c ∧ c ≤ maxLen ∧ Blk w g 67 #[.slice A s.l.length c, .int .i64 s.at_, .int .i64 s.err] ∧ Sl w (fun b => F b ∧ b ≠ g) 1 A s.l.length (bvs s.l)
theorem Rr.kept {S F : Nat → Prop} {w w' : World} {g : Nat} {s : Pk.St} (h : Rr w F g s) (hk : Kept S w w') (hd : ∀ b, b < w.heap.size → F b → ¬ S b) : Rr w' F g s := by
  obtain ⟨hF, h1, h2, A, c, hc1, hc2, hb, hs⟩ := h
  exact ⟨hF, h1, h2, A, c, hc1, hc2, hb.kept hk (hd g hb.lt hF), hs.kept hk fun b hl hb => hd b hl hb.1⟩
theorem Rr.cells {w : World} {F : Nat → Prop} {g : Nat} {s : Pk.St} (h : Rr w F g s) :
    w.cell? ⟨g, 1, none⟩ = some (.int .i64 s.at_) ∧ w.cell? ⟨g, 2, none⟩ = some (.int .i64 s.err) ∧ w.frozen? ⟨g, 1, none⟩ = false ∧ w.frozen? ⟨g, 2, none⟩ = false := by
  obtain ⟨hF, h1, h2, A, c, hc1, hc2, hb, hs⟩ := h
  exact ⟨by simpa using hb.cell 1, by simpa using hb.cell 2, hb.frozen 1, hb.frozen 2⟩
theorem Rr.setErr {w : World} {F : Nat → Prop} {g : Nat} {s : Pk.St} (h : Rr w F g s) (e : Int) :
    Rr (w.setCell ⟨g, 2, none⟩ (.int .i64 e)) F g { s with err := e } ∧ Kept (· = g) w (w.setCell ⟨g, 2, none⟩ (.int .i64 e)) := by
  obtain ⟨hF, h1, h2, A, c, hc1, hc2, hb, hs⟩ := h
  have hk : Kept (· = g) w (w.setCell ⟨g, 2, none⟩ (.int .i64 e)) := (Kept.refl (· = g) w).setCell (p := ⟨g, _, none⟩) (.inl rfl) _
  exact ⟨⟨hF, h1, h2, A, c, hc1, hc2, hb.set 2 _, hs.kept hk fun b _ hb => hb.2⟩, hk⟩
theorem Rr.setAt {w : World} {F : Nat → Prop} {g : Nat} {s : Pk.St} (h : Rr w F g s) (a : Nat) (ha : a ≤ s.l.length) :
    Rr (w.setCell ⟨g, 1, none⟩ (.int .i64 a)) F g { s with at_ := a } ∧ Kept (· = g) w (w.setCell ⟨g, 1, none⟩ (.int .i64 a)) := by
  obtain ⟨hF, h1, h2, A, c, hc1, hc2, hb, hs⟩ := h
  have hk : Kept (· = g) w (w.setCell ⟨g, 1, none⟩ (.int .i64 a)) := (Kept.refl (· = g) w).setCell (p := ⟨g, _, none⟩) (.inl rfl) _
  exact ⟨⟨hF, ha, h2, A, c, hc1, hc2, hb.set 1 _, hs.kept hk fun b _ hb => hb.2⟩, hk⟩

theorem drew2 (w : World) (a b : Nat) : (w.drewN a).drewN b = w.drewN (a + b) := by simp [World.drewN, Nat.add_assoc]
theorem drew_ex (w : World) {w' : World} (a : Nat) (h : ∃ n, w' = (w.drewN a).drewN n) : ∃ n, w' = w.drewN n := by
  obtain ⟨n, rfl⟩ := h
  exact ⟨_, drew2 w a n⟩
def LookP (w : World) (at_ : Nat) (f : Int × Nat × Int) (e : Ending) (w' : World) : Prop := e = .returned (numRes at_ f) ∧ ∃ n, w' = w.drewN n

theorem look_short (w : World) (F : Nat → Prop) (g : Nat) (s : Pk.St) (h : Rr w F g s) (ha : s.l.length ≤ s.at_) :
    Calls Try.prog 43 #[.pointer (some ⟨g, 0, none⟩)] w (LookP w s.at_ (0, 0, 14)) := by
  obtain ⟨hF, h1, h2, A, c, hc1, hc2, hb, hs⟩ := h
  have h0 := hb.cell 0
  have h3 := hb.cell 1
  simp at h0 h3
  have hge : ((s.l.length : Int) ≤ (s.at_ : Int)) = True := eq_true (by omega)
  go_enter Try.func43, Try.ntmps43
  go_wp2
  go_quiet (fail)
  go_wp2
  go_returns
  exact ⟨rfl, nq, rfl⟩

set_option maxHeartbeats 1600000 in
theorem look_in (w : World) (F : Nat → Prop) (g : Nat) (s : Pk.St) (h : Rr w F g s) (ha : s.at_ < s.l.length) (x : UInt8) (r : List UInt8) (hd : Hid (s.l.drop s.at_ = x :: r)) :
    Calls Try.prog 43 #[.pointer (some ⟨g, 0, none⟩)] w (LookP w s.at_ (Pk.front (x :: r))) := by
  obtain ⟨hF, h1, h2, A, c, hc1, hc2, hb, hs⟩ := h
  unfold maxLen at hc2
  have h0 := hb.cell 0
  have h3 := hb.cell 1
  simp at h0 h3
  obtain ⟨b, o, rfl, _, _, hcell⟩ := hs.2 (by omega)
  generalize s.at_ = at_ at *
  have hca : w.cell? ⟨b, o + at_, none⟩ = some (.int .u8 (x.toNat : Int)) := by
    rw [hcell at_ (by simpa using ha), bvs_at _ _ ha]
    have := hd.out
    rw [List.drop_eq_getElem_cons ha] at this
    injection this with e1 _
    rw [e1]
  have hrl : r.length + at_ + 1 = s.l.length := by
    have := congrArg List.length hd.out
    simp at this; omega
  have hrc : ∀ j, j < r.length → w.cell? ⟨b, o + (at_ + 1 + j), none⟩ = some (.int .u8 ((r[j]?.getD 0).toNat : Int)) := by
    intro j hj
    rw [hcell (at_ + 1 + j) (by simp; omega), bvs_at _ _ (by omega)]
    have h := congrArg (fun l => l[j + 1]?) hd.out
    simp only [List.getElem?_drop, List.getElem?_cons_succ] at h
    rw [← h, show at_ + (j + 1) = at_ + 1 + j from by omega, List.getElem?_eq_getElem (by omega)]
    rfl
  obtain ⟨X, hX⟩ : ∃ X : Int, X = x.toNat := ⟨_, rfl⟩
  rw [← hX] at hca
  have hX0 : 0 ≤ X := by omega
  have hX1 : X ≤ 255 := by have := x.toNat_lt; omega
  have Hrc := Lib.hid hrc
  have Hrl := Lib.hid hrl
  have HX := Lib.hid hX
  generalize s.l.length = n at *
  clear hcell hrc hs hb
  by_cases hsm : x.toNat ≤ 247
  · have hsm' : X - 247 < 1 := by omega
    have hfr : Pk.front (x :: r) = (X, 1, 0) := by rw [Pk.front_cons, if_pos hsm, hX]
    rw [hfr]
    unfold LookP
    rw [numRes_ok]
    clear hrl hsm hX hfr
    go_enter Try.func43, Try.ntmps43
    go_wp2
    go_quiet (fail)
    go_wp2
    go_quiet (fail)
    go_wp2
    go_quiet (fail)
    go_wp2
    go_returns
    refine ⟨rfl, drew_ex w _ ⟨nq, rfl⟩⟩
  · by_cases hk : r.length < x.toNat - 247
    · have hfr : Pk.front (x :: r) = (0, 0, 14) := by rw [Pk.front_cons, if_neg hsm, if_pos hk]
      have hk' : ((n : Int) - at_ - 1 < X - 247) = True := eq_true (by omega)
      have hsm' : ¬ X - 247 < 1 := by omega
      rw [hfr]
      unfold LookP
      rw [numRes_14]
      clear hrl hk hsm hX hfr
      go_enter Try.func43, Try.ntmps43
      go_wp2
      go_quiet (fail)
      go_wp2
      go_quiet (fail)
      go_wp2
      go_quiet (fail)
      go_wp2
      go_returns
      refine ⟨rfl, drew_ex w _ ⟨nq, rfl⟩⟩
    · obtain ⟨K, hK⟩ : ∃ K : Nat, K + 247 = x.toNat := ⟨x.toNat - 247, by omega⟩
      obtain rfl : X = (K : Int) + 247 := by omega
      have hk' : ¬ ((n : Int) - at_ - 1 < (K : Int)) := by omega
      have hK1 : 1 ≤ K := by omega
      have hK8 : K ≤ 8 := by omega
      have hr0 : 0 < r.length := by omega
      have hkr : K ≤ r.length := by omega
      have hcj0 := Hrc.out 0 hr0
      obtain ⟨Y, hY⟩ : ∃ Y : Int, Y = ((r[0]?.getD 0).toNat : Int) := ⟨_, rfl⟩
      rw [← hY, Nat.add_zero] at hcj0
      have hY0 : 0 ≤ Y := by omega
      have hY1 : Y ≤ 255 := by have := (r[0]?.getD 0).toNat_lt; omega
      have HY := Lib.hid hY
      have Hk := Lib.hid hk
      have Hsm := Lib.hid hsm
      have HK := Lib.hid hK
      have hKK : (K : Int) + 247 - 247 = (K : Int) := by omega
      have hat1 : at_ + 1 < n := by omega
      clear hrl hk hsm hX hK hY
      by_cases y0 : Y = 0
      · have hfr : Pk.front (x :: r) = (0, 0, 1) := (Pk.front_long (V := (Pk.val 0 (r.take K) : Nat)) HK.out Hk.out Hsm.out rfl HY.out).1 (.inl y0)
        have y0' : (Y == 0) = true := by simp [y0]
        rw [hfr]
        unfold LookP
        rw [numRes_1]
        clear hfr y0
        go_enter Try.func43, Try.ntmps43
        go_wp2
        go_quiet (fail)
        go_wp2
        go_quiet (fail)
        go_wp2
        go_quiet (fail)
        go_wp2
        go_quiet (fail)
        go_wp2
        go_returns
        refine ⟨rfl, ?_⟩
        simp only [drew2]
        exact ⟨_, rfl⟩
      · have y0' : (Y == 0) = false := by simpa using y0
        have Hy0 := Lib.hid y0
        clear y0
        go_enter Try.func43, Try.ntmps43
        go_wp2
        go_quiet (fail)
        go_wp2
        go_quiet (fail)
        go_wp2
        go_quiet (fail)
        go_wp2
        go_quiet (fail)
        go_wp2
        simp only [drew2]
        generalize hW : w.drewN _ = W
        go_loopw [6, 7] (fun u i wr => ∃ j nd : Nat, j ≤ K ∧ i = .int .i64 ((j : Int) + 1) ∧ u = .int .u64 (Pk.val 0 (r.take j) : Nat) ∧ wr = w.drewN nd) (fun _ i _ => K + 1 - (intOf i).toNat)
        case atStart => exact ⟨0, _, Nat.zero_le _, rfl, rfl, hW.symm⟩
        case round =>
          clear hW
          obtain ⟨j, nd, hj, rfl, rfl, rfl⟩ := hrel
          by_cases hjk : j < K
          · have hcj := Hrc.out j (by omega)
            obtain ⟨V, hV⟩ : ∃ V : Nat, V = Pk.val 0 (r.take j) := ⟨_, rfl⟩
            rw [← hV]
            have HV := Lib.hid hV
            clear hV
            have hVb : V < 72057594037927936 := by rw [HV.out]; exact Pk.val_take_lt r j (by omega)
            obtain ⟨Z, hZ⟩ : ∃ Z : Int, Z = ((r[j]?.getD 0).toNat : Int) := ⟨_, rfl⟩
            rw [← hZ] at hcj
            have hZ0 : 0 ≤ Z := by omega
            have hZ1 : Z ≤ 255 := by have := (r[j]?.getD 0).toNat_lt; omega
            have HZ := Lib.hid hZ
            clear hZ
            have hle : ((j : Int) + 1 ≤ (K : Int)) = True := eq_true (by omega)
            have hor := or_join V Z hVb hZ0 hZ1
            have hatj : at_ + (j + 1) < n := by have := Hrl.out; omega
            have hcj' : w.cell? ⟨b, o + (at_ + (j + 1)), none⟩ = some (.int .u8 Z) := by rw [← hcj]; congr 2; omega
            have hnn : 0 ≤ (at_ : Int) + ((j : Int) + 1) ∧ (at_ : Int) + ((j : Int) + 1) < (n : Int) := by omega
            have htn : ((at_ : Int) + ((j : Int) + 1)).toNat = at_ + (j + 1) := by omega
            go_wp2
            go_quiet (fail)
            go_wp2
            go_roundw
            case rel =>
              refine ⟨j + 1, nd + nq, by omega, by first | rfl | go_num, ?_, by rw [← drew2]⟩
              rw [Pk.val_take r j (by omega), ← HV.out]
              first | (rw [HZ.out]; rfl) | (rw [hor, HZ.out]; rfl)
            case measure => simp [intOf]; omega
          · obtain rfl : j = K := by omega
            have hle : ((j : Int) + 1 ≤ (j : Int)) = False := eq_false (by omega)
            obtain ⟨V, hV⟩ : ∃ V : Int, V = (Pk.val 0 (r.take j) : Nat) := ⟨_, rfl⟩
            rw [← hV]
            have hV0 : 0 ≤ V := by omega
            have HV := Lib.hid hV
            clear hV
            obtain ⟨fb, fo⟩ := Pk.front_long HK.out Hk.out Hsm.out HV.out HY.out
            by_cases v1 : V ≤ 247
            · have v1' : (V < 248) = True := eq_true (by omega)
              have Hf := Lib.hid (fb (.inr (.inl v1)))
              clear fb fo v1
              go_wp2
              go_returns
              refine ⟨by rw [Hf.out, numRes_1]; rfl, _, rfl⟩
            · have v1' : (V < 248) = False := eq_false (by omega)
              by_cases v2 : 9223372036854775808 ≤ V
              · have v2' : ((9223372036854775807 : Int) < V) = True := eq_true (by omega)
                have Hf := Lib.hid (fb (.inr (.inr v2)))
                clear fb fo v1 v2
                go_wp2
                go_returns
                refine ⟨by rw [Hf.out, numRes_1]; rfl, _, rfl⟩
              · have v2' : ((9223372036854775807 : Int) < V) = False := eq_false (by omega)
                have Hf := Lib.hid (fo Hy0.out (by omega) (by omega))
                have hVb : V ≤ 9223372036854775807 := by omega
                clear fb fo v1 v2
                go_wp2
                go_quiet (fail)
                go_wp2
                go_returns
                refine ⟨?_, ?_⟩
                · rw [Hf.out, numRes_ok, show ((at_ + (1 + j) : Nat) : Int) = (at_ : Int) + 1 + (j : Int) from by omega]
                  rfl
                · first | exact ⟨_, rfl⟩ | (simp only [drew2]; exact ⟨_, rfl⟩)
theorem look_any (w : World) (F : Nat → Prop) (g : Nat) (s : Pk.St) (h : Rr w F g s) :
    Calls Try.prog 43 #[.pointer (some ⟨g, 0, none⟩)] w (LookP w s.at_ (Pk.front (s.l.drop s.at_))) := by
  by_cases ha : s.at_ < s.l.length
  · have hd := List.drop_eq_getElem_cons ha
    rw [hd]
    exact look_in w F g s h ha _ _ hd
  · have : s.l.drop s.at_ = [] := List.drop_eq_nil_of_le (by omega)
    rw [this]
    exact look_short w F g s h (by omega)
theorem look_bad (w : World) (F : Nat → Prop) (g : Nat) (s : Pk.St) (h : Rr w F g s) (e : Int) (hf : Pk.front (s.l.drop s.at_) = (0, 0, e)) (he : e ≠ 0) :
    Calls Try.prog 43 #[.pointer (some ⟨g, 0, none⟩)] w fun e1 w' => e1 = .returned (.tuple #[.int .i64 0, .int .i64 0, .int .i64 e]) ∧ ∃ n, w' = w.drewN n := by
  have := look_any w F g s h
  rw [hf] at this
  unfold LookP numRes at this
  simp only at this
  rwa [if_neg he] at this
theorem look_ok (w : World) (F : Nat → Prop) (g : Nat) (s : Pk.St) (h : Rr w F g s) (n : Int) (k : Nat) (hf : Pk.front (s.l.drop s.at_) = (n, k, 0)) :
    Calls Try.prog 43 #[.pointer (some ⟨g, 0, none⟩)] w fun e1 w' => e1 = .returned (.tuple #[.int .i64 n, .int .i64 ((s.at_ + k : Nat) : Int), .int .i64 0]) ∧ ∃ n, w' = w.drewN n := by
  have := look_any w F g s h
  rw [hf] at this
  unfold LookP at this
  rw [numRes_ok] at this
  exact this
theorem Rr.drewN {w : World} {F : Nat → Prop} {g : Nat} {s : Pk.St} (h : Rr w F g s) (n : Nat) : Rr (w.drewN n) F g s := h
end Go.Proofs.Ytlmfpadlgdmflaa
