/- pack's walks: the reader -/
import Derived.Test.YtlmfpadlgdmflaaLib
import Derived.Test.YtlmfpadlgdmflaaPack
import Derived.Test.YtlmfpadlgdmflaaRows
import Derived.Deep.QuietTactic
import Derived.BigQuiet
namespace Go.Proofs.Ytlmfpadlgdmflaa
set_option linter.unusedSimpArgs false
set_option linter.unusedVariables false
open Go.RowKit
set_option maxRecDepth 100000
set_option linter.unusedVariables false
theorem info_u8 : (Try.prog.info? 5).map (fun i => (i.zero, i.size, i.bytes)) = some (some (.int .u8 0), 1, 1) := by kernel_rfl

/-- A reader in memory: block g, its bytes in a block with F. -/
def Rd (w : World) (F : Nat → Prop) (g : Nat) (s : Pk.St) : Prop :=
  F g ∧ s.at_ ≤ s.l.length ∧ s.l.length ≤ 1048576 ∧ ∃ A c, s.l.length ≤ c ∧ c ≤ maxLen ∧ Blk w g 55 #[.slice A s.l.length c, .int .i64 s.at_, .int .i64 s.err] ∧ Sl w (fun b => F b ∧ b ≠ g) 1 A s.l.length (bvs s.l)

theorem Rd.kept {S F : Nat → Prop} {w w' : World} {g : Nat} {s : Pk.St} (h : Rd w F g s) (hk : Kept S w w') (hd : ∀ b, b < w.heap.size → F b → ¬ S b) : Rd w' F g s := by
  obtain ⟨hF, h1, h2, A, c, hc1, hc2, hb, hs⟩ := h
  exact ⟨hF, h1, h2, A, c, hc1, hc2, hb.kept hk (hd g hb.lt hF), hs.kept hk fun b hl hb => hd b hl hb.1⟩

def ReadPost (w : World) (l : List UInt8) (e : Ending) (w' : World) : Prop :=
  ∃ g, e = .returned (.pointer (some ⟨g, 0, none⟩)) ∧ Rd w' (fun b => w.heap.size ≤ b) g ⟨l, 0, 0⟩ ∧ Pure w w'

set_option maxHeartbeats 400000 in
theorem read_any (A : Option Addr) (n c : Nat) (l : List UInt8) (w : World) (F : Nat → Prop) (hl : Sl w F 1 A n (bvs l)) (hn : n ≤ 1048576) :
    Calls Try.prog 11 #[.slice A n c] w (ReadPost w l) := by
  go_enter Try.func11, Try.ntmps11
  go_wp2_with (at_builtin; refine held ?_)
  refine unheld ?_
  have hown := Own.lit w 5 1 #[] 0 rfl (by unfold maxLen; omega)
  have hsl := hl.alloc (.cells #[] 5)
  refine wp_app Try.underlying22 info_u8 rfl (by omega) hown hsl (bvs_one l) (by omega) (by omega) rfl _ _ rfl rfl rfl ?_
  intro v' w1 ho hk
  obtain ⟨A', c', rfl, hc1, hc2, hxl, hs'⟩ := ho.form
  go_wp2
  go_ret
  have hbl : l.length = n := by have := hl.1; simp at this; omega
  have hk0 : Pure w w1 := (((Kept.refl _ w).alloc _).trans hk (fun i hi h => absurd h (by omega)))
  have hsz := hk0.size
  simp only [Nat.zero_add, List.nil_append] at hs' hxl
  refine ⟨w1.heap.size, rfl, ⟨hsz, Nat.zero_le _, by simp only; omega, A', c', by simp only; omega, hc2, ?_, ?_⟩, hk0.alloc _⟩
  · simp only [hbl]
    exact Blk.new _ _ _
  · simp only [hbl]
    exact (hs'.imp fun b hb h => ⟨by rcases h with h | h <;> (try simp at h) <;> omega, by omega⟩).alloc _

set_option maxHeartbeats 400000 in
theorem err_any (w : World) (F : Nat → Prop) (g : Nat) (s : Pk.St) (h : Rd w F g s) :
    Calls Try.prog 13 #[.pointer (some ⟨g, 0, none⟩)] w fun e w' => e = .returned (.int .i64 s.err) ∧ w = w' := by
  obtain ⟨hF, h1, h2, A, c, hc1, hc2, hb, hs⟩ := h
  have h0 := hb.cell 2
  simp at h0
  go_enter Try.func13, Try.ntmps13
  go_wp2
  go_ret
  exact ⟨rfl, rfl⟩

set_option maxHeartbeats 400000 in
theorem left_any (w : World) (F : Nat → Prop) (g : Nat) (s : Pk.St) (h : Rd w F g s) :
    Calls Try.prog 14 #[.pointer (some ⟨g, 0, none⟩)] w fun e w' => e = .returned (.int .i64 s.left) ∧ ∃ n, w' = w.drewN n := by
  obtain ⟨hF, h1, h2, A, c, hc1, hc2, hb, hs⟩ := h
  have h0 := hb.cell 0
  have h3 := hb.cell 1
  simp at h0 h3
  go_enter Try.func14, Try.ntmps14
  go_wp2
  go_quiet (fail)
  go_wp2
  go_ret
  exact ⟨rfl, nq, rfl⟩

theorem num_short (w : World) (F : Nat → Prop) (g : Nat) (s : Pk.St) (h : Rd w F g s) (at_ : Nat) (ha : s.l.length ≤ at_) (hb : at_ ≤ 1048576) :
    Calls Try.prog 30 #[.pointer (some ⟨g, 0, none⟩), .int .i64 at_] w fun e w' => e = .returned (.tuple #[.int .i64 0, .int .i64 0, .int .i64 14]) ∧ w = w' := by
  obtain ⟨hF, h1, h2, A, c, hc1, hc2, hb, hs⟩ := h
  have h0 := hb.cell 0
  simp at h0
  go_enter Try.func30, Try.ntmps30
  go_wp2
  go_returns
  exact ⟨rfl, rfl⟩



theorem or_join (V : Nat) (Y : Int) (hV : V < 72057594037927936) (h0 : 0 ≤ Y) (h1 : Y ≤ 255) : bits .or .u64 ((V : Int) * 256) Y = (V : Int) * 256 + Y := by
  rw [u64_or _ _ (by omega) (by omega) h0 (by omega), show ((V : Int) * 256).toNat = V * 256 from by omega, nat_join8 _ _ (by omega) (by omega)]
  omega

/-- What 'number' hands back at a place. -/
def numRes (at_ : Nat) (f : Int × Nat × Int) : Value := .tuple #[.int .i64 f.1, .int .i64 (if f.2.2 = 0 then (at_ + f.2.1 : Nat) else 0), .int .i64 f.2.2]
theorem numRes_ok (at_ : Nat) (n : Int) (k : Nat) : numRes at_ (n, k, 0) = .tuple #[.int .i64 n, .int .i64 ((at_ + k : Nat) : Int), .int .i64 0] := rfl
theorem numRes_14 (at_ : Nat) : numRes at_ (0, 0, 14) = .tuple #[.int .i64 0, .int .i64 0, .int .i64 14] := rfl
theorem numRes_1 (at_ : Nat) : numRes at_ (0, 0, 1) = .tuple #[.int .i64 0, .int .i64 0, .int .i64 1] := rfl

set_option maxHeartbeats 400000 in
theorem number_in (w : World) (F : Nat → Prop) (g : Nat) (s : Pk.St) (h : Rd w F g s) (at_ : Nat) (ha : at_ < s.l.length) (x : UInt8) (r : List UInt8) (hd : Hid (s.l.drop at_ = x :: r)) :
    Calls Try.prog 30 #[.pointer (some ⟨g, 0, none⟩), .int .i64 at_] w fun e w' => e = .returned (numRes at_ (Pk.front (x :: r))) ∧ w = w' := by
  obtain ⟨hF, h1, h2, A, c, hc1, hc2, hb, hs⟩ := h
  unfold maxLen at hc2
  have h0 := hb.cell 0
  simp at h0
  obtain ⟨b, o, rfl, _, _, hcell⟩ := hs.2 (by omega)
  have hca : w.cell? ⟨b, o + at_, none⟩ = some (.int .u8 (x.toNat : Int)) := by
    rw [hcell at_ (by simpa using ha), bvs_at _ _ ha]
    have := hd.out
    rw [List.drop_eq_getElem_cons ha] at this
    injection this with e1 _
    rw [e1]
  have hrl : r.length + at_ + 1 = s.l.length := by
    have := congrArg List.length hd.out
    simp at this; omega
  have hrc : ∀ j, j < r.length → w.cell? ⟨b, o + (at_ + 1) + j, none⟩ = some (.int .u8 ((r[j]?.getD 0).toNat : Int)) := by
    intro j hj
    rw [Nat.add_assoc]
    rw [hcell (at_ + 1 + j) (by simp; omega), bvs_at _ _ (by omega)]
    have h := congrArg (fun l => l[j + 1]?) hd.out
    simp only [List.getElem?_drop, List.getElem?_cons_succ] at h
    rw [← h, show at_ + (j + 1) = at_ + 1 + j from by omega, List.getElem?_eq_getElem (by omega)]
    rfl
  obtain ⟨X, hX⟩ : ∃ X : Int, X = x.toNat := ⟨_, rfl⟩
  rw [← hX] at hca
  have hX0 : 0 ≤ X := by omega
  have hX1 : X ≤ 255 := by have := x.toNat_lt; omega
  have Hrc := Lib.hid hrc
  have Hrl := Lib.hid hrl
  have HX := Lib.hid hX
  clear hcell hrc hs hb
  by_cases hsm : x.toNat ≤ 247
  · have hsm' : X ≤ 247 := by omega
    have hfr : Pk.front (x :: r) = (X, 1, 0) := by rw [Pk.front_cons, if_pos hsm, hX]
    rw [hfr, numRes_ok]
    clear hrl hsm hX hfr
    go_enter Try.func30, Try.ntmps30
    go_wp2
    go_returns
    exact ⟨rfl, rfl⟩
  · by_cases hk : r.length < x.toNat - 247
    · have hfr : Pk.front (x :: r) = (0, 0, 14) := by rw [Pk.front_cons, if_neg hsm, if_pos hk]
      have hk' : (s.l.length : Int) - at_ - 1 < X - 247 := by omega
      have hsm' : (247 : Int) < X := by omega
      rw [hfr, numRes_14]
      clear hrl hk hsm hX hfr
      go_enter Try.func30, Try.ntmps30
      go_wp2
      go_returns
      exact ⟨rfl, rfl⟩
    · obtain ⟨K, hK⟩ : ∃ K : Nat, K + 247 = x.toNat := ⟨x.toNat - 247, by omega⟩
      obtain rfl : X = (K : Int) + 247 := by omega
      have hk' : (K : Int) ≤ (s.l.length : Int) - at_ - 1 := by omega
      have hsm' : (247 : Int) < (K : Int) + 247 := by omega
      have hc3 : ¬ c = at_ + 1 := by omega
      have hcut : ((at_ : Int) + 1 + (K : Int)).toNat - (at_ + 1) = K := by omega
      have hK8 : K ≤ 8 := by omega
      have Hk := Lib.hid hk
      have Hsm := Lib.hid hsm
      have HK := Lib.hid hK
      clear hrl hk hsm hX hK
      go_enter Try.func30, Try.ntmps30
      go_wp2
      go_loop [9, 56] (fun u i => ∃ j : Nat, j ≤ K ∧ i = .int .i64 j ∧ u = .int .u64 (Pk.val 0 (r.take j) : Nat)) (fun _ i => K - (intOf i).toNat)
      case atStart => exact ⟨0, Nat.zero_le _, rfl, rfl⟩
      case round =>
        obtain ⟨j, hj, rfl, rfl⟩ := hrel
        by_cases hjk : j < K
        · have hcj := Hrc.out j (by have := Hk.out; have := HK.out; omega)
          obtain ⟨V, hV⟩ : ∃ V : Nat, V = Pk.val 0 (r.take j) := ⟨_, rfl⟩
          rw [← hV]
          have HV := Lib.hid hV
          clear hV
          have hVb : V < 72057594037927936 := by rw [HV.out]; exact Pk.val_take_lt r j (by omega)
          obtain ⟨Y, hY⟩ : ∃ Y : Int, Y = ((r[j]?.getD 0).toNat : Int) := ⟨_, rfl⟩
          rw [← hY] at hcj
          have hY0 : 0 ≤ Y := by omega
          have hY1 : Y ≤ 255 := by have := (r[j]?.getD 0).toNat_lt; omega
          have HY := Lib.hid hY
          clear hY
          go_wp2
          go_round
          case rel =>
            refine ⟨j + 1, by omega, by go_num, ?_⟩
            rw [Pk.val_take r j (by have := Hk.out; have := HK.out; omega), ← HV.out, or_join V Y hVb hY0 hY1, HY.out]
            rfl
          case measure => simp [intOf]; omega
        · obtain rfl : j = K := by omega
          have hr0 : 0 < r.length := by have := Hk.out; have := HK.out; have := Hsm.out; omega
          have hcj := Hrc.out 0 hr0
          obtain ⟨V, hV⟩ : ∃ V : Int, V = (Pk.val 0 (r.take j) : Nat) := ⟨_, rfl⟩
          rw [← hV]
          have HV := Lib.hid hV
          clear hV
          obtain ⟨Y, hY⟩ : ∃ Y : Int, Y = ((r[0]?.getD 0).toNat : Int) := ⟨_, rfl⟩
          rw [← hY, Nat.add_zero] at hcj
          have hY0 : 0 ≤ Y := by omega
          have hY1 : Y ≤ 255 := by have := (r[0]?.getD 0).toNat_lt; omega
          have HY := Lib.hid hY
          clear hY
          obtain ⟨fb, fo⟩ := Pk.front_long HK.out Hk.out Hsm.out HV.out HY.out
          have Fb := Lib.hid fb
          have Fo := Lib.hid fo
          clear fb fo
          go_wp2
          · have h1 : Y = 0 := by assumption
            rw [Fb.out (.inl h1), numRes_1]
            go_returns
            exact ⟨rfl, rfl⟩
          · have h1 : ¬ Y = 0 := by assumption
            have h2 : ((Y == 0) = true ∨ V ≤ 247) ∨ 9223372036854775808 ≤ V := by assumption
            rw [Fb.out (by simp [h1] at h2; omega), numRes_1]
            go_returns
            exact ⟨rfl, rfl⟩
          · have h1 : ¬ Y = 0 := by assumption
            have h2 : ((Y == 0) = false ∧ 247 < V) ∧ V < 9223372036854775808 := by assumption
            rw [Fo.out h1 h2.1.2 h2.2, numRes_ok, show ((at_ + (1 + j) : Nat) : Int) = (at_ : Int) + 1 + j from by omega]
            go_returns
            exact ⟨rfl, rfl⟩
          · have h1 : V ≤ 247 := by assumption
            rw [Fb.out (.inr (.inl h1)), numRes_1]
            go_returns
            exact ⟨rfl, rfl⟩

theorem number_any (w : World) (F : Nat → Prop) (g : Nat) (s : Pk.St) (h : Rd w F g s) :
    Calls Try.prog 30 #[.pointer (some ⟨g, 0, none⟩), .int .i64 s.at_] w fun e w' => e = .returned (numRes s.at_ (Pk.front (s.l.drop s.at_))) ∧ w = w' := by
  by_cases ha : s.at_ < s.l.length
  · have hd := List.drop_eq_getElem_cons ha
    rw [hd]
    exact number_in w F g s h s.at_ ha _ _ hd
  · have : s.l.drop s.at_ = [] := List.drop_eq_nil_of_le (by omega)
    rw [this]
    have := h.2.1
    have := h.2.2.1
    exact num_short w F g s h s.at_ (by omega) (by omega)

theorem number_bad (w : World) (F : Nat → Prop) (g : Nat) (s : Pk.St) (h : Rd w F g s) (e : Int) (hf : Pk.front (s.l.drop s.at_) = (0, 0, e)) (he : e ≠ 0) :
    Calls Try.prog 30 #[.pointer (some ⟨g, 0, none⟩), .int .i64 s.at_] w fun e1 w' => e1 = .returned (.tuple #[.int .i64 0, .int .i64 0, .int .i64 e]) ∧ w = w' := by
  have := number_any w F g s h
  rw [hf] at this
  unfold numRes at this
  simp only at this
  rwa [if_neg he] at this
theorem number_ok (w : World) (F : Nat → Prop) (g : Nat) (s : Pk.St) (h : Rd w F g s) (n : Int) (k : Nat) (hf : Pk.front (s.l.drop s.at_) = (n, k, 0)) :
    Calls Try.prog 30 #[.pointer (some ⟨g, 0, none⟩), .int .i64 s.at_] w fun e1 w' => e1 = .returned (.tuple #[.int .i64 n, .int .i64 ((s.at_ + k : Nat) : Int), .int .i64 0]) ∧ w = w' := by
  have := number_any w F g s h
  rw [hf, numRes_ok] at this
  exact this

theorem Rd.cells {w : World} {F : Nat → Prop} {g : Nat} {s : Pk.St} (h : Rd w F g s) :
    w.cell? ⟨g, 1, none⟩ = some (.int .i64 s.at_) ∧ w.cell? ⟨g, 2, none⟩ = some (.int .i64 s.err) ∧ w.frozen? ⟨g, 1, none⟩ = false ∧ w.frozen? ⟨g, 2, none⟩ = false := by
  obtain ⟨hF, h1, h2, A, c, hc1, hc2, hb, hs⟩ := h
  exact ⟨by simpa using hb.cell 1, by simpa using hb.cell 2, hb.frozen 1, hb.frozen 2⟩

theorem Rd.setErr {w : World} {F : Nat → Prop} {g : Nat} {s : Pk.St} (h : Rd w F g s) (e : Int) :
    Rd (w.setCell ⟨g, 2, none⟩ (.int .i64 e)) F g { s with err := e } ∧ Kept (· = g) w (w.setCell ⟨g, 2, none⟩ (.int .i64 e)) := by
  obtain ⟨hF, h1, h2, A, c, hc1, hc2, hb, hs⟩ := h
  have hk : Kept (· = g) w (w.setCell ⟨g, 2, none⟩ (.int .i64 e)) := (Kept.refl (· = g) w).setCell (p := ⟨g, _, none⟩) (.inl rfl) _
  exact ⟨⟨hF, h1, h2, A, c, hc1, hc2, hb.set 2 _, hs.kept hk fun b _ hb => hb.2⟩, hk⟩

theorem Rd.setAt {w : World} {F : Nat → Prop} {g : Nat} {s : Pk.St} (h : Rd w F g s) (a : Nat) (ha : a ≤ s.l.length) :
    Rd (w.setCell ⟨g, 1, none⟩ (.int .i64 a)) F g { s with at_ := a } ∧ Kept (· = g) w (w.setCell ⟨g, 1, none⟩ (.int .i64 a)) := by
  obtain ⟨hF, h1, h2, A, c, hc1, hc2, hb, hs⟩ := h
  have hk : Kept (· = g) w (w.setCell ⟨g, 1, none⟩ (.int .i64 a)) := (Kept.refl (· = g) w).setCell (p := ⟨g, _, none⟩) (.inl rfl) _
  exact ⟨⟨hF, ha, h2, A, c, hc1, hc2, hb.set 1 _, hs.kept hk fun b _ hb => hb.2⟩, hk⟩

end Go.Proofs.Ytlmfpadlgdmflaa
