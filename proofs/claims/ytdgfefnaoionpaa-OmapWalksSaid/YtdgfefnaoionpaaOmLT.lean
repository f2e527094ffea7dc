/-
  omap: OmapTexts walked.
-/
import Derived.Test.YtdgfefnaoionpaaOmH
import Derived.Test.YtdgfefnaoionpaaOmT
set_option linter.unusedSimpArgs false
set_option linter.unusedVariables false
namespace Go.Proofs.Ytdgfefnaoionpaa
open Go.RowKit
set_option maxRecDepth 100000

def d8 (v : Int) : Nat := (bits .and .i64 v 255).toNat
theorem d8_and (v : Int) : bits .and .i64 v 255 = (d8 v : Int) ∧ d8 v ≤ 255 := by
  have e : bits .and .i64 v 255 = IntKind.i64.wrap ((BitVec.ofInt 64 v &&& BitVec.ofInt 64 ((255 : Nat) : Int)).toNat : Int) := rfl
  have h2 : (BitVec.ofInt 64 v &&& BitVec.ofInt 64 ((255 : Nat) : Int)).toNat ≤ 255 := by
    rw [BitVec.toNat_and, BitVec.ofInt_natCast, BitVec.toNat_ofNat]
    have : (BitVec.ofInt 64 v).toNat &&& (255 % 2 ^ 64) = (BitVec.ofInt 64 v).toNat % 256 := Nat.and_two_pow_sub_one_eq_mod _ 8
    rw [this]
    omega
  unfold d8
  rw [e, IntKind.wrap_i64]
  omega
def txt (v : Int) : ByteArray := ⟨(digs (d8 v)).toArray⟩
section
variable {α β : Type}
def mapV (f : α → β) (es : List (En α)) : List (En β) := es.map fun e => (e.1, f e.2)
theorem mapV_length (f : α → β) (es : List (En α)) : (mapV f es).length = es.length := by simp [mapV]
theorem low_map (f : α → β) (es : List (En α)) (t : List UInt8) : low (mapV f es) t = low es t := by
  unfold low mapV
  rw [List.takeWhile_map, List.length_map]
  rfl
theorem has_map (f : α → β) (es : List (En α)) (t : List UInt8) : has (mapV f es) t = has es t := by
  unfold has
  rw [low_map, show (mapV f es)[low es t]? = (es[low es t]?).map (fun e => (e.1, f e.2)) from List.getElem?_map]
  cases es[low es t]? <;> rfl
theorem put_map (f : α → β) (es : List (En α)) (k : ByteArray) (v : α) : putE (mapV f es) k (f v) = mapV f (putE es k v) := by
  unfold putE
  rw [has_map, low_map]
  split
  · unfold mapV
    apply List.ext_getElem?
    intro j
    simp only [List.getElem?_modify, List.getElem?_map]
    by_cases h : low es (kb k) = j
    · simp only [if_pos h]; cases es[j]? <;> rfl
    · simp only [if_neg h]; cases es[j]? <;> rfl
  · simp [insE, mapV, List.map_take, List.map_drop]
theorem del_map (f : α → β) (es : List (En α)) (t : List UInt8) : delE (mapV f es) t = mapV f (delE es t) := by
  unfold delE
  rw [has_map, low_map]
  split
  · unfold mapV
    apply List.ext_getElem?
    intro j
    simp only [List.getElem?_eraseIdx, List.getElem?_map]
    split <;> rfl
  · rfl
end
def actE (es : List (En Int)) (a : Act) : List (En Int) := if a.op = 1 then delE es (kb a.k) else putE es a.k a.v
def runE (l : List Act) : List (En Int) := l.foldl actE []
theorem runE_snoc (l : List Act) (a : Act) : runE (l ++ [a]) = actE (runE l) a := by simp [runE]
theorem actE_le (es : List (En Int)) (a : Act) : (actE es a).length ≤ es.length + 1 := by
  unfold actE
  split
  · have := delE_le es (kb a.k); omega
  · exact putE_le es a.k a.v
theorem run_len (l : List Act) : ∀ es : List (En Int), (l.foldl actE es).length ≤ es.length + l.length := by
  induction l with
  | nil => intro es; simp
  | cons a l ih =>
    intro es
    have h1 := ih (actE es a)
    have h2 := actE_le es a
    simp only [List.foldl_cons, List.length_cons]
    omega
theorem runE_len (l : List Act) : (runE l).length ≤ l.length := by
  have := run_len l []
  simpa [runE] using this

/-- Two maps side by side. -/
def Two (N gm gn : Nat) (w : World) (es : List (En Int)) : Prop :=
  ∃ F G : Nat → Prop, (∀ b, F b → N ≤ b ∧ b < w.heap.size) ∧ (∀ b, G b → N ≤ b ∧ b < w.heap.size) ∧ (∀ b, F b → ¬ G b) ∧ Mpi w F gm es ∧ Mps w G gn (mapV txt es)
theorem Two.pure {N gm gn : Nat} {w w' : World} {es : List (En Int)} (h : Two N gm gn w es) (hp : Pure w w') : Two N gm gn w' es := by
  obtain ⟨F, G, h1, h2, h3, h4, h5⟩ := h
  have := hp.size
  exact ⟨F, G, fun b hb => ⟨(h1 b hb).1, by have := (h1 b hb).2; omega⟩, fun b hb => ⟨(h2 b hb).1, by have := (h2 b hb).2; omega⟩, h3, h4.kept hp (fun _ _ _ h => h), h5.kept hp (fun _ _ _ h => h)⟩
theorem two_close {N gm gn : Nat} {w1 w2 w2' w3 : World} {F G : Nat → Prop} {es' : List (En Int)} (hF : ∀ b, F b → N ≤ b ∧ b < w1.heap.size) (hG : ∀ b, G b → N ≤ b ∧ b < w1.heap.size) (hd : ∀ b, F b → ¬ G b) (hN : N ≤ w1.heap.size)
    (m2 : Mpi w2 (fun b => F b ∨ w1.heap.size ≤ b) gm es') (k1 : Kept F w1 w2) (k2 : Pure w2 w2') (n3 : Mps w3 (fun b => G b ∨ w2'.heap.size ≤ b) gn (mapV txt es')) (k3 : Kept G w2' w3) : Two N gm gn w3 es' := by
  have s1 := k1.size
  have s2 := k2.size
  have s3 := k3.size
  refine ⟨fun b => (F b ∨ w1.heap.size ≤ b) ∧ b < w2.heap.size, fun b => (G b ∨ w2'.heap.size ≤ b) ∧ b < w3.heap.size, fun b hb => ⟨?_, by omega⟩, fun b hb => ⟨?_, hb.2⟩, fun b hb hb' => ?_, ?_, n3.imp (fun b hl hb => ⟨hb, hl⟩)⟩
  · rcases hb.1 with h | h
    · exact (hF b h).1
    · omega
  · rcases hb.1 with h | h
    · exact (hG b h).1
    · omega
  · rcases hb.1 with h | h <;> rcases hb'.1 with h' | h'
    · exact hd b h h'
    · omega
    · have := (hG b h').2; omega
    · omega
  · refine ((m2.imp (fun b hl hb => ⟨hb, hl⟩)).kept k2 (fun _ _ _ h => h)).kept k3 (fun b _ hb hG' => ?_)
    rcases hb.1 with h | h
    · exact hd b h hG'
    · have := (hG b hG').2; omega
def BoolP (b : Bool) (w : World) (e : Ending) (w' : World) : Prop := e = .returned (.bool b) ∧ Pure w w'

set_option maxHeartbeats 3200000 in
theorem texts_top (A : Option Addr) (c : Nat) (l : List Act) (w : World) (F : Nat → Prop) (hs : Sl w F 3 A l.length (l.flatMap Act.cells)) (hf : ∀ a ∈ l, a.Fits) :
    Calls Try.prog 6 #[.slice A l.length c] w (BoolP true w) := by
  have CF := Lib.hid first14
  have CL := Lib.hid (fun w' (h : Pure w w') => light_any A c l w' F (hs.kept h (fun _ _ _ h => h)) hf)
  obtain ⟨n, hn⟩ : ∃ n, l.length = n := ⟨_, rfl⟩
  rw [hn] at CL hs ⊢
  cases hL : lightL l with
  | false =>
    rw [hL] at CL
    clear hs hf
    go_enter Try.func6, Try.ntmps6
    go_wp2_with fail
    refine (CF.out _).mono ?_
    rintro e w1 ⟨rfl, hk1⟩
    go_wp2_with fail
    refine (CL.out _ hk1).mono ?_
    rintro e w2 ⟨rfl, rfl⟩
    go_wp2_with fail
    refine (CF.out _).mono ?_
    rintro e w3 ⟨rfl, hk3⟩
    go_wp2
    go_ret
    exact ⟨rfl, hk1.same hk3⟩
  | true =>
    rw [hL] at CL
    have h80 : n ≤ 80 := by
      simp only [lightL, Bool.and_eq_true, decide_eq_true_eq] at hL
      omega
    have CN := Lib.hid i_new
    have CM := Lib.hid s_new
    have Hs := Lib.hid hs
    have Hn := Lib.hid hn
    clear hs hn hf hL
    go_enter Try.func6, Try.ntmps6
    go_wp2_with fail
    refine (CF.out _).mono ?_
    rintro e w1 ⟨rfl, hk1⟩
    go_wp2_with fail
    refine (CL.out _ hk1).mono ?_
    rintro e w2 ⟨rfl, rfl⟩
    obtain ⟨N, hN⟩ : ∃ N, w2.heap.size = N := ⟨_, rfl⟩
    have CN' := CN.out w2
    rw [hN] at CN'
    go_wp2_with fail
    refine CN'.mono ?_
    rintro e w3 ⟨rfl, hm3, hk3⟩
    obtain ⟨M, hM⟩ : ∃ M, w3.heap.size = M := ⟨_, rfl⟩
    have CM' := CM.out w3
    rw [hM] at CM'
    go_wp2_with fail
    refine CM'.mono ?_
    rintro e w4 ⟨rfl, hm4, hk4⟩
    have h2 : Two N N M w4 [] := by
      have l1 : N < w3.heap.size := by
        obtain ⟨_, _, _, A, c, hb, _⟩ := hm3
        exact hb.lt
      have l2 : M < w4.heap.size := by
        obtain ⟨_, _, _, A, c, hb, _⟩ := hm4
        exact hb.lt
      exact ⟨fun b => b = N, fun b => b = M, fun b hb => by omega, fun b hb => by omega, fun b h h' => by omega, hm3.kept hk4 (fun _ _ _ h => h), hm4⟩
    have hNM : N < M := by
      obtain ⟨_, _, _, A, c, hb, _⟩ := hm3
      have := hb.lt
      omega
    have hk : Pure w w4 := (hk1.same hk3).same hk4
    have hNw : w.heap.size ≤ N := by have := hk1.size; omega
    have Hk := Lib.hid hk
    have H2 := Lib.hid h2
    clear CN' CM' hk1 hk3 hk4 hm3 hm4 hk h2
    go_wp2
    go_loopw [5] (fun i wr => ∃ k : Nat, i = .int .i64 k ∧ k ≤ n ∧ Hid (Two N N M wr (runE (l.take k)) ∧ Kept (fun b => N ≤ b) w4 wr)) (fun i _ => n - (intOf i).toNat)
    case atStart => exact ⟨0, rfl, Nat.zero_le _, H2.out, Kept.refl _ _⟩
    case round =>
      obtain ⟨k, rfl, hkn, hr⟩ := hrel
      by_cases hlt : k < n
      · obtain ⟨b, o, rfl, _, _, _⟩ := Hs.out.2 (by omega)
        obtain ⟨a, ha⟩ : ∃ a, l[k]? = some a := ⟨_, List.getElem?_eq_getElem (by have := Hn.out; omega)⟩
        have hkr : Kept (fun b => N ≤ b) w wr := (Hk.out.mono (fun _ _ h => h.elim)).same hr.out.2
        have hsr := Hs.out.kept (hkr) (fun b hb _ h => by omega)
        have hc0 := sl_at Act.cells_len hsr (by omega) ha 0 (by omega)
        have hc1 := sl_at Act.cells_len hsr (by omega) ha 1 (by omega)
        have hc2 := sl_at Act.cells_len hsr (by omega) ha 2 (by omega)
        simp only [Act.cells] at hc0 hc1 hc2
        rw [Nat.add_zero] at hc0
        have hki : (k : Int) < (n : Int) := by omega
        have hel := runE_len (l.take k)
        rw [List.length_take] at hel
        have hstep : runE (l.take (k + 1)) = actE (runE (l.take k)) a := by rw [List.take_add_one, ha, Option.toList_some, runE_snoc]
        obtain ⟨⟨F1, G1, hF, hG, hd, hm, hns⟩, hk4⟩ := hr.out
        have Hstep := Lib.hid hstep
        generalize runE (l.take k) = es at *
        obtain ⟨op, key, v⟩ := a
        simp only at hc0 hc1 hc2
        have hbx := Blk.new wr 29 #[.int .i64 op, .string key, .int .i64 v]
        obtain ⟨M1, hM1⟩ : ∃ M1, wr.heap.size = M1 := ⟨_, rfl⟩
        have hma := hm.kept ((Kept.refl (fun _ => False) wr).alloc (.cells #[.int .i64 op, .string key, .int .i64 v] 29)) (fun _ _ _ h => h)
        have hna := hns.kept ((Kept.refl (fun _ => False) wr).alloc (.cells #[.int .i64 op, .string key, .int .i64 v] 29)) (fun _ _ _ h => h)
        have hks : Kept (fun b => N ≤ b) w4 (wr.alloc (.cells #[.int .i64 op, .string key, .int .i64 v] 29)) := hk4.alloc _
        rw [hM1] at hbx hF hG
        have hsz : (wr.alloc (.cells #[.int .i64 op, .string key, .int .i64 v] 29)).heap.size = M1 + 1 := by rw [World.size_alloc, hM1]
        generalize hW : wr.alloc (.cells #[.int .i64 op, .string key, .int .i64 v] 29) = W at *
        have hcx := hbx.cell
        have hF' : ∀ b, F1 b → N ≤ b ∧ b < W.heap.size := fun b h => by have := hF b h; omega
        have hG' : ∀ b, G1 b → N ≤ b ∧ b < W.heap.size := fun b h => by have := hG b h; omega
        have HF := Lib.hid hF
        have HG := Lib.hid hG
        have HF' := Lib.hid hF'
        have HG' := Lib.hid hG'
        have Hd := Lib.hid hd
        have Hks := Lib.hid hks
        have Hma := Lib.hid hma
        have Hna := Lib.hid hna
        have hNM1 : N ≤ M1 := by have := (hF N hm.1).2; omega
        have HW := Lib.hid hsz
        have hes : es.length < 100000 := by omega
        clear hm hns hkr hsr hstep hF hG hF' hG' hd hks hma hna hsz ha hk4 hr hel
        by_cases hop : op = 1
        · have C1 := Lib.hid (fun (w' : World) (hw' : w' = W.drew) => i_mdel w' F1 N es key (by rw [hw']; exact Hma.out))
          have hact : actE es ⟨op, key, v⟩ = delE es (kb key) := by simp [actE, hop]
          rw [hact] at Hstep
          subst hop
          go_wp2
          clear hW hM1
          refine wp_region_seqS (fun x => Blk x M1 29 #[.int .i64 1, .string key, .int .i64 v]) [3, 7] [4, 5, 6] (by kernel_rfl) (by kernel_rfl) (by kernel_rfl) hbx ?_
          repeat (with_reducible refine seq_step (by decide) (by decide) (fun K hK => ?_); go_simp; refine hK _ _ ?_; clear hK K)
          with_reducible refine seq_move (by decide) (fun K hK => ?_)
          go_simp
          refine up_enter ((C1.out _ rfl).mono ?_)
          rintro e w9 ⟨rfl, hm9, hk9⟩
          have hb9 := hbx.kept (w := W.drew) hk9 (fun h => by have := (HF.out M1 h).2; omega)
          refine ⟨_, rfl, hb9, hK _ _ ?_⟩
          clear hK K
          have hc9 := hb9.cell
          have C2 := Lib.hid (s_mdel w9 G1 M (mapV txt es) key (Mp.kept (w := W.drew) Hna.out hk9 (fun b _ hg hf => Hd.out b hf hg)))
          rw [has_map, del_map] at C2
          repeat (with_reducible refine seq_free (by decide) (by decide) (fun K hK => ?_); go_simp; first | (refine ex_steadyF ?_ (fun w' hw' => ?_) ?_; rotate_left; (have hcw := Blk.cell hw'; go_simp; first | done | rfl); (refine hK _ _ ?_; clear hK K)) | (refine hK _ _ ?_; clear hK K))
          with_reducible refine seq_move (by decide) (fun K hK => ?_)
          go_simp
          refine up_enter (C2.out.mono ?_)
          rintro e w10 ⟨rfl, hn10, hk10⟩
          have hb10 := hb9.kept hk10 (fun h => by have := (HG.out M1 h).2; omega)
          refine ⟨_, rfl, hb10, hK _ _ ?_⟩
          clear hK K
          repeat (with_reducible refine seq_step (by decide) (by decide) (fun K hK => ?_); go_simp; refine hK _ _ ?_; clear hK K)
          with_reducible refine seq_nil ?_
          have h2 := two_close (w1 := W.drew) HF'.out HG'.out Hd.out (by have := HW.out; show N ≤ W.heap.size; omega) hm9 hk9 (Kept.refl _ _) hn10 hk10
          have hkk : Kept (fun b => N ≤ b) w4 w10 := (Hks.out.drew.same (hk9.mono (fun b _ h => (HF.out b h).1))).same (hk10.mono (fun b _ h => (HG.out b h).1))
          have H2' := Lib.hid h2
          have Hkk := Lib.hid hkk
          clear h2 hkk hm9 hk9 hn10 hk10 hb9 hb10 hc9 hcx hbx
          go_wp2
          go_roundw
          case measure => simp [intOf]; omega
          case rel => exact ⟨k + 1, by first | rfl | go_num, by omega, by rw [Hstep.out]; exact H2'.out, Hkk.out⟩
        · have C1 := Lib.hid (fun (w' : World) (hw' : w' = W.drew) => i_put w' F1 N es key v (by rw [hw']; exact Hma.out) hes (by rw [hw']; exact fun b h => (HF'.out b h).2))
          have hact : actE es ⟨op, key, v⟩ = putE es key v := by simp [actE, hop]
          rw [hact] at Hstep
          obtain ⟨had, hdl⟩ := d8_and v
          have CD := Lib.hid (fun w => digits_any (d8 v) w (by omega))
          go_wp2
          clear hW hM1
          refine wp_region_seqS (fun x => Blk x M1 29 #[.int .i64 op, .string key, .int .i64 v]) [5, 12, 13] [6, 7, 8, 9, 10, 11] (by kernel_rfl) (by kernel_rfl) (by kernel_rfl) hbx ?_
          repeat (with_reducible refine seq_step (by decide) (by decide) (fun K hK => ?_); go_simp; refine hK _ _ ?_; clear hK K)
          with_reducible refine seq_move (by decide) (fun K hK => ?_)
          go_simp
          refine up_enter ((C1.out _ rfl).mono ?_)
          rintro e w9 ⟨rfl, hm9, hk9⟩
          have hb9 := hbx.kept (w := W.drew) hk9 (fun h => by have := (HF.out M1 h).2; omega)
          refine ⟨_, rfl, hb9, hK _ _ ?_⟩
          clear hK K
          repeat (with_reducible refine seq_free (by decide) (by decide) (fun K hK => ?_); go_simp; first | (refine ex_steadyF ?_ (fun w' hw' => ?_) ?_; rotate_left; (have hcw := Blk.cell hw'; go_simp; first | done | rfl); (refine hK _ _ ?_; clear hK K)) | (refine hK _ _ ?_; clear hK K))
          with_reducible refine seq_move (by decide) (fun K hK => ?_)
          go_simp
          refine up_enter ((CD.out _).mono ?_)
          rintro e w10 ⟨rfl, hk10⟩
          have hb10 := hb9.kept hk10 (fun h => h)
          refine ⟨_, rfl, hb10, hK _ _ ?_⟩
          clear hK K
          have c2 := s_put w10 G1 M (mapV txt es) key (txt v) ((Mp.kept (w := W.drew) Hna.out hk9 (fun b _ hg hf => Hd.out b hf hg)).kept hk10 (fun _ _ _ h => h)) (by rw [mapV_length]; exact hes) (fun b h => by have h1 := (HG'.out b h).2; have h2 : W.heap.size ≤ w9.heap.size := hk9.size; have h3 := hk10.size; omega)
          rw [has_map, put_map] at c2
          have C2 := Lib.hid c2
          clear c2
          with_reducible refine seq_move (by decide) (fun K hK => ?_)
          go_simp
          refine up_enter (C2.out.mono ?_)
          rintro e w11 ⟨rfl, hn11, hk11⟩
          have hb11 := hb10.kept hk11 (fun h => by have := (HG.out M1 h).2; omega)
          refine ⟨_, rfl, hb11, hK _ _ ?_⟩
          clear hK K
          repeat (with_reducible refine seq_step (by decide) (by decide) (fun K hK => ?_); go_simp; refine hK _ _ ?_; clear hK K)
          with_reducible refine seq_nil ?_
          have h2 := two_close (w1 := W.drew) HF'.out HG'.out Hd.out (by have := HW.out; show N ≤ W.heap.size; omega) hm9 hk9 hk10 hn11 hk11
          have hkk : Kept (fun b => N ≤ b) w4 w11 := ((Hks.out.drew.same (hk9.mono (fun b _ h => (HF.out b h).1))).same (hk10.mono (fun _ _ h => h.elim))).same (hk11.mono (fun b _ h => (HG.out b h).1))
          have H2' := Lib.hid h2
          have Hkk := Lib.hid hkk
          clear h2 hkk hm9 hk9 hk10 hn11 hk11 hb9 hb10 hb11 hcx hbx had
          go_wp2
          go_roundw
          case measure => simp [intOf]; omega
          case rel => exact ⟨k + 1, by first | rfl | go_num, by omega, by rw [Hstep.out]; exact H2'.out, Hkk.out⟩
      · obtain rfl : n = k := by omega
        have h2 := hr.out.1
        rw [List.take_of_length_le (by have := Hn.out; omega)] at h2
        have hkr : Kept (fun b => N ≤ b) w wr := (Hk.out.mono (fun _ _ h => h.elim)).same hr.out.2
        have hel := runE_len l
        obtain ⟨es, hes⟩ : ∃ es, runE l = es := ⟨_, rfl⟩
        rw [hes] at h2 hel
        obtain ⟨m, hm⟩ : ∃ m, es.length = m := ⟨_, rfl⟩
        have hm80 : m ≤ 80 := by have := Hn.out; omega
        have Hm := Lib.hid hm
        have H2' := Lib.hid h2
        have Hkr := Lib.hid hkr
        obtain ⟨w5, hw5⟩ : ∃ w5, w5 = wr := ⟨_, rfl⟩
        subst hw5
        have CLi := Lib.hid (fun w' F h => i_len w' F N es h)
        have CLs := Lib.hid (fun w' G h => s_len w' G M (mapV txt es) h)
        rw [hm] at CLi
        rw [mapV_length, hm] at CLs
        clear hr hes hel h2 hkr hm Hk H2
        go_wp2
        go_loopw [7] (fun i wr => ∃ k : Nat, i = .int .i64 k ∧ k ≤ m ∧ Pure w5 wr) (fun i _ => m - (intOf i).toNat)
        case atStart => exact ⟨0, rfl, Nat.zero_le _, Kept.refl _ _⟩
        case round =>
          obtain ⟨k, rfl, hkm, hp⟩ := hrel
          obtain ⟨F1, G1, _, _, _, hm1, hn1⟩ := H2'.out.pure hp
          by_cases hlt : k < m
          · obtain ⟨x, hx⟩ : ∃ x, es[k]? = some x := ⟨_, List.getElem?_eq_getElem (by have := Hm.out; omega)⟩
            have c1 := fun w' (h : Pure wr w') => i_at w' F1 N es (k : Int) (hm1.kept h (fun _ _ _ h => h))
            have c2 := fun w' (h : Pure wr w') => s_at w' G1 M (mapV txt es) (k : Int) (hn1.kept h (fun _ _ _ h => h))
            have hx2 : (mapV txt es)[k]? = some (x.1, txt x.2) := by unfold mapV; rw [List.getElem?_map, hx]; rfl
            simp only [show (0 : Int) ≤ (k : Int) from by omega, if_true, Int.toNat_natCast, hx, hx2] at c1 c2
            obtain ⟨had, hdl⟩ := d8_and x.2
            have CD := Lib.hid (fun w => digits_any (d8 x.2) w (by omega))
            have C1 := Lib.hid c1
            have C2 := Lib.hid c2
            have hki : (k : Int) < (m : Int) := by omega
            have hk100 : (k : Int) < 100 := by omega
            have Hm1 := Lib.hid hm1
            clear c1 c2 hx hx2 hm1 hn1
            go_wp2_with fail
            refine (CLi.out _ _ Hm1.out).mono ?_
            rintro e w6 ⟨rfl, rfl⟩
            go_wp2_with fail
            refine (C1.out _ (Kept.refl _ _)).mono ?_
            rintro e w7 ⟨rfl, hk7⟩
            go_wp2_with fail
            refine (C2.out _ hk7).mono ?_
            rintro e w8 ⟨rfl, hk8⟩
            go_wp2_with fail
            refine (CD.out _).mono ?_
            rintro e w9 ⟨rfl, hk9⟩
            have hp2 := ((hp.same hk7).same hk8).same hk9
            have htx : txt x.2 = ⟨(digs (d8 x.2)).toArray⟩ := rfl
            rw [htx]
            clear hk7 hk8 hk9 htx
            go_wp2
            go_roundw
            case measure => simp [intOf]; omega
            case rel => exact ⟨k + 1, by first | rfl | go_num, by omega, hp2⟩
          · obtain rfl : m = k := by omega
            go_wp2_with fail
            refine (CLi.out _ _ hm1).mono ?_
            rintro e w6 ⟨rfl, rfl⟩
            go_wp2_with fail
            refine (CLi.out _ _ hm1).mono ?_
            rintro e w6 ⟨rfl, rfl⟩
            go_wp2_with fail
            refine (CLs.out _ _ hn1).mono ?_
            rintro e w6 ⟨rfl, rfl⟩
            go_wp2
            go_ret
            exact ⟨by simp, (Hkr.out.same (hp.mono (fun _ _ h => h.elim))).mono (fun b hb h => by omega)⟩
theorem omapTexts_top (A : Option Addr) (c : Nat) (l : List Act) (w : World) (hs : Sl w (fun _ => True) 3 A l.length (l.flatMap Act.cells)) (_ : l.length ≤ maxLen) (hf : ∀ a ∈ l, a.Fits) :
    Calls Try.prog 6 #[.slice A l.length c] w (BoolP true w) := texts_top A c l w _ hs hf
end Go.Proofs.Ytdgfefnaoionpaa
