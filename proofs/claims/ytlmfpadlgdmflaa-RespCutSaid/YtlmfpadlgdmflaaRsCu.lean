/-
  RespCut: the walk.
-/
import Derived.Test.YtlmfpadlgdmflaaRsN
import Derived.Test.YtlmfpadlgdmflaaRsI
import Derived.Test.YtlmfpadlgdmflaaFree
set_option linter.unusedSimpArgs false
set_option linter.unusedVariables false
namespace Go.Proofs.Ytlmfpadlgdmflaa
open Go.RowKit
set_option maxRecDepth 100000

theorem and_65535 (n : Int) : ∃ V : Nat, bits .and .i64 n 65535 = (V : Int) ∧ V ≤ 65535 := by
  have e : bits .and .i64 n 65535 = IntKind.i64.wrap ((BitVec.ofInt 64 n &&& BitVec.ofInt 64 ((65535 : Nat) : Int)).toNat : Int) := rfl
  have h2 : (BitVec.ofInt 64 n &&& BitVec.ofInt 64 ((65535 : Nat) : Int)).toNat ≤ 65535 := by
    rw [BitVec.toNat_and, BitVec.ofInt_natCast, BitVec.toNat_ofNat]
    have : (BitVec.ofInt 64 n).toNat &&& (65535 % 2 ^ 64) = (BitVec.ofInt 64 n).toNat % 65536 := Nat.and_two_pow_sub_one_eq_mod _ 16
    rw [this]
    omega
  refine ⟨_, ?_, h2⟩
  rw [e, IntKind.wrap_i64]
  omega
theorem dec_no (kind : Int) (l : List UInt8) (hk : 128 ≤ kind ∧ kind ≤ 139) (h : ¬ goodD l) (A : Option Addr) (n c : Nat) (w : World) (F : Nat → Prop) (hl : Sl w F 1 A n (bvs l)) (hn : n ≤ 100000) :
    Calls Try.prog 24 #[.int .i64 kind, .slice A n c] w fun e w' => ∃ A' c', e = .returned (.tuple #[.agg (rsa zeroR A' c'), .int .i64 1]) ∧ Pure w w' := by
  have := decode_all kind A n c l w F hl hn
  unfold DecP at this
  rw [decode_no hk.1 hk.2 h] at this
  exact this.mono fun e w' ⟨A', c', he, _, hp⟩ => ⟨A', c', he, hp⟩

/-- Line 74: what its movers leave. -/
def cutM (B : Nat) (i : Nat) (v : Value) (w : World) : Prop := match i with
  | 10 => ∃ A c, v = .tuple #[.agg (rsa zeroR A c), .int .i64 1]
  | 14 => ∃ g, v = .pointer (some ⟨g, 0, none⟩) ∧ B ≤ g ∧ ∃ cs, Blk w g 40 cs ∧ cs.size = 8
  | _ => True
theorem cutM_stable (B : Nat) : ∀ (k i : Nat) (v : Value) (w w' : World), k ∈ [10, 14, 15] → i ∈ [10, 14, 15] → i ≠ k → i ∉ (fun _ => [] : Nat → List Nat) k → (fun _ => Grows B : Nat → World → World → Prop) k w w' → cutM B i v w → cutM B i v w' := by
  intro k i v w w' _ _ _ _ hT h
  unfold cutM at h ⊢
  split
  · exact h
  · obtain ⟨g, h1, h2, cs, h3, h4⟩ := h
    obtain ⟨cs', h5, h6⟩ := hT.2 g _ cs h3
    exact ⟨g, h1, h2, cs', h5, h6.trans h4⟩
  · trivial

/-- Line 75: what its movers leave, and what they may do. -/
def moreM (B : Nat) (L : List UInt8) (b : UInt8) (i : Nat) (v : Value) (w : World) : Prop := match i with
  | 3 => ∃ g, v = .slice (some ⟨g, 0, none⟩) 0 0 ∧ B ≤ g ∧ Blk w g 5 #[]
  | 5 => Own w (fun g => B ≤ g) 5 1 v L.length (bvs L)
  | 7 => ∃ g, v = .slice (some ⟨g, 0, none⟩) 1 1 ∧ B ≤ g ∧ Blk w g 5 #[.int .u8 (b.toNat : Int)]
  | 8 => Own w (fun g => B ≤ g) 5 1 v (L.length + 1) (bvs (L ++ [b]))
  | 9 => ∃ A c, v = .tuple #[.agg (rsa zeroR A c), .int .i64 1]
  | 13 => ∃ g, v = .pointer (some ⟨g, 0, none⟩) ∧ B ≤ g ∧ ∃ cs, Blk w g 40 cs ∧ cs.size = 8
  | _ => True
def moreT (k : Nat) (w w' : World) : Prop := match k with
  | 5 => ∃ g, Blk w g 5 #[] ∧ Kept (· = g) w w'
  | 8 => ∃ g cs, Blk w g 5 cs ∧ Kept (· = g) w w'
  | 14 => ∃ g cs cs', Blk w g 40 cs ∧ Kept (· = g) w w' ∧ Blk w' g 40 cs' ∧ cs'.size = cs.size
  | _ => Pure w w'
def moreB (k : Nat) : List Nat := match k with
  | 5 => [3, 8]
  | 8 => [3, 5, 7]
  | 14 => [3, 5, 7, 8]
  | _ => []
theorem moreM_pure (B : Nat) (L : List UInt8) (b : UInt8) {i : Nat} {v : Value} {w w' : World} (hp : Pure w w') (h : moreM B L b i v w) : moreM B L b i v w' := by
  unfold moreM at h ⊢
  split
  · obtain ⟨g, h1, h2, h3⟩ := h; exact ⟨g, h1, h2, h3.kept hp (fun h => h)⟩
  · exact h.kept hp (fun _ _ _ h => h)
  · obtain ⟨g, h1, h2, h3⟩ := h; exact ⟨g, h1, h2, h3.kept hp (fun h => h)⟩
  · exact h.kept hp (fun _ _ _ h => h)
  · exact h
  · obtain ⟨g, h1, h2, cs, h3, h4⟩ := h; exact ⟨g, h1, h2, cs, h3.kept hp (fun h => h), h4⟩
  · trivial
theorem moreM_stable (B : Nat) (L : List UInt8) (b : UInt8) : ∀ (k i : Nat) (v : Value) (w w' : World), k ∈ [3, 5, 7, 8, 9, 13, 14] → i ∈ [3, 5, 7, 8, 9, 13, 14] → i ≠ k → i ∉ moreB k → moreT k w w' → moreM B L b i v w → moreM B L b i v w' := by
  intro k i v w w' hk hi hne hb hT h
  simp only [List.mem_cons, List.not_mem_nil, or_false] at hk hi
  rcases hk with rfl | rfl | rfl | rfl | rfl | rfl | rfl
  · exact moreM_pure B L b hT h
  · obtain ⟨g, hg, hT⟩ := hT
    rcases hi with rfl | rfl | rfl | rfl | rfl | rfl | rfl
    · exact absurd (by decide) hb
    · exact absurd rfl hne
    · obtain ⟨g', h1, h2, h3⟩ := h
      refine ⟨g', h1, h2, h3.kept hT (fun e => ?_)⟩
      have e : g' = g := e
      subst e
      unfold Blk at h3 hg
      rw [hg] at h3
      simp at h3
    · exact absurd (by decide) hb
    · exact h
    · obtain ⟨g', h1, h2, cs, h3, h4⟩ := h
      exact ⟨g', h1, h2, cs, h3.kept hT (fun e => Blk.ne h3 hg (by decide) e), h4⟩
    · trivial
  · exact moreM_pure B L b hT h
  · obtain ⟨g, cs0, hg, hT⟩ := hT
    rcases hi with rfl | rfl | rfl | rfl | rfl | rfl | rfl
    · exact absurd (by decide) hb
    · exact absurd (by decide) hb
    · exact absurd (by decide) hb
    · exact absurd rfl hne
    · exact h
    · obtain ⟨g', h1, h2, cs, h3, h4⟩ := h
      exact ⟨g', h1, h2, cs, h3.kept hT (fun e => Blk.ne h3 hg (by decide) e), h4⟩
    · trivial
  · exact moreM_pure B L b hT h
  · exact moreM_pure B L b hT h
  · obtain ⟨g, cs0, cs1, hg, hT, hg1, hsz⟩ := hT
    rcases hi with rfl | rfl | rfl | rfl | rfl | rfl | rfl
    · exact absurd (by decide) hb
    · exact absurd (by decide) hb
    · exact absurd (by decide) hb
    · exact absurd (by decide) hb
    · exact h
    · obtain ⟨g', h1, h2, cs, h3, h4⟩ := h
      by_cases e : g' = g
      · subst e
        unfold Blk at h3 hg
        rw [hg] at h3
        injection h3 with h3
        injection h3 with h3
        subst h3
        exact ⟨g', h1, h2, cs1, hg1, hsz.trans h4⟩
      · exact ⟨g', h1, h2, cs, h3.kept hT e, h4⟩
    · exact absurd rfl hne
theorem own_block {w : World} {F : Nat → Prop} {t : TypeId} {k : Nat} {v : Value} {n : Nat} {xs : List Value} (h : Own w F t k v n xs) (hn : 0 < n) : ∃ g cs, v.ownBlock = some g ∧ Blk w g t cs ∧ F g := by
  obtain ⟨h1, h2⟩ := h
  rcases h1.2 with ⟨_, h0⟩ | ⟨g, cap, cur, rfl, _, hg, _⟩
  · omega
  · exact ⟨g, cur, rfl, hg, h2 g rfl⟩

set_option maxHeartbeats 3200000 in
theorem cut_walk (r : Rs) (A : Option Addr) (c : Nat) (at_ : Int) (b : UInt8) (w : World) (F : Nat → Prop) (hI : Sl w F 4 A r.items.length (itc r.items)) (hr : r.Wf) (hL : lightR r = true) (hV : checkR r = 0) :
    Calls Try.prog 8 #[.agg (rsa r A c), .int .i64 at_, .int .u8 (b.toNat : Int)] w (BoolP true w) := by
  have hb := Blk.new w 40 (rsa r A c)
  have hk : Pure w (w.alloc (.cells (rsa r A c) 40)) := (Kept.refl (fun _ => False) w).alloc (.cells (rsa r A c) 40)
  have hI0 := hI.kept hk (fun _ _ _ h => h)
  have hl := fun w' hI => light_any r A c w' F hI
  rw [hL] at hl
  have Hl := Lib.hid hl
  have Hf := Lib.hid first13
  have hz := check_zero hV
  have ok := fok_of hV (fun i hi => (hr.ver i hi).2) hr.token.2 hr.version.2
  have hkk : 128 ≤ 128 + r.kind ∧ 128 + r.kind ≤ 139 := by have := hz.1.1; have := hz.1.2.1; omega
  have hE2 := fun w' hI => enc_any r A c w' hI hr.fits
  unfold EncP at hE2
  rw [hV, show encR r = lay r from by unfold encR; rw [if_pos hV]] at hE2
  have HE2 := Lib.hid hE2
  have hpos : 1 ≤ (lay r).length := by
    have := Pk.num_pos r.err hz.1.2.2.1
    simp only [lay, layHead, List.length_append]
    omega
  have hlen := hz.2.2.2.2
  have HC := Lib.hid (fun k hk => dec_no (128 + r.kind) ((lay r).take k) hkk (cut_no ok k hk))
  have HM := Lib.hid (dec_no (128 + r.kind) (lay r ++ [b]) hkk (more_no ok b))
  obtain ⟨V, hVV, hV2⟩ := and_65535 at_
  have hkind : -128 ≤ r.kind ∧ r.kind ≤ 1000 := by omega
  clear hl hE2 hz ok hL hI hV hr
  generalize lay r = L at *
  unfold rsa at *
  go_enter Try.func8, Try.ntmps8
  go_wp2_with fail
  refine (Hf.out _).mono ?_
  rintro e w1 ⟨rfl, hk1⟩
  replace hb := hb.kept hk1 (fun h => h)
  have hc := hb.cell
  go_wp2_with fail
  refine (Hl.out _ (hI0.kept hk1 (fun _ _ _ h => h))).mono ?_
  rintro e w2 ⟨rfl, hk2⟩
  replace hb := hb.kept hk2 (fun h => h)
  replace hk := (hk.same hk1).same hk2
  have hI2 := hI0.kept (hk1.same hk2) (fun _ _ _ h => h)
  clear hk1 hk2 hc hI0
  have hc := hb.cell
  go_wp2_with fail
  refine (HE2.out _ (hI2.imp fun _ _ _ => trivial)).mono ?_
  rintro e w6 ⟨A6, n6, c6, rfl, hs6, hn6, hc6, hk6⟩
  clear hc
  have h6 : n6 = L.length := by have := hs6.1; rw [bvs_length] at this; omega
  obtain ⟨bb, oo, rfl, hFb, hlt, hcl⟩ := hs6.2 (by omega)
  clear hFb hlt hcl
  replace hb := hb.kept hk6 (fun h => h)
  replace hk := hk.same hk6
  have h6b : 1 ≤ n6 ∧ n6 ≤ 20000 := by omega
  have H6 := Lib.hid h6
  clear h6 hk6 hI2 hpos hlen
  obtain ⟨k, hkm⟩ : ∃ k : Nat, (V : Int).tmod (n6 : Int) = (k : Int) := ⟨V % n6, by rw [Int.tmod_eq_emod_of_nonneg (by omega), Int.natCast_emod]⟩
  have hkn : k < n6 := by
    have := Int.tmod_lt_of_pos (V : Int) (show 0 < (n6 : Int) by omega)
    omega
  have hn0 : (n6 = 0) = False := eq_false (by omega)
  have hwr : IntKind.i64.wrap (128 + r.kind) = 128 + r.kind := by rw [IntKind.wrap_i64]; omega
  have hcut : 0 ≤ (k : Int) ∧ (k : Int) ≤ (n6 : Int) ∧ (k : Int) ≤ (c6 : Int) := by omega
  go_wp2_with fail
  have HCk := Lib.hid (fun w' (h : Pure w6 w') => HC.out k (by have := H6.out; omega) (some ⟨bb, oo, none⟩) k c6 w' _ (by
    have := (hs6.kept h (fun _ _ _ h => h)).pre k (by omega)
    rwa [Nat.mul_one, ← bvs_take] at this) (by omega))
  clear HC
  refine wp_region_free (fun w' => Pure w6 w') (fun _ => Grows w6.heap.size) [10, 14, 15] (fun _ => []) (cutM w6.heap.size) (by kernel_rfl) (by kernel_rfl) (cutM_stable _) (Kept.refl _ _).drew ?_
  repeat (refine free_step (by decide) (fun K hK => ?_); go_simp; first | (refine ex_steadyF ?_ (fun w' hw' => ?_) ?_; rotate_left; (have hp : Pure w6 w' := hw'.1; have hc := (hb.kept hp (fun h => h)).cell; clear hw'; go_simp; first | done | rfl); (refine hK _ ?_; clear hK K)) | (refine hK _ ?_; clear hK K))
  refine free_move0 (by decide) rfl (fun w' hw' => ?_) (fun v hv => ?_)
  · go_simp
    refine up_enter ((HCk.out _ hw'.1).mono ?_)
    rintro e w'' ⟨A', c', rfl, hp⟩
    have h1 : Pure w6 w'' := Kept.same hw'.1 hp
    exact ⟨_, rfl, h1, Grows.pure hp, A', c', rfl⟩
  obtain ⟨_, _, A', c', rfl⟩ := hv
  clear HCk
  repeat (refine free_step (by decide) (fun K hK => ?_); go_simp; first | (refine ex_steadyF ?_ (fun w' hw' => ?_) ?_; rotate_left; (clear hw'; go_simp; first | done | rfl); (refine hK _ ?_; clear hK K)) | (refine hK _ ?_; clear hK K))
  refine free_move0 (by decide) rfl (fun w' hw' => ?_) (fun v hv => ?_)
  · go_simp
    have h1 : Pure w6 w' := hw'.1
    exact ⟨h1.alloc _, Grows.pure ((Kept.refl _ _).alloc _), _, rfl, h1.size, _, Blk.new _ _ _, rfl⟩
  obtain ⟨_, _, g1, rfl, hg1, _⟩ := hv
  refine free_move0 (by decide) rfl (fun w' hw' => ?_) (fun v hv => ?_)
  · obtain ⟨g', he, hB, cs, hbk, hcs⟩ := hw'.2 _ (List.mem_cons_self ..) (by kernel_rfl) (by kernel_rfl)
    obtain rfl := ptr_inj he
    have h1 : Pure w6 w' := hw'.1
    have hs8 : cs.size = (rsa zeroR A' c').size := hcs
    have h1c : (rsa zeroR A' c').all (·.oneCell') = true := by simp [rsa, Value.oneCell']
    refine up_store (cells := rsa zeroR A' c') _ _ _ rfl rfl rfl hbk hs8 (by kernel_rfl) h1c (fun w'' k1 k2 k3 => ⟨h1.trans k2 (fun i hi e => by have : i = g1 := e; omega), Grows.store hB hbk hs8 k1 k2 k3, trivial⟩)
  repeat (refine free_step (by decide) (fun K hK => ?_); go_simp; first | (refine ex_steadyF ?_ (fun w' hw' => ?_) ?_; rotate_left; (clear hw'; go_simp; first | done | rfl); (refine hK _ ?_; clear hK K)) | (refine hK _ ?_; clear hK K))
  refine free_nil (fun w7 hp _ => ?_)
  replace hs6 := hs6.kept hp (fun _ _ _ h => h)
  replace hb := hb.kept hp (fun h => h)
  replace hk := hk.same hp
  clear hp
  go_wp2_with fail
  refine wp_region_free (fun w' => Pure w7 w') moreT [3, 5, 7, 8, 9, 13, 14] moreB (moreM w7.heap.size L b) (by kernel_rfl) (by kernel_rfl) (moreM_stable _ L b) (Kept.refl _ _).drew ?_
  repeat (refine free_step (by decide) (fun K hK => ?_); go_simp; first | (refine ex_steadyF ?_ (fun w' hw' => ?_) ?_; rotate_left; (have hp : Pure w7 w' := hw'.1; have hc := (hb.kept hp (fun h => h)).cell; clear hw'; go_simp; first | done | rfl); (refine hK _ ?_; clear hK K)) | (refine hK _ ?_; clear hK K))
  refine free_move0 (by decide) rfl (fun w' hw' => ?_) (fun v hv => ?_)
  · go_simp
    have h1 : Pure w7 w' := hw'.1
    exact ⟨h1.alloc _, (Kept.refl _ _).alloc _, _, rfl, h1.size, Blk.new _ _ _⟩
  obtain ⟨_, _, g3, rfl, hg3, _⟩ := hv
  repeat (refine free_step (by decide) (fun K hK => ?_); go_simp; first | (refine ex_steadyF ?_ (fun w' hw' => ?_) ?_; rotate_left; (clear hw'; go_simp; first | done | rfl); (refine hK _ ?_; clear hK K)) | (refine hK _ ?_; clear hK K))
  refine free_move0 (by decide) rfl (fun w' hw' => ?_) (fun v hv => ?_)
  · have h1 : Pure w7 w' := hw'.1
    have f3 : moreM w7.heap.size L b 3 (.slice (some ⟨g3, 0, none⟩) 0 0) w' := hw'.2 (3, _) (List.mem_cons_self ..) (by kernel_rfl) (by kernel_rfl)
    obtain ⟨g', he, hB, hbk⟩ := f3
    obtain rfl := sl_inj he
    have ho : Own w' (fun g => g = g3) 5 1 (.slice (some ⟨g3, 0, none⟩) 0 0) 0 [] := ⟨⟨rfl, .inr ⟨g3, 0, #[], rfl, Nat.zero_le _, hbk, Nat.le_refl _, Nat.zero_le _, rfl, rfl⟩⟩, fun g hg => by simp [Value.ownBlock] at hg; exact hg.symm⟩
    refine up_app Try.underlying22 info_u8 rfl (by omega) ho (hs6.kept h1 (fun _ _ _ h => h)) (bvs_one _) (by omega) (by omega) _ _ rfl rfl rfl (fun v' w'' ho' hk' => ?_)
    refine ⟨h1.trans hk' (fun i hi e => by have : i = g3 := e; omega), ⟨g3, hbk, hk'⟩, ?_⟩
    have := H6.out
    rw [Nat.zero_add, List.nil_append, this] at ho'
    have hsz := h1.size
    exact ho'.imp (fun i _ e => e.elim (fun e => by have : i = g3 := e; omega) (fun e => by omega))
  obtain ⟨w5, hp5, ho5⟩ := hv
  have ho5 : Own w5 (fun g => w7.heap.size ≤ g) 5 1 v L.length (bvs L) := ho5
  obtain ⟨A5, c5, rfl, _⟩ := ho5.form
  clear ho5 hp5
  repeat (refine free_step (by decide) (fun K hK => ?_); go_simp; first | (refine ex_steadyF ?_ (fun w' hw' => ?_) ?_; rotate_left; (clear hw'; go_simp; first | done | rfl); (refine hK _ ?_; clear hK K)) | (refine hK _ ?_; clear hK K))
  refine free_move0 (by decide) rfl (fun w' hw' => ?_) (fun v hv => ?_)
  · go_simp
    have h1 : Pure w7 w' := hw'.1
    exact ⟨h1.alloc _, (Kept.refl _ _).alloc _, _, rfl, h1.size, Blk.new _ _ _⟩
  obtain ⟨_, _, g7, rfl, hg7, _⟩ := hv
  repeat (refine free_step (by decide) (fun K hK => ?_); go_simp; first | (refine ex_steadyF ?_ (fun w' hw' => ?_) ?_; rotate_left; (clear hw'; go_simp; first | done | rfl); (refine hK _ ?_; clear hK K)) | (refine hK _ ?_; clear hK K))
  refine free_move0 (by decide) rfl (fun w' hw' => ?_) (fun v hv => ?_)
  · have h1 : Pure w7 w' := hw'.1
    have f5 : moreM w7.heap.size L b 5 (.slice A5 L.length c5) w' := hw'.2 (5, _) (List.mem_cons_of_mem _ (List.mem_cons_self ..)) (by kernel_rfl) (by kernel_rfl)
    have f7 : moreM w7.heap.size L b 7 (.slice (some ⟨g7, 0, none⟩) 1 1) w' := hw'.2 (7, _) (List.mem_cons_self ..) (by kernel_rfl) (by kernel_rfl)
    obtain ⟨g', he, hB, hbk⟩ := f7
    obtain rfl := sl_inj he
    have f5' : Own w' (fun g => w7.heap.size ≤ g) 5 1 (.slice A5 L.length c5) L.length (bvs L) := f5
    obtain ⟨g5, cs5, hob, hb5, hg5⟩ := own_block f5' (by have := H6.out; omega)
    have f5'' : Own w' (fun g => g = g5) 5 1 (.slice A5 L.length c5) L.length (bvs L) := ⟨f5'.1, fun g hg => by rw [hob] at hg; injection hg with hg; exact hg.symm⟩
    have hs7 : Sl w' (fun g => g = g7) 1 (some ⟨g7, 0, none⟩) 1 [.int .u8 (b.toNat : Int)] := ⟨rfl, fun _ => ⟨g7, 0, rfl, rfl, hbk.lt, fun j hj => by simp at hj; subst hj; rw [hbk.cell]; rfl⟩⟩
    refine up_app Try.underlying22 info_u8 rfl (by omega) f5'' hs7 (by intro u hu; simp at hu; subst hu; rfl) (by have := H6.out; omega) (by omega) _ _ rfl rfl rfl (fun v' w'' ho' hk' => ?_)
    refine ⟨h1.trans hk' (fun i hi e => by have : i = g5 := e; omega), ⟨g5, cs5, hb5, hk'⟩, ?_⟩
    rw [show bvs L ++ [Value.int .u8 (b.toNat : Int)] = bvs (L ++ [b]) from by rw [bvs_append]; rfl] at ho'
    have hsz := h1.size
    exact ho'.imp (fun i _ e => e.elim (fun e => by have : i = g5 := e; omega) (fun e => by omega))
  obtain ⟨w8, hp8, ho8⟩ := hv
  have ho8 : Own w8 (fun g => w7.heap.size ≤ g) 5 1 v (L.length + 1) (bvs (L ++ [b])) := ho8
  obtain ⟨A8, c8, rfl, _⟩ := ho8.form
  clear ho8 hp8
  repeat (refine free_step (by decide) (fun K hK => ?_); go_simp; first | (refine ex_steadyF ?_ (fun w' hw' => ?_) ?_; rotate_left; (clear hw'; go_simp; first | done | rfl); (refine hK _ ?_; clear hK K)) | (refine hK _ ?_; clear hK K))
  refine free_move0 (by decide) rfl (fun w' hw' => ?_) (fun v hv => ?_)
  · have h1 : Pure w7 w' := hw'.1
    have f8 : Own w' (fun g => w7.heap.size ≤ g) 5 1 (.slice A8 (L.length + 1) c8) (L.length + 1) (bvs (L ++ [b])) := hw'.2 (8, _) (List.mem_cons_self ..) (by kernel_rfl) (by kernel_rfl)
    clear hw'
    go_simp
    refine up_enter ((HM.out _ _ _ w' _ f8.sl (by have := H6.out; omega)).mono ?_)
    rintro e w'' ⟨A', c', rfl, hp⟩
    have h2 : Pure w7 w'' := Kept.same h1 hp
    exact ⟨_, rfl, h2, hp, A', c', rfl⟩
  obtain ⟨_, _, A9, c9, rfl⟩ := hv
  repeat (refine free_step (by decide) (fun K hK => ?_); go_simp; first | (refine ex_steadyF ?_ (fun w' hw' => ?_) ?_; rotate_left; (clear hw'; go_simp; first | done | rfl); (refine hK _ ?_; clear hK K)) | (refine hK _ ?_; clear hK K))
  refine free_move0 (by decide) rfl (fun w' hw' => ?_) (fun v hv => ?_)
  · have h1 : Pure w7 w' := hw'.1
    clear hw'
    go_simp
    exact ⟨h1.alloc _, (Kept.refl _ _).alloc _, _, rfl, h1.size, _, Blk.new _ _ _, rfl⟩
  obtain ⟨_, _, g13, rfl, hg13, _⟩ := hv
  refine free_move0 (by decide) rfl (fun w' hw' => ?_) (fun v hv => ?_)
  · have h1 : Pure w7 w' := hw'.1
    have f13 : moreM w7.heap.size L b 13 (.pointer (some ⟨g13, 0, none⟩)) w' := hw'.2 (13, _) (List.mem_cons_self ..) (by kernel_rfl) (by kernel_rfl)
    obtain ⟨g', he, hB, cs, hbk, hcs⟩ := f13
    obtain rfl := ptr_inj he
    have hs8 : cs.size = (rsa zeroR A9 c9).size := hcs
    have h1c : (rsa zeroR A9 c9).all (·.oneCell') = true := by simp [rsa, Value.oneCell']
    refine up_store (cells := rsa zeroR A9 c9) _ _ _ rfl rfl rfl hbk hs8 (by kernel_rfl) h1c (fun w'' k1 k2 k3 => ⟨h1.trans k2 (fun i hi e => by have : i = g13 := e; omega), ⟨g13, cs, _, hbk, k2, k1, hs8.symm⟩, trivial⟩)
  repeat (refine free_step (by decide) (fun K hK => ?_); go_simp; first | (refine ex_steadyF ?_ (fun w' hw' => ?_) ?_; rotate_left; (clear hw'; go_simp; first | done | rfl); (refine hK _ ?_; clear hK K)) | (refine hK _ ?_; clear hK K))
  refine free_nil (fun w9 hp _ => ?_)
  replace hk := hk.same hp
  clear hp
  go_wp2
  go_ret
  exact ⟨rfl, hk⟩

set_option maxHeartbeats 1600000 in
theorem cut_far (r : Rs) (A : Option Addr) (c : Nat) (at_ : Int) (b : Int) (w : World) (F : Nat → Prop) (hI : Sl w F 4 A r.items.length (itc r.items)) (hL : lightR r = false) :
    Calls Try.prog 8 #[.agg (rsa r A c), .int .i64 at_, .int .u8 b] w (BoolP true w) := by
  have hb := Blk.new w 40 (rsa r A c)
  have hk : Pure w (w.alloc (.cells (rsa r A c) 40)) := (Kept.refl (fun _ => False) w).alloc (.cells (rsa r A c) 40)
  have hI0 := hI.kept hk (fun _ _ _ h => h)
  have hl := fun w' hI => light_any r A c w' F hI
  rw [hL] at hl
  have Hl := Lib.hid hl
  have Hf := Lib.hid first13
  clear hl hI hL
  unfold rsa at *
  go_enter Try.func8, Try.ntmps8
  go_wp2_with fail
  refine (Hf.out _).mono ?_
  rintro e w1 ⟨rfl, hk1⟩
  have hc := (hb.kept hk1 (fun h => h)).cell
  go_wp2_with fail
  refine (Hl.out _ (hI0.kept hk1 (fun _ _ _ h => h))).mono ?_
  rintro e w2 ⟨rfl, hk2⟩
  go_wp2_with fail
  refine (Hf.out _).mono ?_
  rintro e w3 ⟨rfl, hk3⟩
  go_wp2
  go_ret
  exact ⟨rfl, ((hk.same hk1).same hk2).same hk3⟩
set_option maxHeartbeats 1600000 in
theorem cut_bad (r : Rs) (A : Option Addr) (c : Nat) (at_ : Int) (b : Int) (w : World) (F : Nat → Prop) (hI : Sl w F 4 A r.items.length (itc r.items)) (hr : r.Wf) (hL : lightR r = true) (hV : checkR r ≠ 0) :
    Calls Try.prog 8 #[.agg (rsa r A c), .int .i64 at_, .int .u8 b] w (BoolP true w) := by
  have hb := Blk.new w 40 (rsa r A c)
  have hk : Pure w (w.alloc (.cells (rsa r A c) 40)) := (Kept.refl (fun _ => False) w).alloc (.cells (rsa r A c) 40)
  have hI0 := hI.kept hk (fun _ _ _ h => h)
  have hl := fun w' hI => light_any r A c w' F hI
  rw [hL] at hl
  have Hl := Lib.hid hl
  have Hf := Lib.hid first13
  obtain ⟨V, hVV⟩ : ∃ V, checkR r = V := ⟨_, rfl⟩
  have hE2 := fun w' hI => enc_any r A c w' hI hr.fits
  have hC2 := fun w' hI => check_any r A c w' hI hr.fits
  unfold EncP at hE2
  unfold CheckP at hC2
  rw [hVV] at hE2 hC2
  rw [show encR r = [] from by unfold encR; rw [if_neg hV]] at hE2
  have HE2 := Lib.hid hE2
  have HC2 := Lib.hid hC2
  have hv1 : (V != 0) = true := by simpa [← hVV] using hV
  have hv2 : (V == 0) = false := by simpa [← hVV] using hV
  clear hl hI hL hE2 hC2 hVV hV
  unfold rsa at *
  go_enter Try.func8, Try.ntmps8
  go_wp2_with fail
  refine (Hf.out _).mono ?_
  rintro e w1 ⟨rfl, hk1⟩
  replace hb := hb.kept hk1 (fun h => h)
  have hc := hb.cell
  go_wp2_with fail
  refine (Hl.out _ (hI0.kept hk1 (fun _ _ _ h => h))).mono ?_
  rintro e w2 ⟨rfl, hk2⟩
  replace hb := hb.kept hk2 (fun h => h)
  replace hk := (hk.same hk1).same hk2
  have hI2 := hI0.kept (hk1.same hk2) (fun _ _ _ h => h)
  clear hk1 hk2 hc hI0
  have hc := hb.cell
  go_wp2_with fail
  refine (HE2.out _ (hI2.imp fun _ _ _ => trivial)).mono ?_
  rintro e w6 ⟨A6, n6, c6, rfl, hs6, hn6, hc6, hk6⟩
  clear hc
  replace hb := hb.kept hk6 (fun h => h)
  replace hI2 := hI2.kept hk6 (fun _ _ _ h => h)
  replace hk := hk.same hk6
  have hc := hb.cell
  go_wp2_with fail
  refine (HC2.out _ (hI2.imp fun _ _ _ => trivial)).mono ?_
  rintro e w7 ⟨rfl, hk7⟩
  go_wp2
  go_ret
  exact ⟨rfl, hk.same hk7⟩
theorem respCut_top (r : Rs) (A : Option Addr) (c : Nat) (at_ b : Int) (w : World) (hI : Sl w (fun _ => True) 4 A r.items.length (itc r.items)) (hr : r.Wf) (_ha : (Lit.int .i64 at_).wf = true) (hb : (Lit.int .u8 b).wf = true) :
    Calls Try.prog 8 #[.agg (rsa r A c), .int .i64 at_, .int .u8 b] w (BoolP true w) := by
  have hb' := wf_u8 hb
  cases hL : lightR r with
  | false => exact cut_far r A c at_ b w _ hI hL
  | true =>
    by_cases hV : checkR r = 0
    · have e : b = ((UInt8.ofNat b.toNat).toNat : Int) := by simp; omega
      rw [e]
      exact cut_walk r A c at_ _ w _ hI hr hL hV
    · exact cut_bad r A c at_ b w _ hI hr hL hV
end Go.Proofs.Ytlmfpadlgdmflaa
