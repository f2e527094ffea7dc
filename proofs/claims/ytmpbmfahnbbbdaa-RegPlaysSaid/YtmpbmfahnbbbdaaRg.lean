/-
  reg: a registry in memory; shard, Find walked.
-/
import Derived.Test.YtmpbmfahnbbbdaaRgF
import Derived.Test.YtmpbmfahnbbbdaaStar
import Derived.Test.YtmpbmfahnbbbdaaOmE
import Derived.LoopTactic
import Derived.Deep.QuietTactic
import Derived.BigQuiet
set_option linter.unusedSimpArgs false
set_option linter.unusedVariables false
namespace Go.Proofs.Ytmpbmfahnbbbdaa
open Go.RowKit
set_option maxRecDepth 100000

def mpC (g : Nat) (es : Es) : Ch := ⟨fun w F => Mpi w F g es, Mp.imp, Mp.kept⟩
abbrev ptrV (g : Nat) : Value := .pointer (some ⟨g, 0, none⟩)
/-- A registry's pieces. -/
def rgL (g : Nat) (A : Option Addr) (m c : Nat) (gs : List Nat) (ms : List Es) : List Ch := blkC g 45 #[.slice A m c] :: ownC 46 1 (.slice A m c) m (gs.map ptrV) :: List.zipWith mpC gs ms
/-- A registry of m shards at block g: its keys and numbers are es. -/
structure RgAt (m : Nat) (w : World) (F : Nat → Prop) (g : Nat) (es : Es) (ms : List Es) (A : Option Addr) (c : Nat) (gs : List Nat) : Prop where
  shd : Shd (shd m) ms es
  ml : ms.length = m
  gl : gs.length = m
  el : es.length ≤ 90000
  pos : 0 < m ∧ m ≤ 1000
  star : Star w F (rgL g A m c gs ms)
def Rg (m : Nat) (w : World) (F : Nat → Prop) (g : Nat) (es : Es) : Prop := ∃ ms A c gs, RgAt m w F g es ms A c gs
section
variable {m g c : Nat} {w w' : World} {F G S : Nat → Prop} {es : Es} {ms : List Es} {A : Option Addr} {gs : List Nat} {f : Es} {k : ByteArray}
theorem Rg.imp (h : Rg m w F g es) (hF : ∀ b, b < w.heap.size → F b → G b) : Rg m w G g es := by
  obtain ⟨ms, A, c, gs, h⟩ := h
  exact ⟨ms, A, c, gs, h.shd, h.ml, h.gl, h.el, h.pos, h.star.imp hF⟩
theorem Rg.kept (h : Rg m w F g es) (hk : Kept S w w') (hd : ∀ b, b < w.heap.size → F b → ¬ S b) : Rg m w' F g es := by
  obtain ⟨ms, A, c, gs, h⟩ := h
  exact ⟨ms, A, c, gs, h.shd, h.ml, h.gl, h.el, h.pos, h.star.kept hk hd⟩
theorem RgAt.pure (h : RgAt m w F g es ms A c gs) (hk : Pure w w') : RgAt m w' F g es ms A c gs := ⟨h.shd, h.ml, h.gl, h.el, h.pos, h.star.pure hk⟩
theorem RgAt.blk (h : RgAt m w F g es ms A c gs) : Blk w g 45 #[.slice A m c] := (h.star.get 0 rfl).2
theorem RgAt.own (h : RgAt m w F g es ms A c gs) : Own w F 46 1 (.slice A m c) m (gs.map ptrV) := h.star.get 1 rfl
theorem RgAt.fg (h : RgAt m w F g es ms A c gs) : F g := (h.star.get (P := blkC g 45 #[.slice A m c]) 0 rfl).1
theorem zip_at {i : Nat} {x : Nat} (hg : gs[i]? = some x) (hf : ms[i]? = some f) : (rgL g A m c gs ms)[i + 2]? = some (mpC x f) := by
  show (List.zipWith mpC gs ms)[i]? = _
  rw [List.getElem?_zipWith, hg, hf]
theorem RgAt.map (h : RgAt m w F g es ms A c gs) {i x : Nat} (hg : gs[i]? = some x) (hf : ms[i]? = some f) : Mpi w F x f := h.star.get (i + 2) (zip_at hg hf)
theorem zip_set {x : Nat} (f' : Es) : ∀ {gs : List Nat} {ms : List Es} {i : Nat}, gs[i]? = some x → (List.zipWith mpC gs ms).set i (mpC x f') = List.zipWith mpC gs (ms.set i f')
  | [], ms, i, h => by simp at h
  | y :: gs, [], i, h => by simp
  | y :: gs, f :: ms, 0, h => by simp at h; subst h; rfl
  | y :: gs, f :: ms, i + 1, h => by
    have ih := zip_set f' (gs := gs) (ms := ms) (i := i) (by simpa using h)
    simp only [List.zipWith_cons_cons, List.set_cons_succ]
    rw [ih]
/-- One shard, and the way back. -/
theorem RgAt.at (h : RgAt m w F g es ms A c gs) {i x : Nat} (hg : gs[i]? = some x) (hf : ms[i]? = some f) : ∃ G, (∀ b, G b → F b) ∧ Mpi w G x f ∧
    ∀ (w' : World) (f' es' : Es), Mpi w' (fun b => G b ∨ w.heap.size ≤ b) x f' → Kept G w w' → es'.length ≤ 90000 → Shd (Ytmpbmfahnbbbdaa.shd m) (ms.set i f') es' → Rg m w' (fun b => F b ∨ w.heap.size ≤ b) g es' := by
  obtain ⟨G, h1, h2, h3⟩ := h.star.at (i + 2) (zip_at hg hf)
  refine ⟨G, h1, h2, fun w' f' es' hm hk hl hs => ⟨ms.set i f', A, c, gs, hs, by rw [List.length_set, h.ml], h.gl, hl, h.pos, ?_⟩⟩
  have := h3 w' (mpC x f') hm hk
  have e : (rgL g A m c gs ms).set (i + 2) (mpC x f') = rgL g A m c gs (ms.set i f') := by
    unfold rgL
    rw [List.set_cons_succ, List.set_cons_succ, zip_set f' hg]
  rwa [e] at this
theorem RgAt.ptr (h : RgAt m w F g es ms A c gs) (k : ByteArray) : ∃ x, gs[Ytmpbmfahnbbbdaa.shd m k]? = some x := ⟨_, List.getElem?_eq_getElem (by rw [h.gl]; exact shd_lt h.pos.1 k)⟩
end
theorem sl_one1 {w : World} {F : Nat → Prop} {b o n i : Nat} {xs : List Value} {x : Value} (h : Sl w F 1 (some ⟨b, o, none⟩) n xs) (hi : xs[i]? = some x) : w.cell? ⟨b, o + i, none⟩ = some x := by
  have hl := (List.getElem?_eq_some_iff.1 hi).1
  obtain ⟨b', o', he, _, _, hc⟩ := h.2 (by have := h.1; omega)
  injection he with he
  injection he with e1 e2
  subst e1 e2
  rw [hc i hl, hi]
theorem rg_shard (w : World) (F : Nat → Prop) (m c : Nat) (A : Option Addr) (gs : List Nat) (g x : Nat) (k : ByteArray) (hb : Blk w g 45 #[.slice A m c]) (ho : Own w F 46 1 (.slice A m c) m (gs.map ptrV)) (hx : gs[shd m k]? = some x) (hk : k.size ≤ 1000000) (hm : 0 < m ∧ m ≤ 1000) :
    Calls Try.prog 28 #[ptrV g, .string k] w fun e w' => e = .returned (ptrV x) ∧ Pure w w' := by
  have C := Lib.hid (fun w => f_shard k m w hk hm.1 hm.2)
  have hc := hb.cell
  have hlt := shd_lt hm.1 k
  obtain ⟨b, o, rfl, _, _, _⟩ := ho.sl.2 (by omega)
  have hcx := sl_one1 ho.sl (i := shd m k) (x := ptrV x) (by rw [List.getElem?_map, hx]; rfl)
  generalize shd m k = i at *
  have hi : (i : Int) < (m : Int) := by omega
  clear hb ho hx
  go_enter Try.func28, Try.ntmps28
  go_wp2
  go_quiet ((go_at_call 26; refine Calls.quiet_of_same (C.out _)))
  go_wp2
  go_ret
  exact ⟨rfl, (Kept.refl _ _).drewN _⟩
theorem rg_find (w : World) (F : Nat → Prop) (m g : Nat) (es : Es) (k : ByteArray) (h : Rg m w F g es) (hk : k.size ≤ 1000000) :
    Calls Try.prog 12 #[ptrV g, .string k] w fun e w' => e = .returned (.int .i64 (fdE es k)) ∧ Pure w w' := by
  obtain ⟨ms, A, c, gs, h⟩ := h
  obtain ⟨x, hx⟩ := h.ptr k
  obtain ⟨f, hf⟩ := h.shd.get k
  have C1 := Lib.hid (rg_shard w F m c A gs g x k h.blk h.own hx hk h.pos)
  have c2 := fun (w' : World) (hp : Pure w w') => i_get w' F x f k ((h.pure hp).map hx hf)
  rw [h.shd.val hf] at c2
  unfold fdE
  obtain ⟨V, hV⟩ : ∃ V, valAt es (kb k) = V := ⟨_, rfl⟩
  rw [hV] at c2 ⊢
  have C2 := Lib.hid c2
  clear c2 h hx hf hV
  go_enter Try.func12, Try.ntmps12
  go_wp2_with fail
  refine (C1.out).mono ?_
  rintro e w1 ⟨rfl, hk1⟩
  go_wp2_with fail
  refine (C2.out _ hk1).mono ?_
  rintro e w2 ⟨rfl, hk2⟩
  cases V with
  | none =>
    go_wp2
    go_ret
    exact ⟨rfl, hk1.same hk2⟩
  | some v =>
    go_wp2
    go_ret
    exact ⟨rfl, hk1.same hk2⟩
theorem rg_add (w : World) (F : Nat → Prop) (m g : Nat) (es : Es) (k : ByteArray) (id : Int) (h : Rg m w F g es) (hk : k.size ≤ 1000000) (hn : es.length < 90000) (hF : ∀ b, F b → b < w.heap.size) :
    Calls Try.prog 16 #[ptrV g, .string k, .int .i64 id] w fun e w' => e = .returned (.bool (addE es k id).1) ∧ Rg m w' (fun b => F b ∨ w.heap.size ≤ b) g (addE es k id).2 ∧ Kept F w w' := by
  have C1 := Lib.hid (fun (w' : World) (hp : Pure w w') => rg_find w' F m g es k (h.kept hp (fun _ _ _ h => h)) hk)
  have H := Lib.hid h
  clear h
  by_cases hid : id < 0
  · have he : addE es k id = (false, es) := by unfold addE; rw [if_pos (.inl hid)]
    rw [he]
    clear he
    go_enter Try.func16, Try.ntmps16
    go_wp2
    go_ret
    exact ⟨rfl, H.out.imp (fun b _ h => .inl h), Kept.refl _ _⟩
  · have hid' : (id < 0) = False := by simp; omega
    have hid0 : 0 ≤ id := by omega
    by_cases hfd : 0 ≤ fdE es k
    · have he : addE es k id = (false, es) := by unfold addE; rw [if_pos (.inr hfd)]
      rw [he]
      generalize fdE es k = fd at *
      clear he hid
      go_enter Try.func16, Try.ntmps16
      go_wp2_with fail
      refine (C1.out _ (Kept.refl _ _)).mono ?_
      rintro e w1 ⟨rfl, hk1⟩
      have h1 := Lib.hid (H.out.kept hk1 (fun _ _ _ h => h))
      go_wp2
      go_ret
      exact ⟨rfl, h1.out.imp (fun b _ h => .inl h), hk1.mono (fun _ _ h => h.elim)⟩
    · have he : addE es k id = (true, putE es k id) := by unfold addE; rw [if_neg (by omega)]
      rw [he]
      obtain ⟨ms, A, c, gs, h⟩ := H.out
      obtain ⟨x, hx⟩ := h.ptr k
      obtain ⟨f, hf⟩ := h.shd.get k
      have hno : has es (kb k) = false := by
        have := fd_pos h.shd k
        simpa [hfd] using this
      have hfl := h.shd.len hf
      have hno2 : has f (kb k) = false := by rw [h.shd.has hf]; exact hno
      have hpl := putE_le es k id
      have C2 := Lib.hid (fun (w' : World) (hp : Pure w w') => rg_shard w' F m c A gs g x k (h.pure hp).blk (h.pure hp).own hx hk h.pos)
      have hup : ∀ w', Pure w w' → ∃ G, (∀ b, G b → F b) ∧ Mpi w' G x f ∧ (∀ (w3 : World), Mpi w3 (fun b => G b ∨ w'.heap.size ≤ b) x (putE f k id) → Kept G w' w3 → Rg m w3 (fun b => F b ∨ w'.heap.size ≤ b) g (putE es k id)) := fun w' hp => by
        obtain ⟨G, h1, h2, h3⟩ := (h.pure hp).at hx hf
        exact ⟨G, h1, h2, fun w3 hm hk3 => h3 w3 _ _ hm hk3 (by omega) (h.shd.put hf hid0 hno)⟩
      have Hup := Lib.hid hup
      have C3 := Lib.hid (fun (w' : World) (hp : Pure w w') (G : Nat → Prop) (hG : ∀ b, G b → F b) (hm : Mpi w' G x f) => i_put w' G x f k id hm (by omega) (fun b hb => Nat.lt_of_lt_of_le (hF b (hG b hb)) hp.size))
      rw [hno2] at C3
      generalize fdE es k = fd at *
      clear h hx hf hno hno2 hup he hid
      go_enter Try.func16, Try.ntmps16
      go_wp2_with fail
      refine (C1.out _ (Kept.refl _ _)).mono ?_
      rintro e w1 ⟨rfl, hk1⟩
      go_wp2_with fail
      refine (C2.out _ hk1).mono ?_
      rintro e w2 ⟨rfl, hk2⟩
      obtain ⟨G, h1, h2, h3⟩ := Hup.out w2 (hk1.same hk2)
      have H3 := Lib.hid h3
      clear h3
      go_wp2_with fail
      refine (C3.out _ (hk1.same hk2) G h1 h2).mono ?_
      rintro e w3 ⟨rfl, h4, h5⟩
      have hfin := H3.out w3 h4 h5
      have Hfin := Lib.hid hfin
      have Hk5 := Lib.hid h5
      clear hfin h4 h2 h5
      go_wp2
      go_ret
      have hz := (hk1.same hk2).size
      exact ⟨rfl, Hfin.out.imp (fun b _ h => h.imp (fun h => h) (fun h => Nat.le_trans hz h)), ((hk1.same hk2).mono (fun _ _ h => h.elim)).same (Hk5.out.mono (fun b _ h => h1 b h))⟩
theorem rg_rem (w : World) (F : Nat → Prop) (m g : Nat) (es : Es) (k : ByteArray) (id : Int) (h : Rg m w F g es) (hk : k.size ≤ 1000000) :
    Calls Try.prog 17 #[ptrV g, .string k, .int .i64 id] w fun e w' => e = .returned (.bool (remE es k id).1) ∧ Rg m w' (fun b => F b ∨ w.heap.size ≤ b) g (remE es k id).2 ∧ Kept F w w' := by
  have C1 := Lib.hid (fun (w' : World) (hp : Pure w w') => rg_find w' F m g es k (h.kept hp (fun _ _ _ h => h)) hk)
  have H := Lib.hid h
  clear h
  by_cases hid : id < 0
  · have he : remE es k id = (false, es) := by unfold remE; rw [if_pos (.inl hid)]
    rw [he]
    clear he
    go_enter Try.func17, Try.ntmps17
    go_wp2
    go_ret
    exact ⟨rfl, H.out.imp (fun b _ h => .inl h), Kept.refl _ _⟩
  · have hid' : (id < 0) = False := by simp; omega
    have hid0 : 0 ≤ id := by omega
    by_cases hfd : fdE es k = id
    · have he : remE es k id = (true, delE es (kb k)) := by unfold remE; rw [if_neg (by simp [hfd]; omega)]
      rw [he]
      obtain ⟨ms, A, c, gs, h⟩ := H.out
      obtain ⟨x, hx⟩ := h.ptr k
      obtain ⟨f, hf⟩ := h.shd.get k
      have hyes : has es (kb k) = true := (fd_pos h.shd k).1 (by omega)
      have hyes2 : has f (kb k) = true := by rw [h.shd.has hf]; exact hyes
      have hpl := delE_le es (kb k)
      have hel := h.el
      have C2 := Lib.hid (fun (w' : World) (hp : Pure w w') => rg_shard w' F m c A gs g x k (h.pure hp).blk (h.pure hp).own hx hk h.pos)
      have hup : ∀ w', Pure w w' → ∃ G, (∀ b, G b → F b) ∧ Mpi w' G x f ∧ (∀ (w3 : World), Mpi w3 (fun b => G b ∨ w'.heap.size ≤ b) x (delE f (kb k)) → Kept G w' w3 → Rg m w3 (fun b => F b ∨ w'.heap.size ≤ b) g (delE es (kb k))) := fun w' hp => by
        obtain ⟨G, h1, h2, h3⟩ := (h.pure hp).at hx hf
        exact ⟨G, h1, h2, fun w3 hm hk3 => h3 w3 _ _ hm hk3 (by omega) (h.shd.del hf)⟩
      have Hup := Lib.hid hup
      have C3 := Lib.hid (fun (w' : World) (G : Nat → Prop) (hm : Mpi w' G x f) => i_mdel w' G x f k hm)
      rw [hyes2] at C3
      rw [hfd] at C1
      clear h hx hf hyes hyes2 hup he hid hfd hel
      go_enter Try.func17, Try.ntmps17
      go_wp2_with fail
      refine (C1.out _ (Kept.refl _ _)).mono ?_
      rintro e w1 ⟨rfl, hk1⟩
      go_wp2_with fail
      refine (C2.out _ hk1).mono ?_
      rintro e w2 ⟨rfl, hk2⟩
      obtain ⟨G, h1, h2, h3⟩ := Hup.out w2 (hk1.same hk2)
      have H3 := Lib.hid h3
      clear h3
      go_wp2_with fail
      refine (C3.out _ G h2).mono ?_
      rintro e w3 ⟨rfl, h4, h5⟩
      have hfin := H3.out w3 h4 h5
      have Hfin := Lib.hid hfin
      have Hk5 := Lib.hid h5
      clear hfin h4 h2 h5
      go_wp2
      go_ret
      have hz := (hk1.same hk2).size
      exact ⟨rfl, Hfin.out.imp (fun b _ h => h.imp (fun h => h) (fun h => Nat.le_trans hz h)), ((hk1.same hk2).mono (fun _ _ h => h.elim)).same (Hk5.out.mono (fun b _ h => h1 b h))⟩
    · have he : remE es k id = (false, es) := by unfold remE; rw [if_pos (.inr hfd)]
      rw [he]
      have hne : (fdE es k == id) = false := by simpa using hfd
      generalize fdE es k = fd at *
      clear he hid
      go_enter Try.func17, Try.ntmps17
      go_wp2_with fail
      refine (C1.out _ (Kept.refl _ _)).mono ?_
      rintro e w1 ⟨rfl, hk1⟩
      have h1 := Lib.hid (H.out.kept hk1 (fun _ _ _ h => h))
      go_wp2
      go_ret
      exact ⟨rfl, h1.out.imp (fun b _ h => .inl h), hk1.mono (fun _ _ h => h.elim)⟩
end Go.Proofs.Ytmpbmfahnbbbdaa
