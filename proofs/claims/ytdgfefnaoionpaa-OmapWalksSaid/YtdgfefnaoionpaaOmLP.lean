/-
  omap: OmapPlays: a map and the law's own rows beside it.
-/
import Derived.Test.YtdgfefnaoionpaaOmH
import Derived.Test.YtdgfefnaoionpaaChain
set_option linter.unusedSimpArgs false
set_option linter.unusedVariables false
namespace Go.Proofs.Ytdgfefnaoionpaa
open Go.RowKit
set_option maxRecDepth 100000

def keyV (e : En Int) : Value := .string e.1
def valV (e : En Int) : Value := .int .i64 e.2
theorem info_int : (Try.prog.info? 2).map (fun i => (i.zero, i.size, i.bytes)) = some (some (.int .i64 0), 1, 8) := by kernel_rfl
def playE (es : List (En Int)) (a : Act) : List (En Int) := if a.op = 0 then putE es a.k a.v else if a.op = 1 then delE es (kb a.k) else es
def playsE (l : List Act) : List (En Int) := l.foldl playE []
theorem playsE_snoc (l : List Act) (a : Act) : playsE (l ++ [a]) = playE (playsE l) a := by simp [playsE]
theorem playE_le (es : List (En Int)) (a : Act) : (playE es a).length ≤ es.length + 1 := by
  unfold playE
  split
  · exact putE_le es a.k a.v
  · split
    · have := delE_le es (kb a.k); omega
    · omega
theorem plays_len (l : List Act) : ∀ es : List (En Int), (l.foldl playE es).length ≤ es.length + l.length := by
  induction l with
  | nil => intro es; simp
  | cons a l ih =>
    intro es
    have h1 := ih (playE es a)
    have h2 := playE_le es a
    simp only [List.foldl_cons, List.length_cons]
    omega
theorem playsE_len (l : List Act) : (playsE l).length ≤ l.length := by
  have := plays_len l []
  simpa [playsE] using this

/-- The map at N; beside it the law's rows of keys, of values. -/
def St (N : Nat) (w : World) (es : List (En Int)) (n : Nat) (A1 : Option Addr) (c1 : Nat) (A2 : Option Addr) (c2 : Nat) : Prop :=
  es.length = n ∧ ∃ F R1 R2 : Nat → Prop, (∀ b, F b ∨ R1 b ∨ R2 b → N ≤ b ∧ b < w.heap.size) ∧ (∀ b, F b → ¬ R1 b ∧ ¬ R2 b) ∧ (∀ b, R1 b → ¬ R2 b) ∧ Mpi w F N es ∧
    Own w R1 9 1 (.slice A1 n c1) n (es.map keyV) ∧ Own w R2 2 1 (.slice A2 n c2) n (es.map valV)
section
variable {N n c1 c2 : Nat} {w w' : World} {es es' : List (En Int)} {A1 A2 : Option Addr}
theorem St.pure (h : St N w es n A1 c1 A2 c2) (hp : Pure w w') : St N w' es n A1 c1 A2 c2 := by
  obtain ⟨hn, F, R1, R2, h1, h2, h3, h4, h5, h6⟩ := h
  have := hp.size
  exact ⟨hn, F, R1, R2, fun b hb => ⟨(h1 b hb).1, by have := (h1 b hb).2; omega⟩, h2, h3, h4.kept hp (fun _ _ _ h => h), h5.kept hp (fun _ _ _ h => h), h6.kept hp (fun _ _ _ h => h)⟩
/-- New rows. -/
theorem st_rows (hm : ∃ F : Nat → Prop, (∀ b, F b → N ≤ b ∧ b < w.heap.size) ∧ Mpi w F N es') {w2 w3 : World} {B1 B2 : Nat} (k2 : Pure w w2) (hB1 : w.heap.size ≤ B1) (h1 : Own w2 (fun b => B1 ≤ b) 9 1 (.slice A1 n c1) n (es'.map keyV)) (k3 : Pure w2 w3) (hB2 : w2.heap.size ≤ B2)
    (h2 : Own w3 (fun b => B2 ≤ b) 2 1 (.slice A2 n c2) n (es'.map valV)) (hn : es'.length = n) : St N w3 es' n A1 c1 A2 c2 := by
  obtain ⟨F, hF, hm⟩ := hm
  have s2 := k2.size
  have s3 := k3.size
  have hN : N ≤ w.heap.size := by have := (hF N hm.1).2; omega
  refine ⟨hn, F, fun b => B1 ≤ b ∧ b < w2.heap.size, fun b => B2 ≤ b ∧ b < w3.heap.size, fun b hb => ?_, fun b hb => ?_, fun b hb hb' => by omega, (hm.kept k2 (fun _ _ _ h => h)).kept k3 (fun _ _ _ h => h), (h1.imp (fun b hl hb => ⟨hb, hl⟩)).kept k3 (fun _ _ _ h => h), h2.imp (fun b hl hb => ⟨hb, hl⟩)⟩
  · rcases hb with h | h | h
    · have := hF b h; omega
    · omega
    · omega
  · have := hF b hb
    omega
/-- The map has changed, the rows not yet: the map's blocks, the rows' blocks. -/
def Mid (N : Nat) (w : World) (es' es : List (En Int)) (n : Nat) (A1 : Option Addr) (c1 : Nat) (A2 : Option Addr) (c2 : Nat) : Prop :=
  es.length = n ∧ ∃ F R1 R2 : Nat → Prop, (∀ b, F b ∨ R1 b ∨ R2 b → N ≤ b ∧ b < w.heap.size) ∧ (∀ b, F b → ¬ R1 b ∧ ¬ R2 b) ∧ (∀ b, R1 b → ¬ R2 b) ∧ Mpi w F N es' ∧
    Own w R1 9 1 (.slice A1 n c1) n (es.map keyV) ∧ Own w R2 2 1 (.slice A2 n c2) n (es.map valV)
theorem Mid.pure (h : Mid N w es' es n A1 c1 A2 c2) (hp : Pure w w') : Mid N w' es' es n A1 c1 A2 c2 := by
  obtain ⟨hn, F, R1, R2, h1, h2, h3, h4, h5, h6⟩ := h
  have := hp.size
  exact ⟨hn, F, R1, R2, fun b hb => ⟨(h1 b hb).1, by have := (h1 b hb).2; omega⟩, h2, h3, h4.kept hp (fun _ _ _ h => h), h5.kept hp (fun _ _ _ h => h), h6.kept hp (fun _ _ _ h => h)⟩
theorem mid_of {r : Ending} {b : Bool} {F R1 R2 : Nat → Prop} {M : Nat} (hM : M ≤ w.heap.size) (hn : es.length = n) (h1 : ∀ b, F b ∨ R1 b ∨ R2 b → N ≤ b ∧ b < M) (h2 : ∀ b, F b → ¬ R1 b ∧ ¬ R2 b) (h3 : ∀ b, R1 b → ¬ R2 b) (h5 : Own w R1 9 1 (.slice A1 n c1) n (es.map keyV)) (h6 : Own w R2 2 1 (.slice A2 n c2) n (es.map valV))
    (hm : MpP 57 60 (Value.int .i64) F N es' b w r w') (h4 : Mpi w F N es) : r = .returned (.bool b) ∧ Mid N w' es' es n A1 c1 A2 c2 ∧ Kept (fun b => N ≤ b ∧ b < M) w w' := by
  obtain ⟨e1, e2, e3⟩ := hm
  have s := e3.size
  have hN := h1 N (.inl h4.1)
  refine ⟨e1, ⟨hn, fun b => (F b ∨ w.heap.size ≤ b) ∧ b < w'.heap.size, R1, R2, fun b hb => ?_, fun b hb => ?_, h3, e2.imp (fun b hl hb => ⟨hb, hl⟩), h5.kept e3 (fun b _ hr hf => (h2 b hf).1 hr), h6.kept e3 (fun b _ hr hf => (h2 b hf).2 hr)⟩, e3.mono (fun b _ hb => h1 b (.inl hb))⟩
  · rcases hb with ⟨h | h, h'⟩ | h | h
    · have := h1 b (.inl h); omega
    · omega
    · have := h1 b (.inr (.inl h)); omega
    · have := h1 b (.inr (.inr h)); omega
  · rcases hb.1 with h | h
    · exact h2 b h
    · exact ⟨fun hr => by have := h1 b (.inr (.inl hr)); omega, fun hr => by have := h1 b (.inr (.inr hr)); omega⟩
theorem st_put (k : ByteArray) (v : Int) {w0 : World} (h : St N w0 es n A1 c1 A2 c2) (hp : Pure w0 w) (hl : n < 100000) :
    Calls Try.prog 10 #[.pointer (some ⟨N, 0, none⟩), .string k, .int .i64 v] w fun e w' => e = .returned (.bool (!has es (kb k))) ∧ Mid N w' (putE es k v) es n A1 c1 A2 c2 ∧ Kept (fun b => N ≤ b ∧ b < w0.heap.size) w w' := by
  obtain ⟨hn, F, R1, R2, h1, h2, h3, h4, h5, h6⟩ := h
  have hs := hp.size
  refine (i_put w F N es k v (h4.kept hp (fun _ _ _ h => h)) (by omega) (fun b hb => by have := (h1 b (.inl hb)).2; omega)).mono fun e w' hm => ?_
  exact mid_of hs hn h1 h2 h3 (h5.kept hp (fun _ _ _ h => h)) (h6.kept hp (fun _ _ _ h => h)) hm (h4.kept hp (fun _ _ _ h => h))
theorem st_del (k : ByteArray) {w0 : World} (h : St N w0 es n A1 c1 A2 c2) (hp : Pure w0 w) :
    Calls Try.prog 16 #[.pointer (some ⟨N, 0, none⟩), .string k] w fun e w' => e = .returned (.bool (has es (kb k))) ∧ Mid N w' (delE es (kb k)) es n A1 c1 A2 c2 ∧ Kept (fun b => N ≤ b ∧ b < w0.heap.size) w w' := by
  obtain ⟨hn, F, R1, R2, h1, h2, h3, h4, h5, h6⟩ := h
  have hs := hp.size
  refine (i_mdel w F N es k (h4.kept hp (fun _ _ _ h => h))).mono fun e w' hm => ?_
  exact mid_of hs hn h1 h2 h3 (h5.kept hp (fun _ _ _ h => h)) (h6.kept hp (fun _ _ _ h => h)) hm (h4.kept hp (fun _ _ _ h => h))
theorem keyV_map (es : List (En Int)) : es.map keyV = (es.map Prod.fst).map Value.string := by simp [keyV]
/-- The law's own look. -/
theorem st_place (t : ByteArray) (h : St N w es n A1 c1 A2 c2) (hl : n ≤ 100000) : Calls Try.prog 13 #[.slice A1 n c1, .string t] w fun e w' => e = .returned (.tuple #[.int .i64 (low es (kb t) : Nat), .bool (has es (kb t))]) ∧ Pure w w' := by
  obtain ⟨hn, F, R1, R2, h1, h2, h3, h4, h5, h6⟩ := h
  have := h5.sl
  rw [keyV_map] at this
  have c := place_any A1 n c1 (es.map Prod.fst) t w _ this (by omega)
  rwa [plc_low, inn_has] at c
theorem st_get (t : ByteArray) (h : St N w es n A1 c1 A2 c2) : Calls Try.prog 19 #[.pointer (some ⟨N, 0, none⟩), .string t] w fun e w' => e = .returned (match valAt es (kb t) with | some v => .tuple #[.int .i64 v, .bool true] | none => .tuple #[.int .i64 0, .bool false]) ∧ Pure w w' := by
  obtain ⟨hn, F, R1, R2, h1, h2, h3, h4, h5, h6⟩ := h
  exact i_get w F N es t h4
theorem st_mplace (t : ByteArray) (h : St N w es n A1 c1 A2 c2) : Calls Try.prog 12 #[.pointer (some ⟨N, 0, none⟩), .string t] w fun e w' => e = .returned (.int .i64 (low es (kb t) : Nat)) ∧ Pure w w' := by
  obtain ⟨hn, F, R1, R2, h1, h2, h3, h4, h5, h6⟩ := h
  exact i_place w F N es t h4
theorem st_len (h : St N w es n A1 c1 A2 c2) : Calls Try.prog 14 #[.pointer (some ⟨N, 0, none⟩)] w fun e w' => e = .returned (.int .i64 (n : Nat)) ∧ w = w' := by
  obtain ⟨hn, F, R1, R2, h1, h2, h3, h4, h5, h6⟩ := h
  have := i_len w F N es h4
  rwa [hn] at this
theorem st_at (i : Int) (h : St N w es n A1 c1 A2 c2) : Calls Try.prog 20 #[.pointer (some ⟨N, 0, none⟩), .int .i64 i] w fun e w' => e = .returned (match (if 0 ≤ i then es[i.toNat]? else none) with | some e => .tuple #[.string e.1, .int .i64 e.2, .bool true] | none => .tuple #[.string ⟨#[]⟩, .int .i64 0, .bool false]) ∧ Pure w w' := by
  obtain ⟨hn, F, R1, R2, h1, h2, h3, h4, h5, h6⟩ := h
  exact i_at w F N es i h4
/-- A value in the law's row. -/
theorem st_val {j : Nat} {e : En Int} (h : St N w es n A1 c1 A2 c2) (he : es[j]? = some e) : j < n ∧ ∃ b o, A2 = some ⟨b, o, none⟩ ∧ w.cell? ⟨b, o + j, none⟩ = some (.int .i64 e.2) := by
  obtain ⟨hn, F, R1, R2, h1, h2, h3, h4, h5, h6⟩ := h
  have hj := (List.getElem?_eq_some_iff.1 he).1
  obtain ⟨b, o, rfl, _, _, _⟩ := h6.sl.2 (by omega)
  exact ⟨by omega, b, o, rfl, sl_one h6.sl he⟩
theorem st_key {j : Nat} {e : En Int} (h : St N w es n A1 c1 A2 c2) (he : es[j]? = some e) : j < n ∧ ∃ b o, A1 = some ⟨b, o, none⟩ ∧ w.cell? ⟨b, o + j, none⟩ = some (.string e.1) := by
  obtain ⟨hn, F, R1, R2, h1, h2, h3, h4, h5, h6⟩ := h
  have hj := (List.getElem?_eq_some_iff.1 he).1
  obtain ⟨b, o, rfl, _, _, _⟩ := h5.sl.2 (by omega)
  exact ⟨by omega, b, o, rfl, sl_one h5.sl he⟩
theorem has_some {α : Type} {es : List (En α)} {t : List UInt8} (h : has es t = true) : ∃ e, es[low es t]? = some e ∧ valAt es t = some e.2 := by
  unfold has at h
  unfold valAt
  cases hl : es[low es t]? with
  | none => rw [hl] at h; cases h
  | some e => rw [hl] at h; exact ⟨e, rfl, by simp only; rw [if_pos (by simpa using h)]⟩
theorem has_none {α : Type} {es : List (En α)} {t : List UInt8} (h : has es t = false) : valAt es t = none := by
  have := has_val es t
  rw [h] at this
  cases hv : valAt es t with
  | none => rfl
  | some v => rw [hv] at this; cases this
/-- The rows stand as they are. -/
theorem mid_same (h : Mid N w es es n A1 c1 A2 c2) : St N w es n A1 c1 A2 c2 := h
/-- The map without its rows. -/
theorem Mid.map (h : Mid N w es' es n A1 c1 A2 c2) : ∃ F : Nat → Prop, (∀ b, F b → N ≤ b ∧ b < w.heap.size) ∧ Mpi w F N es' := by
  obtain ⟨_, F, R1, R2, h1, _, _, h4, _, _⟩ := h
  exact ⟨F, fun b hb => h1 b (.inl hb), h4⟩
/-- One value is written into the row of values. -/
theorem mid_set {q : Nat} {v : Int} {gr : Nat} {cur : Array Value} {R : Nat → Prop} (hes : es' = es.modify q (fun e => (e.1, v))) (hq : q < n) (h : Mid N w es' es n A1 c1 (some ⟨gr, 0, none⟩) c2) : St N (w.setCell ⟨gr, q, none⟩ (.int .i64 v)) es' n A1 c1 (some ⟨gr, 0, none⟩) c2 ∧ N ≤ gr := by
  obtain ⟨hn, F, R1, R2, h1, h2, h3, h4, h5, h6⟩ := h
  obtain ⟨g, cur, hA, hg, hgb, hnc, hcm, hcs, hct⟩ := own_row h6 (by omega)
  injection hA with hA
  injection hA with hA
  subst hA
  have hks := (Kept.refl (· = gr) w).setCell (p := ⟨gr, q, none⟩) (.inl rfl) (.int .i64 v)
  have hlen : es'.length = n := by rw [hes]; simpa using hn
  have hkm : es'.map keyV = es.map keyV := by
    rw [hes]
    apply List.ext_getElem?
    intro j
    simp only [List.getElem?_map, List.getElem?_modify]
    by_cases h : q = j
    · simp only [if_pos h]; cases es[j]? <;> rfl
    · simp only [if_neg h]; cases es[j]? <;> rfl
  have hvm : es'.map valV = (es.map valV).set q (.int .i64 v) := by
    rw [hes]
    apply List.ext_getElem?
    intro j
    simp only [List.getElem?_map, List.getElem?_modify, List.getElem?_set, List.length_map]
    by_cases h : q = j
    · subst h
      simp only [if_true, show q < es.length from by omega, List.getElem?_eq_getElem (show q < es.length from by omega)]
      rfl
    · simp only [if_neg h]; cases es[j]? <;> rfl
  have hsz : (w.setCell ⟨gr, q, none⟩ (.int .i64 v)).heap.size = w.heap.size := by simp [World.setCell]
  refine ⟨⟨hlen, F, R1, R2, fun b hb => by rw [hsz]; exact h1 b hb, h2, h3, h4.kept hks (fun b _ hf e => by have e : b = gr := e; subst e; exact (h2 b hf).2 hg), ?_, ?_⟩, (h1 gr (.inr (.inr hg))).1⟩
  · rw [hkm]
    exact h5.kept hks (fun b _ hr e => by have e : b = gr := e; subst e; exact h3 b hr hg)
  · refine ⟨⟨by rw [List.length_map, hlen]; omega, .inr ⟨gr, c2, _, rfl, Nat.zero_le _, hgb.set q _, hnc, hcm, by simpa using hcs, ?_⟩⟩, fun b hb => by simp [Value.ownBlock] at hb; subst hb; exact hg⟩
    rw [Array.toList_setIfInBounds, List.take_set, hct, hvm]
end
end Go.Proofs.Ytdgfefnaoionpaa
