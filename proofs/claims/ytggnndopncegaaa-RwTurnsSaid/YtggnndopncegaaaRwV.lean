/-
  rw: without walked; the rows that RwTurns keeps.
-/
import Derived.Test.YtggnndopncegaaaRwI
import Derived.Test.YtggnndopncegaaaRwJ
import Derived.Test.YtggnndopncegaaaOwnO
import Derived.Deep.QuietTactic
import Derived.BigQuiet
set_option linter.unusedSimpArgs false
set_option linter.unusedVariables false
namespace Go.Proofs.Ytggnndopncegaaa
open Go.RowKit
set_option maxRecDepth 100000

theorem lessI_snoc (l : List Int) (y x : Int) : lessI (l ++ [y]) x = if y = x then lessI l x else lessI l x ++ [y] := by
  unfold lessI
  rw [List.filter_append]
  by_cases h : y = x <;> simp [h]
/-- A row of numbers, made new. -/
def NewI (w : World) (l : List Int) (e : Ending) (w' : World) : Prop := ∃ A c, e = .returned (.slice A l.length c) ∧ Own w' (fun b => w.heap.size ≤ b) 3 1 (.slice A l.length c) l.length (ics l) ∧ Pure w w'
set_option maxHeartbeats 3200000 in
theorem without_any (A : Option Addr) (n c : Nat) (l : List Int) (x : Int) (w : World) (F : Nat → Prop) (hs : Sl w F 1 A n (ics l)) (hn : n ≤ 1000000) :
    Calls Try.prog 20 #[.slice A n c, .int .i64 x] w (NewI w (lessI l x)) := by
  have hl := sli_len hs
  have Hl := Lib.hid hl
  have Hs := Lib.hid hs
  clear hl hs
  go_enter Try.func20, Try.ntmps20
  go_wp2
  go_loopw [5, 6] (fun out i wr => ∃ k : Nat, i = .int .i64 k ∧ k ≤ n ∧ Hid (Own wr (fun b => w.heap.size ≤ b) 3 1 out (lessI (l.take k) x).length (ics (lessI (l.take k) x))) ∧ Hid (Pure w wr)) (fun _ i _ => n - (intOf i).toNat)
  case atStart => exact ⟨0, rfl, Nat.zero_le _, Lib.hid (Own.nil _ _ _ _), Lib.hid (Kept.refl _ _)⟩
  case round =>
    obtain ⟨k, rfl, hk, ho, hp⟩ := hrel
    by_cases hkn : k < n
    · obtain ⟨y, hy⟩ : ∃ y, l[k]? = some y := ⟨_, List.getElem?_eq_getElem (by have := Hl.out; omega)⟩
      have hsw := Hs.out.kept hp.out (fun _ _ _ h => h)
      obtain ⟨b, o, rfl, _, _, _⟩ := hsw.2 (by omega)
      have hc1 := sli_at hsw hy
      have hki : (k : Int) < (n : Int) := by omega
      have htk : l.take (k + 1) = l.take k ++ [y] := by simp [List.take_add_one, hy]
      have hst := lessI_snoc (l.take k) y x
      rw [← htk] at hst
      have hlen := lessI_length (l.take k) x
      rw [List.length_take] at hlen
      have hsz := hp.out.size
      clear hy hsw htk
      by_cases hyx : y = x
      · rw [if_pos hyx] at hst
        have Hst := Lib.hid hst
        subst hyx
        clear hst
        go_wp2
        go_roundw
        case measure => simp [intOf]; omega
        case rel => exact ⟨k + 1, by first | rfl | go_num, by omega, (by rw [Hst.out]; exact ho), hp⟩
      · rw [if_neg hyx] at hst
        have hyx' : (y == x) = false := by simpa using hyx
        have Hst := Lib.hid hst
        have hlit := Sl.lit wr #[.int .i64 y] 3 1 1 _ rfl rfl
        clear hst
        go_wp2_with (first | (at_builtin; refine held ?_))
        refine unheld ?_
        refine wp_appB w.heap.size Try.underlying34 info_di rfl (by omega) (by simp; omega) (ho.out.alloc _) hlit (ics_one [y]) (by omega) (by omega) rfl _ _ rfl rfl rfl ?_
        intro v3 w3 ho3 hk3
        have hfin : Own w3 (fun b => w.heap.size ≤ b) 3 1 v3 (lessI (l.take (k + 1)) x).length (ics (lessI (l.take (k + 1)) x)) := by rw [Hst.out]; simpa [ics] using ho3
        have Hfin := Lib.hid hfin
        have hk : Pure w w3 := (hp.out.alloc _).trans hk3 (fun b hb h => by omega)
        have Hk := Lib.hid hk
        clear ho3 hk3 hfin hk
        go_wp2
        go_roundw
        case measure => simp [intOf]; omega
        case rel => exact ⟨k + 1, by first | rfl | go_num, by omega, Hfin, Hk⟩
    · obtain rfl : k = n := by omega
      have hS := ho.out
      rw [List.take_of_length_le (by have := Hl.out; omega)] at hS
      obtain ⟨A5, c5, rfl, _⟩ := hS.form
      have HS := Lib.hid hS
      clear ho hS
      go_wp2
      go_ret
      exact ⟨A5, c5, rfl, HS.out, hp.out⟩

/-- What a run of RwTurns has in memory: the lock, who waits, who asked to write. -/
def Tn (N : Nat) (w : World) (k : Lk) (v4 : Value) (ql : List Int) (v5 : Value) (wl : List Int) : Prop :=
  ∃ F G4 G5 : Nat → Prop, (∀ b, F b → N ≤ b) ∧ (∀ b, G4 b → N ≤ b ∧ ¬ F b) ∧ (∀ b, G5 b → N ≤ b ∧ ¬ F b ∧ ¬ G4 b) ∧ Lp w F N k ∧ OwnO w G4 3 1 v4 ql.length (ics ql) ∧ Own w G5 3 1 v5 wl.length (ics wl)
section
variable {N : Nat} {w w' : World} {k k' : Lk} {v4 v5 : Value} {ql wl : List Int}
theorem Tn.pure (h : Tn N w k v4 ql v5 wl) (hp : Pure w w') : Tn N w' k v4 ql v5 wl := by
  obtain ⟨F, G4, G5, a1, a2, a3, h1, h2, h3⟩ := h
  exact ⟨F, G4, G5, a1, a2, a3, h1.kept hp (fun _ _ _ h => h), h2.kept hp (fun _ _ _ h => h), h3.kept hp (fun _ _ _ h => h)⟩
theorem Tn.form4 (h : Tn N w k v4 ql v5 wl) : ∃ A c, v4 = .slice A ql.length c ∧ ql.length ≤ c ∧ c ≤ maxLen := by
  obtain ⟨F, G4, G5, a1, a2, a3, h1, h2, h3⟩ := h
  obtain ⟨A, c, e, h, h', _⟩ := h2.form
  exact ⟨A, c, e, h, h'⟩
theorem Tn.form5 (h : Tn N w k v4 ql v5 wl) : ∃ A c, v5 = .slice A wl.length c := by
  obtain ⟨F, G4, G5, a1, a2, a3, h1, h2, h3⟩ := h
  obtain ⟨A, c, e, _⟩ := h3.form
  exact ⟨A, c, e⟩
theorem Tn.sl4 {A : Option Addr} {n c : Nat} (h : Tn N w k (.slice A n c) ql v5 wl) (hn : ql.length = n) : Sl w (fun b => N ≤ b) 1 A n (ics ql) := by
  obtain ⟨F, G4, G5, a1, a2, a3, h1, h2, h3⟩ := h
  subst hn
  exact h2.sl.imp (fun b _ h => (a2 b h).1)
theorem Tn.sl5 {A : Option Addr} {n c : Nat} (h : Tn N w k v4 ql (.slice A n c) wl) (hn : wl.length = n) : Sl w (fun b => N ≤ b) 1 A n (ics wl) := by
  obtain ⟨F, G4, G5, a1, a2, a3, h1, h2, h3⟩ := h
  subst hn
  exact h3.sl.imp (fun b _ h => (a3 b h).1)
theorem Tn.lock (h : Tn N w k v4 ql v5 wl) : LN w N N k := by
  obtain ⟨F, G4, G5, a1, a2, a3, h1, h2, h3⟩ := h
  exact h1.imp (fun b _ h => a1 b h)
theorem Tn.lt (h : Tn N w k v4 ql v5 wl) : N < w.heap.size := h.lock.lt
theorem Tn.moved {F G4 G5 : Nat → Prop} (a1 : ∀ b, F b → N ≤ b) (a2 : ∀ b, G4 b → N ≤ b ∧ ¬ F b) (a3 : ∀ b, G5 b → N ≤ b ∧ ¬ F b ∧ ¬ G4 b) (hN : N ≤ w.heap.size)
    (h1 : Lp w' (fun b => F b ∨ w.heap.size ≤ b) N k') (hk : Kept F w w') (h2 : OwnO w G4 3 1 v4 ql.length (ics ql)) (h3 : Own w G5 3 1 v5 wl.length (ics wl)) : Tn N w' k' v4 ql v5 wl := by
  refine ⟨fun b => F b ∨ w.heap.size ≤ b, fun b => G4 b ∧ b < w.heap.size, fun b => G5 b ∧ b < w.heap.size, ?_, ?_, ?_, h1, ?_, ?_⟩
  · intro b h; rcases h with h | h
    · exact a1 b h
    · omega
  · intro b h; exact ⟨(a2 b h.1).1, fun e => by rcases e with e | e; exact (a2 b h.1).2 e; omega⟩
  · intro b h; exact ⟨(a3 b h.1).1, fun e => by rcases e with e | e; exact (a3 b h.1).2.1 e; omega, fun e => (a3 b h.1).2.2 e.1⟩
  · exact (h2.imp (fun b hl h => (⟨h, hl⟩ : G4 b ∧ b < w.heap.size))).kept hk (fun b _ h => (a2 b h.1).2)
  · exact (h3.imp (fun b hl h => (⟨h, hl⟩ : G5 b ∧ b < w.heap.size))).kept hk (fun b _ h => (a3 b h.1).2.1)
theorem tn_ask (h : Tn N w k v4 ql v5 wl) (who : Int) (b : Bool) (hz : k.size ≤ 99999) :
    Calls Try.prog 9 #[.pointer (some ⟨N, 0, none⟩), .int .i64 who, .bool b] w fun e w' => e = .returned (.bool (k.ask who b).1) ∧ Tn N w' (k.ask who b).2 v4 ql v5 wl ∧ Kept (fun b => N ≤ b) w w' := by
  have hlt := h.lt
  obtain ⟨F, G4, G5, a1, a2, a3, h1, h2, h3⟩ := h
  refine (lk_ask w F N k who b h1 hz).mono ?_
  rintro e w' ⟨e1, e2, e3⟩
  exact ⟨e1, Tn.moved a1 a2 a3 (by omega) e2 e3 h2 h3, e3.mono (fun b _ h => a1 b h)⟩
/-- A slice of numbers is handed back; the lock has moved. -/
def LvT (N : Nat) (w : World) (r : List Int × Lk) (v4 : Value) (ql : List Int) (v5 : Value) (wl : List Int) (e : Ending) (w' : World) : Prop :=
  ∃ A c, e = .returned (.slice A r.1.length c) ∧ Sl w' (fun b => w.heap.size ≤ b) 1 A r.1.length (ics r.1) ∧ Tn N w' r.2 v4 ql v5 wl ∧ Kept (fun b => N ≤ b) w w'
theorem tn_leave (h : Tn N w k v4 ql v5 wl) (who : Int) (hz : k.size ≤ 100000) :
    Calls Try.prog 12 #[.pointer (some ⟨N, 0, none⟩), .int .i64 who] w (LvT N w (k.leave who) v4 ql v5 wl) := by
  have hlt := h.lt
  obtain ⟨F, G4, G5, a1, a2, a3, h1, h2, h3⟩ := h
  refine (lk_leave w F N k who h1 hz).mono ?_
  rintro e w' ⟨A, n, c, e1, e2, e3, e4⟩
  have hn := sli_len e2
  subst hn
  exact ⟨A, c, e1, e2, Tn.moved a1 a2 a3 (by omega) e3 e4 h2 h3, e4.mono (fun b _ h => a1 b h)⟩
/-- A new row instead of the one of those who asked to write. -/
theorem Tn.new5 (h : Tn N w k v4 ql v5 wl) (hp : Pure w w') {v : Value} {l : List Int} (ho : Own w' (fun b => w.heap.size ≤ b) 3 1 v l.length (ics l)) : Tn N w' k v4 ql v l := by
  have hlt := h.lt
  obtain ⟨F, G4, G5, a1, a2, a3, h1, h2, h3⟩ := h
  refine ⟨fun b => F b ∧ b < w.heap.size, fun b => G4 b ∧ b < w.heap.size, fun b => w.heap.size ≤ b, fun b h => a1 b h.1, fun b h => ⟨(a2 b h.1).1, fun e => (a2 b h.1).2 e.1⟩, fun b h => ⟨by omega, fun e => by omega, fun e => by omega⟩, ?_, ?_, ho⟩
  · exact (h1.imp (fun b hl h => (⟨h, hl⟩ : F b ∧ b < w.heap.size))).kept hp (fun _ _ _ h => h)
  · exact (h2.imp (fun b hl h => (⟨h, hl⟩ : G4 b ∧ b < w.heap.size))).kept hp (fun _ _ _ h => h)
theorem Tn.new4 (h : Tn N w k v4 ql v5 wl) (hp : Pure w w') {v : Value} {l : List Int} (ho : OwnO w' (fun b => w.heap.size ≤ b) 3 1 v l.length (ics l)) : Tn N w' k v l v5 wl := by
  have hlt := h.lt
  obtain ⟨F, G4, G5, a1, a2, a3, h1, h2, h3⟩ := h
  refine ⟨fun b => F b ∧ b < w.heap.size, fun b => w.heap.size ≤ b, fun b => G5 b ∧ b < w.heap.size, fun b h => a1 b h.1, fun b h => ⟨by omega, fun e => by omega⟩, fun b h => ⟨(a3 b h.1).1, fun e => (a3 b h.1).2.1 e.1, fun e => by omega⟩, ?_, ho, ?_⟩
  · exact (h1.imp (fun b hl h => (⟨h, hl⟩ : F b ∧ b < w.heap.size))).kept hp (fun _ _ _ h => h)
  · exact (h3.imp (fun b hl h => (⟨h, hl⟩ : G5 b ∧ b < w.heap.size))).kept hp (fun _ _ _ h => h)
theorem Tn.open5 (h : Tn N w k v4 ql v5 wl) : ∃ G, Own w G 3 1 v5 wl.length (ics wl) ∧ ∀ (w' : World) (v : Value) (l : List Int), Own w' (fun b => G b ∨ w.heap.size ≤ b) 3 1 v l.length (ics l) → Kept G w w' → Tn N w' k v4 ql v l ∧ Kept (fun b => N ≤ b) w w' := by
  have hlt := h.lt
  obtain ⟨F, G4, G5, a1, a2, a3, h1, h2, h3⟩ := h
  refine ⟨G5, h3, fun w' v l ho hk => ⟨⟨fun b => F b ∧ b < w.heap.size, fun b => G4 b ∧ b < w.heap.size, fun b => G5 b ∨ w.heap.size ≤ b, fun b h => a1 b h.1, fun b h => ⟨(a2 b h.1).1, fun e => (a2 b h.1).2 e.1⟩, fun b h => ?_, ?_, ?_, ho⟩, hk.mono (fun b _ h => (a3 b h).1)⟩⟩
  · rcases h with h | h
    · exact ⟨(a3 b h).1, fun e => (a3 b h).2.1 e.1, fun e => (a3 b h).2.2 e.1⟩
    · exact ⟨by omega, fun e => by omega, fun e => by omega⟩
  · exact (h1.imp (fun b hl h => (⟨h, hl⟩ : F b ∧ b < w.heap.size))).kept hk (fun b _ h e => (a3 b e).2.1 h.1)
  · exact (h2.imp (fun b hl h => (⟨h, hl⟩ : G4 b ∧ b < w.heap.size))).kept hk (fun b _ h e => (a3 b e).2.2 h.1)
theorem Tn.open4 (h : Tn N w k v4 ql v5 wl) : ∃ G, OwnO w G 3 1 v4 ql.length (ics ql) ∧ ∀ (w' : World) (v : Value) (l : List Int), OwnO w' (fun b => G b ∨ w.heap.size ≤ b) 3 1 v l.length (ics l) → Kept G w w' → Tn N w' k v l v5 wl ∧ Kept (fun b => N ≤ b) w w' := by
  have hlt := h.lt
  obtain ⟨F, G4, G5, a1, a2, a3, h1, h2, h3⟩ := h
  refine ⟨G4, h2, fun w' v l ho hk => ⟨⟨fun b => F b ∧ b < w.heap.size, fun b => G4 b ∨ w.heap.size ≤ b, fun b => G5 b ∧ b < w.heap.size, fun b h => a1 b h.1, fun b h => ?_, fun b h => ⟨(a3 b h.1).1, fun e => (a3 b h.1).2.1 e.1, fun e => ?_⟩, ?_, ho, ?_⟩, hk.mono (fun b _ h => (a2 b h).1)⟩⟩
  · rcases h with h | h
    · exact ⟨(a2 b h).1, fun e => (a2 b h).2 e.1⟩
    · exact ⟨by omega, fun e => by omega⟩
  · rcases e with e | e
    · exact (a3 b h.1).2.2 e
    · omega
  · exact (h1.imp (fun b hl h => (⟨h, hl⟩ : F b ∧ b < w.heap.size))).kept hk (fun b _ h e => (a2 b e).2 h.1)
  · exact (h3.imp (fun b hl h => (⟨h, hl⟩ : G5 b ∧ b < w.heap.size))).kept hk (fun b _ h e => (a3 b h.1).2.2 e)
end
/-- What a round of RwTurns finds. -/
def TS (N : Nat) (w : World) (k : Lk) (v4 : Value) (n4 : Nat) (v5 : Value) (n5 m : Nat) : Prop :=
  ∃ wl : List Int, Tn N w k v4 (k.qu.map (·.1)) v5 wl ∧ Good k ∧ (∀ x ∈ k.qu, x.2 = true ↔ x.1 ∈ wl) ∧ k.qu.length = n4 ∧ wl.length = n5 ∧ n4 ≤ m ∧ n5 ≤ m ∧ k.size ≤ m
theorem wl_ask {q : List (Int × Bool)} {wl : List Int} {x : Int} (h : ∀ e ∈ q, e.2 = true ↔ e.1 ∈ wl) (hx : x ∉ q.map (·.1)) (wl' : List Int) (hw : ∀ y, y ≠ x → (y ∈ wl' ↔ y ∈ wl)) : ∀ e ∈ q, e.2 = true ↔ e.1 ∈ wl' := fun e he => by
  rw [h e he, hw e.1 (fun c => hx (by rw [← c]; exact List.mem_map_of_mem he))]
theorem lessI_mem {l : List Int} {x y : Int} : y ∈ lessI l x ↔ y ∈ l ∧ y ≠ x := by unfold lessI; simp
theorem lessI_len {l : List Int} {x : Int} : (lessI l x).length = l.length ↔ x ∉ l := by
  unfold lessI
  rw [List.length_filter_eq_length_iff]
  exact ⟨fun h hx => of_decide_eq_true (h x hx) rfl, fun h a ha => decide_eq_true (fun e => h (by rw [← e]; exact ha))⟩
theorem mem_true {q : List (Int × Bool)} {wl : List Int} {x : Int} (h : ∀ e ∈ q, e.2 = true ↔ e.1 ∈ wl) (hx : x ∉ q.map (·.1)) : ∀ e ∈ q ++ [(x, true)], e.2 = true ↔ e.1 ∈ lessI wl x ++ [x] := fun e he => by
  rcases List.mem_append.1 he with he | he
  · exact wl_ask h hx _ (fun y hy => by simp [lessI_mem, hy]) e he
  · rw [List.mem_singleton] at he; subst he; simp
theorem mem_false {q : List (Int × Bool)} {wl : List Int} {x : Int} (h : ∀ e ∈ q, e.2 = true ↔ e.1 ∈ wl) (hx : x ∉ q.map (·.1)) : ∀ e ∈ q ++ [(x, false)], e.2 = true ↔ e.1 ∈ lessI wl x := fun e he => by
  rcases List.mem_append.1 he with he | he
  · exact wl_ask h hx _ (fun y hy => by simp [lessI_mem, hy]) e he
  · rw [List.mem_singleton] at he; subst he; simp [lessI_not]
/-- The row behind an Ask: in. -/
theorem ts_in {N : Nat} {w : World} {k k' : Lk} {v4 v5 : Value} {wl : List Int} {n5 m : Nat} (h : Tn N w k' v4 (k.qu.map (·.1)) v5 wl) (hg : Good k') (hq : k.qu = [] ∧ k'.qu = []) (hn : wl.length = n5) (hm : n5 ≤ m) (hz : k'.size ≤ m) : TS N w k' v4 0 v5 n5 m :=
  ⟨wl, by rw [hq.2]; rw [hq.1] at h; exact h, hg, (fun x hx => by rw [hq.2] at hx; cases hx), by rw [hq.2]; rfl, hn, Nat.zero_le _, hm, hz⟩
/-- .. and not in. -/
theorem ts_out {N : Nat} {w : World} {k k' : Lk} {v4 v5 : Value} {wl : List Int} {n4 n5 m : Nat} {who : Int} {b : Bool} (h : Tn N w k' v4 (k.qu.map (·.1) ++ [who]) v5 wl) (hg : Good k') (hq : k'.qu = k.qu ++ [(who, b)]) (hw : ∀ x ∈ k.qu ++ [(who, b)], x.2 = true ↔ x.1 ∈ wl) (hn4 : k.qu.length + 1 = n4) (hn : wl.length = n5) (hm4 : n4 ≤ m) (hm : n5 ≤ m) (hz : k'.size ≤ m) : TS N w k' v4 n4 v5 n5 m :=
  ⟨wl, by rw [hq, List.map_append]; exact h, hg, by rw [hq]; exact hw, by rw [hq, List.length_append]; simpa using hn4, hn, hm4, hm, hz⟩
theorem Tn.shift {N : Nat} {w : World} {k : Lk} {A : Option Addr} {n c : Nat} {ql wl : List Int} {v5 : Value} (h : Tn N w k (.slice A n c) ql v5 wl) (hn : ql.length = n) {m : Nat} (hm : m ≤ n) {Z : Option Addr} (hZ : (if c = m then A else A.map (fun a => a.add m)) = Z) :
    Tn N w k (.slice Z (n - m) (c - m)) (ql.drop m) v5 wl := by
  subst hn
  obtain ⟨F, G4, G5, a1, a2, a3, h1, h2, h3⟩ := h
  refine ⟨F, G4, G5, a1, a2, a3, h1, ?_, h3⟩
  have hA : A = none ∨ ∃ g o, A = some ⟨g, o, none⟩ := by
    obtain ⟨_, ⟨e, _⟩ | ⟨g, o, _, _, e, _⟩⟩ := h2
    · injection e with e; exact .inl e
    · injection e with e; exact .inr ⟨g, o, e⟩
  have hZ' : (if c = m then A else A.map (fun a => ⟨a.block, a.off + m * 1, none⟩)) = Z := by
    rw [← hZ, Nat.mul_one]
    rcases hA with rfl | ⟨g, o, rfl⟩
    · rfl
    · simp only [Option.map_some, Addr.add_lit]
  have := h2.shift m hm hZ'
  rw [Nat.mul_one] at this
  rw [List.length_drop]
  unfold ics
  rw [List.map_drop]
  exact this
theorem ts_leave {N : Nat} {w : World} {k k' : Lk} {v4 v5 : Value} {ql wl : List Int} {n5 m r who : _} (h : Tn N w k' v4 (ql.drop r) v5 wl) (hql : ql = lessI (k.qu.map (·.1)) who) (hq : k'.qu = (lessQ k.qu who).drop r) (hg : Good k') (hw : ∀ x ∈ k.qu, x.2 = true ↔ x.1 ∈ wl) {n4 : Nat} (hn4 : ql.length = n4) (hn : wl.length = n5) (hm4 : n4 - r ≤ m) (hm : n5 ≤ m) (hz : k'.size ≤ m) : TS N w k' v4 (n4 - r) v5 n5 m := by
  have hmap : k'.qu.map (·.1) = ql.drop r := by rw [hq, List.map_drop, lessQ_map, hql]
  refine ⟨wl, by rw [hmap]; exact h, hg, fun x hx => hw x ?_, ?_, hn, hm4, hm, hz⟩
  · rw [hq] at hx
    have := List.mem_of_mem_drop hx
    unfold lessQ at this
    exact (List.mem_filter.1 this).1
  · rw [← List.length_map (f := fun x : Int × Bool => x.1), hmap, List.length_drop, hn4]
end Go.Proofs.Ytggnndopncegaaa
