/-
  slices.Sort of texts; a round collects.
-/
import Derived.Test.YtmpbmfahnbbbdaaRgN
import Derived.Test.YtmpbmfahnbbbdaaIter
import Derived.Test.YtmpbmfahnbbbdaaLays
import Derived.Sort.OwnSorted
import Derived.Shelf.Sort.Plain
import Derived.Shelf.Slices.In.SortNone
set_option linter.unusedSimpArgs false
set_option linter.unusedVariables false
namespace Go.Proofs.Ytmpbmfahnbbbdaa
open Go.RowKit
set_option maxRecDepth 100000

theorem rise_uniq_le : ∀ {a b : List (List UInt8)}, a.Pairwise (fun x y => ¬ y < x) → b.Pairwise (fun x y => x < y) → a.Perm b → a = b
  | [], b, _, _, h => (List.Perm.nil_eq h)
  | x :: a, [], _, _, h => by have := h.length_eq; simp at this
  | x :: a, y :: b, ha, hb, h => by
    have ha' := List.pairwise_cons.1 ha
    have hb' := List.pairwise_cons.1 hb
    have hxy : x = y := by
      have h1 : x ∈ y :: b := h.mem_iff.1 (List.mem_cons_self)
      have h2 : y ∈ x :: a := h.mem_iff.2 (List.mem_cons_self)
      rcases List.mem_cons.1 h1 with h1 | h1
      · exact h1
      · rcases List.mem_cons.1 h2 with h2 | h2
        · exact h2.symm
        · exact absurd (hb'.1 x h1) (ha'.1 y h2)
    subst hxy
    rw [rise_uniq_le ha'.2 hb'.2 h.cons_inv]
theorem sorted_eq {L U : List ByteArray} (hp : L.Perm U) (hU : U.Pairwise fun a b => kb a < kb b) : (L.map kb).mergeSort (fun x y => decide (x ≤ y)) = U.map kb := by
  refine rise_uniq_le ?_ (List.pairwise_map.2 hU) ((List.mergeSort_perm _ _).trans (hp.map _))
  have h1 : ((L.map kb).mergeSort (fun x y => decide (x ≤ y))).Pairwise (fun x y => decide (x ≤ y) = true) := List.pairwise_mergeSort (by
    intro a b c h1 h2
    simp only [decide_eq_true_eq] at *
    exact le_tr h1 h2) (by
    intro a b
    simp only [Bool.or_eq_true, decide_eq_true_eq]
    rcases cmp_tri a b with ⟨h, _⟩ | ⟨h, _⟩ | ⟨h, _⟩
    · exact .inl (fun k => lt_asym h k)
    · subst h; exact .inl (lt_irr _)
    · exact .inr (fun k => lt_asym h k)) _
  exact h1.imp (fun h => by simpa using h)
theorem enc_kb (l : List ByteArray) : (l.map kb).map encStr = l.map Value.string := by
  rw [List.map_map]
  rfl
/-- slices.Sort of a row of texts of the call's own. -/
theorem sort_s (w : World) (F : Nat → Prop) (A : Option Addr) (n c : Nat) (l U : List ByteArray) (ho : Own w F 9 1 (.slice A n c) n (l.map Value.string)) (hz : n ≤ 1000000) (hp : l.Perm U) (hU : U.Pairwise fun a b => kb a < kb b) :
    Calls Try.prog 32 #[.slice A n c] w fun e w' => e = .returned (.tuple #[]) ∧ Own w' F 9 1 (.slice A n c) n (U.map Value.string) ∧ Kept F w w' := by
  have hl : l.length = n := by have := ho.sl.1; simpa using this
  obtain ⟨⟨_, h1⟩, h2⟩ := ho
  rcases h1 with ⟨h3, h4⟩ | ⟨g, cap, cur, h3, hb, hg, hnc, hm, hs, ht⟩
  · injection h3 with e1 e2 e3
    subst e1 e2 e3
    have hn : l = [] := List.eq_nil_of_length_eq_zero hl
    subst hn
    obtain rfl : U = [] := hp.nil_eq.symm
    refine (Any.slices_Sort_string_none Try.lays190 none 0 w).mono ?_
    rintro e w' ⟨rfl, rfl⟩
    exact ⟨rfl, by simpa using Own.nil _ _ _ _, Kept.refl _ _⟩
  · injection h3 with e1 e2 e3
    subst e1 e3
    have hlk : (l.map kb).length = n := by rw [List.length_map, hl]
    rw [Nat.mul_one, ← enc_kb, ← hlk] at ht
    have hH := holds_of_block (ss := l.map kb) hg ht
    have hgl := (Array.getElem?_eq_some_iff.1 hg).1
    have hlu : (U.map kb).length = (l.map kb).length := by rw [List.length_map, List.length_map, hp.length_eq]
    subst hlk
    refine (Any.slices_Sort_string Try.lays190 g 0 c (l.map kb) w hH hgl (by omega)).mono ?_
    rintro e w' ⟨rfl, nn, os, rfl⟩
    rw [sorted_eq hp hU]
    refine ⟨rfl, ⟨?_, h2⟩, ?_⟩
    · have := ownsRow_sorted (base := 0) (n := nn) (os := os) (ss := l.map kb) (ts := U.map kb) hlu (Nat.zero_le _) hg hnc hm hs
      rw [enc_kb] at this
      exact this
    · have := grownBy_sorted (w := w) (g := g) (n := nn) (os := os) (U.map kb).toArray
      exact (Kept.refl F w).grown this (fun k e => .inl (h2 k (by cases e; rfl)))
/-- A round collects: what turns is a row of the class F. -/
theorem wpIn_collectF {Fe : Fence} {nn : Nat} {P : Program} {w : World} {ops : Array Oper} {rest : List Oper} {o : Oper} {a : Act} {Q : Exit → Act → World → Prop} {t e : TypeId} {z : Value} {k by_ : Nat} (ht : P.underlying t = some (.slice e)) (hI : (P.info? e).map (fun i => (i.zero, i.size, i.bytes)) = some (some z, k, by_)) (hzs : z.cells.size = k) (hk : 0 < k)
    {v : Value} {n : Nat} {xs : List Value} {F G : Nat → Prop} (hF : F w.heap.size) (hown : Own w F e k v n xs) {A : Option Addr} {m c : Nat} {news : List Value} (hr : Sl w G k A m news) (h1 : ∀ u ∈ news, u.oneCell' = true)
    (hbytes : n + m ≤ 1073741824) (hb2 : by_ ≤ 65536)
    (hgd : o.guard = none) (s x : Operand) (ho : o.op = .call { callee := .builtin .append, args := #[s, x], argTypes := #[t, t] }) (hs : a.eval s = v) (hx : a.eval x = .slice A m c)
    (h : ∀ A' c' w', Own w' F e k (.slice A' (n + m) c') (n + m) (xs ++ news) → Kept F w w' → KeepsOthers w w' → wpListIn Fe nn P ops Q rest (a.put o.dst (.slice A' (n + m) c')) w') : wpListIn Fe nn P ops Q (o :: rest) a w := by
  have hown' : Own w (fun b => v.ownBlock = some b) e k v n xs := ⟨hown.1, fun g h => h⟩
  refine wpIn_app ht hI hzs hk hown' hr h1 hbytes hb2 hgd s x ho hs hx fun v' w' h2 h3 => ?_
  have h4 : Own w' F e k v' (n + m) (xs ++ news) := h2.imp fun b _ h => by
    rcases h with h | h
    · exact hown.2 b h
    · rw [h]; exact hF
  obtain ⟨A', c', rfl, _⟩ := h4.form
  exact h A' c' w' h4 (h3.mono fun i _ h => hown.2 i h) (others_of_kept h3 fun k' o' hk' hs' => own_cells hown hs' hk')
/-- The marks of loops over iterators, on the way out. -/
def markD (D : Nat) : Deferred := { target := .collected D, args := #[] }
theorem leaves_marks {F : Fence} {n : Nat} {P : Program} {fn : Func} {tmps : Array Value} {R : Ending → World → Prop} : ∀ (ds : List Nat) (w : World), ds.Nodup → (∀ D ∈ ds, w.heap[D]? = some (.deferred (some []))) →
    (∀ w', Kept (fun b => b ∈ ds) w w' → LeavesIn F n P fn tmps R [] .returning w') → LeavesInM F n P fn tmps R (ds.map markD) .returning w
  | [], w, _, _, h => h w (Kept.refl _ _)
  | D :: ds, w, hd, hk, h => by
    rw [List.nodup_cons] at hd
    refine ⟨by simp, .inl ⟨D, _, rfl, run_takeDeferred (hk D List.mem_cons_self), ?_⟩⟩
    have hp : Kept (fun b => b ∈ D :: ds) w (w.putObj D (.deferred none)) := (Kept.refl _ w).grown (grownBy_putObj' w D _) (fun k e => by cases e; exact .inl List.mem_cons_self)
    refine leaves_marks ds _ hd.2 (fun D' hD' => ?_) (fun w' hk' => h w' (hp.same (hk'.mono (fun b _ h => List.mem_cons_of_mem _ h))))
    have hne : D' ≠ D := fun e => hd.1 (e ▸ hD')
    rw [World.putObj_heap_other (by omega)]
    exact hk D' (List.mem_cons_of_mem _ hD')
end Go.Proofs.Ytmpbmfahnbbbdaa
