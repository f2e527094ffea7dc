/-
  A row of the call's own that a slice looks into from an offset on: appended to, shifted.
-/
import Derived.Test.YtmpbmfahnbbbdaaLib
import Derived.Test.YtmpbmfahnbbbdaaBlk
import Derived.Test.YtmpbmfahnbbbdaaIter
import Derived.ArgAppend
set_option linter.unusedSimpArgs false
set_option linter.unusedVariables false
namespace Go.Proofs.Ytmpbmfahnbbbdaa
open Go.RowKit
set_option maxRecDepth 100000

/-- The slice v looks into a block of F, from some offset on; it may be appended to. -/
def OwnO (w : World) (F : Nat → Prop) (e : TypeId) (k : Nat) (v : Value) (n : Nat) (xs : List Value) : Prop :=
  xs.length = n * k ∧ ((v = .slice none 0 0 ∧ n = 0) ∨ ∃ g o cap cur, v = .slice (some ⟨g, o, none⟩) n cap ∧ F g ∧ Blk w g e cur ∧ n ≤ cap ∧ cap ≤ maxLen ∧ o + cap * k ≤ cur.size ∧ (cur.toList.drop o).take (n * k) = xs)
section
variable {w w' : World} {F G S : Nat → Prop} {e : TypeId} {k n : Nat} {v : Value} {xs : List Value}
theorem Own.toO (h : Own w F e k v n xs) : OwnO w F e k v n xs := by
  obtain ⟨⟨h1, h2⟩, h3⟩ := h
  refine ⟨h1, ?_⟩
  rcases h2 with h | ⟨g, cap, cur, rfl, _, hg, hc, hm, hs, ht⟩
  · exact .inl h
  · exact .inr ⟨g, 0, cap, cur, rfl, h3 g rfl, hg, hc, hm, by omega, by simpa using ht⟩
theorem OwnO.imp (h : OwnO w F e k v n xs) (hF : ∀ b, b < w.heap.size → F b → G b) : OwnO w G e k v n xs := by
  obtain ⟨h1, h | ⟨g, o, cap, cur, h2, h3, h4, h5⟩⟩ := h
  · exact ⟨h1, .inl h⟩
  · exact ⟨h1, .inr ⟨g, o, cap, cur, h2, hF g h4.lt h3, h4, h5⟩⟩
theorem OwnO.kept (h : OwnO w F e k v n xs) (hk : Kept S w w') (hd : ∀ b, b < w.heap.size → F b → ¬ S b) : OwnO w' F e k v n xs := by
  obtain ⟨h1, h | ⟨g, o, cap, cur, h2, h3, h4, h5⟩⟩ := h
  · exact ⟨h1, .inl h⟩
  · exact ⟨h1, .inr ⟨g, o, cap, cur, h2, h3, h4.kept hk (hd g h4.lt h3), h5⟩⟩
theorem OwnO.form (h : OwnO w F e k v n xs) : ∃ A c, v = .slice A n c ∧ n ≤ c ∧ c ≤ maxLen ∧ Sl w F k A n xs := by
  obtain ⟨h1, ⟨rfl, rfl⟩ | ⟨g, o, cap, cur, rfl, hF, hb, hc, hm, hs, ht⟩⟩ := h
  · exact ⟨none, 0, rfl, Nat.le_refl _, Nat.zero_le _, h1, fun h => absurd h (by omega)⟩
  · refine ⟨_, cap, rfl, hc, hm, h1, fun hn => ⟨g, o, rfl, hF, hb.lt, fun j hj => ?_⟩⟩
    rw [hb.cell, ← Array.getElem?_toList, ← ht, List.getElem?_take, if_pos (by omega), List.getElem?_drop]
theorem OwnO.sl {A : Option Addr} {c : Nat} (h : OwnO w F e k (.slice A n c) n xs) : Sl w F k A n xs := by
  obtain ⟨A', c', hv, _, _, hs⟩ := h.form
  injection hv with h1 _ _
  subst h1
  exact hs
/-- 'v[m:]'. -/
theorem OwnO.shift {A : Option Addr} {c : Nat} (h : OwnO w F e k (.slice A n c) n xs) (m : Nat) (hm : m ≤ n) {Z : Option Addr} (hZ : (if c = m then A else A.map (fun a => ⟨a.block, a.off + m * k, none⟩)) = Z) :
    OwnO w F e k (.slice Z (n - m) (c - m)) (n - m) (xs.drop (m * k)) := by
  obtain ⟨h1, ⟨h2, rfl⟩ | ⟨g, o, cap, cur, h2, hF, hb, hc, hmx, hs, ht⟩⟩ := h
  · injection h2 with e1 e2 e3
    subst e1 e3
    obtain rfl : m = 0 := by omega
    simp at hZ
    subst hZ
    exact ⟨by simpa using h1, .inl ⟨rfl, rfl⟩⟩
  · injection h2 with e1 e2 e3
    subst e1 e3
    have hmk : m * k ≤ n * k := Nat.mul_le_mul_right _ hm
    have hck : m * k ≤ c * k := Nat.mul_le_mul_right _ (by omega)
    refine ⟨by rw [List.length_drop, h1, Nat.sub_mul], ?_⟩
    by_cases hcm : c = m
    · rw [if_pos hcm] at hZ
      subst hZ
      refine .inr ⟨g, o, c - m, cur, rfl, hF, hb, by omega, by omega, by rw [hcm]; simp; have := hb; omega, ?_⟩
      have h0 : n - m = 0 := by omega
      rw [h0, Nat.zero_mul, List.take_zero]
      symm
      apply List.eq_nil_of_length_eq_zero
      rw [List.length_drop, h1]
      have : n * k ≤ m * k := Nat.mul_le_mul_right _ (by omega)
      omega
    · rw [if_neg hcm] at hZ
      subst hZ
      refine .inr ⟨g, o + m * k, c - m, cur, rfl, hF, hb, by omega, by omega, by rw [Nat.sub_mul]; omega, ?_⟩
      rw [← ht, List.drop_take, List.drop_drop, Nat.sub_mul]
/-- 'append(v, x...)', run. -/
theorem run_appO {P : Program} {t ty : TypeId} {z : Value} {by_ : Nat} (ht : P.underlying t = some (.slice e)) (hI : (P.info? e).map (fun i => (i.zero, i.size, i.bytes)) = some (some z, k, by_)) (hzs : z.cells.size = k) (hk : 0 < k)
    (hown : OwnO w F e k v n xs) {A : Option Addr} {m c : Nat} {news : List Value} (hr : Sl w G k A m news) (h1 : ∀ u ∈ news, u.oneCell' = true) (h0 : 0 < m)
    (hbytes : n + m ≤ 1073741824) (hb2 : by_ ≤ 65536) :
    ∃ v' w', (Builtin.append_ #[t, t] ty #[v, .slice A m c]).run P w = .ok v' w' ∧ OwnO w' (fun g => F g ∨ w.heap.size ≤ g) e k v' (n + m) (xs ++ news) ∧ Kept F w w' := by
  obtain ⟨hl, ⟨rfl, rfl⟩ | ⟨g, o, cap, cur, rfl, hF, hb, hc, hmx, hs, htk⟩⟩ := hown
  · have hx : xs = [] := List.eq_nil_of_length_eq_zero (by simpa using hl)
    subst hx
    obtain ⟨v', w', h1, h2, h3⟩ := run_app (P := P) (ty := ty) ht hI hzs hk (Own.nil w F e k) hr h1 hbytes hb2
    exact ⟨v', w', h1, h2.toO.imp (fun b _ h => h.imp id (fun h => by omega)), h3⟩
  · obtain ⟨i, hi, hz, hsize, hby⟩ := info_parts hI
    obtain ⟨b, off, rfl, _, _, hcell⟩ := hr.2 h0
    have hcells : ∀ j u, news[j]? = some u → w.cell? ((⟨b, off, none⟩ : Addr).add j) = some u := by
      intro j u hu
      rw [Addr.add_lit, hcell j (List.getElem?_eq_some_iff.1 hu).1]
      exact hu
    by_cases hroom : n + m ≤ cap
    · have hnk : (n + m) * k ≤ cap * k := Nat.mul_le_mul_right _ hroom
      rw [Nat.add_mul] at hnk
      have hnl := hr.1
      have hfit : o + n * k + news.length ≤ cur.size := by omega
      have hf := run_firstCells_some (P := P) w i.size m ⟨b, off, none⟩ m c news (by rw [hsize]; exact hnl) hcells
      rw [hsize] at hf
      have hst := run_storeCells_at P g (o + n * k) e news 0 cur w hb (by simpa using hfit) h1
      simp only [Nat.add_zero] at hst
      refine ⟨.slice (some ⟨g, o, none⟩) (n + m) cap, w.setRow g (cur.toList.take (o + n * k) ++ news ++ cur.toList.drop (o + n * k + news.length)).toArray, ?_, ?_, (setRow_kept w g _).mono (fun i _ h => by have h' : i = g := h; rw [h']; exact hF)⟩
      · simp [Builtin.append_, run_underlying ht, sizeOf, typeInfo, hi, Builtin.lenOf, hroom, hf, Addr.add_lit, hsize, hst]
      · have hpre : (cur.toList.take (o + n * k)).length = o + n * k := by rw [List.length_take, Array.length_toList]; omega
        refine ⟨by rw [List.length_append, hl, hnl, Nat.add_mul], .inr ⟨g, o, cap, _, rfl, .inl hF, setRow_heap w g cur _ e (0, 0) hb, hroom, hmx, ?_, ?_⟩⟩
        · simp only [List.size_toArray, List.length_append, hpre, List.length_drop, Array.length_toList]
          omega
        · have h3 : cur.toList.take (o + n * k) = cur.toList.take o ++ xs := by
            rw [← htk, List.take_add]
          have ho : (cur.toList.take o).length = o := by rw [List.length_take, Array.length_toList]; omega
          rw [h3]
          show ((cur.toList.take o ++ xs ++ news ++ cur.toList.drop (o + n * k + news.length)).drop o).take ((n + m) * k) = _
          rw [List.append_assoc, List.append_assoc, List.drop_append_of_le_length (by omega), List.drop_of_length_le (by omega), List.nil_append, ← List.append_assoc, List.take_append_of_le_length (by rw [List.length_append, hl, hnl, Nat.add_mul]; exact Nat.le_refl _), List.take_of_length_le (by rw [List.length_append, hl, hnl, Nat.add_mul]; exact Nat.le_refl _)]
    · have holds : ∀ j u, xs[j]? = some u → w.cell? ((⟨g, o, none⟩ : Addr).add j) = some u := by
        intro j u hu
        have hjl := (List.getElem?_eq_some_iff.1 hu).1
        rw [Addr.add_lit, hb.cell, ← Array.getElem?_toList, ← hu, ← htk, List.getElem?_take, if_pos (by omega), List.getElem?_drop]
      have hbb : (n + m) * by_ ≤ 140737488355328 := by
        have := Nat.mul_le_mul hbytes hb2
        omega
      obtain ⟨v', w', hrun, ho, hg⟩ := run_append_arg_grows (P := P) w t ty e i z k by_ ht hi hz hsize hby hzs hk ⟨g, o, none⟩ n cap xs hl holds ⟨b, off, none⟩ m c news hr.1 hcells (by omega) (by unfold maxLen; omega) hbb
      refine ⟨v', w', hrun, ?_, (Kept.refl F w).grown hg (fun k e => by cases e)⟩
      obtain ⟨h1, h2⟩ := ho
      refine ⟨h1, ?_⟩
      rcases h2 with h | ⟨g', cap', cur', rfl, hB, hg', hc', hm', hs', ht'⟩
      · exact .inl h
      · exact .inr ⟨g', 0, cap', cur', rfl, .inr hB, hg', hc', hm', by omega, by simpa using ht'⟩
section
variable {P : Program} {ops : Array Oper} {rest : List Oper} {o : Oper} {a : Act} {Q : Exit → Act → World → Prop}
theorem wp_appO {t : TypeId} {z : Value} {by_ : Nat} (ht : P.underlying t = some (.slice e)) (hI : (P.info? e).map (fun i => (i.zero, i.size, i.bytes)) = some (some z, k, by_)) (hzs : z.cells.size = k) (hk : 0 < k)
    (hown : OwnO w F e k v n xs) {A : Option Addr} {m c : Nat} {news : List Value} (hr : Sl w G k A m news) (h1 : ∀ u ∈ news, u.oneCell' = true) (h0 : 0 < m)
    (hbytes : n + m ≤ 1073741824) (hb2 : by_ ≤ 65536)
    (hgd : o.guard = none) (s x : Operand) (ho : o.op = .call { callee := .builtin .append, args := #[s, x], argTypes := #[t, t] }) (hs : a.eval s = v) (hx : a.eval x = .slice A m c)
    (h : ∀ v' w', OwnO w' (fun g => F g ∨ w.heap.size ≤ g) e k v' (n + m) (xs ++ news) → Kept F w w' → wpList P ops Q rest (a.put o.dst v') w') : wpList P ops Q (o :: rest) a w := by
  obtain ⟨v', w', hrun, h2, h3⟩ := run_appO (P := P) (ty := o.type) ht hI hzs hk hown hr h1 h0 hbytes hb2
  refine wpList_plain hgd fun K hK => ?_
  unfold Oper.wp execOp
  simp only [ho, resolve, invoke, builtin, Sem.run_bind, Sem.run_pure, Result.andThen_ok, List.map_toArray, List.map_cons, List.map_nil, hs, hx]
  rw [hrun]
  exact hK _ _ (h v' w' h2 h3)
end
end
end Go.Proofs.Ytmpbmfahnbbbdaa
