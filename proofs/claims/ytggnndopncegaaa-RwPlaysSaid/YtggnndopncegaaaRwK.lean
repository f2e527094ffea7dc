/-
  rw: the reference's lock, ; it answers as the program's.
-/
import Derived.Test.YtggnndopncegaaaRwU
import Derived.Test.YtggnndopncegaaaRwJ
set_option linter.unusedSimpArgs false
set_option linter.unusedVariables false
namespace Go.Proofs.Ytggnndopncegaaa

set_option maxRecDepth 100000

structure Rk where
  inn : List (Int × Bool)
  qu : List (Int × Bool)
def Rk.none : Rk := ⟨[], []⟩
def rst (r : Rk) (who : Int) : Int := match r.inn.find? (fun a => decide (a.1 = who)) with
  | some a => if a.2 = true then 3 else 2
  | Option.none => if hasQ r.qu who = true then 1 else 0
def rmv (inn : List (Int × Bool)) : List (Int × Bool) → List Int × Rk
  | [] => ([], ⟨inn, []⟩)
  | a :: q =>
    if (a.2 = true ∧ 0 < inn.length) ∨ inn.head?.map (·.2) = some true then ([], ⟨inn, a :: q⟩)
    else (a.1 :: (rmv (inn ++ [a]) q).1, (rmv (inn ++ [a]) q).2)
def Rk.move (r : Rk) : List Int × Rk := rmv r.inn r.qu
def Rk.ask (r : Rk) (who : Int) (w : Bool) : Bool × Rk :=
  if rst r who = 0 then (decide (1 < rst (Rk.move { r with qu := r.qu ++ [(who, w)] }).2 who), (Rk.move { r with qu := r.qu ++ [(who, w)] }).2) else (false, r)
def Rk.leave (r : Rk) (who : Int) : List Int × Rk := if rst r who = 0 then ([], r) else Rk.move ⟨lessQ r.inn who, lessQ r.qu who⟩
def Rk.size (r : Rk) : Nat := r.inn.length + r.qu.length
theorem rmv_size (q : List (Int × Bool)) : ∀ inn : List (Int × Bool), (rmv inn q).2.inn.length + (rmv inn q).2.qu.length = inn.length + q.length := by
  induction q with
  | nil => intro inn; rfl
  | cons a q ih =>
    intro inn
    unfold rmv
    split
    · rfl
    · have := ih (inn ++ [a]); simp only [List.length_append, List.length_cons, List.length_nil] at this ⊢; omega
theorem rmove_size (r : Rk) : r.move.2.size = r.size := rmv_size r.qu r.inn
/-- The two locks are alike. -/
def Alike (k : Lk) (r : Rk) : Prop := r.qu = k.qu ∧ r.inn = (if k.ws = true then [(k.wr, true)] else k.rd.map (fun x => (x, false)))
theorem alike_none : Alike Lk.none Rk.none := ⟨rfl, rfl⟩
theorem find_map (l : List Int) (x : Int) : (l.map (fun y => (y, false))).find? (fun a : Int × Bool => decide (a.1 = x)) = if hasI l x = true then some (x, false) else Option.none := by
  induction l with
  | nil => rfl
  | cons y l ih =>
    rw [List.map_cons, List.find?_cons]
    by_cases h : y = x
    · subst h; simp [hasI]
    · simp only [h, decide_false]
      rw [ih]
      simp [hasI, h]
theorem rst_eq {k : Lk} {r : Rk} (hg : Good k) (h : Alike k r) (x : Int) : rst r x = k.st x := by
  obtain ⟨h1, h2⟩ := h
  unfold rst Lk.st
  rw [h1, h2]
  by_cases hw : k.ws = true
  · rw [if_pos hw]
    by_cases hx : k.wr = x
    · simp [hw, hx]
    · have hrd := hg.pre.alone hw
      simp [hw, hx, hrd, hasI]
  · rw [if_neg hw, find_map]
    by_cases hh : hasI k.rd x = true
    · simp [hw, hh]
    · simp [hw, hh]
theorem rmv_eq (q : List (Int × Bool)) : ∀ (rd : List Int) (wr : Int) (ws : Bool), (ws = true → rd = []) →
    (rmv (if ws = true then [(wr, true)] else rd.map (fun x => (x, false))) q).1 = (mvq rd wr ws q).1 ∧ Alike (mvq rd wr ws q).2 (rmv (if ws = true then [(wr, true)] else rd.map (fun x => (x, false))) q).2 := by
  induction q with
  | nil => intro rd wr ws _; exact ⟨rfl, rfl, rfl⟩
  | cons a q ih =>
    intro rd wr ws hal
    unfold rmv mvq
    cases ws with
    | true => simp [Alike]
    | false =>
      simp only [Bool.false_eq_true, if_false]
      by_cases ha : a.2 = true
      · by_cases hr : 0 < rd.length
        · rw [if_pos (.inl ⟨ha, by simpa using hr⟩), if_pos ha, if_pos hr]
          exact ⟨rfl, rfl, rfl⟩
        · have hrd : rd = [] := List.eq_nil_of_length_eq_zero (by omega)
          subst hrd
          rw [if_neg (by simp), if_pos ha, if_neg hr]
          have := ih [] a.1 true (fun _ => rfl)
          simp only [if_true] at this
          have e : ([] : List Int).map (fun x => (x, false)) ++ [a] = [(a.1, true)] := by rw [← ha]; rfl
          rw [e]
          exact ⟨by rw [this.1], this.2⟩
      · have hh : (rd.map (fun x => (x, false))).head?.map (·.2) ≠ some true := by cases rd <;> simp
        rw [if_neg (by rintro (h | h); exact ha h.1; exact hh h), if_neg ha]
        have := ih (rd ++ [a.1]) wr false (fun h => by cases h)
        simp only [Bool.false_eq_true, if_false] at this
        have e : rd.map (fun x => (x, false)) ++ [a] = (rd ++ [a.1]).map (fun x => (x, false)) := by
          rw [List.map_append]
          have : a = (a.1, false) := by rw [← (by simpa using ha : a.2 = false)]
          rw [this]; rfl
        rw [e]
        exact ⟨by rw [this.1], this.2⟩
theorem mvq_in (q : List (Int × Bool)) : ∀ (rd : List Int) (wr : Int) (ws : Bool), (∀ x, x ∈ rd → Hd (mvq rd wr ws q).2 x ∨ ws = true) ∧ ((ws = true) → Hd (mvq rd wr ws q).2 wr) ∧ ∀ x ∈ (mvq rd wr ws q).1, Hd (mvq rd wr ws q).2 x := by
  induction q with
  | nil => intro rd wr ws; exact ⟨fun x h => .inl (.inr h), fun h => .inl ⟨h, rfl⟩, (fun x h => by cases h)⟩
  | cons a q ih =>
    intro rd wr ws
    unfold mvq
    cases ws with
    | true => exact ⟨fun x h => .inr rfl, fun h => .inl ⟨rfl, rfl⟩, (fun x h => by cases h)⟩
    | false =>
      simp only [Bool.false_eq_true, if_false]
      by_cases ha : a.2 = true
      · rw [if_pos ha]
        by_cases hr : 0 < rd.length
        · rw [if_pos hr]; exact ⟨fun x h => .inl (.inr h), (fun h => by cases h), (fun x h => by cases h)⟩
        · rw [if_neg hr]
          have hrd : rd = [] := List.eq_nil_of_length_eq_zero (by omega)
          subst hrd
          obtain ⟨h1, h2, h3⟩ := ih [] a.1 true
          refine ⟨(fun x h => by cases h), (fun h => by cases h), fun x h => ?_⟩
          rcases List.mem_cons.1 h with rfl | h
          · exact h2 rfl
          · exact h3 x h
      · rw [if_neg ha]
        obtain ⟨h1, h2, h3⟩ := ih (rd ++ [a.1]) wr false
        refine ⟨fun x h => (h1 x (List.mem_append_left _ h)).imp id (by simp), (fun h => by cases h), fun x h => ?_⟩
        rcases List.mem_cons.1 h with rfl | h
        · exact (h1 _ (List.mem_append_right _ (by simp))).resolve_right (by simp)
        · exact h3 x h
theorem ask_eq {k : Lk} {r : Rk} (hg : Good k) (h : Alike k r) (w : Int) (b : Bool) : (r.ask w b).1 = (k.ask w b).1 ∧ Alike (k.ask w b).2 (r.ask w b).2 ∧ Good (k.ask w b).2 := by
  unfold Rk.ask Lk.ask
  rw [rst_eq hg h]
  by_cases h0 : k.st w = 0
  · rw [if_pos h0, if_pos h0]
    have hk := (ask_law hg (b := b) h0).1
    unfold Lk.ask at hk
    rw [if_pos h0] at hk
    have he := rmv_eq (k.qu ++ [(w, b)]) k.rd k.wr k.ws hg.pre.alone
    have hmv : Rk.move { r with qu := r.qu ++ [(w, b)] } = rmv (if k.ws = true then [(k.wr, true)] else k.rd.map (fun x => (x, false))) (k.qu ++ [(w, b)]) := by
      unfold Rk.move; rw [h.1, ← h.2]
    rw [hmv]
    refine ⟨?_, he.2, hk⟩
    rw [rst_eq hk he.2]
    obtain ⟨hn, hq⟩ := st_zero.1 h0
    have hp : Pre k.rd k.wr k.ws (k.qu ++ [(w, b)]) := ⟨hg.pre.alone, hg.pre.nrd, by
      rw [List.map_append, List.nodup_append]
      exact ⟨hg.pre.nq, by simp, fun x hx y hy e => by
        simp only [List.map_cons, List.map_nil, List.mem_singleton] at hy
        exact hq (by rw [← hy, ← e]; exact hx)⟩, fun x hx => by
      rw [List.map_append] at hx
      rcases List.mem_append.1 hx with hx | hx
      · exact hg.pre.dis x hx
      · simp only [List.map_cons, List.map_nil, List.mem_singleton] at hx
        subst hx
        exact ⟨fun h => hn (.inr h), fun h => hn (.inl h)⟩⟩
    obtain ⟨_, _, h3, h4, h5, _, _⟩ := mvq_law _ _ _ _ hp
    have hin := (mvq_in (k.qu ++ [(w, b)]) k.rd k.wr k.ws).2.2
    have hnz : ¬ (mvq k.rd k.wr k.ws (k.qu ++ [(w, b)])).2.st w = 0 := fun hz => by
      obtain ⟨z1, z2⟩ := st_zero.1 hz
      have hmem : w ∈ (k.qu ++ [(w, b)]).map (·.1) := by simp
      rw [← List.take_append_drop (mvq k.rd k.wr k.ws (k.qu ++ [(w, b)])).1.length ((k.qu ++ [(w, b)]).map (·.1)), ← h4] at hmem
      rcases List.mem_append.1 hmem with hm | hm
      · exact z1 (hin w hm)
      · rw [← List.map_drop, ← h5] at hm; exact z2 hm
    rcases st_cases (mvq k.rd k.wr k.ws (k.qu ++ [(w, b)])).2 w with e | e | e | e
    · simp [Lk.move, e]
    · simp [Lk.move, e]
    · simp [Lk.move, e]
    · exact absurd e hnz
  · rw [if_neg h0, if_neg h0]; exact ⟨rfl, h, hg⟩
theorem lessQ_false (l : List Int) (x : Int) : lessQ (l.map (fun y => (y, false))) x = (lessI l x).map (fun y => (y, false)) := by
  unfold lessQ lessI
  rw [List.filter_map]; rfl
theorem leave_eq {k : Lk} {r : Rk} (hg : Good k) (h : Alike k r) (w : Int) : (r.leave w).1 = (k.leave w).1 ∧ Alike (k.leave w).2 (r.leave w).2 ∧ Good (k.leave w).2 := by
  have hG := (leave_law hg w).1
  unfold Rk.leave
  rw [rst_eq hg h]
  have hp := hg.pre
  rcases st_cases k w with hs | hs | hs | hs
  · have hws : k.ws = true ∧ k.wr = w := by
      unfold Lk.st at hs
      apply Classical.byContradiction
      intro hc
      rw [if_neg hc] at hs
      split at hs
      · omega
      · split at hs <;> omega
    have hrd := hp.alone hws.1
    have hnq : w ∉ k.qu.map (·.1) := fun h => (hp.dis w h).2 hws
    have e1 : k.leave w = mvq k.rd k.wr false k.qu := by unfold Lk.leave Lk.move; rw [if_pos hs]
    rw [if_neg (by omega)]
    have e2 : Rk.move ⟨lessQ r.inn w, lessQ r.qu w⟩ = rmv (if false = true then [(k.wr, true)] else k.rd.map (fun x => (x, false))) k.qu := by
      unfold Rk.move
      rw [h.1, h.2, if_pos hws.1, hrd, lessQ_none hnq]
      simp [lessQ, hws.2]
    rw [e2, e1]
    have he := rmv_eq k.qu k.rd k.wr false (fun h => by cases h)
    exact ⟨he.1, he.2, by rw [← e1]; exact hG⟩
  · have hd := st_hd.1 (.inl hs)
    have hws : ¬ (k.ws = true ∧ k.wr = w) := by
      intro hc
      unfold Lk.st at hs
      rw [if_pos hc] at hs; omega
    have hm : w ∈ k.rd := hd.resolve_left hws
    have hnq : w ∉ k.qu.map (·.1) := fun h => (hp.dis w h).1 hm
    have hwf : k.ws = false := by
      cases h : k.ws with
      | false => rfl
      | true => have := hp.alone h; rw [this] at hm; cases hm
    have e1 : k.leave w = mvq (lessI k.rd w) k.wr k.ws k.qu := by unfold Lk.leave Lk.move; rw [if_neg (by omega), if_pos hs]
    rw [if_neg (by omega)]
    have e2 : Rk.move ⟨lessQ r.inn w, lessQ r.qu w⟩ = rmv (if k.ws = true then [(k.wr, true)] else (lessI k.rd w).map (fun x => (x, false))) k.qu := by
      unfold Rk.move
      rw [h.1, h.2, hwf, lessQ_none hnq]
      simp [lessQ_false]
    rw [e2, e1]
    have he := rmv_eq k.qu (lessI k.rd w) k.wr k.ws (fun h => by rw [hwf] at h; cases h)
    exact ⟨he.1, he.2, by rw [← e1]; exact hG⟩
  · have hnh : ¬ Hd k w := fun h => by have := st_hd.2 h; omega
    have e1 : k.leave w = mvq k.rd k.wr k.ws (lessQ k.qu w) := by unfold Lk.leave Lk.move; rw [if_neg (by omega), if_neg (by omega), if_pos hs]
    rw [if_neg (by omega)]
    have e2 : Rk.move ⟨lessQ r.inn w, lessQ r.qu w⟩ = rmv (if k.ws = true then [(k.wr, true)] else k.rd.map (fun x => (x, false))) (lessQ k.qu w) := by
      unfold Rk.move
      rw [h.1, h.2]
      congr 1
      by_cases hw : k.ws = true
      · rw [if_pos hw]
        have : k.wr ≠ w := fun e => hnh (.inl ⟨hw, e⟩)
        simp [lessQ, this]
      · rw [if_neg hw, lessQ_false, lessI_none (fun h => hnh (.inr h))]
    rw [e2, e1]
    have he := rmv_eq (lessQ k.qu w) k.rd k.wr k.ws hp.alone
    exact ⟨he.1, he.2, by rw [← e1]; exact hG⟩
  · rw [if_pos hs]
    have he : k.leave w = ([], k) := by unfold Lk.leave; rw [if_neg (by omega), if_neg (by omega), if_neg (by omega)]
    rw [he]; exact ⟨rfl, h, hg⟩
theorem alike_size {k : Lk} {r : Rk} (h : Alike k r) (hg : Good k) : r.size = k.sz := by
  unfold Rk.size Lk.sz
  rw [h.1, h.2]
  by_cases hw : k.ws = true <;> simp [hw]
theorem rst_found {r : Rk} {who : Int} {k : Nat} {y : Int × Bool} (hy : r.inn[k]? = some y) (he : y.1 = who) (hb : ∀ (j : Nat) (z : Int × Bool), j < k → r.inn[j]? = some z → ¬ z.1 = who) : rst r who = if y.2 = true then 3 else 2 := by
  have : r.inn.find? (fun a => decide (a.1 = who)) = some y := by
    rw [List.find?_eq_some_iff_getElem]
    obtain ⟨h1, h2⟩ := List.getElem?_eq_some_iff.1 hy
    exact ⟨by simp [he], k, h1, h2, fun j hj => by
      have := hb j _ hj (List.getElem?_eq_getElem (by omega))
      simpa using this⟩
  unfold rst
  rw [this]
theorem rst_none {r : Rk} {who : Int} (hb : ∀ (j : Nat) (z : Int × Bool), r.inn[j]? = some z → ¬ z.1 = who) : rst r who = if hasQ r.qu who = true then 1 else 0 := by
  have : r.inn.find? (fun a => decide (a.1 = who)) = Option.none := by
    rw [List.find?_eq_none]
    intro x hx
    obtain ⟨j, hj⟩ := List.mem_iff_getElem?.1 hx
    simpa using hb j x hj
  unfold rst
  rw [this]
theorem hasQ_none {l : List (Int × Bool)} {who : Int} (hb : ∀ (j : Nat) (z : Int × Bool), l[j]? = some z → ¬ z.1 = who) : hasQ l who = false := by
  rw [Bool.eq_false_iff]
  intro h
  rw [hasQ_iff, List.mem_map] at h
  obtain ⟨a, ha, e⟩ := h
  obtain ⟨j, hj⟩ := List.mem_iff_getElem?.1 ha
  exact hb j a hj e
theorem hasQ_found {l : List (Int × Bool)} {who : Int} {k : Nat} {y : Int × Bool} (hy : l[k]? = some y) (he : y.1 = who) : hasQ l who = true := by
  rw [hasQ_iff, List.mem_map]
  exact ⟨y, List.mem_of_getElem? hy, he⟩
/-- Two rising rows of the same numbers are one. -/
theorem rise_eq : ∀ {l l' : List Int}, l.Perm l' → l.Pairwise (· ≤ ·) → l'.Pairwise (· ≤ ·) → l = l' := by
  intro l
  induction l with
  | nil => intro l' hp _ _; exact (List.nil_perm.1 hp).symm
  | cons a l ih =>
    intro l' hp h1 h2
    cases l' with
    | nil => exact absurd hp.length_eq (by simp)
    | cons b l' =>
      rw [List.pairwise_cons] at h1 h2
      have hab : a = b := by
        have ha : a ∈ b :: l' := hp.subset (List.mem_cons_self ..)
        have hb : b ∈ a :: l := hp.symm.subset (List.mem_cons_self ..)
        rcases List.mem_cons.1 ha with e | e
        · exact e
        · rcases List.mem_cons.1 hb with e' | e'
          · exact e'.symm
          · have := h1.1 b e'; have := h2.1 a e; omega
      subst hab
      rw [ih (List.Perm.cons_inv hp) h1.2 h2.2]
theorem holders_eq {k : Lk} {r : Rk} (hg : Good k) (h : Alike k r) {L : List Int} (hp : L.Perm (r.inn.map (·.1))) (hr : L.Pairwise (· ≤ ·)) : L = k.holders := by
  refine rise_eq ?_ hr ((holders_rise hg).imp (fun h => by omega))
  refine hp.trans ?_
  unfold Lk.holders
  rw [h.2]
  by_cases hw : k.ws = true
  · simp [hw]
  · simp only [hw]
    have : ((k.rd.map (fun x => (x, false))).map (·.1)) = k.rd := by rw [List.map_map]; exact List.map_id _
    simp only [Bool.false_eq_true, if_false]
    rw [this]
    exact (List.mergeSort_perm _ _).symm
end Go.Proofs.Ytggnndopncegaaa
