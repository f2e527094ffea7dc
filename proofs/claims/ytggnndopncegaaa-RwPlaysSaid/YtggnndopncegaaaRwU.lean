/-
  rw: what holds of every lock that the calls leave, .
-/
import Derived.Test.YtggnndopncegaaaRwP
set_option linter.unusedSimpArgs false
set_option linter.unusedVariables false
namespace Go.Proofs.Ytggnndopncegaaa

set_option maxRecDepth 100000

structure Pre (rd : List Int) (wr : Int) (ws : Bool) (q : List (Int × Bool)) : Prop where
  alone : ws = true → rd = []
  nrd : rd.Nodup
  nq : (q.map (·.1)).Nodup
  dis : ∀ x ∈ q.map (·.1), x ∉ rd ∧ ¬ (ws = true ∧ wr = x)
def Settled (k : Lk) : Prop := ∀ a q, k.qu = a :: q → k.ws = true ∨ (a.2 = true ∧ k.rd ≠ [])
structure Good (k : Lk) : Prop where
  pre : Pre k.rd k.wr k.ws k.qu
  front : Settled k
def Lk.sz (k : Lk) : Nat := (if k.ws = true then 1 else k.rd.length) + k.qu.length
def Hd (k : Lk) (x : Int) : Prop := (k.ws = true ∧ k.wr = x) ∨ x ∈ k.rd
theorem hasI_iff (l : List Int) (x : Int) : hasI l x = true ↔ x ∈ l := by
  unfold hasI; rw [List.any_eq_true]
  exact ⟨fun ⟨a, h, e⟩ => by rw [← of_decide_eq_true e]; exact h, fun h => ⟨x, h, by simp⟩⟩
theorem hasQ_iff (l : List (Int × Bool)) (x : Int) : hasQ l x = true ↔ x ∈ l.map (·.1) := by
  unfold hasQ; rw [List.any_eq_true, List.mem_map]
  exact ⟨fun ⟨a, h, e⟩ => ⟨a, h, of_decide_eq_true e⟩, fun ⟨a, h, e⟩ => ⟨a, h, by simp [e]⟩⟩
theorem st_hd {k : Lk} {x : Int} : (k.st x = 2 ∨ k.st x = 3) ↔ Hd k x := by
  unfold Lk.st Hd
  rw [← hasI_iff]
  by_cases h1 : k.ws = true ∧ k.wr = x
  · simp [h1]
  · by_cases h2 : hasI k.rd x = true
    · simp [h1, h2]
    · by_cases h3 : hasQ k.qu x = true <;> simp [h1, h2, h3]
theorem st_zero {k : Lk} {x : Int} : k.st x = 0 ↔ ¬ Hd k x ∧ x ∉ k.qu.map (·.1) := by
  unfold Lk.st Hd
  rw [← hasI_iff, ← hasQ_iff]
  by_cases h1 : k.ws = true ∧ k.wr = x
  · simp [h1]
  · by_cases h2 : hasI k.rd x = true
    · simp [h1, h2]
    · by_cases h3 : hasQ k.qu x = true <;> simp [h1, h2, h3]
theorem st_one {k : Lk} {x : Int} (h : x ∈ k.qu.map (·.1)) (hn : ¬ Hd k x) : k.st x = 1 := by
  rcases st_cases k x with e | e | e | e
  · exact absurd (st_hd.1 (.inr e)) hn
  · exact absurd (st_hd.1 (.inl e)) hn
  · exact e
  · exact absurd h (st_zero.1 e).2
theorem mvq_law (q : List (Int × Bool)) : ∀ (rd : List Int) (wr : Int) (ws : Bool), Pre rd wr ws q →
    Good (mvq rd wr ws q).2 ∧ (mvq rd wr ws q).2.sz = Lk.sz ⟨rd, wr, ws, q⟩ ∧ (mvq rd wr ws q).1.length ≤ q.length ∧ (mvq rd wr ws q).1 = (q.map (·.1)).take (mvq rd wr ws q).1.length ∧
    (mvq rd wr ws q).2.qu = q.drop (mvq rd wr ws q).1.length ∧ (∀ x, Hd (mvq rd wr ws q).2 x → Hd ⟨rd, wr, ws, q⟩ x ∨ x ∈ (mvq rd wr ws q).1) ∧ (∀ x, Hd ⟨rd, wr, ws, q⟩ x → Hd (mvq rd wr ws q).2 x) := by
  induction q with
  | nil =>
    intro rd wr ws h
    exact ⟨⟨h, (fun a q e => by cases e)⟩, rfl, Nat.le_refl _, rfl, rfl, fun x hx => .inl hx, fun x hx => hx⟩
  | cons a q ih =>
    intro rd wr ws h
    have stay : (ws = true ∨ (a.2 = true ∧ rd ≠ [])) → mvq rd wr ws (a :: q) = ([], ⟨rd, wr, ws, a :: q⟩) → _ := fun hs e => by
      exact (show Good (mvq rd wr ws (a :: q)).2 ∧ (mvq rd wr ws (a :: q)).2.sz = Lk.sz ⟨rd, wr, ws, a :: q⟩ ∧ (mvq rd wr ws (a :: q)).1.length ≤ (a :: q).length ∧ (mvq rd wr ws (a :: q)).1 = ((a :: q).map (·.1)).take (mvq rd wr ws (a :: q)).1.length ∧
        (mvq rd wr ws (a :: q)).2.qu = (a :: q).drop (mvq rd wr ws (a :: q)).1.length ∧ (∀ x, Hd (mvq rd wr ws (a :: q)).2 x → Hd ⟨rd, wr, ws, a :: q⟩ x ∨ x ∈ (mvq rd wr ws (a :: q)).1) ∧ (∀ x, Hd ⟨rd, wr, ws, a :: q⟩ x → Hd (mvq rd wr ws (a :: q)).2 x) from by
          rw [e]
          exact ⟨⟨h, fun b q' e' => by injection e' with e1 e2; subst e1; exact hs⟩, rfl, Nat.zero_le _, rfl, rfl, fun x hx => .inl hx, fun x hx => hx⟩)
    have hnq := h.nq
    rw [List.map_cons, List.nodup_cons] at hnq
    cases ws with
    | true => exact stay (.inl rfl) (by simp [mvq])
    | false =>
      by_cases ha : a.2 = true
      · by_cases hr : 0 < rd.length
        · exact stay (.inr ⟨ha, by intro e; subst e; simp at hr⟩) (by simp [mvq, ha, hr])
        · have hrd : rd = [] := List.eq_nil_of_length_eq_zero (by omega)
          subst hrd
          have e : mvq [] wr false (a :: q) = (a.1 :: (mvq [] a.1 true q).1, (mvq [] a.1 true q).2) := by simp [mvq, ha]
          rw [e]
          obtain ⟨h1, h2, h3, h4, h5, h6, h7⟩ := ih [] a.1 true ⟨fun _ => rfl, List.nodup_nil, hnq.2, fun x hx => ⟨by simp, fun ⟨_, e⟩ => hnq.1 (by rw [e]; exact hx)⟩⟩
          refine ⟨h1, ?_, ?_, ?_, ?_, ?_, ?_⟩
          · refine h2.trans ?_
            simp only [Lk.sz, List.length_cons, List.length_nil]; simp; omega
          · simp only [List.length_cons]; omega
          · simp only [List.length_cons, List.map_cons, List.take_succ_cons]; rw [← h4]
          · simp only [List.length_cons, List.drop_succ_cons]; exact h5
          · intro x hx
            rcases h6 x hx with (⟨_, e⟩ | h) | h
            · exact .inr (by simp only at e; rw [← e]; exact List.mem_cons_self ..)
            · cases h
            · exact .inr (List.mem_cons_of_mem _ h)
          · intro x hx
            rcases hx with ⟨h, _⟩ | h
            · cases h
            · cases h
      · have e : mvq rd wr false (a :: q) = (a.1 :: (mvq (rd ++ [a.1]) wr false q).1, (mvq (rd ++ [a.1]) wr false q).2) := by simp [mvq, ha]
        rw [e]
        have hd := h.dis
        obtain ⟨h1, h2, h3, h4, h5, h6, h7⟩ := ih (rd ++ [a.1]) wr false ⟨(fun h => by cases h), by
            rw [List.nodup_append]
            exact ⟨h.nrd, by simp, fun x hx y hy e => by
              simp only [List.mem_singleton] at hy
              exact (hd a.1 (by simp)).1 (by rw [← hy, ← e]; exact hx)⟩, hnq.2, fun x hx => ⟨fun hm => by
              rcases List.mem_append.1 hm with hm | hm
              · exact (hd x (by rw [List.map_cons]; exact List.mem_cons_of_mem _ hx)).1 hm
              · simp only [List.mem_singleton] at hm; exact hnq.1 (by rw [← hm]; exact hx), (fun ⟨e, _⟩ => by cases e)⟩⟩
        refine ⟨h1, ?_, ?_, ?_, ?_, ?_, ?_⟩
        · refine h2.trans ?_
          simp only [Lk.sz, List.length_cons, List.length_append, List.length_nil]; simp; omega
        · simp only [List.length_cons]; omega
        · simp only [List.length_cons, List.map_cons, List.take_succ_cons]; rw [← h4]
        · simp only [List.length_cons, List.drop_succ_cons]; exact h5
        · intro x hx
          rcases h6 x hx with (⟨e, _⟩ | h) | h
          · cases e
          · rcases List.mem_append.1 h with h | h
            · exact .inl (.inr h)
            · simp only [List.mem_singleton] at h; exact .inr (by rw [h]; exact List.mem_cons_self ..)
          · exact .inr (List.mem_cons_of_mem _ h)
        · intro x hx
          rcases hx with ⟨h, _⟩ | h
          · cases h
          · exact h7 x (.inr (List.mem_append_left _ h))
theorem good_none : Good Lk.none := ⟨⟨(fun h => by cases h), List.nodup_nil, List.nodup_nil, (fun x h => by cases h)⟩, (fun a q e => by cases e)⟩
theorem sz_none : Lk.none.sz = 0 := rfl
/-- A settled lock moves no further, whoever comes behind. -/
theorem mvq_stay {rd : List Int} {wr : Int} {ws : Bool} {q : List (Int × Bool)} (hs : Settled ⟨rd, wr, ws, q⟩) (hq : q ≠ []) (q' : List (Int × Bool)) : mvq rd wr ws (q ++ q') = ([], ⟨rd, wr, ws, q ++ q'⟩) := by
  cases q with
  | nil => exact absurd rfl hq
  | cons a q =>
    rcases hs a q rfl with h | ⟨h1, h2⟩
    · simp only at h; subst h; simp [mvq]
    · have hr : 0 < rd.length := List.length_pos_iff.2 h2
      cases ws <;> simp [mvq, h1, hr]
theorem ask_law {k : Lk} (hg : Good k) {w : Int} {b : Bool} (h0 : k.st w = 0) :
    Good (k.ask w b).2 ∧ (k.ask w b).2.sz = k.sz + 1 ∧ ((k.ask w b).1 = true → k.qu = [] ∧ (k.ask w b).2.qu = []) ∧ ((k.ask w b).1 = false → (k.ask w b).2.qu = k.qu ++ [(w, b)]) := by
  obtain ⟨hn, hq⟩ := st_zero.1 h0
  have hp : Pre k.rd k.wr k.ws (k.qu ++ [(w, b)]) := ⟨hg.pre.alone, hg.pre.nrd, by
      rw [List.map_append, List.nodup_append]
      exact ⟨hg.pre.nq, by simp, fun x hx y hy e => by
        simp only [List.map_cons, List.map_nil, List.mem_singleton] at hy
        exact hq (by rw [← hy, ← e]; exact hx)⟩, fun x hx => by
      rw [List.map_append] at hx
      rcases List.mem_append.1 hx with hx | hx
      · exact hg.pre.dis x hx
      · simp only [List.map_cons, List.map_nil, List.mem_singleton] at hx
        subst hx
        exact ⟨fun h => hn (.inr h), fun h => hn (.inl h)⟩⟩
  obtain ⟨h1, h2, h3, h4, h5, h6, h7⟩ := mvq_law _ _ _ _ hp
  have he : k.ask w b = (decide (((mvq k.rd k.wr k.ws (k.qu ++ [(w, b)])).2).st w ≠ 1), (mvq k.rd k.wr k.ws (k.qu ++ [(w, b)])).2) := by unfold Lk.ask Lk.move; rw [if_pos h0]
  rw [he]
  refine ⟨h1, by rw [h2]; simp only [Lk.sz, List.length_append, List.length_cons, List.length_nil]; omega, ?_⟩
  by_cases hqe : k.qu = []
  · rw [hqe] at h3 h4 h5 ⊢
    rw [List.nil_append] at h3 h4 h5 ⊢
    rw [hqe, List.nil_append] at h6
    generalize mvq k.rd k.wr k.ws [(w, b)] = r at h3 h4 h5 h6 ⊢
    refine ⟨fun ht => ⟨rfl, ?_⟩, fun hf => ?_⟩
    · have ht := of_decide_eq_true ht
      cases hl : r.1.length with
      | zero =>
        exfalso
        rw [hl] at h5
        have hnil : r.1 = [] := List.eq_nil_of_length_eq_zero hl
        refine ht (st_one (by rw [h5]; simp) (fun hd => ?_))
        rcases h6 w hd with h | h
        · exact hn h
        · rw [hnil] at h; cases h
      | succ m => rw [h5, hl]; simp
    · have hf := of_decide_eq_false hf
      cases hl : r.1.length with
      | zero => rw [h5, hl]; rfl
      | succ m =>
        exfalso
        have hnil : r.2.qu = [] := by rw [h5, hl]; simp
        have h1' : r.2.st w = 1 := by simpa using hf
        have hz : ¬ Hd r.2 w := fun h => by
          have := st_hd.2 h; omega
        have : w ∈ r.2.qu.map (·.1) := by
          apply Classical.byContradiction
          intro hc
          have := st_zero.2 ⟨hz, hc⟩
          omega
        rw [hnil] at this; cases this
  · have hst := mvq_stay (rd := k.rd) (wr := k.wr) (ws := k.ws) (q := k.qu) hg.front hqe [(w, b)]
    rw [hst]
    have hs1 : Lk.st ⟨k.rd, k.wr, k.ws, k.qu ++ [(w, b)]⟩ w = 1 := st_one (by simp) (fun h => hn h)
    simp only [hs1]
    exact ⟨fun h => by simp at h, fun _ => by simp⟩
theorem ask_same {k : Lk} {w : Int} {b : Bool} (h0 : ¬ k.st w = 0) : k.ask w b = (false, k) := by unfold Lk.ask; rw [if_neg h0]
theorem lessQ_map (l : List (Int × Bool)) (x : Int) : (lessQ l x).map (·.1) = lessI (l.map (·.1)) x := by
  unfold lessQ lessI
  rw [List.filter_map]
  rfl
theorem lessI_not {l : List Int} {x : Int} : x ∉ lessI l x := by unfold lessI; simp
theorem lessI_sub {l : List Int} {x y : Int} (h : y ∈ lessI l x) : y ∈ l := by unfold lessI at h; exact (List.mem_filter.1 h).1
theorem lessI_nodup {l : List Int} {x : Int} (h : l.Nodup) : (lessI l x).Nodup := h.filter _
theorem lessI_none {l : List Int} {x : Int} (h : x ∉ l) : lessI l x = l := by
  unfold lessI; rw [List.filter_eq_self]; intro a ha; exact decide_eq_true (fun e => h (by rw [← e]; exact ha))
theorem lessQ_none {l : List (Int × Bool)} {x : Int} (h : x ∉ l.map (·.1)) : lessQ l x = l := by
  unfold lessQ; rw [List.filter_eq_self]; intro a ha; exact decide_eq_true (fun e => h (by rw [← e]; exact List.mem_map_of_mem ha))
theorem lessI_count {l : List Int} {x : Int} (hn : l.Nodup) (h : x ∈ l) : (lessI l x).length + 1 = l.length := by
  induction l with
  | nil => cases h
  | cons a l ih =>
    rw [List.nodup_cons] at hn
    by_cases e : a = x
    · subst e
      have : lessI (a :: l) a = lessI l a := by unfold lessI; simp
      rw [this, lessI_none hn.1]; rfl
    · have : lessI (a :: l) x = a :: lessI l x := by unfold lessI; rw [List.filter_cons_of_pos]; exact decide_eq_true e
      rw [this]
      have := ih hn.2 ((List.mem_cons.1 h).resolve_left (fun h => e h.symm))
      simp only [List.length_cons]; omega
theorem leave_law {k : Lk} (hg : Good k) (w : Int) :
    Good (k.leave w).2 ∧ (k.leave w).1.length ≤ (lessQ k.qu w).length ∧ (k.leave w).1 = (lessI (k.qu.map (·.1)) w).take (k.leave w).1.length ∧ (k.leave w).2.qu = (lessQ k.qu w).drop (k.leave w).1.length ∧
    (k.leave w).2.st w = 0 ∧ (k.leave w).2.sz + (if k.st w = 0 then 0 else 1) = k.sz := by
  have hp := hg.pre
  have key : ∀ (rd : List Int) (ws : Bool) (qu : List (Int × Bool)), Pre rd k.wr ws qu → qu = lessQ k.qu w → k.leave w = mvq rd k.wr ws qu → (¬ (ws = true ∧ k.wr = w) ∧ w ∉ rd) → Lk.sz ⟨rd, k.wr, ws, qu⟩ + (if k.st w = 0 then 0 else 1) = k.sz →
      Good (k.leave w).2 ∧ (k.leave w).1.length ≤ (lessQ k.qu w).length ∧ (k.leave w).1 = (lessI (k.qu.map (·.1)) w).take (k.leave w).1.length ∧ (k.leave w).2.qu = (lessQ k.qu w).drop (k.leave w).1.length ∧
      (k.leave w).2.st w = 0 ∧ (k.leave w).2.sz + (if k.st w = 0 then 0 else 1) = k.sz := by
    intro rd ws qu hpre hqu he hnh hsz
    obtain ⟨h1, h2, h3, h4, h5, h6, h7⟩ := mvq_law _ _ _ _ hpre
    rw [he]
    rw [← lessQ_map, ← hqu]
    have hnw : w ∉ qu.map (·.1) := by rw [hqu, lessQ_map]; exact lessI_not
    refine ⟨h1, h3, h4, h5, st_zero.2 ⟨fun hd => ?_, ?_⟩, by rw [h2]; exact hsz⟩
    · rcases h6 w hd with (h | h) | h
      · exact hnh.1 h
      · exact hnh.2 h
      · rw [h4] at h; exact hnw (List.mem_of_mem_take h)
    · rw [h5, List.map_drop]; exact fun h => hnw (List.mem_of_mem_drop h)
  rcases st_cases k w with hs | hs | hs | hs
  · have hd := st_hd.1 (.inr hs)
    have hws : k.ws = true ∧ k.wr = w := by
      unfold Lk.st at hs
      apply Classical.byContradiction
      intro hc
      rw [if_neg hc] at hs
      split at hs
      · omega
      · split at hs <;> omega
    have hrd := hp.alone hws.1
    have hnq : w ∉ k.qu.map (·.1) := fun h => (hp.dis w h).2 hws
    refine key k.rd false k.qu ⟨(fun h => by cases h), hp.nrd, hp.nq, fun x hx => ⟨(hp.dis x hx).1, (fun h => by cases h.1)⟩⟩ (lessQ_none hnq).symm (by unfold Lk.leave Lk.move; rw [if_pos hs]) ⟨(fun h => by cases h.1), by rw [hrd]; simp⟩ ?_
    rw [hs]; simp only [Lk.sz, hws.1, hrd]; simp; omega
  · have hd := st_hd.1 (.inl hs)
    have hws : ¬ (k.ws = true ∧ k.wr = w) := by
      intro hc
      unfold Lk.st at hs
      rw [if_pos hc] at hs; omega
    have hm : w ∈ k.rd := hd.resolve_left hws
    have hnq : w ∉ k.qu.map (·.1) := fun h => (hp.dis w h).1 hm
    have hwf : k.ws = false := by
      cases h : k.ws with
      | false => rfl
      | true => have := hp.alone h; rw [this] at hm; cases hm
    refine key (lessI k.rd w) k.ws k.qu ⟨fun h => by rw [hp.alone h]; rfl, lessI_nodup hp.nrd, hp.nq, fun x hx => ⟨fun h => (hp.dis x hx).1 (lessI_sub h), (hp.dis x hx).2⟩⟩ (lessQ_none hnq).symm (by unfold Lk.leave Lk.move; rw [if_neg (by omega), if_pos hs]) ⟨hws, lessI_not⟩ ?_
    have hc := lessI_count hp.nrd hm
    rw [hs]; simp only [Lk.sz, hwf]; simp; omega
  · have hnz : ¬ k.st w = 0 := by omega
    have hnh : ¬ Hd k w := fun h => by have := st_hd.2 h; omega
    have hm : w ∈ k.qu.map (·.1) := by
      apply Classical.byContradiction
      intro hc
      exact hnz (st_zero.2 ⟨hnh, hc⟩)
    refine key k.rd k.ws (lessQ k.qu w) ⟨hp.alone, hp.nrd, by rw [lessQ_map]; exact lessI_nodup hp.nq, fun x hx => by rw [lessQ_map] at hx; exact hp.dis x (lessI_sub hx)⟩ rfl (by unfold Lk.leave Lk.move; rw [if_neg (by omega), if_neg (by omega), if_pos hs]) ⟨fun h => hnh (.inl h), fun h => hnh (.inr h)⟩ ?_
    have hc := lessI_count hp.nq hm
    rw [← lessQ_map, List.length_map, List.length_map] at hc
    rw [hs]; simp only [Lk.sz]; simp; omega
  · obtain ⟨hnh, hnq⟩ := st_zero.1 hs
    have he : k.leave w = ([], k) := by unfold Lk.leave; rw [if_neg (by omega), if_neg (by omega), if_neg (by omega)]
    rw [he, lessQ_none hnq]
    exact ⟨hg, Nat.zero_le _, rfl, rfl, hs, by rw [hs]; simp⟩
theorem holders_len (k : Lk) : k.holders.length + k.qu.length = k.sz := by
  unfold Lk.holders Lk.sz
  by_cases h : k.ws = true <;> simp [h, List.length_mergeSort]
theorem holders_mem {k : Lk} (hg : Good k) {x : Int} : x ∈ k.holders ↔ Hd k x := by
  unfold Lk.holders Hd
  by_cases h : k.ws = true
  · simp [h, hg.pre.alone h, eq_comm]
  · simp [h, List.mem_mergeSort]
theorem holders_rise {k : Lk} (hg : Good k) : k.holders.Pairwise (· < ·) := by
  unfold Lk.holders
  by_cases h : k.ws = true
  · simp [h]
  · rw [if_neg h]
    have h1 : (k.rd.mergeSort (fun x y => decide (x ≤ y))).Pairwise (fun x y => decide (x ≤ y) = true) := List.pairwise_mergeSort (by intro a b c h1 h2; simp at *; omega) (by intro a b; simp; omega) k.rd
    have h2 : (k.rd.mergeSort (fun x y => decide (x ≤ y))).Nodup := (List.mergeSort_perm k.rd _).nodup_iff.2 hg.pre.nrd
    have h3 := List.Pairwise.and h1 h2
    exact h3.imp (fun {a b} h => by have := of_decide_eq_true h.1; have := h.2; omega)
/-- Of a settled lock: whoever waits, waits for somebody. -/
theorem front_law {k : Lk} (hg : Good k) {a : Int × Bool} {q : List (Int × Bool)} (h : k.qu = a :: q) : k.holders ≠ [] ∧ (a.2 = true ∨ ∀ x ∈ k.holders, k.st x = 3) := by
  rcases hg.front a q h with hw | ⟨h1, h2⟩
  · have he : k.holders = [k.wr] := by unfold Lk.holders; rw [if_pos hw]
    rw [he]
    refine ⟨by simp, .inr fun x hx => ?_⟩
    rw [List.mem_singleton] at hx
    subst hx
    unfold Lk.st; rw [if_pos ⟨hw, rfl⟩]
  · refine ⟨fun he => ?_, .inl h1⟩
    have hl := holders_len k
    obtain ⟨x, hx⟩ := List.exists_mem_of_ne_nil _ h2
    have := (holders_mem hg).2 (.inr hx)
    rw [he] at this; cases this
end Go.Proofs.Ytggnndopncegaaa
