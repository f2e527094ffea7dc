/-
  rw: move walked.
-/
import Derived.Test.YtggnndopncegaaaRwG
import Derived.Test.YtggnndopncegaaaLate
import Derived.Deep.QuietTactic
import Derived.BigQuiet
set_option linter.unusedSimpArgs false
set_option linter.unusedVariables false
namespace Go.Proofs.Ytggnndopncegaaa
open Go.RowKit
set_option maxRecDepth 100000

theorem own_apart {w : World} {F G : Nat → Prop} {T1 T2 : TypeId} {k1 k2 n1 n2 b : Nat} {v1 v2 : Value} {x1 x2 : List Value} (h1 : Own w F T1 k1 v1 n1 x1) (h2 : Own w G T2 k2 v2 n2 x2) (hne : T1 ≠ T2) (e1 : v1.ownBlock = some b) : ¬ v2.ownBlock = some b := by
  intro e2
  rcases h1.1.2 with ⟨rfl, _⟩ | ⟨g, cap, cur, rfl, _, hg, _⟩
  · cases e1
  · rcases h2.1.2 with ⟨rfl, _⟩ | ⟨g', cap', cur', rfl, _, hg', _⟩
    · cases e2
    · simp [Value.ownBlock] at e1 e2
      subst e1 e2
      rw [hg] at hg'
      injection hg' with hg'
      injection hg' with _ ht
      exact hne ht
/-- The same row, its block alone. -/
theorem Own.mini {w : World} {F : Nat → Prop} {T : TypeId} {k n : Nat} {v : Value} {xs : List Value} (h : Own w F T k v n xs) : Own w (fun b => v.ownBlock = some b) T k v n xs := ⟨h.1, fun _ h => h⟩
theorem Own.ltB {w : World} {F : Nat → Prop} {T : TypeId} {k n b : Nat} {v : Value} {xs : List Value} (h : Own w F T k v n xs) (e : v.ownBlock = some b) : b < w.heap.size := (h.1.lt b e).2
theorem qcs_one (l : List (Int × Bool)) : ∀ u ∈ qcs l, u.oneCell' = true := by
  intro u hu
  unfold qcs at hu
  rw [List.mem_flatMap] at hu
  obtain ⟨a, _, ha⟩ := hu
  simp at ha
  rcases ha with rfl | rfl <;> rfl
theorem ics_one (l : List Int) : ∀ u ∈ ics l, u.oneCell' = true := by
  intro u hu
  unfold ics at hu
  rw [List.mem_map] at hu
  obtain ⟨a, _, rfl⟩ := hu
  rfl
/-- A round of move: the lock as it is, who has come in. -/
def MvP (w0 w : World) (F : Nat → Prop) (g : Nat) (rd : List Int) (wr : Int) (ws : Bool) (qu : List (Int × Bool)) (inn : List Int) (vi : Value) : Prop :=
  ∃ A1 c1 A2 c2, Blk w g 43 #[.slice A1 rd.length c1, .int .i64 wr, .bool ws, .slice A2 qu.length c2] ∧
    Own w (fun b => (F b ∨ w0.heap.size ≤ b) ∧ b ≠ g) 3 1 (.slice A1 rd.length c1) rd.length (ics rd) ∧ Own w (fun b => (F b ∨ w0.heap.size ≤ b) ∧ b ≠ g) 45 2 (.slice A2 qu.length c2) qu.length (qcs qu) ∧
    Own w (fun b => w0.heap.size ≤ b) 3 1 vi inn.length (ics inn) ∧ (∀ b, (Value.slice A1 rd.length c1).ownBlock = some b → ¬ vi.ownBlock = some b) ∧ Kept F w0 w
theorem MvP.fin {w0 w : World} {F : Nat → Prop} {g : Nat} {rd : List Int} {wr : Int} {ws : Bool} {qu : List (Int × Bool)} {inn : List Int} {vi : Value} (h0 : F g) (h : MvP w0 w F g rd wr ws qu inn vi) :
    ∃ A n c, Ending.returned vi = .returned (.slice A n c) ∧ Sl w (fun b => w0.heap.size ≤ b) 1 A n (ics inn) ∧ Lp w (fun b => F b ∨ w0.heap.size ≤ b) g ⟨rd, wr, ws, qu⟩ ∧ Kept F w0 w := by
  obtain ⟨A1, c1, A2, c2, hb, h1, h2, h3, hap, hk⟩ := h
  obtain ⟨A, c, rfl, _, _, _, hs⟩ := h3.form
  exact ⟨A, inn.length, c, rfl, hs, ⟨.inl h0, A1, c1, A2, c2, hb, h1, h2⟩, hk⟩
set_option maxHeartbeats 3200000 in
theorem lk_move (w : World) (F : Nat → Prop) (g : Nat) (k : Lk) (h : Lp w F g k) (hz : k.size ≤ 100000) :
    Calls Try.prog 21 #[.pointer (some ⟨g, 0, none⟩)] w fun e w' => ∃ A n c, e = .returned (.slice A n c) ∧ Sl w' (fun b => w.heap.size ≤ b) 1 A n (ics k.move.1) ∧ Lp w' (fun b => F b ∨ w.heap.size ≤ b) g k.move.2 ∧ Kept F w w' := by
  obtain ⟨h0, A1, c1, A2, c2, hb, h1, h2⟩ := h
  have hgl := hb.lt
  have hstart : MvP w w F g k.rd k.wr k.ws k.qu [] (.slice none 0 0) := ⟨A1, c1, A2, c2, hb, h1.imp (fun b _ h => ⟨.inl h.1, h.2⟩), h2.imp (fun b _ h => ⟨.inl h.1, h.2⟩), Own.nil _ _ _ _, fun b _ => by simp [Value.ownBlock], Kept.refl _ _⟩
  have Hst := Lib.hid hstart
  obtain ⟨res, hres⟩ : ∃ res, k.move = res := ⟨_, rfl⟩
  have hres' : mvq k.rd k.wr k.ws k.qu = res := hres
  rw [hres]
  have Hres := Lib.hid hres'
  have hz' : k.rd.length + k.qu.length ≤ 100000 := hz
  clear hstart hres hres' hb h1 h2 hz
  go_enter Try.func21, Try.ntmps21
  go_wp2
  go_loopw [3] (fun vi wr => ∃ (rd : List Int) (x : Int) (ws : Bool) (qu : List (Int × Bool)) (inn : List Int), rd.length + qu.length ≤ 100000 ∧ inn.length + qu.length ≤ 100000 ∧ Hid (res = (inn ++ (mvq rd x ws qu).1, (mvq rd x ws qu).2)) ∧ Hid (MvP w wr F g rd x ws qu inn vi)) (fun _ wr => match wr.cell? ⟨g, 3, none⟩ with | some (.slice _ n _) => n | _ => 0)
  case atStart => exact ⟨k.rd, k.wr, k.ws, k.qu, [], hz', by simp; omega, by rw [Hres.out]; rfl, Hst⟩
  case round =>
    obtain ⟨rd, x, ws, qu, inn, hz1, hz2, hr, hm⟩ := hrel
    obtain ⟨A1, c1, A2, c2, hb, h1, h2, h3, hap, hk⟩ := hm.out
    have hc := hb.cell
    have hf := hb.frozen
    have Hb := Lib.hid hb
    have H1 := Lib.hid h1
    have H2 := Lib.hid h2
    have H3 := Lib.hid h3
    have Hap := Lib.hid hap
    have Hk := Lib.hid hk
    clear hb h1 h2 h3 hap hk hm
    cases qu with
    | nil =>
      have hfin := MvP.fin h0 (vi := u3) ⟨A1, c1, A2, c2, Hb.out, H1.out, H2.out, H3.out, Hap.out, Hk.out⟩
      have hres : res = (inn, ⟨rd, x, ws, []⟩) := by rw [hr.out]; simp [mvq]
      have Hfin := Lib.hid hfin
      have Hr2 := Lib.hid hres
      clear hfin hres
      go_wp2
      go_ret
      rw [Hr2.out]
      exact Hfin.out
    | cons a q =>
      obtain ⟨a1, a2⟩ := a
      have hql : (0 : Int) < (((a1, a2) :: q).length : Nat) := by simp
      cases ws with
      | true =>
        have hfin := MvP.fin h0 (vi := u3) ⟨A1, c1, A2, c2, Hb.out, H1.out, H2.out, H3.out, Hap.out, Hk.out⟩
        have hres : res = (inn, ⟨rd, x, true, ((a1, a2) :: q)⟩) := by rw [hr.out]; simp [mvq]
        have Hfin := Lib.hid hfin
        have Hr2 := Lib.hid hres
        clear hfin hres
        go_wp2
        go_ret
        rw [Hr2.out]
        exact Hfin.out
      | false =>
        obtain ⟨gq, oq, hA2, _, _, _⟩ := H2.out.sl.2 (by simp)
        subst hA2
        have hs2 := slq_at H2.out.sl (i := 0) (e := (a1, a2)) rfl
        obtain ⟨hq1, hq2⟩ := hs2
        simp only [Nat.zero_mul, Nat.add_zero] at hq1 hq2
        have hka : Pure wr (wr.alloc (.cells #[.int .i64 a1, .bool a2] 45)) := (Kept.refl _ _).alloc _
        have hba := Blk.new wr 45 #[.int .i64 a1, .bool a2]
        have hac := hba.cell
        have hcA := (Hb.out.alloc (.cells #[.int .i64 a1, .bool a2] 45)).cell
        cases a2 with
        | true =>
          by_cases hrl : 0 < rd.length
          · have hrl' : (0 : Int) < (rd.length : Nat) := by omega
            have hfin := MvP.fin h0 (vi := u3) (w0 := w) (F := F) (w := wr.alloc (.cells #[.int .i64 a1, .bool true] 45)) (inn := inn) (rd := rd) (wr := x) (ws := false) (qu := (a1, true) :: q) (g := g) ⟨A1, c1, _, c2, Hb.out.alloc _, H1.out.alloc _, H2.out.alloc _, H3.out.alloc _, Hap.out, Hk.out.trans hka (fun _ _ h => h.elim)⟩
            have hres : res = (inn, ⟨rd, x, false, (a1, true) :: q⟩) := by rw [hr.out]; simp [mvq, hrl]
            have Hfin := Lib.hid hfin
            have Hr2 := Lib.hid hres
            clear hfin hres
            go_wp2
            go_ret
            rw [Hr2.out]
            exact Hfin.out
          · have hrl' : ¬ (0 : Int) < (rd.length : Nat) := by omega
            have CD := Lib.hid (q_del (qcs ((a1, true) :: q)) (qcs_one _) _ ((a1, true) :: q).length c2 0 1 (wr.alloc (.cells #[.int .i64 a1, .bool true] 45)) _ (H2.out.mini.alloc _) (by omega) (by omega) (by simp))
            have hgA : g < (wr.alloc (.cells #[.int .i64 a1, .bool true] 45)).heap.size := by have := Hb.out.lt; simp; omega
            have hB5 := fun (S : Nat → Prop) (w5 : World) (hk : Kept S (wr.alloc (.cells #[.int .i64 a1, .bool true] 45)) w5) (hs : ¬ S g) => (Hb.out.alloc (.cells #[.int .i64 a1, .bool true] 45)).kept hk hs
            have HB5 := Lib.hid hB5
            clear hB5
            have Hka := Lib.hid hka
            have Hba := Lib.hid hba
            have hqn : ((a1, true) :: q).length - (1 - 0) = q.length := by simp
            have hqx : (qcs ((a1, true) :: q)).take (0 * 2) ++ (qcs ((a1, true) :: q)).drop (1 * 2) = qcs q := by simp [qcs]
            rw [hqn, hqx] at CD
            clear hka hba hqn hqx
            go_wp2_with fail
            refine (CD.out).mono ?_
            rintro e w5 ⟨A5, c5, rfl, ho5, hk5⟩
            have hb5 := HB5.out _ w5 hk5 (fun h => (H2.out.2 _ h).2 rfl)
            have ha5 := Hba.out.kept hk5 (fun h => by have := H2.out.ltB h; omega)
            have hc5 := hb5.cell
            have hf5 := hb5.frozen
            have hac5 := ha5.cell
            have h15 := (H1.out.mini.kept Hka.out (fun _ _ _ h => h)).kept hk5 (fun b _ h1 h2 => own_apart H1.out H2.out (by decide) h1 h2)
            have h35 := (H3.out.mini.kept Hka.out (fun _ _ _ h => h)).kept hk5 (fun b _ h1 h2 => own_apart H3.out H2.out (by decide) h1 h2)
            have Hb5 := Lib.hid hb5
            have Ha5 := Lib.hid ha5
            have H15 := Lib.hid h15
            have H35 := Lib.hid h35
            have H25 := Lib.hid ho5
            have Hk5 := Lib.hid hk5
            clear hb5 ha5 h15 h35 ho5 hk5
            go_wp2_with (first | (at_builtin; refine held ?_))
            refine unheld ?_
            have hk6 : Kept (· = g) w5 ((w5.setCell ⟨g, 3, none⟩ (.slice A5 q.length c5)).alloc (.cells #[.int .i64 a1] 3)) := ((Kept.refl (· = g) w5).setCell (p := ⟨g, 3, none⟩) (.inl rfl) _).alloc _
            have hb6 := (Hb5.out.set 3 (.slice A5 q.length c5)).alloc (.cells #[.int .i64 a1] 3)
            have hga : ¬ wr.heap.size = g := fun e => by have := Hb.out.lt; omega
            have ha6 := Ha5.out.kept hk6 hga
            have h16 := H15.out.kept hk6 (fun b _ h1 e => (H1.out.2 b h1).2 e)
            have h26 := (H25.out.mini).kept hk6 (fun b hl h1 e => by
              have e' : b = g := e
              subst e'
              rcases H25.out.2 _ h1 with h | h
              · exact (H2.out.2 _ h).2 rfl
              · omega)
            have h36 := H35.out.kept hk6 (fun b _ h1 e => by have e' : b = g := e; have := H3.out.2 b h1; omega)
            have hlit := Sl.lit (w5.setCell ⟨g, 3, none⟩ (.slice A5 q.length c5)) #[.int .i64 a1] 3 1 1 _ rfl rfl
            have hsz6 : (w5.setCell ⟨g, 3, none⟩ (.slice A5 q.length c5)).heap.size = w5.heap.size := by simp [World.setCell]
            rw [hsz6] at hlit
            refine wp_app Try.underlying34 info_di rfl (by omega) h36 hlit (ics_one [a1]) (by simp at hz2; omega) (by omega) rfl _ _ rfl rfl rfl ?_
            intro v7 w7 ho7 hk7
            have hb7 : Blk w7 g 43 #[.slice A1 rd.length c1, .int .i64 x, .bool false, .slice A5 q.length c5] := hb6.kept hk7 (fun h => by have := H3.out.2 g h; omega)
            have ha7 := ha6.kept hk7 (fun h => by have := H3.out.ltB h; omega)
            have h17 := h16.kept hk7 (fun b _ h1 h2 => Hap.out b h1 h2)
            have h27 := h26.kept hk7 (fun b _ h1 h2 => own_apart h26 h36 (by decide) h1 h2)
            have hc7 := hb7.cell
            have hf7 := hb7.frozen
            have hac7 := ha7.cell
            have Hb7 := Lib.hid hb7
            have H17 := Lib.hid h17
            have H27 := Lib.hid h27
            have H37 := Lib.hid ho7
            have Hk67 := Lib.hid ((hk6.mono (T := fun b => b = g ∨ u3.ownBlock = some b) (fun _ _ h => .inl h)).same (hk7.mono (fun _ _ h => .inr h)))
            clear hb6 ha6 h16 h26 h36 hlit hsz6 hb7 ha7 h17 h27 ho7
            go_wp2
            have hW5 : wr.heap.size + 1 ≤ w5.heap.size := by have := Hk5.out.size; simpa using this
            have hb10 := (Hb7.out.set 1 (.int .i64 a1)).set 2 (.bool true)
            have hm10 : ((w7.setCell ⟨g, 1, none⟩ (.int .i64 a1)).setCell ⟨g, 2, none⟩ (.bool true)).cell? ⟨g, 3, none⟩ = some (.slice A5 q.length c5) := hb10.cell 3
            have hfin : MvP w ((w7.setCell ⟨g, 1, none⟩ (.int .i64 a1)).setCell ⟨g, 2, none⟩ (.bool true)) F g rd a1 true q (inn ++ [a1]) v7 := by
              have hWr : w.heap.size ≤ wr.heap.size := Hk.out.size
              have hk10 : Kept (· = g) w7 ((w7.setCell ⟨g, 1, none⟩ (.int .i64 a1)).setCell ⟨g, 2, none⟩ (.bool true)) := ((Kept.refl (· = g) w7).setCell (p := ⟨g, 1, none⟩) (.inl rfl) _).setCell (p := ⟨g, 2, none⟩) (.inl rfl) _
              have h7o : ∀ b, v7.ownBlock = some b → u3.ownBlock = some b ∨ b = w5.heap.size + 1 := fun b h => by simpa [World.setCell] using H37.out.2 b h
              have h5o : ∀ b, (Value.slice A5 q.length c5).ownBlock = some b → (Value.slice (some ⟨gq, oq, none⟩) ((a1, true) :: q).length c2).ownBlock = some b ∨ wr.heap.size + 1 ≤ b := fun b h => by simpa using H25.out.2 b h
              refine ⟨A1, c1, A5, c5, hb10, ?_, ?_, ?_, ?_, ?_⟩
              · exact (H17.out.kept hk10 (fun b _ h e => (H1.out.2 b h).2 e)).imp (fun b _ h => H1.out.2 b h)
              · exact (H27.out.kept hk10 (fun b _ h e => by
                  have e' : b = g := e
                  rcases h5o b h with h | h
                  · exact (H2.out.2 b h).2 e'
                  · omega)).imp (fun b _ h => by
                  rcases h5o b h with h | h
                  · exact H2.out.2 b h
                  · exact ⟨.inr (by omega), by omega⟩)
              · have := (H37.out.mini.kept hk10 (fun b _ h e => by
                  have e' : b = g := e
                  rcases h7o b h with h | h
                  · have := H3.out.2 b h; omega
                  · omega)).imp (G := fun b => w.heap.size ≤ b) (fun b _ h => by
                  rcases h7o b h with h | h
                  · exact H3.out.2 b h
                  · omega)
                simpa [ics] using this
              · intro b h1 h2
                rcases h7o b h2 with h' | h'
                · exact Hap.out b h1 h'
                · have := H1.out.ltB h1; omega
              · have k1 := (Hk.out.trans Hka.out (fun _ _ h => h.elim)).trans Hk5.out (fun b hb h => (H2.out.2 b h).1.elim id (fun h => by omega))
                have k2 := k1.trans Hk67.out (fun b hb h => h.elim (fun h => by rw [h]; exact h0) (fun h => by have := H3.out.2 b h; omega))
                exact k2.trans hk10 (fun b hb h => by have h' : b = g := h; rw [h']; exact h0)
            have Hfin := Lib.hid hfin
            refine ⟨⟨rd, a1, true, q, inn ++ [a1], by simp at hz1 ⊢; omega, by simp at hz2 ⊢; omega, ?_, Hfin⟩, ?_⟩
            · refine Lib.hid ?_
              rw [hr.out]; simp [mvq, hrl]
            · rw [hm10, hc 3]; simp
        | false =>
          have CD := Lib.hid (q_del (qcs ((a1, false) :: q)) (qcs_one _) _ ((a1, false) :: q).length c2 0 1 (wr.alloc (.cells #[.int .i64 a1, .bool false] 45)) _ (H2.out.mini.alloc _) (by omega) (by omega) (by simp))
          have hgA : g < (wr.alloc (.cells #[.int .i64 a1, .bool false] 45)).heap.size := by have := Hb.out.lt; simp; omega
          have hB5 := fun (S : Nat → Prop) (w5 : World) (hk : Kept S (wr.alloc (.cells #[.int .i64 a1, .bool false] 45)) w5) (hs : ¬ S g) => (Hb.out.alloc (.cells #[.int .i64 a1, .bool false] 45)).kept hk hs
          have HB5 := Lib.hid hB5
          clear hB5
          have Hka := Lib.hid hka
          have Hba := Lib.hid hba
          have hqn : ((a1, false) :: q).length - (1 - 0) = q.length := by simp
          have hqx : (qcs ((a1, false) :: q)).take (0 * 2) ++ (qcs ((a1, false) :: q)).drop (1 * 2) = qcs q := by simp [qcs]
          rw [hqn, hqx] at CD
          clear hka hba hqn hqx
          go_wp2_with fail
          refine (CD.out).mono ?_
          rintro e w5 ⟨A5, c5, rfl, ho5, hk5⟩
          have hb5 := HB5.out _ w5 hk5 (fun h => (H2.out.2 _ h).2 rfl)
          have ha5 := Hba.out.kept hk5 (fun h => by have := H2.out.ltB h; omega)
          have hc5 := hb5.cell
          have hf5 := hb5.frozen
          have hac5 := ha5.cell
          have h15 := (H1.out.mini.kept Hka.out (fun _ _ _ h => h)).kept hk5 (fun b _ h1 h2 => own_apart H1.out H2.out (by decide) h1 h2)
          have h35 := (H3.out.mini.kept Hka.out (fun _ _ _ h => h)).kept hk5 (fun b _ h1 h2 => own_apart H3.out H2.out (by decide) h1 h2)
          have Hb5 := Lib.hid hb5
          have Ha5 := Lib.hid ha5
          have H15 := Lib.hid h15
          have H35 := Lib.hid h35
          have H25 := Lib.hid ho5
          have Hk5 := Lib.hid hk5
          clear hb5 ha5 h15 h35 ho5 hk5
          go_wp2_with (first | (at_builtin; refine held ?_))
          refine unheld ?_
          have hk6 : Kept (· = g) w5 ((w5.setCell ⟨g, 3, none⟩ (.slice A5 q.length c5)).alloc (.cells #[.int .i64 a1] 3)) := ((Kept.refl (· = g) w5).setCell (p := ⟨g, 3, none⟩) (.inl rfl) _).alloc _
          have hb6 := (Hb5.out.set 3 (.slice A5 q.length c5)).alloc (.cells #[.int .i64 a1] 3)
          have hga : ¬ wr.heap.size = g := fun e => by have := Hb.out.lt; omega
          have ha6 := Ha5.out.kept hk6 hga
          have h16 := H15.out.kept hk6 (fun b _ h1 e => (H1.out.2 b h1).2 e)
          have h26 := (H25.out.mini).kept hk6 (fun b hl h1 e => by
            have e' : b = g := e
            subst e'
            rcases H25.out.2 _ h1 with h | h
            · exact (H2.out.2 _ h).2 rfl
            · omega)
          have h36 := H35.out.kept hk6 (fun b _ h1 e => by have e' : b = g := e; have := H3.out.2 b h1; omega)
          have hlit := Sl.lit (w5.setCell ⟨g, 3, none⟩ (.slice A5 q.length c5)) #[.int .i64 a1] 3 1 1 _ rfl rfl
          have hsz6 : (w5.setCell ⟨g, 3, none⟩ (.slice A5 q.length c5)).heap.size = w5.heap.size := by simp [World.setCell]
          rw [hsz6] at hlit
          refine wp_app Try.underlying34 info_di rfl (by omega) h36 hlit (ics_one [a1]) (by simp at hz2; omega) (by omega) rfl _ _ rfl rfl rfl ?_
          intro v7 w7 ho7 hk7
          have hb7 : Blk w7 g 43 #[.slice A1 rd.length c1, .int .i64 x, .bool false, .slice A5 q.length c5] := hb6.kept hk7 (fun h => by have := H3.out.2 g h; omega)
          have ha7 := ha6.kept hk7 (fun h => by have := H3.out.ltB h; omega)
          have h17 := h16.kept hk7 (fun b _ h1 h2 => Hap.out b h1 h2)
          have h27 := h26.kept hk7 (fun b _ h1 h2 => own_apart h26 h36 (by decide) h1 h2)
          have hc7 := hb7.cell
          have hac7 := ha7.cell
          have Hb7 := Lib.hid hb7
          have H17 := Lib.hid h17
          have H27 := Lib.hid h27
          have H37 := Lib.hid ho7
          have Hk67 := Lib.hid ((hk6.mono (T := fun b => b = g ∨ u3.ownBlock = some b) (fun _ _ h => .inl h)).same (hk7.mono (fun _ _ h => .inr h)))
          clear hb6 ha6 h16 h26 h36 hlit hsz6 hb7 ha7 h17 h27 ho7
          go_wp2
          refine wp_region_late (fun x => x.cell? ⟨g, 0, none⟩ = some (.slice A1 rd.length c1)) [7, 8, 11] [0, 1, 2, 3, 4] [11] (by kernel_rfl) (by kernel_rfl) (by kernel_rfl) (by kernel_rfl) (hc7 0) ?_
          repeat (with_reducible refine late_free (by decide) (by decide) (fun K hK => ?_); go_simp; first | (refine ex_steadyF ?_ (fun w' hw' => ?_) ?_; rotate_left; (skip; go_simp; first | done | rfl); (refine hK _ _ ?_; clear hK K)) | (refine hK _ _ ?_; clear hK K))
          repeat (with_reducible refine late_step (by decide) (by decide) (fun K hK => ?_); go_simp; refine hK _ _ ?_; clear hK K)
          with_reducible refine late_move (by decide) (fun K hK => ?_)
          go_simp
          have hc8 : (w7.drew.alloc (.cells #[.int .i64 a1] 3)).cell? ⟨g, 0, none⟩ = some (.slice A1 rd.length c1) := (Hb7.out.alloc (.cells #[.int .i64 a1] 3)).cell 0
          refine up_value ⟨hc8, ?_⟩
          refine hK _ _ ?_
          clear hK K
          have hlit8 := Sl.lit w7.drew #[.int .i64 a1] 3 1 1 _ rfl rfl
          refine late_move0 (by decide) rfl ?_
          refine up_app Try.underlying34 info_di rfl (by omega) (H17.out.alloc (w := w7.drew) _) hlit8 (ics_one [a1]) (by omega) (by omega) _ _ rfl rfl rfl (fun v9 w9 ho9 hk9 => ?_)
          have hb9 : Blk w9 g 43 #[.slice A1 rd.length c1, .int .i64 x, .bool false, .slice A5 q.length c5] := (Hb7.out.alloc (w := w7.drew) _).kept hk9 (fun h => (H1.out.2 _ h).2 rfl)
          refine ⟨fun _ => hb9.cell 0, ?_⟩
          have hf9 := hb9.frozen
          have hc9 := hb9.cell
          have Hb9 := Lib.hid hb9
          obtain ⟨A9, c9, rfl, _⟩ := ho9.form
          have Ho9 := Lib.hid ho9
          have H27' := Lib.hid ((H27.out.alloc (w := w7.drew) (.cells #[.int .i64 a1] 3)).kept hk9 (fun b _ h1 h2 => own_apart H27.out H17.out (by decide) h1 h2))
          clear hb9 ho9
          repeat (with_reducible refine late_step (by decide) (by decide) (fun K hK => ?_); go_simp; refine hK _ _ ?_; clear hK K)
          with_reducible refine late_move (by decide) (fun K hK => ?_)
          go_simp
          refine up_skip (hK _ _ ?_)
          clear hK K
          refine late_nil ?_
          go_wp2
          have hW5 : wr.heap.size + 1 ≤ w5.heap.size := by have := Hk5.out.size; simpa using this
          have hW7 : w5.heap.size ≤ w7.heap.size := Hk67.out.size
          have hWr : w.heap.size ≤ wr.heap.size := Hk.out.size
          have hk10 : Kept (· = g) w9 (w9.setCell ⟨g, 0, none⟩ (.slice A9 (rd.length + 1) c9)) := (Kept.refl (· = g) w9).setCell (p := ⟨g, 0, none⟩) (.inl rfl) _
          have hb10 := Hb9.out.set 0 (.slice A9 (rd.length + 1) c9)
          have hq1b : ∀ b, (Value.slice A1 rd.length c1).ownBlock = some b → b < wr.heap.size := fun b h => H1.out.ltB h
          have h9o : ∀ b, (Value.slice A9 (rd.length + 1) c9).ownBlock = some b → (Value.slice A1 rd.length c1).ownBlock = some b ∨ b = w7.heap.size + 1 := fun b h => by
            have := Ho9.out.2 b h
            simpa using this
          have h7o : ∀ b, v7.ownBlock = some b → u3.ownBlock = some b ∨ b = w5.heap.size + 1 := fun b h => by simpa [World.setCell] using H37.out.2 b h
          have h5o : ∀ b, (Value.slice A5 q.length c5).ownBlock = some b → (Value.slice (some ⟨gq, oq, none⟩) ((a1, false) :: q).length c2).ownBlock = some b ∨ wr.heap.size + 1 ≤ b := fun b h => by simpa using H25.out.2 b h
          have hfin : MvP w (w9.setCell ⟨g, 0, none⟩ (.slice A9 (rd.length + 1) c9)) F g (rd ++ [a1]) x false q (inn ++ [a1]) v7 := by
            refine ⟨A9, c9, A5, c5, ?_, ?_, ?_, ?_, ?_, ?_⟩
            · simpa using hb10
            · have := (Ho9.out.kept hk10 (fun b _ h e => by
                have e' : b = g := e
                rcases h with h | h
                · exact (H1.out.2 b h).2 e'
                · simp at h; omega)).imp (G := fun b => (F b ∨ w.heap.size ≤ b) ∧ b ≠ g) (fun b _ h => by
                rcases h with h | h
                · exact H1.out.2 b h
                · simp at h; exact ⟨.inr (by omega), by omega⟩)
              simpa [ics] using this
            · exact (H27'.out.kept hk10 (fun b _ h e => by
                have e' : b = g := e
                rcases h5o b h with h | h
                · exact (H2.out.2 b h).2 e'
                · omega)).imp (fun b _ h => by
                rcases h5o b h with h | h
                · exact H2.out.2 b h
                · exact ⟨.inr (by omega), by omega⟩)
            · have h37' := (H37.out.alloc (w := w7) (.cells #[.int .i64 a1] 3)).drew.kept (Kept.refl (fun _ => False) _) (fun _ _ _ h => h)
              have := ((H37.out.mini.alloc (w := w7.drew) (.cells #[.int .i64 a1] 3)).kept hk9 (fun b _ h1 h2 => by
                rcases h7o b h1 with h | h
                · exact Hap.out b h2 h
                · have := hq1b b h2; omega)).kept hk10 (fun b _ h e => by
                have e' : b = g := e
                rcases h7o b h with h | h
                · have := H3.out.2 b h; omega
                · omega)
              have := this.imp (G := fun b => w.heap.size ≤ b) (fun b _ h => by
                rcases h7o b h with h | h
                · exact H3.out.2 b h
                · omega)
              simpa [ics] using this
            · intro b h1 h2
              have h1' : (Value.slice A9 (rd.length + 1) c9).ownBlock = some b := by simpa using h1
              have hl7 := H37.out.ltB h2
              rcases h9o b h1' with h | h
              · rcases h7o b h2 with h' | h'
                · exact Hap.out b h h'
                · have := hq1b b h; omega
              · omega
            · have k1 := (Hk.out.trans Hka.out (fun _ _ h => h.elim)).trans Hk5.out (fun b hb h => (H2.out.2 b h).1.elim id (fun h => by omega))
              have k2 := k1.trans Hk67.out (fun b hb h => h.elim (fun h => by rw [h]; exact h0) (fun h => by have := H3.out.2 b h; omega))
              have k3 := (k2.drew.alloc (.cells #[.int .i64 a1] 3)).trans hk9 (fun b hb h => (H1.out.2 b h).1.elim id (fun h => by omega))
              exact k3.trans hk10 (fun b hb h => by have h' : b = g := h; rw [h']; exact h0)
          have Hfin := Lib.hid hfin
          have hm10 : (w9.setCell ⟨g, 0, none⟩ (.slice A9 (rd.length + 1) c9)).cell? ⟨g, 3, none⟩ = some (.slice A5 q.length c5) := hb10.cell 3
          refine ⟨⟨rd ++ [a1], x, false, q, inn ++ [a1], by simp at hz1 ⊢; omega, by simp at hz2 ⊢; omega, ?_, Hfin⟩, ?_⟩
          · refine Lib.hid ?_
            rw [hr.out]; simp [mvq]
          · rw [hm10, hc 3]; simp
end Go.Proofs.Ytggnndopncegaaa
