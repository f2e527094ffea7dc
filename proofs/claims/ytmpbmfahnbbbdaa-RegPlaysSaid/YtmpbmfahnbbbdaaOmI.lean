/-
  omap: slices.Insert walked.
-/
import Derived.Test.YtmpbmfahnbbbdaaOmR
import Derived.Test.YtmpbmfahnbbbdaaRowD
import Derived.Deep.RegionLaw
set_option linter.unusedSimpArgs false
set_option linter.unusedVariables false
namespace Go.Proofs.Ytmpbmfahnbbbdaa
open Go.RowKit
set_option maxRecDepth 100000
theorem wpList_run {P : Program} (w : World) {ops : Array Oper} {rest : List Oper} {o : Oper} {a : Act} {Q : Exit → Act → World → Prop} (hgd : o.guard = none) (d s : Operand) (t t' : TypeId)
    (ho : o.op = .call { callee := .builtin .copy, args := #[d, s], argTypes := #[t, t'] }) (v u : Value) (hd : a.eval d = v) (hs : a.eval s = u) {v' : Value} {w' : World}
    (hr : (Builtin.copy_ #[t, t'] o.type #[v, u]).run P w = .ok v' w') (h : wpList P ops Q rest (a.put o.dst v') w') : wpList P ops Q (o :: rest) a w := by
  refine wpList_plain hgd fun _ hK => ?_
  unfold Oper.wp execOp
  simp only [ho, resolve, invoke, builtin, Sem.run_bind, Sem.run_pure, Result.andThen_ok, List.map_toArray, List.map_cons, List.map_nil, hd, hs, hr]
  exact hK _ _ h
theorem step_run {P : Program} {ops : Array Oper} {o : Oper} {a : Act} {w : World} {K : Act → World → Prop} {Q : Exit → Act → World → Prop} {E : Prop}
    (hg : o.guard = none) (d x : Operand) (dT sT : TypeId) (hop : o.op = Op.call { callee := Callee.builtin Builtin.copy, args := #[d, x], argTypes := #[dT, sT] })
    (v u : Value) (hd : a.eval d = v) (hx : a.eval x = u) {v' : Value} {w' : World} (hr : (Builtin.copy_ #[dT, sT] o.type #[v, u]).run P w = .ok v' w') (hK : K (a.put o.dst v') w') :
    if Region.wanted o (yielded ops a.tmps) = true then Oper.wp P o a w K Q else E := by
  have hw : Region.wanted o (yielded ops a.tmps) = true := by simp [Region.wanted, hg]
  rw [if_pos hw]
  unfold Oper.wp
  simp [execOp, hop, resolve, invoke, builtin, hd, hx, hr, Result.andThen]
  exact hK
theorem ecs_append {α : Type} (enc : α → Value) (a b : List (En α)) : ecs enc (a ++ b) = ecs enc a ++ ecs enc b := by simp [ecs]
theorem ecs_take {α : Type} (enc : α → Value) (es : List (En α)) (i : Nat) : ecs enc (es.take i) = (ecs enc es).take (i * 2) := by
  induction es generalizing i with
  | nil => simp [ecs]
  | cons e es ih =>
    cases i with
    | zero => simp [ecs]
    | succ i =>
      simp only [ecs, List.take_succ_cons, List.flatMap_cons] at ih ⊢
      rw [ih, show (i + 1) * 2 = (enCells enc e).length + i * 2 from by simp [enCells]; omega, List.take_length_add_append]
theorem ecs_drop {α : Type} (enc : α → Value) (es : List (En α)) (i : Nat) : ecs enc (es.drop i) = (ecs enc es).drop (i * 2) := by
  induction es generalizing i with
  | nil => simp [ecs]
  | cons e es ih =>
    cases i with
    | zero => simp [ecs]
    | succ i =>
      simp only [ecs, List.drop_succ_cons, List.flatMap_cons] at ih ⊢
      rw [ih, show (i + 1) * 2 = (enCells enc e).length + i * 2 from by simp [enCells]; omega, List.drop_length_add_append]

/-- What an insertion leaves. -/
def InsP {α : Type} (E : TypeId) (enc : α → Value) (F : Nat → Prop) (n : Nat) (es : List (En α)) (w : World) (r : Ending) (w' : World) : Prop :=
  ∃ A' c', r = .returned (.slice A' (n + 1) c') ∧ Own w' (fun b => F b ∨ w.heap.size ≤ b) E 2 (.slice A' (n + 1) c') (n + 1) (ecs enc es) ∧ Kept F w w'

theorem info_i : (Try.prog.info? 65).map (fun i => (i.zero, i.size, i.bytes)) = some (some (.agg #[.string ⟨#[]⟩, .int .i64 0]), 2, 24) := by kernel_rfl
set_option maxHeartbeats 1600000 in
theorem i_ins_end (es : List (En Int)) (A : Option Addr) (n c vb : Nat) (e : En Int) (w : World) (F : Nat → Prop) (ho : Own w F 65 2 (.slice A n c) n (ecs (Value.int .i64) es)) (hn : n ≤ 100000) (hv : Blk w vb 65 #[.string e.1, .int .i64 e.2]) :
    Calls Try.prog 43 #[.slice A n c, .int .i64 n, .slice (some ⟨vb, 0, none⟩) 1 1] w (InsP 65 (Value.int .i64) F n (es ++ [e]) w) := by
  have hl := sl_len ho.sl
  obtain ⟨A', c', hAc, hnc, hcm, _, _⟩ := ho.form
  obtain ⟨rfl, rfl⟩ : A = A' ∧ c = c' := by injection hAc with h1 _ h2; exact ⟨h1, h2⟩
  unfold maxLen at hcm
  have hsv : Sl w (fun b => b = vb) 2 (some ⟨vb, 0, none⟩) 1 (enCells (Value.int .i64) e) := ⟨rfl, fun _ => ⟨vb, 0, rfl, rfl, hv.lt, fun j hj => by rw [Nat.zero_add, hv.cell]; simp [enCells]⟩⟩
  have Ho := Lib.hid ho
  have Hsv := Lib.hid hsv
  have hcs : (A = none ∧ n = 0 ∧ c = 0) ∨ (∃ g, A = some ⟨g, 0, none⟩) := by
    rcases ho.1.2 with ⟨h1, h2⟩ | ⟨g, cap, cur, h1, _⟩
    · injection h1 with h1 h3 h4; exact .inl ⟨h1, h3, h4⟩
    · injection h1 with h1 _ _; exact .inr ⟨g, h1⟩
  clear hl hAc ho hsv hv
  rcases hcs with ⟨rfl, rfl, rfl⟩ | ⟨g, rfl⟩
  · go_enter Try.func43, Try.ntmps43
    go_wp2_with (at_builtin; refine held ?_)
    refine unheld ?_
    refine wp_app Try.underlying61 info_i rfl (by omega) Ho.out Hsv.out (by intro u hu; simp [enCells] at hu; rcases hu with rfl | rfl <;> rfl) (by omega) (by omega) rfl _ _ rfl rfl rfl ?_
    intro v' w8 ho8 hk8
    obtain ⟨A8, c8, rfl, _⟩ := ho8.form
    go_wp2
    go_ret
    refine ⟨A8, c8, rfl, ?_, hk8⟩
    rw [ecs_append]
    simpa [ecs] using ho8.imp (fun b _ h => by rcases h with h | h; exact .inl h; exact .inr (by omega))
  · by_cases hcn : c = n
    · go_enter Try.func43, Try.ntmps43
      go_wp2_with (at_builtin; refine held ?_)
      refine unheld ?_
      refine wp_app Try.underlying61 info_i rfl (by omega) Ho.out Hsv.out (by intro u hu; simp [enCells] at hu; rcases hu with rfl | rfl <;> rfl) (by omega) (by omega) rfl _ _ rfl rfl rfl ?_
      intro v' w8 ho8 hk8
      obtain ⟨A8, c8, rfl, _⟩ := ho8.form
      go_wp2
      go_ret
      refine ⟨A8, c8, rfl, ?_, hk8⟩
      rw [ecs_append]
      simpa [ecs] using ho8.imp (fun b _ h => by rcases h with h | h; exact .inl h; exact .inr (by omega))
    · go_enter Try.func43, Try.ntmps43
      go_wp2_with (at_builtin; refine held ?_)
      refine unheld ?_
      refine wp_app Try.underlying61 info_i rfl (by omega) Ho.out Hsv.out (by intro u hu; simp [enCells] at hu; rcases hu with rfl | rfl <;> rfl) (by omega) (by omega) rfl _ _ rfl rfl rfl ?_
      intro v' w8 ho8 hk8
      obtain ⟨A8, c8, rfl, _⟩ := ho8.form
      go_wp2
      go_ret
      refine ⟨A8, c8, rfl, ?_, hk8⟩
      rw [ecs_append]
      simpa [ecs] using ho8.imp (fun b _ h => by rcases h with h | h; exact .inl h; exact .inr (by omega))
end Go.Proofs.Ytmpbmfahnbbbdaa
