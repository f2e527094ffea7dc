/-
  reg: what the chapter's example fixes; calls played; New.
-/
import Derived.Test.YtmpbmfahnbbbdaaRgI
import Derived.LoopTactic
import Derived.Deep.QuietTactic
import Derived.BigQuiet
set_option linter.unusedSimpArgs false
set_option linter.unusedVariables false
namespace Go.Proofs.Ytmpbmfahnbbbdaa
open Go.RowKit
set_option maxRecDepth 100000

def BoolP (b : Bool) (w : World) (e : Ending) (w' : World) : Prop := e = .returned (.bool b) ∧ Pure w w'
abbrev annA : ByteArray := ⟨#[97, 110, 110, 47, 97]⟩
abbrev annB : ByteArray := ⟨#[97, 110, 110, 47, 98]⟩
theorem ex1 : addE [] annA 4 = (true, [(annA, 4)]) := by decide +kernel
theorem ex2 : fdE [(annA, 4)] annA = 4 := by decide +kernel
theorem ex3 : remE [(annA, 4)] annA 3 = (false, [(annA, 4)]) := by decide +kernel
theorem ex4 : fdE [(annA, 4)] annB = -1 := by decide +kernel
theorem ex5 : annA.size ≤ 1000000 ∧ annB.size ≤ 1000000 := by decide +kernel
theorem new_n (w : World) (a : Int) (ha : a ≤ 64) : Calls Try.prog 10 #[.int .i64 a] w fun e w' => e = .returned (ptrV w.heap.size) ∧ RN w.heap.size (mS a) w' w.heap.size [] ∧ Pure w w' := rg_new w a ha
set_option maxHeartbeats 1600000 in
theorem first21 (w : World) : Calls Try.prog 8 #[] w (BoolP true w) := by
  obtain ⟨N, hN⟩ : ∃ N, w.heap.size = N := ⟨_, rfl⟩
  have c0 := new_n w 3 (by omega)
  rw [hN] at c0
  obtain ⟨m, hm⟩ : ∃ m, mS 3 = m := ⟨_, rfl⟩
  rw [hm] at c0
  have C0 := Lib.hid c0
  have c1 := fun w h => add_n N m N w [] annA 4 h ex5.1 (by simp)
  rw [ex1] at c1
  have C1 := Lib.hid c1
  have c2 := fun w h => rg_find w (fun b => N ≤ b) m N [(annA, 4)] annA h ex5.1
  rw [ex2] at c2
  have C2 := Lib.hid c2
  have c3 := fun w h => rem_n N m N w [(annA, 4)] annA 3 h ex5.1
  rw [ex3] at c3
  have C3 := Lib.hid c3
  have C4 := Lib.hid (fun w h => rg_len w (fun b => N ≤ b) m N [(annA, 4)] h)
  have c5 := fun w h => rg_find w (fun b => N ≤ b) m N [(annA, 4)] annB h ex5.2
  rw [ex4] at c5
  have C5 := Lib.hid c5
  clear c0 c1 c2 c3 c5 hm
  go_enter Try.func8, Try.ntmps8
  go_wp2_with fail
  refine (C0.out).mono ?_
  rintro e w1 ⟨rfl, hm1, hk1⟩
  go_wp2_with fail
  refine (C1.out _ hm1).mono ?_
  rintro e w2 ⟨rfl, hm2, hk2⟩
  go_wp2_with fail
  refine (C2.out _ hm2).mono ?_
  rintro e w3 ⟨rfl, hk3⟩
  go_wp2_with fail
  refine (C3.out _ (hm2.kept hk3 (fun _ _ _ h => h))).mono ?_
  rintro e w4 ⟨rfl, hm4, hk4⟩
  go_wp2_with fail
  refine (C4.out _ hm4).mono ?_
  rintro e w5 ⟨rfl, rfl⟩
  go_wp2_with fail
  refine (C5.out _ hm4).mono ?_
  rintro e w6 ⟨rfl, hk6⟩
  go_wp2
  go_ret
  have hk : Kept (fun b => N ≤ b) w w6 := ((((hk1.mono (fun _ _ h => h.elim)).same hk2).same (hk3.mono (fun _ _ h => h.elim))).same hk4).same (hk6.mono (fun _ _ h => h.elim))
  exact ⟨by simp, hk.mono (fun b hb h => by omega)⟩
def stepA (es : Es) (a : Act) : Es := (stepE es a.op a.key a.id).2
def playE (l : List Act) : Es := l.foldl stepA []
theorem playE_snoc (l : List Act) (a : Act) : playE (l ++ [a]) = stepA (playE l) a := by simp [playE]
theorem playE_len (l : List Act) : (playE l).length ≤ l.length := by
  have : ∀ (l : List Act) (es : Es), (l.foldl stepA es).length ≤ es.length + l.length := by
    intro l
    induction l with
    | nil => intro es; exact Nat.le_refl _
    | cons a l ih =>
      intro es
      have h1 := ih (stepA es a)
      have h2 := step_len es a.op a.key a.id
      simp only [List.foldl_cons, List.length_cons]
      unfold stepA at h1 ⊢
      omega
  have h := this l []
  rw [List.length_nil, Nat.zero_add] at h
  exact h
def rgC (m g : Nat) (es : Es) : Ch := ⟨fun w F => Rg m w F g es, Rg.imp, Rg.kept⟩
/-- One piece, its blocks all made already; the way back. -/
theorem Run.atL {w₀ w : World} {F : Nat → Prop} {Ps : List Ch} {P : Ch} (h : Run w₀ F w Ps) (i : Nat) (hi : Ps[i]? = some P) : ∃ G, (∀ b, G b → (F b ∨ w₀.heap.size ≤ b) ∧ b < w.heap.size) ∧ P.p w G ∧
    ∀ (w' : World) (Q : Ch), Q.p w' (fun b => G b ∨ w.heap.size ≤ b) → Kept G w w' → Run w₀ F w' (Ps.set i Q) := by
  obtain ⟨G, h1, h2, h3⟩ := h.at i hi
  exact ⟨fun b => G b ∧ b < w.heap.size, fun b hb => ⟨h1 b hb.1, hb.2⟩, P.imp h2 (fun b hb h => ⟨h, hb⟩), fun w' Q hQ hk => h3 w' Q (Q.imp hQ (fun b _ h => h.imp (fun h => h.1) (fun h => h))) (hk.mono (fun b _ h => h.1))⟩
section
variable {w₀ w : World} {F : Nat → Prop} {Ps : List Ch} {i m g : Nat} {es : Es}
/-- A step of one registry among other pieces. -/
theorem run_step (h : Run w₀ F w Ps) (hi : Ps[i]? = some (rgC m g es)) (a : Act) (hk : a.key.size ≤ 1000000) (hn : es.length < 90000) :
    Calls Try.prog 11 #[ptrV g, .agg #[.int .i64 a.op, .string a.key, .int .i64 a.id]] w fun e w' => e = .returned (.bool (stepE es a.op a.key a.id).1) ∧ Run w₀ F w' (Ps.set i (rgC m g (stepA es a))) := by
  obtain ⟨G, hG, hp, hup⟩ := h.atL i hi
  exact (rg_step w G m g es a hp hk hn (fun b h => (hG b h).2)).mono fun e w' ⟨h1, h2, h3⟩ => ⟨h1, hup w' (rgC m g (stepA es a)) h2 h3⟩
theorem run_add (h : Run w₀ F w Ps) (hi : Ps[i]? = some (rgC m g es)) (k : ByteArray) (id : Int) (hk : k.size ≤ 1000000) (hn : es.length < 90000) :
    Calls Try.prog 16 #[ptrV g, .string k, .int .i64 id] w fun e w' => e = .returned (.bool (addE es k id).1) ∧ Run w₀ F w' (Ps.set i (rgC m g (addE es k id).2)) := by
  obtain ⟨G, hG, hp, hup⟩ := h.atL i hi
  exact (rg_add w G m g es k id hp hk hn (fun b h => (hG b h).2)).mono fun e w' ⟨h1, h2, h3⟩ => ⟨h1, hup w' (rgC m g (addE es k id).2) h2 h3⟩
theorem run_rem (h : Run w₀ F w Ps) (hi : Ps[i]? = some (rgC m g es)) (k : ByteArray) (id : Int) (hk : k.size ≤ 1000000) :
    Calls Try.prog 17 #[ptrV g, .string k, .int .i64 id] w fun e w' => e = .returned (.bool (remE es k id).1) ∧ Run w₀ F w' (Ps.set i (rgC m g (remE es k id).2)) := by
  obtain ⟨G, hG, hp, hup⟩ := h.atL i hi
  exact (rg_rem w G m g es k id hp hk).mono fun e w' ⟨h1, h2, h3⟩ => ⟨h1, hup w' (rgC m g (remE es k id).2) h2 h3⟩
theorem run_find (h : Run w₀ F w Ps) (hi : Ps[i]? = some (rgC m g es)) (k : ByteArray) (hk : k.size ≤ 1000000) :
    Calls Try.prog 12 #[ptrV g, .string k] w fun e w' => e = .returned (.int .i64 (fdE es k)) ∧ Pure w w' := rg_find w _ m g es k (h.get i hi) hk
theorem run_len (h : Run w₀ F w Ps) (hi : Ps[i]? = some (rgC m g es)) :
    Calls Try.prog 13 #[ptrV g] w fun e w' => e = .returned (.int .i64 (es.length : Nat)) ∧ w' = w := rg_len w _ m g es (h.get i hi)
theorem run_load (h : Run w₀ F w Ps) (hi : Ps[i]? = some (rgC m g es)) (s : Int) (hs : -9223372036854775808 ≤ s ∧ s ≤ 9223372036854775807) :
    Calls Try.prog 23 #[ptrV g, .int .i64 s] w fun e w' => e = .returned (.int .i64 (ldE m es s : Nat)) ∧ Pure w w' := rg_load w _ m g es s (h.get i hi) hs
/-- Under: a row of the call's own joins the pieces. -/
theorem run_under (h : Run w₀ F w Ps) (hi : Ps[i]? = some (rgC m g es)) (p : ByteArray) (hn : es.length ≤ 1000) :
    Calls Try.prog 15 #[ptrV g, .string p] w fun e w' => ∃ A c, e = .returned (.slice A (unE es p).length c) ∧ Run w₀ F w' (ownC 9 1 (.slice A (unE es p).length c) (unE es p).length ((unE es p).map Value.string) :: Ps) ∧ Pure w w' :=
  (rg_under w _ m g es p (h.get i hi) hn).mono fun e w' ⟨A, c, h1, h2, h3⟩ => ⟨A, c, h1, h.addOwn h3 h2, h3⟩
theorem run_new (h : Run w₀ F w Ps) (a : Int) (ha : a ≤ 64) :
    Calls Try.prog 10 #[.int .i64 a] w fun e w' => e = .returned (ptrV w.heap.size) ∧ Run w₀ F w' (rgC (mS a) w.heap.size [] :: Ps) ∧ Pure w w' :=
  (rg_new w a ha).mono fun e w' ⟨h1, h2, h3⟩ => ⟨h1, h.add (Q := rgC (mS a) w.heap.size []) h3 h2, h3⟩
end
end Go.Proofs.Ytmpbmfahnbbbdaa
