/-
  The walk by what is known of the slots: pieces of rows (s[i:], s[:i]), literal rows.
-/
import Derived.ChangeKeysEq
import Derived.Test.YtiddhcabpmkolaaGreatDoorZKa
set_option linter.unusedSimpArgs false
set_option linter.unusedVariables false
namespace Go.Proofs.YtiddhcabpmkolaaGreatDoor

set_option maxRecDepth 100000
open Go Go.RowKit
section
variable {P : Program} {w : World}
theorem run_und {t : TypeId} {d : TypeDesc} (h : P.underlying t = some d) : (underlying t).run P w = .ok d w := by
  unfold underlying
  simp only [Sem.run_bind]
  show Result.andThen (.ok P w) _ = _
  simp only [Result.andThen_ok, h]
  rfl
theorem run_bnd {n : Nat} {j : Nat} {code : BoundsCode} (h : j ≤ n) : (Instr.sliceBound (.int .i64 (j : Int)) n code).run P w = .ok j w := by
  unfold Instr.sliceBound
  simp only [asIntOf, Sem.run_bind, Sem.run_pure, Result.andThen_ok]
  rw [if_pos ⟨by omega, by omega⟩]
  rfl
/-- 's[:j]'. -/
theorem run_hi {ty e : TypeId} (ht : P.underlying ty = some (.slice e)) (hi : (P.info? e).isSome = true) {A : Option Addr} {n c j : Nat} (hj : j ≤ c) : (Instr.sliceAt ty (.slice A n c) none (some (.int .i64 (j : Int))) none).run P w = .ok (.slice A j c) w := by
  have hm : (if c = 0 then A else A.map (fun a => a.add (0 * P.cellsOf e))) = A := by
    split
    · rfl
    · cases A with
      | none => rfl
      | some a => simp only [Option.map_some, Nat.zero_mul, Addr.add]; rfl
  obtain ⟨i, hi⟩ := Option.isSome_iff_exists.1 hi
  unfold Instr.sliceAt
  simp only [Sem.run_bind, run_und ht, Result.andThen_ok]
  unfold Instr.slice Instr.sliceBounds
  simp only [Sem.run_bind, run_und ht, Result.andThen_ok, Sem.run_pure, run_bnd hj, run_sizeOf _ hi, hm, Nat.sub_zero]
/-- 's[j:]'. -/
theorem run_lo {ty e : TypeId} (ht : P.underlying ty = some (.slice e)) (hi : (P.info? e).isSome = true) {A : Option Addr} {n c j : Nat} (hj : j ≤ n) : (Instr.sliceAt ty (.slice A n c) (some (.int .i64 (j : Int))) none none).run P w = .ok (.slice (if c = j then A else A.map (fun a => a.add (j * P.cellsOf e))) (n - j) (c - j)) w := by
  obtain ⟨i, hi⟩ := Option.isSome_iff_exists.1 hi
  unfold Instr.sliceAt
  simp only [Sem.run_bind, run_und ht, Result.andThen_ok]
  unfold Instr.slice Instr.sliceBounds
  simp only [Sem.run_bind, run_und ht, Result.andThen_ok, Sem.run_pure, run_bnd hj, run_sizeOf _ hi]
variable {n d : Nat} {ops : Array Oper} {o : Oper} {k : Kn} {v : Value} {x y : Operand} {ty : TypeId} {u : Value} {a : Int}
theorem oZh {b : Int} (hr : (Instr.sliceAt ty u none (some (.int .i64 b)) none).run P w = .ok v w) (ho : o.op = .slice ty x none (some y) none := by exact rfl) (hx : knX k x = some u := by exact rfl) (hy : knX k y = some (.int .i64 b) := by exact rfl) : PR P k w o v := ⟨fun ρ hρ => by
  unfold execOp; rw [ho]
  simp only [Option.map, hρ _ _ hx, hρ _ _ hy, Sem.run_bind, hr, Result.andThen_ok]; rfl⟩
theorem oZl {b : Int} (hr : (Instr.sliceAt ty u (some (.int .i64 b)) none none).run P w = .ok v w) (ho : o.op = .slice ty x (some y) none none := by exact rfl) (hx : knX k x = some u := by exact rfl) (hy : knX k y = some (.int .i64 b) := by exact rfl) : PR P k w o v := ⟨fun ρ hρ => by
  unfold execOp; rw [ho]
  simp only [Option.map, hρ _ _ hx, hρ _ _ hy, Sem.run_bind, hr, Result.andThen_ok]; rfl⟩
theorem Sl.from {F : Nat → Prop} {A : Option Addr} {kk n c j : Nat} {xs : List Value} (h : Sl w F kk A n xs) (hj : j ≤ n) (hn : n ≤ c) (hk : 0 < kk) : Sl w F kk (if c = j then A else A.map (fun a => a.add (j * kk))) (n - j) (xs.drop (j * kk)) := by
  have hl := h.1
  have h1 : j * kk ≤ n * kk := Nat.mul_le_mul_right _ hj
  have h2 : (n - j) * kk = n * kk - j * kk := Nat.sub_mul _ _ _
  refine ⟨by rw [List.length_drop, hl, h2], fun hlt => ?_⟩
  rw [if_neg (by omega)]
  obtain ⟨b, o, rfl, hF, hb, hc⟩ := h.2 (by omega)
  rcases Nat.eq_zero_or_pos j with rfl | hj0
  · refine ⟨b, o, ?_, hF, hb, fun i hi => ?_⟩
    · simp [Addr.add]
    · rw [List.length_drop] at hi
      rw [hc i (by omega), List.getElem?_drop]; congr 1; omega
  · have hne : ¬ j * kk = 0 := by have := Nat.mul_pos hj0 hk; omega
    refine ⟨b, o + j * kk, ?_, hF, hb, fun i hi => ?_⟩
    · simp only [Option.map_some, Addr.add, if_neg hne]
    · rw [List.length_drop] at hi
      rw [Nat.add_assoc, hc (j * kk + i) (by omega), List.getElem?_drop]
end
end Go.Proofs.YtiddhcabpmkolaaGreatDoor
