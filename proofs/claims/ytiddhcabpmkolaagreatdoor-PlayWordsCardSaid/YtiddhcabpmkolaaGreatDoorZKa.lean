/-
  The walk by what is known of the slots: nil checks, sums, appends; runs of steps in one word (gg: a stretch of code; gs: a region that draws its order). The walk by what is known of the slots: regions that draw their order, with movers (stores, appends, calls), late ones too. The walk by what is known of the slots: a region that draws its order, whose calls leave the world as it was. The walk by what is known of the slots: regions that draw their order, with movers that are not ordered among themselves: one walk for each order.
-/
import Derived.Test.YtiddhcabpmkolaaGreatDoorZBlk
import Derived.Test.YtiddhcabpmkolaaGreatDoorZFree
import Derived.Test.YtiddhcabpmkolaaGreatDoorZTn
import Derived.Test.YtiddhcabpmkolaaGreatDoorZOmB
set_option linter.unusedSimpArgs false
set_option linter.unusedVariables false
namespace Go.Proofs.YtiddhcabpmkolaaGreatDoor

set_option maxRecDepth 100000
open Go Go.RowKit
section
variable {P : Program} {n d : Nat} {ops : Array Oper} {o : Oper} {rest l : List Oper} {Q : Exit → Act → World → Prop} {N : Act → World → Prop} {k : Kn} {w : World} {v : Value} {c c1 c2 : Code} {x y : Operand} {ty ty' : TypeId} {u u1 u2 : Value} {a b : Int}
theorem oE (hv : evK k o.op = some v := by exact rfl) : PR P k w o v := PR.ev hv
theorem oC {op : BinOp} {c b : Bool} (ho : o.op = .binOp op ty x y ty' := by exact rfl) (hv : evK k (.binOp op ty x y ty') = some (.bool c) := by exact rfl) (hc : c = b := by with_reducible assumption) : PR P k w o (.bool b) := PR.evc ho hv hc
theorem oF {i : Nat} (ho : o.op = .fieldAddr ty x i := by exact rfl) (hx : knX k x = some u := by exact rfl) (hr : (Instr.fieldAt ty u i).run P w = .ok v w := by go_simp; first | done | rfl) : PR P k w o v := PR.fa ho hx hr
theorem oL (ho : o.op = .load ty x := by exact rfl) (hx : knX k x = some u := by exact rfl) (hr : (Instr.loadAt ty u).run P w = .ok v w := by go_simp; first | done | rfl) : PR P k w o v := PR.ld ho hx hr
theorem oI (ho : o.op = .indexAddr ty x y := by exact rfl) (hx : knX k x = some u1 := by exact rfl) (hy : knX k y = some u2 := by exact rfl) (hr : (Instr.indexAt ty u1 u2).run P w = .ok v w := by go_simp; first | done | rfl) : PR P k w o v := PR.ia ho hx hy hr
theorem oW {ats : Array TypeId} (ho : o.op = .call { callee := .builtin .len, args := #[x], argTypes := ats } := by exact rfl) (hx : knX k x = some u := by exact rfl) (hr : (Builtin.len_ ats o.type #[u]).run P w = .ok v w := by go_simp; first | done | rfl) : PR P k w o v := PR.len ho hx hr
theorem oX {i : Nat} (ho : o.op = .extract x i := by exact rfl) (hx : knX k x = some u := by exact rfl) (hr : (Instr.extract u i).run P w = .ok v w := by go_simp; first | done | rfl) : PR P k w o v := PR.ex ho hx hr
theorem oV {p : Addr} (ho : o.op = .nilCheck x := by exact rfl) (hx : knX k x = some (.pointer (some p)) := by exact rfl) : PR P k w o (.pointer (some p)) := ⟨fun ρ hρ => by unfold execOp; rw [ho]; simp only [hρ _ _ hx]; rfl⟩
theorem oA (ho : o.op = .binOp .add ty x y ty' := by exact rfl) (hx : knX k x = some (.int .i64 a) := by exact rfl) (hy : knX k y = some (.int .i64 b) := by exact rfl) (hb : -9223372036854775808 ≤ a + b ∧ a + b ≤ 9223372036854775807 := by omega) : PR P k w o (.int .i64 (a + b)) :=
  PR.bop ho hx hy (by
    simp only [eqGuard, binOp, Op.intArith, Sem.run_bind]
    have := IntWalk.i64_in (a + b) hb
    rw [this]; rfl)
theorem oS (ho : o.op = .binOp .sub ty x y ty' := by exact rfl) (hx : knX k x = some (.int .i64 a) := by exact rfl) (hy : knX k y = some (.int .i64 b) := by exact rfl) (hb : -9223372036854775808 ≤ a - b ∧ a - b ≤ 9223372036854775807 := by omega) : PR P k w o (.int .i64 (a - b)) :=
  PR.bop ho hx hy (by
    simp only [eqGuard, binOp, Op.intArith, Sem.run_bind]
    have := IntWalk.i64_in (a - b) hb
    rw [this]; rfl)
theorem oM {ats : Array TypeId} (ho : o.op = .call { callee := .builtin .max, args := #[x, y], argTypes := ats } := by exact rfl) (hx : knX k x = some (.int .i64 a) := by exact rfl) (hy : knX k y = some (.int .i64 b) := by exact rfl) : PR P k w o (.int .i64 (max a b)) := ⟨fun ρ hρ => by
  have e : execOp ρ o = (do pure (Next.value (← Builtin.max_ ats o.type #[.int .i64 a, .int .i64 b]))) := by
    unfold execOp
    rw [ho]
    show (do let d ← resolve ρ { callee := .builtin .max, args := #[x, y], argTypes := ats } o.type; invoke d.target d.args) = _
    unfold resolve
    simp only [List.map_toArray, List.map_cons, List.map_nil, hρ _ _ hx, hρ _ _ hy]
    rfl
  have e2 : (if b > a then b else a) = max a b := by omega
  rw [e, Sem.run_bind]
  show Result.andThen ((pure (Value.int .i64 (if b > a then b else a)) : Sem Value).run P w) _ = _
  rw [e2]; rfl⟩
theorem oN {ats : Array TypeId} (ho : o.op = .call { callee := .builtin .min, args := #[x, y], argTypes := ats } := by exact rfl) (hx : knX k x = some (.int .i64 a) := by exact rfl) (hy : knX k y = some (.int .i64 b) := by exact rfl) : PR P k w o (.int .i64 (min a b)) := ⟨fun ρ hρ => by
  have e : execOp ρ o = (do pure (Next.value (← Builtin.min_ ats o.type #[.int .i64 a, .int .i64 b]))) := by
    unfold execOp
    rw [ho]
    show (do let d ← resolve ρ { callee := .builtin .min, args := #[x, y], argTypes := ats } o.type; invoke d.target d.args) = _
    unfold resolve
    simp only [List.map_toArray, List.map_cons, List.map_nil, hρ _ _ hx, hρ _ _ hy]
    rfl
  have e2 : (if b < a then b else a) = min a b := by omega
  rw [e, Sem.run_bind]
  show Result.andThen ((pure (Value.int .i64 (if b < a then b else a)) : Sem Value).run P w) _ = _
  rw [e2]; rfl⟩
def cmpT (op : BinOp) (s t : ByteArray) : Option Bool :=
  match op with
  | .geq => some (!Op.bytesLess s.toList t.toList)
  | .gtr => some (Op.bytesLess t.toList s.toList)
  | .leq => some (!Op.bytesLess t.toList s.toList)
  | _ => none
theorem less_or (s t : ByteArray) : (Op.bytesLess s.toList t.toList || s.toList == t.toList) = !Op.bytesLess t.toList s.toList := by
  have hbe : (s.toList == t.toList) = decide (kb s = kb t) := by
    rw [Bool.eq_iff_iff, beq_iff_eq, decide_eq_true_iff, ByteArray.toList_eq, ByteArray.toList_eq]
    exact Iff.rfl
  rw [hbe, str_lt, str_lt]
  by_cases h1 : kb s < kb t
  · have h2 : ¬ kb t < kb s := fun h => List.lt_irrefl _ (List.lt_trans h1 h)
    simp [h1, h2]
  · by_cases h2 : kb s = kb t
    · rw [h2]; simp [List.lt_irrefl]
    · have h3 : kb t < kb s := by
        rcases List.le_total (kb s) (kb t) with h | h
        · exact absurd (Std.lt_of_le_of_ne h h2) h1
        · exact Std.lt_of_le_of_ne h (fun e => h2 e.symm)
      simp [h1, h2, h3]
theorem oT {op : BinOp} {s t : ByteArray} {c b : Bool} (ho : o.op = .binOp op ty x y ty' := by exact rfl) (hx : knX k x = some (.string s) := by exact rfl) (hy : knX k y = some (.string t) := by exact rfl) (hv : cmpT op s t = some c := by exact rfl) (hc : c = b := by with_reducible assumption) : PR P k w o (.bool b) :=
  PR.bop ho hx hy (by
    subst hc
    have e1 := less_or s t
    have e2 : (!(Op.bytesLess s.toList t.toList || s.toList == t.toList)) = Op.bytesLess t.toList s.toList := by rw [e1]; simp
    cases op <;> simp only [cmpT] at hv <;> first | (cases hv; done) | skip
    all_goals (simp only [Option.some.injEq] at hv; subst hv; simp only [eqGuard, binOp, Op.stringOp, Sem.run_bind]; first | rfl | (rw [e1]; rfl) | (rw [e2]; rfl)))
theorem oU (ho : o.op = .unOp .neg ty x := by exact rfl) (hx : knX k x = some (.int .i64 a) := by exact rfl) (hb : -9223372036854775808 ≤ -a ∧ -a ≤ 9223372036854775807 := by omega) : PR P k w o (.int .i64 (-a)) := ⟨fun ρ hρ => by
  unfold execOp; rw [ho]; simp only [hρ _ _ hx]
  have := IntWalk.i64_in (-a) hb
  go_simp
  first | done | (rw [this]; rfl) | rfl⟩
theorem oB {op : BinOp} {s t : Bool} (ho : o.op = .binOp op ty x y ty' := by exact rfl) (hx : knX k x = some (.bool s) := by exact rfl) (hy : knX k y = some (.bool t) := by exact rfl) (hr : (do eqGuard op ty x y (.bool s) (.bool t); binOp op ty (.bool s) (.bool t) : Sem Value).run P w = .ok v w := by go_simp; first | done | rfl) : PR P k w o v := PR.bop ho hx hy hr
/-- At a loop's round's end, whatever the measure was. -/
theorem KE.rnd2 {ι : Type} {K : ι → Kn} {R : ι → World → Prop} {m : ι → Nat} {M : Nat} (j : ι) (hk : kle (K j) k) (hR : R j w) (hm : m j < M) : KE n (Exit.then (fun a w'' => ∃ j, KA n (K j) a ∧ R j w'' ∧ m j < M) Q) k w :=
  ⟨fun a ha => ⟨j, ha.forget (kle_ok hk), hR, hm⟩⟩
theorem KR.fin3 {fn : Func} {R : Ending → World → Prop} {t1 t2 t3 : Nat} {v1 v2 v3 : Value} (hf : fn.results = #[.tmp t1, .tmp t2, .tmp t3]) (h1 : k.lookup t1 = some v1) (h2 : k.lookup t2 = some v2) (h3 : k.lookup t3 = some v3) (hR : R (.returned (.tuple #[v1, v2, v3])) w) : KR n (bodyPost P fn R) k w :=
  KR.fin (fun a ha => by rw [results_tmp3 hf, ha.getD h1, ha.getD h2, ha.getD h3]) hR
theorem res_tmp4 {fn : Func} {t u v x : Tmp} (h : fn.results = #[.tmp t, .tmp u, .tmp v, .tmp x]) (tmps : Array Value) (P : Program) (w : World) : (results fn tmps).run P w = .ok (.tuple #[tmps.getD t undef, tmps.getD u undef, tmps.getD v undef, tmps.getD x undef]) w := by
  simp [results, h]
theorem KR.fin4 {fn : Func} {R : Ending → World → Prop} {t1 t2 t3 t4 : Nat} {v1 v2 v3 v4 : Value} (hf : fn.results = #[.tmp t1, .tmp t2, .tmp t3, .tmp t4]) (h1 : k.lookup t1 = some v1) (h2 : k.lookup t2 = some v2) (h3 : k.lookup t3 = some v3) (h4 : k.lookup t4 = some v4) (hR : R (.returned (.tuple #[v1, v2, v3, v4])) w) : KR n (bodyPost P fn R) k w :=
  KR.fin (fun a ha => by rw [res_tmp4 hf, ha.getD h1, ha.getD h2, ha.getD h3, ha.getD h4]) hR
theorem kp (h : KL P n ops rest Q ((d, v) :: k) w) (hv : PR P k w o v) (hd : o.dst = some d := by exact rfl) (hw : knWant ops k o = some true := by exact rfl) (hn : Nat.blt d n = true := by exact rfl) : KL P n ops (o :: rest) Q k w := KL.told hd hw hn hv.run h
theorem sk {ms us : List Nat} {S : World → Prop} {i : Nat} (h : KS P n ops ms us S (i + 1) rest Q ((d, undef) :: k) w) (hd : o.dst = some d := by exact rfl) (hw : knWant ops k o = some false := by exact rfl) (hn : Nat.blt d n = true := by exact rfl) : KS P n ops ms us S i (o :: rest) Q k w := KS.skip hd hw hn h
theorem sp {ms us : List Nat} {S : World → Prop} {i : Nat} (h : KS P n ops ms us S (i + 1) rest Q ((d, v) :: k) w) (hv : PR P k w o v) (hd : o.dst = some d := by exact rfl) (hw : knWant ops k o = some true := by exact rfl) (hn : Nat.blt d n = true := by exact rfl) (hi : (!ms.contains i && !us.contains i) = true := by decide) : KS P n ops ms us S i (o :: rest) Q k w := KS.pr hi hd hw hv hn h
theorem sd {id : Nat} (h : KS P n l.toArray [] [] (fun _ => True) 0 l Q k w.drew) (hm : P.follows .mixedOrders = true := by kernel_rfl) (hB : freeB .any l.toArray = true := by kernel_rfl) (hS : seqB l.toArray [] [] .any = true := by kernel_rfl) : KW P n (.region id l.toArray true) Q k w := KW.regionS (fun _ => True) [] [] hm hB hS trivial h
/-- 'append(v, x...)', of a row that is ours. -/
theorem KL.app {w₀ : World} {F : Nat → Prop} {Ps : List Ch} (hr : Run w₀ F w Ps) (i : Nat) {e : TypeId} {kk : Nat} {z : Value} {by_ nn : Nat} {xs : List Value} (hi : Ps[i]? = some (ownC e kk v nn xs)) (ht : P.underlying ty = some (.slice e)) (hI : (P.info? e).map (fun i => (i.zero, i.size, i.bytes)) = some (some z, kk, by_)) (hzs : z.cells.size = kk) (hk : 0 < kk)
    {A : Option Addr} {m cc : Nat} {G : Nat → Prop} {news : List Value} (hs : Sl w G kk A m news) (h1 : ∀ u ∈ news, u.oneCell' = true) (hbytes : nn + m ≤ 1073741824) (hb2 : by_ ≤ 65536)
    (hd : o.dst = some d) (hgd : o.guard = none) (ho : o.op = .call { callee := .builtin .append, args := #[x, y], argTypes := #[ty, ty] }) (hx : knX k x = some v) (hy : knX k y = some (.slice A m cc)) (hn : Nat.blt d n = true)
    (h : ∀ A' c' w', nn + m ≤ c' → c' ≤ maxLen → Run w₀ F w' (Ps.set i (ownC e kk (.slice A' (nn + m) c') (nn + m) (xs ++ news))) → KL P n ops rest Q ((d, .slice A' (nn + m) c') :: k) w') : KL P n ops (o :: rest) Q k w := ⟨fun a ha =>
  hr.app i hi ht hI hzs hk hs h1 hbytes hb2 hgd x y ho (ha.fits _ _ hx) (ha.fits _ _ hy) (fun v' w' hf hr' => by
    obtain ⟨A', c', rfl, e1, e2⟩ := hf
    rw [hd]
    exact (h A' c' w' e1 e2 hr').go _ (ha.put (Nat.le_of_ble_eq_true hn)))⟩
end
/-- Runs of steps: all that the goal's form and what is known decide. -/
theorem gg {g g' : Prop} (h : g') (t : Hid g' → g := by intro h; (repeat (first | refine qc ?_ | refine qe ?_ | refine qs ?_ | refine qq ?_ | refine qn ?_ | refine qy ?_ | refine qf ?_ | refine ql ?_ | refine qi ?_ | refine qw ?_ | refine qx ?_ | refine qr ?_ | refine kp ?_ oV | refine kp ?_ oA | refine kp ?_ oS | refine kp ?_ oM | refine kp ?_ oN | refine kp ?_ oT | refine kp ?_ oU | refine kp ?_ oB)); exact h.out) : g := t (Lib.hid h)
theorem gs {g g' : Prop} (h : g') (t : Hid g' → g := by intro h; (repeat (first | refine sk ?_ | refine sp ?_ oC | refine sp ?_ oE | refine sp ?_ oF | refine sp ?_ oL | refine sp ?_ oI | refine sp ?_ oW | refine sp ?_ oX | refine sp ?_ oV | refine sp ?_ oA | refine sp ?_ oS | refine sp ?_ oM | refine sp ?_ oN | refine sp ?_ oT | refine sp ?_ oU | refine sp ?_ oB | refine KS.nil ?_)); exact h.out) : g := t (Lib.hid h)
/-- A stretch of code in which regions that draw only read. -/
theorem gd {g g' : Prop} (h : g') (t : Hid g' → g := by intro h; (repeat (first | refine qc ?_ | refine qe ?_ | refine qs ?_ | refine qq ?_ | refine qn ?_ | refine qy ?_ | refine qf ?_ | refine ql ?_ | refine qi ?_ | refine qw ?_ | refine qx ?_ | refine qr ?_ | refine kp ?_ oV | refine kp ?_ oA | refine kp ?_ oS | refine kp ?_ oM | refine kp ?_ oN | refine kp ?_ oT | refine kp ?_ oU | refine kp ?_ oB | refine sd ?_ | refine sk ?_ | refine sp ?_ oC | refine sp ?_ oE | refine sp ?_ oF | refine sp ?_ oL | refine sp ?_ oI | refine sp ?_ oW | refine sp ?_ oX | refine sp ?_ oV | refine sp ?_ oA | refine sp ?_ oS | refine sp ?_ oM | refine sp ?_ oN | refine sp ?_ oT | refine sp ?_ oU | refine sp ?_ oB | refine KS.nil ?_)); exact h.out) : g := t (Lib.hid h)
end Go.Proofs.YtiddhcabpmkolaaGreatDoor
set_option linter.unusedSimpArgs false
set_option linter.unusedVariables false
namespace Go.Proofs.YtiddhcabpmkolaaGreatDoor

set_option maxRecDepth 100000
open Go Go.RowKit
structure KT (P : Program) (n : Nat) (ops : Array Oper) (ms us ls : List Nat) (S : World → Prop) (i : Nat) (l : List Oper) (Q : Exit → Act → World → Prop) (k : Kn) (w : World) : Prop where
  go : ∀ a, KA n k a → wpLate P ops ms us ls S (fun a w => Q .normal a w) i l a w
section
variable {P : Program} {n d id i : Nat} {ops : Array Oper} {ms us ls : List Nat} {S : World → Prop} {o : Oper} {rest l : List Oper} {Q : Exit → Act → World → Prop} {k : Kn} {w : World} {v : Value} {x y : Operand} {ty ty' : TypeId}
theorem KW.regionT (S : World → Prop) (ms us ls : List Nat) (hm : P.follows .mixedOrders = true) (hB : freeB .any l.toArray = true) (hS : seqB l.toArray ms us .any = true) (hl : lateB ls us l.toArray .any = true) (hw : S w.drew) (h : KT P n l.toArray ms us ls S 0 l Q k w.drew) : KW P n (.region id l.toArray true) Q k w :=
  ⟨fun a ha => wp_region_late S ms us ls hm hB hS hl hw (h.go a ha)⟩
theorem KT.nil (h : KE n Q k w) : KT P n ops ms us ls S i [] Q k w := ⟨fun a ha => h.go a ha⟩
theorem tk (h : KT P n ops ms us ls S (i + 1) rest Q ((d, undef) :: k) w) (hd : o.dst = some d := by exact rfl) (hw : knWant ops k o = some false := by exact rfl) (hn : Nat.blt d n = true := by exact rfl) : KT P n ops ms us ls S i (o :: rest) Q k w := ⟨fun a ha => by
  simp only [wpLate]
  rw [if_neg (by rw [knWant_ok ha hw]; exact Bool.false_ne_true), hd]
  exact h.go _ (ha.put (Nat.le_of_ble_eq_true hn))⟩
theorem tp (h : KT P n ops ms us ls S (i + 1) rest Q ((d, v) :: k) w) (hv : PR P k w o v) (hd : o.dst = some d := by exact rfl) (hw : knWant ops k o = some true := by exact rfl) (hn : Nat.blt d n = true := by exact rfl) (hi : (!ms.contains i && !us.contains i) = true := by decide) : KT P n ops ms us ls S i (o :: rest) Q k w := ⟨fun a ha => by
  have h1 : i ∉ ms := by simp at hi; exact hi.1
  have h2 : i ∉ us := by simp at hi; exact hi.2
  simp only [wpLate]
  rw [if_pos (knWant_ok ha hw), if_neg h1, if_neg h2]
  refine ⟨v, hv.run _ ha.fits, ?_⟩
  rw [hd]
  exact h.go _ (ha.put (Nat.le_of_ble_eq_true hn))⟩
theorem tu (h : KT P n ops ms us ls S (i + 1) rest Q ((d, v) :: k) w) (hv : ∀ y, S y → PR P k y o v) (hd : o.dst = some d := by exact rfl) (hw : knWant ops k o = some true := by exact rfl) (hn : Nat.blt d n = true := by exact rfl) (hi : (!ms.contains i && us.contains i) = true := by decide) : KT P n ops ms us ls S i (o :: rest) Q k w := ⟨fun a ha => by
  have h1 : i ∉ ms := by simp at hi; exact hi.1
  have h2 : i ∈ us := by simp at hi; exact hi.2
  simp only [wpLate]
  rw [if_pos (knWant_ok ha hw), if_neg h1, if_pos h2]
  refine ⟨v, fun x hx => (hv x hx).run _ ha.fits, ?_⟩
  rw [hd]
  exact h.go _ (ha.put (Nat.le_of_ble_eq_true hn))⟩
/-- A call. -/
theorem KT.call {f : FuncId} {xs : List Operand} {ats : Array TypeId} {args : List Value} {R : Ending → World → Prop} (hi : ms.contains i = true) (hd : o.dst = some d) (hw : knWant ops k o = some true) (ho : o.op = .call { callee := .value (.func f), args := xs.toArray, argTypes := ats }) (ha : argsK k xs = some args) (hn : Nat.blt d n = true)
    (hf : (callFunc f args.toArray).run P w = .ok (.enter f args.toArray) w) (hc : Calls P f args.toArray w R)
    (h : ∀ e w', R e w' → ∃ v, e = .returned v ∧ (i ∉ ls → S w') ∧ KT P n ops ms us ls S (i + 1) rest Q ((d, v) :: k) w') : KT P n ops ms us ls S i (o :: rest) Q k w := ⟨fun a hA => by
  have h1 : i ∈ ms := by simpa using hi
  simp only [wpLate]
  rw [if_pos (knWant_ok hA hw), if_pos h1]
  have hfn := hA.fits (.func f) _ rfl
  have e : execOp a.eval o = callFunc f (#[] ++ xs.toArray.map a.eval ++ #[]) := by
    unfold execOp
    rw [ho]
    show (do let d ← resolve a.eval { callee := .value (.func f), args := xs.toArray, argTypes := ats } o.type; invoke d.target d.args) = _
    unfold resolve
    simp only [hfn]
    rfl
  have e2 : (#[] ++ xs.toArray.map a.eval ++ #[] : Array Value) = args.toArray := by simp [argsK_map hA.fits ha]
  rw [e, e2, hf]
  refine Calls.mono hc fun e w' hR => ?_
  obtain ⟨v, rfl, hs, hk⟩ := h e w' hR
  refine ⟨v, rfl, hs, ?_⟩
  rw [hd]
  exact hk.go _ (hA.put (Nat.le_of_ble_eq_true hn))⟩
theorem KT.stores {w' : World} (hi : ms.contains i = true) (hd : o.dst = none) (hw : knWant ops k o = some true) (hv : ∀ ρ, Fits k ρ → (execOp ρ o).run P w = .ok .skip w') (hs : i ∉ ls → S w') (h : KT P n ops ms us ls S (i + 1) rest Q k w') : KT P n ops ms us ls S i (o :: rest) Q k w := ⟨fun a ha => by
  have h1 : i ∈ ms := by simpa using hi
  simp only [wpLate]
  rw [if_pos (knWant_ok ha hw), if_pos h1, hv _ ha.fits, hd]
  exact ⟨hs, h.go _ ha⟩⟩
theorem KT.makes {w' : World} (hi : ms.contains i = true) (hd : o.dst = some d) (hw : knWant ops k o = some true) (hn : Nat.blt d n = true) (hv : ∀ ρ, Fits k ρ → (execOp ρ o).run P w = .ok (.value v) w') (hs : i ∉ ls → S w') (h : KT P n ops ms us ls S (i + 1) rest Q ((d, v) :: k) w') : KT P n ops ms us ls S i (o :: rest) Q k w := ⟨fun a ha => by
  have h1 : i ∈ ms := by simpa using hi
  simp only [wpLate]
  rw [if_pos (knWant_ok ha hw), if_pos h1, hv _ ha.fits, hd]
  exact ⟨hs, h.go _ (ha.put (Nat.le_of_ble_eq_true hn))⟩⟩
theorem KL.store1 {w₀ : World} {F : Nat → Prop} {Ps : List Ch} (hr : Run w₀ F w Ps) (m : Nat) {g : Nat} {t : TypeId} {cs : Array Value} (j : Nat) (hp : Ps[m]? = some (blkC g t cs)) (hd : o.dst = none) (hw : knWant ops k o = some true) (ho : o.op = .store ty x y) (hx : knX k x = some (.pointer (some ⟨g, j, none⟩))) (hy : knX k y = some v)
    (hs : (Instr.storeAt ty (.pointer (some ⟨g, j, none⟩)) v).run P w = .ok () (w.setCell ⟨g, j, none⟩ v))
    (h : ∀ w', w' = w.setCell ⟨g, j, none⟩ v → Run w₀ F w' (Ps.set m (blkC g t (cs.setIfInBounds j v))) → KL P n ops rest Q k w') : KL P n ops (o :: rest) Q k w :=
  KL.stores hd hw (fun ρ hρ => by
    unfold execOp
    rw [ho]
    simp only [hρ _ _ hx, hρ _ _ hy, Sem.run_bind, hs]
    rfl) (h _ rfl (hr.set m hp j v))
theorem KT.store1 {w₀ : World} {F : Nat → Prop} {Ps : List Ch} (hr : Run w₀ F w Ps) (m : Nat) {g : Nat} {t : TypeId} {cs : Array Value} (j : Nat) (hp : Ps[m]? = some (blkC g t cs)) (hi : ms.contains i = true) (hd : o.dst = none) (hw : knWant ops k o = some true) (ho : o.op = .store ty x y) (hx : knX k x = some (.pointer (some ⟨g, j, none⟩))) (hy : knX k y = some v)
    (hs : (Instr.storeAt ty (.pointer (some ⟨g, j, none⟩)) v).run P w = .ok () (w.setCell ⟨g, j, none⟩ v))
    (h : ∀ w', w' = w.setCell ⟨g, j, none⟩ v → Run w₀ F w' (Ps.set m (blkC g t (cs.setIfInBounds j v))) → (i ∉ ls → S w') ∧ KT P n ops ms us ls S (i + 1) rest Q k w') : KT P n ops ms us ls S i (o :: rest) Q k w :=
  KT.stores hi hd hw (fun ρ hρ => by
    unfold execOp
    rw [ho]
    simp only [hρ _ _ hx, hρ _ _ hy, Sem.run_bind, hs]
    rfl) (h _ rfl (hr.set m hp j v)).1 (h _ rfl (hr.set m hp j v)).2
/-- 'append(v, x...)', of a row that is ours. -/
theorem KT.app {w₀ : World} {F : Nat → Prop} {Ps : List Ch} (hr : Run w₀ F w Ps) (m : Nat) {e : TypeId} {kk : Nat} {z : Value} {by_ nn : Nat} {xs : List Value} (hp : Ps[m]? = some (ownC e kk v nn xs)) (ht : P.underlying ty = some (.slice e)) (hI : (P.info? e).map (fun i => (i.zero, i.size, i.bytes)) = some (some z, kk, by_)) (hzs : z.cells.size = kk) (hk : 0 < kk)
    {A : Option Addr} {mm cc : Nat} {G : Nat → Prop} {news : List Value} (hs : Sl w G kk A mm news) (h1 : ∀ u ∈ news, u.oneCell' = true) (hbytes : nn + mm ≤ 1073741824) (hb2 : by_ ≤ 65536)
    (hi : ms.contains i = true) (hd : o.dst = some d) (hw : knWant ops k o = some true) (ho : o.op = .call { callee := .builtin .append, args := #[x, y], argTypes := #[ty, ty] }) (hx : knX k x = some v) (hy : knX k y = some (.slice A mm cc)) (hn : Nat.blt d n = true)
    (h : ∀ A' c' w', nn + mm ≤ c' → c' ≤ maxLen → w.heap.size ≤ w'.heap.size → Run w₀ F w' (Ps.set m (ownC e kk (.slice A' (nn + mm) c') (nn + mm) (xs ++ news))) → (i ∉ ls → S w') ∧ KT P n ops ms us ls S (i + 1) rest Q ((d, .slice A' (nn + mm) c') :: k) w') : KT P n ops ms us ls S i (o :: rest) Q k w := ⟨fun a ha => by
  have h1' : i ∈ ms := by simpa using hi
  simp only [wpLate]
  rw [if_pos (knWant_ok ha hw), if_pos h1']
  obtain ⟨G', _, h2, h3⟩ := hr.at m hp
  refine up_app ht hI hzs hk h2 hs h1 hbytes hb2 x y ho (ha.fits _ _ hx) (ha.fits _ _ hy) (fun v' w' h4 h5 => ?_)
  have hr' := h3 w' (ownC e kk v' (nn + mm) (xs ++ news)) (h4.imp (fun b _ e => e.imp id (fun e => by omega))) h5
  obtain ⟨A', c', e1, e2, e3, _⟩ := h4.form
  subst e1
  obtain ⟨k1, k2⟩ := h A' c' w' e2 e3 h5.size hr'
  refine ⟨k1, ?_⟩
  rw [hd]
  exact k2.go _ (ha.put (Nat.le_of_ble_eq_true hn))⟩
end
/-- In a region that draws: all that only reads; where a mover is unordered with it, it reads a block that the class S knows. -/
theorem gt {g g' : Prop} (h : g') (t : Hid g' → g := by intro h; (repeat (first | refine tk ?_ | refine tp ?_ oC | refine tp ?_ oE | refine tp ?_ oF | refine tp ?_ oL | refine tp ?_ oI | refine tp ?_ oW | refine tp ?_ oX | refine tp ?_ oV | refine tp ?_ oA | refine tp ?_ oS | refine tp ?_ oM | refine tp ?_ oN | refine tp ?_ oT | refine tp ?_ oU | refine tp ?_ oB | refine tu ?_ (fun y hy => oE) | refine tu ?_ (fun y hy => oV) | refine tu ?_ (fun y hy => oF) | refine tu ?_ (fun y hy => oC) | refine tu ?_ (fun y hy => by have hcy := Blk.cell hy; exact oL) | refine tu ?_ (fun y hy => oI) | refine tu ?_ (fun y hy => oW) | refine tu ?_ (fun y hy => oA) | refine tu ?_ (fun y hy => oS) | refine KT.nil ?_)); exact h.out) : g := t (Lib.hid h)
end Go.Proofs.YtiddhcabpmkolaaGreatDoor
set_option linter.unusedSimpArgs false
set_option linter.unusedVariables false
namespace Go.Proofs.YtiddhcabpmkolaaGreatDoor

set_option maxRecDepth 100000
open Go Go.RowKit
/-- A region in which nothing turns the world; f: what the calls yield, by their places. -/
structure KQ (P : Program) (n : Nat) (ops : Array Oper) (f : Kn) (i : Nat) (l : List Oper) (Q : Exit → Act → World → Prop) (k : Kn) (w : World) : Prop where
  go : ∀ a F, KA n k a → wpFree P ops .any (fun x => x = w) (fun _ _ _ => True) (f.map (·.1)) (fun _ => []) (fun i v _ => f.lookup i = some v) (fun a w => Q .normal a w) i l F a
section
variable {P : Program} {n d id i : Nat} {ops : Array Oper} {f : Kn} {o : Oper} {rest l : List Oper} {Q : Exit → Act → World → Prop} {k : Kn} {w : World} {v : Value}
theorem KW.quiet (f : Kn) (h : KQ P n l.toArray f 0 l Q k w.drew) (hm : P.follows .mixedOrders = true := by kernel_rfl) (hB : freeB .any l.toArray = true := by kernel_rfl) : KW P n (.region id l.toArray true) Q k w :=
  ⟨fun a ha => wp_region_free (fun x => x = w.drew) (fun _ _ _ => True) (f.map (·.1)) (fun _ => []) (fun i v _ => f.lookup i = some v) hm hB (fun _ _ _ _ _ _ _ _ _ _ h => h) rfl (h.go a [] ha)⟩
theorem KQ.nil (h : KE n Q k w) : KQ P n ops f i [] Q k w := ⟨fun a F ha => free_nil (fun w' e _ => by subst e; exact h.go a ha)⟩
theorem mem_look : ∀ {f : Kn} {i : Nat} {v : Value}, f.lookup i = some v → i ∈ f.map (·.1)
  | [], i, v, h => by cases h
  | (j, u) :: f, i, v, h => by
    rw [List.lookup_cons] at h
    by_cases e : i = j
    · subst e; simp
    · have e' : (i == j) = false := by simpa using e
      rw [e'] at h
      exact List.mem_cons_of_mem _ (mem_look h)
theorem qk0 (h : KQ P n ops f (i + 1) rest Q ((d, undef) :: k) w) (hd : o.dst = some d := by exact rfl) (hw : knWant ops k o = some false := by exact rfl) (hn : Nat.blt d n = true := by exact rfl) : KQ P n ops f i (o :: rest) Q k w := ⟨fun a F ha => by
  simp only [wpFree]
  rw [if_neg (by rw [knWant_ok ha hw]; exact Bool.false_ne_true), hd]
  exact h.go _ _ (ha.put (Nat.le_of_ble_eq_true hn))⟩
theorem qk1 (h : KQ P n ops f (i + 1) rest Q ((d, v) :: k) w) (hv : PR P k w o v) (hd : o.dst = some d := by exact rfl) (hw : knWant ops k o = some true := by exact rfl) (hn : Nat.blt d n = true := by exact rfl) (hi : f.lookup i = none := by exact rfl) : KQ P n ops f i (o :: rest) Q k w := ⟨fun a F ha => by
  have hno : i ∉ f.map (·.1) := fun hm => by
    obtain ⟨p, hp, e⟩ := List.mem_map.1 hm
    obtain ⟨j, u⟩ := p
    simp only at e
    subst e
    have : ∀ {f : Kn}, (j, u) ∈ f → f.lookup j ≠ none := by
      intro f
      induction f with
      | nil => intro h; cases h
      | cons q f ih =>
        intro h
        rw [show q = (q.1, q.2) from rfl, List.lookup_cons]
        by_cases e : j = q.1
        · rw [show (j == q.1) = true by simpa using e]; simp
        · rw [show (j == q.1) = false by simpa using e]
          rcases List.mem_cons.1 h with h | h
          · exact absurd (by rw [← h]) e
          · exact ih h
    exact this hp hi
  simp only [wpFree]
  rw [if_pos (knWant_ok ha hw), if_neg hno]
  refine ⟨v, fun x hx => ?_, ?_⟩
  · obtain ⟨e, _⟩ := hx
    subst e
    exact hv.run _ ha.fits
  · rw [hd]
    exact h.go _ _ (ha.put (Nat.le_of_ble_eq_true hn))⟩
/-- A call. -/
theorem KQ.call {g : FuncId} {xs : List Operand} {ats : Array TypeId} {args : List Value} (hi : f.lookup i = some v) (hd : o.dst = some d) (hw : knWant ops k o = some true) (ho : o.op = .call { callee := .value (.func g), args := xs.toArray, argTypes := ats }) (ha : argsK k xs = some args) (hn : Nat.blt d n = true)
    (hf : (callFunc g args.toArray).run P w = .ok (.enter g args.toArray) w) (hc : Calls P g args.toArray w (fun e w' => e = .returned v ∧ w' = w))
    (h : KQ P n ops f (i + 1) rest Q ((d, v) :: k) w) : KQ P n ops f i (o :: rest) Q k w := ⟨fun a F hA => by
  have hm : i ∈ f.map (·.1) := mem_look hi
  simp only [wpFree]
  rw [if_pos (knWant_ok hA hw), if_pos hm]
  refine ⟨fun x hx => ?_, fun u hu => ?_⟩
  · obtain ⟨e0, _⟩ := hx
    subst e0
    have hfn := hA.fits (.func g) _ rfl
    have e : execOp a.eval o = callFunc g (#[] ++ xs.toArray.map a.eval ++ #[]) := by
      unfold execOp
      rw [ho]
      show (do let d ← resolve a.eval { callee := .value (.func g), args := xs.toArray, argTypes := ats } o.type; invoke d.target d.args) = _
      unfold resolve
      simp only [hfn]
      rfl
    have e2 : (#[] ++ xs.toArray.map a.eval ++ #[] : Array Value) = args.toArray := by simp [argsK_map hA.fits ha]
    rw [e, e2, hf]
    refine up_enter (Calls.mono hc fun e w' hR => ?_)
    obtain ⟨e1, e2⟩ := hR
    exact ⟨v, e1, e2, trivial, hi⟩
  · obtain ⟨_, _, hu⟩ := hu
    rw [hi] at hu
    injection hu with hu
    subst hu
    rw [hd]
    exact h.go _ _ (hA.put (Nat.le_of_ble_eq_true hn))⟩
end
/-- Runs of steps of such a region. -/
theorem gq {g g' : Prop} (h : g') (t : Hid g' → g := by intro h; (repeat (first | refine qk0 ?_ | refine qk1 ?_ oC | refine qk1 ?_ oE | refine qk1 ?_ oF | refine qk1 ?_ oL | refine qk1 ?_ oI | refine qk1 ?_ oW | refine qk1 ?_ oX | refine qk1 ?_ oV | refine qk1 ?_ oA | refine qk1 ?_ oS | refine qk1 ?_ oM | refine qk1 ?_ oN | refine qk1 ?_ oT | refine qk1 ?_ oU | refine qk1 ?_ oB | refine KQ.nil ?_)); exact h.out) : g := t (Lib.hid h)
end Go.Proofs.YtiddhcabpmkolaaGreatDoor
set_option linter.unusedSimpArgs false
set_option linter.unusedVariables false
namespace Go.Proofs.YtiddhcabpmkolaaGreatDoor

set_option maxRecDepth 100000
open Go Go.RowKit
theorem view_get {l : List Oper} {g : Nat → Oper → Oper} {is : List Nat} (hi : ∀ i ∈ is, i < l.length) (j : Nat) : (viewL g l is)[j]? = (is[j]?).bind (fun i => (l[i]?).map (g i)) := by
  induction is generalizing j with
  | nil => simp [viewL]
  | cons i is ih =>
    have hx : l[i]? = some (l[i]'(hi i List.mem_cons_self)) := List.getElem?_eq_getElem _
    rw [view_cons hx]
    cases j with
    | zero => simp [hx]
    | succ j => rw [List.getElem?_cons_succ, ih (fun i h => hi i (List.mem_cons_of_mem _ h)), List.getElem?_cons_succ]
theorem view_len {l : List Oper} {g : Nat → Oper → Oper} {is : List Nat} (hi : ∀ i ∈ is, i < l.length) : (viewL g l is).length = is.length := by
  induction is with
  | nil => rfl
  | cons i is ih =>
    have hx : l[i]? = some (l[i]'(hi i List.mem_cons_self)) := List.getElem?_eq_getElem _
    rw [view_cons hx, List.length_cons, List.length_cons, ih (fun i h => hi i (List.mem_cons_of_mem _ h))]
theorem view_map {l : List Oper} {g f : Nat → Oper → Oper} {r : Oper → Oper} {is : List Nat} (h : ∀ i o, r (g i o) = f i o) : (viewL g l is).map r = viewL f l is := by
  unfold viewL
  rw [List.map_filterMap]
  congr 1
  funext i
  cases l[i]? with
  | none => rfl
  | some o => simp [h]
theorem view_erase {l : List Oper} {g : Nat → Oper → Oper} {is : List Nat} (hi : ∀ i ∈ is, i < l.length) (p : Nat) : (viewL g l is).eraseIdx p = viewL g l (is.eraseIdx p) := by
  induction is generalizing p with
  | nil => rfl
  | cons i is ih =>
    have hx : l[i]? = some (l[i]'(hi i List.mem_cons_self)) := List.getElem?_eq_getElem _
    rw [view_cons hx]
    cases p with
    | zero => rfl
    | succ p => rw [List.eraseIdx_cons_succ, List.eraseIdx_cons_succ, ih (fun i h => hi i (List.mem_cons_of_mem _ h)), view_cons hx]
/-- L is l with edges added, in the order is. -/
structure Sh (l L : List Oper) (g : Nat → Oper → Oper) (is : List Nat) : Prop where
  lt : ∀ i ∈ is, i < l.length
  len : is.length = l.length
  view : L = viewL g l is
  vw : Vw l g L.toArray
theorem Sh.size {l L : List Oper} {g : Nat → Oper → Oper} {is : List Nat} (h : Sh l L g is) : L.length = l.length := by rw [h.view, view_len h.lt, h.len]
theorem view_range {l L : List Oper} {g : Nat → Oper → Oper} (hg : ∀ i, L[i]? = (l[i]?).map (g i)) : L = viewL g l (List.range l.length) := by
  apply List.ext_getElem?
  intro j
  rw [view_get (fun i h => List.mem_range.1 h), hg]
  by_cases hj : j < l.length
  · rw [List.getElem?_range hj]; rfl
  · rw [List.getElem?_eq_none (by omega), List.getElem?_eq_none (by simp; omega)]; rfl
theorem sh_id (l : List Oper) : Sh l l (fun _ o => o) (List.range l.length) where
  lt i h := List.mem_range.1 h
  len := List.length_range
  view := view_range (fun i => by cases l[i]? <;> rfl)
  vw := ⟨fun _ _ _ => rfl, fun _ _ => rfl, fun _ _ h => h, fun _ _ _ _ => rfl⟩
theorem Sh.hold {l L : List Oper} {g : Nat → Oper → Oper} (h : Sh l L g (List.range l.length)) (x y : Nat) : Sh l (holdL x y L) (fun i o => holdV x y i (g i o)) (List.range l.length) where
  lt i h := List.mem_range.1 h
  len := List.length_range
  view := view_range (fun i => by
    rw [holdL_get]
    have : L[i]? = (l[i]?).map (g i) := by
      rw [h.view, view_get h.lt]
      by_cases hj : i < l.length
      · rw [List.getElem?_range hj]; rfl
      · rw [List.getElem?_eq_none (by simp; omega), List.getElem?_eq_none (by omega)]; rfl
    rw [this]
    cases l[i]? <;> rfl)
  vw := by
    have V := vw_hold L x y
    refine ⟨fun i o ρ => by rw [V.ex, h.vw.ex], fun i o => by rw [V.dst, h.vw.dst], fun i o hg => V.gd _ _ (h.vw.gd i o hg), fun i o tmps ho => ?_⟩
    have hL : L[i]? = some (g i o) := by
      rw [h.view, view_get h.lt, List.getElem?_range (List.getElem?_eq_some_iff.1 ho).1]
      simp [ho]
    rw [V.wt i _ tmps hL, h.vw.wt i o tmps ho]
def frontI (p : Nat) (is : List Nat) : List Nat := match is[p]? with | some i => i :: is.eraseIdx p | none => is
theorem Sh.front {l L : List Oper} {g : Nat → Oper → Oper} {is : List Nat} (h : Sh l L g is) {p : Nat} (hp : p < L.length) : Sh l (frontL p L) (fun i o => renO p (g i o)) (frontI p is) := by
  have hpi : p < is.length := by rw [h.len, ← h.size]; exact hp
  have hx : is[p]? = some is[p] := List.getElem?_eq_getElem hpi
  have hxl : is[p] < l.length := h.lt _ (List.getElem_mem _)
  have ho : l[is[p]]? = some (l[is[p]]'hxl) := List.getElem?_eq_getElem _
  have hi : frontI p is = is[p] :: is.eraseIdx p := by unfold frontI; rw [hx]
  have hL : L[p]? = some (g is[p] (l[is[p]]'hxl)) := by
    rw [h.view, view_get h.lt, hx]
    simp [ho]
  refine ⟨fun i hm => ?_, ?_, ?_, ?_⟩
  · rw [hi] at hm
    rcases List.mem_cons.1 hm with rfl | hm
    · exact hxl
    · exact h.lt i (List.mem_of_mem_eraseIdx hm)
  · rw [hi, List.length_cons, List.length_eraseIdx_of_lt hpi, ← h.len]
    omega
  · rw [hi, view_cons ho]
    unfold frontL
    rw [hL]
    simp only
    rw [h.view, view_erase h.lt, view_map (fun _ _ => rfl)]
  · have hy : ∀ tmps j, yielded (frontL p L).toArray tmps (ren p j) = yielded L.toArray tmps j := fun tmps j => by
      unfold yielded
      simp only [List.getElem?_toArray, front_get (l := L) (p := p) hp]
      cases L[j]? with
      | none => rfl
      | some o => rfl
    refine ⟨fun i o ρ => by rw [exec_renO, h.vw.ex], fun i o => h.vw.dst i o, fun i o hg => by unfold renO; simp only; rw [h.vw.gd i o hg]; rfl, fun i o tmps ho => ?_⟩
    rw [← h.vw.wt i o tmps ho]
    unfold Region.wanted renO
    cases hg : (g i o).guard with
    | none => rfl
    | some q =>
      obtain ⟨g1, g2⟩ := q
      simp only [Option.map_some]
      rw [hy]
def anyL (P : Program) (Q : Exit → Act → World → Prop) (L : List Oper) (a : Act) (w : World) : Prop := wpAny P .any L.toArray Q L.toArray.size (Array.replicate L.toArray.size false) a w
theorem any_split {P : Program} {Q : Exit → Act → World → Prop} {L : List Oper} {a : Act} {w : World} (x y : Nat) (hc : (calmsB x y L && x != y) = true) (h1 : anyL P Q (holdL x y L) a w) (h2 : anyL P Q (holdL y x L) a w) : anyL P Q L a w := by
  simp only [Bool.and_eq_true, bne_iff_ne, ne_eq] at hc
  have hz1 : (holdL x y L).toArray.size = L.toArray.size := by unfold holdL; simp only [Array.toArray_toList]; exact hold_size
  have hz2 : (holdL y x L).toArray.size = L.toArray.size := by unfold holdL; simp only [Array.toArray_toList]; exact hold_size
  have no : ∀ j, (Array.replicate L.toArray.size false).getD j false = false := fun j => rep_false _ j
  unfold anyL at h1 h2 ⊢
  rw [hz1] at h1
  rw [hz2] at h2
  have t1 : (holdL x y L).toArray = holdA x y L.toArray := by unfold holdL; simp
  have t2 : (holdL y x L).toArray = holdA y x L.toArray := by unfold holdL; simp
  rw [t1] at h1
  rw [t2] at h2
  refine hold_split hc.2 (fun i o ho hix hiy => ?_) _ _ a _ (no x) (no y) h1 h2
  have hil : i < L.length := by
    have := (Array.getElem?_eq_some_iff.1 ho).1
    simpa using this
  have h3 := List.all_eq_true.1 hc.1 i (List.mem_range.2 hil)
  rw [show L[i]? = some o by simpa using ho] at h3
  simp only [Bool.or_eq_true, beq_iff_eq, hix, hiy, false_or] at h3
  exact h3
theorem any_front {P : Program} {Q : Exit → Act → World → Prop} {L : List Oper} {a : Act} {w : World} {p : Nat} (hp : p < L.length) (h : anyL P Q (frontL p L) a w) : anyL P Q L a w := by
  have e1 : (frontL p L).toArray.size = L.toArray.size := by simp only [List.size_toArray]; rw [front_length hp]
  unfold anyL at h ⊢
  rw [e1] at h
  refine front_any hp _ (Array.replicate L.toArray.size false) _ a w (fun i => ?_) h
  rw [Array.getElem?_replicate, Array.getElem?_replicate]
  simp only [List.size_toArray]
  have : ren p i < L.length ↔ i < L.length := by unfold ren; split <;> (try split) <;> omega
  by_cases h : i < L.length
  · rw [if_pos h, if_pos (this.2 h)]
  · rw [if_neg h, if_neg (fun e => h (this.1 e))]
/-- The walk: k counts, is tells the order; ms: the movers; us: of one value in every world (for those in ns: of the class C); ls: movers behind all of ns. The numbers are those of the order. -/
def wpFan (P : Program) (l : List Oper) (ms us ns ls : List Nat) (C : World → Prop) (Q : Act → World → Prop) : Nat → List Nat → Act → World → Prop
  | _, [], a, w => Q a w
  | k, i :: is, a, w => match l[i]? with
    | none => False
    | some o =>
      if Region.wanted o (yielded l.toArray a.tmps) = true then
        if k ∈ ms then upN P (fun v w' => (k ∉ ls → C w') ∧ wpFan P l ms us ns ls C Q (k + 1) is (a.put o.dst v) w') ((execOp a.eval o).run P w)
        else if k ∈ us then ∃ v, (∀ x, (k ∈ ns → C x) → (execOp a.eval o).run P x = .ok (.value v) x) ∧ wpFan P l ms us ns ls C Q (k + 1) is (a.put o.dst v) w
        else ∃ v, (execOp a.eval o).run P w = .ok (.value v) w ∧ wpFan P l ms us ns ls C Q (k + 1) is (a.put o.dst v) w
      else wpFan P l ms us ns ls C Q (k + 1) is (a.put o.dst undef) w
theorem fan_latu {P : Program} {l : List Oper} {g : Nat → Oper → Oper} {ops : Array Oper} {ms us ns ls : List Nat} {C : World → Prop} {Q : Act → World → Prop} (V : Vw l g ops) (hl : ∀ k, k ∈ ls → ∀ u, u ∈ ns → (waits .any ops u).contains k = true) : ∀ (is : List Nat) (k : Nat) (a : Act) (w : World),
    wpFan P l ms us ns ls C Q k is a w → wpLatu P ops .any ms us (fun u w => u ∈ ns → C w) Q k (viewL g l is) a w := by
  intro is
  induction is with
  | nil => exact fun k a w h => h
  | cons i is ih =>
    intro k a w h
    unfold wpFan at h
    cases ho : l[i]? with
    | none => rw [ho] at h; exact h.elim
    | some o =>
      rw [ho] at h
      simp only at h
      rw [view_cons ho]
      simp only [wpLatu]
      rw [V.wt i o a.tmps ho, V.ex, V.dst]
      split
      · rename_i hw
        rw [if_pos hw] at h
        split
        · rename_i hk
          rw [if_pos hk] at h
          refine upN_mono (fun v w' hh => ⟨fun u hu hwt hun => hh.1 (fun hkl => ?_), ih _ _ _ hh.2⟩) h
          rw [hl k hkl u hun] at hwt
          cases hwt
        · rename_i hk
          rw [if_neg hk] at h
          split
          · rename_i hu
            rw [if_pos hu] at h
            obtain ⟨v, h1, h2⟩ := h
            exact ⟨v, fun x hx => h1 x hx, ih _ _ _ h2⟩
          · rename_i hu
            rw [if_neg hu] at h
            obtain ⟨v, h1, h2⟩ := h
            exact ⟨v, h1, ih _ _ _ h2⟩
      · rename_i hw
        rw [if_neg hw] at h
        exact ih _ _ _ h
/-- A stretch of the walk; the region's goal, in some order. -/
structure KF (P : Program) (n : Nat) (l : List Oper) (ms us ns ls : List Nat) (C : World → Prop) (k : Nat) (is : List Nat) (Q : Exit → Act → World → Prop) (κ : Kn) (w : World) : Prop where
  go : ∀ a, KA n κ a → wpFan P l ms us ns ls C (fun a w => Q .normal a w) k is a w
/-- .. with its next operation. -/
structure KG (P : Program) (n : Nat) (l : List Oper) (ms us ns ls : List Nat) (C : World → Prop) (k : Nat) (o : Oper) (is : List Nat) (Q : Exit → Act → World → Prop) (κ : Kn) (w : World) : Prop where
  go : ∀ i, l[i]? = some o → KF P n l ms us ns ls C k (i :: is) Q κ w
structure KV (P : Program) (n : Nat) (l : List Oper) (Q : Exit → Act → World → Prop) (κ : Kn) (w : World) (L : List Oper) (is : List Nat) : Prop where
  go : ∀ g, Sh l L g is → ∀ a, KA n κ a → anyL P Q L a w
def fronts : List Nat → List Oper → List Oper
  | [], L => L
  | p :: ps, L => fronts ps (frontL p L)
def frontsI : List Nat → List Nat → List Nat
  | [], is => is
  | p :: ps, is => frontsI ps (frontI p is)
section
variable {P : Program} {n : Nat} {l L : List Oper} {Q : Exit → Act → World → Prop} {κ : Kn} {w : World} {is : List Nat}
theorem KW.fan {id : Nat} (hm : P.follows .mixedOrders = true) (h : KV P n l Q κ w.drew l (List.range l.length)) : KW P n (.region id l.toArray true) Q κ w :=
  ⟨fun a ha => wp_region_any hm (h.go _ (sh_id l) a ha)⟩
theorem KV.split (x y : Nat) (hc : (calmsB x y L && x != y) = true) (h1 : KV P n l Q κ w (holdL x y L) (List.range l.length)) (h2 : KV P n l Q κ w (holdL y x L) (List.range l.length)) : KV P n l Q κ w L (List.range l.length) :=
  ⟨fun g hg a ha => any_split x y hc (h1.go _ (hg.hold x y) a ha) (h2.go _ (hg.hold y x) a ha)⟩
theorem KV.fronts (ps : List Nat) (hp : ps.all (fun p => decide (p < l.length)) = true) (h : KV P n l Q κ w (fronts ps L) (frontsI ps is)) : KV P n l Q κ w L is := by
  induction ps generalizing L is with
  | nil => exact h
  | cons p ps ih =>
    simp only [List.all_cons, Bool.and_eq_true, decide_eq_true_eq] at hp
    have h2 := ih hp.2 h
    exact ⟨fun g hg a ha => any_front (by rw [hg.size]; exact hp.1) (h2.go _ (hg.front (by rw [hg.size]; exact hp.1)) a ha)⟩
theorem KV.seq (is' ms us ns ls : List Nat) (C : World → Prop) (hc : (freeB .any L.toArray && seqB L.toArray ms us .any && (ls.all fun k => ns.all fun u => (waits .any L.toArray u).contains k) && is == is') = true) (hw : C w) (h : KF P n l ms us ns ls C 0 is' Q κ w) : KV P n l Q κ w L is := by
  simp only [Bool.and_eq_true, beq_iff_eq] at hc
  obtain ⟨⟨⟨h1, h2⟩, h3⟩, rfl⟩ := hc
  refine ⟨fun g hg a ha => any_of_latu (S := fun u w => u ∈ ns → C w) h1 h2 (fun _ _ _ => hw) ?_⟩
  have h4 := fan_latu hg.vw (fun k hk u hu => List.all_eq_true.1 (List.all_eq_true.1 h3 k hk) u hu) is 0 a w (h.go a ha)
  rw [← hg.view] at h4
  exact h4
variable {ms us ns ls : List Nat} {C : World → Prop} {k i d : Nat} {o : Oper} {v : Value} {x y : Operand} {ty : TypeId}
theorem KF.nil (h : KE n Q κ w) : KF P n l ms us ns ls C k [] Q κ w := ⟨fun a ha => h.go a ha⟩
theorem fn (h : KG P n l ms us ns ls C k o is Q κ w) (ho : l[i]? = some o := by exact rfl) : KF P n l ms us ns ls C k (i :: is) Q κ w := h.go i ho
theorem fp (h : KF P n l ms us ns ls C (k + 1) is Q ((d, v) :: κ) w) (hv : PR P κ w o v) (hd : o.dst = some d := by exact rfl) (hw : knWant l.toArray κ o = some true := by exact rfl) (hn : Nat.blt d n = true := by exact rfl) (hi : (!ms.contains k && !us.contains k) = true := by decide) : KG P n l ms us ns ls C k o is Q κ w := ⟨fun i ho' => ⟨fun a ha => by
  have h1 : k ∉ ms := by simp at hi; exact hi.1
  have h2 : k ∉ us := by simp at hi; exact hi.2
  unfold wpFan
  simp only [ho']
  rw [if_pos (knWant_ok ha hw), if_neg h1, if_neg h2]
  refine ⟨v, hv.run _ ha.fits, ?_⟩
  rw [hd]
  exact h.go _ (ha.put (Nat.le_of_ble_eq_true hn))⟩⟩
theorem fu (h : KF P n l ms us ns ls C (k + 1) is Q ((d, v) :: κ) w) (hv : ∀ y, PR P κ y o v) (hd : o.dst = some d := by exact rfl) (hw : knWant l.toArray κ o = some true := by exact rfl) (hn : Nat.blt d n = true := by exact rfl) (hi : (!ms.contains k && us.contains k) = true := by decide) : KG P n l ms us ns ls C k o is Q κ w := ⟨fun i ho' => ⟨fun a ha => by
  have h1 : k ∉ ms := by simp at hi; exact hi.1
  have h2 : k ∈ us := by simp at hi; exact hi.2
  unfold wpFan
  simp only [ho']
  rw [if_pos (knWant_ok ha hw), if_neg h1, if_pos h2]
  refine ⟨v, fun x _ => (hv x).run _ ha.fits, ?_⟩
  rw [hd]
  exact h.go _ (ha.put (Nat.le_of_ble_eq_true hn))⟩⟩
theorem fc (h : KF P n l ms us ns ls C (k + 1) is Q ((d, v) :: κ) w) (hv : ∀ y, C y → PR P κ y o v) (hd : o.dst = some d := by exact rfl) (hw : knWant l.toArray κ o = some true := by exact rfl) (hn : Nat.blt d n = true := by exact rfl) (hi : (!ms.contains k && us.contains k && ns.contains k) = true := by decide) : KG P n l ms us ns ls C k o is Q κ w := ⟨fun i ho' => ⟨fun a ha => by
  have h1 : k ∉ ms := by simp at hi; exact hi.1.1
  have h2 : k ∈ us := by simp at hi; exact hi.1.2
  have h3 : k ∈ ns := by simp at hi; exact hi.2
  unfold wpFan
  simp only [ho']
  rw [if_pos (knWant_ok ha hw), if_neg h1, if_pos h2]
  refine ⟨v, fun x hx => (hv x (hx h3)).run _ ha.fits, ?_⟩
  rw [hd]
  exact h.go _ (ha.put (Nat.le_of_ble_eq_true hn))⟩⟩
theorem KF.stores {w' : World} (hi : ms.contains k = true) (hd : o.dst = none) (hw : knWant l.toArray κ o = some true) (hv : ∀ ρ, Fits κ ρ → (execOp ρ o).run P w = .ok .skip w') (hs : k ∉ ls → C w') (h : KF P n l ms us ns ls C (k + 1) is Q κ w') : KG P n l ms us ns ls C k o is Q κ w := ⟨fun i ho' => ⟨fun a ha => by
  have h1 : k ∈ ms := by simpa using hi
  unfold wpFan
  simp only [ho']
  rw [if_pos (knWant_ok ha hw), if_pos h1, hv _ ha.fits, hd]
  exact ⟨hs, h.go _ ha⟩⟩⟩
theorem KF.makes {w' : World} (hi : ms.contains k = true) (hd : o.dst = some d) (hw : knWant l.toArray κ o = some true) (hn : Nat.blt d n = true) (hv : ∀ ρ, Fits κ ρ → (execOp ρ o).run P w = .ok (.value v) w') (hs : k ∉ ls → C w') (h : KF P n l ms us ns ls C (k + 1) is Q ((d, v) :: κ) w') : KG P n l ms us ns ls C k o is Q κ w := ⟨fun i ho' => ⟨fun a ha => by
  have h1 : k ∈ ms := by simpa using hi
  unfold wpFan
  simp only [ho']
  rw [if_pos (knWant_ok ha hw), if_pos h1, hv _ ha.fits, hd]
  exact ⟨hs, h.go _ (ha.put (Nat.le_of_ble_eq_true hn))⟩⟩⟩
theorem KF.store1 {w₀ : World} {F : Nat → Prop} {Ps : List Ch} (hr : Run w₀ F w Ps) (m : Nat) {g : Nat} {t : TypeId} {cs : Array Value} (j : Nat) (hp : Ps[m]? = some (blkC g t cs)) (hi : ms.contains k = true) (hd : o.dst = none) (hw : knWant l.toArray κ o = some true) (ho : o.op = .store ty x y) (hx : knX κ x = some (.pointer (some ⟨g, j, none⟩))) (hy : knX κ y = some v)
    (hs : (Instr.storeAt ty (.pointer (some ⟨g, j, none⟩)) v).run P w = .ok () (w.setCell ⟨g, j, none⟩ v))
    (h : ∀ w', w' = w.setCell ⟨g, j, none⟩ v → Run w₀ F w' (Ps.set m (blkC g t (cs.setIfInBounds j v))) → (k ∉ ls → C w') ∧ KF P n l ms us ns ls C (k + 1) is Q κ w') : KG P n l ms us ns ls C k o is Q κ w :=
  KF.stores hi hd hw (fun ρ hρ => by
    unfold execOp
    rw [ho]
    simp only [hρ _ _ hx, hρ _ _ hy, Sem.run_bind, hs]
    rfl) (h _ rfl (hr.set m hp j v)).1 (h _ rfl (hr.set m hp j v)).2
/-- 'append(v, x...)', of a row that is ours. -/
theorem KF.app {w₀ : World} {F : Nat → Prop} {Ps : List Ch} (hr : Run w₀ F w Ps) (m : Nat) {e : TypeId} {kk : Nat} {z : Value} {by_ nn : Nat} {xs : List Value} (hp : Ps[m]? = some (ownC e kk v nn xs)) (ht : P.underlying ty = some (.slice e)) (hI : (P.info? e).map (fun i => (i.zero, i.size, i.bytes)) = some (some z, kk, by_)) (hzs : z.cells.size = kk) (hk : 0 < kk)
    {A : Option Addr} {mm cc : Nat} {G : Nat → Prop} {news : List Value} (hs : Sl w G kk A mm news) (h1 : ∀ u ∈ news, u.oneCell' = true) (hbytes : nn + mm ≤ 1073741824) (hb2 : by_ ≤ 65536)
    (hi : ms.contains k = true) (hd : o.dst = some d) (hw : knWant l.toArray κ o = some true) (ho : o.op = .call { callee := .builtin .append, args := #[x, y], argTypes := #[ty, ty] }) (hx : knX κ x = some v) (hy : knX κ y = some (.slice A mm cc)) (hn : Nat.blt d n = true)
    (h : ∀ A' c' w', nn + mm ≤ c' → c' ≤ maxLen → w.heap.size ≤ w'.heap.size → Run w₀ F w' (Ps.set m (ownC e kk (.slice A' (nn + mm) c') (nn + mm) (xs ++ news))) → (k ∉ ls → C w') ∧ KF P n l ms us ns ls C (k + 1) is Q ((d, .slice A' (nn + mm) c') :: κ) w') : KG P n l ms us ns ls C k o is Q κ w := ⟨fun i ho' => ⟨fun a ha => by
  have h1' : k ∈ ms := by simpa using hi
  unfold wpFan
  simp only [ho']
  rw [if_pos (knWant_ok ha hw), if_pos h1']
  obtain ⟨G', _, h2, h3⟩ := hr.at m hp
  refine up_app ht hI hzs hk h2 hs h1 hbytes hb2 x y ho (ha.fits _ _ hx) (ha.fits _ _ hy) (fun v' w' h4 h5 => ?_)
  have hr' := h3 w' (ownC e kk v' (nn + mm) (xs ++ news)) (h4.imp (fun b _ e => e.imp id (fun e => by omega))) h5
  obtain ⟨A', c', e1, e2, e3, _⟩ := h4.form
  subst e1
  obtain ⟨k1, k2⟩ := h A' c' w' e2 e3 h5.size hr'
  refine ⟨k1, ?_⟩
  rw [hd]
  exact k2.go _ (ha.put (Nat.le_of_ble_eq_true hn))⟩⟩
end
/-- All that only reads. -/
theorem gf {g g' : Prop} (h : g') (t : Hid g' → g := by intro h; (repeat (first | refine fn ?_ | refine fp ?_ oC | refine fp ?_ oE | refine fp ?_ oF | refine fp ?_ oL | refine fp ?_ oI | refine fp ?_ oW | refine fp ?_ oX | refine fp ?_ oV | refine fp ?_ oA | refine fp ?_ oS | refine fp ?_ oM | refine fp ?_ oN | refine fp ?_ oT | refine fp ?_ oU | refine fp ?_ oB | refine fu ?_ (fun y => oE) | refine fu ?_ (fun y => oV) | refine fu ?_ (fun y => oF) | refine fu ?_ (fun y => oC) | refine fu ?_ (fun y => oA) | refine fu ?_ (fun y => oS) | refine fc ?_ (fun y hy => by have hcy := Blk.cell hy; exact oL) | refine fc ?_ (fun y hy => by have hcy := Blk.cell hy.1; exact oL) | refine fc ?_ (fun y hy => by have hcy := hy.2.1; exact oL) | refine fc ?_ (fun y hy => by have hcy := hy.2.2; exact oL) | refine fc ?_ (fun y hy => by have hcy := hy.2; exact oL) | refine fu ?_ (fun y => oI) | refine KF.nil ?_)); exact h.out) : g := t (Lib.hid h)
end Go.Proofs.YtiddhcabpmkolaaGreatDoor
