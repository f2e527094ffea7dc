/-
  The walk by what is known of the slots: pieces of rows (s[i:], s[:i]), literal rows. The walk by what is known of the slots: letters and pieces of texts, rows of bytes as texts, sums, conversions.
-/
import Derived.ChangeKeysEq
import Derived.Test.YtiddhcabpmkolaaGreatDoorZKa
import Derived.Test.YtiddhcabpmkolaaGreatDoorZOmP
set_option linter.unusedSimpArgs false
set_option linter.unusedVariables false
namespace Go.Proofs.YtiddhcabpmkolaaGreatDoor

set_option maxRecDepth 100000
open Go Go.RowKit
section
variable {P : Program} {w : World}
theorem run_und {t : TypeId} {d : TypeDesc} (h : P.underlying t = some d) : (underlying t).run P w = .ok d w := by
  unfold underlying
  simp only [Sem.run_bind]
  show Result.andThen (.ok P w) _ = _
  simp only [Result.andThen_ok, h]
  rfl
theorem run_bnd {n : Nat} {j : Nat} {code : BoundsCode} (h : j ≤ n) : (Instr.sliceBound (.int .i64 (j : Int)) n code).run P w = .ok j w := by
  unfold Instr.sliceBound
  simp only [asIntOf, Sem.run_bind, Sem.run_pure, Result.andThen_ok]
  rw [if_pos ⟨by omega, by omega⟩]
  rfl
/-- 's[:j]'. -/
theorem run_hi {ty e : TypeId} (ht : P.underlying ty = some (.slice e)) (hi : (P.info? e).isSome = true) {A : Option Addr} {n c j : Nat} (hj : j ≤ c) : (Instr.sliceAt ty (.slice A n c) none (some (.int .i64 (j : Int))) none).run P w = .ok (.slice A j c) w := by
  have hm : (if c = 0 then A else A.map (fun a => a.add (0 * P.cellsOf e))) = A := by
    split
    · rfl
    · cases A with
      | none => rfl
      | some a => simp only [Option.map_some, Nat.zero_mul, Addr.add]; rfl
  obtain ⟨i, hi⟩ := Option.isSome_iff_exists.1 hi
  unfold Instr.sliceAt
  simp only [Sem.run_bind, run_und ht, Result.andThen_ok]
  unfold Instr.slice Instr.sliceBounds
  simp only [Sem.run_bind, run_und ht, Result.andThen_ok, Sem.run_pure, run_bnd hj, run_sizeOf _ hi, hm, Nat.sub_zero]
/-- 's[j:]'. -/
theorem run_lo {ty e : TypeId} (ht : P.underlying ty = some (.slice e)) (hi : (P.info? e).isSome = true) {A : Option Addr} {n c j : Nat} (hj : j ≤ n) : (Instr.sliceAt ty (.slice A n c) (some (.int .i64 (j : Int))) none none).run P w = .ok (.slice (if c = j then A else A.map (fun a => a.add (j * P.cellsOf e))) (n - j) (c - j)) w := by
  obtain ⟨i, hi⟩ := Option.isSome_iff_exists.1 hi
  unfold Instr.sliceAt
  simp only [Sem.run_bind, run_und ht, Result.andThen_ok]
  unfold Instr.slice Instr.sliceBounds
  simp only [Sem.run_bind, run_und ht, Result.andThen_ok, Sem.run_pure, run_bnd hj, run_sizeOf _ hi]
variable {n d : Nat} {ops : Array Oper} {o : Oper} {k : Kn} {v : Value} {x y : Operand} {ty : TypeId} {u : Value} {a : Int}
theorem oZh {b : Int} (hr : (Instr.sliceAt ty u none (some (.int .i64 b)) none).run P w = .ok v w) (ho : o.op = .slice ty x none (some y) none := by exact rfl) (hx : knX k x = some u := by exact rfl) (hy : knX k y = some (.int .i64 b) := by exact rfl) : PR P k w o v := ⟨fun ρ hρ => by
  unfold execOp; rw [ho]
  simp only [Option.map, hρ _ _ hx, hρ _ _ hy, Sem.run_bind, hr, Result.andThen_ok]; rfl⟩
theorem oZl {b : Int} (hr : (Instr.sliceAt ty u (some (.int .i64 b)) none none).run P w = .ok v w) (ho : o.op = .slice ty x (some y) none none := by exact rfl) (hx : knX k x = some u := by exact rfl) (hy : knX k y = some (.int .i64 b) := by exact rfl) : PR P k w o v := ⟨fun ρ hρ => by
  unfold execOp; rw [ho]
  simp only [Option.map, hρ _ _ hx, hρ _ _ hy, Sem.run_bind, hr, Result.andThen_ok]; rfl⟩
theorem Sl.from {F : Nat → Prop} {A : Option Addr} {kk n c j : Nat} {xs : List Value} (h : Sl w F kk A n xs) (hj : j ≤ n) (hn : n ≤ c) (hk : 0 < kk) : Sl w F kk (if c = j then A else A.map (fun a => a.add (j * kk))) (n - j) (xs.drop (j * kk)) := by
  have hl := h.1
  have h1 : j * kk ≤ n * kk := Nat.mul_le_mul_right _ hj
  have h2 : (n - j) * kk = n * kk - j * kk := Nat.sub_mul _ _ _
  refine ⟨by rw [List.length_drop, hl, h2], fun hlt => ?_⟩
  rw [if_neg (by omega)]
  obtain ⟨b, o, rfl, hF, hb, hc⟩ := h.2 (by omega)
  rcases Nat.eq_zero_or_pos j with rfl | hj0
  · refine ⟨b, o, ?_, hF, hb, fun i hi => ?_⟩
    · simp [Addr.add]
    · rw [List.length_drop] at hi
      rw [hc i (by omega), List.getElem?_drop]; congr 1; omega
  · have hne : ¬ j * kk = 0 := by have := Nat.mul_pos hj0 hk; omega
    refine ⟨b, o + j * kk, ?_, hF, hb, fun i hi => ?_⟩
    · simp only [Option.map_some, Addr.add, if_neg hne]
    · rw [List.length_drop] at hi
      rw [Nat.add_assoc, hc (j * kk + i) (by omega), List.getElem?_drop]
end
end Go.Proofs.YtiddhcabpmkolaaGreatDoor
set_option linter.unusedSimpArgs false
set_option linter.unusedVariables false
namespace Go.Proofs.YtiddhcabpmkolaaGreatDoor

set_option maxRecDepth 100000
open Go Go.RowKit
section
variable {P : Program} {n d : Nat} {ops : Array Oper} {o : Oper} {rest l : List Oper} {Q : Exit → Act → World → Prop} {k : Kn} {w : World} {v : Value} {x y z : Operand} {ty ty' : TypeId} {u u1 u2 : Value} {a b r : Int}
/-- A letter of a text. -/
theorem run_chr {s : ByteArray} {kk : IntKind} {i : Int} {j : Nat} {c : UInt8} (hi : i = (j : Int)) (hc : s.data.toList[j]? = some c) (ht : P.underlying ty = some .string) : (Instr.index ty (.string s) (.int kk i)).run P w = .ok (.int .u8 (c.toNat : Int)) w := by
  subst hi
  have hl := (List.getElem?_eq_some_iff.1 hc).1
  have hs : s.data.toList.length = s.size := by simp
  rw [run_index_string w ty s kk _ ht, dif_pos ⟨by omega, by omega⟩]
  have e : s[((j : Int)).toNat]'(by omega) = c := by
    rw [List.getElem?_eq_getElem (by simpa using hl)] at hc
    injection hc
  rw [e]
theorem oJ {s : ByteArray} {kk : IntKind} {j : Nat} {c : UInt8} (hc : s.data.toList[j]? = some c) (ho : o.op = .index ty x y := by exact rfl) (hx : knX k x = some (.string s) := by exact rfl) (hy : knX k y = some (.int kk a) := by exact rfl) (hi : a = (j : Int) := by first | rfl | omega) (ht : P.underlying ty = some .string := by exact rfl) : PR P k w o (.int .u8 (c.toNat : Int)) := ⟨fun ρ hρ => by
  unfold execOp; rw [ho]; simp only [hρ _ _ hx, hρ _ _ hy, Sem.run_bind, run_chr hi hc ht, Result.andThen_ok]; rfl⟩
/-- A shift or a mask of a byte. -/
theorem oK {op : BinOp} {ka kb' : IntKind} {r : Int} (hr : (do eqGuard op ty x y (.int ka a) (.int kb' b); binOp op ty (.int ka a) (.int kb' b) : Sem Value).run P w = .ok (.int ka r) w) (ho : o.op = .binOp op ty x y ty' := by exact rfl) (hx : knX k x = some (.int ka a) := by exact rfl) (hy : knX k y = some (.int kb' b) := by exact rfl) : PR P k w o (.int ka r) := PR.bop ho hx hy hr
theorem oMul (ho : o.op = .binOp .mul ty x y ty' := by exact rfl) (hx : knX k x = some (.int .i64 a) := by exact rfl) (hy : knX k y = some (.int .i64 b) := by exact rfl) (hb : -9223372036854775808 ≤ a * b ∧ a * b ≤ 9223372036854775807 := by omega) : PR P k w o (.int .i64 (a * b)) :=
  PR.bop ho hx hy (by
    simp only [eqGuard, binOp, Op.intArith, Sem.run_bind]
    have := IntWalk.i64_in (a * b) hb
    rw [this]; rfl)
/-- 'string(b)'. -/
theorem oStr {F : Nat → Prop} {A : Option Addr} {m c : Nat} {l : List UInt8} {e : TypeId} (h : Sl w F 1 A m (bvs l)) (hs : P.underlying ty = some (.slice e)) (he : P.underlying e = some (.int .u8)) (ho : o.op = .convert ty ty' x := by exact rfl) (hx : knX k x = some (.slice A m c) := by exact rfl) (hd : P.underlying ty' = some .string := by exact rfl) : PR P k w o (.string ⟨l.toArray⟩) := ⟨fun ρ hρ => by
  unfold execOp; rw [ho]; simp only [hρ _ _ hx, Sem.run_bind, run_str h ty ty' e c hs he hd, Result.andThen_ok]; rfl⟩
/-- 'make([]T, 0, n)'. -/
theorem KL.make0 {w₀ : World} {F : Nat → Prop} {Ps : List Ch} (hr : Run w₀ F w Ps) {t e : TypeId} {z : Value} {kk by_ : Nat} (ht : P.underlying t = some (.slice e)) (hI : (P.info? e).map (fun i => (i.zero, i.size, i.bytes)) = some (some z, kk, by_))
    {l c : Operand} {kl kc : IntKind} {C : Int} {m : Nat} (hC : C = (m : Int)) (hm : m ≤ 1073741824) (hb2 : by_ ≤ 65536)
    (hd : o.dst = some d) (hgd : o.guard = none) (hop : o.op = Op.makeSlice t l c) (hl : knX k l = some (.int kl 0)) (hc : knX k c = some (.int kc C)) (hn : Nat.blt d n = true)
    (h : ∀ A' c' w', Run w₀ F w' (ownC e kk (.slice A' 0 c') 0 [] :: Ps) → KL P n ops rest Q ((d, .slice A' 0 c') :: k) w') : KL P n ops (o :: rest) Q k w := ⟨fun ac ha =>
  wp_make0 ht hI hC hm hb2 hgd hop (ha.fits _ _ hl) (ha.fits _ _ hc) (fun v' w' ho hp => by
    obtain ⟨A', c', rfl, _⟩ := ho.form
    rw [hd]
    exact (h A' c' w' (hr.addOwn hp (ho.imp (fun b _ e => by have e : b = w.heap.size := e; omega)))).go _ (ha.put (Nat.le_of_ble_eq_true hn)))⟩
theorem oCat {s t : ByteArray} (ho : o.op = .binOp .add ty x y ty' := by exact rfl) (hx : knX k x = some (.string s) := by exact rfl) (hy : knX k y = some (.string t) := by exact rfl) (hb : s.size + t.size ≤ 1000000000) : PR P k w o (.string (s ++ t)) :=
  PR.bop ho hx hy (by
    have h : (9223372036854775807 < s.size + t.size) = False := by simp; omega
    go_simp
    first | done | rfl)
/-- A comparison that the walk decides. -/
theorem oQ {op : BinOp} {u1 u2 : Value} (ho : o.op = .binOp op ty x y ty' := by exact rfl) (hx : knX k x = some u1 := by exact rfl) (hy : knX k y = some u2 := by exact rfl) (hr : (do eqGuard op ty x y u1 u2; binOp op ty u1 u2 : Sem Value).run P w = .ok v w := by go_simp; first | done | rfl) : PR P k w o v := PR.bop ho hx hy hr
theorem oCv {u : Value} (ho : o.op = .convert ty ty' x := by exact rfl) (hx : knX k x = some u := by exact rfl) (hr : (convert ty ty' u).run P w = .ok v w := by go_simp; first | done | rfl) : PR P k w o v := ⟨fun ρ hρ => by
  unfold execOp; rw [ho]; simp only [hρ _ _ hx, Sem.run_bind, hr, Result.andThen_ok]; rfl⟩
theorem oMk {u : Value} (ho : o.op = .makeInterface ty x := by exact rfl) (hx : knX k x = some u := by exact rfl) (hr : (Instr.makeInterface ty u).run P w = .ok v w := by go_simp; first | done | rfl) : PR P k w o v := ⟨fun ρ hρ => by
  unfold execOp; rw [ho]; simp only [hρ _ _ hx, Sem.run_bind, hr, Result.andThen_ok]; rfl⟩
theorem run_add {kk : IntKind} (h : kk.wrap (a + b) = r) : (do eqGuard .add ty x y (.int kk a) (.int kk b); binOp .add ty (.int kk a) (.int kk b) : Sem Value).run P w = .ok (.int kk r) w := by
  simp only [eqGuard, binOp, Op.intArith, Sem.run_bind]; rw [h, if_neg (show ¬ (kk ≠ kk) from fun h => h rfl)]; rfl
theorem run_sub {kk : IntKind} (h : kk.wrap (a - b) = r) : (do eqGuard .sub ty x y (.int kk a) (.int kk b); binOp .sub ty (.int kk a) (.int kk b) : Sem Value).run P w = .ok (.int kk r) w := by
  simp only [eqGuard, binOp, Op.intArith, Sem.run_bind]; rw [h, if_neg (show ¬ (kk ≠ kk) from fun h => h rfl)]; rfl
theorem run_mul {kk : IntKind} (h : kk.wrap (a * b) = r) : (do eqGuard .mul ty x y (.int kk a) (.int kk b); binOp .mul ty (.int kk a) (.int kk b) : Sem Value).run P w = .ok (.int kk r) w := by
  simp only [eqGuard, binOp, Op.intArith, Sem.run_bind]; rw [h, if_neg (show ¬ (kk ≠ kk) from fun h => h rfl)]; rfl
/-- Pieces of texts. -/
theorem oZs {s : ByteArray} {i j : Nat} (ho : o.op = .slice ty x (some y) (some z) none := by exact rfl) (hx : knX k x = some (.string s) := by exact rfl) (hy : knX k y = some (.int .i64 a) := by exact rfl) (hz : knX k z = some (.int .i64 b) := by exact rfl) (ht : P.underlying ty = some .string := by exact rfl)
    (ha : a = (i : Int)) (hb : b = (j : Int)) (hij : i ≤ j) (hj : j ≤ s.size) : PR P k w o (.string (s.extract i j)) := ⟨fun ρ hρ => by
  subst ha hb
  have h1 : ((i : Int) ≤ (j : Int)) := by omega
  have h2 : ((j : Int) ≤ (s.size : Int)) := by omega
  have hr : (Instr.sliceAt ty (.string s) (some (.int .i64 (i : Int))) (some (.int .i64 (j : Int))) none).run P w = .ok (.string (s.extract i j)) w := by
    go_simp
    first | done | rfl | (simp; done)
  unfold execOp; rw [ho]
  simp only [Option.map, hρ _ _ hx, hρ _ _ hy, hρ _ _ hz, Sem.run_bind, hr, Result.andThen_ok]; rfl⟩
theorem oZt {s : ByteArray} {i : Nat} (ho : o.op = .slice ty x (some y) none none := by exact rfl) (hx : knX k x = some (.string s) := by exact rfl) (hy : knX k y = some (.int .i64 a) := by exact rfl) (ht : P.underlying ty = some .string := by exact rfl)
    (ha : a = (i : Int)) (hj : i ≤ s.size) : PR P k w o (.string (s.extract i s.size)) := ⟨fun ρ hρ => by
  subst ha
  have h1 : ((i : Int) ≤ (s.size : Int)) := by omega
  have hr : (Instr.sliceAt ty (.string s) (some (.int .i64 (i : Int))) none none).run P w = .ok (.string (s.extract i s.size)) w := by
    go_simp
    first | done | rfl | (simp; done)
  unfold execOp; rw [ho]
  simp only [Option.map, hρ _ _ hx, hρ _ _ hy, Sem.run_bind, hr, Result.andThen_ok]; rfl⟩
/-- Tests that arithmetic decides. -/
theorem oCt {op : BinOp} {c : Bool} (ho : o.op = .binOp op ty x y ty' := by exact rfl) (hv : evK k (.binOp op ty x y ty') = some (.bool c) := by exact rfl) (hc : c = true := by (simp only [decide_eq_true_eq, Bool.not_eq_true', decide_eq_false_iff_not]; omega)) : PR P k w o (.bool true) := PR.evc ho hv hc
theorem oCf {op : BinOp} {c : Bool} (ho : o.op = .binOp op ty x y ty' := by exact rfl) (hv : evK k (.binOp op ty x y ty') = some (.bool c) := by exact rfl) (hc : c = false := by (simp only [decide_eq_false_iff_not, Bool.not_eq_false', decide_eq_true_eq]; omega)) : PR P k w o (.bool false) := PR.evc ho hv hc
theorem KT.storeB {i : Nat} {ms us ls : List Nat} {S : World → Prop} {g : Nat} {vs : Array Value} {t : TypeId} {old : Array Value} (hi : ms.contains i = true) (hd : o.dst = none) (hw : knWant ops k o = some true) (ho : o.op = .store ty x y) (hx : knX k x = some (.pointer (some ⟨g, 0, none⟩))) (hy : knX k y = some (.agg vs)) (hb : Blk w g t old) (hs : old.size = vs.size) (hz : (P.info? ty).map (·.size) = some vs.size) (h1 : vs.all (·.oneCell') = true)
    (h : ∀ w', Blk w' g t vs → Kept (· = g) w w' → (i ∉ ls → S w') ∧ KT P n ops ms us ls S (i + 1) rest Q k w') : KT P n ops ms us ls S i (o :: rest) Q k w :=
  KT.stores hi hd hw (fun ρ hρ => by
    unfold execOp
    simp only [ho, hρ _ _ hx, hρ _ _ hy, Instr.storeAt, Instr.sureAddr, Sem.run_bind, Sem.run_pure, Result.andThen_ok, run_storeVar_row w g t ty old vs hb hz hs h1]) (h _ (setRow_heap w g old vs t (0, 0) hb) (setRow_kept w g vs)).1 (h _ (setRow_heap w g old vs t (0, 0) hb) (setRow_kept w g vs)).2
theorem oZp {s : ByteArray} {j : Nat} (ho : o.op = .slice ty x none (some y) none := by exact rfl) (hx : knX k x = some (.string s) := by exact rfl) (hy : knX k y = some (.int .i64 a) := by exact rfl) (ht : P.underlying ty = some .string := by exact rfl)
    (ha : a = (j : Int)) (hj : j ≤ s.size) : PR P k w o (.string (s.extract 0 j)) := ⟨fun ρ hρ => by
  subst ha
  have h1 : ((j : Int) ≤ (s.size : Int)) := by omega
  have hr : (Instr.sliceAt ty (.string s) none (some (.int .i64 (j : Int))) none).run P w = .ok (.string (s.extract 0 j)) w := by
    go_simp
    first | done | rfl | (simp; done)
  unfold execOp; rw [ho]
  simp only [Option.map, hρ _ _ hx, hρ _ _ hy, Sem.run_bind, hr, Result.andThen_ok]; rfl⟩
end
/-- As gg; arithmetic decides what nothing names. -/
theorem gx {g g' : Prop} (h : g') (t : Hid g' → g := by intro h; (repeat (first | refine qc ?_ | refine qe ?_ | refine qs ?_ | refine qq ?_ | refine qn ?_ | refine qy ?_ | refine qf ?_ | refine ql ?_ | refine qi ?_ | refine qw ?_ | refine qx ?_ | refine qr ?_ | refine kp ?_ oV | refine kp ?_ oA | refine kp ?_ oS | refine kp ?_ oM | refine kp ?_ oN | refine kp ?_ oT | refine kp ?_ oU | refine kp ?_ oB | refine kp ?_ oCt | refine kp ?_ oCf)); exact h.out) : g := t (Lib.hid h)
/-- As gq; arithmetic decides what nothing names. -/
theorem gqx {g g' : Prop} (h : g') (t : Hid g' → g := by intro h; (repeat (first | refine qk0 ?_ | refine qk1 ?_ oC | refine qk1 ?_ oE | refine qk1 ?_ oF | refine qk1 ?_ oL | refine qk1 ?_ oI | refine qk1 ?_ oW | refine qk1 ?_ oX | refine qk1 ?_ oV | refine qk1 ?_ oA | refine qk1 ?_ oS | refine qk1 ?_ oT | refine qk1 ?_ oB | refine qk1 ?_ oCt | refine qk1 ?_ oCf | refine KQ.nil ?_)); exact h.out) : g := t (Lib.hid h)
theorem bs_app (a b : List UInt8) : (⟨a.toArray⟩ : ByteArray) ++ ⟨b.toArray⟩ = ⟨(a ++ b).toArray⟩ := by
  apply ByteArray.ext
  simp
theorem bs_size (a : List UInt8) : (⟨a.toArray⟩ : ByteArray).size = a.length := by
  show a.toArray.size = _
  simp
theorem bs_app_size (s t : ByteArray) : (s ++ t).size = s.size + t.size := by simp
theorem kb_bs (a : List UInt8) : kb ⟨a.toArray⟩ = a := by unfold kb; simp
theorem bs_kb (s : ByteArray) : (⟨(kb s).toArray⟩ : ByteArray) = s := by unfold kb; simp
theorem kb_app (s t : ByteArray) : kb (s ++ t) = kb s ++ kb t := by unfold kb; simp
theorem kb_len (s : ByteArray) : (kb s).length = s.size := by unfold kb; simp
theorem kb_ext (s : ByteArray) (i j : Nat) : kb (s.extract i j) = ((kb s).drop i).take (j - i) := by
  unfold kb
  rw [ByteArray.data_extract, Array.toList_extract]
end Go.Proofs.YtiddhcabpmkolaaGreatDoor
