/-
  Scripts: acts in memory. play: parts, hex walked.
-/
import Derived.Test.YtiddhcabpmkolaaGreatDoorZKz
import Derived.Test.YtiddhcabpmkolaaGreatDoorZKu
import Derived.Test.YtiddhcabpmkolaaGreatDoorPlQ
import Derived.Test.YtiddhcabpmkolaaGreatDoorZLib
set_option linter.unusedSimpArgs false
set_option linter.unusedVariables false
namespace Go.Proofs.YtiddhcabpmkolaaGreatDoor
open Go.RowKit
set_option maxRecDepth 100000
def PAct.cells (a : PAct) : List Value := [Value.int .i64 a.kind, Value.int .i64 a.conn, Value.int .i64 a.n, Value.string a.bytes]
theorem PAct.cells_len (a : PAct) : a.cells.length = 4 := rfl
abbrev PAct.row (a : PAct) : Array Value := #[.int .i64 a.kind, .int .i64 a.conn, .int .i64 a.n, .string a.bytes]
abbrev PAct.val (a : PAct) : Value := .agg a.row
def PAct.Fits (a : PAct) : Prop := (-9223372036854775808 ≤ a.kind ∧ a.kind ≤ 9223372036854775807) ∧ (-9223372036854775808 ≤ a.conn ∧ a.conn ≤ 9223372036854775807) ∧ (-9223372036854775808 ≤ a.n ∧ a.n ≤ 9223372036854775807) ∧ (a.bytes.size ≤ maxLen)
def pac (l : List PAct) : List Value := l.flatMap PAct.cells
theorem pac_length (l : List PAct) : (pac l).length = l.length * 4 := fm_length _ 4 PAct.cells_len l
theorem pac_app (a b : List PAct) : pac (a ++ b) = pac a ++ pac b := List.flatMap_append
theorem pac_one (l : List PAct) : ∀ u ∈ pac l, u.oneCell' = true := by
  intro u hu
  unfold pac at hu
  obtain ⟨a, _, h⟩ := List.mem_flatMap.1 hu
  simp only [PAct.cells, List.mem_cons, List.not_mem_nil, or_false] at h
  rcases h with rfl | rfl | rfl | rfl <;> rfl
theorem pa_c4 {w : World} {F : Nat → Prop} {b o m : Nat} {l : List PAct} (h : Sl w F 4 (some ⟨b, o, none⟩) m (pac l)) {i : Nat} {e : PAct} (he : l[i]? = some e) :
    w.cell? ⟨b, o + i * 4, none⟩ = some (.int .i64 e.kind) ∧ w.cell? ⟨b, o + i * 4 + 1, none⟩ = some (.int .i64 e.conn) ∧ w.cell? ⟨b, o + i * 4 + 2, none⟩ = some (.int .i64 e.n) ∧ w.cell? ⟨b, o + i * 4 + 3, none⟩ = some (.string e.bytes) := by
  have hi := (List.getElem?_eq_some_iff.1 he).1
  have hn : l.length = m := by have := h.1; rw [pac_length] at this; omega
  have hc := fun j hj => sl_at (f := PAct.cells) PAct.cells_len h (by omega) he (j := j) hj
  exact ⟨hc 0 (by omega), hc 1 (by omega), hc 2 (by omega), hc 3 (by omega)⟩
theorem pa_load {w : World} {b o : Nat} {e : PAct} (d0 : w.cell? ⟨b, o, none⟩ = some (.int .i64 e.kind)) (d1 : w.cell? ⟨b, o + 1, none⟩ = some (.int .i64 e.conn)) (d2 : w.cell? ⟨b, o + 2, none⟩ = some (.int .i64 e.n)) (d3 : w.cell? ⟨b, o + 3, none⟩ = some (.string e.bytes)) :
    (Instr.loadAt 33 (.pointer (some ⟨b, o, none⟩))).run Tryz.prog w = .ok e.val w := by
  go_simp
  first | done | rfl
theorem info_act : (Tryz.prog.info? 33).map (fun i => (i.zero, i.size, i.bytes)) = some (some (.agg #[.int .i64 0, .int .i64 0, .int .i64 0, .string ⟨#[]⟩]), 4, 40) := by kernel_rfl
end Go.Proofs.YtiddhcabpmkolaaGreatDoor
set_option linter.unusedSimpArgs false
set_option linter.unusedVariables false
namespace Go.Proofs.YtiddhcabpmkolaaGreatDoor
open Go.RowKit
set_option maxRecDepth 100000
open Go
def plW (k : Int) : ByteArray := ⟨(plWord k).toArray⟩
set_option maxHeartbeats 1600000 in
theorem pl_parts (k : Int) (w : World) : Calls Tryz.prog 31 #[.int .i64 k] w fun e w' => e = .returned (.tuple #[.string (plW k), .bool (plConn k), .bool (plNum k), .bool (decide (k = 2))]) ∧ w' = w := by
  by_cases h : 1 ≤ k ∧ k ≤ 7
  · rcases (show k = 1 ∨ k = 2 ∨ k = 3 ∨ k = 4 ∨ k = 5 ∨ k = 6 ∨ k = 7 by omega) with rfl | rfl | rfl | rfl | rfl | rfl | rfl <;> clear h
    all_goals
      refine calls_kn Tryz.func31 rfl Tryz.ntmps31 rfl ?_
      refine gg ?_
      refine KR.fin4 Tryz.results31 rfl rfl rfl rfl ⟨rfl, rfl⟩
  · have h1 : decide (k = 1) = false := by simp; omega
    have h2 : decide (k = 2) = false := by simp; omega
    have h3 : decide (k = 3) = false := by simp; omega
    have h4 : decide (k = 4) = false := by simp; omega
    have h5 : decide (k = 5) = false := by simp; omega
    have h6 : decide (k = 6) = false := by simp; omega
    have h7 : decide (k = 7) = false := by simp; omega
    have e1 : plW k = ⟨#[]⟩ := by
      unfold plW plWord
      rw [if_neg (by omega), if_neg (by omega), if_neg (by omega), if_neg (by omega), if_neg (by omega), if_neg (by omega), if_neg (by omega)]
    have e2 : plConn k = false := decide_eq_false (by omega)
    have e3 : plNum k = false := decide_eq_false (by omega)
    rw [e1, e2, e3, h2]
    clear e1 e2 e3
    refine calls_kn Tryz.func31 rfl Tryz.ntmps31 rfl ?_
    refine gg ?_
    refine KR.fin4 Tryz.results31 rfl rfl rfl rfl ⟨rfl, rfl⟩
end Go.Proofs.YtiddhcabpmkolaaGreatDoor
