/-
  play: the library's variables as the rows list them; a world that holds them.
-/
import Derived.Test.YtiddhcabpmkolaaGreatDoorRows
import Derived.Lay
import Derived.Lib.LaidU8T
import Derived.Lib.LaidTab
import Derived.PinnedBridge
import Derived.Deep.DeepHandedRow
import Derived.Deep.DeepWitnessRowRef
import Derived.ProofKit
import Derived.Test.YtiddhcabpmkolaaGreatDoorZPlX
set_option linter.unusedSimpArgs false
set_option linter.unusedVariables false
namespace Go.Proofs.YtiddhcabpmkolaaGreatDoor
open Go.RowKit
set_option maxRecDepth 100000
open Go.Lib
def laidList : List (String × DataW Unit) := [("math/bits.deBruijn32tab", Rows.laid_math_bits_deBruijn32tab), ("math/bits.deBruijn64tab", Rows.laid_math_bits_deBruijn64tab), ("internal/strconv.uint64pow10", Rows.laid_internal_strconv_uint64pow10), ("unicode/utf8.acceptRanges", Rows.laid_unicode_utf8_acceptRanges), ("strconv.ErrRange", Rows.laid_strconv_ErrRange), ("strconv.ErrSyntax", Rows.laid_strconv_ErrSyntax), ("unicode/utf8.first", Rows.laid_unicode_utf8_first)]
theorem pow_eq : (Rows.laid_internal_strconv_uint64pow10 : DataW Unit) = Lib.tabData .u64 Lib.pow10Tab := by kernel_rfl
theorem tab_of {P : Program} {W : World} {name : String} {kk : IntKind} {zs : List Int} {g : Nat} {t e : TypeId} {n : Nat}
    (hg : P.globalNamed name = some g) (hty : (P.globals[g]?).map (·.type) = some t) (ht : P.underlying t = some (.array n e)) (he : P.underlying e = some (.int kk)) (hce : P.cellsOf e = 1) (hct : P.cellsOf t = n)
    (h : VarReads P W name (tabData kk zs)) : TabIs P W name kk zs := by
  obtain ⟨g', t', cs, fuel, p, hg', ht', hvar, hd⟩ := h
  obtain rfl := Option.some.inj (hg.symm.trans hg')
  obtain rfl := Option.some.inj (hty.symm.trans ht')
  unfold TabIs
  rw [hvar, ← cells_of_tab ht he hce hct hd]
theorem iface_of {P : Program} {W : World} {name nm : String} {d : DataW Unit} {g : Nat} {t : TypeId} {ms : Array (String × TypeId)} (hg : P.globalNamed name = some g) (hty : (P.globals[g]?).map (·.type) = some t) (hi : P.underlying t = some (.interface ms))
    (h : VarReads P W name (.iface nm d)) : ∃ te pe, W.cell? ⟨g, 0, none⟩ = some (.iface te pe) := by
  obtain ⟨g', t', cs, fuel, p, hg', ht', hvar, hd⟩ := h
  obtain rfl := Option.some.inj (hg.symm.trans hg')
  obtain rfl := Option.some.inj (hty.symm.trans ht')
  obtain ⟨f2, u, v, hcs, _, _⟩ := iface_of_trod hi hd
  refine ⟨u, v, ?_⟩
  rw [World.var?_cell hg hvar 0]
  have : cs = #[.iface u v] := by rw [← Array.toList_inj]; exact hcs
  rw [this]
  rfl
theorem tb_of {W : World} (hL : laidMet Tryz.prog laidList W) (hS : W.ShapedOpen Tryz.prog) : Tb W := by
  refine ⟨?_, Tryz.lays145.s1_3 W hS, ?_, ?_⟩
  · have h := Lib.laidMet.reads hL (.tail _ (.tail _ (.head _)))
    rw [pow_eq] at h
    exact tab_of (g := 1) (t := 289) (e := 122) (n := 20) (by kernel_rfl) (by kernel_rfl) (by kernel_rfl) (by kernel_rfl) (by kernel_rfl) (by kernel_rfl) h
  · exact iface_of (t := 56) (by kernel_rfl) (by kernel_rfl) Tryz.underlying56 (Lib.laidMet.reads hL (.tail _ (.tail _ (.tail _ (.tail _ (.tail _ (.head _)))))))
  · exact iface_of (t := 56) (by kernel_rfl) (by kernel_rfl) Tryz.underlying56 (Lib.laidMet.reads hL (.tail _ (.tail _ (.tail _ (.tail _ (.head _))))))
noncomputable def laidWorld (os : Os) : World := World.laidAll Tryz.prog os laidList
theorem laid_met (os : Os) (args : Array Value) : laidMet Tryz.prog laidList ((laidWorld os).forCall (fun _ _ => 0) ⟨#[], args, []⟩).memory := laidMet_laidAll _ (by kernel_rfl) (by kernel_rfl)
theorem back_all (A : Option Addr) (c : Nat) (l : List PAct) (s : ByteArray) (W : World) (hT : Tb W) (hs : Sl W (fun _ => True) 4 A l.length (pac l)) (h1 : l.length ≤ maxLen) (hf : ∀ a ∈ l, a.Fits) (h2 : l.length ≤ c) (h3 : c ≤ maxLen) (h4 : s.size ≤ maxLen) : Calls Tryz.prog 4 #[.slice A l.length c, .string s] W (TrueW W) := back_top A c l s W hs hf hT
theorem lines_all (A : Option Addr) (c : Nat) (l : List PAct) (s : ByteArray) (W : World) (hT : Tb W) (hs : Sl W (fun _ => True) 4 A l.length (pac l)) (h1 : l.length ≤ maxLen) (hf : ∀ a ∈ l, a.Fits) (h2 : l.length ≤ c) (h3 : c ≤ maxLen) (h4 : s.size ≤ maxLen) : Calls Tryz.prog 5 #[.slice A l.length c, .string s] W (TrueW W) := lines_top A c l s W hs hf hT
theorem wf_i64 {z : Int} (h : (Lit.int .i64 z).wf = true) : -9223372036854775808 ≤ z ∧ z ≤ 9223372036854775807 := by
  simp only [Lit.wf, Bool.and_eq_true, decide_eq_true_eq] at h
  exact ⟨h.1, h.2⟩
theorem words_row (kind conn n : Int) (s : ByteArray) (W : World) (hT : Tb W) (h1 : (Lit.int .i64 kind).wf = true) (h2 : (Lit.int .i64 conn).wf = true) (h3 : (Lit.int .i64 n).wf = true) (h4 : s.size ≤ maxLen) : Calls Tryz.prog 6 #[.int .i64 kind, .int .i64 conn, .int .i64 n, .string s] W (TrueW W) := words_top kind conn n s W ⟨wf_i64 h1, wf_i64 h2, wf_i64 h3, h4⟩ hT
end Go.Proofs.YtiddhcabpmkolaaGreatDoor
