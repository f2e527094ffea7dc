/-
  play: the library's variables that are read; Itoa, Atoi, Cut, Split by the shelf.
-/
import Derived.Test.YtiddhcabpmkolaaGreatDoorZPlB
import Derived.Test.YtiddhcabpmkolaaGreatDoorLays
set_option linter.unusedSimpArgs false
set_option linter.unusedVariables false
namespace Go.Proofs.YtiddhcabpmkolaaGreatDoor
open Go.RowKit
set_option maxRecDepth 100000
open Go
/-- The library's variables. -/
structure Tb (w : World) : Prop where
  tab : Lib.TabIs Tryz.prog w "internal/strconv.uint64pow10" .u64 Lib.pow10Tab
  ml : ∃ m, w.cell? ⟨0, 0, none⟩ = some (.int .i64 m)
  es : ∃ te pe, w.cell? ⟨2, 0, none⟩ = some (.iface te pe)
  er : ∃ te pe, w.cell? ⟨3, 0, none⟩ = some (.iface te pe)
theorem Pure.cell {w w' : World} (hk : Pure w w') {a : Addr} {v : Value} (ha : w.cell? a = some v) : w'.cell? a = some v := by
  have hl := World.block_lt_of_cell? w a ha
  exact (World.cell?_of_block (hk.block _ hl (fun h => h))).trans ha
theorem Tb.kept {w w' : World} (h : Tb w) (hk : Pure w w') : Tb w' := by
  refine ⟨?_, h.ml.imp fun m hm => hk.cell hm, h.es.imp fun _ h => h.imp fun _ h => hk.cell h, h.er.imp fun _ h => h.imp fun _ h => hk.cell h⟩
  have ht := h.tab
  unfold Lib.TabIs World.var? at ht ⊢
  cases hg : Program.globalNamed Tryz.prog "internal/strconv.uint64pow10" with
  | none => rw [hg] at ht; cases ht
  | some g =>
    rw [hg] at ht
    simp only [Option.bind_some] at ht ⊢
    by_cases hl : g < w.heap.size
    · rw [hk.block g hl (fun h => h)]; exact ht
    · rw [Array.getElem?_eq_none (by omega)] at ht; cases ht
theorem Kept.grow {S : Nat → Prop} {a w : World} (h : Kept S a w) (os : Array Obj) : Kept S a (Go.Sort.grow w os) :=
  ⟨h.os, h.tape, h.output, Nat.le_trans h.size (by simp [Go.Sort.grow]), fun i hi hn => by
    have : i < w.heap.size := Nat.lt_of_lt_of_le hi h.size
    rw [← h.block i hi hn]
    simp only [Go.Sort.grow]
    rw [Array.getElem?_append_left this]⟩
theorem it_itoa (n : Int) (w : World) (h0 : 0 ≤ n) (h1 : n ≤ 999999) (hT : Tb w) : Calls Tryz.prog 32 #[.int .i64 n] w fun e w' => e = .returned (.string ⟨(Lib.itoa n).toArray⟩) ∧ Pure w w' :=
  (Any.strconv_Itoa Tryz.lays171 n (by omega) (by omega) w hT.tab).mono fun e w' ⟨h, k, os, hw⟩ => ⟨h, by rw [hw]; exact ((Kept.refl _ _).drewN k).grow os⟩
/-- What Atoi says: the number and no error; or a number and an error. -/
theorem at_atoi (s : ByteArray) (w : World) (hs : s.size ≤ 100000) (hT : Tb w) : Calls Tryz.prog 64 #[.string s] w fun e w' => (match Lib.atoiAll (kb s) with | .ok v => e = .returned (.tuple #[.int .i64 v, .nilIface]) | _ => ∃ v t p, e = .returned (.tuple #[.int .i64 v, .iface t (.pointer (some p))])) ∧ Pure w w' := by
  obtain ⟨te, pe, hes⟩ := hT.es
  obtain ⟨te', pe', her⟩ := hT.er
  have e : kb s = s.data.toList := rfl
  rw [e]
  rcases h : Lib.atoiAll s.data.toList with v | _ | _
  · exact (Any.strconv_Atoi_ok Tryz.lays172 s (by omega) v h w).mono fun e w' ⟨h1, h2⟩ => ⟨h1, by
      rcases h2 with rfl | ⟨t, rfl⟩
      · exact Kept.refl _ _
      · exact Pure.of_below (Lib.bytesWorld_below _ _ _)⟩
  · exact (Any.strconv_Atoi_syntax Tryz.lays172 s (by omega) h _ w hes (.inr ⟨_, _, rfl⟩)).mono fun e w' ⟨N, h1, _, _, h4⟩ => ⟨⟨_, _, _, h1⟩, Pure.of_below h4⟩
  · exact (Any.strconv_Atoi_range Tryz.lays172 s (by omega) h _ w her (.inr ⟨_, _, rfl⟩)).mono fun e w' ⟨N, h1, _, _, h4⟩ => ⟨⟨_, _, _, h1⟩, Pure.of_below h4⟩
theorem ct_cut (s : ByteArray) (w : World) (hs : s.size ≤ 100000) (hT : Tb w) : Calls Tryz.prog 21 #[.string s, .string ⟨#[10]⟩] w fun e w' => e = .returned (.tuple #[.string ⟨(Lib.cut (kb s) [10]).1.toArray⟩, .string ⟨(Lib.cut (kb s) [10]).2.1.toArray⟩, .bool (Lib.cut (kb s) [10]).2.2]) ∧ Pure w w' := by
  obtain ⟨m, hm⟩ := hT.ml
  exact (Any.strings_Cut (P := Tryz.prog) (ρ := Tryz.lays145_ren) { Tryz.lays145 with } s ⟨#[10]⟩ m w (by omega) hm).mono fun e w' ⟨h1, n, hw⟩ => ⟨h1, by rw [hw]; exact (Kept.refl _ _).drewN n⟩
/-- A text's words. -/
def WordsOf (l : List UInt8) (ws : List ByteArray) : Prop := ∃ x r, ws.map kb = x :: r ∧ l = x ++ glue r ∧ ∀ p ∈ x :: r, ∀ c ∈ p, c ≠ (32 : UInt8)
theorem glue_mem : ∀ {r : List (List UInt8)} {p : List UInt8}, p ∈ r → p.length ≤ (glue r).length
  | x :: r, p, h => by
    rw [glue, List.length_cons, List.length_append]
    rcases List.mem_cons.1 h with rfl | h
    · omega
    · have := glue_mem h; omega
theorem WordsOf.size {s : ByteArray} {ws : List ByteArray} (h : WordsOf (kb s) ws) : ∀ x ∈ ws, x.size ≤ s.size := by
  obtain ⟨x, r, h1, h2, _⟩ := h
  intro y hy
  have hy' : kb y ∈ x :: r := by rw [← h1]; exact List.mem_map_of_mem hy
  have e1 : (kb y).length = y.size := by unfold kb; simp
  have e2 : (kb s).length = s.size := by unfold kb; simp
  rw [← e1, ← e2, h2, List.length_append]
  rcases List.mem_cons.1 hy' with e | h
  · rw [e]; omega
  · have := glue_mem h; omega
theorem sp_split (s : ByteArray) (w : World) (hs : s.size ≤ 100000) (hT : Tb w) : Calls Tryz.prog 38 #[.string s, .string ⟨#[32]⟩] w fun e w' => ∃ (ws : List ByteArray), e = .returned (.slice (some ⟨w.heap.size, 0, none⟩) ws.length ws.length) ∧ WordsOf (kb s) ws ∧ Sl w' (fun b => w.heap.size ≤ b) 1 (some ⟨w.heap.size, 0, none⟩) ws.length (ws.map Value.string) ∧ Pure w w' := by
  obtain ⟨m, hm⟩ := hT.ml
  refine (Any.strings_Split Tryz.lays146 (by kernel_rfl) s ⟨#[32]⟩ m w (by omega) hm (by decide)).mono ?_
  rintro e w' ⟨rfl, rfl⟩
  have hl := Lib.splitB_all ⟨#[32]⟩ (by decide) 0 (Lib.countB s ⟨#[32]⟩) s rfl
  have hd := Lib.splitB_data ⟨#[32]⟩ 0 (Lib.countB s ⟨#[32]⟩) s
  obtain ⟨x, r, h1, h2, h3⟩ := split1 (Lib.countB s ⟨#[32]⟩) (kb s) rfl
  refine ⟨Lib.splitB ⟨#[32]⟩ 0 (Lib.countB s ⟨#[32]⟩) s, by rw [hl], ⟨x, r, ?_, h2, h3⟩, ?_, (Kept.refl _ _).alloc _⟩
  · rw [← h1]
    exact hd
  · refine (Sl.lit w _ _ 1 _ _ ?_ ?_).imp (fun b _ e => by have e : b = w.heap.size := e; omega)
    · simp
    · rfl
end Go.Proofs.YtiddhcabpmkolaaGreatDoor
