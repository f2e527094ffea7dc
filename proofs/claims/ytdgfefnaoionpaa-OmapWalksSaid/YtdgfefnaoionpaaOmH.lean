/-
  omap: Put, Del where the map lies from a block on; what the chapter's example fixes.
-/
import Derived.Test.YtdgfefnaoionpaaOmY
import Derived.Test.YtdgfefnaoionpaaOmF
import Derived.Test.YtdgfefnaoionpaaSeq
set_option linter.unusedSimpArgs false
set_option linter.unusedVariables false
namespace Go.Proofs.Ytdgfefnaoionpaa
open Go.RowKit
set_option maxRecDepth 100000

theorem i_putN (N : Nat) (w : World) (g : Nat) (es : List (En Int)) (k : ByteArray) (v : Int) (h : Mpi w (fun b => N ≤ b) g es) (hn : es.length < 100000) :
    Calls Try.prog 10 #[.pointer (some ⟨g, 0, none⟩), .string k, .int .i64 v] w fun e w' => e = .returned (.bool (!has es (kb k))) ∧ Mpi w' (fun b => N ≤ b) g (putE es k v) ∧ Kept (fun b => N ≤ b) w w' := by
  have hN : N ≤ w.heap.size := by
    obtain ⟨h0, _, _, A, c, hb, _⟩ := h
    have := hb.lt
    omega
  refine (i_put w (fun b => N ≤ b ∧ b < w.heap.size) g es k v (h.imp (fun b hl h => ⟨h, hl⟩)) hn (fun b h => h.2)).mono ?_
  rintro e w' ⟨h1, h2, h3⟩
  exact ⟨h1, h2.imp (fun b _ h => by omega), h3.mono (fun b _ h => h.1)⟩
theorem i_delN (N : Nat) (w : World) (g : Nat) (es : List (En Int)) (k : ByteArray) (h : Mpi w (fun b => N ≤ b) g es) :
    Calls Try.prog 16 #[.pointer (some ⟨g, 0, none⟩), .string k] w fun e w' => e = .returned (.bool (has es (kb k))) ∧ Mpi w' (fun b => N ≤ b) g (delE es (kb k)) ∧ Kept (fun b => N ≤ b) w w' := by
  have hN : N ≤ w.heap.size := by
    obtain ⟨h0, _, _, A, c, hb, _⟩ := h
    have := hb.lt
    omega
  refine (i_mdel w (fun b => N ≤ b ∧ b < w.heap.size) g es k (h.imp (fun b hl h => ⟨h, hl⟩))).mono ?_
  rintro e w' ⟨h1, h2, h3⟩
  exact ⟨h1, h2.imp (fun b _ h => by omega), h3.mono (fun b _ h => h.1)⟩
theorem s_putN (N : Nat) (w : World) (g : Nat) (es : List (En ByteArray)) (k : ByteArray) (v : ByteArray) (h : Mps w (fun b => N ≤ b) g es) (hn : es.length < 100000) :
    Calls Try.prog 23 #[.pointer (some ⟨g, 0, none⟩), .string k, .string v] w fun e w' => e = .returned (.bool (!has es (kb k))) ∧ Mps w' (fun b => N ≤ b) g (putE es k v) ∧ Kept (fun b => N ≤ b) w w' := by
  have hN : N ≤ w.heap.size := by
    obtain ⟨h0, _, _, A, c, hb, _⟩ := h
    have := hb.lt
    omega
  refine (s_put w (fun b => N ≤ b ∧ b < w.heap.size) g es k v (h.imp (fun b hl h => ⟨h, hl⟩)) hn (fun b h => h.2)).mono ?_
  rintro e w' ⟨h1, h2, h3⟩
  exact ⟨h1, h2.imp (fun b _ h => by omega), h3.mono (fun b _ h => h.1)⟩
theorem s_delN (N : Nat) (w : World) (g : Nat) (es : List (En ByteArray)) (k : ByteArray) (h : Mps w (fun b => N ≤ b) g es) :
    Calls Try.prog 22 #[.pointer (some ⟨g, 0, none⟩), .string k] w fun e w' => e = .returned (.bool (has es (kb k))) ∧ Mps w' (fun b => N ≤ b) g (delE es (kb k)) ∧ Kept (fun b => N ≤ b) w w' := by
  have hN : N ≤ w.heap.size := by
    obtain ⟨h0, _, _, A, c, hb, _⟩ := h
    have := hb.lt
    omega
  refine (s_mdel w (fun b => N ≤ b ∧ b < w.heap.size) g es k (h.imp (fun b hl h => ⟨h, hl⟩))).mono ?_
  rintro e w' ⟨h1, h2, h3⟩
  exact ⟨h1, h2.imp (fun b _ h => by omega), h3.mono (fun b _ h => h.1)⟩

def kA : ByteArray := ⟨#[97]⟩
def kB : ByteArray := ⟨#[98]⟩
theorem ex1 : putE ([] : List (En Int)) ⟨#[98]⟩ 1 = [(⟨#[98]⟩, 1)] := by decide +kernel
theorem ex2 : putE [((⟨#[98]⟩ : ByteArray), (1 : Int))] ⟨#[97]⟩ 2 = [(⟨#[97]⟩, 2), (⟨#[98]⟩, 1)] := by decide +kernel
theorem ex3 : has ([] : List (En Int)) (kb ⟨#[98]⟩) = false := by decide +kernel
theorem ex4 : has [((⟨#[98]⟩ : ByteArray), (1 : Int))] (kb ⟨#[97]⟩) = false := by decide +kernel
theorem ex5 : valAt [((⟨#[97]⟩ : ByteArray), (2 : Int)), (⟨#[98]⟩, 1)] (kb ⟨#[97]⟩) = some 2 := by decide +kernel
theorem ex6 : low [((⟨#[97]⟩ : ByteArray), (2 : Int)), (⟨#[98]⟩, 1)] (kb ⟨#[98]⟩) = 1 := by decide +kernel

set_option maxHeartbeats 3200000 in
theorem first14 (w : World) : Calls Try.prog 7 #[] w fun e w' => e = .returned (.bool true) ∧ Pure w w' := by
  obtain ⟨N, hN⟩ : ∃ N, w.heap.size = N := ⟨_, rfl⟩
  have C0 := Lib.hid (i_new w)
  have c1 := fun w h => i_putN N w N [] ⟨#[98]⟩ 1 h (by simp)
  rw [ex1, ex3] at c1
  have C1 := Lib.hid c1
  have c2 := fun w h => i_putN N w N [(⟨#[98]⟩, 1)] ⟨#[97]⟩ 2 h (by simp)
  rw [ex2, ex4] at c2
  have C2 := Lib.hid c2
  have c3 := fun w h => i_get w (fun b => N ≤ b) N [(⟨#[97]⟩, 2), (⟨#[98]⟩, 1)] ⟨#[97]⟩ h
  rw [ex5] at c3
  have C3 := Lib.hid c3
  have c4 := fun w h => i_keys w (fun b => N ≤ b) N [(⟨#[97]⟩, 2), (⟨#[98]⟩, 1)] h
  have C4 := Lib.hid c4
  have c6 := fun w h => i_place w (fun b => N ≤ b) N [(⟨#[97]⟩, 2), (⟨#[98]⟩, 1)] ⟨#[98]⟩ h
  rw [ex6] at c6
  have C6 := Lib.hid c6
  have C7 := Lib.hid (fun w h => i_len w (fun b => N ≤ b) N [(⟨#[97]⟩, 2), (⟨#[98]⟩, 1)] h)
  clear c1 c2 c3 c4 c6
  rw [hN] at C0
  go_enter Try.func7, Try.ntmps7
  go_wp2_with fail
  refine (C0.out).mono ?_
  rintro e w1 ⟨rfl, hm1, hk1⟩
  replace hm1 : Mpi w1 (fun b => N ≤ b) N [] := hm1.imp (fun b _ h => by omega)
  go_wp2_with fail
  refine (C1.out _ hm1).mono ?_
  rintro e w2 ⟨rfl, hm2, hk2⟩
  go_wp2_with fail
  refine (C2.out _ hm2).mono ?_
  rintro e w3 ⟨rfl, hm3, hk3⟩
  go_wp2_with fail
  refine (C3.out _ hm3).mono ?_
  rintro e w4 ⟨rfl, hk4⟩
  have hm4 := hm3.kept hk4 (fun _ _ _ h => h)
  go_wp2_with fail
  refine (C4.out _ hm4).mono ?_
  rintro e w5 ⟨A, c, rfl, ho, hk5⟩
  have hk : Kept (fun b => N ≤ b) w w5 := (((hk1.mono (fun _ _ h => h.elim)).same hk2).same hk3).same ((hk4.same hk5).mono (fun _ _ h => h.elim))
  have hm5 := hm4.kept hk5 (fun _ _ _ h => h)
  have ho5 := ho.alloc (.cells #[.string ⟨#[97]⟩, .string ⟨#[98]⟩] 9)
  have hm6 := hm5.kept ((Kept.refl (fun _ => False) w5).alloc (.cells #[.string ⟨#[97]⟩, .string ⟨#[98]⟩] 9)) (fun _ _ _ h => h)
  have hk6 := hk.alloc (.cells #[.string ⟨#[97]⟩, .string ⟨#[98]⟩] 9)
  have hl := Sl.lit w5 #[.string ⟨#[97]⟩, .string ⟨#[98]⟩] 9 1 2 _ rfl rfl
  have C5 := Lib.hid (texts_any A 2 c [⟨#[97]⟩, ⟨#[98]⟩] (some ⟨w5.heap.size, 0, none⟩) 2 2 [⟨#[97]⟩, ⟨#[98]⟩] _ _ _ ho5.sl hl (by omega) (by omega))
  have Hk6 := Lib.hid hk6
  have Hm6 := Lib.hid hm6
  clear hk1 hk2 hk3 hk4 hk5 hk hm1 hm2 hm3 hm4 hm5 ho ho5 hl hm6 hk6
  go_wp2_with fail
  refine (C5.out).mono ?_
  rintro e w6 ⟨rfl, hk7⟩
  have hm7 := Hm6.out.kept hk7 (fun _ _ _ h => h)
  go_wp2_with fail
  refine (C6.out _ hm7).mono ?_
  rintro e w7 ⟨rfl, hk8⟩
  have hm8 := hm7.kept hk8 (fun _ _ _ h => h)
  go_wp2_with fail
  refine (C7.out _ hm8).mono ?_
  rintro e w8 ⟨rfl, rfl⟩
  go_wp2
  go_ret
  have hkk := Hk6.out.same ((hk7.same hk8).mono (fun _ _ h => h.elim))
  exact ⟨by simp, hkk.mono (fun b hb h => by omega)⟩
end Go.Proofs.Ytdgfefnaoionpaa
