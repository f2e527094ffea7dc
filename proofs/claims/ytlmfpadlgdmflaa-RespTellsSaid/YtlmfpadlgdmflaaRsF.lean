/-
  Decode at every kind; what the chapter's example fixes.
-/
import Derived.Test.YtlmfpadlgdmflaaRsG
import Derived.Test.YtlmfpadlgdmflaaRsS
import Derived.Test.YtlmfpadlgdmflaaRsQ
import Derived.Test.YtlmfpadlgdmflaaRsO
set_option linter.unusedSimpArgs false
set_option linter.unusedVariables false
namespace Go.Proofs.Ytlmfpadlgdmflaa
open Go.RowKit
set_option maxRecDepth 100000

theorem decode_out (kind : Int) (A : Option Addr) (n c : Nat) (l : List UInt8) (w : World) (h : kind < 128 ∨ 139 < kind) :
    Calls Try.prog 24 #[.int .i64 kind, .slice A n c] w (DecP kind l w) := by
  have HD : Hid (decodeR kind l = (zeroR, 12)) := by unfold decodeR; rw [Hid, if_pos h]
  have hb := Blk.new w 40 #[.int .i64 0, .int .i64 0, .int .i64 0, .int .i64 0, .string ⟨#[]⟩, .int .i64 0, .bool false, .slice none 0 0]
  have hk : Pure w (w.alloc (.cells #[.int .i64 0, .int .i64 0, .int .i64 0, .int .i64 0, .string ⟨#[]⟩, .int .i64 0, .bool false, .slice none 0 0] 40)) := (Kept.refl _ _).alloc _
  rcases h with h | h
  · go_enter Try.func24, Try.ntmps24
    go_wp2_with (with_reducible refine stop_store (ty := 40) ?_)
    refine unheld ?_
    refine wp_store_blk rfl _ _ _ rfl rfl rfl hb rfl (by kernel_rfl) (by kernel_rfl) rfl ?_
    intro w9 hb9 hk9
    repeat go_step
    exact bodyPost_ret (results_cell_tmp Try.results24 rfl hb9 Try.underlying40 rfl (by kernel_rfl)) rfl (DecP.zero HD.out (hk.trans hk9 (fun i hi h => by omega)))
  · have h2 : ¬ kind < 128 := by omega
    go_enter Try.func24, Try.ntmps24
    go_wp2_with (with_reducible refine stop_store (ty := 40) ?_)
    refine unheld ?_
    refine wp_store_blk rfl _ _ _ rfl rfl rfl hb rfl (by kernel_rfl) (by kernel_rfl) rfl ?_
    intro w9 hb9 hk9
    repeat go_step
    exact bodyPost_ret (results_cell_tmp Try.results24 rfl hb9 Try.underlying40 rfl (by kernel_rfl)) rfl (DecP.zero HD.out (hk.trans hk9 (fun i hi h => by omega)))

theorem decode_all (kind : Int) (A : Option Addr) (n c : Nat) (l : List UInt8) (w : World) (F : Nat → Prop) (hl : Sl w F 1 A n (bvs l)) (hn : n ≤ 100000) :
    Calls Try.prog 24 #[.int .i64 kind, .slice A n c] w (DecP kind l w) := by
  by_cases h : kind < 128 ∨ 139 < kind
  · exact decode_out kind A n c l w h
  · exact decode_any kind A n c l w F hl hn (by omega) (by omega)

theorem decode_fits (kind : Int) (l : List UInt8) : (decodeR kind l).1.Fits := by
  have z : zeroR.Fits := ⟨by decide, by decide, by decide, by decide, fun i hi => by cases hi⟩
  unfold decodeR
  split
  · exact z
  · split
    · exact z
    · split
      · exact z
      · exact ⟨(numD_fits _ most32).2, (tokD_fits _).2, (tokD_fits _).2, (numD_fits _ most32).2, fun i hi => (itemsD_fits _ _ _ i hi).2⟩
theorem decode_zero {kind : Int} {l : List UInt8} (h : (decodeR kind l).2 ≠ 0) : (decodeR kind l).1 = zeroR := by
  unfold decodeR at h ⊢
  split
  · rfl
  · split
    · rfl
    · split
      · rfl
      · rename_i h1 h2 h3
        rw [if_neg h1, if_neg h2, if_neg h3] at h
        exact absurd rfl h
theorem decode_len (kind : Int) (l : List UInt8) : (decodeR kind l).1.items.length ≤ 100 := by
  by_cases h : (decodeR kind l).2 = 0
  · by_cases hk : kind < 128 ∨ 139 < kind
    · unfold decodeR; rw [if_pos hk]; simp [zeroR]
    · obtain ⟨h1, _, _⟩ := decode_canon (by omega) (by omega) h
      exact (check_zero h1).1.2.2.2.2.2.2.2.2
  · rw [decode_zero h]; simp [zeroR]
theorem Rs.Wf.fits {r : Rs} (h : r.Wf) : r.Fits := ⟨h.err.2, h.token.2, h.version.2, h.index.2, fun i hi => (h.ver i hi).2⟩

set_option maxHeartbeats 1600000 in
theorem first13 (w : World) : Calls Try.prog 20 #[] w (BoolP true w) := by
  have hE := fun w' hI => enc_any ⟨6, 4, 0, 0, ⟨#[]⟩, 0, false, []⟩ none 0 w' hI ⟨by decide, by decide, by decide, by decide, fun i hi => by cases hi⟩
  have e1 : checkR ⟨6, 4, 0, 0, ⟨#[]⟩, 0, false, []⟩ = 0 := by decide +kernel
  have e2 : encR ⟨6, 4, 0, 0, ⟨#[]⟩, 0, false, []⟩ = [4, 0, 0, 0, 0, 0, 0] := by decide +kernel
  have e3 : decodeR 134 [4, 0, 0, 0, 0, 0, 0] = (⟨6, 4, 0, 0, ⟨#[]⟩, 0, false, []⟩, 0) := by kernel_rfl
  unfold EncP at hE
  rw [e1, e2] at hE
  simp only [rsa, List.length_nil] at hE
  have HE := Lib.hid hE
  have hD := fun w' F A n c hl hn => decode_all 134 A n c [4, 0, 0, 0, 0, 0, 0] w' F hl hn
  unfold DecP at hD
  rw [e3] at hD
  simp only [rsa, List.length_nil] at hD
  have HD := Lib.hid hD
  have HB := Lib.hid (bad_any 6 4)
  simp only [rsa, List.length_nil] at HB
  clear e1 e2 e3 hE hD
  have kc := fun (w : World) (C : Array Value) (n c : Nat) => Lib.run_convert_bytes_const (P := Try.prog) w 22 5 C n c Try.underlying22 Try.underlying5
  go_enter Try.func20, Try.ntmps20
  go_wp2_with fail
  refine (HB.out _).mono ?_
  rintro e w1 ⟨rfl, hk1⟩
  go_wp2_with fail
  refine (HE.out _ (Sl.nil _ _ _ _)).mono ?_
  rintro e w2 ⟨A2, n2, c2, rfl, hs2, hn2, hc2, hk2⟩
  go_wp2_with fail
  have hk3 : Pure w w2 := (hk1.alloc (.cells #[.int .i64 6, .int .i64 4, .int .i64 0, .int .i64 0, .string ⟨#[]⟩, .int .i64 0, .bool false, .slice none 0 0] 40)).same hk2
  have hb := ((Blk.new w1 40 #[.int .i64 6, .int .i64 4, .int .i64 0, .int .i64 0, .string ⟨#[]⟩, .int .i64 0, .bool false, .slice none 0 0]).kept hk2 (fun h => h)).alloc (.cells #[.int .u8 4, .int .u8 0, .int .u8 0, .int .u8 0, .int .u8 0, .int .u8 0, .int .u8 0] 5 (7, 8))
  have hs3 := hs2.alloc (.cells #[.int .u8 4, .int .u8 0, .int .u8 0, .int .u8 0, .int .u8 0, .int .u8 0, .int .u8 0] 5 (7, 8))
  have hk4 := hk3.alloc (.cells #[.int .u8 4, .int .u8 0, .int .u8 0, .int .u8 0, .int .u8 0, .int .u8 0, .int .u8 0] 5 (7, 8))
  have hlit := Sl.lit_mark w2 #[.int .u8 4, .int .u8 0, .int .u8 0, .int .u8 0, .int .u8 0, .int .u8 0, .int .u8 0] 5 (7, 8) 1 7 (bvs [4, 0, 0, 0, 0, 0, 0]) rfl rfl
  refine (HD.out _ _ _ _ _ hlit (by omega)).mono ?_
  rintro e w4 ⟨A4, c4, rfl, hs4, hk5⟩
  have hb5 := hb.kept hk5 (fun h => h)
  have hs5 := hs3.kept hk5 (fun _ _ _ h => h)
  have hk6 := hk4.same hk5
  clear hb hs3 hk4 hlit hk3 hs2 hk2 hk1 hs4 hk5
  have hc := (hb5.alloc (.cells #[.int .i64 6, .int .i64 4, .int .i64 0, .int .i64 0, .string ⟨#[]⟩, .int .i64 0, .bool false, .slice A4 0 c4] 40)).cell
  have hcv := run_str (P := Try.prog) (hs5.alloc (.cells #[.int .i64 6, .int .i64 4, .int .i64 0, .int .i64 0, .string ⟨#[]⟩, .int .i64 0, .bool false, .slice A4 0 c4] 40)) 22 9 5 c2 Try.underlying22 Try.underlying5 Try.underlying9
  go_wp2_with fail
  go_ret
  exact ⟨rfl, hk6.alloc _⟩
end Go.Proofs.Ytlmfpadlgdmflaa
