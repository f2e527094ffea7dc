/- chapter 10's statements: the walks -/
import Derived.Test.YtlmfpadlgdmflaaPackB
import Derived.Test.YtlmfpadlgdmflaaPackW
namespace Go.Proofs.Ytlmfpadlgdmflaa
set_option linter.unusedSimpArgs false
set_option linter.unusedVariables false
open Go.RowKit
set_option maxRecDepth 100000
set_option linter.unusedVariables false

def TrueP (w : World) (e : Ending) (w' : World) : Prop := e = .returned (.bool true) ∧ Pure w w'

set_option maxHeartbeats 800000 in
theorem first10 (w : World) : Calls Try.prog 10 #[] w (TrueP w) := by
  go_enter Try.func10, Try.ntmps10
  go_wp2_with fail
  refine (read_any _ _ _ [249, 1, 44, 2, 104, 105, 7] _ _ (Sl.lit w _ _ 1 7 _ rfl rfl) (by omega)).mono ?_
  rintro e w1 ⟨g, rfl, hrd, hk1⟩
  have hk2 : Pure w w1 := ((Kept.refl _ _).alloc _).same hk1
  clear hk1
  go_wp2_with fail
  refine (num_any _ _ g _ hrd).mono ?_
  rintro e w2 ⟨rfl, hrd2, hk3⟩
  have e1 : (Pk.St.num ⟨[249, 1, 44, 2, 104, 105, 7], 0, 0⟩) = (300, ⟨[249, 1, 44, 2, 104, 105, 7], 3, 0⟩) := by decide +kernel
  rw [e1] at hrd2 ⊢
  clear e1 hrd
  go_wp2_with fail
  refine (text_any _ _ g _ 5 hrd2).mono ?_
  rintro e w3 ⟨rfl, hrd3, hk4⟩
  have e1 : (Pk.St.text ⟨[249, 1, 44, 2, 104, 105, 7], 3, 0⟩ 5) = ([104, 105], ⟨[249, 1, 44, 2, 104, 105, 7], 6, 0⟩) := by decide +kernel
  rw [e1] at hrd3 ⊢
  clear e1 hrd2
  go_wp2_with fail
  have hp := put_any none 0 0 [] w3 (fun _ => False) (Sl.nil _ _ _ _) (by omega) 250 (by omega)
  rw [show [] ++ Pk.num 250 = [248, 250] from by decide +kernel] at hp
  refine hp.mono ?_
  clear hp
  rintro e w4 ⟨A, c, rfl, ho, hk5⟩
  have hsl : Sl w4 (fun g => w3.heap.size ≤ g) 1 A 2 (bvs [248, 250]) := by
    obtain ⟨A', c', hv, _, _, _, hs⟩ := ho.form
    injection hv with h1 _ _
    subst h1
    exact hs
  have hcv := run_str (P := Try.prog) hsl 22 9 5 c Try.underlying22 Try.underlying5 Try.underlying9
  have hrd4 := hrd3.kept hk5 (fun _ _ _ h => h)
  go_wp2_with fail
  refine (left_any _ _ g _ hrd4).mono ?_
  rintro e w5 ⟨rfl, nd, rfl⟩
  have hrd5 := hrd4.kept ((Kept.refl (fun _ => False) _).drewN nd) (fun _ _ _ h => h)
  go_wp2_with fail
  refine (err_any _ _ g _ hrd5).mono ?_
  rintro e w6 ⟨rfl, rfl⟩
  go_wp2
  go_ret
  have hg : w.heap.size ≤ g := by have h1 := hrd3.1; simp only [World.size_alloc] at h1; omega
  exact ⟨rfl, (((hk2.trans hk3 (by intro i hi e; omega)).trans hk4 (by intro i hi e; omega)).same hk5).drewN _⟩
end Go.Proofs.Ytlmfpadlgdmflaa
