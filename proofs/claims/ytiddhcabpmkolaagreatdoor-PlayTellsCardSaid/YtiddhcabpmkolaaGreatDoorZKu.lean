/-
  The walk by what is known of the slots: a loop walked round by round.
-/
import Derived.LoopN
import Derived.Test.YtiddhcabpmkolaaGreatDoorZKa
set_option linter.unusedSimpArgs false
set_option linter.unusedVariables false
namespace Go.Proofs.YtiddhcabpmkolaaGreatDoor

set_option maxRecDepth 100000
open Go
section
variable {P : Program} {n m : Nat} {Q : Exit → Act → World → Prop} {k : Kn} {w : World} {c : Code}
/-- A loop of m + 1 rounds at most. -/
theorem KW.unroll (m : Nat) (h : KW P n c (Exit.then (Code.rounds P c Q m) Q) k w) : KW P n (.loop c) Q k w := ⟨fun a ha => wp_loop_rounds (m + 1) (h.go a ha)⟩
theorem KE.more (h : KW P n c (Exit.then (Code.rounds P c Q m) Q) k w) : KE n (Exit.then (Code.rounds P c Q (m + 1)) Q) k w := ⟨fun a ha => h.go a ha⟩
/-- A cut between two pieces of code: what the second is told. -/
theorem KW.cut {c1 c2 : Code} {ι : Type} (K : ι → Kn) (R : ι → World → Prop) (h2 : ∀ j w, R j w → KW P n c2 Q (K j) w)
    (h1 : ∀ N : Act → World → Prop, (∀ (j : ι) (k' : Kn) (w' : World), kle (K j) k' → R j w' → KE n (Exit.then N Q) k' w') → KW P n c1 (Exit.then N Q) k w) : KW P n (c1.seq c2) Q k w :=
  KW.seq (h1 (c2.wp P Q) (fun j k' w' hk hR => ⟨fun a ha => (h2 j w' hR).go a (ha.forget (kle_ok hk))⟩))
end
end Go.Proofs.YtiddhcabpmkolaaGreatDoor
