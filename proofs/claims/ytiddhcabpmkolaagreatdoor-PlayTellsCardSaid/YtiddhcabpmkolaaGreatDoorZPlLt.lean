/-
  play: PlayTells, as the row lists its arguments.
-/
import Derived.Test.YtiddhcabpmkolaaGreatDoorZPlLw
import Derived.Test.YtiddhcabpmkolaaGreatDoorZPlTd
set_option linter.unusedSimpArgs false
set_option linter.unusedVariables false
namespace Go.Proofs.YtiddhcabpmkolaaGreatDoor
open Go.RowKit
set_option maxRecDepth 100000
open Go
theorem tells_all (A : Option Addr) (c : Nat) (l : List PAct) (s : ByteArray) (W : World) (hT : Tb W) (hs : Sl W (fun _ => True) 4 A l.length (pac l)) (h1 : l.length ≤ maxLen) (hf : ∀ a ∈ l, a.Fits) (h2 : l.length ≤ c) (h3 : c ≤ maxLen) (h4 : s.size ≤ maxLen) : Calls Tryz.prog 3 #[.slice A l.length c, .string s] W (TrueW W) := tells_top A c l s W hs hf hT
end Go.Proofs.YtiddhcabpmkolaaGreatDoor
