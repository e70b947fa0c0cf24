/-
  ScratchSame, where what it reads is of bulk at most 1048576: whether any two reports tell the same is what the reference says; the call returns true and leaves its arguments as they were.
  Conditions: those of the given statement, nothing else.
-/
import Derived.Test.YtleommjdeejmkaaGreatDoorZFinCScratchSame
import Derived.WalkKit
import Derived.ProofKit
import Derived.OpenShut
set_option linter.all false

namespace Go.Proofs.YtleommjdeejmkaaGreatDoor
open Go Go.ChangeShapes Go.WideShapes Go.ChangeAt Go.RowKit Go.Proofs.YtleommjdeejmkaaGreatDoor.Zq

theorem scratchSame_holds : Rows.ScratchSameUptoCardSaid :=
  Claim7.holds_tied_plain_at .later [] _ _ _ _ said (fun _ h => by cases h) (by kernel_rfl) (fun _ h => by cases h) scratchSameUpto_row_tie rfl ⟨rfl, rfl⟩ (by kernel_rfl) rfl plainly (by kernel_rfl)
#print axioms scratchSame_holds
end Go.Proofs.YtleommjdeejmkaaGreatDoor
