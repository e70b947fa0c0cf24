/-
  ScratchSame, where what it reads is of bulk at most 1048576: whether any two reports tell the same is what the reference says; the call returns true and leaves its arguments as they were. (First part: the world of the witness.)
  Conditions: those of the given statement, nothing else.
-/
import Derived.Test.YtleommjdeejmkaaGreatDoorCards
import Derived.Test.YtleommjdeejmkaaGreatDoorTie
import Derived.WalkKit
import Derived.ProofKit
import Derived.OpenShut
import Derived.Test.YtleommjdeejmkaaGreatDoorZMo
set_option linter.all false

namespace Go.Proofs.YtleommjdeejmkaaGreatDoor
open Go Go.ChangeShapes Go.WideShapes Go.ChangeAt Go.RowKit Go.Proofs.YtleommjdeejmkaaGreatDoor.Zq

/- The given count is ours. -/
mutual
theorem blk_is {H : Type} : ∀ d : DataW H, Rows.uptoBulk d = blk d
  | .lit l => by cases l <;> simp [Rows.uptoBulk, blk]
  | .nil => by simp [Rows.uptoBulk, blk]
  | .ptr d => by simp [Rows.uptoBulk, blk, blk_is d]
  | .slice a b => by simp [Rows.uptoBulk, blk, blkAll_is a, blkAll_is b]
  | .agg a => by simp [Rows.uptoBulk, blk, blkAll_is a]
  | .iface _ d => by simp [Rows.uptoBulk, blk, blk_is d]
  | .map es => by simp [Rows.uptoBulk, blk, blkEs_is es]
  | .held _ => by simp [Rows.uptoBulk, blk]
theorem blkAll_is {H : Type} : ∀ l : List (DataW H), Rows.uptoBulkAll l = blkAll l
  | [] => by simp [Rows.uptoBulkAll, blkAll]
  | d :: l => by simp [Rows.uptoBulkAll, blkAll, blk_is d, blkAll_is l]
theorem blkEs_is {H : Type} : ∀ l : List (Lit × DataW H), Rows.uptoBulkEntries l = blkEs l
  | [] => by simp [Rows.uptoBulkEntries, blkEs]
  | x :: l => by simp [Rows.uptoBulkEntries, blkEs, blkE_is x, blkEs_is l]
theorem blkE_is {H : Type} : ∀ x : Lit × DataW H, Rows.uptoBulkEntry x = blkE x
  | (l, d) => by cases l <;> simp [Rows.uptoBulkEntry, blkE, blk_is d]
end

theorem small_is {H : Type} {l : List (DataW H)} (hk : Rows.uptoSmall H l = true) : blkAll l ≤ 1048576 := by
  have h := of_decide_eq_true hk
  rwa [blkAll_is] at h

theorem own_knob : ownKnob Tryz.prog.godebug = none := by kernel_rfl
theorem laid_met (os : Os) : laidMet Tryz.prog Rows.scratchSameUptoRow.laid ((laidW Tryz.prog Rows.scratchSameUptoRow.laid os).forCall (fun _ _ => 0) ⟨#[], #[.agg #[.slice none 0 0, .slice none 0 0, .slice none 0 0, .slice none 0 0], .agg #[.slice none 0 0, .slice none 0 0, .slice none 0 0, .slice none 0 0]], []⟩).memory :=
  laidMet_of_run' 8 (by kernel_rfl) (by kernel_rfl)
theorem reads_it (os : Os) {H : Type} (enc : TypeId × Value → H) : ∃ places, DataW.whole enc Tryz.prog ((laidW Tryz.prog Rows.scratchSameUptoRow.laid os).forCall (fun _ _ => 0) ⟨#[], #[.agg #[.slice none 0 0, .slice none 0 0, .slice none 0 0, .slice none 0 0], .agg #[.slice none 0 0, .slice none 0 0, .slice none 0 0, .slice none 0 0]], []⟩).memory Tryz.f6.params.toList Rows.scratchSameSpec.vars false (#[.agg #[.slice none 0 0, .slice none 0 0, .slice none 0 0, .slice none 0 0], .agg #[.slice none 0 0, .slice none 0 0, .slice none 0 0, .slice none 0 0]] : Array Value).toList 8 = some ([.agg [.nil, .nil, .nil, .nil], .agg [.nil, .nil, .nil, .nil]], [], places) :=
  ⟨[], by kernel_rfl⟩

end Go.Proofs.YtleommjdeejmkaaGreatDoor
