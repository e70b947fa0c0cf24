/-
  The chapter's example of layer 29: the kernel runs the abstract machine.
  Conditions: none; a lemma.
-/
import Derived.Test.YtleommjdeejmkaaGreatDoorZC
import Derived.KernelRfl
set_option linter.all false

namespace Go.Proofs.YtleommjdeejmkaaGreatDoor.Zq
open Go

def isTrue : Option (AV × List AObj) → Bool
  | some (.bool b, _) => b
  | _ => false

theorem isTrue_out {r : Option (AV × List AObj)} (h : isTrue r = true) : ∃ S, r = some (.bool true, S) := by
  match r, h with
  | some (.bool b, S), h => simp [isTrue] at h; subst h; exact ⟨S, rfl⟩

theorem fixed_run : isTrue (ecall tab 3000 (.f 5) [] []) = true := by kernel_rfl

theorem fixed_c : pureCall (CC tab) (.fn (.f 5) [] []) [] = some (.bool true) := by
  obtain ⟨S, h⟩ := isTrue_out fixed_run
  have hc : CC tab (.f 5) ([] ++ [] ++ []) [] = some (.bool true, S) := CC_iff.2 ⟨_, h⟩
  simp only [pureCall, pureL, Bool.and_self, if_true]
  rw [hc]
  simp [frzV]

end Go.Proofs.YtleommjdeejmkaaGreatDoor.Zq
