/-
  ScratchSame, where what it reads is of bulk at most 1048576: whether any two reports tell the same is what the reference says; the call returns true and leaves its arguments as they were. (Second part: the contract.)
  Conditions: those of the given statement, nothing else.
-/
import Derived.Test.YtleommjdeejmkaaGreatDoorZFinAScratchSame
import Derived.WalkKit
import Derived.ProofKit
import Derived.OpenShut
import Derived.Test.YtleommjdeejmkaaGreatDoorZSeat
import Derived.Test.YtleommjdeejmkaaGreatDoorZMo
import Derived.Test.YtleommjdeejmkaaGreatDoorZLSame
set_option linter.all false

namespace Go.Proofs.YtleommjdeejmkaaGreatDoor
open Go Go.ChangeShapes Go.WideShapes Go.ChangeAt Go.RowKit Go.Proofs.YtleommjdeejmkaaGreatDoor.Zq

def shapes : List Sh := [shRep, shRep]

set_option maxRecDepth 100000 in
theorem contract (H : Type) (enc : TypeId × Value → H) (W : World) (base : Nat) (args : Array Value) (ds gs : List (DataW H)) (before : List MemPlace)
    (hval : ∀ (j : Nat) t v, Tryz.f6.params[j]? = some t → args[j]? = some v → Value.okWide Tryz.prog W .any base t v)
    (hW : DataW.Whole enc Tryz.prog Tryz.f6.params.toList Rows.scratchSameSpec.vars false W args.toList ds gs before) (hk : Rows.uptoSmall H (ds ++ gs) = true) :
    Calls Tryz.prog 6 args W fun e W' => ∃ v, e = .returned v ∧ Rows.scratchSameSpec.post enc Tryz.prog Tryz.f6 false true false false W args v W' := by
  have hgs : gs = [] := by
    obtain ⟨_, _, _, hV, _⟩ := hW
    exact (trodVars_none hV).1
  subst hgs
  rw [List.append_nil] at hk
  have hb := small_is hk
  have key : ∀ xs, dArgs shapes ds = some xs → ∃ S', CC env.T (.f 13) xs [] = some (.bool true, S') := by
    intro xs hx
    obtain ⟨d1, d2, x, y, rfl, h1, h2, rfl⟩ := dArgs_two hx
    obtain ⟨p, hp, p1, p2, p3⟩ := rep_of h1
    obtain ⟨q, hq, q1, q2, q3⟩ := rep_of h2
    simp only [blkAll] at hb
    exact ⟨[], law_same hp hq (fun o ho => ⟨by have := p3 o ho; omega, by have := p3 o ho; omega⟩) (by omega) (by omega) (fun o ho => ⟨by have := q3 o ho; omega, by have := q3 o ho; omega⟩) (by omega) (by omega)⟩
  have hds : ∃ ys, dArgs shapes ds = some ys := by
    obtain ⟨p, q, hA, _⟩ := hW
    obtain ⟨xs, h, _⟩ := args_rel (E := env) (V := { w := W, μ := fun _ => ⟨0, 0, 0, 0⟩, S := [], X := fun _ => False }) rfl (fun b hb => ⟨hb, fun h => h, fun r hr => by obtain ⟨o, ho, _⟩ := hr; simp at ho⟩) Tryz.f6.params.toList shapes args.toList ds p (by kernel_rfl)
      (fun j t v a b => hval j t v (by rwa [Array.getElem?_toList] at a) (by rwa [Array.getElem?_toList] at b)) hA
    exact ⟨xs, h⟩
  refine law_calls (E := env) env_fits (g := 6) (id := 13) (by kernel_rfl) (by kernel_rfl) (fn := Tryz.f6) (tb := 4) rfl (by kernel_rfl) (by kernel_rfl) (by kernel_rfl) (readable_of (by kernel_rfl)) (shs := shapes) (by kernel_rfl) hval hW ?_ (fun b o v h => absurd (show (b, o, v) ∈ ([] : List (Nat × Nat × Value)) from h) List.not_mem_nil) key
  obtain ⟨ys, hy⟩ := hds
  obtain ⟨d1, d2, x, y, rfl, h1, h2, rfl⟩ := dArgs_two hy
  rfl

set_option maxRecDepth 100000 in
theorem lifted (os : Os) (started : os.Started) (H : Type) (enc : TypeId × Value → H) (F : Stop.Interp) :
    ReturnsInHanded {} Tryz.checked os 6 .any ((Rows.OpenSpec.upto Rows.scratchSameSpec).preRow enc Tryz.prog Tryz.f6 Rows.scratchSameUptoRow.domain false Rows.scratchSameUptoRow.laid) (((Rows.OpenSpec.upto Rows.scratchSameSpec).at F).post enc Tryz.prog Tryz.f6 false true false false) := by
  obtain ⟨places, hx⟩ := reads_it os enc
  refine returnsInHanded_of_row (C := Tryz.checked) (s := Rows.OpenSpec.upto Rows.scratchSameSpec) own_knob started (by kernel_rfl) Tryz.func6
    (witness_row_at (enc := enc) (C := Tryz.checked) false (laidW Tryz.prog Rows.scratchSameUptoRow.laid os) #[.agg #[.slice none 0 0, .slice none 0 0, .slice none 0 0, .slice none 0 0], .agg #[.slice none 0 0, .slice none 0 0, .slice none 0 0, .slice none 0 0]] rfl (by kernel_rfl) (by kernel_rfl) (by kernel_rfl)
      (OpenSpec.preRow_of_cond 8 hx (by kernel_rfl) (fun k hk => by cases hk; kernel_rfl) (by kernel_rfl) (laid_met os))) ?_
  intro W base args ds gs before hval hW _ hcond _ hL _ _
  exact contract H enc W base args ds gs before hval hW (hcond _ rfl)

end Go.Proofs.YtleommjdeejmkaaGreatDoor
