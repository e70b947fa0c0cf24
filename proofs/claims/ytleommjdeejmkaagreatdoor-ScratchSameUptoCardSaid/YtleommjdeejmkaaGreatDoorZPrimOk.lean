/-
  The library's functions without a body, held against what the abstract machine takes them for.
  Conditions: none; lemmas.
-/
import Derived.Test.YtleommjdeejmkaaGreatDoorZMk
import Derived.Test.YtleommjdeejmkaaGreatDoorZMj
import Derived.Laws.StandIn
import Derived.Lib.Bytealg
set_option linter.all false

namespace Go.Proofs.YtleommjdeejmkaaGreatDoor.Zq
open Go Go.RowKit

section
variable {E : Env}

/-- A value at once, the world as it was. -/
theorem entered_value {g : FuncId} {args : Array Value} {V : Vw} {base : World} {v : AV} {v' : Value} (hw : WRel E base V) (h : (callFunc g args).run E.P V.w = .ok (.value v') V.w) (hv : VRel E V v v') :
    Entered E g args V.w (CPost E base V V.S v) := .inr ⟨v', V.w, h, V.μ, Later.refl _, hw, hv⟩

theorem frel2 {V : Vw} {x y : AV} {args : Array Value} (h : FRel E V [x, y] args) : ∃ u v, args = #[u, v] ∧ VRel E V x u ∧ VRel E V y v := by
  have hs : args.size = 2 := by simpa using h.size
  obtain ⟨l⟩ := args
  match l, hs with
  | [u, v], _ => exact ⟨u, v, rfl, by simpa using h.get 0 x rfl, by simpa using h.get 1 y rfl⟩

theorem idxB_is (c : UInt8) : ∀ (l : List UInt8) (k : Nat), idxB c l k = if Lib.indexByte l c == -1 then -1 else Lib.indexByte l c + k
  | [], k => rfl
  | x :: xs, k => by
    have hge := Lib.indexByte_ge xs c
    rw [idxB, Lib.indexByte, idxB_is c xs (k + 1)]
    cases x == c with
    | true => simp
    | false =>
      simp only [Bool.false_eq_true, if_false]
      by_cases h : Lib.indexByte xs c = -1
      · simp [h]
      · have h1 : (Lib.indexByte xs c == -1) = false := by simpa using h
        have h2 : (Lib.indexByte xs c + 1 == -1) = false := by
          rw [beq_eq_false_iff_ne]; omega
        simp only [h1, h2, Bool.false_eq_true, if_false]
        omega

theorem idxB_0 (c : UInt8) (l : List UInt8) : idxB c l 0 = Lib.indexByte l c := by
  rw [idxB_is]
  split
  · rename_i h; exact (by simpa using h : Lib.indexByte l c = -1).symm
  · simp

theorem primIndexByte_ok {g : FuncId} {fn : Func} (hf : E.P.funcs[g]? = some fn) (hname : (fn.name == "runtime.NumGoroutine") = false) (hb : fn.body.isNone = true) (hn : Extern.findNext fn = none)
    (he : Extern.find fn = some Extern.BytealgIndexByte.indexByte) : PrimOk E g pIndexByte := by
  intro args S v S' hp base V hVS hw args' hfr
  unfold pIndexByte at hp
  split at hp
  · cases hp
    subst hVS
    obtain ⟨u, w, rfl, hu, hv⟩ := frel2 hfr
    obtain ⟨bs, rfl, rfl⟩ := hu.str_inv
    have := hv.int_inv; subst this
    refine entered_value hw ?_ (.int _ _)
    rw [run_callFunc_indexByte hf hname hb hn he, Lib.run_indexByteString, idxB_0]
    rfl
  · cases hp

theorem cntB_is (c : UInt8) : ∀ (l : List UInt8) (n : Nat), cntB c l n = n + Lib.countByte l c
  | [], n => by simp [cntB, Lib.countByte]
  | x :: xs, n => by
    rw [cntB, cntB_is c xs]
    simp only [Lib.countByte, List.count_cons]
    split <;> omega

theorem primCount_ok {g : FuncId} {fn : Func} (hf : E.P.funcs[g]? = some fn) (hname : (fn.name == "runtime.NumGoroutine") = false) (hb : fn.body.isNone = true) (hn : Extern.findNext fn = none)
    (he : Extern.find fn = some Extern.BytealgCount.count) : PrimOk E g pCount := by
  intro args S v S' hp base V hVS hw args' hfr
  unfold pCount at hp
  split at hp
  · cases hp
    subst hVS
    obtain ⟨u, w, rfl, hu, hv⟩ := frel2 hfr
    obtain ⟨bs, rfl, rfl⟩ := hu.str_inv
    have := hv.int_inv; subst this
    refine entered_value hw ?_ (.int _ _)
    rw [run_callFunc_standIn hf hname hb hn he, Lib.run_countString, cntB_is, Nat.zero_add]
    rfl
  · cases hp

end
end Go.Proofs.YtleommjdeejmkaaGreatDoor.Zq
