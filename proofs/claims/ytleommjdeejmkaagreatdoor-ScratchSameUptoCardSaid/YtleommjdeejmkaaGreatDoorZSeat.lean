/-
  This seat: which function of the program is which of the table, and that the table's terms stand for the functions. Written by a tool of ours (seat.py).
  Conditions: none; definitions and closed facts.
-/
import Derived.Test.YtleommjdeejmkaaGreatDoorZTab
import Derived.Test.YtleommjdeejmkaaGreatDoorZPrimOk
import Derived.Test.YtleommjdeejmkaaGreatDoorProg
import Derived.BigRegion
import Derived.KernelRfl
set_option linter.all false

namespace Go.Proofs.YtleommjdeejmkaaGreatDoor.Zq
open Go

def sigL : List (Option Nat) := [none, some 1, some 0, some 2, some 9, some 12, some 13, some 15, some 16, some 3, some 4, some 5, some 6, some 7, some 8, some 10, some 11, some 14, some 17, some 18, some 19, some 20, some 21, some 22, some 23, some 24, some 25, some 26, some 27, some 28, some 29, some 30, some 31, some 32, some 33, some 34, some 35, some 36, some 37, some 38, some 39, some 41, some 40, some 60, some 61, some 42, some 43, some 44, some 45, some 46, some 47, some 48, some 50, some 49, some 51, some 52, some 53, some 54, some 55, some 56, some 58, some 57, some 92, some 94, some 59, some 62, some 63, some 64, some 65, some 66, some 67, some 68, some 69, some 70, some 71, some 72, some 73, some 74, some 75, some 76, some 77, some 78, some 79, some 80, some 81, some 83, some 82, some 84, some 85, some 86, some 88, some 87, some 89, some 90, some 91, some 93, some 95, some 96, some 97, some 98, some 99, some 100, some 101, some 102, some 103, some 104, some 129, some 105, some 106, some 107, some 108, some 135, some 109, some 110, some 111, some 112, some 113, some 114, some 115, some 116, some 117, some 141, some 118, some 152, some 153, some 119, some 120, some 121, some 122, some 123, some 124, some 125, some 126, some 127, some 128, some 130, some 131, some 160, some 132, some 133, some 162, some 163, some 134, some 136, some 137, some 138, some 139, some 140, some 144, some 143, some 142, some 145, some 146, some 148, some 147, some 149, some 150, some 175, some 151, some 154, some 180, some 155, some 156, some 157, some 158, some 159, some 161, some 164, some 165, some 166, some 167, some 168, some 169, some 170, some 171, some 172, some 173, some 174, some 192, some 193, some 176, some 177, some 179, some 178, some 181, some 182, some 183, some 184, some 185, some 186, some 230, some 204, some 205, some 187, some 188, some 189, some 190, some 191, some 194, some 195, some 196, some 197, some 199, some 198, some 200, some 210, some 212, some 213, some 215, some 201, some 202, some 203, some 206, some 207, some 208, some 209, some 211, some 214, some 216, none, some 217, some 218, some 221, some 222, some 219, some 223, some 220, some 224, some 225, some 226, some 229, some 227, some 228, none, none, none, none, none, none, none, none, none, none, none, none, none, none, none, none, none, none, none, none, none, none, none, none, some 231]
def sig (g : FuncId) : Option Nat := (sigL[g]?).join
def tau (t : TypeId) : Option Nat := if t = 9 then some 0 else none
noncomputable def env : Env := { P := Tryz.prog, T := tab, σ := sig, τ := tau }

/-- The test of one function. -/
noncomputable def fitsAt (g : Nat) : Bool := match sig g with
  | none => true
  | some id => match tab id with
    | some (.code F) => (match Tryz.prog.funcs[g]? with
      | some fn => mFun env F fn
      | none => false)
    | _ => true

theorem fits0 : ((List.range 32).all fun i => fitsAt (i + 0)) = true := by kernel_rfl
theorem fits32 : ((List.range 32).all fun i => fitsAt (i + 32)) = true := by kernel_rfl
theorem fits64 : ((List.range 32).all fun i => fitsAt (i + 64)) = true := by kernel_rfl
theorem fits96 : ((List.range 32).all fun i => fitsAt (i + 96)) = true := by kernel_rfl
theorem fits128 : ((List.range 32).all fun i => fitsAt (i + 128)) = true := by kernel_rfl
theorem fits160 : ((List.range 32).all fun i => fitsAt (i + 160)) = true := by kernel_rfl
theorem fits192 : ((List.range 32).all fun i => fitsAt (i + 192)) = true := by kernel_rfl
theorem fits224 : ((List.range 32).all fun i => fitsAt (i + 224)) = true := by kernel_rfl
theorem fits256 : ((List.range 2).all fun i => fitsAt (i + 256)) = true := by kernel_rfl

theorem sig_lt {g : FuncId} {id : Nat} (h : sig g = some id) : g < 258 := by
  rcases Nat.lt_or_ge g 258 with h1 | h1
  · exact h1
  · have : sigL[g]? = none := List.getElem?_eq_none (Nat.le_trans (Nat.le_of_eq (by kernel_rfl : sigL.length = 258)) h1)
    simp [sig, this] at h

theorem fits_all {g : Nat} (h : g < 258) : fitsAt g = true := by
  by_cases h32 : g < 32
  · have := List.all_eq_true.1 fits0 (g - 0) (List.mem_range.2 (by omega))
    rwa [show g - 0 + 0 = g by omega] at this
  by_cases h64 : g < 64
  · have := List.all_eq_true.1 fits32 (g - 32) (List.mem_range.2 (by omega))
    rwa [show g - 32 + 32 = g by omega] at this
  by_cases h96 : g < 96
  · have := List.all_eq_true.1 fits64 (g - 64) (List.mem_range.2 (by omega))
    rwa [show g - 64 + 64 = g by omega] at this
  by_cases h128 : g < 128
  · have := List.all_eq_true.1 fits96 (g - 96) (List.mem_range.2 (by omega))
    rwa [show g - 96 + 96 = g by omega] at this
  by_cases h160 : g < 160
  · have := List.all_eq_true.1 fits128 (g - 128) (List.mem_range.2 (by omega))
    rwa [show g - 128 + 128 = g by omega] at this
  by_cases h192 : g < 192
  · have := List.all_eq_true.1 fits160 (g - 160) (List.mem_range.2 (by omega))
    rwa [show g - 160 + 160 = g by omega] at this
  by_cases h224 : g < 224
  · have := List.all_eq_true.1 fits192 (g - 192) (List.mem_range.2 (by omega))
    rwa [show g - 192 + 192 = g by omega] at this
  by_cases h256 : g < 256
  · have := List.all_eq_true.1 fits224 (g - 224) (List.mem_range.2 (by omega))
    rwa [show g - 224 + 224 = g by omega] at this
  by_cases h258 : g < 258
  · have := List.all_eq_true.1 fits256 (g - 256) (List.mem_range.2 (by omega))
    rwa [show g - 256 + 256 = g by omega] at this
  omega

/-- Which functions are taken as they are. -/
def primAt (g : Nat) : Bool := match sig g with
  | none => true
  | some id => match tab id with
    | some (.prim _) => (g == 193 && id == 187) || (g == 211 && id == 203) || false
    | _ => true
theorem prims_are : ((List.range 258).all primAt) = true := by kernel_rfl

theorem env_fits : Fits env where
  code := fun g id F hs hT => by
    have h := fits_all (sig_lt hs)
    have hs' : sig g = some id := hs
    have hT' : tab id = some (.code F) := hT
    simp only [fitsAt, hs', hT'] at h
    split at h
    · rename_i fn hfn; exact ⟨fn, hfn, h⟩
    · cases h
  prim := fun g id p hs hT => by
    have h := List.all_eq_true.1 prims_are g (List.mem_range.2 (sig_lt hs))
    have hs' : sig g = some id := hs
    have hT' : tab id = some (.prim p) := hT
    simp only [primAt, hs', hT', Bool.or_eq_true, Bool.and_eq_true, beq_iff_eq, Bool.false_eq_true, or_false] at h
    rcases h with ⟨rfl, rfl⟩ | ⟨rfl, rfl⟩
    · have hp : some (IFn.prim pIndexByte) = some (IFn.prim p) := hT'
      obtain rfl : pIndexByte = p := by injection hp with hp; injection hp
      exact primIndexByte_ok (E := env) Tryz.func193 (by kernel_rfl) (by kernel_rfl) (by kernel_rfl) (by kernel_rfl)
    · have hp : some (IFn.prim pCount) = some (IFn.prim p) := hT'
      obtain rfl : pCount = p := by injection hp with hp; injection hp
      exact primCount_ok (E := env) Tryz.func211 (by kernel_rfl) (by kernel_rfl) (by kernel_rfl) (by kernel_rfl)
end Go.Proofs.YtleommjdeejmkaaGreatDoor.Zq
