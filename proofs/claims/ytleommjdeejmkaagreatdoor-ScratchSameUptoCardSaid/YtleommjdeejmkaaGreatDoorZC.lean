/-
  Contracts: the frame in which they are stated and proved.
  Conditions: none; definitions and lemmas.
-/
import Derived.Test.YtleommjdeejmkaaGreatDoorZTab
import Derived.Test.YtleommjdeejmkaaGreatDoorZMm
set_option linter.all false

namespace Go.Proofs.YtleommjdeejmkaaGreatDoor.Zq
open Go

def fin (res : List IRes) (st : St) : Option (AV × List AObj) :=
  match runDefers st.d st.s with
  | some S => match resAll st.t S res with
    | some vs => some (results1 vs, S)
    | none => none
  | none => none

theorem fin_is (F : IFun) (st : St) : finishFn F st = fin F.res st := rfl

/-- What a body that is called by value must come to. -/
def pends (res : List IRes) (v : AV) : Ex → St → Prop
  | .exit _, _ => False
  | _, s => match fin res s with
    | some (v0, S0) => frz S0 v0 = some v
    | none => False

/-- What a body must come to, store and all. -/
def cends (res : List IRes) (v : AV) (S : List AObj) : Ex → St → Prop
  | .exit _, _ => False
  | _, s => fin res s = some (v, S)

def resO (k : Option (List AV)) (S : List AObj) (v : AV) : Prop := match k with
  | some vs => frz S (results1 vs) = some v
  | none => False
@[simp] theorem resO_s {vs : List AV} {S : List AObj} {v : AV} : resO (some vs) S v = (frz S (results1 vs) = some v) := rfl
def consR : Option AV → Option (List AV) → Option (List AV)
  | some v, some vs => some (v :: vs)
  | _, _ => none
@[simp] theorem consR_s {v : AV} {vs : List AV} : consR (some v) (some vs) = some (v :: vs) := rfl
@[simp] theorem resAll_nil {t : List AV} {S : List AObj} : resAll t S [] = some [] := rfl
@[simp] theorem resAll_cons {t : List AV} {S : List AObj} {r : IRes} {rs : List IRes} : resAll t S (r :: rs) = consR (resOne t S r) (resAll t S rs) := by
  simp only [resAll]; cases resOne t S r <;> cases resAll t S rs <;> rfl
@[simp] theorem resOne_t {t : List AV} {S : List AObj} {n : Nat} : resOne t S (.tmp n) = t[n]? := rfl
@[simp] theorem resOne_c {t : List AV} {S : List AObj} {n z : Nat} {agg : Bool} : resOne t S (.cell n agg z) = op1 (loadAt S agg z) t[n]? := by
  simp only [resOne]; cases t[n]? <;> rfl
@[simp] theorem results1_1 {v : AV} : results1 [v] = v := rfl
@[simp] theorem results1_0 : results1 [] = .tup [] := rfl
@[simp] theorem results1_2 {v u : AV} {l : List AV} : results1 (v :: u :: l) = .tup (v :: u :: l) := rfl
@[simp] theorem pends_r {res : List IRes} {v : AV} {t : List AV} {s : List AObj} {b : Nat} : pends res v .ret ⟨t, s, b, []⟩ = resO (resAll t s res) s v := by
  simp only [pends, fin, runDefers]; cases resAll t s res <;> rfl
@[simp] theorem pends_n {res : List IRes} {v : AV} {t : List AV} {s : List AObj} {b : Nat} : pends res v .normal ⟨t, s, b, []⟩ = resO (resAll t s res) s v := by
  simp only [pends, fin, runDefers]; cases resAll t s res <;> rfl
def resC (k : Option (List AV)) (S : List AObj) (v : AV) (S' : List AObj) : Prop := match k with
  | some vs => results1 vs = v ∧ S = S'
  | none => False
@[simp] theorem resC_s {vs : List AV} {S S' : List AObj} {v : AV} : resC (some vs) S v S' = (results1 vs = v ∧ S = S') := rfl
@[simp] theorem cends_r {res : List IRes} {v : AV} {t : List AV} {s S : List AObj} {b : Nat} : cends res v S .ret ⟨t, s, b, []⟩ = resC (resAll t s res) s v S := by
  simp only [cends, fin, runDefers]; cases resAll t s res <;> simp [resC]
@[simp] theorem cends_n {res : List IRes} {v : AV} {t : List AV} {s S : List AObj} {b : Nat} : cends res v S .normal ⟨t, s, b, []⟩ = resC (resAll t s res) s v S := by
  simp only [cends, fin, runDefers]; cases resAll t s res <;> simp [resC]

theorem PC_of_W {T : Nat → Option IFn} {id : Nat} {F : IFun} {args : List AV} {v : AV} (hT : T id = some (.code F)) (ha : args.length = F.np) (hp : pureL args = true)
    (h : W T F.body (pends F.res v) { t := args ++ List.replicate (F.nt - F.np) .junk, s := [], b := 0, d := [] }) : pureCall (CC T) (.fn (.f id) [] []) args = some v := by
  obtain ⟨e, s, h1, h2⟩ := W_sound h
  have key : ∀ e, e = .normal ∨ e = .ret → R T F.body { t := args ++ List.replicate (F.nt - F.np) .junk, s := [], b := 0, d := [] } (e, s) → pends F.res v e s → pureCall (CC T) (.fn (.f id) [] []) args = some v := by
    intro e he h1 h2
    have h3 : match fin F.res s with | some (v0, S0) => frz S0 v0 = some v | none => False := by rcases he with rfl | rfl <;> exact h2
    cases hf : fin F.res s with
    | none => rw [hf] at h3; exact h3.elim
    | some r =>
      obtain ⟨v0, S0⟩ := r
      rw [hf] at h3
      have hc := CC_code (S := []) (args := args) hT ha h1 he ((fin_is F s).trans hf)
      simp only [pureCall, pureL, hp, Bool.and_self, if_true, List.nil_append, List.append_nil]
      rw [hc]
      exact h3
  cases e with
  | normal => exact key _ (.inl rfl) h1 h2
  | ret => exact key _ (.inr rfl) h1 h2
  | exit i => exact h2.elim

theorem CC_of_W' {T : Nat → Option IFn} {id : Nat} {F : IFun} {args : List AV} {S S' : List AObj} {v : AV} (hT : T id = some (.code F)) (ha : args.length = F.np)
    (h : W T F.body (cends F.res v S') { t := args ++ List.replicate (F.nt - F.np) .junk, s := S, b := S.length, d := [] }) : CC T (.f id) args S = some (v, S') := by
  obtain ⟨e, s, h1, h2⟩ := W_sound h
  cases e with
  | normal => exact CC_code hT ha h1 (.inl rfl) h2
  | ret => exact CC_code hT ha h1 (.inr rfl) h2
  | exit i => exact h2.elim

/-- A slice by its rows: nil, empty, or of settled memory. -/
inductive IsSl (z : Nat) : List (List AV) → AV → Prop where
  | z (b : Bool) : IsSl z [] (.zsl b)
  | s (rows : List (List AV)) : IsSl z rows (.sl z rows)

theorem IsSl.len {z : Nat} {rows : List (List AV)} {a : AV} (h : IsSl z rows a) : lenV a = some (.int .i64 rows.length) := by
  cases h <;> rfl

theorem IsSl.ix {z : Nat} {rows : List (List AV)} {a : AV} (h : IsSl z rows a) {i : Nat} {row : List AV} (hi : rows[i]? = some row) : indexA z a (.int .i64 i) = some (.vptr row 0) := by
  cases h with
  | z b => simp at hi
  | s rows => simp [indexA, hi]

theorem IsSl.pure {z : Nat} {rows : List (List AV)} {a : AV} (h : IsSl z rows a) (hp : pureLL rows = true) : a.pure = true := by
  cases h <;> simp [AV.pure, hp]

attribute [simp] frz frzA frzL frzR AV.pure pureL pureLL

theorem wrap64 {n : Int} (h1 : -9223372036854775808 ≤ n) (h2 : n ≤ 9223372036854775807) : IntKind.i64.wrap n = n := IntWalk.i64_in n ⟨h1, h2⟩

theorem wrap64n {n : Nat} (h : n ≤ 9223372036854775807) : IntKind.i64.wrap (n : Int) = (n : Int) := wrap64 (by omega) (by omega)

end Go.Proofs.YtleommjdeejmkaaGreatDoor.Zq
