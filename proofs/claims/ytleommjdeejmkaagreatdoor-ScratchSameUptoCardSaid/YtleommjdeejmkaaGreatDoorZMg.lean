/-
  Calls: what is asked of a call, and how a call of an abstract function value is one of the program's.
  The end of an activation: its deferred calls, its results.
  Conditions: none but those that each theorem names.
-/
import Derived.Test.YtleommjdeejmkaaGreatDoorZMf
import Derived.OrdersIn
set_option linter.all false

namespace Go.Proofs.YtleommjdeejmkaaGreatDoor.Zq
open Go Go.RowKit

/-- No fence, in a round of a loop or not. -/
abbrev Wd (ro : Option Nat) : Fence := { Fence.wide with round := ro }

/-- What a call comes to. -/
def CPost (E : Env) (base : World) (V : Vw) (S' : List AObj) (v : AV) : Ending → World → Prop
  | .returned v', w' => ∃ μ', Later V { w := w', μ := μ', S := S', X := V.X } ∧ WRel E base { w := w', μ := μ', S := S', X := V.X } ∧ VRel E { w := w', μ := μ', S := S', X := V.X } v v'
  | _, _ => False

/-- A function is entered; or it has no body, and yields a value at once. -/
def Entered (E : Env) (g : FuncId) (args : Array Value) (w : World) (R : Ending → World → Prop) : Prop :=
  ((callFunc g args).run E.P w = .ok (.enter g args) w ∧ CallsIn Fence.wide 0 E.P g args w R) ∨
  ∃ v w', (callFunc g args).run E.P w = .ok (.value v) w' ∧ R (.returned v) w'

/-- The round of a loop over a function. -/
def Rounded (E : Env) (l : Nat) (args : Array Value) (w : World) (R : Ending → World → Prop) : Prop :=
  ∃ f tmps assign body, (Instr.yield l args).run E.P w = .ok (.round l f tmps assign body) w ∧ RoundIn Fence.wide 0 E.P l f tmps assign body w R

def CallOk (E : Env) (n : Nat) : Prop := ∀ f args S v S', ecall E.T n f args S = some (v, S') → ∀ base V, V.S = S → WRel E base V → ∀ args' : Array Value, FRel E V args args' →
  match f with
  | .f id => ∀ g, E.σ g = some id → Entered E g args' V.w (CPost E base V S' v)
  | .y l => Rounded E (V.μ l).blk args' V.w (CPost E base V S' v)

/-- A function value is called. -/
def Invoked (E : Env) (u : Value) (args : Array Value) (w : World) (R : Ending → World → Prop) : Prop :=
  ∃ d, (Deferred.ofValue u args).run E.P w = .ok d w ∧
    ((∃ g as, (invoke d.target d.args).run E.P w = .ok (.enter g as) w ∧ CallsIn Fence.wide 0 E.P g as w R) ∨ (∃ v w', (invoke d.target d.args).run E.P w = .ok (.value v) w' ∧ R (.returned v) w') ∨
     ∃ l f tmps assign body, (invoke d.target d.args).run E.P w = .ok (.round l f tmps assign body) w ∧ RoundIn Fence.wide 0 E.P l f tmps assign body w R)

theorem Invoked.mono {E : Env} {u : Value} {args : Array Value} {w : World} {R R' : Ending → World → Prop} (h : Invoked E u args w R) (hr : ∀ e w', R e w' → R' e w') : Invoked E u args w R' := by
  obtain ⟨d, h1, h2⟩ := h
  refine ⟨d, h1, ?_⟩
  rcases h2 with ⟨g, as, k1, k2⟩ | ⟨v, w', k1, k2⟩ | ⟨l, f, t, x, y, k1, k2⟩
  · exact .inl ⟨g, as, k1, k2.mono hr⟩
  · exact .inr (.inl ⟨v, w', k1, hr _ _ k2⟩)
  · exact .inr (.inr ⟨l, f, t, x, y, k1, k2.mono hr⟩)

section
variable {E : Env} {V : Vw} {base : World} {n : Nat}

theorem FRel.append {x y : List AV} {u v : Array Value} (h : FRel E V x u) (k : FRel E V y v) : FRel E V (x ++ y) (u ++ v) := by
  refine ⟨by simp [h.size, k.size], fun i z hi => ?_⟩
  rcases Nat.lt_or_ge i x.length with hlt | hge
  · rw [List.getElem?_append_left hlt] at hi
    rw [Array.getD_eq_getD_getElem?, Array.getElem?_append_left (by rw [h.size]; exact hlt), ← Array.getD_eq_getD_getElem?]
    exact h.get i z hi
  · rw [List.getElem?_append_right hge] at hi
    rw [Array.getD_eq_getD_getElem?, Array.getElem?_append_right (by rw [h.size]; exact hge), ← Array.getD_eq_getD_getElem?, h.size]
    exact k.get _ z hi

theorem Act.put_defers' (a : Act) (dst : Option Tmp) (v : Value) : (a.put dst v).defers = a.defers := by cases dst <;> rfl

theorem opds_frel {fr : List AV} {a : Act} (hf : FRel E V fr a.tmps) {xs : List Opd} {ys : Array Operand} {us : List AV} (h : mOpds E xs ys.toList = true) (hu : opds fr xs = some us) : FRel E V us (ys.map a.eval) := by
  obtain ⟨l, r⟩ := opds_rel hf h hu
  refine ⟨by simp [l], fun i u hi => ?_⟩
  have := r i u hi
  rwa [← arr_getD, Array.toList_map]

/-- A call on the caller's own store. -/
theorem invoke_sim (hc : CallOk E n) (hw : WRel E base V) {f : Afn} {first caps as : List AV} {u : Value} {args : Array Value} {v : AV} {S' : List AObj} (hu : VRel E V (.fn f first caps) u) (ha : FRel E V as args)
    (h : ecall E.T n f (first ++ as ++ caps) V.S = some (v, S')) : Invoked E u args V.w (CPost E base V S' v) := by
  cases hu with
  | fn id g _ _ fs cs hg hf hcs hvf hvc =>
    have hA : FRel E V (first ++ as ++ caps) (fs ++ args ++ cs) := (FRel.append ⟨hf, hvf⟩ ha).append ⟨hcs, hvc⟩
    rcases hc (.f id) _ _ _ _ h base V rfl hw _ hA g hg with ⟨h1, h2⟩ | ⟨v', w', h1, h2⟩
    · refine ⟨{ target := .fn (.func g) cs, args := fs ++ args }, by simp [Deferred.ofValue], .inl ⟨g, fs ++ args ++ cs, ?_, h2⟩⟩
      simpa [invoke] using h1
    · refine ⟨{ target := .fn (.func g) cs, args := fs ++ args }, by simp [Deferred.ofValue], .inr (.inl ⟨v', w', ?_, h2⟩)⟩
      simpa [invoke] using h1
  | fny l b hb h2 =>
    have hA : FRel E V ([] ++ as ++ []) args := by simpa using ha
    obtain ⟨f', t, x, y, k1, k2⟩ := hc (.y l) _ _ _ _ h base V rfl hw _ hA
    have hbl : b = (V.μ l).blk := by
      cases n with
      | zero => simp [ecall] at h
      | succ n =>
        simp only [ecall] at h
        split at h
        · rename_i fr ps as' bo hl; exact h2 _ _ _ _ _ _ hl
        · cases h
    subst hbl
    exact ⟨{ target := .fn (.yield (V.μ l).blk) #[], args := args }, by simp [Deferred.ofValue], .inr (.inr ⟨_, f', t, x, y, by simpa [invoke] using k1, k2⟩)⟩

theorem FRel.pureMove {V' : Vw} (hset : ∀ b, V.settled b → V'.settled b) (hcell : ∀ b o v, V.settled b → V.w.cell? ⟨b, o, none⟩ = some v → V'.w.cell? ⟨b, o, none⟩ = some v)
    {x : List AV} {u : Array Value} (h : FRel E V x u) (hp : pureL x = true) : FRel E V' x u :=
  ⟨h.size, fun i y hi => (h.get i y hi).pureMove hset hcell (pureL_get hp hi)⟩

/-- New memory alone. -/
theorem below_sim (hw : WRel E base V) {w' : World} (hb : Below V.w.heap.size V.w w') : Later V { w := w', μ := V.μ, S := V.S, X := V.X } ∧ WRel E base { w := w', μ := V.μ, S := V.S, X := V.X } := by
  have hblk : ∀ b, b < V.w.heap.size → w'.heap[b]? = V.w.heap[b]? := hb.block
  have hsz : V.w.heap.size ≤ w'.heap.size := hb.size
  have hL : Later V { w := w', μ := V.μ, S := V.S, X := V.X } :=
    ⟨fun _ => Nat.le_refl _, fun _ _ rows' _ h => ⟨rows', h, Nat.le_refl _, rfl⟩, fun _ es' _ h => ⟨⟨es', h⟩, rfl⟩, fun _ fr ps as bo st pe _ h => ⟨⟨fr, ps, as, bo, st, pe, h⟩, rfl⟩, fun _ s p _ h => ⟨⟨s, p, h⟩, rfl⟩, hsz,
     fun b hb => ⟨⟨Nat.lt_of_lt_of_le hb.1 hsz, hb.2⟩, hblk b hb.1⟩, rfl⟩
  exact ⟨hL, ⟨⟨hb.os.trans hw.below.os, hb.tape.trans hw.below.tape, hb.output.trans hw.below.output, Nat.le_trans hw.below.size hsz, fun k hk => by
        rw [← hw.below.block k hk]; exact hblk k (Nat.lt_of_lt_of_le hk hw.below.size)⟩,
     hw.own, hw.inj, fun r o ho => by
        by_cases hal : o.alive = true
        · exact (hw.obj r o ho).later hL (hblk _ (hw.blk_lt ⟨o, ho, hal⟩))
        · cases o <;> simp [AObj.alive] at hal; trivial,
     fun b hb => Nat.lt_of_lt_of_le (hw.xlt b hb) hsz, hw.glob⟩⟩

/-- A call whose result is taken by value. -/
theorem pcall_sim (hc : CallOk E n) (hw : WRel E base V) {f v : AV} {as : List AV} {u : Value} {args : Array Value} (hu : VRel E V f u) (ha : FRel E V as args)
    (h : pureCall (ecall E.T n) f as = some v) : Invoked E u args V.w (CPost E base V V.S v) := by
  unfold pureCall at h
  split at h
  · rename_i f first caps
    split at h
    · rename_i hp
      simp only [Bool.and_eq_true] at hp
      obtain ⟨⟨hp1, hp2⟩, hp3⟩ := hp
      split at h
      · rename_i v0 S0 he
        let Vc : Vw := { w := V.w, μ := V.μ, S := [], X := fun b => V.X b ∨ ∃ r, live V.S r ∧ (V.μ r).blk = b }
        have hset : ∀ b, V.settled b → Vc.settled b := fun b hb => ⟨hb.1, fun hx => by
          rcases hx with hx | ⟨r, hr, hrb⟩
          · exact hb.2.1 hx
          · exact hb.2.2 r hr hrb, fun r ⟨o, ho, _⟩ => by simp [Vc] at ho⟩
        have hcell : ∀ b o v, V.settled b → V.w.cell? ⟨b, o, none⟩ = some v → Vc.w.cell? ⟨b, o, none⟩ = some v := fun _ _ _ _ h => h
        have hfn : VRel E Vc (.fn f first caps) u := by
          cases hu with
          | fn id g _ _ fs cs hg hf hcs hvf hvc =>
            exact .fn id g _ _ fs cs hg hf hcs (fun i x hi => (hvf i x hi).pureMove hset hcell (pureL_get hp1 hi)) (fun i x hi => (hvc i x hi).pureMove hset hcell (pureL_get hp3 hi))
          | fny l b hb h2 =>
            cases n with
            | zero => simp [ecall] at he
            | succ n => simp [ecall] at he
        have hWc : WRel E V.w Vc := ⟨Below.refl _ _, fun r ⟨o, ho, _⟩ => by simp [Vc] at ho, fun r r' ⟨o, ho, _⟩ => by simp [Vc] at ho, fun r o ho => by simp [Vc] at ho, fun b hb => by
          rcases hb with hb | ⟨r, hr, hrb⟩
          · exact hw.xlt b hb
          · rw [← hrb]; exact hw.blk_lt hr, fun _ _ _ hm => hw.glob_now hm⟩
        refine (invoke_sim (V := Vc) hc hWc hfn (ha.pureMove hset hcell hp2) he).mono fun e w' hR => ?_
        cases e with
        | returned v' =>
          obtain ⟨μ', hl, hw', hv⟩ := hR
          refine ⟨V.μ, ?_⟩
          obtain ⟨hL, hW⟩ := below_sim hw hw'.below
          refine ⟨hL, hW, ?_⟩
          refine frz_rel (V := { w := w', μ := μ', S := S0, X := Vc.X }) (V' := { w := w', μ := V.μ, S := V.S, X := V.X }) hw' (fun b hb => ⟨hb.1, fun hx => hb.2.1 (.inl hx), fun r hr hrb => hb.2.1 (.inr ⟨r, hr, hrb⟩)⟩) (fun _ _ _ _ h => h) hv h (fun r hr => ?_)
          obtain ⟨_, ho2⟩ := hw'.own r hr
          exact ⟨⟨hw'.blk_lt hr, fun hx => ho2 (.inl hx), fun q hq hqb => ho2 (.inr ⟨q, hq, hqb⟩)⟩, rfl⟩
        | panicked c => exact hR
        | outgrown => exact hR
      · cases h
    · cases h
  · cases h

/-- A call that takes its arguments by value. -/
theorem scall_sim (hc : CallOk E n) (hw : WRel E base V) {f v : AV} {as : List AV} {u : Value} {args : Array Value} (hu : VRel E V f u) (ha : FRel E V as args)
    (h : snapCall (ecall E.T n) V.S f as = some v) : Invoked E u args V.w (CPost E base V V.S v) := by
  unfold snapCall at h
  split at h
  · rename_i f first caps
    split at h
    · rename_i a b c ha' hb' hc'
      split at h
      · rename_i v0 S0 he
        split at h
        · rename_i hdry
          cases h
          let Vc : Vw := { w := V.w, μ := V.μ, S := [], X := V.X }
          have hset : ∀ b, V.settled b → Vc.settled b := fun b hb => ⟨hb.1, hb.2.1, fun r ⟨o, ho, _⟩ => by simp [Vc] at ho⟩
          have hcell : ∀ b o v, V.settled b → V.w.cell? ⟨b, o, none⟩ = some v → Vc.w.cell? ⟨b, o, none⟩ = some v := fun _ _ _ _ h => h
          have hblk : ∀ r, live V.S r → Vc.settled (V.μ r).blk ∧ Vc.w.heap[(V.μ r).blk]? = V.w.heap[(V.μ r).blk]? := fun r hr =>
            ⟨⟨hw.blk_lt hr, (hw.own r hr).2, fun r ⟨o, ho, _⟩ => by simp [Vc] at ho⟩, rfl⟩
          have hfn : VRel E Vc (.fn f a c) u := by
            cases hu with
            | fn id g _ _ fs cs hg hf hcs hvf hvc =>
              obtain ⟨p1, p2⟩ := frzR_rel hw hset hcell hf hvf ha' hblk
              obtain ⟨q1, q2⟩ := frzR_rel hw hset hcell hcs hvc hc' hblk
              exact .fn id g _ _ fs cs hg p1 q1 p2 q2
            | fny l b hb h2 =>
              cases n with
              | zero => simp [ecall] at he
              | succ n => simp [ecall] at he
          obtain ⟨p1, p2⟩ := frzR_rel hw hset hcell ha.size ha.get hb' hblk
          have hWc : WRel E V.w Vc := ⟨Below.refl _ _, fun r ⟨o, ho, _⟩ => by simp [Vc] at ho, fun r r' ⟨o, ho, _⟩ => by simp [Vc] at ho, fun r o ho => by simp [Vc] at ho, hw.xlt, fun _ _ _ hm => hw.glob_now hm⟩
          refine (invoke_sim (V := Vc) hc hWc hfn ⟨p1, p2⟩ he).mono fun e w' hR => ?_
          cases e with
          | returned v' =>
            obtain ⟨μ', hl, hw', hv⟩ := hR
            obtain ⟨hL, hW⟩ := below_sim hw hw'.below
            exact ⟨V.μ, hL, hW, hv.dryMove hdry⟩
          | panicked c => exact hR
          | outgrown => exact hR
        · cases h
      · cases h
    · cases h
  · cases h

theorem wd_depth {ro : Option Nat} {n : Nat} : (Wd ro).depth.isSome = true → 1 ≤ n := fun h => by simp [Fence.wide] at h

/-- An operation that calls. -/
theorem upon_invoked {ro : Option Nat} {o : Oper} {c : Call} {u : Operand} (ho : o.op = .call c) (hc : c.callee = .value u) {a : Act} {w : World} {next : Act → World → Prop} {Q : Exit → Act → World → Prop} {R : Value → World → Prop}
    (h : Invoked E (a.eval u) (c.args.map a.eval) w fun | .returned v, w' => R v w' | _, _ => False) (hn : ∀ v w', R v w' → next (a.put o.dst v) w') : o.wpIn (Wd ro) 0 E.P a w next Q := by
  refine ⟨fun _ _ => trivial, ?_⟩
  rw [Oper.semAt_eq _ _ _ (fun c' he => by rw [ho] at he; cases he)]
  obtain ⟨d, h1, h2⟩ := h
  have hx : execOp a.eval o = (do let d ← resolve a.eval c o.type; invoke d.target d.args) := by simp only [execOp, ho]
  have hr : (resolve a.eval c o.type).run E.P w = .ok d w := by simp only [resolve, hc]; exact h1
  rw [hx]
  rcases h2 with ⟨g, as, k1, k2⟩ | ⟨v, w', k1, k2⟩ | ⟨l, f, t, x, y, k1, k2⟩
  · have : (do let d ← resolve a.eval c o.type; invoke d.target d.args : Sem Next).run E.P w = .ok (.enter g as) w := by simp only [Sem.run_bind, hr, Result.andThen_ok, k1]
    rw [this]
    refine ⟨wd_depth, CallsIn.mono (R := fun e w' => match e, w' with | .returned v, w' => R v w' | _, _ => False) k2 fun e w' he => ?_⟩
    cases e with
    | returned v => exact hn v w' he
    | panicked c => exact he.elim
    | outgrown => exact he.elim
  · have : (do let d ← resolve a.eval c o.type; invoke d.target d.args : Sem Next).run E.P w = .ok (.value v) w' := by simp only [Sem.run_bind, hr, Result.andThen_ok, k1]
    rw [this]
    exact hn v w' k2
  · have : (do let d ← resolve a.eval c o.type; invoke d.target d.args : Sem Next).run E.P w = .ok (.round l f t x y) w := by simp only [Sem.run_bind, hr, Result.andThen_ok, k1]
    rw [this]
    refine ⟨wd_depth, RoundIn.mono (R := fun e w' => match e, w' with | .returned v, w' => R v w' | _, _ => False) k2 fun e w' he => ?_⟩
    cases e with
    | returned v => exact hn v w' he
    | panicked c => exact he.elim
    | outgrown => exact he.elim

/-- An operation that yields a value, or nothing. -/
theorem upon_ok {ro : Option Nat} {o : Oper} (ho : ∀ c, o.op ≠ .defer c) {a : Act} {V : Vw} {v : AV} {S' : List AObj} (h : OpOk E base V (execOp a.eval o) v S') {next : Act → World → Prop} {Q : Exit → Act → World → Prop}
    (hn : ∀ v' w' μ', Later V { w := w', μ := μ', S := S', X := V.X } → WRel E base { w := w', μ := μ', S := S', X := V.X } → VRel E { w := w', μ := μ', S := S', X := V.X } v v' → next (a.put o.dst v') w') :
    o.wpIn (Wd ro) 0 E.P a V.w next Q := by
  refine ⟨fun _ _ => trivial, ?_⟩
  rw [Oper.semAt_eq _ _ _ ho]
  obtain ⟨nx, w', μ', v', h1, h2, h3, h4, h5⟩ := h
  rw [h1]
  rcases h2 with rfl | ⟨rfl, rfl⟩
  · exact hn _ _ _ h3 h4 h5
  · exact hn _ _ _ h3 h4 h5

theorem mCall_value {c : Call} {io : IOp} {f : Opd} {as : List Opd} (hio : io = .call f as ∨ io = .pcall f as ∨ io = .scall f as) (hm : mCall E c io = true) : ∃ u, c.callee = .value u ∧ mOpd E f u = true ∧ mOpds E as c.args.toList = true := by
  unfold mCall at hm
  split at hm
  · rename_i g hg
    rcases hio with rfl | rfl | rfl <;> (simp only [Bool.and_eq_true] at hm; exact ⟨g, hg, hm.1, hm.2⟩)
  · rename_i b hb
    rcases hio with rfl | rfl | rfl <;> (unfold mBuiltin at hm; split at hm <;> first | (rename_i h _; cases h; done) | (cases hm; done) | (exfalso; simp_all; done))
  · cases hm

/-- One operation of a region, guard and all. -/
theorem step_sim (hc : CallOk E n) {ro : Option Nat} {io : IOper} (hro : ro ≠ none → calmOp io.op = true) {ops : Array Oper} {i : Nat} {o : Oper} (ho : ops[i]? = some o) (hm : mOper E ops.toList io o = true)
    {ph : Option Nat} {V0 : Vw} {st st' : St} {a : Act} (hs : stepOp (ecall E.T n) ph io st = some st') (hg : Good E base V0 V st a) {K : Act → World → Prop} {Q : Exit → Act → World → Prop}
    (hK : ∀ w' μ' a', Good E base V0 { w := w', μ := μ', S := st'.s, X := V.X } st' a' → K a' w') : wpOpIn (Wd ro) 0 E.P ops Q i K a V.w := by
  obtain ⟨gs, gb, gl, gw, gf, gd⟩ := hg
  simp only [mOper, Bool.and_eq_true, beq_iff_eq] at hm
  obtain ⟨⟨hdst, hgu⟩, hop⟩ := hm
  have hwant : ∀ b, wantOp st.t io.guard = some b → Region.wanted o (yielded ops a.tmps) = b := by
    intro b hb
    unfold mGuard at hgu
    split at hgu
    · rename_i h1 h2
      rw [h1] at hb
      simp only [wantOp, Option.some.injEq] at hb
      simp [Region.wanted, h2, ← hb]
    · rename_i s w j v h1 h2
      simp only [Bool.and_eq_true, beq_iff_eq] at hgu
      obtain ⟨hwv, hj⟩ := hgu
      rw [h1] at hb
      simp only [wantOp] at hb
      split at hj
      · rename_i oj hoj
        simp only [beq_iff_eq] at hj
        have hoj' : ops[j]? = some oj := by rw [← hoj]; simp
        have hy : ∀ x, st.t[s]? = some x → yielded ops a.tmps j = (match a.tmps.getD s undef with | .bool b => some b | _ => none) := fun x hx => by
          have hlt : s < a.tmps.size := by rw [gf.size]; exact get_lt hx
          simp only [yielded, hoj', hj, Option.bind_some]
          rw [Array.getD_eq_getD_getElem?, Array.getElem?_eq_getElem hlt]
          simp only [Option.getD_some]
          cases a.tmps[s] <;> rfl
        split at hb
        · rename_i bb hbb
          simp only [Option.some.injEq] at hb
          have := (gf.get _ _ hbb).bool_inv
          simp only [Region.wanted, h2, hy _ hbb, this, ← hb, ← hwv]
          cases bb <;> cases w <;> rfl
        · rename_i hbb
          simp only [Option.some.injEq] at hb
          obtain ⟨vs, hvs, _⟩ := (gf.get _ _ hbb).tup_inv
          simp only [Region.wanted, h2, hy _ hbb, hvs, ← hb]
          cases v <;> rfl
        · cases hb
      · cases hj
    · cases hgu
  unfold stepOp at hs
  unfold wpOpIn
  simp only [ho]
  split at hs
  · rename_i hw1
    rw [hwant _ hw1, if_pos rfl]
    split at hs
    · rename_i v S d hone
      cases hs
      have fin : ∀ v' w' μ', d = st.d → Later V { w := w', μ := μ', S := S, X := V.X } → WRel E base { w := w', μ := μ', S := S, X := V.X } → VRel E { w := w', μ := μ', S := S, X := V.X } v v' → K (a.put o.dst v') w' := fun v' w' μ' hd h1 h2 h3 => by
        refine hK w' μ' _ ⟨rfl, gb, gl.trans h1, h2, ?_, ?_⟩
        · rw [← hdst]; exact (gf.later h1).put _ h3
        · rw [Act.put_defers', hd]; exact (gd.later h1).up h1.size
      have plain : (match sop ph st.t st.s io.op with | some (v, S) => some (v, S, st.d) | none => none) = some (v, S, d) → (∀ c, o.op ≠ .defer c) → o.wpIn (Wd ro) 0 E.P a V.w K Q := by
        intro h hnd
        split at h
        · rename_i v1 S1 hsop
          cases h
          rw [← gs] at hsop
          exact upon_ok hnd (sop_sim gw gf hop hsop) fun v' w' μ' h1 h2 h3 => fin v' w' μ' rfl h1 h2 h3
        · cases h
      have nd : (∀ ag ks m k, io.op ≠ .defdel ag ks m k) → ∀ c, o.op ≠ .defer c := fun h c hc => by
        rw [hc] at hop
        generalize io.op = iop at hop h
        cases iop <;> simp only [mOp, mDefer, Bool.false_eq_true] at hop
        exact h _ _ _ _ rfl
      generalize hio : io.op = iop at *
      cases iop with
      | call f as =>
        simp only [oneOp] at hone
        split at hone
        · rename_i f' first caps vs hf1 hf2
          split at hone
          · rename_i v1 S1 he
            cases hone
            obtain ⟨c, hoc, hmc⟩ : ∃ c, o.op = .call c ∧ mCall E c (.call f as) = true := by
              generalize o.op = oo at hop
              cases oo <;> simp only [mOp, mBin, mConv, mBuild, mBuildSlice, mIndexAddr, mIndex, mSlice, mDefer, Bool.false_eq_true] at hop
              exact ⟨_, rfl, hop⟩
            obtain ⟨u, hu1, hu2, hu3⟩ := mCall_value (.inl rfl) hmc
            rw [← gs] at he
            have hA : FRel E V vs (c.args.map a.eval) := opds_frel gf hu3 hf2
            refine upon_invoked (R := fun v' w' => CPost E base V S v (.returned v') w') hoc hu1 ((invoke_sim hc gw (opd_rel gf hu2 hf1) hA he).mono fun e w' h => ?_) fun v' w' h => ?_
            · cases e <;> exact h
            · obtain ⟨μ', h1, h2, h3⟩ := h
              exact fin v' w' μ' rfl h1 h2 h3
          · cases hone
        · cases hone
      | pcall f as =>
        simp only [oneOp] at hone
        split at hone
        · rename_i f' vs hf1 hf2
          split at hone
          · rename_i v1 he
            cases hone
            obtain ⟨c, hoc, hmc⟩ : ∃ c, o.op = .call c ∧ mCall E c (.pcall f as) = true := by
              generalize o.op = oo at hop
              cases oo <;> simp only [mOp, mBin, mConv, mBuild, mBuildSlice, mIndexAddr, mIndex, mSlice, mDefer, Bool.false_eq_true] at hop
              exact ⟨_, rfl, hop⟩
            obtain ⟨u, hu1, hu2, hu3⟩ := mCall_value (.inr (.inl rfl)) hmc
            have hA : FRel E V vs (c.args.map a.eval) := opds_frel gf hu3 hf2
            refine upon_invoked (R := fun v' w' => CPost E base V V.S v (.returned v') w') hoc hu1 ((pcall_sim hc gw (opd_rel gf hu2 hf1) hA he).mono fun e w' h => ?_) fun v' w' h => ?_
            · cases e <;> exact h
            · obtain ⟨μ', h1, h2, h3⟩ := h
              rw [gs] at h1 h2 h3
              exact fin v' w' μ' rfl h1 h2 h3
          · cases hone
        · cases hone
      | scall f as =>
        simp only [oneOp] at hone
        split at hone
        · rename_i f' vs hf1 hf2
          split at hone
          · rename_i v1 he
            cases hone
            rw [← gs] at he
            obtain ⟨c, hoc, hmc⟩ : ∃ c, o.op = .call c ∧ mCall E c (.scall f as) = true := by
              generalize o.op = oo at hop
              cases oo <;> simp only [mOp, mBin, mConv, mBuild, mBuildSlice, mIndexAddr, mIndex, mSlice, mDefer, Bool.false_eq_true] at hop
              exact ⟨_, rfl, hop⟩
            obtain ⟨u, hu1, hu2, hu3⟩ := mCall_value (.inr (.inr rfl)) hmc
            have hA : FRel E V vs (c.args.map a.eval) := opds_frel gf hu3 hf2
            refine upon_invoked (R := fun v' w' => CPost E base V V.S v (.returned v') w') hoc hu1 ((scall_sim hc gw (opd_rel gf hu2 hf1) hA he).mono fun e w' h => ?_) fun v' w' h => ?_
            · cases e <;> exact h
            · obtain ⟨μ', h1, h2, h3⟩ := h
              rw [gs] at h1 h2 h3
              exact fin v' w' μ' rfl h1 h2 h3
          · cases hone
        · cases hone
      | defdel ag ks m k =>
        simp only [oneOp] at hone
        split at hone
        · rename_i um uk h1 h2
          cases hone
          have hro' : ro = none := by
            cases ro with
            | none => rfl
            | some l => have := hro (by simp); simp [calmOp] at this
          subst hro'
          obtain ⟨c, hoc, hmc⟩ : ∃ c, o.op = .defer c ∧ mDefer E c (.defdel ag ks m k) = true := by
            generalize o.op = oo at hop
            cases oo <;> simp only [mOp, mBin, mConv, mBuild, mBuildSlice, mIndexAddr, mIndex, mSlice, Bool.false_eq_true] at hop
            · obtain ⟨b, _, hmb⟩ := call_only hop ⟨(fun _ _ h => by cases h), (fun _ _ h => by cases h), (fun _ _ h => by cases h)⟩
              simp [mBuiltin] at hmb
            · exact ⟨_, rfl, hop⟩
          simp only [mDefer] at hmc
          split at hmc
          · rename_i p q t u hcal hargs hts
            simp only [Bool.and_eq_true] at hmc
            obtain ⟨⟨hmm, hmk⟩, hmt⟩ := hmc
            split at hmt
            · rename_i kt et hut
              refine ⟨fun _ _ => trivial, ?_⟩
              obtain ⟨cns, hr⟩ : ∃ cns, (o.semAt (Wd none).round a.eval).run E.P V.w = .ok (.defer { target := .builtin .delete c.argTypes o.type cns, args := c.args.map a.eval }) V.w := by
                have he : o.semAt (Wd none).round a.eval = execOp a.eval o := rfl
                rw [he]
                simp only [execOp, hoc, resolve, hcal]
                exact ⟨_, rfl⟩
              rw [hr]
              refine hK V.w V.μ _ ⟨rfl, gb, ?_, ?_, ?_, ?_⟩
              · rw [← gs]; exact gl
              · rw [← gs]; exact gw
              · rw [← gs, ← hdst]; exact FRel.put (a := { a with defers := { target := .builtin .delete c.argTypes o.type cns, args := c.args.map a.eval } :: a.defers }) gf _ (.tup [] #[] rfl (by simp))
              · rw [Act.put_defers', ← gs]
                rw [arr2 hargs, arr2 hts]
                simp only [List.map_toArray, List.map_cons, List.map_nil]
                exact .del _ _ _ _ _ _ _ _ _ _ _ _ _ _ _ hut hmt (opd_rel gf hmm h1) (opd_rel gf hmk h2) gd
            · cases hmt
          · cases hmc
        · cases hone
      | _ => exact plain hone (nd (fun _ _ _ _ h => by cases h))
    · cases hs
  · rename_i hw1
    rw [hwant _ hw1, if_neg (by simp)]
    cases hs
    refine ⟨fun _ _ => trivial, hK V.w V.μ _ ⟨rfl, gb, ?_, ?_, ?_, ?_⟩⟩
    · rw [← gs]; exact gl
    · rw [← gs]; exact gw
    · rw [← gs, ← hdst]; exact gf.put _ (.tup [] #[] rfl (by simp))
    · rw [Act.put_defers', ← gs]; exact gd
  · cases hs

end
end Go.Proofs.YtleommjdeejmkaaGreatDoor.Zq

namespace Go.Proofs.YtleommjdeejmkaaGreatDoor.Zq
open Go Go.RowKit

section
variable {E : Env} {base : World}

theorem step_builtin {P : Program} {fr : Frame} {cs : List Frame} {w w' : World} {d : Deferred} {ds : List Deferred} {b : Builtin} {ts : Array TypeId} {ty : TypeId} {cn : Array Bool} {v : Value}
    (hm : fr.mode = .returning) (hd : fr.defers = d :: ds) (ht : d.target = .builtin b ts ty cn) (hi : (invoke d.target d.args).run P w = .ok (.value v) w') :
    step P (lone fr cs w) = .next (lone { fr with defers := ds } cs w') := by
  obtain ⟨t, a⟩ := d
  simp only at ht hi
  subst ht
  exact step_lone_go (by simp [stepG, unwind, callDeferred, hm, hd, Sem.runT_eq, hi, GStep.bare_after])

/-- A block of deferred calls is shut: nobody reads it. -/
theorem shut_sim {V0 V : Vw} {blk : Nat} {ob : Obj} (hl : Later V0 V) (hw : WRel E base V) (hb0 : base.heap.size ≤ V0.w.heap.size) (hlo : V0.w.heap.size ≤ blk) {ob' : Option (List Deferred)} (hb : V.w.heap[blk]? = some (.deferred ob')) :
    Later V0 { V with w := setB V.w blk ob } ∧ WRel E base { V with w := setB V.w blk ob } ∧ ∀ x v, VRel E V x v → VRel E { V with w := setB V.w blk ob } x v := by
  have hnb : ∀ r o, V.S[r]? = some o → o.alive = true → (V.μ r).blk ≠ blk := fun r o ho ha he => by
    have hO := hw.obj r o ho
    cases o with
    | dead v => cases ha
    | cells ver rows => obtain ⟨cs, e, lo, hi, h1, _⟩ := hO; rw [he, hb] at h1; cases h1
    | map es => obtain ⟨mes, clock, h1, _⟩ := hO; rw [he, hb] at h1; cases h1
    | siter s p => obtain ⟨bs, h1, _⟩ := hO; rw [he, hb] at h1; cases h1
    | loop a b c d e f => obtain ⟨L, h1, _⟩ := hO; rw [he, hb] at h1; cases h1
  have hset : ∀ b, V.settled b → Vw.settled { V with w := setB V.w blk ob } b := fun b h => ⟨by simp only [setB_size]; exact h.1, h.2⟩
  have hcell : ∀ b o v, V.w.cell? ⟨b, o, none⟩ = some v → (setB V.w blk ob).cell? ⟨b, o, none⟩ = some v := fun b o v h => by
    by_cases hbb : b = blk
    · subst hbb; simp [World.cell?, hb] at h
    · rw [cell_same (setB_other hbb)]; exact h
  have hmove : ∀ x v, VRel E V x v → VRel E { V with w := setB V.w blk ob } x v := fun x v h =>
    h.move (V' := { V with w := setB V.w blk ob }) hset (fun b o v _ h => hcell b o v h) (fun _ _ => ⟨rfl, rfl⟩) h.lim
  have hbase : base.heap.size ≤ V.w.heap.size := hw.below.size
  refine ⟨⟨hl.bnd, hl.obj, hl.map, hl.loop, hl.iter, by simp only [setB_size]; exact hl.size, fun b hs => ?_, hl.X⟩, ⟨?_, hw.own, hw.inj, fun r o ho => ?_, fun b hx => by simp only [setB_size]; exact hw.xlt b hx, hw.glob⟩, hmove⟩
  · have hlt := hs.1
    exact ⟨hset b (hl.still b hs).1, by rw [setB_other (by omega)]; exact (hl.still b hs).2⟩
  · exact ⟨hw.below.os, hw.below.tape, hw.below.output, by simp only [setB_size]; exact hbase, fun k hk => by simp only; rw [setB_other (by omega)]; exact hw.below.block k hk⟩
  · have hO := hw.obj r o ho
    cases o with
    | dead v => trivial
    | cells ver rows =>
      obtain ⟨cs, e, lo, hi, h1, h2, h3, h4, h5, h6⟩ := hO
      exact ⟨cs, e, lo, hi, by simp only; rw [setB_other (hnb r _ ho rfl)]; exact h1, h2, h3, h4, h5, fun i j row x a b => let ⟨v, v1, v2, v3⟩ := h6 i j row x a b; ⟨v, v1, v2, hmove _ _ v3⟩⟩
    | map es =>
      obtain ⟨mes, clock, h1, h2, h3⟩ := hO
      exact ⟨mes, clock, by simp only; rw [setB_other (hnb r _ ho rfl)]; exact h1, h2, fun i k v hi => let ⟨me, m1, m2, m3⟩ := h3 i k v hi; ⟨me, m1, hmove _ _ m2, hmove _ _ m3⟩⟩
    | siter s p =>
      obtain ⟨bs, h1, h2⟩ := hO
      exact ⟨bs, by simp only; rw [setB_other (hnb r _ ho rfl)]; exact h1, h2⟩
    | loop a b c d e f =>
      obtain ⟨L, h1, h2, h3, h4, h5, h6, h7, h8⟩ := hO
      exact ⟨L, by simp only; rw [setB_other (hnb r _ ho rfl)]; exact h1, h2, h3, h4, h5, h6, h7, fun i x hi => hmove _ _ (h8 i x hi)⟩


/-- What the end of an activation comes to. -/
theorem leave_sim {fr : Frame} {cs : List Frame} (hmode : fr.mode = .returning) {V0 : Vw} (hb0 : base.heap.size ≤ V0.w.heap.size) {t : List AV} {S' : List AObj} : ∀ {ds : List ADef} {defers : List Deferred} {hi : Nat} {V : Vw}, DRel E V V0.w.heap.size hi ds defers → runDefers ds V.S = some S' →
    Later V0 V → WRel E base V → FRel E V t fr.tmps →
    ∃ w' μ', StepsIn (Machine.fenced E.P Fence.wide) E.P (lone { fr with defers := defers } cs V.w) (lone { fr with defers := [] } cs w') ∧ Later V0 { w := w', μ := μ', S := S', X := V.X } ∧ WRel E base { w := w', μ := μ', S := S', X := V.X } ∧
      FRel E { w := w', μ := μ', S := S', X := V.X } t fr.tmps := by
  intro ds
  induction ds with
  | nil =>
    intro defers hi V hd hr hl hw hf
    simp only [runDefers, Option.some.injEq] at hr
    subst hr
    cases hd
    exact ⟨V.w, V.μ, .refl _, hl, hw, hf⟩
  | cons d ds ih =>
    intro defers hi V hd hr hl hw hf
    cases hd with
    | mark _ blk _ defers' args h1 h2 hb hs h =>
      simp only [runDefers] at hr
      obtain ⟨kl, kw, km⟩ := shut_sim (ob := .deferred none) hl hw hb0 h1 hb
      have htake : (Instr.takeDeferred blk).run E.P V.w = .ok [] (setB V.w blk (.deferred none)) := by
        simp [Instr.takeDeferred, getObj, setObj, Sem.run, hb, setB, Result.andThen]
      have hstep := step_collected (P := E.P) (fr := { fr with defers := { target := .collected blk, args := args } :: defers' }) (cs := cs) (w := V.w) (d := { target := .collected blk, args := args }) (ds := defers') (by simp [hmode]) rfl rfl htake
      have hrest : DRel E { V with w := setB V.w blk (.deferred none) } V0.w.heap.size blk ds defers' := by
        have : ∀ {hi ds defers}, DRel E V V0.w.heap.size hi ds defers → hi ≤ blk → DRel E { V with w := setB V.w blk (.deferred none) } V0.w.heap.size hi ds defers := by
          intro hi ds defers h
          induction h with
          | nil => exact fun _ => .nil _
          | mark hi blk' ds defers args h1 h2 hb' hs' h ih =>
            intro hle
            refine .mark _ _ _ _ _ h1 h2 ?_ ?_ (ih (by omega))
            · simp only; rw [setB_other (by omega)]; exact hb'
            · exact ⟨by simp only [setB_size]; exact hs'.1, hs'.2⟩
          | del hi ag ks m k t u ty cs mv kv kt et ds defers hu hk hm hkv h ih => exact fun hle => .del _ _ _ _ _ _ _ _ _ _ _ _ _ _ _ hu hk (km _ _ hm) (km _ _ hkv) (ih hle)
        exact this h (Nat.le_refl _)
      obtain ⟨w', μ', r1, r2, r3, r4⟩ := ih (V := { V with w := setB V.w blk (.deferred none) }) hrest hr kl kw ⟨hf.size, fun i x hi => km _ _ (hf.get i x hi)⟩
      exact ⟨w', μ', .head (fenced_wide _ _) hstep r1, r2, r3, r4⟩
    | del _ ag ks m k t u ty cn mv kv kt et _ defers' hu hk hm hkv h =>
      simp only [runDefers] at hr
      split at hr
      · rename_i r
        split at hr
        · cases hr
        · rename_i hko
          split at hr
          · rename_i es hes
            split at hr
            · rename_i es' hdrop
              obtain ⟨w1, μ1, r1, k1, k2⟩ := mdel_sim (base := base) (ty := ty) (u2 := u) hw hu hk hm hkv (by simpa using hko) hes hdrop
              have hinv : (invoke (.builtin .delete #[t, u] ty cn) #[mv, kv]).run E.P V.w = .ok (.value (.tuple #[])) w1 := by
                simp only [invoke]; exact builtin_val rfl r1
              have hstep := step_builtin (P := E.P) (fr := { fr with defers := { target := .builtin .delete #[t, u] ty cn, args := #[mv, kv] } :: defers' }) (cs := cs) (w := V.w) (d := { target := .builtin .delete #[t, u] ty cn, args := #[mv, kv] }) (ds := defers') hmode rfl rfl hinv
              obtain ⟨w', μ', q1, q2, q3, q4⟩ := ih (V := { w := w1, μ := μ1, S := _, X := V.X }) (h.later k1) hr (hl.trans k1) k2 (hf.later k1)
              exact ⟨w', μ', .head (fenced_wide _ _) hstep q1, q2, q3, q4⟩
            · cases hr
          · cases hr
      · cases hr

theorem resOne_sim {V : Vw} (hw : WRel E base V) {t : List AV} {tmps : Array Value} (hf : FRel E V t tmps) {x : IRes} {y : ResultVar} {xs : List IRes} {ys : List ResultVar} (hm : mRes E (x :: xs) (y :: ys) = true) {v : AV} (h : resOne t V.S x = some v) :
    ∃ v', (match y with | .tmp t => pure (tmps.getD t undef) | .cell a t => do loadVar t (← asAddr (tmps.getD a undef)) : Sem Value).run E.P V.w = .ok v' V.w ∧ VRel E V v v' ∧ mRes E xs ys = true := by
  cases x with
  | tmp n =>
    cases y with
    | tmp m =>
      simp only [mRes, Bool.and_eq_true, beq_iff_eq] at hm
      obtain ⟨rfl, hm⟩ := hm
      exact ⟨_, by simp, hf.get _ _ h, hm⟩
    | cell m T => simp [mRes] at hm
  | cell n agg sz =>
    cases y with
    | tmp m => simp [mRes] at hm
    | cell m T =>
      simp only [mRes, Bool.and_eq_true, beq_iff_eq] at hm
      obtain ⟨⟨rfl, hT⟩, hm⟩ := hm
      simp only [resOne] at h
      split at h
      · rename_i a ha
        obtain ⟨v', r1, r2⟩ := loadAt_sim hw hT (hf.get _ _ ha) h
        refine ⟨v', ?_, r2, hm⟩
        have hp : ∃ q, tmps.getD n undef = .pointer (some q) := by
          have hv := hf.get _ _ ha
          unfold loadAt at h
          generalize tmps.getD n undef = w at hv
          split at h
          · cases hv; exact ⟨_, rfl⟩
          · cases hv; exact ⟨_, rfl⟩
          · cases h
        obtain ⟨q, hq⟩ := hp
        rw [hq] at r1
        simp only [hq]
        simpa [Instr.loadAt, Instr.sureAddr, asAddr] using r1
      · cases h

theorem resAll_sim {V : Vw} (hw : WRel E base V) {t : List AV} {tmps : Array Value} (hf : FRel E V t tmps) : ∀ {xs : List IRes} {ys : List ResultVar} {vs : List AV}, mRes E xs ys = true → resAll t V.S xs = some vs →
    ∃ vs' : List Value, (ys.mapM fun | .tmp t => pure (tmps.getD t undef) | .cell a t => do loadVar t (← asAddr (tmps.getD a undef)) : Sem (List Value)).run E.P V.w = .ok vs' V.w ∧ vs'.length = vs.length ∧ ∀ (i : Nat) (x : AV), vs[i]? = some x → VRel E V x (vs'.getD i undef)
  | [], [], vs, _, h => by simp only [resAll, Option.some.injEq] at h; subst h; exact ⟨[], by simp, rfl, by simp⟩
  | [], _ :: _, _, h, _ => by simp [mRes] at h
  | x :: _, [], _, h, _ => by cases x <;> simp [mRes] at h
  | x :: xs, y :: ys, vs, hm, h => by
    simp only [resAll] at h
    split at h
    · rename_i v us h1 h2
      cases h
      obtain ⟨v', r1, r2, hm'⟩ := resOne_sim hw hf hm h1
      obtain ⟨us', q1, q2, q3⟩ := resAll_sim hw hf hm' h2
      refine ⟨v' :: us', ?_, by simp [q2], fun i z hi => ?_⟩
      · rw [List.mapM_cons]
        simp only [Sem.run_bind]
        erw [r1]
        simp only [Result.andThen_ok]
        erw [q1]
        rfl
      · cases i with
        | zero => simp at hi; subst hi; simpa using r2
        | succ i => simpa using q3 i z (by simpa using hi)
    · cases h

theorem results_sim {V : Vw} (hw : WRel E base V) {t : List AV} {tmps : Array Value} (hf : FRel E V t tmps) {fn : Func} {xs : List IRes} {vs : List AV} (hm : mRes E xs fn.results.toList = true) (h : resAll t V.S xs = some vs) :
    ∃ v', (results fn tmps).run E.P V.w = .ok v' V.w ∧ VRel E V (results1 vs) v' := by
  obtain ⟨us, h1, h2, h3⟩ := resAll_sim hw hf hm h
  have hrun : (results fn tmps).run E.P V.w = .ok (if h : us.toArray.size = 1 then us.toArray[0] else .tuple us.toArray) V.w := by
    unfold results
    rw [Array.mapM_eq_mapM_toList]
    simp only [map_eq_pure_bind, Sem.run_bind]
    erw [h1]
    simp only [Result.andThen_ok, Sem.run_pure]
  refine ⟨_, hrun, ?_⟩
  by_cases h1 : us.length = 1
  · obtain ⟨u, rfl⟩ : ∃ u, us = [u] := List.length_eq_one_iff.1 h1
    obtain ⟨v, rfl⟩ : ∃ v, vs = [v] := List.length_eq_one_iff.1 (by simpa using h2.symm)
    simpa [results1] using h3 0 v rfl
  · rw [dif_neg (by simpa using h1)]
    have : results1 vs = .tup vs := by
      unfold results1
      split
      · simp at h2; omega
      · rfl
    rw [this]
    exact .tup _ _ (by simpa using h2) fun i x hi => by simpa using h3 i x hi

end
end Go.Proofs.YtleommjdeejmkaaGreatDoor.Zq
