/-
  The control: a run of the abstract machine is one of the program's.
  Conditions: none; lemmas.
-/
import Derived.Test.YtleommjdeejmkaaGreatDoorZMg
set_option linter.all false

namespace Go.Proofs.YtleommjdeejmkaaGreatDoor.Zq
open Go Go.RowKit

def exOf : Ex → Exit
  | .normal => .normal
  | .exit id => .exit id
  | .ret => .ret

def RPost (E : Env) (base : World) (V0 : Vw) (e : Ex) (st' : St) : Exit → Act → World → Prop :=
  fun e' a' w' => e' = exOf e ∧ ∃ μ', Good E base V0 { w := w', μ := μ', S := st'.s, X := V0.X } st' a'

def RunOk (E : Env) (n : Nat) : Prop := ∀ c st e st', run E.T n c st = some (e, st') → ∀ pc ro base V0 V a, mCode E c pc = true → (ro ≠ none → calm c = true) → Good E base V0 V st a →
  base.heap.size ≤ V0.w.heap.size → pc.wpIn (Wd ro) 0 E.P (RPost E base V0 e st') a V.w

/-- A loop's body, with the loop behind it. -/
def LoopW (F : Fence) (n : Nat) (P : Program) (c : Code) (Q : Exit → Act → World → Prop) (a : Act) (w : World) : Prop :=
  ∀ (b : Frame) (k : List Item) (cs : List Frame), b.roundOf = F.round → F.fn b.fn → F.room (cs.length + 1 + n) →
    ∃ e a' w', Q e a' w' ∧ ArrivesIn (Machine.fenced P F) P (lone (b.atR a (.code c :: .inLoop c :: k)) cs w) b k cs e a' w'

theorem loopW_in {F : Fence} {n : Nat} {P : Program} {c : Code} {Q : Exit → Act → World → Prop} {a : Act} {w : World} (h : LoopW F n P c Q a w) : (Code.loop c).wpIn F n P Q a w :=
  fun b k cs hro hb hr => let ⟨e, a', w', q, harr⟩ := h b k cs hro hb hr; ⟨e, a', w', q, .of_steps (.one (fenced_calm hb hr rfl) stepR_loop) harr⟩

theorem loopW_step {F : Fence} {n : Nat} {P : Program} {c : Code} {Q : Exit → Act → World → Prop} {a : Act} {w : World} (h : c.wpIn F n P (Exit.then (LoopW F n P c Q) Q) a w) : LoopW F n P c Q a w := by
  intro b k cs hro hb hr
  obtain ⟨e, a₁, w₁, hq, harr⟩ := h b (.inLoop c :: k) cs hro hb hr
  cases e with
  | normal =>
    obtain ⟨e₂, a₂, w₂, hq₂, harr₂⟩ := hq b k cs hro hb hr
    exact ⟨e₂, a₂, w₂, hq₂, .of_steps (StepsIn.trans harr (.one (fenced_calm hb hr rfl) stepR_inLoop)) harr₂⟩
  | exit id => exact ⟨_, a₁, w₁, hq, .pass (x := .inLoop c) rfl (fun _ _ => .inl (by simp)) harr⟩
  | goto l => exact ⟨_, a₁, w₁, hq, .pass (x := .inLoop c) rfl (fun _ _ => .inl (by simp)) harr⟩
  | ret => exact ⟨_, a₁, w₁, hq, .pass (x := .inLoop c) rfl (fun _ _ => .inl (by simp)) harr⟩
  | panic ch => exact ⟨_, a₁, w₁, hq, .pass (x := .inLoop c) rfl (fun _ _ => .inl (by simp)) harr⟩
  | outgrown => exact ⟨_, a₁, w₁, hq, .pass (x := .inLoop c) rfl (fun _ _ => .inl (by simp)) harr⟩

def LoopOk (E : Env) (n : Nat) : Prop := ∀ c st e st', run E.T n (.loop c) st = some (e, st') → ∀ pc ro base V0 V a, mCode E c pc = true → (ro ≠ none → calm c = true) → Good E base V0 V st a →
  base.heap.size ≤ V0.w.heap.size → LoopW (Wd ro) 0 E.P pc (RPost E base V0 e st') a V.w

section
variable {E : Env} {base : World} {n : Nat}

theorem wpIn_scope {F : Fence} {n : Nat} {P : Program} {Q : Exit → Act → World → Prop} {a : Act} {w : World} {c : Code} (h : c.wpIn F n P Q a w) (hq : ∀ l a w, ¬ Q (.goto l) a w) : (Code.scope c).wpIn F n P Q a w := by
  intro b k cs hro hb hr
  have h0 : (lone (b.atR a (.code (.scope c) :: k)) cs w).fenced P F := fenced_calm hb hr rfl
  have hs : step P (lone (b.atR a (.code (.scope c) :: k)) cs w) = .next (lone (b.atR a (.code c :: .inScope c :: k)) cs w) :=
    step_lone_go (by simp [stepG, stepG.exec, Frame.atR])
  have hin : ∀ a w, step P (lone (b.atR a (.inScope c :: k)) cs w) = .next (lone (b.atR a k) cs w) := fun a w => step_lone_go (by simp [stepG, stepG.exec, Frame.atR])
  obtain ⟨e, a₁, w₁, hq', harr⟩ := h b (.inScope c :: k) cs hro hb hr
  have hx : ∀ id, exitTo id (.inScope c :: k) = exitTo id k := fun id => by simp [exitTo]
  cases e with
  | normal => exact ⟨.normal, a₁, w₁, hq', .head h0 hs (StepsIn.trans harr (.one (fenced_calm hb hr rfl) (hin _ _)))⟩
  | exit id => exact ⟨.exit id, a₁, w₁, hq', fun k' hk => .head h0 hs (harr.1 k' (by rw [hx]; exact hk)), fun hr' hk => let ⟨k₁, h1, h2⟩ := harr.2 hr' (by rw [hx]; exact hk); ⟨k₁, h1, .head h0 hs h2⟩⟩
  | goto l => exact absurd hq' (hq l _ _)
  | ret => exact ⟨_, a₁, w₁, hq', .of_steps (.one h0 hs) harr⟩
  | panic ch => exact ⟨_, a₁, w₁, hq', .of_steps (.one h0 hs) harr⟩
  | outgrown => exact ⟨_, a₁, w₁, hq', .of_steps (.one h0 hs) harr⟩

/-- The operations of a region, one behind the other. -/
theorem ops_sim (hc : CallOk E n) {ro : Option Nat} {ops : Array Oper} {V0 : Vw} {Q : Exit → Act → World → Prop} {st' : St} : ∀ (ios : List IOper) (i : Nat) (st : St) (V : Vw) (a : Act), (ro ≠ none → ∀ o ∈ ios, calmOp o.op = true) →
    mOps E ops.toList ios (ops.toList.drop i) = true → runOps (ecall E.T n) ios st = some st' → Good E base V0 V st a →
    (∀ w' μ' a', Good E base V0 { w := w', μ := μ', S := st'.s, X := V0.X } st' a' → Q .normal a' w') → wpOpsIn (Wd ro) 0 E.P ops Q (List.range' i ios.length) a V.w
  | [], i, st, V, a, _, _, hr, hg, hK => by
    simp only [runOps, Option.some.injEq] at hr
    subst hr
    refine hK V.w V.μ a ?_
    rw [← hg.s, ← hg.l.X]; exact hg
  | io :: ios, i, st, V, a, hcalm, hm, hr, hg, hK => by
    cases hd : ops.toList.drop i with
    | nil => rw [hd] at hm; simp [mOps] at hm
    | cons o rest =>
      rw [hd] at hm
      simp only [mOps, Bool.and_eq_true] at hm
      have ho : ops[i]? = some o := by
        have := congrArg (fun l => l[0]?) hd
        simpa using this
      have hrest : rest = ops.toList.drop (i + 1) := by
        have := congrArg List.tail hd
        simpa using this.symm
      simp only [runOps] at hr
      split at hr
      · rename_i st1 h1
        rw [List.length_cons, List.range'_succ, wpOpsIn_cons]
        refine step_sim hc (fun h => hcalm h io (by simp)) ho hm.1 h1 hg fun w' μ' a' hg' => ?_
        exact ops_sim hc ios (i + 1) st1 _ a' (fun h o hmem => hcalm h o (by simp [hmem])) (by rw [← hrest]; exact hm.2) hr hg' hK
      · cases hr

theorem mOps_length {all : List Oper} : ∀ {ios : List IOper} {os : List Oper}, mOps E all ios os = true → ios.length = os.length
  | [], [], _ => rfl
  | [], _ :: _, h => by simp [mOps] at h
  | _ :: _, [], h => by simp [mOps] at h
  | _ :: ios, _ :: os, h => by simp only [mOps, Bool.and_eq_true] at h; simp [mOps_length h.2]

/-- A region that draws its order. -/
def DrawOk (E : Env) : Prop := ∀ n, CallOk E n → ∀ (ro : Option Nat) (id : Nat) (iops : List IOper) (ops : Array Oper) (st st' : St) (base : World) (V0 V : Vw) (a : Act) (Q : Exit → Act → World → Prop), (ro ≠ none → ∀ o ∈ iops, calmOp o.op = true) → mOps E ops.toList iops ops.toList = true → drawOk E iops ops = true →
  runDraw (ecall E.T n) st.s.length iops { st with s := st.s ++ List.replicate (countA iops) (.dead 0) } = some st' → Good E base V0 V st a →
  (∀ w' μ' a', Good E base V0 { w := w', μ := μ', S := st'.s, X := V0.X } st' a' → Q .normal a' w') → (Code.region id ops true).wpIn (Wd ro) 0 E.P Q a V.w

theorem mCode_seq {x y : ICode} {pc : Code} (h : mCode E (.seq x y) pc = true) : (∃ g, x = .gh g ∧ mCode E y pc = true) ∨ (∃ g, y = .gh g ∧ mCode E x pc = true) ∨ ∃ p q, pc = .seq p q ∧ mCode E x p = true ∧ mCode E y q = true := by
  unfold mCode at h
  split at h
  all_goals first
    | (rename_i heq _; cases heq; done)
    | (rename_i heq; cases heq; done)
    | (cases h; done)
    | skip
  · rename_i heq; cases heq; exact .inl ⟨_, rfl, h⟩
  · rename_i heq; cases heq; exact .inr (.inl ⟨_, rfl, h⟩)
  · rename_i heq; cases heq
    simp only [Bool.and_eq_true] at h
    exact .inr (.inr ⟨_, _, rfl, h.1, h.2⟩)

theorem Good.X {V0 V : Vw} {st : St} {a : Act} (h : Good E base V0 V st a) : V.X = V0.X := h.l.X

theorem Good.self {V0 V : Vw} {st : St} {a : Act} (h : Good E base V0 V st a) : ∃ μ', Good E base V0 { w := V.w, μ := μ', S := st.s, X := V0.X } st a :=
  ⟨V.μ, by rw [← h.s, ← h.l.X]; exact h⟩

theorem callsIn_wd {ro : Option Nat} {g : FuncId} {args : Array Value} {w : World} {R : Ending → World → Prop} (h : CallsIn Fence.wide 0 E.P g args w R) : CallsIn (Wd ro) 0 E.P g args w R := h

/-- What a function of the library does, by its contract. -/
def PrimOk (E : Env) (g : FuncId) (p : List AV → List AObj → Option (AV × List AObj)) : Prop :=
  ∀ args S v S', p args S = some (v, S') → ∀ base V, V.S = S → WRel E base V → ∀ args' : Array Value, FRel E V args args' → Entered E g args' V.w (CPost E base V S' v)

/-- The table stands for the program. -/
structure Fits (E : Env) : Prop where
  code : ∀ g id F, E.σ g = some id → E.T id = some (.code F) → ∃ fn, E.P.funcs[g]? = some fn ∧ mFun E F fn = true
  prim : ∀ g id p, E.σ g = some id → E.T id = some (.prim p) → PrimOk E g p

theorem code_enters (hF : Fits E) {g : FuncId} {id : Nat} (hg : E.σ g = some id) (hc : isCode E.T id = true) (args : Array Value) (w : World) : (callFunc g args).run E.P w = .ok (.enter g args) w := by
  unfold isCode at hc
  split at hc
  · rename_i F hT
    obtain ⟨fn, hfn, hmf⟩ := hF.code g id F hg hT
    simp only [mFun, Bool.and_eq_true, beq_iff_eq, bne_iff_ne, ne_eq, decide_eq_true_eq] at hmf
    obtain ⟨⟨_, hname⟩, hbody⟩ := hmf
    split at hbody
    · rename_i c hcb; simp [callFunc, hfn, hname, hcb]
    · cases hbody
  · cases hc

/-- A loop over a function. -/
theorem rf_sim (hF : Fits E) (hc : CallOk E n) {f : Opd} {ps : List Nat} {as bo : ICode} {st st' : St} {e : Ex} (hr : run E.T (n + 1) (.rf f ps as bo) st = some (e, st')) {g : Operand} {qs : Array Tmp} {x y : Code} (hf : mOpd E f g = true) (hps : ps = qs.toList)
    (hx : mCode E as x = true) (hy : mCode E bo y = true) {V0 V : Vw} {a : Act} (hg : Good E base V0 V st a) : (Code.rangeFunc g qs x y).wpIn (Wd none) 0 E.P (RPost E base V0 e st') a V.w := by
  obtain ⟨gs, gb, gl, gw, gf, gd⟩ := hg
  simp only [run] at hr
  split at hr
  · rename_i id first caps hfv
    split at hr
    · cases hr
    rename_i hcode
    simp only [Bool.not_eq_true', Bool.not_eq_false] at hcode
    split at hr
    · rename_i v S hcall
      split at hr
      · rename_i fr1 ps1 as1 bo1 s pend hS
        split at hr
        · cases hr
        · rename_i hs1
          simp only [Option.some.injEq, Prod.mk.injEq] at hr
          obtain ⟨rfl, rfl⟩ := hr
          refine wpIn_rangeFunc fun fn _ => ?_
          have hlen : st.s.length = V.S.length := by rw [gs]
          -- the block for deferred calls
          let V1 : Vw := { V with w := V.w.alloc (.deferred (some [])) }
          have L1 : Later V V1 := Later.grow V _
          have W1 : WRel E base V1 := gw.grow _
          have s1 : V1.settled V.w.heap.size := gw.new_settled _
          have b1 : V1.w.heap[V.w.heap.size]? = some (.deferred (some [])) := alloc_at V.w _
          -- the record
          let L : Loop := { state := .ready, pending := none, fn, tmps := a.tmps, params := qs, assign := x, body := y, defers := V.w.heap.size }
          let ℓ : Loc := ⟨V.w.heap.size + 1, 0, 0, 0⟩
          let w2 := V1.w.alloc (.loop L)
          have hsz1 : V1.w.heap.size = V.w.heap.size + 1 := by simp [V1]
          let V2 : Vw := { w := w2, μ := updμ V1.μ V1.S.length ℓ, S := V1.S ++ [.loop st.t ps as bo 0 none], X := V1.X }
          have put : Put V1.S V1.S.length (.loop st.t ps as bo 0 none) (V1.S ++ [.loop st.t ps as bo 0 none]) := .push rfl
          have cl : claims V1 V1.S.length (.loop st.t ps as bo 0 none) ℓ := .inl (by simp [bound])
          have hsz : V1.w.heap.size ≤ w2.heap.size := by simp [w2]
          have hwb : ∀ b, b < V1.w.heap.size → b ≠ ℓ.blk → w2.heap[b]? = V1.w.heap[b]? := fun b hb _ => Below.heap_alloc _ _ _ hb
          have hb2 : (live V1.S V1.S.length ∧ ℓ.blk = (V1.μ V1.S.length).blk) ∨ V1.w.heap.size ≤ ℓ.blk := .inr (by simp [ℓ, hsz1])
          have L2 : Later V1 V2 := Later.upd put cl hsz hwb hb2
          have W2 : WRel E base V2 := W1.upd put cl hsz hwb hb2 ⟨rfl, rfl, rfl⟩ fun hl =>
            ⟨L, by show w2.heap[V.w.heap.size + 1]? = _; rw [← hsz1]; exact alloc_at V1.w _, rfl, rfl, hps.symm, hx, hy, gf.size, fun i z hi => ((gf.get i z hi).later L1).later hl⟩
          have e0 : (Instr.enterLoop fn a.tmps qs x y none).run E.P V.w = .ok (V.w.heap.size + 1, [{ target := .collected V.w.heap.size, args := #[] }]) w2 := by
            simp [Instr.enterLoop, Result.andThen, w2, V1, L]
            rfl
          have hy2 : VRel E V2 (.fn (.y V.S.length) [] []) (.func (.yield (V.w.heap.size + 1)) #[] #[]) := by
            refine .fny _ _ ?_ fun fr ps as bo s pe h => ?_
            · rw [bound_of put.same]; simp [boundO]
            · simp [V2, V1, updμ, ℓ]
          have hfn : VRel E V2 (.fn (.f id) first caps) (a.eval g) := ((opd_rel gf hf hfv).later L1).later L2
          have hA : FRel E V2 [.fn (.y V.S.length) [] []] #[.func (.yield (V.w.heap.size + 1)) #[] #[]] := ⟨rfl, fun i z hi => by
            cases i with
            | zero => simp at hi; subst hi; exact hy2
            | succ i => simp at hi⟩
          have hcall' : ecall E.T n (.f id) (first ++ [.fn (.y V.S.length) [] []] ++ caps) V2.S = some (v, S) := by
            rw [← hlen]; show ecall _ _ _ _ (V.S ++ _) = _; rw [gs]; exact hcall
          cases hev : a.eval g with
          | func fv fs cs =>
            rw [hev] at hfn
            cases hfn with
            | fn _ gg _ _ _ _ hgσ hfs hcs hvf hvc =>
              have hAA : FRel E V2 (first ++ [.fn (.y V.S.length) [] []] ++ caps) (fs ++ #[.func (.yield (V.w.heap.size + 1)) #[] #[]] ++ cs) := (FRel.append ⟨hfs, hvf⟩ hA).append ⟨hcs, hvc⟩
              have k1 := code_enters hF hgσ hcode (fs ++ #[.func (.yield (V.w.heap.size + 1)) #[] #[]] ++ cs) V2.w
              have k2 : CallsIn Fence.wide 0 E.P gg (fs ++ #[.func (.yield (V.w.heap.size + 1)) #[] #[]] ++ cs) V2.w (CPost E base V2 S v) := by
                rcases hc (.f id) _ _ _ _ hcall' base V2 rfl W2 _ hAA gg hgσ with ⟨_, h⟩ | ⟨_, _, h, _⟩
                · exact h
                · rw [k1] at h; cases h
              refine ⟨_, _, w2, { target := .fn (.func gg) cs, args := fs ++ #[.func (.yield (V.w.heap.size + 1)) #[] #[]] }, w2, gg, fs ++ #[.func (.yield (V.w.heap.size + 1)) #[] #[]] ++ cs, w2, e0, ?_, fun _ _ => trivial, ?_, wd_depth, ?_⟩
              · have hmap : (rangeCall g (V.w.heap.size + 1)).args.map a.eval = #[.func (.yield (V.w.heap.size + 1)) #[] #[]] := by simp [rangeCall, Act.eval]
                simp only [resolve, hmap]
                show (Deferred.ofValue (a.eval g) _).run E.P w2 = _
                rw [hev]; rfl
              · simpa [invoke] using k1
              · refine CallsIn.mono (callsIn_wd k2) fun e w3 hR => ?_
                cases e with
                | panicked c => exact hR.elim
                | outgrown => exact hR.elim
                | returned v' =>
                  obtain ⟨μ3, L3, W3, _⟩ := hR
                  have hl0 : V2.μ V.S.length = ℓ := by simp [V2, V1, updμ]
                  rw [hlen] at hS
                  have hμ3 : μ3 V.S.length = ℓ := by
                    have := (L3.loop V.S.length _ _ _ _ _ _ (by rw [bound_of put.same]; simp [boundO]) hS).2
                    rw [← hl0]; exact this
                  have hO := W3.obj _ _ hS
                  simp only [hμ3] at hO
                  obtain ⟨LL, o1, o2, o3, o4, o5, o6, o7, o8⟩ := hO
                  have o1' : w3.heap[V.w.heap.size + 1]? = some (.loop LL) := o1
                  let w4 := setB w3 (V.w.heap.size + 1) (.loop { LL with state := .exhausted })
                  have hend : (Instr.endLoop (V.w.heap.size + 1)).run E.P w3 = .ok LL.pending w4 := by
                    have hst : LL.state ≠ .busy := by
                      intro hb; rw [hb] at o2; exact hs1 o2.symm
                    simp [Instr.endLoop, Instr.getLoop, getObj, setObj, Sem.run, o1', hst, w4, setB, Result.andThen]
                  have hlive : live S V.S.length := ⟨_, hS, rfl⟩
                  have hlt := get_lt hS
                  have put4 : Put S V.S.length (.dead 1) (S.set V.S.length (.dead 1)) := .set hlt
                  let V3 : Vw := { w := w3, μ := μ3, S := S, X := V2.X }
                  have cl4 : claims V3 V.S.length (.dead 1) ℓ := by show bound S _ ≤ 1; rw [bound_of hS]; simp [boundO]
                  have hb4 : (live V3.S V.S.length ∧ ℓ.blk = (V3.μ V.S.length).blk) ∨ V3.w.heap.size ≤ ℓ.blk := .inl ⟨hlive, by show _ = (μ3 _).blk; rw [hμ3]⟩
                  have L4 := Later.upd (V := V3) (w' := w4) put4 cl4 (by show _ ≤ (setB _ _ _).heap.size; rw [setB_size]; exact Nat.le_refl _) (fun b _ hb => setB_other hb) hb4
                  have W4 := W3.upd (w' := w4) put4 cl4 (by show _ ≤ (setB _ _ _).heap.size; rw [setB_size]; exact Nat.le_refl _) (fun b _ hb => setB_other hb) hb4 ⟨rfl, rfl, rfl⟩ (fun _ => trivial)
                  have LL4 : Later V { w := w4, μ := updμ V3.μ V.S.length ℓ, S := S.set V.S.length (.dead 1), X := V.X } := ((L1.trans L2).trans L3).trans L4
                  have G : Good E base V0 { w := w4, μ := updμ V3.μ V.S.length ℓ, S := S.set st.s.length (.dead 1), X := V0.X } { st with s := S.set st.s.length (.dead 1), d := .mark :: st.d } { a with defers := [{ target := .collected V.w.heap.size, args := #[] }] ++ a.defers } := by
                    rw [← gl.X, hlen]
                    refine ⟨rfl, gb, gl.trans LL4, W4, gf.later LL4, ?_⟩
                    have hss := ((L2.trans L3).trans L4).still _ s1
                    refine .mark _ _ _ _ _ gl.size ?_ ?_ hss.1 (gd.later LL4)
                    · exact hss.1.1
                    · exact hss.2.trans b1
                  refine ⟨LL.pending, w4, hend, ?_⟩
                  rw [o3]
                  cases pend with
                  | none => exact ⟨rfl, _, G⟩
                  | some ex => cases ex with
                    | normal => exact ⟨rfl, _, G⟩
                    | exit id => exact wpIn_exit ⟨rfl, _, G⟩
                    | ret => exact wpIn_ret ⟨rfl, _, G⟩
          | _ => rw [hev] at hfn; cases hfn
      · cases hr
    · cases hr
  · cases hr

theorem RPost.noGoto {V0 : Vw} {e : Ex} {st' : St} (l : Nat) (a : Act) (w : World) : ¬ RPost E base V0 e st' (.goto l) a w := fun ⟨h, _⟩ => by cases e <;> cases h

/-- One more fuel for the control. -/
theorem run_step (hF : Fits E) (hD : DrawOk E) (hc : CallOk E n) (hR : RunOk E n) (hL : LoopOk E n) : RunOk E (n + 1) := by
  intro c st e st' hr pc ro base V0 V a hm hcalm hg hb0
  cases c with
  | skip =>
    simp only [run, Option.some.injEq, Prod.mk.injEq] at hr
    obtain ⟨rfl, rfl⟩ := hr
    cases pc <;> simp only [mCode, Bool.false_eq_true] at hm
    · exact wpIn_skip ⟨rfl, hg.self⟩
    · exact wpIn_label ⟨rfl, hg.self⟩
  | reg d ops =>
    cases pc <;> simp only [mCode, Bool.false_eq_true] at hm
    rename_i id pops pd
    simp only [Bool.and_eq_true, beq_iff_eq] at hm
    obtain ⟨⟨rfl, hmo⟩, hdr⟩ := hm
    have hcalm' : ro ≠ none → ∀ o ∈ ops, calmOp o.op = true := fun h o ho => by
      have := hcalm h
      simp only [calm, List.all_eq_true] at this
      exact this o ho
    cases d with
    | false =>
      simp only [run, Option.map_eq_some_iff, Prod.mk.injEq] at hr
      obtain ⟨st1, hr, rfl, rfl⟩ := hr
      refine wpIn_region ?_
      rw [List.range_eq_range', ← Array.length_toList, ← mOps_length hmo]
      exact ops_sim hc ops 0 st V a hcalm' (by simpa using hmo) hr hg fun w' μ' a' h => ⟨rfl, μ', h⟩
    | true =>
      simp only [run, Option.map_eq_some_iff, Prod.mk.injEq] at hr
      obtain ⟨st1, hr, rfl, rfl⟩ := hr
      exact hD n hc ro id ops pops st st1 base V0 V a _ hcalm' hmo (by simpa using hdr) hr hg fun w' μ' a' h => ⟨rfl, μ', h⟩
  | seq x y =>
    have hcx : ro ≠ none → calm x = true := fun h => by have := hcalm h; simp only [calm, Bool.and_eq_true] at this; exact this.1
    have hcy : ro ≠ none → calm y = true := fun h => by have := hcalm h; simp only [calm, Bool.and_eq_true] at this; exact this.2
    simp only [run] at hr
    rcases mCode_seq hm with ⟨g, rfl, hm'⟩ | ⟨g, rfl, hm'⟩ | ⟨p, q, rfl, h1, h2⟩
    · split at hr
      · rename_i st1 h1
        cases n with
        | zero => simp [run] at h1
        | succ n =>
          simp only [run, Option.map_eq_some_iff, Prod.mk.injEq] at h1
          obtain ⟨st2, hgh, _, rfl⟩ := h1
          exact hR y st2 e st' hr pc ro base V0 { V with S := st2.s } a hm' hcy (ghost_sim hg hgh) hb0
      · rename_i hne
        cases n with
        | zero => simp [run] at hr
        | succ n =>
          cases hgh : ghost g st with
          | none => simp [run, hgh] at hr
          | some st2 => exact absurd (by simp [run, hgh]) (hne st2)
    · split at hr
      · rename_i st1 h1
        cases n with
        | zero => simp [run] at h1
        | succ n =>
          simp only [run, Option.map_eq_some_iff, Prod.mk.injEq] at hr
          obtain ⟨st2, hgh, rfl, rfl⟩ := hr
          refine wpIn_mono (hR x st .normal st1 h1 pc ro base V0 V a hm' hcx hg hb0) fun e' a' w' ⟨he, μ', hg'⟩ => ⟨he, μ', ?_⟩
          exact ghost_sim hg' hgh
      · exact hR x st e st' hr pc ro base V0 V a hm' hcx hg hb0
    · refine wpIn_seq ?_
      split at hr
      · rename_i st1 h3
        refine wpIn_mono (hR x st .normal st1 h3 p ro base V0 V a h1 hcx hg hb0) fun e' a' w' ⟨he, μ', hg'⟩ => ?_
        subst he
        exact hR y st1 e st' hr q ro base V0 _ a' h2 hcy hg' hb0
      · rename_i hne
        refine wpIn_mono (hR x st e st' hr p ro base V0 V a h1 hcx hg hb0) fun e' a' w' ⟨he, μ', hg'⟩ => ?_
        subst he
        cases e with
        | normal => exact absurd hr (hne st')
        | exit id => exact ⟨rfl, μ', hg'⟩
        | ret => exact ⟨rfl, μ', hg'⟩
  | cond c x y =>
    have hcx : ro ≠ none → calm x = true := fun h => by have := hcalm h; simp only [calm, Bool.and_eq_true] at this; exact this.1
    have hcy : ro ≠ none → calm y = true := fun h => by have := hcalm h; simp only [calm, Bool.and_eq_true] at this; exact this.2
    cases pc <;> simp only [mCode, Bool.false_eq_true] at hm
    simp only [Bool.and_eq_true] at hm
    simp only [run] at hr
    split at hr
    · rename_i t ht
      have hv := (opd_rel hg.f hm.1.1 (by exact ht)).bool_inv
      refine wpIn_cond hv ?_
      cases t with
      | true => exact hR x st e st' (by simpa using hr) _ ro base V0 V a hm.1.2 hcx hg hb0
      | false => exact hR y st e st' (by simpa using hr) _ ro base V0 V a hm.2 hcy hg hb0
    · cases hr
  | blk id x =>
    cases pc <;> simp only [mCode, Bool.false_eq_true] at hm
    simp only [Bool.and_eq_true, beq_iff_eq] at hm
    obtain ⟨rfl, hm⟩ := hm
    simp only [run] at hr
    refine wpIn_block ?_
    split at hr
    · rename_i i st1 h1
      simp only [Option.some.injEq, Prod.mk.injEq] at hr
      obtain ⟨rfl, rfl⟩ := hr
      refine wpIn_mono (hR x st _ _ h1 _ ro base V0 V a hm hcalm hg hb0) fun e' a' w' ⟨he, μ', hg'⟩ => ?_
      subst he
      simp only [Exit.inBlock, exOf]
      split
      · rename_i h; exact ⟨by simp [h, exOf], μ', hg'⟩
      · rename_i h; exact ⟨by simp [h, exOf], μ', hg'⟩
    · rename_i hne
      refine wpIn_mono (hR x st e st' hr _ ro base V0 V a hm hcalm hg hb0) fun e' a' w' ⟨he, μ', hg'⟩ => ?_
      subst he
      cases e with
      | normal => exact ⟨rfl, μ', hg'⟩
      | exit i => exact absurd hr (hne i st')
      | ret => exact ⟨rfl, μ', hg'⟩
  | loop x =>
    cases pc <;> simp only [mCode, Bool.false_eq_true] at hm
    refine loopW_in (loopW_step ?_)
    have hcx : ro ≠ none → calm x = true := hcalm
    simp only [run] at hr
    split at hr
    · rename_i st1 h1
      refine wpIn_mono (hR x st .normal st1 h1 _ ro base V0 V a hm hcx hg hb0) fun e' a' w' ⟨he, μ', hg'⟩ => ?_
      subst he
      exact hL x st1 e st' hr _ ro base V0 _ a' hm hcx hg' hb0
    · rename_i hne
      refine wpIn_mono (hR x st e st' hr _ ro base V0 V a hm hcx hg hb0) fun e' a' w' ⟨he, μ', hg'⟩ => ?_
      subst he
      cases e with
      | normal => exact absurd hr (hne st')
      | exit i => exact ⟨rfl, μ', hg'⟩
      | ret => exact ⟨rfl, μ', hg'⟩
  | exit id =>
    simp only [run, Option.some.injEq, Prod.mk.injEq] at hr
    obtain ⟨rfl, rfl⟩ := hr
    cases pc <;> simp only [mCode, Bool.false_eq_true] at hm
    simp only [beq_iff_eq] at hm
    subst hm
    exact wpIn_exit ⟨rfl, hg.self⟩
  | ret =>
    simp only [run, Option.some.injEq, Prod.mk.injEq] at hr
    obtain ⟨rfl, rfl⟩ := hr
    cases pc <;> simp only [mCode, Bool.false_eq_true] at hm
    exact wpIn_ret ⟨rfl, hg.self⟩
  | rf f ps as bo =>
    have hro : ro = none := by
      cases ro with
      | none => rfl
      | some l => have := hcalm (by simp); simp [calm] at this
    subst hro
    cases pc <;> simp only [mCode, Bool.false_eq_true] at hm
    simp only [Bool.and_eq_true, beq_iff_eq] at hm
    exact rf_sim hF hc hr hm.1.1.1 hm.1.1.2 hm.1.2 hm.2 hg
  | scope x =>
    cases pc <;> simp only [mCode, Bool.false_eq_true] at hm
    simp only [run] at hr
    exact wpIn_scope (hR x st e st' hr _ ro base V0 V a hm hcalm hg hb0) RPost.noGoto
  | gh g => cases pc <;> simp [mCode] at hm
  | never => simp [run] at hr

theorem loop_step (hR : RunOk E n) (hL : LoopOk E n) : LoopOk E (n + 1) := by
  intro x st e st' hr pc ro base V0 V a hm hcalm hg hb0
  refine loopW_step ?_
  simp only [run] at hr
  split at hr
  · rename_i st1 h1
    refine wpIn_mono (hR x st .normal st1 h1 _ ro base V0 V a hm hcalm hg hb0) fun e' a' w' ⟨he, μ', hg'⟩ => ?_
    subst he
    exact hL x st1 e st' hr _ ro base V0 _ a' hm hcalm hg' hb0
  · rename_i hne
    refine wpIn_mono (hR x st e st' hr _ ro base V0 V a hm hcalm hg hb0) fun e' a' w' ⟨he, μ', hg'⟩ => ?_
    subst he
    cases e with
    | normal => exact absurd hr (hne st')
    | exit i => exact ⟨rfl, μ', hg'⟩
    | ret => exact ⟨rfl, μ', hg'⟩

theorem setParams_sim {V : Vw} : ∀ {ps : List Nat} {fr fr' : List AV} {args : List AV} {tmps : Array Value} {args' : List Value}, setParams fr ps args = some fr' → FRel E V fr tmps → args'.length = args.length →
    (∀ (i : Nat) (x : AV), args[i]? = some x → VRel E V x (args'.getD i undef)) → args.length = ps.length ∧ FRel E V fr' ((ps.zip args').foldl (fun tmps (t, a) => tmps.setIfInBounds t a) tmps)
  | [], fr, fr', args, tmps, args', h, hf, hl, ha => by
    cases args with
    | nil => simp only [setParams, Option.some.injEq] at h; subst h; exact ⟨rfl, by simpa using hf⟩
    | cons a as => simp [setParams] at h
  | p :: ps, fr, fr', args, tmps, args', h, hf, hl, ha => by
    cases args with
    | nil => simp [setParams] at h
    | cons a as =>
      cases args' with
      | nil => simp at hl
      | cons b bs =>
        simp only [setParams] at h
        have hput := FRel.put (a := { tmps := tmps, defers := [] }) hf (some p) (ha 0 a rfl)
        simp only [putT, Act.put] at hput
        obtain ⟨k1, k2⟩ := setParams_sim (args' := bs) h hput (by simpa using hl) (fun i x hi => by simpa using ha (i + 1) x (by simpa using hi))
        exact ⟨by simp [k1], by simpa using k2⟩

/-- A loop's record, its state or its jump changed. -/
theorem loopset_sim {V : Vw} (hw : WRel E base V) {l : Nat} {fr : List AV} {ps : List Nat} {as bo : ICode} {s s' : Nat} {pe pe' : Option Ex} (hS : V.S[l]? = some (.loop fr ps as bo s pe)) {L : Loop} (hL : V.w.heap[(V.μ l).blk]? = some (.loop L))
    {stt : LoopState} {pp : Option Code} (hs : stNum stt = s') (hp : pp = exCode pe') :
    Later V { w := setB V.w (V.μ l).blk (.loop { L with state := stt, pending := pp }), μ := V.μ, S := V.S.set l (.loop fr ps as bo s' pe'), X := V.X } ∧
    WRel E base { w := setB V.w (V.μ l).blk (.loop { L with state := stt, pending := pp }), μ := V.μ, S := V.S.set l (.loop fr ps as bo s' pe'), X := V.X } := by
  obtain ⟨L', o1, o2, o3, o4, o5, o6, o7, o8⟩ := hw.obj l _ hS
  rw [hL] at o1
  cases o1
  have hμ : updμ V.μ l (V.μ l) = V.μ := by funext x; simp only [updμ]; split <;> simp_all
  have hlt := get_lt hS
  have put : Put V.S l (.loop fr ps as bo s' pe') (V.S.set l (.loop fr ps as bo s' pe')) := .set hlt
  have cl : claims V l (.loop fr ps as bo s' pe') (V.μ l) := .inr ⟨⟨_, _, _, _, _, _, hS⟩, rfl⟩
  have hsz : V.w.heap.size ≤ (setB V.w (V.μ l).blk (.loop { L with state := stt, pending := pp })).heap.size := by rw [setB_size]; exact Nat.le_refl _
  have hb : (live V.S l ∧ (V.μ l).blk = (V.μ l).blk) ∨ V.w.heap.size ≤ (V.μ l).blk := .inl ⟨⟨_, hS, rfl⟩, rfl⟩
  have A := Later.upd put cl hsz (fun b _ h => setB_other h) hb
  have B := hw.upd put cl hsz (fun b _ h => setB_other h) hb ⟨rfl, rfl, rfl⟩ fun hl => ⟨{ L with state := stt, pending := pp }, setB_same (lt_of_block hL), hs, hp, o4, o5, o6, o7, fun i x hi => (o8 i x hi).later hl⟩
  rw [hμ] at A B
  exact ⟨A, B⟩

theorem call_step (hF : Fits E) (hR : RunOk E n) : CallOk E (n + 1) := by
  intro f args S v S' he base V hVS hw args' hA
  cases f with
  | f id =>
    intro g hg
    simp only [ecall] at he
    split at he
    · rename_i p hp; exact hF.prim g id p hg hp _ _ _ _ he base V hVS hw args' hA
    · rename_i F hT
      obtain ⟨fn, hfn, hmf⟩ := hF.code g id F hg hT
      simp only [mFun, Bool.and_eq_true, beq_iff_eq, bne_iff_ne, ne_eq, decide_eq_true_eq] at hmf
      obtain ⟨⟨⟨⟨⟨hnp, hnt⟩, hle⟩, hres⟩, hname⟩, hbody⟩ := hmf
      split at hbody
      · rename_i c hcb
        split at he
        · rename_i hargs
          refine .inl ⟨?_, trivial, fun cs hroom => ?_⟩
          · simp [callFunc, hfn, hname, hcb]
          · let a0 : Act := { tmps := args' ++ Array.replicate (fn.ntmps - args'.size) undef, defers := [] }
            let b : Frame := { (default : Frame) with fn := g, kind := .normal, roundOf := none }
            have henter : Frame.enter E.P g args' .normal = b.atR a0 [.code c] := by
              simp [Frame.enter, Frame.atR, hfn, hcb, b, a0]
            have hf0 : FRel E V (args ++ List.replicate (F.nt - F.np) .junk) a0.tmps := by
              refine FRel.append hA ⟨by simp [hA.size, hargs, hnt], fun i x hi => ?_⟩
              have : x = .junk := by
                rw [List.getElem?_replicate] at hi
                split at hi
                · cases hi; rfl
                · cases hi
              subst this; exact .junk _
            have hg0 : Good E base V V { t := args ++ List.replicate (F.nt - F.np) .junk, s := S, b := S.length, d := [] } a0 := ⟨hVS, by rw [hVS], Later.refl _, hw, hf0, .nil _⟩
            have fin : ∀ e st, run E.T n F.body { t := args ++ List.replicate (F.nt - F.np) .junk, s := S, b := S.length, d := [] } = some (e, st) → e = .normal ∨ e = .ret → finishFn F st = some (v, S') →
                ∃ e w' fr, CPost E base V S' v e w' ∧ ComesIn (Machine.fenced E.P Fence.wide) E.P (lone (Frame.enter E.P g args' .normal) cs V.w) (lone fr cs w') e ∧ fr.fn = g ∧ fr.leaving E.P w' e := by
              intro e st hrun hee hfin
              have hwp := hR F.body _ e st hrun c none base V V a0 hbody (fun h => absurd rfl h) hg0 hw.below.size
              obtain ⟨e', a', w', ⟨rfl, μ', hg'⟩, harr⟩ := hwp b [] cs rfl trivial hroom
              obtain ⟨todo, hret⟩ : ∃ todo, StepsIn (Machine.fenced E.P Fence.wide) E.P (lone (Frame.enter E.P g args' .normal) cs V.w) (lone { b.atR a' todo with mode := .returning } cs w') := by
                rw [henter]
                rcases hee with rfl | rfl
                · exact ⟨_, StepsIn.trans harr (.one (fenced_wide _ _) (stepR_end rfl))⟩
                · exact harr.1 rfl
              unfold finishFn at hfin
              split at hfin
              · rename_i S2 hdef
                split at hfin
                · rename_i vs hvs
                  cases hfin
                  obtain ⟨w2, μ2, q1, q2, q3, q4⟩ := leave_sim (fr := { b.atR a' todo with mode := .returning }) (cs := cs) rfl hw.below.size hg'.d hdef hg'.l hg'.w hg'.f
                  obtain ⟨v', r1, r2⟩ := results_sim q3 q4 hres hvs
                  exact ⟨.returned v', w2, _, ⟨μ2, q2, q3, r2⟩, StepsIn.trans hret q1, rfl, rfl, rfl, rfl, fn, hfn, r1⟩
                · cases hfin
              · cases hfin
            split at he
            · rename_i st hrun; exact fin .normal st hrun (.inl rfl) he
            · rename_i st hrun; exact fin .ret st hrun (.inr rfl) he
            · cases he
        · cases he
      · cases hbody
    · cases he
  | y l =>
    show Rounded _ _ _ _ _
    simp only [ecall] at he
    split at he
    · rename_i fr params assign body hS
      split at he
      · cases he
      · rename_i hcalm
        simp only [Bool.not_eq_true', Bool.not_eq_false, Bool.and_eq_true] at hcalm
        rw [← hVS] at hS
        obtain ⟨L, o1, o2, o3, o4, o5, o6, o7, o8⟩ := hw.obj l _ hS
        split at he
        · rename_i fr' hset
          obtain ⟨hlen, hfr'⟩ := setParams_sim (args' := args'.toList) hset ⟨o7, o8⟩ (by simpa using hA.size) (fun i x hi => by rw [arr_getD]; exact hA.get i x hi)
          refine ⟨L.fn, (L.params.zip args').foldl (fun tmps (t, a) => tmps.setIfInBounds t a) L.tmps, L.assign, L.body, ?_, ?_⟩
          · have hsz : args'.size = L.params.size := by rw [hA.size, hlen, ← o4, Array.length_toList]
            simp [Instr.yield, Instr.getLoop, getObj, Sem.run, o1, hsz, Result.andThen]
          · refine roundIn_of_wpIn (F := Fence.wide) trivial ?_
            have hf1 : FRel E V fr' ((L.params.zip args').foldl (fun tmps (t, a) => tmps.setIfInBounds t a) L.tmps) := by
              rw [← Array.foldl_toList, Array.toList_zip, o4]; exact hfr'
            have hg0 : Good E base V V { t := fr', s := S, b := S.length, d := [] } { tmps := (L.params.zip args').foldl (fun tmps (t, a) => tmps.setIfInBounds t a) L.tmps, defers := [] } :=
              ⟨hVS, by rw [hVS], Later.refl _, hw, hf1, .nil _⟩
            split at he
            · rename_i st hrun
              refine wpIn_mono (hR assign _ .normal st hrun L.assign (some (V.μ l).blk) base V V _ o5 (fun _ => hcalm.1) hg0 hw.below.size) fun e1 a1 w1 ⟨he1, μ1, hg1⟩ => ?_
              subst he1
              split at he
              · rename_i fr1 ps1 as1 bo1 pe1 hS1
                split at he
                · rename_i e st' hrun2
                  have hO1 := hg1.w.obj l _ (by rw [hg1.s]; exact hS1)
                  obtain ⟨L1, p1, p2, p3, p4, p5, p6, p7, p8⟩ := hO1
                  have hμ1 : μ1 l = V.μ l := (hg1.l.loop l _ _ _ _ _ _ (by rw [bound_of hS]; simp [boundO]) hS1).2
                  have p1' : w1.heap[(V.μ l).blk]? = some (.loop L1) := by rw [← hμ1]; exact p1
                  have hstate : L1.state = .ready := by cases h : L1.state <;> simp_all [stNum]
                  obtain ⟨A1, B1⟩ := loopset_sim (s' := 1) (pe' := pe1) (stt := .busy) (pp := L1.pending) hg1.w hS1 p1 rfl p3
                  refine ⟨setB w1 (V.μ l).blk (.loop { L1 with state := .busy }), ?_, ?_⟩
                  · simp [Instr.beginRound, Instr.getLoop, getObj, setObj, Sem.run, p1', hstate, setB, Result.andThen]
                  · simp only [hμ1] at A1 B1
                    have hg2 : Good E base V { w := setB w1 (V.μ l).blk (.loop { L1 with state := .busy }), μ := μ1, S := st.s.set l (.loop fr1 ps1 as1 bo1 1 pe1), X := V.X } { st with s := st.s.set l (.loop fr1 ps1 as1 bo1 1 pe1) } a1 :=
                      ⟨rfl, hg1.b, hg1.l.trans A1, B1, hg1.f.later A1, (hg1.d.later A1).up A1.size⟩
                    refine wpIn_mono (hR body _ e st' hrun2 L.body (some (V.μ l).blk) base V _ a1 o6 (fun _ => hcalm.2) hg2 hw.below.size) fun e3 a3 w3 ⟨he3, μ3, hg3⟩ => ?_
                    subst he3
                    split at he
                    · rename_i fr2 ps2 as2 bo2 s2 pe2 hS3
                      obtain ⟨L3, q1, _⟩ := hg3.w.obj l _ (by rw [hg3.s]; exact hS3)
                      have hμ3 : μ3 l = V.μ l := (hg3.l.loop l _ _ _ _ _ _ (by rw [bound_of hS]; simp [boundO]) hS3).2
                      have q1' : w3.heap[(V.μ l).blk]? = some (.loop L3) := by rw [← hμ3]; exact q1
                      have fin : ∀ (j : Option Code) (stt : LoopState) (s' : Nat) (pe' : Option Ex), stt = (if j.isNone then .ready else .done) → stNum stt = s' → j = exCode pe' → v = .bool j.isNone → S' = st'.s.set l (.loop fr2 ps2 as2 bo2 s' pe') →
                          ∃ v' w', (Instr.endRound (V.μ l).blk j).run E.P w3 = .ok v' w' ∧ CPost E base V S' v (.returned v') w' := by
                        intro j stt s' pe' h1 h2 h3 h4 h5
                        obtain ⟨A3, B3⟩ := loopset_sim (s' := s') (pe' := pe') (stt := stt) (pp := j) hg3.w hS3 q1 h2 h3
                        simp only [hμ3] at A3 B3
                        refine ⟨.bool j.isNone, setB w3 (V.μ l).blk (.loop { L3 with state := stt, pending := j }), ?_, μ3, ?_, ?_, ?_⟩
                        · simp [Instr.endRound, Instr.getLoop, getObj, setObj, Sem.run, q1', h1, setB, Result.andThen]
                        · rw [h5]; exact hg3.l.trans A3
                        · rw [h5]; exact B3
                        · rw [h4]; exact .bool _
                      cases e with
                      | normal => cases he; exact fin none .ready 0 none rfl rfl rfl rfl rfl
                      | exit id => cases he; exact fin (some (.exit id)) .done 2 (some (.exit id)) rfl rfl rfl rfl rfl
                      | ret => cases he; exact fin (some .ret) .done 2 (some .ret) rfl rfl rfl rfl rfl
                    · cases he
                · cases he
              · cases he
            · cases he
        · cases he
    · cases he

theorem sim_all (hF : Fits E) (hD : DrawOk E) : ∀ n, CallOk E n ∧ RunOk E n ∧ LoopOk E n
  | 0 => ⟨fun f args S v S' h => by simp [ecall] at h, fun c st e st' h => by simp [run] at h, fun c st e st' h => by simp [run] at h⟩
  | n + 1 => let ⟨h1, h2, h3⟩ := sim_all hF hD n; ⟨call_step hF h2, run_step hF hD h1 h2 h3, loop_step h2 h3⟩

end
end Go.Proofs.YtleommjdeejmkaaGreatDoor.Zq
