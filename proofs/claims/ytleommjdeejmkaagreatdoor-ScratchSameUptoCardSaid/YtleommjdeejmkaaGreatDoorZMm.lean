/-
  Running code of the abstract machine step by step, by rules that fire only where values are known.
  Conditions: none; definitions and lemmas.
-/
import Derived.Test.YtleommjdeejmkaaGreatDoorZMl
import Derived.IntWalk
set_option linter.all false

namespace Go.Proofs.YtleommjdeejmkaaGreatDoor.Zq
open Go

def bindO {α : Type} (o : Option α) (k : α → Prop) : Prop := match o with
  | some s => k s
  | none => False
@[simp low] theorem bindO_some {α : Type} (s : α) (k : α → Prop) : bindO (some s) k = k s := rfl
@[simp] theorem bindO_none {α : Type} (k : α → Prop) : bindO none k = False := rfl

def condB (o : Option AV) (p q : Prop) : Prop := match o with
  | some (.bool true) => p
  | some (.bool false) => q
  | _ => False
/-- By a guard: its value, what is wanted, what comes then, what comes else. -/
def guardB (o : Option AV) (w : Bool) (p q : Prop) : Prop := match o with
  | some (.bool b) => if b = w then p else q
  | some (.tup []) => q
  | _ => False
/-- What a call comes to. -/
def callV (c : Caller) (f : AV) (as : List AV) (S : List AObj) : Option (AV × List AObj) := match f with
  | .fn f first caps => c f (first ++ as ++ caps) S
  | _ => none
@[simp] theorem callV_fn (c : Caller) (f : Afn) (first caps as : List AV) (S : List AObj) : callV c (.fn f first caps) as S = c f (first ++ as ++ caps) S := rfl

/-! What comes later, not looked into yet -/
def WOz (c : Caller) (os : List IOper) (K : St → Prop) (st : St) : Prop := WO c os K st
def WDz (c : Caller) (r : Nat) (os : List IOper) (K : St → Prop) (st : St) : Prop := WD c r os K st
def Wz (T : Nat → Option IFn) (c : ICode) (Q : Ex → St → Prop) (st : St) : Prop := W T c Q st
def Kz (K : St → Prop) (st : St) : Prop := K st

section
variable {c : Caller} {K : St → Prop} {os os' : List IOper} {st st' : St} {r r' : Nat} {T : Nat → Option IFn} {a a' : ICode} {Q : Ex → St → Prop} {p q : Prop} {e w : Bool} {α : Type} {x : α} {g : α → St} {f : α → Nat}
@[simp high] theorem bindO_WO : bindO (some x) (fun v => WOz c os K (g v)) = WO c os K (g x) := rfl
@[simp high] theorem bindO_WD : bindO (some x) (fun v => WDz c r os K (g v)) = WD c r os K (g x) := rfl
@[simp high] theorem bindO_K : bindO (some x) (fun v => Kz K (g v)) = K (g x) := rfl
@[simp high] theorem bindO_K' {st : St} : bindO (some st) (Kz K) = K st := rfl
@[simp] theorem condB_true : condB (some (.bool true)) (Wz T a Q st) q = W T a Q st := rfl
@[simp] theorem condB_false : condB (some (.bool false)) p (Wz T a Q st) = W T a Q st := rfl
theorem condB_intro (h1 : e = true → W T a Q st) (h2 : e = false → W T a' Q st) : condB (some (.bool e)) (Wz T a Q st) (Wz T a' Q st) := by
  cases e
  · exact h2 rfl
  · exact h1 rfl
@[simp] theorem guardO_tt : guardB (some (.bool true)) true (WOz c os K st) q = WO c os K st := rfl
@[simp] theorem guardO_ff : guardB (some (.bool false)) false (WOz c os K st) q = WO c os K st := rfl
@[simp] theorem guardO_tf : guardB (some (.bool true)) false p (WOz c os K st) = WO c os K st := rfl
@[simp] theorem guardO_ft : guardB (some (.bool false)) true p (WOz c os K st) = WO c os K st := rfl
@[simp] theorem guardO_no : guardB (some (.tup [])) w p (WOz c os K st) = WO c os K st := rfl
@[simp] theorem guardD_tt : guardB (some (.bool true)) true (WDz c r os K st) q = WD c r os K st := rfl
@[simp] theorem guardD_ff : guardB (some (.bool false)) false (WDz c r os K st) q = WD c r os K st := rfl
@[simp] theorem guardD_tf : guardB (some (.bool true)) false p (WDz c r os K st) = WD c r os K st := rfl
@[simp] theorem guardD_ft : guardB (some (.bool false)) true p (WDz c r os K st) = WD c r os K st := rfl
@[simp] theorem guardD_no : guardB (some (.tup [])) w p (WDz c r os K st) = WD c r os K st := rfl
theorem guardO_intro (h1 : e = w → WO c os K st) (h2 : e = !w → WO c os' K st') : guardB (some (.bool e)) w (WOz c os K st) (WOz c os' K st') := by
  cases e <;> cases w <;> first | exact h1 rfl | exact h2 rfl
theorem guardD_intro (h1 : e = w → WD c r os K st) (h2 : e = !w → WD c r' os' K st') : guardB (some (.bool e)) w (WDz c r os K st) (WDz c r' os' K st') := by
  cases e <;> cases w <;> first | exact h1 rfl | exact h2 rfl
end

section
variable {c : Caller} {K : St → Prop} {os : List IOper} {t : List AV} {s : List AObj} {b r : Nat} {df : List ADef} {d : Option Nat}

/-- Operations on temporaries alone. -/
@[reducible] def isPop : IOp → Bool
  | .mv .. | .pick .. | .bin .. | .beq .. | .aeq .. | .nileq .. | .un .. | .conv .. | .build .. | .bsl .. | .boxv .. | .loadv .. | .fa .. | .fld .. | .ia .. | .iaa .. | .ixs .. | .ixa .. | .sls .. | .slv .. | .len .. | .min2 .. | .max2 .. | .capz .. | .ext .. | .nchk .. | .mkfn .. | .mkif .. => true
  | _ => false
@[reducible] def isRop : IOp → Bool
  | .load .. | .lenm .. | .b2s .. | .look .. => true
  | _ => false
@[reducible] def isSop : IOp → Bool
  | .boxr .. | .alloc .. | .mkmap | .s2b .. | .bsm .. | .mksl .. | .store .. | .app .. | .appn .. | .mset .. | .mdel .. | .srange .. | .snext .. => true
  | _ => false

theorem one_pop {o : IOp} {ph : Option Nat} {st : St} (h : isPop o = true) : oneOp c ph st o = (pop st.t o).map fun v => (v, st.s, st.d) := by
  cases o <;> first | (cases h; done) | (simp only [oneOp, sop, rop]; cases pop st.t _ <;> rfl)
theorem one_rop {o : IOp} {ph : Option Nat} {st : St} (h : isRop o = true) : oneOp c ph st o = (rop st.t st.s o).map fun v => (v, st.s, st.d) := by
  cases o <;> first | (cases h; done) | (simp only [oneOp, sop]; cases rop st.t st.s _ <;> rfl)
theorem one_sop {o : IOp} {ph : Option Nat} {st : St} (h : isSop o = true) : oneOp c ph st o = (sop ph st.t st.s o).map fun v => (v.1, v.2, st.d) := by
  cases o <;> first | (cases h; done) | (simp only [oneOp]; cases sop ph st.t st.s _ <;> rfl)

theorem step_map {α : Type} {o : IOp} {ph : Option Nat} {st : St} {x : Option α} {f : α → AV × List AObj × List ADef} (h : oneOp c ph st o = x.map f) :
    stepOp c ph ⟨d, o, none⟩ st = x.map fun v => { st with t := putT st.t d (f v).1, s := (f v).2.1, d := (f v).2.2 } := by
  simp only [stepOp, wantOp, h]
  cases x <;> rfl

theorem WO_of {α : Type} {o : IOp} {x : Option α} {f : α → AV × List AObj × List ADef} (h : oneOp c none ⟨t, s, b, df⟩ o = x.map f) :
    WO c (⟨d, o, none⟩ :: os) K ⟨t, s, b, df⟩ = bindO x fun v => WOz c os K ⟨putT t d (f v).1, (f v).2.1, b, (f v).2.2⟩ := by
  rw [WO, step_map h]; cases x <;> rfl

@[simp] theorem WO_nil {st : St} : WO c [] K st = K st := rfl
@[simp] theorem WO_pop {o : IOp} (h : isPop o = true) : WO c (⟨d, o, none⟩ :: os) K ⟨t, s, b, df⟩ = bindO (pop t o) fun v => WOz c os K ⟨putT t d v, s, b, df⟩ := WO_of (one_pop h)
@[simp] theorem WO_rop {o : IOp} (h : isRop o = true) : WO c (⟨d, o, none⟩ :: os) K ⟨t, s, b, df⟩ = bindO (rop t s o) fun v => WOz c os K ⟨putT t d v, s, b, df⟩ := WO_of (one_rop h)
@[simp] theorem WO_sop {o : IOp} (h : isSop o = true) : WO c (⟨d, o, none⟩ :: os) K ⟨t, s, b, df⟩ = bindO (sop none t s o) fun v => WOz c os K ⟨putT t d v.1, v.2, b, df⟩ := WO_of (one_sop h)
@[simp] theorem WO_call {f : Opd} {as : List Opd} : WO c (⟨d, .call f as, none⟩ :: os) K ⟨t, s, b, df⟩ = bindO (opd t f) fun fv => bindO (opds t as) fun av => bindO (callV c fv av s) fun v => WOz c os K ⟨putT t d v.1, v.2, b, df⟩ := by
  rw [WO]
  simp only [stepOp, wantOp, oneOp]
  cases opd t f with
  | none => rfl
  | some fv =>
    cases opds t as with
    | none => cases fv <;> rfl
    | some av =>
      cases fv <;> try rfl
      simp only [bindO_some, callV_fn]
      rename_i f first caps
      cases c f (first ++ av ++ caps) s <;> rfl
@[simp] theorem WO_pcall {f : Opd} {as : List Opd} : WO c (⟨d, .pcall f as, none⟩ :: os) K ⟨t, s, b, df⟩ = bindO (opd t f) fun fv => bindO (opds t as) fun av => bindO (pureCall c fv av) fun v => WOz c os K ⟨putT t d v, s, b, df⟩ := by
  rw [WO]
  simp only [stepOp, wantOp, oneOp]
  cases opd t f with
  | none => rfl
  | some fv =>
    cases opds t as with
    | none => rfl
    | some av =>
      simp only [bindO_some]
      cases pureCall c fv av <;> rfl
@[simp] theorem WO_scall {f : Opd} {as : List Opd} : WO c (⟨d, .scall f as, none⟩ :: os) K ⟨t, s, b, df⟩ = bindO (opd t f) fun fv => bindO (opds t as) fun av => bindO (snapCall c s fv av) fun v => WOz c os K ⟨putT t d v, s, b, df⟩ := by
  rw [WO]
  simp only [stepOp, wantOp, oneOp]
  cases opd t f with
  | none => rfl
  | some fv =>
    cases opds t as with
    | none => rfl
    | some av =>
      simp only [bindO_some]
      cases snapCall c s fv av <;> rfl
@[simp] theorem WO_defdel {ag : Bool} {ks : List Nat} {m k : Opd} : WO c (⟨d, .defdel ag ks m k, none⟩ :: os) K ⟨t, s, b, df⟩ = bindO (opd t m) fun mv => bindO (opd t k) fun kv => WOz c os K ⟨putT t d (.tup []), s, b, .del ag ks mv kv :: df⟩ := by
  rw [WO]
  simp only [stepOp, wantOp, oneOp]
  cases opd t m <;> cases opd t k <;> rfl
@[simp] theorem WO_guard {o : IOp} {j : Nat} {w : Bool} : WO c (⟨d, o, some (j, w)⟩ :: os) K ⟨t, s, b, df⟩ = guardB t[j]? w (WOz c (⟨d, o, none⟩ :: os) K ⟨t, s, b, df⟩) (WOz c os K ⟨putT t d (.tup []), s, b, df⟩) := by
  simp only [WO, stepOp, wantOp]
  cases h : t[j]? with
  | none => rfl
  | some v =>
    cases v with
    | bool e => cases e <;> cases w <;> rfl
    | tup vs => cases vs <;> rfl
    | _ => rfl

/-! Regions that draw their order -/

theorem WD_eq {o : IOper} (h : isA o.op = false) {st : St} : WD c r (o :: os) K st = match stepOp c none o st with
    | some s => WD c r os K s
    | none => False := by simp only [WD, h, Bool.false_eq_true, if_false]; rfl

theorem WD_of {α : Type} {o : IOp} {x : Option α} {f : α → AV × List AObj × List ADef} (hA : isA o = false) (h : oneOp c none ⟨t, s, b, df⟩ o = x.map f) :
    WD c r (⟨d, o, none⟩ :: os) K ⟨t, s, b, df⟩ = bindO x fun v => WDz c r os K ⟨putT t d (f v).1, (f v).2.1, b, (f v).2.2⟩ := by
  rw [WD_eq hA, step_map h]; cases x <;> rfl

@[simp] theorem WD_nil {st : St} : WD c r [] K st = K st := rfl
@[simp] theorem WD_pop {o : IOp} (h : isPop o = true) : WD c r (⟨d, o, none⟩ :: os) K ⟨t, s, b, df⟩ = bindO (pop t o) fun v => WDz c r os K ⟨putT t d v, s, b, df⟩ := WD_of (by cases o <;> first | rfl | cases h) (one_pop h)
@[simp] theorem WD_rop {o : IOp} (h : isRop o = true) : WD c r (⟨d, o, none⟩ :: os) K ⟨t, s, b, df⟩ = bindO (rop t s o) fun v => WDz c r os K ⟨putT t d v, s, b, df⟩ := WD_of (by cases o <;> first | rfl | cases h) (one_rop h)
@[simp] theorem WD_sop {o : IOp} (h : isSop o = true) (hA : isA o = false) : WD c r (⟨d, o, none⟩ :: os) K ⟨t, s, b, df⟩ = bindO (sop none t s o) fun v => WDz c r os K ⟨putT t d v.1, v.2, b, df⟩ := WD_of hA (one_sop h)
@[simp] theorem WD_new {o : IOp} (h : isSop o = true) (hA : isA o = true) : WD c r (⟨d, o, none⟩ :: os) K ⟨t, s, b, df⟩ = bindO (sop (some r) t s o) fun v => WDz c (r + 1) os K ⟨putT t d v.1, v.2, b, df⟩ := by
  simp only [WD, hA, if_true]
  rw [step_map (one_sop h)]
  cases sop (some r) t s o <;> rfl
@[simp] theorem WD_call {f : Opd} {as : List Opd} : WD c r (⟨d, .call f as, none⟩ :: os) K ⟨t, s, b, df⟩ = bindO (opd t f) fun fv => bindO (opds t as) fun av => bindO (callV c fv av s) fun v => WDz c r os K ⟨putT t d v.1, v.2, b, df⟩ := by
  rw [WD_eq rfl]
  simp only [stepOp, wantOp, oneOp]
  cases opd t f with
  | none => rfl
  | some fv =>
    cases opds t as with
    | none => cases fv <;> rfl
    | some av =>
      cases fv <;> try rfl
      simp only [bindO_some, callV_fn]
      rename_i f first caps
      cases c f (first ++ av ++ caps) s <;> rfl
@[simp] theorem WD_pcall {f : Opd} {as : List Opd} : WD c r (⟨d, .pcall f as, none⟩ :: os) K ⟨t, s, b, df⟩ = bindO (opd t f) fun fv => bindO (opds t as) fun av => bindO (pureCall c fv av) fun v => WDz c r os K ⟨putT t d v, s, b, df⟩ := by
  rw [WD_eq rfl]
  simp only [stepOp, wantOp, oneOp]
  cases opd t f with
  | none => rfl
  | some fv =>
    cases opds t as with
    | none => rfl
    | some av =>
      simp only [bindO_some]
      cases pureCall c fv av <;> rfl
@[simp] theorem WD_scall {f : Opd} {as : List Opd} : WD c r (⟨d, .scall f as, none⟩ :: os) K ⟨t, s, b, df⟩ = bindO (opd t f) fun fv => bindO (opds t as) fun av => bindO (snapCall c s fv av) fun v => WDz c r os K ⟨putT t d v, s, b, df⟩ := by
  rw [WD_eq rfl]
  simp only [stepOp, wantOp, oneOp]
  cases opd t f with
  | none => rfl
  | some fv =>
    cases opds t as with
    | none => rfl
    | some av =>
      simp only [bindO_some]
      cases snapCall c s fv av <;> rfl
@[simp] theorem WD_guard {o : IOp} {j : Nat} {w : Bool} (hA : isA o = false) : WD c r (⟨d, o, some (j, w)⟩ :: os) K ⟨t, s, b, df⟩ = guardB t[j]? w (WDz c r (⟨d, o, none⟩ :: os) K ⟨t, s, b, df⟩) (WDz c r os K ⟨putT t d (.tup []), s, b, df⟩) := by
  unfold WDz
  rw [WD_eq hA, WD_eq hA]
  simp only [stepOp, wantOp]
  cases h : t[j]? with
  | none => rfl
  | some v =>
    cases v with
    | bool e => cases e <;> cases w <;> rfl
    | tup vs => cases vs <;> rfl
    | _ => rfl

/-! Code -/

theorem WO_mono {K' : St → Prop} (h : ∀ s, K s → K' s) : ∀ {os : List IOper} {st : St}, WO c os K st → WO c os K' st
  | [], st, hw => h st hw
  | o :: os, st, hw => by
    simp only [WO] at hw ⊢
    split
    · rename_i s1 hs; rw [hs] at hw; exact WO_mono h hw
    · rename_i hs; rw [hs] at hw; exact hw
theorem WD_mono {K' : St → Prop} (h : ∀ s, K s → K' s) : ∀ {os : List IOper} {r : Nat} {st : St}, WD c r os K st → WD c r os K' st
  | [], r, st, hw => h st hw
  | o :: os, r, st, hw => by
    simp only [WD] at hw ⊢
    split
    · rename_i s1 hs; rw [hs] at hw; exact WD_mono h hw
    · rename_i hs; rw [hs] at hw; exact hw
theorem W_mono {T : Nat → Option IFn} : ∀ {c : ICode} {Q Q' : Ex → St → Prop} {st : St}, W T c Q st → (∀ e s, Q e s → Q' e s) → W T c Q' st
  | .skip, Q, Q', st, h, hq => hq _ _ h
  | .never, _, _, _, h, _ => h.elim
  | .reg false ops, Q, Q', st, h, hq => WO_mono (fun s => hq .normal s) h
  | .reg true ops, Q, Q', st, h, hq => WD_mono (fun s => hq .normal s) h
  | .seq a b, Q, Q', st, h, hq => W_mono (c := a) h (fun e s h => thenW_mono (fun s h => W_mono (c := b) h hq) hq e s h)
  | .cond x a b, Q, Q', st, h, hq => by
    simp only [W] at h ⊢
    split
    · rename_i hx; simp only [hx] at h; exact W_mono (c := a) h hq
    · rename_i hx; simp only [hx] at h; exact W_mono (c := b) h hq
    · rename_i hx hy
      split at h
      · rename_i hz; exact absurd hz hx
      · rename_i hz; exact absurd hz hy
      · exact h
  | .blk id c, Q, Q', st, h, hq => W_mono (c := c) h (fun e s h => by
      cases e with
      | normal => exact hq _ _ h
      | ret => exact hq _ _ h
      | exit i => simp only [inBlk] at h ⊢; split <;> rename_i hi <;> simp only [hi, if_true, if_false] at h <;> exact hq _ _ h)
  | .loop c, Q, Q', st, h, hq => let ⟨e, s, h1, h2⟩ := h; ⟨e, s, h1, hq e s h2⟩
  | .exit id, Q, Q', st, h, hq => hq _ _ h
  | .ret, Q, Q', st, h, hq => hq _ _ h
  | .scope c, Q, Q', st, h, hq => W_mono (c := c) h hq
  | .gh g, Q, Q', st, h, hq => by
    simp only [W] at h ⊢
    split
    · rename_i hx; simp only [hx] at h; exact hq _ _ h
    · rename_i hx; simp only [hx] at h
  | .rf f ps as bo, Q, Q', st, h, hq => let ⟨e, s, h1, h2⟩ := h; ⟨e, s, h1, hq e s h2⟩

section
variable {T : Nat → Option IFn} {Q : Ex → St → Prop} {a e : ICode} {st : St}
@[simp] theorem W_skip : W T .skip Q st = Q .normal st := rfl
@[simp] theorem W_reg {os : List IOper} : W T (.reg false os) Q st = WO (CC T) os (Q .normal) st := rfl
@[simp] theorem W_draw {os : List IOper} : W T (.reg true os) Q ⟨t, s, b, df⟩ = WD (CC T) s.length os (Q .normal) ⟨t, s ++ List.replicate (countA os) (.dead 0), b, df⟩ := rfl
@[simp] theorem W_seq : W T (.seq a e) Q st = W T a (thenW (W T e Q) Q) st := rfl
@[simp] theorem W_cond {x : Opd} : W T (.cond x a e) Q st = condB (opd st.t x) (Wz T a Q st) (Wz T e Q st) := by
  simp only [W]
  cases opd st.t x with
  | none => rfl
  | some v => cases v with
    | bool b => cases b <;> rfl
    | _ => rfl
@[simp] theorem W_blk {id : Nat} : W T (.blk id a) Q st = W T a (inBlk id Q) st := rfl
@[simp] theorem W_loop_is : W T (.loop a) Q st = Does T (.loop a) Q st := rfl
@[simp] theorem W_exit {id : Nat} : W T (.exit id) Q st = Q (.exit id) st := rfl
@[simp] theorem W_ret : W T .ret Q st = Q .ret st := rfl
@[simp] theorem W_scope : W T (.scope a) Q st = W T a Q st := rfl
@[simp] theorem W_clr {m : Nat} : W T (.gh (.clr m)) Q ⟨t, s, b, df⟩ = Q .normal ⟨clrT t m, s, b, df⟩ := rfl
@[simp] theorem ghost_clr {m : Nat} : ghost (.clr m) ⟨t, s, b, df⟩ = some ⟨clrT t m, s, b, df⟩ := rfl
def setF (i : Nat) (t : List AV) (b : Nat) (df : List ADef) (u : Option AV) (S : List AObj) : Option St := match u with
  | some u => some ⟨t.set i u, S, b, df⟩
  | none => none
@[simp] theorem setF_s {i : Nat} {u : AV} {S : List AObj} : setF i t b df (some u) S = some ⟨t.set i u, S, b, df⟩ := rfl
def frzG (i : Nat) (t : List AV) (s : List AObj) (b : Nat) (df : List ADef) (v : Option AV) : Option St := match v with
  | some v => setF i t b df (frzW s v) (match v with
          | .ref r _ _ _ => killAt s r
          | .msl r _ _ _ _ => killAt s r
          | _ => s)
  | none => none
@[simp] theorem ghost_frz {i : Nat} : ghost (.frz i) ⟨t, s, b, df⟩ = frzG i t s b df t[i]? := by
  simp only [ghost, frzG]
  cases t[i]? with
  | none => rfl
  | some v => simp only [setF]; cases frzW s v <;> rfl
@[simp] theorem frzG_r {i q v k o : Nat} : frzG i t s b df (some (.ref q v k o)) = setF i t b df (frzW s (.ref q v k o)) (killAt s q) := rfl
@[simp] theorem frzG_m {i q v z o n : Nat} : frzG i t s b df (some (.msl q v z o n)) = setF i t b df (frzW s (.msl q v z o n)) (killAt s q) := rfl
@[simp] theorem W_gh {g : Ghost} : W T (.gh g) Q st = bindO (ghost g st) (Kz (Q .normal)) := by
  simp only [W]; cases ghost g st <;> rfl
@[simp] theorem W_rf {f : Opd} {ps : List Nat} : W T (.rf f ps a e) Q st = Does T (.rf f ps a e) Q st := rfl
@[simp] theorem thenW_n {K : St → Prop} : thenW K Q .normal st = K st := rfl
@[simp] theorem thenW_e {K : St → Prop} {i : Nat} : thenW K Q (.exit i) st = Q (.exit i) st := rfl
@[simp] theorem thenW_r {K : St → Prop} : thenW K Q .ret st = Q .ret st := rfl
@[simp] theorem inBlk_n {i : Nat} : inBlk i Q .normal st = Q .normal st := rfl
@[simp] theorem inBlk_r {i : Nat} : inBlk i Q .ret st = Q .ret st := rfl
@[simp] theorem inBlk_e {i j : Nat} : inBlk i Q (.exit j) st = if j = i then Q .normal st else Q (.exit j) st := rfl
end

/-! Values -/

@[simp] theorem opd_t {n : Nat} : opd t (.t n) = t[n]? := rfl
@[simp] theorem opd_c {v : AV} : opd t (.c v) = some v := rfl
def consO : Option AV → Option (List AV) → Option (List AV)
  | some v, some vs => some (v :: vs)
  | _, _ => none
@[simp] theorem consO_some {v : AV} {vs : List AV} : consO (some v) (some vs) = some (v :: vs) := rfl
@[simp] theorem opds_nil : opds t [] = some [] := rfl
@[simp] theorem opds_cons {x : Opd} {xs : List Opd} : opds t (x :: xs) = consO (opd t x) (opds t xs) := rfl
@[simp] theorem oopd_none : oopd t none = some none := rfl
@[simp] theorem oopd_some {x : Opd} : oopd t (some x) = (opd t x).map some := rfl
@[simp] theorem putT_some {d : Nat} {v : AV} : putT t (some d) v = t.set d v := rfl
@[simp] theorem putT_none {v : AV} : putT t none v = t := rfl
@[simp] theorem clrT_nil {m : Nat} : clrT [] m = [] := rfl
@[simp] theorem clrT_cons {m : Nat} {v : AV} {t : List AV} : clrT (v :: t) m = (if Nat.beq (m % 2) 1 then v else .junk) :: clrT t (m / 2) := rfl

def op2 (f : AV → AV → Option AV) : Option AV → Option AV → Option AV
  | some a, some b => f a b
  | _, _ => none
@[simp] theorem op2_some {f : AV → AV → Option AV} {a b : AV} : op2 f (some a) (some b) = f a b := rfl
def op1 (f : AV → Option AV) : Option AV → Option AV
  | some a => f a
  | none => none
@[simp] theorem op1_some {f : AV → Option AV} {a : AV} : op1 f (some a) = f a := rfl
def pickO : Option AV → Option AV → Option AV → Option AV
  | some (.bool t), some x, some y => some (if t then x else y)
  | _, _, _ => none
@[simp] theorem pickO_some {e : Bool} {x y : AV} : pickO (some (.bool e)) (some x) (some y) = some (if e then x else y) := rfl

@[simp] theorem pop_mv {x : Opd} : pop t (.mv x) = opd t x := rfl
@[simp] theorem pop_pick {x y z : Opd} : pop t (.pick x y z) = pickO (opd t x) (opd t y) (opd t z) := rfl
@[simp] theorem pop_bin {o : BinOp} {x y : Opd} : pop t (.bin o x y) = op2 (abin o) (opd t x) (opd t y) := by simp only [pop]; cases opd t x <;> cases opd t y <;> rfl
def beqV (neg : Bool) : AV → AV → Option AV
  | .bool a, .bool b => some (.bool (if neg then !(a == b) else a == b))
  | _, _ => none
@[simp] theorem beqV_b {neg a b : Bool} : beqV neg (.bool a) (.bool b) = some (.bool (if neg then !(a == b) else a == b)) := rfl
@[simp] theorem pop_beq {neg : Bool} {x y : Opd} : pop t (.beq neg x y) = op2 (beqV neg) (opd t x) (opd t y) := by
  simp only [pop]
  cases opd t x with
  | none => rfl
  | some a => cases opd t y with
    | none => cases a <;> rfl
    | some b => cases a <;> cases b <;> rfl
def aeqV (ks : List Nat) (neg : Bool) : AV → AV → Option AV
  | .agg a, .agg b => (keqK ks a b).map fun e => .bool (if neg then !e else e)
  | _, _ => none
@[simp] theorem aeqV_a {ks : List Nat} {neg : Bool} {a b : List AV} : aeqV ks neg (.agg a) (.agg b) = (keqK ks a b).map fun e => .bool (if neg then !e else e) := rfl
@[simp] theorem pop_aeq {ks : List Nat} {neg : Bool} {x y : Opd} : pop t (.aeq ks neg x y) = op2 (aeqV ks neg) (opd t x) (opd t y) := by
  simp only [pop]
  cases opd t x with
  | none => rfl
  | some a => cases opd t y with
    | none => cases a <;> rfl
    | some b =>
      cases a <;> cases b <;> try rfl
      rename_i a b
      simp only [op2_some, aeqV_a]
      cases keqK ks a b <;> rfl
def nilV (kd : Nat) (neg : Bool) (a : AV) : Option AV := (isNil kd a).map fun e => .bool (if neg then !e else e)
@[simp] theorem pop_nileq {kd : Nat} {neg : Bool} {x : Opd} : pop t (.nileq kd neg x) = op1 (nilV kd neg) (opd t x) := by
  simp only [pop]
  cases opd t x with
  | none => rfl
  | some a => simp only [op1_some, nilV]; cases isNil kd a <;> rfl
@[simp] theorem pop_un {o : UnOp} {x : Opd} : pop t (.un o x) = op1 (aun o) (opd t x) := rfl
def convV (k : IntKind) : AV → Option AV
  | .int _ n => some (.int k (k.wrap n))
  | _ => none
@[simp] theorem convV_i {k k' : IntKind} {n : Int} : convV k (.int k' n) = some (.int k (k.wrap n)) := rfl
@[simp] theorem pop_conv {k : IntKind} {x : Opd} : pop t (.conv k x) = op1 (convV k) (opd t x) := by
  simp only [pop]
  cases opd t x with
  | none => rfl
  | some a => cases a <;> rfl
def boxV (v : AV) : Option AV := v.cells?.map fun cs => .vptr cs 0
@[simp] theorem pop_boxv {x : Opd} : pop t (.boxv x) = op1 boxV (opd t x) := by
  simp only [pop]
  cases opd t x with
  | none => rfl
  | some a => simp only [op1_some, boxV]; cases a.cells? <;> rfl
def loadvV (agg : Bool) (n : Nat) : AV → Option AV
  | .vptr row off => (span row off n).bind (asVal agg)
  | _ => none
@[simp] theorem loadvV_v {agg : Bool} {n off : Nat} {row : List AV} : loadvV agg n (.vptr row off) = (span row off n).bind (asVal agg) := rfl
@[simp] theorem pop_loadv {agg : Bool} {n : Nat} {x : Opd} : pop t (.loadv agg n x) = op1 (loadvV agg n) (opd t x) := by
  simp only [pop]
  cases opd t x with
  | none => rfl
  | some a => cases a <;> try rfl
              rename_i row off
              simp only [op1_some, loadvV_v]; cases span row off n <;> rfl
@[simp] theorem pop_fa {x : Opd} {off : Nat} : pop t (.fa x off) = op1 (fieldA · off) (opd t x) := by
  simp only [pop]; cases opd t x <;> rfl
def fldV (off n : Nat) (agg : Bool) : AV → Option AV
  | .agg cs => (span cs off n).bind (asVal agg)
  | _ => none
@[simp] theorem fldV_a {agg : Bool} {n off : Nat} {cs : List AV} : fldV off n agg (.agg cs) = (span cs off n).bind (asVal agg) := rfl
@[simp] theorem pop_fld {x : Opd} {off n : Nat} {agg : Bool} : pop t (.fld x off n agg) = op1 (fldV off n agg) (opd t x) := by
  simp only [pop]
  cases opd t x with
  | none => rfl
  | some a => cases a <;> try rfl
              rename_i row
              simp only [op1_some, fldV_a]; cases span row off n <;> rfl
@[simp] theorem pop_ia {z : Nat} {x y : Opd} : pop t (.ia z x y) = op2 (indexA z) (opd t x) (opd t y) := by simp only [pop]; cases opd t x <;> cases opd t y <;> rfl
def lenV : AV → Option AV
  | .zsl _ => some (.int .i64 0)
  | .sl _ rows => some (.int .i64 rows.length)
  | .msl _ _ _ _ n => some (.int .i64 n)
  | _ => none
@[simp] theorem lenV_z {b : Bool} : lenV (.zsl b) = some (.int .i64 0) := rfl
@[simp] theorem lenV_s {z : Nat} {rows : List (List AV)} : lenV (.sl z rows) = some (.int .i64 rows.length) := rfl
@[simp] theorem lenV_m {q ver z off n : Nat} : lenV (.msl q ver z off n) = some (.int .i64 n) := rfl
@[simp] theorem pop_len {x : Opd} : pop t (.len false x) = op1 lenV (opd t x) := by
  simp only [pop]
  cases opd t x with
  | none => rfl
  | some a => cases a <;> rfl
def lenS : AV → Option AV
  | .str s => some (.int .i64 s.length)
  | _ => none
@[simp] theorem lenS_s {s : List UInt8} : lenS (.str s) = some (.int .i64 s.length) := rfl
@[simp] theorem pop_lenS {x : Opd} : pop t (.len true x) = op1 lenS (opd t x) := by
  simp only [pop]
  cases opd t x with
  | none => rfl
  | some a => cases a <;> rfl
def min2V : AV → AV → Option AV
  | .int k a, .int k' b => if k = k' then some (.int k (if b < a then b else a)) else none
  | _, _ => none
@[simp] theorem min2V_i {k : IntKind} {a b : Int} : min2V (.int k a) (.int k b) = some (.int k (if b < a then b else a)) := by simp [min2V]
@[simp] theorem pop_min2 {x y : Opd} : pop t (.min2 x y) = op2 min2V (opd t x) (opd t y) := by
  simp only [pop]
  cases opd t x with
  | none => rfl
  | some a => cases opd t y with
    | none => cases a <;> rfl
    | some b => cases a <;> cases b <;> rfl
def max2V : AV → AV → Option AV
  | .int k a, .int k' b => if k = k' then some (.int k (if b > a then b else a)) else none
  | _, _ => none
@[simp] theorem max2V_i {k : IntKind} {a b : Int} : max2V (.int k a) (.int k b) = some (.int k (if b > a then b else a)) := by simp [max2V]
@[simp] theorem pop_max2 {x y : Opd} : pop t (.max2 x y) = op2 max2V (opd t x) (opd t y) := by
  simp only [pop]
  cases opd t x with
  | none => rfl
  | some a => cases opd t y with
    | none => cases a <;> rfl
    | some b => cases a <;> cases b <;> rfl
def extV (i : Nat) : AV → Option AV
  | .tup vs => vs[i]?
  | _ => none
@[simp] theorem extV_t {i : Nat} {vs : List AV} : extV i (.tup vs) = vs[i]? := rfl
@[simp] theorem pop_ext {x : Opd} {i : Nat} : pop t (.ext x i) = op1 (extV i) (opd t x) := by
  simp only [pop]
  cases opd t x with
  | none => rfl
  | some a => cases a <;> rfl
def ixsV : AV → AV → Option AV
  | .str s, .int _ n => if 0 ≤ n then (s[n.toNat]?).map fun b => .int .u8 b.toNat else none
  | _, _ => none
@[simp] theorem ixsV_s {s : List UInt8} {k : IntKind} {n : Int} : ixsV (.str s) (.int k n) = if 0 ≤ n then (s[n.toNat]?).map fun b => .int .u8 b.toNat else none := rfl
@[simp] theorem pop_ixs {x y : Opd} : pop t (.ixs x y) = op2 ixsV (opd t x) (opd t y) := by
  simp only [pop]
  cases opd t x with
  | none => rfl
  | some a => cases opd t y with
    | none => cases a <;> rfl
    | some b =>
      cases a <;> cases b <;> try rfl
      rename_i s k n
      simp only [op2_some, ixsV_s]
      split
      · cases s[n.toNat]? <;> rfl
      · rfl
def nchkV : AV → Option AV
  | .ref r v i o => some (.ref r v i o)
  | .vptr row o => some (.vptr row o)
  | .fn (.f f) a b => some (.fn (.f f) a b)
  | .iface t v => some (.iface t v)
  | _ => none
@[simp] theorem nchkV_r {r v i o : Nat} : nchkV (.ref r v i o) = some (.ref r v i o) := rfl
@[simp] theorem nchkV_v {row : List AV} {o : Nat} : nchkV (.vptr row o) = some (.vptr row o) := rfl
@[simp] theorem nchkV_f {f : Nat} {a b : List AV} : nchkV (.fn (.f f) a b) = some (.fn (.f f) a b) := rfl
@[simp] theorem pop_nchk {x : Opd} : pop t (.nchk x) = op1 nchkV (opd t x) := by
  simp only [pop]
  cases opd t x with
  | none => rfl
  | some a => cases a <;> try rfl
              rename_i f _ _; cases f <;> rfl
def mkfnV (f : Nat) : Option (List AV) → Option (List AV) → Option AV
  | some a, some b => some (.fn (.f f) a b)
  | _, _ => none
@[simp] theorem mkfnV_s {f : Nat} {a b : List AV} : mkfnV f (some a) (some b) = some (.fn (.f f) a b) := rfl
@[simp] theorem pop_mkfn {f : Nat} {x y : List Opd} : pop t (.mkfn f x y) = mkfnV f (opds t x) (opds t y) := by
  simp only [pop]; cases opds t x <;> cases opds t y <;> rfl
def bslV (sz : Nat) : Option (List AV) → Option AV
  | some [] => some (.zsl false)
  | some (v :: vs) => (rowsOf sz (v :: vs)).map (.sl sz)
  | none => none
@[simp] theorem bslV_n {sz : Nat} : bslV sz (some []) = some (.zsl false) := rfl
@[simp] theorem bslV_c {sz : Nat} {v : AV} {vs : List AV} : bslV sz (some (v :: vs)) = (rowsOf sz (v :: vs)).map (.sl sz) := rfl
@[simp] theorem pop_bsl {sz : Nat} {xs : List Opd} : pop t (.bsl sz xs) = bslV sz (opds t xs) := by
  simp only [pop]
  cases opds t xs with
  | none => rfl
  | some l => cases l <;> rfl
@[simp] theorem pop_sls {x : Opd} {lo hi : Option Opd} : pop t (.sls x lo hi) = (opd t x).bind fun a => (oopd t lo).bind fun l => (oopd t hi).bind fun h => asls a l h := by
  simp only [pop]; cases opd t x <;> cases oopd t lo <;> cases oopd t hi <;> rfl
@[simp] theorem pop_slv {z : Nat} {x : Opd} {lo hi mx : Option Opd} : pop t (.slv z x lo hi mx) = (opd t x).bind fun a => (oopd t lo).bind fun l => (oopd t hi).bind fun h => (oopd t mx).bind fun m => aslice z a l h m := by
  simp only [pop]; cases opd t x <;> cases oopd t lo <;> cases oopd t hi <;> cases oopd t mx <;> rfl
@[simp] theorem pop_build {z : List AV} {ps : List (Nat × Nat × Opd)} : pop t (.build z ps) = (partVals t ps).bind fun vs => (fillIn z vs).map .agg := by
  simp only [pop]; cases partVals t ps <;> rfl
def consP (o z : Nat) : Option AV → Option (List (Nat × Nat × AV)) → Option (List (Nat × Nat × AV))
  | some v, some vs => some ((o, z, v) :: vs)
  | _, _ => none
@[simp] theorem consP_s {o z : Nat} {v : AV} {vs : List (Nat × Nat × AV)} : consP o z (some v) (some vs) = some ((o, z, v) :: vs) := rfl
@[simp] theorem partVals_nil : partVals t [] = some [] := rfl
@[simp] theorem partVals_cons {o z : Nat} {x : Opd} {ps : List (Nat × Nat × Opd)} : partVals t ((o, z, x) :: ps) = consP o z (opd t x) (partVals t ps) := by
  simp only [partVals]; cases opd t x <;> cases partVals t ps <;> rfl

/-! Integers -/

section
variable {k : IntKind} {x y : Int}
@[simp] theorem abin_add : abin .add (.int k x) (.int k y) = some (.int k (k.wrap (x + y))) := by simp [abin, ibin]
@[simp] theorem abin_sub : abin .sub (.int k x) (.int k y) = some (.int k (k.wrap (x - y))) := by simp [abin, ibin]
@[simp] theorem abin_mul : abin .mul (.int k x) (.int k y) = some (.int k (k.wrap (x * y))) := by simp [abin, ibin]
@[simp] theorem abin_eql : abin .eql (.int k x) (.int k y) = some (.bool (decide (x = y))) := by simp [abin, ibin, BEq.beq]
@[simp] theorem abin_neq : abin .neq (.int k x) (.int k y) = some (.bool (!decide (x = y))) := by simp [abin, ibin, bne, BEq.beq]
@[simp] theorem abin_lss : abin .lss (.int k x) (.int k y) = some (.bool (decide (x < y))) := by simp [abin, ibin]
@[simp] theorem abin_leq : abin .leq (.int k x) (.int k y) = some (.bool (decide (x ≤ y))) := by simp [abin, ibin]
@[simp] theorem abin_gtr : abin .gtr (.int k x) (.int k y) = some (.bool (decide (x > y))) := by simp [abin, ibin]
@[simp] theorem abin_geq : abin .geq (.int k x) (.int k y) = some (.bool (decide (x ≥ y))) := by simp [abin, ibin]
@[simp] theorem abin_quo : abin .quo (.int k x) (.int k y) = if y = 0 then none else some (.int k (k.wrap (x.tdiv y))) := by simp [abin, ibin]
@[simp] theorem abin_rem : abin .rem (.int k x) (.int k y) = if y = 0 then none else some (.int k (x.tmod y)) := by simp [abin, ibin]
@[simp] theorem abin_and : abin .and (.int k x) (.int k y) = ibits .and k x y := by simp [abin, ibin]
@[simp] theorem abin_or : abin .or (.int k x) (.int k y) = ibits .or k x y := by simp [abin, ibin]
@[simp] theorem abin_xor : abin .xor (.int k x) (.int k y) = ibits .xor k x y := by simp [abin, ibin]
@[simp] theorem abin_shl {k' : IntKind} : abin .shl (.int k x) (.int k' y) = ishift .shl k x y := by simp [abin]
@[simp] theorem abin_shr {k' : IntKind} : abin .shr (.int k x) (.int k' y) = ishift .shr k x y := by simp [abin]
variable {u v : List UInt8}
@[simp] theorem abin_sadd : abin .add (.str u) (.str v) = if u.length + v.length ≤ 9223372036854775807 then some (.str (u ++ v)) else none := rfl
@[simp] theorem abin_seql : abin .eql (.str u) (.str v) = some (.bool (u == v)) := rfl
@[simp] theorem abin_sneq : abin .neq (.str u) (.str v) = some (.bool !(u == v)) := rfl
@[simp] theorem abin_slss : abin .lss (.str u) (.str v) = some (.bool (Op.bytesLess u v)) := rfl
@[simp] theorem abin_sleq : abin .leq (.str u) (.str v) = some (.bool (Op.bytesLess u v || u == v)) := rfl
@[simp] theorem abin_sgtr : abin .gtr (.str u) (.str v) = some (.bool !(Op.bytesLess u v || u == v)) := rfl
@[simp] theorem abin_sgeq : abin .geq (.str u) (.str v) = some (.bool !(Op.bytesLess u v)) := rfl
@[simp] theorem aun_not {e : Bool} : aun .not (.bool e) = some (.bool !e) := rfl
@[simp] theorem aun_neg : aun .neg (.int k x) = some (.int k (k.wrap (0 - x))) := rfl
end

/-! Pieces of memory -/

@[simp] theorem fieldA_v {row : List AV} {o off : Nat} : fieldA (.vptr row o) off = some (.vptr row (o + off)) := rfl
@[simp] theorem fieldA_r {q v i o off : Nat} : fieldA (.ref q v i o) off = some (.ref q v i (o + off)) := rfl
@[simp] theorem asVal_t {cs : List AV} : asVal true cs = some (.agg cs) := rfl
@[simp] theorem asVal_f {v : AV} : asVal false [v] = some v := rfl
attribute [simp] span AV.cells? isPop isRop isSop isA countA nilV isNil boxV rowsOf fillIn splice

/-! Reading and writing the store -/

@[simp] theorem rop_load {agg : Bool} {n : Nat} {x : Opd} : rop t s (.load agg n x) = op1 (loadAt s agg n) (opd t x) := by
  simp only [rop]; cases opd t x <;> rfl
@[simp] theorem loadAt_v {agg : Bool} {n off : Nat} {row : List AV} : loadAt s agg n (.vptr row off) = (span row off n).bind (asVal agg) := by
  simp only [loadAt]; cases span row off n <;> rfl
def loadR (agg : Bool) (n i off : Nat) : Option (List (List AV)) → Option AV
  | some rows => (rows[i]?).bind fun row => (span row off n).bind (asVal agg)
  | none => none
@[simp] theorem loadR_s {agg : Bool} {n i off : Nat} {rows : List (List AV)} : loadR agg n i off (some rows) = (rows[i]?).bind fun row => (span row off n).bind (asVal agg) := rfl
@[simp] theorem loadAt_r {agg : Bool} {n q v i off : Nat} : loadAt s agg n (.ref q v i off) = loadR agg n i off (cellsAt s q v) := by
  simp only [loadAt]
  cases cellsAt s q v with
  | none => rfl
  | some rows =>
    simp only [loadR_s]
    cases rows[i]? with
    | none => rfl
    | some row => simp only [Option.bind_some]; cases span row off n <;> rfl
def cellsO (v : Nat) : Option AObj → Option (List (List AV))
  | some (.cells w rows) => if w = v then some rows else none
  | _ => none
@[simp] theorem cellsO_c {v : Nat} {rows : List (List AV)} : cellsO v (some (.cells v rows)) = some rows := by simp [cellsO]
@[simp] theorem cellsAt_is {q v : Nat} : cellsAt s q v = cellsO v s[q]? := by
  simp only [cellsAt]
  cases s[q]? with
  | none => rfl
  | some o => cases o <;> rfl
def killO (s : List AObj) (q : Nat) : Option AObj → List AObj
  | some o => s.set q (kill o)
  | none => s
@[simp] theorem killO_s {q : Nat} {o : AObj} : killO s q (some o) = s.set q (kill o) := rfl
@[simp] theorem killAt_is {q : Nat} : killAt s q = killO s q s[q]? := by
  simp only [killAt]; cases s[q]? <;> rfl
@[simp] theorem kill_c {v : Nat} {rows : List (List AV)} : kill (.cells v rows) = .dead (v + 1) := rfl
@[simp] theorem frzW_r {q v i off : Nat} : frzW s (.ref q v i off) = ((cellsO v s[q]?).bind fun rows => rows[i]?).map fun row => .vptr row off := by
  simp only [frzW, cellsAt_is]
  cases cellsO v s[q]? with
  | none => rfl
  | some rows => simp only [Option.bind_some]; cases rows[i]? <;> rfl
@[simp] theorem frzW_m {q v z off n : Nat} : frzW s (.msl q v z off n) = (srows s (.msl q v z off n)).map (.sl z) := by
  simp only [frzW]; cases srows s (.msl q v z off n) <;> rfl
@[simp] theorem srows_m {q v z off n : Nat} : srows s (.msl q v z off n) = (cellsO v s[q]?).bind fun rows => if off + n ≤ rows.length then some ((rows.drop off).take n) else none := by
  simp only [srows, cellsAt_is]; cases cellsO v s[q]? <;> rfl
@[simp] theorem srows_s {z : Nat} {rows : List (List AV)} : srows s (.sl z rows) = some rows := rfl
@[simp] theorem srows_z {e : Bool} : srows s (.zsl e) = some [] := rfl
@[simp] theorem ghost_pop : ghost .pop ⟨t, s, b, []⟩ = if b < s.length ∧ limL (s.length - 1) t = true ∧ limS (s.length - 1) (s.take (s.length - 1)) = true then some ⟨t, s.take (s.length - 1), b, []⟩ else none := by
  simp only [ghost, List.isEmpty_nil, Bool.and_true, Bool.and_eq_true, decide_eq_true_eq, and_assoc]
@[simp] theorem sop_alloc {zero : List AV} : sop none t s (.alloc zero) = some (.ref s.length 0 0 0, s ++ [.cells 0 [zero]]) := rfl
@[simp] theorem sop_boxr {x : Opd} {ph : Option Nat} : sop ph t s (.boxr x) = (opd t x).bind fun v => v.cells?.bind fun cs => (newObj ph (.cells 0 [cs]) s).map fun r => (.ref r.1 0 0 0, r.2) := by
  simp only [sop]
  cases opd t x with
  | none => rfl
  | some v =>
    simp only [Option.bind_some]
    cases v.cells? with
    | none => rfl
    | some cs => simp only [Option.bind_some]; cases newObj ph (.cells 0 [cs]) s <;> rfl
@[simp] theorem newObj_n {o : AObj} : newObj none o s = some (s.length, s ++ [o]) := rfl
def storeR (n i off ver q : Nat) (s : List AObj) : Option (List (List AV)) → Option (List AV) → Option (List AObj)
  | some rows, some cs => (rows[i]?).bind fun row => if off + n ≤ row.length ∧ cs.length = n then some (s.set q (.cells ver (rows.set i (splice row off cs)))) else none
  | _, _ => none
@[simp] theorem storeR_s {n i off ver q : Nat} {rows : List (List AV)} {cs : List AV} : storeR n i off ver q s (some rows) (some cs) = (rows[i]?).bind fun row => if off + n ≤ row.length ∧ cs.length = n then some (s.set q (.cells ver (rows.set i (splice row off cs)))) else none := rfl
@[simp] theorem storeAt_r {n q ver i off : Nat} {x : AV} : storeAt s n (.ref q ver i off) x = storeR n i off ver q s (cellsAt s q ver) x.cells? := by
  simp only [storeAt]
  cases cellsAt s q ver with
  | none => rfl
  | some rows =>
    cases hr : rows[i]? with
    | none => cases x.cells? <;> simp [storeR, hr]
    | some row => cases x.cells? <;> simp [storeR, hr]
@[simp] theorem sop_store {n : Nat} {x y : Opd} {ph : Option Nat} : sop ph t s (.store n x y) = (opd t x).bind fun a => (opd t y).bind fun v => (storeAt s n a v).map fun s' => (.tup [], s') := by
  simp only [sop]
  cases opd t x with
  | none => rfl
  | some a => cases opd t y with
    | none => rfl
    | some v => simp only [Option.bind_some]; cases storeAt s n a v <;> rfl

end

mutual
theorem pure_lim' : ∀ {x : AV} {n : Nat}, x.pure = true → x.lim n = true
  | .junk, _, h | .ref .., _, h | .msl .., _, h | .mp _, _, h | .it _, _, h | .fn (.y _) _ _, _, h => by simp [AV.pure] at h
  | .vptr row _, _, h => by simp only [AV.pure] at h; simpa only [AV.lim] using pureL_lim' h
  | .sl _ rows, _, h => by simp only [AV.pure] at h; simpa only [AV.lim] using pureLL_lim' h
  | .fn (.f _) a b, _, h => by
    simp only [AV.pure, Bool.and_eq_true] at h
    simp only [AV.lim, Bool.and_eq_true]; exact ⟨pureL_lim' h.1, pureL_lim' h.2⟩
  | .iface _ v, _, h => by simp only [AV.pure] at h; simpa only [AV.lim] using pure_lim' h
  | .agg cs, _, h => by simp only [AV.pure] at h; simpa only [AV.lim] using pureL_lim' h
  | .tup vs, _, h => by simp only [AV.pure] at h; simpa only [AV.lim] using pureL_lim' h
  | .bool _, _, _ | .int _ _, _, _ | .str _, _, _ | .nilp, _, _ | .zsl _, _, _ | .nilm, _, _ | .nilf, _, _ | .niface, _, _ => by simp [AV.lim]
theorem pureL_lim' : ∀ {l : List AV} {n : Nat}, pureL l = true → limL n l = true
  | [], _, _ => rfl
  | x :: xs, _, h => by
    simp only [pureL, Bool.and_eq_true] at h
    simp only [limL, Bool.and_eq_true]; exact ⟨pure_lim' h.1, pureL_lim' h.2⟩
theorem pureLL_lim' : ∀ {l : List (List AV)} {n : Nat}, pureLL l = true → limLL n l = true
  | [], _, _ => rfl
  | x :: xs, _, h => by
    simp only [pureLL, Bool.and_eq_true] at h
    simp only [limLL, Bool.and_eq_true]; exact ⟨pureL_lim' h.1, pureLL_lim' h.2⟩
end
attribute [simp] limL limLL limS limO AV.lim

/-- A loop, by what its state is by some parameter, what holds of that, and a number that grows less. -/
theorem W_loopP {T : Nat → Option IFn} {c : ICode} {Q : Ex → St → Prop} {α : Type} (frame : α → St) (I : α → Prop) (m : α → Nat)
    (hstep : ∀ p, I p → W T c (thenW (fun s' => ∃ p', s' = frame p' ∧ I p' ∧ m p' < m p) Q) (frame p)) (p : α) (st : St) (h0 : st = frame p) (hp : I p) : Does T (.loop c) Q st := by
  subst h0
  refine W_loop (fun k s => ∃ p, s = frame p ∧ I p ∧ k = m p) ?_ (m p) _ ⟨p, rfl, hp, rfl⟩
  rintro k s ⟨p, rfl, h, rfl⟩
  refine W_mono (hstep p h) ?_
  exact fun e s h => thenW_mono (fun s ⟨p', a, b, d⟩ => ⟨m p', d, p', a, b, rfl⟩) (fun _ _ h => h) e s h

end Go.Proofs.YtleommjdeejmkaaGreatDoor.Zq
