/-
  Reasoning about runs of the abstract machine without fuel.
  What is asked of a state, for a piece of code to come to what is wanted: a calculus for the abstract machine.
  Conditions: none but those that each theorem names.
-/
import Derived.Test.YtleommjdeejmkaaGreatDoorZMa
set_option linter.all false

namespace Go.Proofs.YtleommjdeejmkaaGreatDoor.Zq

/-- What one caller answers, the other answers. -/
def Le (c d : Caller) : Prop := ∀ f args S r, c f args S = some r → d f args S = some r

theorem pureCall_le {c d : Caller} (h : Le c d) {f : AV} {as : List AV} {v : AV} (hp : pureCall c f as = some v) : pureCall d f as = some v := by
  unfold pureCall at hp ⊢
  split at hp
  · split at hp
    · rename_i hc
      rw [if_pos hc]
      split at hp
      · rename_i v0 S0 he; simp only [h _ _ _ _ he]; exact hp
      · cases hp
    · cases hp
  · cases hp

theorem snapCall_le {c d : Caller} (h : Le c d) {S : List AObj} {f : AV} {as : List AV} {v : AV} (hp : snapCall c S f as = some v) : snapCall d S f as = some v := by
  unfold snapCall at hp ⊢
  split at hp
  · split at hp
    · rename_i a b e ha hb he
      try simp only [ha, hb, he]
      split at hp
      · rename_i v0 S0 he; simp only [h _ _ _ _ he]; exact hp
      · cases hp
    · cases hp
  · cases hp

theorem oneOp_le {c d : Caller} (h : Le c d) {ph : Option Nat} {st : St} {o : IOp} {r : AV × List AObj × List ADef} (hp : oneOp c ph st o = some r) : oneOp d ph st o = some r := by
  cases o <;> first | exact hp | skip
  case call f as =>
    simp only [oneOp] at hp ⊢
    split at hp
    · rename_i f' first caps vs h1 h2
      try simp only [h1, h2]
      split at hp
      · rename_i v S he; simp only [h _ _ _ _ he]; exact hp
      · cases hp
    · cases hp
  case pcall f as =>
    simp only [oneOp] at hp ⊢
    split at hp
    · rename_i f' vs h1 h2
      try simp only [h1, h2]
      split at hp
      · rename_i v he; simp only [pureCall_le h he]; exact hp
      · cases hp
    · cases hp
  case scall f as =>
    simp only [oneOp] at hp ⊢
    split at hp
    · rename_i f' vs h1 h2
      try simp only [h1, h2]
      split at hp
      · rename_i v he; simp only [snapCall_le h he]; exact hp
      · cases hp
    · cases hp

theorem stepOp_le {c d : Caller} (h : Le c d) {ph : Option Nat} {o : IOper} {st st' : St} (hp : stepOp c ph o st = some st') : stepOp d ph o st = some st' := by
  unfold stepOp at hp ⊢
  split at hp
  · rename_i hw
    try simp only [hw]
    split at hp
    · rename_i he; simp only [oneOp_le h he]; exact hp
    · cases hp
  · rename_i hw; first | (simp only [hw]; exact hp) | exact hp
  · cases hp

theorem runOps_le {c d : Caller} (h : Le c d) : ∀ {os : List IOper} {st st' : St}, runOps c os st = some st' → runOps d os st = some st'
  | [], _, _, hp => hp
  | o :: os, st, st', hp => by
    simp only [runOps] at hp ⊢
    split at hp
    · rename_i st1 h1; simp only [stepOp_le h h1]; exact runOps_le h hp
    · cases hp

theorem runDraw_le {c d : Caller} (h : Le c d) : ∀ {os : List IOper} {r : Nat} {st st' : St}, runDraw c r os st = some st' → runDraw d r os st = some st'
  | [], _, _, _, hp => hp
  | o :: os, r, st, st', hp => by
    simp only [runDraw] at hp ⊢
    split at hp
    · rename_i st1 h1; simp only [stepOp_le h h1]; exact runDraw_le h hp
    · cases hp

/-- More fuel does no harm. -/
theorem more (T : Nat → Option IFn) : ∀ n, Le (ecall T n) (ecall T (n + 1)) ∧ ∀ c st r, run T n c st = some r → run T (n + 1) c st = some r
  | 0 => ⟨fun f args S r h => by simp [ecall] at h, fun c st r h => by simp [run] at h⟩
  | n + 1 => by
    obtain ⟨hc, hr⟩ := more T n
    refine ⟨fun f args S r h => ?_, fun c st r h => ?_⟩
    · cases f with
      | f id =>
        rw [ecall] at h ⊢
        split at h
        · rename_i p hp; exact h
        · rename_i F hF
          split at h
          · rename_i ha
            rw [if_pos ha]
            split at h
            · rename_i st hrun; simp only [hr _ _ _ hrun]; exact h
            · rename_i st hrun; simp only [hr _ _ _ hrun]; exact h
            · cases h
          · cases h
        · cases h
      | y l =>
        rw [ecall] at h ⊢
        split at h
        · rename_i fr ps as bo hS
          split at h
          · cases h
          · rename_i hcalm
            rw [if_neg hcalm]
            split at h
            · rename_i fr' hset
              split at h
              · rename_i st hrun
                simp only [hr _ _ _ hrun]
                split at h
                · rename_i fr1 ps1 as1 bo1 pe1 h1
                  split at h
                  · rename_i e st' hrun2
                    simp only [hr _ _ _ hrun2]; exact h
                  · cases h
                · cases h
              · cases h
            · cases h
        · cases h
    · cases c with
      | skip => simpa [run] using h
      | never => simp [run] at h
      | exit id => simpa [run] using h
      | ret => simpa [run] using h
      | gh g => simpa [run] using h
      | scope c => simp only [run] at h ⊢; exact hr _ _ _ h
      | reg d ops =>
        cases d with
        | false =>
          simp only [run, Option.map_eq_some_iff] at h ⊢
          obtain ⟨s, h1, h2⟩ := h
          exact ⟨s, runOps_le hc h1, h2⟩
        | true =>
          simp only [run, Option.map_eq_some_iff] at h ⊢
          obtain ⟨s, h1, h2⟩ := h
          exact ⟨s, runDraw_le hc h1, h2⟩
      | seq a b =>
        rw [run] at h ⊢
        split at h
        · rename_i st1 h1; simp only [hr _ _ _ h1]; exact hr _ _ _ h
        · rename_i hne
          rw [hr _ _ _ h]
          obtain ⟨e, s⟩ := r
          cases e with
          | normal => exact absurd h (hne s)
          | exit i => rfl
          | ret => rfl
      | cond x a b =>
        rw [run] at h ⊢
        split at h
        · split at h
          · rename_i ht; rw [if_pos ht]; exact hr _ _ _ h
          · rename_i ht; rw [if_neg ht]; exact hr _ _ _ h
        · cases h
      | blk id c =>
        rw [run] at h ⊢
        split at h
        · rename_i i s h1; simp only [hr _ _ _ h1]; exact h
        · rename_i hne
          rw [hr _ _ _ h]
          obtain ⟨e, s⟩ := r
          cases e with
          | normal => rfl
          | exit i => exact absurd h (hne i s)
          | ret => rfl
      | loop c =>
        rw [run] at h ⊢
        split at h
        · rename_i st1 h1; simp only [hr _ _ _ h1]; exact hr _ _ _ h
        · rename_i hne
          rw [hr _ _ _ h]
          obtain ⟨e, s⟩ := r
          cases e with
          | normal => exact absurd h (hne s)
          | exit i => rfl
          | ret => rfl
      | rf f ps as bo =>
        rw [run] at h ⊢
        split at h
        · split at h
          · cases h
          · rename_i hcode
            rw [if_neg hcode]
            split at h
            · rename_i v S he; simp only [hc _ _ _ _ he]; exact h
            · cases h
        · cases h

theorem ecall_le (T : Nat → Option IFn) {n m : Nat} (h : n ≤ m) : Le (ecall T n) (ecall T m) := by
  induction h with
  | refl => exact fun _ _ _ _ h => h
  | step _ ih => exact fun f a S r hr => (more T _).1 _ _ _ _ (ih f a S r hr)

theorem run_le (T : Nat → Option IFn) {n m : Nat} (h : n ≤ m) {c : ICode} {st : St} {r : Ex × St} (hr : run T n c st = some r) : run T m c st = some r := by
  induction h with
  | refl => exact hr
  | step _ ih => exact (more T _).2 _ _ _ ih

/-- What a call comes to, with enough fuel. -/
noncomputable def CC (T : Nat → Option IFn) : Caller := fun f args S =>
  open Classical in if h : ∃ r n, ecall T n f args S = some r then some h.choose else none

theorem CC_iff {T : Nat → Option IFn} {f : Afn} {args : List AV} {S : List AObj} {r : AV × List AObj} : CC T f args S = some r ↔ ∃ n, ecall T n f args S = some r := by
  unfold CC
  constructor
  · intro h
    split at h
    · rename_i hx; cases h; exact hx.choose_spec
    · cases h
  · rintro ⟨n, hn⟩
    have hx : ∃ r n, ecall T n f args S = some r := ⟨r, n, hn⟩
    rw [dif_pos hx]
    obtain ⟨m, hm⟩ := hx.choose_spec
    have h1 := ecall_le T (Nat.le_max_left n m) _ _ _ _ hn
    have h2 := ecall_le T (Nat.le_max_right n m) _ _ _ _ hm
    rw [h1] at h2
    exact h2.symm

/-- For what is reckoned with all fuel, some fuel is enough. -/
def Fin (T : Nat → Option IFn) (P : Caller → Prop) : Prop := P (CC T) → ∃ n, P (ecall T n)

theorem pureCall_fin {T : Nat → Option IFn} {f : AV} {as : List AV} {v : AV} (h : pureCall (CC T) f as = some v) : ∃ n, pureCall (ecall T n) f as = some v := by
  unfold pureCall at h ⊢
  split at h
  · split at h
    · rename_i hc
      split at h
      · rename_i v0 S0 he
        obtain ⟨n, hn⟩ := CC_iff.1 he
        exact ⟨n, by simp only [hc, if_true, hn]; exact h⟩
      · cases h
    · cases h
  · cases h

theorem snapCall_fin {T : Nat → Option IFn} {S : List AObj} {f : AV} {as : List AV} {v : AV} (h : snapCall (CC T) S f as = some v) : ∃ n, snapCall (ecall T n) S f as = some v := by
  unfold snapCall at h ⊢
  split at h
  · split at h
    · rename_i a b e ha hb hx
      split at h
      · rename_i v0 S0 he
        obtain ⟨n, hn⟩ := CC_iff.1 he
        exact ⟨n, by simp only [hn]; exact h⟩
      · cases h
    · cases h
  · cases h

theorem oneOp_fin {T : Nat → Option IFn} {ph : Option Nat} {st : St} {o : IOp} {r : AV × List AObj × List ADef} (h : oneOp (CC T) ph st o = some r) : ∃ n, oneOp (ecall T n) ph st o = some r := by
  cases o <;> first | exact ⟨0, h⟩ | skip
  case call f as =>
    simp only [oneOp] at h ⊢
    split at h
    · rename_i f' first caps vs h1 h2
      split at h
      · rename_i v S he
        obtain ⟨n, hn⟩ := CC_iff.1 he
        exact ⟨n, by simp only [hn]; exact h⟩
      · cases h
    · cases h
  case pcall f as =>
    simp only [oneOp] at h ⊢
    split at h
    · rename_i f' vs h1 h2
      split at h
      · rename_i v he
        obtain ⟨n, hn⟩ := pureCall_fin he
        exact ⟨n, by simp only [hn]; exact h⟩
      · cases h
    · cases h
  case scall f as =>
    simp only [oneOp] at h ⊢
    split at h
    · rename_i f' vs h1 h2
      split at h
      · rename_i v he
        obtain ⟨n, hn⟩ := snapCall_fin he
        exact ⟨n, by simp only [hn]; exact h⟩
      · cases h
    · cases h

theorem stepOp_fin {T : Nat → Option IFn} {ph : Option Nat} {o : IOper} {st st' : St} (h : stepOp (CC T) ph o st = some st') : ∃ n, stepOp (ecall T n) ph o st = some st' := by
  unfold stepOp at h ⊢
  split at h
  · split at h
    · rename_i he
      obtain ⟨n, hn⟩ := oneOp_fin he
      exact ⟨n, by simp only [hn]; exact h⟩
    · cases h
  · exact ⟨0, h⟩
  · cases h

theorem runOps_fin {T : Nat → Option IFn} : ∀ {os : List IOper} {st st' : St}, runOps (CC T) os st = some st' → ∃ n, runOps (ecall T n) os st = some st'
  | [], _, _, h => ⟨0, h⟩
  | o :: os, st, st', h => by
    simp only [runOps] at h
    split at h
    · rename_i st1 h1
      obtain ⟨n, hn⟩ := stepOp_fin h1
      obtain ⟨m, hm⟩ := runOps_fin h
      refine ⟨max n m, ?_⟩
      simp only [runOps, stepOp_le (ecall_le T (Nat.le_max_left n m)) hn]
      exact runOps_le (ecall_le T (Nat.le_max_right n m)) hm
    · cases h

theorem runDraw_fin {T : Nat → Option IFn} : ∀ {os : List IOper} {r : Nat} {st st' : St}, runDraw (CC T) r os st = some st' → ∃ n, runDraw (ecall T n) r os st = some st'
  | [], _, _, _, h => ⟨0, h⟩
  | o :: os, r, st, st', h => by
    simp only [runDraw] at h
    split at h
    · rename_i st1 h1
      obtain ⟨n, hn⟩ := stepOp_fin h1
      obtain ⟨m, hm⟩ := runDraw_fin h
      refine ⟨max n m, ?_⟩
      simp only [runDraw, stepOp_le (ecall_le T (Nat.le_max_left n m)) hn]
      exact runDraw_le (ecall_le T (Nat.le_max_right n m)) hm
    · cases h

/-- A piece of code comes to r. -/
def R (T : Nat → Option IFn) (c : ICode) (st : St) (r : Ex × St) : Prop := ∃ n, run T n c st = some r

section
variable {T : Nat → Option IFn} {st st1 st' : St} {r : Ex × St} {a b c : ICode}

theorem R.skip : R T .skip st (.normal, st) := ⟨1, rfl⟩
theorem R.ret : R T .ret st (.ret, st) := ⟨1, rfl⟩
theorem R.exit (id : Nat) : R T (.exit id) st (.exit id, st) := ⟨1, rfl⟩
theorem R.gh {g : Ghost} (h : ghost g st = some st') : R T (.gh g) st (.normal, st') := ⟨1, by simp [run, h]⟩
theorem R.reg {ops : List IOper} (h : runOps (CC T) ops st = some st') : R T (.reg false ops) st (.normal, st') := by
  obtain ⟨n, hn⟩ := runOps_fin h
  exact ⟨n + 1, by simp [run, hn]⟩
theorem R.draw {ops : List IOper} (h : runDraw (CC T) st.s.length ops { st with s := st.s ++ List.replicate (countA ops) (.dead 0) } = some st') : R T (.reg true ops) st (.normal, st') := by
  obtain ⟨n, hn⟩ := runDraw_fin h
  exact ⟨n + 1, by simp [run, hn]⟩
theorem R.seq (h : R T a st (.normal, st1)) (k : R T b st1 r) : R T (.seq a b) st r := by
  obtain ⟨n, hn⟩ := h
  obtain ⟨m, hm⟩ := k
  exact ⟨max n m + 1, by rw [run, run_le T (Nat.le_max_left n m) hn]; exact run_le T (Nat.le_max_right n m) hm⟩
theorem R.seqOut {e : Ex} (h : R T a st (e, st1)) (he : e ≠ .normal) : R T (.seq a b) st (e, st1) := by
  obtain ⟨n, hn⟩ := h
  exact ⟨n + 1, by rw [run, hn]; cases e <;> first | exact absurd rfl he | rfl⟩
theorem R.cond {x : Opd} {t : Bool} (hx : opd st.t x = some (.bool t)) (h : R T (if t then a else b) st r) : R T (.cond x a b) st r := by
  obtain ⟨n, hn⟩ := h
  exact ⟨n + 1, by rw [run, hx]; cases t <;> exact hn⟩
theorem R.blk {id : Nat} {e : Ex} (h : R T c st (e, st1)) : R T (.blk id c) st (if e = .exit id then .normal else e, st1) := by
  obtain ⟨n, hn⟩ := h
  refine ⟨n + 1, ?_⟩
  rw [run, hn]
  cases e with
  | normal => simp
  | ret => simp
  | exit i => by_cases hi : i = id <;> simp [hi]
theorem R.loop (h : R T c st (.normal, st1)) (k : R T (.loop c) st1 r) : R T (.loop c) st r := by
  obtain ⟨n, hn⟩ := h
  obtain ⟨m, hm⟩ := k
  exact ⟨max n m + 1, by rw [run, run_le T (Nat.le_max_left n m) hn]; exact run_le T (Nat.le_max_right n m) hm⟩
theorem R.loopOut {e : Ex} (h : R T c st (e, st1)) (he : e ≠ .normal) : R T (.loop c) st (e, st1) := by
  obtain ⟨n, hn⟩ := h
  exact ⟨n + 1, by rw [run, hn]; cases e <;> first | exact absurd rfl he | rfl⟩
theorem R.scope (h : R T c st r) : R T (.scope c) st r := by
  obtain ⟨n, hn⟩ := h
  exact ⟨n + 1, by rw [run]; exact hn⟩

/-- A function's contract out of its body's run. -/
theorem CC_code {id : Nat} {F : IFun} (hT : T id = some (.code F)) {args : List AV} {S : List AObj} {e : Ex} {v : AV × List AObj} (ha : args.length = F.np)
    (h : R T F.body { t := args ++ List.replicate (F.nt - F.np) .junk, s := S, b := S.length, d := [] } (e, st')) (he : e = .normal ∨ e = .ret) (hf : finishFn F st' = some v) : CC T (.f id) args S = some v := by
  obtain ⟨n, hn⟩ := h
  refine CC_iff.2 ⟨n + 1, ?_⟩
  rw [ecall, hT]
  simp only [ha, if_true, hn]
  rcases he with rfl | rfl <;> exact hf

theorem CC_prim {id : Nat} {p : List AV → List AObj → Option (AV × List AObj)} (hT : T id = some (.prim p)) {args : List AV} {S : List AObj} {v : AV × List AObj} (h : p args S = some v) : CC T (.f id) args S = some v :=
  CC_iff.2 ⟨1, by rw [ecall, hT]; exact h⟩

end
end Go.Proofs.YtleommjdeejmkaaGreatDoor.Zq

namespace Go.Proofs.YtleommjdeejmkaaGreatDoor.Zq

/-- Operations, one behind the other. -/
def WO (c : Caller) : List IOper → (St → Prop) → St → Prop
  | [], K, st => K st
  | o :: os, K, st => match stepOp c none o st with
    | some s => WO c os K s
    | none => False

def WD (c : Caller) : Nat → List IOper → (St → Prop) → St → Prop
  | _, [], K, st => K st
  | r, o :: os, K, st => match stepOp c (if isA o.op then some r else none) o st with
    | some s => WD c (if isA o.op then r + 1 else r) os K s
    | none => False

theorem WO_sound {c : Caller} {K : St → Prop} : ∀ {os : List IOper} {st : St}, WO c os K st → ∃ s, runOps c os st = some s ∧ K s
  | [], st, h => ⟨st, rfl, h⟩
  | o :: os, st, h => by
    simp only [WO] at h
    split at h
    · rename_i s hs
      obtain ⟨s', h1, h2⟩ := WO_sound h
      exact ⟨s', by simp only [runOps, hs]; exact h1, h2⟩
    · exact h.elim

theorem WD_sound {c : Caller} {K : St → Prop} : ∀ {os : List IOper} {r : Nat} {st : St}, WD c r os K st → ∃ s, runDraw c r os st = some s ∧ K s
  | [], _, st, h => ⟨st, rfl, h⟩
  | o :: os, r, st, h => by
    simp only [WD] at h
    split at h
    · rename_i s hs
      obtain ⟨s', h1, h2⟩ := WD_sound h
      exact ⟨s', by simp only [runDraw, hs]; exact h1, h2⟩
    · exact h.elim

/-- Behind a first part: on with the second, if the first has ended normally. -/
def thenW (K : St → Prop) (Q : Ex → St → Prop) : Ex → St → Prop
  | .normal, s => K s
  | e, s => Q e s

def inBlk (id : Nat) (Q : Ex → St → Prop) : Ex → St → Prop
  | .exit i, s => if i = id then Q .normal s else Q (.exit i) s
  | e, s => Q e s

/-- Some run of c from st comes to what Q wants. -/
def Does (T : Nat → Option IFn) (c : ICode) (Q : Ex → St → Prop) (st : St) : Prop := ∃ e s, R T c st (e, s) ∧ Q e s

/-- The calculus: loops are asked for as they are. -/
def W (T : Nat → Option IFn) : ICode → (Ex → St → Prop) → St → Prop
  | .skip, Q, st => Q .normal st
  | .never, _, _ => False
  | .reg false ops, Q, st => WO (CC T) ops (Q .normal) st
  | .reg true ops, Q, st => WD (CC T) st.s.length ops (Q .normal) { st with s := st.s ++ List.replicate (countA ops) (.dead 0) }
  | .seq a b, Q, st => W T a (thenW (W T b Q) Q) st
  | .cond x a b, Q, st => match opd st.t x with
    | some (.bool true) => W T a Q st
    | some (.bool false) => W T b Q st
    | _ => False
  | .blk id c, Q, st => W T c (inBlk id Q) st
  | .loop c, Q, st => Does T (.loop c) Q st
  | .exit id, Q, st => Q (.exit id) st
  | .ret, Q, st => Q .ret st
  | .scope c, Q, st => W T c Q st
  | .gh g, Q, st => match ghost g st with
    | some s => Q .normal s
    | none => False
  | .rf f ps as bo, Q, st => Does T (.rf f ps as bo) Q st

theorem W_sound {T : Nat → Option IFn} : ∀ {c : ICode} {Q : Ex → St → Prop} {st : St}, W T c Q st → Does T c Q st
  | .skip, Q, st, h => ⟨_, _, R.skip, h⟩
  | .never, _, _, h => h.elim
  | .reg false ops, Q, st, h => let ⟨s, h1, h2⟩ := WO_sound h; ⟨_, s, R.reg h1, h2⟩
  | .reg true ops, Q, st, h => let ⟨s, h1, h2⟩ := WD_sound h; ⟨_, s, R.draw h1, h2⟩
  | .seq a b, Q, st, h => by
    obtain ⟨e, s, h1, h2⟩ := W_sound (c := a) h
    cases e with
    | normal => obtain ⟨e', s', k1, k2⟩ := W_sound (c := b) h2; exact ⟨e', s', R.seq h1 k1, k2⟩
    | exit id => exact ⟨_, s, R.seqOut h1 (by simp), h2⟩
    | ret => exact ⟨_, s, R.seqOut h1 (by simp), h2⟩
  | .cond x a b, Q, st, h => by
    simp only [W] at h
    split at h
    · rename_i hx; obtain ⟨e, s, h1, h2⟩ := W_sound (c := a) h; exact ⟨e, s, R.cond hx (by simpa using h1), h2⟩
    · rename_i hx; obtain ⟨e, s, h1, h2⟩ := W_sound (c := b) h; exact ⟨e, s, R.cond hx (by simpa using h1), h2⟩
    · exact h.elim
  | .blk id c, Q, st, h => by
    obtain ⟨e, s, h1, h2⟩ := W_sound (c := c) h
    refine ⟨_, s, R.blk h1, ?_⟩
    cases e with
    | normal => simpa [inBlk] using h2
    | ret => simpa [inBlk] using h2
    | exit i =>
      simp only [inBlk] at h2
      by_cases hi : i = id
      · rw [if_pos hi] at h2; simpa [hi] using h2
      · rw [if_neg hi] at h2; simpa [hi] using h2
  | .loop c, Q, st, h => h
  | .exit id, Q, st, h => ⟨_, _, R.exit id, h⟩
  | .ret, Q, st, h => ⟨_, _, R.ret, h⟩
  | .scope c, Q, st, h => let ⟨e, s, h1, h2⟩ := W_sound (c := c) h; ⟨e, s, R.scope h1, h2⟩
  | .gh g, Q, st, h => by
    simp only [W] at h
    split at h
    · rename_i s hs; exact ⟨_, s, R.gh hs, h⟩
    · exact h.elim
  | .rf f ps as bo, Q, st, h => h

theorem thenW_mono {K K' : St → Prop} {Q Q' : Ex → St → Prop} (h1 : ∀ s, K s → K' s) (h2 : ∀ e s, Q e s → Q' e s) : ∀ e s, thenW K Q e s → thenW K' Q' e s
  | .normal, s, h => h1 s h
  | .exit _, s, h => h2 _ s h
  | .ret, s, h => h2 _ s h

/-- A loop, by what holds at its head and a number that grows less. -/
theorem W_loop {T : Nat → Option IFn} {c : ICode} {Q : Ex → St → Prop} (I : Nat → St → Prop) (hI : ∀ k s, I k s → W T c (thenW (fun s' => ∃ k', k' < k ∧ I k' s') Q) s) : ∀ (k : Nat) (st : St), I k st → Does T (.loop c) Q st := by
  intro k
  induction k using Nat.strongRecOn with
  | _ k ih =>
    intro st h
    obtain ⟨e, s, h1, h2⟩ := W_sound (hI k st h)
    cases e with
    | normal =>
      obtain ⟨k', hk, h3⟩ := h2
      obtain ⟨e', s', k1, k2⟩ := ih k' hk s h3
      exact ⟨e', s', R.loop h1 k1, k2⟩
    | exit id => exact ⟨_, s, R.loopOut h1 (by simp), h2⟩
    | ret => exact ⟨_, s, R.loopOut h1 (by simp), h2⟩

/-- What a function's body must come to. -/
def endsIn (F : IFun) (v : AV) (S : List AObj) : Ex → St → Prop
  | .exit _, _ => False
  | _, s => finishFn F s = some (v, S)

/-- A function's contract. -/
theorem CC_of_W {T : Nat → Option IFn} {id : Nat} {F : IFun} (hT : T id = some (.code F)) {args : List AV} {S S' : List AObj} {v : AV} (ha : args.length = F.np)
    (h : W T F.body (endsIn F v S') { t := args ++ List.replicate (F.nt - F.np) .junk, s := S, b := S.length, d := [] }) : CC T (.f id) args S = some (v, S') := by
  obtain ⟨e, s, h1, h2⟩ := W_sound h
  cases e with
  | normal => exact CC_code hT ha h1 (.inl rfl) h2
  | ret => exact CC_code hT ha h1 (.inr rfl) h2
  | exit i => exact h2.elim

end Go.Proofs.YtleommjdeejmkaaGreatDoor.Zq
