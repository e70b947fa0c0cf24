/-
  Operations that may stand in either order.
  Conditions: none; lemmas.
-/
import Derived.Test.YtleommjdeejmkaaGreatDoorZMe
set_option linter.all false

namespace Go.Proofs.YtleommjdeejmkaaGreatDoor.Zq
open Go

/-! Frames that agree on what an operation reads -/

theorem opd_congr {t t' : List AV} {x : Opd} (h : ∀ i ∈ opdTmps [x], t'[i]? = t[i]?) : opd t' x = opd t x := by
  cases x with
  | t n => exact h n (by simp [opdTmps])
  | c v => rfl

theorem opdTmps_mem {x : Opd} : ∀ {xs : List Opd}, x ∈ xs → ∀ i ∈ opdTmps [x], i ∈ opdTmps xs
  | y :: ys, h, i, hi => by
    rcases List.mem_cons.1 h with rfl | h
    · cases x <;> simp_all [opdTmps]
    · have := opdTmps_mem h i hi
      cases y <;> simp [opdTmps, this]

theorem opds_congr {t t' : List AV} : ∀ {xs : List Opd}, (∀ x ∈ xs, opd t' x = opd t x) → opds t' xs = opds t xs
  | [], _ => rfl
  | x :: xs, h => by
    have := opds_congr (t := t) (t' := t') (xs := xs) fun y hy => h y (List.mem_cons_of_mem _ hy)
    simp only [opds, h x (by simp), this]

theorem partVals_congr {t t' : List AV} : ∀ {ps : List (Nat × Nat × Opd)}, (∀ x ∈ ps.map (fun p => p.2.2), opd t' x = opd t x) → partVals t' ps = partVals t ps
  | [], _ => rfl
  | (o, z, x) :: ps, h => by
    have := partVals_congr (t := t) (t' := t') (ps := ps) fun y hy => h y (by rw [List.map_cons]; exact List.mem_cons_of_mem _ hy)
    simp only [partVals, h x (by simp), this]

theorem oopd_congr {t t' : List AV} : ∀ {x : Option Opd}, (∀ y ∈ x.toList, opd t' y = opd t y) → oopd t' x = oopd t x
  | none, _ => rfl
  | some x, h => by simp only [oopd, h x (by simp)]

/-- What an operation does, guard and all. -/
def act (call : Caller) (ph : Option Nat) (o : IOper) (t : List AV) (S : List AObj) (d : List ADef) : Option (AV × List AObj × List ADef) :=
  match wantOp t o.guard with
  | some true => oneOp call ph { t, s := S, b := 0, d } o.op
  | some false => some (.tup [], S, d)
  | none => none

theorem stepOp_act (call : Caller) (ph : Option Nat) (o : IOper) (st : St) :
    stepOp call ph o st = (act call ph o st.t st.s st.d).map fun (v, S, d) => { st with t := putT st.t o.dst v, s := S, d := d } := by
  have hone : oneOp call ph { t := st.t, s := st.s, b := 0, d := st.d } o.op = oneOp call ph st o.op := by
    unfold oneOp
    split <;> rfl
  unfold stepOp act
  rw [hone]
  cases wantOp st.t o.guard with
  | none => rfl
  | some b =>
    cases b with
    | false => rfl
    | true =>
      simp only
      cases oneOp call ph st o.op <;> rfl

theorem oneOp_congr {call : Caller} {ph : Option Nat} {o : IOp} {t t' : List AV} {S : List AObj} {d : List ADef} {b : Nat} (h : ∀ x ∈ o.opds, opd t' x = opd t x) :
    oneOp call ph { t := t', s := S, b, d } o = oneOp call ph { t := t, s := S, b, d } o := by
  cases o
  case build z ps => have := partVals_congr (t := t) (t' := t') (ps := ps) h; simp only [oneOp, sop, rop, pop, this]
  case bsl z xs => have := opds_congr (t := t) (t' := t') (xs := xs) h; simp only [oneOp, sop, rop, pop, this]
  case bsm z xs => have := opds_congr (t := t) (t' := t') (xs := xs) h; simp only [oneOp, sop, this]
  case call f as =>
    have h1 := h f (by simp [IOp.opds])
    have := opds_congr (t := t) (t' := t') (xs := as) fun x hx => h x (List.mem_cons_of_mem _ hx)
    simp only [oneOp, h1, this]
  case pcall f as =>
    have h1 := h f (by simp [IOp.opds])
    have := opds_congr (t := t) (t' := t') (xs := as) fun x hx => h x (List.mem_cons_of_mem _ hx)
    simp only [oneOp, h1, this]
  case scall f as =>
    have h1 := h f (by simp [IOp.opds])
    have := opds_congr (t := t) (t' := t') (xs := as) fun x hx => h x (List.mem_cons_of_mem _ hx)
    simp only [oneOp, h1, this]
  case mkfn f a b =>
    have h1 := opds_congr (t := t) (t' := t') (xs := a) fun x hx => h x (List.mem_append_left _ hx)
    have h2 := opds_congr (t := t) (t' := t') (xs := b) fun x hx => h x (List.mem_append_right _ hx)
    simp only [oneOp, sop, rop, pop, h1, h2]
  case sls x lo hi =>
    have h0 := h x (by simp [IOp.opds])
    have h1 := oopd_congr (t := t) (t' := t') (x := lo) fun y hy => h y (List.mem_cons_of_mem _ (List.mem_append_left _ hy))
    have h2 := oopd_congr (t := t) (t' := t') (x := hi) fun y hy => h y (List.mem_cons_of_mem _ (List.mem_append_right _ hy))
    simp only [oneOp, sop, rop, pop, h0, h1, h2]
  case slv z x lo hi mx =>
    have h0 := h x (by simp [IOp.opds])
    have h1 := oopd_congr (t := t) (t' := t') (x := lo) fun y hy => h y (List.mem_cons_of_mem _ (List.mem_append_left _ (List.mem_append_left _ hy)))
    have h2 := oopd_congr (t := t) (t' := t') (x := hi) fun y hy => h y (List.mem_cons_of_mem _ (List.mem_append_left _ (List.mem_append_right _ hy)))
    have h3 := oopd_congr (t := t) (t' := t') (x := mx) fun y hy => h y (List.mem_cons_of_mem _ (List.mem_append_right _ hy))
    simp only [oneOp, sop, rop, pop, h0, h1, h2, h3]
  case len b x => have h0 := h x (by simp [IOp.opds]); cases b <;> simp only [oneOp, sop, rop, pop, h0]
  all_goals first
    | rfl
    | (simp only [IOp.opds, List.mem_cons, List.not_mem_nil, or_false, forall_eq_or_imp, forall_eq] at h; simp only [oneOp, sop, rop, pop, h])

theorem wantOp_congr {t t' : List AV} {g : Option (Nat × Bool)} (h : ∀ s w, g = some (s, w) → t'[s]? = t[s]?) : wantOp t' g = wantOp t g := by
  cases g with
  | none => rfl
  | some p => obtain ⟨s, w⟩ := p; simp only [wantOp, h s w rfl]

theorem act_congr {call : Caller} {ph : Option Nat} {o : IOper} {t t' : List AV} {S : List AObj} {d : List ADef} (h : ∀ i ∈ o.reads, t'[i]? = t[i]?) : act call ph o t' S d = act call ph o t S d := by
  unfold act
  rw [wantOp_congr fun s w hg => h s (by simp [IOper.reads, hg]), oneOp_congr fun x hx => opd_congr fun i hi => h i (by simp only [IOper.reads, List.mem_append]; exact .inl (opdTmps_mem hx i hi))]

/-! What the kinds say -/

theorem act0 {call : Caller} {ph : Option Nat} {o : IOper} {t : List AV} {S S1 : List AObj} {d d1 : List ADef} {v : AV} (hk : kindOf o.op = 0) (h : act call ph o t S d = some (v, S1, d1)) :
    S1 = S ∧ d1 = d ∧ ∀ S' d', act call ph o t S' d' = some (v, S', d') := by
  unfold act at h ⊢
  cases hw : wantOp t o.guard with
  | none => rw [hw] at h; cases h
  | some b =>
    rw [hw] at h
    cases b with
    | false => cases h; exact ⟨rfl, rfl, fun _ _ => rfl⟩
    | true =>
      simp only at h ⊢
      generalize o.op = op at *
      cases op <;> try (simp [kindOf] at hk; done)
      case pcall f as =>
        simp only [oneOp] at h ⊢
        split at h
        · split at h
          · cases h; exact ⟨rfl, rfl, fun _ _ => rfl⟩
          · cases h
        · cases h
      all_goals
        simp only [oneOp, sop, rop] at h ⊢
        split at h
        · rename_i hs
          split at hs
          · rename_i hp
            cases hs; cases h
            refine ⟨rfl, rfl, fun _ _ => ?_⟩
            first | rw [hp] | rfl
          · cases hs
        · cases h

theorem cellsAt_set {S : List AObj} {r r' ver : Nat} {o : AObj} {rows : List (List AV)} (h : cellsAt S r' ver = some rows) (hr : S[r]? = some (.dead 0)) : cellsAt (S.set r o) r' ver = some rows := by
  have hne : r ≠ r' := by rintro rfl; simp [cellsAt, hr] at h
  unfold cellsAt at h ⊢
  rw [List.getElem?_set_ne hne]; exact h

theorem mapAt_set {S : List AObj} {r : Nat} {m : AV} {o : AObj} {es : List (AV × AV)} (h : mapAt S m = some es) (hr : S[r]? = some (.dead 0)) : mapAt (S.set r o) m = some es := by
  unfold mapAt at h ⊢
  split at h
  · exact h
  · rename_i q
    have hne : r ≠ q := by rintro rfl; simp [hr] at h
    rw [List.getElem?_set_ne hne]; exact h
  · cases h

theorem loadAt_set {S : List AObj} {r n : Nat} {a v : AV} {g : Bool} {o : AObj} (h : loadAt S g n a = some v) (hr : S[r]? = some (.dead 0)) : loadAt (S.set r o) g n a = some v := by
  unfold loadAt at h ⊢
  split at h
  · exact h
  · rename_i q ver i off
    cases hc : cellsAt S q ver with
    | none => rw [hc] at h; cases h
    | some rows => rw [hc] at h; simp only [cellsAt_set hc hr]; exact h
  · cases h

theorem srows_set {S : List AObj} {r : Nat} {x : AV} {o : AObj} {rows : List (List AV)} (h : srows S x = some rows) (hr : S[r]? = some (.dead 0)) : srows (S.set r o) x = some rows := by
  unfold srows at h ⊢
  split at h
  · exact h
  · exact h
  · rename_i q ver z off len
    cases hc : cellsAt S q ver with
    | none => rw [hc] at h; cases h
    | some rows => rw [hc] at h; simp only [cellsAt_set hc hr]; exact h
  · cases h

theorem frzV_set {S : List AObj} {r : Nat} {x u : AV} {o : AObj} (h : frzV S x = some u) (hr : S[r]? = some (.dead 0)) : frzV (S.set r o) x = some u := by
  unfold frzV at h ⊢
  split at h
  · rename_i hp; rw [if_pos hp]; exact h
  · rename_i hp
    rw [if_neg hp]
    split at h
    · rename_i a b c d e
      cases hc : srows S (.msl a b c d e) with
      | none => rw [hc] at h; cases h
      | some rows => rw [hc] at h; simp only [srows_set hc hr]; exact h
    · rename_i q ver i off
      cases hc : cellsAt S q ver with
      | none => rw [hc] at h; cases h
      | some rows => rw [hc] at h; simp only [cellsAt_set hc hr]; exact h
    · cases h

theorem frzL_set {S : List AObj} {r : Nat} {o : AObj} (hr : S[r]? = some (.dead 0)) : ∀ {l us : List AV}, frzL S l = some us → frzL (S.set r o) l = some us
  | [], _, h => h
  | x :: xs, us, h => by
    simp only [frzL] at h ⊢
    split at h
    · rename_i v vs h1 h2; rw [frzV_set h1 hr, frzL_set hr h2]; exact h
    · cases h

theorem frzA_set {S : List AObj} {r : Nat} {x u : AV} {o : AObj} (h : frzA S x = some u) (hr : S[r]? = some (.dead 0)) : frzA (S.set r o) x = some u := by
  unfold frzA at h ⊢
  split at h
  · cases hl : frzL S _ with
    | none => rw [hl] at h; cases h
    | some us => rw [hl] at h; simp only [frzL_set hr hl]; exact h
  · exact frzV_set h hr

theorem frzR_set {S : List AObj} {r : Nat} {o : AObj} (hr : S[r]? = some (.dead 0)) : ∀ {l us : List AV}, frzR S l = some us → frzR (S.set r o) l = some us
  | [], _, h => h
  | x :: xs, us, h => by
    simp only [frzR] at h ⊢
    split at h
    · rename_i v vs h1 h2; rw [frzA_set h1 hr, frzR_set hr h2]; exact h
    · cases h

theorem snapCall_set {call : Caller} {S : List AObj} {r : Nat} {o : AObj} {f v : AV} {as : List AV} (hr : S[r]? = some (.dead 0)) (h : snapCall call S f as = some v) : snapCall call (S.set r o) f as = some v := by
  unfold snapCall at h ⊢
  split at h
  · split at h
    · rename_i a b c ha hb hc
      simp only [frzR_set hr ha, frzR_set hr hb, frzR_set hr hc]; exact h
    · cases h
  · cases h

theorem act1 {call : Caller} {ph : Option Nat} {o : IOper} {t : List AV} {S S1 : List AObj} {d d1 : List ADef} {v : AV} (hk : kindOf o.op = 1) (h : act call ph o t S d = some (v, S1, d1)) :
    S1 = S ∧ d1 = d ∧ ∀ r ob, S[r]? = some (.dead 0) → act call ph o t (S.set r ob) d = some (v, S.set r ob, d) := by
  unfold act at h ⊢
  cases hw : wantOp t o.guard with
  | none => rw [hw] at h; cases h
  | some b =>
    rw [hw] at h
    cases b with
    | false => cases h; exact ⟨rfl, rfl, fun _ _ _ => rfl⟩
    | true =>
      simp only at h ⊢
      generalize o.op = op at *
      cases op <;> try (simp [kindOf] at hk; done)
      case load g n a =>
        simp only [oneOp, sop, rop] at h ⊢
        cases ha : opd t a with
        | none => rw [ha] at h; cases h
        | some u =>
          rw [ha] at h
          simp only at h ⊢
          cases hl : loadAt S g n u with
          | none => rw [hl] at h; cases h
          | some x => rw [hl] at h; cases h; exact ⟨rfl, rfl, fun r ob hr => by rw [loadAt_set hl hr]⟩
      case lenm x =>
        simp only [oneOp, sop, rop] at h ⊢
        cases ha : opd t x with
        | none => rw [ha] at h; cases h
        | some u =>
          rw [ha] at h
          simp only at h ⊢
          cases hl : mapAt S u with
          | none => rw [hl] at h; cases h
          | some x => rw [hl] at h; cases h; exact ⟨rfl, rfl, fun r ob hr => by rw [mapAt_set hl hr]⟩
      case b2s x =>
        simp only [oneOp, sop, rop] at h ⊢
        cases ha : opd t x with
        | none => rw [ha] at h; cases h
        | some u =>
          rw [ha] at h
          simp only at h ⊢
          cases hl : srows S u with
          | none => rw [hl] at h; cases h
          | some rows =>
            rw [hl] at h
            simp only at h
            cases hb : rowsBytes rows with
            | none => rw [hb] at h; cases h
            | some bs => rw [hb] at h; cases h; exact ⟨rfl, rfl, fun r ob hr => by rw [srows_set hl hr]; simp only [hb]; rfl⟩
      case scall f as =>
        simp only [oneOp] at h ⊢
        cases ha : opd t f with
        | none => rw [ha] at h; cases h
        | some u =>
          cases hb : opds t as with
          | none => rw [ha, hb] at h; cases h
          | some us =>
            rw [ha, hb] at h
            simp only at h ⊢
            cases hl : snapCall call S u us with
            | none => rw [hl] at h; cases h
            | some x => rw [hl] at h; cases h; exact ⟨rfl, rfl, fun r ob hr => by rw [snapCall_set hr hl]⟩
      case look ag ks m k zero ok =>
        simp only [oneOp, sop, rop] at h ⊢
        cases ha : opd t m with
        | none => rw [ha] at h; cases h
        | some um =>
          cases hb : opd t k with
          | none => rw [ha, hb] at h; cases h
          | some uk =>
            rw [ha, hb] at h
            simp only at h ⊢
            cases hko : keyOk ag ks uk with
            | false => simp [hko] at h
            | true =>
              simp only [hko, Bool.not_true, Bool.false_eq_true, if_false] at h ⊢
              cases hl : mapAt S um with
              | none => rw [hl] at h; cases h
              | some es =>
                rw [hl] at h
                simp only at h ⊢
                cases hf : mfind ag ks uk es with
                | none => rw [hf] at h; cases h
                | some q =>
                  rw [hf] at h
                  cases q with
                  | none => cases h; exact ⟨rfl, rfl, fun r ob hr => by rw [mapAt_set hl hr]; simp only [hf]⟩
                  | some q => cases h; exact ⟨rfl, rfl, fun r ob hr => by rw [mapAt_set hl hr]; simp only [hf]⟩

theorem newObj_some {r q : Nat} {o : AObj} {S S1 : List AObj} (h : newObj (some r) o S = some (q, S1)) : q = r ∧ S[r]? = some (.dead 0) ∧ S1 = S.set r o ∧ ∀ S', S'[r]? = some (.dead 0) → newObj (some r) o S' = some (r, S'.set r o) := by
  unfold newObj at h ⊢
  simp only at h ⊢
  split at h
  · rename_i hr; cases h; exact ⟨rfl, hr, rfl, fun S2 hS2 => by simp only [hS2]⟩
  · cases h

theorem act2 {call : Caller} {r : Nat} {o : IOper} {t : List AV} {S S1 : List AObj} {d d1 : List ADef} {v : AV} (hk : kindOf o.op = 2) (h : act call (some r) o t S d = some (v, S1, d1)) :
    d1 = d ∧ ((S1 = S ∧ ∀ S' d', act call (some r) o t S' d' = some (v, S', d')) ∨ ∃ ob, S[r]? = some (.dead 0) ∧ S1 = S.set r ob ∧ ∀ S' d', S'[r]? = some (.dead 0) → act call (some r) o t S' d' = some (v, S'.set r ob, d')) := by
  unfold act at h ⊢
  cases hw : wantOp t o.guard with
  | none => rw [hw] at h; cases h
  | some b =>
    rw [hw] at h
    cases b with
    | false => cases h; exact ⟨rfl, .inl ⟨rfl, fun _ _ => rfl⟩⟩
    | true =>
      simp only at h ⊢
      generalize o.op = op at *
      cases op
      case boxr x =>
        simp only [oneOp, sop] at h ⊢
        cases ha : opd t x with
        | none => rw [ha] at h; cases h
        | some u =>
          rw [ha] at h
          simp only at h ⊢
          cases hc : u.cells? with
          | none => rw [hc] at h; cases h
          | some cs =>
            rw [hc] at h
            simp only at h ⊢
            cases hn : newObj (some r) (.cells 0 [cs]) S with
            | none => rw [hn] at h; cases h
            | some p =>
              obtain ⟨q, S2⟩ := p
              rw [hn] at h
              cases h
              obtain ⟨rfl, h1, h2, h3⟩ := newObj_some hn
              exact ⟨rfl, .inr ⟨_, h1, h2, fun S' d' hS' => by rw [h3 S' hS']⟩⟩
      case alloc zero =>
        simp only [oneOp, sop] at h ⊢
        cases hn : newObj (some r) (.cells 0 [zero]) S with
        | none => rw [hn] at h; cases h
        | some p =>
          obtain ⟨q, S2⟩ := p
          rw [hn] at h
          cases h
          obtain ⟨rfl, h1, h2, h3⟩ := newObj_some hn
          exact ⟨rfl, .inr ⟨_, h1, h2, fun S' d' hS' => by rw [h3 S' hS']⟩⟩
      case mkmap =>
        simp only [oneOp, sop] at h ⊢
        cases hn : newObj (some r) (.map []) S with
        | none => rw [hn] at h; cases h
        | some p =>
          obtain ⟨q, S2⟩ := p
          rw [hn] at h
          cases h
          obtain ⟨rfl, h1, h2, h3⟩ := newObj_some hn
          exact ⟨rfl, .inr ⟨_, h1, h2, fun S' d' hS' => by rw [h3 S' hS']⟩⟩
      all_goals exact absurd hk (by simp [kindOf])

/-- An operation with the place that is kept for its new object. -/
structure Item where
  i : Nat
  ph : Option Nat
  o : IOper

/-- May y come ahead of x? -/
structure Swap (x y : Item) : Prop where
  ok : swapOk x.o y.o = true
  px : kindOf x.o.op = 2 → ∃ r, x.ph = some r
  py : kindOf y.o.op = 2 → ∃ r, y.ph = some r
  ne : kindOf x.o.op = 2 → kindOf y.o.op = 2 → x.ph ≠ y.ph

theorem putT_get {t : List AV} {dst : Option Nat} {v : AV} {i : Nat} (h : dst ≠ some i) : (putT t dst v)[i]? = t[i]? := by
  cases dst with
  | none => rfl
  | some d => simp only [putT]; rw [List.getElem?_set_ne]; intro hd; exact h (by rw [hd])

theorem putT_comm {t : List AV} {a b : Option Nat} {u v : AV} (h : ∀ d, a = some d → b ≠ some d) : putT (putT t a u) b v = putT (putT t b v) a u := by
  cases a with
  | none => rfl
  | some i => cases b with
    | none => rfl
    | some j => simp only [putT]; exact List.set_comm _ _ (fun hij => h i rfl (by rw [hij]))

theorem swap_sim {call : Caller} {x y : Item} (h : Swap x y) {st s1 s2 : St} (h1 : stepOp call x.ph x.o st = some s1) (h2 : stepOp call y.ph y.o s1 = some s2) :
    ∃ s1', stepOp call y.ph y.o st = some s1' ∧ stepOp call x.ph x.o s1' = some s2 := by
  obtain ⟨hok, hpx, hpy, hne⟩ := h
  simp only [swapOk, apartT, Bool.and_eq_true] at hok
  obtain ⟨⟨ha, hb⟩, hk⟩ := hok
  rw [stepOp_act] at h1 h2
  simp only [Option.map_eq_some_iff] at h1 h2
  obtain ⟨⟨v1, S1, d1⟩, h1, rfl⟩ := h1
  obtain ⟨⟨v2, S2, d2⟩, h2, rfl⟩ := h2
  simp only at h2
  have hya : ∀ i ∈ y.o.reads, (putT st.t x.o.dst v1)[i]? = st.t[i]? := fun i hi => putT_get fun hd => by
    rw [hd] at ha; simp only [Bool.and_eq_true, Bool.not_eq_true', bne_iff_ne, ne_eq] at ha
    exact absurd hi (by simpa using ha.1)
  have hxa : ∀ v, ∀ i ∈ x.o.reads, (putT st.t y.o.dst v)[i]? = st.t[i]? := fun v i hi => putT_get fun hd => by
    rw [hd] at hb; simp only [Bool.and_eq_true, Bool.not_eq_true', bne_iff_ne, ne_eq] at hb
    exact absurd hi (by simpa using hb.1)
  have hdd : ∀ d, x.o.dst = some d → y.o.dst ≠ some d := fun d hd => by
    rw [hd] at ha; simp only [Bool.and_eq_true, bne_iff_ne, ne_eq] at ha
    exact ha.2
  rw [act_congr hya] at h2
  have key : ∃ S' d', act call y.ph y.o st.t st.s st.d = some (v2, S', d') ∧ act call x.ph x.o st.t S' d' = some (v1, S2, d2) := by
    by_cases hx0 : kindOf x.o.op = 0
    · obtain ⟨rfl, rfl, h3⟩ := act0 hx0 h1
      exact ⟨_, _, h2, h3 _ _⟩
    by_cases hy0 : kindOf y.o.op = 0
    · obtain ⟨rfl, rfl, h3⟩ := act0 hy0 h2
      exact ⟨_, _, h3 _ _, h1⟩
    simp only [swapK, Bool.or_eq_true, beq_iff_eq, Bool.and_eq_true, hx0, hy0, false_or] at hk
    rcases hk with (⟨hx1, hy1⟩ | ⟨hx1, hy2⟩) | ⟨hx2, hy2⟩
    · obtain ⟨rfl, rfl, _⟩ := act1 hx1 h1
      obtain ⟨rfl, rfl, _⟩ := act1 hy1 h2
      exact ⟨_, _, h2, h1⟩
    · obtain ⟨rfl, rfl, h3⟩ := act1 hx1 h1
      obtain ⟨r, hr⟩ := hpy hy2
      rw [hr] at h2 ⊢
      obtain ⟨rfl, ⟨rfl, _⟩ | ⟨ob, k1, rfl, k2⟩⟩ := act2 hy2 h2
      · exact ⟨_, _, h2, h1⟩
      · exact ⟨_, _, h2, h3 r ob k1⟩
    · obtain ⟨r, hr⟩ := hpx hx2
      obtain ⟨q, hq⟩ := hpy hy2
      have hrq : r ≠ q := fun h => hne hx2 hy2 (by rw [hr, hq, h])
      rw [hr] at h1 ⊢
      rw [hq] at h2 ⊢
      obtain ⟨rfl, hA⟩ := act2 hx2 h1
      obtain ⟨rfl, hB⟩ := act2 hy2 h2
      rcases hA with ⟨rfl, hA⟩ | ⟨oa, a1, rfl, a2⟩
      · exact ⟨_, _, h2, hA _ _⟩
      · rcases hB with ⟨rfl, hB⟩ | ⟨ob, b1, rfl, b2⟩
        · exact ⟨_, _, hB _ _, h1⟩
        · rw [List.getElem?_set_ne hrq] at b1
          refine ⟨_, _, b2 _ _ b1, ?_⟩
          rw [List.set_comm _ _ hrq]
          exact a2 _ _ (by rw [List.getElem?_set_ne (Ne.symm hrq)]; exact a1)
  obtain ⟨S', d', k1, k2⟩ := key
  refine ⟨{ st with t := putT st.t y.o.dst v2, s := S', d := d' }, by rw [stepOp_act, k1]; rfl, ?_⟩
  rw [stepOp_act]
  simp only
  rw [act_congr (hxa v2), k2]
  simp only [Option.map_some, Option.some.injEq]
  rw [putT_comm hdd]

def runIt (call : Caller) : List Item → St → Option St
  | [], st => some st
  | x :: xs, st => match stepOp call x.ph x.o st with
    | some st' => runIt call xs st'
    | none => none

theorem front_sim {call : Caller} {x : Item} {post : List Item} {st' : St} : ∀ {pre : List Item} {st : St}, (∀ y ∈ pre, Swap y x) → runIt call (pre ++ x :: post) st = some st' → runIt call (x :: (pre ++ post)) st = some st'
  | [], st, _, h => h
  | y :: pre, st, hs, h => by
    simp only [List.cons_append, runIt] at h
    split at h
    · rename_i s1 h1
      have := front_sim (pre := pre) (fun z hz => hs z (List.mem_cons_of_mem _ hz)) h
      simp only [runIt] at this
      split at this
      · rename_i s2 h2
        obtain ⟨s1', k1, k2⟩ := swap_sim (hs y (by simp)) h1 h2
        simp only [runIt, k1, List.cons_append, k2]
        exact this
      · cases this
    · cases h

end Go.Proofs.YtleommjdeejmkaaGreatDoor.Zq
