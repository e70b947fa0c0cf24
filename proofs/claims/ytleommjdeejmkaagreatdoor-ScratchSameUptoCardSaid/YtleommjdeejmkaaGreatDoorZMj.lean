/-
  A region that draws its order: whatever order is drawn, it comes to what the order of the text comes to.
  Conditions: none; lemmas.
-/
import Derived.Test.YtleommjdeejmkaaGreatDoorZMi
import Derived.Test.YtleommjdeejmkaaGreatDoorZMh
set_option linter.all false

namespace Go.Proofs.YtleommjdeejmkaaGreatDoor.Zq
open Go Go.RowKit

/-! The sets of what is ahead -/

def Closed (D : Nat → Prop) (ops : List Oper) : Prop := ∀ k o, ops[k]? = some o → D k → ∀ e ∈ o.after.toList, Region.binds .any e = true → D e.on

theorem aheadM_spec {ms : List Nat} {i : Nat} : ∀ {es : List Edge}, (aheadM ms es).testBit i = true → ∃ e ∈ es, Region.binds .any e = true ∧ (e.on = i ∨ (ms.getD e.on 0).testBit i = true)
  | [], h => by simp [aheadM] at h
  | e :: es, h => by
    simp only [aheadM] at h
    split at h
    · rename_i hb
      simp only [Nat.testBit_or, Bool.or_eq_true, Nat.one_shiftLeft, Nat.testBit_two_pow, decide_eq_true_eq] at h
      rcases h with (h | h) | h
      · exact ⟨e, by simp, hb, .inl h⟩
      · exact ⟨e, by simp, hb, .inr h⟩
      · obtain ⟨e', h1, h2⟩ := aheadM_spec h; exact ⟨e', by simp [h1], h2⟩
    · obtain ⟨e', h1, h2⟩ := aheadM_spec h; exact ⟨e', by simp [h1], h2⟩

theorem aheadL_spec {D : Nat → Prop} {ops : List Oper} (hD : Closed D ops) : ∀ {rest pre : List Oper} {ms : List Nat}, ops = pre ++ rest → ms.length = pre.length → (∀ k i, (ms.getD k 0).testBit i = true → D k → D i) →
    ∀ k i, ((aheadL ms rest).getD k 0).testBit i = true → D k → D i
  | [], pre, ms, _, _, h => h
  | o :: rest, pre, ms, he, hl, h => by
    simp only [aheadL]
    refine aheadL_spec hD (pre := pre ++ [o]) (by simp [he]) (by simp [hl]) fun k i hk hDk => ?_
    rcases Nat.lt_trichotomy k ms.length with hlt | heq | hgt
    · rw [List.getD_eq_getElem?_getD, List.getElem?_append_left hlt, ← List.getD_eq_getElem?_getD] at hk
      exact h k i hk hDk
    · subst heq
      rw [List.getD_eq_getElem?_getD, List.getElem?_append_right (Nat.le_refl _)] at hk
      simp only [Nat.sub_self, List.getElem?_cons_zero, Option.getD_some] at hk
      obtain ⟨e, h1, h2, h3⟩ := aheadM_spec hk
      have ho : ops[ms.length]? = some o := by rw [he, hl]; simp
      have hDe := hD _ o ho hDk e h1 h2
      rcases h3 with h3 | h3
      · rw [← h3]; exact hDe
      · exact h _ _ h3 hDe
    · rw [List.getD_eq_getElem?_getD, List.getElem?_eq_none (by simp; omega)] at hk
      simp at hk

theorem pairsOk_spec {ms : List Nat} : ∀ {os : List IOper} {j : Nat} {pre : List (Nat × IOper)}, pairsOk ms j pre os = true →
    (∀ i x, (i, x) ∈ pre → ∀ k o, os[k]? = some o → (ms.getD (j + k) 0).testBit i = true ∨ swapOk x o = true) ∧
    (∀ i k x o, i < k → os[i]? = some x → os[k]? = some o → (ms.getD (j + k) 0).testBit (j + i) = true ∨ swapOk x o = true)
  | [], j, pre, _ => ⟨fun i x _ k o h => by simp at h, fun i k x o _ h => by simp at h⟩
  | o :: os, j, pre, h => by
    simp only [pairsOk, Bool.and_eq_true, List.all_eq_true, Bool.or_eq_true] at h
    obtain ⟨h1, h2⟩ := h
    obtain ⟨k1, k2⟩ := pairsOk_spec h2
    refine ⟨fun i x hx k o' hk => ?_, fun i k x o' hik hi hk => ?_⟩
    · cases k with
      | zero => simp at hk; subst hk; exact h1 (i, x) hx
      | succ k => rw [show j + (k + 1) = j + 1 + k by omega]; exact k1 i x (List.mem_append_left _ hx) k o' (by simpa using hk)
    · cases k with
      | zero => omega
      | succ k =>
        rw [show j + (k + 1) = j + 1 + k by omega]
        cases i with
        | zero => simp at hi; subst hi; exact k1 j o (by simp) k o' (by simpa using hk)
        | succ i => rw [show j + (i + 1) = j + 1 + i by omega]; exact k2 i k x o' (by omega) (by simpa using hi) (by simpa using hk)

theorem edgesOk_spec : ∀ {os : List Oper} {j : Nat}, edgesOk j os = true → ∀ k o, os[k]? = some o → ∀ e ∈ o.after.toList, Region.binds .any e = true → e.on < j + k
  | [], j, _, k, o, h => by simp at h
  | o :: os, j, h, k, o', hk => by
    simp only [edgesOk, Bool.and_eq_true, List.all_eq_true, Bool.or_eq_true, Bool.not_eq_true', decide_eq_true_eq] at h
    cases k with
    | zero =>
      simp at hk; subst hk
      intro e he hb
      rcases h.1 e he with h | h
      · rw [hb] at h; cases h
      · exact h
    | succ k => intro e he hb; have := edgesOk_spec h.2 k o' (by simpa using hk) e he hb; omega

/-! The items of a region -/

def items : Nat → Nat → List IOper → List Item
  | _, _, [] => []
  | r, i, o :: os => ⟨i, if isA o.op then some r else none, o⟩ :: items (if isA o.op then r + 1 else r) (i + 1) os

theorem runDraw_items {call : Caller} : ∀ {os : List IOper} {r i : Nat} {st : St}, runDraw call r os st = runIt call (items r i os) st
  | [], _, _, _ => rfl
  | o :: os, r, i, st => by
    simp only [runDraw, items, runIt]
    cases stepOp call (if isA o.op then some r else none) o st with
    | none => rfl
    | some st' => exact runDraw_items

theorem items_len : ∀ {os : List IOper} {r i : Nat}, (items r i os).length = os.length
  | [], _, _ => rfl
  | o :: os, r, i => by simp only [items, List.length_cons, items_len]

theorem items_get : ∀ {os : List IOper} {r i k : Nat} {o : IOper}, os[k]? = some o → ∃ x ∈ items r i os, x.i = i + k ∧ x.o = o
  | [], r, i, k, o, h => by simp at h
  | o' :: os, r, i, k, o, h => by
    cases k with
    | zero => simp at h; subst h; exact ⟨_, List.mem_cons_self, rfl, rfl⟩
    | succ k =>
      obtain ⟨x, h1, h2, h3⟩ := items_get (r := if isA o'.op then r + 1 else r) (i := i + 1) (os := os) (k := k) (o := o) (by simpa using h)
      exact ⟨x, List.mem_cons_of_mem _ h1, by omega, h3⟩

theorem items_mem : ∀ {os : List IOper} {r i : Nat} {x : Item}, x ∈ items r i os → (∃ k, x.i = i + k ∧ os[k]? = some x.o) ∧ (∀ q, x.ph = some q → r ≤ q) ∧ (kindOf x.o.op = 2 → ∃ q, x.ph = some q)
  | [], r, i, x, h => by simp [items] at h
  | o :: os, r, i, x, h => by
    simp only [items, List.mem_cons] at h
    rcases h with rfl | h
    · refine ⟨⟨0, rfl, rfl⟩, fun q hq => ?_, fun hk => ?_⟩
      · simp only at hq
        split at hq
        · cases hq; exact Nat.le_refl _
        · cases hq
      · have : isA o.op = true := by
          simp only at hk
          generalize o.op = op at hk
          cases op <;> first | rfl | (simp [kindOf] at hk; done)
        exact ⟨r, by simp [this]⟩
    · obtain ⟨⟨k, h1, h2⟩, h3, h4⟩ := items_mem h
      refine ⟨⟨k + 1, by omega, by simpa using h2⟩, fun q hq => ?_, h4⟩
      have := h3 q hq
      split at this <;> omega

theorem items_pair : ∀ {os : List IOper} {r i : Nat}, (items r i os).Pairwise fun x y => x.i < y.i ∧ ∀ a b, x.ph = some a → y.ph = some b → a < b
  | [], _, _ => .nil
  | o :: os, r, i => by
    refine .cons (fun y hy => ?_) items_pair
    obtain ⟨⟨k, h1, _⟩, h3, _⟩ := items_mem hy
    refine ⟨by simp only; omega, fun a b ha hb => ?_⟩
    simp only at ha
    have := h3 b hb
    split at ha
    · rename_i hA
      cases ha
      rw [if_pos hA] at this; omega
    · cases ha

section
variable {E : Env} {base : World} {n : Nat}

theorem mOps_get {all : List Oper} : ∀ {ios : List IOper} {os : List Oper} {k : Nat} {o : Oper}, mOps E all ios os = true → os[k]? = some o → ∃ io, ios[k]? = some io ∧ mOper E all io o = true
  | [], [], k, o, _, h => by simp at h
  | [], _ :: _, _, _, h, _ => by simp [mOps] at h
  | _ :: _, [], _, _, h, _ => by simp [mOps] at h
  | io :: ios, o' :: os, k, o, h, hk => by
    simp only [mOps, Bool.and_eq_true] at h
    cases k with
    | zero => simp at hk; subst hk; exact ⟨io, rfl, h.1⟩
    | succ k => obtain ⟨io', h1, h2⟩ := mOps_get h.2 (by simpa using hk); exact ⟨io', by simpa using h1, h2⟩

theorem draw_any (hc : CallOk E n) {ro : Option Nat} {iops : List IOper} {ops : Array Oper} (hcalm : ro ≠ none → ∀ o ∈ iops, calmOp o.op = true) (hm : mOps E ops.toList iops ops.toList = true) (hedge : edgesOk 0 ops.toList = true)
    (hpair : pairsOk (aheadL [] ops.toList) 0 [] iops = true) {r : Nat} {st' : St} {V0 : Vw} {Q : Exit → Act → World → Prop} (hK : ∀ w' μ' a', Good E base V0 { w := w', μ := μ', S := st'.s, X := V0.X } st' a' → Q .normal a' w') :
    ∀ (fuel : Nat) (listed : Array Bool) (st : St) (V : Vw) (a : Act), listed.size = ops.size → ((items r 0 iops).filter fun x => !listed.getD x.i true).length ≤ fuel →
      runIt (ecall E.T n) ((items r 0 iops).filter fun x => !listed.getD x.i true) st = some st' → Closed (fun k => listed.getD k false = true) ops.toList → Good E base V0 V st a →
      wpAnyIn (Wd ro) 0 E.P .any ops Q fuel listed a V.w := by
  have hlen : iops.length = ops.size := by rw [mOps_length hm, Array.length_toList]
  -- what is ready is among what remains
  have hmem : ∀ (listed : Array Bool) (i : Nat), i ∈ Region.ready .any ops listed → ∃ x ∈ (items r 0 iops).filter (fun x => !listed.getD x.i true), x.i = i ∧ ∃ o, ops[i]? = some o ∧ mOper E ops.toList x.o o = true ∧ ∀ e ∈ o.after, Region.binds .any e = true → listed.getD e.on false = true := by
    intro listed i hi
    obtain ⟨h0, o, ho, hall⟩ := mem_ready.1 hi
    obtain ⟨io, h1, h2⟩ := mOps_get hm (k := i) (o := o) (by simpa using ho)
    obtain ⟨x, x1, x2, x3⟩ := items_get (r := r) (i := 0) h1
    have hxi : x.i = i := by omega
    exact ⟨x, List.mem_filter.2 ⟨x1, by rw [hxi, h0]; rfl⟩, hxi, o, ho, by rw [x3]; exact h2, hall⟩
  -- if nothing is ready, nothing remains
  have hnil : ∀ (listed : Array Bool), listed.size = ops.size → Region.ready .any ops listed = [] → (items r 0 iops).filter (fun x => !listed.getD x.i true) = [] := by
    intro listed hsz hr
    rw [List.filter_eq_nil_iff]
    intro x hx
    suffices h : ∀ m i, i < m → listed.getD i true = true by
      simp only [h (x.i + 1) x.i (by omega), Bool.not_true]; simp
    intro m
    induction m with
    | zero => intro i hi; omega
    | succ m ih =>
      intro i hi
      rcases Nat.lt_or_ge i m with h | h
      · exact ih i h
      · have him : i = m := by omega
        subst him
        cases hl : listed.getD i true with
        | true => rfl
        | false =>
          exfalso
          have hlt : i < ops.size := by
            rcases Nat.lt_or_ge i ops.size with h | h
            · exact h
            · rw [Array.getD_eq_getD_getElem?, Array.getElem?_eq_none (by omega)] at hl; cases hl
          have : i ∈ Region.ready .any ops listed := mem_ready.2 ⟨hl, ops[i], by simp [hlt], fun e he hb => by
            have h1 := edgesOk_spec hedge i ops[i] (by simp [hlt]) e (by simpa using he) hb
            have h2 := ih e.on (by omega)
            rw [Array.getD_eq_getD_getElem?] at h2 ⊢
            rw [Array.getElem?_eq_getElem (by omega)] at h2 ⊢
            exact h2⟩
          rw [hr] at this; cases this
  intro fuel
  induction fuel with
  | zero =>
    intro listed st V a hsz hle hrun hcl hg
    have hrem : (items r 0 iops).filter (fun x => !listed.getD x.i true) = [] := List.length_eq_zero_iff.1 (by omega)
    refine ⟨?_, ?_⟩
    · cases hrd : Region.ready .any ops listed with
      | nil => rfl
      | cons i l =>
        obtain ⟨x, hx, _⟩ := hmem listed i (by rw [hrd]; simp)
        rw [hrem] at hx; cases hx
    · rw [hrem] at hrun
      simp only [runIt, Option.some.injEq] at hrun
      subst hrun
      obtain ⟨μ', hg'⟩ := hg.self
      exact hK _ _ _ hg'
  | succ fuel ih =>
    intro listed st V a hsz hle hrun hcl hg
    refine ⟨fun hrd => ?_, fun i hi => ?_⟩
    · rw [hnil listed hsz hrd] at hrun
      simp only [runIt, Option.some.injEq] at hrun
      subst hrun
      obtain ⟨μ', hg'⟩ := hg.self
      exact hK _ _ _ hg'
    · obtain ⟨x, hx, hxi, o, ho, hmo, hall⟩ := hmem listed i hi
      obtain ⟨h0, _⟩ := mem_ready.1 hi
      have hpw : ((items r 0 iops).filter fun x => !listed.getD x.i true).Pairwise fun x y => x.i < y.i ∧ ∀ a b, x.ph = some a → y.ph = some b → a < b := items_pair.filter _
      have hmemI : ∀ y, y ∈ (items r 0 iops).filter (fun x => !listed.getD x.i true) → y ∈ items r 0 iops ∧ listed.getD y.i true = false := fun y hy => by
        obtain ⟨h1, h2⟩ := List.mem_filter.1 hy
        exact ⟨h1, by simpa using h2⟩
      obtain ⟨pre, post, hsplit⟩ := List.append_of_mem hx
      rw [hsplit] at hpw hrun
      obtain ⟨hpw1, hpw2, hpw3⟩ := List.pairwise_append.1 hpw
      have hpre : ∀ y ∈ pre, y.i < x.i ∧ ∀ a b, y.ph = some a → x.ph = some b → a < b := fun y hy => hpw3 y hy x (by simp)
      have hpost : ∀ y ∈ post, x.i < y.i := fun y hy => ((List.pairwise_cons.1 hpw2).1 y hy).1
      have hswap : ∀ y ∈ pre, Swap y x := by
        intro y hy
        obtain ⟨hyI, hyl⟩ := hmemI y (by rw [hsplit]; simp [hy])
        obtain ⟨hxI, _⟩ := hmemI x hx
        obtain ⟨⟨ky, ky1, ky2⟩, _, ky4⟩ := items_mem hyI
        obtain ⟨⟨kx, kx1, kx2⟩, _, kx4⟩ := items_mem hxI
        have hlt := (hpre y hy).1
        refine ⟨?_, ky4, kx4, fun h1 h2 he => ?_⟩
        · rcases (pairsOk_spec hpair).2 ky kx y.o x.o (by omega) ky2 kx2 with h | h
          · exfalso
            have hD : Closed (fun k => listed.getD k false = true ∨ k = i) ops.toList := fun k ok hk hDk e he hb => by
              rcases hDk with hDk | rfl
              · exact .inl (hcl k ok hk hDk e he hb)
              · have : ok = o := by
                  have h1 : ops[k]? = some ok := by simpa using hk
                  rw [ho] at h1; exact (Option.some.inj h1).symm
                subst this
                exact .inl (hall e (by simpa using he) hb)
            have := aheadL_spec hD (pre := []) (ms := []) rfl rfl (fun k i h => by simp at h) (0 + kx) (0 + ky) h (.inr (by omega))
            rcases this with h | h
            · rw [show (0 + ky) = y.i by omega] at h
              rw [Array.getD_eq_getD_getElem?] at h hyl
              cases hg : listed[y.i]? with
              | none => rw [hg] at h; cases h
              | some b => rw [hg] at h hyl; simp at h hyl; rw [h] at hyl; cases hyl
            · omega
          · exact h
        · obtain ⟨a, ha⟩ := ky4 h1
          obtain ⟨b, hb⟩ := kx4 h2
          have := (hpre y hy).2 a b ha hb
          rw [ha, hb] at he
          cases he; omega
      have hfront := front_sim hswap hrun
      simp only [runIt] at hfront
      split at hfront
      · rename_i st1 h1
        refine step_sim hc (io := x.o) (fun h => ?_) ho hmo h1 hg fun w' μ' a' hg' => ?_
        · obtain ⟨⟨k, _, hk⟩, _⟩ := items_mem (hmemI x hx).1
          exact hcalm h x.o (List.mem_of_getElem? hk)
        · have hrem : (items r 0 iops).filter (fun x => !(listed.setIfInBounds i true).getD x.i true) = pre ++ post := by
            have h1 : (items r 0 iops).filter (fun x => !(listed.setIfInBounds i true).getD x.i true) = ((items r 0 iops).filter fun x => !listed.getD x.i true).filter fun y => decide (y.i ≠ i) := by
              rw [List.filter_filter]
              refine List.filter_congr fun y _ => ?_
              by_cases hyi : y.i = i
              · have : (listed.setIfInBounds i true).getD i true = true := by
                  rw [Array.getD_eq_getD_getElem?]
                  by_cases hlt : i < listed.size
                  · simp [hlt]
                  · simp [hlt]
                simp [hyi, this]
              · rw [getD_set_ne true (Ne.symm hyi)]; simp [hyi]
            rw [h1, hsplit, List.filter_append, List.filter_cons]
            have hA : pre.filter (fun y => decide (y.i ≠ i)) = pre := List.filter_eq_self.2 fun y hy => by have := (hpre y hy).1; simp; omega
            have hB : post.filter (fun y => decide (y.i ≠ i)) = post := List.filter_eq_self.2 fun y hy => by have := hpost y hy; simp; omega
            rw [hA, hB]; simp [hxi]
          refine ih (listed.setIfInBounds i true) st1 _ a' (by simp [hsz]) ?_ ?_ ?_ hg'
          · rw [hrem]
            rw [hsplit] at hle
            simp at hle ⊢; omega
          · rw [hrem]; exact hfront
          · intro k ok hk hDk e he hb
            by_cases hki : k = i
            · subst hki
              have : ok = o := by
                have h1 : ops[k]? = some ok := by simpa using hk
                rw [ho] at h1; exact (Option.some.inj h1).symm
              subst this
              exact getD_set_true (hall e (by simpa using he) hb)
            · rw [getD_set_ne false (Ne.symm hki)] at hDk
              exact getD_set_true (hcl k ok hk hDk e he hb)
      · cases hfront

/-- Places for new objects. -/
theorem places_sim {V : Vw} (hw : WRel E base V) (k : Nat) : Later V { V with S := V.S ++ List.replicate k (.dead 0) } ∧ WRel E base { V with S := V.S ++ List.replicate k (.dead 0) } := by
  have hlo : ∀ r, r < V.S.length → (V.S ++ List.replicate k (AObj.dead 0))[r]? = V.S[r]? := fun r hr => List.getElem?_append_left hr
  have hhi : ∀ r o, ¬ r < V.S.length → (V.S ++ List.replicate k (AObj.dead 0))[r]? = some o → o = .dead 0 := fun r o hr h => by
    rw [List.getElem?_append_right (by omega), List.getElem?_replicate] at h
    split at h
    · cases h; rfl
    · cases h
  have hlive : ∀ r, live (V.S ++ List.replicate k (.dead 0)) r → live V.S r := fun r ⟨o, ho, ha⟩ => by
    by_cases hr : r < V.S.length
    · exact ⟨o, by rw [← hlo r hr]; exact ho, ha⟩
    · rw [hhi r o hr ho] at ha; cases ha
  have hL : Later V { V with S := V.S ++ List.replicate k (.dead 0) } := by
    refine ⟨fun r => ?_, fun r ver rows' h h' => ?_, fun r es' h h' => ?_, fun r a b c d e f h h' => ?_, fun r s p h h' => ?_, Nat.le_refl _, fun b hb => ⟨⟨hb.1, hb.2.1, fun r hr => hb.2.2 r (hlive r hr)⟩, rfl⟩, rfl⟩
    · by_cases hr : r < V.S.length
      · exact Nat.le_of_eq (bound_congr (hlo r hr)).symm
      · rw [bound, List.getElem?_eq_none (by omega)]; exact Nat.zero_le _
    · exact ⟨rows', by rw [← cellsAt_congr (hlo r (bound_lt h))]; exact h', Nat.le_refl _, rfl⟩
    · exact ⟨⟨es', by rw [← hlo r (bound_lt h)]; exact h'⟩, rfl⟩
    · exact ⟨⟨a, b, c, d, e, f, by rw [← hlo r (bound_lt h)]; exact h'⟩, rfl⟩
    · exact ⟨⟨s, p, by rw [← hlo r (bound_lt h)]; exact h'⟩, rfl⟩
  refine ⟨hL, hw.below, fun r h => hw.own r (hlive r h), fun r r' h h' hne => hw.inj r r' (hlive r h) (hlive r' h') hne, fun r o ho => ?_, hw.xlt, hw.glob⟩
  by_cases hr : r < V.S.length
  · by_cases ha : o.alive = true
    · exact (hw.obj r o (by rw [← hlo r hr]; exact ho)).later hL rfl
    · cases o <;> simp [AObj.alive] at ha; trivial
  · rw [hhi r o hr ho]; trivial

/-- A draw turns nothing. -/
theorem drew_sim {V : Vw} (hw : WRel E base V) : Later V { V with w := { V.w with drawn := V.w.drawn + 1 } } ∧ WRel E base { V with w := { V.w with drawn := V.w.drawn + 1 } } := by
  have hL : Later V { V with w := { V.w with drawn := V.w.drawn + 1 } } :=
    ⟨fun _ => Nat.le_refl _, fun _ _ rows' _ h => ⟨rows', h, Nat.le_refl _, rfl⟩, fun _ es' _ h => ⟨⟨es', h⟩, rfl⟩, fun _ fr ps as bo st pe _ h => ⟨⟨fr, ps, as, bo, st, pe, h⟩, rfl⟩, fun _ s p _ h => ⟨⟨s, p, h⟩, rfl⟩, Nat.le_refl _, fun b hb => ⟨hb, rfl⟩, rfl⟩
  refine ⟨hL, ⟨hw.below.os, hw.below.tape, hw.below.output, hw.below.size, hw.below.block⟩, hw.own, hw.inj, fun r o ho => (hw.obj r o ho).later hL rfl, hw.xlt, hw.glob⟩

theorem draw_ok : DrawOk E := by
  intro n hc ro id iops ops st st' base V0 V a Q hcalm hm hd hr hg hK
  simp only [drawOk, Bool.and_eq_true] at hd
  obtain ⟨⟨hmix, hedge⟩, hpair⟩ := hd
  obtain ⟨gs, gb, gl, gw, gf, gd⟩ := hg
  obtain ⟨L1, W1⟩ := drew_sim gw
  obtain ⟨L2, W2⟩ := places_sim W1 (countA iops)
  have LL := L1.trans L2
  have hall : (items st.s.length 0 iops).filter (fun x => !(Array.replicate ops.size false).getD x.i true) = items st.s.length 0 iops := by
    refine List.filter_eq_self.2 fun x hx => ?_
    obtain ⟨⟨k, h1, h2⟩, _⟩ := items_mem hx
    have hlt : x.i < ops.size := by
      rw [← Array.length_toList, ← mOps_length hm]
      have := get_lt h2
      omega
    simp [hlt]
  refine wpIn_region_any hmix ?_
  refine draw_any (V := { V with w := { V.w with drawn := V.w.drawn + 1 }, S := V.S ++ List.replicate (countA iops) (.dead 0) }) (r := st.s.length) (st' := st') hc hcalm hm hedge hpair hK ops.size _ { st with s := st.s ++ List.replicate (countA iops) (.dead 0) } a (by simp) ?_ ?_ ?_ ?_
  · rw [hall, items_len, mOps_length hm, Array.length_toList]; exact Nat.le_refl _
  · rw [hall, ← runDraw_items]; exact hr
  · intro k o hk hDk
    simp [Array.getElem?_replicate] at hDk
    split at hDk <;> simp at hDk
  · exact ⟨by simp only; rw [gs], gb, gl.trans LL, W2, gf.later LL, gd.later LL⟩

/-- A run of the abstract machine is one of the program's. -/
theorem call_sim (hF : Fits E) (n : Nat) : CallOk E n := (sim_all hF draw_ok n).1

end
end Go.Proofs.YtleommjdeejmkaaGreatDoor.Zq
