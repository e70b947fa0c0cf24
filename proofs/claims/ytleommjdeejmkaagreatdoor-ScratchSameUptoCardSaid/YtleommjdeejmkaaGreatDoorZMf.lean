/-
  How readings pass from one view of a world to another: values without live objects, values whose objects are kept, values that are taken by value.
  What holds at each point of an activation; what is done to the abstract state alone.
  Conditions: none but those that each theorem names.
-/
import Derived.Test.YtleommjdeejmkaaGreatDoorZMe
import Derived.RangeFuncLeaves
set_option linter.all false

namespace Go.Proofs.YtleommjdeejmkaaGreatDoor.Zq
open Go Go.RowKit

theorem limL_get {n : Nat} : ∀ {l : List AV} {i : Nat} {x : AV}, limL n l = true → l[i]? = some x → x.lim n = true
  | [], i, x, _, h => by simp at h
  | y :: ys, 0, x, hl, h => by simp at h; subst h; simp only [limL, Bool.and_eq_true] at hl; exact hl.1
  | y :: ys, i + 1, x, hl, h => by simp at h; simp only [limL, Bool.and_eq_true] at hl; exact limL_get hl.2 h

theorem limLL_get {n : Nat} : ∀ {l : List (List AV)} {i : Nat} {x : List AV}, limLL n l = true → l[i]? = some x → limL n x = true
  | [], i, x, _, h => by simp at h
  | y :: ys, 0, x, hl, h => by simp at h; subst h; simp only [limLL, Bool.and_eq_true] at hl; exact hl.1
  | y :: ys, i + 1, x, hl, h => by simp at h; simp only [limLL, Bool.and_eq_true] at hl; exact limLL_get hl.2 h

theorem limL_of {n : Nat} : ∀ {l : List AV}, (∀ (i : Nat) (x : AV), l[i]? = some x → x.lim n = true) → limL n l = true
  | [], _ => rfl
  | y :: ys, h => by
    simp only [limL, Bool.and_eq_true]
    exact ⟨h 0 y rfl, limL_of fun i x hi => h (i + 1) x (by simpa using hi)⟩

theorem limLL_of {n : Nat} : ∀ {l : List (List AV)}, (∀ (i : Nat) (x : List AV), l[i]? = some x → limL n x = true) → limLL n l = true
  | [], _ => rfl
  | y :: ys, h => by
    simp only [limLL, Bool.and_eq_true]
    exact ⟨h 0 y rfl, limLL_of fun i x hi => h (i + 1) x (by simpa using hi)⟩

mutual
theorem pure_lim : ∀ {x : AV}, x.pure = true → x.lim 0 = true
  | .junk, h | .ref .., h | .msl .., h | .mp _, h | .it _, h | .fn (.y _) _ _, h => by simp [AV.pure] at h
  | .vptr row _, h => by simp only [AV.pure] at h; simpa only [AV.lim] using pureL_lim h
  | .sl _ rows, h => by simp only [AV.pure] at h; simpa only [AV.lim] using pureLL_lim h
  | .fn (.f _) a b, h => by
    simp only [AV.pure, Bool.and_eq_true] at h
    simp only [AV.lim, Bool.and_eq_true]; exact ⟨pureL_lim h.1, pureL_lim h.2⟩
  | .iface _ v, h => by simp only [AV.pure] at h; simpa only [AV.lim] using pure_lim h
  | .agg cs, h => by simp only [AV.pure] at h; simpa only [AV.lim] using pureL_lim h
  | .tup vs, h => by simp only [AV.pure] at h; simpa only [AV.lim] using pureL_lim h
  | .bool _, _ | .int _ _, _ | .str _, _ | .nilp, _ | .zsl _, _ | .nilm, _ | .nilf, _ | .niface, _ => by simp [AV.lim]
theorem pureL_lim : ∀ {l : List AV}, pureL l = true → limL 0 l = true
  | [], _ => rfl
  | x :: xs, h => by
    simp only [pureL, Bool.and_eq_true] at h
    simp only [limL, Bool.and_eq_true]; exact ⟨pure_lim h.1, pureL_lim h.2⟩
theorem pureLL_lim : ∀ {l : List (List AV)}, pureLL l = true → limLL 0 l = true
  | [], _ => rfl
  | x :: xs, h => by
    simp only [pureLL, Bool.and_eq_true] at h
    simp only [limLL, Bool.and_eq_true]; exact ⟨pureL_lim h.1, pureLL_lim h.2⟩
end

section
variable {E : Env} {V V' : Vw} {base : World}

theorem bound_lt {S : List AObj} {r n : Nat} (h : n < bound S r) : r < S.length := by
  rcases Nat.lt_or_ge r S.length with h' | h'
  · exact h'
  · simp [bound, List.getElem?_eq_none h'] at h

/-- All objects that a value speaks of are of the store. -/
theorem VRel.lim {x : AV} {v : Value} (h : VRel E V x v) : x.lim V.S.length = true := by
  induction h with
  | ref r ver i off b o h h2 => simp only [AV.lim, decide_eq_true_eq]; exact bound_lt h
  | vptr row off b o f hs hc h1 hv ih => simp only [AV.lim]; exact limL_of ih
  | sl z rows b o cap f hlen hs hz hc h1 hv ih => simp only [AV.lim]; exact limLL_of fun i row hi => limL_of fun j x hj => ih i j row x hi hj
  | msl r ver z off len b o cap h hlc h2 => simp only [AV.lim, decide_eq_true_eq]; exact bound_lt h
  | mp r b h h2 => simp only [AV.lim, decide_eq_true_eq]; exact bound_lt h
  | it r b h h2 => simp only [AV.lim, decide_eq_true_eq]; exact bound_lt h
  | fn id g first caps fs cs hg hf hcs hvf hvc ihf ihc => simp only [AV.lim, Bool.and_eq_true]; exact ⟨limL_of ihf, limL_of ihc⟩
  | fny l b h h2 => simp [AV.lim, limL, bound_lt h]
  | iface t u x v ht hv ih => simpa only [AV.lim] using ih
  | agg cs vs hs h1 hv ih => simp only [AV.lim]; exact limL_of ih
  | tup cs vs hs hv ih => simp only [AV.lim]; exact limL_of ih
  | _ => simp [AV.lim, limLL]

/-- A value reads so in another view, where its objects are as they were and settled memory is kept. -/
theorem VRel.move {n : Nat} (hset : ∀ b, V.settled b → V'.settled b) (hcell : ∀ b o v, V.settled b → V.w.cell? ⟨b, o, none⟩ = some v → V'.w.cell? ⟨b, o, none⟩ = some v)
    (hS : ∀ r, r < n → V'.S[r]? = V.S[r]? ∧ V'.μ r = V.μ r) {x : AV} {v : Value} (h : VRel E V x v) : x.lim n = true → VRel E V' x v := by
  induction h with
  | junk v => exact fun _ => .junk v
  | bool b => exact fun _ => .bool b
  | int k n => exact fun _ => .int k n
  | str s bs h => exact fun _ => .str s bs h
  | nilp => exact fun _ => .nilp
  | ref r ver i off b o h h2 =>
    intro hl
    simp only [AV.lim, decide_eq_true_eq] at hl
    obtain ⟨h3, h4⟩ := hS r hl
    exact .ref r ver i off b o (by rw [bound_congr h3]; exact h) fun rows hr => by rw [h4]; exact h2 rows (by rw [← cellsAt_congr h3]; exact hr)
  | vptr row off b o f hs hc h1 hv ih =>
    intro hl
    simp only [AV.lim] at hl
    exact .vptr row off b o f (hset b hs) (fun j x hj => hcell _ _ _ hs (hc j x hj)) h1 (fun j x hj => ih j x hj (limL_get hl hj))
  | zsl b a h => exact fun _ => .zsl b a h
  | slnil z a cap => exact fun _ => .slnil z a cap
  | sl z rows b o cap f hlen hs hz hc h1 hv ih =>
    intro hl
    simp only [AV.lim] at hl
    exact .sl z rows b o cap f hlen (hset b hs) hz (fun i j row x hi hj => hcell _ _ _ hs (hc i j row x hi hj)) h1 (fun i j row x hi hj => ih i j row x hi hj (limL_get (limLL_get hl hi) hj))
  | msl r ver z off len b o cap h hlc h2 =>
    intro hl
    simp only [AV.lim, decide_eq_true_eq] at hl
    obtain ⟨h3, h4⟩ := hS r hl
    exact .msl r ver z off len b o cap (by rw [bound_congr h3]; exact h) hlc fun rows hr => by rw [h4]; exact h2 rows (by rw [← cellsAt_congr h3]; exact hr)
  | nilm => exact fun _ => .nilm
  | mp r b h h2 =>
    intro hl
    simp only [AV.lim, decide_eq_true_eq] at hl
    obtain ⟨h3, h4⟩ := hS r hl
    exact .mp r b (by rw [bound_congr h3]; exact h) fun es hr => by rw [h4]; exact h2 es (by rw [← h3]; exact hr)
  | it r b h h2 =>
    intro hl
    simp only [AV.lim, decide_eq_true_eq] at hl
    obtain ⟨h3, h4⟩ := hS r hl
    exact .it r b (by rw [bound_congr h3]; exact h) fun s p hr => by rw [h4]; exact h2 s p (by rw [← h3]; exact hr)
  | nilf => exact fun _ => .nilf
  | fn id g first caps fs cs hg hf hcs hvf hvc ihf ihc =>
    intro hl
    simp only [AV.lim, Bool.and_eq_true] at hl
    exact .fn id g first caps fs cs hg hf hcs (fun i x hi => ihf i x hi (limL_get hl.1 hi)) (fun i x hi => ihc i x hi (limL_get hl.2 hi))
  | fny l b h h2 =>
    intro hl
    simp only [AV.lim, Bool.and_eq_true, decide_eq_true_eq] at hl
    obtain ⟨h3, h4⟩ := hS l hl.1.1
    exact .fny l b (by rw [bound_congr h3]; exact h) fun a b c d e f hr => by rw [h4]; exact h2 a b c d e f (by rw [← h3]; exact hr)
  | niface => exact fun _ => .niface
  | iface t u x v ht hv ih => exact fun hl => .iface t u x v ht (ih (by simpa only [AV.lim] using hl))
  | agg cs vs hs h1 hv ih =>
    intro hl
    simp only [AV.lim] at hl
    exact .agg cs vs hs h1 fun i x hi => ih i x hi (limL_get hl hi)
  | tup cs vs hs hv ih =>
    intro hl
    simp only [AV.lim] at hl
    exact .tup cs vs hs fun i x hi => ih i x hi (limL_get hl hi)

theorem VRel.pureMove (hset : ∀ b, V.settled b → V'.settled b) (hcell : ∀ b o v, V.settled b → V.w.cell? ⟨b, o, none⟩ = some v → V'.w.cell? ⟨b, o, none⟩ = some v)
    {x : AV} {v : Value} (h : VRel E V x v) (hp : x.pure = true) : VRel E V' x v :=
  h.move (n := 0) hset hcell (fun r hr => absurd hr (Nat.not_lt_zero r)) (pure_lim hp)

theorem pureL_get : ∀ {l : List AV} {i : Nat} {x : AV}, pureL l = true → l[i]? = some x → x.pure = true
  | [], i, x, _, h => by simp at h
  | y :: ys, 0, x, hl, h => by simp at h; subst h; simp only [pureL, Bool.and_eq_true] at hl; exact hl.1
  | y :: ys, i + 1, x, hl, h => by simp at h; simp only [pureL, Bool.and_eq_true] at hl; exact pureL_get hl.2 h

theorem pureLL_get : ∀ {l : List (List AV)} {i : Nat} {x : List AV}, pureLL l = true → l[i]? = some x → pureL x = true
  | [], i, x, _, h => by simp at h
  | y :: ys, 0, x, hl, h => by simp at h; subst h; simp only [pureLL, Bool.and_eq_true] at hl; exact hl.1
  | y :: ys, i + 1, x, hl, h => by simp at h; simp only [pureLL, Bool.and_eq_true] at hl; exact pureLL_get hl.2 h

/-- A value taken by value. -/
theorem frzV_rel (hw : WRel E base V) (hset : ∀ b, V.settled b → V'.settled b) (hcell : ∀ b o v, V.settled b → V.w.cell? ⟨b, o, none⟩ = some v → V'.w.cell? ⟨b, o, none⟩ = some v)
    {x u : AV} {v : Value} (h : VRel E V x v) (hf : frzV V.S x = some u)
    (hblk : ∀ r, x.root = some r → live V.S r → V'.settled (V.μ r).blk ∧ V'.w.heap[(V.μ r).blk]? = V.w.heap[(V.μ r).blk]?) : VRel E V' u v := by
  unfold frzV at hf
  split at hf
  · rename_i hp
    cases hf; exact h.pureMove hset hcell hp
  · split at hf
    · rename_i r ver z off len _
      split at hf
      · rename_i rows hr
        split at hf
        · rename_i hpu
          cases hf
          simp only [srows] at hr
          split at hr
          · rename_i rows0 hr0
            split at hr
            · rename_i hlen
              cases hr
              cases h with
              | msl _ _ _ _ _ b o cap hb hlc h2 =>
                obtain ⟨h3, h4, h5, h6⟩ := h2 rows0 hr0
                obtain ⟨hs, hh⟩ := hblk r rfl ⟨_, cellsAt_get hr0, rfl⟩
                obtain ⟨cs, e, lo, hi, k1, k2, k3, k4, k5, k6⟩ := cells_obj hw hr0
                have hl' : ((rows0.drop off).take len).length = len := by simp; omega
                rcases Nat.eq_zero_or_pos len with h0 | h0
                · subst h0
                  simp only [List.take_zero]
                  exact .slnil _ _ _
                · obtain ⟨rfl, rfl⟩ := h6.resolve_left (by omega)
                  have key : ∀ (i j : Nat) (row : List AV) (y : AV), ((rows0.drop off).take len)[i]? = some row → row[j]? = some y →
                      ∃ w, V.w.cell? ⟨(V.μ r).blk, (V.μ r).base + off * z + i * z + j, none⟩ = some w ∧ one w = true ∧ VRel E V y w := fun i j row y hi hj => by
                    have hi' : rows0[off + i]? = some row := by
                      rw [List.getElem?_take] at hi
                      split at hi
                      · rwa [List.getElem?_drop] at hi
                      · cases hi
                    obtain ⟨w, w1, w2, w3⟩ := k6 (off + i) j row y hi' hj
                    refine ⟨w, ?_, w2, w3⟩
                    rw [cell_at k1, ← w1, h3, Nat.add_mul]; congr 1; omega
                  have hv' := VRel.sl (E := E) (V := V') z ((rows0.drop off).take len) (V.μ r).blk ((V.μ r).base + off * z) cap (fun i j => (V.w.cell? ⟨(V.μ r).blk, (V.μ r).base + off * z + i * z + j, none⟩).getD undef)
                    (by rw [hl']; exact hlc) hs
                    (fun i row hi => by
                      have hi' : rows0[off + i]? = some row := by
                        rw [List.getElem?_take] at hi
                        split at hi
                        · rwa [List.getElem?_drop] at hi
                        · cases hi
                      rw [← h3]; exact k5 _ row hi')
                    (fun i j row y hi hj => by
                      obtain ⟨w, w1, _, _⟩ := key i j row y hi hj
                      rw [cell_same hh, w1]; rfl)
                    (fun i j row y hi hj => by
                      obtain ⟨w, w1, w2, _⟩ := key i j row y hi hj
                      rw [w1]; exact w2)
                    (fun i j row y hi hj => by
                      obtain ⟨w, w1, _, w3⟩ := key i j row y hi hj
                      rw [w1]; exact w3.pureMove hset hcell (pureL_get (pureLL_get hpu hi) hj))
                  rw [hl'] at hv'
                  exact hv'
            · cases hr
          · cases hr
        · cases hf
      · cases hf
    · rename_i r ver i off _
      split at hf
      · rename_i rows hr
        split at hf
        · rename_i row hrow
          split at hf
          · rename_i hpu
            cases hf
            obtain rfl := ref_inv h hr
            obtain ⟨hs, hh⟩ := hblk r rfl ⟨_, cellsAt_get hr, rfl⟩
            obtain ⟨cs, e, lo, hi, k1, k2, k3, k4, k5, k6⟩ := cells_obj hw hr
            refine .vptr row off (V.μ r).blk ((V.μ r).base + i * (V.μ r).esz) (fun j => (V.w.cell? ⟨(V.μ r).blk, (V.μ r).base + i * (V.μ r).esz + j, none⟩).getD undef) hs (fun j y hj => ?_) (fun j y hj => ?_) (fun j y hj => ?_)
            all_goals obtain ⟨w, w1, w2, w3⟩ := k6 i j row y hrow hj
            · rw [cell_same hh, cell_at k1, w1]; rfl
            · rw [cell_at k1, w1]; exact w2
            · rw [cell_at k1, w1]; exact w3.pureMove hset hcell (pureL_get hpu hj)
          · cases hf
        · cases hf
      · cases hf
    · cases hf

/-- A value taken by value. -/
theorem frzW_rel (hw : WRel E base V) (hl : Later V V')
    {x u : AV} {v : Value} (h : VRel E V x v) (hf : frzW V.S x = some u)
    (hblk : ∀ r, x.root = some r → live V.S r → V'.settled (V.μ r).blk ∧ V'.w.heap[(V.μ r).blk]? = V.w.heap[(V.μ r).blk]?) : VRel E V' u v := by
  have hset : ∀ b, V.settled b → V'.settled b := fun b hb => (hl.still b hb).1
  have hcell : ∀ b o v, V.settled b → V.w.cell? ⟨b, o, none⟩ = some v → V'.w.cell? ⟨b, o, none⟩ = some v := fun b o v hb hc => hl.cell hb hc
  unfold frzW at hf
  split at hf
  · rename_i r ver z off len
    · split at hf
      · rename_i rows hr
        · cases hf
          simp only [srows] at hr
          split at hr
          · rename_i rows0 hr0
            split at hr
            · rename_i hlen
              cases hr
              cases h with
              | msl _ _ _ _ _ b o cap hb hlc h2 =>
                obtain ⟨h3, h4, h5, h6⟩ := h2 rows0 hr0
                obtain ⟨hs, hh⟩ := hblk r rfl ⟨_, cellsAt_get hr0, rfl⟩
                obtain ⟨cs, e, lo, hi, k1, k2, k3, k4, k5, k6⟩ := cells_obj hw hr0
                have hl' : ((rows0.drop off).take len).length = len := by simp; omega
                rcases Nat.eq_zero_or_pos len with h0 | h0
                · subst h0
                  simp only [List.take_zero]
                  exact .slnil _ _ _
                · obtain ⟨rfl, rfl⟩ := h6.resolve_left (by omega)
                  have key : ∀ (i j : Nat) (row : List AV) (y : AV), ((rows0.drop off).take len)[i]? = some row → row[j]? = some y →
                      ∃ w, V.w.cell? ⟨(V.μ r).blk, (V.μ r).base + off * z + i * z + j, none⟩ = some w ∧ one w = true ∧ VRel E V y w := fun i j row y hi hj => by
                    have hi' : rows0[off + i]? = some row := by
                      rw [List.getElem?_take] at hi
                      split at hi
                      · rwa [List.getElem?_drop] at hi
                      · cases hi
                    obtain ⟨w, w1, w2, w3⟩ := k6 (off + i) j row y hi' hj
                    refine ⟨w, ?_, w2, w3⟩
                    rw [cell_at k1, ← w1, h3, Nat.add_mul]; congr 1; omega
                  have hv' := VRel.sl (E := E) (V := V') z ((rows0.drop off).take len) (V.μ r).blk ((V.μ r).base + off * z) cap (fun i j => (V.w.cell? ⟨(V.μ r).blk, (V.μ r).base + off * z + i * z + j, none⟩).getD undef)
                    (by rw [hl']; exact hlc) hs
                    (fun i row hi => by
                      have hi' : rows0[off + i]? = some row := by
                        rw [List.getElem?_take] at hi
                        split at hi
                        · rwa [List.getElem?_drop] at hi
                        · cases hi
                      rw [← h3]; exact k5 _ row hi')
                    (fun i j row y hi hj => by
                      obtain ⟨w, w1, _, _⟩ := key i j row y hi hj
                      rw [cell_same hh, w1]; rfl)
                    (fun i j row y hi hj => by
                      obtain ⟨w, w1, w2, _⟩ := key i j row y hi hj
                      rw [w1]; exact w2)
                    (fun i j row y hi hj => by
                      obtain ⟨w, w1, _, w3⟩ := key i j row y hi hj
                      rw [w1]; exact w3.later hl)
                  rw [hl'] at hv'
                  exact hv'
            · cases hr
          · cases hr
      · cases hf
  · rename_i r ver i off
    · split at hf
      · rename_i rows hr
        split at hf
        · rename_i row hrow
          · cases hf
            obtain rfl := ref_inv h hr
            obtain ⟨hs, hh⟩ := hblk r rfl ⟨_, cellsAt_get hr, rfl⟩
            obtain ⟨cs, e, lo, hi, k1, k2, k3, k4, k5, k6⟩ := cells_obj hw hr
            refine .vptr row off (V.μ r).blk ((V.μ r).base + i * (V.μ r).esz) (fun j => (V.w.cell? ⟨(V.μ r).blk, (V.μ r).base + i * (V.μ r).esz + j, none⟩).getD undef) hs (fun j y hj => ?_) (fun j y hj => ?_) (fun j y hj => ?_)
            all_goals obtain ⟨w, w1, w2, w3⟩ := k6 i j row y hrow hj
            · rw [cell_same hh, cell_at k1, w1]; rfl
            · rw [cell_at k1, w1]; exact w2
            · rw [cell_at k1, w1]; exact w3.later hl
        · cases hf
      · cases hf
  · exact frzV_rel hw hset hcell h hf hblk

theorem dryL_get : ∀ {l : List AV} {i : Nat} {x : AV}, dryL l = true → l[i]? = some x → x.dry = true
  | [], i, x, _, h => by simp at h
  | y :: ys, 0, x, hl, h => by simp at h; subst h; simp only [dryL, Bool.and_eq_true] at hl; exact hl.1
  | y :: ys, i + 1, x, hl, h => by simp at h; simp only [dryL, Bool.and_eq_true] at hl; exact dryL_get hl.2 h

/-- A value that leads to no memory reads so in every view. -/
theorem VRel.dryMove {x : AV} {v : Value} (h : VRel E V x v) : x.dry = true → VRel E V' x v := by
  induction h with
  | bool b => exact fun _ => .bool b
  | int k n => exact fun _ => .int k n
  | str s bs h => exact fun _ => .str s bs h
  | nilp => exact fun _ => .nilp
  | zsl b a h => exact fun _ => .zsl b a h
  | nilm => exact fun _ => .nilm
  | nilf => exact fun _ => .nilf
  | niface => exact fun _ => .niface
  | iface t u x v ht hv ih => exact fun hl => .iface t u x v ht (ih (by simpa only [AV.dry] using hl))
  | agg cs vs hs h1 hv ih => exact fun hl => .agg cs vs hs h1 fun i x hi => ih i x hi (dryL_get (by simpa only [AV.dry] using hl) hi)
  | tup cs vs hs hv ih => exact fun hl => .tup cs vs hs fun i x hi => ih i x hi (dryL_get (by simpa only [AV.dry] using hl) hi)
  | _ => intro hl; simp [AV.dry] at hl

theorem frzL_get {S : List AObj} : ∀ {l us : List AV}, frzL S l = some us → us.length = l.length ∧ ∀ (i : Nat) (u : AV), us[i]? = some u → ∃ x, l[i]? = some x ∧ frzV S x = some u
  | [], us, h => by cases h; simp
  | x :: xs, us, h => by
    simp only [frzL] at h
    split at h
    · rename_i v vs h1 h2
      cases h
      obtain ⟨a, b⟩ := frzL_get h2
      refine ⟨by simp [a], fun i u hi => ?_⟩
      cases i with
      | zero => simp at hi; subst hi; exact ⟨x, rfl, h1⟩
      | succ i => simp at hi; simpa using b i u hi
    · cases h

theorem frzR_get {S : List AObj} : ∀ {l us : List AV}, frzR S l = some us → us.length = l.length ∧ ∀ (i : Nat) (u : AV), us[i]? = some u → ∃ x, l[i]? = some x ∧ frzA S x = some u
  | [], us, h => by cases h; simp
  | x :: xs, us, h => by
    simp only [frzR] at h
    split at h
    · rename_i v vs h1 h2
      cases h
      obtain ⟨a, b⟩ := frzR_get h2
      refine ⟨by simp [a], fun i u hi => ?_⟩
      cases i with
      | zero => simp at hi; subst hi; exact ⟨x, rfl, h1⟩
      | succ i => simp at hi; simpa using b i u hi
    · cases h

theorem frzA_rel (hw : WRel E base V) (hset : ∀ b, V.settled b → V'.settled b) (hcell : ∀ b o v, V.settled b → V.w.cell? ⟨b, o, none⟩ = some v → V'.w.cell? ⟨b, o, none⟩ = some v)
    {x u : AV} {v : Value} (h : VRel E V x v) (hf : frzA V.S x = some u)
    (hblk : ∀ r, live V.S r → V'.settled (V.μ r).blk ∧ V'.w.heap[(V.μ r).blk]? = V.w.heap[(V.μ r).blk]?) : VRel E V' u v := by
  unfold frzA at hf
  split at hf
  · rename_i cs
    cases hfl : frzL V.S cs with
    | none => rw [hfl] at hf; cases hf
    | some us =>
      rw [hfl] at hf; cases hf
      obtain ⟨vs, rfl, h1, h2, h3⟩ := h.agg_inv
      obtain ⟨k1, k2⟩ := frzL_get hfl
      refine .agg _ _ (by omega) h2 fun i y hi => ?_
      obtain ⟨x, hx, hxf⟩ := k2 i y hi
      exact frzV_rel hw hset hcell (h3 i x hx) hxf (fun r _ hl => hblk r hl)
  · exact frzV_rel hw hset hcell h hf (fun r _ hl => hblk r hl)

/-- A list of values, taken by value. -/
theorem frzR_rel (hw : WRel E base V) (hset : ∀ b, V.settled b → V'.settled b) (hcell : ∀ b o v, V.settled b → V.w.cell? ⟨b, o, none⟩ = some v → V'.w.cell? ⟨b, o, none⟩ = some v)
    {xs us : List AV} {arr : Array Value} (h1 : arr.size = xs.length) (h3 : ∀ (i : Nat) (x : AV), xs[i]? = some x → VRel E V x (arr.getD i undef)) (hf : frzR V.S xs = some us)
    (hblk : ∀ r, live V.S r → V'.settled (V.μ r).blk ∧ V'.w.heap[(V.μ r).blk]? = V.w.heap[(V.μ r).blk]?) : arr.size = us.length ∧ ∀ (i : Nat) (x : AV), us[i]? = some x → VRel E V' x (arr.getD i undef) := by
  obtain ⟨k1, k2⟩ := frzR_get hf
  refine ⟨by omega, fun i y hi => ?_⟩
  obtain ⟨x, hx, hxf⟩ := k2 i y hi
  exact frzA_rel hw hset hcell (h3 i x hx) hxf hblk

theorem frz_rel (hw : WRel E base V) (hset : ∀ b, V.settled b → V'.settled b) (hcell : ∀ b o v, V.settled b → V.w.cell? ⟨b, o, none⟩ = some v → V'.w.cell? ⟨b, o, none⟩ = some v)
    {x u : AV} {v : Value} (h : VRel E V x v) (hf : frz V.S x = some u)
    (hblk : ∀ r, live V.S r → V'.settled (V.μ r).blk ∧ V'.w.heap[(V.μ r).blk]? = V.w.heap[(V.μ r).blk]?) : VRel E V' u v := by
  unfold frz at hf
  split at hf
  · rename_i cs
    cases hfl : frzR V.S cs with
    | none => rw [hfl] at hf; cases hf
    | some us =>
      rw [hfl] at hf; cases hf
      obtain ⟨vs, rfl, h1, h3⟩ := h.tup_inv
      obtain ⟨k1, k2⟩ := frzR_get hfl
      refine .tup _ _ (by omega) fun i y hi => ?_
      obtain ⟨x, hx, hxf⟩ := k2 i y hi
      exact frzA_rel hw hset hcell (h3 i x hx) hxf hblk
  · exact frzA_rel hw hset hcell h hf hblk

end
end Go.Proofs.YtleommjdeejmkaaGreatDoor.Zq

namespace Go.Proofs.YtleommjdeejmkaaGreatDoor.Zq
open Go Go.RowKit

/-- The deferred calls of an activation. 'lo': the heap's size at its beginning; 'hi': above all blocks that the marks name. -/
inductive DRel (E : Env) (V : Vw) (lo : Nat) : Nat → List ADef → List Deferred → Prop
  | nil (hi) : DRel E V lo hi [] []
  | mark (hi blk ds defers args) (h1 : lo ≤ blk) (h2 : blk < hi) (hb : V.w.heap[blk]? = some (.deferred (some []))) (hs : V.settled blk) (h : DRel E V lo blk ds defers) :
      DRel E V lo hi (.mark :: ds) ({ target := .collected blk, args := args } :: defers)
  | del (hi ag ks m k t u ty cs mv kv kt et ds defers) (hu : E.P.underlying t = some (.map kt et)) (hk : keyT E kt ag ks = true) (hm : VRel E V m mv) (hkv : VRel E V k kv) (h : DRel E V lo hi ds defers) :
      DRel E V lo hi (.del ag ks m k :: ds) ({ target := .builtin .delete #[t, u] ty cs, args := #[mv, kv] } :: defers)

section
variable {E : Env} {V V' : Vw} {base : World}

theorem DRel.up {lo hi hi' : Nat} {ds : List ADef} {defers : List Deferred} (h : DRel E V lo hi ds defers) (hle : hi ≤ hi') : DRel E V lo hi' ds defers := by
  induction h generalizing hi' with
  | nil => exact .nil _
  | mark hi blk ds defers args h1 h2 hb hs h ih => exact .mark _ _ _ _ _ h1 (by omega) hb hs h
  | del hi ag ks m k t u ty cs mv kv kt et ds defers hu hk hm hkv h ih => exact .del _ _ _ _ _ _ _ _ _ _ _ _ _ _ _ hu hk hm hkv (ih hle)

theorem DRel.later {lo hi : Nat} {ds : List ADef} {defers : List Deferred} (h : DRel E V lo hi ds defers) (hl : Later V V') : DRel E V' lo hi ds defers := by
  induction h with
  | nil => exact .nil _
  | mark hi blk ds defers args h1 h2 hb hs h ih => exact .mark _ _ _ _ _ h1 h2 (by rw [(hl.still blk hs).2]; exact hb) (hl.still blk hs).1 ih
  | del hi ag ks m k t u ty cs mv kv kt et ds defers hu hk hm hkv h ih => exact .del _ _ _ _ _ _ _ _ _ _ _ _ _ _ _ hu hk (hm.later hl) (hkv.later hl) ih

/-- At each point of an activation that began at V0. -/
structure Good (E : Env) (base : World) (V0 V : Vw) (st : St) (a : Act) : Prop where
  s : V.S = st.s
  b : V0.S.length = st.b
  l : Later V0 V
  w : WRel E base V
  f : FRel E V st.t a.tmps
  d : DRel E V V0.w.heap.size V.w.heap.size st.d a.defers

theorem clrT_len : ∀ (t : List AV) (m : Nat), (clrT t m).length = t.length
  | [], _ => rfl
  | _ :: t, m => by simp only [clrT, List.length_cons, clrT_len t]

theorem clrT_get : ∀ (t : List AV) (m i : Nat) (x : AV), (clrT t m)[i]? = some x → x = .junk ∨ t[i]? = some x
  | [], m, i, x, h => by simp [clrT] at h
  | v :: t, m, 0, x, h => by
    simp only [clrT, List.getElem?_cons_zero, Option.some.injEq] at h ⊢
    split at h
    · exact .inr h
    · exact .inl h.symm
  | v :: t, m, i + 1, x, h => by
    simp only [clrT, List.getElem?_cons_succ] at h ⊢
    exact clrT_get t _ i x h

theorem FRel.clr {fr : List AV} {t : Array Value} (h : FRel E V fr t) (m : Nat) : FRel E V (clrT fr m) t :=
  ⟨by rw [h.size, clrT_len], fun i x hi => by
    rcases clrT_get fr m i x hi with rfl | h'
    · exact .junk _
    · exact h.get i x h'⟩

theorem FRel.set {fr : List AV} {t : Array Value} (h : FRel E V fr t) (i : Nat) {u : AV} (hu : VRel E V u (t.getD i undef)) : FRel E V (fr.set i u) t :=
  ⟨by rw [h.size]; simp, fun j x hj => by
    rw [List.getElem?_set] at hj
    split at hj
    · rename_i hij
      subst hij
      split at hj
      · cases hj; exact hu
      · cases hj
    · exact h.get j x hj⟩

theorem FRel.put {fr : List AV} {a : Act} (h : FRel E V fr a.tmps) (dst : Option Nat) {u : AV} {v : Value} (hu : VRel E V u v) : FRel E V (putT fr dst u) (a.put dst v).tmps := by
  cases dst with
  | none => exact h
  | some d =>
    refine ⟨by simp [putT, Act.put, h.size], fun j x hj => ?_⟩
    simp only [putT, Act.put, List.getElem?_set] at hj ⊢
    split at hj
    · rename_i hij
      subst hij
      split at hj
      · rename_i hlt
        cases hj
        rw [Array.getD_eq_getD_getElem?, Array.getElem?_setIfInBounds_self_of_lt (by rw [h.size]; exact hlt)]
        exact hu
      · cases hj
    · rename_i hij
      rw [Array.getD_eq_getD_getElem?, Array.getElem?_setIfInBounds_ne hij, ← Array.getD_eq_getD_getElem?]
      exact h.get j x hj

/-- An object is over: the world stays as it is. -/
theorem kill_sim (hw : WRel E base V) {r : Nat} (hl : live V.S r) : Later V { V with S := killAt V.S r } ∧ WRel E base { V with S := killAt V.S r } ∧ Vw.settled { V with S := killAt V.S r } (V.μ r).blk := by
  obtain ⟨o, ho, ha⟩ := hl
  have hμ : updμ V.μ r (V.μ r) = V.μ := by funext x; simp only [updμ]; split <;> simp_all
  have hr := get_lt ho
  have hk : killAt V.S r = V.S.set r (kill o) := by simp only [killAt, ho]
  have hput : Put V.S r (kill o) (killAt V.S r) := by rw [hk]; exact .set hr
  have hdead : ∃ v, kill o = .dead v ∧ bound V.S r ≤ v := by
    rw [bound_of ho]
    cases o <;> first | exact ⟨_, rfl, Nat.le_refl _⟩ | simp [AObj.alive] at ha
  obtain ⟨v, hv, hb⟩ := hdead
  have hc : claims V r (kill o) (V.μ r) := by rw [hv]; exact hb
  have L := Later.upd (w' := V.w) (ℓ := V.μ r) hput hc (Nat.le_refl _) (fun _ _ _ => rfl) (.inl ⟨⟨o, ho, ha⟩, rfl⟩)
  have W := hw.upd (w' := V.w) (ℓ := V.μ r) hput hc (Nat.le_refl _) (fun _ _ _ => rfl) (.inl ⟨⟨o, ho, ha⟩, rfl⟩) ⟨rfl, rfl, rfl⟩ (fun _ => by rw [hv]; trivial)
  rw [hμ] at L W
  refine ⟨L, W, hw.blk_lt ⟨o, ho, ha⟩, (hw.own r ⟨o, ho, ha⟩).2, fun i ⟨oi, hi, hai⟩ => ?_⟩
  by_cases hir : i = r
  · subst hir
    simp only [hput.same, Option.some.injEq] at hi
    rw [← hi, hv] at hai; cases hai
  · have hi' : V.S[i]? = some oi := by rw [← hput.other hir]; exact hi
    exact hw.inj i r ⟨oi, hi', hai⟩ ⟨o, ho, ha⟩ hir

theorem limS_get {n : Nat} : ∀ {l : List AObj} {i : Nat} {o : AObj}, limS n l = true → l[i]? = some o → limO n o = true
  | [], i, x, _, h => by simp at h
  | y :: ys, 0, x, hl, h => by simp at h; subst h; simp only [limS, Bool.and_eq_true] at hl; exact hl.1
  | y :: ys, i + 1, x, hl, h => by simp at h; simp only [limS, Bool.and_eq_true] at hl; exact limS_get hl.2 h

/-- The objects from the n-th on are forgotten. -/
theorem trunc_sim {V0 : Vw} {n : Nat} (hl : Later V0 V) (hn : V0.S.length ≤ n) (hw : WRel E base V) (hs : limS n (V.S.take n) = true) :
    Later V0 { V with S := V.S.take n } ∧ WRel E base { V with S := V.S.take n } ∧ (∀ x v, VRel E V x v → x.lim n = true → VRel E { V with S := V.S.take n } x v) := by
  have hT : ∀ r, r < n → (V.S.take n)[r]? = V.S[r]? := fun r hr => by rw [List.getElem?_take, if_pos hr]
  have hN : ∀ r, ¬ r < n → (V.S.take n)[r]? = none := fun r hr => by rw [List.getElem?_take, if_neg hr]
  have hlive : ∀ r, live (V.S.take n) r → live V.S r := fun r ⟨o, ho, ha⟩ => by
    by_cases hr : r < n
    · exact ⟨o, by rw [← hT r hr]; exact ho, ha⟩
    · rw [hN r hr] at ho; cases ho
  have hset : ∀ b, V.settled b → Vw.settled { V with S := V.S.take n } b := fun b h => ⟨h.1, h.2.1, fun r hr => h.2.2 r (hlive r hr)⟩
  have hmove : ∀ x v, VRel E V x v → x.lim n = true → VRel E { V with S := V.S.take n } x v := fun x v h hlim =>
    h.move (V' := { V with S := V.S.take n }) hset (fun _ _ _ _ h => h) (fun r hr => ⟨hT r hr, rfl⟩) hlim
  have hlt : ∀ r m, m < bound V0.S r → r < n := fun r m h => Nat.lt_of_lt_of_le (bound_lt h) hn
  refine ⟨⟨fun r => ?_, fun r ver rows' h h' => ?_, fun r es' h h' => ?_, fun r a b c d e f h h' => ?_, fun r s p h h' => ?_, hl.size, fun b hb => ?_, hl.X⟩, ⟨hw.below, fun r h => hw.own r (hlive r h), fun r r' h h' hne => hw.inj r r' (hlive r h) (hlive r' h') hne, fun r o ho => ?_, hw.xlt, hw.glob⟩, hmove⟩
  · rcases Nat.eq_zero_or_pos (bound V0.S r) with h0 | h0
    · omega
    · have := hl.bnd r
      rw [show bound (Vw.S { V with S := V.S.take n }) r = bound V.S r from bound_congr (hT r (hlt r 0 h0))]
      exact this
  · exact hl.obj r ver rows' h (by rw [← cellsAt_congr (hT r (hlt r _ h))]; exact h')
  · exact hl.map r es' h (by rw [← hT r (hlt r _ h)]; exact h')
  · exact hl.loop r a b c d e f h (by rw [← hT r (hlt r _ h)]; exact h')
  · exact hl.iter r s p h (by rw [← hT r (hlt r _ h)]; exact h')
  · exact ⟨hset b (hl.still b hb).1, (hl.still b hb).2⟩
  · have ho0 : limO n o = true := limS_get hs ho
    have ho' : V.S[r]? = some o := by
      by_cases hr : r < n
      · rw [← hT r hr]; exact ho
      · simp only [hN r hr] at ho; cases ho
    have hO := hw.obj r o ho'
    cases o with
    | dead v => trivial
    | cells ver rows =>
      obtain ⟨cs, e, lo, hi, h1, h2, h3, h4, h5, h6⟩ := hO
      simp only [limO] at ho0
      exact ⟨cs, e, lo, hi, h1, h2, h3, h4, h5, fun i j row x a b => let ⟨v, v1, v2, v3⟩ := h6 i j row x a b; ⟨v, v1, v2, hmove _ _ v3 (limL_get (limLL_get ho0 a) b)⟩⟩
    | map es =>
      obtain ⟨mes, clock, h1, h2, h3⟩ := hO
      refine ⟨mes, clock, h1, h2, fun i k v hi => ?_⟩
      obtain ⟨me, m1, m2, m3⟩ := h3 i k v hi
      simp only [limO, List.all_eq_true, Bool.and_eq_true] at ho0
      obtain ⟨l1, l2⟩ := ho0 (k, v) (List.mem_of_getElem? hi)
      exact ⟨me, m1, hmove _ _ m2 l1, hmove _ _ m3 l2⟩
    | siter s p => obtain ⟨bs, h1, h2⟩ := hO; exact ⟨bs, h1, h2⟩
    | loop a b c d e f => cases ho0

/-- What is done to the abstract state alone. -/
theorem ghost_sim {V0 : Vw} {st st' : St} {a : Act} {g : Ghost} (hg : Good E base V0 V st a) (h : ghost g st = some st') :
    Good E base V0 { V with S := st'.s } st' a := by
  obtain ⟨hs, hb, hl, hw, hf, hd⟩ := hg
  unfold ghost at h
  split at h
  · cases h
    rw [show ({ V with S := st.s } : Vw) = V by rw [← hs]]
    exact ⟨hs, hb, hl, hw, hf.clr _, hd⟩
  · rename_i i
    split at h
    · rename_i v hv
      split at h
      · rename_i u hu
        cases h
        rw [← hs] at hu ⊢
        have pure : ∀ u, frzW V.S v = some u → v.root = none → VRel E V u ((a.tmps).getD i undef) := fun u hu hr =>
          frzW_rel hw (V' := V) (Later.refl V) (hf.get i v hv) hu (fun r h => by rw [hr] at h; cases h)
        have root : ∀ r, v.root = some r → Good E base V0 { V with S := killAt V.S r } { st with t := st.t.set i u, s := killAt V.S r } a := fun r hr => by
          have hlv : live V.S r := by
            cases v <;> simp only [AV.root, Option.some.injEq, reduceCtorEq] at hr
            · subst hr
              simp only [frzW] at hu
              split at hu
              · rename_i rows hrr; exact ⟨_, cellsAt_get hrr, rfl⟩
              · cases hu
            · subst hr
              simp only [frzW] at hu
              split at hu
              · rename_i rows hrr
                simp only [srows] at hrr
                split at hrr
                · rename_i rows0 hr0; exact ⟨_, cellsAt_get hr0, rfl⟩
                · cases hrr
              · cases hu
          obtain ⟨kl, kw, ks⟩ := kill_sim hw hlv
          refine ⟨rfl, hb, hl.trans kl, kw, (hf.later kl).set i ?_, hd.later kl⟩
          exact frzW_rel hw (V' := { V with S := killAt V.S r }) kl (hf.get i v hv) hu (fun q hq _ => by
            rw [hr] at hq; cases hq; exact ⟨ks, rfl⟩)
        cases v with
        | ref r _ _ _ => exact root r rfl
        | msl r _ _ _ _ => exact root r rfl
        | _ => exact ⟨rfl, hb, hl, hw, hf.set i (pure u hu rfl), hd⟩
      · cases h
    · cases h
  · rename_i i j
    split at h
    · rename_i r ver row off hv
      split at h
      · rename_i rows hrows
        split at h
        · rename_i cs hcs
          split at h
          · rename_i v hv1
            split at h
            · rename_i u q hu hq
              split at h
              · rename_i rows2 hrows2
                cases h
                rw [← hs] at hrows hu hrows2 ⊢
                have hlv : live V.S q := by
                  cases v <;> simp only [AV.root, Option.some.injEq, reduceCtorEq] at hq
                  · subst hq
                    simp only [frzW] at hu
                    split at hu
                    · rename_i rows hrr; exact ⟨_, cellsAt_get hrr, rfl⟩
                    · cases hu
                  · subst hq
                    simp only [frzW] at hu
                    split at hu
                    · rename_i rows hrr
                      simp only [srows] at hrr
                      split at hrr
                      · rename_i rows0 hr0; exact ⟨_, cellsAt_get hr0, rfl⟩
                      · cases hrr
                    · cases hu
                obtain ⟨kl, kw, ks⟩ := kill_sim hw hlv
                have hqr : r ≠ q := by
                  rintro rfl
                  obtain ⟨o, ho, ha⟩ := hlv
                  have hlt := get_lt ho
                  simp only [killAt, ho, cellsAt, List.getElem?_set_self hlt] at hrows2
                  cases o <;> simp [kill] at hrows2
                have hsame : (killAt V.S q)[r]? = V.S[r]? := by
                  unfold killAt
                  split
                  · rw [List.getElem?_set_ne (Ne.symm hqr)]
                  · rfl
                have hr1 : cellsAt (killAt V.S q) r ver = some rows := by rw [cellsAt_congr hsame]; exact hrows
                obtain ⟨cs0, e, lo, hi, c1, c2, c3, c4, c5, c6⟩ := cells_obj kw hr1
                have hμ : updμ V.μ r (V.μ r) = V.μ := by funext x; simp only [updμ]; split <;> simp_all
                have put : Put (killAt V.S q) r (.cells ver (rows.set row (cs.set (off + j) u))) ((killAt V.S q).set r (.cells ver (rows.set row (cs.set (off + j) u)))) := .set (get_lt (cellsAt_get hr1))
                have cl : claims { V with S := killAt V.S q } r (.cells ver (rows.set row (cs.set (off + j) u))) (V.μ r) := ⟨by show bound (killAt V.S q) r ≤ _; rw [bound_of (cellsAt_get hr1)]; exact Nat.le_refl _, .inr ⟨rows, hr1, by simp, rfl⟩⟩
                have hbb : (live (killAt V.S q) r ∧ (V.μ r).blk = (V.μ r).blk) ∨ V.w.heap.size ≤ (V.μ r).blk := .inl ⟨⟨_, cellsAt_get hr1, rfl⟩, rfl⟩
                have hrl := get_lt (cellsAt_get hr1)
                have hcell : ∀ (i' j' : Nat) (row' : List AV) (x : AV), (rows.set row (cs.set (off + j) u))[i']? = some row' → row'[j']? = some x → ∃ z, cs0[(V.μ r).base + i' * (V.μ r).esz + j']? = some z ∧ one z = true ∧ VRel E { V with S := killAt V.S q } x z := by
                  intro i' j' row' x h1 h2
                  obtain ⟨cs1, _, _, _, d1, _, _, _, _, d6⟩ := cells_obj hw hrows
                  have hcs1 : cs1 = cs0 := by
                    have c1' : V.w.heap[(V.μ r).blk]? = _ := c1
                    rw [d1] at c1'; cases c1'; rfl
                  subst hcs1
                  rw [List.getElem?_set] at h1
                  split at h1
                  · rename_i hii
                    subst hii
                    split at h1
                    · cases h1
                      rw [List.getElem?_set] at h2
                      split at h2
                      · rename_i hjj
                        subst hjj
                        split at h2
                        · cases h2
                          obtain ⟨z, z1, z2, z3⟩ := d6 row (off + j) cs v hcs hv1
                          exact ⟨z, z1, z2, frzW_rel hw (V' := { V with S := killAt V.S q }) kl z3 hu (fun q' hq' _ => by rw [hq] at hq'; cases hq'; exact ⟨ks, rfl⟩)⟩
                        · cases h2
                      · exact c6 row j' cs x hcs h2
                    · cases h1
                  · exact c6 i' j' row' x h1 h2
                have hrow : ∀ (i' : Nat) (row' : List AV), (rows.set row (cs.set (off + j) u))[i']? = some row' → row'.length = (V.μ r).esz := by
                  intro i' row' h1
                  rw [List.getElem?_set] at h1
                  split at h1
                  · split at h1
                    · cases h1; rw [List.length_set]; exact c5 row cs hcs
                    · cases h1
                  · exact c5 i' row' h1
                have A := Later.upd (V := { V with S := killAt V.S q }) (w' := V.w) put cl (Nat.le_refl _) (fun _ _ _ => rfl) hbb
                have B := kw.upd (w' := V.w) put cl (Nat.le_refl _) (fun _ _ _ => rfl) hbb ⟨rfl, rfl, rfl⟩ (fun hl => ⟨cs0, e, lo, hi, c1, c2, c3, by simpa using c4, hrow, fun i' j' row' x h1 h2 => let ⟨z, z1, z2, z3⟩ := hcell i' j' row' x h1 h2; ⟨z, z1, z2, z3.later hl⟩⟩)
                simp only [hμ] at A B
                have L := kl.trans A
                exact ⟨rfl, hb, hl.trans L, B, hf.later L, hd.later L⟩
              · cases h
            · cases h
          · cases h
        · cases h
      · cases h
    · cases h
  · split at h
    · rename_i hc
      cases h
      simp only [Bool.and_eq_true, decide_eq_true_eq] at hc
      obtain ⟨⟨⟨h0, h1⟩, h2⟩, h3⟩ := hc
      rw [← hs] at h0 h1 h2 ⊢
      obtain ⟨tl, tw, tm⟩ := trunc_sim (n := V.S.length - 1) hl (by omega) hw h2
      refine ⟨rfl, hb, tl, tw, ⟨hf.size, fun i x hi => tm _ _ (hf.get i x hi) (limL_get h1 hi)⟩, ?_⟩
      have hd0 : st.d = [] := by simpa using h3
      simp only [hd0] at hd ⊢
      revert hd
      generalize a.defers = ds
      intro hd
      cases hd; exact .nil _
    · cases h
  · rename_i k
    split at h
    · rename_i hc
      cases h
      simp only [Bool.and_eq_true] at hc
      obtain ⟨⟨h1, h2⟩, h3⟩ := hc
      rw [← hs] at h2 ⊢
      obtain ⟨tl, tw, tm⟩ := trunc_sim (n := st.b + k) hl (by omega) hw h2
      refine ⟨rfl, hb, tl, tw, ⟨hf.size, fun i x hi => tm _ _ (hf.get i x hi) (limL_get h1 hi)⟩, ?_⟩
      have hd0 : st.d = [] := by simpa using h3
      simp only [hd0] at hd ⊢
      revert hd
      generalize a.defers = ds
      intro hd
      cases hd; exact .nil _
    · cases h

end
end Go.Proofs.YtleommjdeejmkaaGreatDoor.Zq
