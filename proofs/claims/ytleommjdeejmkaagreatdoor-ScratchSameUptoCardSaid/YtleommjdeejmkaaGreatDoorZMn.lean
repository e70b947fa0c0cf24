/-
  What the form of a claim reads of memory as data, as the abstract machine's values.
  From a run of the abstract machine to what a claim's form asks of a call: a law that answers true and leaves all as it was.
  Conditions: none but those that each theorem names.
-/
import Derived.Test.YtleommjdeejmkaaGreatDoorZMj
import Derived.ChangeArms
import Derived.OpenShut
import Derived.ChangeSame
import Derived.Test.YtleommjdeejmkaaGreatDoorZMl
import Derived.Carry
import Derived.ChangeOld
set_option linter.all false

namespace Go.Proofs.YtleommjdeejmkaaGreatDoor.Zq
open Go Go.RowKit

/-- The shapes of plain data. -/
inductive Sh where
  | b
  | i (k : IntKind)
  | s
  | sl (z : Nat) (e : Sh)
  | agg (l : List Sh)

section
variable {H : Type}

/- The cells of a datum. -/
mutual
def dAV : Sh → DataW H → Option (List AV)
  | .b, .lit (.bool x) => some [.bool x]
  | .i k, .lit (.int j n) => if j = k ∧ (Lit.int k n).wf = true then some [.int k n] else none
  | .s, .lit (.string x) => some [.str x]
  | .sl _ _, .nil => some [.zsl true]
  | .sl z e, .slice xs _ => (dRows e xs).map fun rows => [.sl z rows]
  | .agg l, .agg ds => dAVs l ds
  | _, _ => none
def dAVs : List Sh → List (DataW H) → Option (List AV)
  | [], [] => some []
  | e :: l, d :: ds => (dAV e d).bind fun x => (dAVs l ds).map fun y => x ++ y
  | _, _ => none
def dRows (e : Sh) : List (DataW H) → Option (List (List AV))
  | [] => some []
  | d :: ds => (dAV e d).bind fun x => (dRows e ds).map fun y => x :: y
end
end

section
variable (P : Program)

/-- Pieces, one behind the other: their places, their sizes. -/
def seqFs : Nat → List Field → Bool
  | _, [] => true
  | o, f :: fs => f.offset == o && seqFs (o + P.cellsOf f.type) fs

/- Has a type of the program's this shape? -/
mutual
def shOk : TypeId → Sh → Bool
  | t, .b => match P.underlying t with
    | some .bool => true
    | _ => false
  | t, .i j => match P.underlying t with
    | some (.int k) => k == j
    | _ => false
  | t, .s => match P.underlying t with
    | some .string => true
    | _ => false
  | t, .sl z e => match P.underlying t with
    | some (.slice u) => P.cellsOf u == z && z != 0 && shOk u e
    | _ => false
  | t, .agg l => match P.underlying t with
    | some (.struct fs) => shOks (fs.toList.map (·.type)) l && seqFs P 0 fs.toList && P.cellsOf t == (fs.toList.map fun f => P.cellsOf f.type).sum
    | some (.array m u) => shOks (List.replicate m u) l && P.cellsOf t == m * P.cellsOf u
    | _ => false
def shOks : List TypeId → List Sh → Bool
  | [], [] => true
  | t :: ts, e :: l => shOk t e && shOks ts l
  | _, _ => false
end
end

theorem shOks_at {P : Program} : ∀ (ts : List TypeId) (l : List Sh), shOks P ts l = true → ts.length = l.length ∧ ∀ (i : Nat) (t : TypeId), ts[i]? = some t → ∃ e, l[i]? = some e ∧ shOk P t e = true
  | [], [], _ => ⟨rfl, fun i f h => by simp at h⟩
  | [], _ :: _, h => by simp [shOks] at h
  | _ :: _, [], h => by simp [shOks] at h
  | t :: ts, e :: l, h => by
    simp only [shOks, Bool.and_eq_true] at h
    obtain ⟨a, b⟩ := shOks_at ts l h.2
    refine ⟨by simp [a], fun i g hg => ?_⟩
    cases i with
    | zero => simp at hg; subst hg; exact ⟨e, rfl, h.1⟩
    | succ i => simp at hg; simpa using b i g hg

section
variable {E : Env} {V : Vw} {H : Type} {enc : TypeId × Value → H} {spare : Nat → Bool} {held : Bool} {w : World}

/-- Cells, one by one. -/
def LRel (E : Env) (V : Vw) (xs : List AV) (vs : List Value) : Prop :=
  xs.length = vs.length ∧ ∀ (i : Nat) (x : AV), xs[i]? = some x → ∃ v, vs[i]? = some v ∧ one v = true ∧ VRel E V x v

theorem LRel.nil : LRel E V [] [] := ⟨rfl, fun i x h => by simp at h⟩
theorem LRel.one {x : AV} {v : Value} (h : VRel E V x v) (h1 : one v = true) : LRel E V [x] [v] := ⟨rfl, fun i y hy => by
  cases i with
  | zero => simp at hy; subst hy; exact ⟨v, rfl, h1, h⟩
  | succ i => simp at hy⟩
theorem LRel.append {xs ys : List AV} {vs us : List Value} (h : LRel E V xs vs) (k : LRel E V ys us) : LRel E V (xs ++ ys) (vs ++ us) := by
  refine ⟨by simp [h.1, k.1], fun i x hx => ?_⟩
  rcases Nat.lt_or_ge i xs.length with hlt | hge
  · rw [List.getElem?_append_left hlt] at hx
    obtain ⟨v, a, b⟩ := h.2 i x hx
    exact ⟨v, by rw [List.getElem?_append_left (by rw [← h.1]; exact hlt)]; exact a, b⟩
  · rw [List.getElem?_append_right hge] at hx
    obtain ⟨v, a, b⟩ := k.2 _ x hx
    exact ⟨v, by rw [List.getElem?_append_right (by rw [← h.1]; exact hge), ← h.1]; exact a, b⟩

theorem cells_get {a : Addr} {n : Nat} {vs : List Value} (h : w.cells? 0 a n = some vs) : vs.length = n ∧ ∀ (j : Nat) (v : Value), vs[j]? = some v → w.cell? (a.add j) = some v := by
  unfold World.cells? at h
  rw [if_pos (Nat.zero_le _)] at h
  have hl := mapM_some_length h
  simp only [List.length_range] at hl
  refine ⟨hl, fun j v hv => ?_⟩
  have hj : j < n := by rw [← hl]; rcases Nat.lt_or_ge j vs.length with h' | h'; exact h'; rw [List.getElem?_eq_none h'] at hv; cases hv
  have := mapM_some_get h j j (by simp [hj])
  rw [hv] at this; exact this

/-- The parts of a struct or an array. -/
theorem parts_rel {n : Nat} (ih : ∀ (t : TypeId) (sh : Sh) (cs : List Value) (x : DataW H × List MemPlace), shOk E.P t sh = true → DataW.trod enc E.P w 0 spare held n t cs = some x → ∃ xs, dAV sh x.1 = some xs ∧ LRel E V xs cs) :
    ∀ (ts : List (Nat × TypeId)) (shs : List Sh) (xs : List (DataW H × List MemPlace)) (cs : List Value) (o : Nat),
      (∀ (i o' : Nat) (t : TypeId), ts[i]? = some (o', t) → ∃ e, shs[i]? = some e ∧ shOk E.P t e = true) → ts.length = shs.length → ts.length = xs.length →
      (∀ (i o' : Nat) (t : TypeId), ts[i]? = some (o', t) → o' = o + ((ts.take i).map fun p => E.P.cellsOf p.2).sum ∧ DataW.trod enc E.P w 0 spare held n t ((cs.drop o').take (E.P.cellsOf t)) = xs[i]?) →
      cs.length = o + (ts.map fun p => E.P.cellsOf p.2).sum → ∃ ys, dAVs shs (xs.map (·.1)) = some ys ∧ LRel E V ys (cs.drop o) := by
  intro ts
  induction ts with
  | nil =>
    intro shs xs cs o h1 h2 h3 h4 h5
    have : shs = [] := List.length_eq_zero_iff.1 h2.symm
    subst this
    have : xs = [] := List.length_eq_zero_iff.1 h3.symm
    subst this
    refine ⟨[], rfl, ?_⟩
    rw [List.drop_of_length_le (by simp at h5; omega)]
    exact LRel.nil
  | cons p ts iht =>
    obtain ⟨o0, t⟩ := p
    intro shs xs cs o h1 h2 h3 h4 h5
    match shs, xs, h2, h3 with
    | s :: shs, x :: xs, h2, h3 =>
      obtain ⟨s', hs', hok⟩ := h1 0 o0 t rfl
      simp at hs'; subst hs'
      obtain ⟨ho, htr⟩ := h4 0 o0 t rfl
      simp at ho; subst ho
      simp at htr
      obtain ⟨ys, hy, hl⟩ := ih t s _ x hok htr
      obtain ⟨zs, hz, hk⟩ := iht shs xs cs (o0 + E.P.cellsOf t) (fun i o' t' h => by simpa using h1 (i + 1) o' t' (by simpa using h)) (by simpa using h2) (by simpa using h3)
        (fun i o' t' h => by
          obtain ⟨a, b⟩ := h4 (i + 1) o' t' (by simpa using h)
          exact ⟨by simp [List.map_take] at a ⊢; omega, by simpa using b⟩) (by simp at h5; omega)
      refine ⟨ys ++ zs, by simp [dAVs, hy, hz], ?_⟩
      have : cs.drop o0 = (cs.drop o0).take (E.P.cellsOf t) ++ cs.drop (o0 + E.P.cellsOf t) := by
        rw [← List.drop_drop, List.take_append_drop]
      rw [this]
      exact hl.append hk

theorem seqFs_at {P : Program} : ∀ (fs : List Field) (o i : Nat) (f : Field), seqFs P o fs = true → fs[i]? = some f → f.offset = o + ((fs.take i).map fun g => P.cellsOf g.type).sum
  | [], o, i, f, _, h => by simp at h
  | g :: fs, o, 0, f, hs, h => by simp at h; subst h; simp [seqFs] at hs; simp [hs.1]
  | g :: fs, o, i + 1, f, hs, h => by
    simp only [seqFs, Bool.and_eq_true, beq_iff_eq] at hs
    have := seqFs_at fs _ i f hs.2 (by simpa using h)
    simp only [List.take_succ_cons, List.map_cons, List.sum_cons]; omega

theorem rows_of {e : Sh} : ∀ (ds : List (DataW H)) (rows : List (List AV)), (∀ (i : Nat) (d : DataW H), ds[i]? = some d → ∃ r, rows[i]? = some r ∧ dAV e d = some r) → rows.length = ds.length → dRows e ds = some rows
  | [], rows, _, hl => by have : rows = [] := List.length_eq_zero_iff.1 hl; subst this; rfl
  | d :: ds, [], _, hl => by simp at hl
  | d :: ds, r :: rows, h, hl => by
    obtain ⟨r', h1, h2⟩ := h 0 d rfl
    simp at h1; subst h1
    simp [dRows, h2, rows_of ds rows (fun i d hd => by simpa using h (i + 1) d (by simpa using hd)) (by simpa using hl)]

/-- What is read as data, stands as the abstract machine's values. -/
theorem trod_rel (hV : V.w = w) (hset : ∀ b, b < w.heap.size → V.settled b) : ∀ (n : Nat) (t : TypeId) (sh : Sh) (cs : List Value) (x : DataW H × List MemPlace),
    shOk E.P t sh = true → DataW.trod enc E.P w 0 spare held n t cs = some x → ∃ xs, dAV sh x.1 = some xs ∧ LRel E V xs cs := by
  intro n
  induction n with
  | zero => intro t sh cs x _ h; simp [DataW.trod] at h
  | succ n ih =>
    intro t sh cs x h htr
    cases sh with
    | b =>
      have hu : E.P.underlying t = some .bool := by
        simp only [shOk] at h
        split at h
        · assumption
        · cases h
      obtain ⟨b, rfl, rfl⟩ := DataW.trod_bool hu htr
      exact ⟨[.bool b], rfl, LRel.one (.bool b) rfl⟩
    | i j =>
      simp only [shOk] at h
      split at h
      · rename_i k hu
        rw [beq_iff_eq] at h; subst h
        obtain ⟨m, rfl, rfl, hwf⟩ := DataW.trod_int hu htr
        exact ⟨[.int k m], by simp [dAV, hwf], LRel.one (.int k m) rfl⟩
      · cases h
    | s =>
      have hu : E.P.underlying t = some .string := by
        simp only [shOk] at h
        split at h
        · assumption
        · cases h
      obtain ⟨s, rfl, rfl, _⟩ := DataW.trod_string hu htr
      exact ⟨[.str s.data.toList], rfl, LRel.one (.str _ s rfl) rfl⟩
    | sl z s =>
      simp only [shOk] at h
      split at h
      rotate_left
      · cases h
      rename_i e hu
      simp only [Bool.and_eq_true, beq_iff_eq, bne_iff_ne, ne_eq] at h
      obtain ⟨⟨hz, hz0⟩, hok⟩ := h
      rcases DataW.trod_slice hu htr with ⟨rfl, rfl⟩ | ⟨a, len, cap, elems, rest, n', hn', rfl, rfl, hb, hle, hcap, hel, hget, _, _⟩
      · exact ⟨[.zsl true], rfl, LRel.one (.zsl true none rfl) rfl⟩
      · cases hn'
        -- each element
        have key : ∀ (i : Nat) (y : DataW H × List MemPlace), elems[i]? = some y → ∃ (r : List AV) (vs : List Value), dAV s y.1 = some r ∧ r.length = z ∧ vs.length = z ∧ LRel E V r vs ∧ ∀ (j : Nat) (v : Value), vs[j]? = some v → w.cell? ((a.add (i * z)).add j) = some v := by
          intro i y hy
          have hi : i < len := by rw [← hel]; rcases Nat.lt_or_ge i elems.length with h' | h'; exact h'; rw [List.getElem?_eq_none h'] at hy; cases hy
          have hg := hget i hi
          rw [hy] at hg
          cases hc : w.cells? 0 (a.add (i * E.P.cellsOf e)) (E.P.cellsOf e) with
          | none => rw [hc] at hg; cases hg
          | some vs =>
            rw [hc] at hg
            simp only [Option.bind_some] at hg
            obtain ⟨r, hr, hlr⟩ := ih e s vs y hok hg
            obtain ⟨hvl, hvg⟩ := cells_get hc
            rw [hz] at hvl hvg
            exact ⟨r, vs, hr, by rw [hlr.1, hvl], hvl, hlr, hvg⟩
        obtain ⟨rows, hrl, hrows⟩ : ∃ rows : List (List AV), rows.length = elems.length ∧ ∀ (i : Nat) (y : DataW H × List MemPlace), elems[i]? = some y → ∃ r, rows[i]? = some r ∧ dAV s y.1 = some r := by
          have : ∀ (l : List (DataW H × List MemPlace)), (∀ y ∈ l, ∃ r, dAV s y.1 = some r) → ∃ rows : List (List AV), rows.length = l.length ∧ ∀ (i : Nat) (y : DataW H × List MemPlace), l[i]? = some y → ∃ r, rows[i]? = some r ∧ dAV s y.1 = some r := by
            intro l
            induction l with
            | nil => intro _; exact ⟨[], rfl, fun i y h => by simp at h⟩
            | cons y l ihl =>
              intro hall
              obtain ⟨r, hr⟩ := hall y (by simp)
              obtain ⟨rows, h1, h2⟩ := ihl (fun y hy => hall y (by simp [hy]))
              refine ⟨r :: rows, by simp [h1], fun i y' hy' => ?_⟩
              cases i with
              | zero => simp at hy'; subst hy'; exact ⟨r, rfl, hr⟩
              | succ i => simp at hy'; simpa using h2 i y' hy'
          refine this elems (fun y hy => ?_)
          obtain ⟨i, hi⟩ := List.getElem?_of_mem hy
          obtain ⟨r, _, hr, _⟩ := key i y hi
          exact ⟨r, hr⟩
        have hd : dRows s (elems.map (·.1)) = some rows := rows_of _ _ (fun i d hd => by
          rw [List.getElem?_map] at hd
          cases hy : elems[i]? with
          | none => rw [hy] at hd; cases hd
          | some y => rw [hy] at hd; simp at hd; subst hd; exact hrows i y hy) (by simp [hrl])
        refine ⟨[.sl z rows], by simp [dAV, hd], LRel.one ?_ rfl⟩
        by_cases h0 : rows = []
        · subst h0
          simp at hrl
          have : len = 0 := by rw [← hel, ← hrl]
          subst this
          exact .slnil z a cap
        · have hpos : 0 < rows.length := List.length_pos_iff.2 h0
          have hlen : rows.length = len := by rw [hrl, hel]
          -- where it lies
          have at' : ∀ (i j : Nat) (row : List AV) (y : AV), rows[i]? = some row → row[j]? = some y → ∃ v, w.cell? ((a.add (i * z)).add j) = some v ∧ one v = true ∧ VRel E V y v := by
            intro i j row y hi hj
            have hil : i < elems.length := by rw [← hrl]; exact get_lt hi
            obtain ⟨p, hp⟩ : ∃ p, elems[i]? = some p := ⟨_, List.getElem?_eq_getElem hil⟩
            obtain ⟨r, vs, hr, _, _, hlr, hv⟩ := key i p hp
            obtain ⟨r', hr1, hr2⟩ := hrows i p hp
            rw [hr] at hr2; cases hr2
            rw [hi] at hr1; cases hr1
            obtain ⟨v, v1, v2, v3⟩ := hlr.2 j y hj
            exact ⟨v, hv j v v1, v2, v3⟩
          have rowlen : ∀ (i : Nat) (row : List AV), rows[i]? = some row → row.length = z := by
            intro i row hi
            have hil : i < elems.length := by rw [← hrl]; exact get_lt hi
            obtain ⟨p, hp⟩ : ∃ p, elems[i]? = some p := ⟨_, List.getElem?_eq_getElem hil⟩
            obtain ⟨r, vs, hr, hrz, _, hlr, hv⟩ := key i p hp
            obtain ⟨r', hr1, hr2⟩ := hrows i p hp
            rw [hr] at hr2; cases hr2
            rw [hi] at hr1; cases hr1
            exact hrz
          obtain ⟨r0, hr0⟩ : ∃ r, rows[0]? = some r := ⟨_, List.getElem?_eq_getElem hpos⟩
          have hl0 := rowlen 0 r0 hr0
          obtain ⟨y0, hy0⟩ : ∃ y, r0[0]? = some y := ⟨_, List.getElem?_eq_getElem (by omega)⟩
          obtain ⟨v0, hv0, _, _⟩ := at' 0 0 r0 y0 hr0 hy0
          have hspot : a.spot = none := by
            simp [Addr.add] at hv0
            unfold World.cell? at hv0
            split at hv0
            · split at hv0
              · cases hv0
              · rename_i hsp; simpa using hsp
            · cases hv0
          obtain ⟨blk, off, spot⟩ := a
          simp only at hspot
          subst hspot
          have hadd : ∀ i j : Nat, ((⟨blk, off, none⟩ : Addr).add (i * z)).add j = ⟨blk, off + i * z + j, none⟩ := by
            intro i j; rw [add_addr, add_addr]
          have hblk : blk < w.heap.size := by
            rw [hadd] at hv0; exact cell_lt hv0
          have hv := VRel.sl (E := E) (V := V) z rows blk off cap (fun i j => (w.cell? ⟨blk, off + i * z + j, none⟩).getD undef) (by omega) (hset blk hblk) rowlen
            (fun i j row y hi hj => by
              obtain ⟨v, h1, _, _⟩ := at' i j row y hi hj
              rw [hadd] at h1
              rw [hV, h1]; rfl)
            (fun i j row y hi hj => by
              obtain ⟨v, h1, h2, _⟩ := at' i j row y hi hj
              rw [hadd] at h1
              rw [h1]; exact h2)
            (fun i j row y hi hj => by
              obtain ⟨v, h1, _, h3⟩ := at' i j row y hi hj
              rw [hadd] at h1
              rw [h1]; exact h3)
          rw [hlen] at hv
          exact hv
    | agg l =>
      simp only [shOk] at h
      split at h
      · rename_i fs hu
        simp only [Bool.and_eq_true, beq_iff_eq] at h
        obtain ⟨⟨hfs, hseq⟩, hcells⟩ := h
        obtain ⟨xs, n', hn', rfl, hcl, hxl, hget⟩ := DataW.trod_struct hu htr
        cases hn'
        obtain ⟨hll, hsh⟩ := shOks_at _ _ hfs
        have hat : ∀ (i : Nat) (o' : Nat) (u : TypeId), (fs.toList.map fun f => (f.offset, f.type))[i]? = some (o', u) → ∃ f, fs.toList[i]? = some f ∧ f.offset = o' ∧ f.type = u := by
          intro i o' u hi
          rw [List.getElem?_map] at hi
          cases hf : fs.toList[i]? with
          | none => rw [hf] at hi; cases hi
          | some f => rw [hf] at hi; simp at hi; exact ⟨f, rfl, hi.1, hi.2⟩
        obtain ⟨ys, hy, hl⟩ := parts_rel (V := V) (n := n) ih (fs.toList.map fun f => (f.offset, f.type)) l xs cs 0
          (fun i o' u hi => by
            obtain ⟨f, hf, _, rfl⟩ := hat i o' u hi
            exact hsh i f.type (by simp only [List.getElem?_map, hf, Option.map_some]))
          (by simpa using hll) (by simp [hxl])
          (fun i o' u hi => by
            obtain ⟨f, hf, rfl, rfl⟩ := hat i o' u hi
            refine ⟨?_, hget i f (by simpa using hf)⟩
            have := seqFs_at fs.toList 0 i f hseq hf
            simpa [← List.map_take, Function.comp_def] using this)
          (by rw [hcl, hcells]; simp [Function.comp_def])
        exact ⟨ys, by simpa [dAV] using hy, by simpa using hl⟩
      · rename_i m e hu
        simp only [Bool.and_eq_true, beq_iff_eq] at h
        obtain ⟨hfs, hcells⟩ := h
        obtain ⟨xs, n', hn', rfl, hcl, hxl, hget⟩ := DataW.trod_array hu htr
        cases hn'
        obtain ⟨hll, hsh⟩ := shOks_at _ _ hfs
        have hat : ∀ (i : Nat) (o' : Nat) (u : TypeId), ((List.range m).map fun i => (i * E.P.cellsOf e, e))[i]? = some (o', u) → i < m ∧ o' = i * E.P.cellsOf e ∧ u = e := by
          intro i o' u hi
          rw [List.getElem?_map] at hi
          cases hf : (List.range m)[i]? with
          | none => rw [hf] at hi; cases hi
          | some k =>
            rw [hf] at hi
            have hk := get_lt hf
            simp at hk
            rw [List.getElem?_range hk] at hf
            simp at hf; subst hf
            simp at hi
            exact ⟨hk, hi.1.symm, hi.2.symm⟩
        have hsum : ∀ k, ((List.replicate k e).map E.P.cellsOf).sum = k * E.P.cellsOf e := fun k => by simp
        have hconst : ∀ (l : List Nat), (l.map fun _ => E.P.cellsOf e).sum = l.length * E.P.cellsOf e := fun l => by
          induction l with
          | nil => simp
          | cons a l ih => simp [ih, Nat.add_mul, Nat.add_comm]
        obtain ⟨ys, hy, hl⟩ := parts_rel (V := V) (n := n) ih ((List.range m).map fun i => (i * E.P.cellsOf e, e)) l xs cs 0
          (fun i o' u hi => by
            obtain ⟨hk, _, rfl⟩ := hat i o' u hi
            exact hsh i u (by simp [List.getElem?_replicate, hk]))
          (by simpa using hll) (by simp [hxl])
          (fun i o' u hi => by
            obtain ⟨hk, rfl, rfl⟩ := hat i o' u hi
            refine ⟨?_, hget i hk⟩
            simp only [← List.map_take, List.map_map, Function.comp_def, Nat.zero_add]
            rw [hconst]
            simp [Nat.min_eq_left (Nat.le_of_lt hk)])
          (by rw [hcl, hcells]; simp only [List.map_map, Function.comp_def]; rw [hconst]; simp)
        exact ⟨ys, by simpa [dAV] using hy, by simpa using hl⟩
      · cases h

end
end Go.Proofs.YtleommjdeejmkaaGreatDoor.Zq

namespace Go.Proofs.YtleommjdeejmkaaGreatDoor.Zq
open Go Go.RowKit Go.ChangeShapes Go.WideShapes

/-- A parameter's value by its cells. -/
def argAV : Sh → List AV → AV
  | .agg _, xs => .agg xs
  | _, x :: _ => x
  | _, [] => .junk

def dArgs {H : Type} : List Sh → List (DataW H) → Option (List AV)
  | [], [] => some []
  | e :: l, d :: ds => (dAV e d).bind fun x => (dArgs l ds).map fun y => argAV e x :: y
  | _, _ => none

section
variable {E : Env} {V : Vw} {H : Type} {enc : TypeId × Value → H} {spare : Nat → Bool} {held : Bool} {w : World}

theorem cells_one {P : Program} {r : Reach} {b : Nat} {t : TypeId} {v : Value} (h : Cell.okWide P w r b t v) : v.cells = #[v] := by
  cases v with
  | agg cs =>
    unfold Cell.okWide at h
    split at h <;> first | rfl | skip
    all_goals first | (rename_i h1 h2; cases h2; done) | skip
    unfold Cell.ok at h
    split at h <;> first | (exact h.elim) | (rename_i h1 h2; cases h2; done)
  | _ => rfl

theorem LRel.vrel_one {x : AV} {v : Value} (h : LRel E V [x] [v]) : VRel E V x v := by
  obtain ⟨u, h1, _, h3⟩ := h.2 0 x rfl
  simp at h1; subst h1; exact h3

theorem arr_get_list (vs : Array Value) (i : Nat) (v : Value) (h : vs.toList[i]? = some v) : vs.getD i undef = v := by
  rw [← arr_getD, List.getD_eq_getElem?_getD, h]; rfl

theorem arg_rel (hV : V.w = w) (hset : ∀ b, b < w.heap.size → V.settled b) {r : Reach} {b : Nat} {t : TypeId} {sh : Sh} {v : Value} {d : DataW H} {ps : List MemPlace} (hsh : shOk E.P t sh = true)
    (hval : Value.okWide E.P w r b t v) (hd : DataW.Trod enc E.P w 0 spare held t v d ps) : ∃ xs, dAV sh d = some xs ∧ VRel E V (argAV sh xs) v := by
  obtain ⟨fuel, hf⟩ := hd
  obtain ⟨xs, hx, hl⟩ := trod_rel hV hset fuel t sh _ _ hsh hf
  refine ⟨xs, hx, ?_⟩
  have one : ∀ (hc : Cell.okWide E.P w r b t v), argAV sh xs = xs.headD .junk → VRel E V (argAV sh xs) v := by
    intro hc ha
    rw [cells_one hc] at hl
    have h1 := hl.1
    simp at h1
    match xs, h1, hl, ha with
    | [x], _, hl, ha => rw [ha]; exact hl.vrel_one
  have hd : (argAV sh xs = xs.headD .junk ∧ ∀ l, sh ≠ .agg l) ∨ ∃ l, sh = .agg l := by
    cases sh with
    | agg l => exact .inr ⟨l, rfl⟩
    | _ => exact .inl ⟨by cases xs <;> rfl, fun l h => by cases h⟩
  unfold Value.okWide at hval
  rcases hd with ⟨hd, hna⟩ | ⟨l, rfl⟩
  · refine one ?_ hd
    split at hval
    · rename_i hu
      cases sh <;> simp [shOk, hu] at hsh
      exact absurd rfl (hna _)
    · rename_i hu
      cases sh <;> simp [shOk, hu] at hsh
      exact absurd rfl (hna _)
    · exact hval
  · have hagg : ∃ cs, v = .agg cs := by
      simp only [shOk] at hsh
      split at hsh
      · rename_i hu; rw [hu] at hval; obtain ⟨cs, h, _⟩ := hval; exact ⟨cs, h⟩
      · rename_i hu; rw [hu] at hval; obtain ⟨cs, h, _⟩ := hval; exact ⟨cs, h⟩
      · cases hsh
    obtain ⟨cs, rfl⟩ := hagg
    simp only [Value.cells] at hl
    simp only [argAV]
    refine .agg xs cs (by simpa using hl.1.symm) (fun i hi => ?_) (fun i x hi => ?_)
    · have hix : i < xs.length := by rw [hl.1]; simpa using hi
      obtain ⟨x, hx⟩ : ∃ x, xs[i]? = some x := ⟨_, List.getElem?_eq_getElem hix⟩
      obtain ⟨u, h1, h2, _⟩ := hl.2 i x hx
      rw [arr_get_list cs i u h1]; exact h2
    · obtain ⟨u, h1, _, h3⟩ := hl.2 i x hi
      rw [arr_get_list cs i u h1]; exact h3

theorem args_rel (hV : V.w = w) (hset : ∀ b, b < w.heap.size → V.settled b) {r : Reach} {b : Nat} : ∀ (ts : List TypeId) (shs : List Sh) (vs : List Value) (ds : List (DataW H)) (ps : List MemPlace), shOks E.P ts shs = true →
    (∀ (j : Nat) t v, ts[j]? = some t → vs[j]? = some v → Value.okWide E.P w r b t v) → DataW.TrodAll enc E.P w 0 spare held ts vs ds ps →
    ∃ xs, dArgs shs ds = some xs ∧ xs.length = vs.length ∧ ∀ (i : Nat) (x : AV), xs[i]? = some x → ∃ v, vs[i]? = some v ∧ VRel E V x v := by
  intro ts
  induction ts with
  | nil =>
    intro shs vs ds ps hsh hval h
    obtain ⟨rfl, rfl, rfl⟩ := trodAll_nil h
    cases shs with
    | nil => exact ⟨[], rfl, rfl, fun i x h => by simp at h⟩
    | cons a b => simp [shOks] at hsh
  | cons t ts ih =>
    intro shs vs ds ps hsh hval h
    obtain ⟨v, vs', d, ds', p, q, rfl, rfl, rfl, h1, h2⟩ := trodAll_cons h
    cases shs with
    | nil => simp [shOks] at hsh
    | cons e l =>
      simp only [shOks, Bool.and_eq_true] at hsh
      obtain ⟨xs, hx, hr⟩ := arg_rel hV hset hsh.1 (hval 0 t v rfl rfl) h1
      obtain ⟨ys, hy, hl, hall⟩ := ih l vs' ds' q hsh.2 (fun j t v a b => hval (j + 1) t v (by simpa using a) (by simpa using b)) h2
      refine ⟨argAV e xs :: ys, by simp [dArgs, hx, hy], by simp [hl], fun i x hi => ?_⟩
      cases i with
      | zero => simp at hi; subst hi; exact ⟨v, rfl, hr⟩
      | succ i => simp at hi; simpa using hall i x hi

/-- A carried reading of all arguments. -/
theorem trodAll_stays {P : Program} (hl : laidOutB P = true) {W W' : World} (hb : Below W.heap.size W W') : ∀ (ts : List TypeId) (vs : List Value) (ds : List (DataW H)) (ps : List MemPlace), (∀ t ∈ ts, P.readableRec t = true ∧ t < P.types.size) →
    (∀ x ∈ ps, x.block < W.heap.size) → DataW.TrodAll enc P W 0 (fun _ => true) true ts vs ds ps → DataW.TrodAll enc P W' 0 (fun b => decide (b < W.heap.size)) true ts vs ds ps := by
  intro ts
  induction ts with
  | nil =>
    intro vs ds ps _ _ h
    obtain ⟨rfl, rfl, rfl⟩ := trodAll_nil h
    exact trodAll_mk0
  | cons t ts ih =>
    intro vs ds ps hts hlt h
    obtain ⟨v, vs', d, ds', p, q, rfl, rfl, rfl, h1, h2⟩ := trodAll_cons h
    obtain ⟨hr, hrow⟩ := hts t (by simp)
    exact ⟨p, q, Below.trod hl hr hrow h1 hb (fun x hx => hlt x (by simp [hx])), ih vs' ds' q (fun t ht => hts t (by simp [ht])) (fun x hx => hlt x (by simp [hx])) h2, rfl⟩

theorem readable_of {P : Program} {ts : List TypeId} (h : (ts.all fun t => P.readableRec t && decide (t < P.types.size)) = true) : ∀ t ∈ ts, P.readableRec t = true ∧ t < P.types.size := fun t ht => by
  have := List.all_eq_true.1 h t ht
  simpa using this

/-- A law's call: what the abstract machine says of it, the program does. -/
theorem law_calls (hF : Fits E) {g : FuncId} {id : Nat} (hσ : E.σ g = some id) (hcode : isCode E.T id = true) {fn : Func} {s : ChangeSpec} {tb : TypeId} (hvars : s.vars = []) (hres : fn.resultTypes = #[tb]) (htb : E.P.underlying tb = some .bool)
    (hlaid : laidOutB E.P = true) (hread : ∀ t ∈ fn.params.toList, E.P.readableRec t = true ∧ t < E.P.types.size) {shs : List Sh} (hsh : shOks E.P fn.params.toList shs = true)
    {W : World} {base : Nat} {args : Array Value} {ds gs : List (DataW H)} {before : List MemPlace}
    (hval : ∀ (j : Nat) t v, fn.params[j]? = some t → args[j]? = some v → Value.okWide E.P W .any base t v)
    (hW : DataW.Whole enc E.P fn.params.toList s.vars false W args.toList ds gs before) (hfn : s.fn H ds = { results := [.lit (.bool true)], args := ds })
    (hgl : ∀ b o v, (b, o, v) ∈ E.gl → W.cell? ⟨b, o, none⟩ = some v)
    (hrun : ∀ xs, dArgs shs ds = some xs → ∃ S', CC E.T (.f id) xs [] = some (.bool true, S')) :
    Calls E.P g args W fun e W' => ∃ v, e = .returned v ∧ s.post enc E.P fn false true false false W args v W' := by
  have hW' := hW
  obtain ⟨p, q, hA, hVs, rfl, hfz, _⟩ := hW
  have hgs : gs = [] ∧ q = [] := by
    rw [hvars] at hVs
    cases gs with
    | nil => exact ⟨rfl, hVs⟩
    | cons a b => exact hVs.elim
  obtain ⟨rfl, rfl⟩ := hgs
  let V : Vw := { w := W, μ := fun _ => ⟨0, 0, 0, 0⟩, S := [], X := fun _ => False }
  have hset : ∀ b, b < W.heap.size → V.settled b := fun b hb => ⟨hb, fun h => h, fun r hr => by obtain ⟨o, ho, _⟩ := hr; simp [V] at ho⟩
  obtain ⟨xs, hx, hl, hall⟩ := args_rel (E := E) (V := V) rfl hset fn.params.toList shs args.toList ds p hsh (fun j t v a b => hval j t v (by simpa using a) (by simpa using b)) hA
  obtain ⟨S', hr⟩ := hrun xs hx
  obtain ⟨n, hn⟩ := CC_iff.1 hr
  have hFR : FRel E V xs args := ⟨by simpa using hl.symm, fun i x hi => by
    obtain ⟨v, h1, h2⟩ := hall i x hi
    rw [arr_get_list args i v h1]; exact h2⟩
  have hWR : WRel E W V := ⟨Below.refl _ _, fun r ⟨o, ho, _⟩ => by simp [V] at ho, fun r r' ⟨o, ho, _⟩ => by simp [V] at ho, fun r o ho => by simp [V] at ho, fun b hb => hb.elim, hgl⟩
  have hent := call_sim hF n (.f id) xs [] _ _ hn W V rfl hWR args hFR g hσ
  rcases hent with ⟨h1, h2⟩ | ⟨v, w', h1, _⟩
  · refine (callsIn_wide.1 h2).mono fun e W' he => ?_
    cases e with
    | returned v =>
      obtain ⟨μ', k1, k2, k3⟩ := he
      have hv := k3.bool_inv
      subst hv
      have hb : Below W.heap.size W W' := k2.below
      refine ⟨_, rfl, ds, [], p ++ [], [], p, [], hW', ?_, ?_, ?_, hb.frame _, fun h => by cases h⟩
      · rw [List.append_nil, hfn, hres]
        exact trodAll_mk1 (shut_bool htb true)
      · rw [List.append_nil, hfn]
        exact trodAll_stays hlaid hb _ _ _ _ hread (fun x hx => hW'.lt x (by simp [hx])) hA
      · rw [hvars, List.append_nil, hfn]; rfl
    | panicked c => exact he.elim
    | outgrown => exact he.elim
  · rw [code_enters hF hσ hcode] at h1; cases h1

end
end Go.Proofs.YtleommjdeejmkaaGreatDoor.Zq
