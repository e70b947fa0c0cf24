/-
  How an abstract state reads a world: values, live objects, frames; and that what happens later keeps these readings.
  The abstract machine's operations on temporaries, held against the program's: whatever the evaluator says that an operation yields, the model's operation yields, in every world that reads so.
  The abstract machine's operations on temporaries, held against the program's (second part): arithmetic, comparisons, conversions.
  Comparison of values cell by cell, held against the model's '==' on integers, bools, strings, and structs and arrays of these.
  The abstract machine's maps, held against the model's: look-up, store, delete.
  Cells of memory: what loads and stores of rows of cells do to a world.
  Conditions: none but those that each theorem names.
-/
import Derived.Test.YtleommjdeejmkaaGreatDoorZMa
import Derived.Below
import Derived.Laws.StructEq
import Derived.Laws.Strings
import Derived.Laws.AppendOwn
import Derived.ChangeKeysEq
import Derived.MapKept
set_option linter.all false

namespace Go.Proofs.YtleommjdeejmkaaGreatDoor.Zq
open Go Go.RowKit

/-- Where a live object lies: its block, its first cell, the cells of a row, and how many rows there are for sure. -/
structure Loc where
  blk : Nat
  base : Nat
  esz : Nat
  cap : Nat

/-- A world, where the live objects lie in it, these objects, and blocks that are others'. -/
structure Vw where
  w : World
  μ : Nat → Loc
  S : List AObj
  X : Nat → Prop

def AObj.alive : AObj → Bool
  | .dead _ => false
  | _ => true

def live (S : List AObj) (r : Nat) : Prop := ∃ o, S[r]? = some o ∧ o.alive = true

/-- Values that speak of object r are of lesser versions. -/
def bound (S : List AObj) (r : Nat) : Nat :=
  match S[r]? with
  | some (.cells v _) => v + 1
  | some (.dead v) => v
  | some (.map _) => 1
  | some (.siter ..) => 1
  | some (.loop ..) => 1
  | none => 0

def Vw.settled (V : Vw) (b : Nat) : Prop := b < V.w.heap.size ∧ ¬ V.X b ∧ ∀ r, live V.S r → (V.μ r).blk ≠ b

/-- Not a struct, array or tuple: one cell's value. -/
def one : Value → Bool
  | .agg _ | .tuple _ => false
  | _ => true

inductive VRel (E : Env) (V : Vw) : AV → Value → Prop where
  | junk (v) : VRel E V .junk v
  | bool (b) : VRel E V (.bool b) (.bool b)
  | int (k n) : VRel E V (.int k n) (.int k n)
  | str (s) (bs : ByteArray) (h : bs.data.toList = s) : VRel E V (.str s) (.string bs)
  | nilp : VRel E V .nilp (.pointer none)
  | ref (r ver i off b o) (h : ver < bound V.S r)
      (h2 : ∀ rows, cellsAt V.S r ver = some rows → b = (V.μ r).blk ∧ o = (V.μ r).base + i * (V.μ r).esz + off) : VRel E V (.ref r ver i off) (.pointer (some ⟨b, o, none⟩))
  | vptr (row off b o) (f : Nat → Value) (hs : V.settled b) (hc : ∀ j x, row[j]? = some x → V.w.cell? ⟨b, o + j, none⟩ = some (f j))
      (h1 : ∀ j x, row[j]? = some x → one (f j) = true) (hv : ∀ j x, row[j]? = some x → VRel E V x (f j)) : VRel E V (.vptr row off) (.pointer (some ⟨b, o + off, none⟩))
  | zsl (b) (a : Option Addr) (h : a.isNone = b) : VRel E V (.zsl b) (.slice a 0 0)
  | slnil (z) (a : Addr) (cap) : VRel E V (.sl z []) (.slice (some a) 0 cap)
  | sl (z rows b o cap) (f : Nat → Nat → Value) (hl : rows.length ≤ cap) (hs : V.settled b) (hz : ∀ (i : Nat) (row : List AV), rows[i]? = some row → row.length = z)
      (hc : ∀ (i j : Nat) (row : List AV) (x : AV), rows[i]? = some row → row[j]? = some x → V.w.cell? ⟨b, o + i * z + j, none⟩ = some (f i j))
      (h1 : ∀ (i j : Nat) (row : List AV) (x : AV), rows[i]? = some row → row[j]? = some x → one (f i j) = true)
      (hv : ∀ (i j : Nat) (row : List AV) (x : AV), rows[i]? = some row → row[j]? = some x → VRel E V x (f i j)) : VRel E V (.sl z rows) (.slice (some ⟨b, o, none⟩) rows.length cap)
  | msl (r ver z off len b o cap) (h : ver < bound V.S r) (hl : len ≤ cap)
      (h2 : ∀ rows, cellsAt V.S r ver = some rows → (V.μ r).esz = z ∧ rows.length ≤ off + cap ∧ off + cap ≤ (V.μ r).cap ∧ (cap = 0 ∨ b = (V.μ r).blk ∧ o = (V.μ r).base + off * z)) :
      VRel E V (.msl r ver z off len) (.slice (some ⟨b, o, none⟩) len cap)
  | nilm : VRel E V .nilm (.map none)
  | mp (r b) (h : 0 < bound V.S r) (h2 : ∀ es, V.S[r]? = some (.map es) → b = (V.μ r).blk) : VRel E V (.mp r) (.map (some b))
  | it (r b) (h : 0 < bound V.S r) (h2 : ∀ s p, V.S[r]? = some (.siter s p) → b = (V.μ r).blk) : VRel E V (.it r) (.pointer (some ⟨b, 0, none⟩))
  | nilf : VRel E V .nilf .nilFunc
  | fn (id g first caps) (fs cs : Array Value) (hg : E.σ g = some id) (hf : fs.size = first.length) (hcs : cs.size = caps.length)
      (hvf : ∀ i x, first[i]? = some x → VRel E V x (fs.getD i undef)) (hvc : ∀ i x, caps[i]? = some x → VRel E V x (cs.getD i undef)) : VRel E V (.fn (.f id) first caps) (.func (.func g) fs cs)
  | fny (l b) (h : 0 < bound V.S l)
      (h2 : ∀ fr ps as bo st pe, V.S[l]? = some (.loop fr ps as bo st pe) → b = (V.μ l).blk) : VRel E V (.fn (.y l) [] []) (.func (.yield b) #[] #[])
  | niface : VRel E V .niface .nilIface
  | iface (t u) (x : AV) (v : Value) (ht : E.τ u = some t) (hv : VRel E V x v) : VRel E V (.iface t x) (.iface u v)
  | agg (cs) (vs : Array Value) (hs : vs.size = cs.length) (h1 : ∀ i, i < vs.size → one (vs.getD i undef) = true)
      (hv : ∀ i x, cs[i]? = some x → VRel E V x (vs.getD i undef)) : VRel E V (.agg cs) (.agg vs)
  | tup (cs) (vs : Array Value) (hs : vs.size = cs.length) (hv : ∀ i x, cs[i]? = some x → VRel E V x (vs.getD i undef)) : VRel E V (.tup cs) (.tuple vs)

/-- What comes later: the objects that were live and still are lie where they lay; what is settled stays as it is. -/
structure Later (V V' : Vw) : Prop where
  bnd : ∀ r, bound V.S r ≤ bound V'.S r
  obj : ∀ r ver rows', ver < bound V.S r → cellsAt V'.S r ver = some rows' → ∃ rows, cellsAt V.S r ver = some rows ∧ rows'.length ≤ rows.length ∧ V'.μ r = V.μ r
  map : ∀ r es', 0 < bound V.S r → V'.S[r]? = some (.map es') → (∃ es, V.S[r]? = some (.map es)) ∧ V'.μ r = V.μ r
  loop : ∀ r fr ps as bo st pe, 0 < bound V.S r → V'.S[r]? = some (.loop fr ps as bo st pe) → (∃ fr' ps' as' bo' st' pe', V.S[r]? = some (.loop fr' ps' as' bo' st' pe')) ∧ V'.μ r = V.μ r
  iter : ∀ r s' p', 0 < bound V.S r → V'.S[r]? = some (.siter s' p') → (∃ s p, V.S[r]? = some (.siter s p)) ∧ V'.μ r = V.μ r
  size : V.w.heap.size ≤ V'.w.heap.size
  still : ∀ b, V.settled b → V'.settled b ∧ V'.w.heap[b]? = V.w.heap[b]?
  X : V'.X = V.X

theorem Later.refl (V : Vw) : Later V V where
  bnd := fun _ => Nat.le_refl _
  obj := fun _ _ rows' _ h => ⟨rows', h, Nat.le_refl _, rfl⟩
  map := fun _ es' _ h => ⟨⟨es', h⟩, rfl⟩
  loop := fun _ fr ps as bo st pe _ h => ⟨⟨fr, ps, as, bo, st, pe, h⟩, rfl⟩
  iter := fun _ s p _ h => ⟨⟨s, p, h⟩, rfl⟩
  size := Nat.le_refl _
  still := fun _ h => ⟨h, rfl⟩
  X := rfl

theorem Later.trans {A B C : Vw} (h : Later A B) (k : Later B C) : Later A C where
  bnd := fun r => Nat.le_trans (h.bnd r) (k.bnd r)
  obj := fun r ver rows' hr h' => by
    obtain ⟨rows, h1, h2, h3⟩ := k.obj r ver rows' (Nat.lt_of_lt_of_le hr (h.bnd r)) h'
    obtain ⟨rows0, h4, h5, h6⟩ := h.obj r ver rows hr h1
    exact ⟨rows0, h4, Nat.le_trans h2 h5, h3.trans h6⟩
  map := fun r es' hr h' => by
    obtain ⟨⟨es, h1⟩, h3⟩ := k.map r es' (Nat.lt_of_lt_of_le hr (h.bnd r)) h'
    obtain ⟨h4, h6⟩ := h.map r es hr h1
    exact ⟨h4, h3.trans h6⟩
  loop := fun r fr ps as bo st pe hr h' => by
    obtain ⟨⟨a, b, c, d, e, f, h1⟩, h3⟩ := k.loop r fr ps as bo st pe (Nat.lt_of_lt_of_le hr (h.bnd r)) h'
    obtain ⟨h4, h6⟩ := h.loop r a b c d e f hr h1
    exact ⟨h4, h3.trans h6⟩
  iter := fun r s' p' hr h' => by
    obtain ⟨⟨s, p, h1⟩, h3⟩ := k.iter r s' p' (Nat.lt_of_lt_of_le hr (h.bnd r)) h'
    obtain ⟨h4, h6⟩ := h.iter r s p hr h1
    exact ⟨h4, h3.trans h6⟩
  size := Nat.le_trans h.size k.size
  still := fun b hs => by
    obtain ⟨h1, h2⟩ := h.still b hs
    obtain ⟨h3, h4⟩ := k.still b h1
    exact ⟨h3, h4.trans h2⟩
  X := k.X.trans h.X

theorem cell_lt {w : World} {b o : Nat} {v : Value} (h : w.cell? ⟨b, o, none⟩ = some v) : b < w.heap.size := by
  rcases Nat.lt_or_ge b w.heap.size with h' | h'
  · exact h'
  · simp [World.cell?, Array.getElem?_eq_none h'] at h

theorem cell_same {w w' : World} {b : Nat} (h : w'.heap[b]? = w.heap[b]?) (o : Nat) : w'.cell? ⟨b, o, none⟩ = w.cell? ⟨b, o, none⟩ := by
  simp [World.cell?, h]

theorem Later.cell {V V' : Vw} (h : Later V V') {b o : Nat} {v : Value} (hs : V.settled b) (hc : V.w.cell? ⟨b, o, none⟩ = some v) : V'.w.cell? ⟨b, o, none⟩ = some v := by
  rw [cell_same (h.still b hs).2]; exact hc

/-- A value reads later as it read. -/
theorem VRel.later {E : Env} {V V' : Vw} {x : AV} {v : Value} (h : VRel E V x v) (hl : Later V V') : VRel E V' x v := by
  induction h with
  | junk v => exact .junk v
  | bool b => exact .bool b
  | int k n => exact .int k n
  | str s bs h => exact .str s bs h
  | nilp => exact .nilp
  | ref r ver i off b o h h2 =>
    refine .ref r ver i off b o (Nat.lt_of_lt_of_le h (hl.bnd _)) fun rows' hr => ?_
    obtain ⟨rows, h3, _, h5⟩ := hl.obj r ver rows' h hr
    rw [h5]; exact h2 rows h3
  | vptr row off b o f hs hc h1 hv ih =>
    exact .vptr row off b o f (hl.still b hs).1 (fun j x h => hl.cell hs (hc j x h)) h1 ih
  | zsl b a h => exact .zsl b a h
  | slnil z a cap => exact .slnil z a cap
  | sl z rows b o cap f hlen hs hz hc h1 hv ih => exact .sl z rows b o cap f hlen (hl.still b hs).1 hz (fun i j row x hi hj => hl.cell hs (hc i j row x hi hj)) h1 ih
  | msl r ver z off len b o cap h hlc h2 =>
    refine .msl r ver z off len b o cap (Nat.lt_of_lt_of_le h (hl.bnd _)) hlc fun rows' hr => ?_
    obtain ⟨rows, h3, h4, h5⟩ := hl.obj r ver rows' h hr
    rw [h5]
    obtain ⟨a1, a2, a3, a4⟩ := h2 rows h3
    exact ⟨a1, Nat.le_trans h4 a2, a3, a4⟩
  | nilm => exact .nilm
  | mp r b h h2 =>
    refine .mp r b (Nat.lt_of_lt_of_le h (hl.bnd _)) fun es' hr => ?_
    obtain ⟨⟨es, h3⟩, h5⟩ := hl.map r es' h hr
    rw [h5]; exact h2 es h3
  | it r b h h2 =>
    refine .it r b (Nat.lt_of_lt_of_le h (hl.bnd _)) fun s' p' hr => ?_
    obtain ⟨⟨s, p, h3⟩, h5⟩ := hl.iter r s' p' h hr
    rw [h5]; exact h2 s p h3
  | nilf => exact .nilf
  | fn id g first caps fs cs hg hf hcs hvf hvc ihf ihc => exact .fn id g first caps fs cs hg hf hcs ihf ihc
  | fny l b h h2 =>
    refine .fny l b (Nat.lt_of_lt_of_le h (hl.bnd _)) fun fr ps as bo st pe hr => ?_
    obtain ⟨⟨a, b, c, d, e, f, h3⟩, h5⟩ := hl.loop l fr ps as bo st pe h hr
    rw [h5]; exact h2 a b c d e f h3
  | niface => exact .niface
  | iface t u x v ht hv ih => exact .iface t u x v ht ih
  | agg cs vs hs h1 hv ih => exact .agg cs vs hs h1 ih
  | tup cs vs hs hv ih => exact .tup cs vs hs ih


/-! ### Live objects -/

def exCode : Option Ex → Option Code
  | some (.exit id) => some (.exit id)
  | some .ret => some .ret
  | _ => none

def stNum : LoopState → Nat
  | .ready => 0
  | .busy => 1
  | .done => 2
  | .exhausted => 3

/-- What block and place ℓ hold of an object. -/
def ORel (E : Env) (V : Vw) (ℓ : Loc) : AObj → Prop
  | .dead _ => True
  | .cells _ rows => ∃ cs e lo hi, V.w.heap[ℓ.blk]? = some (.cells cs e (lo, hi)) ∧ (hi ≤ lo ∨ cs.size ≤ lo) ∧ ℓ.base + ℓ.cap * ℓ.esz ≤ cs.size ∧ rows.length ≤ ℓ.cap ∧
      (∀ (i : Nat) (row : List AV), rows[i]? = some row → row.length = ℓ.esz) ∧
      (∀ (i j : Nat) (row : List AV) (x : AV), rows[i]? = some row → row[j]? = some x → ∃ v, cs[ℓ.base + i * ℓ.esz + j]? = some v ∧ one v = true ∧ VRel E V x v)
  | .map es => ∃ mes clock, V.w.heap[ℓ.blk]? = some (.map mes clock) ∧ mes.size = es.length ∧
      ∀ (i : Nat) (k v : AV), es[i]? = some (k, v) → ∃ me, mes[i]? = some me ∧ VRel E V k me.key ∧ VRel E V v me.val
  | .siter s p => ∃ bs : ByteArray, V.w.heap[ℓ.blk]? = some (.stringIter bs p) ∧ bs.data.toList = s
  | .loop fr ps as bo st pe => ∃ L : Loop, V.w.heap[ℓ.blk]? = some (.loop L) ∧ stNum L.state = st ∧ L.pending = exCode pe ∧ L.params.toList = ps ∧ mCode E as L.assign = true ∧ mCode E bo L.body = true ∧
      L.tmps.size = fr.length ∧ ∀ (i : Nat) (x : AV), fr[i]? = some x → VRel E V x (L.tmps.getD i undef)

theorem ORel.later {E : Env} {V V' : Vw} {ℓ : Loc} {o : AObj} (h : ORel E V ℓ o) (hl : Later V V') (hb : V'.w.heap[ℓ.blk]? = V.w.heap[ℓ.blk]?) : ORel E V' ℓ o := by
  cases o with
  | dead v => trivial
  | cells ver rows =>
    obtain ⟨cs, e, lo, hi, h1, h2, h3, h4, h5, h6⟩ := h
    refine ⟨cs, e, lo, hi, by rw [hb, h1], h2, h3, h4, h5, fun i j row x a b => ?_⟩
    obtain ⟨v, v1, v2, v3⟩ := h6 i j row x a b
    exact ⟨v, v1, v2, v3.later hl⟩
  | map es =>
    obtain ⟨mes, clock, h1, h2, h3⟩ := h
    refine ⟨mes, clock, by rw [hb, h1], h2, fun i k v a => ?_⟩
    obtain ⟨me, m1, m2, m3⟩ := h3 i k v a
    exact ⟨me, m1, m2.later hl, m3.later hl⟩
  | siter s p =>
    obtain ⟨bs, h1, h2⟩ := h
    exact ⟨bs, by rw [hb, h1], h2⟩
  | loop fr ps as bo st pe =>
    obtain ⟨L, h1, h2, h3, h4, h5, h6, h7, h8⟩ := h
    exact ⟨L, by rw [hb, h1], h2, h3, h4, h5, h6, h7, fun i x a => (h8 i x a).later hl⟩

/-- The world, read: below the call's beginning nothing has turned; each live object lies in a block of its own. -/
structure WRel (E : Env) (base : World) (V : Vw) : Prop where
  below : Below base.heap.size base V.w
  own : ∀ r, live V.S r → base.heap.size ≤ (V.μ r).blk ∧ ¬ V.X (V.μ r).blk
  inj : ∀ r r', live V.S r → live V.S r' → r ≠ r' → (V.μ r).blk ≠ (V.μ r').blk
  obj : ∀ r o, V.S[r]? = some o → ORel E V (V.μ r) o
  xlt : ∀ b, V.X b → b < V.w.heap.size
  glob : ∀ b o v, (b, o, v) ∈ E.gl → base.cell? ⟨b, o, none⟩ = some v

theorem WRel.glob_now {E : Env} {base : World} {V : Vw} (h : WRel E base V) {b o : Nat} {v : Value} (hm : (b, o, v) ∈ E.gl) : V.w.cell? ⟨b, o, none⟩ = some v := by
  have h1 := h.glob b o v hm
  rw [h.below.cell (cell_lt h1)]; exact h1

theorem ORel.blk_lt {E : Env} {V : Vw} {ℓ : Loc} {o : AObj} (h : ORel E V ℓ o) (ha : o.alive = true) : ℓ.blk < V.w.heap.size := by
  have key : ∀ ob, V.w.heap[ℓ.blk]? = some ob → ℓ.blk < V.w.heap.size := fun ob hob => by
    rcases Nat.lt_or_ge ℓ.blk V.w.heap.size with h' | h'
    · exact h'
    · rw [Array.getElem?_eq_none h'] at hob; cases hob
  cases o with
  | dead v => cases ha
  | cells ver rows => obtain ⟨cs, e, lo, hi, h1, _⟩ := h; exact key _ h1
  | map es => obtain ⟨mes, clock, h1, _⟩ := h; exact key _ h1
  | siter s p => obtain ⟨bs, h1, _⟩ := h; exact key _ h1
  | loop fr ps as bo st pe => obtain ⟨L, h1, _⟩ := h; exact key _ h1

theorem WRel.blk_lt {E : Env} {base : World} {V : Vw} (h : WRel E base V) {r : Nat} (hl : live V.S r) : (V.μ r).blk < V.w.heap.size := by
  obtain ⟨o, ho, ha⟩ := hl
  exact (h.obj r o ho).blk_lt ha

/-- The store with object r laid anew, or one more. -/
inductive Put (S : List AObj) (r : Nat) (o : AObj) : List AObj → Prop where
  | set (h : r < S.length) : Put S r o (S.set r o)
  | push (h : r = S.length) : Put S r o (S ++ [o])

theorem Put.same {S S' : List AObj} {r : Nat} {o : AObj} (h : Put S r o S') : S'[r]? = some o := by
  cases h with
  | set h => simp [h]
  | push h => subst h; simp

theorem Put.other {S S' : List AObj} {r i : Nat} {o : AObj} (h : Put S r o S') (hi : i ≠ r) : S'[i]? = S[i]? := by
  cases h with
  | set h => rw [List.getElem?_set_ne (by omega)]
  | push h =>
    subst h
    rcases Nat.lt_or_ge i S.length with h' | h'
    · rw [List.getElem?_append_left h']
    · rw [List.getElem?_eq_none h', List.getElem?_eq_none (by simp; omega)]

/-- May object r be laid anew as o at ℓ, and no value that spoke of it is wrong then? -/
def claims (V : Vw) (r : Nat) (o : AObj) (ℓ : Loc) : Prop :=
  match o with
  | .cells ver rows' => bound V.S r ≤ ver + 1 ∧ (bound V.S r ≤ ver ∨ ∃ rows, cellsAt V.S r ver = some rows ∧ rows'.length ≤ rows.length ∧ ℓ = V.μ r)
  | .map _ => bound V.S r = 0 ∨ ((∃ es, V.S[r]? = some (.map es)) ∧ ℓ = V.μ r)
  | .siter .. => bound V.S r = 0 ∨ ((∃ s p, V.S[r]? = some (.siter s p)) ∧ ℓ = V.μ r)
  | .loop .. => bound V.S r = 0 ∨ ((∃ a b c d e f, V.S[r]? = some (.loop a b c d e f)) ∧ ℓ = V.μ r)
  | .dead v => bound V.S r ≤ v

def updμ (μ : Nat → Loc) (r : Nat) (ℓ : Loc) : Nat → Loc := fun x => if x = r then ℓ else μ x

def boundO : AObj → Nat
  | .cells v _ => v + 1
  | .dead v => v
  | .map _ => 1
  | .siter .. => 1
  | .loop .. => 1

theorem bound_of {S : List AObj} {r : Nat} {o : AObj} (h : S[r]? = some o) : bound S r = boundO o := by
  unfold bound; rw [h]; cases o <;> rfl

theorem bound_congr {S S' : List AObj} {r : Nat} (h : S'[r]? = S[r]?) : bound S' r = bound S r := by unfold bound; rw [h]

theorem cellsAt_congr {S S' : List AObj} {r ver : Nat} (h : S'[r]? = S[r]?) : cellsAt S' r ver = cellsAt S r ver := by unfold cellsAt; rw [h]

theorem Later.upd {V : Vw} {r : Nat} {o : AObj} {ℓ : Loc} {w' : World} {S' : List AObj} (hS : Put V.S r o S') (hc : claims V r o ℓ)
    (hsz : V.w.heap.size ≤ w'.heap.size) (hw : ∀ b, b < V.w.heap.size → b ≠ ℓ.blk → w'.heap[b]? = V.w.heap[b]?)
    (hb : (live V.S r ∧ ℓ.blk = (V.μ r).blk) ∨ V.w.heap.size ≤ ℓ.blk) :
    Later V { w := w', μ := updμ V.μ r ℓ, S := S', X := V.X } where
  bnd := fun i => by
    by_cases hi : i = r
    · subst hi
      simp only
      rw [bound_of hS.same]
      cases o with
      | dead v => exact hc
      | cells ver rows => exact hc.1
      | map es => rcases hc with h | ⟨⟨es, h⟩, _⟩ <;> first | (rw [h]; exact Nat.zero_le _) | (rw [bound_of h]; simp [boundO])
      | siter s p => rcases hc with h | ⟨⟨s, p, h⟩, _⟩ <;> first | (rw [h]; exact Nat.zero_le _) | (rw [bound_of h]; simp [boundO])
      | loop a b c d e f => rcases hc with h | ⟨⟨a, b, c, d, e, f, h⟩, _⟩ <;> first | (rw [h]; exact Nat.zero_le _) | (rw [bound_of h]; simp [boundO])
    · exact Nat.le_of_eq (bound_congr (hS.other hi)).symm
  obj := fun i ver rows' hv h' => by
    by_cases hi : i = r
    · subst hi
      simp only [cellsAt, hS.same] at h'
      cases o with
      | cells v rows =>
        simp only at h'
        split at h'
        · rename_i hvv
          subst hvv
          cases h'
          obtain ⟨_, hc | ⟨rows0, h1, h2, h3⟩⟩ := hc
          · omega
          · exact ⟨rows0, h1, h2, by simp [updμ, h3]⟩
        · cases h'
      | dead v => cases h'
      | map es => cases h'
      | siter s p => cases h'
      | loop a b c d e f => cases h'
    · rw [cellsAt_congr (hS.other hi)] at h'
      exact ⟨rows', h', Nat.le_refl _, by simp [updμ, hi]⟩
  map := fun i es' hv h' => by
    by_cases hi : i = r
    · subst hi
      have : o = .map es' := by have h2 := hS.same; simp only at h'; rw [h2] at h'; exact Option.some.inj h'
      subst this
      rcases hc with h | ⟨h, h2⟩
      · omega
      · exact ⟨h, by simp [updμ, h2]⟩
    · simp only [hS.other hi] at h'
      exact ⟨⟨es', h'⟩, by simp [updμ, hi]⟩
  loop := fun i a b c d e f hv h' => by
    by_cases hi : i = r
    · subst hi
      have : o = .loop a b c d e f := by have h2 := hS.same; simp only at h'; rw [h2] at h'; exact Option.some.inj h'
      subst this
      rcases hc with h | ⟨h, h2⟩
      · omega
      · exact ⟨h, by simp [updμ, h2]⟩
    · simp only [hS.other hi] at h'
      exact ⟨⟨a, b, c, d, e, f, h'⟩, by simp [updμ, hi]⟩
  iter := fun i s' p' hv h' => by
    by_cases hi : i = r
    · subst hi
      have : o = .siter s' p' := by have h2 := hS.same; simp only at h'; rw [h2] at h'; exact Option.some.inj h'
      subst this
      rcases hc with h | ⟨h, h2⟩
      · omega
      · exact ⟨h, by simp [updμ, h2]⟩
    · simp only [hS.other hi] at h'
      exact ⟨⟨s', p', h'⟩, by simp [updμ, hi]⟩
  size := hsz
  still := fun b hs => by
    have hne : b ≠ ℓ.blk := by
      rcases hb with ⟨h1, h2⟩ | h
      · rw [h2]; exact fun e => hs.2.2 r h1 e.symm
      · have := hs.1; omega
    refine ⟨⟨Nat.lt_of_lt_of_le hs.1 hsz, hs.2.1, fun i hi => ?_⟩, hw b hs.1 hne⟩
    by_cases hir : i = r
    · simp only [updμ, hir, if_true]; exact fun e => hne e.symm
    · simp only [updμ, hir, if_false]
      obtain ⟨o', ho', ha'⟩ := hi
      exact hs.2.2 i ⟨o', by rw [← hS.other hir]; exact ho', ha'⟩
  X := rfl

theorem WRel.upd {E : Env} {base : World} {V : Vw} {r : Nat} {o : AObj} {ℓ : Loc} {w' : World} {S' : List AObj} (h : WRel E base V) (hS : Put V.S r o S') (hc : claims V r o ℓ)
    (hsz : V.w.heap.size ≤ w'.heap.size) (hw : ∀ b, b < V.w.heap.size → b ≠ ℓ.blk → w'.heap[b]? = V.w.heap[b]?)
    (hb : (live V.S r ∧ ℓ.blk = (V.μ r).blk) ∨ V.w.heap.size ≤ ℓ.blk) (hst : w'.os = V.w.os ∧ w'.tape = V.w.tape ∧ w'.output = V.w.output)
    (ho : Later V { w := w', μ := updμ V.μ r ℓ, S := S', X := V.X } → ORel E { w := w', μ := updμ V.μ r ℓ, S := S', X := V.X } ℓ o) :
    WRel E base { w := w', μ := updμ V.μ r ℓ, S := S', X := V.X } := by
  have hl := Later.upd hS hc hsz hw hb
  have hbase : base.heap.size ≤ ℓ.blk ∧ ¬ V.X ℓ.blk := by
    rcases hb with ⟨h1, h2⟩ | h1
    · rw [h2]; exact h.own r h1
    · refine ⟨Nat.le_trans h.below.size h1, fun hx => ?_⟩
      have := h.xlt _ hx; omega
  have hlive : ∀ i, i ≠ r → live S' i → live V.S i := fun i hi ⟨o', h1, h2⟩ => ⟨o', by rw [← hS.other hi]; exact h1, h2⟩
  have hother : ∀ i, i ≠ r → live V.S i → (V.μ i).blk ≠ ℓ.blk := fun i hi hli => by
    rcases hb with ⟨h1, h2⟩ | h1
    · rw [h2]; exact h.inj i r hli h1 hi
    · have := h.blk_lt hli; omega
  refine ⟨?_, ?_, ?_, ?_, ?_, h.glob⟩
  · refine ⟨hst.1.trans h.below.os, hst.2.1.trans h.below.tape, hst.2.2.trans h.below.output, Nat.le_trans h.below.size hsz, fun k hk => ?_⟩
    have hk' : k < V.w.heap.size := Nat.lt_of_lt_of_le hk h.below.size
    rw [show (Vw.w { w := w', μ := updμ V.μ r ℓ, S := S', X := V.X } : World) = w' from rfl, hw k hk' (by omega)]
    exact h.below.block k hk
  · intro i hi
    by_cases hir : i = r
    · subst hir; simpa [updμ] using hbase
    · simp only [updμ, hir, if_false]; exact h.own i (hlive i hir hi)
  · intro i j hi hj hij
    by_cases hir : i = r
    · subst hir
      have hjr : j ≠ i := fun e => hij e.symm
      simp only [updμ, if_true, hjr, if_false]
      exact fun e => hother j hjr (hlive j hjr hj) e.symm
    · by_cases hjr : j = r
      · subst hjr; simp only [updμ, if_true, hir, if_false]; exact hother i hir (hlive i hir hi)
      · simp only [updμ, hir, hjr, if_false]; exact h.inj i j (hlive i hir hi) (hlive j hjr hj) hij
  · intro i oi hi
    by_cases hir : i = r
    · subst hir
      have : oi = o := by have h2 := hS.same; simp only at hi; rw [h2] at hi; exact (Option.some.inj hi).symm
      subst this
      simpa [updμ] using ho hl
    · simp only [updμ, hir, if_false]
      simp only [hS.other hir] at hi
      by_cases ha : oi.alive = true
      · refine (h.obj i oi hi).later hl ?_
        exact hw _ (h.blk_lt ⟨oi, hi, ha⟩) (hother i hir ⟨oi, hi, ha⟩)
      · cases oi <;> simp [AObj.alive] at ha; trivial
  · intro b hx
    exact Nat.lt_of_lt_of_le (h.xlt b hx) hsz

end Go.Proofs.YtleommjdeejmkaaGreatDoor.Zq

namespace Go.Proofs.YtleommjdeejmkaaGreatDoor.Zq
open Go Go.RowKit

/-- A frame reads so. -/
structure FRel (E : Env) (V : Vw) (fr : List AV) (t : Array Value) : Prop where
  size : t.size = fr.length
  get : ∀ (i : Nat) (x : AV), fr[i]? = some x → VRel E V x (t.getD i undef)

theorem FRel.later {E : Env} {V V' : Vw} {fr : List AV} {t : Array Value} (h : FRel E V fr t) (hl : Later V V') : FRel E V' fr t :=
  ⟨h.size, fun i x hi => (h.get i x hi).later hl⟩

section
variable {E : Env} {V : Vw} {fr : List AV} {a : Act}

theorem cst1_rel {x : AV} {v : Value} (h : cst1 x v = true) : VRel E V x v ∧ one v = true := by
  unfold cst1 at h
  split at h <;> first | cases h; done | skip
  · rw [beq_iff_eq] at h; subst h; exact ⟨.bool _, rfl⟩
  · simp only [Bool.and_eq_true, beq_iff_eq] at h; obtain ⟨rfl, rfl⟩ := h; exact ⟨.int _ _, rfl⟩
  · rw [beq_iff_eq] at h; exact ⟨.str _ _ h, rfl⟩
  · exact ⟨.nilp, rfl⟩
  · exact ⟨.zsl _ _ rfl, rfl⟩
  · exact ⟨.nilm, rfl⟩
  · exact ⟨.nilf, rfl⟩
  · exact ⟨.niface, rfl⟩

theorem cstL_rel : ∀ {xs : List AV} {vs : List Value}, cstL xs vs = true → vs.length = xs.length ∧ (∀ v ∈ vs, one v = true) ∧ ∀ (i : Nat) (x : AV), xs[i]? = some x → VRel E V x (vs.getD i undef)
  | [], [], _ => ⟨rfl, by simp, by simp⟩
  | [], _ :: _, h => by cases h
  | _ :: _, [], h => by cases h
  | x :: xs, v :: vs, h => by
    simp only [cstL, Bool.and_eq_true] at h
    obtain ⟨h1, h2⟩ := h
    obtain ⟨r1, r2⟩ := cst1_rel (E := E) (V := V) h1
    obtain ⟨s1, s2, s3⟩ := cstL_rel h2
    refine ⟨by simp [s1], by simpa using ⟨r2, s2⟩, fun i y hi => ?_⟩
    cases i with
    | zero => simp at hi; subst hi; simpa using r1
    | succ i => simpa using s3 i y (by simpa using hi)

theorem arr_getD (vs : Array Value) (i : Nat) : vs.toList.getD i undef = vs.getD i undef := by
  simp [Array.getD_eq_getD_getElem?, List.getD_eq_getElem?_getD]

theorem cst_rel {x : AV} {v : Value} (h : cst x v = true) : VRel E V x v := by
  unfold cst at h
  split at h
  · rename_i xs vs
    obtain ⟨h1, h2, h3⟩ := cstL_rel (E := E) (V := V) h
    refine .agg _ _ (by simpa using h1) (fun i hi => ?_) (fun i y hi => ?_)
    · have : vs.getD i undef ∈ vs.toList := by
        rw [Array.getD_eq_getD_getElem?, Array.getElem?_eq_getElem hi]; simp
      exact h2 _ this
    · rw [← arr_getD]; exact h3 i y hi
  · rename_i vs; exact .tup _ _ (by simpa using h) (by simp)
  · exact (cst1_rel h).1

theorem opd_rel (hf : FRel E V fr a.tmps) {x : Opd} {y : Operand} {u : AV} (h : mOpd E x y = true) (hu : opd fr x = some u) : VRel E V u (a.eval y) := by
  unfold mOpd at h
  split at h <;> first | cases h; done | skip
  · rw [beq_iff_eq] at h; subst h; exact hf.get _ _ hu
  · simp only [opd, Option.some.injEq] at hu; subst hu; exact cst_rel h
  · rw [beq_iff_eq] at h
    simp only [opd, Option.some.injEq] at hu; subst hu
    exact .fn _ _ _ _ _ _ h rfl rfl (by simp) (by simp)

theorem opds_rel (hf : FRel E V fr a.tmps) : ∀ {xs : List Opd} {ys : List Operand} {us : List AV}, mOpds E xs ys = true → opds fr xs = some us →
    us.length = ys.length ∧ ∀ (i : Nat) (u : AV), us[i]? = some u → VRel E V u ((ys.map a.eval).getD i undef)
  | [], [], us, _, h => by simp only [opds, Option.some.injEq] at h; subst h; simp
  | [], _ :: _, _, h, _ => by cases h
  | _ :: _, [], _, h, _ => by cases h
  | x :: xs, y :: ys, us, h, hu => by
    simp only [mOpds, Bool.and_eq_true] at h
    unfold opds at hu
    split at hu
    · rename_i u us' h1 h2
      cases hu
      obtain ⟨l, r⟩ := opds_rel hf h.2 h2
      refine ⟨by simp [l], fun i z hi => ?_⟩
      cases i with
      | zero => simp at hi; subst hi; simpa using opd_rel hf h.1 h1
      | succ i => simpa using r i z (by simpa using hi)
    · cases hu

/-- An operation of the program's, carried out: it yields a value that reads as the abstract one, in a world that reads as the abstract store. -/
def OpOk (E : Env) (base : World) (V : Vw) (s : Sem Next) (v : AV) (S' : List AObj) : Prop :=
  ∃ nx w' μ' v', s.run E.P V.w = .ok nx w' ∧ (nx = .value v' ∨ nx = .skip ∧ v' = undef) ∧
    Later V { w := w', μ := μ', S := S', X := V.X } ∧ WRel E base { w := w', μ := μ', S := S', X := V.X } ∧ VRel E { w := w', μ := μ', S := S', X := V.X } v v'

theorem OpOk.val {base : World} {s : Sem Next} {v : AV} {v' : Value} (hw : WRel E base V) (h : s.run E.P V.w = .ok (.value v') V.w) (hv : VRel E V v v') : OpOk E base V s v V.S :=
  ⟨_, V.w, V.μ, v', h, .inl rfl, Later.refl _, hw, hv⟩

/-- A new block that belongs to nobody. -/
theorem Later.grow (V : Vw) (o : Obj) : Later V { V with w := V.w.alloc o } where
  bnd := fun _ => Nat.le_refl _
  obj := fun _ _ rows' _ h => ⟨rows', h, Nat.le_refl _, rfl⟩
  map := fun _ es' _ h => ⟨⟨es', h⟩, rfl⟩
  loop := fun _ fr ps as bo st pe _ h => ⟨⟨fr, ps, as, bo, st, pe, h⟩, rfl⟩
  iter := fun _ s p _ h => ⟨⟨s, p, h⟩, rfl⟩
  size := by simp
  still := fun b h => ⟨⟨by simp; have := h.1; omega, h.2⟩, Below.heap_alloc _ _ _ h.1⟩
  X := rfl

theorem WRel.grow {base : World} (hw : WRel E base V) (o : Obj) : WRel E base { V with w := V.w.alloc o } := by
  refine ⟨hw.below.alloc hw.below.size o, hw.own, hw.inj, fun r ob h => ?_, fun b hb => ?_, hw.glob⟩
  · by_cases ha : ob.alive = true
    · exact (hw.obj r ob h).later (Later.grow V o) (Below.heap_alloc _ _ _ (hw.blk_lt ⟨ob, h, ha⟩))
    · cases ob <;> simp [AObj.alive] at ha; trivial
  · simp; have := hw.xlt b hb; omega

theorem WRel.new_settled {base : World} (hw : WRel E base V) (o : Obj) : Vw.settled { V with w := V.w.alloc o } V.w.heap.size := by
  refine ⟨by simp, fun hx => ?_, fun r hr => ?_⟩
  · have := hw.xlt _ hx; omega
  · have := hw.blk_lt hr; simp only; omega

theorem execOp_sem {o : Oper} {s : Sem Value} (h : execOp a.eval o = (do pure (.value (← s)))) {w w' : World} {v : Value} (hs : s.run E.P w = .ok v w') :
    (execOp a.eval o).run E.P w = .ok (.value v) w' := by
  rw [h]; simp [hs]

/-! Inversions -/

theorem VRel.int_inv {k : IntKind} {n : Int} {v : Value} (h : VRel E V (.int k n) v) : v = .int k n := by cases h; rfl
theorem VRel.bool_inv {b : Bool} {v : Value} (h : VRel E V (.bool b) v) : v = .bool b := by cases h; rfl
theorem VRel.str_inv {s : List UInt8} {v : Value} (h : VRel E V (.str s) v) : ∃ bs : ByteArray, v = .string bs ∧ bs.data.toList = s := by cases h; exact ⟨_, rfl, by assumption⟩
theorem VRel.agg_inv {cs : List AV} {v : Value} (h : VRel E V (.agg cs) v) : ∃ vs : Array Value, v = .agg vs ∧ vs.size = cs.length ∧ (∀ i, i < vs.size → one (vs.getD i undef) = true) ∧
    ∀ (i : Nat) (x : AV), cs[i]? = some x → VRel E V x (vs.getD i undef) := by cases h; exact ⟨_, rfl, by assumption, by assumption, by assumption⟩
theorem VRel.tup_inv {cs : List AV} {v : Value} (h : VRel E V (.tup cs) v) : ∃ vs : Array Value, v = .tuple vs ∧ vs.size = cs.length ∧
    ∀ (i : Nat) (x : AV), cs[i]? = some x → VRel E V x (vs.getD i undef) := by cases h; exact ⟨_, rfl, by assumption, by assumption⟩

theorem bytes_ext {a b : ByteArray} (h : a.data.toList = b.data.toList) : a = b := by
  obtain ⟨⟨x⟩⟩ := a; obtain ⟨⟨y⟩⟩ := b; simp at h; subst h; rfl

/-- The cells of a value that may lie in memory. -/
theorem VRel.cells {x : AV} {v : Value} {cs : List AV} (h : VRel E V x v) (hc : x.cells? = some cs) :
    v.cells.size = cs.length ∧ (∀ i, i < v.cells.size → one (v.cells.getD i undef) = true) ∧ ∀ (i : Nat) (y : AV), cs[i]? = some y → VRel E V y (v.cells.getD i undef) := by
  have single : ∀ {x : AV} {v : Value}, VRel E V x v → cs = [x] → one v = true → v.cells = #[v] →
      v.cells.size = cs.length ∧ (∀ i, i < v.cells.size → one (v.cells.getD i undef) = true) ∧ ∀ (i : Nat) (y : AV), cs[i]? = some y → VRel E V y (v.cells.getD i undef) := by
    intro x v h e h1 hv
    subst e; rw [hv]
    refine ⟨rfl, fun i hi => ?_, fun i y hy => ?_⟩
    · have : i = 0 := by simp at hi; omega
      subst this; simpa using h1
    · cases i with
      | zero => simp at hy; subst hy; simpa using h
      | succ i => simp at hy
  cases h with
  | junk v => cases hc
  | tup => cases hc
  | agg cs' vs hs h1 hv => simp only [AV.cells?, Option.some.injEq] at hc; subst hc; exact ⟨hs, h1, hv⟩
  | ref r ver i off b o h h2 => exact single (.ref r ver i off b o h h2) (by simpa [AV.cells?] using hc.symm) rfl rfl
  | mp r b h h2 => exact single (.mp r b h h2) (by simpa [AV.cells?] using hc.symm) rfl rfl
  | it r b h h2 => exact single (.it r b h h2) (by simpa [AV.cells?] using hc.symm) rfl rfl
  | fny l b h h2 => exact single (.fny l b h h2) (by simpa [AV.cells?] using hc.symm) rfl rfl
  | bool b => exact single (.bool b) (by simpa [AV.cells?] using hc.symm) rfl rfl
  | int k n => exact single (.int k n) (by simpa [AV.cells?] using hc.symm) rfl rfl
  | str s bs h => exact single (.str s bs h) (by simpa [AV.cells?] using hc.symm) rfl rfl
  | nilp => exact single .nilp (by simpa [AV.cells?] using hc.symm) rfl rfl
  | vptr row off b o f hs hc' h1 hv => exact single (.vptr row off b o f hs hc' h1 hv) (by simpa [AV.cells?] using hc.symm) rfl rfl
  | zsl b a h => exact single (.zsl b a h) (by simpa [AV.cells?] using hc.symm) rfl rfl
  | slnil z a cap => exact single (.slnil z a cap) (by simpa [AV.cells?] using hc.symm) rfl rfl
  | sl z rows b o cap f hl hs hz hc' h1 hv => exact single (.sl z rows b o cap f hl hs hz hc' h1 hv) (by simpa [AV.cells?] using hc.symm) rfl rfl
  | msl r ver z off len b o cap h hl h2 => exact single (.msl r ver z off len b o cap h hl h2) (by simpa [AV.cells?] using hc.symm) rfl rfl
  | nilm => exact single .nilm (by simpa [AV.cells?] using hc.symm) rfl rfl
  | nilf => exact single .nilf (by simpa [AV.cells?] using hc.symm) rfl rfl
  | fn id g first caps fs cs' hg hf hcs hvf hvc => exact single (.fn id g first caps fs cs' hg hf hcs hvf hvc) (by simpa [AV.cells?] using hc.symm) rfl rfl
  | niface => exact single .niface (by simpa [AV.cells?] using hc.symm) rfl rfl
  | iface t u x v ht hv => exact single (.iface t u x v ht hv) (by simpa [AV.cells?] using hc.symm) rfl rfl

end
end Go.Proofs.YtleommjdeejmkaaGreatDoor.Zq

namespace Go.Proofs.YtleommjdeejmkaaGreatDoor.Zq
open Go Go.RowKit

section
variable {E : Env} {V : Vw} {fr : List AV} {a : Act}

theorem eqGuard_pure (op : BinOp) (t : TypeId) (x y : Operand) (u v : Value) (hu : ∀ cs, u ≠ .agg cs) (hn : u ≠ .nilIface) : eqGuard op t x y u v = pure () := by
  cases u <;> first | exact absurd rfl hn | exact absurd rfl (hu _) | (cases op <;> rfl)

theorem ibin_run {op : BinOp} {k : IntKind} {m n : Int} {v : AV} (t : TypeId) (h : ibin op k m n = some v) :
    ∃ v', (binOp op t (.int k m) (.int k n)).run E.P V.w = .ok v' V.w ∧ VRel E V v v' := by
  cases op <;> simp only [ibin, ibits, Option.some.injEq] at h
  case shl => cases h
  case shr => cases h
  case quo =>
    split at h
    · cases h
    · rename_i h0; cases h; exact ⟨_, by simp [binOp, Op.intDiv, h0], .int _ _⟩
  case rem =>
    split at h
    · cases h
    · rename_i h0; cases h; exact ⟨_, by simp [binOp, Op.intDiv, h0], .int _ _⟩
  all_goals
    subst h
    first
      | exact ⟨_, by simp only [binOp, ne_eq, not_true, if_false]; rfl, .bool _⟩
      | exact ⟨_, by simp only [binOp, ne_eq, not_true, if_false]; rfl, .int _ _⟩

theorem ishift_run {op : BinOp} {k k' : IntKind} {m n : Int} {v : AV} (t : TypeId) (hop : op = .shl ∨ op = .shr) (h : ishift op k m n = some v) :
    ∃ v', (binOp op t (.int k m) (.int k' n)).run E.P V.w = .ok v' V.w ∧ VRel E V v v' := by
  unfold ishift at h
  split at h
  · cases h
  · rename_i h0
    rcases hop with rfl | rfl <;> simp only [Option.some.injEq] at h <;> subst h
    · exact ⟨_, by simp [binOp, Op.shift, h0], .int _ _⟩
    · exact ⟨_, by simp [binOp, Op.shift, h0], .int _ _⟩

theorem sbin_run {op : BinOp} {s s' : List UInt8} {b b' : ByteArray} {v : AV} (t : TypeId) (hb : b.data.toList = s) (hb' : b'.data.toList = s') (h : sbin op s s' = some v) :
    ∃ v', (binOp op t (.string b) (.string b')).run E.P V.w = .ok v' V.w ∧ VRel E V v v' := by
  subst hb; subst hb'
  have e1 := ByteArray.toList_eq b
  have e2 := ByteArray.toList_eq b'
  cases op <;> simp only [sbin] at h
  case add =>
    split at h
    · rename_i hl
      cases h
      refine ⟨.string (b ++ b'), ?_, .str _ _ (by simp [ByteArray.data_append])⟩
      have : ¬ ((b.size + b'.size : Nat) : Int) > IntKind.i64.max := by
        rw [IntKind.max_i64]; have e3 : b.size = b.data.toList.length := rfl
        have e4 : b'.size = b'.data.toList.length := rfl
        omega
      simp only [binOp, Op.stringOp, this, if_false]; rfl
    · cases h
  all_goals first
    | (cases h; done)
    | (simp only [Option.some.injEq] at h
       subst h
       exact ⟨_, by simp only [binOp, Op.stringOp, e1, e2]; rfl, .bool _⟩)

theorem abin_run {op : BinOp} {x y v : AV} {u w : Value} (t : TypeId) (h : abin op x y = some v) (hu : VRel E V x u) (hw : VRel E V y w) :
    ∃ v', (binOp op t u w).run E.P V.w = .ok v' V.w ∧ VRel E V v v' ∧ (∀ cs, u ≠ .agg cs) ∧ u ≠ .nilIface := by
  unfold abin at h
  split at h
  · rename_i k m k' n
    rw [hu.int_inv, hw.int_inv]
    split at h
    · obtain ⟨v', h1, h2⟩ := ishift_run (E := E) (V := V) (k' := k') t (.inl rfl) h; exact ⟨v', h1, h2, (fun _ h => by cases h), (fun h => by cases h)⟩
    · obtain ⟨v', h1, h2⟩ := ishift_run (E := E) (V := V) (k' := k') t (.inr rfl) h; exact ⟨v', h1, h2, (fun _ h => by cases h), (fun h => by cases h)⟩
    · split at h
      · rename_i hk; subst hk
        obtain ⟨v', h1, h2⟩ := ibin_run (E := E) (V := V) t h; exact ⟨v', h1, h2, (fun _ h => by cases h), (fun h => by cases h)⟩
      · cases h
  · obtain ⟨b, rfl, hb⟩ := hu.str_inv
    obtain ⟨b', rfl, hb'⟩ := hw.str_inv
    obtain ⟨v', h1, h2⟩ := sbin_run (E := E) (V := V) t hb hb' h
    exact ⟨v', h1, h2, (fun _ h => by cases h), (fun h => by cases h)⟩
  · cases h

theorem aun_run {op : UnOp} {x v : AV} {u : Value} (h : aun op x = some v) (hu : VRel E V x u) : ∃ v', (Op.unary op u).run E.P V.w = .ok v' V.w ∧ VRel E V v v' := by
  unfold aun at h
  split at h
  · rename_i k n
    rw [hu.int_inv]
    cases op <;> simp only [ibits, Option.some.injEq] at h
    · subst h; exact ⟨_, rfl, .int _ _⟩
    · subst h; exact ⟨_, rfl, .int _ _⟩
    · cases h
    · cases h
  · rename_i b
    rw [hu.bool_inv]
    cases op <;> simp only [Option.some.injEq] at h
    · cases h
    · cases h
    · subst h; exact ⟨_, rfl, .bool _⟩
    · cases h
  · cases h

end
end Go.Proofs.YtleommjdeejmkaaGreatDoor.Zq

namespace Go.Proofs.YtleommjdeejmkaaGreatDoor.Zq
open Go Go.RowKit

section
variable {E : Env} {V : Vw}

/-- A value of a type, by its cells. -/
def PartRel (E : Env) (V : Vw) (t : TypeId) (cs : List AV) (v : Value) : Prop :=
  match aggT E t with
  | some true => ∃ vs : Array Value, v = .agg vs ∧ vs.size = cs.length ∧ ∀ (i : Nat) (x : AV), cs[i]? = some x → VRel E V x (vs.getD i undef)
  | _ => ∃ x, cs = [x] ∧ VRel E V x v

theorem keqK_len : ∀ {ks : List Nat} {xs ys : List AV} {e : Bool}, keqK ks xs ys = some e → xs.length = ks.length ∧ ys.length = ks.length
  | [], [], [], _, _ => ⟨rfl, rfl⟩
  | [], [], _ :: _, _, h => by cases h
  | [], _ :: _, _, _, h => by cases h
  | _ :: _, [], _, _, h => by cases h
  | _ :: _, _ :: _, [], _, h => by cases h
  | k :: ks, x :: xs, y :: ys, e, h => by
    unfold keqK at h
    split at h
    · rename_i a b h1 h2
      obtain ⟨l1, l2⟩ := keqK_len h2
      simp [l1, l2]
    · cases h

theorem keqK_append : ∀ {ks ls : List Nat} {xs ys : List AV} {e : Bool}, keqK (ks ++ ls) xs ys = some e →
    ∃ a b, keqK ks (xs.take ks.length) (ys.take ks.length) = some a ∧ keqK ls (xs.drop ks.length) (ys.drop ks.length) = some b ∧ e = (a && b)
  | [], ls, xs, ys, e, h => ⟨true, e, by simp [keqK], by simpa using h, by simp⟩
  | k :: ks, ls, [], ys, e, h => by simp [keqK] at h
  | k :: ks, ls, x :: xs, [], e, h => by simp [keqK] at h
  | k :: ks, ls, x :: xs, y :: ys, e, h => by
    simp only [List.cons_append] at h
    unfold keqK at h
    split at h
    · rename_i a b h1 h2
      cases h
      obtain ⟨c, d, h3, h4, h5⟩ := keqK_append h2
      exact ⟨a && c, d, by simp [keqK, h1, h3], by simpa using h4, by simp [h5, Bool.and_assoc]⟩
    · cases h

theorem run_typeInfo {P : Program} {t : TypeId} {i : TypeInfo} (h : P.info? t = some i) (w : World) : (typeInfo t).run P w = .ok i w := by
  simp [typeInfo, h]

theorem szOf_info {t : TypeId} {n : Nat} (h : szOf E t = some n) : ∃ i, E.P.info? t = some i ∧ i.size = n := by
  unfold szOf at h
  cases hi : E.P.info? t with
  | none => simp [hi] at h
  | some i => simp [hi] at h; exact ⟨i, rfl, h⟩

theorem run_sizeOf' {t : TypeId} {n : Nat} (h : szOf E t = some n) (w : World) : (sizeOf t).run E.P w = .ok n w := by
  obtain ⟨i, h1, h2⟩ := szOf_info h
  simp [sizeOf, typeInfo, h1, h2]

theorem run_isAgg {t : TypeId} {b : Bool} (h : aggT E t = some b) (w : World) : (isAgg t).run E.P w = .ok b w := by
  unfold aggT at h
  split at h
  · rename_i fs hu; cases h; simp [isAgg, run_underlying hu]
  · rename_i n e hu; cases h; simp [isAgg, run_underlying hu]
  · rename_i d h1 h2 hu
    cases h
    simp only [isAgg, Sem.run_bind, run_underlying hu, Result.andThen_ok]
    cases d <;> first | rfl | exact (h1 _ rfl).elim | exact (h2 _ _ rfl).elim
  · cases h

theorem cellsOf_sz {t : TypeId} {n : Nat} (h : szOf E t = some n) : E.P.cellsOf t = n := by
  obtain ⟨i, h1, h2⟩ := szOf_info h
  simp [Program.cellsOf, h1, h2]

/-- A part of an aggregate. -/
theorem run_part {t : TypeId} {n off : Nat} {cs : List AV} {vs : Array Value} (hz : szOf E t = some n) (ha : (aggT E t).isSome = true) (hs : vs.size = cs.length)
    (hv : ∀ (i : Nat) (x : AV), cs[i]? = some x → VRel E V x (vs.getD i undef)) (hoff : off + n ≤ cs.length) (h1 : aggT E t = some false → n = 1) (w : World) :
    ∃ v, (part t vs off).run E.P w = .ok v w ∧ PartRel E V t ((cs.drop off).take n) v := by
  cases hagg : aggT E t with
  | none => simp [hagg] at ha
  | some b =>
    unfold PartRel
    rw [hagg]
    cases b with
    | true =>
      refine ⟨.agg (vs.extract off (off + n)), ?_, vs.extract off (off + n), rfl, ?_, fun i x hi => ?_⟩
      · simp [part, run_isAgg hagg, run_sizeOf' hz]
      · simp [hs]; omega
      · have hin : i < n := by
          rcases Nat.lt_or_ge i n with h | h
          · exact h
          · rw [List.getElem?_eq_none (by simp; omega)] at hi; cases hi
        have hx : cs[off + i]? = some x := by rw [List.getElem?_take_of_lt hin, List.getElem?_drop] at hi; exact hi
        have := hv (off + i) x hx
        rw [Array.getD_eq_getD_getElem?] at this ⊢
        rw [Array.getElem?_extract]
        rw [if_pos (by omega)]
        exact this
    | false =>
      have hn := h1 hagg
      subst hn
      have hlt : off < cs.length := by omega
      have hx : cs[off]? = some cs[off] := List.getElem?_eq_getElem hlt
      have hvs : vs[off]? = some (vs.getD off undef) := by
        rw [Array.getD_eq_getD_getElem?, Array.getElem?_eq_getElem (by omega)]; rfl
      refine ⟨vs.getD off undef, ?_, cs[off], ?_, hv off _ hx⟩
      · simp only [part, Sem.run_bind, run_isAgg hagg, Result.andThen_ok, Bool.false_eq_true, if_false, hvs]; rfl
      · rw [List.drop_eq_getElem_cons hlt, List.take_succ_cons, List.take_zero]

/-- What 'equalIn' says of two values of a type whose cells are compared so. -/
def EqAt' (E : Env) (V : Vw) (t : TypeId) (ks : List Nat) (D : Nat) : Prop :=
  ∀ (cx cy : List AV) (e : Bool) (vx vy : Value) (w : World), keqK ks cx cy = some e → PartRel E V t cx vx → PartRel E V t cy vy → (Op.equalIn D t vx vy).run E.P w = .ok e w

theorem flatFs_eq {rec : TypeId → Option (List Nat)} {D : Nat} (hrec : ∀ t ks, rec t = some ks → (aggT E t = some false → ks.length = 1) ∧ EqAt' E V t ks D) :
    ∀ (fs : List Field) (off : Nat) (ks : List Nat) (cx cy : List AV) (e : Bool) (vx vy : Array Value) (w : World), flatFs E rec off fs = some ks →
      vx.size = cx.length → (∀ (i : Nat) (x : AV), cx[i]? = some x → VRel E V x (vx.getD i undef)) → vy.size = cy.length → (∀ (i : Nat) (x : AV), cy[i]? = some x → VRel E V x (vy.getD i undef)) →
      keqK ks (cx.drop off) (cy.drop off) = some e → (Op.eqFields D vx vy fs).run E.P w = .ok e w
  | [], off, ks, cx, cy, e, vx, vy, w, h, _, _, _, _, hk => by
    simp only [flatFs, Option.some.injEq] at h; subst h
    generalize cx.drop off = a at hk; generalize cy.drop off = b at hk
    cases a <;> cases b <;> simp [keqK] at hk
    subst hk; simp [Op.eqFields]
  | f :: fs, off, ks, cx, cy, e, vx, vy, w, h, hsx, hvx, hsy, hvy, hk => by
    unfold flatFs at h
    split at h
    · rename_i hc
      obtain ⟨hn, ho, ha⟩ := hc
      split at h
      · rename_i kf hkf
        split at h
        · rename_i hz
          obtain ⟨hz, hpos⟩ := hz
          cases hr : flatFs E rec (off + kf.length) fs with
          | none => simp [hr] at h
          | some kr =>
            simp only [hr, Option.map_some, Option.some.injEq] at h
            subst h
            obtain ⟨a, b, h1, h2, h3⟩ := keqK_append hk
            obtain ⟨hone, hEq⟩ := hrec _ _ hkf
            obtain ⟨l1, l2⟩ := keqK_len h1
            simp only [List.length_take, List.length_drop] at l1 l2
            obtain ⟨u, hu1, hu2⟩ := run_part (E := E) (V := V) (off := off) hz ha hsx hvx (by omega) hone w
            obtain ⟨u', hu1', hu2'⟩ := run_part (E := E) (V := V) (off := off) hz ha hsy hvy (by omega) hone w
            have heq := hEq _ _ _ _ _ w h1 hu2 hu2'
            have ih := flatFs_eq hrec fs (off + kf.length) kr cx cy b vx vy w hr hsx hvx hsy hvy (by simpa [List.drop_drop] using h2)
            simp only [Op.eqFields, hn, ne_eq, not_false_eq_true, if_true, Sem.run_bind, ho, hu1, hu1', Result.andThen_ok, heq, h3]
            cases a
            · simp
            · simpa using ih
        · cases h
      · cases h
    · cases h

theorem repK_len (n : Nat) (ks : List Nat) : (repK n ks).length = n * ks.length := by
  induction n with
  | zero => simp [repK]
  | succ n ih => simp [repK, ih, Nat.succ_mul, Nat.add_comm]

theorem eqItems_eq {t : TypeId} {ks : List Nat} {D : Nat} (hpos : 0 < ks.length) (hz : szOf E t = some ks.length) (ha : (aggT E t).isSome = true) (hone : aggT E t = some false → ks.length = 1) (hEq : EqAt' E V t ks D) :
    ∀ (n j : Nat) (cx cy : List AV) (e : Bool) (vx vy : Array Value) (w : World),
      vx.size = cx.length → (∀ (i : Nat) (x : AV), cx[i]? = some x → VRel E V x (vx.getD i undef)) → vy.size = cy.length → (∀ (i : Nat) (x : AV), cy[i]? = some x → VRel E V x (vy.getD i undef)) →
      keqK (repK n ks) (cx.drop (j * ks.length)) (cy.drop (j * ks.length)) = some e → (Op.eqItems D t (E.P.cellsOf t) vx vy (List.range' j n)).run E.P w = .ok e w
  | 0, j, cx, cy, e, vx, vy, w, _, _, _, _, hk => by
    generalize cx.drop (j * ks.length) = a at hk; generalize cy.drop (j * ks.length) = b at hk
    cases a <;> cases b <;> simp [repK, keqK] at hk
    subst hk; simp [Op.eqItems]
  | n + 1, j, cx, cy, e, vx, vy, w, hsx, hvx, hsy, hvy, hk => by
    simp only [repK] at hk
    obtain ⟨a, b, h1, h2, h3⟩ := keqK_append hk
    obtain ⟨l1, l2⟩ := keqK_len h1
    simp only [List.length_take, List.length_drop] at l1 l2
    obtain ⟨u, hu1, hu2⟩ := run_part (E := E) (V := V) (off := j * ks.length) hz ha hsx hvx (by omega) hone w
    obtain ⟨u', hu1', hu2'⟩ := run_part (E := E) (V := V) (off := j * ks.length) hz ha hsy hvy (by omega) hone w
    have heq := hEq _ _ _ _ _ w h1 hu2 hu2'
    have ih := eqItems_eq hpos hz ha hone hEq n (j + 1) cx cy b vx vy w hsx hvx hsy hvy (by simpa [List.drop_drop, Nat.succ_mul] using h2)
    simp only [List.range'_succ, Op.eqItems, cellsOf_sz hz, Sem.run_bind, hu1, hu1', Result.andThen_ok, heq, h3]
    cases a
    · simp
    · rw [cellsOf_sz hz] at ih
      simpa using ih

theorem flat_eq : ∀ (d : Nat) (t : TypeId) (ks : List Nat), flatK E d t = some ks → (aggT E t = some false → ks.length = 1) ∧ ∀ D, d ≤ D → EqAt' E V t ks D
  | 0, _, _, h => by cases h
  | d + 1, t, ks, h => by
    unfold flatK at h
    split at h
    · rename_i hu
      cases h
      have hagg : aggT E t = some false := by simp [aggT, hu]
      refine ⟨fun _ => rfl, fun D hD cx cy e vx vy w hk hx hy => ?_⟩
      obtain ⟨D, rfl⟩ : ∃ D', D = D' + 1 := ⟨D - 1, by omega⟩
      unfold PartRel at hx hy; rw [hagg] at hx hy
      obtain ⟨x, rfl, hx⟩ := hx; obtain ⟨y, rfl, hy⟩ := hy
      simp only [keqK] at hk
      cases x <;> cases y <;> simp only [kq] at hk <;> first | cases hk; done | skip
      rw [hx.bool_inv, hy.bool_inv]; simp at hk; subst hk
      exact run_equalIn_bool' w D t _ _ hu
    · rename_i k hu
      cases h
      have hagg : aggT E t = some false := by simp [aggT, hu]
      refine ⟨fun _ => rfl, fun D hD cx cy e vx vy w hk hx hy => ?_⟩
      obtain ⟨D, rfl⟩ : ∃ D', D = D' + 1 := ⟨D - 1, by omega⟩
      unfold PartRel at hx hy; rw [hagg] at hx hy
      obtain ⟨x, rfl, hx⟩ := hx; obtain ⟨y, rfl, hy⟩ := hy
      simp only [keqK] at hk
      cases x <;> cases y <;> simp only [kq] at hk <;> first | cases hk; done | skip
      rename_i k1 a k2 b
      rw [hx.int_inv, hy.int_inv]
      by_cases hkk : k1 = k2
      · subst hkk; simp at hk; subst hk
        exact run_equalIn_int w D t _ _ _ _ hu
      · simp [hkk] at hk
    · rename_i hu
      cases h
      have hagg : aggT E t = some false := by simp [aggT, hu]
      refine ⟨fun _ => rfl, fun D hD cx cy e vx vy w hk hx hy => ?_⟩
      obtain ⟨D, rfl⟩ : ∃ D', D = D' + 1 := ⟨D - 1, by omega⟩
      unfold PartRel at hx hy; rw [hagg] at hx hy
      obtain ⟨x, rfl, hx⟩ := hx; obtain ⟨y, rfl, hy⟩ := hy
      simp only [keqK] at hk
      cases x <;> cases y <;> simp only [kq] at hk <;> first | cases hk; done | skip
      obtain ⟨b, rfl, hb⟩ := hx.str_inv; obtain ⟨b', rfl, hb'⟩ := hy.str_inv
      simp at hk; subst hk; subst hb; subst hb'
      have := run_equalIn_string w D t b b' hu
      rw [ByteArray.toList_eq, ByteArray.toList_eq] at this
      exact this
    · rename_i fs hu
      have hagg : aggT E t = some true := by simp [aggT, hu]
      refine ⟨(fun h => by rw [hagg] at h; cases h), fun D hD cx cy e vx vy w hk hx hy => ?_⟩
      obtain ⟨D, rfl⟩ : ∃ D', D = D' + 1 := ⟨D - 1, by omega⟩
      split at h
      · cases h
      · rename_i hst
        unfold PartRel at hx hy; rw [hagg] at hx hy
        obtain ⟨vs, rfl, hs, hv⟩ := hx; obtain ⟨us, rfl, hs', hv'⟩ := hy
        have hf : E.P.fieldsOf t = fs := by simp [Program.fieldsOf, hu]
        rw [run_equalIn_struct w D t vs us (by rw [hf]; exact hu) (by simpa using hst), hf]
        exact flatFs_eq (fun t ks h => ⟨(flat_eq d t ks h).1, (flat_eq d t ks h).2 D (by omega)⟩) fs.toList 0 ks cx cy e vs us w h hs hv hs' hv' (by simpa using hk)
    · rename_i n el hu
      have hagg : aggT E t = some true := by simp [aggT, hu]
      refine ⟨(fun h => by rw [hagg] at h; cases h), fun D hD cx cy e vx vy w hk hx hy => ?_⟩
      obtain ⟨D, rfl⟩ : ∃ D', D = D' + 1 := ⟨D - 1, by omega⟩
      split at h
      · rename_i ke hke
        split at h
        · rename_i hc
          cases h
          obtain ⟨⟨hz, hpos⟩, ha⟩ := hc
          unfold PartRel at hx hy; rw [hagg] at hx hy
          obtain ⟨vs, rfl, hs, hv⟩ := hx; obtain ⟨us, rfl, hs', hv'⟩ := hy
          obtain ⟨i, hi, _⟩ := szOf_info hz
          rw [run_equalIn_array (w := w) D vs us hu hi, List.range_eq_range']
          exact eqItems_eq hpos hz ha (flat_eq d el ke hke).1 ((flat_eq d el ke hke).2 D (by omega)) n 0 cx cy e vs us w hs hv hs' hv' (by simpa using hk)
        · cases h
      · cases h
    · cases h

end
end Go.Proofs.YtleommjdeejmkaaGreatDoor.Zq

namespace Go.Proofs.YtleommjdeejmkaaGreatDoor.Zq
open Go Go.RowKit

section
variable {E : Env} {V : Vw}

/-- Which entry has the key. -/
def midx (ag : Bool) (ks : List Nat) (k : AV) : List (AV × AV) → Option (Option Nat)
  | [] => some none
  | (a, _) :: es => match keq ag ks k a with
    | some true => some (some 0)
    | some false => (midx ag ks k es).map fun o => o.map (· + 1)
    | none => none

theorem mfind_idx {ag : Bool} {ks : List Nat} {k : AV} : ∀ {es : List (AV × AV)} {r : Option AV}, mfind ag ks k es = some r →
    ∃ o, midx ag ks k es = some o ∧ (o = none ∧ r = none ∨ ∃ i a v, o = some i ∧ es[i]? = some (a, v) ∧ r = some v)
  | [], r, h => by simp only [mfind, Option.some.injEq] at h; subst h; exact ⟨none, rfl, .inl ⟨rfl, rfl⟩⟩
  | (a, v) :: es, r, h => by
    unfold mfind at h
    split at h
    · rename_i hk; cases h; exact ⟨some 0, by simp [midx, hk], .inr ⟨0, a, v, rfl, by simp, rfl⟩⟩
    · rename_i hk
      obtain ⟨o, h1, h2⟩ := mfind_idx h
      refine ⟨o.map (· + 1), by simp [midx, hk, h1], ?_⟩
      rcases h2 with ⟨rfl, rfl⟩ | ⟨i, a', v', rfl, h3, rfl⟩
      · exact .inl ⟨rfl, rfl⟩
      · exact .inr ⟨i + 1, a', v', rfl, by simpa using h3, rfl⟩
    · cases h

theorem mput_idx {ag : Bool} {ks : List Nat} {k u : AV} : ∀ {es es' : List (AV × AV)}, mput ag ks k u es = some es' →
    ∃ o, midx ag ks k es = some o ∧ (o = none ∧ es' = es ++ [(k, u)] ∨ ∃ i, o = some i ∧ i < es.length ∧ es' = es.set i (k, u))
  | [], es', h => by simp only [mput, Option.some.injEq] at h; subst h; exact ⟨none, rfl, .inl ⟨rfl, rfl⟩⟩
  | (a, v) :: es, es', h => by
    unfold mput at h
    split at h
    · rename_i hk; cases h; exact ⟨some 0, by simp [midx, hk], .inr ⟨0, rfl, by simp, by simp⟩⟩
    · rename_i hk
      cases hp : mput ag ks k u es with
      | none => simp [hp] at h
      | some es1 =>
        simp only [hp, Option.map_some, Option.some.injEq] at h; subst h
        obtain ⟨o, h1, h2⟩ := mput_idx hp
        refine ⟨o.map (· + 1), by simp [midx, hk, h1], ?_⟩
        rcases h2 with ⟨rfl, rfl⟩ | ⟨i, rfl, h3, rfl⟩
        · exact .inl ⟨rfl, rfl⟩
        · exact .inr ⟨i + 1, rfl, by simpa using h3, by simp⟩
    · cases h

theorem mdrop_idx {ag : Bool} {ks : List Nat} {k : AV} : ∀ {es es' : List (AV × AV)}, mdrop ag ks k es = some es' →
    ∃ o, midx ag ks k es = some o ∧ (o = none ∧ es' = es ∨ ∃ i, o = some i ∧ i < es.length ∧ es' = es.eraseIdx i)
  | [], es', h => by simp only [mdrop, Option.some.injEq] at h; subst h; exact ⟨none, rfl, .inl ⟨rfl, rfl⟩⟩
  | (a, v) :: es, es', h => by
    unfold mdrop at h
    split at h
    · rename_i hk; cases h; exact ⟨some 0, by simp [midx, hk], .inr ⟨0, rfl, by simp, by simp⟩⟩
    · rename_i hk
      cases hp : mdrop ag ks k es with
      | none => simp [hp] at h
      | some es1 =>
        simp only [hp, Option.map_some, Option.some.injEq] at h; subst h
        obtain ⟨o, h1, h2⟩ := mdrop_idx hp
        refine ⟨o.map (· + 1), by simp [midx, hk, h1], ?_⟩
        rcases h2 with ⟨rfl, rfl⟩ | ⟨i, rfl, h3, rfl⟩
        · exact .inl ⟨rfl, rfl⟩
        · exact .inr ⟨i + 1, rfl, by simpa using h3, by simp⟩
    · cases h

/-- What is known of a map's key type. -/
structure KeyT (E : Env) (kt : TypeId) (ag : Bool) (ks : List Nat) : Prop where
  agg : aggT E kt = some ag
  flat : flatK E 8 kt = some ks
  desc : ∃ d, E.P.underlying kt = some d ∧ (∀ fs, d ≠ .struct fs) ∧ (∀ n e, d = .array n e → aggT E e = some false ∧ ∃ z, szOf E e = some z)

theorem keyT_spec {kt : TypeId} {ag : Bool} {ks : List Nat} (h : keyT E kt ag ks = true) : KeyT E kt ag ks := by
  simp only [keyT, Bool.and_eq_true, beq_iff_eq] at h
  obtain ⟨⟨h1, h2⟩, h3⟩ := h
  refine ⟨h1, h2, ?_⟩
  cases hu : E.P.underlying kt with
  | none => simp [aggT, hu] at h1
  | some d =>
    refine ⟨d, rfl, fun fs hd => ?_, fun n e hd => ?_⟩
    · subst hd; simp [hu] at h3
    · subst hd
      simp only [hu, Bool.and_eq_true, beq_iff_eq] at h3
      exact ⟨h3.1, Option.isSome_iff_exists.1 h3.2⟩

/-- A key by its abstract value, as 'keq' takes it. -/
theorem keq_part {kt : TypeId} {ag : Bool} {ks : List Nat} (hk : KeyT E kt ag ks) {x y : AV} {e : Bool} (h : keq ag ks x y = some e) {u v : Value} (hu : VRel E V x u) (hv : VRel E V y v) :
    ∃ cx cy, keqK ks cx cy = some e ∧ PartRel E V kt cx u ∧ PartRel E V kt cy v := by
  unfold keq at h
  split at h
  · rename_i xs ys
    obtain ⟨us, rfl, h1, h2, h3⟩ := hu.agg_inv
    obtain ⟨vs, rfl, h4, h5, h6⟩ := hv.agg_inv
    exact ⟨xs, ys, h, by unfold PartRel; rw [hk.agg]; exact ⟨us, rfl, h1, h3⟩, by unfold PartRel; rw [hk.agg]; exact ⟨vs, rfl, h4, h6⟩⟩
  · exact ⟨_, _, h, by unfold PartRel; rw [hk.agg]; exact ⟨_, rfl, hu⟩, by unfold PartRel; rw [hk.agg]; exact ⟨_, rfl, hv⟩⟩
  · cases h

theorem keq_equal {kt : TypeId} {ag : Bool} {ks : List Nat} (hk : KeyT E kt ag ks) {x y : AV} {e : Bool} (h : keq ag ks x y = some e) {u v : Value} (hu : VRel E V x u) (hv : VRel E V y v) (w : World) :
    (Op.equal kt u v).run E.P w = .ok e w := by
  obtain ⟨cx, cy, h1, h2, h3⟩ := keq_part hk h hu hv
  exact (flat_eq 8 kt ks hk.flat).2 10000 (by omega) cx cy e u v w h1 h2 h3

theorem flatK_scalar {t : TypeId} {ks : List Nat} {d : TypeDesc} (h : flatK E 8 t = some ks) (hu : E.P.underlying t = some d) (h1 : ∀ fs, d ≠ .struct fs) (h2 : ∀ n e, d ≠ .array n e) :
    (d = .bool ∧ ks = [0]) ∨ (∃ k, d = .int k ∧ ks = [1]) ∨ (d = .string ∧ ks = [2]) := by
  unfold flatK at h
  rw [hu] at h
  cases d <;> simp only at h <;> first | (cases h; done) | exact (h1 _ rfl).elim | exact (h2 _ _ rfl).elim | skip
  · cases h; exact .inl ⟨rfl, rfl⟩
  · cases h; exact .inr (.inl ⟨_, rfl, rfl⟩)
  · cases h; exact .inr (.inr ⟨rfl, rfl⟩)

theorem sameNow_scalar {d : TypeDesc} {ks : List Nat} (hd : (d = .bool ∧ ks = [0]) ∨ (∃ k, d = .int k ∧ ks = [1]) ∨ (d = .string ∧ ks = [2])) {x y : AV} {e : Bool} (h : keq false ks x y = some e)
    {u v : Value} (hu : VRel E V x u) (hv : VRel E V y v) : Instr.sameNow d u v = some e := by
  rcases hd with ⟨rfl, rfl⟩ | ⟨k, rfl, rfl⟩ | ⟨rfl, rfl⟩ <;> simp only [keq, keqK] at h
  · cases x <;> cases y <;> simp only [kq] at h <;> first | cases h; done | skip
    rw [hu.bool_inv, hv.bool_inv]; simpa [Instr.sameNow] using h
  · cases x <;> cases y <;> simp only [kq] at h <;> first | cases h; done | skip
    rename_i k1 a k2 b
    rw [hu.int_inv, hv.int_inv]
    by_cases hkk : k1 = k2
    · subst hkk; simpa [Instr.sameNow] using h
    · simp [hkk] at h
  · cases x <;> cases y <;> simp only [kq] at h <;> first | cases h; done | skip
    obtain ⟨b, rfl, hb⟩ := hu.str_inv; obtain ⟨b', rfl, hb'⟩ := hv.str_inv
    subst hb; subst hb'
    simp only [Instr.sameNow, beq_toListBytes, ByteArray.toList_eq]
    simpa using h

/-- Entries read so. -/
def ERel (E : Env) (V : Vw) (es : List (AV × AV)) (mes : List MapEntry) : Prop :=
  mes.length = es.length ∧ ∀ (i : Nat) (k v : AV), es[i]? = some (k, v) → ∃ me, mes[i]? = some me ∧ VRel E V k me.key ∧ VRel E V v me.val

theorem ERel.cons_inv {a v : AV} {es : List (AV × AV)} {mes : List MapEntry} (h : ERel E V ((a, v) :: es) mes) : ∃ me mes', mes = me :: mes' ∧ VRel E V a me.key ∧ VRel E V v me.val ∧ ERel E V es mes' := by
  obtain ⟨h1, h2⟩ := h
  cases mes with
  | nil => simp at h1
  | cons me mes' =>
    obtain ⟨me', h3, h4, h5⟩ := h2 0 a v (by simp)
    simp at h3; subst h3
    exact ⟨me, mes', rfl, h4, h5, by simpa using h1, fun i k u hi => h2 (i + 1) k u (by simpa using hi)⟩

theorem findNow_run {d : TypeDesc} {ks : List Nat} (hd : (d = .bool ∧ ks = [0]) ∨ (∃ k, d = .int k ∧ ks = [1]) ∨ (d = .string ∧ ks = [2])) {k : AV} {u : Value} (hu : VRel E V k u) :
    ∀ {es : List (AV × AV)} {mes : List MapEntry} {o : Option Nat} (n : Nat), ERel E V es mes → midx false ks k es = some o →
      Instr.findNow d u mes n = some (o.bind fun i => (mes[i]?).map fun me => (n + i, me.val))
  | [], mes, o, n, h, hm => by
    have : mes = [] := by have := h.1; cases mes <;> simp_all
    subst this
    simp only [midx, Option.some.injEq] at hm; subst hm; rfl
  | (a, v) :: es, mes, o, n, h, hm => by
    obtain ⟨me, mes', rfl, h1, h2, h3⟩ := h.cons_inv
    unfold midx at hm
    split at hm
    · rename_i hk; cases hm
      simp [Instr.findNow, sameNow_scalar hd hk hu h1]
    · rename_i hk
      cases hm' : midx false ks k es with
      | none => simp [hm'] at hm
      | some o' =>
        simp only [hm', Option.map_some, Option.some.injEq] at hm; subst hm
        simp only [Instr.findNow, sameNow_scalar hd hk hu h1]
        rw [findNow_run hd hu (n + 1) h3 hm']
        cases o' with
        | none => rfl
        | some i => simp [Nat.add_assoc, Nat.add_comm 1 i]
    · cases hm

theorem findAsking_run {kt : TypeId} {ag : Bool} {ks : List Nat} (hk : KeyT E kt ag ks) {k : AV} {u : Value} (hu : VRel E V k u) :
    ∀ {es : List (AV × AV)} {mes : List MapEntry} {o : Option Nat} (n : Nat) (w : World), ERel E V es mes → midx ag ks k es = some o →
      (Instr.findAsking kt u mes n).run E.P w = .ok (o.bind fun i => (mes[i]?).map fun me => (n + i, me.val)) w
  | [], mes, o, n, w, h, hm => by
    have : mes = [] := by have := h.1; cases mes <;> simp_all
    subst this
    simp only [midx, Option.some.injEq] at hm; subst hm; rfl
  | (a, v) :: es, mes, o, n, w, h, hm => by
    obtain ⟨me, mes', rfl, h1, h2, h3⟩ := h.cons_inv
    unfold midx at hm
    split at hm
    · rename_i hkk; cases hm
      simp [Instr.findAsking, keq_equal hk hkk hu h1]
    · rename_i hkk
      cases hm' : midx ag ks k es with
      | none => simp [hm'] at hm
      | some o' =>
        simp only [hm', Option.map_some, Option.some.injEq] at hm; subst hm
        simp only [Instr.findAsking, Sem.run_bind, keq_equal hk hkk hu h1, Result.andThen_ok, Bool.false_eq_true, if_false]
        rw [findAsking_run hk hu (n + 1) w h3 hm']
        cases o' with
        | none => rfl
        | some i => simp [Nat.add_assoc, Nat.add_comm 1 i]
    · cases hm

theorem findKey_run {kt : TypeId} {ag : Bool} {ks : List Nat} (hk : KeyT E kt ag ks) {k : AV} {u : Value} (hu : VRel E V k u) {es : List (AV × AV)} {mes : List MapEntry} {o : Option Nat} (w : World)
    (h : ERel E V es mes) (hm : midx ag ks k es = some o) : (Instr.findKey kt u mes).run E.P w = .ok (o.bind fun i => (mes[i]?).map fun me => (i, me.val)) w := by
  obtain ⟨d, hd, h1, h2⟩ := hk.desc
  by_cases harr : ∃ n e, d = .array n e
  · obtain ⟨n, e, rfl⟩ := harr
    simp only [Instr.findKey, Sem.run_bind, run_underlying hd, Result.andThen_ok]
    cases mes with
    | nil =>
      have : es = [] := by have := h.1; cases es <;> simp_all
      subst this
      simp only [midx, Option.some.injEq] at hm; subst hm
      simp [Instr.findNow]
    | cons me mes =>
      have hno : Instr.findNow (.array n e) u (me :: mes) 0 = none := by simp [Instr.findNow, Instr.sameNow]
      rw [hno]
      simpa using findAsking_run hk hu 0 w h hm
  · have hs := flatK_scalar hk.flat hd h1 (fun n e he => harr ⟨n, e, he⟩)
    have hag : ag = false := by
      have := hk.agg
      rcases hs with ⟨rfl, _⟩ | ⟨k, rfl, _⟩ | ⟨rfl, _⟩ <;> simp [aggT, hd] at this <;> exact this
    subst hag
    have := findNow_run hs hu 0 h hm
    simp only [Instr.findKey, Sem.run_bind, run_underlying hd, Result.andThen_ok, this]
    simp

theorem scalar_of {kt : TypeId} {ag : Bool} {ks : List Nat} (hk : KeyT E kt ag ks) {d : TypeDesc} (hd : E.P.underlying kt = some d) (h1 : ∀ fs, d ≠ .struct fs) (harr : ∀ n e, d ≠ .array n e) :
    ag = false ∧ ((d = .bool ∧ ks = [0]) ∨ (∃ k, d = .int k ∧ ks = [1]) ∨ (d = .string ∧ ks = [2])) := by
  have hs := flatK_scalar hk.flat hd h1 harr
  refine ⟨?_, hs⟩
  have := hk.agg
  rcases hs with ⟨rfl, _⟩ | ⟨k, rfl, _⟩ | ⟨rfl, _⟩ <;> simp [aggT, hd] at this <;> exact this.symm ▸ rfl

theorem checkKey_scalarT (em : Bool) (n : Nat) {e : TypeId} (he : aggT E e = some false) (hi : ∀ ms, E.P.underlying e ≠ some (.interface ms)) (x : Value) (w : World) :
    (Instr.checkKey em (n + 1) e x).run E.P w = .ok () w := by
  cases hu : E.P.underlying e with
  | none => simp [aggT, hu] at he
  | some d =>
    unfold Instr.checkKey
    simp only [Sem.run_bind, run_underlying hu, Result.andThen_ok]
    cases d <;> first
      | (simp [aggT, hu] at he; done)
      | exact absurd hu (hi _)
      | rfl

theorem flat_elem {kt : TypeId} {ag : Bool} {ks : List Nat} (hk : KeyT E kt ag ks) {n : Nat} {e : TypeId} (hu : E.P.underlying kt = some (.array n e)) :
    ∃ k1, flatK E 7 e = some k1 ∧ szOf E e = some k1.length ∧ 0 < k1.length ∧ aggT E e = some false ∧ k1.length = 1 ∧ ks = repK n k1 ∧ ag = true := by
  have hf := hk.flat
  unfold flatK at hf
  rw [hu] at hf
  simp only at hf
  split at hf
  · rename_i k1 hk1
    split at hf
    · rename_i hc
      cases hf
      obtain ⟨d, hd, _, h2⟩ := hk.desc
      rw [hu] at hd; cases hd
      obtain ⟨h3, _⟩ := h2 n e rfl
      have hag := hk.agg
      simp [aggT, hu] at hag
      exact ⟨k1, hk1, hc.1.1, hc.1.2, h3, (flat_eq (V := ⟨default, fun _ => ⟨0, 0, 0, 0⟩, [], fun _ => False⟩) 7 e k1 hk1).1 h3, rfl, hag⟩
    · cases hf
  · cases hf

theorem keyOk_run {kt : TypeId} {ag : Bool} {ks : List Nat} (hk : KeyT E kt ag ks) {k : AV} (ho : keyOk ag ks k = true) {u : Value} (hu : VRel E V k u) (em : Bool) (w : World) :
    (Instr.checkKey em 10000 kt u).run E.P w = .ok () w := by
  obtain ⟨d, hd, h1, h2⟩ := hk.desc
  by_cases harr : ∃ n e, d = .array n e
  · obtain ⟨n, e, rfl⟩ := harr
    obtain ⟨k1, hk1, hz, hpos, hagg, hone, hks, hag⟩ := flat_elem hk hd
    subst hag
    cases k with
    | agg cs =>
      obtain ⟨vs, rfl, hs, _, hv⟩ := hu.agg_inv
      have hlen : cs.length = n := by
        simp only [keyOk, keq] at ho
        obtain ⟨e', he'⟩ := Option.isSome_iff_exists.1 ho
        have := (keqK_len he').1
        rw [this, hks, repK_len, hone, Nat.mul_one]
      have hni : ∀ ms, E.P.underlying e ≠ some (.interface ms) := fun ms hm => by
        unfold flatK at hk1; rw [hm] at hk1; cases hk1
      unfold Instr.checkKey
      simp only [Sem.run_bind, run_underlying hd, Result.andThen_ok]
      simp only [Std.Legacy.Range.forIn_eq_forIn_range', Std.Legacy.Range.size, Nat.sub_zero, Nat.add_one_sub_one, Nat.div_one]
      have key : ∀ (m j : Nat), j + m ≤ n → ((forIn (List.range' j m) PUnit.unit fun i _ => do
          let c ← part e vs (i * (← sizeOf e))
          Instr.checkKey em 9999 e c
          pure (ForInStep.yield PUnit.unit) : Sem PUnit)).run E.P w = .ok PUnit.unit w := by
        intro m
        induction m with
        | zero => intro j _; rfl
        | succ m ih =>
          intro j hj
          obtain ⟨v, hv1, _⟩ := run_part (E := E) (V := V) (off := j * k1.length) hz (by simp [hagg]) hs hv (by rw [hone]; omega) (fun _ => hone) w
          simp only [List.range'_succ, List.forIn_cons, Sem.run_bind, run_sizeOf' hz, Result.andThen_ok, hv1, checkKey_scalarT em 9998 hagg hni v w, Sem.run_pure]
          exact ih (j + 1) (by omega)
      have h0 := key n 0 (by omega)
      simp at h0
      simp [h0]
    | _ => cases ho
  · obtain ⟨_, hs⟩ := scalar_of hk hd h1 (fun n e he => harr ⟨n, e, he⟩)
    refine checkKey_scalarT em 9999 (by rcases hs with ⟨rfl, _⟩ | ⟨k, rfl, _⟩ | ⟨rfl, _⟩ <;> simp [aggT, hd]) (fun ms hm => ?_) u w
    rw [hd] at hm; rcases hs with ⟨rfl, _⟩ | ⟨k, rfl, _⟩ | ⟨rfl, _⟩ <;> cases hm

theorem kq_same {n d : Nat} {x y : AV} (h : kq n x y = some true) {u v : Value} (hu : VRel E V x u) (hv : VRel E V y v) : Instr.sameBits d u v = true := by
  unfold kq at h
  split at h
  · rw [hu.bool_inv, hv.bool_inv]; cases d <;> simpa [Instr.sameBits] using h
  · rw [hu.int_inv, hv.int_inv]
    split at h
    · rename_i hk; subst hk; cases d <;> simpa [Instr.sameBits] using h
    · cases h
  · obtain ⟨b, rfl, hb⟩ := hu.str_inv; obtain ⟨b', rfl, hb'⟩ := hv.str_inv
    have : b = b' := bytes_ext (by rw [hb, hb']; simpa using h)
    subst this; cases d <;> simp [Instr.sameBits, beq_toListBytes]
  · cases h

theorem keqK_same {d : Nat} : ∀ {ks : List Nat} {xs ys : List AV} {us vs : List Value}, keqK ks xs ys = some true → us.length = xs.length → vs.length = ys.length →
    (∀ (i : Nat) (x : AV), xs[i]? = some x → VRel E V x (us.getD i undef)) → (∀ (i : Nat) (x : AV), ys[i]? = some x → VRel E V x (vs.getD i undef)) →
    ((us.zip vs).all fun p => Instr.sameBits d p.1 p.2) = true
  | [], [], [], [], [], _, _, _, _, _ => rfl
  | [], [], [], _ :: _, _, _, h, _, _, _ => by simp at h
  | [], [], [], [], _ :: _, _, _, h, _, _ => by simp at h
  | [], [], _ :: _, _, _, h, _, _, _, _ => by cases h
  | [], _ :: _, _, _, _, h, _, _, _, _ => by cases h
  | _ :: _, [], _, _, _, h, _, _, _, _ => by cases h
  | _ :: _, _ :: _, [], _, _, h, _, _, _, _ => by cases h
  | _ :: _, _ :: _, _ :: _, [], _, _, h, _, _, _ => by simp at h
  | _ :: _, _ :: _, _ :: _, _ :: _, [], _, _, h, _, _ => by simp at h
  | k :: ks, x :: xs, y :: ys, u :: us, v :: vs, h, l1, l2, hu, hv => by
    unfold keqK at h
    split at h
    · rename_i a b h1 h2
      simp only [Option.some.injEq, Bool.and_eq_true] at h
      obtain ⟨rfl, rfl⟩ := h
      have r1 := kq_same (d := d) h1 (by simpa using hu 0 x (by simp)) (by simpa using hv 0 y (by simp))
      have r2 := keqK_same (d := d) (us := us) (vs := vs) h2 (by simpa using l1) (by simpa using l2) (fun i z hi => by simpa using hu (i + 1) z (by simpa using hi)) (fun i z hi => by simpa using hv (i + 1) z (by simpa using hi))
      simp only [List.zip_cons_cons, List.all_cons, r1, Bool.true_and]
      exact r2
    · cases h

theorem kq_symm {n : Nat} {x y : AV} (h : kq n x y = some true) : kq n y x = some true := by
  unfold kq at h
  split at h
  · simp at h; subst h; simp [kq]
  · split at h
    · rename_i hk; subst hk; simp at h; subst h; simp [kq]
    · cases h
  · simp at h; subst h; simp [kq]
  · cases h

theorem keqK_symm : ∀ {ks : List Nat} {xs ys : List AV}, keqK ks xs ys = some true → keqK ks ys xs = some true
  | [], [], [], _ => rfl
  | [], [], _ :: _, h => by cases h
  | [], _ :: _, _, h => by cases h
  | _ :: _, [], _, h => by cases h
  | _ :: _, _ :: _, [], h => by cases h
  | k :: ks, x :: xs, y :: ys, h => by
    unfold keqK at h
    split at h
    · rename_i a b h1 h2
      simp only [Option.some.injEq, Bool.and_eq_true] at h
      obtain ⟨rfl, rfl⟩ := h
      simp [keqK, kq_symm h1, keqK_symm h2]
    · cases h

theorem keyThatStays_run {ag : Bool} {ks : List Nat} {x y : AV} (h : keq ag ks x y = some true) {u v : Value} (hu : VRel E V x u) (hv : VRel E V y v) (w : World) :
    (Instr.keyThatStays v u).run E.P w = .ok u w := by
  have key : Instr.sameBits 10000 v u = true := by
    unfold keq at h
    split at h
    · rename_i xs ys
      obtain ⟨us, rfl, h1, h2, h3⟩ := hu.agg_inv
      obtain ⟨vs, rfl, h4, h5, h6⟩ := hv.agg_inv
      have hl := keqK_len h
      have := keqK_same (d := 9999) (us := vs.toList) (vs := us.toList) (keqK_symm h) (by simpa using h4) (by simpa using h1) (fun i x hi => by rw [arr_getD]; exact h6 i x hi) (fun i x hi => by rw [arr_getD]; exact h3 i x hi)
      show (vs.size == us.size && ((vs.toList.zip us.toList).all fun p => Instr.sameBits 9999 p.1 p.2)) = true
      rw [this, Bool.and_true, beq_iff_eq]; omega
    · cases ks with
      | nil => cases h
      | cons k ks =>
        unfold keqK at h
        split at h
        · rename_i a b h1 h2; simp at h; rw [h.1] at h1; exact kq_same (kq_symm h1) hv hu
        · cases h
    · cases h
  simp [Instr.keyThatStays, key]

end
end Go.Proofs.YtleommjdeejmkaaGreatDoor.Zq

namespace Go.Proofs.YtleommjdeejmkaaGreatDoor.Zq
open Go Go.RowKit

/-- A block laid anew. -/
def setB (w : World) (b : Nat) (o : Obj) : World := { w with heap := w.heap.setIfInBounds b o }

theorem setB_size (w : World) (b : Nat) (o : Obj) : (setB w b o).heap.size = w.heap.size := by simp [setB]

theorem setB_same {w : World} {b : Nat} {o : Obj} (h : b < w.heap.size) : (setB w b o).heap[b]? = some o := by simp [setB, h]

theorem setB_other {w : World} {b c : Nat} {o : Obj} (h : c ≠ b) : (setB w b o).heap[c]? = w.heap[c]? := by
  simp only [setB]
  rw [Array.getElem?_setIfInBounds]
  rw [if_neg (by omega)]

theorem setB_setB (w : World) (b : Nat) (o o' : Obj) : setB (setB w b o) b o' = setB w b o' := by simp [setB]

theorem lt_of_block {w : World} {b : Nat} {o : Obj} (h : w.heap[b]? = some o) : b < w.heap.size := by
  rcases Nat.lt_or_ge b w.heap.size with h' | h'
  · exact h'
  · rw [Array.getElem?_eq_none h'] at h; cases h

theorem setCell_setB {w : World} {b o : Nat} {cs : Array Value} {e : TypeId} {fz : Nat × Nat} (h : w.heap[b]? = some (.cells cs e fz)) (v : Value) :
    w.setCell ⟨b, o, none⟩ v = setB w b (.cells (cs.setIfInBounds o v) e fz) := by
  have hb := lt_of_block h
  have hg : w.heap[b] = .cells cs e fz := by rw [Array.getElem?_eq_getElem hb] at h; exact Option.some.inj h
  unfold World.setCell setB
  congr 1
  apply Array.ext_getElem?
  intro i
  rw [Array.getElem?_modify, Array.getElem?_setIfInBounds]
  by_cases hi : b = i
  · subst hi
    simp [hb, hg]
  · simp [hi]

theorem cell_at {w : World} {b o : Nat} {cs : Array Value} {e : TypeId} {fz : Nat × Nat} (h : w.heap[b]? = some (.cells cs e fz)) : w.cell? ⟨b, o, none⟩ = cs[o]? := by
  simp [World.cell?, h]

/-- A row of cells written over. -/
def wr (cs : Array Value) (o : Nat) : List Value → Array Value
  | [] => cs
  | v :: vs => wr (cs.setIfInBounds o v) (o + 1) vs

theorem wr_size : ∀ (vs : List Value) (cs : Array Value) (o : Nat), (wr cs o vs).size = cs.size
  | [], _, _ => rfl
  | v :: vs, cs, o => by simp [wr, wr_size vs]

theorem wr_out : ∀ (vs : List Value) (cs : Array Value) (o j : Nat), (j < o ∨ o + vs.length ≤ j) → (wr cs o vs)[j]? = cs[j]?
  | [], _, _, _, _ => rfl
  | v :: vs, cs, o, j, h => by
    simp only [wr]
    rw [wr_out vs _ (o + 1) j (by simp at h; omega), Array.getElem?_setIfInBounds]
    rw [if_neg (by simp at h; omega)]

theorem wr_in : ∀ (vs : List Value) (cs : Array Value) (o j : Nat) (v : Value), o + vs.length ≤ cs.size → vs[j]? = some v → (wr cs o vs)[o + j]? = some v
  | [], _, _, _, _, _, h => by simp at h
  | u :: vs, cs, o, j, v, hs, h => by
    simp only [wr]
    cases j with
    | zero =>
      simp at h; subst h
      show (wr (cs.setIfInBounds o u) (o + 1) vs)[o]? = _
      rw [wr_out vs _ (o + 1) o (by omega), Array.getElem?_setIfInBounds]
      simp; simp at hs; omega
    | succ j =>
      have := wr_in vs (cs.setIfInBounds o u) (o + 1) j v (by simp at hs ⊢; omega) (by simpa using h)
      rwa [show o + 1 + j = o + (j + 1) by omega] at this

theorem one_oneCell {v : Value} (h : one v = true) : v.oneCell' = true := by cases v <;> simp_all [one, Value.oneCell']

section
variable {P : Program}

theorem run_store1 {w : World} {b o : Nat} {cs : Array Value} {e : TypeId} {lo hi : Nat} (h : w.heap[b]? = some (.cells cs e (lo, hi))) (hf : hi ≤ lo ∨ cs.size ≤ lo) (ho : o < cs.size) {v : Value} (hv : one v = true) :
    (store ⟨b, o, none⟩ v).run P w = .ok () (setB w b (.cells (cs.setIfInBounds o v) e (lo, hi))) := by
  rw [run_store P w _ v _ (one_oneCell hv)]
  have h1 : w.cell? ⟨b, o, none⟩ = some cs[o] := by rw [cell_at h]; simp [ho]
  have h2 : w.frozen? ⟨b, o, none⟩ = false := by simp [World.frozen?, h]; omega
  simp only [h1, h2]
  rw [setCell_setB h]
  rfl

theorem run_storeCells {e : TypeId} {b o lo hi : Nat} : ∀ (vs : List Value) (i : Nat) (cs : Array Value) (w : World), w.heap[b]? = some (.cells cs e (lo, hi)) → (hi ≤ lo ∨ cs.size ≤ lo) → o + i + vs.length ≤ cs.size →
    (∀ v ∈ vs, one v = true) → (storeCells ⟨b, o, none⟩ vs i).run P w = .ok () (setB w b (.cells (wr cs (o + i) vs) e (lo, hi)))
  | [], i, cs, w, h, _, _, _ => by
    have hb := lt_of_block h
    have : setB w b (.cells cs e (lo, hi)) = w := by
      unfold setB
      congr 1
      apply Array.ext_getElem?
      intro j
      rw [Array.getElem?_setIfInBounds]
      by_cases hj : b = j
      · subst hj; simp [hb]; rw [Array.getElem?_eq_getElem hb] at h; exact (Option.some.inj h).symm
      · simp [hj]
    simp [storeCells, wr, this]
  | v :: vs, i, cs, w, h, hf, hs, hv => by
    have ha : Addr.add ⟨b, o, none⟩ i = ⟨b, o + i, none⟩ := by simp only [Addr.add]; split <;> simp_all
    simp only [storeCells, Sem.run_bind, ha]
    rw [run_store1 h hf (by simp at hs; omega) (hv v (by simp))]
    simp only [Result.andThen_ok]
    rw [run_storeCells vs (i + 1) (cs.setIfInBounds (o + i) v) _ (setB_same (lt_of_block h)) (by simpa using hf) (by simp at hs ⊢; omega) (fun u hu => hv u (by simp [hu])), setB_setB]
    simp [wr, Nat.add_assoc]

theorem run_loadCells' {w : World} {b o : Nat} (vs : List Value) (h : ∀ (j : Nat) (v : Value), vs[j]? = some v → w.cell? ⟨b, o + j, none⟩ = some v) :
    (loadCells ⟨b, o, none⟩ vs.length).run P w = .ok vs.toArray w :=
  run_loadCells_list w _ vs fun j v hj => by
    have ha : Addr.add ⟨b, o, none⟩ j = ⟨b, o + j, none⟩ := by simp only [Addr.add]; split <;> simp_all
    rw [ha]; exact h j v hj
end

theorem add_addr (b o n : Nat) : Addr.add ⟨b, o, none⟩ n = ⟨b, o + n, none⟩ := by simp only [Addr.add]; split <;> simp_all

end Go.Proofs.YtleommjdeejmkaaGreatDoor.Zq
