/-
  The program's data as plain Lean data, and how they lie in the abstract machine's values.
  Conditions: none; definitions and lemmas.
-/
import Derived.Test.YtleommjdeejmkaaGreatDoorZC
set_option linter.all false

namespace Go.Proofs.YtleommjdeejmkaaGreatDoor.Zq
open Go

abbrev Str := List UInt8

/-- How elements of a slice lie in memory. -/
structure Rw (α : Type) [DecidableEq α] (z : Nat) (ks : List Nat) where
  row : α → List AV
  len : ∀ a, (row a).length = z
  pure : ∀ a, pureL (row a) = true
  eq : ∀ a b, keqK ks (row a) (row b) = some (decide (a = b))

structure GFile where
  path : Str
  data : Str
  deriving DecidableEq

abbrev Dig := { l : List Int // l.length = 32 }

structure GRead where
  path : Str
  isF : Bool
  sum : Dig
  deriving DecidableEq

theorem beq_dec (a b : Str) : (a == b) = decide (a = b) := by
  by_cases h : a = b
  · subst h; simp
  · simp [h]

def digKs : List Nat := [1, 1, 1, 1, 1, 1, 1, 1, 1, 1, 1, 1, 1, 1, 1, 1, 1, 1, 1, 1, 1, 1, 1, 1, 1, 1, 1, 1, 1, 1, 1, 1]
def Dig.row (d : Dig) : List AV := d.1.map (AV.int .u8)

theorem keqK_app : ∀ {k1 k2 : List Nat} {a1 a2 b1 b2 : List AV} {e1 e2 : Bool}, keqK k1 a1 b1 = some e1 → keqK k2 a2 b2 = some e2 → keqK (k1 ++ k2) (a1 ++ a2) (b1 ++ b2) = some (e1 && e2)
  | [], k2, a1, a2, b1, b2, e1, e2, h1, h2 => by
    cases a1 <;> cases b1 <;> simp [keqK] at h1
    subst h1; simpa using h2
  | k :: k1, k2, [], a2, b1, b2, e1, e2, h1, h2 => by cases b1 <;> simp [keqK] at h1
  | k :: k1, k2, a :: a1, a2, [], b2, e1, e2, h1, h2 => by simp [keqK] at h1
  | k :: k1, k2, a :: a1, a2, b :: b1, b2, e1, e2, h1, h2 => by
    simp only [keqK, List.cons_append] at h1 ⊢
    cases hq : kq k a b with
    | none => simp [hq] at h1
    | some e =>
      cases hr : keqK k1 a1 b1 with
      | none => simp [hq, hr] at h1
      | some e' =>
        simp [hq, hr] at h1
        simp [keqK_app hr h2, ← h1, Bool.and_assoc]

theorem keqK_ints : ∀ (n : Nat) (a b : List Int), a.length = n → b.length = n → keqK (List.replicate n 1) (a.map (AV.int .u8)) (b.map (AV.int .u8)) = some (decide (a = b))
  | 0, [], [], _, _ => by simp [keqK]
  | n + 1, x :: xs, y :: ys, h1, h2 => by
    simp [List.replicate_succ, keqK, kq, keqK_ints n xs ys (by simpa using h1) (by simpa using h2), Bool.decide_and]
    rfl
  | 0, _ :: _, _, h, _ => by simp at h
  | 0, [], _ :: _, _, h => by simp at h
  | n + 1, [], _, h, _ => by simp at h
  | n + 1, _ :: _, [], _, h => by simp at h

theorem pureL_ints : ∀ (l : List Int), pureL (l.map (AV.int .u8)) = true
  | [] => rfl
  | x :: xs => by simp [pureL_ints xs]

theorem Dig.keq (a b : Dig) : keqK digKs a.row b.row = some (decide (a = b)) := by
  have := keqK_ints 32 a.1 b.1 a.2 b.2
  rw [show List.replicate 32 1 = digKs from rfl] at this
  simpa [Dig.row, Subtype.ext_iff] using this

def GFile.row (f : GFile) : List AV := [.str f.path, .str f.data]
def fileRw : Rw GFile 2 [2, 2] where
  row := GFile.row
  len := fun _ => rfl
  pure := fun _ => rfl
  eq := fun a b => by cases a; cases b; simp [GFile.row, keqK, kq, Bool.decide_and, beq_dec]

def GRead.row (r : GRead) : List AV := .str r.path :: .bool r.isF :: Dig.row r.sum
def readRw : Rw GRead 34 (2 :: 0 :: digKs) where
  row := GRead.row
  len := fun r => by simp [GRead.row, Dig.row, r.sum.2]
  pure := fun r => by simp [GRead.row, Dig.row, pureL_ints]
  eq := fun a b => by
    obtain ⟨p, i, s⟩ := a
    obtain ⟨p', i', s'⟩ := b
    simp only [GRead.row, keqK, kq, Dig.keq]
    simp only [Option.some.injEq, GRead.mk.injEq, Bool.decide_and]
    have hb : (i == i') = decide (i = i') := by cases i <;> cases i' <;> rfl
    simp [beq_dec, hb]

section
variable {α : Type} [DecidableEq α] {z : Nat} {ks : List Nat}
theorem Rw.pures (R : Rw α z ks) (xs : List α) : pureLL (xs.map R.row) = true := by
  induction xs with
  | nil => rfl
  | cons x xs ih => simp [R.pure, ih]
theorem Rw.at (R : Rw α z ks) {xs : List α} {i : Nat} {x : α} (h : xs[i]? = some x) : (xs.map R.row)[i]? = some (R.row x) := by simp [h]
end

/-- A slice of elements that lie so. -/
def IsS {α : Type} [DecidableEq α] {z : Nat} {ks : List Nat} (R : Rw α z ks) (xs : List α) (a : AV) : Prop := IsSl z (xs.map R.row) a

section
variable {α : Type} [DecidableEq α] {z : Nat} {ks : List Nat} {R : Rw α z ks} {xs : List α} {a : AV}
theorem IsS.len (h : IsS R xs a) : lenV a = some (.int .i64 xs.length) := by simpa using IsSl.len h
theorem IsS.pure (h : IsS R xs a) : a.pure = true := IsSl.pure h (R.pures xs)
theorem IsS.ix (h : IsS R xs a) {i : Nat} {x : α} (hi : xs[i]? = some x) : indexA z a (.int .i64 i) = some (.vptr (R.row x) 0) := IsSl.ix h (R.at hi)
end

theorem drop_at {α : Type} {xs : List α} {i : Nat} {x : α} (h : xs[i]? = some x) : xs.drop i = x :: xs.drop (i + 1) := by
  have hlt : i < xs.length := by
    rcases Nat.lt_or_ge i xs.length with h' | h'
    · exact h'
    · rw [List.getElem?_eq_none h'] at h; cases h
  rw [List.drop_eq_getElem_cons hlt]; congr 1
  rw [List.getElem?_eq_getElem hlt] at h; exact Option.some.inj h

theorem get_lt' {α : Type} {xs : List α} {i : Nat} (h : i < xs.length) : ∃ x, xs[i]? = some x := ⟨_, List.getElem?_eq_getElem h⟩

@[simp] theorem span_all {row : List AV} {n : Nat} (h : row.length = n) : span row 0 n = some row := by subst h; simp [span]
@[simp] theorem wrap1 {n : Nat} (h : n + 1 ≤ 9223372036854775807) : IntKind.i64.wrap ((n : Int) + 1) = (n : Int) + 1 := by
  have := wrap64n h; simpa using this

structure GOut where
  kind : Int
  why : Int
  outs : List GFile
  reads : List GRead
  deriving DecidableEq

/-- An outcome's cells. -/
def OutR (o : GOut) (row : List AV) : Prop := ∃ a b, row = [.int .i64 o.kind, .int .i64 o.why, a, b] ∧ IsS fileRw o.outs a ∧ IsS readRw o.reads b

theorem OutR.pure {o : GOut} {row : List AV} (h : OutR o row) : pureL row = true := by
  obtain ⟨a, b, rfl, h1, h2⟩ := h
  simp [h1.pure, h2.pure]

/-- Rows that stand for elements, one by one. -/
inductive RowsR {α : Type} (R : α → List AV → Prop) : List α → List (List AV) → Prop where
  | nil : RowsR R [] []
  | cons {x : α} {xs : List α} {r : List AV} {rs : List (List AV)} (h : R x r) (hs : RowsR R xs rs) : RowsR R (x :: xs) (r :: rs)

section
variable {α : Type} {R : α → List AV → Prop} {xs : List α} {rs : List (List AV)}
theorem RowsR.len (h : RowsR R xs rs) : rs.length = xs.length := by
  induction h with
  | nil => rfl
  | cons _ _ ih => simp [ih]
theorem RowsR.at (h : RowsR R xs rs) {i : Nat} {x : α} (hi : xs[i]? = some x) : ∃ r, rs[i]? = some r ∧ R x r := by
  induction h generalizing i with
  | nil => simp at hi
  | cons h _ ih =>
    cases i with
    | zero => simp at hi; subst hi; exact ⟨_, rfl, h⟩
    | succ i => simp at hi; simpa using ih hi
theorem RowsR.pures (h : RowsR R xs rs) (hp : ∀ x r, R x r → pureL r = true) : pureLL rs = true := by
  induction h with
  | nil => rfl
  | cons h _ ih => simp [hp _ _ h, ih]
end

structure GRep where
  outcomes : List GOut
  files : List GFile
  deriving DecidableEq

/-- A report's cells (which ran and were taken play no part). -/
def RepR (r : GRep) (v : AV) : Prop := ∃ ao rows p q af, v = .agg [ao, p, q, af] ∧ IsSl 4 rows ao ∧ RowsR OutR r.outcomes rows ∧ IsS fileRw r.files af ∧ p.pure = true ∧ q.pure = true

theorem RepR.pure {r : GRep} {v : AV} (h : RepR r v) : v.pure = true := by
  obtain ⟨ao, rows, p, q, af, rfl, h1, h2, h3, h4, h5⟩ := h
  simp [h1.pure (h2.pures fun _ _ => OutR.pure), h3.pure, h4, h5]

end Go.Proofs.YtleommjdeejmkaaGreatDoor.Zq
