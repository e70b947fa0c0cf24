/-
  The program's data out of what is read; how much it is.
  A world in which the listed package-level variables hold what they are said to.
  Conditions: none but those that each theorem names.
-/
import Derived.Test.YtleommjdeejmkaaGreatDoorZMn
import Derived.Test.YtleommjdeejmkaaGreatDoorZD
import Derived.Deep.DeepHandedRow
import Derived.Lib.LaidTab
set_option linter.all false

namespace Go.Proofs.YtleommjdeejmkaaGreatDoor.Zq
open Go

section
variable {H : Type}

/- How much a datum holds: the form's own count. -/
mutual
def blk : DataW H → Nat
  | .lit (.string bytes) => bytes.length + 1
  | .lit _ => 1
  | .nil => 1
  | .ptr d => blk d + 1
  | .slice elems spare => blkAll elems + blkAll spare + 1
  | .agg parts => blkAll parts + 1
  | .iface _ d => blk d + 1
  | .map entries => blkEs entries + 1
  | .held _ => 1
def blkAll : List (DataW H) → Nat
  | [] => 0
  | d :: r => blk d + blkAll r
def blkEs : List (Lit × DataW H) → Nat
  | [] => 0
  | x :: r => blkE x + blkEs r
def blkE : Lit × DataW H → Nat
  | (.string bytes, d) => bytes.length + blk d + 1
  | (_, d) => blk d + 1
end

theorem blk_pos (d : DataW H) : 1 ≤ blk d := by
  cases d with
  | lit l => cases l <;> simp [blk]
  | _ => simp [blk]

theorem blkAll_len : ∀ (l : List (DataW H)), l.length ≤ blkAll l
  | [] => by simp [blkAll]
  | d :: l => by have := blk_pos d; have := blkAll_len l; simp [blkAll]; omega

theorem blkAll_at : ∀ (l : List (DataW H)) (i : Nat) (d : DataW H), l[i]? = some d → blk d ≤ blkAll l
  | [], i, d, h => by simp at h
  | x :: l, 0, d, h => by simp at h; subst h; simp [blkAll]
  | x :: l, i + 1, d, h => by have := blkAll_at l i d (by simpa using h); simp [blkAll]; omega

/-! Inversions -/

theorem dAV_s {d : DataW H} {xs : List AV} (h : dAV .s d = some xs) : ∃ s, d = .lit (.string s) ∧ xs = [.str s] := by
  unfold dAV at h
  split at h <;> simp_all

theorem dAV_b {d : DataW H} {xs : List AV} (h : dAV .b d = some xs) : ∃ b, d = .lit (.bool b) ∧ xs = [.bool b] := by
  unfold dAV at h
  split at h <;> simp_all

theorem dAV_i {k : IntKind} {d : DataW H} {xs : List AV} (h : dAV (.i k) d = some xs) : ∃ n, d = .lit (.int k n) ∧ xs = [.int k n] ∧ (Lit.int k n).wf = true := by
  unfold dAV at h
  split at h <;> simp_all

theorem dAV_sl {z : Nat} {e : Sh} {d : DataW H} {xs : List AV} (h : dAV (.sl z e) d = some xs) : ∃ (a : AV) (rows : List (List AV)) (l : List (DataW H)), xs = [a] ∧ IsSl z rows a ∧ dRows e l = some rows ∧ blkAll l < blk d := by
  cases d with
  | nil =>
    simp only [dAV, Option.some.injEq] at h; subst h
    exact ⟨_, [], [], rfl, .z true, rfl, by simp [blk, blkAll]⟩
  | slice l sp =>
    simp only [dAV] at h
    cases hr : dRows e l with
    | none => rw [hr] at h; cases h
    | some rows => rw [hr] at h; cases h; exact ⟨_, rows, l, rfl, .s rows, hr, by simp [blk]; omega⟩
  | _ => simp [dAV] at h

theorem dAV_agg {l : List Sh} {d : DataW H} {xs : List AV} (h : dAV (.agg l) d = some xs) : ∃ ds : List (DataW H), d = .agg ds ∧ dAVs l ds = some xs ∧ blk d = blkAll ds + 1 := by
  cases d with
  | agg ds => exact ⟨ds, rfl, by simpa [dAV] using h, by simp [blk]⟩
  | _ => simp [dAV] at h

theorem dAVs_cons {e : Sh} {l : List Sh} {ds : List (DataW H)} {xs : List AV} (h : dAVs (e :: l) ds = some xs) : ∃ d ds' x y, ds = d :: ds' ∧ dAV e d = some x ∧ dAVs l ds' = some y ∧ xs = x ++ y ∧ blkAll ds = blk d + blkAll ds' := by
  cases ds with
  | nil => simp [dAVs] at h
  | cons d ds =>
    simp only [dAVs] at h
    cases hx : dAV e d with
    | none => rw [hx] at h; cases h
    | some x =>
      cases hy : dAVs l ds with
      | none => rw [hx, hy] at h; cases h
      | some y => rw [hx, hy] at h; cases h; exact ⟨d, ds, x, y, rfl, hx, hy, rfl, rfl⟩

theorem dAVs_nil {ds : List (DataW H)} {xs : List AV} (h : dAVs [] ds = some xs) : ds = [] ∧ xs = [] := by
  cases ds with
  | nil => simp [dAVs] at h; exact ⟨rfl, h⟩
  | cons d ds => simp [dAVs] at h

theorem dAVs_ints {k : IntKind} : ∀ (n : Nat) {ds : List (DataW H)} {xs : List AV}, dAVs (List.replicate n (.i k)) ds = some xs → ∃ l : List Int, l.length = n ∧ xs = l.map (.int k) ∧ ∀ m ∈ l, (Lit.int k m).wf = true
  | 0, ds, xs, h => by
    obtain ⟨_, rfl⟩ := dAVs_nil h
    exact ⟨[], rfl, rfl, by simp⟩
  | n + 1, ds, xs, h => by
    obtain ⟨d, ds', x, y, rfl, h1, h2, rfl, _⟩ := dAVs_cons h
    obtain ⟨m, _, rfl, hw⟩ := dAV_i h1
    obtain ⟨l, hl, rfl, hall⟩ := dAVs_ints n h2
    exact ⟨m :: l, by simp [hl], by simp, by simpa using ⟨hw, hall⟩⟩

/-- Rows of elements, by what is known of one. -/
theorem dRows_of {α : Type} {e : Sh} {R : α → List AV → Prop} (hR : ∀ (d : DataW H) (x : List AV), dAV e d = some x → ∃ a, R a x) : ∀ {l : List (DataW H)} {rows : List (List AV)}, dRows e l = some rows → ∃ as : List α, RowsR R as rows ∧ as.length = l.length
  | [], rows, h => by simp [dRows] at h; subst h; exact ⟨[], .nil, rfl⟩
  | d :: l, rows, h => by
    simp only [dRows] at h
    cases hx : dAV e d with
    | none => rw [hx] at h; cases h
    | some x =>
      cases hy : dRows e l with
      | none => rw [hx, hy] at h; cases h
      | some y =>
        rw [hx, hy] at h; cases h
        obtain ⟨a, ha⟩ := hR d x hx
        obtain ⟨as, h1, h2⟩ := dRows_of hR hy
        exact ⟨a :: as, .cons ha h1, by simp [h2]⟩

/-- The same, with a bound on how much each holds. -/
theorem dRows_ofB {α : Type} {e : Sh} {R : α → List AV → Prop} {Q : α → Nat → Prop} (hR : ∀ (d : DataW H) (x : List AV), dAV e d = some x → ∃ a, R a x ∧ Q a (blk d)) (hQ : ∀ a m n, Q a m → m ≤ n → Q a n) : ∀ {l : List (DataW H)} {rows : List (List AV)}, dRows e l = some rows → ∃ as : List α, RowsR R as rows ∧ as.length = l.length ∧ ∀ a ∈ as, Q a (blkAll l)
  | [], rows, h => by simp [dRows] at h; subst h; exact ⟨[], .nil, rfl, by simp⟩
  | d :: l, rows, h => by
    simp only [dRows] at h
    cases hx : dAV e d with
    | none => rw [hx] at h; cases h
    | some x =>
      cases hy : dRows e l with
      | none => rw [hx, hy] at h; cases h
      | some y =>
        rw [hx, hy] at h; cases h
        obtain ⟨a, ha, hq⟩ := hR d x hx
        obtain ⟨as, h1, h2, h3⟩ := dRows_ofB hR hQ hy
        refine ⟨a :: as, .cons ha h1, by simp [h2], fun b hb => ?_⟩
        rcases List.mem_cons.1 hb with rfl | hb
        · exact hQ _ _ _ hq (by simp [blkAll])
        · exact hQ _ _ _ (h3 b hb) (by simp [blkAll])
end

theorem RowsR.map {α : Type} {f : α → List AV} {xs : List α} {rs : List (List AV)} (h : RowsR (fun a r => r = f a) xs rs) : rs = xs.map f := by
  induction h with
  | nil => rfl
  | cons h _ ih => simp [h, ih]

theorem dArgs_two {H : Type} {e f : Sh} {ds : List (DataW H)} {xs : List AV} (h : dArgs [e, f] ds = some xs) : ∃ d1 d2 x y, ds = [d1, d2] ∧ dAV e d1 = some x ∧ dAV f d2 = some y ∧ xs = [argAV e x, argAV f y] := by
  match ds, h with
  | [d1, d2], h =>
    simp only [dArgs] at h
    cases hx : dAV e d1 with
    | none => rw [hx] at h; cases h
    | some x =>
      cases hy : dAV f d2 with
      | none => rw [hx, hy] at h; cases h
      | some y => rw [hx, hy] at h; cases h; exact ⟨d1, d2, x, y, rfl, hx, hy, rfl⟩
  | [], h => simp [dArgs] at h
  | [d1], h => simp [dArgs] at h
  | d1 :: d2 :: d3 :: l, h => simp [dArgs] at h

theorem dArgs_one {H : Type} {e : Sh} {ds : List (DataW H)} {xs : List AV} (h : dArgs [e] ds = some xs) : ∃ d1 x, ds = [d1] ∧ dAV e d1 = some x ∧ xs = [argAV e x] := by
  match ds, h with
  | [d1], h =>
    simp only [dArgs] at h
    cases hx : dAV e d1 with
    | none => rw [hx] at h; cases h
    | some x => rw [hx] at h; cases h; exact ⟨d1, x, rfl, hx, rfl⟩
  | [], h => simp [dArgs] at h
  | d1 :: d2 :: l, h => simp [dArgs] at h

/-! Files, reads, outcomes, reports -/

def shFile : Sh := .agg [.s, .s]
def shDig : Sh := .agg [.i .u8, .i .u8, .i .u8, .i .u8, .i .u8, .i .u8, .i .u8, .i .u8, .i .u8, .i .u8, .i .u8, .i .u8, .i .u8, .i .u8, .i .u8, .i .u8, .i .u8, .i .u8, .i .u8, .i .u8, .i .u8, .i .u8, .i .u8, .i .u8, .i .u8, .i .u8, .i .u8, .i .u8, .i .u8, .i .u8, .i .u8, .i .u8]
def shRead : Sh := .agg [.s, .b, shDig]
def shOut : Sh := .agg [.i .i64, .i .i64, .sl 2 shFile, .sl 34 shRead]
def shRep : Sh := .agg [.sl 4 shOut, .sl 1 (.i .i64), .sl 1 (.i .i64), .sl 2 shFile]

section
variable {H : Type}

theorem file_of {d : DataW H} {x : List AV} (h : dAV shFile d = some x) : ∃ f : GFile, x = GFile.row f := by
  obtain ⟨ds, _, h1, _⟩ := dAV_agg h
  obtain ⟨_, _, _, _, rfl, h2, h3, rfl, _⟩ := dAVs_cons h1
  obtain ⟨_, _, _, _, rfl, h4, h5, rfl, _⟩ := dAVs_cons h3
  obtain ⟨_, rfl⟩ := dAVs_nil h5
  obtain ⟨p, _, rfl⟩ := dAV_s h2
  obtain ⟨q, _, rfl⟩ := dAV_s h4
  exact ⟨⟨p, q⟩, rfl⟩

theorem dig_of {d : DataW H} {x : List AV} (h : dAV shDig d = some x) : ∃ g : Dig, x = Dig.row g := by
  obtain ⟨ds, _, h1, _⟩ := dAV_agg h
  obtain ⟨l, hl, rfl, _⟩ := dAVs_ints 32 h1
  exact ⟨⟨l, hl⟩, rfl⟩

theorem read_of {d : DataW H} {x : List AV} (h : dAV shRead d = some x) : ∃ r : GRead, x = GRead.row r := by
  obtain ⟨ds, _, h1, _⟩ := dAV_agg h
  obtain ⟨_, _, _, _, rfl, h2, h3, rfl, _⟩ := dAVs_cons h1
  obtain ⟨_, _, _, _, rfl, h4, h5, rfl, _⟩ := dAVs_cons h3
  obtain ⟨_, _, _, _, rfl, h6, h7, rfl, _⟩ := dAVs_cons h5
  obtain ⟨_, rfl⟩ := dAVs_nil h7
  obtain ⟨p, _, rfl⟩ := dAV_s h2
  obtain ⟨b, _, rfl⟩ := dAV_b h4
  obtain ⟨g, rfl⟩ := dig_of h6
  exact ⟨⟨p, b, g⟩, by simp [GRead.row]⟩

theorem files_of {d : DataW H} {x : List AV} (h : dAV (.sl 2 shFile) d = some x) : ∃ (fs : List GFile) (a : AV), x = [a] ∧ IsS fileRw fs a ∧ fs.length < blk d := by
  obtain ⟨a, rows, l, rfl, h1, h2, h3⟩ := dAV_sl h
  obtain ⟨fs, hf, hl⟩ := dRows_of (R := fun (f : GFile) r => r = f.row) (fun d x h => file_of h) h2
  refine ⟨fs, a, rfl, ?_, by have := blkAll_len l; omega⟩
  have := hf.map
  subst this
  exact h1

theorem reads_of {d : DataW H} {x : List AV} (h : dAV (.sl 34 shRead) d = some x) : ∃ (fs : List GRead) (a : AV), x = [a] ∧ IsS readRw fs a ∧ fs.length < blk d := by
  obtain ⟨a, rows, l, rfl, h1, h2, h3⟩ := dAV_sl h
  obtain ⟨fs, hf, hl⟩ := dRows_of (R := fun (f : GRead) r => r = f.row) (fun d x h => read_of h) h2
  refine ⟨fs, a, rfl, ?_, by have := blkAll_len l; omega⟩
  have := hf.map
  subst this
  exact h1

theorem out_of {d : DataW H} {x : List AV} (h : dAV shOut d = some x) : ∃ o : GOut, OutR o x ∧ (o.outs.length < blk d ∧ o.reads.length < blk d) := by
  obtain ⟨ds, rfl, h1, hb⟩ := dAV_agg h
  obtain ⟨_, _, _, _, rfl, h2, h3, rfl, b1⟩ := dAVs_cons h1
  obtain ⟨_, _, _, _, rfl, h4, h5, rfl, b2⟩ := dAVs_cons h3
  obtain ⟨_, _, _, _, rfl, h6, h7, rfl, b3⟩ := dAVs_cons h5
  obtain ⟨_, _, _, _, rfl, h8, h9, rfl, b4⟩ := dAVs_cons h7
  obtain ⟨_, rfl⟩ := dAVs_nil h9
  obtain ⟨k, _, rfl, _⟩ := dAV_i h2
  obtain ⟨w, _, rfl, _⟩ := dAV_i h4
  obtain ⟨fs, a, rfl, hf, l1⟩ := files_of h6
  obtain ⟨rs, b, rfl, hr, l2⟩ := reads_of h8
  exact ⟨⟨k, w, fs, rs⟩, ⟨a, b, rfl, hf, hr⟩, by simp only; omega, by simp only; omega⟩

theorem ints_pure {d : DataW H} {x : List AV} {k : IntKind} {z : Nat} (h : dAV (.sl z (.i k)) d = some x) : ∃ a, x = [a] ∧ a.pure = true := by
  obtain ⟨a, rows, l, rfl, h1, h2, h3⟩ := dAV_sl h
  obtain ⟨fs, hf, hl⟩ := dRows_of (R := fun (n : Int) r => r = [.int k n]) (fun d x h => by obtain ⟨n, _, rfl, _⟩ := dAV_i h; exact ⟨n, rfl⟩) h2
  exact ⟨a, rfl, h1.pure (hf.pures fun _ _ h => by subst h; rfl)⟩

theorem rep_of {d : DataW H} {x : List AV} (h : dAV shRep d = some x) : ∃ p : GRep, RepR p (.agg x) ∧ p.outcomes.length < blk d ∧ p.files.length < blk d ∧ ∀ o ∈ p.outcomes, o.outs.length < blk d ∧ o.reads.length < blk d := by
  obtain ⟨ds, rfl, h1, hb⟩ := dAV_agg h
  obtain ⟨_, _, _, _, rfl, h2, h3, rfl, b1⟩ := dAVs_cons h1
  obtain ⟨_, _, _, _, rfl, h4, h5, rfl, b2⟩ := dAVs_cons h3
  obtain ⟨_, _, _, _, rfl, h6, h7, rfl, b3⟩ := dAVs_cons h5
  obtain ⟨_, _, _, _, rfl, h8, h9, rfl, b4⟩ := dAVs_cons h7
  obtain ⟨_, rfl⟩ := dAVs_nil h9
  obtain ⟨ao, rows, l, rfl, g1, g2, g3⟩ := dAV_sl h2
  obtain ⟨os, ho, hol, hob⟩ := dRows_ofB (R := OutR) (Q := fun o n => o.outs.length < n ∧ o.reads.length < n) (fun d x h => out_of h) (fun a m n h hmn => ⟨by omega, by omega⟩) g2
  obtain ⟨a1, rfl, p1⟩ := ints_pure h4
  obtain ⟨a2, rfl, p2⟩ := ints_pure h6
  obtain ⟨fs, a, rfl, hf, l1⟩ := files_of h8
  have := blkAll_len l
  refine ⟨⟨os, fs⟩, ⟨ao, rows, a1, a2, a, rfl, g1, ho, hf, p1, p2⟩, by simp only; omega, by simp only; omega, fun o ho => ?_⟩
  have := hob o ho
  omega
end
end Go.Proofs.YtleommjdeejmkaaGreatDoor.Zq

namespace Go.Proofs.YtleommjdeejmkaaGreatDoor.Zq
open Go

def litV : Lit → Value
  | .bool b => .bool b
  | .int k n => .int k n
  | .string s => .string ⟨s.toArray⟩
  | _ => .nilIface

mutual
def dCells : DataW Unit → List Value
  | .lit l => [litV l]
  | .agg l => dCellsL l
  | _ => []
def dCellsL : List (DataW Unit) → List Value
  | [] => []
  | d :: l => dCells d ++ dCellsL l
end

def laidHeap (P : Program) : List (String × DataW Unit) → Array Obj → Array Obj
  | [], h => h
  | x :: l, h => laidHeap P l (h.modify ((P.globalNamed x.1).getD 0) fun
      | .cells _ t fr => .cells (dCells x.2).toArray t fr
      | o => o)

noncomputable def laidW (P : Program) (laid : List (String × DataW Unit)) (os : Os) : World :=
  { World.holding P os ⟨#[], #[], []⟩ with heap := laidHeap P laid (World.holding P os ⟨#[], #[], []⟩).heap }

end Go.Proofs.YtleommjdeejmkaaGreatDoor.Zq
