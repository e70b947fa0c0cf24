/-
  The abstract machine's operations, held against the program's (third part): loads, addresses, aggregates, slices of slices and strings.
  The abstract machine's operations, held against the program's (fourth part): structs, arrays and slices built of parts.
  The abstract machine's operations, held against the program's (fifth part): indexes, slices, lengths.
  The abstract machine's operations on temporaries, held against the program's: the whole of them.
  The abstract machine's operations on temporaries, held against the program's: one theorem for all of them.
  Conditions: none but those that each theorem names.
-/
import Derived.Test.YtleommjdeejmkaaGreatDoorZMb
import Derived.Laws.Pointers
import Derived.Laws.Cover3
import Derived.WideLaws
set_option linter.all false

namespace Go.Proofs.YtleommjdeejmkaaGreatDoor.Zq
open Go Go.RowKit

section
variable {E : Env} {V : Vw} {fr : List AV} {a : Act} {base : World}

theorem cellT_spec {t : TypeId} {agg : Bool} {n : Nat} (h : cellT E t agg n = true) : szOf E t = some n ∧ aggT E t = some agg ∧ (agg = false → n = 1) := by
  simp only [cellT, Bool.and_eq_true, Bool.or_eq_true, beq_iff_eq] at h
  exact ⟨h.1.1, h.1.2, fun ha => by rcases h.2 with h | h <;> simp_all⟩

theorem span_spec {row cs : List AV} {off n : Nat} (h : span row off n = some cs) : off + n ≤ row.length ∧ cs.length = n ∧ ∀ j, j < n → cs[j]? = row[off + j]? := by
  unfold span at h
  split at h
  · rename_i hl
    cases h
    refine ⟨hl, by simp; omega, fun j hj => ?_⟩
    rw [List.getElem?_take_of_lt hj, List.getElem?_drop]
  · cases h

theorem asVal_spec {agg : Bool} {cs : List AV} {v : AV} (h : asVal agg cs = some v) : (agg = true ∧ v = .agg cs) ∨ (agg = false ∧ cs = [v]) := by
  unfold asVal at h
  split at h
  · rename_i ha; cases h; exact .inl ⟨ha, rfl⟩
  · rename_i ha
    split at h
    · cases h; exact .inr ⟨by simpa using ha, rfl⟩
    · cases h

/-- A row of cells, loaded. -/
theorem load_cells {t : TypeId} {agg : Bool} {n b o : Nat} {g : Nat → Value} {cs : List AV} {v : AV} (ht : cellT E t agg n = true) (hl : cs.length = n)
    (hc : ∀ j, j < n → V.w.cell? ⟨b, o + j, none⟩ = some (g j)) (h1 : ∀ j, j < n → one (g j) = true) (hv : ∀ (j : Nat) (x : AV), cs[j]? = some x → VRel E V x (g j)) (hs : asVal agg cs = some v) :
    ∃ v', (loadVar t ⟨b, o, none⟩).run E.P V.w = .ok v' V.w ∧ VRel E V v v' := by
  obtain ⟨hz, ha, hn⟩ := cellT_spec ht
  rcases asVal_spec hs with ⟨rfl, rfl⟩ | ⟨rfl, rfl⟩
  · refine ⟨.agg ((List.range n).map g).toArray, ?_, .agg _ _ (by simp [hl]) (fun i hi => ?_) (fun i x hi => ?_)⟩
    · have := run_loadCells' (P := E.P) (w := V.w) (b := b) (o := o) ((List.range n).map g) (fun j v hj => by
        have hjn : j < n := by
          rcases Nat.lt_or_ge j n with h | h
          · exact h
          · rw [List.getElem?_eq_none (by simpa using h)] at hj; cases hj
        rw [List.getElem?_map, List.getElem?_range hjn] at hj
        simp at hj; subst hj; exact hc j hjn)
      simp only [List.length_map, List.length_range] at this
      simp only [loadVar, Sem.run_bind, run_isAgg ha, Result.andThen_ok, if_true, run_sizeOf' hz, this, Sem.run_pure]
    · have hi' : i < n := by simpa using hi
      rw [Array.getD_eq_getD_getElem?]; simp [hi', h1 i hi']
    · have hi' : i < n := by
        rcases Nat.lt_or_ge i n with h | h
        · exact h
        · rw [List.getElem?_eq_none (by omega)] at hi; cases hi
      rw [Array.getD_eq_getD_getElem?]; simpa [hi'] using hv i x hi
  · have hn1 := hn rfl
    subst hn1
    refine ⟨g 0, ?_, hv 0 v (by simp)⟩
    have := hc 0 (by omega)
    simp only [Nat.add_zero] at this
    simp only [loadVar, Sem.run_bind, run_isAgg ha, Result.andThen_ok, Bool.false_eq_true, if_false, run_load, this]

theorem vptr_inv {row : List AV} {off : Nat} {u : Value} (h : VRel E V (.vptr row off) u) : ∃ (b o : Nat) (f : Nat → Value), u = .pointer (some ⟨b, o + off, none⟩) ∧ V.settled b ∧
    (∀ (j : Nat) (x : AV), row[j]? = some x → V.w.cell? ⟨b, o + j, none⟩ = some (f j)) ∧ (∀ (j : Nat) (x : AV), row[j]? = some x → one (f j) = true) ∧ ∀ (j : Nat) (x : AV), row[j]? = some x → VRel E V x (f j) := by
  cases h with
  | vptr _ _ b o f hs hc h1 hv => exact ⟨b, o, f, rfl, hs, hc, h1, hv⟩

theorem ref_inv {r ver i off : Nat} {u : Value} {rows : List (List AV)} (h : VRel E V (.ref r ver i off) u) (hr : cellsAt V.S r ver = some rows) :
    u = .pointer (some ⟨(V.μ r).blk, (V.μ r).base + i * (V.μ r).esz + off, none⟩) := by
  cases h with
  | ref _ _ _ _ b o h h2 => obtain ⟨rfl, rfl⟩ := h2 rows hr; rfl

theorem cellsAt_get {S : List AObj} {r ver : Nat} {rows : List (List AV)} (h : cellsAt S r ver = some rows) : S[r]? = some (.cells ver rows) := by
  unfold cellsAt at h
  split at h
  · rename_i v rs hs
    split at h
    · rename_i hv; subst hv; cases h; exact hs
    · cases h
  · cases h

theorem cells_obj (hw : WRel E base V) {r ver : Nat} {rows : List (List AV)} (h : cellsAt V.S r ver = some rows) :
    ∃ cs e lo hi, V.w.heap[(V.μ r).blk]? = some (.cells cs e (lo, hi)) ∧ (hi ≤ lo ∨ cs.size ≤ lo) ∧ (V.μ r).base + (V.μ r).cap * (V.μ r).esz ≤ cs.size ∧ rows.length ≤ (V.μ r).cap ∧
      (∀ (i : Nat) (row : List AV), rows[i]? = some row → row.length = (V.μ r).esz) ∧
      (∀ (i j : Nat) (row : List AV) (x : AV), rows[i]? = some row → row[j]? = some x → ∃ v, cs[(V.μ r).base + i * (V.μ r).esz + j]? = some v ∧ one v = true ∧ VRel E V x v) :=
  hw.obj r _ (cellsAt_get h)

theorem getElem?_lt {α : Type} {l : List α} {i : Nat} (h : i < l.length) : ∃ x, l[i]? = some x := ⟨l[i], List.getElem?_eq_getElem h⟩

theorem loadAt_sim (hw : WRel E base V) {t : TypeId} {agg : Bool} {n : Nat} {x v : AV} {u : Value} (ht : cellT E t agg n = true) (hx : VRel E V x u) (h : loadAt V.S agg n x = some v) :
    ∃ v', (Instr.loadAt t u).run E.P V.w = .ok v' V.w ∧ VRel E V v v' := by
  unfold loadAt at h
  split at h
  · rename_i row off
    obtain ⟨b, o, f, rfl, _, hc, h1, hv⟩ := vptr_inv hx
    split at h
    · rename_i cs hsp
      obtain ⟨l1, l2, l3⟩ := span_spec hsp
      obtain ⟨v', r1, r2⟩ := load_cells (V := V) (b := b) (o := o + off) (g := fun j => f (off + j)) ht l2
        (fun j hj => by obtain ⟨y, hy⟩ := getElem?_lt (l := row) (i := off + j) (by omega); rw [Nat.add_assoc]; exact hc _ y hy)
        (fun j hj => by obtain ⟨y, hy⟩ := getElem?_lt (l := row) (i := off + j) (by omega); exact h1 _ y hy)
        (fun j y hj => by
          have hj' : j < n := by
            rcases Nat.lt_or_ge j n with h | h
            · exact h
            · rw [List.getElem?_eq_none (by omega)] at hj; cases hj
          exact hv _ y (by rw [← l3 j hj']; exact hj)) h
      exact ⟨v', by simpa [Instr.loadAt, Instr.sureAddr] using r1, r2⟩
    · cases h
  · rename_i r ver i off
    split at h
    · rename_i rows hr
      obtain rfl := ref_inv hx hr
      obtain ⟨cs, e, lo, hi, hb, _, _, _, _, hcell⟩ := cells_obj hw hr
      split at h
      · rename_i row hrow
        split at h
        · rename_i cs' hsp
          obtain ⟨l1, l2, l3⟩ := span_spec hsp
          have hc : ∀ j, j < n → ∃ y v, row[off + j]? = some y ∧ V.w.cell? ⟨(V.μ r).blk, (V.μ r).base + i * (V.μ r).esz + off + j, none⟩ = some v ∧ one v = true ∧ VRel E V y v := fun j hj => by
            obtain ⟨y, hy⟩ := getElem?_lt (l := row) (i := off + j) (by omega)
            obtain ⟨v, v1, v2, v3⟩ := hcell i (off + j) row y hrow hy
            exact ⟨y, v, hy, by rw [cell_at hb, ← v1, Nat.add_assoc _ off j], v2, v3⟩
          obtain ⟨v', r1, r2⟩ := load_cells (V := V) (b := (V.μ r).blk) (o := (V.μ r).base + i * (V.μ r).esz + off) (g := fun j => (V.w.cell? ⟨(V.μ r).blk, (V.μ r).base + i * (V.μ r).esz + off + j, none⟩).getD undef) ht l2
            (fun j hj => by obtain ⟨y, v, _, h2, _⟩ := hc j hj; rw [h2]; rfl)
            (fun j hj => by obtain ⟨y, v, _, h2, h3, _⟩ := hc j hj; rw [h2]; exact h3)
            (fun j y hj => by
              have hj' : j < n := by
                rcases Nat.lt_or_ge j n with h | h
                · exact h
                · rw [List.getElem?_eq_none (by omega)] at hj; cases hj
              obtain ⟨y', v, h0, h2, _, h4⟩ := hc j hj'
              rw [h2]
              rw [l3 j hj', h0] at hj; cases hj; exact h4) h
          exact ⟨v', by simpa [Instr.loadAt, Instr.sureAddr] using r1, r2⟩
        · cases h
      · cases h
    · cases h
  · cases h

/-- The address of a field, or of an element of an array. -/
theorem fieldA_sim {x v : AV} {u : Value} {off : Nat} (hx : VRel E V x u) (h : fieldA x off = some v) :
    ∃ b o, u = .pointer (some ⟨b, o, none⟩) ∧ VRel E V v (.pointer (some ⟨b, o + off, none⟩)) := by
  unfold fieldA at h
  split at h
  · rename_i r ver i o
    cases h
    cases hx with
    | ref _ _ _ _ b o' h h2 =>
      exact ⟨b, o', rfl, .ref _ _ _ _ _ _ h (fun rows hr => ⟨(h2 rows hr).1, by rw [(h2 rows hr).2, Nat.add_assoc _ o off]⟩)⟩
  · rename_i row o
    cases h
    obtain ⟨b, o', f, rfl, hs, hc, h1, hv⟩ := vptr_inv hx
    refine ⟨b, o' + o, rfl, ?_⟩
    rw [Nat.add_assoc]
    exact .vptr row (o + off) b o' f hs hc h1 hv
  · cases h

end
end Go.Proofs.YtleommjdeejmkaaGreatDoor.Zq

namespace Go.Proofs.YtleommjdeejmkaaGreatDoor.Zq
open Go Go.RowKit

section
variable {E : Env} {V : Vw} {fr : List AV} {a : Act} {base : World}

/-- Cells read so. -/
def CRel (E : Env) (V : Vw) (cs : List AV) (vs : Array Value) : Prop :=
  vs.size = cs.length ∧ (∀ i, i < vs.size → one (vs.getD i undef) = true) ∧ ∀ (i : Nat) (x : AV), cs[i]? = some x → VRel E V x (vs.getD i undef)

theorem foldl_wr : ∀ (vs : List Value) (o k : Nat) (cs : Array Value), ((vs.zipIdx k).foldl (fun (cs : Array Value) (p : Value × Nat) => cs.setIfInBounds (o + p.2) p.1) cs) = wr cs (o + k) vs
  | [], _, _, _ => rfl
  | v :: vs, o, k, cs => by
    simp only [List.zipIdx_cons, List.foldl_cons, wr]
    rw [foldl_wr vs o (k + 1)]
    rfl

theorem foldl_wr' (v : Value) (o : Nat) (cs : Array Value) : (v.cells.zipIdx.foldl (fun (cs : Array Value) (p : Value × Nat) => cs.setIfInBounds (o + p.2) p.1) cs) = wr cs o v.cells.toList := by
  rw [← Array.foldl_toList]
  have : v.cells.zipIdx.toList = v.cells.toList.zipIdx := by simp
  rw [this, foldl_wr]
  simp

theorem splice_len {cs ds : List AV} {off : Nat} (h : off + ds.length ≤ cs.length) : (splice cs off ds).length = cs.length := by
  simp [splice]; omega

theorem splice_in {cs ds : List AV} {off j : Nat} (h : off + ds.length ≤ cs.length) (hj : j < ds.length) : (splice cs off ds)[off + j]? = ds[j]? := by
  unfold splice
  rw [List.append_assoc, List.getElem?_append_right (by simp; omega)]
  rw [List.length_take, Nat.min_eq_left (by omega), show off + j - off = j by omega, List.getElem?_append_left hj]

theorem splice_out {cs ds : List AV} {off j : Nat} (h : off + ds.length ≤ cs.length) (hj : j < off ∨ off + ds.length ≤ j) : (splice cs off ds)[j]? = cs[j]? := by
  unfold splice
  rcases hj with hj | hj
  · rw [List.append_assoc, List.getElem?_append_left (by simp; omega), List.getElem?_take_of_lt hj]
  · rw [List.getElem?_append_right (by simp; omega), List.getElem?_drop]
    congr 1; simp; omega

theorem getD_of {vs : Array Value} {i : Nat} {v : Value} (h : vs[i]? = some v) : vs.getD i undef = v := by
  rw [Array.getD_eq_getD_getElem?, h]; rfl

theorem get_of_lt {vs : Array Value} {i : Nat} (h : i < vs.size) : vs[i]? = some (vs.getD i undef) := by
  rw [Array.getD_eq_getD_getElem?, Array.getElem?_eq_getElem h]; rfl

theorem CRel.splice {cs ds : List AV} {arr vs : Array Value} {off : Nat} (h : CRel E V cs arr) (k : CRel E V ds vs) (ho : off + ds.length ≤ cs.length) : CRel E V (splice cs off ds) (wr arr off vs.toList) := by
  obtain ⟨h1, h2, h3⟩ := h
  obtain ⟨k1, k2, k3⟩ := k
  have hsz : off + vs.toList.length ≤ arr.size := by simp; omega
  have hin : ∀ j, j < vs.size → (wr arr off vs.toList)[off + j]? = some (vs.getD j undef) := fun j hj => wr_in _ _ _ _ _ hsz (by simpa using get_of_lt hj)
  refine ⟨by rw [wr_size, splice_len ho, h1], fun i hi => ?_, fun i x hi => ?_⟩
  · rw [wr_size] at hi
    by_cases hc : off ≤ i ∧ i < off + vs.size
    · obtain ⟨j, rfl⟩ : ∃ j, i = off + j := ⟨i - off, by omega⟩
      rw [getD_of (hin j (by omega))]; exact k2 j (by omega)
    · rw [Array.getD_eq_getD_getElem?, wr_out _ _ _ _ (by simp; omega), ← Array.getD_eq_getD_getElem?]; exact h2 i hi
  · by_cases hc : off ≤ i ∧ i < off + vs.size
    · obtain ⟨j, rfl⟩ : ∃ j, i = off + j := ⟨i - off, by omega⟩
      rw [getD_of (hin j (by omega))]
      exact k3 j x (by rw [← splice_in ho (by omega)]; exact hi)
    · rw [Array.getD_eq_getD_getElem?, wr_out _ _ _ _ (by simp; omega), ← Array.getD_eq_getD_getElem?]
      exact h3 i x (by rw [← splice_out ho (by omega)]; exact hi)

theorem VRel.crel {x : AV} {v : Value} {cs : List AV} (h : VRel E V x v) (hc : x.cells? = some cs) : CRel E V cs v.cells := h.cells hc

theorem zeroT_spec {t : TypeId} {zero : List AV} (h : zeroT E t zero = true) : ∃ i z, E.P.info? t = some i ∧ i.size = zero.length ∧ i.zero = some z ∧ CRel E V zero z.cells := by
  unfold zeroT at h
  split at h
  · rename_i i hi
    simp only [Bool.and_eq_true, beq_iff_eq] at h
    obtain ⟨h1, h2⟩ := h
    split at h2
    · rename_i z hz
      obtain ⟨k1, k2, k3⟩ := cstL_rel (E := E) (V := V) h2
      refine ⟨i, z, hi, h1, hz, by simpa using k1, fun j hj => ?_, fun j x hj => ?_⟩
      · have : z.cells.getD j undef ∈ z.cells.toList := by rw [Array.getD_eq_getD_getElem?, Array.getElem?_eq_getElem hj]; simp
        exact k2 _ this
      · rw [← arr_getD]; exact k3 j x hj
    · cases h2
  · cases h

theorem run_zeroValue {t : TypeId} {i : TypeInfo} {z : Value} (hi : E.P.info? t = some i) (hz : i.zero = some z) (w : World) : (zeroValue t).run E.P w = .ok z w := by
  simp [zeroValue, typeInfo, hi, hz]

/-- The parts of a struct or an array, laid. -/
theorem fill_sim {place : Nat → Option (Nat × Nat)} (hf : FRel E V fr a.tmps) : ∀ {xs : List (Nat × Nat × Opd)} {ys : List (Nat × Operand)} {pvs : List (Nat × Nat × AV)} {cs out : List AV} {arr : Array Value},
    mFields E place xs ys = true → partVals fr xs = some pvs → fillIn cs pvs = some out → CRel E V cs arr →
    ∃ arr', Instr.fill place arr (ys.map fun p => (p.1, a.eval p.2)) = some arr' ∧ CRel E V out arr'
  | [], [], pvs, cs, out, arr, _, h2, h3, h4 => by
    simp only [partVals, Option.some.injEq] at h2; subst h2
    simp only [fillIn, Option.some.injEq] at h3; subst h3
    exact ⟨arr, rfl, h4⟩
  | [], _ :: _, _, _, _, _, h, _, _, _ => by cases h
  | _ :: _, [], _, _, _, _, h, _, _, _ => by simp [mFields] at h
  | (o, z, x) :: xs, (i, y) :: ys, pvs, cs, out, arr, h1, h2, h3, h4 => by
    simp only [mFields, Bool.and_eq_true, beq_iff_eq] at h1
    obtain ⟨⟨hp, hx⟩, hr⟩ := h1
    unfold partVals at h2
    split at h2
    · rename_i v vs hv hvs
      cases h2
      unfold fillIn at h3
      split at h3
      · rename_i ds hds
        split at h3
        · rename_i hc
          have hcr := (opd_rel hf hx hv).crel hds
          obtain ⟨arr', r1, r2⟩ := fill_sim hf hr hvs h3 (h4.splice hcr (by omega))
          refine ⟨arr', ?_, r2⟩
          simp only [List.map_cons, Instr.fill, hp]
          have e1 : (a.eval y).cells.size = z := by rw [hcr.1]; exact hc.1
          have e2 : ¬ (o + (a.eval y).cells.size > arr.size) := by rw [e1, h4.1]; omega
          rw [if_neg (by simp [e1]; rw [h4.1]; omega)]
          rw [foldl_wr']
          exact r1
        · cases h3
      · cases h3
    · cases h2

theorem CRel.agg {cs : List AV} {arr : Array Value} (h : CRel E V cs arr) : VRel E V (.agg cs) (.agg arr) := .agg _ _ h.1 h.2.1 h.2.2

theorem run_mapM_list {α β : Type} (f : α → Sem β) (g : α → β) (w : World) : ∀ (l : List α), (∀ x ∈ l, (f x).run E.P w = .ok (g x) w) → (l.mapM f).run E.P w = .ok (l.map g) w
  | [], _ => by simp
  | x :: l, h => by
    rw [List.mapM_cons]
    simp only [Sem.run_bind, h x (by simp), Result.andThen_ok, run_mapM_list f g w l (fun y hy => h y (by simp [hy])), Sem.run_pure, List.map_cons]

theorem run_mapM_array {α β : Type} (f : α → Sem β) (g : α → β) (w : World) (l : Array α) (h : ∀ x ∈ l.toList, (f x).run E.P w = .ok (g x) w) : (l.mapM f).run E.P w = .ok (l.map g) w := by
  rw [Array.mapM_eq_mapM_toList]
  have h1 := run_mapM_list f g w l.toList h
  rw [Sem.run_map, h1]
  have e : (List.map g l.toList).toArray = Array.map g l := by apply Array.ext'; simp
  show Result.ok (List.map g l.toList).toArray w = _
  rw [e]

theorem build_sim (hf : FRel E V fr a.tmps) {t : TypeId} {ps : Array (Nat × Operand)} {zero : List AV} {parts : List (Nat × Nat × Opd)} {v : AV} (hm : mBuild E t ps (.build zero parts) = true)
    (hp : pop fr (.build zero parts) = some v) : ∃ v', (Instr.build t (ps.map fun (i, x) => (i, a.eval x))).run E.P V.w = .ok v' V.w ∧ VRel E V v v' := by
  simp only [mBuild, Bool.and_eq_true] at hm
  obtain ⟨hz, hm⟩ := hm
  obtain ⟨i, z, hi, hsz, hzz, hcr⟩ := zeroT_spec (E := E) (V := V) hz
  simp only [pop] at hp
  split at hp
  · rename_i pvs hpv
    cases hfi : fillIn zero pvs with
    | none => simp [hfi] at hp
    | some out =>
      simp only [hfi, Option.map_some, Option.some.injEq] at hp; subst hp
      split at hm
      · rename_i fs hu
        simp only [Bool.and_eq_true, List.all_eq_true] at hm
        obtain ⟨hm, hall⟩ := hm
        have hmap := run_mapM_array (E := E) (fun (f : Field) => (do pure (f.offset, ← sizeOf f.type) : Sem (Nat × Nat))) (fun f => (f.offset, (szOf E f.type).getD 0)) V.w fs (fun f hf' => by
          obtain ⟨z, hz⟩ := Option.isSome_iff_exists.1 (hall f hf')
          simp [run_sizeOf' hz, hz])
        have hplace : (fun i => (fs.map fun f => (f.offset, (szOf E f.type).getD 0))[i]?) = fieldPlaceT E fs := by
          funext i
          unfold fieldPlaceT
          rw [Array.getElem?_map]
          cases hfi : fs[i]? with
          | none => rfl
          | some f =>
            have hmem : f ∈ fs.toList := by
              have := Array.mem_of_getElem? hfi
              simpa using this
            obtain ⟨z, hz⟩ := Option.isSome_iff_exists.1 (hall f hmem)
            simp [hz]
        obtain ⟨arr', r1, r2⟩ := fill_sim hf hm hpv hfi hcr
        refine ⟨.agg arr', ?_, r2.agg⟩
        simp only [Instr.build, Sem.run_bind, run_zeroValue hi hzz, run_underlying hu, Result.andThen_ok]
        rw [hmap]
        simp only [Result.andThen_ok, hplace]
        rw [show (ps.map fun (i, x) => (i, a.eval x)).toList = ps.toList.map fun p => (p.1, a.eval p.2) by simp, r1]
        rfl
      · rename_i n e hu
        split at hm
        · rename_i zz hzz'
          obtain ⟨arr', r1, r2⟩ := fill_sim hf hm hpv hfi hcr
          refine ⟨.agg arr', ?_, r2.agg⟩
          simp only [Instr.build, Sem.run_bind, run_zeroValue hi hzz, run_underlying hu, Result.andThen_ok, run_sizeOf' hzz']
          rw [show (ps.map fun (i, x) => (i, a.eval x)).toList = ps.toList.map fun p => (p.1, a.eval p.2) by simp, r1]
          rfl
        · cases hm
      · cases hm
  · cases hp

/-- The parts of a slice literal, laid. -/
theorem fillS_sim (hf : FRel E V fr a.tmps) {sz : Nat} : ∀ {xs : List Opd} {ys : List (Nat × Operand)} {i : Nat} {vs : List AV} {rows : List (List AV)} {arr : Array Value},
    mParts E sz i xs ys = true → opds fr xs = some vs → rowsOf sz vs = some rows → (i + xs.length) * sz ≤ arr.size →
    ∃ arr', Instr.fill (fun i => some (i * sz, sz)) arr (ys.map fun p => (p.1, a.eval p.2)) = some arr' ∧ arr'.size = arr.size ∧ (∀ p, p < i * sz → arr'[p]? = arr[p]?) ∧
      rows.length = xs.length ∧ (∀ (k : Nat) (row : List AV), rows[k]? = some row → row.length = sz) ∧
      ∀ (k j : Nat) (row : List AV) (x : AV), rows[k]? = some row → row[j]? = some x → ∃ v, arr'[(i + k) * sz + j]? = some v ∧ one v = true ∧ VRel E V x v
  | [], [], i, vs, rows, arr, _, h2, h3, _ => by
    simp only [opds, Option.some.injEq] at h2; subst h2
    simp only [rowsOf, Option.some.injEq] at h3; subst h3
    exact ⟨arr, rfl, rfl, fun _ _ => rfl, rfl, by simp, by simp⟩
  | [], _ :: _, _, _, _, _, h, _, _, _ => by cases h
  | _ :: _, [], _, _, _, _, h, _, _, _ => by cases h
  | x :: xs, (i', y) :: ys, i, vs, rows, arr, h1, h2, h3, h4 => by
    simp only [mParts, Bool.and_eq_true, beq_iff_eq] at h1
    obtain ⟨⟨rfl, hx⟩, hr⟩ := h1
    unfold opds at h2
    split at h2
    · rename_i v us hv hus
      cases h2
      unfold rowsOf at h3
      split at h3
      · rename_i cs rs hcs hrs
        split at h3
        · rename_i hlen
          cases h3
          have hcr := (opd_rel hf hx hv).crel hcs
          have hle : i * sz + sz ≤ arr.size := by
            have : (i + (xs.length + 1)) * sz = i * sz + (xs.length * sz + sz) := by rw [Nat.add_mul, Nat.add_mul, Nat.one_mul]
            simp only [List.length_cons] at h4
            omega
          obtain ⟨arr', r1, r2, r3, r4, r5, r6⟩ := fillS_sim (i := i + 1) (arr := wr arr (i * sz) (a.eval y).cells.toList) hf hr hus hrs (by rw [wr_size]; simpa [Nat.add_assoc, Nat.add_comm 1] using h4)
          have hcsz : (a.eval y).cells.size = sz := by rw [hcr.1]; exact hlen
          refine ⟨arr', ?_, by rw [r2, wr_size], fun p hp => ?_, by simp [r4], fun k row hk => ?_, fun k j row z hk hj => ?_⟩
          · simp only [List.map_cons, Instr.fill]
            rw [if_neg (by simp [hcsz]; omega), foldl_wr']
            exact r1
          · rw [r3 p (by rw [Nat.add_mul]; omega), wr_out _ _ _ _ (.inl hp)]
          · cases k with
            | zero => simp at hk; subst hk; exact hlen
            | succ k => exact r5 k row (by simpa using hk)
          · cases k with
            | zero =>
              simp at hk; subst hk
              have hj' : j < sz := by
                rcases Nat.lt_or_ge j sz with h | h
                · exact h
                · rw [List.getElem?_eq_none (by omega)] at hj; cases hj
              refine ⟨(a.eval y).cells.getD j undef, ?_, hcr.2.1 j (by omega), hcr.2.2 j z hj⟩
              rw [Nat.add_zero, r3 _ (by rw [Nat.add_mul, Nat.one_mul]; omega)]
              exact wr_in _ _ _ _ _ (by simp; omega) (by simpa using get_of_lt (by omega))
            | succ k =>
              obtain ⟨v', v1, v2, v3⟩ := r6 k j row z (by simpa using hk) hj
              exact ⟨v', by rwa [show i + (k + 1) = i + 1 + k by omega], v2, v3⟩
        · cases h3
      · cases h3
    · cases h2

theorem grow_cell (w : World) (o : Nat) (cs : Array Value) (e : TypeId) : (w.alloc (.cells cs e)).cell? ⟨w.heap.size, o, none⟩ = cs[o]? := by
  exact World.cell?_alloc_new w cs e o

theorem buildSlice_sim (hw : WRel E base V) (hf : FRel E V fr a.tmps) {t : TypeId} {n : Nat} {ps : Array (Nat × Operand)} {sz : Nat} {xs : List Opd} {v : AV} (hm : mBuildSlice E t n ps (.bsl sz xs) = true)
    (hp : pop fr (.bsl sz xs) = some v) : ∃ v' o, (Instr.buildSlice t n (ps.map fun (i, x) => (i, a.eval x))).run E.P V.w = .ok v' (V.w.alloc o) ∧ VRel E { V with w := V.w.alloc o } v v' := by
  simp only [mBuildSlice, Bool.and_eq_true, bne_iff_ne, ne_eq, beq_iff_eq, decide_eq_true_eq] at hm
  obtain ⟨⟨⟨⟨hz, hn⟩, hlim⟩, hmp⟩, hm⟩ := hm
  split at hm
  · rename_i e hu
    split at hm
    · rename_i i hi
      simp only [Bool.and_eq_true, beq_iff_eq] at hm
      obtain ⟨hisz, hm⟩ := hm
      split at hm
      · rename_i z hzz
        simp only [beq_iff_eq] at hm
        have hsz : szOf E e = some sz := by simp [szOf, hi, hisz]
        simp only [pop] at hp
        split at hp
        · rename_i hop
          cases hp
          have hx0 : xs = [] := by
            cases xs with
            | nil => rfl
            | cons x xs => unfold opds at hop; split at hop <;> cases hop
          subst hx0
          have hn0 : n = 0 := by simpa using hn.symm
          subst hn0
          have hps : ps = #[] := by
            cases h : ps.toList with
            | nil => simpa using h
            | cons y ys => rw [h] at hmp; cases hmp
          subst hps
          refine ⟨.slice (some ⟨V.w.heap.size, 0, none⟩) 0 0, .cells #[] e, ?_, .zsl _ _ rfl⟩
          simp only [Instr.buildSlice, Sem.run_bind, run_underlying hu, run_sizeOf' hsz, Result.andThen_ok]
          simp [Instr.fill, newRow, Array.range_zero']
        · rename_i v0 vs hop
          cases hro : rowsOf sz (v0 :: vs) with
          | none => simp [hro] at hp
          | some rows =>
            simp only [hro, Option.map_some, Option.some.injEq] at hp; subst hp
            obtain ⟨arr', r1, r2, _, r4, r5, r6⟩ := fillS_sim (i := 0) (arr := (Array.range (n * sz)).map (z.cells[· % z.cells.size]!)) hf hmp hop hro (by simp [hn])
            refine ⟨.slice (some ⟨V.w.heap.size, 0, none⟩) n n, .cells arr' e, ?_, ?_⟩
            · simp only [Instr.buildSlice, Sem.run_bind, run_underlying hu, run_sizeOf' hsz, Result.andThen_ok]
              have hn1 : ¬ (n * sz = 0) := by
                have : n ≠ 0 := by
                  intro h0; subst h0
                  have : xs = [] := by simpa using hn
                  subst this; simp [opds] at hop
                exact Nat.mul_ne_zero this hz
              have hlim' : ¬ (n * sz > 2 ^ 24) := by omega
              simp only [hlim', if_false, Sem.run_pure, Result.andThen_ok, hn1, Sem.run_bind, run_zeroValue hi hzz]
              have hml : (Array.map (fun x : Nat × Operand => (x.fst, a.eval x.snd)) ps).toList = ps.toList.map fun p => (p.1, a.eval p.2) := by simp
              rw [hml, r1]
              simp [newRow]
            · have hl := Later.grow V (.cells arr' e)
              have hrn : rows.length = n := by omega
              rw [← hrn]
              refine .sl sz rows _ 0 _ (fun k j => (arr'[k * sz + j]?).getD undef) (Nat.le_refl _) (hw.new_settled _) r5 (fun k j row x hk hj => ?_) (fun k j row x hk hj => ?_) (fun k j row x hk hj => ?_)
              · obtain ⟨v', v1, v2, v3⟩ := r6 k j row x hk hj
                simp only [Nat.zero_add] at v1
                rw [grow_cell, Nat.zero_add, v1]; rfl
              · obtain ⟨v', v1, v2, v3⟩ := r6 k j row x hk hj
                simp only [Nat.zero_add] at v1
                rw [v1]; exact v2
              · obtain ⟨v', v1, v2, v3⟩ := r6 k j row x hk hj
                simp only [Nat.zero_add] at v1
                rw [v1]; exact v3.later hl
        · cases hp
      · cases hm
    · cases hm
  · cases hm

end
end Go.Proofs.YtleommjdeejmkaaGreatDoor.Zq

namespace Go.Proofs.YtleommjdeejmkaaGreatDoor.Zq
open Go Go.RowKit

section
variable {E : Env} {V : Vw} {fr : List AV} {a : Act} {base : World}

theorem sl_inv {z : Nat} {rows : List (List AV)} {u : Value} (h : VRel E V (.sl z rows) u) :
    ∃ (p : Option Addr) (cap : Nat), u = .slice p rows.length cap ∧ rows.length ≤ cap ∧ (rows ≠ [] → ∃ (b o : Nat) (f : Nat → Nat → Value), p = some ⟨b, o, none⟩ ∧ V.settled b ∧
      (∀ (i : Nat) (row : List AV), rows[i]? = some row → row.length = z) ∧
      (∀ (i j : Nat) (row : List AV) (x : AV), rows[i]? = some row → row[j]? = some x → V.w.cell? ⟨b, o + i * z + j, none⟩ = some (f i j)) ∧
      (∀ (i j : Nat) (row : List AV) (x : AV), rows[i]? = some row → row[j]? = some x → one (f i j) = true) ∧
      (∀ (i j : Nat) (row : List AV) (x : AV), rows[i]? = some row → row[j]? = some x → VRel E V x (f i j))) := by
  cases h with
  | slnil z p cap => exact ⟨_, cap, rfl, Nat.zero_le _, fun h => absurd rfl h⟩
  | sl z rows b o cap f hl hs hz hc h1 hv => exact ⟨_, cap, rfl, hl, fun _ => ⟨b, o, f, rfl, hs, hz, hc, h1, hv⟩⟩

theorem sl_some {z : Nat} {rows : List (List AV)} {p : Option Addr} {n cap : Nat} (h : VRel E V (.sl z rows) (.slice p n cap)) : p.isSome = true := by
  cases h <;> rfl

/-- A slice in settled memory, made anew from what is known of its rows. -/
theorem sl_mk {z : Nat} {rows : List (List AV)} {p : Option Addr} {n cap : Nat} (hn : n = rows.length) (hl : rows.length ≤ cap) (hp : rows = [] → p.isSome = true)
    (h : rows ≠ [] → ∃ (b o : Nat) (f : Nat → Nat → Value), p = some ⟨b, o, none⟩ ∧ V.settled b ∧
      (∀ (i : Nat) (row : List AV), rows[i]? = some row → row.length = z) ∧
      (∀ (i j : Nat) (row : List AV) (x : AV), rows[i]? = some row → row[j]? = some x → V.w.cell? ⟨b, o + i * z + j, none⟩ = some (f i j)) ∧
      (∀ (i j : Nat) (row : List AV) (x : AV), rows[i]? = some row → row[j]? = some x → one (f i j) = true) ∧
      (∀ (i j : Nat) (row : List AV) (x : AV), rows[i]? = some row → row[j]? = some x → VRel E V x (f i j))) : VRel E V (.sl z rows) (.slice p n cap) := by
  subst hn
  by_cases hr : rows = []
  · subst hr
    obtain ⟨q, rfl⟩ := Option.isSome_iff_exists.1 (hp rfl)
    exact .slnil z q cap
  · obtain ⟨b, o, f, rfl, hs, hz, hc, h1, hv⟩ := h hr
    exact .sl z rows b o cap f hl hs hz hc h1 hv

theorem msl_inv {r ver z off len : Nat} {u : Value} (h : VRel E V (.msl r ver z off len) u) : ∃ b o cap, u = .slice (some ⟨b, o, none⟩) len cap ∧ ver < bound V.S r ∧ len ≤ cap ∧
    ∀ rows, cellsAt V.S r ver = some rows → (V.μ r).esz = z ∧ rows.length ≤ off + cap ∧ off + cap ≤ (V.μ r).cap ∧ (cap = 0 ∨ b = (V.μ r).blk ∧ o = (V.μ r).base + off * z) := by
  cases h with
  | msl _ _ _ _ _ b o cap h hl h2 => exact ⟨b, o, cap, rfl, h, hl, h2⟩

theorem indexA_sim {t e : TypeId} {z : Nat} {x i v : AV} {u w : Value} (hu : E.P.underlying t = some (.slice e)) (hz : szOf E e = some z) (hx : VRel E V x u) (hi : VRel E V i w) (h : indexA z x i = some v) :
    ∃ v', (Instr.indexAt t u w).run E.P V.w = .ok v' V.w ∧ VRel E V v v' := by
  unfold indexA at h
  split at h
  · rename_i z' rows k n
    split at h
    · rename_i hc
      obtain ⟨rfl, hn⟩ := hc
      split at h
      · rename_i row hrow
        cases h
        rw [hi.int_inv]
        obtain ⟨p, cap, rfl, hl, hall⟩ := sl_inv hx
        obtain ⟨b, o, f, rfl, hs, hzr, hc, h1, hv⟩ := hall (by intro e; subst e; simp at hrow)
        have hlt : n.toNat < rows.length := by
          rcases Nat.lt_or_ge n.toNat rows.length with h | h
          · exact h
          · rw [List.getElem?_eq_none h] at hrow; cases hrow
        refine ⟨.pointer (some ⟨b, o + n.toNat * z', none⟩), ?_, ?_⟩
        · have : 0 ≤ n ∧ n < (rows.length : Int) := ⟨hn, by omega⟩
          simp only [Instr.indexAt, Sem.run_bind, asIntOf, Sem.run_pure, Result.andThen_ok, run_underlying hu, this, and_self, if_true, run_sizeOf' hz, add_addr]
        · exact .vptr row 0 b (o + n.toNat * z') (f n.toNat) hs (fun j x hj => hc n.toNat j row x hrow hj) (fun j x hj => h1 n.toNat j row x hrow hj) (fun j x hj => hv n.toNat j row x hrow hj)
      · cases h
    · cases h
  · rename_i r ver z' off len k n
    split at h
    · rename_i hc
      obtain ⟨rfl, hn, hlt⟩ := hc
      cases h
      rw [hi.int_inv]
      obtain ⟨b, o, cap, rfl, hb, hlc, hall⟩ := msl_inv hx
      refine ⟨.pointer (some ⟨b, o + n.toNat * z', none⟩), ?_, .ref _ _ _ _ _ _ hb (fun rows hr => ?_)⟩
      · have : 0 ≤ n ∧ n < (len : Int) := ⟨hn, hlt⟩
        simp only [Instr.indexAt, Sem.run_bind, asIntOf, Sem.run_pure, Result.andThen_ok, run_underlying hu, this, and_self, if_true, run_sizeOf' hz, add_addr]
      · obtain ⟨h3, _, _, h4⟩ := hall rows hr
        obtain ⟨h1, h2⟩ := h4.resolve_left (by omega)
        refine ⟨h1, ?_⟩
        rw [h2, h3, Nat.add_mul]; omega
    · cases h
  · cases h

/-- Optional operands read so. -/
def ORelO (E : Env) (V : Vw) : Option AV → Option Value → Prop
  | none, none => True
  | some x, some u => VRel E V x u
  | _, _ => False

theorem oopd_rel (hf : FRel E V fr a.tmps) {x : Option Opd} {y : Option Operand} {u : Option AV} (h : mOopd E x y = true) (hu : oopd fr x = some u) : ORelO E V u (y.map a.eval) := by
  cases x <;> cases y <;> simp only [mOopd] at h
  · simp only [oopd, Option.some.injEq] at hu; subst hu; trivial
  · cases h
  · cases h
  · rename_i x y
    simp only [oopd] at hu
    cases hx : opd fr x with
    | none => simp [hx] at hu
    | some v => simp [hx] at hu; subst hu; exact opd_rel hf h hx

theorem bnd_none {len d h : Nat} {hi : Option AV} (hb : bnd len hi d = some h) (hv : ORelO E V hi none) : h = d := by
  cases hi with
  | none => simpa [bnd] using hb.symm
  | some x => exact hv.elim

theorem bnd_some {len d h : Nat} {hi : Option AV} {u : Value} (code : BoundsCode) (hb : bnd len hi d = some h) (hv : ORelO E V hi (some u)) : (Instr.sliceBound u len code).run E.P V.w = .ok h V.w ∧ h ≤ len := by
  cases hi with
  | none => exact hv.elim
  | some x =>
    simp only [ORelO] at hv
    cases x with
    | int k n =>
      simp only [bnd] at hb
      rw [hv.int_inv]
      split at hb
      · rename_i hc
        cases hb
        exact ⟨by simp [Instr.sliceBound, asIntOf, hc], by omega⟩
      · cases hb
    | _ => simp [bnd] at hb

/-- A bound below a smaller length is one below a greater length. -/
theorem bnd_le {len len' d h : Nat} {hi : Option AV} (hb : bnd len hi d = some h) (hle : len ≤ len') (hs : hi.isSome = true) (d' : Nat) : bnd len' hi d' = some h := by
  cases hi with
  | none => simp at hs
  | some x =>
    cases x with
    | int k n =>
      simp only [bnd] at hb ⊢
      split at hb
      · rename_i hc; cases hb; rw [if_pos (by omega)]
      · cases hb
    | _ => simp [bnd] at hb

/-- The bounds of a slice of a slice (no third index). -/
theorem sliceBounds2 {isS : Bool} {len cap l h : Nat} {lo hi : Option AV} {ul uh : Option Value} (hh : bnd len hi len = some h) (hl : bnd h lo 0 = some l) (vl : ORelO E V lo ul) (vh : ORelO E V hi uh) (hc : len ≤ cap) :
    (Instr.sliceBounds isS len cap ul uh none).run E.P V.w = .ok (l, h, cap) V.w ∧ l ≤ h ∧ h ≤ len := by
  have key : ∀ (H : h ≤ len), (match ul with | none => (pure 0 : Sem Nat) | some v => Instr.sliceBound v h .sliceB).run E.P V.w = .ok l V.w ∧ l ≤ h := by
    intro _
    cases ul with
    | none => have := bnd_none hl vl; subst this; exact ⟨rfl, Nat.zero_le _⟩
    | some v => exact bnd_some .sliceB hl vl
  cases uh with
  | none =>
    have e := bnd_none hh vh
    subst e
    obtain ⟨k1, k2⟩ := key (Nat.le_refl _)
    refine ⟨?_, k2, Nat.le_refl _⟩
    cases ul with
    | none => simp only [Sem.run_pure, Result.ok.injEq, and_true] at k1; subst k1; simp [Instr.sliceBounds]
    | some v => simp only at k1; simp [Instr.sliceBounds, k1]
  | some u =>
    have hs : hi.isSome = true := by cases hi with | none => exact vh.elim | some _ => rfl
    have hle : h ≤ len := (bnd_some .index hh vh).2
    obtain ⟨b1, _⟩ := bnd_some (if isS then .sliceAcap else .sliceAlen) (bnd_le hh hc hs cap) vh
    obtain ⟨k1, k2⟩ := key hle
    refine ⟨?_, k2, hle⟩
    cases ul with
    | none => simp only [Sem.run_pure, Result.ok.injEq, and_true] at k1; subst k1; simp [Instr.sliceBounds, b1]
    | some v => simp only at k1; simp [Instr.sliceBounds, b1, k1]

/-- The same with a third index. -/
theorem sliceBounds3 {isS : Bool} {len cap l h m : Nat} {lo hi mx : Option AV} {ul uh um : Option Value} (hm : bnd len mx 0 = some m) (hms : mx.isSome = true) (hh : bnd len hi len = some h) (hhs : hi.isSome = true) (hl : bnd h lo 0 = some l)
    (vl : ORelO E V lo ul) (vh : ORelO E V hi uh) (vm : ORelO E V mx um) (hc : len ≤ cap) (hhm : h ≤ m) :
    (Instr.sliceBounds isS len cap ul uh um).run E.P V.w = .ok (l, h, m) V.w ∧ l ≤ h ∧ m ≤ len := by
  cases um with
  | none => cases mx with | none => simp at hms | some _ => exact vm.elim
  | some v3 =>
    cases uh with
    | none => cases hi with | none => simp at hhs | some _ => exact vh.elim
    | some v2 =>
      have hml : m ≤ len := (bnd_some .index hm vm).2
      obtain ⟨b1, _⟩ := bnd_some (if isS then .slice3Acap else .slice3Alen) (bnd_le hm hc hms cap) vm
      have hh' : bnd m hi m = some h := by
        cases hi with
        | none => simp at hhs
        | some x =>
          cases x with
          | int k n =>
            simp only [bnd] at hh ⊢
            split at hh
            · cases hh; rw [if_pos (by omega)]
            · cases hh
          | _ => simp [bnd] at hh
      obtain ⟨b2, _⟩ := bnd_some .slice3B hh' vh
      cases ul with
      | none =>
        have := bnd_none hl vl; subst this
        exact ⟨by simp [Instr.sliceBounds, b1, b2], Nat.zero_le _, hml⟩
      | some v =>
        obtain ⟨b3, b4⟩ := bnd_some .slice3C hl vl
        exact ⟨by simp [Instr.sliceBounds, b1, b2, b3], b4, hml⟩

end
end Go.Proofs.YtleommjdeejmkaaGreatDoor.Zq

namespace Go.Proofs.YtleommjdeejmkaaGreatDoor.Zq
open Go Go.RowKit

section
variable {E : Env} {V : Vw} {fr : List AV} {a : Act} {base : World}

theorem extract_bytes (s : ByteArray) (l h : Nat) : (s.extract l h).data.toList = (s.data.toList.take h).drop l := by
  rw [ByteArray.data_extract, Array.toList_extract]
  simp [List.extract, List.drop_take]

theorem asls_sim {t : TypeId} {x v : AV} {lo hi : Option AV} {u : Value} {ul uh : Option Value} (hu : E.P.underlying t = some .string) (hx : VRel E V x u) (vl : ORelO E V lo ul) (vh : ORelO E V hi uh) (h : asls x lo hi = some v) :
    ∃ v', (Instr.sliceAt t u ul uh none).run E.P V.w = .ok v' V.w ∧ VRel E V v v' := by
  unfold asls at h
  split at h
  · rename_i s
    obtain ⟨b, rfl, hb⟩ := hx.str_inv
    split at h
    · rename_i hh hbh
      split at h
      · rename_i l hbl
        cases h
        have hsz : b.size = s.length := by rw [← hb]; rfl
        obtain ⟨r1, r2, r3⟩ := sliceBounds2 (isS := false) (cap := b.size) (len := s.length) hbh hbl vl vh (by omega)
        rw [hsz] at r1
        refine ⟨.string (b.extract l hh), ?_, .str _ _ (by rw [extract_bytes b l hh, hb])⟩
        simp only [Instr.sliceAt, Instr.slice, Sem.run_bind, run_underlying hu, Result.andThen_ok, Option.isSome_none, Bool.false_eq_true, if_false, Sem.run_pure, hsz, r1]
      · cases h
    · cases h
  · cases h

theorem aslice_sim {t e : TypeId} {z : Nat} {x v : AV} {lo hi mx : Option AV} {u : Value} {ul uh um : Option Value} (hz0 : z ≠ 0) (hu : E.P.underlying t = some (.slice e)) (hz : szOf E e = some z) (hm3 : mx.isSome = true → hi.isSome = true)
    (hx : VRel E V x u) (vl : ORelO E V lo ul) (vh : ORelO E V hi uh) (vm : ORelO E V mx um) (h : aslice z x lo hi mx = some v) :
    ∃ v', (Instr.sliceAt t u ul uh um).run E.P V.w = .ok v' V.w ∧ VRel E V v v' := by
  have run : ∀ {p : Option Addr} {len cap l hh m : Nat}, (Instr.sliceBounds true len cap ul uh um).run E.P V.w = .ok (l, hh, m) V.w →
      (Instr.sliceAt t (.slice p len cap) ul uh um).run E.P V.w = .ok (.slice (if m = l then p else p.map (·.add (l * z))) (hh - l) (m - l)) V.w := by
    intro p len cap l hh m r
    simp only [Instr.sliceAt, Instr.slice, Sem.run_bind, run_underlying hu, Result.andThen_ok, r, run_sizeOf' hz, Sem.run_pure]
  unfold aslice at h
  split at h
  · -- a slice of length and capacity 0
    cases hx with
    | zsl bb p hbb =>
      split at h
      · rename_i l hh m h1 h2 h3
        cases h
        have z1 : ∀ {w : Option AV} {k : Nat}, bnd 0 w 0 = some k → k = 0 := fun {w k} hb => by
          cases w with
          | none => simpa [bnd] using hb.symm
          | some x =>
            cases x with
            | int q n => simp only [bnd] at hb; split at hb <;> simp_all; omega
            | _ => simp [bnd] at hb
        obtain rfl := z1 h1; obtain rfl := z1 h2; obtain rfl := z1 h3
        by_cases hmx : mx.isSome = true
        · obtain ⟨r1, _, _⟩ := sliceBounds3 (isS := true) (len := 0) (cap := 0) h3 hmx h2 (hm3 hmx) h1 vl vh vm (Nat.le_refl _) (Nat.le_refl _)
          exact ⟨_, run r1, .zsl _ _ (by simpa using hbb)⟩
        · cases mx with
          | some _ => simp at hmx
          | none =>
            cases um with
            | some _ => exact vm.elim
            | none =>
              obtain ⟨r1, _, _⟩ := sliceBounds2 (isS := true) (len := 0) (cap := 0) h2 h1 vl vh (Nat.le_refl _)
              exact ⟨_, run r1, .zsl _ _ (by simpa using hbb)⟩
      · cases h
  · rename_i z' rows
    split at h
    · cases h
    · rename_i hzz
      simp only [ne_eq, Decidable.not_not] at hzz
      subst hzz
      obtain ⟨p, cap, rfl, hl, hall⟩ := sl_inv hx
      have hps := sl_some hx
      have cut : ∀ {l hh m : Nat}, l ≤ hh → hh ≤ m → hh ≤ rows.length → VRel E V (.sl z' ((rows.take hh).drop l)) (.slice (if m = l then p else p.map (·.add (l * z'))) (hh - l) (m - l)) := by
        intro l hh m h1 h2 h3
        have hlen : ((rows.take hh).drop l).length = hh - l := by simp; omega
        have hget : ∀ {i : Nat} {row : List AV}, ((rows.take hh).drop l)[i]? = some row → rows[l + i]? = some row := fun {i row} h => by
          rw [List.getElem?_drop] at h
          have : l + i < hh := by
            rcases Nat.lt_or_ge (l + i) hh with h' | h'
            · exact h'
            · rw [List.getElem?_eq_none (by simp; omega)] at h; cases h
          rwa [List.getElem?_take_of_lt this] at h
        refine sl_mk hlen.symm (by rw [hlen]; omega) (fun _ => by split <;> simp [hps]) (fun hne => ?_)
        have hlt : l < hh := by
          have : 0 < ((rows.take hh).drop l).length := List.length_pos_iff.2 hne
          omega
        obtain ⟨b, o, f, rfl, hs, hzr, hc, h1', hv⟩ := hall (by intro e; subst e; simp at h3; omega)
        refine ⟨b, o + l * z', fun i j => f (l + i) j, ?_, hs, fun i row hi => hzr _ _ (hget hi), fun i j row x hi hj => ?_, fun i j row x hi hj => h1' _ j row x (hget hi) hj, fun i j row x hi hj => hv _ j row x (hget hi) hj⟩
        · rw [if_neg (by omega)]; simp [add_addr]
        · have := hc _ j row x (hget hi) hj
          rw [Nat.add_mul] at this
          rw [Nat.add_assoc o]; exact this
      split at h
      · rename_i hh hbh
        split at h
        · rename_i l hbl
          split at h
          · cases h
            cases um with
            | some _ => exact vm.elim
            | none =>
              obtain ⟨r1, r2, r3⟩ := sliceBounds2 (isS := true) (cap := cap) hbh hbl vl vh hl
              exact ⟨_, run r1, cut r2 (by omega) r3⟩
          · rename_i m' hmx'
            split at h
            · rename_i m hbm
              have r3 : ∀ (hhm : hh ≤ m), _ := fun hhm => sliceBounds3 (isS := true) (cap := cap) hbm rfl hbh (hm3 rfl) hbl vl vh vm hl hhm
              split at h
              · rename_i hc
                cases h
                obtain ⟨r1, r2, _⟩ := r3 hc.1
                refine ⟨_, run r1, ?_⟩
                have e1 : m = l := hc.2
                have e2 : hh - l = 0 := by omega
                have e3 : m - l = 0 := by omega
                rw [e1, if_pos rfl, Nat.sub_self, e2]; exact .zsl _ _ (by simpa using hps)
              · split at h
                · rename_i hc
                  cases h
                  obtain ⟨r1, r2, r4⟩ := r3 hc
                  exact ⟨_, run r1, cut r2 hc (by omega)⟩
                · cases h
            · cases h
        · cases h
      · cases h
  · rename_i r ver z' off len
    split at h
    · cases h
    · rename_i hzz
      simp only [ne_eq, Decidable.not_not] at hzz
      subst hzz
      obtain ⟨b, o, cap, rfl, hb, hlc, hall⟩ := msl_inv hx
      split at h
      · rename_i hh hbh
        split at h
        · rename_i l hbl
          split at h
          · cases h
            cases um with
            | some _ => exact vm.elim
            | none =>
              obtain ⟨r1, r2, r3⟩ := sliceBounds2 (isS := true) (cap := cap) hbh hbl vl vh hlc
              refine ⟨_, run r1, ?_⟩
              by_cases hcl : cap = l
              · rw [if_pos hcl]
                refine .msl _ _ _ _ _ _ _ _ hb (by omega) (fun rows hr => ?_)
                obtain ⟨q3, q4, q5, q6⟩ := hall rows hr
                exact ⟨q3, by omega, by omega, .inl (by omega)⟩
              · rw [if_neg hcl]
                simp only [Option.map_some, add_addr]
                refine .msl _ _ _ _ _ _ _ _ hb (by omega) (fun rows hr => ?_)
                obtain ⟨q3, q4, q5, q6⟩ := hall rows hr
                obtain ⟨q1, q2⟩ := q6.resolve_left (by omega)
                exact ⟨q3, by omega, by omega, .inr ⟨q1, by rw [q2, Nat.add_mul]; omega⟩⟩
          · rename_i m' hmx'
            split at h
            · rename_i m hbm
              split at h
              · rename_i hc
                cases h
                obtain ⟨r1, r2, _⟩ := sliceBounds3 (isS := true) (cap := cap) hbm rfl hbh (hm3 rfl) hbl vl vh vm hlc hc.1
                refine ⟨_, run r1, ?_⟩
                have e1 : m = l := hc.2
                have e2 : hh - l = 0 := by omega
                have e3 : m - l = 0 := by omega
                rw [e1, if_pos rfl, Nat.sub_self, e2]; exact .zsl _ _ rfl
              · cases h
            · cases h
        · cases h
      · cases h
  · cases h

theorem CRel.extract {cs : List AV} {vs : Array Value} (h : CRel E V cs vs) {off n : Nat} (hl : off + n ≤ cs.length) : CRel E V ((cs.drop off).take n) (vs.extract off (off + n)) := by
  obtain ⟨h1, h2, h3⟩ := h
  have hget : ∀ i, i < n → (vs.extract off (off + n)).getD i undef = vs.getD (off + i) undef := fun i hi => by
    rw [Array.getD_eq_getD_getElem?, Array.getElem?_extract, if_pos (by omega), ← Array.getD_eq_getD_getElem?]
  refine ⟨by simp; omega, fun i hi => ?_, fun i x hi => ?_⟩
  · have : i < n := by simp at hi; omega
    rw [hget i this]; exact h2 _ (by omega)
  · have : i < n := by
      rcases Nat.lt_or_ge i n with h | h
      · exact h
      · rw [List.getElem?_eq_none (by simp; omega)] at hi; cases hi
    rw [hget i this]
    exact h3 _ x (by rw [List.getElem?_take_of_lt this, List.getElem?_drop] at hi; exact hi)

/-- A part of an aggregate, as a value. -/
theorem part_val {t : TypeId} {n off : Nat} {agg : Bool} {cs cs' : List AV} {vs : Array Value} {v : AV} (hct : cellT E t agg n = true) (h : CRel E V cs vs) (hsp : span cs off n = some cs') (hp : asVal agg cs' = some v) (w : World) :
    ∃ v', (part t vs off).run E.P w = .ok v' w ∧ VRel E V v v' := by
  obtain ⟨hz, hagg, hone⟩ := cellT_spec hct
  obtain ⟨l1, l2, l3⟩ := span_spec hsp
  have hsp' : cs' = (cs.drop off).take n := by unfold span at hsp; split at hsp <;> simp_all
  rcases asVal_spec hp with ⟨rfl, rfl⟩ | ⟨rfl, rfl⟩
  · refine ⟨.agg (vs.extract off (off + n)), by simp [part, run_isAgg hagg, run_sizeOf' hz], ?_⟩
    rw [hsp']; exact (h.extract l1).agg
  · obtain ⟨v', r1, r2⟩ := run_part (E := E) (V := V) (off := off) hz (by simp [hagg]) h.1 h.2.2 l1 (fun _ => hone rfl) w
    refine ⟨v', r1, ?_⟩
    unfold PartRel at r2
    rw [hagg] at r2
    obtain ⟨y, k1, k2⟩ := r2
    rw [← hsp'] at k1; cases k1; exact k2

theorem index_sim {t : TypeId} {y j : Operand} {io : IOp} {v : AV} (hf : FRel E V fr a.tmps) (hm : mIndex E t y j io = true) (hp : pop fr io = some v) :
    ∃ v', (Instr.index t (a.eval y) (a.eval j)).run E.P V.w = .ok v' V.w ∧ VRel E V v v' := by
  unfold mIndex at hm
  split at hm
  · rename_i x i
    simp only [Bool.and_eq_true] at hm
    obtain ⟨⟨hx, hi⟩, hu⟩ := hm
    split at hu
    · rename_i hu'
      simp only [pop] at hp
      split at hp
      · rename_i s k n hs hn
        obtain ⟨b, e1, hb⟩ := (opd_rel hf hx hs).str_inv
        have e2 := (opd_rel hf hi hn).int_inv
        rw [e1, e2]
        split at hp
        · rename_i h0
          split at hp
          · rename_i c hc
            cases hp
            refine ⟨.int .u8 c.toNat, ?_, .int _ _⟩
            have : b[n.toNat]? = some c := by
              rw [← hb] at hc
              have h1 : n.toNat < b.size := by
                rcases Nat.lt_or_ge n.toNat b.data.toList.length with h | h
                · exact h
                · rw [List.getElem?_eq_none h] at hc; cases hc
              rw [getElem?_pos b n.toNat h1]
              rw [List.getElem?_eq_getElem (by exact h1)] at hc
              exact hc
            simp only [Instr.index, Sem.run_bind, asIntOf, Sem.run_pure, Result.andThen_ok, run_underlying hu', h0, if_true, this]
          · cases hp
        · cases hp
      · cases hp
    · cases hu
  · rename_i x i len esz agg
    simp only [Bool.and_eq_true] at hm
    obtain ⟨⟨hx, hi⟩, hu⟩ := hm
    split at hu
    · rename_i n e hu'
      simp only [Bool.and_eq_true, beq_iff_eq] at hu
      obtain ⟨rfl, hct⟩ := hu
      obtain ⟨hz, hagg, hone⟩ := cellT_spec hct
      simp only [pop] at hp
      split at hp
      · rename_i cs k m hs hn
        obtain ⟨vs, e1, h1, h2, h3⟩ := (opd_rel hf hx hs).agg_inv
        have e2 := (opd_rel hf hi hn).int_inv
        rw [e1, e2]
        split at hp
        · rename_i hc
          split at hp
          · rename_i cs' hsp
            obtain ⟨v', r1, r2⟩ := part_val (E := E) (V := V) hct ⟨h1, h2, h3⟩ hsp hp V.w
            refine ⟨v', ?_, r2⟩
            have hc' : 0 ≤ m ∧ m < (n : Int) := hc
            simp only [Instr.index, Sem.run_bind, asIntOf, Sem.run_pure, Result.andThen_ok, run_underlying hu', hc', and_self, if_true, run_sizeOf' hz, r1]
          · cases hp
        · cases hp
      · cases hp
    · cases hu
  · cases hm

end
end Go.Proofs.YtleommjdeejmkaaGreatDoor.Zq

namespace Go.Proofs.YtleommjdeejmkaaGreatDoor.Zq
open Go Go.RowKit

section
variable {E : Env} {V : Vw} {fr : List AV} {a : Act} {base : World}

theorem sem_val {s : Sem Value} {v : Value} {w w' : World} (h : s.run E.P w = .ok v w') : (do pure (Next.value (← s)) : Sem Next).run E.P w = .ok (.value v) w' := by
  simp [h]

theorem OpOk.grow {s : Sem Next} {v : AV} {v' : Value} {o : Obj} (hw : WRel E base V) (h : s.run E.P V.w = .ok (.value v') (V.w.alloc o)) (hv : VRel E { V with w := V.w.alloc o } v v') : OpOk E base V s v V.S :=
  ⟨_, V.w.alloc o, V.μ, v', h, .inl rfl, Later.grow V o, hw.grow o, hv⟩

theorem eqN_ptr (d : Nat) {t el : TypeId} (h : E.P.underlying t = some (.pointer el)) (q : Option Addr) (w : World) : (Op.equalIn (d + 1) t (.pointer q) (.pointer none)).run E.P w = .ok q.isNone w := by
  cases q <;> simp [Op.equalIn, run_underlying h]
theorem eqN_map (d : Nat) {t k el : TypeId} (h : E.P.underlying t = some (.map k el)) (q : Option Nat) (w : World) : (Op.equalIn (d + 1) t (.map q) (.map none)).run E.P w = .ok q.isNone w := by
  cases q <;> simp [Op.equalIn, run_underlying h]
theorem eqN_func0 (d : Nat) {t : TypeId} {p q : Array TypeId} {r : Bool} (h : E.P.underlying t = some (.func p q r)) (w : World) : (Op.equalIn (d + 1) t .nilFunc .nilFunc).run E.P w = .ok true w := by
  simp [Op.equalIn, run_underlying h]
theorem eqN_func1 (d : Nat) {t : TypeId} {p q : Array TypeId} {r : Bool} (h : E.P.underlying t = some (.func p q r)) (f : Fn) (x y : Array Value) (w : World) : (Op.equalIn (d + 1) t (.func f x y) .nilFunc).run E.P w = .ok false w := by
  simp [Op.equalIn, run_underlying h]
theorem eqN_if0 (d : Nat) {t : TypeId} {ms : Array (String × TypeId)} (h : E.P.underlying t = some (.interface ms)) (w : World) : (Op.equalIn (d + 1) t .nilIface .nilIface).run E.P w = .ok true w := by
  simp [Op.equalIn, run_underlying h]
theorem eqN_if1 (d : Nat) {t : TypeId} {ms : Array (String × TypeId)} (h : E.P.underlying t = some (.interface ms)) (u : TypeId) (x : Value) (w : World) : (Op.equalIn (d + 1) t (.iface u x) .nilIface).run E.P w = .ok false w := by
  simp [Op.equalIn, run_underlying h]

theorem eqN_sl (d : Nat) {t e : TypeId} (h : E.P.underlying t = some (.slice e)) (p : Option Addr) (n c : Nat) (w : World) : (Op.equalIn (d + 1) t (.slice p n c) (.slice none 0 0)).run E.P w = .ok p.isNone w := by
  cases p <;> simp [Op.equalIn, run_underlying h]

theorem bin_sim (hw : WRel E base V) (hf : FRel E V fr a.tmps) {op : BinOp} {t : TypeId} {x y : Operand} {io : IOp} {v : AV} (hm : mBin E op t x y io = true) (hp : pop fr io = some v) :
    ∃ v', (do eqGuard op t x y (a.eval x) (a.eval y); binOp op t (a.eval x) (a.eval y) : Sem Value).run E.P V.w = .ok v' V.w ∧ VRel E V v v' := by
  unfold mBin at hm
  split at hm
  · rename_i op' x' y'
    simp only [Bool.and_eq_true, beq_iff_eq] at hm
    obtain ⟨⟨rfl, hx⟩, hy⟩ := hm
    simp only [pop] at hp
    split at hp
    · rename_i u w hu hww
      obtain ⟨v', r1, r2, r3, r4⟩ := abin_run (E := E) (V := V) t hp (opd_rel hf hx hu) (opd_rel hf hy hww)
      refine ⟨v', ?_, r2⟩
      rw [eqGuard_pure _ _ _ _ _ _ r3 r4]
      simp [r1]
    · cases hp
  · rename_i neg x' y'
    simp only [Bool.and_eq_true, beq_iff_eq] at hm
    obtain ⟨⟨⟨hop, hx⟩, hy⟩, hu⟩ := hm
    split at hu
    · rename_i hu'
      simp only [pop] at hp
      split at hp
      · rename_i b c hb hc
        cases hp
        have e1 := (opd_rel hf hx hb).bool_inv
        have e2 := (opd_rel hf hy hc).bool_inv
        rw [e1, e2, eqGuard_pure _ _ _ _ _ _ (by simp) (by simp)]
        subst hop
        have hb := run_equal_bool V.w t b c hu'
        cases neg
        · exact ⟨.bool (b == c), by simp [binOp, hb], .bool _⟩
        · exact ⟨.bool !(b == c), by simp [binOp, hb], .bool _⟩
      · cases hp
    · cases hu
  · rename_i ks neg x' y'
    simp only [Bool.and_eq_true, beq_iff_eq] at hm
    obtain ⟨⟨⟨hop, hx⟩, hy⟩, hfl⟩ := hm
    simp only [isFlat, Bool.and_eq_true, beq_iff_eq, Bool.not_eq_true'] at hfl
    obtain ⟨⟨hagg, hfl⟩, hg⟩ := hfl
    simp only [pop] at hp
    split at hp
    · rename_i cx cy hcx hcy
      split at hp
      · rename_i e he
        cases hp
        obtain ⟨us, e1, h1, h2, h3⟩ := (opd_rel hf hx hcx).agg_inv
        obtain ⟨ws, e2, h4, h5, h6⟩ := (opd_rel hf hy hcy).agg_inv
        rw [e1, e2]
        have heq := (flat_eq (V := V) 8 t ks hfl).2 10000 (by omega) cx cy e (.agg us) (.agg ws) V.w he (by unfold PartRel; rw [hagg]; exact ⟨us, rfl, h1, h3⟩) (by unfold PartRel; rw [hagg]; exact ⟨ws, rfl, h4, h6⟩)
        subst hop
        have hguard := run_eqGuard_agg (P := E.P) V.w (if neg = true then .neq else .eql) t x y us ws hg
        cases neg
        · exact ⟨.bool e, by simp only [Bool.false_eq_true, if_false] at hguard ⊢; simp only [Sem.run_bind, hguard, Result.andThen_ok, run_eql_struct, heq], .bool _⟩
        · exact ⟨.bool !e, by simp only [if_true] at hguard ⊢; simp only [Sem.run_bind, hguard, Result.andThen_ok, run_neq_struct, heq], .bool _⟩
      · cases hp
    · cases hp
  · rename_i kd neg x'
    simp only [Bool.and_eq_true, beq_iff_eq] at hm
    obtain ⟨⟨hop, hx⟩, hu⟩ := hm
    have cases4 : (∃ e, E.P.underlying t = some (.pointer e) ∧ y = .const (.pointer none) ∧ kd = 0) ∨ (∃ k e, E.P.underlying t = some (.map k e) ∧ y = .const (.map none) ∧ kd = 1) ∨
        (∃ p q r, E.P.underlying t = some (.func p q r) ∧ y = .const .nilFunc ∧ kd = 2) ∨ (∃ ms, E.P.underlying t = some (.interface ms) ∧ y = .const .nilIface ∧ kd = 3) ∨
        (∃ e, E.P.underlying t = some (.slice e) ∧ y = .const (.slice none 0 0) ∧ kd = 4) := by
      split at hu
      · exact .inl ⟨_, ‹_›, rfl, by simpa using hu⟩
      · exact .inr (.inl ⟨_, _, ‹_›, rfl, by simpa using hu⟩)
      · exact .inr (.inr (.inl ⟨_, _, _, ‹_›, rfl, by simpa using hu⟩))
      · exact .inr (.inr (.inr (.inl ⟨_, ‹_›, rfl, by simpa using hu⟩)))
      · exact .inr (.inr (.inr (.inr ⟨_, ‹_›, rfl, by simpa using hu⟩)))
      · cases hu
    clear hu
    simp only [pop] at hp
    split at hp
    · rename_i u hu0
      split at hp
      · rename_i e he
        cases hp
        have hv := opd_rel hf hx hu0
        have fin : ∀ (ux uy : Value), a.eval x = ux → a.eval y = uy → (Op.equal t ux uy).run E.P V.w = .ok e V.w → (eqGuard op t x y ux uy).run E.P V.w = .ok () V.w →
            (do pure (Value.bool (← Op.equal t ux uy)) : Sem Value) = binOp .eql t ux uy → (do pure (Value.bool (!(← Op.equal t ux uy))) : Sem Value) = binOp .neq t ux uy →
            ∃ v', (do eqGuard op t x y (a.eval x) (a.eval y); binOp op t (a.eval x) (a.eval y) : Sem Value).run E.P V.w = .ok v' V.w ∧ VRel E V (.bool (if neg = true then !e else e)) v' := by
          intro ux uy ex ey h1 h2 h3 h4
          refine ⟨.bool (if neg = true then !e else e), ?_, .bool _⟩
          rw [ex, ey]
          simp only [Sem.run_bind, h2, Result.andThen_ok]
          subst hop
          cases neg
          · simp only [Bool.false_eq_true, if_false]; rw [← h3]; simp only [Sem.run_bind, h1, Result.andThen_ok, Sem.run_pure]
          · simp only [if_true]; rw [← h4]; simp only [Sem.run_bind, h1, Result.andThen_ok, Sem.run_pure]
        rcases cases4 with ⟨el, hul, rfl, rfl⟩ | ⟨k, el, hul, rfl, rfl⟩ | ⟨p, q, r, hul, rfl, rfl⟩ | ⟨ms, hul, rfl, rfl⟩ | ⟨el, hul, rfl, rfl⟩
        · have key : ∀ q, a.eval x = .pointer q → e = q.isNone → _ := fun q hq he' => fin (.pointer q) (.pointer none) hq rfl
            (by rw [he']; exact eqN_ptr 9999 hul q V.w)
            (by rw [eqGuard_pure _ _ _ _ _ _ (fun _ h => by cases h) (fun h => by cases h)]; rfl) rfl rfl
          obtain ⟨ux, hxx⟩ : ∃ ux, a.eval x = ux := ⟨_, rfl⟩
          rw [hxx] at hv
          cases hv <;> simp only [isNil, Option.some.injEq] at he <;> first
            | (cases he; done)
            | exact key _ hxx (by subst he; rfl)
        · have key : ∀ q, a.eval x = .map q → e = q.isNone → _ := fun q hq he' => fin (.map q) (.map none) hq rfl
            (by rw [he']; exact eqN_map 9999 hul q V.w)
            (by rw [eqGuard_pure _ _ _ _ _ _ (fun _ h => by cases h) (fun h => by cases h)]; rfl) rfl rfl
          obtain ⟨ux, hxx⟩ : ∃ ux, a.eval x = ux := ⟨_, rfl⟩
          rw [hxx] at hv
          cases hv <;> simp only [isNil, Option.some.injEq] at he <;> first
            | (cases he; done)
            | exact key _ hxx (by subst he; rfl)
        · obtain ⟨ux, hxx⟩ : ∃ ux, a.eval x = ux := ⟨_, rfl⟩
          rw [hxx] at hv
          cases hv <;> simp only [isNil, Option.some.injEq] at he <;> first
            | (cases he; done)
            | exact fin _ .nilFunc hxx rfl
                (by subst he; first | exact eqN_func0 9999 hul V.w | exact eqN_func1 9999 hul _ _ _ V.w)
                (by rw [eqGuard_pure _ _ _ _ _ _ (fun _ h => by cases h) (fun h => by cases h)]; rfl) rfl rfl
        · obtain ⟨ux, hxx⟩ : ∃ ux, a.eval x = ux := ⟨_, rfl⟩
          rw [hxx] at hv
          cases hv <;> simp only [isNil, Option.some.injEq] at he <;> first
            | (cases he; done)
            | exact fin _ .nilIface hxx rfl
                (by subst he; first | exact eqN_if0 9999 hul V.w | exact eqN_if1 9999 hul _ _ V.w)
                (by cases op <;> cases x <;> rfl) rfl rfl
        · have key : ∀ p n c, a.eval x = .slice p n c → e = p.isNone → _ := fun p n c hq he' => fin (.slice p n c) (.slice none 0 0) hq rfl
            (by rw [he']; exact eqN_sl 9999 hul p n c V.w)
            (by rw [eqGuard_pure _ _ _ _ _ _ (fun _ h => by cases h) (fun h => by cases h)]; rfl) rfl rfl
          obtain ⟨ux, hxx⟩ : ∃ ux, a.eval x = ux := ⟨_, rfl⟩
          rw [hxx] at hv
          cases hv <;> simp only [isNil, Option.some.injEq] at he <;> first
            | (cases he; done)
            | exact key _ _ _ hxx (by subst he; first | rfl | (rename_i h; exact h.symm))
      · cases hp
    · cases hp
  · cases hm

end
end Go.Proofs.YtleommjdeejmkaaGreatDoor.Zq
