/-
  The abstract machine's append, held against the program's: the whole of it.
  The abstract machine's operations that write the store, held against the program's: the whole of them.
  The abstract machine's operations other than calls, held against the program's: one theorem.
  Conditions: none but those that each theorem names.
-/
import Derived.Test.YtleommjdeejmkaaGreatDoorZMd
import Derived.IntWalk
set_option linter.all false

namespace Go.Proofs.YtleommjdeejmkaaGreatDoor.Zq
open Go Go.RowKit

section
variable {E : Env} {V : Vw} {fr : List AV} {a : Act} {base : World}

theorem app_fits {old need bytes : Nat} (h : old < need) (hb : need * bytes ≤ 140737488355328) (hb0 : bytes ≠ 0) : Builtin.nextslicecap need old * bytes ≤ 281474976710656 ∧ need ≤ 140737488355328 := by
  refine ⟨growslice_fits h hb, ?_⟩
  have : need * 1 ≤ need * bytes := Nat.mul_le_mul_left need (by omega)
  omega

/-- The rows of a live slice that an append takes over. -/
theorem olds_sim (hw : WRel E base V) {r ver z off len : Nat} {u : Value} {rows : List (List AV)} (hz : z ≠ 0) (h : VRel E V (.msl r ver z off len) u) (hr : cellsAt V.S r ver = some rows) (hle : off + len = rows.length) :
    ∃ b o cap olds, u = .slice (some ⟨b, o, none⟩) len cap ∧ len ≤ cap ∧ (V.μ r).esz = z ∧ off + cap ≤ (V.μ r).cap ∧ (cap = 0 ∨ b = (V.μ r).blk ∧ o = (V.μ r).base + off * z) ∧ Takes E V z (rows.drop off) olds ∧
      ∀ w : World, w.heap = V.w.heap → (Builtin.firstCells z len (.slice (some ⟨b, o, none⟩) len cap)).run E.P w = .ok olds.toArray w := by
  obtain ⟨b, o, cap, hu, hb, hlc, hall⟩ := msl_inv h
  obtain ⟨q1, q2, q3, q4⟩ := hall rows hr
  have hd : rows.drop off = (rows.drop off).take len := by rw [List.take_of_length_le (by simp; omega)]
  obtain ⟨b', o', cap', hu', hl', _, hra⟩ := msl_rows hw h hr (by omega) hd
  rw [hu] at hu'
  simp only [Value.slice.injEq, Option.some.injEq, Addr.mk.injEq, and_true] at hu'
  obtain ⟨⟨rfl, rfl⟩, _, rfl⟩ := hu'
  obtain ⟨olds, n1, n2, n3, n4⟩ := flat_cells hz hra
  have hrz : ∀ (i : Nat) (row : List AV), (rows.drop off)[i]? = some row → row.length = z := by
    by_cases hne : rows.drop off = []
    · rw [hne]; simp
    · exact (hra hne).elim fun _ h => by obtain ⟨_, _, _, h2, _⟩ := h; exact h2
  refine ⟨b, o, cap, olds, hu, hlc, q1, q3, q4, ⟨n1, n3, hrz, n4⟩, fun w hw' => ?_⟩
  refine firstCells_rows w (by rw [n1, hl']) fun k u hk => ?_
  rw [← n2 k u hk]; simp [World.cell?, hw']

theorem alloc_at (w : World) (o : Obj) : (w.alloc o).heap[w.heap.size]? = some o := by
  show (w.heap.push o)[w.heap.size]? = _; simp

theorem set_same {α : Type} {l : List α} {i : Nat} {x : α} (h : l[i]? = some x) : l.set i x = l := by
  apply List.ext_getElem?
  intro j
  by_cases hj : i = j
  · subst hj; rw [List.getElem?_set_self (get_lt h), h]
  · rw [List.getElem?_set_ne hj]

/-- The rows of an object with some laid anew. -/
theorem rows_over {rows xs : List (List AV)} {k : Nat} (h : k + xs.length ≤ rows.length) : (rows.take k ++ xs ++ rows.drop (k + xs.length)).length = rows.length ∧
    (∀ i, i < k → (rows.take k ++ xs ++ rows.drop (k + xs.length))[i]? = rows[i]?) ∧ (∀ i, i < xs.length → (rows.take k ++ xs ++ rows.drop (k + xs.length))[k + i]? = xs[i]?) ∧
    (∀ i, k + xs.length ≤ i → (rows.take k ++ xs ++ rows.drop (k + xs.length))[i]? = rows[i]?) := by
  have hk : (rows.take k).length = k := by simp; omega
  refine ⟨by simp; omega, fun i hi => ?_, fun i hi => ?_, fun i hi => ?_⟩
  · rw [List.append_assoc, List.getElem?_append_left (by omega), List.getElem?_take_of_lt hi]
  · rw [List.append_assoc, List.getElem?_append_right (by omega), hk, show k + i - k = i by omega, List.getElem?_append_left hi]
  · rw [List.getElem?_append_right (by simp; omega), List.getElem?_drop]
    congr 1; simp; omega

/-- Cells taken over, where they have been written. -/
theorem Takes.at {V' : Vw} {z : Nat} {xs : List (List AV)} {news : List Value} (h : Takes E V' z xs news) {cs : Array Value} {o : Nat} (hs : o + news.length ≤ cs.size) :
    ∀ (i j : Nat) (row : List AV) (x : AV), xs[i]? = some row → row[j]? = some x → ∃ v, (wr cs o news)[o + i * z + j]? = some v ∧ Zq.one v = true ∧ VRel E V' x v := by
  intro i j row x hi hj
  obtain ⟨h1, u, h2, h3⟩ := h.get i j row x hi hj
  exact ⟨u, by rw [Nat.add_assoc]; exact wr_in _ _ _ _ _ hs h2, h.one u (List.mem_of_getElem? h2), h3⟩

theorem app_sim (hw : WRel E base V) {t tx ty e : TypeId} {sz bytes : Nat} {i : TypeInfo} {zv : Value} {s x v : AV} {u w : Value} {S' : List AObj} (hz0 : sz ≠ 0) (ht : E.P.underlying t = some (.slice e)) (hi : E.P.info? e = some i) (hsz : i.size = sz) (hby : i.bytes = bytes) (hb0 : bytes ≠ 0)
    (hzv : i.zero = some zv) (hzs : zv.cells.size = sz) (hk : (∃ e', E.P.underlying tx = some (.slice e')) ∨ E.P.underlying tx = some .string) (hs : VRel E V s u) (hx : VRel E V x w) (h : aapp V.S sz bytes s x = some (v, S')) :
    ∃ v' w' μ', (Builtin.append_ #[t, tx] ty #[u, w]).run E.P V.w = .ok v' w' ∧ Later V { w := w', μ := μ', S := S', X := V.X } ∧ WRel E base { w := w', μ := μ', S := S', X := V.X } ∧ VRel E { w := w', μ := μ', S := S', X := V.X } v v' := by
  unfold aapp at h
  cases hax : appRows V.S sz x with
  | none => simp [hax] at h
  | some xs =>
  rw [hax] at h
  simp only at h
  obtain ⟨news, hsrc0, htk⟩ := src_sim hw hz0 hk hx hax
  have hsrcI : Src E.P i.size tx w xs.length news V.w := by rw [hsz]; exact hsrc0
  have nothing : ∀ {p : Option Addr} {len cap : Nat}, xs = [] → len ≤ cap → (Builtin.append_ #[t, tx] ty #[.slice p len cap, w]).run E.P V.w = .ok (.slice p len cap) V.w := by
    intro p len cap hxs hlc
    subst hxs
    have hn : news = [] := by have := htk.len; simpa using this
    subst hn
    exact run_append_nothing V.w t tx ty e i ht hi p len cap hlc w hsrcI
  -- a new row of memory
  have grow : ∀ {p : Option Addr} {len cap : Nat} {olds : List Value} {rs : List (List AV)}, Takes E V sz rs olds → rs.length = len → (∀ w' : World, w'.heap = V.w.heap → (Builtin.firstCells sz len (.slice p len cap)).run E.P w' = .ok olds.toArray w') →
      cap < len + xs.length → (len + xs.length) * bytes ≤ 140737488355328 →
      ∃ (c : Nat) (tail : Array Value), len + xs.length ≤ c ∧ c * sz ≤ ((olds ++ news).toArray ++ tail).size ∧
        (Builtin.append_ #[t, tx] ty #[.slice p len cap, w]).run E.P V.w = .ok (.slice (some ⟨V.w.heap.size, 0, none⟩) (len + xs.length) c) (V.w.drew.alloc (.cells ((olds ++ news).toArray ++ tail) e)) := by
    intro p len cap olds rs hot hrl hold hlt hbb
    obtain ⟨hf, h63⟩ := app_fits hlt hbb hb0
    have := run_append_grow_src V.w t tx ty e i zv ht hi hzv p len cap olds (by rw [hsz]; exact hold V.w.drew rfl) w xs.length news hsrcI hlt (by omega) (by rw [hby]; exact hf)
    refine ⟨grownCap V.w (len + xs.length) cap e, _, grownCap_ge _ _ _ _, ?_, this⟩
    have g1 := grownCap_ge V.w (len + xs.length) cap e
    rw [Array.size_append, size_zeroCells, hzs]
    simp only [List.size_toArray, List.length_append, hot.len, htk.len, hrl]
    rw [← Nat.add_mul, ← Nat.add_mul]
    exact Nat.mul_le_mul_right _ (by omega)
  split at h
  · -- onto a slice of capacity 0
    cases hs with
    | zsl bb p hbb0 =>
      split at h
      · rename_i hxs
        cases h
        exact ⟨_, V.w, V.μ, nothing hxs (Nat.le_refl _), Later.refl _, hw, .zsl _ p hbb0⟩
      · rename_i hxs
        split at h
        · rename_i hbb
          cases h
          have hpos : 0 < xs.length := List.length_pos_iff.2 hxs
          obtain ⟨c, tail, c1, c2, c3⟩ := grow (p := p) (len := 0) (cap := 0) (olds := []) (rs := []) ⟨by simp, by simp, by simp, by simp⟩ rfl (fun w' _ => firstCells_none w') (by omega) (by simpa using hbb)
          simp only [Nat.zero_add, List.nil_append] at c1 c2 c3
          obtain ⟨h1, h2, h3⟩ := new_sim (ph := none) (o := .cells 0 xs) (r := V.S.length) (S' := V.S ++ [.cells 0 xs]) (w' := V.w.drew.alloc (.cells (news.toArray ++ tail) e)) (ℓ := ⟨V.w.heap.size, 0, sz, c⟩) hw rfl (.inl ⟨_, rfl⟩) rfl ⟨rfl, rfl, rfl⟩ rfl
            (fun hl => (htk.later hl).orel (alloc_at V.w.drew _) c1 c2)
          refine ⟨_, _, _, c3, h1, h2, .msl _ _ _ _ _ _ _ _ ?_ c1 (fun rows hr => ?_)⟩
          · simp only; rw [bound_of h3]; simp [boundO]
          · have := cellsAt_get hr
            simp only at this
            rw [h3] at this; cases this
            refine ⟨by simp [updμ], by simpa using c1, by simp [updμ], .inr ⟨by simp [updμ], by simp [updμ]⟩⟩
        · cases h
  · split at h
    · rename_i hxs
      cases h
      obtain ⟨p, cap, rfl, hl, hr⟩ := sl_rows hs
      exact ⟨_, V.w, V.μ, nothing hxs hl, Later.refl _, hw, hs⟩
    · cases h
  · rename_i r ver z off len
    split at h
    · cases h
    · rename_i hzz
      simp only [ne_eq, Decidable.not_not] at hzz
      subst hzz
      split at h
      · rename_i rows hr
        split at h
        · -- within what is there
          rename_i hroom
          cases h
          obtain ⟨b, o, cap, rfl, hb, hlc, hall⟩ := msl_inv hs
          obtain ⟨q1, q2, q3, q4⟩ := hall rows hr
          by_cases hxs : xs = []
          · subst hxs
            have hsame : V.S.set r (.cells ver (rows.take (off + len) ++ [] ++ rows.drop (off + len + ([] : List (List AV)).length))) = V.S := by
              rw [show rows.take (off + len) ++ [] ++ rows.drop (off + len + ([] : List (List AV)).length) = rows by simp]
              exact set_same (cellsAt_get hr)
            rw [hsame]
            exact ⟨_, V.w, V.μ, nothing rfl hlc, Later.refl _, hw, hs⟩
          · have hpos : 0 < xs.length := List.length_pos_iff.2 hxs
            obtain ⟨hb1, ho1⟩ := q4.resolve_left (by omega)
            subst hb1; subst ho1
            obtain ⟨cs, e', lo, hi', hblk, hfz, hcap, hle, hrz, hcell⟩ := cells_obj hw hr
            obtain ⟨l1, l2, l3, l4⟩ := rows_over hroom
            have hend : (V.μ r).base + (off + len) * z + news.length ≤ cs.size := by
              have : (off + len + xs.length) * z ≤ (V.μ r).cap * z := Nat.mul_le_mul_right z (by omega)
              rw [Nat.add_mul] at this
              rw [htk.len]
              have := q1 ▸ hcap
              omega
            have hpos1 : (V.μ r).base + off * z + len * i.size = (V.μ r).base + (off + len) * z := by rw [hsz, Nat.add_mul]; omega
            have hrun := run_append_room_src V.w t tx ty e i ht hi (V.μ r).blk ((V.μ r).base + off * z) len cap w xs.length news hsrcI (by omega)
              (fun j hj => by rw [hpos1, cell_at hblk]; simp; omega)
              (fun j hj => by rw [hpos1]; simp [World.frozen?, hblk]; omega)
            rw [hpos1, setCells_setB news _ cs V.w hblk] at hrun
            obtain ⟨h1, h2⟩ := write_sim (E := E) (base := base) hw (rows' := rows.take (off + len) ++ xs ++ rows.drop (off + len + xs.length)) (cs' := wr cs ((V.μ r).base + (off + len) * z) news) hr hblk hfz hcap l1 hle (wr_size _ _ _)
              (fun k row hk => by
                rw [q1]
                rcases Nat.lt_or_ge k (off + len) with hlt | hge
                · rw [l2 k hlt] at hk; rw [← q1]; exact hrz k row hk
                · rcases Nat.lt_or_ge k (off + len + xs.length) with hlt' | hge'
                  · obtain ⟨m, rfl⟩ : ∃ m, k = off + len + m := ⟨k - (off + len), by omega⟩
                    rw [l3 m (by omega)] at hk; exact htk.rows m row hk
                  · rw [l4 k hge'] at hk; rw [← q1]; exact hrz k row hk)
              (fun hl k j row x hk hj => by
                rw [q1]
                have hold : rows[k]? = some row → (k < off + len ∨ off + len + xs.length ≤ k) → ∃ v, (wr cs ((V.μ r).base + (off + len) * z) news)[(V.μ r).base + k * z + j]? = some v ∧ one v = true ∧ VRel E V x v := by
                  intro hk' hd
                  obtain ⟨v, v1, v2, v3⟩ := hcell k j row x hk' hj
                  have hjz : j < z := by have := get_lt hj; rw [hrz k row hk', q1] at this; exact this
                  refine ⟨v, ?_, v2, v3⟩
                  rw [wr_out _ _ _ _ ?_, ← q1]; exact v1
                  rcases hd with hd | hd
                  · left
                    have := Nat.mul_le_mul_right z (Nat.succ_le_of_lt hd)
                    rw [Nat.succ_mul] at this; omega
                  · right
                    have := Nat.mul_le_mul_right z hd
                    rw [Nat.add_mul (off + len)] at this; rw [htk.len]; omega
                rcases Nat.lt_or_ge k (off + len) with hlt | hge
                · obtain ⟨v, v1, v2, v3⟩ := hold (by rw [← l2 k hlt]; exact hk) (.inl hlt)
                  exact ⟨v, v1, v2, v3.later hl⟩
                · rcases Nat.lt_or_ge k (off + len + xs.length) with hlt' | hge'
                  · obtain ⟨m, rfl⟩ : ∃ m, k = off + len + m := ⟨k - (off + len), by omega⟩
                    rw [l3 m (by omega)] at hk
                    have := (htk.later hl).at (cs := cs) (o := (V.μ r).base + (off + len) * z) hend m j row x hk hj
                    rwa [Nat.add_mul (off + len) m, ← Nat.add_assoc]
                  · obtain ⟨v, v1, v2, v3⟩ := hold (by rw [← l4 k hge']; exact hk) (.inr hge')
                    exact ⟨v, v1, v2, v3.later hl⟩)
            refine ⟨_, _, _, hrun, h1, h2, .msl _ _ _ _ _ _ _ _ (by simpa [bound_of (cellsAt_get hr), boundO, bound, get_lt (cellsAt_get hr)] using Nat.lt_succ_self ver) (by omega) (fun rows'' hr'' => ?_)⟩
            have := cellsAt_get hr''
            simp only [List.getElem?_set_self (get_lt (cellsAt_get hr)), Option.some.injEq, AObj.cells.injEq, true_and] at this
            subst this
            refine ⟨by simp [updμ, q1], by omega, by simp [updμ]; omega, .inr ⟨by simp [updμ], by simp [updμ]⟩⟩
        · -- at the end of what is there
          split at h
          · rename_i hnroom hcond
            obtain ⟨hend, hbb⟩ := hcond
            cases h
            have hpos : 0 < xs.length := by omega
            obtain ⟨b, o, cap, olds, rfl, hlc, q1, q3, q4, hot, hold⟩ := olds_sim hw hz0 hs hr hend
            obtain ⟨cs, e', lo, hi', hblk, hfz, hcap, hle, hrz, hcell⟩ := cells_obj hw hr
            have hdl : (rows.drop off).length = len := by simp; omega
            have hput : Put V.S r (.cells (ver + 1) (rows.drop off ++ xs)) (V.S.set r (.cells (ver + 1) (rows.drop off ++ xs))) := .set (get_lt (cellsAt_get hr))
            have hcl : ∀ ℓ, claims V r (.cells (ver + 1) (rows.drop off ++ xs)) ℓ := fun ℓ => by
              have := bound_of (cellsAt_get hr)
              simp only [boundO] at this
              exact ⟨by omega, .inl (by omega)⟩
            have hfin : ∀ (w' : World) (ℓ : Loc) (b' o' cap' : Nat), ℓ.esz = z → len + xs.length ≤ cap' → cap' ≤ ℓ.cap → b' = ℓ.blk → o' = ℓ.base →
                VRel E { w := w', μ := updμ V.μ r ℓ, S := V.S.set r (.cells (ver + 1) (rows.drop off ++ xs)), X := V.X } (.msl r (ver + 1) z 0 (len + xs.length)) (.slice (some ⟨b', o', none⟩) (len + xs.length) cap') := by
              intro w' ℓ b' o' cap' f1 f2 f3 f4 f5
              refine .msl _ _ _ _ _ _ _ _ (by simp [bound, get_lt (cellsAt_get hr)]) f2 (fun rows'' hr'' => ?_)
              have := cellsAt_get hr''
              simp only [List.getElem?_set_self (get_lt (cellsAt_get hr)), Option.some.injEq, AObj.cells.injEq, true_and] at this
              subst this
              refine ⟨by simp [updμ, f1], by simp [hdl]; omega, by simp [updμ]; omega, .inr ⟨by simp [updμ, f4], by simp [updμ, f5]⟩⟩
            by_cases hroom : len + xs.length ≤ cap
            · -- there is room behind it
              obtain ⟨hb1, ho1⟩ := q4.resolve_left (by omega)
              subst hb1; subst ho1
              have hcz : (off + cap) * z ≤ (V.μ r).cap * z := Nat.mul_le_mul_right z q3
              rw [q1] at hcap
              have hlz : (len + xs.length) * z ≤ cap * z := Nat.mul_le_mul_right z hroom
              rw [Nat.add_mul] at hcz hlz
              have hendc : (V.μ r).base + off * z + len * z + news.length ≤ cs.size := by rw [htk.len]; omega
              have hrun := run_append_room_src V.w t tx ty e i ht hi (V.μ r).blk ((V.μ r).base + off * z) len cap w xs.length news hsrcI hroom
                (fun j hj => by rw [hsz, cell_at hblk]; simp; omega)
                (fun j hj => by rw [hsz]; simp [World.frozen?, hblk]; omega)
              rw [hsz, setCells_setB news _ cs V.w hblk] at hrun
              have hsz' : V.w.heap.size ≤ (setB V.w (V.μ r).blk (.cells (wr cs ((V.μ r).base + off * z + len * z) news) e' (lo, hi'))).heap.size := by rw [setB_size]; exact Nat.le_refl _
              have hwb : ∀ b, b < V.w.heap.size → b ≠ (V.μ r).blk → (setB V.w (V.μ r).blk (.cells (wr cs ((V.μ r).base + off * z + len * z) news) e' (lo, hi'))).heap[b]? = V.w.heap[b]? := fun b _ hne => setB_other hne
              have hbb' : (live V.S r ∧ (V.μ r).blk = (V.μ r).blk) ∨ V.w.heap.size ≤ (V.μ r).blk := .inl ⟨live_of (cellsAt_get hr) rfl, rfl⟩
              have h1 := Later.upd (ℓ := ⟨(V.μ r).blk, (V.μ r).base + off * z, z, cap⟩) hput (hcl _) hsz' hwb hbb'
              have h2 := hw.upd (ℓ := ⟨(V.μ r).blk, (V.μ r).base + off * z, z, cap⟩) hput (hcl _) hsz' hwb hbb' (setB_st _ _ _) (fun hl => by
                refine ⟨_, e', lo, hi', setB_same (lt_of_block hblk), by rw [wr_size]; exact hfz, by rw [wr_size]; simp only; omega, by simp [hdl]; omega, fun k row hk => ?_, fun k j row x hk hj => ?_⟩
                · exact (hot.append htk).rows k row hk
                · rcases Nat.lt_or_ge k len with hlt | hge
                  · rw [List.getElem?_append_left (by omega)] at hk
                    have hk' : rows[off + k]? = some row := by rwa [List.getElem?_drop] at hk
                    obtain ⟨v, v1, v2, v3⟩ := hcell (off + k) j row x hk' hj
                    have hjz : j < z := by have := get_lt hj; rw [hrz _ row hk', q1] at this; exact this
                    refine ⟨v, ?_, v2, v3.later hl⟩
                    have hkz := Nat.mul_le_mul_right z (Nat.succ_le_of_lt hlt)
                    rw [Nat.succ_mul] at hkz
                    rw [wr_out _ _ _ _ (.inl (by simp only; omega))]
                    rw [q1, Nat.add_mul] at v1
                    simp only
                    rw [show (V.μ r).base + off * z + k * z + j = (V.μ r).base + (off * z + k * z) + j by omega]; exact v1
                  · obtain ⟨m, rfl⟩ : ∃ m, k = len + m := ⟨k - len, by omega⟩
                    rw [List.getElem?_append_right (by omega), hdl, show len + m - len = m by omega] at hk
                    have := (htk.later hl).at (cs := cs) (o := (V.μ r).base + off * z + len * z) hendc m j row x hk hj
                    simp only
                    rwa [Nat.add_mul len m, ← Nat.add_assoc])
              exact ⟨_, _, _, hrun, h1, h2, hfin _ _ _ _ _ rfl hroom (Nat.le_refl _) rfl rfl⟩
            · obtain ⟨c, tail, c1, c2, c3⟩ := grow (p := some ⟨b, o, none⟩) (len := len) (cap := cap) hot hdl hold (by omega) hbb
              have hsz' : V.w.heap.size ≤ (V.w.drew.alloc (.cells ((olds ++ news).toArray ++ tail) e)).heap.size := by simp
              have hwb : ∀ b, b < V.w.heap.size → b ≠ V.w.heap.size → (V.w.drew.alloc (.cells ((olds ++ news).toArray ++ tail) e)).heap[b]? = V.w.heap[b]? := fun b hb _ => Below.heap_alloc V.w.drew _ b hb
              have hbb' : (live V.S r ∧ V.w.heap.size = (V.μ r).blk) ∨ V.w.heap.size ≤ V.w.heap.size := .inr (Nat.le_refl _)
              have h1 := Later.upd (ℓ := ⟨V.w.heap.size, 0, z, c⟩) hput (hcl _) hsz' hwb hbb'
              have h2 := hw.upd (ℓ := ⟨V.w.heap.size, 0, z, c⟩) hput (hcl _) hsz' hwb hbb' ⟨rfl, rfl, rfl⟩ (fun hl => by
                exact ((hot.append htk).later hl).orel (alloc_at V.w.drew _) (by simp [hdl]; omega) c2)
              exact ⟨_, _, _, c3, h1, h2, hfin _ _ _ _ _ rfl c1 (Nat.le_refl _) rfl rfl⟩
          · cases h
      · cases h
  · cases h

end
end Go.Proofs.YtleommjdeejmkaaGreatDoor.Zq

namespace Go.Proofs.YtleommjdeejmkaaGreatDoor.Zq
open Go Go.RowKit

section
variable {E : Env} {V : Vw} {fr : List AV} {a : Act} {base : World}

theorem freeze_push (w : World) (cs : Array Value) (e : TypeId) (n : Nat) : ((w.alloc (.cells cs e)).freeze ⟨w.heap.size, n, none⟩ 1).heap = w.heap.push (.cells cs e (n, n + 1)) := by
  simp only [World.freeze, Nat.one_ne_zero, if_false]
  apply Array.ext_getElem?
  intro j
  show ((w.heap.push _).modify w.heap.size _)[j]? = _
  rw [Array.getElem?_modify, Array.getElem?_push, Array.getElem?_push]
  by_cases hj : w.heap.size = j
  · subst hj; simp
  · rw [if_neg hj]
    by_cases hj' : j = w.heap.size
    · omega
    · simp [hj']

theorem s2b_run {e : TypeId} (b : ByteArray) (w : World) : ∃ (cap : Nat) (arr : Array Value) (w' : World), (Conv.stringToBytes e b).run E.P w = .ok (.slice (some ⟨w.heap.size, 0, none⟩) b.size cap) w' ∧ b.size ≤ cap ∧ arr.size = cap ∧
    (∀ (j : Nat) (c : UInt8), b.data.toList[j]? = some c → arr[j]? = some (.int .u8 c.toNat)) ∧ w'.heap = w.heap.push (.cells arr e (cap, cap + 1)) ∧ w'.os = w.os ∧ w'.tape = w.tape ∧ w'.output = w.output := by
  have hge := grownCap_ge w b.size 0 e
  refine ⟨grownCap w b.size 0 e, (b.data.map fun (b : UInt8) => (Value.int .u8 b.toNat)) ++ Array.replicate (grownCap w b.size 0 e - b.size) (Value.int .u8 0),
    (w.drew.alloc (.cells ((b.data.map fun (b : UInt8) => (Value.int .u8 b.toNat)) ++ Array.replicate (grownCap w b.size 0 e - b.size) (Value.int .u8 0)) e)).freeze ⟨w.heap.size, grownCap w b.size 0 e, none⟩ 1, ?_, hge, ?_, ?_, ?_, ?_⟩
  · have hsz : ((b.data.map fun (b : UInt8) => (Value.int .u8 b.toNat)) ++ Array.replicate (grownCap w b.size 0 e - b.size) (Value.int .u8 0)).size = grownCap w b.size 0 e := by
      have : b.data.size = b.size := rfl
      simp [this]; omega
    simp only [Conv.stringToBytes, Sem.run_bind, run_choose, Question.forced, Bool.false_eq_true, if_false, Result.andThen_ok]
    have hcap : (Question.appendCap b.size 0 e).cut (w.tape w.drawn (.appendCap b.size 0 e)) = grownCap w b.size 0 e := rfl
    simp only [hcap, newRow, Sem.run_bind, run_newObj, Result.andThen_ok, Sem.run_pure, markStringish, run_shape, World.alloc_eq, World.drew_eq]
    have hshape : (w.drew.alloc (.cells ((b.data.map fun (b : UInt8) => (Value.int .u8 b.toNat)) ++ Array.replicate (grownCap w b.size 0 e - b.size) (Value.int .u8 0)) e)).shape? w.heap.size = some (e, grownCap w b.size 0 e) := by
      unfold World.shape?
      rw [show (w.drew.alloc (.cells ((b.data.map fun (b : UInt8) => (Value.int .u8 b.toNat)) ++ Array.replicate (grownCap w b.size 0 e - b.size) (Value.int .u8 0)) e)).heap[w.heap.size]? = _ from alloc_at w.drew _]
      simp only [hsz]
    simp only [World.size_drew]
    rw [hshape]
    simp
  · have : b.data.size = b.size := rfl
    simp [this]; omega
  · intro j c hj
    have hj' := get_lt hj
    rw [Array.getElem?_append_left (by simpa using hj'), Array.getElem?_map]
    rw [← Array.getElem?_toList, hj]; rfl
  · exact freeze_push w.drew _ e _
  · exact ⟨rfl, rfl, rfl⟩

theorem s2b_sim (hw : WRel E base V) {src dst : TypeId} {y : Operand} {x : Opd} {v : AV} {S' : List AObj} {ph : Option Nat} (hf : FRel E V fr a.tmps) (hm : mConv E src dst y (.s2b x) = true) (hp : sop ph fr V.S (.s2b x) = some (v, S')) :
    ∃ v' w' μ', (convert src dst (a.eval y)).run E.P V.w = .ok v' w' ∧ Later V { w := w', μ := μ', S := S', X := V.X } ∧ WRel E base { w := w', μ := μ', S := S', X := V.X } ∧ VRel E { w := w', μ := μ', S := S', X := V.X } v v' := by
  simp only [mConv, Bool.and_eq_true] at hm
  obtain ⟨hx, hd⟩ := hm
  split at hd
  · rename_i e hu1 hu2
    split at hd
    · rename_i hu3
      simp only [sop] at hp
      split at hp
      · rename_i s hs
        split at hp
        · rename_i hl
          cases hp
          obtain ⟨b, e1, hb⟩ := (opd_rel hf hx hs).str_inv
          subst hb
          obtain ⟨cap, arr, w', r1, r2, r3, r4, r5, r6⟩ := s2b_run (E := E) (e := e) b V.w
          have hlen : (bytesRows b.data.toList).length = b.size := by simp [bytesRows]
          obtain ⟨h1, h2, h3⟩ := new_sim (ph := none) (o := .cells 0 (bytesRows b.data.toList)) (r := V.S.length) (S' := V.S ++ [.cells 0 (bytesRows b.data.toList)]) (w' := w') (ℓ := ⟨V.w.heap.size, 0, 1, cap⟩) hw rfl (.inl ⟨_, rfl⟩) r5 r6 rfl (fun hlt => by
            refine ⟨arr, e, cap, cap + 1, by show w'.heap[V.w.heap.size]? = _; rw [r5]; simp, .inr (by omega), by simp [r3], by simp only; omega, fun i row hi => ?_, fun i j row q hi hj => ?_⟩
            · simp only [bytesRows, List.getElem?_map, Option.map_eq_some_iff] at hi
              obtain ⟨c, _, rfl⟩ := hi; rfl
            · simp only [bytesRows, List.getElem?_map, Option.map_eq_some_iff] at hi
              obtain ⟨c, hc, rfl⟩ := hi
              cases j with
              | zero =>
                simp [byteRow] at hj; subst hj
                exact ⟨.int .u8 c.toNat, by simpa using r4 i c hc, rfl, .int _ _⟩
              | succ j => simp [byteRow] at hj)
          refine ⟨.slice (some ⟨V.w.heap.size, 0, none⟩) b.size cap, _, _, ?_, h1, h2, ?_⟩
          · rw [e1]
            simp only [convert, Sem.run_bind, run_underlying hu1, run_underlying hu2, run_underlying hu3, Result.andThen_ok]
            exact r1
          · have hsl : b.data.toList.length = b.size := by rw [Array.length_toList]; rfl
            rw [hsl]
            refine .msl _ _ _ _ _ _ _ _ (by simp only; rw [bound_of h3]; simp [boundO]) r2 (fun rows hr => ?_)
            have := cellsAt_get hr
            simp only at this
            rw [h3] at this; cases this
            exact ⟨by simp [updμ], by omega, by simp [updμ], .inr ⟨by simp [updμ], by simp [updμ]⟩⟩
        · cases hp
      · cases hp
    · cases hd
  · cases hd

theorem madeCells_at (z : Array Value) (n k : Nat) (h : k < n) (hz : 0 < z.size) : (madeCells z n)[k]? = some (z.getD (k % z.size) undef) := by
  have hk : k % z.size < z.size := Nat.mod_lt _ hz
  simp only [madeCells, Array.getElem?_map, Array.getElem?_range, h, if_true, Option.map_some]
  rw [Array.getD_eq_getD_getElem?, Array.getElem?_eq_getElem hk, getElem!_pos z _ hk]
  rfl

theorem mksl_sim (hw : WRel E base V) {t e : TypeId} {i : TypeInfo} {zv : Value} {zero : List AV} {bytes : Nat} {n : Int} (ht : E.P.underlying t = some (.slice e)) (hi : E.P.info? e = some i) (hsz : i.size = zero.length) (hz : i.zero = some zv) (hcr : CRel E V zero zv.cells)
    (hby : i.bytes = bytes) {l : Int} (hl0 : 0 ≤ l) (hln : l ≤ n) (hb : n * bytes ≤ 140737488355328) (hne : zero ≠ []) (h63 : n ≤ 9223372036854775807) :
    ∃ v' w' μ', (Instr.makeSlice t (.int .i64 l) (.int .i64 n)).run E.P V.w = .ok v' w' ∧ Later V { w := w', μ := μ', S := V.S ++ [.cells 0 (List.replicate n.toNat zero)], X := V.X } ∧
      WRel E base { w := w', μ := μ', S := V.S ++ [.cells 0 (List.replicate n.toNat zero)], X := V.X } ∧ VRel E { w := w', μ := μ', S := V.S ++ [.cells 0 (List.replicate n.toNat zero)], X := V.X } (.msl V.S.length 0 zero.length 0 l.toNat) v' := by
  have hpos : 0 < zero.length := List.length_pos_iff.2 hne
  have h0 : 0 ≤ n := Int.le_trans hl0 hln
  have hzs : zv.cells.size = zero.length := hcr.1
  have hrun := run_make (P := E.P) V.w t e i zv ht hi hz .i64 .i64 l n hl0 hln (by rw [hby, Int.mul_comm]; omega) h63
  obtain ⟨h1, h2, h3⟩ := new_sim (ph := none) (o := .cells 0 (List.replicate n.toNat zero)) (r := V.S.length) (S' := V.S ++ [.cells 0 (List.replicate n.toNat zero)]) (w' := V.w.alloc (.cells (madeCells zv.cells (n.toNat * i.size)) e)) (ℓ := ⟨V.w.heap.size, 0, zero.length, n.toNat⟩) hw rfl (.inl ⟨_, rfl⟩) rfl ⟨rfl, rfl, rfl⟩ rfl (fun hl => by
    refine ⟨_, e, 0, 0, alloc_at V.w _, .inl (Nat.le_refl _), by simp [size_madeCells, hsz], by simp, fun k row hk => ?_, fun k j row x hk hj => ?_⟩
    · have := List.mem_of_getElem? hk
      rw [(List.mem_replicate.1 this).2]
    · have hkl := get_lt hk
      simp only [List.length_replicate] at hkl
      have hrow : row = zero := (List.mem_replicate.1 (List.mem_of_getElem? hk)).2
      subst hrow
      have hjl := get_lt hj
      have hlt : k * row.length + j < n.toNat * i.size := by
        rw [hsz]
        have := Nat.mul_le_mul_right row.length (Nat.succ_le_of_lt hkl)
        rw [Nat.succ_mul] at this; omega
      refine ⟨zv.cells.getD j undef, ?_, hcr.2.1 j (by omega), (hcr.2.2 j x hj).later hl⟩
      simp only [Nat.zero_add]
      rw [madeCells_at _ _ _ hlt (by omega), hzs]
      congr 2
      rw [Nat.mul_comm, Nat.mul_add_mod, Nat.mod_eq_of_lt hjl])
  refine ⟨_, _, _, hrun, h1, h2, .msl _ _ _ _ _ _ _ _ (by simp only; rw [bound_of h3]; simp [boundO]) (by omega) (fun rows hr => ?_)⟩
  have := cellsAt_get hr
  simp only at this
  rw [h3] at this; cases this
  exact ⟨by simp [updμ], by simp, by simp [updμ], .inr ⟨by simp [updμ], by simp [updμ]⟩⟩

/-- A slice literal in memory of its own. -/
theorem bsm_sim {ph : Option Nat} (hw : WRel E base V) (hf : FRel E V fr a.tmps) {t : TypeId} {n : Nat} {ps : Array (Nat × Operand)} {sz : Nat} {xs : List Opd} {v : AV} {S' : List AObj} (hm : mBuildSlice E t n ps (.bsm sz xs) = true)
    (hp : sop ph fr V.S (.bsm sz xs) = some (v, S')) : ∃ v' w' μ', (Instr.buildSlice t n (ps.map fun (i, x) => (i, a.eval x))).run E.P V.w = .ok v' w' ∧ Later V { w := w', μ := μ', S := S', X := V.X } ∧
      WRel E base { w := w', μ := μ', S := S', X := V.X } ∧ VRel E { w := w', μ := μ', S := S', X := V.X } v v' := by
  simp only [mBuildSlice, Bool.and_eq_true, bne_iff_ne, ne_eq, beq_iff_eq, decide_eq_true_eq] at hm
  obtain ⟨⟨⟨⟨hz, hn⟩, hlim⟩, hmp⟩, hm⟩ := hm
  split at hm
  · rename_i e hu
    split at hm
    · rename_i i hi
      simp only [Bool.and_eq_true, beq_iff_eq] at hm
      obtain ⟨hisz, hm⟩ := hm
      split at hm
      · rename_i z hzz
        simp only [beq_iff_eq] at hm
        have hsz : szOf E e = some sz := by simp [szOf, hi, hisz]
        simp only [sop] at hp
        split at hp
        · rename_i v0 vs hop
          split at hp
          · rename_i rows hro
            cases hp
            obtain ⟨arr', r1, r2, _, r4, r5, r6⟩ := fillS_sim (i := 0) (arr := (Array.range (n * sz)).map (z.cells[· % z.cells.size]!)) hf hmp hop hro (by simp [hn])
            have hrn : rows.length = n := by omega
            obtain ⟨h1, h2, h3⟩ := new_sim (ph := none) (o := .cells 0 rows) (r := V.S.length) (S' := V.S ++ [.cells 0 rows]) (w' := V.w.alloc (.cells arr' e)) (ℓ := ⟨V.w.heap.size, 0, sz, n⟩) hw rfl (.inl ⟨_, rfl⟩) rfl ⟨rfl, rfl, rfl⟩ rfl (fun hl => by
              refine ⟨_, e, 0, 0, alloc_at V.w _, .inl (Nat.le_refl _), by simp [r2], by simp [hrn], fun k row hk => r5 k row hk, fun k j row x hk hj => ?_⟩
              obtain ⟨v', v1, v2, v3⟩ := r6 k j row x hk hj
              simp only [Nat.zero_add] at v1 ⊢
              exact ⟨v', v1, v2, v3.later hl⟩)
            refine ⟨.slice (some ⟨V.w.heap.size, 0, none⟩) n n, _, _, ?_, h1, h2, ?_⟩
            · simp only [Instr.buildSlice, Sem.run_bind, run_underlying hu, run_sizeOf' hsz, Result.andThen_ok]
              have hn1 : ¬ (n * sz = 0) := by
                have : n ≠ 0 := by
                  intro h0; subst h0
                  have : xs = [] := by simpa using hn
                  subst this; simp [opds] at hop
                exact Nat.mul_ne_zero this hz
              have hlim' : ¬ (n * sz > 2 ^ 24) := by omega
              simp only [hlim', if_false, Sem.run_pure, Result.andThen_ok, hn1, Sem.run_bind, run_zeroValue hi hzz]
              have hml : (Array.map (fun x : Nat × Operand => (x.fst, a.eval x.snd)) ps).toList = ps.toList.map fun p => (p.1, a.eval p.2) := by simp
              rw [hml, r1]
              simp [newRow]
            · rw [hrn]
              refine .msl _ _ _ _ _ _ _ _ (by simp only; rw [bound_of h3]; simp [boundO]) (Nat.le_refl _) (fun rows' hr => ?_)
              have := cellsAt_get hr
              simp only at this
              rw [h3] at this; cases this
              exact ⟨by simp [updμ], by simp [hrn], by simp [updμ], .inr ⟨by simp [updμ], by simp [updμ]⟩⟩
          · cases hp
        · cases hp
      · cases hm
    · cases hm
  · cases hm

theorem run_append_zeros (P : Program) (w : World) (t tx ty e : TypeId) (i : TypeInfo) (z : Value) (k : IntKind) (ht : P.underlying t = some (.slice e)) (hk : P.underlying tx = some (.int k)) (hi : P.info? e = some i) (hz : i.zero = some z) (base : Option Addr) (n : Nat)
    (h0 : 0 < n) (hs : i.size ≠ 0) (hb : n * i.bytes ≤ 140737488355328) (h47 : n ≤ 140737488355328) :
    (Builtin.append_ #[t, tx] ty #[.slice base 0 0, .int .i64 n]).run P w =
      .ok (.slice (some ⟨w.heap.size, 0, none⟩) n (grownCap w n 0 e)) (w.drew.alloc (.cells (Builtin.zeroCells z.cells n ++ Builtin.zeroCells z.cells (grownCap w n 0 e - n)) e)) := by
  have hw : IntKind.i64.wrap (n : Int) = n := IntWalk.i64_in n ⟨by omega, by omega⟩
  have hn : ¬ (n = 0) := by omega
  have hnz : ¬ (n * i.size = 0) := by intro h; rcases Nat.mul_eq_zero.1 h with h | h <;> omega
  have h1 : ¬ ((n : Int) < 0) := by omega
  have h2 : ¬ ((n : Int) * (i.bytes : Int) > 281474976710656) := by
    rw [← Int.natCast_mul]
    generalize n * i.bytes = q at hb ⊢
    omega
  have h3 : ¬ ((n : Int) > 9223372036854775807) := by omega
  have h4 : Builtin.nextslicecap n 0 = n := by unfold Builtin.nextslicecap; rw [if_pos (by omega)]
  have h5 : ¬ (281474976710656 < n * i.bytes) := by omega
  have hold : (Builtin.firstCells i.size 0 (.slice base 0 0)).run P w.drew = .ok #[] w.drew := by
    cases base with
    | none => simp [Builtin.firstCells]
    | some a => simp [Builtin.firstCells, loadCells, loadCellsFrom]
  simp [Builtin.append_, run_underlying ht, run_underlying hk, sizeOf, typeInfo, zeroValue, hi, hz, asInt, asIntOf, hw, hn, hnz, h1, h2, h3, h4, h5, Question.forced, hold, newRow, grownCap]

/-- The zero cells of n elements. -/
theorem appn_sim (hw : WRel E base V) {t tx ty e : TypeId} {i : TypeInfo} {zv : Value} {zero : List AV} {bytes : Nat} {k : IntKind} {n : Int} {p : Option Addr} (ht : E.P.underlying t = some (.slice e)) (hk : E.P.underlying tx = some (.int k)) (hi : E.P.info? e = some i) (hsz : i.size = zero.length) (hz : i.zero = some zv) (hcr : CRel E V zero zv.cells)
    (hby : i.bytes = bytes) (h0 : 0 < n) (hb : n * bytes ≤ 140737488355328) (hne : zero ≠ []) (h47 : n ≤ 140737488355328) :
    ∃ v' w' μ', (Builtin.append_ #[t, tx] ty #[.slice p 0 0, .int .i64 n]).run E.P V.w = .ok v' w' ∧ Later V { w := w', μ := μ', S := V.S ++ [.cells 0 (List.replicate n.toNat zero)], X := V.X } ∧
      WRel E base { w := w', μ := μ', S := V.S ++ [.cells 0 (List.replicate n.toNat zero)], X := V.X } ∧ VRel E { w := w', μ := μ', S := V.S ++ [.cells 0 (List.replicate n.toNat zero)], X := V.X } (.msl V.S.length 0 zero.length 0 n.toNat) v' := by
  have hpos : 0 < zero.length := List.length_pos_iff.2 hne
  have hzs : zv.cells.size = zero.length := hcr.1
  obtain ⟨m, rfl⟩ : ∃ m : Nat, n = m := ⟨n.toNat, by omega⟩
  simp only [Int.toNat_natCast]
  have hb' : m * i.bytes ≤ 140737488355328 := by
    rw [hby]
    rw [← Int.natCast_mul] at hb
    generalize m * bytes = q at hb ⊢
    omega
  have hrun := run_append_zeros E.P V.w t tx ty e i zv k ht hk hi hz p m (by omega) (by omega) hb' (by omega)
  have hcap := grownCap_ge V.w m 0 e
  obtain ⟨h1, h2, h3⟩ := new_sim (ph := none) (o := .cells 0 (List.replicate m zero)) (r := V.S.length) (S' := V.S ++ [.cells 0 (List.replicate m zero)]) (w' := V.w.drew.alloc (.cells (Builtin.zeroCells zv.cells m ++ Builtin.zeroCells zv.cells (grownCap V.w m 0 e - m)) e)) (ℓ := ⟨V.w.heap.size, 0, zero.length, grownCap V.w m 0 e⟩) hw rfl (.inl ⟨_, rfl⟩) rfl ⟨rfl, rfl, rfl⟩ rfl (fun hl => by
    refine ⟨_, e, 0, 0, alloc_at V.w.drew _, .inl (Nat.le_refl _), ?_, by simpa using hcap, fun k row hk => ?_, fun k j row x hk hj => ?_⟩
    · simp only [Array.size_append, size_zeroCells, hzs, ← Nat.add_mul]
      rw [show m + (grownCap V.w m 0 e - m) = grownCap V.w m 0 e by omega, Nat.zero_add]; exact Nat.le_refl _
    · have := List.mem_of_getElem? hk
      rw [(List.mem_replicate.1 this).2]
    · have hkl := get_lt hk
      simp only [List.length_replicate] at hkl
      have hrow : row = zero := (List.mem_replicate.1 (List.mem_of_getElem? hk)).2
      subst hrow
      have hjl := get_lt hj
      have hlt : k * row.length + j < m * zv.cells.size := by
        rw [hzs]
        have := Nat.mul_le_mul_right row.length (Nat.succ_le_of_lt hkl)
        rw [Nat.succ_mul] at this; omega
      refine ⟨zv.cells.getD j undef, ?_, hcr.2.1 j (by omega), (hcr.2.2 j x hj).later hl⟩
      simp only [Nat.zero_add]
      rw [Array.getElem?_append_left (by rw [size_zeroCells]; exact hlt)]
      have hmod : (k * row.length + j) % zv.cells.size = j := by
        rw [hzs, Nat.mul_comm, Nat.mul_add_mod, Nat.mod_eq_of_lt hjl]
      have hjz : j < zv.cells.size := by omega
      simp [Builtin.zeroCells, hlt, hmod, hjz])
  refine ⟨_, _, _, hrun, h1, h2, .msl _ _ _ _ _ _ _ _ (by simp only; rw [bound_of h3]; simp [boundO]) hcap (fun rows hr => ?_)⟩
  have := cellsAt_get hr
  simp only at this
  rw [h3] at this; cases this
  exact ⟨by simp [updμ], by simpa using hcap, by simp [updμ], .inr ⟨by simp [updμ], by simp [updμ]⟩⟩

/-- A map written over. -/
theorem mapw_sim (hw : WRel E base V) {r : Nat} {es es' : List (AV × AV)} {mes' : Array MapEntry} {clock' : Nat} (hr : V.S[r]? = some (.map es))
    (her : Later V { w := setB V.w (V.μ r).blk (.map mes' clock'), μ := updμ V.μ r (V.μ r), S := V.S.set r (.map es'), X := V.X } → ERel E { w := setB V.w (V.μ r).blk (.map mes' clock'), μ := updμ V.μ r (V.μ r), S := V.S.set r (.map es'), X := V.X } es' mes'.toList) :
    Later V { w := setB V.w (V.μ r).blk (.map mes' clock'), μ := updμ V.μ r (V.μ r), S := V.S.set r (.map es'), X := V.X } ∧
    WRel E base { w := setB V.w (V.μ r).blk (.map mes' clock'), μ := updμ V.μ r (V.μ r), S := V.S.set r (.map es'), X := V.X } := by
  have hput : Put V.S r (.map es') (V.S.set r (.map es')) := .set (get_lt hr)
  have hc : claims V r (.map es') (V.μ r) := .inr ⟨⟨es, hr⟩, rfl⟩
  have hlt := hw.blk_lt (live_of hr rfl)
  have hsz' : V.w.heap.size ≤ (setB V.w (V.μ r).blk (.map mes' clock')).heap.size := by rw [setB_size]; exact Nat.le_refl _
  have hwb : ∀ b, b < V.w.heap.size → b ≠ (V.μ r).blk → (setB V.w (V.μ r).blk (.map mes' clock')).heap[b]? = V.w.heap[b]? := fun b _ hne => setB_other hne
  have hbb : (live V.S r ∧ (V.μ r).blk = (V.μ r).blk) ∨ V.w.heap.size ≤ (V.μ r).blk := .inl ⟨live_of hr rfl, rfl⟩
  refine ⟨Later.upd hput hc hsz' hwb hbb, hw.upd hput hc hsz' hwb hbb (setB_st _ _ _) fun hl => ?_⟩
  obtain ⟨e1, e2⟩ := her hl
  exact ⟨mes', clock', setB_same hlt, by simpa using e1, fun i k v hi => by obtain ⟨me, m1, m2⟩ := e2 i k v hi; exact ⟨me, by simpa using m1, m2⟩⟩

theorem ERel.later {V' : Vw} {es : List (AV × AV)} {mes : List MapEntry} (h : ERel E V es mes) (hl : Later V V') : ERel E V' es mes :=
  ⟨h.1, fun i k v hi => by obtain ⟨me, m1, m2, m3⟩ := h.2 i k v hi; exact ⟨me, m1, m2.later hl, m3.later hl⟩⟩

theorem ERel.push {es : List (AV × AV)} {mes : List MapEntry} (h : ERel E V es mes) {k v : AV} {me : MapEntry} (hk : VRel E V k me.key) (hv : VRel E V v me.val) : ERel E V (es ++ [(k, v)]) (mes ++ [me]) := by
  refine ⟨by simp [h.1], fun i k' v' hi => ?_⟩
  rcases Nat.lt_or_ge i es.length with hlt | hge
  · rw [List.getElem?_append_left hlt] at hi
    obtain ⟨m, m1, m2⟩ := h.2 i k' v' hi
    exact ⟨m, by rw [List.getElem?_append_left (by rw [h.1]; exact hlt)]; exact m1, m2⟩
  · rw [List.getElem?_append_right hge] at hi
    have : i = es.length := by have := get_lt hi; simp at this; omega
    subst this
    simp at hi
    obtain ⟨rfl, rfl⟩ := hi
    exact ⟨me, by rw [← h.1]; simp, hk, hv⟩

theorem ERel.set {es : List (AV × AV)} {mes : List MapEntry} (h : ERel E V es mes) {i : Nat} (hi : i < es.length) {k v : AV} {me : MapEntry} (hk : VRel E V k me.key) (hv : VRel E V v me.val) : ERel E V (es.set i (k, v)) (mes.set i me) := by
  refine ⟨by simp [h.1], fun j k' v' hj => ?_⟩
  by_cases hij : i = j
  · subst hij
    rw [List.getElem?_set_self hi] at hj
    simp at hj; obtain ⟨rfl, rfl⟩ := hj
    exact ⟨me, by rw [List.getElem?_set_self (by rw [h.1]; exact hi)], hk, hv⟩
  · rw [List.getElem?_set_ne hij] at hj
    obtain ⟨m, m1, m2⟩ := h.2 j k' v' hj
    exact ⟨m, by rw [List.getElem?_set_ne hij]; exact m1, m2⟩

theorem ERel.erase {es : List (AV × AV)} {mes : List MapEntry} (h : ERel E V es mes) (i : Nat) : ERel E V (es.eraseIdx i) (mes.eraseIdx i) := by
  refine ⟨by rw [List.length_eraseIdx, List.length_eraseIdx, h.1], fun j k v hj => ?_⟩
  rw [List.getElem?_eraseIdx] at hj ⊢
  split at hj
  · rename_i hlt; rw [if_pos hlt]; exact h.2 j k v hj
  · rename_i hlt; rw [if_neg hlt]; exact h.2 (j + 1) k v hj

theorem midx_key {ag : Bool} {ks : List Nat} {k : AV} : ∀ {es : List (AV × AV)} {i : Nat}, midx ag ks k es = some (some i) → ∃ a v, es[i]? = some (a, v) ∧ keq ag ks k a = some true
  | [], i, h => by cases h
  | (a, v) :: es, i, h => by
    unfold midx at h
    split at h
    · rename_i hk; cases h; exact ⟨a, v, by simp, hk⟩
    · cases hm : midx ag ks k es with
      | none => simp [hm] at h
      | some o =>
        cases o with
        | none => simp [hm] at h
        | some j =>
          simp [hm] at h; subst h
          obtain ⟨a', v', h1, h2⟩ := midx_key hm
          exact ⟨a', v', by simpa using h1, h2⟩
    · cases h

theorem mset_sim (hw : WRel E base V) {t kt et : TypeId} {ag : Bool} {ks : List Nat} {r : Nat} {um uk uv : Value} {k v : AV} {es es' : List (AV × AV)} (hu : E.P.underlying t = some (.map kt et)) (hkt : keyT E kt ag ks = true)
    (hm : VRel E V (.mp r) um) (hk : VRel E V k uk) (hv : VRel E V v uv) (hko : keyOk ag ks k = true) (hr : V.S[r]? = some (.map es)) (hp : mput ag ks k v es = some es') :
    ∃ w' μ', (Instr.mapUpdate t um uk uv).run E.P V.w = .ok () w' ∧ Later V { w := w', μ := μ', S := V.S.set r (.map es'), X := V.X } ∧ WRel E base { w := w', μ := μ', S := V.S.set r (.map es'), X := V.X } := by
  have hK := keyT_spec hkt
  cases hm with
  | mp _ b hb h2 =>
  have := h2 es hr; subst this
  obtain ⟨mes, clock, hblk, her⟩ := map_obj hw hr
  obtain ⟨o, ho, hr'⟩ := mput_idx hp
  have hfk := findKey_run hK hk V.w her ho
  rcases hr' with ⟨rfl, rfl⟩ | ⟨i, rfl, hil, rfl⟩
  · obtain ⟨h1, h2⟩ := mapw_sim (es' := es ++ [(k, v)]) (mes' := mes.push { key := uk, val := uv, born := clock }) (clock' := clock + 1) hw hr (fun hl => by
      simpa using (her.later hl).push (me := { key := uk, val := uv, born := clock }) (hk.later hl) (hv.later hl))
    refine ⟨_, _, ?_, h1, h2⟩
    simp only [Instr.mapUpdate, Sem.run_bind, run_underlying hu, Result.andThen_ok, MapKept.run_getObj_map hblk, keyOk_run hK hko hk, hfk, Option.bind_none, MapKept.run_setObj_map _ hblk]
    rfl
  · obtain ⟨ka, va, hka, hkeq⟩ := midx_key ho
    obtain ⟨me, hme, hkr, _⟩ := her.2 i ka va hka
    have hme' : mes[i]? = some me := by simpa using hme
    obtain ⟨h1, h2⟩ := mapw_sim (es' := es.set i (k, v)) (mes' := mes.modify i fun e => { e with key := uk, val := uv }) (clock' := clock) hw hr (fun hl => by
      have := (her.later hl).set hil (me := { me with key := uk, val := uv }) (hk.later hl) (hv.later hl)
      have e : (mes.modify i fun e => { e with key := uk, val := uv }).toList = mes.toList.set i { me with key := uk, val := uv } := by
        apply List.ext_getElem?
        intro j
        rw [Array.getElem?_toList, Array.getElem?_modify]
        by_cases hij : i = j
        · subst hij; rw [if_pos rfl, hme', List.getElem?_set_self (get_lt hme)]; rfl
        · rw [if_neg hij, List.getElem?_set_ne hij, Array.getElem?_toList]
      rw [e]; exact this)
    refine ⟨_, _, ?_, h1, h2⟩
    simp only [Option.bind_some, hme, Option.map_some] at hfk
    simp only [Instr.mapUpdate, Sem.run_bind, run_underlying hu, Result.andThen_ok, MapKept.run_getObj_map hblk, keyOk_run hK hko hk, hfk, hme', Option.map_some, Option.getD_some, keyThatStays_run hkeq hk hkr, MapKept.run_setObj_map _ hblk]
    rfl

theorem mdel_sim (hw : WRel E base V) {t kt et ty u2 : TypeId} {ag : Bool} {ks : List Nat} {r : Nat} {um uk : Value} {k : AV} {es es' : List (AV × AV)} (hu : E.P.underlying t = some (.map kt et)) (hkt : keyT E kt ag ks = true)
    (hm : VRel E V (.mp r) um) (hk : VRel E V k uk) (hko : keyOk ag ks k = true) (hr : V.S[r]? = some (.map es)) (hp : mdrop ag ks k es = some es') :
    ∃ w' μ', (Builtin.delete_ #[t, u2] ty #[um, uk]).run E.P V.w = .ok (.tuple #[]) w' ∧ Later V { w := w', μ := μ', S := V.S.set r (.map es'), X := V.X } ∧ WRel E base { w := w', μ := μ', S := V.S.set r (.map es'), X := V.X } := by
  have hK := keyT_spec hkt
  cases hm with
  | mp _ b hb h2 =>
  have := h2 es hr; subst this
  obtain ⟨mes, clock, hblk, her⟩ := map_obj hw hr
  obtain ⟨o, ho, hr'⟩ := mdrop_idx hp
  have hfk := findKey_run hK hk V.w her ho
  rcases hr' with ⟨rfl, rfl⟩ | ⟨i, rfl, hil, rfl⟩
  · obtain ⟨h1, h2⟩ := mapw_sim (es' := es') (mes' := mes) (clock' := clock) hw hr (fun hl => her.later hl)
    refine ⟨_, _, ?_, h1, h2⟩
    simp only [Builtin.delete_, List.getElem?_toArray, List.getElem?_cons_zero, List.getElem?_cons_succ, Sem.run_bind, run_underlying hu, Result.andThen_ok, MapKept.run_getObj_map hblk, keyOk_run hK hko hk, hfk, Option.bind_none, MapKept.run_setObj_map _ hblk]
    rfl
  · obtain ⟨ka, va, hka, hkeq⟩ := midx_key ho
    obtain ⟨me, hme, hkr, _⟩ := her.2 i ka va hka
    obtain ⟨h1, h2⟩ := mapw_sim (es' := es.eraseIdx i) (mes' := mes.eraseIdxIfInBounds i) (clock' := clock) hw hr (fun hl => by
      have := (her.later hl).erase i
      have e : (mes.eraseIdxIfInBounds i).toList = mes.toList.eraseIdx i := by
        rw [Array.eraseIdxIfInBounds_eq]
        split
        · simp
        · rename_i hni; rw [List.eraseIdx_of_length_le (by simpa using hni)]
      rw [e]; exact this)
    refine ⟨_, _, ?_, h1, h2⟩
    simp only [Option.bind_some, hme, Option.map_some] at hfk
    simp only [Builtin.delete_, List.getElem?_toArray, List.getElem?_cons_zero, List.getElem?_cons_succ, Sem.run_bind, run_underlying hu, Result.andThen_ok, MapKept.run_getObj_map hblk, keyOk_run hK hko hk, hfk, MapKept.run_setObj_map _ hblk]
    rfl

end
end Go.Proofs.YtleommjdeejmkaaGreatDoor.Zq

namespace Go.Proofs.YtleommjdeejmkaaGreatDoor.Zq
open Go Go.RowKit

section
variable {E : Env} {V : Vw} {fr : List AV} {a : Act} {base : World}

theorem OpOk.skip {s : Sem Next} {S' : List AObj} {w' : World} {μ' : Nat → Loc} (h : s.run E.P V.w = .ok .skip w') (h1 : Later V { w := w', μ := μ', S := S', X := V.X }) (h2 : WRel E base { w := w', μ := μ', S := S', X := V.X }) : OpOk E base V s (.tup []) S' :=
  ⟨_, w', μ', undef, h, .inr ⟨rfl, rfl⟩, h1, h2, .tup _ _ rfl (by simp)⟩

theorem sem_skip {s : Sem Unit} {w w' : World} (h : s.run E.P w = .ok () w') : (do s; pure Next.skip : Sem Next).run E.P w = .ok .skip w' := by
  simp [h]

theorem call_only {io : IOp} {c : Call} (hm : mCall E c io = true) (hio : (∀ f as, io ≠ .call f as) ∧ (∀ f as, io ≠ .pcall f as) ∧ ∀ f as, io ≠ .scall f as) : ∃ b, c.callee = .builtin b ∧ mBuiltin E io b c.args.toList c.argTypes.toList = true := by
  unfold mCall at hm
  split at hm
  · split at hm
    · exact absurd rfl (hio.1 _ _)
    · exact absurd rfl (hio.2.1 _ _)
    · exact absurd rfl (hio.2.2 _ _)
    · cases hm
  · rename_i b hc; exact ⟨b, hc, hm⟩
  · cases hm

theorem next_at {w : World} {b pos : Nat} {bs : ByteArray} {ty : TypeId} (h : w.heap[b]? = some (.stringIter bs pos)) (hlt : pos < bs.size) :
    (Instr.next (.pointer (some ⟨b, 0, none⟩)) true ty).run E.P w = .ok (.tuple #[.bool true, .int .i64 pos, .int .i32 (Utf8.decode bs pos).1]) (setB w b (.stringIter bs (pos + (Utf8.decode bs pos).2))) := by
  simp only [Instr.next, getObj, setObj, Sem.run_bind, Sem.run, h, Result.andThen, hlt, if_true]
  simp [goInt, setB]

theorem next_end {w : World} {b pos : Nat} {bs : ByteArray} {ty : TypeId} (h : w.heap[b]? = some (.stringIter bs pos)) (hlt : ¬ pos < bs.size) :
    (Instr.next (.pointer (some ⟨b, 0, none⟩)) true ty).run E.P w = .ok (.tuple #[.bool false]) w := by
  simp [Instr.next, getObj, Sem.run, h, hlt]

theorem sop_sim (hw : WRel E base V) (hf : FRel E V fr a.tmps) {ph : Option Nat} {o : Oper} {io : IOp} {v : AV} {S' : List AObj} (hm : mOp E io o.op = true) (hp : sop ph fr V.S io = some (v, S')) : OpOk E base V (execOp a.eval o) v S' := by
  have rest : sop ph fr V.S io = (match rop fr V.S io with | some v => some (v, V.S) | none => none) → OpOk E base V (execOp a.eval o) v S' := by
    intro he
    rw [he] at hp
    split at hp
    · rename_i v' hv; cases hp; exact rop_sim hw hf hm hv
    · cases hp
  cases io <;> first | exact rest rfl | skip
  · -- []byte(s)
    rename_i x
    generalize ho : o.op = oo at hm
    cases oo <;> simp only [mOp, mBin, mBuild, mBuildSlice, mIndexAddr, mIndex, mSlice, mDefer, Bool.false_eq_true] at hm
    · obtain ⟨v', w', μ', r1, h1, h2, h3⟩ := s2b_sim (base := base) hw hf hm hp
      exact ⟨_, w', μ', v', by simp only [execOp, ho]; exact sem_val r1, .inl rfl, h1, h2, h3⟩
    · obtain ⟨b, _, hmb⟩ := call_only hm ⟨(fun _ _ h => by cases h), (fun _ _ h => by cases h), (fun _ _ h => by cases h)⟩
      simp [mBuiltin] at hmb
  · -- a new variable with a value
    rename_i x
    generalize ho : o.op = oo at hm
    cases oo <;> simp only [mOp, mBin, mConv, mBuild, mBuildSlice, mIndexAddr, mIndex, mSlice, mDefer, Bool.false_eq_true] at hm
    · rename_i T y
      simp only [sop] at hp
      split at hp
      · rename_i u hu
        split at hp
        · rename_i cs hcs
          split at hp
          · rename_i r S1 hn
            cases hp
            refine newVar_sim hw hn ((opd_rel hf hm hu).crel hcs) T ?_
            simp only [execOp, ho]
            exact sem_val (by simp [Instr.box, newVar, newRow])
          · cases hp
        · cases hp
      · cases hp
    · obtain ⟨b, _, hmb⟩ := call_only hm ⟨(fun _ _ h => by cases h), (fun _ _ h => by cases h), (fun _ _ h => by cases h)⟩
      simp [mBuiltin] at hmb
  · -- a new variable
    rename_i zero
    generalize ho : o.op = oo at hm
    cases oo <;> simp only [mOp, mBin, mConv, mBuild, mBuildSlice, mIndexAddr, mIndex, mSlice, mDefer, Bool.false_eq_true] at hm
    · rename_i T
      obtain ⟨i, z, hi, _, hz, hcr⟩ := zeroT_spec (E := E) (V := V) hm
      simp only [sop] at hp
      split at hp
      · rename_i r S1 hn
        cases hp
        refine newVar_sim hw hn hcr T ?_
        simp only [execOp, ho]
        exact sem_val (by simp [Instr.alloc, run_zeroValue hi hz, newVar, newRow])
      · cases hp
    · obtain ⟨b, _, hmb⟩ := call_only hm ⟨(fun _ _ h => by cases h), (fun _ _ h => by cases h), (fun _ _ h => by cases h)⟩
      simp [mBuiltin] at hmb
  · -- a store
    rename_i n x y
    generalize ho : o.op = oo at hm
    cases oo <;> simp only [mOp, mBin, mConv, mBuild, mBuildSlice, mIndexAddr, mIndex, mSlice, mDefer, Bool.false_eq_true] at hm
    · rename_i t p q
      simp only [Bool.and_eq_true, beq_iff_eq] at hm
      obtain ⟨⟨hx, hy⟩, hz⟩ := hm
      simp only [sop] at hp
      split at hp
      · rename_i u w hu hww
        split at hp
        · rename_i S1 hst
          cases hp
          obtain ⟨w', μ', r1, h1, h2⟩ := store_sim (base := base) hw hz (opd_rel hf hx hu) (opd_rel hf hy hww) hst
          exact OpOk.skip (by simp only [execOp, ho]; exact sem_skip r1) h1 h2
        · cases hp
      · cases hp
    · obtain ⟨b, _, hmb⟩ := call_only hm ⟨(fun _ _ h => by cases h), (fun _ _ h => by cases h), (fun _ _ h => by cases h)⟩
      simp [mBuiltin] at hmb
  · -- append, of so many zero values
    rename_i zero bytes s x
    generalize ho : o.op = oo at hm
    cases oo <;> simp only [mOp, mBin, mConv, mBuild, mBuildSlice, mIndexAddr, mIndex, mSlice, mDefer, Bool.false_eq_true] at hm
    rename_i c
    obtain ⟨b, hc, hmb⟩ := call_only hm ⟨(fun _ _ h => by cases h), (fun _ _ h => by cases h), (fun _ _ h => by cases h)⟩
    unfold mBuiltin at hmb
    split at hmb <;> first | (cases hmb; done) | (exfalso; simp_all; done) | skip
    rename_i zero' bytes' s' x' p q t u he h1 h2
    cases he
    simp only [Bool.and_eq_true, bne_iff_ne, ne_eq] at hmb
    obtain ⟨⟨⟨hs, hx⟩, hz0⟩, ht⟩ := hmb
    split at ht
    · rename_i e k hte hku
      simp only [Bool.and_eq_true] at ht
      obtain ⟨hz, hbb⟩ := ht
      obtain ⟨i, zv, hi, hsz, hzz, hcr⟩ := zeroT_spec (E := E) (V := V) hz
      rw [hi] at hbb
      simp only [beq_iff_eq] at hbb
      simp only [sop] at hp
      split at hp
      · rename_i bb n hus hux
        split at hp
        · rename_i hcond
          obtain ⟨h0, hb, hne, h47⟩ := hcond
          cases hp
          have hsr := opd_rel hf hs hus
          obtain ⟨us, hus'⟩ : ∃ us, a.eval p = us := ⟨_, rfl⟩
          rw [hus'] at hsr
          cases hsr with
          | zsl _ pp hpp =>
            obtain ⟨v', w', μ', r1, k1, k2, k3⟩ := appn_sim (base := base) (ty := o.type) (p := pp) hw hte hku hi hsz hzz hcr hbb h0 hb (by intro he; subst he; simp at hne) h47
            refine ⟨_, w', μ', v', ?_, .inl rfl, k1, k2, k3⟩
            rw [callB ho hc, arr2 h1, arr2 h2, map2 a.eval, hus', (opd_rel hf hx hux).int_inv]
            exact builtin_val rfl r1
        · cases hp
      · cases hp
    · cases ht
  · -- append
    rename_i sz bytes s x
    generalize ho : o.op = oo at hm
    cases oo <;> simp only [mOp, mBin, mConv, mBuild, mBuildSlice, mIndexAddr, mIndex, mSlice, mDefer, Bool.false_eq_true] at hm
    rename_i c
    obtain ⟨b, hc, hmb⟩ := call_only hm ⟨(fun _ _ h => by cases h), (fun _ _ h => by cases h), (fun _ _ h => by cases h)⟩
    unfold mBuiltin at hmb
    split at hmb <;> first | (cases hmb; done) | (exfalso; simp_all; done) | skip
    rename_i sz' bytes' s' x' p q t u he h1 h2
    cases he
    simp only [Bool.and_eq_true, bne_iff_ne, ne_eq] at hmb
    obtain ⟨⟨⟨hs, hx⟩, hz0⟩, ht⟩ := hmb
    split at ht
    · rename_i e hte
      simp only [Bool.and_eq_true] at ht
      obtain ⟨hte', htu⟩ := ht
      split at hte'
      · rename_i i hi
        simp only [Bool.and_eq_true, beq_iff_eq, bne_iff_ne, ne_eq] at hte'
        obtain ⟨⟨⟨⟨hsz, hby⟩, hb0⟩, _⟩, hzv⟩ := hte'
        split at hzv
        · rename_i zv hzz
          simp only [beq_iff_eq] at hzv
          have hk : (∃ e', E.P.underlying u = some (.slice e')) ∨ E.P.underlying u = some .string := by
            split at htu
            · exact .inr ‹_›
            · exact .inl ⟨_, ‹_›⟩
            · cases htu
          simp only [sop] at hp
          split at hp
          · rename_i us ux hus hux
            obtain ⟨v', w', μ', r1, k1, k2, k3⟩ := app_sim (base := base) (ty := o.type) hw hz0 hte hi hsz hby hb0 hzz hzv hk (opd_rel hf hs hus) (opd_rel hf hx hux) hp
            refine ⟨_, w', μ', v', ?_, .inl rfl, k1, k2, k3⟩
            rw [callB ho hc, arr2 h1, arr2 h2, map2 a.eval]
            exact builtin_val rfl r1
          · cases hp
        · cases hzv
      · cases hte'
    · cases ht
  · -- a new map
    generalize ho : o.op = oo at hm
    cases oo <;> simp only [mOp, mBin, mConv, mBuild, mBuildSlice, mIndexAddr, mIndex, mSlice, mDefer, Bool.false_eq_true] at hm
    · rename_i t r
      simp only [sop] at hp
      split at hp
      · rename_i q S1 hn
        cases hp
        obtain ⟨h1, h2, h3⟩ := new_sim (w' := V.w.alloc (.map #[] 0)) (ℓ := ⟨V.w.heap.size, 0, 0, 0⟩) hw hn (.inr (.inl ⟨_, rfl⟩)) rfl ⟨rfl, rfl, rfl⟩ rfl (fun _ => ⟨#[], 0, alloc_at V.w _, rfl, by simp⟩)
        refine ⟨_, _, _, .map (some V.w.heap.size), ?_, .inl rfl, h1, h2, .mp _ _ (by simp only; rw [bound_of h3]; simp [boundO]) (fun es _ => by simp [updμ])⟩
        simp only [execOp, ho]
        refine sem_val ?_
        split at hm
        · simp [Instr.makeMap]
        · rename_i hu; simp [Instr.makeMap, run_underlying hu, asInt, asIntOf, Act.eval]
        · cases hm
      · cases hp
    · obtain ⟨b, _, hmb⟩ := call_only hm ⟨(fun _ _ h => by cases h), (fun _ _ h => by cases h), (fun _ _ h => by cases h)⟩
      simp [mBuiltin] at hmb
  · -- a slice literal in memory of its own
    rename_i sz xs
    generalize ho : o.op = oo at hm
    cases oo <;> simp only [mOp, mBin, mConv, mBuild, mIndexAddr, mIndex, mSlice, mDefer, Bool.false_eq_true] at hm
    · rename_i t n ps
      obtain ⟨v', w', μ', r1, k1, k2, k3⟩ := bsm_sim (base := base) hw hf hm hp
      exact ⟨_, w', μ', v', by simp only [execOp, ho]; exact sem_val r1, .inl rfl, k1, k2, k3⟩
    · obtain ⟨b, _, hmb⟩ := call_only hm ⟨(fun _ _ h => by cases h), (fun _ _ h => by cases h), (fun _ _ h => by cases h)⟩
      simp [mBuiltin] at hmb
  · -- a new slice
    rename_i zero bytes n c
    generalize ho : o.op = oo at hm
    cases oo <;> simp only [mOp, mBin, mConv, mBuild, mBuildSlice, mIndexAddr, mIndex, mSlice, mDefer, Bool.false_eq_true] at hm
    · rename_i t p q
      simp only [Bool.and_eq_true] at hm
      obtain ⟨⟨⟨hn, hc⟩, _⟩, hu⟩ := hm
      split at hu
      · rename_i e hue
        simp only [Bool.and_eq_true] at hu
        obtain ⟨hz, hbb⟩ := hu
        obtain ⟨i, zv, hi, hsz, hzz, hcr⟩ := zeroT_spec (E := E) (V := V) hz
        rw [hi] at hbb
        simp only [beq_iff_eq] at hbb
        simp only [sop] at hp
        split at hp
        · rename_i n1 n2 h1 h2
          split at hp
          · rename_i hcond
            obtain ⟨h0, hle, hb, hne, h63⟩ := hcond
            cases hp
            obtain ⟨v', w', μ', r1, k1, k2, k3⟩ := mksl_sim (base := base) hw hue hi hsz hzz hcr hbb h0 hle hb (by intro he; subst he; simp at hne) (by omega)
            refine ⟨_, w', μ', v', ?_, .inl rfl, k1, k2, k3⟩
            simp only [execOp, ho]
            rw [(opd_rel hf hn h1).int_inv, (opd_rel hf hc h2).int_inv]
            exact sem_val r1
          · cases hp
        · cases hp
      · cases hu
    · obtain ⟨b, _, hmb⟩ := call_only hm ⟨(fun _ _ h => by cases h), (fun _ _ h => by cases h), (fun _ _ h => by cases h)⟩
      simp [mBuiltin] at hmb
  · -- a map's store
    rename_i ag ks m k x
    generalize ho : o.op = oo at hm
    cases oo <;> simp only [mOp, mBin, mConv, mBuild, mBuildSlice, mIndexAddr, mIndex, mSlice, mDefer, Bool.false_eq_true] at hm
    · rename_i t p q s
      simp only [Bool.and_eq_true] at hm
      obtain ⟨⟨⟨hmm, hk⟩, hv⟩, hu⟩ := hm
      split at hu
      · rename_i kt et hut
        simp only [sop] at hp
        split at hp
        · rename_i r uk uv h1 h2 h3
          split at hp
          · cases hp
          · rename_i hko
            split at hp
            · rename_i es hes
              split at hp
              · rename_i es' hput
                cases hp
                obtain ⟨w', μ', r1, k1, k2⟩ := mset_sim (base := base) hw hut hu (opd_rel hf hmm h1) (opd_rel hf hk h2) (opd_rel hf hv h3) (by simpa using hko) hes hput
                exact OpOk.skip (by simp only [execOp, ho]; exact sem_skip r1) k1 k2
              · cases hp
            · cases hp
        · cases hp
      · cases hu
    · obtain ⟨b, _, hmb⟩ := call_only hm ⟨(fun _ _ h => by cases h), (fun _ _ h => by cases h), (fun _ _ h => by cases h)⟩
      simp [mBuiltin] at hmb
  · -- delete
    rename_i ag ks m k
    generalize ho : o.op = oo at hm
    cases oo <;> simp only [mOp, mBin, mConv, mBuild, mBuildSlice, mIndexAddr, mIndex, mSlice, mDefer, Bool.false_eq_true] at hm
    rename_i c
    obtain ⟨b, hc, hmb⟩ := call_only hm ⟨(fun _ _ h => by cases h), (fun _ _ h => by cases h), (fun _ _ h => by cases h)⟩
    unfold mBuiltin at hmb
    split at hmb <;> first | (cases hmb; done) | (exfalso; simp_all; done) | skip
    rename_i ag' ks' m' k' p q t u he h1 h2
    cases he
    simp only [Bool.and_eq_true] at hmb
    obtain ⟨⟨hmm, hk⟩, hu⟩ := hmb
    split at hu
    · rename_i kt et hut
      simp only [sop] at hp
      split at hp
      · rename_i uk hnil hku
        split at hp
        · rename_i hko
          cases hp
          have hK := keyT_spec hu
          have hmr := opd_rel hf hmm hnil
          have hkr := opd_rel hf hk hku
          refine OpOk.val (v' := .tuple #[]) hw ?_ (.tup _ _ rfl (by simp))
          rw [callB ho hc, arr2 h1, arr2 h2, map2 a.eval]
          obtain ⟨um, hum⟩ : ∃ um, a.eval p = um := ⟨_, rfl⟩
          rw [hum] at hmr ⊢
          cases hmr
          refine builtin_val rfl (?_ : (Builtin.delete_ #[t, u] o.type #[.map none, a.eval q]).run E.P V.w = _)
          simp only [Builtin.delete_, List.getElem?_toArray, List.getElem?_cons_zero, List.getElem?_cons_succ, Sem.run_bind, run_underlying hut, Result.andThen_ok, keyOk_run hK hko hkr]
          rfl
        · cases hp
      · rename_i r uk hmr hku
        split at hp
        · cases hp
        · rename_i hko
          split at hp
          · rename_i es hes
            split at hp
            · rename_i es' hdrop
              cases hp
              obtain ⟨w', μ', r1, k1, k2⟩ := mdel_sim (base := base) (ty := o.type) (u2 := u) hw hut hu (opd_rel hf hmm hmr) (opd_rel hf hk hku) (by simpa using hko) hes hdrop
              refine ⟨_, w', μ', .tuple #[], ?_, .inl rfl, k1, k2, .tup _ _ rfl (by simp)⟩
              rw [callB ho hc, arr2 h1, arr2 h2, map2 a.eval]
              exact builtin_val rfl r1
            · cases hp
          · cases hp
      · cases hp
    · cases hu
  · -- an iterator over a string
    rename_i x
    generalize ho : o.op = oo at hm
    cases oo <;> simp only [mOp, mBin, mConv, mBuild, mBuildSlice, mIndexAddr, mIndex, mSlice, mDefer, Bool.false_eq_true] at hm
    · rename_i t y
      simp only [Bool.and_eq_true] at hm
      obtain ⟨hx, hu⟩ := hm
      split at hu
      · rename_i hut
        simp only [sop] at hp
        split at hp
        · rename_i s hs
          cases hp
          obtain ⟨bs, hbs, hbl⟩ := (opd_rel hf hx hs).str_inv
          obtain ⟨h1, h2, h3⟩ := new_sim (w' := V.w.alloc (.stringIter bs 0)) (ℓ := ⟨V.w.heap.size, 0, 0, 0⟩) (o := .siter s 0) (ph := none) hw rfl (.inr (.inr ⟨_, _, rfl⟩)) rfl ⟨rfl, rfl, rfl⟩ rfl (fun _ => ⟨bs, alloc_at V.w _, hbl⟩)
          refine ⟨_, _, _, .pointer (some ⟨V.w.heap.size, 0, none⟩), ?_, .inl rfl, h1, h2, .it _ _ (by simp only; rw [bound_of h3]; simp [boundO]) (fun s p _ => by simp [updμ])⟩
          simp only [execOp, ho]
          refine sem_val ?_
          rw [hbs]
          simp [Instr.range, run_underlying hut]
        · cases hp
      · cases hu
    · obtain ⟨b, _, hmb⟩ := call_only hm ⟨(fun _ _ h => by cases h), (fun _ _ h => by cases h), (fun _ _ h => by cases h)⟩
      simp [mBuiltin] at hmb
  · -- its next step
    rename_i x
    generalize ho : o.op = oo at hm
    cases oo <;> simp only [mOp, mBin, mConv, mBuild, mBuildSlice, mIndexAddr, mIndex, mSlice, mDefer, Bool.false_eq_true] at hm
    · rename_i y isS
      simp only [Bool.and_eq_true] at hm
      obtain ⟨hx, rfl⟩ := hm
      simp only [sop] at hp
      split at hp
      · rename_i r hr
        split at hp
        · rename_i s pos hsr
          have hxr := opd_rel hf hx hr
          obtain ⟨b, hb, hbμ⟩ : ∃ b, a.eval y = .pointer (some ⟨b, 0, none⟩) ∧ b = (V.μ r).blk := by
            generalize a.eval y = uy at hxr
            cases hxr with
            | it _ b h h2 => exact ⟨b, rfl, h2 s pos hsr⟩
          subst hbμ
          obtain ⟨bs, hbl, hbs⟩ := hw.obj r _ hsr
          have hsz : bs.size = s.length := by rw [← hbs]; exact Array.length_toList.symm
          have harr : (⟨s.toArray⟩ : ByteArray) = bs := by rw [← hbs]
          split at hp
          · rename_i hlt
            cases hp
            have hput : Put V.S r (.siter s (pos + (Utf8.decode ⟨s.toArray⟩ pos).2)) (V.S.set r (.siter s (pos + (Utf8.decode ⟨s.toArray⟩ pos).2))) := .set (get_lt hsr)
            have hlive : live V.S r := ⟨_, hsr, rfl⟩
            have hb' : (V.μ r).blk < V.w.heap.size := hw.blk_lt hlive
            have hc : claims V r (.siter s (pos + (Utf8.decode ⟨s.toArray⟩ pos).2)) (V.μ r) := .inr ⟨⟨_, _, hsr⟩, rfl⟩
            have hother : ∀ b, b < V.w.heap.size → b ≠ (V.μ r).blk → (setB V.w (V.μ r).blk (.stringIter bs (pos + (Utf8.decode bs pos).2))).heap[b]? = V.w.heap[b]? := fun b _ hne => setB_other hne
            have h1 := Later.upd (V := V) (w' := setB V.w (V.μ r).blk (.stringIter bs (pos + (Utf8.decode bs pos).2))) (ℓ := V.μ r) hput hc (by rw [setB_size]; exact Nat.le_refl _) hother (.inl ⟨hlive, rfl⟩)
            have h2 := hw.upd (w' := setB V.w (V.μ r).blk (.stringIter bs (pos + (Utf8.decode bs pos).2))) (ℓ := V.μ r) hput hc (by rw [setB_size]; exact Nat.le_refl _) hother (.inl ⟨hlive, rfl⟩) ⟨rfl, rfl, rfl⟩ (fun _ => ⟨bs, by rw [harr]; exact setB_same hb', hbs⟩)
            refine ⟨_, _, _, .tuple #[.bool true, .int .i64 pos, .int .i32 (Utf8.decode bs pos).1], ?_, .inl rfl, h1, h2, .tup _ _ rfl (fun i x hi => ?_)⟩
            · simp only [execOp, ho]
              refine sem_val ?_
              rw [hb]
              exact next_at hbl (by omega)
            · rw [harr] at hi
              match i, hi with
              | 0, hi => simp at hi; subst hi; exact .bool _
              | 1, hi => simp at hi; subst hi; exact .int _ _
              | 2, hi => simp at hi; subst hi; exact .int _ _
              | n + 3, hi => simp at hi
          · rename_i hlt
            cases hp
            refine OpOk.val hw ?_ (.tup [.bool false] #[.bool false] rfl (fun i x hi => ?_))
            · simp only [execOp, ho]
              refine sem_val ?_
              rw [hb]
              exact next_end hbl (by omega)
            · match i, hi with
              | 0, hi => simp at hi; subst hi; exact .bool _
              | n + 1, hi => simp at hi
        · cases hp
      · cases hp
    · obtain ⟨b, _, hmb⟩ := call_only hm ⟨(fun _ _ h => by cases h), (fun _ _ h => by cases h), (fun _ _ h => by cases h)⟩
      simp [mBuiltin] at hmb

end
end Go.Proofs.YtleommjdeejmkaaGreatDoor.Zq
