/-
  The abstract machine's operations on temporaries, held against the program's: one theorem for all of them.
  The abstract machine's operations that read the store, held against the program's.
  The abstract machine's operations that write the store, held against the program's (first part).
  The abstract machine's operations that write the store, held against the program's (second part): stores, appends, new slices.
  The abstract machine's append, held against the program's.
  Conditions: none but those that each theorem names.
-/
import Derived.Test.YtleommjdeejmkaaGreatDoorZMc
import Derived.Deep.AppendSrc
import Derived.Laws.BytesString
import Derived.Laws.MakeOwn
import Derived.Deep.Upon
set_option linter.all false

namespace Go.Proofs.YtleommjdeejmkaaGreatDoor.Zq
open Go Go.RowKit

section
variable {E : Env} {V : Vw} {fr : List AV} {a : Act} {base : World}

theorem conv_sim {src dst : TypeId} {y : Operand} {k : IntKind} {x : Opd} {v : AV} (hf : FRel E V fr a.tmps) (hm : mConv E src dst y (.conv k x) = true) (hp : pop fr (.conv k x) = some v) :
    ∃ v', (convert src dst (a.eval y)).run E.P V.w = .ok v' V.w ∧ VRel E V v v' := by
  simp only [mConv, Bool.and_eq_true] at hm
  obtain ⟨⟨hx, hd⟩, hs⟩ := hm
  split at hd
  · rename_i k' hu
    rw [beq_iff_eq] at hd; subst hd
    simp only [pop] at hp
    split at hp
    · rename_i q n hn
      cases hp
      rw [(opd_rel hf hx hn).int_inv]
      obtain ⟨d, hsd⟩ := Option.isSome_iff_exists.1 hs
      exact ⟨.int k (k.wrap n), by simp [convert, run_underlying hsd, run_underlying hu, Conv.intToInt], .int _ _⟩
    · cases hp
  · cases hd

theorem lenS_sim {t ty : TypeId} {b : ByteArray} (h : E.P.underlying t = some .string) (w : World) : (Builtin.len_ #[t] ty #[.string b]).run E.P w = .ok (.int .i64 b.size) w := by
  simp only [Builtin.len_, List.getElem?_toArray, List.getElem?_cons_zero, Sem.run_bind, run_underlying h, Result.andThen_ok]
  rfl

theorem lenL_sim {t ty e : TypeId} {p : Option Addr} {n c : Nat} (h : E.P.underlying t = some (.slice e)) (w : World) : (Builtin.len_ #[t] ty #[.slice p n c]).run E.P w = .ok (.int .i64 n) w := by
  simp only [Builtin.len_, List.getElem?_toArray, List.getElem?_cons_zero, Sem.run_bind, run_underlying h, Result.andThen_ok]
  rfl

theorem builtin_val {b : Builtin} {ts : Array TypeId} {ty : TypeId} {cs : Array Bool} {args : Array Value} {s : Sem Value} {v : Value} {w w' : World} (hb : builtin b ts ty cs args = (do pure (Next.value (← s)))) (h : s.run E.P w = .ok v w') :
    (builtin b ts ty cs args).run E.P w = .ok (.value v) w' := by
  rw [hb]; exact sem_val h

/-- A call of a builtin, as the model carries it out. -/
theorem callB {o : Oper} {c : Call} {b : Builtin} (ho : o.op = .call c) (hc : c.callee = .builtin b) :
    execOp a.eval o = builtin b c.argTypes o.type (c.args.map fun | .const _ => true | _ => false) (c.args.map a.eval) := by
  simp only [execOp, ho, resolve, hc]
  rfl

theorem arr1 {α : Type} {x : Array α} {y : α} (h : x.toList = [y]) : x = #[y] := by
  apply Array.ext'; simpa using h
theorem arr2 {α : Type} {x : Array α} {y z : α} (h : x.toList = [y, z]) : x = #[y, z] := by
  apply Array.ext'; simpa using h

theorem map1 {α β : Type} (f : α → β) (y : α) : Array.map f #[y] = #[f y] := by simp
theorem map2 {α β : Type} (f : α → β) (y z : α) : Array.map f #[y, z] = #[f y, f z] := by simp

theorem pbuiltin_sim (hw : WRel E base V) (hf : FRel E V fr a.tmps) {o : Oper} {c : Call} {b : Builtin} (ho : o.op = .call c) (hc : c.callee = .builtin b) {io : IOp} {v : AV}
    (hm : mBuiltin E io b c.args.toList c.argTypes.toList = true) (hp : pop fr io = some v) : OpOk E base V (execOp a.eval o) v V.S := by
  rw [callB ho hc]
  unfold mBuiltin at hm
  split at hm
  · rename_i n y t h1 h2
    simp only [pop, opd, Option.some.injEq] at hp; subst hp
    rw [arr1 h1, arr1 h2, map1 a.eval]
    have key : (Builtin.len_ #[t] o.type #[a.eval y]).run E.P V.w = .ok (.int .i64 n) V.w := by
      simp only [Builtin.len_, List.getElem?_toArray, List.getElem?_cons_zero, Sem.run_bind]
      split at hm
      · rename_i k e hu; rw [beq_iff_eq] at hm; subst hm; rw [run_underlying hu]; rfl
      · rename_i e hu
        split at hm
        · rename_i k e' hu'; rw [beq_iff_eq] at hm; subst hm; rw [run_underlying hu]; simp only [Result.andThen_ok, Sem.run_bind, run_underlying hu']; rfl
        · cases hm
      · cases hm
    exact OpOk.val hw (builtin_val rfl key) (.int _ _)
  · rename_i s x y t h1 h2
    simp only [Bool.and_eq_true] at hm
    obtain ⟨hx, hu⟩ := hm
    rw [arr1 h1, arr1 h2, map1 a.eval]
    split at hu
    · rename_i hu'
      subst hu
      simp only [pop] at hp
      split at hp
      · rename_i l hl
        cases hp
        obtain ⟨bs, e1, e2⟩ := (opd_rel hf hx hl).str_inv
        refine OpOk.val hw (builtin_val rfl (?_ : (Builtin.len_ #[t] o.type #[a.eval y]).run E.P V.w = .ok (.int .i64 l.length) V.w)) (.int _ _)
        rw [e1, lenS_sim hu', ← e2]; rfl
      · cases hp
    · rename_i e hu'
      have hs : s = false := by simpa using hu
      subst hs
      have fin : ∀ (p : Option Addr) (n cap : Nat), a.eval y = .slice p n cap → v = .int .i64 n → OpOk E base V (builtin .len #[t] o.type (Array.map (fun | .const _ => true | _ => false) #[y]) #[a.eval y]) v V.S := by
        intro p n cap e1 e2
        subst e2
        refine OpOk.val hw (builtin_val rfl (?_ : (Builtin.len_ #[t] o.type #[a.eval y]).run E.P V.w = .ok (.int .i64 n) V.w)) (.int _ _)
        rw [e1, lenL_sim hu']
      simp only [pop] at hp
      split at hp
      · rename_i hl
        cases hp
        have := opd_rel hf hx hl
        obtain ⟨uy, hy⟩ : ∃ uy, a.eval y = uy := ⟨_, rfl⟩
        rw [hy] at this
        cases this with
        | zsl b p h => exact fin p 0 0 hy rfl
      · rename_i z rows hl
        cases hp
        obtain ⟨p, cap, e1, _⟩ := sl_inv (opd_rel hf hx hl)
        exact fin p _ cap e1 rfl
      · rename_i r w z off n hl
        cases hp
        obtain ⟨b', o', cap, e1, _⟩ := msl_inv (opd_rel hf hx hl)
        exact fin _ n cap e1 rfl
      · cases hp
    · cases hu
  · simp [pop] at hp
  · rename_i x y p q t u h1 h2
    simp only [Bool.and_eq_true] at hm
    obtain ⟨hx, hy⟩ := hm
    rw [arr2 h1, arr2 h2, map2 a.eval]
    simp only [pop] at hp
    split at hp
    · rename_i k m k' n hm' hn'
      split at hp
      · rename_i hk
        subst hk
        cases hp
        have e1 := (opd_rel hf hx hm').int_inv
        have e2 := (opd_rel hf hy hn').int_inv
        refine OpOk.val hw (builtin_val rfl (?_ : (Builtin.min_ #[t, u] o.type #[a.eval p, a.eval q]).run E.P V.w = .ok (.int k (if n < m then n else m)) V.w)) (.int _ _)
        rw [e1, e2]
        simp [Builtin.min_, Builtin.min2]
      · cases hp
    · cases hp
  · rename_i x y p q t u h1 h2
    simp only [Bool.and_eq_true] at hm
    obtain ⟨hx, hy⟩ := hm
    rw [arr2 h1, arr2 h2, map2 a.eval]
    simp only [pop] at hp
    split at hp
    · rename_i k m k' n hm' hn'
      split at hp
      · rename_i hk
        subst hk
        cases hp
        have e1 := (opd_rel hf hx hm').int_inv
        have e2 := (opd_rel hf hy hn').int_inv
        refine OpOk.val hw (builtin_val rfl (?_ : (Builtin.max_ #[t, u] o.type #[a.eval p, a.eval q]).run E.P V.w = .ok (.int k (if n > m then n else m)) V.w)) (.int _ _)
        rw [e1, e2]
        simp [Builtin.max_, Builtin.max2]
      · cases hp
    · cases hp
  · rename_i x y t h1 h2
    simp only [Bool.and_eq_true] at hm
    obtain ⟨hx, hu⟩ := hm
    rw [arr1 h1, arr1 h2, map1 a.eval]
    split at hu
    · rename_i e hu'
      simp only [pop] at hp
      split at hp
      · rename_i b hl
        cases hp
        have := opd_rel hf hx hl
        obtain ⟨uy, hy⟩ : ∃ uy, a.eval y = uy := ⟨_, rfl⟩
        rw [hy] at this ⊢
        cases this with
        | zsl b p h =>
          refine OpOk.val hw (builtin_val rfl (?_ : (Builtin.cap_ #[t] o.type #[.slice p 0 0]).run E.P V.w = .ok (.int .i64 0) V.w)) (.int _ _)
          simp [Builtin.cap_, run_underlying hu', goInt]
      · cases hp
    · cases hu
  · simp [pop] at hp
  · simp [pop] at hp
  · simp [pop] at hp
  · cases hm

theorem addr_of {u : Value} {b o : Nat} (h : u = .pointer (some ⟨b, o, none⟩)) (w : World) : (Instr.sureAddr u).run E.P w = .ok ⟨b, o, none⟩ w := by
  subst h; rfl

theorem field_sim (hf : FRel E V fr a.tmps) {s : TypeId} {y : Operand} {f : Nat} {x : Opd} {off n : Nat} {agg : Bool} {v : AV} (hx : mOpd E x y = true) {fs : Array Field} (hu : E.P.underlying s = some (.struct fs))
    {g : Field} (hg : fs[f]? = some g) (hoff : g.offset = off) (hc : cellT E g.type agg n = true) (hp : pop fr (.fld x off n agg) = some v) :
    ∃ v', (Instr.field s (a.eval y) f).run E.P V.w = .ok v' V.w ∧ VRel E V v v' := by
  simp only [pop] at hp
  split at hp
  · rename_i cs hcs
    split at hp
    · rename_i cs' hsp
      obtain ⟨vs, e1, h1, h2, h3⟩ := (opd_rel hf hx hcs).agg_inv
      obtain ⟨v', r1, r2⟩ := part_val (E := E) (V := V) hc ⟨h1, h2, h3⟩ hsp hp V.w
      refine ⟨v', ?_, r2⟩
      subst hoff
      rw [e1]
      simp only [Instr.field, Sem.run_bind, run_underlying hu, Result.andThen_ok, hg, asAgg, Sem.run_pure, r1]
    · cases hp
  · cases hp

theorem mkfn_sim (hf : FRel E V fr a.tmps) {g : FuncId} {f : Nat} {as bs : Array Operand} {first caps : List Opd} {v : AV} (hg : E.σ g = some f) (h1 : mOpds E first as.toList = true) (h2 : mOpds E caps bs.toList = true)
    (hp : pop fr (.mkfn f first caps) = some v) : VRel E V v (.func (.func g) (as.map a.eval) (bs.map a.eval)) := by
  simp only [pop] at hp
  split at hp
  · rename_i us ws hus hws
    cases hp
    obtain ⟨l1, r1⟩ := opds_rel hf h1 hus
    obtain ⟨l2, r2⟩ := opds_rel hf h2 hws
    exact .fn _ _ _ _ _ _ hg (by simpa using l1.symm) (by simpa using l2.symm) (fun i x hi => by rw [← arr_getD]; simpa using r1 i x hi) (fun i x hi => by rw [← arr_getD]; simpa using r2 i x hi)
  · cases hp

theorem pop_sim (hw : WRel E base V) (hf : FRel E V fr a.tmps) {o : Oper} {io : IOp} {v : AV} (hm : mOp E io o.op = true) (hp : pop fr io = some v) : OpOk E base V (execOp a.eval o) v V.S := by
  unfold mOp at hm
  split at hm
  · -- move
    rename_i y ho
    cases io <;> simp only [Bool.false_eq_true] at hm
    rename_i x
    exact OpOk.val hw (by simp only [execOp, ho]; rfl) (opd_rel hf hm hp)
  · rename_i y ho
    cases io <;> simp only [Bool.false_eq_true] at hm
    exact OpOk.val hw (by simp only [execOp, ho]; rfl) (opd_rel hf hm hp)
  · rename_i c' a' b' ho
    cases io <;> simp only [Bool.false_eq_true] at hm
    rename_i c x y
    simp only [Bool.and_eq_true] at hm
    obtain ⟨⟨hc, ha⟩, hb⟩ := hm
    simp only [pop] at hp
    split at hp
    · rename_i t u w h1 h2 h3
      cases hp
      have e1 := (opd_rel hf hc h1).bool_inv
      have r2 := opd_rel hf ha h2
      have r3 := opd_rel hf hb h3
      refine OpOk.val (v' := if t then a.eval a' else a.eval b') hw ?_ (by cases t <;> simpa)
      simp only [execOp, ho, e1, asBool]
      cases t <;> rfl
    · cases hp
  · rename_i op t x y yt ho
    obtain ⟨v', r1, r2⟩ := bin_sim hw hf hm hp
    exact OpOk.val hw (by simp only [execOp, ho]; exact sem_val r1) r2
  · rename_i op t x ho
    cases io <;> simp only [Bool.false_eq_true] at hm
    simp only [Bool.and_eq_true, beq_iff_eq] at hm
    obtain ⟨rfl, hx⟩ := hm
    simp only [pop] at hp
    split at hp
    · rename_i u hu
      obtain ⟨v', r1, r2⟩ := aun_run (E := E) (V := V) hp (opd_rel hf hx hu)
      exact OpOk.val hw (by simp only [execOp, ho]; exact sem_val r1) r2
    · cases hp
  · rename_i src dst y ho
    cases io <;> simp only [mConv, Bool.false_eq_true] at hm
    · obtain ⟨v', r1, r2⟩ := conv_sim hf hm hp
      exact OpOk.val hw (by simp only [execOp, ho]; exact sem_val r1) r2
    · simp [pop] at hp
    · simp [pop] at hp
  · rename_i t ps ho
    cases io <;> simp only [mBuild, Bool.false_eq_true] at hm
    obtain ⟨v', r1, r2⟩ := build_sim hf hm hp
    exact OpOk.val hw (by simp only [execOp, ho]; exact sem_val r1) r2
  · rename_i t n ps ho
    cases io <;> simp only [mBuildSlice, Bool.false_eq_true] at hm
    · obtain ⟨v', ob, r1, r2⟩ := buildSlice_sim hw hf hm hp
      exact OpOk.grow hw (by simp only [execOp, ho]; exact sem_val r1) r2
    · simp [pop] at hp
  · rename_i t y ho
    cases io <;> simp only [Bool.false_eq_true] at hm
    · rename_i x
      simp only [pop] at hp
      split at hp
      · rename_i u hu
        split at hp
        · rename_i cs hcs
          cases hp
          have hcr := (opd_rel hf hm hu).crel hcs
          have hl := Later.grow V (.cells (a.eval y).cells t)
          refine OpOk.grow (o := .cells (a.eval y).cells t) (v' := .pointer (some ⟨V.w.heap.size, 0 + 0, none⟩)) hw ?_ ?_
          · simp only [execOp, ho]
            refine sem_val ?_
            simp [Instr.box, newVar, newRow]
          · refine .vptr cs 0 _ 0 (fun j => (a.eval y).cells.getD j undef) (hw.new_settled _) (fun j x hj => ?_) (fun j x hj => hcr.2.1 j ?_) (fun j x hj => (hcr.2.2 j x hj).later hl)
            · rw [grow_cell, Nat.zero_add]
              refine get_of_lt ?_
              rw [hcr.1]
              rcases Nat.lt_or_ge j cs.length with h | h
              · exact h
              · rw [List.getElem?_eq_none h] at hj; cases hj
            · rw [hcr.1]
              rcases Nat.lt_or_ge j cs.length with h | h
              · exact h
              · rw [List.getElem?_eq_none h] at hj; cases hj
        · cases hp
      · cases hp
    · simp [pop] at hp
  · cases io <;> simp only [Bool.false_eq_true] at hm
    simp [pop] at hp
  · rename_i t b ho
    cases io <;> simp only [Bool.false_eq_true] at hm
    · rename_i agg n x
      simp only [Bool.and_eq_true] at hm
      obtain ⟨hx, hc⟩ := hm
      simp only [pop] at hp
      split at hp
      · rename_i row off hr
        obtain ⟨v', r1, r2⟩ := loadAt_sim hw hc (opd_rel hf hx hr) (by simpa [loadAt] using hp)
        exact OpOk.val hw (by simp only [execOp, ho]; exact sem_val r1) r2
      · cases hp
    · simp [pop] at hp
  · cases io <;> simp only [Bool.false_eq_true] at hm
    simp [pop] at hp
  · rename_i s b f ho
    cases io <;> simp only [Bool.false_eq_true] at hm
    rename_i x off
    simp only [Bool.and_eq_true] at hm
    obtain ⟨hx, hu⟩ := hm
    split at hu
    · rename_i fs hus
      split at hu
      · rename_i g hg
        simp only [Bool.and_eq_true, beq_iff_eq] at hu
        obtain ⟨hoff, hz⟩ := hu
        split at hz
        · rename_i z hsz
          simp only [pop] at hp
          split at hp
          · rename_i u hu0
            obtain ⟨b', o', e1, e2⟩ := fieldA_sim (opd_rel hf hx hu0) hp
            refine OpOk.val hw ?_ e2
            simp only [execOp, ho]
            refine sem_val ?_
            have hz' : ¬ (z = 0) := by simpa using hz
            simp only [Instr.fieldAt, Sem.run_bind, run_underlying hus, Result.andThen_ok, hg, addr_of e1, fieldPlace, run_sizeOf' hsz, hz', if_false, Sem.run_pure, add_addr, hoff]
          · cases hp
        · cases hz
      · cases hu
    · cases hu
  · rename_i s y f ho
    cases io <;> simp only [Bool.false_eq_true] at hm
    simp only [Bool.and_eq_true] at hm
    obtain ⟨hx, hu⟩ := hm
    split at hu
    · rename_i fs hus
      split at hu
      · rename_i g hg
        simp only [Bool.and_eq_true, beq_iff_eq] at hu
        obtain ⟨v', r1, r2⟩ := field_sim hf hx hus hg hu.1 hu.2 hp
        exact OpOk.val hw (by simp only [execOp, ho]; exact sem_val r1) r2
      · cases hu
    · cases hu
  · rename_i t y j ho
    unfold mIndexAddr at hm
    split at hm
    · rename_i z x i
      simp only [Bool.and_eq_true] at hm
      obtain ⟨⟨⟨hx, hi⟩, hz0⟩, hu⟩ := hm
      split at hu
      · rename_i e hue
        rw [beq_iff_eq] at hu
        simp only [pop] at hp
        split at hp
        · rename_i u w h1 h2
          obtain ⟨v', r1, r2⟩ := indexA_sim hue hu (opd_rel hf hx h1) (opd_rel hf hi h2) hp
          exact OpOk.val hw (by simp only [execOp, ho]; exact sem_val r1) r2
        · cases hp
      · cases hu
    · rename_i x i len esz
      simp only [Bool.and_eq_true] at hm
      obtain ⟨⟨⟨hx, hi⟩, hz0⟩, hu⟩ := hm
      split at hu
      · rename_i n e hue
        simp only [Bool.and_eq_true, beq_iff_eq] at hu
        obtain ⟨rfl, hsz⟩ := hu
        simp only [pop] at hp
        split at hp
        · rename_i u k m h1 h2
          split at hp
          · rename_i hc
            obtain ⟨b', o', e1, e2⟩ := fieldA_sim (opd_rel hf hx h1) hp
            refine OpOk.val hw ?_ e2
            simp only [execOp, ho]
            refine sem_val ?_
            have hc' : 0 ≤ m ∧ m < (n : Int) := hc
            rw [(opd_rel hf hi h2).int_inv]
            simp only [Instr.indexAt, Sem.run_bind, asIntOf, Sem.run_pure, Result.andThen_ok, run_underlying hue, addr_of e1, hc', and_self, if_true, run_sizeOf' hsz, add_addr]
          · cases hp
        · cases hp
      · cases hu
    · cases hm
  · rename_i t y j ho
    obtain ⟨v', r1, r2⟩ := index_sim hf hm hp
    exact OpOk.val hw (by simp only [execOp, ho]; exact sem_val r1) r2
  · rename_i t y l h m ho
    unfold mSlice at hm
    split at hm
    · rename_i x lo hi
      simp only [Bool.and_eq_true] at hm
      obtain ⟨⟨⟨⟨hx, hl⟩, hh⟩, hmn⟩, hu⟩ := hm
      split at hu
      · rename_i hus
        simp only [pop] at hp
        split at hp
        · rename_i u w1 w2 h1 h2 h3
          obtain ⟨v', r1, r2⟩ := asls_sim hus (opd_rel hf hx h1) (oopd_rel hf hl h2) (oopd_rel hf hh h3) hp
          have : m = none := by cases m <;> simp_all
          subst this
          exact OpOk.val hw (by simp only [execOp, ho]; exact sem_val r1) r2
        · cases hp
      · cases hu
    · rename_i z x lo hi mx
      simp only [Bool.and_eq_true] at hm
      obtain ⟨⟨⟨⟨⟨⟨hx, hl⟩, hh⟩, hmm⟩, h3⟩, hz0⟩, hu⟩ := hm
      split at hu
      · rename_i e hue
        rw [beq_iff_eq] at hu
        simp only [pop] at hp
        split at hp
        · rename_i u w1 w2 w3 h1 h2 h4 h5
          have hm3 : w3.isSome = true → w2.isSome = true := by
            cases mx with
            | none => simp only [oopd, Option.some.injEq] at h5; subst h5; simp
            | some q =>
              cases hi with
              | none => simp at h3
              | some r =>
                simp only [oopd] at h4
                cases hr : opd fr r with
                | none => simp [hr] at h4
                | some rv => simp [hr] at h4; subst h4; simp
          obtain ⟨v', r1, r2⟩ := aslice_sim (by simpa using hz0) hue hu hm3 (opd_rel hf hx h1) (oopd_rel hf hl h2) (oopd_rel hf hh h4) (oopd_rel hf hmm h5) hp
          exact OpOk.val hw (by simp only [execOp, ho]; exact sem_val r1) r2
        · cases hp
      · cases hu
    · cases hm
  · cases io <;> simp only [Bool.false_eq_true] at hm
    simp [pop] at hp
  · cases io <;> simp only [Bool.false_eq_true] at hm
    simp [pop] at hp
  · cases io <;> simp only [Bool.false_eq_true] at hm
    simp [pop] at hp
  · cases io <;> simp only [Bool.false_eq_true] at hm
    simp [pop] at hp
  · cases io <;> simp only [Bool.false_eq_true] at hm
    simp [pop] at hp
  · cases io <;> simp only [Bool.false_eq_true] at hm
    simp [pop] at hp
  · rename_i y j ho
    cases io <;> simp only [Bool.false_eq_true] at hm
    rename_i x i
    simp only [Bool.and_eq_true, beq_iff_eq] at hm
    obtain ⟨hx, rfl⟩ := hm
    simp only [pop] at hp
    split at hp
    · rename_i vs hvs
      obtain ⟨ws, e1, h1, h2⟩ := (opd_rel hf hx hvs).tup_inv
      have hlt : i < ws.size := by
        rw [h1]
        rcases Nat.lt_or_ge i vs.length with h | h
        · exact h
        · rw [List.getElem?_eq_none h] at hp; cases hp
      refine OpOk.val (v' := ws.getD i undef) hw ?_ (h2 i v hp)
      simp only [execOp, ho]
      refine sem_val ?_
      rw [e1]
      simp only [Instr.extract, get_of_lt hlt]
      rfl
    · cases hp
  · rename_i y ho
    cases io <;> simp only [Bool.false_eq_true] at hm
    rename_i x
    simp only [pop] at hp
    split at hp
    · rename_i hx; cases hp
      have := opd_rel hf hm hx
      obtain ⟨uy, hy⟩ : ∃ uy, a.eval y = uy := ⟨_, rfl⟩
      rw [hy] at this
      cases this with
      | ref _ _ _ _ b o' h h2 => exact OpOk.val hw (by simp only [execOp, ho, hy]; rfl) (.ref _ _ _ _ b o' h h2)
    · rename_i hx; cases hp
      have := opd_rel hf hm hx
      obtain ⟨uy, hy⟩ : ∃ uy, a.eval y = uy := ⟨_, rfl⟩
      rw [hy] at this
      cases this with
      | vptr _ _ b o' f hs hc h1 hv => exact OpOk.val hw (by simp only [execOp, ho, hy]; rfl) (.vptr _ _ b o' f hs hc h1 hv)
    · rename_i hx; cases hp
      have := opd_rel hf hm hx
      obtain ⟨uy, hy⟩ : ∃ uy, a.eval y = uy := ⟨_, rfl⟩
      rw [hy] at this
      cases this with
      | fn _ g _ _ fs cs hg hf' hcs hvf hvc => exact OpOk.val hw (by simp only [execOp, ho, hy]; rfl) (.fn _ g _ _ fs cs hg hf' hcs hvf hvc)
    · rename_i hx; cases hp
      have := opd_rel hf hm hx
      obtain ⟨uy, hy⟩ : ∃ uy, a.eval y = uy := ⟨_, rfl⟩
      rw [hy] at this
      cases this with
      | iface _ u _ w ht hv => exact OpOk.val hw (by simp only [execOp, ho, hy]; rfl) (.iface _ u _ w ht hv)
    · cases hp
  · rename_i fn as bs ho
    split at hm
    · rename_i f first caps g
      simp only [Bool.and_eq_true, beq_iff_eq] at hm
      obtain ⟨⟨hg, h1⟩, h2⟩ := hm
      exact OpOk.val hw (by simp only [execOp, ho]; rfl) (mkfn_sim hf hg h1 h2 hp)
    · cases hm
  · rename_i u y ho
    cases io <;> simp only [Bool.false_eq_true] at hm
    rename_i t x
    simp only [Bool.and_eq_true, beq_iff_eq] at hm
    obtain ⟨⟨hx, ht⟩, hu⟩ := hm
    simp only [pop] at hp
    split at hp
    · rename_i w hw'
      cases hp
      refine OpOk.val (v' := .iface u (a.eval y)) hw ?_ (.iface _ _ _ _ ht (opd_rel hf hx hw'))
      simp only [execOp, ho]
      refine sem_val ?_
      cases hd : E.P.underlying u with
      | none => simp [hd] at hu
      | some d => cases d <;> first | (simp [hd] at hu; done) | simp [Instr.makeInterface, run_underlying hd]
    · cases hp
  · rename_i c ho
    unfold mCall at hm
    split at hm
    · split at hm
      · simp [pop] at hp
      · simp [pop] at hp
      · simp [pop] at hp
      · cases hm
    · rename_i b hc
      exact pbuiltin_sim hw hf ho hc hm hp
    · cases hm
  · unfold mDefer at hm
    split at hm
    · simp [pop] at hp
    · cases hm
  · cases hm

end
end Go.Proofs.YtleommjdeejmkaaGreatDoor.Zq

namespace Go.Proofs.YtleommjdeejmkaaGreatDoor.Zq
open Go Go.RowKit

section
variable {E : Env} {V : Vw} {fr : List AV} {a : Act} {base : World}

/-- The rows of a slice, where they lie. -/
def RowsAt (E : Env) (V : Vw) (rows : List (List AV)) (z : Nat) (p : Option Addr) : Prop :=
  rows ≠ [] → ∃ (b o : Nat) (g : Nat → Nat → Value), p = some ⟨b, o, none⟩ ∧ (∀ (i : Nat) (row : List AV), rows[i]? = some row → row.length = z) ∧
    ∀ (i j : Nat) (row : List AV) (x : AV), rows[i]? = some row → row[j]? = some x → V.w.cell? ⟨b, o + i * z + j, none⟩ = some (g i j) ∧ one (g i j) = true ∧ VRel E V x (g i j)

theorem sl_rows {z : Nat} {rows : List (List AV)} {u : Value} (h : VRel E V (.sl z rows) u) : ∃ p cap, u = .slice p rows.length cap ∧ rows.length ≤ cap ∧ RowsAt E V rows z p := by
  obtain ⟨p, cap, rfl, hl, hall⟩ := sl_inv h
  refine ⟨p, cap, rfl, hl, fun hne => ?_⟩
  obtain ⟨b, o, f, rfl, hs, hz, hc, h1, hv⟩ := hall hne
  exact ⟨b, o, f, rfl, hz, fun i j row x hi hj => ⟨hc i j row x hi hj, h1 i j row x hi hj, hv i j row x hi hj⟩⟩

theorem msl_rows (hw : WRel E base V) {r ver z off len : Nat} {u : Value} {rows rs : List (List AV)} (h : VRel E V (.msl r ver z off len) u) (hr : cellsAt V.S r ver = some rows) (hle : off + len ≤ rows.length) (hrs : rs = (rows.drop off).take len) :
    ∃ b o cap, u = .slice (some ⟨b, o, none⟩) rs.length cap ∧ rs.length = len ∧ len ≤ cap ∧ RowsAt E V rs z (some ⟨b, o, none⟩) := by
  obtain ⟨b, o, cap, rfl, hb, hlc, hall⟩ := msl_inv h
  obtain ⟨q1, q2, q3, q4⟩ := hall rows hr
  have hlen : rs.length = len := by subst hrs; simp; omega
  refine ⟨b, o, cap, by rw [hlen], hlen, hlc, fun hne => ?_⟩
  have hpos : 0 < len := by rw [← hlen]; exact List.length_pos_iff.2 hne
  obtain ⟨rfl, rfl⟩ := q4.resolve_left (by omega)
  obtain ⟨cs, e, lo, hi, hblk, _, _, _, hz, hcell⟩ := cells_obj hw hr
  have hget : ∀ {i : Nat} {row : List AV}, rs[i]? = some row → rows[off + i]? = some row := fun {i row} h => by
    subst hrs
    have hi : i < len := by
      rcases Nat.lt_or_ge i len with h' | h'
      · exact h'
      · rw [List.getElem?_eq_none (by simp; omega)] at h; cases h
    rwa [List.getElem?_take_of_lt hi, List.getElem?_drop] at h
  refine ⟨_, _, fun i j => (V.w.cell? ⟨(V.μ r).blk, (V.μ r).base + off * z + i * z + j, none⟩).getD undef, rfl, fun i row hi => by rw [← q1]; exact hz _ _ (hget hi), fun i j row x hi hj => ?_⟩
  obtain ⟨v, v1, v2, v3⟩ := hcell (off + i) j row x (hget hi) hj
  have : V.w.cell? ⟨(V.μ r).blk, (V.μ r).base + off * z + i * z + j, none⟩ = some v := by
    rw [cell_at hblk, ← v1, q1, Nat.add_mul, Nat.add_assoc (V.μ r).base]
  simp only [this]; exact ⟨rfl, v2, v3⟩

/-- The cells of rows, one behind the other. -/
theorem flat_cells {rows : List (List AV)} {z : Nat} {b o : Nat} (hz : z ≠ 0) (h : RowsAt E V rows z (some ⟨b, o, none⟩)) :
    ∃ news : List Value, news.length = rows.length * z ∧ (∀ (k : Nat) (u : Value), news[k]? = some u → V.w.cell? ⟨b, o + k, none⟩ = some u) ∧ (∀ u ∈ news, one u = true) ∧
      ∀ (i j : Nat) (row : List AV) (x : AV), rows[i]? = some row → row[j]? = some x → j < z ∧ ∃ u, news[i * z + j]? = some u ∧ VRel E V x u := by
  by_cases hne : rows = []
  · subst hne; exact ⟨[], by simp, by simp, by simp, by simp⟩
  obtain ⟨b', o', g, hp, hrz, hg⟩ := h hne
  simp only [Option.some.injEq, Addr.mk.injEq, and_true] at hp
  obtain ⟨rfl, rfl⟩ := hp
  have hzp : 0 < z := Nat.pos_of_ne_zero hz
  have get : ∀ k, k < rows.length * z → ∃ row x, rows[k / z]? = some row ∧ row[k % z]? = some x := fun k hk => by
    have h1 : k / z < rows.length := Nat.div_lt_of_lt_mul (by rwa [Nat.mul_comm] at hk)
    obtain ⟨row, hrow⟩ := getElem?_lt h1
    have h2 : k % z < row.length := by rw [hrz _ _ hrow]; exact Nat.mod_lt _ hzp
    obtain ⟨x, hx⟩ := getElem?_lt h2
    exact ⟨row, x, hrow, hx⟩
  refine ⟨(List.range (rows.length * z)).map fun k => g (k / z) (k % z), by simp, fun k u hk => ?_, fun u hu => ?_, fun i j row x hi hj => ?_⟩
  · have hk' : k < rows.length * z := by
      rcases Nat.lt_or_ge k (rows.length * z) with h | h
      · exact h
      · rw [List.getElem?_eq_none (by simpa using h)] at hk; cases hk
    rw [List.getElem?_map, List.getElem?_range hk'] at hk
    simp at hk; subst hk
    obtain ⟨row, x, h1, h2⟩ := get k hk'
    have := (hg _ _ row x h1 h2).1
    rwa [Nat.add_assoc, show k / z * z + k % z = k by rw [Nat.mul_comm]; exact Nat.div_add_mod k z] at this
  · obtain ⟨k, hk, rfl⟩ := List.mem_map.1 hu
    obtain ⟨row, x, h1, h2⟩ := get k (List.mem_range.1 hk)
    exact (hg _ _ row x h1 h2).2.1
  · have hjz : j < z := by
      rw [← hrz _ _ hi]
      rcases Nat.lt_or_ge j row.length with h | h
      · exact h
      · rw [List.getElem?_eq_none h] at hj; cases hj
    have hil : i < rows.length := by
      rcases Nat.lt_or_ge i rows.length with h | h
      · exact h
      · rw [List.getElem?_eq_none h] at hi; cases hi
    refine ⟨hjz, g i j, ?_, (hg i j row x hi hj).2.2⟩
    have hk : i * z + j < rows.length * z := by
      calc i * z + j < i * z + z := by omega
        _ = (i + 1) * z := by rw [Nat.add_mul, Nat.one_mul]
        _ ≤ rows.length * z := Nat.mul_le_mul_right z hil
    rw [List.getElem?_map, List.getElem?_range hk]
    have e1 : (i * z + j) / z = i := by rw [Nat.mul_comm, Nat.mul_add_div hzp, Nat.div_eq_of_lt hjz, Nat.add_zero]
    have e2 : (i * z + j) % z = j := by rw [Nat.mul_comm, Nat.mul_add_mod, Nat.mod_eq_of_lt hjz]
    simp [e1, e2]

theorem rowsBytes_spec : ∀ {rows : List (List AV)} {bs : List UInt8}, rowsBytes rows = some bs → ∃ ns : List Int, rows = ns.map (fun n => [AV.int .u8 n]) ∧ bs = ns.map fun n => UInt8.ofNat n.toNat
  | [], bs, h => by simp only [rowsBytes, Option.some.injEq] at h; subst h; exact ⟨[], rfl, rfl⟩
  | r :: rs, bs, h => by
    unfold rowsBytes at h
    split at h
    · rename_i b bs' h1 h2
      cases h
      obtain ⟨ns, rfl, rfl⟩ := rowsBytes_spec h2
      unfold rowByte at h1
      split at h1
      · rename_i n; cases h1; exact ⟨n :: ns, rfl, rfl⟩
      · cases h1
    · cases h

theorem foldl_push : ∀ (ns : List Int) (s : ByteArray), (ns.foldl (fun r n => r.push (UInt8.ofNat n.toNat)) s).data.toList = s.data.toList ++ ns.map fun n => UInt8.ofNat n.toNat
  | [], s => by simp
  | n :: ns, s => by rw [List.foldl_cons, foldl_push ns]; simp [ByteArray.push]

theorem b2s_run {p : Option Addr} {cap : Nat} {ns : List Int} {rows : List (List AV)} (hrows : rows = ns.map fun n => [AV.int .u8 n]) (h : RowsAt E V rows 1 p) (hn : p = none → rows = []) :
    ∃ bs : ByteArray, (Conv.bytesToString (.slice p rows.length cap)).run E.P V.w = .ok (.string bs) V.w ∧ bs.data.toList = ns.map fun n => UInt8.ofNat n.toNat := by
  cases p with
  | none =>
    have := hn rfl; subst this
    have : ns = [] := by simpa using hrows.symm
    subst this
    exact ⟨.empty, by simp [Conv.bytesToString], rfl⟩
  | some q =>
    have key : ∃ b o, rows ≠ [] → q = ⟨b, o, none⟩ := by
      by_cases hne : rows = []
      · exact ⟨0, 0, fun h => absurd hne h⟩
      · obtain ⟨b, o, g, hp, _⟩ := h hne; exact ⟨b, o, fun _ => Option.some.inj hp⟩
    have hload : (loadCells q rows.length).run E.P V.w = .ok (ns.map (Value.int .u8)).toArray V.w := by
      by_cases hne : rows = []
      · subst hne
        have : ns = [] := by simpa using hrows.symm
        subst this
        simp [loadCells, loadCellsFrom]
      · obtain ⟨b, o, g, hp, hz, hg⟩ := h hne
        cases hp
        have hl : rows.length = (ns.map (Value.int .u8)).length := by subst hrows; simp
        rw [hl]
        refine run_loadCells' _ fun j v hj => ?_
        rw [List.getElem?_map] at hj
        cases hnj : ns[j]? with
        | none => simp [hnj] at hj
        | some n =>
          simp [hnj] at hj; subst hj
          have := (hg j 0 [.int .u8 n] (.int .u8 n) (by subst hrows; simp [hnj]) rfl)
          rw [Nat.mul_one, Nat.add_zero] at this
          rw [this.1, this.2.2.int_inv]
    refine ⟨_, run_bytesToString V.w q rows.length cap ns hload, ?_⟩
    rw [foldl_push]; rfl

theorem srows_sim (hw : WRel E base V) {x : AV} {u : Value} {rows : List (List AV)} (hx : VRel E V x u) (h : srows V.S x = some rows) :
    ∃ p cap z, u = .slice p rows.length cap ∧ rows.length ≤ cap ∧ RowsAt E V rows z p ∧ (p = none → rows = []) := by
  unfold srows at h
  split at h
  · cases h
    cases hx with
    | zsl b p h => exact ⟨p, 0, 0, rfl, Nat.le_refl _, fun h => absurd rfl h, fun _ => rfl⟩
  · cases h
    obtain ⟨p, cap, rfl, hl, hr⟩ := sl_rows hx
    refine ⟨p, cap, _, rfl, hl, hr, fun hp => ?_⟩
    by_cases hne : rows = []
    · exact hne
    · obtain ⟨b, o, g, h1, _⟩ := hr hne; rw [hp] at h1; cases h1
  · rename_i r ver z off len
    split at h
    · rename_i rs hrs
      split at h
      · rename_i hle
        cases h
        obtain ⟨b, o, cap, h1, h2, h3, h4⟩ := msl_rows hw hx hrs hle rfl
        exact ⟨_, cap, z, h1, by omega, h4, fun hp => by cases hp⟩
      · cases h
    · cases h
  · cases h

theorem RowsAt.esz {rows : List (List AV)} {z z' : Nat} {p : Option Addr} (h : RowsAt E V rows z p) (hz : ∀ row ∈ rows, row.length = z') : RowsAt E V rows z' p := by
  intro hne
  obtain ⟨b, o, g, h1, h2, h3⟩ := h hne
  have : z = z' := by
    cases rows with
    | nil => exact absurd rfl hne
    | cons r rs => rw [← h2 0 r (by simp), hz r (by simp)]
  subst this
  exact ⟨b, o, g, h1, h2, h3⟩

theorem b2s_sim (hw : WRel E base V) {src dst : TypeId} {y : Operand} {x : Opd} {v : AV} (hf : FRel E V fr a.tmps) (hm : mConv E src dst y (.b2s x) = true) (hp : rop fr V.S (.b2s x) = some v) :
    ∃ v', (convert src dst (a.eval y)).run E.P V.w = .ok v' V.w ∧ VRel E V v v' := by
  simp only [mConv, Bool.and_eq_true] at hm
  obtain ⟨hx, hd⟩ := hm
  split at hd
  · rename_i e hu1 hu2
    split at hd
    · rename_i hu3
      simp only [rop] at hp
      split at hp
      · rename_i u hu
        split at hp
        · rename_i rows hrows
          cases hb : rowsBytes rows with
          | none => simp [hb] at hp
          | some bs =>
            simp only [hb, Option.map_some, Option.some.injEq] at hp; subst hp
            obtain ⟨p, cap, z, e1, hl, hr, hn⟩ := srows_sim hw (opd_rel hf hx hu) hrows
            obtain ⟨ns, e2, rfl⟩ := rowsBytes_spec hb
            obtain ⟨bs', r1, r2⟩ := b2s_run (cap := cap) e2 (hr.esz (z' := 1) (by subst e2; intro row hrow; obtain ⟨n, _, rfl⟩ := List.mem_map.1 hrow; rfl)) hn
            refine ⟨.string bs', ?_, .str _ _ r2⟩
            rw [e1]
            simp [convert, run_underlying hu1, run_underlying hu2, run_underlying hu3, r1]
        · cases hp
      · cases hp
    · cases hd
  · cases hd

theorem map_obj (hw : WRel E base V) {r : Nat} {es : List (AV × AV)} (h : V.S[r]? = some (.map es)) :
    ∃ mes clock, V.w.heap[(V.μ r).blk]? = some (.map mes clock) ∧ ERel E V es mes.toList := by
  obtain ⟨mes, clock, h1, h2, h3⟩ := hw.obj r _ h
  exact ⟨mes, clock, h1, by simpa using h2, fun i k v hi => by obtain ⟨me, m1, m2⟩ := h3 i k v hi; exact ⟨me, by simpa using m1, m2⟩⟩

theorem mapAt_sim (hw : WRel E base V) {x : AV} {u : Value} {es : List (AV × AV)} (hx : VRel E V x u) (h : mapAt V.S x = some es) :
    (u = .map none ∧ es = []) ∨ ∃ b mes clock, u = .map (some b) ∧ V.w.heap[b]? = some (.map mes clock) ∧ ERel E V es mes.toList := by
  unfold mapAt at h
  split at h
  · cases h; cases hx; exact .inl ⟨rfl, rfl⟩
  · rename_i r
    split at h
    · rename_i es' hr
      cases h
      cases hx with
      | mp _ b hb h2 =>
        have := h2 es hr; subst this
        obtain ⟨mes, clock, h1, h3⟩ := map_obj hw hr
        exact .inr ⟨_, mes, clock, rfl, h1, h3⟩
    · cases h
  · cases h

theorem zeroV_spec {t : TypeId} {zero : AV} (h : zeroV E t zero = true) : ∃ i z, E.P.info? t = some i ∧ i.zero = some z ∧ VRel E V zero z := by
  unfold zeroV at h
  split at h
  · rename_i i hi
    split at h
    · rename_i z hz; exact ⟨i, z, hi, hz, cst_rel h⟩
    · cases h
  · cases h

theorem look_sim (hw : WRel E base V) (hf : FRel E V fr a.tmps) {t kt et : TypeId} {y k' : Operand} {m k : Opd} {ag ok : Bool} {ks : List Nat} {zero v : AV} (hm : mOpd E m y = true) (hk : mOpd E k k' = true)
    (hu : E.P.underlying t = some (.map kt et)) (hkt : keyT E kt ag ks = true) (hz : zeroV E et zero = true) (hp : rop fr V.S (.look ag ks m k zero ok) = some v) :
    ∃ v', (Instr.lookup t (a.eval y) (a.eval k') ok).run E.P V.w = .ok v' V.w ∧ VRel E V v v' := by
  have hK := keyT_spec hkt
  obtain ⟨i, z, hi, hzz, hzr⟩ := zeroV_spec (E := E) (V := V) hz
  simp only [rop] at hp
  split at hp
  · rename_i um uk h1 h2
    split at hp
    · cases hp
    · rename_i hko
      have hko : keyOk ag ks uk = true := by simpa using hko
      have hkr := opd_rel hf hk h2
      split at hp
      · rename_i es hes
        have found : ∀ (r : Option AV) (v' : Value), mfind ag ks uk es = some r → VRel E V (r.getD zero) v' →
            (match r with | some v => some (if ok = true then AV.tup [v, .bool true] else v) | none => some (if ok = true then AV.tup [zero, .bool false] else zero)) = some v →
            VRel E V v (if ok = true then .tuple #[v', .bool r.isSome] else v') := by
          intro r v' _ hv he
          have two : ∀ (x : AV) (b : Bool), VRel E V x v' → VRel E V (.tup [x, .bool b]) (.tuple #[v', .bool b]) := fun x b hx =>
            .tup _ _ rfl (fun i y hi => by
              cases i with
              | zero => simp at hi; subst hi; exact hx
              | succ i => cases i with
                | zero => simp at hi; subst hi; exact .bool b
                | succ i => simp at hi)
          cases r with
          | none =>
            simp only [Option.some.injEq] at he; subst he
            cases ok
            · exact hv
            · exact two _ _ hv
          | some x =>
            simp only [Option.some.injEq] at he; subst he
            cases ok
            · exact hv
            · exact two _ _ hv
        rcases mapAt_sim hw (opd_rel hf hm h1) hes with ⟨e1, rfl⟩ | ⟨b, mes, clock, e1, hb, her⟩
        · simp only [mfind] at hp
          refine ⟨_, ?_, found none z rfl hzr (by simpa using hp)⟩
          rw [e1]
          simp only [Instr.lookup, Sem.run_bind, run_underlying hu, Result.andThen_ok, Sem.run_pure, keyOk_run hK hko hkr, findKey_run hK hkr V.w (es := []) (mes := []) (o := none) ⟨rfl, by simp⟩ rfl, Option.bind_none, run_zeroValue hi hzz, Option.isSome_none]
        · cases hfd : mfind ag ks uk es with
          | none => simp [hfd] at hp
          | some r =>
            rw [hfd] at hp
            obtain ⟨o, ho, hr⟩ := mfind_idx hfd
            have hfk := findKey_run hK hkr V.w her ho
            rcases hr with ⟨rfl, rfl⟩ | ⟨j, ka, va, rfl, hj, rfl⟩
            · refine ⟨_, ?_, found none z hfd hzr (by simpa using hp)⟩
              rw [e1]
              simp only [Instr.lookup, Sem.run_bind, run_underlying hu, Result.andThen_ok, MapKept.run_getObj_map hb, Sem.run_pure, keyOk_run hK hko hkr, hfk, Option.bind_none, run_zeroValue hi hzz, Option.isSome_none]
            · obtain ⟨me, hme, _, hval⟩ := her.2 j ka va hj
              refine ⟨_, ?_, found (some va) me.val hfd hval (by simpa using hp)⟩
              rw [e1]
              simp only [Option.bind_some, hme, Option.map_some] at hfk
              simp only [Instr.lookup, Sem.run_bind, run_underlying hu, Result.andThen_ok, MapKept.run_getObj_map hb, Sem.run_pure, keyOk_run hK hko hkr, hfk, Option.isSome_some]
      · cases hp
  · cases hp

end
end Go.Proofs.YtleommjdeejmkaaGreatDoor.Zq

namespace Go.Proofs.YtleommjdeejmkaaGreatDoor.Zq
open Go Go.RowKit

section
variable {E : Env} {V : Vw} {fr : List AV} {a : Act} {base : World}

theorem rop_sim (hw : WRel E base V) (hf : FRel E V fr a.tmps) {o : Oper} {io : IOp} {v : AV} (hm : mOp E io o.op = true) (hp : rop fr V.S io = some v) : OpOk E base V (execOp a.eval o) v V.S := by
  by_cases hpop : rop fr V.S io = pop fr io
  · exact pop_sim hw hf hm (hpop ▸ hp)
  · cases io <;> first | (exact absurd rfl hpop) | skip
    · -- b2s
      rename_i x
      generalize ho : o.op = oo at hm
      cases oo <;> simp only [mOp, mBin, mBuild, mBuildSlice, mIndexAddr, mIndex, mSlice, mDefer, Bool.false_eq_true] at hm
      · rename_i src dst y
        obtain ⟨v', r1, r2⟩ := b2s_sim hw hf hm hp
        exact OpOk.val hw (by simp only [execOp, ho]; exact sem_val r1) r2
      · rename_i c
        unfold mCall at hm
        split at hm <;> first | (simp only [Bool.false_eq_true] at hm; done) | simp [mBuiltin] at hm
    · -- load
      rename_i agg n x
      generalize ho : o.op = oo at hm
      cases oo <;> simp only [mOp, mBin, mConv, mBuild, mBuildSlice, mIndexAddr, mIndex, mSlice, mDefer, Bool.false_eq_true] at hm
      · rename_i t b
        simp only [Bool.and_eq_true] at hm
        simp only [rop] at hp
        split at hp
        · rename_i u hu
          obtain ⟨v', r1, r2⟩ := loadAt_sim hw hm.2 (opd_rel hf hm.1 hu) hp
          exact OpOk.val hw (by simp only [execOp, ho]; exact sem_val r1) r2
        · cases hp
      · rename_i c
        unfold mCall at hm
        split at hm <;> first | (simp only [Bool.false_eq_true] at hm; done) | simp [mBuiltin] at hm
    · -- len of a map
      rename_i x
      generalize ho : o.op = oo at hm
      cases oo <;> simp only [mOp, mBin, mConv, mBuild, mBuildSlice, mIndexAddr, mIndex, mSlice, mDefer, Bool.false_eq_true] at hm
      rename_i c
      unfold mCall at hm
      split at hm
      · simp only [Bool.false_eq_true] at hm
      · rename_i b hc
        unfold mBuiltin at hm
        split at hm <;> first | (cases hm; done) | (exfalso; simp_all; done) | skip
        rename_i x' y t he h1 h2
        cases he
        simp only [Bool.and_eq_true] at hm
        obtain ⟨hx, hu⟩ := hm
        split at hu
        · rename_i kt et hut
          simp only [rop] at hp
          split at hp
          · rename_i u hu0
            split at hp
            · rename_i es hes
              cases hp
              refine OpOk.val (v' := .int .i64 es.length) hw ?_ (.int _ _)
              rw [callB ho hc, arr1 h1, arr1 h2, map1 a.eval]
              refine builtin_val rfl (?_ : (Builtin.len_ #[t] o.type #[a.eval y]).run E.P V.w = _)
              rcases mapAt_sim hw (opd_rel hf hx hu0) hes with ⟨e1, rfl⟩ | ⟨b, mes, clock, e1, hb, her⟩
              · rw [e1]
                simp only [Builtin.len_, List.getElem?_toArray, List.getElem?_cons_zero, Sem.run_bind, run_underlying hut, Result.andThen_ok]
                rfl
              · rw [e1]
                simp only [Builtin.len_, List.getElem?_toArray, List.getElem?_cons_zero, Sem.run_bind, run_underlying hut, Result.andThen_ok, MapKept.run_getObj_map hb]
                have := her.1
                simp only [Array.length_toList] at this
                rw [this]; rfl
            · cases hp
          · cases hp
        · cases hu
      · cases hm
    · -- lookup
      rename_i ag ks m k zero ok
      generalize ho : o.op = oo at hm
      cases oo <;> simp only [mOp, mBin, mConv, mBuild, mBuildSlice, mIndexAddr, mIndex, mSlice, mDefer, Bool.false_eq_true] at hm
      · rename_i t y k' ok'
        simp only [Bool.and_eq_true, beq_iff_eq] at hm
        obtain ⟨⟨⟨hmm, hk⟩, rfl⟩, hu⟩ := hm
        split at hu
        · rename_i kt et hut
          simp only [Bool.and_eq_true] at hu
          obtain ⟨v', r1, r2⟩ := look_sim hw hf hmm hk hut hu.1 hu.2 hp
          exact OpOk.val hw (by simp only [execOp, ho]; exact sem_val r1) r2
        · cases hu
      · rename_i c
        unfold mCall at hm
        split at hm <;> first | (simp only [Bool.false_eq_true] at hm; done) | simp [mBuiltin] at hm

/-- A new object, in a new block. -/
theorem new_sim (hw : WRel E base V) {ph : Option Nat} {o : AObj} {r : Nat} {S' : List AObj} (hn : newObj ph o V.S = some (r, S')) (ho : (∃ rows, o = .cells 0 rows) ∨ (∃ es, o = .map es) ∨ ∃ s p, o = .siter s p) {w' : World} {ob : Obj} {ℓ : Loc}
    (hh : w'.heap = V.w.heap.push ob) (hst : w'.os = V.w.os ∧ w'.tape = V.w.tape ∧ w'.output = V.w.output) (hℓ : ℓ.blk = V.w.heap.size)
    (hor : Later V { w := w', μ := updμ V.μ r ℓ, S := S', X := V.X } → ORel E { w := w', μ := updμ V.μ r ℓ, S := S', X := V.X } ℓ o) :
    Later V { w := w', μ := updμ V.μ r ℓ, S := S', X := V.X } ∧ WRel E base { w := w', μ := updμ V.μ r ℓ, S := S', X := V.X } ∧ S'[r]? = some o := by
  have hput : Put V.S r o S' ∧ bound V.S r = 0 := by
    unfold newObj at hn
    split at hn
    · simp only [Option.some.injEq, Prod.mk.injEq] at hn
      obtain ⟨rfl, rfl⟩ := hn
      exact ⟨.push rfl, by simp [bound]⟩
    · rename_i q
      split at hn
      · rename_i hq
        simp only [Option.some.injEq, Prod.mk.injEq] at hn
        obtain ⟨rfl, rfl⟩ := hn
        refine ⟨.set ?_, by rw [bound_of hq]; rfl⟩
        rcases Nat.lt_or_ge q V.S.length with h | h
        · exact h
        · rw [List.getElem?_eq_none h] at hq; cases hq
      · cases hn
  have hsz : V.w.heap.size ≤ w'.heap.size := by rw [hh]; simp
  have hwb : ∀ b, b < V.w.heap.size → b ≠ ℓ.blk → w'.heap[b]? = V.w.heap[b]? := fun b hb _ => by
    rw [hh, Array.getElem?_push, if_neg (by omega)]
  have hc : claims V r o ℓ := by
    rcases ho with ⟨rows, rfl⟩ | ⟨es, rfl⟩ | ⟨s, p, rfl⟩
    · exact ⟨by omega, .inl (by omega)⟩
    · exact .inl hput.2
    · exact .inl hput.2
  have hb : (live V.S r ∧ ℓ.blk = (V.μ r).blk) ∨ V.w.heap.size ≤ ℓ.blk := .inr (by omega)
  exact ⟨Later.upd hput.1 hc hsz hwb hb, hw.upd hput.1 hc hsz hwb hb hst hor, hput.1.same⟩

theorem cellsAt_of {S : List AObj} {r ver : Nat} {rows : List (List AV)} (h : S[r]? = some (.cells ver rows)) : cellsAt S r ver = some rows := by
  unfold cellsAt; rw [h]; simp

/-- A new variable. -/
theorem newVar_sim (hw : WRel E base V) {ph : Option Nat} {cs : List AV} {arr : Array Value} {r : Nat} {S' : List AObj} (hn : newObj ph (.cells 0 [cs]) V.S = some (r, S')) (hc : CRel E V cs arr) (T : TypeId) {s : Sem Next}
    (hs : s.run E.P V.w = .ok (.value (.pointer (some ⟨V.w.heap.size, 0, none⟩))) (V.w.alloc (.cells arr T))) : OpOk E base V s (.ref r 0 0 0) S' := by
  obtain ⟨h1, h2, h3⟩ := new_sim (ℓ := ⟨V.w.heap.size, 0, cs.length, 1⟩) (w' := V.w.alloc (.cells arr T)) hw hn (.inl ⟨_, rfl⟩) rfl ⟨rfl, rfl, rfl⟩ rfl (fun hl => by
    refine ⟨arr, T, 0, 0, ?_, .inl (Nat.le_refl _), ?_, by simp, fun i row hi => ?_, fun i j row x hi hj => ?_⟩
    · show (V.w.alloc (.cells arr T)).heap[V.w.heap.size]? = _
      simp only [← World.alloc_eq]; simp
    · simp [hc.1]
    · cases i with
      | zero => simp at hi; subst hi; rfl
      | succ i => simp at hi
    · cases i with
      | zero =>
        simp at hi; subst hi
        have hj' : j < arr.size := by
          rw [hc.1]
          rcases Nat.lt_or_ge j cs.length with h | h
          · exact h
          · rw [List.getElem?_eq_none h] at hj; cases hj
        exact ⟨_, by simpa using get_of_lt hj', hc.2.1 j hj', (hc.2.2 j x hj).later hl⟩
      | succ i => simp at hi)
  refine ⟨_, _, _, _, hs, .inl rfl, h1, h2, .ref _ _ _ _ _ _ ?_ (fun rows hr => ?_)⟩
  · simp only; rw [bound_of h3]; simp [boundO]
  · simp [updμ]

end
end Go.Proofs.YtleommjdeejmkaaGreatDoor.Zq

namespace Go.Proofs.YtleommjdeejmkaaGreatDoor.Zq
open Go Go.RowKit

section
variable {E : Env} {V : Vw} {fr : List AV} {a : Act} {base : World}

theorem row_apart {z i i' j k : Nat} (h : i' ≠ i) (hj : j < z) (hk : k ≤ z) : i' * z + j < i * z ∨ i * z + k ≤ i' * z + j := by
  rcases Nat.lt_or_gt_of_ne h with h | h
  · left
    have := Nat.mul_le_mul_right z (Nat.succ_le_of_lt h)
    rw [Nat.succ_mul] at this; omega
  · right
    have := Nat.mul_le_mul_right z (Nat.succ_le_of_lt h)
    rw [Nat.succ_mul] at this; omega

theorem live_of {S : List AObj} {r : Nat} {o : AObj} (h : S[r]? = some o) (ha : o.alive = true) : live S r := ⟨o, h, ha⟩

theorem get_lt {α : Type} {l : List α} {i : Nat} {x : α} (h : l[i]? = some x) : i < l.length := by
  rcases Nat.lt_or_ge i l.length with h' | h'
  · exact h'
  · rw [List.getElem?_eq_none h'] at h; cases h

theorem setB_st (w : World) (b : Nat) (o : Obj) : (setB w b o).os = w.os ∧ (setB w b o).tape = w.tape ∧ (setB w b o).output = w.output := ⟨rfl, rfl, rfl⟩

/-- An object written in place. -/
theorem write_sim (hw : WRel E base V) {r ver : Nat} {rows rows' : List (List AV)} {cs cs' : Array Value} {e : TypeId} {lo hi : Nat} (hr : cellsAt V.S r ver = some rows) (hb : V.w.heap[(V.μ r).blk]? = some (.cells cs e (lo, hi))) (hfz : hi ≤ lo ∨ cs.size ≤ lo)
    (hcap : (V.μ r).base + (V.μ r).cap * (V.μ r).esz ≤ cs.size) (hlen : rows'.length = rows.length) (hle : rows.length ≤ (V.μ r).cap) (hsz : cs'.size = cs.size) (hz : ∀ (i : Nat) (row : List AV), rows'[i]? = some row → row.length = (V.μ r).esz)
    (hcell : Later V { w := setB V.w (V.μ r).blk (.cells cs' e (lo, hi)), μ := updμ V.μ r (V.μ r), S := V.S.set r (.cells ver rows'), X := V.X } →
      ∀ (i j : Nat) (row : List AV) (x : AV), rows'[i]? = some row → row[j]? = some x → ∃ v, cs'[(V.μ r).base + i * (V.μ r).esz + j]? = some v ∧ one v = true ∧ VRel E { w := setB V.w (V.μ r).blk (.cells cs' e (lo, hi)), μ := updμ V.μ r (V.μ r), S := V.S.set r (.cells ver rows'), X := V.X } x v) :
    Later V { w := setB V.w (V.μ r).blk (.cells cs' e (lo, hi)), μ := updμ V.μ r (V.μ r), S := V.S.set r (.cells ver rows'), X := V.X } ∧
    WRel E base { w := setB V.w (V.μ r).blk (.cells cs' e (lo, hi)), μ := updμ V.μ r (V.μ r), S := V.S.set r (.cells ver rows'), X := V.X } := by
  have hS := cellsAt_get hr
  have hput : Put V.S r (.cells ver rows') (V.S.set r (.cells ver rows')) := .set (get_lt hS)
  have hc : claims V r (.cells ver rows') (V.μ r) := ⟨by rw [bound_of hS]; exact Nat.le_refl _, .inr ⟨rows, hr, by omega, rfl⟩⟩
  have hsz' : V.w.heap.size ≤ (setB V.w (V.μ r).blk (.cells cs' e (lo, hi))).heap.size := by rw [setB_size]; exact Nat.le_refl _
  have hwb : ∀ b, b < V.w.heap.size → b ≠ (V.μ r).blk → (setB V.w (V.μ r).blk (.cells cs' e (lo, hi))).heap[b]? = V.w.heap[b]? := fun b _ hne => setB_other hne
  have hbb : (live V.S r ∧ (V.μ r).blk = (V.μ r).blk) ∨ V.w.heap.size ≤ (V.μ r).blk := .inl ⟨live_of hS rfl, rfl⟩
  refine ⟨Later.upd hput hc hsz' hwb hbb, hw.upd hput hc hsz' hwb hbb (setB_st _ _ _) fun hl => ?_⟩
  exact ⟨cs', e, lo, hi, setB_same (lt_of_block hb), by omega, by omega, by omega, hz, hcell hl⟩

theorem store_sim (hw : WRel E base V) {t : TypeId} {n : Nat} {x y : AV} {u w : Value} {S' : List AObj} (hz : szOf E t = some n) (hx : VRel E V x u) (hy : VRel E V y w) (h : storeAt V.S n x y = some S') :
    ∃ w' μ', (Instr.storeAt t u w).run E.P V.w = .ok () w' ∧ Later V { w := w', μ := μ', S := S', X := V.X } ∧ WRel E base { w := w', μ := μ', S := S', X := V.X } := by
  unfold storeAt at h
  split at h
  · rename_i r ver i off
    split at h
    · rename_i rows hr
      split at h
      · rename_i row hrow
        split at h
        · rename_i cs hcs
          split at h
          · rename_i hc
            obtain ⟨hoff, hlen⟩ := hc
            cases h
            obtain rfl := ref_inv hx hr
            obtain ⟨arr, e, lo, hi, hb, hfz, hcap, hle, hrz, hcell⟩ := cells_obj hw hr
            have hcr := hy.crel hcs
            have hrl := hrz i row hrow
            have hil := get_lt hrow
            have hzle : (V.μ r).base + i * (V.μ r).esz + (V.μ r).esz ≤ arr.size := by
              have := Nat.mul_le_mul_right (V.μ r).esz (Nat.succ_le_of_lt (Nat.lt_of_lt_of_le hil hle))
              rw [Nat.succ_mul] at this; omega
            have hws : w.cells.toList.length = n := by simp [hcr.1, hlen]
            have hst := run_storeCells (P := E.P) (o := (V.μ r).base + i * (V.μ r).esz + off) w.cells.toList 0 arr V.w hb hfz (by omega) (fun v hv => by
              obtain ⟨k, hk, rfl⟩ := List.getElem_of_mem hv
              have := hcr.2.1 k (by simpa using hk)
              rw [Array.getD_eq_getD_getElem?, Array.getElem?_eq_getElem (by simpa using hk)] at this
              simpa using this)
            have hnew := fun hcell' => write_sim (E := E) (base := base) hw (rows' := rows.set i (splice row off cs)) (cs' := wr arr ((V.μ r).base + i * (V.μ r).esz + off) w.cells.toList) hr hb hfz hcap (by simp) hle (wr_size _ _ _)
              (fun k rk hk => by
                by_cases hki : k = i
                · subst hki
                  rw [List.getElem?_set_self hil] at hk; cases hk
                  rw [splice_len (by omega), hrl]
                · rw [List.getElem?_set_ne (by omega)] at hk; exact hrz k rk hk) hcell'
            obtain ⟨h1, h2⟩ := hnew (fun hl k j rk q hk hj => by
              by_cases hki : k = i
              · subst hki
                rw [List.getElem?_set_self hil] at hk; cases hk
                by_cases hin : off ≤ j ∧ j < off + n
                · obtain ⟨m, rfl⟩ : ∃ m, j = off + m := ⟨j - off, by omega⟩
                  rw [splice_in (by omega) (by omega)] at hj
                  have hm : m < w.cells.size := by rw [hcr.1]; omega
                  refine ⟨w.cells.getD m undef, ?_, hcr.2.1 m hm, (hcr.2.2 m q hj).later hl⟩
                  have := wr_in w.cells.toList arr ((V.μ r).base + k * (V.μ r).esz + off) m (w.cells.getD m undef) (by omega) (by simpa using get_of_lt hm)
                  rwa [Nat.add_assoc _ off m] at this
                · rw [splice_out (by omega) (by omega)] at hj
                  obtain ⟨v, v1, v2, v3⟩ := hcell k j row q hrow hj
                  exact ⟨v, by rw [wr_out _ _ _ _ (by omega)]; exact v1, v2, v3.later hl⟩
              · rw [List.getElem?_set_ne (by omega)] at hk
                obtain ⟨v, v1, v2, v3⟩ := hcell k j rk q hk hj
                have hjz : j < (V.μ r).esz := by rw [← hrz k rk hk]; exact get_lt hj
                refine ⟨v, ?_, v2, v3.later hl⟩
                rw [wr_out _ _ _ _ ?_]; exact v1
                rcases row_apart (k := off + n) hki hjz (by omega) with h | h
                · left; omega
                · right; omega)
            refine ⟨_, _, ?_, h1, h2⟩
            simp only [Instr.storeAt, Instr.sureAddr, Sem.run_bind, Sem.run_pure, Result.andThen_ok, storeVar, run_sizeOf' hz]
            rw [if_neg (by simp [hcr.1, hlen])]
            simpa using hst
          · cases h
        · cases h
      · cases h
    · cases h
  · cases h

theorem setCells_setB {b : Nat} {e : TypeId} {fz : Nat × Nat} : ∀ (vs : List Value) (o : Nat) (cs : Array Value) (w : World), w.heap[b]? = some (.cells cs e fz) → w.setCells b o vs = setB w b (.cells (wr cs o vs) e fz)
  | [], o, cs, w, h => by
    have hb := lt_of_block h
    unfold setB World.setCells
    have : w.heap.setIfInBounds b (.cells cs e fz) = w.heap := by
      apply Array.ext_getElem?
      intro j
      rw [Array.getElem?_setIfInBounds]
      by_cases hj : b = j
      · subst hj; simp [hb]; rw [Array.getElem?_eq_getElem hb] at h; exact (Option.some.inj h).symm
      · simp [hj]
    simp [wr, this]
  | v :: vs, o, cs, w, h => by
    rw [World.setCells, setCell_setB h, setCells_setB vs (o + 1) (cs.setIfInBounds o v) _ (setB_same (lt_of_block h)), setB_setB]
    rfl

end
end Go.Proofs.YtleommjdeejmkaaGreatDoor.Zq

namespace Go.Proofs.YtleommjdeejmkaaGreatDoor.Zq
open Go Go.RowKit

section
variable {E : Env} {V : Vw} {fr : List AV} {a : Act} {base : World}

/-- Rows of cells, as the values that an append takes. -/
structure Takes (E : Env) (V : Vw) (z : Nat) (xs : List (List AV)) (news : List Value) : Prop where
  len : news.length = xs.length * z
  one : ∀ u ∈ news, one u = true
  rows : ∀ (i : Nat) (row : List AV), xs[i]? = some row → row.length = z
  get : ∀ (i j : Nat) (row : List AV) (x : AV), xs[i]? = some row → row[j]? = some x → j < z ∧ ∃ u, news[i * z + j]? = some u ∧ VRel E V x u

theorem cell_drew (w : World) (p : Addr) : w.drew.cell? p = w.cell? p := rfl

theorem firstCells_rows {z n : Nat} {b o cap len : Nat} {news : List Value} (w : World) (hl : news.length = n * z) (h : ∀ (k : Nat) (u : Value), news[k]? = some u → w.cell? ⟨b, o + k, none⟩ = some u) :
    (Builtin.firstCells z n (.slice (some ⟨b, o, none⟩) len cap)).run E.P w = .ok news.toArray w := by
  simp only [Builtin.firstCells]
  rw [← hl]
  exact run_loadCells' news h

theorem firstCells_none {z : Nat} {p : Option Addr} {len cap : Nat} (w : World) : (Builtin.firstCells z 0 (.slice p len cap)).run E.P w = .ok #[] w := by
  cases p <;> simp [Builtin.firstCells, loadCells, loadCellsFrom]

theorem src_sim (hw : WRel E base V) {z : Nat} {tx : TypeId} {x : AV} {u : Value} {xs : List (List AV)} (hz : z ≠ 0) (hk : (∃ e', E.P.underlying tx = some (.slice e')) ∨ E.P.underlying tx = some .string)
    (hx : VRel E V x u) (h : appRows V.S z x = some xs) : ∃ news, Src E.P z tx u xs.length news V.w ∧ Takes E V z xs news := by
  have ofRows : ∀ {p : Option Addr} {cap : Nat}, u = .slice p xs.length cap → RowsAt E V xs z p → ∃ news, Src E.P z tx u xs.length news V.w ∧ Takes E V z xs news := by
    intro p cap hu hr
    subst hu
    by_cases hne : xs = []
    · subst hne
      exact ⟨[], ⟨hk, fun _ => rfl, firstCells_none _, firstCells_none _, by simp, by simp⟩, ⟨by simp, by simp, by simp, by simp⟩⟩
    · obtain ⟨b, o, g, hp, hrz, _⟩ := hr hne
      subst hp
      obtain ⟨news, n1, n2, n3, n4⟩ := flat_cells hz hr
      exact ⟨news, ⟨hk, fun _ => rfl, firstCells_rows _ n1 n2, firstCells_rows _ n1 n2, n1, fun u hu => one_oneCell (n3 u hu)⟩, ⟨n1, n3, hrz, n4⟩⟩
  unfold appRows at h
  split at h
  · rename_i s
    split at h
    · rename_i hz1
      subst hz1
      cases h
      obtain ⟨b, rfl, hb⟩ := hx.str_inv
      subst hb
      have hl : (bytesRows b.data.toList).length = b.size := by simp [bytesRows]
      refine ⟨byteCells b, ?_, ?_⟩
      · rw [hl]
        exact ⟨hk, fun _ => rfl, firstCells_string b V.w, firstCells_string b V.w.drew, by rw [byteCells_length, Nat.mul_one], fun u hu => by obtain ⟨_, _, rfl⟩ := List.mem_map.1 hu; rfl⟩
      · refine ⟨by rw [byteCells_length, hl, Nat.mul_one], fun u hu => by obtain ⟨_, _, rfl⟩ := List.mem_map.1 hu; rfl, fun i row hi => ?_, fun i j row x hi hj => ?_⟩
        · simp only [bytesRows, List.getElem?_map, Option.map_eq_some_iff] at hi
          obtain ⟨c, _, rfl⟩ := hi; rfl
        · simp only [bytesRows, List.getElem?_map, Option.map_eq_some_iff] at hi
          obtain ⟨c, hc, rfl⟩ := hi
          cases j with
          | zero =>
            simp [byteRow] at hj; subst hj
            exact ⟨by omega, .int .u8 c.toNat, by simp only [byteCells, Nat.mul_one, Nat.add_zero, List.getElem?_map, hc, Option.map_some], .int _ _⟩
          | succ j => simp [byteRow] at hj
    · cases h
  · cases h
    cases hx with
    | zsl b p h => exact ofRows rfl (fun h => absurd rfl h)
  · rename_i z' rows
    split at h
    · rename_i hzz
      subst hzz
      cases h
      obtain ⟨p, cap, e1, _, hr⟩ := sl_rows hx
      exact ofRows e1 hr
    · cases h
  · rename_i r ver z' off len
    split at h
    · rename_i hzz
      subst hzz
      simp only [srows] at h
      split at h
      · rename_i rs hrs
        split at h
        · rename_i hle
          cases h
          obtain ⟨b, o, cap, e1, _, _, hr⟩ := msl_rows hw hx hrs hle rfl
          exact ofRows e1 hr
        · cases h
      · cases h
    · cases h
  · cases h

theorem Takes.later {V' : Vw} {z : Nat} {xs : List (List AV)} {news : List Value} (h : Takes E V z xs news) (hl : Later V V') : Takes E V' z xs news :=
  ⟨h.len, h.one, h.rows, fun i j row x hi hj => by obtain ⟨h1, u, h2, h3⟩ := h.get i j row x hi hj; exact ⟨h1, u, h2, h3.later hl⟩⟩

theorem Takes.append {z : Nat} {xs ys : List (List AV)} {ns ms : List Value} (h : Takes E V z xs ns) (k : Takes E V z ys ms) : Takes E V z (xs ++ ys) (ns ++ ms) := by
  refine ⟨by simp [h.len, k.len, Nat.add_mul], fun u hu => ?_, fun i row hi => ?_, fun i j row x hi hj => ?_⟩
  · rcases List.mem_append.1 hu with hu | hu
    · exact h.one u hu
    · exact k.one u hu
  · rcases Nat.lt_or_ge i xs.length with hlt | hge
    · rw [List.getElem?_append_left hlt] at hi; exact h.rows i row hi
    · rw [List.getElem?_append_right hge] at hi; exact k.rows _ row hi
  · rcases Nat.lt_or_ge i xs.length with hlt | hge
    · rw [List.getElem?_append_left hlt] at hi
      obtain ⟨h1, u, h2, h3⟩ := h.get i j row x hi hj
      refine ⟨h1, u, ?_, h3⟩
      rw [List.getElem?_append_left (get_lt h2)]; exact h2
    · rw [List.getElem?_append_right hge] at hi
      obtain ⟨h1, u, h2, h3⟩ := k.get _ j row x hi hj
      refine ⟨h1, u, ?_, h3⟩
      have e : i * z = xs.length * z + (i - xs.length) * z := by rw [← Nat.add_mul]; congr 1; omega
      rw [List.getElem?_append_right (by rw [h.len, e]; omega), h.len, e]
      rw [show xs.length * z + (i - xs.length) * z + j - xs.length * z = (i - xs.length) * z + j by omega]; exact h2

/-- A new row of memory holds what was taken. -/
theorem Takes.orel {V' : Vw} {z : Nat} {xs : List (List AV)} {news : List Value} (h : Takes E V' z xs news) {tail : Array Value} {e : TypeId} {blk cap ver : Nat} (hb : V'.w.heap[blk]? = some (.cells (news.toArray ++ tail) e (0, 0)))
    (hc : xs.length ≤ cap) (hs : cap * z ≤ (news.toArray ++ tail).size) : ORel E V' ⟨blk, 0, z, cap⟩ (.cells ver xs) := by
  refine ⟨_, e, 0, 0, hb, .inl (Nat.le_refl _), by simpa using hs, hc, h.rows, fun i j row x hi hj => ?_⟩
  obtain ⟨h1, u, h2, h3⟩ := h.get i j row x hi hj
  refine ⟨u, ?_, h.one u (List.mem_of_getElem? h2), h3⟩
  rw [Nat.zero_add, Array.getElem?_append_left (by simpa using get_lt h2)]
  simpa using h2

end
end Go.Proofs.YtleommjdeejmkaaGreatDoor.Zq
