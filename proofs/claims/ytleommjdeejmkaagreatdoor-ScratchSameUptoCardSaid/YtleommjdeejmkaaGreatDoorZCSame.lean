/-
  Contracts: the same outcomes, the same reports.
  Conditions: none; lemmas.
-/
import Derived.Test.YtleommjdeejmkaaGreatDoorZCEq
set_option linter.all false

namespace Go.Proofs.YtleommjdeejmkaaGreatDoor.Zq
open Go
attribute [-simp] span

theorem same_c {o u : GOut} {r s : List AV} (ho : OutR o r) (hu : OutR u s) (l1 : o.outs.length < 2 ^ 62) (l2 : o.reads.length < 2 ^ 62) (S : List AObj) :
    CC tab (.f 35) [.agg r, .agg s] S = some (.bool (decide (o = u)), S) := by
  obtain ⟨a, b, rfl, h1, h2⟩ := ho
  obtain ⟨c, d, rfl, h3, h4⟩ := hu
  obtain ⟨k1, w1, f1, r1⟩ := o
  obtain ⟨k2, w2, f2, r2⟩ := u
  refine CC_of_W' rfl rfl ?_
  have e1 := equal_files f1 f2 a c h1 h3 l1
  have e2 := equal_reads r1 r2 b d h2 h4 l2
  simp [i35, List.replicate, span]
  refine guardO_intro (fun hk => ?_) (fun hk => ?_)
  · simp at hk
    subst hk
    simp [span]
    refine guardO_intro (fun hk => ?_) (fun hk => ?_)
    · simp at hk
      subst hk
      simp [span, e1]
      refine guardO_intro (fun hk => ?_) (fun hk => ?_)
      · simp at hk
        subst hk
        simp [span, e2]
      · simp at hk
        simp [hk]
    · simp at hk
      simp [hk]
  · simp at hk
    simp [hk]

theorem rows_dec {α : Type} [DecidableEq α] {xs ys : List α} {i : Nat} {x y : α} (hx : xs[i]? = some x) (hy : ys[i]? = some y) (h : decide (xs = ys) = decide (xs.drop i = ys.drop i)) :
    decide (xs = ys) = (decide (x = y) && decide (xs.drop (i + 1) = ys.drop (i + 1))) := by
  rw [drop_at hx, drop_at hy] at h
  simpa using h

/-- Outcomes that are short enough. -/
def Short (o : GOut) : Prop := o.outs.length < 2 ^ 62 ∧ o.reads.length < 2 ^ 62

theorem equalFunc_c {os us : List GOut} {rs ss : List (List AV)} {a b : AV} (ha : IsSl 4 rs a) (hb : IsSl 4 ss b) (h1 : RowsR OutR os rs) (h2 : RowsR OutR us ss) (hs : ∀ o ∈ os, Short o) (hl : os.length < 2 ^ 62) :
    pureCall (CC tab) (.fn (.f 34) [] []) [a, b, .fn (.f 35) [] []] = some (.bool (decide (os = us))) := by
  have pa := ha.pure (h1.pures fun _ _ => OutR.pure)
  have pb := hb.pure (h2.pures fun _ _ => OutR.pure)
  have e1 := h1.len
  have e2 := h2.len
  refine PC_of_W rfl rfl (by simp [pa, pb]) ?_
  simp [i34, List.replicate, ha.len, hb.len, e1, e2]
  refine condB_intro (fun hne => ?_) (fun heq => ?_)
  · simp at hne
    have : os ≠ us := by rintro rfl; omega
    simp [frzV, this]
  · simp at heq
    simp [ha.len, e1]
    refine W_loopP (fun i : Nat => { t := [.junk, b, .fn (.f 35) [] [], .junk, .junk, .junk, .junk, .junk, .junk, .junk, .junk, .junk, .junk, .junk, .junk, a, .int .i64 os.length, .int .i64 i, .junk, .junk, .junk, .junk, .junk, .junk, .junk, .junk, .junk, .junk, .junk, .junk, .junk, .junk], s := [], b := 0, d := [] })
      (fun i => i ≤ os.length ∧ decide (os = us) = decide (os.drop i = us.drop i)) (fun i => os.length - i) ?_ 0 _ (by simp) ⟨Nat.zero_le _, rfl⟩
    rintro i ⟨hle, hidx⟩
    simp
    refine condB_intro (fun hlt => ?_) (fun hge => ?_)
    · simp at hlt
      obtain ⟨x, hxi⟩ := get_lt' hlt
      obtain ⟨y, hyi⟩ := get_lt' (by omega : i < us.length)
      obtain ⟨r, hr, hxr⟩ := h1.at hxi
      obtain ⟨s, hs', hys⟩ := h2.at hyi
      have hc := same_c hxr hys (hs x (List.mem_of_getElem? hxi)).1 (hs x (List.mem_of_getElem? hxi)).2 []
      have lr : r.length = 4 := by obtain ⟨_, _, rfl, _⟩ := hxr; rfl
      have ls : s.length = 4 := by obtain ⟨_, _, rfl, _⟩ := hys; rfl
      have pr := hxr.pure
      have ps := hys.pure
      have la : ∀ n, a.lim n = true := fun n => pure_lim' pa
      have lb : ∀ n, b.lim n = true := fun n => pure_lim' pb
      have lr' : ∀ n, limL n r = true := fun n => pureL_lim' pr
      have ls' : ∀ n, limL n s = true := fun n => pureL_lim' ps
      simp [ha.ix hr, hb.ix hs', span_all lr, span_all ls, lr, ls, la, lb, lr', ls', hc]
      have hd := rows_dec hxi hyi hidx
      refine condB_intro (fun hne => ?_) (fun heq => ?_)
      · simp at hne
        simp [hd, hne, frzV]
      · simp at heq
        subst heq
        simp
        exact ⟨i + 1, by simpa using wrap1 (by omega), ⟨by omega, by simpa using hd⟩, by omega⟩
    · simp at hge
      have : i = os.length := by omega
      subst this
      rw [List.drop_of_length_le (Nat.le_refl _), List.drop_of_length_le (by omega)] at hidx
      simp [hidx, frzV]

theorem repSame_c {p q : GRep} {v w : AV} (hv : RepR p v) (hw : RepR q w) (hs : ∀ o ∈ p.outcomes, Short o) (hl : p.outcomes.length < 2 ^ 62) (hf : p.files.length < 2 ^ 62) :
    pureCall (CC tab) (.fn (.f 14) [] []) [v, w] = some (.bool (decide (p = q))) := by
  have pv := hv.pure
  have pw := hw.pure
  obtain ⟨ao, rows, x, y, af, rfl, h1, h2, h3, h4, h5⟩ := hv
  obtain ⟨ao', rows', x', y', af', rfl, k1, k2, k3, k4, k5⟩ := hw
  obtain ⟨os, fs⟩ := p
  obtain ⟨us, gs⟩ := q
  have e1 := equalFunc_c h1 k1 h2 k2 hs hl
  have e2 := equal_files fs gs af af' h3 k3 hf
  refine PC_of_W rfl rfl (by rw [pureL, pv, pureL, pw]; rfl) ?_
  simp [i14, List.replicate, span, e1]
  refine guardO_intro (fun hk => ?_) (fun hk => ?_)
  · simp at hk
    subst hk
    simp [span, e2, frzV]
  · simp at hk
    simp [hk, frzV]

theorem outcome_c {o u : GOut} {r s : List AV} (ho : OutR o r) (hu : OutR u s) (hs : Short o) :
    pureCall (CC tab) (.fn (.f 27) [] []) [.agg r, .agg s] = some (.bool (decide (o = u))) := by
  have po := ho.pure
  have pu := hu.pure
  obtain ⟨a, b, rfl, h1, h2⟩ := ho
  obtain ⟨c, d, rfl, h3, h4⟩ := hu
  obtain ⟨k1, w1, f1, r1⟩ := o
  obtain ⟨k2, w2, f2, r2⟩ := u
  have e1 := equal_sameFiles f1 f2 a c h1 h3 hs.1
  simp only at h1 h2 h3 h4
  have hl : r1.length < 2 ^ 62 := hs.2
  refine PC_of_W rfl rfl (by rw [pureL, AV.pure, po, pureL, AV.pure, pu]; rfl) ?_
  simp [i27, List.replicate, span]
  refine guardO_intro (fun hk => ?_) (fun hk => ?_)
  rotate_left
  · simp at hk
    simp [hk, frzV]
  simp at hk
  subst hk
  simp [span]
  refine guardO_intro (fun hk => ?_) (fun hk => ?_)
  rotate_left
  · simp at hk
    simp [hk, frzV]
  simp at hk
  subst hk
  simp [span, h2.len, h4.len]
  refine condB_intro (fun hk => ?_) (fun hk => ?_)
  · simp at hk
    have : r1 ≠ r2 := by rintro rfl; omega
    simp [this, frzV]
  simp at hk
  simp
  refine W_loopP (fun i : Nat => { t := [.junk, .junk, .vptr [.int .i64 k1, .int .i64 w1, a, b] 0, .vptr [.int .i64 k1, .int .i64 w1, c, d] 0, .junk, .int .i64 i, .junk, .junk, .junk, .junk, .junk, .junk, .junk, .junk, .junk, .junk, .junk, .junk, .junk, .junk, .junk, .junk, .junk, .junk, .junk, .junk, .junk, .junk, .junk, .junk, .junk, .junk, .junk, .junk, .junk, .junk, .junk, .junk, .junk, .junk, .junk, .junk, .junk, .junk, .junk, .junk, .junk, .junk, .junk, .junk], s := [], b := 0, d := [] })
      (fun i => i ≤ r1.length ∧ decide (r1 = r2) = decide (r1.drop i = r2.drop i)) (fun i => r1.length - i) ?_ 0 _ (by simp) ⟨Nat.zero_le _, rfl⟩
  rintro i ⟨hle, hidx⟩
  simp [span, h2.len]
  refine condB_intro (fun hlt => ?_) (fun hge => ?_)
  · simp at hlt
    obtain ⟨x, hxi⟩ := get_lt' hlt
    obtain ⟨y, hyi⟩ := get_lt' (by omega : i < r2.length)
    have hq : keqK [2, 0, 1, 1, 1, 1, 1, 1, 1, 1, 1, 1, 1, 1, 1, 1, 1, 1, 1, 1, 1, 1, 1, 1, 1, 1, 1, 1, 1, 1, 1, 1, 1, 1] (readRw.row x) (readRw.row y) = some (decide (x = y)) := readRw.eq _ _
    simp [span, h2.ix hxi, h4.ix hyi, readRw.len, List.take_of_length_le]
    rw [hq]
    simp
    have hd := rows_dec hxi hyi hidx
    refine condB_intro (fun hne => ?_) (fun heq => ?_)
    · simp at hne
      simp [hd, hne, frzV]
    · simp at heq
      subst heq
      simp
      exact ⟨i + 1, by simpa using wrap1 (by omega), ⟨by omega, by simpa using hd⟩, by omega⟩
  · simp at hge
    have : i = r1.length := by omega
    subst this
    rw [List.drop_of_length_le (Nat.le_refl _), List.drop_of_length_le (by omega)] at hidx
    simp at hidx
    subst hidx
    simp [span, e1, frzV]

theorem refSame_c {p q : GRep} {v w : AV} (hv : RepR p v) (hw : RepR q w) (hs : ∀ o ∈ p.outcomes, Short o) (hl : p.outcomes.length < 2 ^ 62) (hf : p.files.length < 2 ^ 62) :
    pureCall (CC tab) (.fn (.f 8) [] []) [v, w] = some (.bool (decide (p = q))) := by
  have pv := hv.pure
  have pw := hw.pure
  obtain ⟨ao, rows, x, y, af, rfl, h1, h2, h3, h4, h5⟩ := hv
  obtain ⟨ao', rows', x', y', af', rfl, k1, k2, k3, k4, k5⟩ := hw
  obtain ⟨os, fs⟩ := p
  obtain ⟨us, gs⟩ := q
  simp only at h2 k2 h3 k3 hl hf hs
  have e1 := h2.len
  have e1' := k2.len
  have e2 := equal_sameFiles fs gs af af' h3 k3 hf
  refine PC_of_W rfl rfl (by rw [pureL, pv, pureL, pw]; rfl) ?_
  simp [i8, List.replicate, span, h1.len, k1.len, e1, e1']
  refine condB_intro (fun hk => ?_) (fun hk => ?_)
  · simp at hk
    have : os ≠ us := by rintro rfl; omega
    simp [this, frzV]
  simp at hk
  simp
  refine W_loopP (fun i : Nat => { t := [.junk, .junk, .vptr [ao, x, y, af] 0, .vptr [ao', x', y', af'] 0, .junk, .int .i64 i, .junk, .junk, .junk, .junk, .junk, .junk, .junk, .junk, .junk, .junk, .junk, .junk, .junk, .junk, .junk, .junk, .junk, .junk, .junk, .junk, .junk, .junk, .junk, .junk, .junk, .junk, .junk, .junk, .junk, .junk, .junk], s := [], b := 0, d := [] })
      (fun i => i ≤ os.length ∧ decide (os = us) = decide (os.drop i = us.drop i)) (fun i => os.length - i) ?_ 0 _ (by simp) ⟨Nat.zero_le _, rfl⟩
  rintro i ⟨hle, hidx⟩
  simp [span, h1.len, e1]
  refine condB_intro (fun hlt => ?_) (fun hge => ?_)
  · simp at hlt
    obtain ⟨x, hxi⟩ := get_lt' hlt
    obtain ⟨y, hyi⟩ := get_lt' (by omega : i < us.length)
    obtain ⟨r, hr, hxr⟩ := h2.at hxi
    obtain ⟨s, hs', hys⟩ := k2.at hyi
    have lr : r.length = 4 := by obtain ⟨_, _, rfl, _⟩ := hxr; rfl
    have ls : s.length = 4 := by obtain ⟨_, _, rfl, _⟩ := hys; rfl
    have hc := outcome_c hxr hys (hs x (List.mem_of_getElem? hxi))
    simp [span, h1.ix hr, k1.ix hs', lr, ls, List.take_of_length_le, hc]
    have hd := rows_dec hxi hyi hidx
    refine condB_intro (fun hne => ?_) (fun heq => ?_)
    · simp at hne
      simp [hd, hne, frzV]
    · simp at heq
      subst heq
      simp
      exact ⟨i + 1, by simpa using wrap1 (by omega), ⟨by omega, by simpa using hd⟩, by omega⟩
  · simp at hge
    have : i = os.length := by omega
    subst this
    rw [List.drop_of_length_le (Nat.le_refl _), List.drop_of_length_le (by omega)] at hidx
    simp at hidx
    subst hidx
    simp [span, e2, frzV]

end Go.Proofs.YtleommjdeejmkaaGreatDoor.Zq
