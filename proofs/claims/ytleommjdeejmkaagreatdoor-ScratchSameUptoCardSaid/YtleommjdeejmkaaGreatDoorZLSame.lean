/-
  ScratchSame, in the abstract machine.
  Conditions: none; a lemma.
-/
import Derived.Test.YtleommjdeejmkaaGreatDoorZCSame
import Derived.Test.YtleommjdeejmkaaGreatDoorZCFix29
set_option linter.all false

namespace Go.Proofs.YtleommjdeejmkaaGreatDoor.Zq
open Go
attribute [-simp] span

theorem law_same {p q : GRep} {v w : AV} (hv : RepR p v) (hw : RepR q w) (hs : ∀ o ∈ p.outcomes, Short o) (hl : p.outcomes.length < 2 ^ 62) (hf : p.files.length < 2 ^ 62)
    (ks : ∀ o ∈ q.outcomes, Short o) (kl : q.outcomes.length < 2 ^ 62) (kf : q.files.length < 2 ^ 62) :
    CC tab (.f 13) [v, w] [] = some (.bool true, []) := by
  have e1 := repSame_c hv hw hs hl hf
  have e2 := refSame_c hv hw hs hl hf
  have e3 := repSame_c hw hv ks kl kf
  have e4 := repSame_c hv hv hs hl hf
  have hfix := fixed_c
  have hvv := hv
  have hww := hw
  obtain ⟨ao, rows, x, y, af, rfl, h1, h2, h3, h4, h5⟩ := hvv
  obtain ⟨ao', rows', x', y', af', rfl, k1, k2, k3, k4, k5⟩ := hww
  have lv : ∀ n, limL n [ao, x, y, af] = true := fun n => pureL_lim' (by simpa using hv.pure)
  have lw : ∀ n, limL n [ao', x', y', af'] = true := fun n => pureL_lim' (by simpa using hw.pure)
  simp only [limL, Bool.and_eq_true, and_true] at lv lw
  refine CC_of_W' rfl rfl ?_
  simp [i13, List.replicate, span]
  refine W_loopP (fun j : Nat => { t := [.junk, .junk, .vptr [ao, x, y, af] 0, .vptr [ao', x', y', af'] 0, .junk, .junk, .junk, .junk, .junk, .junk, .junk, .junk, .sl 4 [[ao, x, y, af], [ao', x', y', af']], .int .i64 2, .int .i64 j, .junk, .junk, .junk, .junk, .junk, .junk, .junk, .junk, .junk, .junk, .junk, .junk, .junk, .junk, .junk, .junk, .junk, .junk, .junk, .junk, .junk, .junk, .junk, .junk, .junk, .junk, .junk, .junk, .junk, .junk, .junk, .junk, .junk, .junk, .junk, .junk, .junk, .junk, .junk, .junk, .junk, .junk, .junk, .junk, .junk, .junk, .junk, .junk, .junk, .junk, .junk, .junk, .junk, .junk, .junk], s := [], b := 0, d := [] })
      (fun j => j ≤ 2) (fun j => 2 - j) ?_ 0 _ (by simp) (by omega)
  intro j hj
  simp
  refine condB_intro (fun hlt => ?_) (fun hge => ?_)
  · simp at hlt
    obtain ⟨r, zo, zx, zy, zf, zrows, hrow, g1, g2, g3, hlim, hrl⟩ : ∃ (r : GRep) (zo zx zy zf : AV) (zrows : List (List AV)), [[ao, x, y, af], [ao', x', y', af']][j]? = some [zo, zx, zy, zf] ∧ IsSl 4 zrows zo ∧ RowsR OutR r.outcomes zrows ∧ IsS fileRw r.files zf ∧ (∀ n, zo.lim n = true ∧ zx.lim n = true ∧ zy.lim n = true ∧ zf.lim n = true) ∧ r.outcomes.length < 2 ^ 62 := by
      match j, hlt with
      | 0, _ => exact ⟨p, ao, x, y, af, rows, rfl, h1, h2, h3, lv, hl⟩
      | 1, _ => exact ⟨q, ao', x', y', af', rows', rfl, k1, k2, k3, lw, kl⟩
    have gl := g2.len
    simp [indexA, hrow, span, lv, lw, hlim, g1.len, g3.len]
    refine W_loopP (fun k : Nat × Int => { t := [.junk, .junk, .vptr [ao, x, y, af] 0, .vptr [ao', x', y', af'] 0, .junk, .junk, .junk, .int .i64 k.2, .junk, .junk, .junk, .junk, .sl 4 [[ao, x, y, af], [ao', x', y', af']], .int .i64 2, .int .i64 j, .junk, .junk, .junk, .junk, .junk, .junk, .junk, .junk, .junk, .junk, .junk, zo, .int .i64 r.outcomes.length, .int .i64 k.1, .junk, .junk, .junk, .junk, .junk, .junk, .junk, .junk, .junk, .junk, .junk, .junk, .junk, .junk, .junk, .junk, .junk, .junk, .junk, .junk, .junk, .junk, .junk, .junk, .junk, .junk, .junk, .junk, .junk, .junk, .junk, .junk, .junk, .junk, .junk, .junk, .junk, .junk, .junk, .junk, .junk], s := [], b := 0, d := [] })
      (fun k => k.1 ≤ r.outcomes.length) (fun k => r.outcomes.length - k.1) ?_ (0, IntKind.i64.wrap (r.outcomes.length + r.files.length)) _ (by simp [gl]) (by simp)
    rintro ⟨i, n⟩ hle
    simp
    refine condB_intro (fun hlt2 => ?_) (fun hge2 => ?_)
    · simp at hlt2
      obtain ⟨o, hoi⟩ := get_lt' hlt2
      obtain ⟨row, hr, hor⟩ := g2.at hoi
      have hpr : ∀ n, limL n row = true := fun n => pureL_lim' hor.pure
      obtain ⟨b1, b2, rfl, c1, c2⟩ := hor
      simp only [limL, AV.lim, Bool.and_eq_true, and_true, true_and] at hpr
      simp [g1.ix hr, span, lv, lw, hlim, hpr, c1.len, c2.len]
      exact ⟨i + 1, by simpa using wrap1 (by omega), by simp at hle; omega, by omega⟩
    · simp [span]
      refine condB_intro (fun hgt => ?_) (fun hle2 => ?_)
      · simp [hfix]
      · simp
        exact ⟨j + 1, by simpa using wrap1 (by omega), by omega, by omega⟩
  · simp at hge
    have : j = 2 := by omega
    subst this
    simp [span, hfix, e1, e2, e3, e4, eq_comm]
end Go.Proofs.YtleommjdeejmkaaGreatDoor.Zq
