/-
  Contracts: equality of slices, of files, of reads.
  Conditions: none; lemmas.
-/
import Derived.Test.YtleommjdeejmkaaGreatDoorZD
set_option linter.all false

namespace Go.Proofs.YtleommjdeejmkaaGreatDoor.Zq
open Go
attribute [-simp] span


theorem equal_files (xs ys : List GFile) (a b : AV) (ha : IsS fileRw xs a) (hb : IsS fileRw ys b) (hl : xs.length < 2 ^ 62) :
    pureCall (CC tab) (.fn (.f 36) [] []) [a, b] = some (.bool (decide (xs = ys))) := by
  refine PC_of_W rfl rfl (by simp [ha.pure, hb.pure]) ?_
  simp [i36, List.replicate, ha.len, hb.len]
  refine condB_intro (fun hne => ?_) (fun heq => ?_)
  · simp at hne
    have : xs ≠ ys := by rintro rfl; omega
    simp [frzV, this]
  · simp at heq
    simp [ha.len]
    refine W_loopP (fun i : Nat => { t := [a, b, .junk, .junk, .junk, .junk, .junk, .junk, .junk, .junk, .junk, .junk, .int .i64 xs.length, .int .i64 i, .junk, .junk, .junk, .junk, .junk, .junk, .junk, .junk, .junk, .junk, .junk, .junk], s := [], b := 0, d := [] })
      (fun i => i ≤ xs.length ∧ decide (xs = ys) = decide (xs.drop i = ys.drop i)) (fun i => xs.length - i) ?_ 0 _ (by simp) ⟨Nat.zero_le _, rfl⟩
    rintro i ⟨hle, hidx⟩
    simp [ha.len]
    refine condB_intro (fun hlt => ?_) (fun hge => ?_)
    · simp at hlt
      obtain ⟨x, hxi⟩ := get_lt' hlt
      obtain ⟨y, hyi⟩ := get_lt' (by omega : i < ys.length)
      have hk : keqK [2, 2] (fileRw.row x) (fileRw.row y) = some (decide (x = y)) := fileRw.eq _ _
      simp [ha.ix hxi, hb.ix hyi, span_all (fileRw.len _)]
      rw [hk]
      simp
      rw [drop_at hxi, drop_at hyi] at hidx
      refine condB_intro (fun hne => ?_) (fun heq => ?_)
      · simp at hne
        simp [hidx, hne, frzV]
      · simp at heq
        subst heq
        simp
        exact ⟨i + 1, by simpa using wrap1 (by omega), ⟨by omega, by simpa using hidx⟩, by omega⟩
    · simp at hge
      have : i = xs.length := by omega
      subst this
      rw [List.drop_of_length_le (Nat.le_refl _), List.drop_of_length_le (by omega)] at hidx
      simp [hidx, frzV]

theorem equal_reads (xs ys : List GRead) (a b : AV) (ha : IsS readRw xs a) (hb : IsS readRw ys b) (hl : xs.length < 2 ^ 62) :
    pureCall (CC tab) (.fn (.f 59) [] []) [a, b] = some (.bool (decide (xs = ys))) := by
  refine PC_of_W rfl rfl (by simp [ha.pure, hb.pure]) ?_
  simp [i59, List.replicate, ha.len, hb.len]
  refine condB_intro (fun hne => ?_) (fun heq => ?_)
  · simp at hne
    have : xs ≠ ys := by rintro rfl; omega
    simp [frzV, this]
  · simp at heq
    simp [ha.len]
    refine W_loopP (fun i : Nat => { t := [a, b, .junk, .junk, .junk, .junk, .junk, .junk, .junk, .junk, .junk, .junk, .int .i64 xs.length, .int .i64 i, .junk, .junk, .junk, .junk, .junk, .junk, .junk, .junk, .junk, .junk, .junk, .junk], s := [], b := 0, d := [] })
      (fun i => i ≤ xs.length ∧ decide (xs = ys) = decide (xs.drop i = ys.drop i)) (fun i => xs.length - i) ?_ 0 _ (by simp) ⟨Nat.zero_le _, rfl⟩
    rintro i ⟨hle, hidx⟩
    simp [ha.len]
    refine condB_intro (fun hlt => ?_) (fun hge => ?_)
    · simp at hlt
      obtain ⟨x, hxi⟩ := get_lt' hlt
      obtain ⟨y, hyi⟩ := get_lt' (by omega : i < ys.length)
      have hk : keqK [2, 0, 1, 1, 1, 1, 1, 1, 1, 1, 1, 1, 1, 1, 1, 1, 1, 1, 1, 1, 1, 1, 1, 1, 1, 1, 1, 1, 1, 1, 1, 1, 1, 1] (readRw.row x) (readRw.row y) = some (decide (x = y)) := readRw.eq _ _
      simp [ha.ix hxi, hb.ix hyi, span_all (readRw.len _)]
      rw [hk]
      simp
      rw [drop_at hxi, drop_at hyi] at hidx
      refine condB_intro (fun hne => ?_) (fun heq => ?_)
      · simp at hne
        simp [hidx, hne, frzV]
      · simp at heq
        subst heq
        simp
        exact ⟨i + 1, by simpa using wrap1 (by omega), ⟨by omega, by simpa using hidx⟩, by omega⟩
    · simp at hge
      have : i = xs.length := by omega
      subst this
      rw [List.drop_of_length_le (Nat.le_refl _), List.drop_of_length_le (by omega)] at hidx
      simp [hidx, frzV]

theorem equal_sameFiles (xs ys : List GFile) (a b : AV) (ha : IsS fileRw xs a) (hb : IsS fileRw ys b) (hl : xs.length < 2 ^ 62) :
    pureCall (CC tab) (.fn (.f 7) [] []) [a, b] = some (.bool (decide (xs = ys))) := by
  refine PC_of_W rfl rfl (by simp [ha.pure, hb.pure]) ?_
  simp [i7, List.replicate, ha.len, hb.len]
  refine condB_intro (fun hne => ?_) (fun heq => ?_)
  · simp at hne
    have : xs ≠ ys := by rintro rfl; omega
    simp [frzV, this]
  · simp at heq
    simp [ha.len]
    refine W_loopP (fun i : Nat => { t := [a, b, .junk, .junk, .junk, .int .i64 i, .junk, .junk, .junk, .junk, .junk, .junk, .junk, .junk, .junk, .junk, .junk, .junk, .junk, .junk, .junk, .junk, .junk, .junk, .junk, .junk], s := [], b := 0, d := [] })
      (fun i => i ≤ xs.length ∧ decide (xs = ys) = decide (xs.drop i = ys.drop i)) (fun i => xs.length - i) ?_ 0 _ (by simp) ⟨Nat.zero_le _, rfl⟩
    rintro i ⟨hle, hidx⟩
    simp [ha.len]
    refine condB_intro (fun hlt => ?_) (fun hge => ?_)
    · simp at hlt
      obtain ⟨x, hxi⟩ := get_lt' hlt
      obtain ⟨y, hyi⟩ := get_lt' (by omega : i < ys.length)
      have hk : keqK [2, 2] (fileRw.row x) (fileRw.row y) = some (decide (x = y)) := fileRw.eq _ _
      simp [ha.ix hxi, hb.ix hyi, span_all (fileRw.len _)]
      rw [hk]
      simp
      rw [drop_at hxi, drop_at hyi] at hidx
      refine condB_intro (fun hne => ?_) (fun heq => ?_)
      · simp at hne
        simp [hidx, hne, frzV]
      · simp at heq
        subst heq
        simp
        exact ⟨i + 1, by simpa using wrap1 (by omega), ⟨by omega, by simpa using hidx⟩, by omega⟩
    · simp at hge
      have : i = xs.length := by omega
      subst this
      rw [List.drop_of_length_le (Nat.le_refl _), List.drop_of_length_le (by omega)] at hidx
      simp [hidx, frzV]


end Go.Proofs.YtleommjdeejmkaaGreatDoor.Zq
