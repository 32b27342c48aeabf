/- Plain law: sorted and compacted, a list is shorter just where something stands in it twice. -/
import Derived.Test.YtknmbfkpclacgaaDoorTa
import Derived.Lib.SlicesCompact
set_option linter.unusedSimpArgs false
namespace Go.Proofs.YtknmbfkpclacgaaDoor

theorem noDup_nodup : ∀ l : List (List UInt8), noDup l = true ↔ l.Nodup
  | [] => by simp [noDup]
  | s :: r => by
    rw [noDup, List.nodup_cons, Bool.and_eq_true, noDup_nodup r]
    simp
theorem compact_lt (l : List (List UInt8)) : (Lib.compact l).length < l.length ↔ ∃ j, 0 < j ∧ ∃ h : j < l.length, l[j] = l[j - 1]'(by omega) := by
  have e : (Lib.compact l).length = ((List.range l.length).filter (Lib.keeps l.toArray)).length := by simp [Lib.compact, Lib.compactUpTo]
  have hr : (List.range l.length).length = l.length := List.length_range
  rw [e]
  conv => lhs; rhs; rw [← hr]
  rw [List.length_filter_lt_length_iff_exists]
  constructor
  · rintro ⟨j, hj, hk⟩
    have hj := List.mem_range.1 hj
    unfold Lib.keeps at hk
    simp only [decide_eq_true_eq, not_or, Classical.not_not] at hk
    refine ⟨j, by omega, hj, ?_⟩
    have h2 := hk.2
    rw [getElem!_pos l.toArray j (by simpa using hj), getElem!_pos l.toArray (j - 1) (by simp; omega)] at h2
    simpa using h2
  · rintro ⟨j, h0, hj, h⟩
    refine ⟨j, List.mem_range.2 hj, ?_⟩
    unfold Lib.keeps
    simp only [decide_eq_true_eq, not_or, Classical.not_not]
    refine ⟨by omega, ?_⟩
    rw [getElem!_pos l.toArray j (by simpa using hj), getElem!_pos l.toArray (j - 1) (by simp; omega)]
    simpa using h
theorem dup_lt (l : List (List UInt8)) : decide ((Lib.compact (l.mergeSort fun x y => decide (x ≤ y))).length < l.length) = !noDup l := by
  have hp := List.mergeSort_perm l (fun x y => decide (x ≤ y))
  have hs : List.Pairwise (fun a b : List UInt8 => a ≤ b) (l.mergeSort fun x y => decide (x ≤ y)) := by
    have := List.pairwise_mergeSort (le := fun x y : List UInt8 => decide (x ≤ y)) (fun a b c h1 h2 => by simp only [decide_eq_true_eq] at *; exact List.le_trans h1 h2) (fun a b => by simp only [Bool.or_eq_true, decide_eq_true_eq]; exact List.le_total a b) l
    simpa using this
  have hl := hp.length_eq
  have hnd := hp.nodup_iff
  generalize (l.mergeSort fun x y => decide (x ≤ y)) = S at *
  have key : (Lib.compact S).length < l.length ↔ ¬ l.Nodup := by
    rw [← hl, compact_lt, ← hnd]
    constructor
    · rintro ⟨j, h0, hj, h⟩ hn
      exact List.pairwise_iff_getElem.1 hn (j - 1) j (by omega) hj (by omega) h.symm
    · intro hn
      apply Classical.byContradiction
      intro hno
      apply hn
      refine List.pairwise_iff_getElem.2 fun i j hi hj hij he => hno ⟨i + 1, by omega, by omega, ?_⟩
      have h1 := List.pairwise_iff_getElem.1 hs i (i + 1) hi (by omega) (by omega)
      have h2 : S[i + 1]'(by omega) ≤ S[j] := by
        rcases Nat.lt_or_ge (i + 1) j with h | h
        · exact List.pairwise_iff_getElem.1 hs (i + 1) j (by omega) hj h
        · obtain rfl : i + 1 = j := by omega
          exact List.le_refl _
      rw [← he] at h2
      exact List.le_antisymm h2 h1
  cases hd : noDup l with
  | true =>
    rw [decide_eq_false (fun h => key.1 h ((noDup_nodup l).1 hd))]
    rfl
  | false =>
    rw [decide_eq_true (key.2 (fun h => by rw [(noDup_nodup l).2 h] at hd; cases hd))]
    rfl
end Go.Proofs.YtknmbfkpclacgaaDoor
