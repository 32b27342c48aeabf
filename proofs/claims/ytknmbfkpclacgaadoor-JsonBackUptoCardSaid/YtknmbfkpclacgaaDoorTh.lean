/- A string's text: rune by rune (as quoted goes) is byte by byte (quoteB), where the string is valid (plain law). -/
import Derived.Test.YtknmbfkpclacgaaDoorTf
set_option linter.unusedSimpArgs false
namespace Go.Proofs.YtknmbfkpclacgaaDoor

/-- what quoted writes for a rune -/
def qR (r : Nat) : List UInt8 := if r < 128 then quoteB (UInt8.ofNat r) else encN r
def qL : Nat → List UInt8 → List UInt8
  | 0, _ => []
  | k + 1, l => if l = [] then [] else qR (stepJ l).1 ++ qL k (l.drop (stepJ l).2)
theorem quoteB_high {c : UInt8} (h : 128 ≤ c.toNat) : quoteB c = [c] := by
  unfold quoteB shortJ
  have hne : ∀ n : Nat, n < 128 → c ≠ UInt8.ofNat n := fun n hn e => by
    have := congrArg UInt8.toNat e
    simp at this
    omega
  rw [if_neg (show c ≠ 34 from hne 34 (by omega)), if_neg (show c ≠ 92 from hne 92 (by omega)), if_neg (show c ≠ 8 from hne 8 (by omega)), if_neg (show c ≠ 9 from hne 9 (by omega)), if_neg (show c ≠ 10 from hne 10 (by omega)), if_neg (show c ≠ 12 from hne 12 (by omega)), if_neg (show c ≠ 13 from hne 13 (by omega))]
  simp only
  rw [if_neg (by omega)]
theorem encN_high {r : Nat} (h : 128 ≤ r) (hv : validR r = true) : ∀ c ∈ encN r, 128 ≤ c.toNat := by
  have hlt := validR_lt hv
  intro c hc
  unfold encN at hc
  rw [if_neg (by omega)] at hc
  split at hc
  · simp at hc; rcases hc with rfl | rfl <;> simp <;> omega
  · split at hc
    · simp at hc; rcases hc with rfl | rfl | rfl <;> simp <;> omega
    · simp at hc; rcases hc with rfl | rfl | rfl | rfl <;> simp <;> omega
theorem flat_id : ∀ {l : List UInt8}, (∀ c ∈ l, 128 ≤ c.toNat) → l.flatMap quoteB = l
  | [], _ => rfl
  | c :: l, h => by
    rw [List.flatMap_cons, quoteB_high (h c (by simp)), flat_id (fun d hd => h d (by simp [hd]))]
    rfl
theorem qR_take {l : List UInt8} {r n : Nat} (h : dec l = some (r, n)) : qR r = (l.take n).flatMap quoteB := by
  have e := dec_enc l r n h
  rw [e.1]
  unfold qR
  split
  · rename_i hr
    unfold encN
    rw [if_pos hr]
    simp
  · rename_i hr
    exact (flat_id (encN_high (by omega) e.2.2.2.2.1)).symm
theorem qL_eq : ∀ (k : Nat) (l : List UInt8), l.length ≤ k → vld k l = true → qL k l = l.flatMap quoteB
  | 0, l, h, _ => by
    have : l = [] := List.length_eq_zero_iff.1 (by omega)
    subst this; rfl
  | k + 1, l, h, hv => by
    rw [qL]
    split
    · rename_i e; subst e; rfl
    · rename_i hne
      cases hd : dec l with
      | none =>
        cases l with
        | nil => exact absurd rfl hne
        | cons c r => simp [vld, hd] at hv
      | some p =>
        obtain ⟨r, n⟩ := p
        have e1 : stepJ l = (r, n) := by unfold stepJ; rw [hd]; rfl
        have e2 := dec_enc l r n hd
        have hv2 : vld k (l.drop n) = true := by
          cases l with
          | nil => exact absurd rfl hne
          | cons c q => simpa [vld, hd] using hv
        rw [e1, qL_eq k (l.drop n) (by rw [List.length_drop]; omega) hv2]
        simp only
        rw [qR_take hd, ← List.flatMap_append, List.take_append_drop]
end Go.Proofs.YtknmbfkpclacgaaDoor
