/- A string as runes and back: is it valid? (plain law) -/
import Derived.Test.YtknmbfkpclacgaaDoorTe
import Derived.Test.YtknmbfkpclacgaaDoorJb
import Derived.Laws.Cover4
import Derived.Laws.IdiomStrings
import Derived.Lib.TrimUEq
set_option linter.unusedSimpArgs false
namespace Go.Proofs.YtknmbfkpclacgaaDoor
open Go.RowKit

def stepJ (l : List UInt8) : Nat × Nat := (dec l).getD (65533, 1)
def runesL : Nat → List UInt8 → List Int
  | 0, _ => []
  | k + 1, l => if l = [] then [] else ((stepJ l).1 : Int) :: runesL k (l.drop (stepJ l).2)
def outL : Nat → List UInt8 → List UInt8
  | 0, _ => []
  | k + 1, l => if l = [] then [] else encN (stepJ l).1 ++ outL k (l.drop (stepJ l).2)
theorem decode_drop (l : List UInt8) (i : Nat) (hi : i < l.length) : Utf8.decode ⟨l.toArray⟩ i = stepJ (l.drop i) := by
  have h := Lib.decodeL_drop ⟨l.toArray⟩ i
  rw [← h]
  show Utf8.decode _ 0 = _
  have hne : l.drop i ≠ [] := by
    intro e
    have := congrArg List.length e
    simp at this
    omega
  exact decode_dec (l.drop i) hne
theorem runesFrom_L (l : List UInt8) : ∀ (k i : Nat) (acc : Array Value), Conv.runesFrom ⟨l.toArray⟩ k i acc = acc ++ ((runesL k (l.drop i)).map (Value.int .i32)).toArray
  | 0, i, acc => by simp [Conv.runesFrom, runesL]
  | k + 1, i, acc => by
    rw [Conv.runesFrom, runesL]
    have hsz : (⟨l.toArray⟩ : ByteArray).size = l.length := by show l.toArray.size = _; simp
    rw [hsz]
    by_cases hi : i < l.length
    · have hne : l.drop i ≠ [] := by
        intro e
        have := congrArg List.length e
        simp at this
        omega
      rw [if_pos hi, if_neg hne, decode_drop l i hi]
      simp only
      rw [runesFrom_L l k _ _, List.drop_drop]
      simp [Nat.add_comm]
    · have he : l.drop i = [] := List.drop_eq_nil_of_le (by omega)
      rw [if_neg hi, if_pos he]
      simp
theorem stepJ_valid (l : List UInt8) (h : l ≠ []) : validR (stepJ l).1 = true ∧ 1 ≤ (stepJ l).2 := by
  unfold stepJ
  cases hd : dec l with
  | none => exact ⟨by decide, by decide⟩
  | some p => obtain ⟨r, n⟩ := p; have := dec_enc l r n hd; exact ⟨this.2.2.2.2.1, this.2.1⟩
theorem foldl_enc : ∀ (ns : List Nat) (s : List UInt8), (∀ n ∈ ns, validR n = true) → (ns.map (fun n : Nat => (n : Int))).foldl (fun r n => r ++ Utf8.encode n) (⟨s.toArray⟩ : ByteArray) = ⟨(s ++ ns.flatMap encN).toArray⟩
  | [], s, _ => by simp
  | n :: ns, s, h => by
    simp only [List.map_cons, List.foldl_cons, List.flatMap_cons]
    rw [encode_encN n (h n (by simp))]
    have : (⟨s.toArray⟩ : ByteArray) ++ ⟨(encN n).toArray⟩ = ⟨(s ++ encN n).toArray⟩ := by
      apply ByteArray.ext
      simp
    rw [this, foldl_enc ns _ (fun m hm => h m (by simp [hm])), List.append_assoc]
def runesN : Nat → List UInt8 → List Nat
  | 0, _ => []
  | k + 1, l => if l = [] then [] else (stepJ l).1 :: runesN k (l.drop (stepJ l).2)
theorem runesN_L : ∀ (k : Nat) (l : List UInt8), runesL k l = (runesN k l).map (fun n : Nat => (n : Int))
  | 0, _ => rfl
  | k + 1, l => by
    rw [runesL, runesN]
    split
    · rfl
    · rw [runesN_L k]; rfl
theorem runesN_out : ∀ (k : Nat) (l : List UInt8), (runesN k l).flatMap encN = outL k l
  | 0, _ => rfl
  | k + 1, l => by
    rw [outL, runesN]
    split
    · rfl
    · rw [List.flatMap_cons, runesN_out k]
theorem runesN_valid : ∀ (k : Nat) (l : List UInt8), ∀ n ∈ runesN k l, validR n = true
  | 0, _, n, h => by simp [runesN] at h
  | k + 1, l, n, h => by
    rw [runesN] at h
    split at h
    · simp at h
    · rename_i hne
      rcases List.mem_cons.1 h with rfl | h
      · exact (stepJ_valid l hne).1
      · exact runesN_valid k _ n h
theorem runesBytes_L (k : Nat) (l : List UInt8) : runesBytes (runesL k l) = ⟨(outL k l).toArray⟩ := by
  unfold runesBytes
  rw [runesN_L, ← runesN_out]
  have := foldl_enc (runesN k l) [] (runesN_valid k l)
  rw [List.nil_append] at this
  exact this
theorem outL_ge : ∀ (k : Nat) (l : List UInt8), l.length ≤ k → l.length ≤ (outL k l).length
  | 0, l, h => by omega
  | k + 1, l, h => by
    rw [outL]
    split
    · rename_i e; simp [e]
    · rename_i hne
      have hpos := List.length_pos_iff.2 hne
      have h1 := (stepJ_valid l hne).2
      have ih := outL_ge k (l.drop (stepJ l).2) (by rw [List.length_drop]; omega)
      rw [List.length_append]
      rw [List.length_drop] at ih
      cases hd : dec l with
      | none =>
        have e1 : stepJ l = (65533, 1) := by unfold stepJ; rw [hd]; rfl
        rw [e1] at ih ⊢
        simp only at ih ⊢
        have : (encN 65533).length = 3 := by decide
        omega
      | some p =>
        obtain ⟨r, n⟩ := p
        have e1 : stepJ l = (r, n) := by unfold stepJ; rw [hd]; rfl
        have e2 := dec_enc l r n hd
        rw [e1] at ih ⊢
        simp only at ih ⊢
        omega
theorem outL_eq : ∀ (k : Nat) (l : List UInt8), l.length ≤ k → (outL k l = l ↔ vld k l = true)
  | 0, l, h => by
    have : l = [] := List.length_eq_zero_iff.1 (by omega)
    subst this
    simp [outL, vld]
  | k + 1, l, h => by
    rw [outL]
    split
    · rename_i e; subst e; simp [vld]
    · rename_i hne
      have hpos := List.length_pos_iff.2 hne
      cases hd : dec l with
      | none =>
        have e1 : stepJ l = (65533, 1) := by unfold stepJ; rw [hd]; rfl
        rw [e1]
        have ih := outL_ge k (l.drop 1) (by rw [List.length_drop]; omega)
        rw [List.length_drop] at ih
        have hv : vld (k + 1) l = false := by
          cases l with
          | nil => exact absurd rfl hne
          | cons c r => simp [vld, hd]
        rw [hv]
        constructor
        · intro e
          have := congrArg List.length e
          rw [List.length_append] at this
          simp only at this
          have h3 : (encN 65533).length = 3 := by decide
          omega
        · intro e; cases e
      | some p =>
        obtain ⟨r, n⟩ := p
        have e1 : stepJ l = (r, n) := by unfold stepJ; rw [hd]; rfl
        have e2 := dec_enc l r n hd
        rw [e1]
        have ih := outL_eq k (l.drop n) (by rw [List.length_drop]; omega)
        have hv : vld (k + 1) l = vld k (l.drop n) := by
          cases l with
          | nil => exact absurd rfl hne
          | cons c r => simp [vld, hd]
        rw [hv, ← ih]
        simp only
        rw [← e2.1]
        constructor
        · intro e
          have h5 := e.trans (List.take_append_drop n l).symm
          exact List.append_cancel_left h5
        · intro e
          rw [e]
          exact List.take_append_drop n l
/-- A string that goes to runes and back is the same just where it is valid. -/
theorem runes_back (l : List UInt8) : outL l.length l = l ↔ validL l = true := outL_eq l.length l (Nat.le_refl _)
theorem runesL_len : ∀ (k : Nat) (l : List UInt8), (runesL k l).length ≤ k
  | 0, _ => by simp [runesL]
  | k + 1, l => by
    rw [runesL]
    split
    · simp
    · have := runesL_len k (l.drop (stepJ l).2)
      simp; omega
theorem outL_len (k : Nat) (l : List UInt8) : (outL k l).length ≤ 4 * k := by
  have h := runesBytes_size_le (runesL k l)
  have h2 := runesL_len k l
  rw [runesBytes_L] at h
  have : (⟨(outL k l).toArray⟩ : ByteArray).size = (outL k l).length := by show (outL k l).toArray.size = _; simp
  omega
end Go.Proofs.YtknmbfkpclacgaaDoor
