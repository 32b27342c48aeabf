/- strconv.Itoa and FormatBool: what they give. -/
import Derived.Test.YtknmbfkpclacgaaDoorTa
import Derived.Test.YtknmbfkpclacgaaDoorBase
import Derived.Test.YtknmbfkpclacgaaDoorShelf
namespace Go.Proofs.YtknmbfkpclacgaaDoor
open Go.RowKit

theorem decGo_eq : ∀ (k n : Nat), n ≤ k → decGo k n = Lib.decDigits n
  | 0, n, h => by
    obtain rfl : n = 0 := by omega
    rw [Lib.decDigits, dif_pos (by omega)]
    rfl
  | k + 1, n, h => by
    rw [decGo, Lib.decDigits]
    by_cases h10 : n < 10
    · rw [if_pos h10, dif_pos h10]
    · rw [if_neg h10, dif_neg h10, decGo_eq k (n / 10) (by omega)]
theorem decJ_itoa (n : Int) : decJ n = Lib.itoa n := by
  unfold decJ Lib.itoa
  split
  · rw [decGo_eq _ _ (Nat.le_refl _)]; rfl
  · rename_i h
    rw [decGo_eq _ _ (Nat.le_refl _), show n.natAbs = n.toNat by omega]
/-- The table of powers of ten is laid, and lies below B. -/
structure NumOk (w : World) (B : Nat) : Prop where
  tab : ∀ W, Below B w W → Lib.TabIs Tryd.prog W "internal/strconv.uint64pow10" .u64 Lib.pow10Tab
theorem NumOk.keep {w w' : World} {B : Nat} (h : NumOk w B) (hb : Below B w w') : NumOk w' B := ⟨fun W hW => h.tab W (hb.trans hW)⟩
theorem grow_same (w : World) (k : Nat) (os : Array Obj) : Below w.heap.size w (Go.Sort.grow (w.drewN k) os) := by
  refine ⟨rfl, rfl, rfl, ?_, fun i hi => ?_⟩
  · simp [Go.Sort.grow]
  · simp [Go.Sort.grow, Array.getElem?_append_left hi]
theorem itoa_any (n : Int) (h0 : -9223372036854775808 ≤ n) (h1 : n ≤ 9223372036854775807) (w : World) (B : Nat) (h : NumOk w B) :
    Calls Tryd.prog 50 #[.int .i64 n] w fun e w' => e = .returned (.string ⟨(decJ n).toArray⟩) ∧ Below w.heap.size w w' := by
  refine (Tryd.strconv_Itoa n h0 h1 w (h.tab w (Below.refl _ _))).mono ?_
  rintro e w' ⟨rfl, k, os, rfl⟩
  exact ⟨by rw [decJ_itoa], grow_same w k os⟩
theorem fbool_any (x : Bool) (w : World) :
    Calls Tryd.prog 49 #[.bool x] w fun e w' => e = .returned (.string ⟨(if x then [116, 114, 117, 101] else [102, 97, 108, 115, 101] : List UInt8).toArray⟩) ∧ w' = w := by
  refine (Tryd.strconv_FormatBool x w).mono ?_
  rintro e w' ⟨rfl, rfl⟩
  refine ⟨?_, rfl⟩
  cases x <;> rfl
end Go.Proofs.YtknmbfkpclacgaaDoor
