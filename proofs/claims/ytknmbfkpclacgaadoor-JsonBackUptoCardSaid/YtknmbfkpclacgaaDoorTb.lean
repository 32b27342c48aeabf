/- json.used: the walk. -/
import Derived.Test.YtknmbfkpclacgaaDoorTa
import Derived.Test.YtknmbfkpclacgaaDoorBase
import Derived.Test.YtknmbfkpclacgaaDoorRdn
set_option linter.unusedSimpArgs false
namespace Go.Proofs.YtknmbfkpclacgaaDoor
open Go.RowKit

def usedB (kd : Int) (t n x k m e : Bool) : Bool :=
  if kd = 1 then !t && !n && !x && !k && !m
  else if kd = 2 then !n && !x && !k && !m
  else if kd = 3 then !t && !x && !k && !m
  else if kd = 4 then !t && !n && !k && !m
  else if kd = 5 then !t && !n && !x && !m
  else if kd = 6 then !t && !n && !x && e
  else false
set_option maxRecDepth 100000 in
set_option maxHeartbeats 4000000 in
theorem used_any (v : JV) (Ak An : Option Addr) (ck cn : Nat) (w : World) :
    Calls Tryd.prog 61 #[.agg #[.int .i64 v.kind, .bool v.truth, .int .i64 v.n, .string ⟨v.text.toArray⟩, .slice Ak v.kids.length ck, .slice An v.names.length cn]] w fun e w' => e = .returned (.bool (usedJ v)) ∧ Chg (fun _ => False) w w' := by
  go_enter Tryd.func61, Tryd.ntmps61
  go_wp2_with fail
  go_quiet (fail)
  go_wp2_with fail
  go_quiet (fail)
  go_upto_region 4 with fail
  have hu : usedJ v = usedB v.kind v.truth (v.n != 0) (!v.text.isEmpty) (decide (0 < v.kids.length)) (decide (0 < v.names.length)) (v.kids.length == v.names.length) := rfl
  have hch : ∀ o n, Chg (fun _ => False) w ((w.alloc o).drewN n) := fun o n => ((Chg.refl _ w).alloc o).drewN n
  have HU := Lib.hid hu
  have HCH := Lib.hid hch
  clear hu hch
  have hkn : (((v.kids.length : Int)) == (v.names.length : Int)) = (v.kids.length == v.names.length) := by
    by_cases h : v.kids.length = v.names.length
    · rw [h]; simp
    · have h2 : ¬ (v.kids.length : Int) = (v.names.length : Int) := by omega
      rw [beq_false_of_ne h, beq_false_of_ne h2]
  have hcase : v.kind = 1 ∨ v.kind = 2 ∨ v.kind = 3 ∨ v.kind = 4 ∨ v.kind = 5 ∨ v.kind = 6 ∨ (v.kind ≠ 1 ∧ v.kind ≠ 2 ∧ v.kind ≠ 3 ∧ v.kind ≠ 4 ∧ v.kind ≠ 5 ∧ v.kind ≠ 6) := by omega
  rcases hcase with hk | hk | hk | hk | hk | hk | hk
  · have HK := Lib.hid hk
    have g1 : (v.kind == 1) = true := by simp [hk]
    clear hk
    go_wp2_with fail
    all_goals
      go_ret
      refine ⟨?_, HCH.out _ _⟩
      rw [HU.out, HK.out]
      simp_all [usedB]
  · have HK := Lib.hid hk
    have g1 : (v.kind == 1) = false := by simp [hk]
    have g2 : (v.kind == 2) = true := by simp [hk]
    clear hk
    go_wp2_with fail
    all_goals
      go_ret
      refine ⟨?_, HCH.out _ _⟩
      rw [HU.out, HK.out]
      simp_all [usedB]
  · have HK := Lib.hid hk
    have g1 : (v.kind == 1) = false := by simp [hk]
    have g2 : (v.kind == 2) = false := by simp [hk]
    have g3 : (v.kind == 3) = true := by simp [hk]
    clear hk
    go_wp2_with fail
    all_goals
      go_ret
      refine ⟨?_, HCH.out _ _⟩
      rw [HU.out, HK.out]
      simp_all [usedB]
  · have HK := Lib.hid hk
    have g1 : (v.kind == 1) = false := by simp [hk]
    have g2 : (v.kind == 2) = false := by simp [hk]
    have g3 : (v.kind == 3) = false := by simp [hk]
    have g4 : (v.kind == 4) = true := by simp [hk]
    clear hk
    go_wp2_with fail
    all_goals
      go_ret
      refine ⟨?_, HCH.out _ _⟩
      rw [HU.out, HK.out]
      simp_all [usedB]
  · have HK := Lib.hid hk
    have g1 : (v.kind == 1) = false := by simp [hk]
    have g2 : (v.kind == 2) = false := by simp [hk]
    have g3 : (v.kind == 3) = false := by simp [hk]
    have g4 : (v.kind == 4) = false := by simp [hk]
    have g5 : (v.kind == 5) = true := by simp [hk]
    clear hk
    go_wp2_with fail
    all_goals
      go_ret
      refine ⟨?_, HCH.out _ _⟩
      rw [HU.out, HK.out]
      simp_all [usedB]
  · have HK := Lib.hid hk
    have g1 : (v.kind == 1) = false := by simp [hk]
    have g2 : (v.kind == 2) = false := by simp [hk]
    have g3 : (v.kind == 3) = false := by simp [hk]
    have g4 : (v.kind == 4) = false := by simp [hk]
    have g5 : (v.kind == 5) = false := by simp [hk]
    have g6 : (v.kind == 6) = true := by simp [hk]
    clear hk
    go_wp2_with fail
    all_goals
      go_ret
      refine ⟨?_, HCH.out _ _⟩
      rw [HU.out, HK.out]
      simp_all [usedB]
  · have HK := Lib.hid hk
    obtain ⟨k1, k2, k3, k4, k5, k6⟩ := hk
    have g1 : (v.kind == 1) = false := by simp [k1]
    have g2 : (v.kind == 2) = false := by simp [k2]
    have g3 : (v.kind == 3) = false := by simp [k3]
    have g4 : (v.kind == 4) = false := by simp [k4]
    have g5 : (v.kind == 5) = false := by simp [k5]
    have g6 : (v.kind == 6) = false := by simp [k6]
    clear k1 k2 k3 k4 k5 k6
    go_wp2_with fail
    all_goals
      go_ret
      refine ⟨?_, HCH.out _ _⟩
      rw [HU.out]
      obtain ⟨k1, k2, k3, k4, k5, k6⟩ := HK.out
      simp [usedB, k1, k2, k3, k4, k5, k6]
end Go.Proofs.YtknmbfkpclacgaaDoor
