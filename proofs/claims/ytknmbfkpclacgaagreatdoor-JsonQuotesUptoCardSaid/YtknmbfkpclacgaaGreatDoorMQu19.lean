import Derived.Test.YtknmbfkpclacgaaGreatDoorMQuStep
import Derived.BigQuiet
import Derived.Deep.QuietTactic
import Derived.Test.YtknmbfkpclacgaaGreatDoorMQu18
/- galleyref02: at, in, Long: the walks, and that Long says what dec says. -/
set_option linter.unusedSimpArgs false
namespace Go.Proofs.YtknmbfkpclacgaaGreatDoor
open Go.RowKit

def inB (v lo hi : Int) : Bool := decide (lo ≤ v) && decide (v ≤ hi)
theorem inB_t {v lo hi : Int} (h : lo ≤ v ∧ v ≤ hi) : inB v lo hi = true := by unfold inB; simp [h.1, h.2]
theorem inB_f {v lo hi : Int} (h : v < lo ∨ hi < v) : inB v lo hi = false := by
  unfold inB
  rcases h with h | h
  · rw [decide_eq_false (by omega)]; rfl
  · rw [decide_eq_false (p := v ≤ hi) (by omega)]; simp
theorem inB_iff {v lo hi : Int} : inB v lo hi = true ↔ lo ≤ v ∧ v ≤ hi := by unfold inB; simp
/-- the byte in a place, or -1 -/
def atI (l : List UInt8) (p : Nat) : Int := if p < l.length then ((pk l p).toNat : Int) else -1
set_option maxRecDepth 100000 in
set_option maxHeartbeats 4000000 in
theorem in_any (v lo hi : Int) (w : World) : Calls Tryz.prog 249 #[.int .i64 v, .int .i64 lo, .int .i64 hi] w fun e w' => e = .returned (.bool (inB v lo hi)) ∧ w' = w := by
  go_enter Tryz.func249, Tryz.ntmps249
  by_cases h : lo ≤ v
  · have hb : inB v lo hi = decide (v ≤ hi) := by unfold inB; rw [decide_eq_true h]; rfl
    have HB := Lib.hid hb
    clear hb
    go_wp2_with fail
    go_ret
    exact ⟨by rw [HB.out]; rfl, rfl⟩
  · have hb : inB v lo hi = false := inB_f (by omega)
    have HB := Lib.hid hb
    clear hb
    go_wp2_with fail
    go_ret
    exact ⟨by rw [HB.out]; rfl, rfl⟩
set_option maxRecDepth 100000 in
set_option maxHeartbeats 4000000 in
theorem rat_any (A : Option Addr) (cap : Nat) (l : List UInt8) (p B : Nat) (w : World) (h : Bs w B A l) : Calls Tryz.prog 248 #[.slice A l.length cap, .int .i64 p] w fun e w' => e = .returned (.int .i64 (atI l p)) ∧ w' = w := by
  have hlen := h.len
  by_cases hp : p < l.length
  · obtain ⟨b, o, rfl, hb, hc⟩ := h.cells (by omega)
    have c0 := hc p hp
    have ha : atI l p = ((pk l p).toNat : Int) := by unfold atI; rw [if_pos hp]
    have HA := Lib.hid ha
    have hx := (pk l p).toNat_lt
    generalize (pk l p).toNat = x at *
    clear ha hc h
    go_enter Tryz.func248, Tryz.ntmps248
    go_wp2_with fail
    go_ret
    exact ⟨by rw [HA.out]; rfl, rfl⟩
  · have ha : atI l p = -1 := by unfold atI; rw [if_neg hp]
    have HA := Lib.hid ha
    clear ha h
    go_enter Tryz.func248, Tryz.ntmps248
    go_wp2_with fail
    go_ret
    exact ⟨by rw [HA.out]; rfl, rfl⟩

def yOk3 (x y : Int) : Bool := x == 224 && inB y 160 191 || inB x 225 236 && inB y 128 191 || x == 237 && inB y 128 159 || inB x 238 239 && inB y 128 191
def yOk4 (x y : Int) : Bool := x == 240 && inB y 144 191 || inB x 241 243 && inB y 128 191 || x == 244 && inB y 128 143
def refLong (x y z w : Int) : Nat := if inB x 0 127 then 1 else if inB x 194 223 && inB y 128 191 then 2 else if inB z 128 191 && yOk3 x y then 3 else if (inB z 128 191 && inB w 128 191) && yOk4 x y then 4 else 0
/-- the length of the encoding that begins in a place; 0: none -/
def longN (l : List UInt8) (p : Nat) : Nat := match dec (l.drop p) with | some (_, n) => n | none => 0
theorem x_class (x : Int) : (0 ≤ x ∧ x ≤ 127) ∨ (194 ≤ x ∧ x ≤ 223) ∨ x = 224 ∨ (225 ≤ x ∧ x ≤ 236) ∨ x = 237 ∨ (238 ≤ x ∧ x ≤ 239) ∨ x = 240 ∨ (241 ≤ x ∧ x ≤ 243) ∨ x = 244 ∨ (x < 0 ∨ (127 < x ∧ x < 194) ∨ 244 < x) := by omega

set_option maxRecDepth 100000 in
set_option maxHeartbeats 4000000 in
theorem long_any (A : Option Addr) (cap : Nat) (l : List UInt8) (p B : Nat) (w : World) (h : Bs w B A l) (hp : p ≤ 1000000000000000) :
    Calls Tryz.prog 179 #[.slice A l.length cap, .int .i64 p] w fun e w' => e = .returned (.int .i64 (refLong (atI l p) (atI l (p + 1)) (atI l (p + 2)) (atI l (p + 3)) : Nat)) ∧ w' = w := by
  have g0 := rat_any A cap l p B w h
  have g1 := rat_any A cap l (p + 1) B w h
  have g2 := rat_any A cap l (p + 2) B w h
  have g3 := rat_any A cap l (p + 3) B w h
  rw [show ((p + 1 : Nat) : Int) = (p : Int) + 1 by omega] at g1
  rw [show ((p + 2 : Nat) : Int) = (p : Int) + 2 by omega] at g2
  rw [show ((p + 3 : Nat) : Int) = (p : Int) + 3 by omega] at g3
  generalize atI l p = x at *
  generalize atI l (p + 1) = y at *
  generalize atI l (p + 2) = z at *
  generalize atI l (p + 3) = u at *
  obtain ⟨R, hR⟩ : ∃ R, R = refLong x y z u := ⟨_, rfl⟩
  rw [← hR]
  clear h
  go_enter Tryz.func179, Tryz.ntmps179
  go_wp2_with fail
  refine g0.mono ?_
  rintro e w' ⟨rfl, rfl⟩
  go_wp2_with fail
  refine g1.mono ?_
  rintro e w' ⟨rfl, rfl⟩
  go_wp2_with fail
  refine g2.mono ?_
  rintro e w' ⟨rfl, rfl⟩
  go_wp2_with fail
  refine g3.mono ?_
  rintro e w' ⟨rfl, rfl⟩
  clear g0 g1 g2 g3
  unfold refLong yOk3 yOk4 at hR
  rcases x_class x with hx | hx | hx | hx | hx | hx | hx | hx | hx | hx
  · have a0 : inB x 0 127 = true := inB_t (by omega)
    have b0 : inB x 194 223 = false := inB_f (by omega)
    have g0 : inB x 225 236 = false := inB_f (by omega)
    have j0 : inB x 238 239 = false := inB_f (by omega)
    have m0 : inB x 241 243 = false := inB_f (by omega)
    have e0 : (x == 224) = false := by rw [beq_eq_false_iff_ne]; omega
    have h0 : (x == 237) = false := by rw [beq_eq_false_iff_ne]; omega
    have k0 : (x == 240) = false := by rw [beq_eq_false_iff_ne]; omega
    have n0 : (x == 244) = false := by rw [beq_eq_false_iff_ne]; omega
    clear hx
    simp [a0, b0, g0, j0, m0, e0, h0, k0, n0] at hR
    have HR := Lib.hid hR
    clear hR
    repeat (go_wp2_with fail; refine (in_any _ _ _ _).mono ?_; rintro e w' ⟨rfl, rfl⟩)
    go_wp2_with fail
    go_ret
    exact ⟨by rw [HR.out]; rfl, rfl⟩
  · have a0 : inB x 0 127 = false := inB_f (by omega)
    have b0 : inB x 194 223 = true := inB_t (by omega)
    have g0 : inB x 225 236 = false := inB_f (by omega)
    have j0 : inB x 238 239 = false := inB_f (by omega)
    have m0 : inB x 241 243 = false := inB_f (by omega)
    have e0 : (x == 224) = false := by rw [beq_eq_false_iff_ne]; omega
    have h0 : (x == 237) = false := by rw [beq_eq_false_iff_ne]; omega
    have k0 : (x == 240) = false := by rw [beq_eq_false_iff_ne]; omega
    have n0 : (x == 244) = false := by rw [beq_eq_false_iff_ne]; omega
    clear hx
    cases hy : inB y 128 191 with
    | false =>
      cases hz : inB z 128 191 with
      | false =>
        simp [a0, b0, g0, j0, m0, e0, h0, k0, n0, hy, hz] at hR
        have HR := Lib.hid hR
        clear hR
        repeat (go_wp2_with fail; refine (in_any _ _ _ _).mono ?_; rintro e w' ⟨rfl, rfl⟩)
        go_wp2_with fail
        go_ret
        exact ⟨by rw [HR.out]; rfl, rfl⟩
      | true =>
        cases hu : inB u 128 191 with
        | false =>
          simp [a0, b0, g0, j0, m0, e0, h0, k0, n0, hy, hz, hu] at hR
          have HR := Lib.hid hR
          clear hR
          repeat (go_wp2_with fail; refine (in_any _ _ _ _).mono ?_; rintro e w' ⟨rfl, rfl⟩)
          go_wp2_with fail
          go_ret
          exact ⟨by rw [HR.out]; rfl, rfl⟩
        | true =>
          simp [a0, b0, g0, j0, m0, e0, h0, k0, n0, hy, hz, hu] at hR
          have HR := Lib.hid hR
          clear hR
          repeat (go_wp2_with fail; refine (in_any _ _ _ _).mono ?_; rintro e w' ⟨rfl, rfl⟩)
          go_wp2_with fail
          go_ret
          exact ⟨by rw [HR.out]; rfl, rfl⟩
    | true =>
      simp [a0, b0, g0, j0, m0, e0, h0, k0, n0, hy] at hR
      have HR := Lib.hid hR
      clear hR
      repeat (go_wp2_with fail; refine (in_any _ _ _ _).mono ?_; rintro e w' ⟨rfl, rfl⟩)
      go_wp2_with fail
      go_ret
      exact ⟨by rw [HR.out]; rfl, rfl⟩
  · have a0 : inB x 0 127 = false := inB_f (by omega)
    have b0 : inB x 194 223 = false := inB_f (by omega)
    have g0 : inB x 225 236 = false := inB_f (by omega)
    have j0 : inB x 238 239 = false := inB_f (by omega)
    have m0 : inB x 241 243 = false := inB_f (by omega)
    have e0 : (x == 224) = true := by rw [beq_iff_eq]; omega
    have h0 : (x == 237) = false := by rw [beq_eq_false_iff_ne]; omega
    have k0 : (x == 240) = false := by rw [beq_eq_false_iff_ne]; omega
    have n0 : (x == 244) = false := by rw [beq_eq_false_iff_ne]; omega
    clear hx
    cases hy : inB y 160 191 with
    | false =>
      cases hz : inB z 128 191 with
      | false =>
        simp [a0, b0, g0, j0, m0, e0, h0, k0, n0, hy, hz] at hR
        have HR := Lib.hid hR
        clear hR
        repeat (go_wp2_with fail; refine (in_any _ _ _ _).mono ?_; rintro e w' ⟨rfl, rfl⟩)
        go_wp2_with fail
        go_ret
        exact ⟨by rw [HR.out]; rfl, rfl⟩
      | true =>
        cases hu : inB u 128 191 with
        | false =>
          simp [a0, b0, g0, j0, m0, e0, h0, k0, n0, hy, hz, hu] at hR
          have HR := Lib.hid hR
          clear hR
          repeat (go_wp2_with fail; refine (in_any _ _ _ _).mono ?_; rintro e w' ⟨rfl, rfl⟩)
          go_wp2_with fail
          go_ret
          exact ⟨by rw [HR.out]; rfl, rfl⟩
        | true =>
          simp [a0, b0, g0, j0, m0, e0, h0, k0, n0, hy, hz, hu] at hR
          have HR := Lib.hid hR
          clear hR
          repeat (go_wp2_with fail; refine (in_any _ _ _ _).mono ?_; rintro e w' ⟨rfl, rfl⟩)
          go_wp2_with fail
          go_ret
          exact ⟨by rw [HR.out]; rfl, rfl⟩
    | true =>
      cases hz : inB z 128 191 with
      | false =>
        simp [a0, b0, g0, j0, m0, e0, h0, k0, n0, hy, hz] at hR
        have HR := Lib.hid hR
        clear hR
        repeat (go_wp2_with fail; refine (in_any _ _ _ _).mono ?_; rintro e w' ⟨rfl, rfl⟩)
        go_wp2_with fail
        go_ret
        exact ⟨by rw [HR.out]; rfl, rfl⟩
      | true =>
        simp [a0, b0, g0, j0, m0, e0, h0, k0, n0, hy, hz] at hR
        have HR := Lib.hid hR
        clear hR
        repeat (go_wp2_with fail; refine (in_any _ _ _ _).mono ?_; rintro e w' ⟨rfl, rfl⟩)
        go_wp2_with fail
        go_ret
        exact ⟨by rw [HR.out]; rfl, rfl⟩
  · have a0 : inB x 0 127 = false := inB_f (by omega)
    have b0 : inB x 194 223 = false := inB_f (by omega)
    have g0 : inB x 225 236 = true := inB_t (by omega)
    have j0 : inB x 238 239 = false := inB_f (by omega)
    have m0 : inB x 241 243 = false := inB_f (by omega)
    have e0 : (x == 224) = false := by rw [beq_eq_false_iff_ne]; omega
    have h0 : (x == 237) = false := by rw [beq_eq_false_iff_ne]; omega
    have k0 : (x == 240) = false := by rw [beq_eq_false_iff_ne]; omega
    have n0 : (x == 244) = false := by rw [beq_eq_false_iff_ne]; omega
    clear hx
    cases hy : inB y 128 191 with
    | false =>
      cases hz : inB z 128 191 with
      | false =>
        simp [a0, b0, g0, j0, m0, e0, h0, k0, n0, hy, hz] at hR
        have HR := Lib.hid hR
        clear hR
        repeat (go_wp2_with fail; refine (in_any _ _ _ _).mono ?_; rintro e w' ⟨rfl, rfl⟩)
        go_wp2_with fail
        go_ret
        exact ⟨by rw [HR.out]; rfl, rfl⟩
      | true =>
        cases hu : inB u 128 191 with
        | false =>
          simp [a0, b0, g0, j0, m0, e0, h0, k0, n0, hy, hz, hu] at hR
          have HR := Lib.hid hR
          clear hR
          repeat (go_wp2_with fail; refine (in_any _ _ _ _).mono ?_; rintro e w' ⟨rfl, rfl⟩)
          go_wp2_with fail
          go_ret
          exact ⟨by rw [HR.out]; rfl, rfl⟩
        | true =>
          simp [a0, b0, g0, j0, m0, e0, h0, k0, n0, hy, hz, hu] at hR
          have HR := Lib.hid hR
          clear hR
          repeat (go_wp2_with fail; refine (in_any _ _ _ _).mono ?_; rintro e w' ⟨rfl, rfl⟩)
          go_wp2_with fail
          go_ret
          exact ⟨by rw [HR.out]; rfl, rfl⟩
    | true =>
      cases hz : inB z 128 191 with
      | false =>
        simp [a0, b0, g0, j0, m0, e0, h0, k0, n0, hy, hz] at hR
        have HR := Lib.hid hR
        clear hR
        repeat (go_wp2_with fail; refine (in_any _ _ _ _).mono ?_; rintro e w' ⟨rfl, rfl⟩)
        go_wp2_with fail
        go_ret
        exact ⟨by rw [HR.out]; rfl, rfl⟩
      | true =>
        simp [a0, b0, g0, j0, m0, e0, h0, k0, n0, hy, hz] at hR
        have HR := Lib.hid hR
        clear hR
        repeat (go_wp2_with fail; refine (in_any _ _ _ _).mono ?_; rintro e w' ⟨rfl, rfl⟩)
        go_wp2_with fail
        go_ret
        exact ⟨by rw [HR.out]; rfl, rfl⟩
  · have a0 : inB x 0 127 = false := inB_f (by omega)
    have b0 : inB x 194 223 = false := inB_f (by omega)
    have g0 : inB x 225 236 = false := inB_f (by omega)
    have j0 : inB x 238 239 = false := inB_f (by omega)
    have m0 : inB x 241 243 = false := inB_f (by omega)
    have e0 : (x == 224) = false := by rw [beq_eq_false_iff_ne]; omega
    have h0 : (x == 237) = true := by rw [beq_iff_eq]; omega
    have k0 : (x == 240) = false := by rw [beq_eq_false_iff_ne]; omega
    have n0 : (x == 244) = false := by rw [beq_eq_false_iff_ne]; omega
    clear hx
    cases hy : inB y 128 159 with
    | false =>
      cases hz : inB z 128 191 with
      | false =>
        simp [a0, b0, g0, j0, m0, e0, h0, k0, n0, hy, hz] at hR
        have HR := Lib.hid hR
        clear hR
        repeat (go_wp2_with fail; refine (in_any _ _ _ _).mono ?_; rintro e w' ⟨rfl, rfl⟩)
        go_wp2_with fail
        go_ret
        exact ⟨by rw [HR.out]; rfl, rfl⟩
      | true =>
        cases hu : inB u 128 191 with
        | false =>
          simp [a0, b0, g0, j0, m0, e0, h0, k0, n0, hy, hz, hu] at hR
          have HR := Lib.hid hR
          clear hR
          repeat (go_wp2_with fail; refine (in_any _ _ _ _).mono ?_; rintro e w' ⟨rfl, rfl⟩)
          go_wp2_with fail
          go_ret
          exact ⟨by rw [HR.out]; rfl, rfl⟩
        | true =>
          simp [a0, b0, g0, j0, m0, e0, h0, k0, n0, hy, hz, hu] at hR
          have HR := Lib.hid hR
          clear hR
          repeat (go_wp2_with fail; refine (in_any _ _ _ _).mono ?_; rintro e w' ⟨rfl, rfl⟩)
          go_wp2_with fail
          go_ret
          exact ⟨by rw [HR.out]; rfl, rfl⟩
    | true =>
      cases hz : inB z 128 191 with
      | false =>
        simp [a0, b0, g0, j0, m0, e0, h0, k0, n0, hy, hz] at hR
        have HR := Lib.hid hR
        clear hR
        repeat (go_wp2_with fail; refine (in_any _ _ _ _).mono ?_; rintro e w' ⟨rfl, rfl⟩)
        go_wp2_with fail
        go_ret
        exact ⟨by rw [HR.out]; rfl, rfl⟩
      | true =>
        simp [a0, b0, g0, j0, m0, e0, h0, k0, n0, hy, hz] at hR
        have HR := Lib.hid hR
        clear hR
        repeat (go_wp2_with fail; refine (in_any _ _ _ _).mono ?_; rintro e w' ⟨rfl, rfl⟩)
        go_wp2_with fail
        go_ret
        exact ⟨by rw [HR.out]; rfl, rfl⟩
  · have a0 : inB x 0 127 = false := inB_f (by omega)
    have b0 : inB x 194 223 = false := inB_f (by omega)
    have g0 : inB x 225 236 = false := inB_f (by omega)
    have j0 : inB x 238 239 = true := inB_t (by omega)
    have m0 : inB x 241 243 = false := inB_f (by omega)
    have e0 : (x == 224) = false := by rw [beq_eq_false_iff_ne]; omega
    have h0 : (x == 237) = false := by rw [beq_eq_false_iff_ne]; omega
    have k0 : (x == 240) = false := by rw [beq_eq_false_iff_ne]; omega
    have n0 : (x == 244) = false := by rw [beq_eq_false_iff_ne]; omega
    clear hx
    cases hy : inB y 128 191 with
    | false =>
      cases hz : inB z 128 191 with
      | false =>
        simp [a0, b0, g0, j0, m0, e0, h0, k0, n0, hy, hz] at hR
        have HR := Lib.hid hR
        clear hR
        repeat (go_wp2_with fail; refine (in_any _ _ _ _).mono ?_; rintro e w' ⟨rfl, rfl⟩)
        go_wp2_with fail
        go_ret
        exact ⟨by rw [HR.out]; rfl, rfl⟩
      | true =>
        cases hu : inB u 128 191 with
        | false =>
          simp [a0, b0, g0, j0, m0, e0, h0, k0, n0, hy, hz, hu] at hR
          have HR := Lib.hid hR
          clear hR
          repeat (go_wp2_with fail; refine (in_any _ _ _ _).mono ?_; rintro e w' ⟨rfl, rfl⟩)
          go_wp2_with fail
          go_ret
          exact ⟨by rw [HR.out]; rfl, rfl⟩
        | true =>
          simp [a0, b0, g0, j0, m0, e0, h0, k0, n0, hy, hz, hu] at hR
          have HR := Lib.hid hR
          clear hR
          repeat (go_wp2_with fail; refine (in_any _ _ _ _).mono ?_; rintro e w' ⟨rfl, rfl⟩)
          go_wp2_with fail
          go_ret
          exact ⟨by rw [HR.out]; rfl, rfl⟩
    | true =>
      cases hz : inB z 128 191 with
      | false =>
        simp [a0, b0, g0, j0, m0, e0, h0, k0, n0, hy, hz] at hR
        have HR := Lib.hid hR
        clear hR
        repeat (go_wp2_with fail; refine (in_any _ _ _ _).mono ?_; rintro e w' ⟨rfl, rfl⟩)
        go_wp2_with fail
        go_ret
        exact ⟨by rw [HR.out]; rfl, rfl⟩
      | true =>
        simp [a0, b0, g0, j0, m0, e0, h0, k0, n0, hy, hz] at hR
        have HR := Lib.hid hR
        clear hR
        repeat (go_wp2_with fail; refine (in_any _ _ _ _).mono ?_; rintro e w' ⟨rfl, rfl⟩)
        go_wp2_with fail
        go_ret
        exact ⟨by rw [HR.out]; rfl, rfl⟩
  · have a0 : inB x 0 127 = false := inB_f (by omega)
    have b0 : inB x 194 223 = false := inB_f (by omega)
    have g0 : inB x 225 236 = false := inB_f (by omega)
    have j0 : inB x 238 239 = false := inB_f (by omega)
    have m0 : inB x 241 243 = false := inB_f (by omega)
    have e0 : (x == 224) = false := by rw [beq_eq_false_iff_ne]; omega
    have h0 : (x == 237) = false := by rw [beq_eq_false_iff_ne]; omega
    have k0 : (x == 240) = true := by rw [beq_iff_eq]; omega
    have n0 : (x == 244) = false := by rw [beq_eq_false_iff_ne]; omega
    clear hx
    cases hz : inB z 128 191 with
    | false =>
      simp [a0, b0, g0, j0, m0, e0, h0, k0, n0, hz] at hR
      have HR := Lib.hid hR
      clear hR
      repeat (go_wp2_with fail; refine (in_any _ _ _ _).mono ?_; rintro e w' ⟨rfl, rfl⟩)
      go_wp2_with fail
      go_ret
      exact ⟨by rw [HR.out]; rfl, rfl⟩
    | true =>
      cases hu : inB u 128 191 with
      | false =>
        simp [a0, b0, g0, j0, m0, e0, h0, k0, n0, hz, hu] at hR
        have HR := Lib.hid hR
        clear hR
        repeat (go_wp2_with fail; refine (in_any _ _ _ _).mono ?_; rintro e w' ⟨rfl, rfl⟩)
        go_wp2_with fail
        go_ret
        exact ⟨by rw [HR.out]; rfl, rfl⟩
      | true =>
        cases hy : inB y 144 191 with
        | false =>
          simp [a0, b0, g0, j0, m0, e0, h0, k0, n0, hz, hu, hy] at hR
          have HR := Lib.hid hR
          clear hR
          repeat (go_wp2_with fail; refine (in_any _ _ _ _).mono ?_; rintro e w' ⟨rfl, rfl⟩)
          go_wp2_with fail
          go_ret
          exact ⟨by rw [HR.out]; rfl, rfl⟩
        | true =>
          simp [a0, b0, g0, j0, m0, e0, h0, k0, n0, hz, hu, hy] at hR
          have HR := Lib.hid hR
          clear hR
          repeat (go_wp2_with fail; refine (in_any _ _ _ _).mono ?_; rintro e w' ⟨rfl, rfl⟩)
          go_wp2_with fail
          go_ret
          exact ⟨by rw [HR.out]; rfl, rfl⟩
  · have a0 : inB x 0 127 = false := inB_f (by omega)
    have b0 : inB x 194 223 = false := inB_f (by omega)
    have g0 : inB x 225 236 = false := inB_f (by omega)
    have j0 : inB x 238 239 = false := inB_f (by omega)
    have m0 : inB x 241 243 = true := inB_t (by omega)
    have e0 : (x == 224) = false := by rw [beq_eq_false_iff_ne]; omega
    have h0 : (x == 237) = false := by rw [beq_eq_false_iff_ne]; omega
    have k0 : (x == 240) = false := by rw [beq_eq_false_iff_ne]; omega
    have n0 : (x == 244) = false := by rw [beq_eq_false_iff_ne]; omega
    clear hx
    cases hz : inB z 128 191 with
    | false =>
      simp [a0, b0, g0, j0, m0, e0, h0, k0, n0, hz] at hR
      have HR := Lib.hid hR
      clear hR
      repeat (go_wp2_with fail; refine (in_any _ _ _ _).mono ?_; rintro e w' ⟨rfl, rfl⟩)
      go_wp2_with fail
      go_ret
      exact ⟨by rw [HR.out]; rfl, rfl⟩
    | true =>
      cases hu : inB u 128 191 with
      | false =>
        simp [a0, b0, g0, j0, m0, e0, h0, k0, n0, hz, hu] at hR
        have HR := Lib.hid hR
        clear hR
        repeat (go_wp2_with fail; refine (in_any _ _ _ _).mono ?_; rintro e w' ⟨rfl, rfl⟩)
        go_wp2_with fail
        go_ret
        exact ⟨by rw [HR.out]; rfl, rfl⟩
      | true =>
        cases hy : inB y 128 191 with
        | false =>
          simp [a0, b0, g0, j0, m0, e0, h0, k0, n0, hz, hu, hy] at hR
          have HR := Lib.hid hR
          clear hR
          repeat (go_wp2_with fail; refine (in_any _ _ _ _).mono ?_; rintro e w' ⟨rfl, rfl⟩)
          go_wp2_with fail
          go_ret
          exact ⟨by rw [HR.out]; rfl, rfl⟩
        | true =>
          simp [a0, b0, g0, j0, m0, e0, h0, k0, n0, hz, hu, hy] at hR
          have HR := Lib.hid hR
          clear hR
          repeat (go_wp2_with fail; refine (in_any _ _ _ _).mono ?_; rintro e w' ⟨rfl, rfl⟩)
          go_wp2_with fail
          go_ret
          exact ⟨by rw [HR.out]; rfl, rfl⟩
  · have a0 : inB x 0 127 = false := inB_f (by omega)
    have b0 : inB x 194 223 = false := inB_f (by omega)
    have g0 : inB x 225 236 = false := inB_f (by omega)
    have j0 : inB x 238 239 = false := inB_f (by omega)
    have m0 : inB x 241 243 = false := inB_f (by omega)
    have e0 : (x == 224) = false := by rw [beq_eq_false_iff_ne]; omega
    have h0 : (x == 237) = false := by rw [beq_eq_false_iff_ne]; omega
    have k0 : (x == 240) = false := by rw [beq_eq_false_iff_ne]; omega
    have n0 : (x == 244) = true := by rw [beq_iff_eq]; omega
    clear hx
    cases hz : inB z 128 191 with
    | false =>
      simp [a0, b0, g0, j0, m0, e0, h0, k0, n0, hz] at hR
      have HR := Lib.hid hR
      clear hR
      repeat (go_wp2_with fail; refine (in_any _ _ _ _).mono ?_; rintro e w' ⟨rfl, rfl⟩)
      go_wp2_with fail
      go_ret
      exact ⟨by rw [HR.out]; rfl, rfl⟩
    | true =>
      cases hu : inB u 128 191 with
      | false =>
        simp [a0, b0, g0, j0, m0, e0, h0, k0, n0, hz, hu] at hR
        have HR := Lib.hid hR
        clear hR
        repeat (go_wp2_with fail; refine (in_any _ _ _ _).mono ?_; rintro e w' ⟨rfl, rfl⟩)
        go_wp2_with fail
        go_ret
        exact ⟨by rw [HR.out]; rfl, rfl⟩
      | true =>
        cases hy : inB y 128 143 with
        | false =>
          simp [a0, b0, g0, j0, m0, e0, h0, k0, n0, hz, hu, hy] at hR
          have HR := Lib.hid hR
          clear hR
          repeat (go_wp2_with fail; refine (in_any _ _ _ _).mono ?_; rintro e w' ⟨rfl, rfl⟩)
          go_wp2_with fail
          go_ret
          exact ⟨by rw [HR.out]; rfl, rfl⟩
        | true =>
          simp [a0, b0, g0, j0, m0, e0, h0, k0, n0, hz, hu, hy] at hR
          have HR := Lib.hid hR
          clear hR
          repeat (go_wp2_with fail; refine (in_any _ _ _ _).mono ?_; rintro e w' ⟨rfl, rfl⟩)
          go_wp2_with fail
          go_ret
          exact ⟨by rw [HR.out]; rfl, rfl⟩
  · have a0 : inB x 0 127 = false := inB_f (by omega)
    have b0 : inB x 194 223 = false := inB_f (by omega)
    have g0 : inB x 225 236 = false := inB_f (by omega)
    have j0 : inB x 238 239 = false := inB_f (by omega)
    have m0 : inB x 241 243 = false := inB_f (by omega)
    have e0 : (x == 224) = false := by rw [beq_eq_false_iff_ne]; omega
    have h0 : (x == 237) = false := by rw [beq_eq_false_iff_ne]; omega
    have k0 : (x == 240) = false := by rw [beq_eq_false_iff_ne]; omega
    have n0 : (x == 244) = false := by rw [beq_eq_false_iff_ne]; omega
    clear hx
    cases hz : inB z 128 191 with
    | false =>
      simp [a0, b0, g0, j0, m0, e0, h0, k0, n0, hz] at hR
      have HR := Lib.hid hR
      clear hR
      repeat (go_wp2_with fail; refine (in_any _ _ _ _).mono ?_; rintro e w' ⟨rfl, rfl⟩)
      go_wp2_with fail
      go_ret
      exact ⟨by rw [HR.out]; rfl, rfl⟩
    | true =>
      cases hu : inB u 128 191 with
      | false =>
        simp [a0, b0, g0, j0, m0, e0, h0, k0, n0, hz, hu] at hR
        have HR := Lib.hid hR
        clear hR
        repeat (go_wp2_with fail; refine (in_any _ _ _ _).mono ?_; rintro e w' ⟨rfl, rfl⟩)
        go_wp2_with fail
        go_ret
        exact ⟨by rw [HR.out]; rfl, rfl⟩
      | true =>
        simp [a0, b0, g0, j0, m0, e0, h0, k0, n0, hz, hu] at hR
        have HR := Lib.hid hR
        clear hR
        repeat (go_wp2_with fail; refine (in_any _ _ _ _).mono ?_; rintro e w' ⟨rfl, rfl⟩)
        go_wp2_with fail
        go_ret
        exact ⟨by rw [HR.out]; rfl, rfl⟩
end Go.Proofs.YtknmbfkpclacgaaGreatDoor

/- galleyref02's Long says what dec says: the plain law. -/
set_option linter.unusedSimpArgs false
namespace Go.Proofs.YtknmbfkpclacgaaGreatDoor
theorem atI_drop (l : List UInt8) (p k : Nat) : atI l (p + k) = ((l.drop p)[k]?.map (fun c : UInt8 => (c.toNat : Int))).getD (-1) := by
  unfold atI
  by_cases h : p + k < l.length
  · rw [if_pos h]
    simp [pk, List.getD_eq_getElem?_getD, List.getElem?_eq_getElem h]
  · rw [if_neg h]
    simp [List.getElem?_eq_none (show l.length ≤ p + k by omega)]
theorem dec3 (a b c : Nat) (ha : a < 256) (hb : 128 ≤ b) (hb2 : b < 192) (hc : 128 ≤ c) (hc2 : c < 192) (h14 : a / 16 = 14) :
    (0x800 ≤ (a % 16) * 4096 + (b % 64) * 64 + c % 64 ∧ validR ((a % 16) * 4096 + (b % 64) * 64 + c % 64) = true) ↔ (a = 224 ∧ 160 ≤ b ∨ (225 ≤ a ∧ a ≤ 236) ∨ a = 237 ∧ b ≤ 159 ∨ (238 ≤ a ∧ a ≤ 239)) := by
  unfold validR
  simp only [Bool.or_eq_true, Bool.and_eq_true, decide_eq_true_eq]
  omega
theorem dec4 (a b c d : Nat) (ha : a < 256) (hb : 128 ≤ b) (hb2 : b < 192) (hc : 128 ≤ c) (hc2 : c < 192) (hd : 128 ≤ d) (hd2 : d < 192) :
    (a / 8 = 30 ∧ 0x10000 ≤ (a % 8) * 262144 + (b % 64) * 4096 + (c % 64) * 64 + d % 64 ∧ validR ((a % 8) * 262144 + (b % 64) * 4096 + (c % 64) * 64 + d % 64) = true) ↔ (a = 240 ∧ 144 ≤ b ∨ (241 ≤ a ∧ a ≤ 243) ∨ a = 244 ∧ b ≤ 143) := by
  unfold validR
  simp only [Bool.or_eq_true, Bool.and_eq_true, decide_eq_true_eq]
  omega
theorem refLong_eq (x y z u : Int) : refLong x y z u = if 0 ≤ x ∧ x ≤ 127 then 1 else if (194 ≤ x ∧ x ≤ 223) ∧ (128 ≤ y ∧ y ≤ 191) then 2
    else if (128 ≤ z ∧ z ≤ 191) ∧ (((x = 224 ∧ (160 ≤ y ∧ y ≤ 191) ∨ (225 ≤ x ∧ x ≤ 236) ∧ (128 ≤ y ∧ y ≤ 191)) ∨ x = 237 ∧ (128 ≤ y ∧ y ≤ 159)) ∨ (238 ≤ x ∧ x ≤ 239) ∧ (128 ≤ y ∧ y ≤ 191)) then 3
    else if ((128 ≤ z ∧ z ≤ 191) ∧ (128 ≤ u ∧ u ≤ 191)) ∧ ((x = 240 ∧ (144 ≤ y ∧ y ≤ 191) ∨ (241 ≤ x ∧ x ≤ 243) ∧ (128 ≤ y ∧ y ≤ 191)) ∨ x = 244 ∧ (128 ≤ y ∧ y ≤ 143)) then 4 else 0 := by
  unfold refLong yOk3 yOk4
  simp only [inB, Bool.and_eq_true, Bool.or_eq_true, decide_eq_true_eq, beq_iff_eq]
def lenD (m : List UInt8) : Nat := match dec m with | some (_, n) => n | none => 0
theorem cb_nat (c : UInt8) : cb c = true ↔ 128 ≤ c.toNat ∧ c.toNat < 192 := by unfold cb; simp
theorem lenD_one {a : UInt8} {r : List UInt8} (h : a.toNat < 128) : lenD (a :: r) = 1 := by
  unfold lenD
  cases r <;> simp [dec, h]
theorem lenD_end {a : UInt8} (h : ¬ a.toNat < 128) : lenD [a] = 0 := by unfold lenD; simp [dec, h]
theorem lenD_nocb {a b : UInt8} {r : List UInt8} (h : ¬ a.toNat < 128) (hb : cb b = false) : lenD (a :: b :: r) = 0 := by unfold lenD; simp [dec, h, hb]
theorem lenD_two {a b : UInt8} {r : List UInt8} (h : ¬ a.toNat < 128) (hb : cb b = true) (h2 : 0xC2 ≤ a.toNat ∧ a.toNat < 0xE0) : lenD (a :: b :: r) = 2 := by unfold lenD; simp [dec, h, hb, h2]
theorem lenD_end2 {a b : UInt8} (h : ¬ a.toNat < 128) (hb : cb b = true) (h2 : ¬ (0xC2 ≤ a.toNat ∧ a.toNat < 0xE0)) : lenD [a, b] = 0 := by unfold lenD; simp only [dec, if_neg h, hb, Bool.true_eq_false, if_false, if_neg h2]
theorem lenD_nocb2 {a b c : UInt8} {r : List UInt8} (h : ¬ a.toNat < 128) (hb : cb b = true) (h2 : ¬ (0xC2 ≤ a.toNat ∧ a.toNat < 0xE0)) (hc : cb c = false) : lenD (a :: b :: c :: r) = 0 := by
  unfold lenD; simp only [dec, if_neg h, hb, Bool.true_eq_false, if_false, if_neg h2, if_pos hc]
theorem lenD_three {a b c : UInt8} {r : List UInt8} (h : ¬ a.toNat < 128) (hb : cb b = true) (h2 : ¬ (0xC2 ≤ a.toNat ∧ a.toNat < 0xE0)) (hc : cb c = true) (h14 : a.toNat / 16 = 14) :
    lenD (a :: b :: c :: r) = if (a.toNat = 224 ∧ 160 ≤ b.toNat ∨ (225 ≤ a.toNat ∧ a.toNat ≤ 236) ∨ a.toNat = 237 ∧ b.toNat ≤ 159 ∨ (238 ≤ a.toNat ∧ a.toNat ≤ 239)) then 3 else 0 := by
  unfold lenD; simp only [dec, if_neg h, hb, Bool.true_eq_false, if_false, if_neg h2, hc, if_pos h14]
  have h1 := (cb_nat b).1 hb
  have h3 := (cb_nat c).1 hc
  have := dec3 a.toNat b.toNat c.toNat a.toNat_lt h1.1 h1.2 h3.1 h3.2 h14
  by_cases hk : (a.toNat = 224 ∧ 160 ≤ b.toNat ∨ (225 ≤ a.toNat ∧ a.toNat ≤ 236) ∨ a.toNat = 237 ∧ b.toNat ≤ 159 ∨ (238 ≤ a.toNat ∧ a.toNat ≤ 239))
  · rw [if_pos (this.2 hk), if_pos hk]
  · rw [if_neg (fun h => hk (this.1 h)), if_neg hk]
theorem lenD_end3 {a b c : UInt8} (h : ¬ a.toNat < 128) (hb : cb b = true) (h2 : ¬ (0xC2 ≤ a.toNat ∧ a.toNat < 0xE0)) (hc : cb c = true) (h14 : ¬ a.toNat / 16 = 14) : lenD [a, b, c] = 0 := by
  unfold lenD; simp only [dec, if_neg h, hb, Bool.true_eq_false, if_false, if_neg h2, hc, if_neg h14]
theorem lenD_nocb3 {a b c d : UInt8} {r : List UInt8} (h : ¬ a.toNat < 128) (hb : cb b = true) (h2 : ¬ (0xC2 ≤ a.toNat ∧ a.toNat < 0xE0)) (hc : cb c = true) (h14 : ¬ a.toNat / 16 = 14) (hd : cb d = false) : lenD (a :: b :: c :: d :: r) = 0 := by
  unfold lenD; simp only [dec, if_neg h, hb, Bool.true_eq_false, if_false, if_neg h2, hc, if_neg h14, if_pos hd]
theorem lenD_four {a b c d : UInt8} {r : List UInt8} (h : ¬ a.toNat < 128) (hb : cb b = true) (h2 : ¬ (0xC2 ≤ a.toNat ∧ a.toNat < 0xE0)) (hc : cb c = true) (h14 : ¬ a.toNat / 16 = 14) (hd : cb d = true) :
    lenD (a :: b :: c :: d :: r) = if (a.toNat = 240 ∧ 144 ≤ b.toNat ∨ (241 ≤ a.toNat ∧ a.toNat ≤ 243) ∨ a.toNat = 244 ∧ b.toNat ≤ 143) then 4 else 0 := by
  unfold lenD; simp only [dec, if_neg h, hb, Bool.true_eq_false, if_false, if_neg h2, hc, if_neg h14, hd]
  have h1 := (cb_nat b).1 hb
  have h3 := (cb_nat c).1 hc
  have h4 := (cb_nat d).1 hd
  have := dec4 a.toNat b.toNat c.toNat d.toNat a.toNat_lt h1.1 h1.2 h3.1 h3.2 h4.1 h4.2
  by_cases hk : (a.toNat = 240 ∧ 144 ≤ b.toNat ∨ (241 ≤ a.toNat ∧ a.toNat ≤ 243) ∨ a.toNat = 244 ∧ b.toNat ≤ 143)
  · rw [if_pos (this.2 hk), if_pos hk]
  · rw [if_neg (fun h => hk (this.1 h)), if_neg hk]
def gI (m : List UInt8) (k : Nat) : Int := (m[k]?.map (fun c : UInt8 => (c.toNat : Int))).getD (-1)
theorem cb_false_nat {c : UInt8} (h : cb c = false) : ¬ (128 ≤ (c.toNat : Int) ∧ (c.toNat : Int) ≤ 191) := by
  intro hh
  have := (cb_nat c).2 (by omega)
  rw [h] at this; cases this
theorem refLong_lenD (m : List UInt8) : refLong (gI m 0) (gI m 1) (gI m 2) (gI m 3) = lenD m := by
  rw [refLong_eq]
  match m with
  | [] => rfl
  | a :: r =>
    have ha := a.toNat_lt
    have e0 : gI (a :: r) 0 = (a.toNat : Int) := rfl
    rw [e0]
    by_cases h1 : a.toNat < 128
    · rw [if_pos (by omega), lenD_one h1]
    · rw [if_neg (by omega)]
      match r with
      | [] =>
        have e1 : gI [a] 1 = -1 := rfl
        have e2 : gI [a] 2 = -1 := rfl
        rw [e1, e2, if_neg (by omega), if_neg (by omega), if_neg (by omega), lenD_end h1]
      | b :: r2 =>
        have e1 : gI (a :: b :: r2) 1 = (b.toNat : Int) := rfl
        rw [e1]
        cases hb : cb b with
        | false =>
          have := cb_false_nat hb
          rw [if_neg (by omega), if_neg (by omega), if_neg (by omega), lenD_nocb h1 hb]
        | true =>
          have hb' := (cb_nat b).1 hb
          by_cases h2 : 0xC2 ≤ a.toNat ∧ a.toNat < 0xE0
          · rw [if_pos (by omega), lenD_two h1 hb h2]
          · rw [if_neg (by omega)]
            match r2 with
            | [] =>
              have e2 : gI [a, b] 2 = -1 := rfl
              rw [e2, if_neg (by omega), if_neg (by omega), lenD_end2 h1 hb h2]
            | c :: r3 =>
              have e2 : gI (a :: b :: c :: r3) 2 = (c.toNat : Int) := rfl
              rw [e2]
              cases hc : cb c with
              | false =>
                have := cb_false_nat hc
                rw [if_neg (by omega), if_neg (by omega), lenD_nocb2 h1 hb h2 hc]
              | true =>
                have hc' := (cb_nat c).1 hc
                by_cases h14 : a.toNat / 16 = 14
                · rw [lenD_three h1 hb h2 hc h14]
                  by_cases hk : (a.toNat = 224 ∧ 160 ≤ b.toNat ∨ (225 ≤ a.toNat ∧ a.toNat ≤ 236) ∨ a.toNat = 237 ∧ b.toNat ≤ 159 ∨ (238 ≤ a.toNat ∧ a.toNat ≤ 239))
                  · rw [if_pos (by omega), if_pos hk]
                  · rw [if_neg (by omega), if_neg (by omega), if_neg hk]
                · rw [if_neg (by omega)]
                  match r3 with
                  | [] =>
                    have e3 : gI [a, b, c] 3 = -1 := rfl
                    rw [e3, if_neg (by omega), lenD_end3 h1 hb h2 hc h14]
                  | d :: r4 =>
                    have e3 : gI (a :: b :: c :: d :: r4) 3 = (d.toNat : Int) := rfl
                    rw [e3]
                    cases hd : cb d with
                    | false =>
                      have := cb_false_nat hd
                      rw [if_neg (by omega), lenD_nocb3 h1 hb h2 hc h14 hd]
                    | true =>
                      have hd' := (cb_nat d).1 hd
                      rw [lenD_four h1 hb h2 hc h14 hd]
                      by_cases hk : (a.toNat = 240 ∧ 144 ≤ b.toNat ∨ (241 ≤ a.toNat ∧ a.toNat ≤ 243) ∨ a.toNat = 244 ∧ b.toNat ≤ 143)
                      · rw [if_pos (by omega), if_pos hk]
                      · rw [if_neg (by omega), if_neg hk]
theorem refLong_long (l : List UInt8) (p : Nat) : refLong (atI l p) (atI l (p + 1)) (atI l (p + 2)) (atI l (p + 3)) = longN l p := by
  have h0 : atI l p = gI (l.drop p) 0 := atI_drop l p 0
  rw [h0, show atI l (p + 1) = gI (l.drop p) 1 from atI_drop l p 1, show atI l (p + 2) = gI (l.drop p) 2 from atI_drop l p 2, show atI l (p + 3) = gI (l.drop p) 3 from atI_drop l p 3, refLong_lenD]
  rfl
end Go.Proofs.YtknmbfkpclacgaaGreatDoor
