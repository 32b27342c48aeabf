import Derived.Test.YtknmbfkpclacgaaGreatDoorMPaStep
import Derived.BigQuiet
import Derived.Deep.QuietTactic
/- galleyref02: at, in, Long: the walks, and that Long says what dec says. -/
set_option linter.unusedSimpArgs false
namespace Go.Proofs.YtknmbfkpclacgaaGreatDoor
open Go.RowKit

def inB (v lo hi : Int) : Bool := decide (lo ≤ v) && decide (v ≤ hi)
theorem inB_t {v lo hi : Int} (h : lo ≤ v ∧ v ≤ hi) : inB v lo hi = true := by unfold inB; simp [h.1, h.2]
theorem inB_f {v lo hi : Int} (h : v < lo ∨ hi < v) : inB v lo hi = false := by
  unfold inB
  rcases h with h | h
  · rw [decide_eq_false (by omega)]; rfl
  · rw [decide_eq_false (p := v ≤ hi) (by omega)]; simp
theorem inB_iff {v lo hi : Int} : inB v lo hi = true ↔ lo ≤ v ∧ v ≤ hi := by unfold inB; simp
/-- the byte in a place, or -1 -/
def atI (l : List UInt8) (p : Nat) : Int := if p < l.length then ((pk l p).toNat : Int) else -1
set_option maxRecDepth 100000 in
set_option maxHeartbeats 4000000 in
theorem in_any (v lo hi : Int) (w : World) : Calls Tryz.prog 249 #[.int .i64 v, .int .i64 lo, .int .i64 hi] w fun e w' => e = .returned (.bool (inB v lo hi)) ∧ w' = w := by
  go_enter Tryz.func249, Tryz.ntmps249
  by_cases h : lo ≤ v
  · have hb : inB v lo hi = decide (v ≤ hi) := by unfold inB; rw [decide_eq_true h]; rfl
    have HB := Lib.hid hb
    clear hb
    go_wp2_with fail
    go_ret
    exact ⟨by rw [HB.out]; rfl, rfl⟩
  · have hb : inB v lo hi = false := inB_f (by omega)
    have HB := Lib.hid hb
    clear hb
    go_wp2_with fail
    go_ret
    exact ⟨by rw [HB.out]; rfl, rfl⟩
set_option maxRecDepth 100000 in
set_option maxHeartbeats 4000000 in
theorem rat_any (A : Option Addr) (cap : Nat) (l : List UInt8) (p B : Nat) (w : World) (h : Bs w B A l) : Calls Tryz.prog 248 #[.slice A l.length cap, .int .i64 p] w fun e w' => e = .returned (.int .i64 (atI l p)) ∧ w' = w := by
  have hlen := h.len
  by_cases hp : p < l.length
  · obtain ⟨b, o, rfl, hb, hc⟩ := h.cells (by omega)
    have c0 := hc p hp
    have ha : atI l p = ((pk l p).toNat : Int) := by unfold atI; rw [if_pos hp]
    have HA := Lib.hid ha
    have hx := (pk l p).toNat_lt
    generalize (pk l p).toNat = x at *
    clear ha hc h
    go_enter Tryz.func248, Tryz.ntmps248
    go_wp2_with fail
    go_ret
    exact ⟨by rw [HA.out]; rfl, rfl⟩
  · have ha : atI l p = -1 := by unfold atI; rw [if_neg hp]
    have HA := Lib.hid ha
    clear ha h
    go_enter Tryz.func248, Tryz.ntmps248
    go_wp2_with fail
    go_ret
    exact ⟨by rw [HA.out]; rfl, rfl⟩

def yOk3 (x y : Int) : Bool := x == 224 && inB y 160 191 || inB x 225 236 && inB y 128 191 || x == 237 && inB y 128 159 || inB x 238 239 && inB y 128 191
def yOk4 (x y : Int) : Bool := x == 240 && inB y 144 191 || inB x 241 243 && inB y 128 191 || x == 244 && inB y 128 143
def refLong (x y z w : Int) : Nat := if inB x 0 127 then 1 else if inB x 194 223 && inB y 128 191 then 2 else if inB z 128 191 && yOk3 x y then 3 else if (inB z 128 191 && inB w 128 191) && yOk4 x y then 4 else 0
/-- the length of the encoding that begins in a place; 0: none -/
def longN (l : List UInt8) (p : Nat) : Nat := match dec (l.drop p) with | some (_, n) => n | none => 0
theorem x_class (x : Int) : (0 ≤ x ∧ x ≤ 127) ∨ (194 ≤ x ∧ x ≤ 223) ∨ x = 224 ∨ (225 ≤ x ∧ x ≤ 236) ∨ x = 237 ∨ (238 ≤ x ∧ x ≤ 239) ∨ x = 240 ∨ (241 ≤ x ∧ x ≤ 243) ∨ x = 244 ∨ (x < 0 ∨ (127 < x ∧ x < 194) ∨ 244 < x) := by omega

set_option maxRecDepth 100000 in
set_option maxHeartbeats 4000000 in
theorem long_any (A : Option Addr) (cap : Nat) (l : List UInt8) (p B : Nat) (w : World) (h : Bs w B A l) (hp : p ≤ 1000000000000000) :
    Calls Tryz.prog 179 #[.slice A l.length cap, .int .i64 p] w fun e w' => e = .returned (.int .i64 (refLong (atI l p) (atI l (p + 1)) (atI l (p + 2)) (atI l (p + 3)) : Nat)) ∧ w' = w := by
  have g0 := rat_any A cap l p B w h
  have g1 := rat_any A cap l (p + 1) B w h
  have g2 := rat_any A cap l (p + 2) B w h
  have g3 := rat_any A cap l (p + 3) B w h
  rw [show ((p + 1 : Nat) : Int) = (p : Int) + 1 by omega] at g1
  rw [show ((p + 2 : Nat) : Int) = (p : Int) + 2 by omega] at g2
  rw [show ((p + 3 : Nat) : Int) = (p : Int) + 3 by omega] at g3
  generalize atI l p = x at *
  generalize atI l (p + 1) = y at *
  generalize atI l (p + 2) = z at *
  generalize atI l (p + 3) = u at *
  obtain ⟨R, hR⟩ : ∃ R, R = refLong x y z u := ⟨_, rfl⟩
  rw [← hR]
  clear h
  go_enter Tryz.func179, Tryz.ntmps179
  go_wp2_with fail
  refine g0.mono ?_
  rintro e w' ⟨rfl, rfl⟩
  go_wp2_with fail
  refine g1.mono ?_
  rintro e w' ⟨rfl, rfl⟩
  go_wp2_with fail
  refine g2.mono ?_
  rintro e w' ⟨rfl, rfl⟩
  go_wp2_with fail
  refine g3.mono ?_
  rintro e w' ⟨rfl, rfl⟩
  clear g0 g1 g2 g3
  unfold refLong yOk3 yOk4 at hR
  rcases x_class x with hx | hx | hx | hx | hx | hx | hx | hx | hx | hx
  · have a0 : inB x 0 127 = true := inB_t (by omega)
    have b0 : inB x 194 223 = false := inB_f (by omega)
    have g0 : inB x 225 236 = false := inB_f (by omega)
    have j0 : inB x 238 239 = false := inB_f (by omega)
    have m0 : inB x 241 243 = false := inB_f (by omega)
    have e0 : (x == 224) = false := by rw [beq_eq_false_iff_ne]; omega
    have h0 : (x == 237) = false := by rw [beq_eq_false_iff_ne]; omega
    have k0 : (x == 240) = false := by rw [beq_eq_false_iff_ne]; omega
    have n0 : (x == 244) = false := by rw [beq_eq_false_iff_ne]; omega
    clear hx
    simp [a0, b0, g0, j0, m0, e0, h0, k0, n0] at hR
    have HR := Lib.hid hR
    clear hR
    repeat (go_wp2_with fail; refine (in_any _ _ _ _).mono ?_; rintro e w' ⟨rfl, rfl⟩)
    go_wp2_with fail
    go_ret
    exact ⟨by rw [HR.out]; rfl, rfl⟩
  · have a0 : inB x 0 127 = false := inB_f (by omega)
    have b0 : inB x 194 223 = true := inB_t (by omega)
    have g0 : inB x 225 236 = false := inB_f (by omega)
    have j0 : inB x 238 239 = false := inB_f (by omega)
    have m0 : inB x 241 243 = false := inB_f (by omega)
    have e0 : (x == 224) = false := by rw [beq_eq_false_iff_ne]; omega
    have h0 : (x == 237) = false := by rw [beq_eq_false_iff_ne]; omega
    have k0 : (x == 240) = false := by rw [beq_eq_false_iff_ne]; omega
    have n0 : (x == 244) = false := by rw [beq_eq_false_iff_ne]; omega
    clear hx
    cases hy : inB y 128 191 with
    | false =>
      cases hz : inB z 128 191 with
      | false =>
        simp [a0, b0, g0, j0, m0, e0, h0, k0, n0, hy, hz] at hR
        have HR := Lib.hid hR
        clear hR
        repeat (go_wp2_with fail; refine (in_any _ _ _ _).mono ?_; rintro e w' ⟨rfl, rfl⟩)
        go_wp2_with fail
        go_ret
        exact ⟨by rw [HR.out]; rfl, rfl⟩
      | true =>
        cases hu : inB u 128 191 with
        | false =>
          simp [a0, b0, g0, j0, m0, e0, h0, k0, n0, hy, hz, hu] at hR
          have HR := Lib.hid hR
          clear hR
          repeat (go_wp2_with fail; refine (in_any _ _ _ _).mono ?_; rintro e w' ⟨rfl, rfl⟩)
          go_wp2_with fail
          go_ret
          exact ⟨by rw [HR.out]; rfl, rfl⟩
        | true =>
          simp [a0, b0, g0, j0, m0, e0, h0, k0, n0, hy, hz, hu] at hR
          have HR := Lib.hid hR
          clear hR
          repeat (go_wp2_with fail; refine (in_any _ _ _ _).mono ?_; rintro e w' ⟨rfl, rfl⟩)
          go_wp2_with fail
          go_ret
          exact ⟨by rw [HR.out]; rfl, rfl⟩
    | true =>
      simp [a0, b0, g0, j0, m0, e0, h0, k0, n0, hy] at hR
      have HR := Lib.hid hR
      clear hR
      repeat (go_wp2_with fail; refine (in_any _ _ _ _).mono ?_; rintro e w' ⟨rfl, rfl⟩)
      go_wp2_with fail
      go_ret
      exact ⟨by rw [HR.out]; rfl, rfl⟩
  · have a0 : inB x 0 127 = false := inB_f (by omega)
    have b0 : inB x 194 223 = false := inB_f (by omega)
    have g0 : inB x 225 236 = false := inB_f (by omega)
    have j0 : inB x 238 239 = false := inB_f (by omega)
    have m0 : inB x 241 243 = false := inB_f (by omega)
    have e0 : (x == 224) = true := by rw [beq_iff_eq]; omega
    have h0 : (x == 237) = false := by rw [beq_eq_false_iff_ne]; omega
    have k0 : (x == 240) = false := by rw [beq_eq_false_iff_ne]; omega
    have n0 : (x == 244) = false := by rw [beq_eq_false_iff_ne]; omega
    clear hx
    cases hy : inB y 160 191 with
    | false =>
      cases hz : inB z 128 191 with
      | false =>
        simp [a0, b0, g0, j0, m0, e0, h0, k0, n0, hy, hz] at hR
        have HR := Lib.hid hR
        clear hR
        repeat (go_wp2_with fail; refine (in_any _ _ _ _).mono ?_; rintro e w' ⟨rfl, rfl⟩)
        go_wp2_with fail
        go_ret
        exact ⟨by rw [HR.out]; rfl, rfl⟩
      | true =>
        cases hu : inB u 128 191 with
        | false =>
          simp [a0, b0, g0, j0, m0, e0, h0, k0, n0, hy, hz, hu] at hR
          have HR := Lib.hid hR
          clear hR
          repeat (go_wp2_with fail; refine (in_any _ _ _ _).mono ?_; rintro e w' ⟨rfl, rfl⟩)
          go_wp2_with fail
          go_ret
          exact ⟨by rw [HR.out]; rfl, rfl⟩
        | true =>
          simp [a0, b0, g0, j0, m0, e0, h0, k0, n0, hy, hz, hu] at hR
          have HR := Lib.hid hR
          clear hR
          repeat (go_wp2_with fail; refine (in_any _ _ _ _).mono ?_; rintro e w' ⟨rfl, rfl⟩)
          go_wp2_with fail
          go_ret
          exact ⟨by rw [HR.out]; rfl, rfl⟩
    | true =>
      cases hz : inB z 128 191 with
      | false =>
        simp [a0, b0, g0, j0, m0, e0, h0, k0, n0, hy, hz] at hR
        have HR := Lib.hid hR
        clear hR
        repeat (go_wp2_with fail; refine (in_any _ _ _ _).mono ?_; rintro e w' ⟨rfl, rfl⟩)
        go_wp2_with fail
        go_ret
        exact ⟨by rw [HR.out]; rfl, rfl⟩
      | true =>
        simp [a0, b0, g0, j0, m0, e0, h0, k0, n0, hy, hz] at hR
        have HR := Lib.hid hR
        clear hR
        repeat (go_wp2_with fail; refine (in_any _ _ _ _).mono ?_; rintro e w' ⟨rfl, rfl⟩)
        go_wp2_with fail
        go_ret
        exact ⟨by rw [HR.out]; rfl, rfl⟩
  · have a0 : inB x 0 127 = false := inB_f (by omega)
    have b0 : inB x 194 223 = false := inB_f (by omega)
    have g0 : inB x 225 236 = true := inB_t (by omega)
    have j0 : inB x 238 239 = false := inB_f (by omega)
    have m0 : inB x 241 243 = false := inB_f (by omega)
    have e0 : (x == 224) = false := by rw [beq_eq_false_iff_ne]; omega
    have h0 : (x == 237) = false := by rw [beq_eq_false_iff_ne]; omega
    have k0 : (x == 240) = false := by rw [beq_eq_false_iff_ne]; omega
    have n0 : (x == 244) = false := by rw [beq_eq_false_iff_ne]; omega
    clear hx
    cases hy : inB y 128 191 with
    | false =>
      cases hz : inB z 128 191 with
      | false =>
        simp [a0, b0, g0, j0, m0, e0, h0, k0, n0, hy, hz] at hR
        have HR := Lib.hid hR
        clear hR
        repeat (go_wp2_with fail; refine (in_any _ _ _ _).mono ?_; rintro e w' ⟨rfl, rfl⟩)
        go_wp2_with fail
        go_ret
        exact ⟨by rw [HR.out]; rfl, rfl⟩
      | true =>
        cases hu : inB u 128 191 with
        | false =>
          simp [a0, b0, g0, j0, m0, e0, h0, k0, n0, hy, hz, hu] at hR
          have HR := Lib.hid hR
          clear hR
          repeat (go_wp2_with fail; refine (in_any _ _ _ _).mono ?_; rintro e w' ⟨rfl, rfl⟩)
          go_wp2_with fail
          go_ret
          exact ⟨by rw [HR.out]; rfl, rfl⟩
        | true =>
          simp [a0, b0, g0, j0, m0, e0, h0, k0, n0, hy, hz, hu] at hR
          have HR := Lib.hid hR
          clear hR
          repeat (go_wp2_with fail; refine (in_any _ _ _ _).mono ?_; rintro e w' ⟨rfl, rfl⟩)
          go_wp2_with fail
          go_ret
          exact ⟨by rw [HR.out]; rfl, rfl⟩
    | true =>
      cases hz : inB z 128 191 with
      | false =>
        simp [a0, b0, g0, j0, m0, e0, h0, k0, n0, hy, hz] at hR
        have HR := Lib.hid hR
        clear hR
        repeat (go_wp2_with fail; refine (in_any _ _ _ _).mono ?_; rintro e w' ⟨rfl, rfl⟩)
        go_wp2_with fail
        go_ret
        exact ⟨by rw [HR.out]; rfl, rfl⟩
      | true =>
        simp [a0, b0, g0, j0, m0, e0, h0, k0, n0, hy, hz] at hR
        have HR := Lib.hid hR
        clear hR
        repeat (go_wp2_with fail; refine (in_any _ _ _ _).mono ?_; rintro e w' ⟨rfl, rfl⟩)
        go_wp2_with fail
        go_ret
        exact ⟨by rw [HR.out]; rfl, rfl⟩
  · have a0 : inB x 0 127 = false := inB_f (by omega)
    have b0 : inB x 194 223 = false := inB_f (by omega)
    have g0 : inB x 225 236 = false := inB_f (by omega)
    have j0 : inB x 238 239 = false := inB_f (by omega)
    have m0 : inB x 241 243 = false := inB_f (by omega)
    have e0 : (x == 224) = false := by rw [beq_eq_false_iff_ne]; omega
    have h0 : (x == 237) = true := by rw [beq_iff_eq]; omega
    have k0 : (x == 240) = false := by rw [beq_eq_false_iff_ne]; omega
    have n0 : (x == 244) = false := by rw [beq_eq_false_iff_ne]; omega
    clear hx
    cases hy : inB y 128 159 with
    | false =>
      cases hz : inB z 128 191 with
      | false =>
        simp [a0, b0, g0, j0, m0, e0, h0, k0, n0, hy, hz] at hR
        have HR := Lib.hid hR
        clear hR
        repeat (go_wp2_with fail; refine (in_any _ _ _ _).mono ?_; rintro e w' ⟨rfl, rfl⟩)
        go_wp2_with fail
        go_ret
        exact ⟨by rw [HR.out]; rfl, rfl⟩
      | true =>
        cases hu : inB u 128 191 with
        | false =>
          simp [a0, b0, g0, j0, m0, e0, h0, k0, n0, hy, hz, hu] at hR
          have HR := Lib.hid hR
          clear hR
          repeat (go_wp2_with fail; refine (in_any _ _ _ _).mono ?_; rintro e w' ⟨rfl, rfl⟩)
          go_wp2_with fail
          go_ret
          exact ⟨by rw [HR.out]; rfl, rfl⟩
        | true =>
          simp [a0, b0, g0, j0, m0, e0, h0, k0, n0, hy, hz, hu] at hR
          have HR := Lib.hid hR
          clear hR
          repeat (go_wp2_with fail; refine (in_any _ _ _ _).mono ?_; rintro e w' ⟨rfl, rfl⟩)
          go_wp2_with fail
          go_ret
          exact ⟨by rw [HR.out]; rfl, rfl⟩
    | true =>
      cases hz : inB z 128 191 with
      | false =>
        simp [a0, b0, g0, j0, m0, e0, h0, k0, n0, hy, hz] at hR
        have HR := Lib.hid hR
        clear hR
        repeat (go_wp2_with fail; refine (in_any _ _ _ _).mono ?_; rintro e w' ⟨rfl, rfl⟩)
        go_wp2_with fail
        go_ret
        exact ⟨by rw [HR.out]; rfl, rfl⟩
      | true =>
        simp [a0, b0, g0, j0, m0, e0, h0, k0, n0, hy, hz] at hR
        have HR := Lib.hid hR
        clear hR
        repeat (go_wp2_with fail; refine (in_any _ _ _ _).mono ?_; rintro e w' ⟨rfl, rfl⟩)
        go_wp2_with fail
        go_ret
        exact ⟨by rw [HR.out]; rfl, rfl⟩
  · have a0 : inB x 0 127 = false := inB_f (by omega)
    have b0 : inB x 194 223 = false := inB_f (by omega)
    have g0 : inB x 225 236 = false := inB_f (by omega)
    have j0 : inB x 238 239 = true := inB_t (by omega)
    have m0 : inB x 241 243 = false := inB_f (by omega)
    have e0 : (x == 224) = false := by rw [beq_eq_false_iff_ne]; omega
    have h0 : (x == 237) = false := by rw [beq_eq_false_iff_ne]; omega
    have k0 : (x == 240) = false := by rw [beq_eq_false_iff_ne]; omega
    have n0 : (x == 244) = false := by rw [beq_eq_false_iff_ne]; omega
    clear hx
    cases hy : inB y 128 191 with
    | false =>
      cases hz : inB z 128 191 with
      | false =>
        simp [a0, b0, g0, j0, m0, e0, h0, k0, n0, hy, hz] at hR
        have HR := Lib.hid hR
        clear hR
        repeat (go_wp2_with fail; refine (in_any _ _ _ _).mono ?_; rintro e w' ⟨rfl, rfl⟩)
        go_wp2_with fail
        go_ret
        exact ⟨by rw [HR.out]; rfl, rfl⟩
      | true =>
        cases hu : inB u 128 191 with
        | false =>
          simp [a0, b0, g0, j0, m0, e0, h0, k0, n0, hy, hz, hu] at hR
          have HR := Lib.hid hR
          clear hR
          repeat (go_wp2_with fail; refine (in_any _ _ _ _).mono ?_; rintro e w' ⟨rfl, rfl⟩)
          go_wp2_with fail
          go_ret
          exact ⟨by rw [HR.out]; rfl, rfl⟩
        | true =>
          simp [a0, b0, g0, j0, m0, e0, h0, k0, n0, hy, hz, hu] at hR
          have HR := Lib.hid hR
          clear hR
          repeat (go_wp2_with fail; refine (in_any _ _ _ _).mono ?_; rintro e w' ⟨rfl, rfl⟩)
          go_wp2_with fail
          go_ret
          exact ⟨by rw [HR.out]; rfl, rfl⟩
    | true =>
      cases hz : inB z 128 191 with
      | false =>
        simp [a0, b0, g0, j0, m0, e0, h0, k0, n0, hy, hz] at hR
        have HR := Lib.hid hR
        clear hR
        repeat (go_wp2_with fail; refine (in_any _ _ _ _).mono ?_; rintro e w' ⟨rfl, rfl⟩)
        go_wp2_with fail
        go_ret
        exact ⟨by rw [HR.out]; rfl, rfl⟩
      | true =>
        simp [a0, b0, g0, j0, m0, e0, h0, k0, n0, hy, hz] at hR
        have HR := Lib.hid hR
        clear hR
        repeat (go_wp2_with fail; refine (in_any _ _ _ _).mono ?_; rintro e w' ⟨rfl, rfl⟩)
        go_wp2_with fail
        go_ret
        exact ⟨by rw [HR.out]; rfl, rfl⟩
  · have a0 : inB x 0 127 = false := inB_f (by omega)
    have b0 : inB x 194 223 = false := inB_f (by omega)
    have g0 : inB x 225 236 = false := inB_f (by omega)
    have j0 : inB x 238 239 = false := inB_f (by omega)
    have m0 : inB x 241 243 = false := inB_f (by omega)
    have e0 : (x == 224) = false := by rw [beq_eq_false_iff_ne]; omega
    have h0 : (x == 237) = false := by rw [beq_eq_false_iff_ne]; omega
    have k0 : (x == 240) = true := by rw [beq_iff_eq]; omega
    have n0 : (x == 244) = false := by rw [beq_eq_false_iff_ne]; omega
    clear hx
    cases hz : inB z 128 191 with
    | false =>
      simp [a0, b0, g0, j0, m0, e0, h0, k0, n0, hz] at hR
      have HR := Lib.hid hR
      clear hR
      repeat (go_wp2_with fail; refine (in_any _ _ _ _).mono ?_; rintro e w' ⟨rfl, rfl⟩)
      go_wp2_with fail
      go_ret
      exact ⟨by rw [HR.out]; rfl, rfl⟩
    | true =>
      cases hu : inB u 128 191 with
      | false =>
        simp [a0, b0, g0, j0, m0, e0, h0, k0, n0, hz, hu] at hR
        have HR := Lib.hid hR
        clear hR
        repeat (go_wp2_with fail; refine (in_any _ _ _ _).mono ?_; rintro e w' ⟨rfl, rfl⟩)
        go_wp2_with fail
        go_ret
        exact ⟨by rw [HR.out]; rfl, rfl⟩
      | true =>
        cases hy : inB y 144 191 with
        | false =>
          simp [a0, b0, g0, j0, m0, e0, h0, k0, n0, hz, hu, hy] at hR
          have HR := Lib.hid hR
          clear hR
          repeat (go_wp2_with fail; refine (in_any _ _ _ _).mono ?_; rintro e w' ⟨rfl, rfl⟩)
          go_wp2_with fail
          go_ret
          exact ⟨by rw [HR.out]; rfl, rfl⟩
        | true =>
          simp [a0, b0, g0, j0, m0, e0, h0, k0, n0, hz, hu, hy] at hR
          have HR := Lib.hid hR
          clear hR
          repeat (go_wp2_with fail; refine (in_any _ _ _ _).mono ?_; rintro e w' ⟨rfl, rfl⟩)
          go_wp2_with fail
          go_ret
          exact ⟨by rw [HR.out]; rfl, rfl⟩
  · have a0 : inB x 0 127 = false := inB_f (by omega)
    have b0 : inB x 194 223 = false := inB_f (by omega)
    have g0 : inB x 225 236 = false := inB_f (by omega)
    have j0 : inB x 238 239 = false := inB_f (by omega)
    have m0 : inB x 241 243 = true := inB_t (by omega)
    have e0 : (x == 224) = false := by rw [beq_eq_false_iff_ne]; omega
    have h0 : (x == 237) = false := by rw [beq_eq_false_iff_ne]; omega
    have k0 : (x == 240) = false := by rw [beq_eq_false_iff_ne]; omega
    have n0 : (x == 244) = false := by rw [beq_eq_false_iff_ne]; omega
    clear hx
    cases hz : inB z 128 191 with
    | false =>
      simp [a0, b0, g0, j0, m0, e0, h0, k0, n0, hz] at hR
      have HR := Lib.hid hR
      clear hR
      repeat (go_wp2_with fail; refine (in_any _ _ _ _).mono ?_; rintro e w' ⟨rfl, rfl⟩)
      go_wp2_with fail
      go_ret
      exact ⟨by rw [HR.out]; rfl, rfl⟩
    | true =>
      cases hu : inB u 128 191 with
      | false =>
        simp [a0, b0, g0, j0, m0, e0, h0, k0, n0, hz, hu] at hR
        have HR := Lib.hid hR
        clear hR
        repeat (go_wp2_with fail; refine (in_any _ _ _ _).mono ?_; rintro e w' ⟨rfl, rfl⟩)
        go_wp2_with fail
        go_ret
        exact ⟨by rw [HR.out]; rfl, rfl⟩
      | true =>
        cases hy : inB y 128 191 with
        | false =>
          simp [a0, b0, g0, j0, m0, e0, h0, k0, n0, hz, hu, hy] at hR
          have HR := Lib.hid hR
          clear hR
          repeat (go_wp2_with fail; refine (in_any _ _ _ _).mono ?_; rintro e w' ⟨rfl, rfl⟩)
          go_wp2_with fail
          go_ret
          exact ⟨by rw [HR.out]; rfl, rfl⟩
        | true =>
          simp [a0, b0, g0, j0, m0, e0, h0, k0, n0, hz, hu, hy] at hR
          have HR := Lib.hid hR
          clear hR
          repeat (go_wp2_with fail; refine (in_any _ _ _ _).mono ?_; rintro e w' ⟨rfl, rfl⟩)
          go_wp2_with fail
          go_ret
          exact ⟨by rw [HR.out]; rfl, rfl⟩
  · have a0 : inB x 0 127 = false := inB_f (by omega)
    have b0 : inB x 194 223 = false := inB_f (by omega)
    have g0 : inB x 225 236 = false := inB_f (by omega)
    have j0 : inB x 238 239 = false := inB_f (by omega)
    have m0 : inB x 241 243 = false := inB_f (by omega)
    have e0 : (x == 224) = false := by rw [beq_eq_false_iff_ne]; omega
    have h0 : (x == 237) = false := by rw [beq_eq_false_iff_ne]; omega
    have k0 : (x == 240) = false := by rw [beq_eq_false_iff_ne]; omega
    have n0 : (x == 244) = true := by rw [beq_iff_eq]; omega
    clear hx
    cases hz : inB z 128 191 with
    | false =>
      simp [a0, b0, g0, j0, m0, e0, h0, k0, n0, hz] at hR
      have HR := Lib.hid hR
      clear hR
      repeat (go_wp2_with fail; refine (in_any _ _ _ _).mono ?_; rintro e w' ⟨rfl, rfl⟩)
      go_wp2_with fail
      go_ret
      exact ⟨by rw [HR.out]; rfl, rfl⟩
    | true =>
      cases hu : inB u 128 191 with
      | false =>
        simp [a0, b0, g0, j0, m0, e0, h0, k0, n0, hz, hu] at hR
        have HR := Lib.hid hR
        clear hR
        repeat (go_wp2_with fail; refine (in_any _ _ _ _).mono ?_; rintro e w' ⟨rfl, rfl⟩)
        go_wp2_with fail
        go_ret
        exact ⟨by rw [HR.out]; rfl, rfl⟩
      | true =>
        cases hy : inB y 128 143 with
        | false =>
          simp [a0, b0, g0, j0, m0, e0, h0, k0, n0, hz, hu, hy] at hR
          have HR := Lib.hid hR
          clear hR
          repeat (go_wp2_with fail; refine (in_any _ _ _ _).mono ?_; rintro e w' ⟨rfl, rfl⟩)
          go_wp2_with fail
          go_ret
          exact ⟨by rw [HR.out]; rfl, rfl⟩
        | true =>
          simp [a0, b0, g0, j0, m0, e0, h0, k0, n0, hz, hu, hy] at hR
          have HR := Lib.hid hR
          clear hR
          repeat (go_wp2_with fail; refine (in_any _ _ _ _).mono ?_; rintro e w' ⟨rfl, rfl⟩)
          go_wp2_with fail
          go_ret
          exact ⟨by rw [HR.out]; rfl, rfl⟩
  · have a0 : inB x 0 127 = false := inB_f (by omega)
    have b0 : inB x 194 223 = false := inB_f (by omega)
    have g0 : inB x 225 236 = false := inB_f (by omega)
    have j0 : inB x 238 239 = false := inB_f (by omega)
    have m0 : inB x 241 243 = false := inB_f (by omega)
    have e0 : (x == 224) = false := by rw [beq_eq_false_iff_ne]; omega
    have h0 : (x == 237) = false := by rw [beq_eq_false_iff_ne]; omega
    have k0 : (x == 240) = false := by rw [beq_eq_false_iff_ne]; omega
    have n0 : (x == 244) = false := by rw [beq_eq_false_iff_ne]; omega
    clear hx
    cases hz : inB z 128 191 with
    | false =>
      simp [a0, b0, g0, j0, m0, e0, h0, k0, n0, hz] at hR
      have HR := Lib.hid hR
      clear hR
      repeat (go_wp2_with fail; refine (in_any _ _ _ _).mono ?_; rintro e w' ⟨rfl, rfl⟩)
      go_wp2_with fail
      go_ret
      exact ⟨by rw [HR.out]; rfl, rfl⟩
    | true =>
      cases hu : inB u 128 191 with
      | false =>
        simp [a0, b0, g0, j0, m0, e0, h0, k0, n0, hz, hu] at hR
        have HR := Lib.hid hR
        clear hR
        repeat (go_wp2_with fail; refine (in_any _ _ _ _).mono ?_; rintro e w' ⟨rfl, rfl⟩)
        go_wp2_with fail
        go_ret
        exact ⟨by rw [HR.out]; rfl, rfl⟩
      | true =>
        simp [a0, b0, g0, j0, m0, e0, h0, k0, n0, hz, hu] at hR
        have HR := Lib.hid hR
        clear hR
        repeat (go_wp2_with fail; refine (in_any _ _ _ _).mono ?_; rintro e w' ⟨rfl, rfl⟩)
        go_wp2_with fail
        go_ret
        exact ⟨by rw [HR.out]; rfl, rfl⟩
end Go.Proofs.YtknmbfkpclacgaaGreatDoor
