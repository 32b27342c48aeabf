import Derived.Test.YtknmbfkpclacgaaGreatDoorMPa18
import Derived.Test.YtknmbfkpclacgaaGreatDoorMPaUa
import Derived.Test.YtknmbfkpclacgaaGreatDoorMPa9
/- The document's reader (galleyref24): its own block and its small methods: no, here, blanks, put, word, digit, nibble, bad. -/
set_option linter.unusedSimpArgs false
namespace Go.Proofs.YtknmbfkpclacgaaGreatDoor
open Go.RowKit

/-- The document's reader's block. -/
structure RR (w : World) (rb : Nat) (bv : Value) (i : Nat) (fa er : Int) (tv : Value) : Prop where
  h : w.heap[rb]? = some (.cells #[bv, .int .i64 i, .int .i64 fa, .int .i64 er, tv] 99 (0, 0))
section
variable {w : World} {rb : Nat} {bv : Value} {i : Nat} {fa er : Int} {tv : Value}
theorem RR.c0 (h : RR w rb bv i fa er tv) : w.cell? ⟨rb, 0, none⟩ = some bv := by simp [World.cell?, h.h]
theorem RR.c1 (h : RR w rb bv i fa er tv) : w.cell? ⟨rb, 1, none⟩ = some (.int .i64 i) := by simp [World.cell?, h.h]
theorem RR.c2 (h : RR w rb bv i fa er tv) : w.cell? ⟨rb, 2, none⟩ = some (.int .i64 fa) := by simp [World.cell?, h.h]
theorem RR.c3 (h : RR w rb bv i fa er tv) : w.cell? ⟨rb, 3, none⟩ = some (.int .i64 er) := by simp [World.cell?, h.h]
theorem RR.c4 (h : RR w rb bv i fa er tv) : w.cell? ⟨rb, 4, none⟩ = some tv := by simp [World.cell?, h.h]
theorem RR.f (h : RR w rb bv i fa er tv) (k : Nat) : w.frozen? ⟨rb, k, none⟩ = false := by simp [World.frozen?, h.h]
theorem RR.lt (h : RR w rb bv i fa er tv) : rb < w.heap.size := lt_of_block h.h
theorem RR.keep {w' : World} {S : Nat → Prop} (h : RR w rb bv i fa er tv) (hc : Chg S w w') (hs : ¬ S rb) : RR w' rb bv i fa er tv := ⟨hc.obj h.h hs⟩
theorem RR.drewN (h : RR w rb bv i fa er tv) (n : Nat) : RR (w.drewN n) rb bv i fa er tv := ⟨h.h⟩
theorem RR.set1 (h : RR w rb bv i fa er tv) (j : Nat) : RR (w.setCell ⟨rb, 1, none⟩ (.int .i64 j)) rb bv j fa er tv := ⟨by rw [heap_setCell_same h.h]; rfl⟩
theorem RR.set2 (h : RR w rb bv i fa er tv) (j : Int) : RR (w.setCell ⟨rb, 2, none⟩ (.int .i64 j)) rb bv i j er tv := ⟨by rw [heap_setCell_same h.h]; rfl⟩
theorem RR.set3 (h : RR w rb bv i fa er tv) (j : Int) : RR (w.setCell ⟨rb, 3, none⟩ (.int .i64 j)) rb bv i fa j tv := ⟨by rw [heap_setCell_same h.h]; rfl⟩
theorem RR.set4 (h : RR w rb bv i fa er tv) (v : Value) : RR (w.setCell ⟨rb, 4, none⟩ v) rb bv i fa er v := ⟨by rw [heap_setCell_same h.h]; rfl⟩
theorem RR.ety (h : RR w rb bv i fa er tv) : ety w rb = some 99 := by simp [Go.Proofs.YtknmbfkpclacgaaGreatDoor.ety, h.h]
theorem Drawn.rr {w' : World} (h : Drawn w w') (hr : RR w rb bv i fa er tv) : RR w' rb bv i fa er tv := by obtain ⟨n, rfl⟩ := h; exact hr.drewN n
end
/-- The document's reader, with its bytes. -/
structure RS (w : World) (B rb : Nat) (A : Option Addr) (cap : Nat) (l : List UInt8) (i : Nat) (fa er : Int) (tv : Value) : Prop where
  r : RR w rb (.slice A l.length cap) i fa er tv
  b : Bs w B A l
  B : B ≤ rb
  c : l.length ≤ cap
theorem RS.to {w w' : World} {B rb : Nat} {A : Option Addr} {cap : Nat} {l : List UInt8} {i i' : Nat} {fa er fa' er' : Int} {tv tv' : Value} (h : RS w B rb A cap l i fa er tv) (hr : RR w' rb (.slice A l.length cap) i' fa' er' tv') (hc : Chg (· = rb) w w') : RS w' B rb A cap l i' fa' er' tv' :=
  ⟨hr, h.b.keep (hc.below (by have := h.r.lt; have := h.B; omega) (fun k hk => by have := h.B; omega)), h.B, h.c⟩
theorem RS.drewN {w : World} {B rb : Nat} {A : Option Addr} {cap : Nat} {l : List UInt8} {i : Nat} {fa er : Int} {tv : Value} (h : RS w B rb A cap l i fa er tv) (n : Nat) : RS (w.drewN n) B rb A cap l i fa er tv :=
  h.to (h.r.drewN n) ((Chg.refl _ _).drewN n)
theorem RS.drawn {w w' : World} {B rb : Nat} {A : Option Addr} {cap : Nat} {l : List UInt8} {i : Nat} {fa er : Int} {tv : Value} (h : RS w B rb A cap l i fa er tv) (hd : Drawn w w') : RS w' B rb A cap l i fa er tv := by
  obtain ⟨n, rfl⟩ := hd; exact h.drewN n
/-- the fault's place and number behind a call of no -/
def noF (fa at' : Int) : Int := if fa < 0 then at' else fa
def noE (fa er e : Int) : Int := if fa < 0 then e else er

set_option maxRecDepth 100000 in
set_option maxHeartbeats 4000000 in
theorem rno_any (rb : Nat) (bv : Value) (i : Nat) (fa er : Int) (tv : Value) (at' e : Int) (w : World) (hr : RR w rb bv i fa er tv) :
    Calls Tryz.prog 54 #[.pointer (some ⟨rb, 0, none⟩), .int .i64 at', .int .i64 e] w fun x w' => x = .returned (.tuple #[]) ∧ RR w' rb bv i (noF fa at') (noE fa er e) tv ∧ Chg (· = rb) w w' := by
  have c2 := hr.c2
  have c3 := hr.c3
  have f2 := hr.f 2
  have f3 := hr.f 3
  by_cases h : fa < 0
  · have hE : RR ((w.setCell ⟨rb, 2, none⟩ (.int .i64 at')).setCell ⟨rb, 3, none⟩ (.int .i64 e)) rb bv i (noF fa at') (noE fa er e) tv := by
      unfold noF noE
      rw [if_pos h, if_pos h]
      exact (hr.set2 at').set3 e
    have HE := Lib.hid hE
    clear hE
    go_enter Tryz.func54, Tryz.ntmps54
    go_wp2_with fail
    go_end0
    exact ⟨rfl, HE.out, ((Chg.refl _ w).st 2 _).st 3 _⟩
  · have hE : RR w rb bv i (noF fa at') (noE fa er e) tv := by
      unfold noF noE
      rw [if_neg h, if_neg h]
      exact hr
    have HE := Lib.hid hE
    clear hE
    go_enter Tryz.func54, Tryz.ntmps54
    go_wp2_with fail
    go_end0
    exact ⟨rfl, HE.out, Chg.refl _ _⟩

set_option maxRecDepth 100000 in
set_option maxHeartbeats 4000000 in
theorem here_any (rb : Nat) (A : Option Addr) (cap : Nat) (l : List UInt8) (i : Nat) (fa er : Int) (tv : Value) (B : Nat) (w : World) (hr : RR w rb (.slice A l.length cap) i fa er tv) (hb : Bs w B A l) :
    Calls Tryz.prog 113 #[.pointer (some ⟨rb, 0, none⟩)] w fun e w' => e = .returned (.int .i64 (atI l i)) ∧ Drawn w w' := by
  have c0 := hr.c0
  have c1 := hr.c1
  have hln := hb.len
  by_cases hlt : i < l.length
  · obtain ⟨b, o, rfl, hne, hc⟩ := hb.cells (by omega)
    have ci := hc i hlt
    have hpr := pk_range l i
    have hx : Hid (atI l i = ((pk l i).toNat : Int)) := by show _ = _; unfold atI; rw [if_pos hlt]
    clear hc
    go_enter Tryz.func113, Tryz.ntmps113
    go_wp2_with fail
    go_quiet (fail)
    go_wp2_with fail
    go_quiet (fail)
    go_wp2_with fail
    go_ret
    exact ⟨by rw [hx.out]; rfl, by repeat (first | exact Drawn.refl _ | apply Drawn.step)⟩
  · have hx : Hid (atI l i = -1) := by show _ = _; unfold atI; rw [if_neg hlt]
    go_enter Tryz.func113, Tryz.ntmps113
    go_wp2_with fail
    go_quiet (fail)
    go_wp2_with fail
    go_ret
    exact ⟨by rw [hx.out]; rfl, by repeat (first | exact Drawn.refl _ | apply Drawn.step)⟩

theorem atI_skip (l : List UInt8) (j : Nat) (x : Int) (hx : atI l j = x) (h : x = 32 ∨ x = 9 ∨ x = 10 ∨ x = 13) : j < l.length ∧ skip l j = skip l (j + 1) := by
  unfold atI at hx
  by_cases hj : j < l.length
  · rw [if_pos hj] at hx
    refine ⟨hj, skip_step l j hj (isBl_of _ ?_)⟩
    rw [hx]
    rcases h with h | h | h | h <;> subst h <;> simp
  · rw [if_neg hj] at hx; omega
theorem atI_stay (l : List UInt8) (j : Nat) (h1 : ¬ atI l j = 32) (h2 : ¬ atI l j = 9) (h3 : ¬ atI l j = 10) (h4 : ¬ atI l j = 13) : skip l j = j := by
  refine skip_stay l j fun ⟨hj, hb⟩ => ?_
  unfold atI at h1 h2 h3 h4
  rw [if_pos hj] at h1 h2 h3 h4
  refine isBl_not _ ?_ ?_ ?_ ?_ hb <;> rw [beq_eq_false_iff_ne] <;> assumption
theorem atI_range (l : List UInt8) (j : Nat) : -1 ≤ atI l j ∧ atI l j < 256 := by
  unfold atI
  split
  · have := pk_range l j; omega
  · omega
theorem skip_over (l : List UInt8) (i : Nat) (h : l.length ≤ i) : skip l i = i := skip_stay l i fun hh => by omega
theorem skip_bd (l : List UInt8) (i : Nat) : skip l i ≤ max i l.length := by
  rcases Nat.lt_or_ge l.length i with h | h
  · rw [skip_over l i (by omega)]; omega
  · have := skip_le l i h; omega

set_option maxRecDepth 100000 in
set_option maxHeartbeats 4000000 in
theorem rblanks_any (rb : Nat) (A : Option Addr) (cap : Nat) (l : List UInt8) (i : Nat) (fa er : Int) (tv : Value) (B : Nat) (w : World) (hst : RS w B rb A cap l i fa er tv) (hi : i ≤ 1000000000000) :
    Calls Tryz.prog 52 #[.pointer (some ⟨rb, 0, none⟩)] w fun e w' => e = .returned (.tuple #[]) ∧ RR w' rb (.slice A l.length cap) (skip l i) fa er tv ∧ Chg (· = rb) w w' := by
  have hln := hst.b.len
  have HST := Lib.hid hst
  clear hst
  go_enter Tryz.func52, Tryz.ntmps52
  go_wp2_with fail
  go_loopg [] (max i l.length - i + 1) (fun g wr => ∃ j, RS wr B rb A cap l j fa er tv ∧ Chg (· = rb) w wr ∧ skip l j = skip l i ∧ j ≤ max i l.length ∧ max i l.length - j + 1 = g)
  case atStart => exact ⟨i, HST.out, Chg.refl _ _, rfl, by omega, rfl⟩
  case round =>
    obtain ⟨j, hr, hch, hsk, hj, hg⟩ := hrel
    have HS := Lib.hid hsk
    have HG := Lib.hid hg
    have hh0 := here_any rb A cap l j fa er tv B wr hr.r hr.b
    have hhn := fun n => here_any rb A cap l j fa er tv B (wr.drewN n) (hr.drewN n).r (hr.drewN n).b
    have hjb : j ≤ 140737488355328 := by omega
    have HJ := Lib.hid hj
    have hsk1 := fun h => atI_skip l j _ rfl h
    have hst1 := atI_stay l j
    generalize atI l j = x at *
    have H0 := Lib.hid hh0
    have HN := Lib.hid hhn
    have HK := Lib.hid hsk1
    have HT := Lib.hid hst1
    have HR := Lib.hid hr
    have HC := Lib.hid hch
    clear hsk hg hj hh0 hhn hsk1 hst1 hr hch
    have key : ∀ m : Nat, (x = 32 ∨ x = 9 ∨ x = 10 ∨ x = 13) → RS ((wr.drewN m).setCell ⟨rb, 1, none⟩ (.int .i64 ((j : Int) + 1))) B rb A cap l (j + 1) fa er tv ∧ Chg (· = rb) w ((wr.drewN m).setCell ⟨rb, 1, none⟩ (.int .i64 ((j : Int) + 1))) ∧ skip l (j + 1) = skip l i ∧ j + 1 ≤ max i l.length ∧ max i l.length - (j + 1) + 1 < max i l.length - j + 1 := by
      intro m h
      obtain ⟨h1, h2⟩ := HK.out h
      refine ⟨(HR.out.drewN m).to ((HR.out.drewN m).r.set1 (j + 1)) ((Chg.refl _ _).st _ _), (HC.out.drewN m).st _ _, by rw [← h2, HS.out], ?_, ?_⟩ <;> omega
    have KEY := Lib.hid key
    have hcl : ∀ m : Nat, (wr.drewN m).cell? ⟨rb, 1, none⟩ = some (.int .i64 j) := fun m => (HR.out.drewN m).r.c1
    have hfz : ∀ m : Nat, (wr.drewN m).frozen? ⟨rb, 1, none⟩ = false := fun m => (HR.out.drewN m).r.f 1
    clear key
    go_wp2_with fail
    refine H0.out.mono ?_
    rintro e w1 ⟨rfl, n1, rfl⟩
    by_cases h1 : x = 32
    · have t1 : (x == 32) = true := by rw [beq_iff_eq]; exact h1
      obtain ⟨k1, k2, k3, k4, k5⟩ := KEY.out n1 (.inl h1)
      have K := Lib.hid (And.intro k1 (And.intro k2 (And.intro k3 (And.intro k4 k5))))
      clear h1 k1 k2 k3 k4 k5
      go_wp2_with fail
      go_roundg (max i l.length - (j + 1) + 1)
      case measure => have := HG.out; have := K.out.2.2.2.2; omega
      case rel => exact ⟨j + 1, K.out.1, K.out.2.1, K.out.2.2.1, K.out.2.2.2.1, rfl⟩
    have t1 : (x == 32) = false := by rw [beq_eq_false_iff_ne]; exact h1
    have H1 := Lib.hid h1
    clear h1
    go_wp2_with fail
    refine (HN.out n1).mono ?_
    rintro e w1 ⟨rfl, n2, rfl⟩
    by_cases h2 : x = 9
    · have t2 : (x == 9) = true := by rw [beq_iff_eq]; exact h2
      rw [World.drewN_drewN]
      obtain ⟨k1, k2, k3, k4, k5⟩ := KEY.out (n1 + n2) (.inr (.inl h2))
      have K := Lib.hid (And.intro k1 (And.intro k2 (And.intro k3 (And.intro k4 k5))))
      clear h2 k1 k2 k3 k4 k5
      go_wp2_with fail
      go_roundg (max i l.length - (j + 1) + 1)
      case measure => have := HG.out; have := K.out.2.2.2.2; omega
      case rel => exact ⟨j + 1, K.out.1, K.out.2.1, K.out.2.2.1, K.out.2.2.2.1, rfl⟩
    have t2 : (x == 9) = false := by rw [beq_eq_false_iff_ne]; exact h2
    have H2 := Lib.hid h2
    clear h2
    rw [World.drewN_drewN]
    go_wp2_with fail
    refine (HN.out _).mono ?_
    rintro e w1 ⟨rfl, n3, rfl⟩
    by_cases h3 : x = 10
    · have t3 : (x == 10) = true := by rw [beq_iff_eq]; exact h3
      rw [World.drewN_drewN]
      obtain ⟨k1, k2, k3, k4, k5⟩ := KEY.out (n1 + n2 + n3) (.inr (.inr (.inl h3)))
      have K := Lib.hid (And.intro k1 (And.intro k2 (And.intro k3 (And.intro k4 k5))))
      clear h3 k1 k2 k3 k4 k5
      go_wp2_with fail
      go_roundg (max i l.length - (j + 1) + 1)
      case measure => have := HG.out; have := K.out.2.2.2.2; omega
      case rel => exact ⟨j + 1, K.out.1, K.out.2.1, K.out.2.2.1, K.out.2.2.2.1, rfl⟩
    have t3 : (x == 10) = false := by rw [beq_eq_false_iff_ne]; exact h3
    have H3 := Lib.hid h3
    clear h3
    rw [World.drewN_drewN]
    go_wp2_with fail
    refine (HN.out _).mono ?_
    rintro e w1 ⟨rfl, n4, rfl⟩
    by_cases h4 : x = 13
    · have t4 : (x == 13) = true := by rw [beq_iff_eq]; exact h4
      rw [World.drewN_drewN]
      obtain ⟨k1, k2, k3, k4, k5⟩ := KEY.out (n1 + n2 + n3 + n4) (.inr (.inr (.inr h4)))
      have K := Lib.hid (And.intro k1 (And.intro k2 (And.intro k3 (And.intro k4 k5))))
      clear h4 k1 k2 k3 k4 k5
      go_wp2_with fail
      go_roundg (max i l.length - (j + 1) + 1)
      case measure => have := HG.out; have := K.out.2.2.2.2; omega
      case rel => exact ⟨j + 1, K.out.1, K.out.2.1, K.out.2.2.1, K.out.2.2.2.1, rfl⟩
    have t4 : (x == 13) = false := by rw [beq_eq_false_iff_ne]; exact h4
    have hstay := HT.out H1.out H2.out H3.out h4
    have hE : RR (wr.drewN (n1 + n2 + n3 + n4)) rb (.slice A l.length cap) (skip l i) fa er tv := by rw [← HS.out, hstay]; exact (HR.out.drewN _).r
    have HE := Lib.hid hE
    clear h4 hstay hE
    rw [World.drewN_drewN]
    go_wp2_with fail
    go_end0
    exact ⟨rfl, HE.out, HC.out.drewN _⟩

set_option maxRecDepth 100000 in
set_option maxHeartbeats 4000000 in
theorem rdigit_any (rb : Nat) (A : Option Addr) (cap : Nat) (l : List UInt8) (i : Nat) (fa er : Int) (tv : Value) (B : Nat) (w : World) (hst : RS w B rb A cap l i fa er tv) :
    Calls Tryz.prog 118 #[.pointer (some ⟨rb, 0, none⟩)] w fun e w' => e = .returned (.bool (isDig (pk l i))) ∧ Drawn w w' := by
  have hh0 := here_any rb A cap l i fa er tv B w hst.r hst.b
  have hhn := fun n => here_any rb A cap l i fa er tv B (w.drewN n) (hst.drewN n).r (hst.drewN n).b
  have hd : isDig (pk l i) = (decide (48 ≤ atI l i) && decide (atI l i ≤ 57)) := by
    unfold atI
    split
    · unfold isDig
      rw [Bool.eq_iff_iff]
      simp
      omega
    · rename_i h
      rw [pk_out l i h]
      decide
  rw [hd]
  generalize atI l i = x at *
  have H0 := Lib.hid hh0
  have HN := Lib.hid hhn
  clear hh0 hhn hd hst
  by_cases h : 48 ≤ x
  · rw [decide_eq_true h, Bool.true_and]
    go_enter Tryz.func118, Tryz.ntmps118
    go_wp2_with fail
    refine H0.out.mono ?_
    rintro e w1 ⟨rfl, n1, rfl⟩
    go_wp2_with fail
    refine (HN.out _).mono ?_
    rintro e w1 ⟨rfl, n2, rfl⟩
    go_wp2_with fail
    go_ret
    exact ⟨rfl, by repeat (first | exact Drawn.refl _ | apply Drawn.step)⟩
  · rw [decide_eq_false h, Bool.false_and]
    go_enter Tryz.func118, Tryz.ntmps118
    go_wp2_with fail
    refine H0.out.mono ?_
    rintro e w1 ⟨rfl, n1, rfl⟩
    go_wp2_with fail
    go_ret
    exact ⟨rfl, by repeat (first | exact Drawn.refl _ | apply Drawn.step)⟩

set_option maxRecDepth 100000 in
set_option maxHeartbeats 4000000 in
theorem nib_any (rb : Nat) (A : Option Addr) (cap : Nat) (l : List UInt8) (i p : Nat) (fa er : Int) (tv : Value) (B : Nat) (w : World) (hst : RS w B rb A cap l i fa er tv) :
    Calls Tryz.prog 295 #[.pointer (some ⟨rb, 0, none⟩), .int .i64 p] w fun e w' => e = .returned (.int .i64 (nibR l p)) ∧ w' = w := by
  have c0 := hst.r.c0
  have hln := hst.b.len
  by_cases hp : p < l.length
  · obtain ⟨b, o, rfl, hne, hc⟩ := hst.b.cells (by omega)
    have ci := hc p hp
    have hpr := pk_range l p
    have hn : nibR l p = ((hexv (pk l p)).map (fun d : Nat => (d : Int))).getD (-1) := by unfold nibR; rw [if_pos hp]; cases hexv (pk l p) <;> rfl
    have hd1 := fun a b => hexv_dig (pk l p) a b
    have hd2 := fun a b => hexv_low (pk l p) a b
    have hd3 := fun a b => hexv_up (pk l p) a b
    have hd4 := fun a => hexv_no (pk l p) a
    generalize nibR l p = R at *
    generalize pk l p = c at *
    have HN := Lib.hid hn
    have H1 := Lib.hid hd1
    have H2 := Lib.hid hd2
    have H3 := Lib.hid hd3
    have H4 := Lib.hid hd4
    clear hn hd1 hd2 hd3 hd4 hc
    go_enter Tryz.func295, Tryz.ntmps295
    rcases (show (c.toNat : Int) < 48 ∨ (48 ≤ (c.toNat : Int) ∧ (c.toNat : Int) ≤ 57) ∨ (57 < (c.toNat : Int) ∧ (c.toNat : Int) < 65) ∨ (65 ≤ (c.toNat : Int) ∧ (c.toNat : Int) ≤ 70) ∨ (70 < (c.toNat : Int) ∧ (c.toNat : Int) < 97) ∨ (97 ≤ (c.toNat : Int) ∧ (c.toNat : Int) ≤ 102) ∨ (102 < (c.toNat : Int)) by omega) with h | ⟨h, h'⟩ | ⟨h, h'⟩ | ⟨h, h'⟩ | ⟨h, h'⟩ | ⟨h, h'⟩ | h
    · have e := HN.out; rw [H4.out (by omega)] at e; simp only [Option.map_none, Option.getD_none, Option.map_some, Option.getD_some] at e
      have E := Lib.hid e
      clear e
      go_wp2_with fail
      go_ret
      exact ⟨by rw [E.out]; rfl, rfl⟩
    · have e := HN.out; rw [H1.out h h'] at e; simp only [Option.map_none, Option.getD_none, Option.map_some, Option.getD_some] at e
      have E : Hid (R = (c.toNat : Int) - 48) := by show _ = _; omega
      clear e
      go_wp2_with fail
      go_ret
      exact ⟨by rw [E.out]; rfl, rfl⟩
    · have e := HN.out; rw [H4.out (by omega)] at e; simp only [Option.map_none, Option.getD_none, Option.map_some, Option.getD_some] at e
      have E := Lib.hid e
      clear e
      go_wp2_with fail
      go_ret
      exact ⟨by rw [E.out]; rfl, rfl⟩
    · have e := HN.out; rw [H3.out h h'] at e; simp only [Option.map_none, Option.getD_none, Option.map_some, Option.getD_some] at e
      have E : Hid (R = (c.toNat : Int) - 65 + 10) := by show _ = _; omega
      clear e
      go_wp2_with fail
      go_ret
      exact ⟨by rw [E.out]; rfl, rfl⟩
    · have e := HN.out; rw [H4.out (by omega)] at e; simp only [Option.map_none, Option.getD_none, Option.map_some, Option.getD_some] at e
      have E := Lib.hid e
      clear e
      go_wp2_with fail
      go_ret
      exact ⟨by rw [E.out]; rfl, rfl⟩
    · have e := HN.out; rw [H2.out h h'] at e; simp only [Option.map_none, Option.getD_none, Option.map_some, Option.getD_some] at e
      have E : Hid (R = (c.toNat : Int) - 97 + 10) := by show _ = _; omega
      clear e
      go_wp2_with fail
      go_ret
      exact ⟨by rw [E.out]; rfl, rfl⟩
    · have e := HN.out; rw [H4.out (by omega)] at e; simp only [Option.map_none, Option.getD_none, Option.map_some, Option.getD_some] at e
      have E := Lib.hid e
      clear e
      go_wp2_with fail
      go_ret
      exact ⟨by rw [E.out]; rfl, rfl⟩
  · have hn : nibR l p = -2 := by unfold nibR; rw [if_neg hp]
    rw [hn]
    go_enter Tryz.func295, Tryz.ntmps295
    go_wp2_with fail
    go_ret
    exact ⟨rfl, rfl⟩

set_option maxRecDepth 100000 in
set_option maxHeartbeats 4000000 in
theorem bad_any (rb : Nat) (A : Option Addr) (cap : Nat) (l : List UInt8) (i fr : Nat) (n : Int) (tv : Value) (B : Nat) (w : World) (hst : RS w B rb A cap l i (-1) 0 tv) :
    Calls Tryz.prog 278 #[.pointer (some ⟨rb, 0, none⟩), .int .i64 fr, .int .i64 n] w fun e w' => e = .returned (.tuple #[]) ∧ RR w' rb (.slice A l.length cap) i (if n = -2 then (l.length : Int) else fr) (if n = -2 then 240 else 243) tv ∧ Chg (· = rb) w w' := by
  have c0 := hst.r.c0
  have hn := fun a e => rno_any rb (.slice A l.length cap) i (-1) 0 tv a e w hst.r
  have HN := Lib.hid hn
  clear hn
  by_cases h : n = -2
  · have t : (n == -2) = true := by rw [beq_iff_eq]; exact h
    rw [if_pos h, if_pos h]
    clear h
    go_enter Tryz.func278, Tryz.ntmps278
    go_wp2_with fail
    refine (HN.out _ _).mono ?_
    rintro e w1 ⟨rfl, hr, hc⟩
    have HR := Lib.hid hr
    clear hr
    go_wp2_with fail
    refine bodyPost_ret (results_none rfl _ _ _) rfl ?_
    exact ⟨rfl, HR.out, hc⟩
  · have t : (n == -2) = false := by rw [beq_eq_false_iff_ne]; exact h
    rw [if_neg h, if_neg h]
    clear h
    go_enter Tryz.func278, Tryz.ntmps278
    go_wp2_with fail
    refine (HN.out _ _).mono ?_
    rintro e w1 ⟨rfl, hr, hc⟩
    have HR := Lib.hid hr
    clear hr
    go_wp2_with fail
    go_end0
    exact ⟨rfl, HR.out, hc⟩
end Go.Proofs.YtknmbfkpclacgaaGreatDoor
