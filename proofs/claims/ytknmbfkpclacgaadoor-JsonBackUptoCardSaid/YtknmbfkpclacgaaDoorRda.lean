/- The JSON reader's small methods: what each does to the reader's block. -/
import Derived.Test.YtknmbfkpclacgaaDoorProg
import Derived.Test.YtknmbfkpclacgaaDoorBase
import Derived.WalkKit
import Derived.Deep.QuietTactic
import Derived.BigQuiet
import Derived.KernelRfl
import Derived.Lib.Hide
import Derived.Deep.LoopGhost
import Derived.WalkLawsBesides
namespace Go.Proofs.YtknmbfkpclacgaaDoor
open Go.RowKit

/-- The value with which the reader gives up. -/
def fltV (i : Nat) (e : Int) : Value := .iface 50 (.agg #[.int .i64 i, .int .i64 e])
/-- The call ends in the reader's own panic. -/
def NoEnd (i : Nat) (e : Int) (x : Ending) : Prop := x = .panicked [{ v := fltV i e, recovered := false }]

theorem no_any (rp : Option Addr) (i : Nat) (e : Int) (w : World) :
    Calls Tryd.prog 21 #[.pointer rp, .int .i64 i, .int .i64 e] w fun x w' => NoEnd i e x ∧ w' = w := by
  go_enter Tryd.func21, Tryd.ntmps21
  go_wp2
  exact ⟨rfl, rfl, rfl⟩

/-! ### The plain steps -/
theorem skip_stay (l : List UInt8) (i : Nat) (h : ¬ (i < l.length ∧ isBl (pk l i) = true)) : skip l i = i := by
  unfold skip
  by_cases hi : i < l.length
  · have hb : isBl (pk l i) = false := by simpa [hi] using h
    rw [List.drop_eq_getElem_cons hi]
    simp only [pk, List.getD_eq_getElem?_getD, List.getElem?_eq_getElem hi, Option.getD_some] at hb
    simp [skipBl, hb]
  · rw [List.drop_eq_nil_of_le (by omega)]; simp [skipBl]
theorem skip_step (l : List UInt8) (i : Nat) (hi : i < l.length) (hb : isBl (pk l i) = true) : skip l i = skip l (i + 1) := by
  unfold skip
  rw [List.drop_eq_getElem_cons hi]
  simp only [pk, List.getD_eq_getElem?_getD, List.getElem?_eq_getElem hi, Option.getD_some] at hb
  simp [skipBl, hb]; omega
theorem pk_range (l : List UInt8) (i : Nat) : 0 ≤ ((pk l i).toNat : Int) ∧ ((pk l i).toNat : Int) < 256 := by have := (pk l i).toNat_lt; omega
theorem pk_out (l : List UInt8) (i : Nat) (h : ¬ i < l.length) : pk l i = 0 := by simp [pk, List.getD_eq_getElem?_getD, List.getElem?_eq_none (show l.length ≤ i by omega)]
theorem u8_eq (c : UInt8) (n : Nat) (hn : n < 256) : (((c.toNat : Int) == (n : Int)) = true) ↔ c = UInt8.ofNat n := by
  rw [beq_iff_eq]
  constructor
  · intro h
    apply UInt8.toNat_inj.1
    rw [UInt8.toNat_ofNat']; omega
  · intro h; subst h; rw [UInt8.toNat_ofNat']; omega

theorem isBl_of (c : UInt8) (h : ((c.toNat : Int) == 32) = true ∨ ((c.toNat : Int) == 9) = true ∨ ((c.toNat : Int) == 10) = true ∨ ((c.toNat : Int) == 13) = true) : isBl c = true := by
  simp only [isBl, Bool.or_eq_true, beq_iff_eq]
  rcases h with h | h | h | h
  · exact .inl (.inl (.inl ((u8_eq c 32 (by omega)).1 h)))
  · exact .inl (.inl (.inr ((u8_eq c 9 (by omega)).1 h)))
  · exact .inl (.inr ((u8_eq c 10 (by omega)).1 h))
  · exact .inr ((u8_eq c 13 (by omega)).1 h)
theorem isBl_not (c : UInt8) (h1 : ((c.toNat : Int) == 32) = false) (h2 : ((c.toNat : Int) == 9) = false) (h3 : ((c.toNat : Int) == 10) = false) (h4 : ((c.toNat : Int) == 13) = false) : ¬ isBl c = true := by
  intro h
  simp only [isBl, Bool.or_eq_true, beq_iff_eq] at h
  rcases h with ((h | h) | h) | h <;> subst h <;> simp at h1 h2 h3 h4

set_option maxHeartbeats 1000000 in
theorem blanks_any (rb : Nat) (A : Option Addr) (cap : Nat) (tv : Value) (l : List UInt8) (i dp : Nat) (B : Nat) (w : World) (hB : B ≤ rb)
   (hr : Rd w rb (.slice A l.length cap) i dp tv) (hb : Bs w B A l) :
    Calls Tryd.prog 20 #[.pointer (some ⟨rb, 0, none⟩)] w fun e w' => e = .returned (.tuple #[]) ∧ Rd w' rb (.slice A l.length cap) (skip l i) dp tv ∧ Chg (· = rb) w w' := by
  go_enter Tryd.func20, Tryd.ntmps20
  go_wp2_with fail
  go_loopg [] (l.length - i + 1) (fun g wr => ∃ j, Rd wr rb (.slice A l.length cap) j dp tv ∧ Chg (· = rb) w wr ∧ skip l j = skip l i ∧ l.length - j + 1 = g)
  case atStart => exact ⟨i, hr, Chg.refl _ _, rfl, rfl⟩
  case round =>
   obtain ⟨j, hr', hch, hsk, hg⟩ := hrel
   have HS := Lib.hid hsk
   have HG := Lib.hid hg
   clear hsk hg
   have hb' := hb.rd hr hB hch
   have c0 := hr'.c0
   have c1 := hr'.c1
   have f1 := hr'.f 1
   have hln := hb.len
   by_cases hlt : j < l.length
   · obtain ⟨b, o, rfl, hne, hc⟩ := hb'.cells (by omega)
     have ci := hc j hlt
     have hpr := pk_range l j
     clear hc
     go_wp2_with fail
     go_quiet (fail)
     go_wp2_with fail
     go_quiet (fail)
     go_wp2_with fail
     all_goals first
       | (refine bodyPost_ret (results_none rfl _ _ _) rfl ?_
          refine ⟨rfl, ?_, (hch.drewN _)⟩
          rw [← HS.out, skip_stay l j (fun h => isBl_not _ ‹_› ‹_› ‹_› ‹_› h.2)]
          exact hr'.drewN _)
       | (go_roundg (l.length - (j + 1) + 1)
          case measure => rw [← HG.out]; omega
          case rel =>
            refine ⟨j + 1, (hr'.drewN _).set1 (j + 1), (hch.drewN _).setCell (fun _ => rfl) _, ?_, rfl⟩
            rw [← HS.out]
            refine (skip_step l j hlt (isBl_of _ ?_)).symm
            simp [*])
   · go_wp2_with fail
     go_quiet (fail)
     go_wp2_with fail
     go_end0
     refine ⟨rfl, ?_, hch.drewN _⟩
     rw [← HS.out, skip_stay l j (fun h => hlt h.1)]
     exact hr'.drewN _

def Drawn (w w' : World) : Prop := ∃ n, w' = w.drewN n
theorem Drawn.refl (w : World) : Drawn w w := ⟨0, rfl⟩
theorem Drawn.step {w w1 : World} (h : Drawn w w1) (n : Nat) : Drawn w (w1.drewN n) := by obtain ⟨m, rfl⟩ := h; exact ⟨m + n, World.drewN_drewN ..⟩
theorem Drawn.trans {w w1 w2 : World} (h : Drawn w w1) (k : Drawn w1 w2) : Drawn w w2 := by obtain ⟨m, rfl⟩ := k; exact h.step m
theorem Drawn.rd {w w' : World} {rb : Nat} {bv : Value} {i dp : Nat} {tv : Value} (h : Drawn w w') (hr : Rd w rb bv i dp tv) : Rd w' rb bv i dp tv := by obtain ⟨n, rfl⟩ := h; exact hr.drewN n
theorem Drawn.bs {w w' : World} {B : Nat} {A : Option Addr} {l : List UInt8} (h : Drawn w w') (hb : Bs w B A l) : Bs w' B A l := by obtain ⟨n, rfl⟩ := h; exact ⟨hb.len, hb.cells⟩
theorem Drawn.chg {S : Nat → Prop} {w w' : World} (h : Drawn w w') : Chg S w w' := by obtain ⟨n, rfl⟩ := h; exact (Chg.refl _ _).drewN n

set_option maxHeartbeats 1000000 in
theorem peek_any (rb : Nat) (A : Option Addr) (cap : Nat) (tv : Value) (l : List UInt8) (i dp : Nat) (B : Nat) (w : World)
   (hr : Rd w rb (.slice A l.length cap) i dp tv) (hb : Bs w B A l) :
    Calls Tryd.prog 31 #[.pointer (some ⟨rb, 0, none⟩)] w fun e w' => e = .returned (.int .u8 ((pk l i).toNat : Int)) ∧ Drawn w w' := by
  have c0 := hr.c0
  have c1 := hr.c1
  have hln := hb.len
  by_cases hlt : i < l.length
  · obtain ⟨b, o, rfl, hne, hc⟩ := hb.cells (by omega)
    have ci := hc i hlt
    have hpr := pk_range l i
    clear hc
    go_enter Tryd.func31, Tryd.ntmps31
    go_wp2_with fail
    go_quiet (fail)
    go_wp2_with fail
    go_quiet (fail)
    go_wp2_with fail
    go_ret
    exact ⟨rfl, by repeat (first | exact Drawn.refl _ | apply Drawn.step)⟩
  · go_enter Tryd.func31, Tryd.ntmps31
    go_wp2_with fail
    go_quiet (fail)
    go_wp2_with fail
    go_ret
    exact ⟨by rw [pk_out l i hlt]; rfl, by repeat (first | exact Drawn.refl _ | apply Drawn.step)⟩

theorem pk_lt (l : List UInt8) (i : Nat) (c : UInt8) (hc0 : c ≠ 0) (h : pk l i = c) : i < l.length := by
  rcases Nat.lt_or_ge i l.length with h' | h'
  · exact h'
  · exact absurd ((pk_out l _ (by omega)).symm.trans h).symm hc0
set_option maxHeartbeats 1000000 in
theorem next_yes (rb : Nat) (A : Option Addr) (cap : Nat) (tv : Value) (l : List UInt8) (i dp : Nat) (B : Nat) (c : UInt8) (w : World) (hB : B ≤ rb) (hc0 : c ≠ 0)
   (hr : Rd w rb (.slice A l.length cap) i dp tv) (hb : Bs w B A l) (h : pk l (skip l i) = c) :
    Calls Tryd.prog 56 #[.pointer (some ⟨rb, 0, none⟩), .int .u8 (c.toNat : Int)] w fun e w' =>
      e = .returned (.bool true) ∧ Rd w' rb (.slice A l.length cap) (skip l i + 1) dp tv ∧ Chg (· = rb) w w' := by
  have hln := hb.len
  have hlt := pk_lt l _ c hc0 h
  have t1 : (((pk l (skip l i)).toNat : Int) != (c.toNat : Int)) = false := by simp [h]
  clear h
  go_enter Tryd.func56, Tryd.ntmps56
  go_wp2_with fail
  refine (blanks_any rb A cap tv l i dp B _ hB hr hb).mono ?_
  rintro e w1 ⟨rfl, hr1, hch1⟩
  have hb1 := hb.rd hr hB hch1
  go_wp2_with fail
  refine (peek_any rb A cap tv l (skip l i) dp B _ hr1 hb1).mono ?_
  rintro e w2 ⟨rfl, hd⟩
  have hr2 := hd.rd hr1
  have hch2 : Chg (· = rb) w w2 := hch1.trans hd.chg
  have c1 := hr2.c1
  have f1 := hr2.f 1
  go_wp2_with fail
  go_ret
  exact ⟨rfl, hr2.set1 (skip l i + 1), hch2.setCell (fun _ => rfl) _⟩
set_option maxHeartbeats 1000000 in
theorem next_no (rb : Nat) (A : Option Addr) (cap : Nat) (tv : Value) (l : List UInt8) (i dp : Nat) (B : Nat) (c : UInt8) (w : World) (hB : B ≤ rb)
   (hr : Rd w rb (.slice A l.length cap) i dp tv) (hb : Bs w B A l) (h : pk l (skip l i) ≠ c) :
    Calls Tryd.prog 56 #[.pointer (some ⟨rb, 0, none⟩), .int .u8 (c.toNat : Int)] w fun e w' =>
      e = .returned (.bool false) ∧ Rd w' rb (.slice A l.length cap) (skip l i) dp tv ∧ Chg (· = rb) w w' := by
  have t1 : (((pk l (skip l i)).toNat : Int) != (c.toNat : Int)) = true := by
    rw [bne_iff_ne]; intro h'; exact h (UInt8.toNat_inj.1 (by omega))
  clear h
  go_enter Tryd.func56, Tryd.ntmps56
  go_wp2_with fail
  refine (blanks_any rb A cap tv l i dp B _ hB hr hb).mono ?_
  rintro e w1 ⟨rfl, hr1, hch1⟩
  have hb1 := hb.rd hr hB hch1
  go_wp2_with fail
  refine (peek_any rb A cap tv l (skip l i) dp B _ hr1 hb1).mono ?_
  rintro e w2 ⟨rfl, hd⟩
  have hr2 := hd.rd hr1
  have hch2 : Chg (· = rb) w w2 := hch1.trans hd.chg
  go_wp2_with fail
  go_ret
  exact ⟨rfl, hr2, hch2⟩

set_option maxHeartbeats 1000000 in
theorem want_yes (rb : Nat) (A : Option Addr) (cap : Nat) (tv : Value) (l : List UInt8) (i dp : Nat) (B : Nat) (c : UInt8) (w : World) (hB : B ≤ rb) (hc0 : c ≠ 0)
   (hr : Rd w rb (.slice A l.length cap) i dp tv) (hb : Bs w B A l) (h : pk l (skip l i) = c) :
    Calls Tryd.prog 57 #[.pointer (some ⟨rb, 0, none⟩), .int .u8 (c.toNat : Int)] w fun e w' =>
      e = .returned (.tuple #[]) ∧ Rd w' rb (.slice A l.length cap) (skip l i + 1) dp tv ∧ Chg (· = rb) w w' := by
  have H := Lib.hid h
  clear h
  go_enter Tryd.func57, Tryd.ntmps57
  go_wp2_with fail
  refine (next_yes rb A cap tv l i dp B c _ hB hc0 hr hb H.out).mono ?_
  rintro e w1 ⟨rfl, hr1, hch1⟩
  go_wp2_with fail
  go_end0
  exact ⟨rfl, hr1, hch1⟩

set_option maxHeartbeats 1000000 in
theorem want_no (rb : Nat) (A : Option Addr) (cap : Nat) (tv : Value) (l : List UInt8) (i dp : Nat) (B : Nat) (c : UInt8) (w : World) (hB : B ≤ rb)
   (hr : Rd w rb (.slice A l.length cap) i dp tv) (hb : Bs w B A l) (h : pk l (skip l i) ≠ c) :
    Calls Tryd.prog 57 #[.pointer (some ⟨rb, 0, none⟩), .int .u8 (c.toNat : Int)] w fun e w' =>
      NoEnd (skip l i) 240 e ∧ Chg (· = rb) w w' := by
  have H := Lib.hid h
  clear h
  go_enter Tryd.func57, Tryd.ntmps57
  go_wp2_with fail
  refine (next_no rb A cap tv l i dp B c _ hB hr hb H.out).mono ?_
  rintro e w1 ⟨rfl, hr1, hch1⟩
  have c1 := hr1.c1
  go_wp2_with fail
  refine (no_any _ _ _ _).mono ?_
  rintro e w2 ⟨rfl, rfl⟩
  exact ⟨rfl, rfl, hch1⟩

set_option maxHeartbeats 1000000 in
theorem digit_any (rb : Nat) (A : Option Addr) (cap : Nat) (tv : Value) (l : List UInt8) (i dp : Nat) (B : Nat) (w : World)
   (hr : Rd w rb (.slice A l.length cap) i dp tv) (hb : Bs w B A l) :
    Calls Tryd.prog 60 #[.pointer (some ⟨rb, 0, none⟩)] w fun e w' => e = .returned (.bool (isDig (pk l i))) ∧ Drawn w w' := by
  have hpr := pk_range l i
  by_cases h1 : 48 ≤ (pk l i).toNat
  · have h1' : (48 : Int) ≤ ((pk l i).toNat : Int) := by omega
    have hf : isDig (pk l i) = decide (((pk l i).toNat : Int) ≤ 57) := by simp [isDig, h1]; omega
    have HF := Lib.hid hf
    clear hf
    go_enter Tryd.func60, Tryd.ntmps60
    go_wp2_with fail
    refine (peek_any rb A cap tv l i dp B _ hr hb).mono ?_
    rintro e w1 ⟨rfl, n1, rfl⟩
    go_wp2_with fail
    refine (peek_any rb A cap tv l i dp B _ (hr.drewN _) (Drawn.bs ⟨n1, rfl⟩ hb)).mono ?_
    rintro e w1 ⟨rfl, n2, rfl⟩
    go_wp2_with fail
    go_ret
    exact ⟨congrArg (fun b => Ending.returned (.bool b)) HF.out.symm, by repeat (first | exact Drawn.refl _ | apply Drawn.step)⟩
  · have h1' : ¬ (48 : Int) ≤ ((pk l i).toNat : Int) := by omega
    have hf : isDig (pk l i) = false := by simp [isDig]; omega
    have HF := Lib.hid hf
    clear hf
    go_enter Tryd.func60, Tryd.ntmps60
    go_wp2_with fail
    refine (peek_any rb A cap tv l i dp B _ hr hb).mono ?_
    rintro e w1 ⟨rfl, n1, rfl⟩
    go_wp2_with fail
    go_ret
    exact ⟨congrArg (fun b => Ending.returned (.bool b)) HF.out.symm, by repeat (first | exact Drawn.refl _ | apply Drawn.step)⟩
end Go.Proofs.YtknmbfkpclacgaaDoor
