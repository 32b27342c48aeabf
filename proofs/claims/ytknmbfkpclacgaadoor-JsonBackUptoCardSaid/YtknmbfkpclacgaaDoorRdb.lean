/- The JSON reader's methods open, take, word, four, put. -/
import Derived.Test.YtknmbfkpclacgaaDoorRda
namespace Go.Proofs.YtknmbfkpclacgaaDoor
open Go.RowKit

set_option maxHeartbeats 1000000 in
theorem open_no (rb : Nat) (bv : Value) (tv : Value) (i : Nat) (w : World) (hr : Rd w rb bv i 64 tv) :
    Calls Tryd.prog 55 #[.pointer (some ⟨rb, 0, none⟩)] w fun e w' => NoEnd i 241 e ∧ w' = w := by
  have c1 := hr.c1
  have c2 := hr.c2
  go_enter Tryd.func55, Tryd.ntmps55
  go_wp2_with fail
  refine (no_any _ _ _ _).mono ?_
  rintro e w2 ⟨rfl, rfl⟩
  exact ⟨rfl, rfl, rfl⟩

set_option maxHeartbeats 1000000 in
theorem open_yes (rb : Nat) (bv : Value) (tv : Value) (i dp : Nat) (w : World) (hd : dp < 64) (hi : i < 9223372036854775807) (hr : Rd w rb bv i dp tv) :
    Calls Tryd.prog 55 #[.pointer (some ⟨rb, 0, none⟩)] w fun e w' => e = .returned (.tuple #[]) ∧ Rd w' rb bv (i + 1) (dp + 1) tv ∧ Chg (· = rb) w w' := by
  have c1 := hr.c1
  have c2 := hr.c2
  have f2 := hr.f 2
  have t : ((dp : Int) == 64) = false := by simp; omega
  have hr2 := hr.set2 (dp + 1)
  have c1' : (w.setCell ⟨rb, 2, none⟩ (.int .i64 ((dp : Int) + 1))).cell? ⟨rb, 1, none⟩ = some (.int .i64 i) := hr2.c1
  have f1' : (w.setCell ⟨rb, 2, none⟩ (.int .i64 ((dp : Int) + 1))).frozen? ⟨rb, 1, none⟩ = false := hr2.f 1
  go_enter Tryd.func55, Tryd.ntmps55
  go_wp2_with fail
  go_end0
  exact ⟨rfl, hr2.set1 (i + 1), ((Chg.refl _ _).st _ _).st _ _⟩

set_option maxHeartbeats 1000000 in
theorem take_yes (rb : Nat) (A : Option Addr) (cap : Nat) (tv : Value) (l : List UInt8) (i dp : Nat) (B : Nat) (w : World) (hB : B ≤ rb) (hlt : i < l.length)
   (hr : Rd w rb (.slice A l.length cap) i dp tv) (hb : Bs w B A l) :
    Calls Tryd.prog 72 #[.pointer (some ⟨rb, 0, none⟩)] w fun e w' =>
      e = .returned (.int .u8 ((pk l i).toNat : Int)) ∧ Rd w' rb (.slice A l.length cap) (i + 1) dp tv ∧ Chg (· = rb) w w' := by
  have c0 := hr.c0
  have c1 := hr.c1
  have f1 := hr.f 1
  have hln := hb.len
  have hr' := hr.set1 (i + 1)
  have hb' := hb.rd hr hB ((Chg.refl _ _).st 1 (.int .i64 ((i + 1 : Nat) : Int)))
  obtain ⟨b, o, rfl, hne, hc⟩ := hb.cells (by omega)
  obtain ⟨b', o', he, hne', hc'⟩ := hb'.cells (by omega)
  obtain ⟨rfl, rfl⟩ : b' = b ∧ o' = o := by simpa [eq_comm] using he
  have ci : (w.setCell ⟨rb, 1, none⟩ (.int .i64 ((i : Int) + 1))).cell? ⟨b', o' + i, none⟩ = _ := hc' i hlt
  have c0' : (w.setCell ⟨rb, 1, none⟩ (.int .i64 ((i : Int) + 1))).cell? ⟨rb, 0, none⟩ = _ := hr'.c0
  have c1' : (w.setCell ⟨rb, 1, none⟩ (.int .i64 ((i : Int) + 1))).cell? ⟨rb, 1, none⟩ = some (.int .i64 ((i : Int) + 1)) := hr'.c1
  have hpr := pk_range l i
  clear hc hc' he
  go_enter Tryd.func72, Tryd.ntmps72
  go_wp2_with fail
  go_quiet (fail)
  go_wp2_with fail
  have ci2 : ((w.drewN nq).setCell ⟨rb, 1, none⟩ (.int .i64 ((i : Int) + 1))).cell? ⟨b', o' + i, none⟩ = _ := ci
  have c02 : ((w.drewN nq).setCell ⟨rb, 1, none⟩ (.int .i64 ((i : Int) + 1))).cell? ⟨rb, 0, none⟩ = _ := c0'
  have c12 : ((w.drewN nq).setCell ⟨rb, 1, none⟩ (.int .i64 ((i : Int) + 1))).cell? ⟨rb, 1, none⟩ = _ := c1'
  go_quiet (fail)
  go_wp2_with fail
  go_ret
  exact ⟨rfl, ((hr.drewN _).set1 (i + 1)).drewN _, (((Chg.refl _ _).drewN _).st _ _).drewN _⟩

set_option maxHeartbeats 1000000 in
theorem take_no (rb : Nat) (A : Option Addr) (cap : Nat) (tv : Value) (l : List UInt8) (i dp : Nat) (B : Nat) (w : World) (hlt : ¬ i < l.length)
   (hr : Rd w rb (.slice A l.length cap) i dp tv) (hb : Bs w B A l) :
    Calls Tryd.prog 72 #[.pointer (some ⟨rb, 0, none⟩)] w fun e w' => NoEnd l.length 240 e ∧ Chg (· = rb) w w' := by
  have c0 := hr.c0
  have c1 := hr.c1
  have hln := hb.len
  go_enter Tryd.func72, Tryd.ntmps72
  go_wp2_with fail
  go_quiet (fail)
  go_wp2_with fail
  refine (no_any _ _ _ _).mono ?_
  rintro e w2 ⟨rfl, rfl⟩
  exact ⟨rfl, rfl, (Chg.refl _ _).drewN _⟩

/-- What the reader's methods need of memory: the reader's block, the bytes below it. -/
structure St (w : World) (B rb : Nat) (A : Option Addr) (cap : Nat) (l : List UInt8) (i dp : Nat) (tv : Value) : Prop where
  r : Rd w rb (.slice A l.length cap) i dp tv
  b : Bs w B A l
  B : B ≤ rb
  c : l.length ≤ cap
section
variable {w w' : World} {B rb : Nat} {A : Option Addr} {cap : Nat} {l : List UInt8} {i dp i' dp' : Nat} {tv tv' : Value}
theorem St.to (h : St w B rb A cap l i dp tv) (hr : Rd w' rb (.slice A l.length cap) i' dp' tv') (hc : Chg (· = rb) w w') : St w' B rb A cap l i' dp' tv' := ⟨hr, h.b.rd h.r h.B hc, h.B, h.c⟩
theorem St.drawn (h : St w B rb A cap l i dp tv) (hd : Drawn w w') : St w' B rb A cap l i dp tv := ⟨hd.rd h.r, hd.bs h.b, h.B, h.c⟩
theorem St.drewN (h : St w B rb A cap l i dp tv) (n : Nat) : St (w.drewN n) B rb A cap l i dp tv := h.drawn ⟨n, rfl⟩
end

set_option maxHeartbeats 1000000 in
theorem word_yes (rb : Nat) (A : Option Addr) (cap : Nat) (tv : Value) (l : List UInt8) (i dp : Nat) (B : Nat) (w : World) (wd : List UInt8) (hw0 : 0 < wd.length) (hw : wd.length ≤ 100)
   (hst : St w B rb A cap l i dp tv) (h : (l.drop i).take wd.length = wd) :
    Calls Tryd.prog 37 #[.pointer (some ⟨rb, 0, none⟩), .string ⟨wd.toArray⟩] w fun e w' => e = .returned (.tuple #[]) ∧ Rd w' rb (.slice A l.length cap) (i + wd.length) dp tv ∧ Chg (· = rb) w w' := by
  obtain ⟨hr, hb, hB, hcap⟩ := hst
  have hi : i + wd.length ≤ l.length := by
    have := congrArg List.length h
    simp only [List.length_take, List.length_drop] at this
    omega
  have ht : (!(l.drop i).take wd.length == wd) = false := by rw [h]; simp
  clear h
  have c0 := hr.c0
  have c1 := hr.c1
  have f1 := hr.f 1
  have hln := hb.len
  obtain ⟨b, o, rfl, hne, hc⟩ := hb.cells (by omega)
  have hs : ∀ (n c : Nat), (convert 30 9 (.slice (some ⟨b, o + i, none⟩) wd.length c)).run Tryd.prog (w.drewN n) = .ok (.string ⟨((l.drop i).take wd.length).toArray⟩) (w.drewN n) := fun n c =>
    conv_bytes (e := 5) (by kernel_rfl) (by kernel_rfl) (by kernel_rfl) (w.drewN n) b (o + i) wd.length c ((l.drop i).take wd.length) (by simp; omega) (fun j hj => by
      have := hc (i + j) (by omega)
      rw [show o + i + j = o + (i + j) from by omega]
      refine this.trans ?_
      simp only [pk, List.getD_eq_getElem?_getD, List.getElem?_take, if_pos hj, List.getElem?_drop])
  clear hc
  go_enter Tryd.func37, Tryd.ntmps37
  go_wp2_with fail
  have hd : decide ((l.length : Int) - (i : Int) < (wd.length : Int)) = false := by simp; omega
  go_quiet (fail)
  go_wp2_with fail
  go_end0
  exact ⟨rfl, (hr.drewN _).set1 (i + wd.length), ((Chg.refl _ _).drewN _).st _ _⟩

set_option maxHeartbeats 1000000 in
theorem word_no (rb : Nat) (A : Option Addr) (cap : Nat) (tv : Value) (l : List UInt8) (i dp : Nat) (B : Nat) (w : World) (wd : List UInt8) (hw0 : 0 < wd.length) (hw : wd.length ≤ 100) (hil : i ≤ l.length)
   (hst : St w B rb A cap l i dp tv) (h : (l.drop i).take wd.length ≠ wd) :
    Calls Tryd.prog 37 #[.pointer (some ⟨rb, 0, none⟩), .string ⟨wd.toArray⟩] w fun e w' => NoEnd i 240 e ∧ Chg (· = rb) w w' := by
  obtain ⟨hr, hb, hB, hcap⟩ := hst
  have ht : (!(l.drop i).take wd.length == wd) = true := by simpa using h
  clear h
  have c0 := hr.c0
  have c1 := hr.c1
  have f1 := hr.f 1
  have hln := hb.len
  by_cases hi : i + wd.length ≤ l.length
  · obtain ⟨b, o, rfl, hne, hc⟩ := hb.cells (by omega)
    have hs : ∀ (n c : Nat), (convert 30 9 (.slice (some ⟨b, o + i, none⟩) wd.length c)).run Tryd.prog (w.drewN n) = .ok (.string ⟨((l.drop i).take wd.length).toArray⟩) (w.drewN n) := fun n c =>
      conv_bytes (e := 5) (by kernel_rfl) (by kernel_rfl) (by kernel_rfl) (w.drewN n) b (o + i) wd.length c ((l.drop i).take wd.length) (by simp; omega) (fun j hj => by
        have := hc (i + j) (by omega)
        rw [show o + i + j = o + (i + j) from by omega]
        refine this.trans ?_
        simp only [pk, List.getD_eq_getElem?_getD, List.getElem?_take, if_pos hj, List.getElem?_drop])
    clear hc
    go_enter Tryd.func37, Tryd.ntmps37
    go_wp2_with fail
    have hd : decide ((l.length : Int) - (i : Int) < (wd.length : Int)) = false := by simp; omega
    go_quiet (fail)
    go_wp2_with fail
    refine (no_any _ _ _ _).mono ?_
    rintro e w2 ⟨rfl, rfl⟩
    exact ⟨rfl, rfl, (Chg.refl _ _).drewN _⟩
  · go_enter Tryd.func37, Tryd.ntmps37
    go_wp2_with fail
    have hd : decide ((l.length : Int) - (i : Int) < (wd.length : Int)) = true := by simp; omega
    go_quiet (fail)
    go_wp2_with fail
    refine (no_any _ _ _ _).mono ?_
    rintro e w2 ⟨rfl, rfl⟩
    exact ⟨rfl, rfl, (Chg.refl _ _).drewN _⟩

/-! ### Four digits -/
def FourPost (l : List UInt8) (begin i : Nat) (rb : Nat) (bv tv : Value) (dp : Nat) (w : World) (e : Ending) (w' : World) : Prop :=
  match fourJ l begin 4 i 0 with
  | .ok n => e = .returned (.int .i32 n) ∧ Rd w' rb bv (i + 4) dp tv ∧ Chg (· = rb) w w'
  | .error f => NoEnd f.1 f.2 e ∧ Chg (· = rb) w w'
theorem fourJ_end (l : List UInt8) (begin k i n : Nat) (h : ¬ i < l.length) : fourJ l begin (k + 1) i n = .error (l.length, 240) := by simp [fourJ, takeJ, h]
theorem fourJ_step (l : List UInt8) (begin k i n d : Nat) (h : i < l.length) (hd : hexv (pk l i) = some d) : fourJ l begin (k + 1) i n = fourJ l begin k (i + 1) (n * 16 + d) := by simp [fourJ, takeJ, h, hd]
theorem fourJ_bad (l : List UInt8) (begin k i n : Nat) (h : i < l.length) (hd : hexv (pk l i) = none) : fourJ l begin (k + 1) i n = .error (begin, 243) := by simp [fourJ, takeJ, h, hd]

theorem hexv_dig (c : UInt8) (h1 : (48 : Int) ≤ (c.toNat : Int)) (h2 : (c.toNat : Int) ≤ 57) : hexv c = some (c.toNat - 48) := by unfold hexv; rw [if_pos (by omega)]
theorem hexv_low (c : UInt8) (h1 : (97 : Int) ≤ (c.toNat : Int)) (h2 : (c.toNat : Int) ≤ 102) : hexv c = some (c.toNat - 97 + 10) := by unfold hexv; rw [if_neg (by omega), if_pos (by omega)]
theorem hexv_up (c : UInt8) (h1 : (65 : Int) ≤ (c.toNat : Int)) (h2 : (c.toNat : Int) ≤ 70) : hexv c = some (c.toNat - 65 + 10) := by unfold hexv; rw [if_neg (by omega), if_neg (by omega), if_pos (by omega)]
theorem hexv_no (c : UInt8) (h : ¬ ((48 : Int) ≤ (c.toNat : Int) ∧ (c.toNat : Int) ≤ 57) ∧ ¬ ((97 : Int) ≤ (c.toNat : Int) ∧ (c.toNat : Int) ≤ 102) ∧ ¬ ((65 : Int) ≤ (c.toNat : Int) ∧ (c.toNat : Int) ≤ 70)) : hexv c = none := by
  unfold hexv; rw [if_neg (by omega), if_neg (by omega), if_neg (by omega)]
theorem int_i32 {a b : Int} (h : a = b) : Value.int .i32 a = .int .i32 b := by rw [h]
theorem int_i64 {a b : Int} (h : a = b) : Value.int .i64 a = .int .i64 b := by rw [h]

set_option maxHeartbeats 4000000 in
theorem four_any (rb : Nat) (A : Option Addr) (cap : Nat) (tv : Value) (l : List UInt8) (begin i dp : Nat) (B : Nat) (w : World) (hst : St w B rb A cap l i dp tv) :
    Calls Tryd.prog 73 #[.pointer (some ⟨rb, 0, none⟩), .int .i64 begin] w (FourPost l begin i rb (.slice A l.length cap) tv dp w) := by
  have hln := hst.b.len
  go_enter Tryd.func73, Tryd.ntmps73
  go_wp2_with fail
  go_loopg [5, 7] 5 (fun g vn vk wr => ∃ k n : Nat, vk = .int .i64 k ∧ vn = .int .i32 n ∧ k ≤ 4 ∧ n < 16 ^ k ∧ St wr B rb A cap l (i + k) dp tv ∧ Chg (· = rb) w wr ∧ fourJ l begin (4 - k) (i + k) n = fourJ l begin 4 i 0 ∧ 5 - k = g)
  case atStart => exact ⟨0, 0, rfl, rfl, by omega, by omega, hst, Chg.refl _ _, rfl, rfl⟩
  case round =>
   obtain ⟨k, n, rfl, rfl, hk, hn, hst', hch, hf, hg⟩ := hrel
   have HF := Lib.hid hf
   have HG := Lib.hid hg
   clear hf hg
   by_cases hk4 : k < 4
   · have hn2 : n < 4096 := Nat.lt_of_lt_of_le hn (Nat.pow_le_pow_right (n := 16) (by omega) (show k ≤ 3 by omega))
     by_cases hlt : i + k < l.length
     · go_wp2_with fail
       refine (take_yes rb A cap tv l (i + k) dp B _ hst'.B hlt hst'.r hst'.b).mono ?_
       rintro e w1 ⟨rfl, hr1, hch1⟩
       have hch2 : Chg (· = rb) w w1 := hch.trans hch1
       have hpr := pk_range l (i + k)
       have hst2 : St w1 B rb A cap l (i + (k + 1)) dp tv := hst'.to (by rw [← Nat.add_assoc]; exact hr1) hch1
       have HS2 := Lib.hid hst2
       clear hst2
       go_wp2_with fail
       all_goals first
         | (refine (no_any _ _ _ _).mono ?_
            rintro e w2 ⟨rfl, rfl⟩
            refine ⟨rfl, ?_⟩
            unfold FourPost
            rw [← HF.out, show 4 - k = (3 - k) + 1 from by omega, fourJ_bad _ _ _ _ _ hlt (hexv_no _ (by omega))]
            exact ⟨rfl, hch2⟩)
         | (go_roundg (5 - (k + 1))
            case measure => rw [← HG.out]; omega
            case rel =>
              first
                | exact ⟨k + 1, n * 16 + ((pk l (i + k)).toNat - 48), int_i64 (by omega), int_i32 (by omega), by omega, by rw [Nat.pow_succ]; omega, HS2.out, hch2, by rw [← HF.out, show 4 - k = (4 - (k + 1)) + 1 from by omega, fourJ_step _ _ _ _ _ _ hlt (hexv_dig _ ‹_› ‹_›)]; rfl, rfl⟩
                | exact ⟨k + 1, n * 16 + ((pk l (i + k)).toNat - 97 + 10), int_i64 (by omega), int_i32 (by omega), by omega, by rw [Nat.pow_succ]; omega, HS2.out, hch2, by rw [← HF.out, show 4 - k = (4 - (k + 1)) + 1 from by omega, fourJ_step _ _ _ _ _ _ hlt (hexv_low _ ‹_› ‹_›)]; rfl, rfl⟩
                | exact ⟨k + 1, n * 16 + ((pk l (i + k)).toNat - 65 + 10), int_i64 (by omega), int_i32 (by omega), by omega, by rw [Nat.pow_succ]; omega, HS2.out, hch2, by rw [← HF.out, show 4 - k = (4 - (k + 1)) + 1 from by omega, fourJ_step _ _ _ _ _ _ hlt (hexv_up _ ‹_› ‹_›)]; rfl, rfl⟩)
     · go_wp2_with fail
       refine (take_no rb A cap tv l (i + k) dp B _ hlt hst'.r hst'.b).mono ?_
       rintro e w1 ⟨rfl, hch1⟩
       refine ⟨rfl, ?_⟩
       unfold FourPost
       rw [← HF.out, show 4 - k = (3 - k) + 1 from by omega, fourJ_end _ _ _ _ _ hlt]
       exact ⟨rfl, hch.trans hch1⟩
   · go_wp2_with fail
     go_ret
     unfold FourPost
     obtain rfl : k = 4 := by omega
     rw [← HF.out]
     exact ⟨rfl, hst'.r, hch⟩
end Go.Proofs.YtknmbfkpclacgaaDoor
