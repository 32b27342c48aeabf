import Derived.Test.YtknmbfkpclacgaaGreatDoorMQu1
import Derived.Deep.RegionHeld3
import Derived.Deep.RegionLaw
import Derived.Deep.AppendLies
import Derived.WalkSpells
import Derived.OwnWalk
/- The JSON reader's methods open, take, word, four, put. -/
namespace Go.Proofs.YtknmbfkpclacgaaGreatDoor
open Go.RowKit

set_option maxHeartbeats 1000000 in
theorem open_no (rb : Nat) (bv : Value) (tv : Value) (i : Nat) (w : World) (hr : Rd w rb bv i 64 tv) :
    Calls Tryz.prog 172 #[.pointer (some ⟨rb, 0, none⟩)] w fun e w' => NoEnd i 241 e ∧ w' = w := by
  have c1 := hr.c1
  have c2 := hr.c2
  go_enter Tryz.func172, Tryz.ntmps172
  go_wp2_with fail
  refine (no_any _ _ _ _).mono ?_
  rintro e w2 ⟨rfl, rfl⟩
  exact ⟨rfl, rfl, rfl⟩

set_option maxHeartbeats 1000000 in
theorem open_yes (rb : Nat) (bv : Value) (tv : Value) (i dp : Nat) (w : World) (hd : dp < 64) (hi : i < 9223372036854775807) (hr : Rd w rb bv i dp tv) :
    Calls Tryz.prog 172 #[.pointer (some ⟨rb, 0, none⟩)] w fun e w' => e = .returned (.tuple #[]) ∧ Rd w' rb bv (i + 1) (dp + 1) tv ∧ Chg (· = rb) w w' := by
  have c1 := hr.c1
  have c2 := hr.c2
  have f2 := hr.f 2
  have t : ((dp : Int) == 64) = false := by simp; omega
  have hr2 := hr.set2 (dp + 1)
  have c1' : (w.setCell ⟨rb, 2, none⟩ (.int .i64 ((dp : Int) + 1))).cell? ⟨rb, 1, none⟩ = some (.int .i64 i) := hr2.c1
  have f1' : (w.setCell ⟨rb, 2, none⟩ (.int .i64 ((dp : Int) + 1))).frozen? ⟨rb, 1, none⟩ = false := hr2.f 1
  go_enter Tryz.func172, Tryz.ntmps172
  go_wp2_with fail
  go_end0
  exact ⟨rfl, hr2.set1 (i + 1), ((Chg.refl _ _).st _ _).st _ _⟩

set_option maxHeartbeats 1000000 in
theorem take_yes (rb : Nat) (A : Option Addr) (cap : Nat) (tv : Value) (l : List UInt8) (i dp : Nat) (B : Nat) (w : World) (hB : B ≤ rb) (hlt : i < l.length)
   (hr : Rd w rb (.slice A l.length cap) i dp tv) (hb : Bs w B A l) :
    Calls Tryz.prog 243 #[.pointer (some ⟨rb, 0, none⟩)] w fun e w' =>
      e = .returned (.int .u8 ((pk l i).toNat : Int)) ∧ Rd w' rb (.slice A l.length cap) (i + 1) dp tv ∧ Chg (· = rb) w w' := by
  have c0 := hr.c0
  have c1 := hr.c1
  have f1 := hr.f 1
  have hln := hb.len
  have hr' := hr.set1 (i + 1)
  have hb' := hb.rd hr hB ((Chg.refl _ _).st 1 (.int .i64 ((i + 1 : Nat) : Int)))
  obtain ⟨b, o, rfl, hne, hc⟩ := hb.cells (by omega)
  obtain ⟨b', o', he, hne', hc'⟩ := hb'.cells (by omega)
  obtain ⟨rfl, rfl⟩ : b' = b ∧ o' = o := by simpa [eq_comm] using he
  have ci : (w.setCell ⟨rb, 1, none⟩ (.int .i64 ((i : Int) + 1))).cell? ⟨b', o' + i, none⟩ = _ := hc' i hlt
  have c0' : (w.setCell ⟨rb, 1, none⟩ (.int .i64 ((i : Int) + 1))).cell? ⟨rb, 0, none⟩ = _ := hr'.c0
  have c1' : (w.setCell ⟨rb, 1, none⟩ (.int .i64 ((i : Int) + 1))).cell? ⟨rb, 1, none⟩ = some (.int .i64 ((i : Int) + 1)) := hr'.c1
  have hpr := pk_range l i
  clear hc hc' he
  go_enter Tryz.func243, Tryz.ntmps243
  go_wp2_with fail
  go_quiet (fail)
  go_wp2_with fail
  have ci2 : ((w.drewN nq).setCell ⟨rb, 1, none⟩ (.int .i64 ((i : Int) + 1))).cell? ⟨b', o' + i, none⟩ = _ := ci
  have c02 : ((w.drewN nq).setCell ⟨rb, 1, none⟩ (.int .i64 ((i : Int) + 1))).cell? ⟨rb, 0, none⟩ = _ := c0'
  have c12 : ((w.drewN nq).setCell ⟨rb, 1, none⟩ (.int .i64 ((i : Int) + 1))).cell? ⟨rb, 1, none⟩ = _ := c1'
  go_quiet (fail)
  go_wp2_with fail
  go_ret
  exact ⟨rfl, ((hr.drewN _).set1 (i + 1)).drewN _, (((Chg.refl _ _).drewN _).st _ _).drewN _⟩

set_option maxHeartbeats 1000000 in
theorem take_no (rb : Nat) (A : Option Addr) (cap : Nat) (tv : Value) (l : List UInt8) (i dp : Nat) (B : Nat) (w : World) (hlt : ¬ i < l.length)
   (hr : Rd w rb (.slice A l.length cap) i dp tv) (hb : Bs w B A l) :
    Calls Tryz.prog 243 #[.pointer (some ⟨rb, 0, none⟩)] w fun e w' => NoEnd l.length 240 e ∧ Chg (· = rb) w w' := by
  have c0 := hr.c0
  have c1 := hr.c1
  have hln := hb.len
  go_enter Tryz.func243, Tryz.ntmps243
  go_wp2_with fail
  go_quiet (fail)
  go_wp2_with fail
  refine (no_any _ _ _ _).mono ?_
  rintro e w2 ⟨rfl, rfl⟩
  exact ⟨rfl, rfl, (Chg.refl _ _).drewN _⟩

/-- What the reader's methods need of memory: the reader's block, the bytes below it. -/
structure St (w : World) (B rb : Nat) (A : Option Addr) (cap : Nat) (l : List UInt8) (i dp : Nat) (tv : Value) : Prop where
  r : Rd w rb (.slice A l.length cap) i dp tv
  b : Bs w B A l
  B : B ≤ rb
  c : l.length ≤ cap
section
variable {w w' : World} {B rb : Nat} {A : Option Addr} {cap : Nat} {l : List UInt8} {i dp i' dp' : Nat} {tv tv' : Value}
theorem St.to (h : St w B rb A cap l i dp tv) (hr : Rd w' rb (.slice A l.length cap) i' dp' tv') (hc : Chg (· = rb) w w') : St w' B rb A cap l i' dp' tv' := ⟨hr, h.b.rd h.r h.B hc, h.B, h.c⟩
theorem St.drawn (h : St w B rb A cap l i dp tv) (hd : Drawn w w') : St w' B rb A cap l i dp tv := ⟨hd.rd h.r, hd.bs h.b, h.B, h.c⟩
theorem St.drewN (h : St w B rb A cap l i dp tv) (n : Nat) : St (w.drewN n) B rb A cap l i dp tv := h.drawn ⟨n, rfl⟩
end

set_option maxHeartbeats 1000000 in
theorem word_yes (rb : Nat) (A : Option Addr) (cap : Nat) (tv : Value) (l : List UInt8) (i dp : Nat) (B : Nat) (w : World) (wd : List UInt8) (hw0 : 0 < wd.length) (hw : wd.length ≤ 100)
   (hst : St w B rb A cap l i dp tv) (h : (l.drop i).take wd.length = wd) :
    Calls Tryz.prog 112 #[.pointer (some ⟨rb, 0, none⟩), .string ⟨wd.toArray⟩] w fun e w' => e = .returned (.tuple #[]) ∧ Rd w' rb (.slice A l.length cap) (i + wd.length) dp tv ∧ Chg (· = rb) w w' := by
  obtain ⟨hr, hb, hB, hcap⟩ := hst
  have hi : i + wd.length ≤ l.length := by
    have := congrArg List.length h
    simp only [List.length_take, List.length_drop] at this
    omega
  have ht : (!(l.drop i).take wd.length == wd) = false := by rw [h]; simp
  clear h
  have c0 := hr.c0
  have c1 := hr.c1
  have f1 := hr.f 1
  have hln := hb.len
  obtain ⟨b, o, rfl, hne, hc⟩ := hb.cells (by omega)
  have hs : ∀ (n c : Nat), (convert 22 9 (.slice (some ⟨b, o + i, none⟩) wd.length c)).run Tryz.prog (w.drewN n) = .ok (.string ⟨((l.drop i).take wd.length).toArray⟩) (w.drewN n) := fun n c =>
    conv_bytes (e := 5) (by kernel_rfl) (by kernel_rfl) (by kernel_rfl) (w.drewN n) b (o + i) wd.length c ((l.drop i).take wd.length) (by simp; omega) (fun j hj => by
      have := hc (i + j) (by omega)
      rw [show o + i + j = o + (i + j) from by omega]
      refine this.trans ?_
      simp only [pk, List.getD_eq_getElem?_getD, List.getElem?_take, if_pos hj, List.getElem?_drop])
  clear hc
  go_enter Tryz.func112, Tryz.ntmps112
  go_wp2_with fail
  have hd : decide ((l.length : Int) - (i : Int) < (wd.length : Int)) = false := by simp; omega
  go_quiet (fail)
  go_wp2_with fail
  go_end0
  exact ⟨rfl, (hr.drewN _).set1 (i + wd.length), ((Chg.refl _ _).drewN _).st _ _⟩

set_option maxHeartbeats 1000000 in
theorem word_no (rb : Nat) (A : Option Addr) (cap : Nat) (tv : Value) (l : List UInt8) (i dp : Nat) (B : Nat) (w : World) (wd : List UInt8) (hw0 : 0 < wd.length) (hw : wd.length ≤ 100) (hil : i ≤ l.length)
   (hst : St w B rb A cap l i dp tv) (h : (l.drop i).take wd.length ≠ wd) :
    Calls Tryz.prog 112 #[.pointer (some ⟨rb, 0, none⟩), .string ⟨wd.toArray⟩] w fun e w' => NoEnd i 240 e ∧ Chg (· = rb) w w' := by
  obtain ⟨hr, hb, hB, hcap⟩ := hst
  have ht : (!(l.drop i).take wd.length == wd) = true := by simpa using h
  clear h
  have c0 := hr.c0
  have c1 := hr.c1
  have f1 := hr.f 1
  have hln := hb.len
  by_cases hi : i + wd.length ≤ l.length
  · obtain ⟨b, o, rfl, hne, hc⟩ := hb.cells (by omega)
    have hs : ∀ (n c : Nat), (convert 22 9 (.slice (some ⟨b, o + i, none⟩) wd.length c)).run Tryz.prog (w.drewN n) = .ok (.string ⟨((l.drop i).take wd.length).toArray⟩) (w.drewN n) := fun n c =>
      conv_bytes (e := 5) (by kernel_rfl) (by kernel_rfl) (by kernel_rfl) (w.drewN n) b (o + i) wd.length c ((l.drop i).take wd.length) (by simp; omega) (fun j hj => by
        have := hc (i + j) (by omega)
        rw [show o + i + j = o + (i + j) from by omega]
        refine this.trans ?_
        simp only [pk, List.getD_eq_getElem?_getD, List.getElem?_take, if_pos hj, List.getElem?_drop])
    clear hc
    go_enter Tryz.func112, Tryz.ntmps112
    go_wp2_with fail
    have hd : decide ((l.length : Int) - (i : Int) < (wd.length : Int)) = false := by simp; omega
    go_quiet (fail)
    go_wp2_with fail
    refine (no_any _ _ _ _).mono ?_
    rintro e w2 ⟨rfl, rfl⟩
    exact ⟨rfl, rfl, (Chg.refl _ _).drewN _⟩
  · go_enter Tryz.func112, Tryz.ntmps112
    go_wp2_with fail
    have hd : decide ((l.length : Int) - (i : Int) < (wd.length : Int)) = true := by simp; omega
    go_quiet (fail)
    go_wp2_with fail
    refine (no_any _ _ _ _).mono ?_
    rintro e w2 ⟨rfl, rfl⟩
    exact ⟨rfl, rfl, (Chg.refl _ _).drewN _⟩

/-! ### Four digits -/
def FourPost (l : List UInt8) (begin i : Nat) (rb : Nat) (bv tv : Value) (dp : Nat) (w : World) (e : Ending) (w' : World) : Prop :=
  match fourJ l begin 4 i 0 with
  | .ok n => e = .returned (.int .i32 n) ∧ Rd w' rb bv (i + 4) dp tv ∧ Chg (· = rb) w w'
  | .error f => NoEnd f.1 f.2 e ∧ Chg (· = rb) w w'
theorem fourJ_end (l : List UInt8) (begin k i n : Nat) (h : ¬ i < l.length) : fourJ l begin (k + 1) i n = .error (l.length, 240) := by simp [fourJ, takeJ, h]
theorem fourJ_step (l : List UInt8) (begin k i n d : Nat) (h : i < l.length) (hd : hexv (pk l i) = some d) : fourJ l begin (k + 1) i n = fourJ l begin k (i + 1) (n * 16 + d) := by simp [fourJ, takeJ, h, hd]
theorem fourJ_bad (l : List UInt8) (begin k i n : Nat) (h : i < l.length) (hd : hexv (pk l i) = none) : fourJ l begin (k + 1) i n = .error (begin, 243) := by simp [fourJ, takeJ, h, hd]

theorem hexv_dig (c : UInt8) (h1 : (48 : Int) ≤ (c.toNat : Int)) (h2 : (c.toNat : Int) ≤ 57) : hexv c = some (c.toNat - 48) := by unfold hexv; rw [if_pos (by omega)]
theorem hexv_low (c : UInt8) (h1 : (97 : Int) ≤ (c.toNat : Int)) (h2 : (c.toNat : Int) ≤ 102) : hexv c = some (c.toNat - 97 + 10) := by unfold hexv; rw [if_neg (by omega), if_pos (by omega)]
theorem hexv_up (c : UInt8) (h1 : (65 : Int) ≤ (c.toNat : Int)) (h2 : (c.toNat : Int) ≤ 70) : hexv c = some (c.toNat - 65 + 10) := by unfold hexv; rw [if_neg (by omega), if_neg (by omega), if_pos (by omega)]
theorem hexv_no (c : UInt8) (h : ¬ ((48 : Int) ≤ (c.toNat : Int) ∧ (c.toNat : Int) ≤ 57) ∧ ¬ ((97 : Int) ≤ (c.toNat : Int) ∧ (c.toNat : Int) ≤ 102) ∧ ¬ ((65 : Int) ≤ (c.toNat : Int) ∧ (c.toNat : Int) ≤ 70)) : hexv c = none := by
  unfold hexv; rw [if_neg (by omega), if_neg (by omega), if_neg (by omega)]
theorem int_i32 {a b : Int} (h : a = b) : Value.int .i32 a = .int .i32 b := by rw [h]
theorem int_i64 {a b : Int} (h : a = b) : Value.int .i64 a = .int .i64 b := by rw [h]

set_option maxHeartbeats 4000000 in
theorem four_any (rb : Nat) (A : Option Addr) (cap : Nat) (tv : Value) (l : List UInt8) (begin i dp : Nat) (B : Nat) (w : World) (hst : St w B rb A cap l i dp tv) :
    Calls Tryz.prog 244 #[.pointer (some ⟨rb, 0, none⟩), .int .i64 begin] w (FourPost l begin i rb (.slice A l.length cap) tv dp w) := by
  have hln := hst.b.len
  go_enter Tryz.func244, Tryz.ntmps244
  go_wp2_with fail
  go_loopg [5, 7] 5 (fun g vn vk wr => ∃ k n : Nat, vk = .int .i64 k ∧ vn = .int .i32 n ∧ k ≤ 4 ∧ n < 16 ^ k ∧ St wr B rb A cap l (i + k) dp tv ∧ Chg (· = rb) w wr ∧ fourJ l begin (4 - k) (i + k) n = fourJ l begin 4 i 0 ∧ 5 - k = g)
  case atStart => exact ⟨0, 0, rfl, rfl, by omega, by omega, hst, Chg.refl _ _, rfl, rfl⟩
  case round =>
   obtain ⟨k, n, rfl, rfl, hk, hn, hst', hch, hf, hg⟩ := hrel
   have HF := Lib.hid hf
   have HG := Lib.hid hg
   clear hf hg
   by_cases hk4 : k < 4
   · have hn2 : n < 4096 := Nat.lt_of_lt_of_le hn (Nat.pow_le_pow_right (n := 16) (by omega) (show k ≤ 3 by omega))
     by_cases hlt : i + k < l.length
     · go_wp2_with fail
       refine (take_yes rb A cap tv l (i + k) dp B _ hst'.B hlt hst'.r hst'.b).mono ?_
       rintro e w1 ⟨rfl, hr1, hch1⟩
       have hch2 : Chg (· = rb) w w1 := hch.trans hch1
       have hpr := pk_range l (i + k)
       have hst2 : St w1 B rb A cap l (i + (k + 1)) dp tv := hst'.to (by rw [← Nat.add_assoc]; exact hr1) hch1
       have HS2 := Lib.hid hst2
       clear hst2
       go_wp2_with fail
       all_goals first
         | (refine (no_any _ _ _ _).mono ?_
            rintro e w2 ⟨rfl, rfl⟩
            refine ⟨rfl, ?_⟩
            unfold FourPost
            rw [← HF.out, show 4 - k = (3 - k) + 1 from by omega, fourJ_bad _ _ _ _ _ hlt (hexv_no _ (by omega))]
            exact ⟨rfl, hch2⟩)
         | (go_roundg (5 - (k + 1))
            case measure => rw [← HG.out]; omega
            case rel =>
              first
                | exact ⟨k + 1, n * 16 + ((pk l (i + k)).toNat - 48), int_i64 (by omega), int_i32 (by omega), by omega, by rw [Nat.pow_succ]; omega, HS2.out, hch2, by rw [← HF.out, show 4 - k = (4 - (k + 1)) + 1 from by omega, fourJ_step _ _ _ _ _ _ hlt (hexv_dig _ ‹_› ‹_›)]; rfl, rfl⟩
                | exact ⟨k + 1, n * 16 + ((pk l (i + k)).toNat - 97 + 10), int_i64 (by omega), int_i32 (by omega), by omega, by rw [Nat.pow_succ]; omega, HS2.out, hch2, by rw [← HF.out, show 4 - k = (4 - (k + 1)) + 1 from by omega, fourJ_step _ _ _ _ _ _ hlt (hexv_low _ ‹_› ‹_›)]; rfl, rfl⟩
                | exact ⟨k + 1, n * 16 + ((pk l (i + k)).toNat - 65 + 10), int_i64 (by omega), int_i32 (by omega), by omega, by rw [Nat.pow_succ]; omega, HS2.out, hch2, by rw [← HF.out, show 4 - k = (4 - (k + 1)) + 1 from by omega, fourJ_step _ _ _ _ _ _ hlt (hexv_up _ ‹_› ‹_›)]; rfl, rfl⟩)
     · go_wp2_with fail
       refine (take_no rb A cap tv l (i + k) dp B _ hlt hst'.r hst'.b).mono ?_
       rintro e w1 ⟨rfl, hch1⟩
       refine ⟨rfl, ?_⟩
       unfold FourPost
       rw [← HF.out, show 4 - k = (3 - k) + 1 from by omega, fourJ_end _ _ _ _ _ hlt]
       exact ⟨rfl, hch.trans hch1⟩
   · go_wp2_with fail
     go_ret
     unfold FourPost
     obtain rfl : k = 4 := by omega
     rw [← HF.out]
     exact ⟨rfl, hst'.r, hch⟩
end Go.Proofs.YtknmbfkpclacgaaGreatDoor

/- The JSON reader's method put: a value goes behind the tree. -/
set_option linter.unusedSimpArgs false
namespace Go.Proofs.YtknmbfkpclacgaaGreatDoor
open Go.RowKit

theorem Tryz.infoValue : (Tryz.prog.info? 47).map (fun i => (i.zero, i.size, i.bytes)) = some (some (.agg #[.int .i64 0, .bool false, .int .i64 0, .string ByteArray.empty, .slice none 0 0, .slice none 0 0]), 6, 88) := by kernel_rfl

/-- A value as it lies in memory: its six cells. -/
structure VC where
  kind : Int
  truth : Bool
  n : Int
  text : ByteArray
  kids : Value
  names : Value
def VC.cells (x : VC) : List Value := [.int .i64 x.kind, .bool x.truth, .int .i64 x.n, .string x.text, x.kids, x.names]
def flat (xs : List VC) : List Value := xs.flatMap VC.cells
theorem flat_snoc (xs : List VC) (x : VC) : flat (xs ++ [x]) = flat xs ++ x.cells := by simp [flat, List.flatMap_append]

/-- What a call of put may turn: the reader's block, the tree's own row. -/
def SP (rb : Nat) (tv : Value) (k : Nat) : Prop := k = rb ∨ some k = tv.ownBlock

theorem heap_two (w : World) (o1 o2 : Obj) : ((w.alloc o1).alloc o2).drew.heap[w.heap.size + 1]? = some o2 := by
  have := heap_alloc_new (w.alloc o1) o2
  rw [World.size_alloc] at this
  exact this
theorem own_lt' {w : World} {base : Nat} {e : TypeId} {size n : Nat} {v : Value} {xs : List Value} (h : w.ownsRow base e size v n xs) (k : Nat) (hk : v.ownBlock = some k) : k < w.heap.size := by
  rcases h.2 with ⟨rfl, _⟩ | ⟨g, cap, cur, rfl, hb, hh, _⟩
  · simp [Value.ownBlock] at hk
  · have : g = k := by simpa [Value.ownBlock] using hk
    subst this
    exact lt_of_block hh
set_option maxRecDepth 100000 in
set_option maxHeartbeats 8000000 in
theorem put_any (rb : Nat) (bv tv : Value) (i dp base n : Nat) (xs : List Value) (x : VC) (hk : x.kids.oneCell' = true) (hn : x.names.oneCell' = true) (w : World) (hr : Rd w rb bv i dp tv)
    (hown : w.ownsRow base 47 6 tv n xs) (hbase : base ≤ w.heap.size) (hlen : n ≤ 1000000000) (hne : tv.ownBlock ≠ some rb) :
    Calls Tryz.prog 109 #[.pointer (some ⟨rb, 0, none⟩), .agg #[.int .i64 x.kind, .bool x.truth, .int .i64 x.n, .string x.text, x.kids, x.names]] w fun e w' =>
      ∃ g cap, e = .returned (.int .i64 n) ∧ Rd w' rb bv i dp (.slice (some ⟨g, 0, none⟩) (n + 1) cap) ∧
        w'.ownsRow base 47 6 (.slice (some ⟨g, 0, none⟩) (n + 1) cap) (n + 1) (xs ++ x.cells) ∧ Chg (SP rb tv) w w' ∧ (tv.ownBlock = some g ∨ w.heap.size ≤ g) := by
  obtain ⟨x0, x1, x2, x3, x4, x5⟩ := x
  obtain ⟨i0, hi0, hz0, hz1, hz2⟩ := info_parts Tryz.infoValue
  have c3 := hr.c3
  have hlt := hr.lt
  have f3 := hr.f 3
  have h1 : ∀ u ∈ [Value.int .i64 x0, .bool x1, .int .i64 x2, .string x3, x4, x5], u.oneCell' = true := by
    intro u hu
    simp only [List.mem_cons, List.not_mem_nil, or_false] at hu
    rcases hu with rfl | rfl | rfl | rfl | rfl | rfl
    · rfl
    · rfl
    · rfl
    · rfl
    · exact hk
    · exact hn
  have H1 := Lib.hid h1
  have HZ := Lib.hid (And.intro hi0 (And.intro hz0 (And.intro hz1 hz2)))
  have HK := Lib.hid (And.intro hk hn)
  have hw0 : some w.heap.size ≠ tv.ownBlock := fun e => by have := own_lt' hown _ e.symm; omega
  have HW := Lib.hid hw0
  clear hw0
  clear h1 hk hn hi0 hz0 hz1 hz2
  go_enter Tryz.func109, Tryz.ntmps109
  go_wp2_with fail
  have f3A : ∀ o1 o2, (((w.alloc o1).alloc o2).drew).frozen? ⟨rb, 3, none⟩ = false := fun o1 o2 => by
    rw [← f3]
    refine World.frozen?_of_block (w := w) ?_
    show ((w.alloc o1).alloc o2).heap[rb]? = _
    rw [Below.heap_alloc _ _ rb (by simp; omega), Below.heap_alloc w _ rb hlt]
  have c3A : ∀ o1 o2, (((w.alloc o1).alloc o2).drew).cell? ⟨rb, 3, none⟩ = some tv := fun o1 o2 => by
    rw [← c3]
    refine World.cell?_of_block (w := w) ?_
    show ((w.alloc o1).alloc o2).heap[rb]? = _
    rw [Below.heap_alloc _ _ rb (by simp; omega), Below.heap_alloc w _ rb hlt]
  have CA := Lib.hid c3A
  clear c3A
  have FA := Lib.hid f3A
  clear f3A
  go_region_law
    ((refine step_append_lies _ (by rfl) _ _ _ (by rfl) base 47 i0 _ 6 88 Tryz.underlying25 HZ.out.1 HZ.out.2.1 HZ.out.2.2.1 HZ.out.2.2.2 rfl (by omega) tv n xs (by rfl) (((hown.alloc _).alloc _).drew)
        ⟨w.heap.size + 1, 0, none⟩ 1 1 [.int .i64 x0, .bool x1, .int .i64 x2, .string x3, x4, x5] (by rfl) (by rfl) (World.news_of_block (cs := #[.int .i64 x0, .bool x1, .int .i64 x2, .string x3, x4, x5]) (t := 47) (fr := (0, 0)) (heap_two w _ _)) H1.out
        (by omega) (by unfold maxLen; omega) (by omega) (by simp; omega) (w.heap.size + 2) (by simp) ?_; intro gg cap w1 hown1 hgrow hat hlt1; have fz1 : w1.frozen? ⟨rb, 3, none⟩ = false := (hgrow.frozen_far ⟨rb, 3, none⟩ (by simp; omega) (Ne.symm hne)).trans (FA.out _ _); have cz1 : w1.cell? ⟨rb, 3, none⟩ = some tv := (hgrow.cell_far ⟨rb, 3, none⟩ (by simp; omega) (Ne.symm hne)).trans (CA.out _ _)))
  all_goals
    have hr1 : Rd w1 rb bv i dp tv := ⟨by
      rw [hgrow.block rb (by simp; omega) (Ne.symm hne)]
      show ((w.alloc _).alloc _).heap[rb]? = _
      rw [Below.heap_alloc _ _ rb (by simp; omega), Below.heap_alloc w _ rb hlt]
      exact hr.h⟩
    have hr2 := hr1.set3 (.slice (some ⟨gg, 0, none⟩) (n + 1) cap)
    have hgr : gg ≠ rb := by
      rintro rfl
      rcases hat with h | h
      · exact hne h
      · omega
    have hown2 := ownsRow_setCell_other hown1 (a := ⟨rb, 3, none⟩) (by simpa [Value.ownBlock] using hgr) (.slice (some ⟨gg, 0, none⟩) (n + 1) cap)
    have hch : Chg (SP rb tv) w (w1.setCell ⟨rb, 3, none⟩ (.slice (some ⟨gg, 0, none⟩) (n + 1) cap)) :=
      ((((Chg.refl _ w).alloc _).alloc _).drew.grown hgrow (fun k _ e => .inr e)).setCell (fun _ => .inl rfl) _
    have hat' : tv.ownBlock = some gg ∨ w.heap.size ≤ gg := hat.imp id (fun h => by omega)
    have d3 := hr2.c3
    have HE := Lib.hid (And.intro hr2 (And.intro hown2 (And.intro hch hat')))
    clear hr2 hown2 hch hat' hat hown1 hgrow hgr fz1 cz1 c3 f3
    go_wp2_with fail
    go_ret
    exact ⟨gg, cap, congrArg Ending.returned (by first | rfl | go_num), HE.out.1, HE.out.2.1, HE.out.2.2.1, HE.out.2.2.2⟩
end Go.Proofs.YtknmbfkpclacgaaGreatDoor

/- The JSON reader's methods escape and number. -/
namespace Go.Proofs.YtknmbfkpclacgaaGreatDoor
open Go.RowKit

/-- The table of letters, as the program's start lays it. -/
structure LetOk (w : World) (B : Nat) : Prop where
  g : 3 < B
  m : ∃ mb es clock, w.cell? ⟨3, 0, none⟩ = some (.map (some mb)) ∧ mb < B ∧ w.heap[mb]? = some (.map es clock) ∧
    ∀ W : World, W.heap[mb]? = some (.map es clock) → ∀ c : UInt8,
      (Instr.lookup 255 (.map (some mb)) (.int .u8 (c.toNat : Int)) true).run Tryz.prog W = .ok (.tuple #[.int .i32 (((letter c).getD 0 : Nat) : Int), .bool (letter c).isSome]) W
theorem LetOk.keep {w w' : World} {B : Nat} (h : LetOk w B) (hb : Below B w w') : LetOk w' B := by
  obtain ⟨hg, mb, es, clock, h1, h2, h3, h4⟩ := h
  exact ⟨hg, mb, es, clock, by rw [← h1]; exact hb.cell (p := ⟨_, 0, none⟩) hg, h2, by rw [← h3]; exact hb.block _ h2, h4⟩
theorem LetOk.chg {w w' : World} {B : Nat} {S : Nat → Prop} (h : LetOk w B) (hc : Chg S w w') (hB : B ≤ w.heap.size) (hS : ∀ k, S k → B ≤ k) : LetOk w' B := h.keep (hc.below hB hS)

def EscPost (l : List UInt8) (i : Nat) (rb : Nat) (bv tv : Value) (dp : Nat) (w : World) (e : Ending) (w' : World) : Prop :=
  match escapeJ l i with
  | .ok (r, j) => e = .returned (.int .i32 r) ∧ Rd w' rb bv j dp tv ∧ Chg (· = rb) w w'
  | .error f => NoEnd f.1 f.2 e ∧ Chg (· = rb) w w'
theorem u8_ne {c : UInt8} {n : Nat} (hn : n < 256) (h : c ≠ UInt8.ofNat n) : ((c.toNat : Int) != (n : Int)) = true := by
  rw [bne_iff_ne]; intro h'; exact h (by apply UInt8.toNat_inj.1; rw [UInt8.toNat_ofNat']; omega)
theorem u8_ne' {c : UInt8} {n : Nat} (hn : n < 256) (h : c = UInt8.ofNat n) : ((c.toNat : Int) != (n : Int)) = false := by
  subst h; rw [UInt8.toNat_ofNat', Nat.mod_eq_of_lt hn]; simp
theorem fourJ_lt (l : List UInt8) (begin : Nat) : ∀ (k i n m : Nat), fourJ l begin k i n = .ok m → m < (n + 1) * 16 ^ k
  | 0, i, n, m, h => by simp [fourJ] at h; subst h; simp
  | k + 1, i, n, m, h => by
    simp only [fourJ, takeJ] at h
    split at h
    · simp at h
    · split at h
      · simp at h
      · rename_i d hd
        have := fourJ_lt l begin k _ _ m h
        have hdl : d < 16 := by
          unfold hexv at hd
          split at hd
          · simp at hd; omega
          · split at hd
            · simp at hd; omega
            · split at hd
              · simp at hd; omega
              · simp at hd
        refine Nat.lt_of_lt_of_le this ?_
        rw [Nat.pow_succ, Nat.mul_comm (16 ^ k) 16, ← Nat.mul_assoc]
        exact Nat.mul_le_mul_right _ (by omega)

set_option maxRecDepth 100000 in
set_option maxHeartbeats 4000000 in
theorem escape_any (rb : Nat) (A : Option Addr) (cap : Nat) (tv : Value) (l : List UInt8) (i dp : Nat) (B : Nat) (w : World) (hst : St w B rb A cap l i dp tv) (hil : i < l.length) (hG : LetOk w B) :
    Calls Tryz.prog 175 #[.pointer (some ⟨rb, 0, none⟩)] w (EscPost l i rb (.slice A l.length cap) tv dp w) := by
  have hln := hst.b.len
  have hrl := hst.r.lt
  have hBr := hst.B
  have c1 := hst.r.c1
  have f1 := hst.r.f 1
  have hstA : St (w.setCell ⟨rb, 1, none⟩ (.int .i64 ((i : Int) + 1))) B rb A cap l (i + 1) dp tv := hst.to (hst.r.set1 (i + 1)) ((Chg.refl _ _).st _ _)
  have hchA : Chg (· = rb) w (w.setCell ⟨rb, 1, none⟩ (.int .i64 ((i : Int) + 1))) := (Chg.refl _ _).st _ _
  have HA := Lib.hid hstA
  have HCA := Lib.hid hchA
  clear hstA hchA
  go_enter Tryz.func175, Tryz.ntmps175
  go_wp2_with fail
  by_cases h1 : i + 1 < l.length
  · refine (take_yes rb A cap tv l (i + 1) dp B _ HA.out.B h1 HA.out.r HA.out.b).mono ?_
    rintro e w1 ⟨rfl, hr1, hch1⟩
    have hch1' : Chg (· = rb) w w1 := HCA.out.trans hch1
    have hst1 : St w1 B rb A cap l (i + 2) dp tv := HA.out.to hr1 hch1
    have hG1 : LetOk w1 B := hG.chg hch1' (by omega) (fun k hk => by omega)
    have hsz1 := hch1'.size
    obtain ⟨hg, mb, es, clock, hm1, hm2, hm3, hm4⟩ := hG1
    have hpr := pk_range l (i + 1)
    have hlk := hm4 w1 hm3 (pk l (i + 1))
    clear hm3 hm4 HA HCA
    cases hL : letter (pk l (i + 1)) with
    | some x =>
      rw [hL] at hlk
      have HL := Lib.hid hL
      clear hL
      simp only [Option.getD_some, Option.isSome_some] at hlk
      go_wp2_with fail
      go_ret
      unfold EscPost escapeJ
      simp only [takeJ, if_pos h1, HL.out]
      exact ⟨rfl, hr1, hch1'⟩
    | none =>
      rw [hL] at hlk
      have HL := Lib.hid hL
      clear hL
      simp only [Option.getD_none, Option.isSome_none] at hlk
      by_cases hu : pk l (i + 1) = 117
      · have tu : (((pk l (i + 1)).toNat : Int) != 117) = false := u8_ne' (n := 117) (by omega) hu
        have HU := Lib.hid hu
        clear hu
        go_wp2_with fail
        refine (four_any rb A cap tv l i (i + 2) dp B _ hst1).mono ?_
        intro e w2 hp
        unfold FourPost at hp
        cases hf : fourJ l i 4 (i + 2) 0 with
        | error f =>
          rw [hf] at hp
          obtain ⟨rfl, hch2⟩ := hp
          refine ⟨rfl, ?_⟩
          unfold EscPost escapeJ
          simp only [takeJ, if_pos h1, HU.out, ne_eq, not_true_eq_false, if_false, hf]
          exact ⟨rfl, hch1'.trans hch2⟩
        | ok n =>
          rw [hf] at hp
          obtain ⟨rfl, hr2, hch2⟩ := hp
          have hn : n < 65536 := by simpa using fourJ_lt _ _ _ _ _ _ hf
          have HF := Lib.hid hf
          clear hf
          have hst2 : St w2 B rb A cap l (i + 6) dp tv := hst1.to hr2 hch2
          have hch2' : Chg (· = rb) w w2 := hch1'.trans hch2
          have HX : Hid (escapeJ l i = if 0xdc00 ≤ n ∧ n ≤ 0xdfff then .error (i, 243)
              else if n < 0xd800 ∨ 0xdbff < n then .ok (n, i + 6)
              else match takeJ l (i + 6) with
                | .error e => .error e
                | .ok c1 => if c1 ≠ 92 then .error (i, 243)
                  else match takeJ l (i + 7) with
                    | .error e => .error e
                    | .ok c2 => if c2 ≠ 117 then .error (i, 243)
                      else match fourJ l i 4 (i + 8) 0 with
                        | .error e => .error e
                        | .ok m => if m < 0xdc00 ∨ 0xdfff < m then .error (i, 243) else .ok (0x10000 + (n - 0xd800) * 1024 + (m - 0xdc00), i + 12)) := by
            unfold escapeJ
            simp only [takeJ, if_pos h1, HU.out, ne_eq, not_true_eq_false, if_false, HF.out]
            exact rfl
          by_cases hd : 0xdc00 ≤ n ∧ n ≤ 0xdfff
          · have hd1 := hd.1
            have hd2 := hd.2
            have HD := Lib.hid hd
            clear hd
            go_wp2_with fail
            refine (no_any _ _ _ _).mono ?_
            rintro e w3 ⟨rfl, rfl⟩
            refine ⟨rfl, ?_⟩
            unfold EscPost
            rw [HX.out, if_pos HD.out]
            exact ⟨rfl, hch2'⟩
          · by_cases hd' : n < 0xd800 ∨ 0xdbff < n
            · have HD := Lib.hid hd
              have HD' := Lib.hid hd'
              clear hd hd'
              have hEnd : EscPost l i rb (.slice A l.length cap) tv dp w (.returned (.int .i32 n)) w2 := by
                unfold EscPost
                rw [HX.out, if_neg HD.out, if_pos HD'.out]
                exact ⟨rfl, hr2, hch2'⟩
              have HE := Lib.hid hEnd
              clear hEnd
              rcases Nat.lt_or_ge n 0xd800 with h8 | h8
              · go_wp2_with fail
                go_ret
                exact HE.out
              · rcases Nat.lt_or_ge n 0xdc00 with h9 | h9
                · have h10 : 0xdbff < n := by have := HD'.out; omega
                  exact absurd h9 (by omega)
                · have h10 : 0xdfff < n := by have := HD.out; omega
                  go_wp2_with fail
                  go_ret
                  exact HE.out
            · have h8 : 0xd800 ≤ n := by omega
              have h9 : n ≤ 0xdbff := by omega
              have HD := Lib.hid hd
              have HD' := Lib.hid hd'
              clear hd hd'
              go_wp2_with fail
              by_cases h6 : i + 6 < l.length
              · refine (take_yes rb A cap tv l (i + 6) dp B _ hst2.B h6 hst2.r hst2.b).mono ?_
                rintro e w3 ⟨rfl, hr3, hch3⟩
                have hst3 : St w3 B rb A cap l (i + 7) dp tv := hst2.to hr3 hch3
                have hch3' : Chg (· = rb) w w3 := hch2'.trans hch3
                have hpr3 := pk_range l (i + 6)
                by_cases hb6 : pk l (i + 6) = 92
                · have tb : (((pk l (i + 6)).toNat : Int) != 92) = false := u8_ne' (n := 92) (by omega) hb6
                  have HB6 := Lib.hid hb6
                  clear hb6
                  go_wp2_with fail
                  by_cases h7 : i + 7 < l.length
                  · refine (take_yes rb A cap tv l (i + 7) dp B _ hst3.B h7 hst3.r hst3.b).mono ?_
                    rintro e w4 ⟨rfl, hr4, hch4⟩
                    have hst4 : St w4 B rb A cap l (i + 8) dp tv := hst3.to hr4 hch4
                    have hch4' : Chg (· = rb) w w4 := hch3'.trans hch4
                    have hpr4 := pk_range l (i + 7)
                    by_cases hb7 : pk l (i + 7) = 117
                    · have tb7 : (((pk l (i + 7)).toNat : Int) != 117) = false := u8_ne' (n := 117) (by omega) hb7
                      have HB7 := Lib.hid hb7
                      clear hb7
                      go_wp2_with fail
                      refine (four_any rb A cap tv l i (i + 8) dp B _ hst4).mono ?_
                      intro e w5 hp
                      unfold FourPost at hp
                      have HX2 : Hid (escapeJ l i = match fourJ l i 4 (i + 8) 0 with
                            | .error e => .error e
                            | .ok m => if m < 0xdc00 ∨ 0xdfff < m then .error (i, 243) else .ok (0x10000 + (n - 0xd800) * 1024 + (m - 0xdc00), i + 12)) := by
                        have := HX.out
                        simp only [if_neg HD.out, if_neg HD'.out, takeJ, if_pos h6, if_pos h7, HB6.out, HB7.out, ne_eq, not_true_eq_false, if_false] at this
                        exact this
                      clear HX
                      cases hf : fourJ l i 4 (i + 8) 0 with
                      | error f =>
                        rw [hf] at hp
                        obtain ⟨rfl, hch5⟩ := hp
                        refine ⟨rfl, ?_⟩
                        unfold EscPost
                        rw [HX2.out, hf]
                        exact ⟨rfl, hch4'.trans hch5⟩
                      | ok m =>
                        rw [hf] at hp
                        obtain ⟨rfl, hr5, hch5⟩ := hp
                        have hm : m < 65536 := by simpa using fourJ_lt _ _ _ _ _ _ hf
                        have HX3 : Hid (escapeJ l i = if m < 0xdc00 ∨ 0xdfff < m then .error (i, 243) else .ok (0x10000 + (n - 0xd800) * 1024 + (m - 0xdc00), i + 12)) := by
                          have := HX2.out
                          rw [hf] at this
                          exact this
                        clear hf HX2
                        have hch5' : Chg (· = rb) w w5 := hch4'.trans hch5
                        rename_i hx2 hx1 hx3 K1 ka1 K0 ka0
                        clear hx1 hx2 hx3
                        rcases Nat.lt_or_ge m 0xdc00 with h8 | h8
                        · go_wp2_with fail
                          refine (no_any _ _ _ _).mono ?_
                          rintro e w6 ⟨rfl, rfl⟩
                          refine ⟨rfl, ?_⟩
                          unfold EscPost
                          rw [HX3.out, if_pos (.inl h8)]
                          exact ⟨rfl, hch5'⟩
                        · rcases Nat.lt_or_ge 0xdfff m with h9 | h9
                          · go_wp2_with fail
                            refine (no_any _ _ _ _).mono ?_
                            rintro e w6 ⟨rfl, rfl⟩
                            refine ⟨rfl, ?_⟩
                            unfold EscPost
                            rw [HX3.out, if_pos (.inr h9)]
                            exact ⟨rfl, hch5'⟩
                          · go_wp2_with fail
                            go_ret
                            unfold EscPost
                            rw [HX3.out, if_neg (by omega)]
                            exact ⟨congrArg Ending.returned (int_i32 (by omega)), hr5, hch5'⟩
                    · have tb7 : (((pk l (i + 7)).toNat : Int) != 117) = true := u8_ne (n := 117) (by omega) hb7
                      have HB7 := Lib.hid hb7
                      clear hb7
                      go_wp2_with fail
                      refine (no_any _ _ _ _).mono ?_
                      rintro e w6 ⟨rfl, rfl⟩
                      refine ⟨rfl, ?_⟩
                      unfold EscPost
                      rw [HX.out, if_neg HD.out, if_neg HD'.out]
                      simp only [takeJ, if_pos h6, if_pos h7, HB6.out, HB7.out, ne_eq, not_true_eq_false, not_false_eq_true, if_false, if_true]
                      exact ⟨rfl, hch4'⟩
                  · refine (take_no rb A cap tv l (i + 7) dp B _ h7 hst3.r hst3.b).mono ?_
                    rintro e w4 ⟨rfl, hch4⟩
                    refine ⟨rfl, ?_⟩
                    unfold EscPost
                    rw [HX.out, if_neg HD.out, if_neg HD'.out]
                    simp only [takeJ, if_pos h6, if_neg h7, HB6.out, ne_eq, not_true_eq_false, if_false]
                    exact ⟨rfl, hch3'.trans hch4⟩
                · have tb : (((pk l (i + 6)).toNat : Int) != 92) = true := u8_ne (n := 92) (by omega) hb6
                  have HB6 := Lib.hid hb6
                  clear hb6
                  go_wp2_with fail
                  refine (no_any _ _ _ _).mono ?_
                  rintro e w6 ⟨rfl, rfl⟩
                  refine ⟨rfl, ?_⟩
                  unfold EscPost
                  rw [HX.out, if_neg HD.out, if_neg HD'.out]
                  simp only [takeJ, if_pos h6, HB6.out, ne_eq, not_false_eq_true, if_true]
                  exact ⟨rfl, hch3'⟩
              · refine (take_no rb A cap tv l (i + 6) dp B _ h6 hst2.r hst2.b).mono ?_
                rintro e w3 ⟨rfl, hch3⟩
                refine ⟨rfl, ?_⟩
                unfold EscPost
                rw [HX.out, if_neg HD.out, if_neg HD'.out]
                simp only [takeJ, if_neg h6]
                exact ⟨rfl, hch2'.trans hch3⟩
      · have tu : (((pk l (i + 1)).toNat : Int) != 117) = true := u8_ne (n := 117) (by omega) hu
        have HU := Lib.hid hu
        clear hu
        go_wp2_with fail
        refine (no_any _ _ _ _).mono ?_
        rintro e w2 ⟨rfl, rfl⟩
        refine ⟨rfl, ?_⟩
        unfold EscPost escapeJ
        simp only [takeJ, if_pos h1, HL.out, HU.out, ne_eq, not_false_eq_true, if_true]
        exact ⟨rfl, hch1'⟩
  · refine (take_no rb A cap tv l (i + 1) dp B _ h1 HA.out.r HA.out.b).mono ?_
    rintro e w1 ⟨rfl, hch1⟩
    refine ⟨rfl, ?_⟩
    unfold EscPost escapeJ
    simp only [takeJ, if_neg h1]
    exact ⟨rfl, HCA.out.trans hch1⟩
end Go.Proofs.YtknmbfkpclacgaaGreatDoor
