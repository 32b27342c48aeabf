import Derived.Test.YtknmbfkpclacgaaGreatDoorMPaVb
/- The document's reader: unit, encoded, long, escape. -/
set_option linter.unusedSimpArgs false
namespace Go.Proofs.YtknmbfkpclacgaaGreatDoor
open Go.RowKit

set_option maxRecDepth 100000 in
set_option maxHeartbeats 4000000 in
theorem unit_any_r (rb : Nat) (A : Option Addr) (cap : Nat) (l : List UInt8) (i p : Nat) (fa er : Int) (tv : Value) (B : Nat) (w : World) (hst : RS w B rb A cap l i fa er tv) (hp : p ≤ 1000000000000) :
    Calls Tryz.prog 277 #[.pointer (some ⟨rb, 0, none⟩), .int .i64 p] w fun e w' => e = .returned (.int .i64 (unitR l 4 p 0)) ∧ w' = w := by
  have HST := Lib.hid hst
  clear hst
  obtain ⟨R, hR⟩ : ∃ R, R = unitR l 4 p 0 := ⟨_, rfl⟩
  rw [← hR]
  have HR0 := Lib.hid hR
  clear hR
  go_enter Tryz.func277, Tryz.ntmps277
  go_wp2_with fail
  go_loopg [5, 6] 5 (fun g vn vk wr => ∃ k n : Nat, vk = .int .i64 k ∧ vn = .int .i64 n ∧ k ≤ 4 ∧ n < 16 ^ k ∧ unitR l (4 - k) (p + k) n = R ∧ wr = w ∧ 5 - k = g)
  case atStart => exact ⟨0, 0, rfl, rfl, by omega, by omega, HR0.out.symm, rfl, rfl⟩
  case round =>
    obtain ⟨k, n, rfl, rfl, hk, hn, hu, rfl, hg⟩ := hrel
    have HU := Lib.hid hu
    have HG := Lib.hid hg
    clear hu hg
    by_cases hk4 : k < 4
    · have hn2 : n < 4096 := Nat.lt_of_lt_of_le hn (Nat.pow_le_pow_right (n := 16) (by omega) (show k ≤ 3 by omega))
      have hnib := nib_any rb A cap l i (p + k) fa er tv B wr HST.out
      have hnr := nibR_range l (p + k)
      have hu := HU.out
      rw [show 4 - k = (3 - k) + 1 by omega, unitR] at hu
      rw [show ((p + k : Nat) : Int) = (p : Int) + (k : Int) by omega] at hnib
      generalize nibR l (p + k) = d at *
      have HU2 := Lib.hid hu
      have HN := Lib.hid hn
      clear hu hn
      go_wp2_with fail
      refine hnib.mono ?_
      rintro e w1 ⟨rfl, rfl⟩
      clear hnib
      by_cases hd : d < 0
      · have hu := HU2.out
        rw [if_pos hd] at hu
        have HE := Lib.hid hu
        clear hu
        go_wp2_with fail
        go_ret
        exact ⟨by rw [← HE.out]; rfl, rfl⟩
      · have hu := HU2.out
        rw [if_neg hd] at hu
        have HE := Lib.hid hu
        clear hu
        go_wp2_with fail
        go_roundg (5 - (k + 1))
        case measure => rw [← HG.out]; omega
        case rel => exact ⟨k + 1, 16 * n + d.toNat, by go_num, int_i64 (by omega), by omega, by rw [Nat.pow_succ]; have := HN.out; omega, by rw [← HE.out, show 4 - (k + 1) = 3 - k by omega]; rfl, rfl, rfl⟩
    · have hu := HU.out
      rw [show 4 - k = 0 by omega, unitR] at hu
      have HE := Lib.hid hu
      clear hu
      go_wp2_with fail
      go_ret
      exact ⟨by rw [← HE.out]; rfl, rfl⟩

/-- bytes in a block of their own -/
def NewB (w : World) (l : List UInt8) (e : Ending) (w' : World) : Prop :=
  ∃ b c, e = .returned (.slice (some ⟨b, 0, none⟩) l.length c) ∧ w'.heap[b]? = some (.cells (Lib.byteCells l).toArray 5 (0, 0)) ∧ Chg (fun _ => False) w w' ∧ w.heap.size ≤ b
theorem u8_val {x : Int} {n : Nat} (h : x = (n : Int)) (hn : n < 256) : Value.int .u8 x = .int .u8 ((UInt8.ofNat n).toNat : Int) := by
  rw [h, UInt8.toNat_ofNat', Nat.mod_eq_of_lt hn]
theorem cells2 {x y : Int} {a b : Nat} {t : TypeId} (hx : x = a) (hy : y = b) (ha : a < 256) (hb : b < 256) : some (Obj.cells #[.int .u8 x, .int .u8 y] t (0, 0)) = some (.cells (Lib.byteCells [UInt8.ofNat a, UInt8.ofNat b]).toArray t (0, 0)) := by
  simp only [Lib.byteCells, List.map_cons, List.map_nil]
  rw [u8_val hx ha, u8_val hy hb]
theorem cells3 {x y z : Int} {a b c : Nat} {t : TypeId} (hx : x = a) (hy : y = b) (hz : z = c) (ha : a < 256) (hb : b < 256) (hc : c < 256) : some (Obj.cells #[.int .u8 x, .int .u8 y, .int .u8 z] t (0, 0)) = some (.cells (Lib.byteCells [UInt8.ofNat a, UInt8.ofNat b, UInt8.ofNat c]).toArray t (0, 0)) := by
  simp only [Lib.byteCells, List.map_cons, List.map_nil]
  rw [u8_val hx ha, u8_val hy hb, u8_val hz hc]
theorem cells4 {x y z u : Int} {a b c d : Nat} {t : TypeId} (hx : x = a) (hy : y = b) (hz : z = c) (hu : u = d) (ha : a < 256) (hb : b < 256) (hc : c < 256) (hd : d < 256) : some (Obj.cells #[.int .u8 x, .int .u8 y, .int .u8 z, .int .u8 u] t (0, 0)) = some (.cells (Lib.byteCells [UInt8.ofNat a, UInt8.ofNat b, UInt8.ofNat c, UInt8.ofNat d]).toArray t (0, 0)) := by
  simp only [Lib.byteCells, List.map_cons, List.map_nil]
  rw [u8_val hx ha, u8_val hy hb, u8_val hz hc, u8_val hu hd]
set_option maxRecDepth 100000 in
set_option maxHeartbeats 4000000 in
theorem encoded_any (r : Nat) (hr : r ≤ 1114111) (w : World) :
    Calls Tryz.prog 279 #[.int .i64 r] w (NewB w (encN r)) := by
  have hch : ∀ o, Chg (fun _ => False) w (w.alloc o) := fun o => (Chg.refl _ w).alloc o
  have HCH := Lib.hid hch
  clear hch
  obtain ⟨x, hx⟩ : ∃ x : Int, x = r := ⟨_, rfl⟩
  rw [← hx]
  go_enter Tryz.func279, Tryz.ntmps279
  rcases Nat.lt_or_ge r 0x80 with h1 | h1
  · have he : encN r = [UInt8.ofNat r] := by unfold encN; rw [if_pos h1]
    rw [he]
    have x0 : 0 ≤ x := by omega
    have x1 : x < 128 := by omega
    have HX := Lib.hid (And.intro hx h1)
    clear he h1 hx hr
    go_wp2_with fail
    go_ret
    refine ⟨_, _, rfl, ?_, HCH.out _, Nat.le_refl _⟩
    rw [heap_alloc_new]
    simp only [Lib.byteCells, List.map_cons, List.map_nil]
    have := HX.out.2
    rw [u8_val HX.out.1 (by omega)]
  · rcases Nat.lt_or_ge r 0x800 with h2 | h2
    · have he : encN r = [UInt8.ofNat (0xC0 + r / 64), UInt8.ofNat (0x80 + r % 64)] := by unfold encN; rw [if_neg (by omega), if_pos h2]
      rw [he]
      have x0 : 128 ≤ x := by omega
      have x1 : x < 2048 := by omega
      have HX := Lib.hid (And.intro hx h2)
      clear he h1 h2 hx hr
      have hw : IntKind.u8.wrap (192 + x / 64) = 192 + x / 64 := by apply IntWalk.u8_in; omega
      have hw2 : IntKind.u8.wrap (128 + x % 64) = 128 + x % 64 := by apply IntWalk.u8_in; omega
      go_wp2_with fail
      go_ret
      refine ⟨_, _, rfl, ?_, HCH.out _, Nat.le_refl _⟩
      rw [heap_alloc_new]
      have hx := HX.out.1
      exact cells2 (by omega) (by omega) (by omega) (by omega)
    · rcases Nat.lt_or_ge r 0x10000 with h3 | h3
      · have he : encN r = [UInt8.ofNat (0xE0 + r / 4096), UInt8.ofNat (0x80 + r / 64 % 64), UInt8.ofNat (0x80 + r % 64)] := by unfold encN; rw [if_neg (by omega), if_neg (by omega), if_pos h3]
        rw [he]
        have x0 : 2048 ≤ x := by omega
        have x1 : x < 65536 := by omega
        have HX := Lib.hid (And.intro hx h3)
        clear he h1 h2 h3 hx hr
        have hw : IntKind.u8.wrap (224 + x / 4096) = 224 + x / 4096 := by apply IntWalk.u8_in; omega
        have hw1 : IntKind.u8.wrap (128 + x / 64 % 64) = 128 + x / 64 % 64 := by apply IntWalk.u8_in; omega
        have hw2 : IntKind.u8.wrap (128 + x % 64) = 128 + x % 64 := by apply IntWalk.u8_in; omega
        go_wp2_with fail
        go_ret
        refine ⟨_, _, rfl, ?_, HCH.out _, Nat.le_refl _⟩
        rw [heap_alloc_new]
        have hx := HX.out.1
        exact cells3 (by omega) (by omega) (by omega) (by omega) (by omega) (by omega)
      · have he : encN r = [UInt8.ofNat (0xF0 + r / 262144), UInt8.ofNat (0x80 + r / 4096 % 64), UInt8.ofNat (0x80 + r / 64 % 64), UInt8.ofNat (0x80 + r % 64)] := by unfold encN; rw [if_neg (by omega), if_neg (by omega), if_neg (by omega)]
        rw [he]
        have x0 : 65536 ≤ x := by omega
        have x1 : x ≤ 1114111 := by omega
        have HX := Lib.hid (And.intro hx hr)
        clear he h1 h2 h3 hx hr
        have hw : IntKind.u8.wrap (240 + x / 262144) = 240 + x / 262144 := by apply IntWalk.u8_in; omega
        have hw0 : IntKind.u8.wrap (128 + x / 4096 % 64) = 128 + x / 4096 % 64 := by apply IntWalk.u8_in; omega
        have hw1 : IntKind.u8.wrap (128 + x / 64 % 64) = 128 + x / 64 % 64 := by apply IntWalk.u8_in; omega
        have hw2 : IntKind.u8.wrap (128 + x % 64) = 128 + x % 64 := by apply IntWalk.u8_in; omega
        go_wp2_with fail
        go_ret
        refine ⟨_, _, rfl, ?_, HCH.out _, Nat.le_refl _⟩
        rw [heap_alloc_new]
        have hx := HX.out.1
        have hr := HX.out.2
        exact cells4 (by omega) (by omega) (by omega) (by omega) (by omega) (by omega) (by omega) (by omega)

/-- What escape and long do. -/
def EscR (l : List UInt8) (i : Nat) (rb : Nat) (bv tv : Value) (w : World) (e : Ending) (w' : World) : Prop :=
  match escapeJ l i with
  | .ok (r, j) => ∃ b c, e = .returned (.slice (some ⟨b, 0, none⟩) (encN r).length c) ∧ w'.heap[b]? = some (.cells (Lib.byteCells (encN r)).toArray 5 (0, 0)) ∧ w.heap.size ≤ b ∧ RR w' rb bv j (-1) 0 tv ∧ Chg (· = rb) w w'
  | .error f => e = .returned (.slice none 0 0) ∧ Chg (· = rb) w w' ∧ ∃ a, a ≤ l.length ∧ RR w' rb bv a f.1 f.2 tv
theorem EscR.err {l : List UInt8} {i a : Nat} {rb : Nat} {bv tv : Value} {w w' : World} {f : Flt} {fa er : Int} (h : escapeJ l i = .error f) (ha : a ≤ l.length) (hr : RR w' rb bv a fa er tv) (h1 : fa = f.1) (h2 : er = f.2) (hc : Chg (· = rb) w w') :
    EscR l i rb bv tv w (.returned (.slice none 0 0)) w' := by
  unfold EscR
  rw [h]
  subst h1 h2
  exact ⟨rfl, hc, a, ha, hr⟩
theorem RS.rr {w w' : World} {B rb : Nat} {A : Option Addr} {cap : Nat} {l : List UInt8} {i i' : Nat} {fa er fa' er' : Int} {tv tv' : Value} (h : RS w B rb A cap l i fa er tv) (hr : RR w' rb (.slice A l.length cap) i' fa' er' tv') (hc : Chg (· = rb) w w') : RS w' B rb A cap l i' fa' er' tv' := h.to hr hc
/-- long's part of an escape, behind the letter u -/
def longJ (l : List UInt8) (i : Nat) : Except Flt (Nat × Nat) :=
  match fourJ l i 4 (i + 2) 0 with
  | .error e => .error e
  | .ok n =>
    if 0xdc00 ≤ n ∧ n ≤ 0xdfff then .error (i, 243)
    else if n < 0xd800 ∨ 0xdbff < n then .ok (n, i + 6)
    else match takeJ l (i + 6) with
      | .error e => .error e
      | .ok c1 => if c1 ≠ 92 then .error (i, 243)
        else match takeJ l (i + 7) with
          | .error e => .error e
          | .ok c2 => if c2 ≠ 117 then .error (i, 243)
            else match fourJ l i 4 (i + 8) 0 with
              | .error e => .error e
              | .ok m => if m < 0xdc00 ∨ 0xdfff < m then .error (i, 243) else .ok (0x10000 + (n - 0xd800) * 1024 + (m - 0xdc00), i + 12)
theorem escapeJ_long {l : List UInt8} {i : Nat} (h1 : i + 1 < l.length) (hu : pk l (i + 1) = 117) : escapeJ l i = longJ l i := by
  unfold escapeJ longJ
  simp only [takeJ, if_pos h1, hu, letter]
  rfl
set_option maxRecDepth 100000 in
set_option maxHeartbeats 8000000 in
theorem long_r (rb : Nat) (A : Option Addr) (cap : Nat) (l : List UInt8) (i : Nat) (tv : Value) (B : Nat) (w : World) (hst : RS w B rb A cap l i (-1) 0 tv) (hi : i + 1 < l.length) (hL : l.length ≤ 268435456) (he : escapeJ l i = longJ l i) :
    Calls Tryz.prog 247 #[.pointer (some ⟨rb, 0, none⟩)] w (EscR l i rb (.slice A l.length cap) tv w) := by
  have c1 := hst.r.c1
  have f1 := hst.r.f 1
  have hu := unit_any_r rb A cap l i (i + 2) (-1) 0 tv B w hst (by omega)
  have hur := unitR_range l 4 (i + 2) 0
  have hf := unitR_four l i 4 (i + 2) 0
  rw [show ((i + 2 : Nat) : Int) = (i : Int) + 2 by omega] at hu
  generalize unitR l 4 (i + 2) 0 = n at *
  have HST := Lib.hid hst
  have HF := Lib.hid hf
  have HE := Lib.hid he
  have hur2 : n < 65536 := by have := hur.2; omega
  have hur1 := hur.1
  clear hst hf he hur
  go_enter Tryz.func247, Tryz.ntmps247
  go_wp2_with fail
  refine hu.mono ?_
  rintro e w1 ⟨rfl, rfl⟩
  clear hu
  by_cases hn : n < 0
  · -- no number
    have hbad := bad_any rb A cap l i i n tv B w1 HST.out
    have hx : escapeJ l i = .error (if n = -2 then (l.length, 240) else (i, 243)) := by
      rw [HE.out]
      unfold longJ
      rw [HF.out]
      by_cases h2 : n = -2
      · rw [if_pos h2, if_pos h2]
      · rw [if_neg h2, if_neg h2, if_pos hn]
    have HX := Lib.hid hx
    have HB := Lib.hid hbad
    clear hx hbad
    go_wp2_with fail
    refine HB.out.mono ?_
    rintro e w2 ⟨rfl, hr, hc⟩
    have HR := Lib.hid (And.intro hr hc)
    clear hr hc
    go_wp2_with fail
    go_ret
    refine EscR.err HX.out (by omega) HR.out.1 ?_ ?_ HR.out.2
    · split <;> rfl
    · split <;> rfl
  · have hok : fourJ l i 4 (i + 2) 0 = .ok n.toNat := by
      rw [HF.out, if_neg (by omega), if_neg hn]
    have hi6 : i + 6 ≤ l.length := fourJ_len l i 4 (i + 2) 0 _ hok (by omega)
    have hJ : escapeJ l i = if 0xdc00 ≤ n ∧ n ≤ 0xdfff then .error (i, 243)
        else if n < 0xd800 ∨ 0xdbff < n then .ok (n.toNat, i + 6)
        else match takeJ l (i + 6) with
          | .error e => .error e
          | .ok c1 => if c1 ≠ 92 then .error (i, 243)
            else match takeJ l (i + 7) with
              | .error e => .error e
              | .ok c2 => if c2 ≠ 117 then .error (i, 243)
                else match fourJ l i 4 (i + 8) 0 with
                  | .error e => .error e
                  | .ok m => if m < 0xdc00 ∨ 0xdfff < m then .error (i, 243) else .ok (0x10000 + (n.toNat - 0xd800) * 1024 + (m - 0xdc00), i + 12) := by
      rw [HE.out]
      unfold longJ
      rw [hok]
      have e1 : (0xdc00 ≤ n.toNat ∧ n.toNat ≤ 0xdfff) ↔ (0xdc00 ≤ n ∧ n ≤ 0xdfff) := by omega
      have e2 : (n.toNat < 0xd800 ∨ 0xdbff < n.toNat) ↔ (n < 0xd800 ∨ 0xdbff < n) := by omega
      simp only [e1, e2]
    have hst6 : RS (w1.setCell ⟨rb, 1, none⟩ (.int .i64 ((i : Int) + 6))) B rb A cap l (i + 6) (-1) 0 tv := HST.out.to (HST.out.r.set1 (i + 6)) ((Chg.refl _ _).st _ _)
    have hch6 : Chg (· = rb) w1 (w1.setCell ⟨rb, 1, none⟩ (.int .i64 ((i : Int) + 6))) := (Chg.refl _ _).st _ _
    have HJ := Lib.hid hJ
    have H6 := Lib.hid (And.intro hst6 hch6)
    have HI6 := Lib.hid hi6
    have n0 : 0 ≤ n := by omega
    clear hJ hst6 hch6 hok hn
    by_cases hA : n < 0xd800 ∨ 0xdfff < n
    · have hx : escapeJ l i = .ok (n.toNat, i + 6) := by rw [HJ.out, if_neg (by omega), if_pos (by omega)]
      have henc := encoded_any n.toNat (by omega) (w1.setCell ⟨rb, 1, none⟩ (.int .i64 ((i : Int) + 6)))
      rw [show ((n.toNat : Nat) : Int) = n by omega] at henc
      have HX := Lib.hid hx
      have HEN := Lib.hid henc
      have hend : ∀ e w', NewB (w1.setCell ⟨rb, 1, none⟩ (.int .i64 ((i : Int) + 6))) (encN n.toNat) e w' → EscR l i rb (.slice A l.length cap) tv w1 e w' := by
        rintro e w' ⟨b, c, rfl, h1, h2, h3⟩
        unfold EscR
        rw [HX.out]
        exact ⟨b, c, rfl, h1, by simpa [World.setCell] using h3, H6.out.1.r.keep h2 id, H6.out.2.trans (h2.mono fun _ _ h => h.elim)⟩
      have HEND := Lib.hid hend
      have hno := fun e w' (h : NewB (w1.setCell ⟨rb, 1, none⟩ (.int .i64 ((i : Int) + 6))) (encN n.toNat) e w') => h
      clear hx henc hend hno
      rcases hA with hA | hA
      · go_wp2_with fail
        refine HEN.out.mono ?_
        intro e w2 hN
        obtain ⟨b, c, rfl, hN2⟩ := hN
        have HN2 := Lib.hid (HEND.out _ w2 ⟨b, c, rfl, hN2⟩)
        clear hN2
        go_wp2_with fail
        go_ret
        exact HN2.out
      · have hA2 : ¬ n < 0xd800 := by omega
        go_wp2_with fail
        refine HEN.out.mono ?_
        intro e w2 hN
        obtain ⟨b, c, rfl, hN2⟩ := hN
        have HN2 := Lib.hid (HEND.out _ w2 ⟨b, c, rfl, hN2⟩)
        clear hN2
        go_wp2_with fail
        go_ret
        exact HN2.out
    have hA1 : 0xd800 ≤ n := by omega
    have hA2 : n ≤ 0xdfff := by omega
    clear hA
    have hbad := fun a => bad_any rb A cap l (i + 6) i a tv B _ H6.out.1
    have HB := Lib.hid hbad
    clear hbad
    have hbx : ∀ (a : Int) (f : Flt), escapeJ l i = .error f → ((if a = -2 then (l.length : Int) else i) = f.1 ∧ (if a = -2 then (240 : Int) else 243) = f.2) →
        ∀ w', RR w' rb (.slice A l.length cap) (i + 6) (if a = -2 then (l.length : Int) else i) (if a = -2 then 240 else 243) tv → Chg (· = rb) (w1.setCell ⟨rb, 1, none⟩ (.int .i64 ((i : Int) + 6))) w' → EscR l i rb (.slice A l.length cap) tv w1 (.returned (.slice none 0 0)) w' := by
      intro a f h1 h2 w' h3 h4
      exact EscR.err h1 HI6.out h3 h2.1 h2.2 (H6.out.2.trans h4)
    have HBX := Lib.hid hbx
    clear hbx
    by_cases hB : 0xdc00 ≤ n
    · have hx : escapeJ l i = .error (i, 243) := by rw [HJ.out, if_pos ⟨hB, hA2⟩]
      have HX := Lib.hid hx
      clear hx
      go_wp2_with fail
      refine (HB.out _).mono ?_
      rintro e w2 ⟨rfl, hr, hc⟩
      have HR := Lib.hid (HBX.out (-1) _ HX.out (by simp) w2 hr hc)
      clear hr hc
      go_wp2_with fail
      go_ret
      exact HR.out
    have hJ := HJ.out
    rw [if_neg (by omega), if_neg (by omega)] at hJ
    have HJ2 := Lib.hid hJ
    have hB2 : n < 0xdc00 := by omega
    clear hJ HJ hB
    have hhere := here_any rb A cap l (i + 6) (-1) 0 tv B _ H6.out.1.r H6.out.1.b
    have hh6 : atI l (i + 6) = if i + 6 < l.length then ((pk l (i + 6)).toNat : Int) else -1 := rfl
    have hpr6 := pk_range l (i + 6)
    have HH := Lib.hid hhere
    clear hhere
    by_cases h6 : i + 6 < l.length
    · rw [if_pos h6] at hh6
      have hJ := HJ2.out
      simp only [takeJ, if_pos h6] at hJ
      have HJ3 := Lib.hid hJ
      rw [hh6] at HH
      clear hJ hh6
      have t0 : (((pk l (i + 6)).toNat : Int) == -1) = false := by rw [beq_eq_false_iff_ne]; omega
      go_wp2_with fail
      refine HH.out.mono ?_
      rintro e w2 ⟨rfl, hd⟩
      have hst2 := H6.out.1.drawn hd
      have hch2 : Chg (· = rb) w1 w2 := H6.out.2.trans hd.chg
      have hhere2 := here_any rb A cap l (i + 6) (-1) 0 tv B w2 hst2.r hst2.b
      rw [show atI l (i + 6) = ((pk l (i + 6)).toNat : Int) from if_pos h6] at hhere2
      have HH2 := Lib.hid hhere2
      have HS2 := Lib.hid (And.intro hst2 hch2)
      clear hhere2 hst2 hch2 hd HH
      by_cases h92 : pk l (i + 6) = 92
      case neg =>
        have t92 : (((pk l (i + 6)).toNat : Int) != 92) = true := ne_test (b := 92) h92
        have hx : escapeJ l i = .error (i, 243) := by rw [HJ3.out, if_pos h92]
        have HX := Lib.hid hx
        clear hx h92
        go_wp2_with fail
        refine HH2.out.mono ?_
        rintro e w3 ⟨rfl, hd⟩
        have hbad2 := bad_any rb A cap l (i + 6) i (-1) tv B w3 (HS2.out.1.drawn hd)
        have HB2 := Lib.hid hbad2
        have hcd : Chg (· = rb) w1 w3 := HS2.out.2.trans hd.chg
        have HCD := Lib.hid hcd
        clear hbad2 hcd hd
        go_wp2_with fail
        refine HB2.out.mono ?_
        rintro e w4 ⟨rfl, hr, hc⟩
        have HR := Lib.hid (EscR.err HX.out HI6.out (fa := (i : Int)) (er := 243) (by simpa using hr) rfl rfl (HCD.out.trans hc))
        clear hr hc
        go_wp2_with fail
        go_ret
        exact HR.out
      case pos =>
        have t92 : (((pk l (i + 6)).toNat : Int) != 92) = false := by rw [h92]; rfl
        have hJ := HJ3.out
        rw [if_neg (fun h => h h92)] at hJ
        have HJ4 := Lib.hid hJ
        clear hJ h92
        go_wp2_with fail
        refine HH2.out.mono ?_
        rintro e w3 ⟨rfl, hd⟩
        have hst3 := HS2.out.1.drawn hd
        have hch3 : Chg (· = rb) w1 w3 := HS2.out.2.trans hd.chg
        have hbad := fun a => bad_any rb A cap l (i + 6) i a tv B w3 hst3
        have d0 := hst3.r.c0
        have hln := hst3.b.len
        have HB3 := Lib.hid hbad
        have HS3 := Lib.hid (And.intro hst3 hch3)
        clear hbad hst3 hch3 hd
        by_cases h7 : i + 7 < l.length
        case neg =>
          have hx : escapeJ l i = .error (l.length, 240) := by
            rw [HJ4.out]
            simp only [if_neg h7]
          have HX := Lib.hid hx
          clear hx
          go_wp2_with fail
          refine (HB3.out _).mono ?_
          rintro e w4 ⟨rfl, hr, hc⟩
          have HR := Lib.hid (EscR.err HX.out HI6.out (fa := (l.length : Int)) (er := 240) (by simpa using hr) rfl rfl (HS3.out.2.trans hc))
          clear hr hc
          go_wp2_with fail
          go_ret
          exact HR.out
        case pos =>
          have hJ := HJ4.out
          simp only [if_pos h7] at hJ
          have HJ5 := Lib.hid hJ
          obtain ⟨b, o, rfl, hne, hcb⟩ := HS3.out.1.b.cells (by omega)
          have c7 := hcb (i + 7) h7
          rw [show o + (i + 7) = o + (i + 7) from rfl] at c7
          have hpr7 := pk_range l (i + 7)
          clear hJ hcb
          by_cases h117 : pk l (i + 7) = 117
          case neg =>
            have t117 : (((pk l (i + 7)).toNat : Int) != 117) = true := ne_test (b := 117) h117
            have hx : escapeJ l i = .error (i, 243) := by rw [HJ5.out, if_pos h117]
            have HX := Lib.hid hx
            clear hx h117
            go_wp2_with fail
            refine (HB3.out _).mono ?_
            rintro e w4 ⟨rfl, hr, hc⟩
            have HR := Lib.hid (EscR.err HX.out HI6.out (fa := (i : Int)) (er := 243) (by simpa using hr) rfl rfl (HS3.out.2.trans hc))
            clear hr hc
            go_wp2_with fail
            go_ret
            exact HR.out
          case pos =>
            have t117 : (((pk l (i + 7)).toNat : Int) != 117) = false := by rw [h117]; rfl
            have hJ := HJ5.out
            rw [if_neg (fun h => h h117)] at hJ
            have hu := unit_any_r rb _ cap l (i + 6) (i + 8) (-1) 0 tv B w3 HS3.out.1 (by omega)
            have hur := unitR_range l 4 (i + 8) 0
            have hf := unitR_four l i 4 (i + 8) 0
            rw [show ((i + 8 : Nat) : Int) = (i : Int) + 8 by omega] at hu
            rw [hf] at hJ
            have hfl := fun m h => fourJ_len l i 4 (i + 8) 0 m h (by omega)
            rw [hf] at hfl
            generalize unitR l 4 (i + 8) 0 = m at *
            have m1 := hur.1
            have m2 : m < 65536 := by have := hur.2; omega
            have HJ6 := Lib.hid hJ
            have HFL := Lib.hid hfl
            have HU := Lib.hid hu
            clear hJ hu hur hf h117 hfl
            go_wp2_with fail
            refine HU.out.mono ?_
            rintro e w4 ⟨rfl, rfl⟩
            by_cases hm : m < 0xdc00 ∨ 0xdfff < m
            · have hx : escapeJ l i = .error (if m = -2 then (l.length, 240) else (i, 243)) := by
                rw [HJ6.out]
                by_cases h2 : m = -2
                · rw [if_pos h2, if_pos h2]
                · rw [if_neg h2, if_neg h2]
                  by_cases h3 : m < 0
                  · rw [if_pos h3]
                  · rw [if_neg h3]
                    simp only
                    rw [if_pos (by omega)]
              have HX := Lib.hid hx
              clear hx
              by_cases h2 : m = -2
              · subst h2
                have hx := HX.out
                rw [if_pos rfl] at hx
                have HX2 := Lib.hid hx
                clear hx hm
                go_wp2_with fail
                refine (HB3.out _).mono ?_
                rintro e w5 ⟨rfl, hr, hc⟩
                have HR := Lib.hid (EscR.err HX2.out HI6.out (fa := (l.length : Int)) (er := 240) (by simpa using hr) rfl rfl (HS3.out.2.trans hc))
                clear hr hc
                go_wp2_with fail
                go_ret
                exact HR.out
              · have t2 : (m != -2) = true := by rw [bne_iff_ne]; exact h2
                have hx := HX.out
                rw [if_neg h2] at hx
                have HX2 := Lib.hid hx
                clear hx h2
                rcases hm with hm | hm
                · go_wp2_with fail
                  refine (HB3.out _).mono ?_
                  rintro e w5 ⟨rfl, hr, hc⟩
                  have HR := Lib.hid (EscR.err HX2.out HI6.out (fa := (i : Int)) (er := 243) (by simpa using hr) rfl rfl (HS3.out.2.trans hc))
                  clear hr hc
                  go_wp2_with fail
                  go_ret
                  exact HR.out
                · have hm2 : ¬ m < 56320 := by omega
                  go_wp2_with fail
                  refine (HB3.out _).mono ?_
                  rintro e w5 ⟨rfl, hr, hc⟩
                  have HR := Lib.hid (EscR.err HX2.out HI6.out (fa := (i : Int)) (er := 243) (by simpa using hr) rfl rfl (HS3.out.2.trans hc))
                  clear hr hc
                  go_wp2_with fail
                  go_ret
                  exact HR.out
            · have hm1 : 0xdc00 ≤ m := by omega
              have hm2 : m ≤ 0xdfff := by omega
              have hx : escapeJ l i = .ok (0x10000 + (n.toNat - 0xd800) * 1024 + (m.toNat - 0xdc00), i + 12) := by
                rw [HJ6.out, if_neg (by omega), if_neg (by omega)]
                simp only
                rw [if_neg (by omega)]
              have h12 : i + 12 ≤ l.length := HFL.out m.toNat (by rw [if_neg (by omega), if_neg (by omega)])
              have hst9 : RS (w4.setCell ⟨rb, 1, none⟩ (.int .i64 ((i : Int) + 12))) B rb (some ⟨b, o, none⟩) cap l (i + 12) (-1) 0 tv := HS3.out.1.to (HS3.out.1.r.set1 (i + 12)) ((Chg.refl _ _).st _ _)
              have hch9 : Chg (· = rb) w1 (w4.setCell ⟨rb, 1, none⟩ (.int .i64 ((i : Int) + 12))) := HS3.out.2.st _ _
              have hsz9 : w1.heap.size ≤ (w4.setCell ⟨rb, 1, none⟩ (.int .i64 ((i : Int) + 12))).heap.size := hch9.size
              have hr : ((0x10000 + (n.toNat - 0xd800) * 1024 + (m.toNat - 0xdc00) : Nat) : Int) = 65536 + (n - 55296) * 1024 + m - 56320 := by omega
              have henc := encoded_any (0x10000 + (n.toNat - 0xd800) * 1024 + (m.toNat - 0xdc00)) (by omega) (w4.setCell ⟨rb, 1, none⟩ (.int .i64 ((i : Int) + 12)))
              rw [hr] at henc
              generalize 0x10000 + (n.toNat - 0xd800) * 1024 + (m.toNat - 0xdc00) = r at *
              have HX := Lib.hid hx
              have HEN := Lib.hid henc
              have HW9 := Lib.hid (And.intro hst9 (And.intro hch9 hsz9))
              have d1 := HS3.out.1.r.c1
              have d2 := HS3.out.1.r.f 1
              clear hx henc hst9 hch9 hsz9 hr hm
              go_wp2_with fail
              refine HEN.out.mono ?_
              rintro e w5 ⟨b5, c5, rfl, g1, g2, g3⟩
              have hend : EscR l i rb (.slice (some ⟨b, o, none⟩) l.length cap) tv w1 (.returned (.slice (some ⟨b5, 0, none⟩) (encN r).length c5)) w5 := by
                unfold EscR
                rw [HX.out]
                exact ⟨b5, c5, rfl, g1, Nat.le_trans HW9.out.2.2 g3, HW9.out.1.r.keep g2 id, HW9.out.2.1.trans (g2.mono fun _ _ h => h.elim)⟩
              have HEND := Lib.hid hend
              clear g1 g2 g3 hend
              go_wp2_with fail
              go_ret
              exact HEND.out
    · rw [if_neg h6] at hh6
      have hx : escapeJ l i = .error (l.length, 240) := by
        rw [HJ2.out]
        simp only [takeJ, if_neg h6]
      have HX := Lib.hid hx
      rw [hh6] at HH
      clear hx hh6 h6
      go_wp2_with fail
      refine HH.out.mono ?_
      rintro e w2 ⟨rfl, hd⟩
      have hbad2 := bad_any rb A cap l (i + 6) i (-2) tv B w2 (H6.out.1.drawn hd)
      have HB2 := Lib.hid hbad2
      have hcd : Chg (· = rb) (w1.setCell ⟨rb, 1, none⟩ (.int .i64 ((i : Int) + 6))) w2 := hd.chg
      have HCD := Lib.hid hcd
      clear hbad2 hcd hd
      go_wp2_with fail
      refine HB2.out.mono ?_
      rintro e w3 ⟨rfl, hr, hc⟩
      have HR := Lib.hid (EscR.err HX.out HI6.out (fa := (l.length : Int)) (er := 240) (by simpa using hr) rfl rfl (H6.out.2.trans (HCD.out.trans hc)))
      clear hr hc
      go_wp2_with fail
      go_ret
      exact HR.out
end Go.Proofs.YtknmbfkpclacgaaGreatDoor

/- The document's reader: escape. -/
set_option linter.unusedSimpArgs false
namespace Go.Proofs.YtknmbfkpclacgaaGreatDoor
open Go.RowKit

def sL : List UInt8 := [34, 92, 47, 98, 102, 110, 114, 116]
def mL : List UInt8 := [34, 92, 47, 8, 12, 10, 13, 9]
def sS : ByteArray := ⟨#[34, 92, 47, 98, 102, 110, 114, 116]⟩
def mS : ByteArray := ⟨#[34, 92, 47, 8, 12, 10, 13, 9]⟩
theorem eight {P : Nat → Prop} (h : P 0 ∧ P 1 ∧ P 2 ∧ P 3 ∧ P 4 ∧ P 5 ∧ P 6 ∧ P 7) : ∀ k, k < 8 → P k := by
  intro k hk
  obtain ⟨h0, h1, h2, h3, h4, h5, h6, h7⟩ := h
  rcases (show k = 0 ∨ k = 1 ∨ k = 2 ∨ k = 3 ∨ k = 4 ∨ k = 5 ∨ k = 6 ∨ k = 7 by omega) with rfl | rfl | rfl | rfl | rfl | rfl | rfl | rfl <;> assumption
theorem sL_letter : ∀ k, k < 8 → letter (sL.getD k 0) = some (mL.getD k 0).toNat := eight (by decide)
theorem mL_enc : ∀ k, k < 8 → encN (mL.getD k 0).toNat = [mL.getD k 0] := eight (by decide)
theorem letter_none {c : UInt8} (h : ∀ k, k < 8 → c ≠ sL.getD k 0) : letter c = none := by
  have h0 : c ≠ 34 := h 0 (by omega)
  have h1 : c ≠ 92 := h 1 (by omega)
  have h2 : c ≠ 47 := h 2 (by omega)
  have h3 : c ≠ 98 := h 3 (by omega)
  have h4 : c ≠ 102 := h 4 (by omega)
  have h5 : c ≠ 110 := h 5 (by omega)
  have h6 : c ≠ 114 := h 6 (by omega)
  have h7 : c ≠ 116 := h 7 (by omega)
  unfold letter
  simp [h0, h1, h2, h3, h4, h5, h6, h7]
theorem sS_index : ∀ k : Nat, k < 8 → ∀ W, (Instr.index 9 (.string ⟨#[34, 92, 47, 98, 102, 110, 114, 116]⟩) (.int .i64 (k : Int))).run Tryz.prog W = .ok (.int .u8 ((sL.getD k 0).toNat : Int)) W :=
  eight ⟨fun _ => by kernel_rfl, fun _ => by kernel_rfl, fun _ => by kernel_rfl, fun _ => by kernel_rfl, fun _ => by kernel_rfl, fun _ => by kernel_rfl, fun _ => by kernel_rfl, fun _ => by kernel_rfl⟩
theorem mS_index : ∀ k : Nat, k < 8 → ∀ W, (Instr.index 9 (.string ⟨#[34, 92, 47, 8, 12, 10, 13, 9]⟩) (.int .i64 (k : Int))).run Tryz.prog W = .ok (.int .u8 ((mL.getD k 0).toNat : Int)) W :=
  eight ⟨fun _ => by kernel_rfl, fun _ => by kernel_rfl, fun _ => by kernel_rfl, fun _ => by kernel_rfl, fun _ => by kernel_rfl, fun _ => by kernel_rfl, fun _ => by kernel_rfl, fun _ => by kernel_rfl⟩

theorem alloc_after_set (w : World) (a : Addr) (v : Value) (o : Obj) : ((w.setCell a v).alloc o).heap[w.heap.size]? = some o := by
  have := heap_alloc_new (w.setCell a v) o
  rwa [show (w.setCell a v).heap.size = w.heap.size by simp [World.setCell]] at this
set_option maxRecDepth 100000 in
set_option maxHeartbeats 8000000 in
theorem escape_r (rb : Nat) (A : Option Addr) (cap : Nat) (l : List UInt8) (i : Nat) (tv : Value) (B : Nat) (w : World) (hst : RS w B rb A cap l i (-1) 0 tv) (hi : i < l.length) (hL : l.length ≤ 268435456) :
    Calls Tryz.prog 178 #[.pointer (some ⟨rb, 0, none⟩)] w (EscR l i rb (.slice A l.length cap) tv w) := by
  have c0 := hst.r.c0
  have c1 := hst.r.c1
  have HST := Lib.hid hst
  clear hst
  by_cases h1 : i + 1 < l.length
  case neg =>
    have hx : escapeJ l i = .error (l.length, 240) := by
      unfold escapeJ
      simp only [takeJ, if_neg h1]
    have hno := fun n => rno_any rb (.slice A l.length cap) i (-1) 0 tv (l.length : Int) 240 (w.drewN n) (HST.out.drewN n).r
    have hd0 : ∀ n, (w.drewN n).cell? ⟨rb, 0, none⟩ = some (.slice A l.length cap) := fun n => (HST.out.drewN n).r.c0
    have HX := Lib.hid hx
    have HN := Lib.hid hno
    clear hx hno
    go_enter Tryz.func178, Tryz.ntmps178
    go_wp2_with fail
    have hd : decide ((l.length : Int) ≤ (i : Int) + 1) = true := by simp; omega
    go_quiet (fail)
    go_wp2_with fail
    refine (HN.out _).mono ?_
    rintro e w1 ⟨rfl, hr, hc⟩
    have HR := Lib.hid (EscR.err HX.out (Nat.le_of_lt hi) (fa := (l.length : Int)) (er := 240) (by simpa [noF, noE] using hr) rfl rfl (((Chg.refl _ w).drewN _).trans hc))
    clear hr hc
    go_wp2_with fail
    go_ret
    exact HR.out
  case pos =>
    obtain ⟨b, o, rfl, hne, hcb⟩ := HST.out.b.cells (by omega)
    have cc := hcb (i + 1) h1
    rw [show o + (i + 1) = o + (i + 1) from rfl] at cc
    have hpr := pk_range l (i + 1)
    have hx0 : escapeJ l i = match letter (pk l (i + 1)) with
        | some x => .ok (x, i + 2)
        | none => if pk l (i + 1) ≠ 117 then .error (i, 243) else longJ l i := by
      by_cases hu : pk l (i + 1) = 117
      · rw [escapeJ_long h1 hu, hu]
        rfl
      · unfold escapeJ
        simp only [takeJ, if_pos h1, hu]
        rfl
    have hlong := fun W (hs : RS W B rb (some ⟨b, o, none⟩) cap l i (-1) 0 tv) (hu : pk l (i + 1) = 117) => long_r rb (some ⟨b, o, none⟩) cap l i tv B W hs h1 hL (escapeJ_long h1 hu)
    generalize hcc : pk l (i + 1) = c at *
    have HCC := Lib.hid hcc
    have HX := Lib.hid hx0
    have HL := Lib.hid hlong
    have hdr : ∀ n, (w.drewN n).cell? ⟨rb, 0, none⟩ = some (.slice (some ⟨b, o, none⟩) l.length cap) ∧ (w.drewN n).cell? ⟨rb, 1, none⟩ = some (.int .i64 i) ∧ (w.drewN n).cell? ⟨b, o + (i + 1), none⟩ = some (.int .u8 (c.toNat : Int)) := fun n => ⟨c0, c1, cc⟩
    have HDR := Lib.hid hdr
    have hln := HST.out.b.len
    clear hcb hx0 hlong hcc hdr
    go_enter Tryz.func178, Tryz.ntmps178
    go_wp2_with fail
    have hd : decide ((l.length : Int) ≤ (i : Int) + 1) = false := by simp; omega
    go_quiet (fail)
    go_wp2_with fail
    go_quiet (fail)
    go_wp2_with fail
    go_loopg [6] 9 (fun g v6 wr => ∃ k : Nat, v6 = .int .i64 k ∧ k ≤ 8 ∧ RS wr B rb (some ⟨b, o, none⟩) cap l i (-1) 0 tv ∧ Chg (· = rb) w wr ∧ (∀ j, j < k → c ≠ sL.getD j 0) ∧ 9 - k = g)
    case atStart => exact ⟨0, rfl, by omega, by simpa [World.drewN_drewN] using HST.out.drewN _, (by simpa [World.drewN_drewN] using (Chg.refl _ w).drewN _), fun j hj => by omega, rfl⟩
    case round =>
      obtain ⟨k, rfl, hk, hst, hch, hno, hg⟩ := hrel
      have HS := Lib.hid (And.intro hst hch)
      have HNO := Lib.hid hno
      have HG := Lib.hid hg
      clear hst hch hno hg
      have d1 := HS.out.1.r.c1
      have d2 := HS.out.1.r.f 1
      by_cases hk8 : k < 8
      · have hix := sS_index k hk8
        have hmx := mS_index k hk8
        have hsl := sL_letter k hk8
        have hml := mL_enc k hk8
        have hmr := (mL.getD k 0).toNat_lt
        generalize hsc : sL.getD k 0 = sc at *
        generalize mL.getD k 0 = mc at *
        have HSC := Lib.hid hsc
        clear hsc
        by_cases hc : c = sc
        · have hsm := hc
          have hxx : escapeJ l i = .ok (mc.toNat, i + 2) := by rw [HX.out, hc, hsl]
          have ht : ((sc.toNat : Int) == (c.toNat : Int)) = true := by rw [hc]; simp
          have HXX := Lib.hid hxx
          have HML := Lib.hid hml
          clear hxx hsl hml hc hsm HX HL
          have hst2 : RS (wr.setCell ⟨rb, 1, none⟩ (.int .i64 ((i : Int) + 2))) B rb (some ⟨b, o, none⟩) cap l (i + 2) (-1) 0 tv := HS.out.1.to (HS.out.1.r.set1 (i + 2)) ((Chg.refl _ _).st _ _)
          have hch2 : Chg (· = rb) w (wr.setCell ⟨rb, 1, none⟩ (.int .i64 ((i : Int) + 2))) := HS.out.2.st _ _
          have HS2 := Lib.hid (And.intro hst2 hch2)
          clear hst2 hch2
          go_wp2_with fail
          go_ret
          unfold EscR
          rw [HXX.out]
          simp only
          rw [HML.out]
          refine ⟨_, _, rfl, alloc_after_set _ _ _ _, HS.out.2.size, HS2.out.1.r.keep ((Chg.refl (fun _ => False) _).alloc _) id, HS2.out.2.alloc _⟩
        · have ht : ((sc.toNat : Int) == (c.toNat : Int)) = false := eq_f (fun e => hc e.symm)
          have hno2 : ∀ j, j < k + 1 → c ≠ sL.getD j 0 := fun j hj => by
            rcases Nat.lt_or_ge j k with h | h
            · exact HNO.out j h
            · obtain rfl : j = k := by omega
              rw [HSC.out]; exact hc
          have HC := Lib.hid hno2
          clear hc hsl hml hmx hno2
          go_wp2_with fail
          go_roundg (9 - (k + 1))
          case measure => have := HG.out; omega
          case rel => exact ⟨k + 1, by go_num, by omega, HS.out.1, HS.out.2, HC.out, rfl⟩
      · obtain rfl : k = 8 := by omega
        have hlet := letter_none HNO.out
        have hx := HX.out
        rw [hlet] at hx
        simp only at hx
        have HX2 := Lib.hid hx
        clear hlet hx hk8 hk
        by_cases hu : c = 117
        · have ht : ((c.toNat : Int) == 117) = true := by subst hu; rfl
          have hl2 := HL.out wr HS.out.1 hu
          have HL2 := Lib.hid hl2
          clear hu hl2
          go_wp2_with fail
          refine HL2.out.mono ?_
          intro e w2 hE
          unfold EscR at hE
          cases hes : escapeJ l i with
          | ok rj =>
            obtain ⟨r, j⟩ := rj
            rw [hes] at hE
            obtain ⟨b2, c2, rfl, g1, g2, g3, g4⟩ := hE
            have hE2 : EscR l i rb (.slice (some ⟨b, o, none⟩) l.length cap) tv w (.returned (.slice (some ⟨b2, 0, none⟩) (encN r).length c2)) w2 := by
              unfold EscR
              rw [hes]
              exact ⟨b2, c2, rfl, g1, Nat.le_trans HS.out.2.size g2, g3, HS.out.2.trans g4⟩
            have HE2 := Lib.hid hE2
            clear hE2 g1 g2 g3 g4 hes
            go_wp2_with fail
            go_ret
            exact HE2.out
          | error f =>
            rw [hes] at hE
            obtain ⟨rfl, g1, a, g2, g3⟩ := hE
            have HE2 := Lib.hid (EscR.err hes g2 g3 rfl rfl (HS.out.2.trans g1))
            clear g1 g2 g3 hes
            go_wp2_with fail
            go_ret
            exact HE2.out
        · have ht : ((c.toNat : Int) == 117) = false := eq_f (b := 117) hu
          have hx := HX2.out
          rw [if_pos hu] at hx
          have HX3 := Lib.hid hx
          have hn := rno_any rb (.slice (some ⟨b, o, none⟩) l.length cap) i (-1) 0 tv (i : Int) 243 wr HS.out.1.r
          have HN := Lib.hid hn
          clear hu hx hn
          go_wp2_with fail
          refine HN.out.mono ?_
          rintro e w2 ⟨rfl, hr, hc⟩
          have HR := Lib.hid (EscR.err HX3.out (Nat.le_of_lt hi) (fa := (i : Int)) (er := 243) (by simpa [noF, noE] using hr) rfl rfl (HS.out.2.trans hc))
          clear hr hc
          go_wp2_with fail
          go_ret
          exact HR.out
end Go.Proofs.YtknmbfkpclacgaaGreatDoor
