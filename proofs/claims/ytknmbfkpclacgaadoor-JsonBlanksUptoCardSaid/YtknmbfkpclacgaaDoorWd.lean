/- wide: the walk: blanks laid into a text. -/
import Derived.Test.YtknmbfkpclacgaaDoorJn
import Derived.Test.YtknmbfkpclacgaaDoorPw
import Derived.BigQuiet
import Derived.Deep.QuietTactic
set_option linter.unusedSimpArgs false
namespace Go.Proofs.YtknmbfkpclacgaaDoor
open Go.RowKit

theorem str_cat (a b : List UInt8) : ((⟨a.toArray⟩ : ByteArray) ++ ⟨b.toArray⟩) = ⟨(a ++ b).toArray⟩ := by
  apply ByteArray.ext
  simp
def blankL (j : Nat) : List UInt8 := [[], [32], [10], [9, 13], [32, 32]].getD j []
/-- which blank a number says -/
def blankI (x : Int) : Nat := ((x.tmod 5 + 5).tmod 5).toNat
/-- the k-th blanks -/
def bW (ks : List Int) (k : Nat) : List UInt8 := if ks.length = 0 then [32] else blankL (blankI (ks.getD ((k + 1) % ks.length) 0))
theorem blankI_lt (x : Int) : (x.tmod 5 + 5).tmod 5 = (blankI x : Nat) ∧ blankI x < 5 := by
  unfold blankI
  have h1 := Int.tmod_lt_of_pos x (show (0 : Int) < 5 by omega)
  have h2 : -5 < x.tmod 5 := by
    have := Int.lt_tmod_of_pos x (show (0 : Int) < 5 by omega)
    omega
  have h3 : 0 ≤ (x.tmod 5 + 5).tmod 5 := Int.tmod_nonneg _ (by omega)
  have h4 := Int.tmod_lt_of_pos (x.tmod 5 + 5) (show (0 : Int) < 5 by omega)
  omega
theorem blankL_bl (j : Nat) : ∀ c ∈ blankL j, isBl c = true := by
  have key : ∀ j : Fin 5, ∀ c ∈ blankL j.val, isBl c = true := by decide
  rcases Nat.lt_or_ge j 5 with h | h
  · exact key ⟨j, h⟩
  · have : blankL j = [] := by
      unfold blankL
      rw [List.getD_eq_getElem?_getD, List.getElem?_eq_none (by simpa using h)]
      rfl
    rw [this]
    simp
theorem bW_ok (ks : List Int) : BlOk (bW ks) := by
  intro k c hc
  unfold bW at hc
  split at hc
  · simp at hc; subst hc; rfl
  · exact blankL_bl _ c hc
theorem blankL_len (j : Nat) : (blankL j).length ≤ 2 := by
  have key : ∀ j : Fin 5, (blankL j.val).length ≤ 2 := by decide
  rcases Nat.lt_or_ge j 5 with h | h
  · exact key ⟨j, h⟩
  · have : blankL j = [] := by
      unfold blankL
      rw [List.getD_eq_getElem?_getD, List.getElem?_eq_none (by simpa using h)]
      rfl
    rw [this]
    simp
theorem bW_len (ks : List Int) (k : Nat) : (bW ks k).length ≤ 2 := by
  unfold bW
  split
  · simp
  · exact blankL_len _

/-- The closure's variables. -/
structure NxS (w : World) (kb bb lb rb : Nat) (ks : List Int) (Ab : Option Addr) (cb k : Nat) : Prop where
  k : w.heap[kb]? = some (.cells #[.int .i64 (k : Nat)] 3 (0, 0))
  by_ : w.heap[bb]? = some (.cells #[.slice Ab ks.length cb] 32 (0, 0))
  bl : w.heap[lb]? = some (.cells #[.slice (some ⟨rb, 0, none⟩) 5 5] 33 (0, 0))
  row : w.heap[rb]? = some (.cells #[.string ⟨#[]⟩, .string ⟨#[32]⟩, .string ⟨#[10]⟩, .string ⟨#[9, 13]⟩, .string ⟨#[32, 32]⟩] 9 (0, 0))
theorem NxS.keep {w w' : World} {kb bb lb rb : Nat} {ks : List Int} {Ab : Option Addr} {cb k : Nat} (h : NxS w kb bb lb rb ks Ab cb k) (hc : Chg (fun _ => False) w w') : NxS w' kb bb lb rb ks Ab cb k :=
  ⟨hc.obj h.k id, hc.obj h.by_ id, hc.obj h.bl id, hc.obj h.row id⟩
theorem tmod_nat (a b : Nat) : ((a : Int)).tmod (b : Int) = ((a % b : Nat) : Int) := by
  rw [Int.tmod_eq_emod_of_nonneg (by omega)]
  rfl

set_option maxRecDepth 100000 in
set_option maxHeartbeats 4000000 in
theorem next_any2 (kb bb lb rb : Nat) (ks : List Int) (Ab : Option Addr) (cb k B : Nat) (w : World) (h : NxS w kb bb lb rb ks Ab cb k) (hr : Ro w B Ab (ints ks)) (hB : B ≤ kb) (hk : k ≤ 1000000000) (hl : ks.length ≤ 1000000000) (hn1 : kb ≠ bb) (hn2 : kb ≠ lb) (hn3 : kb ≠ rb) :
    Calls Tryd.prog 25 #[.pointer (some ⟨kb, 0, none⟩), .pointer (some ⟨bb, 0, none⟩), .pointer (some ⟨lb, 0, none⟩)] w fun e w' => e = .returned (.string ⟨(bW ks k).toArray⟩) ∧ NxS w' kb bb lb rb ks Ab cb (k + 1) ∧ Chg (· = kb) w w' := by
  have c0 : w.cell? ⟨kb, 0, none⟩ = some (.int .i64 (k : Nat)) := by rw [cell_of_row _ _ _ _ _ _ h.k]; rfl
  have f0 : w.frozen? ⟨kb, 0, none⟩ = false := by simp [World.frozen?, h.k]
  have hch : Chg (· = kb) w (w.setCell ⟨kb, 0, none⟩ (.int .i64 ((k + 1 : Nat) : Int))) := (Chg.refl (· = kb) w).setCell (fun _ => rfl) _
  have hN : NxS (w.setCell ⟨kb, 0, none⟩ (.int .i64 ((k + 1 : Nat) : Int))) kb bb lb rb ks Ab cb (k + 1) :=
    ⟨by rw [heap_setCell_same h.k]; rfl, hch.obj h.by_ (fun e => hn1 e.symm), hch.obj h.bl (fun e => hn2 e.symm), hch.obj h.row (fun e => hn3 e.symm)⟩
  have hr2 : Ro (w.setCell ⟨kb, 0, none⟩ (.int .i64 ((k + 1 : Nat) : Int))) B Ab (ints ks) := hr.keep (hch.below (by have := lt_of_block h.k; omega) (fun q hq => by omega))
  have e1 : ((k : Int) + 1) = ((k + 1 : Nat) : Int) := by omega
  rw [← e1] at hch hN hr2
  have E1 := Lib.hid e1
  clear e1
  have d1 : (w.setCell ⟨kb, 0, none⟩ (.int .i64 ((k : Int) + 1))).cell? ⟨bb, 0, none⟩ = some (.slice Ab ks.length cb) := by rw [cell_of_row _ _ _ _ _ _ hN.by_]; rfl
  have d0 : (w.setCell ⟨kb, 0, none⟩ (.int .i64 ((k : Int) + 1))).cell? ⟨kb, 0, none⟩ = some (.int .i64 ((k : Int) + 1)) := by rw [cell_of_row _ _ _ _ _ _ hN.k, E1.out]; rfl
  have d2 : (w.setCell ⟨kb, 0, none⟩ (.int .i64 ((k : Int) + 1))).cell? ⟨lb, 0, none⟩ = some (.slice (some ⟨rb, 0, none⟩) 5 5) := by rw [cell_of_row _ _ _ _ _ _ hN.bl]; rfl
  have HN := Lib.hid hN
  have HCH := Lib.hid hch
  have HR := Lib.hid hr2
  clear hN hch hr2 hr
  go_enter Tryd.func25, Tryd.ntmps25
  by_cases h0 : ks.length = 0
  · have hb : bW ks k = [32] := by unfold bW; rw [if_pos h0]
    have HBW := Lib.hid hb
    rw [h0] at d1
    clear hb
    go_wp2_with fail
    go_ret
    exact ⟨by rw [HBW.out]; rfl, HN.out, HCH.out⟩
  · have hlt : (k + 1) % ks.length < ks.length := Nat.mod_lt _ (by omega)
    obtain ⟨b, o, hA, hbB, x0⟩ := HR.out.int ((k + 1) % ks.length) hlt
    subst hA
    have hbl := blankI_lt ks[(k + 1) % ks.length]
    have hb : bW ks k = blankL (blankI ks[(k + 1) % ks.length]) := by unfold bW; rw [if_neg h0, List.getD_eq_getElem?_getD, List.getElem?_eq_getElem hlt]; rfl
    have t1 : ((k : Int) + 1).tmod (ks.length : Int) = (((k + 1) % ks.length : Nat) : Int) := by rw [E1.out, tmod_nat]
    have hx5 := Int.tmod_lt_of_pos ks[(k + 1) % ks.length] (show (0 : Int) < 5 by omega)
    have hx6 := Int.lt_tmod_of_pos ks[(k + 1) % ks.length] (show (0 : Int) < 5 by omega)
    generalize ks[(k + 1) % ks.length] = x at *
    generalize hmm : (k + 1) % ks.length = m at *
    have t2 : IntKind.i64.wrap (x.tmod 5 + 5) = x.tmod 5 + 5 := IntWalk.i64_in _ (by omega)
    obtain ⟨hb1, hb2⟩ := hbl
    generalize hji : blankI x = j at *
    have y0 : (w.setCell ⟨kb, 0, none⟩ (.int .i64 ((k : Int) + 1))).cell? ⟨rb, j, none⟩ = some (.string ⟨(blankL j).toArray⟩) := by
      rw [cell_of_row _ _ _ _ _ _ HN.out.row]
      rcases (show j = 0 ∨ j = 1 ∨ j = 2 ∨ j = 3 ∨ j = 4 by omega) with rfl | rfl | rfl | rfl | rfl <;> rfl
    have HBW := Lib.hid hb
    have hl0 : 0 < ks.length := by omega
    have hln : ((ks.length : Int) == 0) = false := by rw [beq_eq_false_iff_ne]; omega
    generalize hWW : w.setCell ⟨kb, 0, none⟩ (.int .i64 ((k : Int) + 1)) = W at *
    have hWS := Lib.hid hWW
    clear hb hmm hji h h0
    go_wp2_with fail
    go_quiet (fail)
    go_wp2_with fail
    go_ret
    exact ⟨by rw [HBW.out]; rfl, HN.out.keep ((Chg.refl _ _).drewN _), HCH.out.drewN _⟩

theorem str_index (W : World) (s : List UInt8) (i : Nat) (c : UInt8) (r : List UInt8) (h : s.drop i = c :: r) : (Instr.index 9 (.string ⟨s.toArray⟩) (.int .i64 (i : Int))).run Tryd.prog W = .ok (.int .u8 (c.toNat : Int)) W := by
  have hlt : i < s.length := by
    rcases Nat.lt_or_ge i s.length with h1 | h1
    · exact h1
    · rw [List.drop_eq_nil_of_le h1] at h; cases h
  have hsz : (⟨s.toArray⟩ : ByteArray).size = s.length := by show s.toArray.size = _; simp
  rw [run_index_string W _ _ _ _ Tryd.underlying9, dif_pos (by rw [hsz]; omega)]
  have hc : s[i] = c := by
    rw [List.drop_eq_getElem_cons hlt] at h
    injection h
  have : (⟨s.toArray⟩ : ByteArray)[i]'(by rw [hsz]; exact hlt) = c := hc
  simp only [Int.toNat_natCast]
  rw [this]
/-- what wide answers -/
def wideL (b : Nat → List UInt8) (s : List UInt8) : List UInt8 := b 0 ++ ((wideGo b s false false 1).1 ++ b (wideGo b s false false 1).2)
theorem four_allocs (w : World) (o1 o2 o3 o4 : Obj) : ((((w.alloc o1).alloc o2).alloc o3).alloc o4).heap[w.heap.size]? = some o1 ∧ ((((w.alloc o1).alloc o2).alloc o3).alloc o4).heap[w.heap.size + 1]? = some o2 ∧ ((((w.alloc o1).alloc o2).alloc o3).alloc o4).heap[w.heap.size + 1 + 1]? = some o3 ∧ ((((w.alloc o1).alloc o2).alloc o3).alloc o4).heap[w.heap.size + 1 + 1 + 1]? = some o4 := by
  simp only [World.alloc, Array.getElem?_push, Array.size_push]
  refine ⟨?_, ?_, ?_, ?_⟩
  · rw [if_neg (by omega), if_neg (by omega), if_neg (by omega), if_pos trivial]
  · rw [if_neg (by omega), if_neg (by omega), if_pos trivial]
  · rw [if_neg (by omega), if_pos trivial]
  · rw [if_pos trivial]
theorem wg_mark (b : Nat → List UInt8) {c : UInt8} (r : List UInt8) (esc : Bool) (k : Nat) (hm : isMark c = true) (h34 : c ≠ 34) : wideGo b (c :: r) false esc k = (b k ++ [c] ++ b (k + 1) ++ (wideGo b r false esc (k + 2)).1, (wideGo b r false esc (k + 2)).2) := by
  have e34 : (c == 34) = false := by rw [beq_eq_false_iff_ne]; exact h34
  have e1 : nIn c false esc = false := by simp [nIn, e34]
  have e2 : nEsc c false esc = esc := by simp [nEsc]
  rw [wideGo]
  simp only [hm, e1, e2, Bool.not_false, Bool.and_self, if_true]
  simp [mkW]
theorem wg_step (b : Nat → List UInt8) (c : UInt8) (r : List UInt8) (ins esc ins' esc' : Bool) (k : Nat) (hm : (!ins && isMark c) = false) (h1 : nIn c ins esc = ins') (h2 : nEsc c ins esc = esc') : wideGo b (c :: r) ins esc k = (c :: (wideGo b r ins' esc' k).1, (wideGo b r ins' esc' k).2) := by
  rw [wideGo, hm, h1, h2]
  rfl
theorem eq_u8 {c : UInt8} {n : Nat} (hn : n < 256) (h : ((n : Nat) : Int) = (c.toNat : Int)) : c = UInt8.ofNat n := by
  apply UInt8.toNat.inj
  rw [UInt8.toNat_ofNat']
  omega
theorem ne_u8 {c : UInt8} {x : Int} (h : x = (c.toNat : Int)) (d : UInt8) (hd : c ≠ d) : (x == (d.toNat : Int)) = false := by
  rw [beq_eq_false_iff_ne]
  intro e
  exact hd (UInt8.toNat.inj (by omega))
theorem conv_one (w : World) (c : UInt8) (x : Int) (hx : x = (c.toNat : Int)) : (convert 30 9 (.slice (some ⟨w.heap.size, 0, none⟩) 1 1)).run Tryd.prog (w.alloc (.cells #[.int .u8 x] 5)) = .ok (.string ⟨[c].toArray⟩) (w.alloc (.cells #[.int .u8 x] 5)) :=
  conv_bytes Tryd.underlying30 Tryd.underlying5 Tryd.underlying9 _ w.heap.size 0 1 1 [c] rfl (fun j hj => by
      obtain rfl : j = 0 := by omega
      rw [Nat.zero_add, cell_of_row _ _ _ _ _ _ (heap_alloc_new w _), hx]; rfl)
set_option maxRecDepth 100000 in
set_option maxHeartbeats 4000000 in
theorem wide_any (s : List UInt8) (hl : s.length ≤ 20000) (ks : List Int) (Ab : Option Addr) (cb B : Nat) (w : World) (hr : Ro w B Ab (ints ks)) (hB : B ≤ w.heap.size) (hks : ks.length ≤ 1000000000) :
    Calls Tryd.prog 11 #[.string ⟨s.toArray⟩, .slice Ab ks.length cb] w fun e w' => e = .returned (.string ⟨(wideL (bW ks) s).toArray⟩) ∧ Chg (fun _ => False) w w' := by
  have hsz : (⟨s.toArray⟩ : ByteArray).size = s.length := by show s.toArray.size = _; simp
  have HR := Lib.hid hr
  clear hr
  go_enter Tryd.func11, Tryd.ntmps11
  go_wp2_with fail
  have h4 := four_allocs w (.cells #[.slice Ab ks.length cb] 32) (.cells #[.string ⟨#[]⟩, .string ⟨#[32]⟩, .string ⟨#[10]⟩, .string ⟨#[9, 13]⟩, .string ⟨#[32, 32]⟩] 9) (.cells #[.slice (some ⟨w.heap.size + 1, 0, none⟩) 5 5] 33) (.cells #[.int .i64 0] 3)
  have hc4 : Chg (fun _ => False) w ((((w.alloc (.cells #[.slice Ab ks.length cb] 32)).alloc (.cells #[.string ⟨#[]⟩, .string ⟨#[32]⟩, .string ⟨#[10]⟩, .string ⟨#[9, 13]⟩, .string ⟨#[32, 32]⟩] 9)).alloc (.cells #[.slice (some ⟨w.heap.size + 1, 0, none⟩) 5 5] 33)).alloc (.cells #[.int .i64 0] 3)) := ((((Chg.refl _ _).alloc _).alloc _).alloc _).alloc _
  generalize ((((w.alloc (.cells #[.slice Ab ks.length cb] 32)).alloc (.cells #[.string ⟨#[]⟩, .string ⟨#[32]⟩, .string ⟨#[10]⟩, .string ⟨#[9, 13]⟩, .string ⟨#[32, 32]⟩] 9)).alloc (.cells #[.slice (some ⟨w.heap.size + 1, 0, none⟩) 5 5] 33)).alloc (.cells #[.int .i64 0] 3)) = W0 at *
  have hr0 := HR.out.keep (hc4.below hB (fun _ h => h.elim))
  obtain ⟨g1, g2, g3, g4⟩ := h4
  have hN0 : NxS W0 (w.heap.size + 1 + 1 + 1) w.heap.size (w.heap.size + 1 + 1) (w.heap.size + 1) ks Ab cb 0 := ⟨g4, g1, g3, g2⟩
  clear g1 g2 g3 g4 HR
  refine (next_any2 (w.heap.size + 1 + 1 + 1) w.heap.size (w.heap.size + 1 + 1) (w.heap.size + 1) ks Ab cb 0 B W0 hN0 hr0 (by omega) (by omega) hks (by omega) (by omega) (by omega)).mono ?_
  rintro e W1 ⟨rfl, hN1, hch1⟩
  have hr1 := hr0.keep (hch1.below (by have := hc4.size; omega) (fun q hq => by omega))
  have hc1 : Chg (fun _ => False) w W1 := hc4.andThen hch1 (fun i hi hq => by omega)
  have hb2 : ∀ k, (bW ks k).length ≤ 2 := bW_len ks
  have hb0 := hb2 0
  generalize hbk : bW ks = bk at *
  have HBK := Lib.hid hbk
  clear hbk hr0 hN0 hch1 hc4
  obtain ⟨n0, hn0⟩ : ∃ n0, w.heap.size = n0 := ⟨_, rfl⟩
  rw [hn0] at hN1 hB ⊢
  have HN0 := Lib.hid hn0
  have hB1 : n0 ≤ W1.heap.size := by rw [← hn0]; exact hc1.size
  clear hn0
  go_wp2_with fail
  go_loopg [8, 9, 10, 11] (s.length + 1) (fun g s8 s9 s10 s11 wr => ∃ (i k : Nat) (acc : List UInt8) (ins esc : Bool), s8 = .string ⟨acc.toArray⟩ ∧ s9 = .bool ins ∧ s10 = .bool esc ∧ s11 = .int .i64 i ∧ NxS wr (n0 + 1 + 1 + 1) n0 (n0 + 1 + 1) (n0 + 1) ks Ab cb k ∧ Chg (fun q => q = n0 + 1 + 1 + 1) W1 wr ∧ acc ++ (wideGo bk (s.drop i) ins esc k).1 = bk 0 ++ (wideGo bk s false false 1).1 ∧ (wideGo bk (s.drop i) ins esc k).2 = (wideGo bk s false false 1).2 ∧ k ≤ 2 * i + 1 ∧ i ≤ s.length ∧ acc.length ≤ 5 * i + 2 ∧ s.length - i + 1 = g)
  case atStart =>
    exact ⟨0, 1, bk 0, false, false, rfl, rfl, rfl, rfl, hN1, Chg.refl _ _, by rw [List.drop_zero], by rw [List.drop_zero], by omega, by omega, by omega, by omega⟩
  case round =>
    obtain ⟨i, k, acc, ins, esc, rfl, rfl, rfl, rfl, hN, hcw, hacc, hk2, hk, hi, hal, hg⟩ := hrel
    have HG := Lib.hid hg
    have HACC := Lib.hid hacc
    have HK2 := Lib.hid hk2
    have hrw := hr1.keep (hcw.below (by omega) (fun q hq => by omega))
    clear hg hacc hk2
    have hb2k := hb2 k
    have hb2k1 := hb2 (k + 1)
    have HB2 := Lib.hid hb2
    clear hb2
    by_cases hil : i < s.length
    · obtain ⟨c, r, hd, hd1⟩ : ∃ c r, s.drop i = c :: r ∧ s.drop (i + 1) = r := ⟨_, _, List.drop_eq_getElem_cons hil, rfl⟩
      have hix := str_index wr s i c r hd
      have hcv := fun W => conv_one W c (c.toNat : Int) rfl
      obtain ⟨x, hx⟩ : ∃ x : Int, x = (c.toNat : Int) := ⟨_, rfl⟩
      rw [← hx] at hix hcv
      have hx0 : 0 ≤ x ∧ x ≤ 255 := by have := c.toNat_lt; omega
      have HX := Lib.hid hx
      have HD := Lib.hid (And.intro hd hd1)
      clear hx hd hd1
      by_cases hmk : ins = false ∧ isMark c = true
      · obtain ⟨rfl, hm⟩ := hmk
        have h34 : c ≠ 34 := by rintro rfl; exact absurd hm (by decide)
        have hwg := wg_mark bk r esc k hm h34
        have hx6 : x = 91 ∨ x = 93 ∨ x = 123 ∨ x = 125 ∨ x = 44 ∨ x = 58 := by
          have hx := HX.out
          simp only [isMark, Bool.or_eq_true, beq_iff_eq] at hm
          rcases hm with ((((h | h) | h) | h) | h) | h <;> subst h <;> simp at hx <;> omega
        have hq1 := HACC.out
        rw [HD.out.1, hwg] at hq1
        have hq2 := HK2.out
        rw [HD.out.1, hwg] at hq2
        have HQ := Lib.hid (And.intro hq1 hq2)
        clear hm h34 hwg hq1 hq2 HACC HK2
        rcases hx6 with rfl | rfl | rfl | rfl | rfl | rfl
        all_goals
          go_wp2_with fail
          refine (next_any2 (n0 + 1 + 1 + 1) n0 (n0 + 1 + 1) (n0 + 1) ks Ab cb k B wr hN hrw (by omega) (by omega) hks (by omega) (by omega) (by omega)).mono ?_
          rintro e W2 ⟨rfl, hN2, hch2⟩
          rw [HBK.out]
          have hcv2 := hcv W2
          have hcw2 := hcw.trans hch2
          have hrw2 := hrw.keep (hch2.below (by have := hcw.size; omega) (fun q hq => by omega))
          have hal2 : ∀ o, Chg (fun q => q = n0 + 1 + 1 + 1) W2 (W2.alloc o) := fun o => (Chg.refl _ _).alloc o
          have hN3 := fun o => hN2.keep ((Chg.refl (fun _ => False) W2).alloc o)
          have hrw3 := fun o => hrw2.keep ((hal2 o).below (by have := hcw2.size; omega) (fun q hq => by omega))
          have hcat1 := str_cat acc (bk k)
          have hcat2 := str_cat (acc ++ bk k) [c]
          have hcat3 := str_cat (acc ++ bk k ++ [c]) (bk (k + 1))
          have HP := Lib.hid (And.intro hcw2 (And.intro hal2 (And.intro hN3 hrw3)))
          clear hcv hN hcw hrw hN2 hch2 hcw2 hrw2 hal2 hN3 hrw3
          go_wp2_with fail
          refine (next_any2 (n0 + 1 + 1 + 1) n0 (n0 + 1 + 1) (n0 + 1) ks Ab cb (k + 1) B _ (HP.out.2.2.1 _) (HP.out.2.2.2 _) (by omega) (by omega) hks (by omega) (by omega) (by omega)).mono ?_
          rintro e W4 ⟨rfl, hN4, hch4⟩
          rw [HBK.out]
          have hcw4 := (HP.out.1.trans (HP.out.2.1 _)).trans hch4
          clear HP hch4 hcv2
          go_wp2_with fail
          go_roundg (s.length - (i + 1) + 1)
          case measure => rw [← HG.out]; omega
          case rel =>
            refine ⟨i + 1, k + 1 + 1, acc ++ bk k ++ [c] ++ bk (k + 1), false, esc, by rw [str_cat]; simp only [List.append_assoc], rfl, rfl, rfl, hN4, hcw4, ?_, ?_, by omega, by omega, by simp; omega, rfl⟩
            · rw [HD.out.2, ← HQ.out.1]
              simp
            · rw [HD.out.2]
              exact HQ.out.2
      · have key : ∃ ins' esc', wideGo bk (c :: r) ins esc k = (c :: (wideGo bk r ins' esc' k).1, (wideGo bk r ins' esc' k).2) ∧ ((ins = false ∧ x = 34 ∧ ins' = true ∧ esc' = esc) ∨ (ins = false ∧ ((x == 91) = false ∧ (x == 93) = false ∧ (x == 123) = false ∧ (x == 125) = false ∧ (x == 44) = false ∧ (x == 58) = false ∧ (x == 34) = false) ∧ ins' = false ∧ esc' = esc) ∨ (ins = true ∧ esc = true ∧ ins' = true ∧ esc' = false) ∨ (ins = true ∧ esc = false ∧ x = 92 ∧ ins' = true ∧ esc' = true) ∨ (ins = true ∧ esc = false ∧ x = 34 ∧ ins' = false ∧ esc' = false) ∨ (ins = true ∧ esc = false ∧ ((x == 92) = false ∧ (x == 34) = false) ∧ ins' = true ∧ esc' = false)) := by
          have hx := HX.out
          have hmm : (!ins && isMark c) = false := by
            cases ins with
            | true => rfl
            | false =>
              cases hq : isMark c with
              | true => exact absurd ⟨rfl, hq⟩ hmk
              | false => rfl
          refine ⟨nIn c ins esc, nEsc c ins esc, wg_step bk c r ins esc _ _ k hmm rfl rfl, ?_⟩
          cases ins with
          | false =>
            by_cases h34 : c = 34
            · subst h34
              exact Or.inl ⟨rfl, hx, by simp [nIn], by simp [nEsc]⟩
            · simp only [Bool.not_false, Bool.true_and, isMark, Bool.or_eq_false_iff, beq_eq_false_iff_ne] at hmm
              obtain ⟨⟨⟨⟨⟨m1, m2⟩, m3⟩, m4⟩, m5⟩, m6⟩ := hmm
              refine Or.inr (Or.inl ⟨rfl, ⟨ne_u8 hx 91 m1, ne_u8 hx 93 m2, ne_u8 hx 123 m3, ne_u8 hx 125 m4, ne_u8 hx 44 m5, ne_u8 hx 58 m6, ne_u8 hx 34 h34⟩, by simp [nIn, h34], by simp [nEsc]⟩)
          | true =>
            cases esc with
            | true => exact Or.inr (Or.inr (Or.inl ⟨rfl, rfl, rfl, rfl⟩))
            | false =>
              by_cases h92 : c = 92
              · subst h92
                exact Or.inr (Or.inr (Or.inr (Or.inl ⟨rfl, rfl, hx, rfl, rfl⟩)))
              · by_cases h34 : c = 34
                · subst h34
                  exact Or.inr (Or.inr (Or.inr (Or.inr (Or.inl ⟨rfl, rfl, hx, rfl, rfl⟩))))
                · exact Or.inr (Or.inr (Or.inr (Or.inr (Or.inr ⟨rfl, rfl, ⟨ne_u8 hx 92 h92, ne_u8 hx 34 h34⟩, by simp [nIn, h92, h34], by simp [nEsc, h92]⟩))))
        obtain ⟨ins', esc', hwg, key⟩ := key
        have hq1 := HACC.out
        rw [HD.out.1, hwg] at hq1
        have hq2 := HK2.out
        rw [HD.out.1, hwg] at hq2
        have HQ := Lib.hid (And.intro hq1 hq2)
        have hcv2 := hcv wr
        have HP := Lib.hid (And.intro (fun o => hcw.trans ((Chg.refl (fun q => q = n0 + 1 + 1 + 1) wr).alloc o)) (fun o => hN.keep ((Chg.refl (fun _ => False) wr).alloc o)))
        have hcat2 := str_cat acc [c]
        clear hwg hq1 hq2 HACC HK2 hmk hcv hN hcw hrw
        rcases key with ⟨rfl, rfl, rfl, rfl⟩ | ⟨rfl, ⟨a1, a2, a3, a4, a5, a6, a7⟩, rfl, rfl⟩ | ⟨rfl, rfl, rfl, rfl⟩ | ⟨rfl, rfl, rfl, rfl, rfl⟩ | ⟨rfl, rfl, rfl, rfl, rfl⟩ | ⟨rfl, rfl, ⟨a1, a2⟩, rfl, rfl⟩
        all_goals
          go_wp2_with fail
          go_roundg (s.length - (i + 1) + 1)
          case measure => rw [← HG.out]; omega
          case rel =>
            refine ⟨i + 1, k, acc ++ [c], _, _, rfl, rfl, rfl, rfl, HP.out.2 _, HP.out.1 _, ?_, ?_, by omega, by omega, by simp; omega, rfl⟩
            · rw [HD.out.2, ← HQ.out.1]
              simp
            · rw [HD.out.2]
              exact HQ.out.2
    · have hq1 := HACC.out
      rw [List.drop_eq_nil_of_le (by omega : s.length ≤ i)] at hq1
      simp only [wideGo, List.append_nil] at hq1
      have hq2 := HK2.out
      rw [List.drop_eq_nil_of_le (by omega : s.length ≤ i)] at hq2
      simp only [wideGo] at hq2
      have HQ := Lib.hid (And.intro hq1 hq2)
      clear hq1 hq2 HACC HK2
      go_wp2_with fail
      refine (next_any2 (n0 + 1 + 1 + 1) n0 (n0 + 1 + 1) (n0 + 1) ks Ab cb k B wr hN hrw (by omega) (by omega) hks (by omega) (by omega) (by omega)).mono ?_
      rintro e W2 ⟨rfl, hN2, hch2⟩
      rw [HBK.out]
      have hcat1 := str_cat acc (bk k)
      have hce : Chg (fun _ => False) w W2 := hc1.andThen (hcw.trans hch2) (fun q hq1 hq2 => by have := HN0.out; omega)
      clear hN hcw hrw hN2 hch2 hN1 hr1 hc1
      go_wp2_with fail
      go_ret
      refine ⟨?_, hce⟩
      unfold wideL
      rw [HBK.out, ← List.append_assoc, ← HQ.out.1, ← HQ.out.2]
      rfl
end Go.Proofs.YtknmbfkpclacgaaDoor
