/- What the row's list of laid variables gives: the tables that the walks read (Gs). -/
import Derived.Test.YtknmbfkpclacgaaDoorFx
import Derived.Test.YtknmbfkpclacgaaDoorRows
import Derived.Lib.LaidTab
import Derived.Maps.Keyed
import Derived.LaidMore
import Derived.MakeChecks
import Derived.Maps.StringElems
set_option linter.unusedSimpArgs false
namespace Go.Proofs.YtknmbfkpclacgaaDoor
open Go.ChangeShapes Go.WideShapes Go.RowKit
open Go.WideElems (elemAt Fit)

theorem gShort : Tryd.prog.globalNamed "galley/json.short" = some 0 := by kernel_rfl
theorem gLetters : Tryd.prog.globalNamed "galley/json.letters" = some 1 := by kernel_rfl
theorem gPow : Tryd.prog.globalNamed "internal/strconv.uint64pow10" = some 2 := by kernel_rfl
theorem gBad : Tryd.prog.globalNamed "galley/step.bad" = some 3 := by kernel_rfl
theorem gBr : Tryd.prog.globalNamed "math/bits.deBruijn64tab" = some 5 := by kernel_rfl
theorem tShort : (Tryd.prog.globals[0]?).map (·.type) = some 88 := by kernel_rfl
theorem tLetters : (Tryd.prog.globals[1]?).map (·.type) = some 107 := by kernel_rfl
theorem tPow : (Tryd.prog.globals[2]?).map (·.type) = some 139 := by kernel_rfl
theorem tBad : (Tryd.prog.globals[3]?).map (·.type) = some 96 := by kernel_rfl
theorem tBr : (Tryd.prog.globals[5]?).map (·.type) = some 146 := by kernel_rfl

def laidList : List (String × DataW Unit) := [("math/bits.deBruijn32tab", Rows.laid_math_bits_deBruijn32tab), ("math/bits.deBruijn64tab", Rows.laid_math_bits_deBruijn64tab), ("internal/strconv.uint64pow10", Rows.laid_internal_strconv_uint64pow10), ("galley/step.bad", Rows.laid_galley_step_bad), ("galley/json.short", Rows.laid_galley_json_short), ("galley/json.letters", Rows.laid_galley_json_letters)]
theorem letters_at (c : UInt8) : (Rows.laid_galley_json_letters (H := Unit)).atKey (.int .u8 (c.toNat : Int)) .nil = (match letter c with | some r => .lit (.int .i32 ((r : Nat) : Int)) | none => .nil) := by
  have hne : ∀ n : Nat, n < 256 → c ≠ UInt8.ofNat n → decide ((n : Int) = (c.toNat : Int)) = false := fun n hn h => by
    refine decide_eq_false ?_
    intro e
    apply h
    have : n = c.toNat := by omega
    rw [this]
    simp
  by_cases h1 : c = 34
  · subst h1; rfl
  by_cases h2 : c = 47
  · subst h2; rfl
  by_cases h3 : c = 92
  · subst h3; rfl
  by_cases h4 : c = 98
  · subst h4; rfl
  by_cases h5 : c = 102
  · subst h5; rfl
  by_cases h6 : c = 110
  · subst h6; rfl
  by_cases h7 : c = 114
  · subst h7; rfl
  by_cases h8 : c = 116
  · subst h8; rfl
  have e1 : decide ((34 : Int) = (c.toNat : Int)) = false := hne 34 (by omega) h1
  have e2 : decide ((47 : Int) = (c.toNat : Int)) = false := hne 47 (by omega) h2
  have e3 : decide ((92 : Int) = (c.toNat : Int)) = false := hne 92 (by omega) h3
  have e4 : decide ((98 : Int) = (c.toNat : Int)) = false := hne 98 (by omega) h4
  have e5 : decide ((102 : Int) = (c.toNat : Int)) = false := hne 102 (by omega) h5
  have e6 : decide ((110 : Int) = (c.toNat : Int)) = false := hne 110 (by omega) h6
  have e7 : decide ((114 : Int) = (c.toNat : Int)) = false := hne 114 (by omega) h7
  have e8 : decide ((116 : Int) = (c.toNat : Int)) = false := hne 116 (by omega) h8
  have hl : letter c = none := by
    unfold letter
    rw [if_neg h1, if_neg h3, if_neg h2, if_neg h4, if_neg h5, if_neg h6, if_neg h7, if_neg h8]
  rw [hl]
  simp [Rows.laid_galley_json_letters, DataW.atKey, List.find?, Lit.sameKey, e1, e2, e3, e4, e5, e6, e7, e8]
theorem short_at (r : Nat) : (Rows.laid_galley_json_short (H := Unit)).atKey (.int .i32 (r : Int)) .nil = (match shortN r with | some s => .lit (.string s) | none => .nil) := by
  by_cases h1 : r = 8
  · subst h1; rfl
  by_cases h2 : r = 9
  · subst h2; rfl
  by_cases h3 : r = 10
  · subst h3; rfl
  by_cases h4 : r = 12
  · subst h4; rfl
  by_cases h5 : r = 13
  · subst h5; rfl
  by_cases h6 : r = 34
  · subst h6; rfl
  by_cases h7 : r = 92
  · subst h7; rfl
  have hne : ∀ n : Nat, r ≠ n → decide ((n : Int) = (r : Int)) = false := fun n h => by
    refine decide_eq_false ?_
    omega
  have e1 : decide ((8 : Int) = (r : Int)) = false := hne 8 h1
  have e2 : decide ((9 : Int) = (r : Int)) = false := hne 9 h2
  have e3 : decide ((10 : Int) = (r : Int)) = false := hne 10 h3
  have e4 : decide ((12 : Int) = (r : Int)) = false := hne 12 h4
  have e5 : decide ((13 : Int) = (r : Int)) = false := hne 13 h5
  have e6 : decide ((34 : Int) = (r : Int)) = false := hne 34 h6
  have e7 : decide ((92 : Int) = (r : Int)) = false := hne 92 h7
  have hl : shortN r = none := by
    unfold shortN
    split
    · rename_i hr
      have st : ∀ n : Nat, n < 128 → r ≠ n → UInt8.ofNat r ≠ UInt8.ofNat n := fun n hn hrn e => by
        have := congrArg UInt8.toNat e
        simp at this
        omega
      show shortJ (UInt8.ofNat r) = none
      have s34 : UInt8.ofNat r ≠ 34 := st 34 (by omega) h6
      have s92 : UInt8.ofNat r ≠ 92 := st 92 (by omega) h7
      have s8 : UInt8.ofNat r ≠ 8 := st 8 (by omega) h1
      have s9 : UInt8.ofNat r ≠ 9 := st 9 (by omega) h2
      have s10 : UInt8.ofNat r ≠ 10 := st 10 (by omega) h3
      have s12 : UInt8.ofNat r ≠ 12 := st 12 (by omega) h4
      have s13 : UInt8.ofNat r ≠ 13 := st 13 (by omega) h5
      unfold shortJ
      rw [if_neg s34, if_neg s92, if_neg s8, if_neg s9, if_neg s10, if_neg s12, if_neg s13]
    · rfl
  rw [hl]
  simp [Rows.laid_galley_json_short, DataW.atKey, List.find?, Lit.sameKey, e1, e2, e3, e4, e5, e6, e7]
theorem lookup_letters {W : World} {mb : Nat} {es : Array MapEntry} {clock n : Nat} {sp : Nat → Bool} {held : Bool} {enc : TypeId × Value → Unit} {W0 : World} {base : Nat} (hb : W.heap[mb]? = some (.map es clock)) (F : Fit Tryd.prog 5 (elemAt enc Tryd.prog W0 base sp held n 21) es clock)
    (hx : (Rows.laid_galley_json_letters (H := Unit)) = .map ((es.toList.map (Go.WideElems.rg Tryd.prog 5 (elemAt enc Tryd.prog W0 base sp held n 21))).foldr DataW.insert [])) (c : UInt8) :
    (Instr.lookup 107 (.map (some mb)) (.int .u8 (c.toNat : Int)) true).run Tryd.prog W = .ok (.tuple #[.int .i32 (((letter c).getD 0 : Nat) : Int), .bool (letter c).isSome]) W := by
  have zero : (zeroValue 21).run Tryd.prog W = .ok (.int .i32 0) W := by kernel_rfl
  have hlt := c.toNat_lt
  have hkey : keyOf Tryd.prog 5 (.int .u8 (c.toNat : Int)) = some (.int .u8 (c.toNat : Int)) := Go.Maps.keyOf_int_mk Tryd.underlying5 (by
    have m1 : IntKind.u8.min = 0 := rfl
    have m2 : IntKind.u8.max = 255 := rfl
    simp [Lit.wf, m1, m2]
    omega)
  have hat0 := letters_at c
  rw [hx] at hat0
  rcases Go.Maps.fit_look (w := W) true (Go.Maps.int_keyed Tryd.underlying5) Tryd.underlying107 zero hb F hkey with ⟨hrun, _, hat⟩ | ⟨e0, y, _, _, hrun, hRv, hat, _⟩
  · rw [hat .nil] at hat0
    cases hl : letter c with
    | none => exact hrun
    | some r => rw [hl] at hat0; cases hat0
  · obtain ⟨a, hv, rfl, _⟩ := Go.WideElems.elemAt_int Tryd.underlying21 hRv
    rw [hat .nil] at hat0
    cases hl : letter c with
    | none => rw [hl] at hat0; cases hat0
    | some r =>
      rw [hl] at hat0
      cases hat0
      rw [hv] at hrun
      exact hrun
theorem lookup_short {W : World} {mb : Nat} {es : Array MapEntry} {clock n : Nat} {sp : Nat → Bool} {held : Bool} {enc : TypeId × Value → Unit} {W0 : World} {base : Nat} (hb : W.heap[mb]? = some (.map es clock)) (F : Fit Tryd.prog 21 (elemAt enc Tryd.prog W0 base sp held n 9) es clock)
    (hx : (Rows.laid_galley_json_short (H := Unit)) = .map ((es.toList.map (Go.WideElems.rg Tryd.prog 21 (elemAt enc Tryd.prog W0 base sp held n 9))).foldr DataW.insert [])) (r : Nat) (hr : r ≤ 0x10FFFF) :
    (Instr.lookup 88 (.map (some mb)) (.int .i32 (r : Int)) true).run Tryd.prog W = .ok (.tuple #[.string ⟨((shortN r).getD []).toArray⟩, .bool (shortN r).isSome]) W := by
  have zero : (zeroValue 9).run Tryd.prog W = .ok (.string ⟨#[]⟩) W := by kernel_rfl
  have hkey : keyOf Tryd.prog 21 (.int .i32 (r : Int)) = some (.int .i32 (r : Int)) := Go.Maps.keyOf_int_mk Tryd.underlying21 (by
    have m1 : IntKind.i32.min = -2147483648 := rfl
    have m2 : IntKind.i32.max = 2147483647 := rfl
    simp [Lit.wf, m1, m2]
    omega)
  have hat0 := short_at r
  rw [hx] at hat0
  rcases Go.Maps.fit_look (w := W) true (Go.Maps.int_keyed Tryd.underlying21) Tryd.underlying88 zero hb F hkey with ⟨hrun, _, hat⟩ | ⟨e0, y, _, _, hrun, hRv, hat, _⟩
  · rw [hat .nil] at hat0
    cases hl : shortN r with
    | none => exact hrun
    | some r => rw [hl] at hat0; cases hat0
  · obtain ⟨str, hv, rfl, _⟩ := WideElems.elemAt_string Tryd.underlying9 hRv
    rw [hat .nil] at hat0
    cases hl : shortN r with
    | none => rw [hl] at hat0; cases hat0
    | some q =>
      rw [hl] at hat0
      simp only [DataW.lit.injEq, Lit.string.injEq] at hat0
      rw [hv] at hrun
      have e : (⟨q.toArray⟩ : ByteArray) = str := by
        apply ByteArray.ext
        rw [← hat0]
      show _ = Result.ok (Value.tuple #[.string ⟨q.toArray⟩, .bool true]) W
      rw [e]
      exact hrun
set_option maxRecDepth 100000 in
/-- What the row's condition gives. -/
theorem gs_of_laid {W : World} (h : laidMetH Tryd.prog laidList W) : Gs W W.heap.size := by
  rw [MakeChecks.laidMetH_plain _ _ _ (by kernel_rfl)] at h
  obtain ⟨ps, ⟨g0, t0, cs0, f0, p0, q0, hg0, ht0, hv0, hd0, ⟨g1, t1, cs1, f1, p1, q1, hg1, ht1, hv1, hd1, ⟨g2, t2, cs2, f2, p2, q2, hg2, ht2, hv2, hd2, ⟨g3, t3, cs3, f3, p3, q3, hg3, ht3, hv3, hd3, ⟨g4, t4, cs4, f4, p4, q4, hg4, ht4, hv4, hd4, ⟨g5, t5, cs5, f5, p5, q5, hg5, ht5, hv5, hd5, _, _⟩, _⟩, _⟩, _⟩, _⟩, _⟩, _, _⟩ := h
  obtain rfl := Option.some.inj (gBr.symm.trans hg1)
  obtain rfl := Option.some.inj (gPow.symm.trans hg2)
  obtain rfl := Option.some.inj (gBad.symm.trans hg3)
  obtain rfl := Option.some.inj (gShort.symm.trans hg4)
  obtain rfl := Option.some.inj (gLetters.symm.trans hg5)
  obtain rfl := Option.some.inj (tBr.symm.trans ht1)
  obtain rfl := Option.some.inj (tPow.symm.trans ht2)
  obtain rfl := Option.some.inj (tBad.symm.trans ht3)
  obtain rfl := Option.some.inj (tShort.symm.trans ht4)
  obtain rfl := Option.some.inj (tLetters.symm.trans ht5)
  clear hg0 ht0 hv0 hd0
  have c5 : Tryd.prog.cellsOf 5 = 1 := by kernel_rfl
  have c64 : Tryd.prog.cellsOf 146 = 64 := by kernel_rfl
  have cu : Tryd.prog.cellsOf 123 = 1 := by kernel_rfl
  have c20 : Tryd.prog.cellsOf 139 = 20 := by kernel_rfl
  have hbr : Lib.TabIs Tryd.prog W "math/bits.deBruijn64tab" .u8 [0, 1, 56, 2, 57, 49, 28, 3, 61, 58, 42, 50, 38, 29, 17, 4, 62, 47, 59, 36, 45, 43, 51, 22, 53, 39, 33, 30, 24, 18, 12, 5, 63, 55, 48, 27, 60, 41, 37, 16, 46, 35, 44, 21, 52, 32, 23, 11, 54, 26, 40, 15, 34, 20, 31, 10, 25, 14, 19, 9, 13, 8, 7, 6] := by
    have := Lib.cells_of_tab (zs := [0, 1, 56, 2, 57, 49, 28, 3, 61, 58, 42, 50, 38, 29, 17, 4, 62, 47, 59, 36, 45, 43, 51, 22, 53, 39, 33, 30, 24, 18, 12, 5, 63, 55, 48, 27, 60, 41, 37, 16, 46, 35, 44, 21, 52, 32, 23, 11, 54, 26, 40, 15, 34, 20, 31, 10, 25, 14, 19, 9, 13, 8, 7, 6]) Tryd.underlying146 Tryd.underlying5 c5 c64 hd1
    unfold Lib.TabIs
    rw [hv1, ← this]
  have hpow : Lib.TabIs Tryd.prog W "internal/strconv.uint64pow10" .u64 Lib.pow10Tab := by
    have := Lib.cells_of_tab (zs := Lib.pow10Tab) Tryd.underlying139 Tryd.underlying123 cu c20 hd2
    unfold Lib.TabIs
    rw [hv2, ← this]
  have gl1 := World.block_lt_of_cell? W _ (hbr.cell gBr 0 (by decide))
  have gl2 := World.block_lt_of_cell? W _ (hpow.cell gPow 0 (by decide))
  simp only at gl1 gl2
  refine ⟨?_, ?_, ?_, ?_⟩
  · rcases Go.WideElems.open_map Tryd.underlying107 hd5 with ⟨_, hx⟩ | ⟨bm, es, clock, m, rfl, hcs, hb, _, F, hx⟩
    · simp [Rows.laid_galley_json_letters] at hx
    simp only [Prod.mk.injEq] at hx
    have hcell : W.cell? ⟨1, 0, none⟩ = some (.map (some bm)) := by
      have := World.var?_cell gLetters hv5 0
      rw [Array.eq_one_of_toList hcs] at this
      simpa using this
    exact ⟨World.block_lt_of_cell? W _ hcell, bm, es, clock, hcell, lt_of_block hb, hb, fun W2 h2 c => lookup_letters h2 F hx.1 c⟩
  · obtain ⟨xs, n, _, hx, hlen, hxl, hel⟩ := DataW.trod_struct Tryd.underlying96 hd3
    have c3 : Tryd.prog.cellsOf 96 = 3 := by kernel_rfl
    have ci : Tryd.prog.cellsOf 21 = 1 := by kernel_rfl
    have cn : Tryd.prog.cellsOf 3 = 1 := by kernel_rfl
    have cb : Tryd.prog.cellsOf 4 = 1 := by kernel_rfl
    rw [c3] at hlen
    obtain ⟨l3⟩ := cs3
    match l3, hlen, xs, hxl, hx, hel with
    | [a, b, c], _, [x0, x1, x2], _, hx, hel =>
      have h0 := hel 0 _ rfl
      have h1 := hel 1 _ rfl
      have h2 := hel 2 _ rfl

      simp only [Rows.laid_galley_step_bad, Prod.mk.injEq, DataW.agg.injEq, List.map_cons, List.map_nil, List.cons.injEq, and_true] at hx
      obtain ⟨⟨e0, e1, e2⟩, _⟩ := hx
      obtain ⟨k0, q0, z0, _⟩ := DataW.trod_int Tryd.underlying21 (show DataW.trod _ Tryd.prog W 0 _ false n 21 _ = some x0 from h0)
      obtain ⟨k1, q1, z1, _⟩ := DataW.trod_int Tryd.underlying3 (show DataW.trod _ Tryd.prog W 0 _ false n 3 _ = some x1 from h1)
      obtain ⟨k2, q2, z2⟩ := DataW.trod_bool Tryd.underlying4 (show DataW.trod _ Tryd.prog W 0 _ false n 4 _ = some x2 from h2)
      simp [ci, cn, cb] at q0 q1 q2
      subst z0 z1 z2 q0 q1 q2
      simp at e0 e1 e2
      subst e0 e1 e2
      have v0 := World.var?_cell gBad hv3 0
      have v1 := World.var?_cell gBad hv3 1
      have v2 := World.var?_cell gBad hv3 2
      simp at v0 v1 v2
      exact ⟨World.block_lt_of_cell? W _ v0, v0, v1, v2⟩
  · rcases Go.WideElems.open_map Tryd.underlying88 hd4 with ⟨_, hx⟩ | ⟨bm, es, clock, m, rfl, hcs, hb, _, F, hx⟩
    · simp [Rows.laid_galley_json_short] at hx
    simp only [Prod.mk.injEq] at hx
    have hcell : W.cell? ⟨0, 0, none⟩ = some (.map (some bm)) := by
      have := World.var?_cell gShort hv4 0
      rw [Array.eq_one_of_toList hcs] at this
      simpa using this
    exact ⟨World.block_lt_of_cell? W _ hcell, ⟨bm, es, clock, hcell, lt_of_block hb, hb, fun W2 h2 r hr => lookup_short h2 F hx.1 r hr⟩, gl1, hbr.cell gBr 15 (by decide)⟩
  · refine ⟨fun W2 h2 => ?_⟩
    have e : W2.var? Tryd.prog "internal/strconv.uint64pow10" = W.var? Tryd.prog "internal/strconv.uint64pow10" := by
      simp only [World.var?, gPow, Option.bind_some, h2.block _ gl2]
    exact e.trans hpow
end Go.Proofs.YtknmbfkpclacgaaDoor
