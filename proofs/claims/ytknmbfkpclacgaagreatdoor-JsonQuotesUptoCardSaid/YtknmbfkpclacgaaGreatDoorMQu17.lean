import Derived.Test.YtknmbfkpclacgaaGreatDoorMQu16
import Derived.Lib.SlBytesConst
import Derived.Test.YtknmbfkpclacgaaGreatDoorRows
import Derived.Lib.LaidTab
import Derived.Maps.Keyed
import Derived.LaidMore
import Derived.MakeChecks
import Derived.Maps.StringElems
/- The tables that the program's start lays; a tree that Parse made is read; the laws' fixed part: the walk. -/
set_option linter.unusedSimpArgs false
namespace Go.Proofs.YtknmbfkpclacgaaGreatDoor
open Go.RowKit

/-- What the program's start has laid. -/
structure Gs (w : World) (B : Nat) : Prop where
  letters : LetOk w B
  bad : BadOk w B
  short : ShortOk w B
  num : NumOk w B
theorem Gs.keep {w w' : World} {B : Nat} (h : Gs w B) (hb : Below B w w') : Gs w' B := ⟨h.letters.keep hb, h.bad.keep hb, h.short.keep hb, h.num.keep hb⟩

theorem LetOk.mono {w : World} {B B' : Nat} (h : LetOk w B) (hB : B ≤ B') : LetOk w B' := by
  obtain ⟨hg, mb, es, clock, h1, h2, h3, h4⟩ := h
  exact ⟨by omega, mb, es, clock, h1, by omega, h3, h4⟩
theorem BadOk.mono {w : World} {B B' : Nat} (h : BadOk w B) (hB : B ≤ B') : BadOk w B' := ⟨Nat.lt_of_lt_of_le h.g hB, h.c0, h.c1, h.c2⟩
theorem own_ro {w : World} {base : Nat} {e : TypeId} {size n : Nat} {v : Value} {xs : List Value} (h : w.ownsRow base e size v n xs) : ∃ A c, v = .slice A n c ∧ Ro w w.heap.size A xs ∧ n ≤ c := by
  rcases h.2 with ⟨rfl, rfl⟩ | ⟨g, cap, cur, rfl, hb, hg, hn, hm, hs, ht⟩
  · refine ⟨none, 0, rfl, fun hp => ?_, by omega⟩
    have := h.1
    simp at this
    rw [this] at hp
    simp at hp
  · refine ⟨_, cap, rfl, fun hp => ⟨g, 0, rfl, lt_of_block hg, fun j x hj => ?_⟩, hn⟩
    rw [cell_of_row _ _ _ _ _ _ hg, Nat.zero_add]
    have hl := h.1
    rw [← ht, List.getElem?_take] at hj
    split at hj
    · rw [← Array.getElem?_toList]; exact hj
    · cases hj
def KL (v : JV) : Prop := v.kids.length ≤ 140737488355328 ∧ v.names.length ≤ 140737488355328
theorem VR.rd {base : Nat} {w : World} {x : VC} {v : JV} (h : VR base w x v) (hk : KL v) : VRd w w.heap.size x v := by
  obtain ⟨A1, c1, e1, r1, _⟩ := own_ro h.kids
  obtain ⟨A2, c2, e2, r2, _⟩ := own_ro h.names
  exact ⟨h.kind, h.truth, h.n, h.text, ⟨A1, c1, e1, r1⟩, ⟨A2, c2, e2, r2⟩, hk.1, hk.2⟩
theorem VRs.rd {base : Nat} {w : World} : ∀ {xs : List VC} {t : List JV}, VRs base w xs t → (∀ v ∈ t, KL v) → ∀ i (h : i < t.length) (h2 : i < xs.length), VRd w w.heap.size xs[i] t[i]
  | [], [], _, _, i, h, _ => by simp at h
  | x :: xs, v :: vs, hv, hk, 0, _, _ => hv.1.rd (hk v (by simp))
  | x :: xs, v :: vs, hv, hk, i + 1, h, h2 => VRs.rd hv.2 (fun u hu => hk u (by simp [hu])) i (by simpa using h) (by simpa using h2)
  | [], _ :: _, hv, _, _, _, _ => hv.elim
  | _ :: _, [], hv, _, _, _, _ => hv.elim
/-- A tree that Parse made can be read. -/
theorem TR.rd {base : Nat} {w : World} {tv : Value} {xs : List VC} {t : List JV} (h : TR base w tv xs t) (hl : t.length ≤ 1000000000000) (hk : ∀ v ∈ t, KL v) : ∃ A c, tv = .slice A t.length c ∧ t.length ≤ c ∧ TRd w w.heap.size A xs t := by
  obtain ⟨A, c, e, r, hc⟩ := own_ro h.own
  exact ⟨A, c, e, hc, r, h.vals.length, hl, fun i hi => h.vals.rd hk i hi _⟩
theorem parseJ_len {l : List UInt8} {t : List JV} (h : parseJ l = .ok t) : t.length ≤ l.length ∧ l.length ≤ 268435456 := by
  unfold parseJ at h
  split at h
  · cases h
  · rename_i hl
    split at h
    · cases h
    · rename_i p j t' hv
      obtain ⟨h1, h2, ⟨n, h3, h4⟩, h5⟩ := (grew_all l _).1 _ _ _ _ _ _ hv
      split at h
      · cases h
      · simp only [Except.ok.injEq] at h
        subst h
        rw [h3]
        simp
        omega
/-- Parse, of a text that holds a tree. -/
theorem parse_ok (A : Option Addr) (cap : Nat) (l : List UInt8) (t : List JV) (ht : parseJ l = .ok t) (w : World) (B : Nat) (hBw : B ≤ w.heap.size) (hb : Bs w w.heap.size A l) (hcap : l.length ≤ cap) (hG : Gs w B) :
    Calls Tryz.prog 18 #[.slice A l.length cap] w fun e w' => ∃ tv xs, e = .returned (.tuple #[tv, .int .i64 0, .int .i64 0]) ∧ TR w.heap.size w' tv xs t ∧ Chg (fun _ => False) w w' := by
  refine (parse_any A cap l w hb hcap (hG.letters.mono hBw) (hG.bad.mono hBw)).mono ?_
  intro e w' h
  unfold PPost at h
  rw [ht] at h
  exact h
theorem parse_bad (A : Option Addr) (cap : Nat) (l : List UInt8) (f : Flt) (ht : parseJ l = .error f) (w : World) (B : Nat) (hBw : B ≤ w.heap.size) (hb : Bs w w.heap.size A l) (hcap : l.length ≤ cap) (hG : Gs w B) :
    Calls Tryz.prog 18 #[.slice A l.length cap] w fun e w' => e = .returned (.tuple #[.slice none 0 0, .int .i64 f.1, .int .i64 f.2]) ∧ Chg (fun _ => False) w w' := by
  refine (parse_any A cap l w hb hcap (hG.letters.mono hBw) (hG.bad.mono hBw)).mono ?_
  intro e w' h
  unfold PPost at h
  rw [ht] at h
  exact h
def u8s (l : List UInt8) : Array Value := (l.map fun c => Value.int .u8 (c.toNat : Int)).toArray
theorem Bs.lit (w : World) (l : List UInt8) (e : TypeId) (fr : Nat × Nat) (hl : l.length ≤ 140737488355328) : Bs (w.alloc (.cells (u8s l) e fr)) (w.alloc (.cells (u8s l) e fr)).heap.size (some ⟨w.heap.size, 0, none⟩) l :=
  ⟨hl, fun _ => ⟨w.heap.size, 0, rfl, by rw [World.size_alloc]; omega, fun j hj => by
    rw [cell_of_row _ _ _ _ _ _ (heap_alloc_new w _), Nat.zero_add]
    simp [u8s, pk, List.getD_eq_getElem?_getD, hj]⟩⟩

/-! ### fixed -/
def fT : List UInt8 := [91, 49, 44, 123, 34, 97, 34, 58, 110, 117, 108, 108, 125, 93]
def fV : List JV := [jNum 1, jNull, jObj [1] [[97]], jList [0, 2]]
def fB : List UInt8 := [91, 49, 44, 93]
def fQ : List UInt8 := [97, 34, 92, 1, 10, 195, 169]
theorem fT_parse : parseJ fT = .ok fV := by kernel_rfl
theorem fB_parse : parseJ fB = .error (3, 240) := by kernel_rfl
theorem fV_may : mayJ fV = 0 := by kernel_rfl
theorem fV_tx : tx fV = fT := by kernel_rfl
theorem fQ_qtx : qtx fQ = [34, 97, 92, 34, 92, 92, 92, 117, 48, 48, 48, 49, 92, 110, 195, 169, 34] := by kernel_rfl
theorem fQ_qerr : qerr fQ = 0 := by kernel_rfl
theorem fV_get2 : getJ fV 2 [97] = 1 := by kernel_rfl
theorem fV_get3 : getJ fV 3 [97] = -1 := by kernel_rfl
theorem fV_kl : ∀ v ∈ fV, KL v := by
  intro v hv
  simp only [fV, List.mem_cons, List.mem_nil_iff, or_false] at hv
  rcases hv with rfl | rfl | rfl | rfl <;> exact ⟨by decide, by decide⟩
theorem fV_sm : Sm fV := by
  have key : ∀ v ∈ fV, VSm v := by
    intro v hv
    simp only [fV, List.mem_cons, List.mem_nil_iff, or_false] at hv
    rcases hv with rfl | rfl | rfl | rfl <;> exact ⟨by decide, by decide, by decide⟩
  exact fun j hj => key _ (List.getElem_mem hj)

theorem fT_conv (w : World) : (convert 22 22 (.slice (some ⟨w.heap.size, 0, none⟩) 14 14)).run Tryz.prog (w.alloc (.cells #[.int .u8 91, .int .u8 49, .int .u8 44, .int .u8 123, .int .u8 34, .int .u8 97, .int .u8 34, .int .u8 58, .int .u8 110, .int .u8 117, .int .u8 108, .int .u8 108, .int .u8 125, .int .u8 93] 5)) = .ok (.slice (some ⟨w.heap.size, 0, none⟩) 14 14) (w.alloc (.cells (u8s fT) 5 (14, 15))) :=
  Lib.run_convert_bytes_const w 22 5 _ 14 14 Tryz.underlying22 Tryz.underlying5
theorem fB_conv (w : World) : (convert 22 22 (.slice (some ⟨w.heap.size, 0, none⟩) 4 4)).run Tryz.prog (w.alloc (.cells #[.int .u8 91, .int .u8 49, .int .u8 44, .int .u8 93] 5)) = .ok (.slice (some ⟨w.heap.size, 0, none⟩) 4 4) (w.alloc (.cells (u8s fB) 5 (4, 5))) :=
  Lib.run_convert_bytes_const w 22 5 _ 4 4 Tryz.underlying22 Tryz.underlying5

set_option maxRecDepth 100000 in
set_option maxHeartbeats 4000000 in
theorem fixed_any (w : World) (B : Nat) (hB : B ≤ w.heap.size) (hG : Gs w B) :
    Calls Tryz.prog 17 #[] w fun e w' => e = .returned (.bool true) ∧ Chg (fun _ => False) w w' := by
  have HG := Lib.hid hG
  have hal : Chg (fun _ => False) w (w.alloc (.cells (u8s fT) 5 (14, 15))) := (Chg.refl _ w).alloc _
  have hp1 := parse_ok (some ⟨w.heap.size, 0, none⟩) 14 fT fV fT_parse _ B (Nat.le_trans hB hal.size) (Bs.lit w fT 5 (14, 15) (by decide)) (by decide) (hG.keep (hal.below hB (fun _ h => h.elim)))
  rw [show fT.length = 14 from rfl] at hp1
  have HP1 := Lib.hid hp1
  have HAL := Lib.hid hal
  have hcv := fT_conv w
  clear hG hp1 hal
  go_enter Tryz.func17, Tryz.ntmps17
  go_wp2_with fail
  refine HP1.out.mono ?_
  rintro e w2 ⟨tv, xs, rfl, hTR, hch2⟩
  obtain ⟨A, c, rfl, _, hT⟩ := hTR.rd (by decide) fV_kl
  have hc2 := HAL.out.trans hch2
  have htx := jtext_any fV A c w2.heap.size xs w2 hT (Nat.le_refl _) fV_sm ((HG.out.keep (hc2.below hB (fun _ h => h.elim))).short.mono (Nat.le_trans hB hc2.size)) ((HG.out.keep (hc2.below hB (fun _ h => h.elim))).num.mono (Nat.le_trans hB hc2.size)) (by rw [fV_tx]; decide)
  rw [fV_tx, fV_may, show fV.length = 4 from rfl] at htx
  rw [show fV.length = 4 from rfl]
  have HT := Lib.hid hT
  have HC2 := Lib.hid hc2
  have HTX := Lib.hid htx
  clear hTR hch2 hT hc2 HP1 HAL htx hcv
  go_wp2_with fail
  refine HTX.out.mono ?_
  rintro e w3 ⟨rfl, hch3⟩
  have hc3 := HC2.out.trans hch3
  have hqu := jquote_any fQ w3 ((HG.out.keep (hc3.below hB (fun _ h => h.elim))).short.mono (Nat.le_trans hB hc3.size)) (by decide)
  rw [fQ_qtx, fQ_qerr] at hqu
  have HQU := Lib.hid hqu
  have HCH3 := Lib.hid hch3
  have HC3 := Lib.hid hc3
  clear hch3 hc3 hqu HTX
  go_wp2_with fail
  refine HQU.out.mono ?_
  rintro e w4 ⟨rfl, hch4⟩
  have hal4 : Chg (fun _ => False) w4 (w4.alloc (.cells (u8s fB) 5 (4, 5))) := (Chg.refl _ w4).alloc _
  have hc4 := (HC3.out.trans hch4).trans hal4
  have hp2 := parse_bad (some ⟨w4.heap.size, 0, none⟩) 4 fB (3, 240) fB_parse _ B (Nat.le_trans hB hc4.size) (Bs.lit w4 fB 5 (4, 5) (by decide)) (by decide) (HG.out.keep (hc4.below hB (fun _ h => h.elim)))
  rw [show fB.length = 4 from rfl] at hp2
  have HP2 := Lib.hid hp2
  have hcv := fB_conv w4
  have HX := Lib.hid (And.intro hch4 (And.intro hal4 hc4))
  clear hch4 hal4 hc4 hp2 HQU
  go_wp2_with fail
  refine HP2.out.mono ?_
  rintro e w5 ⟨rfl, hch5⟩
  have h25 : Chg (fun _ => False) w2 w5 := ((HCH3.out.trans HX.out.1).trans HX.out.2.1).trans hch5
  have hc5 := HX.out.2.2.trans hch5
  have hT5 := HT.out.keep (h25.below (Nat.le_refl _) (fun _ h => h.elim))
  have hg1 := jget_any fV 2 [97] A c w2.heap.size xs w5 hT5 h25.size fV_sm
  rw [fV_get2, show fV.length = 4 from rfl] at hg1
  have hg2 := fun (W : World) (hW : Chg (fun _ => False) w5 W) => jget_any fV 3 [97] A c w2.heap.size xs W (hT5.keep (hW.below h25.size (fun _ h => h.elim))) (Nat.le_trans h25.size hW.size) fV_sm
  rw [fV_get3, show fV.length = 4 from rfl] at hg2
  have HG1 := Lib.hid hg1
  have HG2 := Lib.hid hg2
  have HC5 := Lib.hid hc5
  clear h25 hc5 hT5 hg1 hg2 hch5 HP2 hcv
  go_wp2_with fail
  refine HG1.out.mono ?_
  rintro e w6 ⟨rfl, hch6⟩
  go_wp2_with fail
  refine (HG2.out w6 hch6).mono ?_
  rintro e w7 ⟨rfl, hch7⟩
  go_wp2_with fail
  go_ret
  exact ⟨rfl, (HC5.out.trans hch6).trans hch7⟩
end Go.Proofs.YtknmbfkpclacgaaGreatDoor

/- What the row's list of laid variables gives: the tables that the walks read (Gs). -/
set_option linter.unusedSimpArgs false
namespace Go.Proofs.YtknmbfkpclacgaaGreatDoor
open Go.ChangeShapes Go.WideShapes Go.RowKit
open Go.WideElems (elemAt Fit)

theorem gShort : Tryz.prog.globalNamed "galley/json.short" = some 0 := by kernel_rfl
theorem gLetters : Tryz.prog.globalNamed "galley/json.letters" = some 3 := by kernel_rfl
theorem gPow : Tryz.prog.globalNamed "internal/strconv.uint64pow10" = some 4 := by kernel_rfl
theorem gBad : Tryz.prog.globalNamed "galley/step.bad" = some 5 := by kernel_rfl
theorem gBr : Tryz.prog.globalNamed "math/bits.deBruijn64tab" = some 7 := by kernel_rfl
theorem tShort : (Tryz.prog.globals[0]?).map (·.type) = some 195 := by kernel_rfl
theorem tLetters : (Tryz.prog.globals[3]?).map (·.type) = some 255 := by kernel_rfl
theorem tPow : (Tryz.prog.globals[4]?).map (·.type) = some 288 := by kernel_rfl
theorem tBad : (Tryz.prog.globals[5]?).map (·.type) = some 117 := by kernel_rfl
theorem tBr : (Tryz.prog.globals[7]?).map (·.type) = some 296 := by kernel_rfl

def laidList : List (String × DataW Unit) := [("math/bits.deBruijn32tab", Rows.laid_math_bits_deBruijn32tab), ("math/bits.deBruijn64tab", Rows.laid_math_bits_deBruijn64tab), ("internal/strconv.uint64pow10", Rows.laid_internal_strconv_uint64pow10), ("galley/step.bad", Rows.laid_galley_step_bad), ("galley/json.short", Rows.laid_galley_json_short), ("galley/json.letters", Rows.laid_galley_json_letters)]
theorem letters_at (c : UInt8) : (Rows.laid_galley_json_letters (H := Unit)).atKey (.int .u8 (c.toNat : Int)) .nil = (match letter c with | some r => .lit (.int .i32 ((r : Nat) : Int)) | none => .nil) := by
  have hne : ∀ n : Nat, n < 256 → c ≠ UInt8.ofNat n → decide ((n : Int) = (c.toNat : Int)) = false := fun n hn h => by
    refine decide_eq_false ?_
    intro e
    apply h
    have : n = c.toNat := by omega
    rw [this]
    simp
  by_cases h1 : c = 34
  · subst h1; rfl
  by_cases h2 : c = 47
  · subst h2; rfl
  by_cases h3 : c = 92
  · subst h3; rfl
  by_cases h4 : c = 98
  · subst h4; rfl
  by_cases h5 : c = 102
  · subst h5; rfl
  by_cases h6 : c = 110
  · subst h6; rfl
  by_cases h7 : c = 114
  · subst h7; rfl
  by_cases h8 : c = 116
  · subst h8; rfl
  have e1 : decide ((34 : Int) = (c.toNat : Int)) = false := hne 34 (by omega) h1
  have e2 : decide ((47 : Int) = (c.toNat : Int)) = false := hne 47 (by omega) h2
  have e3 : decide ((92 : Int) = (c.toNat : Int)) = false := hne 92 (by omega) h3
  have e4 : decide ((98 : Int) = (c.toNat : Int)) = false := hne 98 (by omega) h4
  have e5 : decide ((102 : Int) = (c.toNat : Int)) = false := hne 102 (by omega) h5
  have e6 : decide ((110 : Int) = (c.toNat : Int)) = false := hne 110 (by omega) h6
  have e7 : decide ((114 : Int) = (c.toNat : Int)) = false := hne 114 (by omega) h7
  have e8 : decide ((116 : Int) = (c.toNat : Int)) = false := hne 116 (by omega) h8
  have hl : letter c = none := by
    unfold letter
    rw [if_neg h1, if_neg h3, if_neg h2, if_neg h4, if_neg h5, if_neg h6, if_neg h7, if_neg h8]
  rw [hl]
  simp [Rows.laid_galley_json_letters, DataW.atKey, List.find?, Lit.sameKey, e1, e2, e3, e4, e5, e6, e7, e8]
theorem short_at (r : Nat) : (Rows.laid_galley_json_short (H := Unit)).atKey (.int .i32 (r : Int)) .nil = (match shortN r with | some s => .lit (.string s) | none => .nil) := by
  by_cases h1 : r = 8
  · subst h1; rfl
  by_cases h2 : r = 9
  · subst h2; rfl
  by_cases h3 : r = 10
  · subst h3; rfl
  by_cases h4 : r = 12
  · subst h4; rfl
  by_cases h5 : r = 13
  · subst h5; rfl
  by_cases h6 : r = 34
  · subst h6; rfl
  by_cases h7 : r = 92
  · subst h7; rfl
  have hne : ∀ n : Nat, r ≠ n → decide ((n : Int) = (r : Int)) = false := fun n h => by
    refine decide_eq_false ?_
    omega
  have e1 : decide ((8 : Int) = (r : Int)) = false := hne 8 h1
  have e2 : decide ((9 : Int) = (r : Int)) = false := hne 9 h2
  have e3 : decide ((10 : Int) = (r : Int)) = false := hne 10 h3
  have e4 : decide ((12 : Int) = (r : Int)) = false := hne 12 h4
  have e5 : decide ((13 : Int) = (r : Int)) = false := hne 13 h5
  have e6 : decide ((34 : Int) = (r : Int)) = false := hne 34 h6
  have e7 : decide ((92 : Int) = (r : Int)) = false := hne 92 h7
  have hl : shortN r = none := by
    unfold shortN
    split
    · rename_i hr
      have st : ∀ n : Nat, n < 128 → r ≠ n → UInt8.ofNat r ≠ UInt8.ofNat n := fun n hn hrn e => by
        have := congrArg UInt8.toNat e
        simp at this
        omega
      show shortJ (UInt8.ofNat r) = none
      have s34 : UInt8.ofNat r ≠ 34 := st 34 (by omega) h6
      have s92 : UInt8.ofNat r ≠ 92 := st 92 (by omega) h7
      have s8 : UInt8.ofNat r ≠ 8 := st 8 (by omega) h1
      have s9 : UInt8.ofNat r ≠ 9 := st 9 (by omega) h2
      have s10 : UInt8.ofNat r ≠ 10 := st 10 (by omega) h3
      have s12 : UInt8.ofNat r ≠ 12 := st 12 (by omega) h4
      have s13 : UInt8.ofNat r ≠ 13 := st 13 (by omega) h5
      unfold shortJ
      rw [if_neg s34, if_neg s92, if_neg s8, if_neg s9, if_neg s10, if_neg s12, if_neg s13]
    · rfl
  rw [hl]
  simp [Rows.laid_galley_json_short, DataW.atKey, List.find?, Lit.sameKey, e1, e2, e3, e4, e5, e6, e7]
theorem lookup_letters {W : World} {mb : Nat} {es : Array MapEntry} {clock n : Nat} {sp : Nat → Bool} {held : Bool} {enc : TypeId × Value → Unit} {W0 : World} {base : Nat} (hb : W.heap[mb]? = some (.map es clock)) (F : Fit Tryz.prog 5 (elemAt enc Tryz.prog W0 base sp held n 21) es clock)
    (hx : (Rows.laid_galley_json_letters (H := Unit)) = .map ((es.toList.map (Go.WideElems.rg Tryz.prog 5 (elemAt enc Tryz.prog W0 base sp held n 21))).foldr DataW.insert [])) (c : UInt8) :
    (Instr.lookup 255 (.map (some mb)) (.int .u8 (c.toNat : Int)) true).run Tryz.prog W = .ok (.tuple #[.int .i32 (((letter c).getD 0 : Nat) : Int), .bool (letter c).isSome]) W := by
  have zero : (zeroValue 21).run Tryz.prog W = .ok (.int .i32 0) W := by kernel_rfl
  have hlt := c.toNat_lt
  have hkey : keyOf Tryz.prog 5 (.int .u8 (c.toNat : Int)) = some (.int .u8 (c.toNat : Int)) := Go.Maps.keyOf_int_mk Tryz.underlying5 (by
    have m1 : IntKind.u8.min = 0 := rfl
    have m2 : IntKind.u8.max = 255 := rfl
    simp [Lit.wf, m1, m2]
    omega)
  have hat0 := letters_at c
  rw [hx] at hat0
  rcases Go.Maps.fit_look (w := W) true (Go.Maps.int_keyed Tryz.underlying5) Tryz.underlying255 zero hb F hkey with ⟨hrun, _, hat⟩ | ⟨e0, y, _, _, hrun, hRv, hat, _⟩
  · rw [hat .nil] at hat0
    cases hl : letter c with
    | none => exact hrun
    | some r => rw [hl] at hat0; cases hat0
  · obtain ⟨a, hv, rfl, _⟩ := Go.WideElems.elemAt_int Tryz.underlying21 hRv
    rw [hat .nil] at hat0
    cases hl : letter c with
    | none => rw [hl] at hat0; cases hat0
    | some r =>
      rw [hl] at hat0
      cases hat0
      rw [hv] at hrun
      exact hrun
theorem lookup_short {W : World} {mb : Nat} {es : Array MapEntry} {clock n : Nat} {sp : Nat → Bool} {held : Bool} {enc : TypeId × Value → Unit} {W0 : World} {base : Nat} (hb : W.heap[mb]? = some (.map es clock)) (F : Fit Tryz.prog 21 (elemAt enc Tryz.prog W0 base sp held n 9) es clock)
    (hx : (Rows.laid_galley_json_short (H := Unit)) = .map ((es.toList.map (Go.WideElems.rg Tryz.prog 21 (elemAt enc Tryz.prog W0 base sp held n 9))).foldr DataW.insert [])) (r : Nat) (hr : r ≤ 0x10FFFF) :
    (Instr.lookup 195 (.map (some mb)) (.int .i32 (r : Int)) true).run Tryz.prog W = .ok (.tuple #[.string ⟨((shortN r).getD []).toArray⟩, .bool (shortN r).isSome]) W := by
  have zero : (zeroValue 9).run Tryz.prog W = .ok (.string ⟨#[]⟩) W := by kernel_rfl
  have hkey : keyOf Tryz.prog 21 (.int .i32 (r : Int)) = some (.int .i32 (r : Int)) := Go.Maps.keyOf_int_mk Tryz.underlying21 (by
    have m1 : IntKind.i32.min = -2147483648 := rfl
    have m2 : IntKind.i32.max = 2147483647 := rfl
    simp [Lit.wf, m1, m2]
    omega)
  have hat0 := short_at r
  rw [hx] at hat0
  rcases Go.Maps.fit_look (w := W) true (Go.Maps.int_keyed Tryz.underlying21) Tryz.underlying195 zero hb F hkey with ⟨hrun, _, hat⟩ | ⟨e0, y, _, _, hrun, hRv, hat, _⟩
  · rw [hat .nil] at hat0
    cases hl : shortN r with
    | none => exact hrun
    | some r => rw [hl] at hat0; cases hat0
  · obtain ⟨str, hv, rfl, _⟩ := WideElems.elemAt_string Tryz.underlying9 hRv
    rw [hat .nil] at hat0
    cases hl : shortN r with
    | none => rw [hl] at hat0; cases hat0
    | some q =>
      rw [hl] at hat0
      simp only [DataW.lit.injEq, Lit.string.injEq] at hat0
      rw [hv] at hrun
      have e : (⟨q.toArray⟩ : ByteArray) = str := by
        apply ByteArray.ext
        rw [← hat0]
      show _ = Result.ok (Value.tuple #[.string ⟨q.toArray⟩, .bool true]) W
      rw [e]
      exact hrun
set_option maxRecDepth 100000 in
/-- What the row's condition gives. -/
theorem gs_of_laid {W : World} (h : laidMetH Tryz.prog laidList W) : Gs W W.heap.size := by
  rw [MakeChecks.laidMetH_plain _ _ _ (by kernel_rfl)] at h
  obtain ⟨ps, ⟨g0, t0, cs0, f0, p0, q0, hg0, ht0, hv0, hd0, ⟨g1, t1, cs1, f1, p1, q1, hg1, ht1, hv1, hd1, ⟨g2, t2, cs2, f2, p2, q2, hg2, ht2, hv2, hd2, ⟨g3, t3, cs3, f3, p3, q3, hg3, ht3, hv3, hd3, ⟨g4, t4, cs4, f4, p4, q4, hg4, ht4, hv4, hd4, ⟨g5, t5, cs5, f5, p5, q5, hg5, ht5, hv5, hd5, _, _⟩, _⟩, _⟩, _⟩, _⟩, _⟩, _, _⟩ := h
  obtain rfl := Option.some.inj (gBr.symm.trans hg1)
  obtain rfl := Option.some.inj (gPow.symm.trans hg2)
  obtain rfl := Option.some.inj (gBad.symm.trans hg3)
  obtain rfl := Option.some.inj (gShort.symm.trans hg4)
  obtain rfl := Option.some.inj (gLetters.symm.trans hg5)
  obtain rfl := Option.some.inj (tBr.symm.trans ht1)
  obtain rfl := Option.some.inj (tPow.symm.trans ht2)
  obtain rfl := Option.some.inj (tBad.symm.trans ht3)
  obtain rfl := Option.some.inj (tShort.symm.trans ht4)
  obtain rfl := Option.some.inj (tLetters.symm.trans ht5)
  clear hg0 ht0 hv0 hd0
  have c5 : Tryz.prog.cellsOf 5 = 1 := by kernel_rfl
  have c64 : Tryz.prog.cellsOf 296 = 64 := by kernel_rfl
  have cu : Tryz.prog.cellsOf 268 = 1 := by kernel_rfl
  have c20 : Tryz.prog.cellsOf 288 = 20 := by kernel_rfl
  have hbr : Lib.TabIs Tryz.prog W "math/bits.deBruijn64tab" .u8 [0, 1, 56, 2, 57, 49, 28, 3, 61, 58, 42, 50, 38, 29, 17, 4, 62, 47, 59, 36, 45, 43, 51, 22, 53, 39, 33, 30, 24, 18, 12, 5, 63, 55, 48, 27, 60, 41, 37, 16, 46, 35, 44, 21, 52, 32, 23, 11, 54, 26, 40, 15, 34, 20, 31, 10, 25, 14, 19, 9, 13, 8, 7, 6] := by
    have := Lib.cells_of_tab (zs := [0, 1, 56, 2, 57, 49, 28, 3, 61, 58, 42, 50, 38, 29, 17, 4, 62, 47, 59, 36, 45, 43, 51, 22, 53, 39, 33, 30, 24, 18, 12, 5, 63, 55, 48, 27, 60, 41, 37, 16, 46, 35, 44, 21, 52, 32, 23, 11, 54, 26, 40, 15, 34, 20, 31, 10, 25, 14, 19, 9, 13, 8, 7, 6]) Tryz.underlying296 Tryz.underlying5 c5 c64 hd1
    unfold Lib.TabIs
    rw [hv1, ← this]
  have hpow : Lib.TabIs Tryz.prog W "internal/strconv.uint64pow10" .u64 Lib.pow10Tab := by
    have := Lib.cells_of_tab (zs := Lib.pow10Tab) Tryz.underlying288 Tryz.underlying268 cu c20 hd2
    unfold Lib.TabIs
    rw [hv2, ← this]
  have gl1 := World.block_lt_of_cell? W _ (hbr.cell gBr 0 (by decide))
  have gl2 := World.block_lt_of_cell? W _ (hpow.cell gPow 0 (by decide))
  simp only at gl1 gl2
  refine ⟨?_, ?_, ?_, ?_⟩
  · rcases Go.WideElems.open_map Tryz.underlying255 hd5 with ⟨_, hx⟩ | ⟨bm, es, clock, m, rfl, hcs, hb, _, F, hx⟩
    · simp [Rows.laid_galley_json_letters] at hx
    simp only [Prod.mk.injEq] at hx
    have hcell : W.cell? ⟨3, 0, none⟩ = some (.map (some bm)) := by
      have := World.var?_cell gLetters hv5 0
      rw [Array.eq_one_of_toList hcs] at this
      simpa using this
    exact ⟨World.block_lt_of_cell? W _ hcell, bm, es, clock, hcell, lt_of_block hb, hb, fun W2 h2 c => lookup_letters h2 F hx.1 c⟩
  · obtain ⟨xs, n, _, hx, hlen, hxl, hel⟩ := DataW.trod_struct Tryz.underlying117 hd3
    have c3 : Tryz.prog.cellsOf 117 = 3 := by kernel_rfl
    have ci : Tryz.prog.cellsOf 21 = 1 := by kernel_rfl
    have cn : Tryz.prog.cellsOf 3 = 1 := by kernel_rfl
    have cb : Tryz.prog.cellsOf 4 = 1 := by kernel_rfl
    rw [c3] at hlen
    obtain ⟨l3⟩ := cs3
    match l3, hlen, xs, hxl, hx, hel with
    | [a, b, c], _, [x0, x1, x2], _, hx, hel =>
      have h0 := hel 0 _ rfl
      have h1 := hel 1 _ rfl
      have h2 := hel 2 _ rfl

      simp only [Rows.laid_galley_step_bad, Prod.mk.injEq, DataW.agg.injEq, List.map_cons, List.map_nil, List.cons.injEq, and_true] at hx
      obtain ⟨⟨e0, e1, e2⟩, _⟩ := hx
      obtain ⟨k0, q0, z0, _⟩ := DataW.trod_int Tryz.underlying21 (show DataW.trod _ Tryz.prog W 0 _ false n 21 _ = some x0 from h0)
      obtain ⟨k1, q1, z1, _⟩ := DataW.trod_int Tryz.underlying3 (show DataW.trod _ Tryz.prog W 0 _ false n 3 _ = some x1 from h1)
      obtain ⟨k2, q2, z2⟩ := DataW.trod_bool Tryz.underlying4 (show DataW.trod _ Tryz.prog W 0 _ false n 4 _ = some x2 from h2)
      simp [ci, cn, cb] at q0 q1 q2
      subst z0 z1 z2 q0 q1 q2
      simp at e0 e1 e2
      subst e0 e1 e2
      have v0 := World.var?_cell gBad hv3 0
      have v1 := World.var?_cell gBad hv3 1
      have v2 := World.var?_cell gBad hv3 2
      simp at v0 v1 v2
      exact ⟨World.block_lt_of_cell? W _ v0, v0, v1, v2⟩
  · rcases Go.WideElems.open_map Tryz.underlying195 hd4 with ⟨_, hx⟩ | ⟨bm, es, clock, m, rfl, hcs, hb, _, F, hx⟩
    · simp [Rows.laid_galley_json_short] at hx
    simp only [Prod.mk.injEq] at hx
    have hcell : W.cell? ⟨0, 0, none⟩ = some (.map (some bm)) := by
      have := World.var?_cell gShort hv4 0
      rw [Array.eq_one_of_toList hcs] at this
      simpa using this
    exact ⟨World.block_lt_of_cell? W _ hcell, ⟨bm, es, clock, hcell, lt_of_block hb, hb, fun W2 h2 r hr => lookup_short h2 F hx.1 r hr⟩, gl1, hbr.cell gBr 15 (by decide)⟩
  · refine ⟨fun W2 h2 => ?_⟩
    have e : W2.var? Tryz.prog "internal/strconv.uint64pow10" = W.var? Tryz.prog "internal/strconv.uint64pow10" := by
      simp only [World.var?, gPow, Option.bind_some, h2.block _ gl2]
    exact e.trans hpow
end Go.Proofs.YtknmbfkpclacgaaGreatDoor
