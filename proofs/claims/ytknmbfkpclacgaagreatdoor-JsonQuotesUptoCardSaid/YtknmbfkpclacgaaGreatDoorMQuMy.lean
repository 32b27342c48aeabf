import Derived.Test.YtknmbfkpclacgaaGreatDoorMQu14
import Derived.Test.YtknmbfkpclacgaaGreatDoorMQu10
import Derived.Lib.OwnBridge
import Derived.Sort.OwnSorted
import Derived.Laws.EntriesVeiled
/- json.may: sorting a value's names; the trees' ContainsFunc; may: the walks. -/
set_option linter.unusedSimpArgs false
namespace Go.Proofs.YtknmbfkpclacgaaGreatDoor
open Go.RowKit

/-- A slice of strings that a call has cloned: w0 is the world ahead of that. -/
def NS (w0 w : World) (a : Option Addr) (c : Nat) (l : List (List UInt8)) : Prop :=
  Below w0.heap.size w0 w ∧ (0 < l.length → l.length ≤ c ∧ ∃ g, a = some ⟨g, 0, none⟩ ∧ w0.heap.size ≤ g ∧ g < w.heap.size ∧ Go.Sort.Holds Go.Proofs.encStr w g 0 l.toArray)
theorem NS.drew {w0 w : World} {a : Option Addr} {c : Nat} {l : List (List UInt8)} (h : NS w0 w a c l) : NS w0 w.drew a c l := ⟨bl_drew h.1, h.2⟩
theorem strs_enc (ns : List (List UInt8)) : strs ns = ns.map Go.Proofs.encStr := rfl
theorem clone_any (ns : List (List UInt8)) (A : Option Addr) (cap B : Nat) (w : World) (hN : Ro w B A (strs ns)) (hl : ns.length * 16 ≤ 140737488355328) :
    Calls Tryz.prog 125 #[.slice A ns.length cap] w fun e w' => ∃ a c, e = .returned (.slice a ns.length c) ∧ NS w w' a c ns := by
  by_cases h0 : ns.length = 0
  · have hnil : ns = [] := List.length_eq_zero_iff.1 h0
    subst hnil
    cases A with
    | none =>
      refine (Tryz.slices_Clone_string_nil 0 cap w).mono ?_
      rintro e w' ⟨rfl, rfl⟩
      exact ⟨none, 0, rfl, Below.refl _ _, fun h => by simp at h⟩
    | some a =>
      refine (Tryz.slices_Clone_string_zero a cap w).mono ?_
      rintro e w' ⟨v', rfl, hown, hne, hb⟩
      rcases hown.2 with ⟨h1, _⟩ | ⟨g, c, cur, rfl, _⟩
      · exact absurd h1 hne
      · exact ⟨_, _, rfl, hb, fun h => by simp at h⟩
  · obtain ⟨b, o, rfl, hbB, hc⟩ := hN (by rw [strs_length]; omega)
    have hm : (ns.map fun l : List UInt8 => (⟨l.toArray⟩ : ByteArray)).length = ns.length := by simp
    have h := Tryz.slices_Clone_string b o ns.length cap (ns.map fun l : List UInt8 => (⟨l.toArray⟩ : ByteArray)) w (by simp) hl (fun j hj => by
      have hj' : j < ns.length := by simpa using hj
      refine hc j _ ?_
      simp [strs, hj', List.getD_eq_getElem?_getD])
    refine h.mono ?_
    rintro e w' ⟨v', rfl, hown, hne, hb⟩
    have ht : (ns.map fun l : List UInt8 => (⟨l.toArray⟩ : ByteArray)).take ns.length = (ns.map fun l : List UInt8 => (⟨l.toArray⟩ : ByteArray)) := List.take_of_length_le (by simp)
    rw [ht] at hown
    have hmap : (ns.map fun l : List UInt8 => (⟨l.toArray⟩ : ByteArray)).map Value.string = ns.map Go.Proofs.encStr := by simp
    rw [hmap] at hown
    rcases hown.2 with ⟨h1, _⟩ | ⟨g, c, cur, rfl, hbase, hbk, h1, h2, h3, h4⟩
    · exact absurd h1 hne
    · refine ⟨_, _, rfl, hb, fun _ => ⟨h1, g, rfl, hbase, lt_of_block hbk, holds_of_block hbk (by simpa using h4)⟩⟩
theorem below_row {w0 w : World} {g : Nat} (h : Below w0.heap.size w0 w) (hg : w0.heap.size ≤ g) (n : Nat) (d : Array (List UInt8)) (os : Array Obj) : Below w0.heap.size w0 (Go.Sort.grow (Go.Sort.putRow Go.Proofs.encStr (Go.Sort.ahead w n) g 0 d) os) :=
  h.grown (grownBy_sorted d) h.size (fun k hk => by simp at hk; omega)
theorem sort_any (l : List (List UInt8)) (a : Option Addr) (c : Nat) (w0 w : World) (h : NS w0 w a c l) (hl : l.length < 4611686018427387904) :
    Calls Tryz.prog 126 #[.slice a l.length c] w fun e w' => e = .returned (.tuple #[]) ∧ NS w0 w' a c (l.mergeSort fun x y => decide (x ≤ y)) := by
  by_cases h0 : l.length = 0
  · have hnil : l = [] := List.length_eq_zero_iff.1 h0
    subst hnil
    refine (Tryz.slices_Sort_string_none a c w).mono ?_
    rintro e w' ⟨rfl, rfl⟩
    exact ⟨rfl, h.1, fun hh => by simp at hh⟩
  · obtain ⟨hc, g, rfl, hg, hgl, hH⟩ := h.2 (by omega)
    refine (Tryz.slices_Sort_string g 0 c l w hH hgl hl).mono ?_
    rintro e w' ⟨rfl, n, os, rfl⟩
    refine ⟨rfl, below_row h.1 hg n _ os, fun _ => ⟨by rw [List.length_mergeSort]; exact hc, g, rfl, hg, ?_, ?_⟩⟩
    · have := (below_row h.1 hg n (l.mergeSort fun x y => decide (x ≤ y)).toArray os).size
      simp [Go.Sort.grow]
      show g < w.heap.size + os.size
      omega
    · exact Go.Sort.holds_grow _ _ _ _ _ _ (by simpa using hgl) (Go.Sort.holds_putRow _ _ _ _ l.toArray _ (Go.Sort.holds_ahead _ _ _ _ _ _ hH) (by simp))
theorem compact_any (S : List (List UInt8)) (a : Option Addr) (c : Nat) (w0 w : World) (h : NS w0 w a c S) (hl : S.length ≤ 9223372036854775807) :
    Calls Tryz.prog 127 #[.slice a S.length c] w fun e w' => e = .returned (.slice a (Lib.compact S).length c) ∧ Below w0.heap.size w0 w' := by
  by_cases h0 : S.length = 0
  · have hnil : S = [] := List.length_eq_zero_iff.1 h0
    subst hnil
    refine (Tryz.slices_Compact_string_empty a c w).mono ?_
    rintro e w' ⟨rfl, rfl⟩
    exact ⟨rfl, h.1⟩
  · obtain ⟨hc, g, rfl, hg, hgl, hH⟩ := h.2 (by omega)
    refine (Tryz.slices_Compact_string g 0 c S w hH hl hc).mono ?_
    rintro e w' ⟨rfl, q, rfl⟩
    refine ⟨rfl, ?_⟩
    have := below_row h.1 hg q (Lib.compact S ++ List.replicate (S.length - (Lib.compact S).length) []).toArray #[]
    rwa [Go.Sort.grow_empty] at this

set_option maxRecDepth 100000 in
set_option maxHeartbeats 4000000 in
theorem is244_any (v : JV) (Ak : Option Addr) (ck : Nat) (An : Option Addr) (cn B : Nat) (w : World) (hN : Ro w B An (strs v.names)) (hB : B ≤ w.heap.size) (hl : v.names.length * 16 ≤ 140737488355328) :
    Calls Tryz.prog 122 #[vagg v Ak ck An cn, .int .i64 244] w fun e w' => e = .returned (.bool (!noDup v.names)) ∧ Chg (fun _ => False) w w' := by
  have hal : ∀ o, Chg (fun _ => False) w (w.alloc o) := fun o => (Chg.refl _ w).alloc o
  have HAL := Lib.hid hal
  have HN := Lib.hid hN
  clear hal hN
  go_enter Tryz.func122, Tryz.ntmps122
  go_wp2_with fail
  refine (clone_any v.names An cn B _ (HN.out.keep ((HAL.out _).below hB (fun _ h => h.elim))) hl).mono ?_
  rintro e w2 ⟨a, c, rfl, hns⟩
  go_wp2_with fail
  refine (sort_any v.names a c _ w2 hns (by omega)).mono ?_
  rintro e w3 ⟨rfl, hns3⟩
  have hsl : (v.names.mergeSort fun x y => decide (x ≤ y)).length = v.names.length := List.length_mergeSort _
  have hcm := compact_any _ a c _ w3.drew hns3.drew (by rw [hsl]; omega)
  rw [hsl] at hcm
  have hdl := dup_lt v.names
  have hb3 := hns3.1
  have hw0 : (w.alloc (.cells #[.int .i64 v.kind, .bool v.truth, .int .i64 v.n, .string ⟨v.text.toArray⟩, .slice Ak v.kids.length ck, .slice An v.names.length cn] 47)).cell? ⟨w.heap.size, 5, none⟩ = some (.slice An v.names.length cn) := by
    rw [cell_of_row _ _ _ _ _ _ (heap_alloc_new w _)]
    rfl
  have hlt0 : w.heap.size < (w.alloc (.cells #[.int .i64 v.kind, .bool v.truth, .int .i64 v.n, .string ⟨v.text.toArray⟩, .slice Ak v.kids.length ck, .slice An v.names.length cn] 47)).heap.size := by rw [World.size_alloc]; omega
  have hch0 := HAL.out (.cells #[.int .i64 v.kind, .bool v.truth, .int .i64 v.n, .string ⟨v.text.toArray⟩, .slice Ak v.kids.length ck, .slice An v.names.length cn] 47)
  generalize (w.alloc (.cells #[.int .i64 v.kind, .bool v.truth, .int .i64 v.n, .string ⟨v.text.toArray⟩, .slice Ak v.kids.length ck, .slice An v.names.length cn] 47)) = W0 at *
  have d5 : w3.drew.cell? ⟨w.heap.size, 5, none⟩ = some (.slice An v.names.length cn) := (hb3.cell (p := ⟨w.heap.size, 5, none⟩) hlt0).trans hw0
  have hkeep : ∀ w4, Below W0.heap.size W0 w4 → w4.cell? ⟨w.heap.size, 5, none⟩ = some (.slice An v.names.length cn) ∧ Chg (fun _ => False) w w4 := fun w4 h4 =>
    ⟨(h4.cell (p := ⟨w.heap.size, 5, none⟩) hlt0).trans hw0, hch0.trans (Chg.of_below' h4)⟩
  have HKP := Lib.hid hkeep
  generalize (v.names.mergeSort fun x y => decide (x ≤ y)) = S at *
  generalize (Lib.compact S).length = m at *
  have HD := Lib.hid hdl
  clear hdl hns hns3 hsl hb3 hw0 hlt0 hch0 hkeep
  go_wp2_with fail
  go_region_with ((go_at_call 127; refine hcm.mono ?_; rintro e w4 ⟨rfl, hb4⟩; have e5 := (HKP.out w4 hb4).1))
  all_goals
    go_wp2_with fail
    go_ret
    exact ⟨by rw [← HD.out]; rfl, (HKP.out _ hb4).2⟩

/-! ### the predicate over a value -/
def isJ (f : Int) (v : JV) : Bool :=
  if f = 242 then decide (v.n < -9007199254740991) || decide (9007199254740991 < v.n)
  else if f = 243 then !validL v.text || v.names.any fun s => !validL s
  else !noDup v.names
structure VOk (v : JV) : Prop where
  names : v.names.length * 16 ≤ 140737488355328
  strs : StrOk v.names
  text : v.text.length ≤ 70368744177664
theorem is_any (f : Int) (hf : f = 242 ∨ f = 243 ∨ f = 244) (v : JV) (Ak : Option Addr) (ck : Nat) (An : Option Addr) (cn B : Nat) (w : World) (hN : Ro w B An (strs v.names)) (hB : B ≤ w.heap.size) (hv : VOk v) :
    Calls Tryz.prog 122 #[vagg v Ak ck An cn, .int .i64 f] w fun e w' => e = .returned (.bool (isJ f v)) ∧ Chg (fun _ => False) w w' := by
  have h1 := hv.names
  rcases hf with rfl | rfl | rfl
  · exact is242_any v Ak ck An cn w
  · exact is243_any v Ak ck An cn B w hN hB (by omega) hv.strs hv.text
  · exact is244_any v Ak ck An cn B w hN hB hv.names
set_option maxRecDepth 100000 in
set_option maxHeartbeats 4000000 in
theorem pred_any (f : Int) (hf : f = 242 ∨ f = 243 ∨ f = 244) (v : JV) (Ak : Option Addr) (ck : Nat) (An : Option Addr) (cn B ib fb : Nat) (w : World) (hN : Ro w B An (strs v.names)) (hB : B ≤ w.heap.size) (hv : VOk v)
    (hi : w.cell? ⟨ib, 0, none⟩ = some (.func (.func 122) #[] #[])) (hfc : w.cell? ⟨fb, 0, none⟩ = some (.int .i64 f)) :
    Calls Tryz.prog 129 #[vagg v Ak ck An cn, .pointer (some ⟨ib, 0, none⟩), .pointer (some ⟨fb, 0, none⟩)] w fun e w' => e = .returned (.bool (isJ f v)) ∧ Chg (fun _ => False) w w' := by
  have hal : ∀ o, Chg (fun _ => False) w (w.alloc o) := fun o => (Chg.refl _ w).alloc o
  have hlt1 := World.block_lt_of_cell? w _ hi
  have hlt2 := World.block_lt_of_cell? w _ hfc
  simp only at hlt1 hlt2
  have hn1 : ib ≠ w.heap.size := by omega
  have hn2 : fb ≠ w.heap.size := by omega
  have HAL := Lib.hid hal
  have HN := Lib.hid hN
  have hH := fun W (h : Chg (fun _ => False) w W) => is_any f hf v Ak ck An cn B W (hN.keep (h.below hB (fun _ h => h.elim))) (Nat.le_trans hB h.size) hv
  have HH := Lib.hid hH
  have hi' : ∀ o, (w.alloc o).cell? ⟨ib, 0, none⟩ = some (.func (.func 122) #[] #[]) := fun o => (hal o).cell hi id
  have hf' : ∀ o, (w.alloc o).cell? ⟨fb, 0, none⟩ = some (.int .i64 f) := fun o => (hal o).cell hfc id
  clear hal hN hH hf
  go_enter Tryz.func129, Tryz.ntmps129
  go_wp2_with fail
  refine (HH.out _ (HAL.out _)).mono ?_
  rintro e w2 ⟨rfl, hch⟩
  go_wp2_with fail
  go_ret
  exact ⟨rfl, (HAL.out _).trans hch⟩

set_option maxRecDepth 100000 in
set_option maxHeartbeats 4000000 in
theorem idxt_any (f : Int) (hf : f = 242 ∨ f = 243 ∨ f = 244) (t : List JV) (A : Option Addr) (cap B : Nat) (xs : List VC) (ib fb : Nat) (w : World) (hT : TRd w B A xs t) (hB : B ≤ w.heap.size) (hv : ∀ j (hj : j < t.length), VOk t[j])
    (hi : w.cell? ⟨ib, 0, none⟩ = some (.func (.func 122) #[] #[])) (hfc : w.cell? ⟨fb, 0, none⟩ = some (.int .i64 f)) :
    Calls Tryz.prog 185 #[.slice A t.length cap, .func (.func 129) #[] #[.pointer (some ⟨ib, 0, none⟩), .pointer (some ⟨fb, 0, none⟩)]] w (IPost (t.any (isJ f)) w) := by
  have htl := hT.tl
  have HT := Lib.hid hT
  have HV := Lib.hid hv
  have HI := Lib.hid hi
  have HF := Lib.hid hfc
  have HFF := Lib.hid hf
  clear hT hv hi hfc hf
  go_enter Tryz.func185, Tryz.ntmps185
  go_wp2_with fail
  go_loopg [8] (t.length + 1) (fun g s8 wr => ∃ j : Nat, s8 = .int .i64 j ∧ j ≤ t.length ∧ Chg (fun _ => False) w wr ∧ (t.drop j).any (isJ f) = t.any (isJ f) ∧ t.length - j + 1 = g)
  case atStart => exact ⟨0, rfl, by omega, Chg.refl _ _, rfl, rfl⟩
  case round =>
    obtain ⟨j, rfl, hj, hch, hany, hg⟩ := hrel
    have HG := Lib.hid hg
    have HANY := Lib.hid hany
    clear hg hany
    by_cases hjt : j < t.length
    · obtain ⟨b, oo, Ak, ck, An, cn, hA, hbB, c0, c1, c2, c3, c4, c5, hkr, hnr, hkl, hnl⟩ := (HT.out.keep (hch.below hB (fun _ h => h.elim))).at j hjt
      subst hA
      have hpr := pred_any f HFF.out t[j] Ak ck An cn B ib fb wr hnr (Nat.le_trans hB hch.size) (HV.out j hjt) (hch.cell HI.out id) (hch.cell HF.out id)
      have hnx := any_drop (p := isJ f) hjt
      have hht := any_hit (p := isJ f) hjt
      generalize t[j] = v at *
      clear hkr hnr
      cases hv : isJ f v with
      | false =>
        rw [hv] at hpr hnx
        have hnx' := hnx rfl
        have HNX := Lib.hid hnx'
        clear hnx hnx' hht hv
        go_wp2_with fail
        refine hpr.mono ?_
        rintro e w2 ⟨rfl, hch2⟩
        go_wp2_with fail
        go_roundg (t.length - (j + 1) + 1)
        case measure => rw [← HG.out]; omega
        case rel => exact ⟨j + 1, int_i64 (by omega), by omega, hch.trans hch2, HNX.out.trans HANY.out, rfl⟩
      | true =>
        rw [hv] at hpr hht
        have hht' := hht rfl
        have HHT := Lib.hid hht'
        clear hnx hht hht' hv
        go_wp2_with fail
        refine hpr.mono ?_
        rintro e w2 ⟨rfl, hch2⟩
        go_wp2_with fail
        go_ret
        exact ⟨j, rfl, by rw [← HANY.out, HHT.out]; simp, by omega, by omega, hch.trans hch2⟩
    · have hdr : t.drop j = [] := List.drop_eq_nil_of_le (by omega)
      have hh := HANY.out
      rw [hdr] at hh
      have HH := Lib.hid hh
      clear hdr hh
      go_wp2_with fail
      go_ret
      exact ⟨-1, rfl, by rw [← HH.out]; rfl, by omega, by omega, hch⟩
set_option maxRecDepth 100000 in
set_option maxHeartbeats 4000000 in
theorem hast_any (f : Int) (hf : f = 242 ∨ f = 243 ∨ f = 244) (t : List JV) (A : Option Addr) (cap B : Nat) (xs : List VC) (ib fb : Nat) (w : World) (hT : TRd w B A xs t) (hB : B ≤ w.heap.size) (hv : ∀ j (hj : j < t.length), VOk t[j])
    (hi : w.cell? ⟨ib, 0, none⟩ = some (.func (.func 122) #[] #[])) (hfc : w.cell? ⟨fb, 0, none⟩ = some (.int .i64 f)) :
    Calls Tryz.prog 128 #[.slice A t.length cap, .func (.func 129) #[] #[.pointer (some ⟨ib, 0, none⟩), .pointer (some ⟨fb, 0, none⟩)]] w fun e w' => e = .returned (.bool (t.any (isJ f))) ∧ Chg (fun _ => False) w w' := by
  have h := idxt_any f hf t A cap B xs ib fb w hT hB hv hi hfc
  clear hf hT hv hi hfc
  go_enter Tryz.func128, Tryz.ntmps128
  go_wp2_with fail
  refine h.mono ?_
  rintro e w2 ⟨r, rfl, hr, _, _, hch⟩
  have HR := Lib.hid hr
  clear hr h
  go_wp2_with fail
  go_ret
  exact ⟨by rw [← HR.out]; rfl, hch⟩

theorem mayJ_hit (t : List JV) (hs : shapedJ t = true) (hd : ¬ 64 < deepJ t) (j : Nat) (hj : j < 3) (hall : ∀ i : Nat, i < j → t.any (isJ ((242 + i : Nat) : Int)) = false) (h : t.any (isJ ((242 + j : Nat) : Int)) = true) : mayJ t = ((242 + j : Nat) : Int) := by
  have hm : mayJ t = if shapedJ t = false then 240 else if 64 < deepJ t then 241 else if t.any (isJ 242) then 242 else if t.any (isJ 243) then 243 else if t.any (isJ 244) then 244 else 0 := rfl
  rw [if_neg (by rw [hs]; simp), if_neg hd] at hm
  rcases (show j = 0 ∨ j = 1 ∨ j = 2 by omega) with rfl | rfl | rfl
  · have h' : t.any (isJ 242) = true := h
    rw [if_pos h'] at hm
    exact hm
  · have h0 : t.any (isJ 242) = false := hall 0 (by omega)
    have h' : t.any (isJ 243) = true := h
    rw [if_neg (by rw [h0]; simp), if_pos h'] at hm
    exact hm
  · have h0 : t.any (isJ 242) = false := hall 0 (by omega)
    have h1 : t.any (isJ 243) = false := hall 1 (by omega)
    have h' : t.any (isJ 244) = true := h
    rw [if_neg (by rw [h0]; simp), if_neg (by rw [h1]; simp), if_pos h'] at hm
    exact hm
theorem mayJ_miss (t : List JV) (hs : shapedJ t = true) (hd : ¬ 64 < deepJ t) (hall : ∀ i : Nat, i < 3 → t.any (isJ ((242 + i : Nat) : Int)) = false) : mayJ t = 0 := by
  have hm : mayJ t = if shapedJ t = false then 240 else if 64 < deepJ t then 241 else if t.any (isJ 242) then 242 else if t.any (isJ 243) then 243 else if t.any (isJ 244) then 244 else 0 := rfl
  have h0 : t.any (isJ 242) = false := hall 0 (by omega)
  have h1 : t.any (isJ 243) = false := hall 1 (by omega)
  have h2 : t.any (isJ 244) = false := hall 2 (by omega)
  rw [if_neg (by rw [hs]; simp), if_neg hd, if_neg (by rw [h0]; simp), if_neg (by rw [h1]; simp), if_neg (by rw [h2]; simp)] at hm
  exact hm
theorem mayJ_eq (t : List JV) : mayJ t = if shapedJ t = false then 240 else if 64 < deepJ t then 241 else if t.any (isJ 242) then 242 else if t.any (isJ 243) then 243 else if t.any (isJ 244) then 244 else 0 := rfl
set_option maxRecDepth 100000 in
set_option maxHeartbeats 4000000 in
theorem may_any (t : List JV) (A : Option Addr) (cap B : Nat) (xs : List VC) (w : World) (hT : TRd w B A xs t) (hB : B ≤ w.heap.size) (hv : ∀ j (hj : j < t.length), VOk t[j]) :
    Calls Tryz.prog 56 #[.slice A t.length cap] w fun e w' => e = .returned (.int .i64 (mayJ t)) ∧ Chg (fun _ => False) w w' := by
  have hm := mayJ_eq t
  have HM := Lib.hid hm
  have HT := Lib.hid hT
  have HV := Lib.hid hv
  have hsha := shaped_any t A cap B xs w hT hB
  clear hm hT hv
  go_enter Tryz.func56, Tryz.ntmps56
  go_wp2_with fail
  refine hsha.mono ?_
  rintro e w2 ⟨rfl, hch2⟩
  cases hs : shapedJ t with
  | false =>
    have HS := Lib.hid hs
    clear hs hsha
    go_wp2_with fail
    go_ret
    exact ⟨by rw [HM.out, if_pos HS.out]; rfl, hch2⟩
  | true =>
    have HS := Lib.hid hs
    have hdee := deep_any t A cap B xs w2 (HT.out.keep (hch2.below hB (fun _ h => h.elim))) (Nat.le_trans hB hch2.size) hs
    clear hs hsha
    go_wp2_with fail
    refine hdee.mono ?_
    rintro e w3 ⟨rfl, hch3'⟩
    have hch3 := hch2.trans hch3'
    by_cases hd : 64 < deepJ t
    · have HD := Lib.hid hd
      have hd' : ((64 : Int) < (deepJ t : Nat)) := by omega
      clear hd hch2 hch3' hdee
      go_wp2_with fail
      go_ret
      refine ⟨?_, hch3⟩
      rw [HM.out, if_neg (by rw [HS.out]; simp), if_pos HD.out]
      rfl
    · have HD := Lib.hid hd
      have hd' : ¬ ((64 : Int) < (deepJ t : Nat)) := by omega
      clear hd hch2 hch3' hdee
      go_wp2_with fail
      generalize hWW : ((w3.alloc (.cells #[.func (.func 122) #[] #[]] 182)).alloc (.cells #[.int .i64 242, .int .i64 243, .int .i64 244] 26)) = W
      have hi : W.cell? ⟨w3.heap.size, 0, none⟩ = some (.func (.func 122) #[] #[]) := by
        rw [← hWW, Lib.cell?_alloc_some _ (a := ⟨w3.heap.size, 0, none⟩) (v := .func (.func 122) #[] #[])]
        rw [cell_of_row _ _ _ _ _ _ (heap_alloc_new w3 _)]
        rfl
      have hrow : ∀ k : Nat, k < 3 → W.cell? ⟨w3.heap.size + 1, k, none⟩ = some (.int .i64 (242 + k : Nat)) := fun k hk => by
        have h := heap_alloc_new (w3.alloc (.cells #[.func (.func 122) #[] #[]] 182)) (.cells #[.int .i64 242, .int .i64 243, .int .i64 244] 26)
        rw [hWW, World.size_alloc] at h
        rw [cell_of_row _ _ _ _ _ _ h]
        rcases (show k = 0 ∨ k = 1 ∨ k = 2 by omega) with rfl | rfl | rfl <;> rfl
      have hchW : Chg (fun _ => False) w W := by rw [← hWW]; exact (hch3.alloc _).alloc _
      clear hWW
      have HI := Lib.hid hi
      have HR := Lib.hid hrow
      clear hi hrow hch3
      go_loopg [14] 4 (fun g s14 wr => ∃ j : Nat, s14 = .int .i64 j ∧ j ≤ 3 ∧ Chg (fun _ => False) W wr ∧ (∀ i : Nat, i < j → t.any (isJ ((242 + i : Nat) : Int)) = false) ∧ 3 - j + 1 = g)
      case atStart => exact ⟨0, rfl, by omega, Chg.refl _ _, fun i hi => by omega, rfl⟩
      case round =>
        obtain ⟨j, rfl, hj, hch, hall, hg⟩ := hrel
        have HG := Lib.hid hg
        have HALL := Lib.hid hall
        clear hg hall
        by_cases hj3 : j < 3
        · have k0 := hch.cell (HR.out j hj3) id
          have hf : ((242 + j : Nat) : Int) = 242 ∨ ((242 + j : Nat) : Int) = 243 ∨ ((242 + j : Nat) : Int) = 244 := by omega
          have hwr : Chg (fun _ => False) w wr := hchW.trans hch
          generalize hfj : ((242 + j : Nat) : Int) = f at *
          have hnew : ∀ o, Chg (fun _ => False) w (wr.alloc o) := fun o => hwr.alloc o
          have hhas := hast_any f hf t A cap B xs w3.heap.size wr.heap.size (wr.alloc (.cells #[.int .i64 f] 26)) (HT.out.keep ((hnew _).below hB (fun _ h => h.elim))) (Nat.le_trans hB (hnew _).size) HV.out ((hch.alloc _).cell HI.out id) (by rw [cell_of_row _ _ _ _ _ _ (heap_alloc_new wr _)]; rfl)
          have HNEW := Lib.hid hnew
          have HFJ := Lib.hid hfj
          have HF := Lib.hid hf
          have hcc : Chg (fun _ => False) W (wr.alloc (.cells #[.int .i64 f] 26)) := hch.alloc _
          have hfc : (wr.alloc (.cells #[.int .i64 f] 26)).cell? ⟨wr.heap.size, 0, none⟩ = some (.int .i64 f) := by rw [cell_of_row _ _ _ _ _ _ (heap_alloc_new wr _)]; rfl
          clear hwr hnew hfj hf hch
          go_wp2_with fail
          refine hhas.mono ?_
          rintro e w5 ⟨rfl, hch5⟩
          have f5 := hch5.cell hfc id
          have hc5 := hcc.trans hch5
          have hx5 : Chg (fun _ => False) w w5 := (HNEW.out _).trans hch5
          cases han : t.any (isJ f) with
          | true =>
            have HAN := Lib.hid han
            clear han hhas hch5
            go_wp2_with fail
            go_ret
            refine ⟨?_, hx5⟩
            have hm := mayJ_hit t HS.out HD.out j hj3 HALL.out (by rw [HFJ.out]; exact HAN.out)
            rw [hm, HFJ.out]
            rfl
          | false =>
            have HAN := Lib.hid han
            clear han hhas hch5
            go_wp2_with fail
            go_roundg (3 - (j + 1) + 1)
            case measure => rw [← HG.out]; omega
            case rel =>
              refine ⟨j + 1, int_i64 (by omega), by omega, hc5, fun i hi => ?_, rfl⟩
              rcases Nat.lt_or_ge i j with h | h
              · exact HALL.out i h
              · obtain rfl : i = j := by omega
                rw [HFJ.out]
                exact HAN.out
        · have hwr : Chg (fun _ => False) w wr := hchW.trans hch
          have j3 : j = 3 := by omega
          subst j3
          go_wp2_with fail
          go_ret
          refine ⟨?_, hwr⟩
          rw [mayJ_miss t HS.out HD.out HALL.out]
          rfl
end Go.Proofs.YtknmbfkpclacgaaGreatDoor
