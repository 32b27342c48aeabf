/- json.Text, Valid, Quote, Get: the walks. -/
import Derived.Test.YtknmbfkpclacgaaDoorMy
import Derived.Test.YtknmbfkpclacgaaDoorPc
set_option linter.unusedSimpArgs false
namespace Go.Proofs.YtknmbfkpclacgaaDoor
open Go.RowKit

/-- A value of modest strings. -/
structure VSm (v : JV) : Prop where
  text : v.text.length ≤ 1099511627776
  strs : ∀ s ∈ v.names, s.length ≤ 1099511627776
  names : v.names.length ≤ 1099511627776
def Sm (t : List JV) : Prop := ∀ j (hj : j < t.length), VSm t[j]
theorem Sm.ok {t : List JV} (h : Sm t) : ∀ j (hj : j < t.length), VOk t[j] := fun j hj =>
  ⟨by have := (h j hj).names; omega, fun s hs => by have := (h j hj).strs s hs; omega, by have := (h j hj).text; omega⟩
theorem TRd.mono {w : World} {B B' : Nat} {A : Option Addr} {xs : List VC} {t : List JV} (h : TRd w B A xs t) (hB : B ≤ B') : TRd w B' A xs t :=
  ⟨h.row.mono hB, h.len, h.tl, fun i hi => by
    have hv := h.vals i hi
    obtain ⟨A1, c1, h1, h2⟩ := hv.kids
    obtain ⟨A2, c2, h3, h4⟩ := hv.names
    exact ⟨hv.kind, hv.truth, hv.n, hv.text, ⟨A1, c1, h1, h2.mono hB⟩, ⟨A2, c2, h3, h4.mono hB⟩, hv.kl, hv.nl⟩⟩
theorem NumOk.mono {w : World} {B B' : Nat} (h : NumOk w B) (hB : B ≤ B') : NumOk w B' := ⟨fun W hW => h.tab W (hW.mono hB)⟩
/-- the tree's text, or nothing -/
def tx (t : List JV) : List UInt8 := if mayJ t = 0 then writeJ t t.length (t.length - 1) else []
set_option maxRecDepth 100000 in
set_option maxHeartbeats 4000000 in
theorem jvalid_any (t : List JV) (A : Option Addr) (cap B : Nat) (xs : List VC) (w : World) (hT : TRd w B A xs t) (hB : B ≤ w.heap.size) (hs : Sm t) :
    Calls Tryd.prog 14 #[.slice A t.length cap] w fun e w' => e = .returned (.bool (decide (mayJ t = 0))) ∧ Chg (fun _ => False) w w' := by
  have h := may_any t A cap B xs w hT hB hs.ok
  clear hT hs
  go_enter Tryd.func14, Tryd.ntmps14
  go_wp2_with fail
  refine h.mono ?_
  rintro e w2 ⟨rfl, hch⟩
  obtain ⟨m, hmm⟩ : ∃ m, mayJ t = m := ⟨_, rfl⟩
  rw [hmm]
  have HM := Lib.hid hmm
  clear h hmm
  go_wp2_with fail
  go_ret
  refine ⟨?_, hch⟩
  rw [HM.out]
  by_cases hm : m = 0
  · subst hm; rfl
  · have h1 : (m == 0) = false := by rw [beq_eq_false_iff_ne]; exact hm
    rw [decide_eq_false hm, ← h1]
    rfl

set_option maxRecDepth 100000 in
set_option maxHeartbeats 4000000 in
theorem jtext_any (t : List JV) (A : Option Addr) (cap B : Nat) (xs : List VC) (w : World) (hT : TRd w B A xs t) (hB : B ≤ w.heap.size) (hs : Sm t) (hS : ShortOk w B) (hN : NumOk w B) (hl : (tx t).length ≤ 70368744177664) :
    Calls Tryd.prog 10 #[.slice A t.length cap] w fun e w' => e = .returned (.tuple #[.string ⟨(tx t).toArray⟩, .int .i64 (mayJ t)]) ∧ Chg (fun _ => False) w w' := by
  have h := may_any t A cap B xs w hT hB hs.ok
  have HT := Lib.hid hT
  have HS := Lib.hid hS
  have HN := Lib.hid hN
  have HSM := Lib.hid hs
  clear hT hS hN hs
  go_enter Tryd.func10, Tryd.ntmps10
  go_wp2_with fail
  refine h.mono ?_
  rintro e w2 ⟨rfl, hch⟩
  by_cases hm : mayJ t = 0
  · have htx : tx t = writeJ t t.length (t.length - 1) := by unfold tx; rw [if_pos hm]
    rw [htx] at hl
    have HTX := Lib.hid htx
    have HM := Lib.hid hm
    have hpos := (good_of_may hm).2.1
    have hG := (good_of_may hm).1
    have htl := HT.out.tl
    have hw := fun (W : World) (hW : Chg (fun _ => False) w W) (hlt : w2.heap.size < W.heap.size) (hb : IsBu w2.heap.size w2.heap.size [] W) =>
      write_any t A cap xs w2.heap.size w2.heap.size hG.kids hG.used (fun j hj => ⟨⟨hG.text j hj, (HSM.out j hj).text⟩, fun s hs => ⟨hG.names j hj s hs, (HSM.out j hj).strs s hs⟩⟩) (fun j hj => by have := hG.num j hj; omega) (t.length - 1) [] W (by omega)
        ((HT.out.keep (hW.below hB (fun _ h => h.elim))).mono (Nat.le_trans hB hch.size)) ((HS.out.keep (hW.below hB (fun _ h => h.elim))).mono (Nat.le_trans hB hch.size)) ((HN.out.keep (hW.below hB (fun _ h => h.elim))).mono (Nat.le_trans hB hch.size)) hb (by simp only [List.length_nil]; rw [show t.length - 1 + 1 = t.length by omega]; omega) (by omega)
    rw [show t.length - 1 + 1 = t.length by omega, List.nil_append] at hw
    have e1 : ((t.length : Int) - 1) = ((t.length - 1 : Nat) : Int) := by omega
    have HW := Lib.hid hw
    generalize writeJ t t.length (t.length - 1) = R at *
    clear hw hG h htx
    rw [hm]
    clear hm
    go_wp2_with fail
    refine (HW.out _ (hch.alloc _) (by rw [World.size_alloc]; omega) (Lib.IsBuilderF.of (Lib.fresh_isBuilder 60 5 w2))).mono ?_
    rintro e w3 ⟨rfl, h3, b3, _⟩
    have hb23 : Below w2.heap.size w2 w3 := ((Below.refl _ w2).alloc (Nat.le_refl _) _).trans b3
    have hsz3 : w2.heap.size ≤ w3.heap.size := by have := b3.size; rw [World.size_alloc] at this; omega
    clear b3
    go_wp2_with fail
    refine (Tryd.Builder_String_any_k w2.heap.size w2.heap.size R _ h3 hsz3).mono ?_
    rintro e w4 ⟨rfl, _, b4, _⟩
    have hch4 : Chg (fun _ => False) w w4 := hch.trans (Chg.of_below' (hb23.trans b4))
    go_wp2_with fail
    go_ret2
    exact ⟨by rw [HTX.out, HM.out]; rfl, hch4⟩
  · have htx : tx t = [] := by unfold tx; rw [if_neg hm]
    have HTX := Lib.hid htx
    obtain ⟨m, hmm⟩ : ∃ m, mayJ t = m := ⟨_, rfl⟩
    rw [hmm] at hm ⊢
    have HM := Lib.hid hmm
    have hne : (m == 0) = false := by rw [beq_eq_false_iff_ne]; exact hm
    clear htx hl h hmm
    go_wp2_with fail
    go_ret2
    exact ⟨by rw [HTX.out, HM.out]; rfl, hch⟩

def qtx (s : List UInt8) : List UInt8 := if validL s then quoteJ s else []
def qerr (s : List UInt8) : Int := if validL s then 0 else 243
set_option maxRecDepth 100000 in
set_option maxHeartbeats 4000000 in
theorem jquote_any (s : List UInt8) (w : World) (hS : ShortOk w w.heap.size) (hl : s.length ≤ 1099511627776) :
    Calls Tryd.prog 16 #[.string ⟨s.toArray⟩] w fun e w' => e = .returned (.tuple #[.string ⟨(qtx s).toArray⟩, .int .i64 (qerr s)]) ∧ Chg (fun _ => False) w w' := by
  have HS := Lib.hid hS
  clear hS
  go_enter Tryd.func16, Tryd.ntmps16
  go_wp2_with fail
  refine (valid_any s _ (by omega)).mono ?_
  rintro e w2 ⟨rfl, hch⟩
  cases hv : validL s with
  | false =>
    have e1 : qtx s = [] := by unfold qtx; rw [hv]; rfl
    have e2 : qerr s = 243 := by unfold qerr; rw [hv]; rfl
    have E1 := Lib.hid e1
    have E2 := Lib.hid e2
    clear hv e1 e2
    go_wp2_with fail
    go_ret2
    exact ⟨by rw [E1.out, E2.out]; rfl, hch⟩
  | true =>
    have HV := Lib.hid hv
    have e1 : qtx s = quoteJ s := by unfold qtx; rw [hv]; rfl
    have e2 : qerr s = 0 := by unfold qerr; rw [hv]; rfl
    have E1 := Lib.hid e1
    have E2 := Lib.hid e2
    clear hv e1 e2
    go_wp2_with fail
    refine (quoted_any s w2 ((HS.out.keep (hch.below (Nat.le_refl _) (fun _ h => h.elim))).mono hch.size) HV.out hl).mono ?_
    rintro e w3 ⟨rfl, hb⟩
    go_wp2_with fail
    go_ret2
    exact ⟨by rw [E1.out, E2.out]; rfl, hch.trans (Chg.of_below' hb)⟩

/-! ### Get -/
theorem idx_list (name : List UInt8) : ∀ ns : List (List UInt8), Lib.idxOfS (ns.map fun l : List UInt8 => (⟨l.toArray⟩ : ByteArray)) ⟨name.toArray⟩ = if ns.idxOf name < ns.length then ((ns.idxOf name : Nat) : Int) else -1 := by
  have key : ∀ (ns : List (List UInt8)) (i : Nat), Lib.idxFromS (ns.map fun l : List UInt8 => (⟨l.toArray⟩ : ByteArray)) ⟨name.toArray⟩ i = if ns.idxOf name < ns.length then ((i + ns.idxOf name : Nat) : Int) else -1 := by
    intro ns
    induction ns with
    | nil => intro i; rfl
    | cons s ns ih =>
      intro i
      rw [List.map_cons, Lib.idxFromS]
      by_cases h : s = name
      · subst h
        simp [List.idxOf_cons]
      · have hb : ¬ ((⟨s.toArray⟩ : ByteArray) = ⟨name.toArray⟩) := fun e => h (by
          have := congrArg (fun b : ByteArray => b.data.toList) e
          simpa using this)
        rw [if_neg hb, ih]
        have e : (s :: ns).idxOf name = ns.idxOf name + 1 := by
          rw [List.idxOf_cons]
          have : (s == name) = false := by rw [beq_eq_false_iff_ne]; exact h
          rw [this]; rfl
        rw [e, List.length_cons]
        by_cases hl : ns.idxOf name < ns.length
        · rw [if_pos hl, if_pos (by omega)]; omega
        · rw [if_neg hl, if_neg (by omega)]
  intro ns
  unfold Lib.idxOfS
  rw [key ns 0]
  simp
theorem index_any (ns : List (List UInt8)) (name : List UInt8) (A : Option Addr) (cap B : Nat) (w : World) (hN : Ro w B A (strs ns)) (hl : ns.length ≤ 140737488355328) :
    Calls Tryd.prog 30 #[.slice A ns.length cap, .string ⟨name.toArray⟩] w fun e w' => e = .returned (.int .i64 (if ns.idxOf name < ns.length then ((ns.idxOf name : Nat) : Int) else -1)) ∧ w' = w := by
  by_cases h0 : ns.length = 0
  · have hnil : ns = [] := List.length_eq_zero_iff.1 h0
    subst hnil
    refine (Tryd.slices_Index_string_empty A cap ⟨name.toArray⟩ w).mono ?_
    rintro e w' ⟨rfl, rfl⟩
    exact ⟨rfl, rfl⟩
  · obtain ⟨b, o, rfl, hbB, hc⟩ := hN (by rw [strs_length]; omega)
    have h := Tryd.slices_Index_string b o ns.length cap (ns.map fun l : List UInt8 => (⟨l.toArray⟩ : ByteArray)) ⟨name.toArray⟩ w (by simp) (by omega) (fun j hj => by
      have hj' : j < ns.length := by simpa using hj
      refine hc j _ ?_
      simp [strs, hj', List.getD_eq_getElem?_getD])
    refine h.mono ?_
    rintro e w' ⟨rfl, rfl⟩
    have ht : (ns.map fun l : List UInt8 => (⟨l.toArray⟩ : ByteArray)).take ns.length = (ns.map fun l : List UInt8 => (⟨l.toArray⟩ : ByteArray)) := List.take_of_length_le (by simp)
    rw [ht, idx_list]
    exact ⟨rfl, rfl⟩

set_option maxRecDepth 100000 in
set_option maxHeartbeats 4000000 in
theorem jget_any (t : List JV) (o : Int) (name : List UInt8) (A : Option Addr) (cap B : Nat) (xs : List VC) (w : World) (hT : TRd w B A xs t) (hB : B ≤ w.heap.size) (hs : Sm t) :
    Calls Tryd.prog 17 #[.slice A t.length cap, .int .i64 o, .string ⟨name.toArray⟩] w fun e w' => e = .returned (.int .i64 (getJ t o name)) ∧ Chg (fun _ => False) w w' := by
  have h := jvalid_any t A cap B xs w hT hB hs
  have HT := Lib.hid hT
  have HSM := Lib.hid hs
  have htl := hT.tl
  have hg : getJ t o name = getJ t o name := rfl
  conv at hg => rhs; unfold getJ
  have HGJ := Lib.hid hg
  clear hT hs hg
  go_enter Tryd.func17, Tryd.ntmps17
  go_wp2_with fail
  refine h.mono ?_
  rintro e w2 ⟨rfl, hch⟩
  by_cases hm : mayJ t = 0
  · rw [decide_eq_true hm]
    have HM := Lib.hid hm
    clear h hm
    by_cases ho : o < 0
    · have HO := Lib.hid ho
      go_wp2_with fail
      go_ret
      refine ⟨?_, hch⟩
      rw [HGJ.out, if_pos (.inr (.inl HO.out))]
      rfl
    · by_cases ho2 : (t.length : Int) ≤ o
      · have HO := Lib.hid ho2
        have HO1 := Lib.hid ho
        go_wp2_with fail
        go_ret
        refine ⟨?_, hch⟩
        rw [HGJ.out, if_pos (.inr (.inr (.inl HO.out)))]
        rfl
      · obtain ⟨i, rfl⟩ : ∃ i : Nat, o = i := ⟨o.toNat, by omega⟩
        have hi : i < t.length := by omega
        have hgd : t.getD i jNull = t[i] := getD_at t i hi
        have hT2 := HT.out.keep (hch.below hB (fun _ h => h.elim))
        obtain ⟨b, oo, Ak, ck, An, cn, hA, hbB, c0, c1, c2, c3, c4, c5, hkr, hnr, hkl, hnl⟩ := hT2.at i hi
        subst hA
        have hgj := HGJ.out
        simp only [Int.toNat_natCast, hgd] at hgj
        have hidx := index_any t[i].names name An cn B w2 hnr hnl
        have hkn : mayJ t = 0 → t[i].kind = 6 → t[i].kids.length = t[i].names.length := fun hm h6 => by
          have hu := (good_of_may hm).1.used i hi
          unfold usedJ at hu
          simp only [h6] at hu
          simp at hu
          exact hu.2
        generalize t[i] = v at *
        have HGJ2 := Lib.hid hgj
        have HKN := Lib.hid hkn
        have HKR := Lib.hid hkr
        clear hgj hkn hkr hnr hT2 hgd HGJ
        by_cases hk : v.kind = 6
        · have HK := Lib.hid hk
          rw [hk] at c0
          have hx1 := HGJ2.out
          rw [if_neg (by rw [HM.out, hk]; simp; omega)] at hx1
          have HX := Lib.hid hx1
          clear hx1 hk
          go_wp2_with fail
          refine hidx.mono ?_
          rintro e w3 ⟨rfl, rfl⟩
          by_cases hin : v.names.idxOf name < v.names.length
          · rw [if_pos hin]
            have hlt : v.names.idxOf name < v.kids.length := by rw [HKN.out HM.out HK.out]; exact hin
            obtain ⟨b2, o2, hAk, hb2, k0⟩ := HKR.out.int (v.names.idxOf name) hlt
            have hx2 := HX.out
            rw [if_pos hin] at hx2
            have hgd2 : v.kids.getD (v.names.idxOf name) 0 = v.kids[v.names.idxOf name] := by simp [List.getD_eq_getElem?_getD, hlt]
            rw [hgd2] at hx2
            clear hgd2
            generalize v.kids[v.names.idxOf name] = kv at k0 hx2
            have HX2 := Lib.hid hx2
            subst hAk
            clear hx2 hin hidx
            generalize hmi : v.names.idxOf name = m at *
            clear hmi
            go_wp2_with fail
            go_ret
            refine ⟨?_, hch⟩
            rw [HX2.out]
            rfl
          · rw [if_neg hin]
            have hx2 := HX.out
            rw [if_neg hin] at hx2
            have HX2 := Lib.hid hx2
            clear hx2 hin hidx
            go_wp2_with fail
            go_ret
            refine ⟨?_, hch⟩
            rw [HX2.out]
            rfl
        · have HK := Lib.hid hk
          have hkf : (v.kind == 6) = false := by rw [beq_eq_false_iff_ne]; exact hk
          have hkn : (v.kind != 6) = true := by rw [bne, hkf]; rfl
          clear hidx
          go_wp2_with fail
          go_ret
          refine ⟨?_, hch⟩
          rw [HGJ2.out, if_pos (.inr (.inr (.inr HK.out)))]
          rfl
  · rw [decide_eq_false hm]
    have HM := Lib.hid hm
    clear h hm
    go_wp2_with fail
    go_ret
    refine ⟨?_, hch⟩
    rw [HGJ.out, if_pos (.inl HM.out)]
    rfl
end Go.Proofs.YtknmbfkpclacgaaDoor
