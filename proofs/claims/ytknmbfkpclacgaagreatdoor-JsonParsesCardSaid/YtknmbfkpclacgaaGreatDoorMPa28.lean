import Derived.Test.YtknmbfkpclacgaaGreatDoorMPaVl
import Derived.Test.YtknmbfkpclacgaaGreatDoorMPa9
import Derived.Test.YtknmbfkpclacgaaGreatDoorMPa17
import Derived.BigQuiet
import Derived.Deep.QuietTactic
import Derived.Deep.RegionHeld
/- The document's reader: value. -/
set_option linter.unusedSimpArgs false
namespace Go.Proofs.YtknmbfkpclacgaaGreatDoor
open Go.RowKit

theorem atI_isDig (l : List UInt8) (i : Nat) : isDig (pk l i) = (decide (48 ≤ atI l i) && decide (atI l i ≤ 57)) := by
  unfold atI
  split
  · unfold isDig
    rw [Bool.eq_iff_iff]
    simp
    omega
  · rename_i h
    rw [pk_out l i h]
    decide
set_option maxRecDepth 100000 in
set_option maxHeartbeats 32000000 in
theorem value_r (l : List UInt8) (rb : Nat) (A : Option Addr) (cap B base : Nat) (hrb : base ≤ rb) (hB : B ≤ base) (hL : l.length ≤ 268435456) (k : Nat) (IH : ∀ k', k' < k → VConR l rb A cap B base k') : VConR l rb A cap B base k := by
  intro i dp t tv xs w hk hil hti hdp hsk hst hT
  obtain ⟨k, rfl⟩ : ∃ m, k = m + 1 := ⟨k - 1, by omega⟩
  have HIH := Lib.hid IH
  have hrl := hst.r.lt
  have hlim : l.length + 72 ≤ limR l dp := by unfold limR; omega
  have c2 := hst.r.c2
  obtain ⟨res, hres⟩ : ∃ r, r = valueJ l (k + 1) i dp t := ⟨_, rfl⟩
  rw [← hres]
  rw [valueJ] at hres
  simp only [hsk] at hres
  have hh := here_any rb A cap l i (-1) 0 tv B w hst.r hst.b
  have hy := fun n h0 hn => atI_eq (l := l) (p := i) (n := n) h0 hn
  have hdg := atI_isDig l i
  generalize atI l i = y at *
  have HRES := Lib.hid hres
  have HH := Lib.hid hh
  have HY := Lib.hid hy
  have HDG := Lib.hid hdg
  have HST := Lib.hid hst
  have HT := Lib.hid hT
  clear hres hh hy hdg hst hT IH
  go_enter Tryz.func53, Tryz.ntmps53
  go_wp2_with fail
  refine HH.out.mono ?_
  rintro e w1 ⟨rfl, hd1⟩
  have hst1 := HST.out.drawn hd1
  have hch1 : Chg (· = rb) w w1 := hd1.chg
  have hT1 := HT.out.rbR HST.out.r hch1
  have d1 := hst1.r.c1
  have hsz := hch1.size
  have hback : ∀ e w', RPost res rb base (.slice A l.length cap) tv xs (limR l dp) w1 e w' → RPost res rb base (.slice A l.length cap) tv xs (limR l dp) w e w' := by
    rintro e w' ⟨z, a, fa, er, tv', xs', t', rfl, hR⟩
    exact ⟨z, a, fa, er, tv', xs', t', rfl, hR.r, hR.tr, (hch1.mono fun _ _ h => .inl h).trans hR.chg, fun b hb => Nat.le_trans hsz (hR.fresh b hb), fun b hb => (hR.tvb b hb).imp id (Nat.le_trans hsz), hR.al, hR.tl, hR.fr⟩
  have HS := Lib.hid (And.intro hst1 (And.intro hch1 (And.intro hT1 hback)))
  have n123 : (UInt8.ofNat 123 : UInt8) = 123 := rfl
  clear hst1 hch1 hT1 hback hd1 HH n123
  by_cases q110 : y = 110
  case pos =>
    have t110 : (y == 110) = true := by rw [beq_iff_eq]; exact q110
    have hpk : pk l i = 110 := (HY.out 110 (by omega) (by omega)).1 q110
    have hjl : i < l.length := pk_nz (by decide) hpk
    have hres := HRES.out
    simp only [hpk] at hres
    have hr2 : res = resW (wordJ l i [110, 117, 108, 108]) t jNull := by
      rw [hres]
      simp [isDig]
      unfold resW
      cases wordJ l i [110, 117, 108, 108] <;> rfl
    have hc := word_r rb A cap l i B base tv xs t [110, 117, 108, 108] jNull w1 (limR l dp) HS.out.1 HS.out.2.2.1 (by decide) (by decide) hil rfl rfl hrb hB (by omega) (by omega) (by omega)
    rw [← hr2] at hc
    have HC := Lib.hid hc
    clear hc hr2 hres hpk q110
    go_wp2_with fail
    refine HC.out.mono ?_
    intro e w3 hR
    have hR2 := HS.out.2.2.2 e w3 hR
    obtain ⟨z, a, fa, er, tv', xs', t', rfl, hR⟩ := hR
    have HE := Lib.hid hR2
    clear hR hR2
    go_wp2_with fail
    go_ret
    exact HE.out
  case neg =>
  have t110 : (y == 110) = false := by rw [beq_eq_false_iff_ne]; exact q110
  have P110 : Hid (pk l i ≠ 110) := fun h => q110 ((HY.out 110 (by omega) (by omega)).2 h)
  clear q110
  by_cases q116 : y = 116
  case pos =>
    have t116 : (y == 116) = true := by rw [beq_iff_eq]; exact q116
    have hpk : pk l i = 116 := (HY.out 116 (by omega) (by omega)).1 q116
    have hjl : i < l.length := pk_nz (by decide) hpk
    have hres := HRES.out
    simp only [hpk] at hres
    have hr2 : res = resW (wordJ l i [116, 114, 117, 101]) t (jBool true) := by
      rw [hres]
      simp [isDig]
      unfold resW
      cases wordJ l i [116, 114, 117, 101] <;> rfl
    have hc := word_r rb A cap l i B base tv xs t [116, 114, 117, 101] (jBool true) w1 (limR l dp) HS.out.1 HS.out.2.2.1 (by decide) (by decide) hil rfl rfl hrb hB (by omega) (by omega) (by omega)
    rw [← hr2] at hc
    have HC := Lib.hid hc
    clear hc hr2 hres hpk q116
    go_wp2_with fail
    refine HC.out.mono ?_
    intro e w3 hR
    have hR2 := HS.out.2.2.2 e w3 hR
    obtain ⟨z, a, fa, er, tv', xs', t', rfl, hR⟩ := hR
    have HE := Lib.hid hR2
    clear hR hR2
    go_wp2_with fail
    go_ret
    exact HE.out
  case neg =>
  have t116 : (y == 116) = false := by rw [beq_eq_false_iff_ne]; exact q116
  have P116 : Hid (pk l i ≠ 116) := fun h => q116 ((HY.out 116 (by omega) (by omega)).2 h)
  clear q116
  by_cases q102 : y = 102
  case pos =>
    have t102 : (y == 102) = true := by rw [beq_iff_eq]; exact q102
    have hpk : pk l i = 102 := (HY.out 102 (by omega) (by omega)).1 q102
    have hjl : i < l.length := pk_nz (by decide) hpk
    have hres := HRES.out
    simp only [hpk] at hres
    have hr2 : res = resW (wordJ l i [102, 97, 108, 115, 101]) t (jBool false) := by
      rw [hres]
      simp [isDig]
      unfold resW
      cases wordJ l i [102, 97, 108, 115, 101] <;> rfl
    have hc := word_r rb A cap l i B base tv xs t [102, 97, 108, 115, 101] (jBool false) w1 (limR l dp) HS.out.1 HS.out.2.2.1 (by decide) (by decide) hil rfl rfl hrb hB (by omega) (by omega) (by omega)
    rw [← hr2] at hc
    have HC := Lib.hid hc
    clear hc hr2 hres hpk q102
    go_wp2_with fail
    refine HC.out.mono ?_
    intro e w3 hR
    have hR2 := HS.out.2.2.2 e w3 hR
    obtain ⟨z, a, fa, er, tv', xs', t', rfl, hR⟩ := hR
    have HE := Lib.hid hR2
    clear hR hR2
    go_wp2_with fail
    go_ret
    exact HE.out
  case neg =>
  have t102 : (y == 102) = false := by rw [beq_eq_false_iff_ne]; exact q102
  have P102 : Hid (pk l i ≠ 102) := fun h => q102 ((HY.out 102 (by omega) (by omega)).2 h)
  clear q102
  by_cases q34 : y = 34
  case pos =>
    have t34 : (y == 34) = true := by rw [beq_iff_eq]; exact q34
    have hpk : pk l i = 34 := (HY.out 34 (by omega) (by omega)).1 q34
    have hjl : i < l.length := pk_nz (by decide) hpk
    have hres := HRES.out
    simp only [hpk] at hres
    have hr2 : res = match textJ l i with
        | .error e => .error e
        | .ok (s, j) => .ok (t.length, j, t ++ [jStr s]) := by
      rw [hres]
      simp
      cases textJ l i <;> rfl
    have htx := text_r rb A cap l i tv B w1 HS.out.1 hjl hpk hL
    have HTX := Lib.hid htx
    have HR2 := Lib.hid hr2
    clear htx hr2 hres hpk q34
    go_wp2_with fail
    refine HTX.out.mono ?_
    rintro e w2 ⟨s, a, fa, er, rfl, hr2, hc2, hsl, hal, hx⟩
    have hfr : FR res (t.length : Nat) a fa er (t ++ [jStr s]) := by
      rw [HR2.out]
      cases ht : textJ l i with
      | error f => rw [ht] at hx; exact hx
      | ok r =>
        obtain ⟨s', j⟩ := r
        rw [ht] at hx
        obtain ⟨rfl, rfl, rfl, rfl⟩ := hx
        exact ⟨rfl, rfl, rfl, rfl, rfl⟩
    have hc := put_bareR rb A cap l i a fa er (-1) 0 B base tv xs t (jStr s) (limR l dp) res w1 w2 HS.out.1 HS.out.2.2.1 hr2 hc2 hrb hB (by omega) rfl rfl (by omega) (by omega) hfr
    have HC := Lib.hid hc
    clear hc hfr hr2 hc2 hx
    go_wp2_with fail
    refine HC.out.mono ?_
    intro e w3 hR
    have hR2 := HS.out.2.2.2 e w3 hR
    obtain ⟨z, a, fa, er, tv', xs', t', rfl, hR⟩ := hR
    have HE := Lib.hid hR2
    clear hR hR2
    go_wp2_with fail
    go_ret
    exact HE.out
  case neg =>
  have t34 : (y == 34) = false := by rw [beq_eq_false_iff_ne]; exact q34
  have P34 : Hid (pk l i ≠ 34) := fun h => q34 ((HY.out 34 (by omega) (by omega)).2 h)
  clear q34
  by_cases q91 : y = 91
  case pos =>
    have t91 : (y == 91) = true := by rw [beq_iff_eq]; exact q91
    have hpk : pk l i = 91 := (HY.out 91 (by omega) (by omega)).1 q91
    have hjl : i < l.length := pk_nz (by decide) hpk
    have hres := HRES.out
    simp only [hpk] at hres
    have hr2 : res = if dp = 64 then .error (i, 241) else listJ l k (i + 1) dp t [] := by
      rw [hres]
      simp
    have hc := many_list l rb A cap B base k hrb hB hL (fun k' h => HIH.out k' (by omega)) i dp t tv xs w1 (by omega) hjl hti hdp HS.out.1 HS.out.2.2.1
    rw [← hr2] at hc
    have HC := Lib.hid hc
    clear hc hr2 hres hpk q91
    go_wp2_with fail
    refine HC.out.mono ?_
    intro e w3 hR
    have hR2 := HS.out.2.2.2 e w3 hR
    obtain ⟨z, a, fa, er, tv', xs', t', rfl, hR⟩ := hR
    have HE := Lib.hid hR2
    clear hR hR2
    go_wp2_with fail
    go_ret
    exact HE.out
  case neg =>
  have t91 : (y == 91) = false := by rw [beq_eq_false_iff_ne]; exact q91
  have P91 : Hid (pk l i ≠ 91) := fun h => q91 ((HY.out 91 (by omega) (by omega)).2 h)
  clear q91
  by_cases q123 : y = 123
  case pos =>
    have t123 : (y == 123) = true := by rw [beq_iff_eq]; exact q123
    have hpk : pk l i = 123 := (HY.out 123 (by omega) (by omega)).1 q123
    have hjl : i < l.length := pk_nz (by decide) hpk
    have hres := HRES.out
    simp only [hpk] at hres
    have hr2 : res = if dp = 64 then .error (i, 241) else objectJ l k (i + 1) dp t [] [] := by
      rw [hres]
      simp
    have hc := many_obj l rb A cap B base k hrb hB hL (fun k' h => HIH.out k' (by omega)) i dp t tv xs w1 (by omega) hjl hti hdp HS.out.1 HS.out.2.2.1
    rw [← hr2] at hc
    have HC := Lib.hid hc
    clear hc hr2 hres hpk q123
    go_wp2_with fail
    refine HC.out.mono ?_
    intro e w3 hR
    have hR2 := HS.out.2.2.2 e w3 hR
    obtain ⟨z, a, fa, er, tv', xs', t', rfl, hR⟩ := hR
    have HE := Lib.hid hR2
    clear hR hR2
    go_wp2_with fail
    go_ret
    exact HE.out
  case neg =>
  have t123 : (y == 123) = false := by rw [beq_eq_false_iff_ne]; exact q123
  have P123 : Hid (pk l i ≠ 123) := fun h => q123 ((HY.out 123 (by omega) (by omega)).2 h)
  clear q123
  by_cases q45 : y = 45
  case pos =>
    have t45 : (y == 45) = true := by rw [beq_iff_eq]; exact q45
    have hp45 : pk l i = 45 := (HY.out 45 (by omega) (by omega)).1 q45
    have hpk : pk l i = 45 ∨ isDig (pk l i) = true := .inl hp45
    have hjl : i < l.length := pk_nz (by decide) hp45
    have hr2 : res = resN (numberJ l i) t := by
      rw [HRES.out, if_neg P123.out, if_neg P91.out, if_neg P34.out, if_pos hpk]
      unfold resN
      cases numberJ l i <;> rfl
    have hc := number_r rb A cap l i B base tv xs t w1 (limR l dp) HS.out.1 HS.out.2.2.1 hjl hL hrb hB (by omega) (by omega) (by omega)
    rw [← hr2] at hc
    have HC := Lib.hid hc
    clear hc hr2 hpk hp45 q45
    go_wp2_with fail
    refine HC.out.mono ?_
    intro e w3 hR
    have hR2 := HS.out.2.2.2 e w3 hR
    obtain ⟨z, a, fa, er, tv', xs', t', rfl, hR⟩ := hR
    have HE := Lib.hid hR2
    clear hR hR2
    go_wp2_with fail
    go_ret
    exact HE.out
  case neg =>
  have t45 : (y == 45) = false := by rw [beq_eq_false_iff_ne]; exact q45
  have P45 : Hid (pk l i ≠ 45) := fun h => q45 ((HY.out 45 (by omega) (by omega)).2 h)
  clear q45
  have hd2 := rdigit_any rb A cap l i (-1) 0 tv B w1 HS.out.1
  have HD2 := Lib.hid hd2
  clear hd2
  go_wp2_with fail
  refine HD2.out.mono ?_
  rintro e w2 ⟨rfl, hd2⟩
  have hst2 := HS.out.1.drawn hd2
  have hch2 : Chg (· = rb) w1 w2 := hd2.chg
  have hT2 := HS.out.2.2.1.rbR HS.out.1.r hch2
  have e1 := hst2.r.c1
  have hsz2 := hch2.size
  have hback2 : ∀ e w', RPost res rb base (.slice A l.length cap) tv xs (limR l dp) w2 e w' → RPost res rb base (.slice A l.length cap) tv xs (limR l dp) w e w' := by
    rintro e w' ⟨z, a, fa, er, tv', xs', t', rfl, hR⟩
    exact HS.out.2.2.2 _ _ ⟨z, a, fa, er, tv', xs', t', rfl, hR.r, hR.tr, (hch2.mono fun _ _ h => .inl h).trans hR.chg, fun b hb => Nat.le_trans hsz2 (hR.fresh b hb), fun b hb => (hR.tvb b hb).imp id (Nat.le_trans hsz2), hR.al, hR.tl, hR.fr⟩
  have HS2 := Lib.hid (And.intro hst2 (And.intro hch2 (And.intro hT2 hback2)))
  clear hst2 hch2 hT2 hback2 hd2
  cases hdd : isDig (pk l i) with
  | true =>
    have hpk : pk l i = 45 ∨ isDig (pk l i) = true := .inr hdd
    have hjl : i < l.length := isDig_lt l i hdd
    have hr2 : res = resN (numberJ l i) t := by
      rw [HRES.out, if_neg P123.out, if_neg P91.out, if_neg P34.out, if_pos hpk]
      unfold resN
      cases numberJ l i <;> rfl
    have hc := number_r rb A cap l i B base tv xs t w2 (limR l dp) HS2.out.1 HS2.out.2.2.1 hjl hL hrb hB (by omega) (by omega) (by omega)
    rw [← hr2] at hc
    have HC := Lib.hid hc
    clear hc hr2 hpk hdd
    go_wp2_with fail
    refine HC.out.mono ?_
    intro e w3 hR
    have hR2 := HS2.out.2.2.2 e w3 hR
    obtain ⟨z, a, fa, er, tv', xs', t', rfl, hR⟩ := hR
    have HE := Lib.hid hR2
    clear hR hR2
    go_wp2_with fail
    go_ret
    exact HE.out
  | false =>
    have hr2 : res = .error (i, 240) := by
      rw [HRES.out, if_neg P123.out, if_neg P91.out, if_neg P34.out, if_neg (by rintro (h | h); exact P45.out h; rw [hdd] at h; cases h), if_neg P116.out, if_neg P102.out, if_neg P110.out]
    have hno := rno_any rb (.slice A l.length cap) i (-1) 0 tv (i : Nat) 240 w2 HS2.out.1.r
    have HNO := Lib.hid hno
    have HR2 := Lib.hid hr2
    clear hno hr2 hdd
    go_wp2_with fail
    refine HNO.out.mono ?_
    rintro e w3 ⟨rfl, hr, hc⟩
    have hE := HS2.out.2.2.2 _ _ (RPost.none (lim := limR l dp) HR2.out (fa := (i : Int)) (er := 240) (by simpa [noF, noE] using hr) (HS2.out.2.2.1.rbR HS2.out.1.r hc) (hc.mono fun _ _ h => .inl h) (by omega) (by omega) rfl rfl 0)
    have HE := Lib.hid hE
    clear hr hc hE
    go_wp2_with fail
    go_ret
    exact HE.out

theorem value_rall (l : List UInt8) (rb : Nat) (A : Option Addr) (cap B base : Nat) (hrb : base ≤ rb) (hB : B ≤ base) (hL : l.length ≤ 268435456) : ∀ k, VConR l rb A cap B base k := by
  intro k
  induction k using Nat.strongRecOn with
  | _ k ih => exact value_r l rb A cap B base hrb hB hL k ih
end Go.Proofs.YtknmbfkpclacgaaGreatDoor

/- galleyref24.Parse: the walk: it answers what json.Parse answers. -/
set_option linter.unusedSimpArgs false
namespace Go.Proofs.YtknmbfkpclacgaaGreatDoor
open Go.RowKit

/-- The end of a reading: what parseJ says. -/
theorem parse_end {l : List UInt8} {z : Int} {a : Nat} {fa er : Int} {t' : List JV} (hL : ¬ 268435456 < l.length) (hf : FR (valueJ l (2 * l.length + 3) (skip l 0) 0 []) z a fa er t') :
    (fa < 0 → fa = -1 ∧ er = 0 ∧ (skip l a < l.length → parseJ l = .error (skip l a, 240)) ∧ (¬ skip l a < l.length → parseJ l = .ok t')) ∧ (0 ≤ fa → parseJ l = .error (fa.toNat, er)) := by
  rw [valueJ_skip l _ 0 0 [] (by omega)] at hf
  unfold parseJ
  rw [if_neg hL]
  cases hv : valueJ l (2 * l.length + 3) 0 0 [] with
  | error f =>
    rw [hv] at hf
    obtain ⟨rfl, rfl⟩ := hf
    exact ⟨fun h => by omega, fun _ => rfl⟩
  | ok r =>
    obtain ⟨p, j, t2⟩ := r
    rw [hv] at hf
    obtain ⟨rfl, rfl, rfl, rfl, rfl⟩ := hf
    exact ⟨fun _ => ⟨rfl, rfl, fun h => by simp only; rw [if_pos h], fun h => by simp only; rw [if_neg h]⟩, fun h => by omega⟩
set_option maxRecDepth 100000 in
set_option maxHeartbeats 8000000 in
theorem rparse_any (A : Option Addr) (cap : Nat) (l : List UInt8) (w : World) (hb : Bs w w.heap.size A l) (hcap : l.length ≤ cap) :
    Calls Tryz.prog 19 #[.slice A l.length cap] w (PPost l w) := by
  have hln := hb.len
  by_cases hlen : 268435456 < l.length
  · have hp : parseJ l = .error (268435456, 5) := by unfold parseJ; rw [if_pos hlen]
    have hE : PPost l w (.returned (.tuple #[.slice none 0 0, .int .i64 268435456, .int .i64 5])) w := by unfold PPost; rw [hp]; exact ⟨rfl, Chg.refl _ _⟩
    have HE := Lib.hid hE
    have hl : (268435456 : Int) < (l.length : Int) := by omega
    clear hlen hp hb hE
    generalize hN : l.length = N at *
    go_enter Tryz.func19, Tryz.ntmps19
    go_wp2_with fail
    go_ret3
    exact HE.out
  · generalize hW0 : w.alloc (.cells #[.slice A l.length cap, .int .i64 0, .int .i64 (-1), .int .i64 0, .slice none 0 0] 99) = W0
    have hc0 : Chg (fun _ => False) w W0 := by subst hW0; exact (Chg.refl _ _).alloc _
    have hb0 : Below w.heap.size w W0 := hc0.below (Nat.le_refl _) (fun _ h => h.elim)
    have hst0 : RS W0 w.heap.size w.heap.size A cap l 0 (-1) 0 (.slice none 0 0) := ⟨⟨by subst hW0; exact heap_alloc_new w _⟩, hb.keep hb0, Nat.le_refl _, hcap⟩
    have hT0 : TR w.heap.size W0 (.slice none 0 0) [] [] := ⟨⟨rfl, .inl ⟨rfl, rfl⟩⟩, trivial, by simp [tb]⟩
    have hbl := rblanks_any w.heap.size A cap l 0 (-1) 0 (.slice none 0 0) w.heap.size W0 hst0 (by omega)
    have H0 := Lib.hid (And.intro hst0 (And.intro hT0 hc0))
    have HBL := Lib.hid hbl
    have HL := Lib.hid hlen
    have hl : ¬ (268435456 : Int) < (l.length : Int) := by omega
    have hl2 : l.length ≤ 268435456 := by omega
    have HW0 := Lib.hid hW0
    clear hc0 hb0 hst0 hT0 hbl hlen hb hW0
    go_enter Tryz.func19, Tryz.ntmps19
    go_wp2_with fail
    rw [HW0.out]
    refine HBL.out.mono ?_
    rintro e w1 ⟨rfl, hr1, hc1⟩
    have hst1 := H0.out.1.to hr1 hc1
    have hT1 := H0.out.2.1.rbR H0.out.1.r hc1
    have hc01 : Chg (fun k => w.heap.size ≤ k) w w1 := (H0.out.2.2.mono fun _ _ h => h.elim).trans (hc1.mono fun _ _ h => by omega)
    have hcall := value_rall l w.heap.size A cap w.heap.size w.heap.size (Nat.le_refl _) (Nat.le_refl _) hl2 (2 * l.length + 3) (skip l 0) 0 [] (.slice none 0 0) [] w1 (by omega) (skip_le l 0 (by omega)) (by simp) (by omega) (skip_skip l 0) hst1 hT1
    have HCALL := Lib.hid hcall
    have HS1 := Lib.hid (And.intro hst1 hc01)
    clear hr1 hc1 hst1 hT1 hc01 hcall HBL
    go_wp2_with fail
    refine HCALL.out.mono ?_
    rintro e w2 ⟨z, a, fa, er, tv, xs, t', rfl, hR⟩
    have hpe := parse_end HL.out hR.fr
    have hal := hR.al
    have hlim : limR l 0 = l.length + 200 := rfl
    have hc02 : Chg (fun k => w.heap.size ≤ k) w w2 := HS1.out.2.trans (hR.chg.mono fun b _ h => by
      rcases h with h | h
      · omega
      · simp [Value.ownBlock] at h)
    have hst2 : RS w2 w.heap.size w.heap.size A cap l a fa er tv := ⟨hR.r, HS1.out.1.b.keep (hR.chg.below (by have := HS1.out.1.r.lt; omega) (fun b h => by
      rcases h with h | h
      · omega
      · simp [Value.ownBlock] at h)), Nat.le_refl _, hcap⟩
    have hbl2 := rblanks_any w.heap.size A cap l a fa er tv w.heap.size w2 hst2 (by omega)
    have HR := Lib.hid (And.intro hR.tr (And.intro hc02 (And.intro hst2 hpe)))
    have HBL2 := Lib.hid hbl2
    clear hR hpe hlim hc02 hst2 hbl2 HCALL HS1
    go_wp2_with fail
    refine HBL2.out.mono ?_
    rintro e w3 ⟨rfl, hr3, hc3⟩
    have hst3 := HR.out.2.2.1.to hr3 hc3
    have hT3 := HR.out.1.rbR HR.out.2.2.1.r hc3
    have hc03 : Chg (fun _ => False) w w3 := Chg.of_below' ((HR.out.2.1.trans (hc3.mono fun _ _ h => by omega)).below (Nat.le_refl _) fun _ h => h)
    have d1 := hst3.r.c1
    have d2 := hst3.r.c2
    have d3 := hst3.r.c3
    have d4 := hst3.r.c4
    have HS3 := Lib.hid (And.intro hst3 (And.intro hT3 hc03))
    have HPE := Lib.hid HR.out.2.2.2
    clear hst3 hT3 hc03 hr3 hc3 HBL2
    by_cases hf : fa < 0
    · obtain ⟨rfl, rfl, hp1, hp2⟩ := HPE.out.1 hf
      by_cases hs : skip l a < l.length
      · have hp := hp1 hs
        have hd : decide (skip l a < l.length) = true := decide_eq_true hs
        have hno := rno_any w.heap.size (.slice A l.length cap) (skip l a) (-1) 0 tv (skip l a : Nat) 240 w3 HS3.out.1.r
        have HNO := Lib.hid hno
        have HP := Lib.hid hp
        clear hno hp hp1 hp2
        go_wp2_with fail
        refine HNO.out.mono ?_
        rintro e w4 ⟨rfl, hr4, hc4⟩
        have hr4' : RR w4 w.heap.size (.slice A l.length cap) (skip l a) (skip l a : Nat) 240 tv := by simpa [noF, noE] using hr4
        have e2 := hr4'.c2
        have e3 := hr4'.c3
        have hE : ∀ n, PPost l w (.returned (.tuple #[.slice none 0 0, .int .i64 (skip l a : Nat), .int .i64 240])) (w4.drewN n) := by
          intro n
          unfold PPost
          rw [HP.out]
          exact ⟨rfl, Chg.of_below' (((HS3.out.2.2.mono (T := fun k => w.heap.size ≤ k) fun _ _ h => h.elim).trans ((hc4.drewN n).mono fun _ _ h => by omega)).below (Nat.le_refl _) fun _ h => h)⟩
        have HE := Lib.hid hE
        clear hr4 hr4' hc4 hE
        go_wp2_with fail
        go_quiet (fail)
        go_wp2_with fail
        go_ret3
        exact HE.out _
      · have hp := hp2 hs
        have hd : decide (skip l a < l.length) = false := decide_eq_false hs
        have hE : PPost l w (.returned (.tuple #[tv, .int .i64 0, .int .i64 0])) w3 := by
          unfold PPost
          rw [hp]
          exact ⟨tv, xs, rfl, HS3.out.2.1, HS3.out.2.2⟩
        have HE := Lib.hid hE
        clear hp hp1 hp2 hE
        go_wp2_with fail
        go_ret3
        exact HE.out
    · have hp := HPE.out.2 (by omega)
      have hf' : 0 ≤ fa := by omega
      have hE : ∀ n, PPost l w (.returned (.tuple #[.slice none 0 0, .int .i64 fa, .int .i64 er])) (w3.drewN n) := by
        intro n
        unfold PPost
        rw [hp]
        exact ⟨by simp only; rw [Int.toNat_of_nonneg hf'], HS3.out.2.2.drewN n⟩
      have HE := Lib.hid hE
      clear hp hE
      go_wp2_with fail
      go_quiet (fail)
      go_wp2_with fail
      go_ret3
      exact HE.out _
end Go.Proofs.YtknmbfkpclacgaaGreatDoor

/- Alike and Equal of galleyref, of two readings of one tree: the walk. -/
set_option linter.unusedSimpArgs false
namespace Go.Proofs.YtknmbfkpclacgaaGreatDoor
open Go.RowKit

set_option maxRecDepth 100000 in
set_option maxHeartbeats 4000000 in
theorem alike_same (ks : List Int) (A1 A2 : Option Addr) (c1 c2 B : Nat) (w : World) (h1 : Ro w B A1 (ints ks)) (h2 : Ro w B A2 (ints ks)) (hB : B ≤ w.heap.size) (hl : ks.length ≤ 140737488355328) :
    Calls Tryz.prog 55 #[.slice A1 ks.length c1, .slice A2 ks.length c2] w fun e w' => e = .returned (.bool true) ∧ Chg (fun _ => False) w w' := by
  have H1 := Lib.hid h1
  have H2 := Lib.hid h2
  clear h1 h2
  go_enter Tryz.func55, Tryz.ntmps55
  go_wp2_with fail
  go_loopg [5] (ks.length + 1) (fun g s5 wr => ∃ j : Nat, s5 = .int .i64 j ∧ j ≤ ks.length ∧ Chg (fun _ => False) w wr ∧ ks.length - j + 1 = g)
  case atStart => exact ⟨0, rfl, by omega, Chg.refl _ _, rfl⟩
  case round =>
    obtain ⟨j, rfl, hj, hch, hg⟩ := hrel
    have HG := Lib.hid hg
    clear hg
    by_cases hjl : j < ks.length
    · obtain ⟨b1, o1, hA1, hb1, x1⟩ := (H1.out.keep (hch.below hB (fun _ h => h.elim))).int j hjl
      obtain ⟨b2, o2, hA2, hb2, x2⟩ := (H2.out.keep (hch.below hB (fun _ h => h.elim))).int j hjl
      subst hA1 hA2
      generalize ks[j] = x at *
      go_wp2_with fail
      go_quiet (fail)
      go_wp2_with fail
      go_roundg (ks.length - (j + 1) + 1)
      case measure => rw [← HG.out]; omega
      case rel => exact ⟨j + 1, int_i64 (by omega), by omega, hch.drewN _, rfl⟩
    · go_wp2_with fail
      go_ret
      exact ⟨rfl, hch⟩

theorem two_allocs (w : World) (o1 o2 : Obj) : ((w.alloc o1).alloc o2).drew.heap[w.heap.size]? = some o1 ∧ ((w.alloc o1).alloc o2).drew.heap[w.heap.size + 1]? = some o2 ∧ Chg (fun _ => False) w ((w.alloc o1).alloc o2).drew := by
  refine ⟨?_, ?_, (((Chg.refl _ _).alloc _).alloc _).drew⟩
  · show ((w.alloc o1).alloc o2).heap[w.heap.size]? = some o1
    simp only [World.alloc, Array.getElem?_push, Array.size_push]
    rw [if_neg (by omega), if_pos trivial]
  · show ((w.alloc o1).alloc o2).heap[w.heap.size + 1]? = some o2
    simp only [World.alloc, Array.getElem?_push, Array.size_push]
    rw [if_pos trivial]
def vcells (v : JV) (Ak : Option Addr) (ck : Nat) (An : Option Addr) (cn : Nat) : Array Value := #[.int .i64 v.kind, .bool v.truth, .int .i64 v.n, .string ⟨v.text.toArray⟩, .slice Ak v.kids.length ck, .slice An v.names.length cn]
theorem vcells_at {w : World} {b : Nat} {v : JV} {Ak : Option Addr} {ck : Nat} {An : Option Addr} {cn : Nat} {e : TypeId} (h : w.heap[b]? = some (.cells (vcells v Ak ck An cn) e (0, 0))) :
    w.cell? ⟨b, 0, none⟩ = some (.int .i64 v.kind) ∧ w.cell? ⟨b, 1, none⟩ = some (.bool v.truth) ∧ w.cell? ⟨b, 2, none⟩ = some (.int .i64 v.n) ∧ w.cell? ⟨b, 3, none⟩ = some (.string ⟨v.text.toArray⟩) ∧ w.cell? ⟨b, 4, none⟩ = some (.slice Ak v.kids.length ck) ∧ w.cell? ⟨b, 5, none⟩ = some (.slice An v.names.length cn) := by
  refine ⟨?_, ?_, ?_, ?_, ?_, ?_⟩ <;> (rw [cell_of_row _ _ _ _ _ _ h]; rfl)
theorem two_cells (w : World) (v : JV) (Ak1 : Option Addr) (ck1 : Nat) (An1 : Option Addr) (cn1 : Nat) (Ak2 : Option Addr) (ck2 : Nat) (An2 : Option Addr) (cn2 : Nat) :
    ∃ W, ((w.alloc (.cells #[.int .i64 v.kind, .bool v.truth, .int .i64 v.n, .string ⟨v.text.toArray⟩, .slice Ak1 v.kids.length ck1, .slice An1 v.names.length cn1] 47)).alloc (.cells #[.int .i64 v.kind, .bool v.truth, .int .i64 v.n, .string ⟨v.text.toArray⟩, .slice Ak2 v.kids.length ck2, .slice An2 v.names.length cn2] 47)).drew = W ∧
      W.heap[w.heap.size]? = some (.cells (vcells v Ak1 ck1 An1 cn1) 47) ∧ W.heap[w.heap.size + 1]? = some (.cells (vcells v Ak2 ck2 An2 cn2) 47) ∧ Chg (fun _ => False) w W :=
  ⟨_, rfl, two_allocs w _ _⟩

set_option maxRecDepth 100000 in
set_option maxHeartbeats 4000000 in
theorem equal_same (t : List JV) (A1 A2 : Option Addr) (c1 c2 B : Nat) (xs1 xs2 : List VC) (w : World) (h1 : TRd w B A1 xs1 t) (h2 : TRd w B A2 xs2 t) (hB : B ≤ w.heap.size) :
    Calls Tryz.prog 20 #[.slice A1 t.length c1, .slice A2 t.length c2] w fun e w' => e = .returned (.bool true) ∧ Chg (fun _ => False) w w' := by
  have H1 := Lib.hid h1
  have H2 := Lib.hid h2
  have htl := h1.tl
  clear h1 h2
  go_enter Tryz.func20, Tryz.ntmps20
  go_wp2_with fail
  go_loopg [5] (t.length + 1) (fun g s5 wr => ∃ j : Nat, s5 = .int .i64 j ∧ j ≤ t.length ∧ Chg (fun _ => False) w wr ∧ t.length - j + 1 = g)
  case atStart => exact ⟨0, rfl, by omega, Chg.refl _ _, rfl⟩
  case round =>
    obtain ⟨i, rfl, hi, hch, hg⟩ := hrel
    have HG := Lib.hid hg
    clear hg
    by_cases hit : i < t.length
    · obtain ⟨b1, o1, Ak1, ck1, An1, cn1, hA1, hb1, p0, p1, p2, p3, p4, p5, hk1, hn1, hkl, hnl⟩ := (H1.out.keep (hch.below hB (fun _ h => h.elim))).at i hit
      obtain ⟨b2, o2, Ak2, ck2, An2, cn2, hA2, hb2, q0, q1, q2, q3, q4, q5, hk2, hn2, _, _⟩ := (H2.out.keep (hch.below hB (fun _ h => h.elim))).at i hit
      subst hA1 hA2
      generalize t[i] = v at *
      have hBw := Nat.le_trans hB hch.size
      go_wp2_with fail
      have n1 : wr.heap.size ≠ b1 := by omega
      have n2 : wr.heap.size ≠ b2 := by omega
      have n3 : wr.heap.size + 1 ≠ b1 := by omega
      have n4 : wr.heap.size + 1 ≠ b2 := by omega
      go_region_held (fun w' => w'.cell? ⟨b1, o1 + i * 6, none⟩ = some (.int .i64 v.kind) ∧ w'.cell? ⟨b1, o1 + i * 6 + 1, none⟩ = some (.bool v.truth) ∧ w'.cell? ⟨b1, o1 + i * 6 + 2, none⟩ = some (.int .i64 v.n) ∧ w'.cell? ⟨b1, o1 + i * 6 + 3, none⟩ = some (.string ⟨v.text.toArray⟩) ∧ w'.cell? ⟨b1, o1 + i * 6 + 4, none⟩ = some (.slice Ak1 v.kids.length ck1) ∧ w'.cell? ⟨b1, o1 + i * 6 + 5, none⟩ = some (.slice An1 v.names.length cn1) ∧ w'.cell? ⟨b2, o2 + i * 6, none⟩ = some (.int .i64 v.kind) ∧ w'.cell? ⟨b2, o2 + i * 6 + 1, none⟩ = some (.bool v.truth) ∧ w'.cell? ⟨b2, o2 + i * 6 + 2, none⟩ = some (.int .i64 v.n) ∧ w'.cell? ⟨b2, o2 + i * 6 + 3, none⟩ = some (.string ⟨v.text.toArray⟩) ∧ w'.cell? ⟨b2, o2 + i * 6 + 4, none⟩ = some (.slice Ak2 v.kids.length ck2) ∧ w'.cell? ⟨b2, o2 + i * 6 + 5, none⟩ = some (.slice An2 v.names.length cn2)) (go_keep) (fail)
      all_goals
        rename_i hHeld
        clear hHeld n1 n2 n3 n4 p0 p1 p2 p3 p4 p5 q0 q1 q2 q3 q4 q5
        first
        | (obtain ⟨W, hWW, hx, hy, hcW⟩ := two_cells wr v Ak1 ck1 An1 cn1 Ak2 ck2 An2 cn2
           have hBW := Nat.le_trans hBw hcW.size
           have hbl := hcW.below hBw (fun _ h => h.elim)
           rw [hWW]
           clear hWW
           generalize wr.heap.size + 1 = yb at *
           generalize wr.heap.size = xb at *)
        | (obtain ⟨W, hWW, hy, hx, hcW⟩ := two_cells wr v Ak2 ck2 An2 cn2 Ak1 ck1 An1 cn1
           have hBW := Nat.le_trans hBw hcW.size
           have hbl := hcW.below hBw (fun _ h => h.elim)
           rw [hWW]
           clear hWW
           generalize wr.heap.size + 1 = xb at *
           generalize wr.heap.size = yb at *)
        have hkw1 := hk1.keep hbl
        have hkw2 := hk2.keep hbl
        have hnw1 := hn1.keep hbl
        have hnw2 := hn2.keep hbl
        have hcw := hch.trans hcW
        have hal := alike_same v.kids Ak1 Ak2 ck1 ck2 B W hkw1 hkw2 hBW hkl
        obtain ⟨p0, p1, p2, p3, p4, p5⟩ := vcells_at hx
        obtain ⟨q0, q1, q2, q3, q4, q5⟩ := vcells_at hy
        have HX := Lib.hid (And.intro hx (And.intro hy (And.intro hnw1 (And.intro hnw2 hal))))
        clear hk1 hk2 hn1 hn2 hkw1 hkw2 hch hcW hBw hx hy hnw1 hnw2 hal
        go_wp2_with fail
        refine HX.out.2.2.2.2.mono ?_
        rintro e W2 ⟨rfl, hch2⟩
        have hx2 := hch2.obj HX.out.1 id
        have hy2 := hch2.obj HX.out.2.1 id
        have hbl2 := hch2.below hBW (fun _ h => h.elim)
        have hnx2 := HX.out.2.2.1.keep hbl2
        have hny2 := HX.out.2.2.2.1.keep hbl2
        have hcw2 := hcw.trans hch2
        have hBW2 := Nat.le_trans hBW hch2.size
        clear p0 p1 p2 p3 p4 p5 q0 q1 q2 q3 q4 q5 HX hcw hch2 hbl hbl2
        go_wp2_with fail
        go_loopg [8] (v.names.length + 1) (fun g s8 wq => ∃ j : Nat, s8 = .int .i64 j ∧ j ≤ v.names.length ∧ Chg (fun _ => False) W2 wq ∧ v.names.length - j + 1 = g)
        case atStart => exact ⟨0, rfl, by omega, Chg.refl _ _, rfl⟩
        case round =>
          rename_i gk2 wq _ _
          obtain ⟨j, rfl, hj, hchq, hg⟩ := hrel
          have HG2 := Lib.hid hg
          clear hg
          obtain ⟨p0, p1, p2, p3, p4, p5⟩ := vcells_at (hchq.obj hx2 id)
          obtain ⟨q0, q1, q2, q3, q4, q5⟩ := vcells_at (hchq.obj hy2 id)
          clear p0 p1 p2 p3 p4 q0 q1 q2 q3 q4
          by_cases hjl : j < v.names.length
          · obtain ⟨b3, o3, hA3, hb3, x3⟩ := (hnx2.keep (hchq.below hBW2 (fun _ h => h.elim))).str j hjl
            obtain ⟨b4, o4, hA4, hb4, x4⟩ := (hny2.keep (hchq.below hBW2 (fun _ h => h.elim))).str j hjl
            subst hA3 hA4
            generalize v.names[j] = nm at *
            go_wp2_with fail
            go_quiet (fail)
            go_wp2_with fail
            go_roundg (v.names.length - (j + 1) + 1)
            case measure => rw [← HG2.out]; omega
            case rel => exact ⟨j + 1, int_i64 (by omega), by omega, hchq.drewN _, rfl⟩
          · go_wp2_with fail
            go_roundg (t.length - (i + 1) + 1)
            case measure => rw [← HG.out]; omega
            case rel => exact ⟨i + 1, int_i64 (by omega), by omega, hcw2.trans hchq, rfl⟩
    · go_wp2_with fail
      go_ret
      exact ⟨rfl, hch⟩
end Go.Proofs.YtknmbfkpclacgaaGreatDoor
