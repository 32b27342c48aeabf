import Derived.Test.YtknmbfkpclacgaaGreatDoorMPa25
import Derived.RegionDies
/- The document's reader: many, of a list. -/
set_option linter.unusedSimpArgs false
namespace Go.Proofs.YtknmbfkpclacgaaGreatDoor
open Go.RowKit

/-- A list's reading at the head of the loop. -/
structure LG (l : List UInt8) (k i kc a dp : Nat) (t' : List JV) (ks : List Int) (res : Except Flt (Nat × Nat × List JV)) : Prop where
  fuel : 2 * (l.length - a) + 2 ≤ kc
  kle : kc < k
  lo : i < a
  hi : a ≤ l.length
  sk : skip l a = a
  tl : t'.length ≤ a
  kl : ks.length ≤ a
  eq : (match valueJ l kc a (dp + 1) t' with
    | .error e => .error e
    | .ok (p, j, t2) => listJ l kc j dp t2 (ks ++ [(p : Int)])) = res
/-- What has been read, or where it has failed. -/
def LH (l : List UInt8) (k i a dp : Nat) (fa er : Int) (t' : List JV) (ks : List Int) (res : Except Flt (Nat × Nat × List JV)) : Prop :=
  (fa = -1 ∧ er = 0 ∧ ∃ kc, LG l k i kc a dp t' ks res) ∨ (0 ≤ fa ∧ res = .error (fa.toNat, er) ∧ a + 1 ≤ limR l dp ∧ t'.length + 2 ≤ limR l dp ∧ ks.length ≤ l.length + 1)
/-- Behind a value of the list, and blanks. -/
theorem LG.after {l : List UInt8} {k i kc a dp : Nat} {t' : List JV} {ks : List Int} {res : Except Flt (Nat × Nat × List JV)} (h : LG l k i kc a dp t' ks res) {p j : Nat} {t2 : List JV} (hv : valueJ l kc a (dp + 1) t' = .ok (p, j, t2)) :
    a < j ∧ j ≤ l.length ∧ t2.length ≤ j ∧ ks.length + 1 ≤ j ∧ (pk l (skip l j) = 93 → res = .ok (t2.length, skip l j + 1, t2 ++ [jList (ks ++ [(p : Int)])])) ∧
      (pk l (skip l j) ≠ 93 → pk l (skip l j) ≠ 44 → res = .error (skip l j, 240)) ∧
      (pk l (skip l j) ≠ 93 → pk l (skip l j) = 44 → ∃ kc', LG l k i kc' (skip l (skip l j + 1)) dp t2 (ks ++ [(p : Int)]) res) := by
  obtain ⟨h1, h2, ⟨n, h3, h4⟩, h5⟩ := (grew_all l kc).1 _ _ _ _ _ _ hv
  have he := h.eq
  rw [hv] at he
  simp only at he
  have hfu := h.fuel
  have htl := h.tl
  have hkl := h.kl
  obtain ⟨kc', rfl⟩ : ∃ m, kc = m + 1 := ⟨kc - 1, by omega⟩
  rw [listJ] at he
  have hks : ks ++ [(p : Int)] ≠ [] := by simp
  refine ⟨h1, h2, ?_, by omega, fun h93 => ?_, fun h93 h44 => ?_, fun h93 h44 => ⟨kc', ?_⟩⟩
  · rw [h3, List.length_append]; omega
  · rw [if_pos h93] at he; exact he.symm
  · rw [if_neg h93, if_pos ⟨hks, h44⟩] at he; exact he.symm
  · rw [if_neg h93, if_neg (fun hh => hh.2 h44), if_neg hks] at he
    have h6 := pk_nz (by decide) h44
    have h7 := skip_ge l j
    have h8 := skip_ge l (skip l j + 1)
    have h9 := skip_le l (skip l j + 1) (by omega)
    have hkle := h.kle
    have hlo := h.lo
    refine ⟨by omega, by omega, by omega, h9, skip_skip l _, by rw [h3, List.length_append]; omega, by simp; omega, ?_⟩
    rw [valueJ_skip l kc' (skip l j + 1) (dp + 1) t2 (by omega)]
    exact he
theorem LG.first {l : List UInt8} {k i dp : Nat} {t : List JV} (hk : 2 * (l.length - (i + 1)) + 3 ≤ k) (hil : i < l.length) (hti : t.length ≤ i) (h93 : pk l (skip l (i + 1)) ≠ 93) :
    ∃ kc, LG l k i kc (skip l (i + 1)) dp t [] (listJ l k (i + 1) dp t []) := by
  obtain ⟨kc, rfl⟩ : ∃ m, k = m + 1 := ⟨k - 1, by omega⟩
  have h1 := skip_ge l (i + 1)
  have h2 := skip_le l (i + 1) (by omega)
  refine ⟨kc, by omega, by omega, by omega, h2, skip_skip l _, by omega, by simp, ?_⟩
  rw [listJ]
  simp only [if_neg h93, ne_eq, not_true_eq_false, false_and, if_false, if_true]
  rfl
theorem listJ_shut {l : List UInt8} {k i dp : Nat} {t : List JV} (hk : 0 < k) (h93 : pk l (skip l i) = 93) : listJ l k i dp t [] = .ok (t.length, skip l i + 1, t ++ [jList []]) := by
  obtain ⟨k, rfl⟩ : ∃ m, k = m + 1 := ⟨k - 1, by omega⟩
  rw [listJ]
  simp only [if_pos h93]

theorem limR_step (l : List UInt8) (dp : Nat) (h : dp < 64) : limR l (dp + 1) + 2 = limR l dp ∧ l.length + 72 ≤ limR l (dp + 1) := by unfold limR; omega
/-- What stands behind a value of the list. -/
theorem LG.turn {l : List UInt8} {k i kc a dp : Nat} {t' : List JV} {ks : List Int} {res : Except Flt (Nat × Nat × List JV)} (h : LG l k i kc a dp t' ks res) {z : Int} {a3 : Nat} {fa3 er3 : Int} {t2 : List JV} (hf : FR (valueJ l kc a (dp + 1) t') z a3 fa3 er3 t2) (hdp : dp < 64) (hal : a3 ≤ limR l (dp + 1)) (htl : t2.length ≤ limR l (dp + 1)) :
    (atI l (skip l a3) = 93 → FR res (t2.length : Nat) (skip l a3 + 1) fa3 er3 (t2 ++ [jList (ks ++ [z])])) ∧
    (atI l (skip l a3) ≠ 93 → atI l (skip l a3) ≠ 44 → LH l k i (skip l (skip l a3 + 1)) dp (noF fa3 (skip l a3 : Nat)) (noE fa3 er3 240) t2 (ks ++ [z]) res ∧ ¬ noF fa3 (skip l a3 : Nat) < 0) ∧
    (atI l (skip l a3) ≠ 93 → atI l (skip l a3) = 44 → LH l k i (skip l (skip l a3 + 1)) dp fa3 er3 t2 (ks ++ [z]) res ∧ (fa3 < 0 → a < skip l (skip l a3 + 1) ∧ skip l (skip l a3 + 1) ≤ l.length)) := by
  have h93 := atI_eq (l := l) (p := skip l a3) (n := 93) (by omega) (by omega)
  have h44 := atI_eq (l := l) (p := skip l a3) (n := 44) (by omega) (by omega)
  have hl := limR_step l dp hdp
  have hb1 := skip_bd l a3
  have hb2 := skip_bd l (skip l a3 + 1)
  have hkl := h.kl
  have hhi := h.hi
  cases hv : valueJ l kc a (dp + 1) t' with
  | error f =>
    rw [hv] at hf
    obtain ⟨rfl, rfl⟩ := hf
    have hres : res = .error f := by rw [← h.eq, hv]
    have hnf : noF ((f.1 : Nat) : Int) ((skip l a3 : Nat) : Int) = f.1 := by unfold noF; rw [if_neg (by omega)]
    have hne : noE ((f.1 : Nat) : Int) f.2 240 = f.2 := by unfold noE; rw [if_neg (by omega)]
    have hLH : LH l k i (skip l (skip l a3 + 1)) dp (f.1 : Nat) f.2 t2 (ks ++ [z]) res := .inr ⟨by omega, by rw [hres]; rfl, by omega, by omega, by simp; omega⟩
    refine ⟨fun _ => by rw [hres]; exact ⟨rfl, rfl⟩, fun _ _ => ?_, fun _ _ => ⟨hLH, fun h => by omega⟩⟩
    rw [hnf, hne]
    exact ⟨hLH, by omega⟩
  | ok r =>
    obtain ⟨p, j, t3⟩ := r
    rw [hv] at hf
    obtain ⟨rfl, rfl, rfl, rfl, rfl⟩ := hf
    obtain ⟨g1, g2, g3, g4, g5, g6, g7⟩ := h.after hv
    refine ⟨fun e => ?_, fun e1 e2 => ?_, fun e1 e2 => ?_⟩
    · rw [g5 (h93.1 e)]; exact ⟨rfl, rfl, rfl, rfl, rfl⟩
    · have hr := g6 (fun e => e1 (h93.2 e)) (fun e => e2 (h44.2 e))
      have hnf : noF (-1) ((skip l a3 : Nat) : Int) = (skip l a3 : Nat) := rfl
      have hne : noE (-1) 0 240 = 240 := rfl
      rw [hnf, hne]
      exact ⟨.inr ⟨by omega, by rw [hr]; rfl, by omega, by omega, by simp; omega⟩, by omega⟩
    · obtain ⟨kc', hh⟩ := g7 (fun e => e1 (h93.2 e)) (h44.1 e2)
      have q1 := skip_ge l a3
      have q2 := skip_ge l (skip l a3 + 1)
      exact ⟨.inl ⟨rfl, rfl, kc', hh⟩, fun _ => ⟨by omega, hh.hi⟩⟩

set_option maxRecDepth 100000 in
set_option maxHeartbeats 32000000 in
theorem many_list (l : List UInt8) (rb : Nat) (A : Option Addr) (cap B base k : Nat) (hrb : base ≤ rb) (hB : B ≤ base) (hL : l.length ≤ 268435456) (IH : ∀ k', k' < k → VConR l rb A cap B base k')
    (i dp : Nat) (t : List JV) (tv : Value) (xs : List VC) (w : World) (hk : 2 * (l.length - (i + 1)) + 3 ≤ k) (hil : i < l.length) (hti : t.length ≤ i) (hdp : dp ≤ 64) (hst : RS w B rb A cap l i (-1) 0 tv) (hT : TR base w tv xs t) :
    Calls Tryz.prog 117 #[.pointer (some ⟨rb, 0, none⟩), .agg #[.int .i64 5, .bool false, .int .i64 0, .string ⟨#[]⟩, .slice none 0 0, .slice none 0 0], .int .i64 93, .int .i64 dp] w
      (RPost (if dp = 64 then .error (i, 241) else listJ l k (i + 1) dp t []) rb base (.slice A l.length cap) tv xs (limR l dp) w) := by
  have HIH := Lib.hid IH
  clear IH
  have hrl := hst.r.lt
  have hBr := hst.B
  have hbw : base ≤ w.heap.size := by omega
  have hlim : l.length + 72 ≤ limR l dp := by unfold limR; omega
  have hlim2 : limR l dp ≤ l.length + 200 := by unfold limR; omega
  obtain ⟨i0, hi0, hz0, hz1, hz2⟩ := info_parts Tryz.infoInt
  have HI := Lib.hid (And.intro hi0 (And.intro hz0 (And.intro hz1 hz2)))
  clear hi0 hz0 hz1 hz2
  generalize hW0 : w.alloc (.cells #[.int .i64 5, .bool false, .int .i64 0, .string ⟨#[]⟩, .slice none 0 0, .slice none 0 0] 47) = W0
  have hc0 : Chg (fun _ => False) w W0 := by subst hW0; exact (Chg.refl _ _).alloc _
  have hsz0 : W0.heap.size = w.heap.size + 1 := by subst hW0; simp
  have hm0 : MI l rb A cap B base tv xs w w.heap.size 5 i (-1) 0 t [] tv [] [] (.slice none 0 0) (.slice none 0 0) W0 :=
    ⟨hst.to (hst.r.keep hc0 id) (hc0.mono fun _ _ h => h.elim), by rw [List.append_nil]; exact hT.keep hc0 (fun _ h => h.elim) (fun _ _ h => h), ⟨by subst hW0; exact heap_alloc_new w _⟩, ⟨rfl, .inl ⟨rfl, rfl⟩⟩, ⟨rfl, .inl ⟨rfl, rfl⟩⟩,
      fun b hb => by simp [Value.ownBlock] at hb, fun b hb => by simp [Value.ownBlock] at hb, hc0.mono fun _ _ h => h.elim, fun b hb => by simp [tb] at hb, fun b hb => .inl hb, fun e => by have := own_lt2 hT.own _ e; omega, Nat.le_refl _, hrl⟩
  have c1 := hm0.st.r.c1
  have f1 := hm0.st.r.f 1
  have HM0 := Lib.hid hm0
  have HST := Lib.hid hst
  have HT := Lib.hid hT
  have hsz0' : w.heap.size < W0.heap.size := by omega
  clear hc0 hm0 hst hT hsz0
  by_cases h64 : dp = 64
  · subst h64
    rw [if_pos rfl]
    have hno := rno_any rb (.slice A l.length cap) i (-1) 0 tv (i : Int) 241 W0 HM0.out.st.r
    have HNO := Lib.hid hno
    clear hno
    go_enter Tryz.func117, Tryz.ntmps117
    go_wp2_with fail
    refine HNO.out.mono ?_
    rintro e w1 ⟨rfl, hr, hc⟩
    have hr' : RR w1 rb (.slice A l.length cap) i (i : Int) 241 tv := by simpa [noF, noE] using hr
    have HE := Lib.hid ((HM0.out.mv hr' hc).stop (res := .error (i, 241)) (lim := limR l 64) (by omega) (by omega) (by simp) (by omega) 0)
    clear hr hr' hc
    go_wp2_with fail
    go_ret
    exact HE.out
  rw [if_neg h64]
  have hdp2 : ¬ (64 : Int) ≤ (dp : Int) := by omega
  have hm1 : MI l rb A cap B base tv xs w w.heap.size 5 (i + 1) (-1) 0 t [] tv [] [] (.slice none 0 0) (.slice none 0 0) (W0.setCell ⟨rb, 1, none⟩ (.int .i64 ((i : Int) + 1))) := HM0.out.mv (HM0.out.st.r.set1 (i + 1)) ((Chg.refl _ _).st _ _)
  have hb1 := rblanks_any rb A cap l (i + 1) (-1) 0 tv B _ hm1.st (by omega)
  have HM1 := Lib.hid hm1
  have HB1 := Lib.hid hb1
  obtain ⟨res, hres⟩ : ∃ r, r = listJ l k (i + 1) dp t [] := ⟨_, rfl⟩
  have hfst := LG.first (dp := dp) hk hil hti
  have hsht := fun h => listJ_shut (l := l) (dp := dp) (t := t) (show 0 < k by omega) (i := i + 1) h
  rw [← hres] at hfst hsht ⊢
  have HF := Lib.hid hfst
  have HSH := Lib.hid hsht
  clear hm1 hb1 h64 hres hfst hsht
  go_enter Tryz.func117, Tryz.ntmps117
  go_wp2_with fail
  refine HB1.out.mono ?_
  rintro e w2 ⟨rfl, hr2, hc2⟩
  have hm2 := HM1.out.mv hr2 hc2
  have hh2 := here_any rb A cap l (skip l (i + 1)) (-1) 0 tv B w2 hm2.st.r hm2.st.b
  have hy := atI_eq (l := l) (p := skip l (i + 1)) (n := 93) (by omega) (by omega)
  have hsk := skip_le l (i + 1) (by omega)
  have hsk2 := skip_ge l (i + 1)
  generalize atI l (skip l (i + 1)) = y at *
  have HM2 := Lib.hid hm2
  have HH2 := Lib.hid hh2
  have HY := Lib.hid hy
  clear hm2 hh2 hy hr2 hc2 HB1
  go_wp2_with fail
  refine HH2.out.mono ?_
  rintro e w3 ⟨rfl, hd3⟩
  have hm3 := HM2.out.drawn hd3
  have HM3 := Lib.hid hm3
  clear hd3 HH2
  by_cases h93 : y = 93
  case pos =>
    have t93 : (y == 93) = true := by rw [beq_iff_eq]; exact h93
    have d1 := hm3.st.r.c1
    have g1 := hm3.st.r.f 1
    obtain ⟨l0, l1, l2, l3, l4, l5⟩ := hm3.lv.cells
    have hx := HSH.out (HY.out.1 h93)
    have hm4 := HM3.out.mv (HM3.out.st.r.set1 (skip l (i + 1) + 1)) ((Chg.refl _ _).st _ _)
    have hp := hm4.put (res := res) (lim := limR l dp) (jList []) rfl hrb hB hbw (by omega) (by omega) (by omega) (by rw [hx]; exact ⟨rfl, rfl, rfl, rfl, rfl⟩)
    have HP := Lib.hid hp
    have n1 : w.heap.size ≠ rb := by omega
    have n2 : rb ≠ w.heap.size := by omega
    clear h93 hm3 hx hm4 hp
    go_wp2_with fail
    refine HP.out.mono ?_
    intro e w5 hR
    obtain ⟨z, a, fa, er, tv', xs', t', rfl, hR⟩ := hR
    have HE := Lib.hid (show RPost res rb base (.slice A l.length cap) tv xs (limR l dp) w (.returned (.int .i64 z)) w5 from ⟨z, a, fa, er, tv', xs', t', rfl, hR⟩)
    clear hR
    go_wp2_with fail
    go_ret
    exact HE.out
  case neg =>
    have t93 : (y == 93) = false := by rw [beq_eq_false_iff_ne]; exact h93
    have hg := HF.out (fun h => h93 (HY.out.2 h))
    have HG := Lib.hid hg
    clear h93 hg hm3
    go_wp2_with fail
    go_loopg [] (2 * l.length + 8) (fun g wr => ∃ a fa er t' xs' tv' ks kv, MI l rb A cap B base tv xs w w.heap.size 5 a fa er t' xs' tv' ks [] kv (.slice none 0 0) wr ∧ LH l k i a dp fa er t' ks res ∧ (if fa < 0 then l.length - a + 2 else 1) ≤ g)
    case atStart =>
      obtain ⟨kc, hlg⟩ := HG.out
      exact ⟨_, -1, 0, t, [], tv, [], .slice none 0 0, HM3.out, .inl ⟨rfl, rfl, kc, hlg⟩, by simp; omega⟩
    case round =>
      obtain ⟨a, fa, er, t', xs', tv', ks, kv, hM, hH, hg⟩ := hrel
      have d2 := hM.st.r.c2
      rcases hH with ⟨rfl, rfl, kc, hlg⟩ | ⟨hf, hr, ha, htl, _⟩
      case inr =>
        have HE := Lib.hid (hM.stop (lim := limR l dp) (by omega) (by omega) hr hf 0)
        have hf2 : ¬ fa < 0 := by omega
        clear hM hg hr
        go_wp2_with fail
        go_ret
        exact HE.out
      case inl =>
        have hkl := hlg.kl
        have hhi := hlg.hi
        have hcall := HIH.out kc hlg.kle a (dp + 1) t' tv' (xs ++ xs') wr.drew hlg.fuel hlg.hi hlg.tl (by omega) hlg.sk hM.drew.st hM.drew.tr
        rw [show ((dp + 1 : Nat) : Int) = (dp : Int) + 1 by omega] at hcall
        obtain ⟨Ak, ck, rfl⟩ := own_form hM.kown
        have hturn := fun z a3 fa3 er3 t2 (hf : FR (valueJ l kc a (dp + 1) t') z a3 fa3 er3 t2) (hal : a3 ≤ limR l (dp + 1)) (htl : t2.length ≤ limR l (dp + 1)) => hlg.turn hf (by omega) hal htl
        generalize valueJ l kc a (dp + 1) t' = vr at *
        have l4c : wr.cell? ⟨w.heap.size, 4, none⟩ = some (.slice Ak ks.length ck) := hM.lv.cells.2.2.2.2.1
        rw [if_pos (by omega)] at hg
        have HG2 := Lib.hid hg
        have HM := Lib.hid hM
        have HTURN := Lib.hid hturn
        have HKN := Lib.hid hM.disj.1
        have HKL : Hid (ks.length ≤ 268435456) := by show _ ≤ _; omega
        have hwrs : w.heap.size ≤ wr.heap.size := hM.chg.size
        have HSZ := Lib.hid hwrs
        have hcall2 : Calls Tryz.prog 53 #[.pointer (some ⟨rb, 0, none⟩), .int .i64 ((dp : Int) + 1)] wr.drew fun e w3 => ∃ z a3 fa3 er3 tv2 xs2 t2, e = .returned (.int .i64 z) ∧
            FR vr z a3 fa3 er3 t2 ∧ a3 ≤ limR l (dp + 1) ∧ t2.length ≤ limR l (dp + 1) ∧ MI l rb A cap B base tv xs w w.heap.size 5 a3 fa3 er3 t2 (xs' ++ xs2) tv2 ks [] (.slice Ak ks.length ck) (.slice none 0 0) w3 := by
          refine hcall.mono ?_
          rintro e w3 ⟨z, a3, fa3, er3, tv2, xs2, t2, rfl, hR⟩
          exact ⟨z, a3, fa3, er3, tv2, xs2, t2, rfl, hR.fr, hR.al, hR.tl, HM.out.drew.call HT.out hrb hB HST.out hR.r hR.tr hR.chg hR.fresh hR.tvb⟩
        have HCALL := Lib.hid hcall2
        have hwd : IntKind.i64.wrap ((dp : Int) + 1) = (dp : Int) + 1 := IntWalk.i64_in _ (by omega)
        clear hcall hcall2 hturn hM hg hlg
        go_wp2_with fail
        go_region_law
          ((first
            | (go_simp; go_at_call 53; refine HCALL.out.mono ?_; rintro e w3 ⟨z, a3, fa3, er3, tv2, xs2, t2, rfl, hfr, hal, htl, hm3⟩; have HM4 := Lib.hid hm3; have HFR := Lib.hid (And.intro hfr (And.intro hal htl)); have HD := Lib.hid (And.intro hm3.lv.lt hm3.chg.size); have hown3 := hm3.kown; have l43 := hm3.lv.cells.2.2.2.2.1; have l43A : ∀ o, (w3.alloc o).cell? ⟨w.heap.size, 4, none⟩ = some (.slice Ak ks.length ck) := fun o => (World.cell?_of_block (Below.heap_alloc w3 o _ hm3.lv.lt)).trans l43; clear hm3 hfr hal htl)
            | (refine step_append_lies _ (by rfl) _ _ _ (by rfl) w.heap.size 3 i0 _ 1 8 Tryz.underlying44 HI.out.1 HI.out.2.1 HI.out.2.2.1 HI.out.2.2.2 rfl (by omega) (.slice Ak ks.length ck) ks.length (ints ks) (by rfl) (hown3.alloc _)
                ⟨w3.heap.size, 0, none⟩ 1 1 [.int .i64 z] (by rfl) (by rfl) (World.news_of_block (cs := #[.int .i64 z]) (t := 3) (fr := (0, 0)) (heap_alloc_new w3 _)) (by simp [Value.oneCell'])
                (by omega) (by have := HKL.out; unfold maxLen; omega) (by have := HKL.out; omega) (by have := HD.out.2; rw [World.size_alloc]; omega) (w3.heap.size + 1) (by simp) ?_
               intro gg cap' w4 hown4 hgrow hat hlt
               have fz4 : w4.frozen? ⟨w.heap.size, 4, none⟩ = false := (hgrow.frozen_far ⟨w.heap.size, 4, none⟩ (Nat.lt_of_lt_of_le HD.out.1 (by rw [World.size_alloc]; exact Nat.le_succ _)) (fun e => HKN.out e.symm)).trans (by rw [World.frozen?_of_block (w := w3) (Below.heap_alloc w3 _ _ HD.out.1)]; exact HM4.out.lv.fz 4)
               have cz4 : w4.cell? ⟨w.heap.size, 4, none⟩ = some (.slice Ak ks.length ck) := (hgrow.cell_far ⟨w.heap.size, 4, none⟩ (Nat.lt_of_lt_of_le HD.out.1 (by rw [World.size_alloc]; exact Nat.le_succ _)) (fun e => HKN.out e.symm)).trans (l43A _))))
        all_goals
          have hm5 := HM4.out.kid HT.out hrb hB HST.out hown4 hgrow hat
          obtain ⟨T1, T2, T3⟩ := HTURN.out z a3 fa3 er3 t2 HFR.out.1 HFR.out.2.1 HFR.out.2.2
          have hal3 := HFR.out.2.1
          have htl3 := HFR.out.2.2
          have HTT := Lib.hid (And.intro T1 (And.intro T2 T3))
          generalize (Value.slice (some ⟨gg, 0, none⟩) (ks.length + 1) cap') = kv5 at *
          generalize w4.setCell ⟨w.heap.size, 4, none⟩ kv5 = w5 at *
          have HM5 := Lib.hid hm5
          have hls := (limR_step l dp (by omega)).1
          have hb5 := rblanks_any rb A cap l a3 fa3 er3 tv2 B w5 hm5.st (by omega)
          have HB5 := Lib.hid hb5
          clear hm5 T1 T2 T3 hown4 hgrow hat hlt hown3 l43 l43A fz4 cz4 hb5
          go_wp2_with fail
          refine HB5.out.mono ?_
          rintro e w6 ⟨rfl, hr6, hc6⟩
          have hm6 := HM5.out.mv hr6 hc6
          have hsk3 := skip_bd l a3
          have hh6 := here_any rb A cap l (skip l a3) fa3 er3 tv2 B w6 hm6.st.r hm6.st.b
          generalize hy5 : atI l (skip l a3) = y5 at *
          have HY5 := Lib.hid hy5
          clear hy5
          have HH6 := Lib.hid hh6
          have HM6 := Lib.hid hm6
          clear hm6 hh6 hr6 hc6 HB5
          go_wp2_with fail
          refine HH6.out.mono ?_
          rintro e w7 ⟨rfl, hd7⟩
          have hm7 := HM6.out.drawn hd7
          have HM7 := Lib.hid hm7
          clear hd7 HH6
          by_cases h93 : y5 = 93
          case pos =>
            have t93' : (y5 == 93) = true := by rw [beq_iff_eq]; exact h93
            have d1 := hm7.st.r.c1
            have g1 := hm7.st.r.f 1
            obtain ⟨l0, l1, l2, l3, l4, l5⟩ := hm7.lv.cells
            have hx := HTT.out.1 h93
            have hm8 := HM7.out.mv (HM7.out.st.r.set1 (skip l a3 + 1)) ((Chg.refl _ _).st _ _)
            have hp := hm8.put (res := res) (lim := limR l dp) (jList (ks ++ [z])) rfl hrb hB hbw (by omega) (by omega) (by omega) hx
            have HP := Lib.hid hp
            have n1 : w.heap.size ≠ rb := by omega
            have n2 : rb ≠ w.heap.size := by omega
            clear h93 hm7 hx hm8 hp
            go_wp2_with fail
            refine HP.out.mono ?_
            intro e w9 hR
            obtain ⟨z9, a9, fa9, er9, tv9, xs9, t9, rfl, hR⟩ := hR
            have HE := Lib.hid (show RPost res rb base (.slice A l.length cap) tv xs (limR l dp) w (.returned (.int .i64 z9)) w9 from ⟨z9, a9, fa9, er9, tv9, xs9, t9, rfl, hR⟩)
            clear hR
            go_wp2_with fail
            go_ret
            exact HE.out
          case neg =>
            have t93' : (y5 == 93) = false := by rw [beq_eq_false_iff_ne]; exact h93
            have hh7 := here_any rb A cap l (skip l a3) fa3 er3 tv2 B w7 hm7.st.r hm7.st.b
            rw [HY5.out] at hh7
            have HH7 := Lib.hid hh7
            have H93 := Lib.hid h93
            clear hh7 hm7 h93
            go_wp2_with fail
            refine HH7.out.mono ?_
            rintro e w8 ⟨rfl, hd8⟩
            have hm8 := HM7.out.drawn hd8
            have HM8 := Lib.hid hm8
            have d1 := hm8.st.r.c1
            have g1 := hm8.st.r.f 1
            clear hd8 HH7
            by_cases h44 : y5 = 44
            case pos =>
              have t44 : (y5 != 44) = false := by rw [h44]; rfl
              obtain ⟨hLH, hme⟩ := HTT.out.2.2 H93.out h44
              have hm9 := HM8.out.mv (HM8.out.st.r.set1 (skip l a3 + 1)) ((Chg.refl _ _).st _ _)
              have hb9 := rblanks_any rb A cap l (skip l a3 + 1) fa3 er3 tv2 B _ hm9.st (by omega)
              have HM9 := Lib.hid hm9
              have HB9 := Lib.hid hb9
              have HLH := Lib.hid (And.intro hLH hme)
              clear hLH hme hm9 hb9 hm8 h44
              go_wp2_with fail
              refine HB9.out.mono ?_
              rintro e w10 ⟨rfl, hr10, hc10⟩
              have HMA := Lib.hid (HM9.out.mv hr10 hc10)
              clear hr10 hc10
              go_wp2_with fail
              go_roundg (if fa3 < 0 then l.length - skip l (skip l a3 + 1) + 2 else 1)
              case measure =>
                have hG := HG2.out
                by_cases hf : fa3 < 0
                · rw [if_pos hf]; have := HLH.out.2 hf; omega
                · rw [if_neg hf]; omega
              case rel => exact ⟨_, fa3, er3, t2, xs' ++ xs2, tv2, ks ++ [z], kv5, HMA.out, HLH.out.1, Nat.le_refl _⟩
            case neg =>
              have t44 : (y5 != 44) = true := by rw [bne_iff_ne]; exact h44
              obtain ⟨hLH, hme⟩ := HTT.out.2.1 H93.out h44
              have hno := rno_any rb (.slice A l.length cap) (skip l a3) fa3 er3 tv2 (skip l a3 : Nat) 240 w8 hm8.st.r
              have HNO := Lib.hid hno
              have HLH := Lib.hid (And.intro hLH hme)
              clear hLH hme hm8 h44 hno
              go_wp2_with fail
              refine HNO.out.mono ?_
              rintro e w9 ⟨rfl, hr9, hc9⟩
              have hm9 := HM8.out.mv hr9 hc9
              generalize noF fa3 (skip l a3 : Nat) = fa9 at *
              generalize noE fa3 er3 240 = er9 at *
              have e1 := hm9.st.r.c1
              have e2 := hm9.st.r.f 1
              have hmA := hm9.mv (hm9.st.r.set1 (skip l a3 + 1)) ((Chg.refl _ _).st _ _)
              have hbA := rblanks_any rb A cap l (skip l a3 + 1) fa9 er9 tv2 B _ hmA.st (by omega)
              have HMA := Lib.hid hmA
              have HBA := Lib.hid hbA
              clear hr9 hc9 hm9 hmA hbA HNO
              go_wp2_with fail
              refine HBA.out.mono ?_
              rintro e w10 ⟨rfl, hr10, hc10⟩
              have HMB := Lib.hid (HMA.out.mv hr10 hc10)
              clear hr10 hc10
              go_wp2_with fail
              go_roundg (if fa9 < 0 then l.length - skip l (skip l a3 + 1) + 2 else 1)
              case measure =>
                have hG := HG2.out
                rw [if_neg (by have := HLH.out.2; omega)]; omega
              case rel => exact ⟨_, fa9, er9, t2, xs' ++ xs2, tv2, ks ++ [z], kv5, HMB.out, HLH.out.1, Nat.le_refl _⟩
end Go.Proofs.YtknmbfkpclacgaaGreatDoor
