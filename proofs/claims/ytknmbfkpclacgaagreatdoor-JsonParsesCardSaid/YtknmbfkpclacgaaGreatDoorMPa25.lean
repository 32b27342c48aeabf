import Derived.Test.YtknmbfkpclacgaaGreatDoorMPaVh
import Derived.Deep.CutRange
/- The document's reader: name. -/
set_option linter.unusedSimpArgs false
namespace Go.Proofs.YtknmbfkpclacgaaGreatDoor
open Go.RowKit

theorem own_strAt {w : World} {base n c : Nat} {A : Option Addr} {ns : List (List UInt8)} (h : w.ownsRow base 9 1 (.slice A n c) ns.length (strs ns)) (j : Nat) (hj : j < ns.length) : ∃ b, A = some ⟨b, 0, none⟩ ∧ w.cell? ⟨b, j, none⟩ = some (.string ⟨(ns.getD j []).toArray⟩) := by
  rcases h.2 with ⟨he, h0⟩ | ⟨g, cap, cur, he, hb, hg, hn, hm, hs, ht⟩
  · omega
  · simp only [Value.slice.injEq] at he
    refine ⟨g, he.1, ?_⟩
    rw [cell_of_row _ _ _ _ _ _ hg]
    have h1 : (strs ns)[j]? = some (.string ⟨(ns.getD j []).toArray⟩) := by
      simp [strs, List.getD_eq_getElem?_getD, hj]
    rw [← ht, List.getElem?_take] at h1
    split at h1
    · rw [← Array.getElem?_toList]; exact h1
    · cases h1
/-- A member's name, and the colon behind it. -/
def nameJ (l : List UInt8) (i : Nat) (ns : List (List UInt8)) : Except Flt (List UInt8 × Nat) :=
  if pk l i ≠ 34 then .error (i, 240)
  else match textJ l i with
    | .error e => .error e
    | .ok (s, j2) => if s ∈ ns then .error (i, 244) else if pk l (skip l j2) ≠ 58 then .error (skip l j2, 240) else .ok (s, skip l (skip l j2 + 1))
/-- What name does. -/
def NmR (l : List UInt8) (i : Nat) (ns : List (List UInt8)) (rb : Nat) (bv tv : Value) (w : World) (e : Ending) (w' : World) : Prop :=
  ∃ (s : List UInt8) (a : Nat) (fa er : Int), e = .returned (.string ⟨s.toArray⟩) ∧ RR w' rb bv a fa er tv ∧ Chg (· = rb) w w' ∧ s.length ≤ 4 * l.length ∧ a ≤ l.length + 1 ∧
    match nameJ l i ns with
    | .ok (s', j) => s = s' ∧ a = j ∧ fa = -1 ∧ er = 0
    | .error f => fa = f.1 ∧ er = f.2
/-- The fault while the names are gone through. -/
def NmS (i : Nat) (ns : List (List UInt8)) (s : List UInt8) (fa0 er0 : Int) (k : Nat) (fa er : Int) : Prop :=
  (0 ≤ fa0 ∧ fa = fa0 ∧ er = er0) ∨ (fa0 = -1 ∧ er0 = 0 ∧ ((fa = -1 ∧ er = 0 ∧ ∀ j, j < k → ns.getD j [] ≠ s) ∨ (fa = i ∧ er = 244 ∧ s ∈ ns)))
theorem getD_mem' (ns : List (List UInt8)) (j : Nat) (h : j < ns.length) : ns.getD j [] ∈ ns := by
  simp [List.getD_eq_getElem?_getD, h]
set_option maxRecDepth 100000 in
set_option maxHeartbeats 16000000 in
theorem name_r (rb : Nat) (A : Option Addr) (cap : Nat) (l : List UInt8) (i : Nat) (tv : Value) (B : Nat) (w : World) (kd : Int) (kv : Value) (An : Option Addr) (cn base : Nat) (ns : List (List UInt8)) (hst : RS w B rb A cap l i (-1) 0 tv) (hil : i ≤ l.length) (hL : l.length ≤ 268435456)
    (hown : w.ownsRow base 9 1 (.slice An ns.length cn) ns.length (strs ns)) (hnl : ns.length ≤ 268435456) :
    Calls Tryz.prog 180 #[.pointer (some ⟨rb, 0, none⟩), .agg #[.int .i64 kd, .bool false, .int .i64 0, .string ⟨#[]⟩, kv, .slice An ns.length cn]] w (NmR l i ns rb (.slice A l.length cap) tv w) := by
  have hrl := hst.r.lt
  have hBr := hst.B
  have hcap := hst.c
  generalize hW0 : w.alloc (.cells #[.int .i64 kd, .bool false, .int .i64 0, .string ⟨#[]⟩, kv, .slice An ns.length cn] 47) = W0
  have hc0 : Chg (fun _ => False) w W0 := by subst hW0; exact (Chg.refl _ _).alloc _
  have hblk : W0.heap[w.heap.size]? = some (.cells #[.int .i64 kd, .bool false, .int .i64 0, .string ⟨#[]⟩, kv, .slice An ns.length cn] 47 (0, 0)) := by subst hW0; exact heap_alloc_new w _
  have hst0 : RS W0 B rb A cap l i (-1) 0 tv := hst.to (hst.r.keep hc0 id) (hc0.mono fun _ _ h => h.elim)
  have hown0 := own_chg hown hc0 (fun _ _ h => h)
  have hne : ∀ b, (Value.slice An ns.length cn).ownBlock = some b → b ≠ rb := fun b hb e => by
    have h1 := own_ety hown hb
    rw [e, hst.r.ety] at h1
    exact absurd (Option.some.inj h1) (by decide)
  have c1 := hst0.r.c1
  have hh := here_any rb A cap l i (-1) 0 tv B W0 hst0.r hst0.b
  have hq := atI_eq (l := l) (p := i) (n := 34) (by omega) (by omega)
  have hkeep : ∀ W, Chg (· = rb) W0 W → Chg (· = rb) w W ∧ W.cell? ⟨w.heap.size, 5, none⟩ = some (.slice An ns.length cn) ∧ W.ownsRow base 9 1 (.slice An ns.length cn) ns.length (strs ns) := fun W hW =>
    ⟨(hc0.mono fun _ _ h => h.elim).trans hW, (six_cells (hW.obj hblk (by omega))).2.2.2.2.2, own_chg hown0 hW (fun b hb e => hne b hb e)⟩
  generalize atI l i = y at *
  have HS0 := Lib.hid hst0
  have HH := Lib.hid hh
  have HK := Lib.hid hkeep
  have HQ := Lib.hid hq
  clear hst hc0 hblk hst0 hown hown0 hne hh hkeep hq
  by_cases h34 : y = 34
  case neg =>
    have t1 : (y != 34) = true := by rw [bne_iff_ne]; exact h34
    have hx : nameJ l i ns = .error (i, 240) := by unfold nameJ; rw [if_pos (show pk l i ≠ 34 from fun e => h34 (HQ.out.2 e))]
    have HX := Lib.hid hx
    clear h34 hx
    go_enter Tryz.func180, Tryz.ntmps180
    go_wp2_with fail
    (try rw [hW0])
    refine HH.out.mono ?_
    rintro e w1 ⟨rfl, hd⟩
    have hst1 := HS0.out.drawn hd
    have hno := rno_any rb (.slice A l.length cap) i (-1) 0 tv (i : Int) 240 w1 hst1.r
    have d1 := hst1.r.c1
    have hcd : Chg (· = rb) W0 w1 := hd.chg
    have HNO := Lib.hid hno
    have HCD := Lib.hid hcd
    clear hd hst1 hno hcd
    go_wp2_with fail
    refine HNO.out.mono ?_
    rintro e w2 ⟨rfl, hr, hc⟩
    have hE : NmR l i ns rb (.slice A l.length cap) tv w (.returned (.string ⟨#[]⟩)) w2 := by
      refine ⟨[], i, (i : Int), 240, rfl, by simpa [noF, noE] using hr, (HK.out _ (HCD.out.trans hc)).1, by simp, by omega, ?_⟩
      rw [HX.out]
      exact ⟨rfl, rfl⟩
    have HE := Lib.hid hE
    clear hE hr hc
    go_wp2_with fail
    go_ret
    exact HE.out
  case pos =>
    have t1 : (y != 34) = false := by rw [h34]; rfl
    have h34' := HQ.out.1 h34
    have hil2 : i < l.length := pk_nz (by decide) h34'
    have hx0 : nameJ l i ns = match textJ l i with
        | .error e => .error e
        | .ok (s, j2) => if s ∈ ns then .error (i, 244) else if pk l (skip l j2) ≠ 58 then .error (skip l j2, 240) else .ok (s, skip l (skip l j2 + 1)) := by
      unfold nameJ; rw [if_neg (show ¬ pk l i ≠ 34 from fun h => h h34')]
    have HX0 := Lib.hid hx0
    have H34 := Lib.hid h34'
    clear hx0 h34 h34'
    go_enter Tryz.func180, Tryz.ntmps180
    go_wp2_with fail
    (try rw [hW0])
    refine HH.out.mono ?_
    rintro e w1 ⟨rfl, hd⟩
    have hst1 := HS0.out.drawn hd
    have htx := text_r rb A cap l i tv B w1 hst1 hil2 H34.out hL
    have HTX := Lib.hid htx
    have hcd : Chg (· = rb) W0 w1 := hd.chg
    have HCD := Lib.hid hcd
    have HS1 := Lib.hid hst1
    clear hd hst1 htx hcd
    go_wp2_with fail
    refine HTX.out.mono ?_
    rintro e w2 ⟨s, a0, fa0, er0, rfl, hr2, hc2, hsl, ha0, hres⟩
    have hst2 := HS1.out.to hr2 hc2
    have hc02 : Chg (· = rb) W0 w2 := HCD.out.trans hc2
    have hf0 : (fa0 = -1 ∧ er0 = 0) ∨ 0 ≤ fa0 := by
      cases ht : textJ l i with
      | ok r => rw [ht] at hres; exact .inl ⟨hres.2.2.1, hres.2.2.2⟩
      | error f => rw [ht] at hres; exact .inr (by rw [hres.1]; omega)
    have H2 := Lib.hid (And.intro hst2 (And.intro hc02 (And.intro hres hf0)))
    clear hr2 hc2 hst2 hc02 hres hf0 HTX HS1 HCD
    go_wp2_with fail
    go_loopg [7] (ns.length + 1) (fun g v7 wr => ∃ (k : Nat) (fa er : Int), v7 = .int .i64 k ∧ k ≤ ns.length ∧ RS wr B rb A cap l a0 fa er tv ∧ Chg (· = rb) W0 wr ∧ NmS i ns s fa0 er0 k fa er ∧ ns.length - k + 1 = g)
    case atStart =>
      refine ⟨0, fa0, er0, rfl, by omega, H2.out.1, H2.out.2.1, ?_, by omega⟩
      rcases H2.out.2.2.2 with ⟨h1, h2⟩ | h
      · exact .inr ⟨h1, h2, .inl ⟨h1, h2, fun j hj => by omega⟩⟩
      · exact .inl ⟨h, rfl, rfl⟩
    case round =>
      obtain ⟨k, fa, er, rfl, hk, hst3, hc3, hN, hg⟩ := hrel
      obtain ⟨hcw, d5, hownr⟩ := HK.out _ hc3
      have d2 := hst3.r.c2
      have HS3 := Lib.hid (And.intro hst3 hc3)
      have HN := Lib.hid hN
      have HG := Lib.hid hg
      have HOW := Lib.hid hownr
      have HFIN0 : Hid ((fa < 0 → ns.length ≤ k) → (fa = -1 ∧ er = 0 ∧ textJ l i = .ok (s, a0) ∧ s ∉ ns) ∨ (0 ≤ fa ∧ nameJ l i ns = .error (fa.toNat, er))) := by
        intro hex
        have hres := H2.out.2.2.1
        rcases hN with ⟨h1, h2, h3⟩ | ⟨h1, h2, h3⟩
        · subst h2 h3
          refine .inr ⟨h1, ?_⟩
          rw [HX0.out]
          cases ht : textJ l i with
          | ok r => rw [ht] at hres; have := hres.2.2.1; omega
          | error f =>
            rw [ht] at hres
            rw [hres.1, hres.2]
            rfl
        · subst h1 h2
          cases ht : textJ l i with
          | error f => rw [ht] at hres; have := hres.1; omega
          | ok r =>
            obtain ⟨s', j⟩ := r
            rw [ht] at hres
            obtain ⟨rfl, rfl, _, _⟩ := hres
            rcases h3 with ⟨h4, h5, h6⟩ | ⟨h4, h5, h6⟩
            · have hkn := hex (by omega)
              refine .inl ⟨h4, h5, rfl, fun hm => ?_⟩
              obtain ⟨q, hq, he⟩ := List.getElem_of_mem hm
              exact h6 q (by omega) (by simp [List.getD_eq_getElem?_getD, hq, he])
            · refine .inr ⟨by omega, ?_⟩
              rw [HX0.out, ht]
              simp only
              rw [if_pos h6, h4, h5]
              rfl
      clear hst3 hc3 hN hg hcw hownr
      by_cases hlt : k < ns.length
      case pos =>
        have hd : decide (k < ns.length) = true := decide_eq_true hlt
        by_cases hf : fa < 0
        case pos =>
          obtain ⟨b, rfl, hcell⟩ := own_strAt HOW.out k hlt
          have hmem := getD_mem' ns k hlt
          have hN2 : (∀ (h : ns.getD k [] ≠ s), NmS i ns s fa0 er0 (k + 1) fa er) ∧ (ns.getD k [] = s → NmS i ns s fa0 er0 (k + 1) (noF fa i) (noE fa er 244)) := by
            rcases HN.out with ⟨h1, h2, h3⟩ | ⟨h1, h2, h3⟩
            · omega
            · rcases h3 with ⟨h4, h5, h6⟩ | ⟨h4, h5, h6⟩
              · refine ⟨fun h => .inr ⟨h1, h2, .inl ⟨h4, h5, fun j hj => ?_⟩⟩, fun h => .inr ⟨h1, h2, .inr ⟨?_, ?_, h ▸ hmem⟩⟩⟩
                · rcases Nat.lt_or_ge j k with hh | hh
                  · exact h6 j hh
                  · obtain rfl : j = k := by omega
                    exact h
                · unfold noF; rw [if_pos hf]
                · unfold noE; rw [if_pos hf]
              · omega
          generalize ns.getD k [] = nm at *
          have HN2 := Lib.hid hN2
          clear hN2 hmem
          by_cases hnm : nm = s
          case pos =>
            have tn : (nm == s) = true := by rw [beq_iff_eq]; exact hnm
            have HQN := Lib.hid (HN2.out.2 hnm)
            have hno := rno_any rb (.slice A l.length cap) a0 fa er tv (i : Int) 244 wr HS3.out.1.r
            have HNO := Lib.hid hno
            clear hnm hno
            go_wp2_with fail
            refine HNO.out.mono ?_
            rintro e w4 ⟨rfl, hr4, hc4⟩
            have HS4 := Lib.hid (And.intro (HS3.out.1.to hr4 hc4) (HS3.out.2.trans hc4))
            clear hr4 hc4
            go_wp2_with fail
            go_roundg (ns.length - (k + 1) + 1)
            case measure => have := HG.out; omega
            case rel => exact ⟨k + 1, _, _, by go_num, by omega, HS4.out.1, HS4.out.2, HQN.out, rfl⟩
          case neg =>
            have tn : (nm == s) = false := by rw [beq_eq_false_iff_ne]; exact hnm
            have HQN := Lib.hid (HN2.out.1 hnm)
            clear hnm
            go_wp2_with fail
            go_roundg (ns.length - (k + 1) + 1)
            case measure => have := HG.out; omega
            case rel => exact ⟨k + 1, _, _, by go_num, by omega, HS3.out.1, HS3.out.2, HQN.out, rfl⟩
        case neg =>
          have HFIN := Lib.hid (HFIN0.out (fun h => absurd h hf))
          clear HFIN0
          have hb1 := rblanks_any rb A cap l a0 fa er tv B wr HS3.out.1 (by omega)
          have HB1 := Lib.hid hb1
          clear hb1
          go_wp2_with fail
          refine HB1.out.mono ?_
          rintro e w4 ⟨rfl, hr4, hc4⟩
          have hst4 := HS3.out.1.to hr4 hc4
          have hc04 : Chg (· = rb) W0 w4 := HS3.out.2.trans hc4
          have hh4 := here_any rb A cap l (skip l a0) fa er tv B w4 hst4.r hst4.b
          have hq4 := atI_eq (l := l) (p := skip l a0) (n := 58) (by omega) (by omega)
          generalize atI l (skip l a0) = y4 at *
          have HH4 := Lib.hid hh4
          have HQ4 := Lib.hid hq4
          have HS4 := Lib.hid (And.intro hst4 hc04)
          have hsk := skip_le l a0 ha0
          clear hh4 hq4 hst4 hc04 hr4 hc4
          by_cases h58 : y4 = 58
          case pos =>
            have t58 : (y4 != 58) = false := by rw [h58]; rfl
            have Q58 := Lib.hid (HQ4.out.1 h58)
            clear h58
            go_wp2_with fail
            refine HH4.out.mono ?_
            rintro e w5 ⟨rfl, hd5⟩
            have hst5 := HS4.out.1.drawn hd5
            have hc05 : Chg (· = rb) W0 w5 := HS4.out.2.trans hd5.chg
            have d1 := hst5.r.c1
            have g1 := hst5.r.f 1
            have hst6 : RS (w5.setCell ⟨rb, 1, none⟩ (.int .i64 ((skip l a0 : Int) + 1))) B rb A cap l (skip l a0 + 1) fa er tv := hst5.to (hst5.r.set1 (skip l a0 + 1)) ((Chg.refl _ _).st _ _)
            have HS6 := Lib.hid (And.intro hst6 (hc05.st 1 (.int .i64 ((skip l a0 : Int) + 1))))
            have hb6 := rblanks_any rb A cap l (skip l a0 + 1) fa er tv B _ hst6 (by omega)
            have HB6 := Lib.hid hb6
            clear hst5 hc05 hst6 hb6 hd5
            go_wp2_with fail
            refine HB6.out.mono ?_
            rintro e w7 ⟨rfl, hr7, hc7⟩
            have hE : NmR l i ns rb (.slice A l.length cap) tv w (.returned (.string ⟨s.toArray⟩)) w7 := by
              refine ⟨s, skip l (skip l a0 + 1), fa, er, rfl, hr7, (HK.out _ (HS6.out.2.trans hc7)).1, hsl, by have := skip_bd l (skip l a0 + 1); omega, ?_⟩
              rcases HFIN.out with ⟨h1, h2, h3, h4⟩ | ⟨h1, h2⟩
              · have hx : nameJ l i ns = .ok (s, skip l (skip l a0 + 1)) := by
                  rw [HX0.out, h3]
                  simp only
                  rw [if_neg h4, if_neg (show ¬ pk l (skip l a0) ≠ 58 from fun h => h Q58.out)]
                rw [hx]
                exact ⟨rfl, rfl, h1, h2⟩
              · rw [h2]
                exact ⟨by simp; omega, rfl⟩
            have HE := Lib.hid hE
            clear hE hr7 hc7
            go_wp2_with fail
            go_ret
            exact HE.out
          case neg =>
            have t58 : (y4 != 58) = true := by rw [bne_iff_ne]; exact h58
            have Q58 : Hid (pk l (skip l a0) ≠ 58) := fun h => h58 (HQ4.out.2 h)
            clear h58
            go_wp2_with fail
            refine HH4.out.mono ?_
            rintro e w5 ⟨rfl, hd5⟩
            have hst5 := HS4.out.1.drawn hd5
            have hc05 : Chg (· = rb) W0 w5 := HS4.out.2.trans hd5.chg
            have d1 := hst5.r.c1
            have hno := rno_any rb (.slice A l.length cap) (skip l a0) fa er tv (skip l a0 : Int) 240 w5 hst5.r
            have HNO := Lib.hid hno
            have HS5 := Lib.hid (And.intro hst5 hc05)
            clear hst5 hc05 hd5 hno
            go_wp2_with fail
            refine HNO.out.mono ?_
            rintro e w6 ⟨rfl, hr6, hc6⟩
            have hst6 := HS5.out.1.to hr6 hc6
            have hc06 : Chg (· = rb) W0 w6 := HS5.out.2.trans hc6
            have d1 := hst6.r.c1
            have g1 := hst6.r.f 1
            have hst7 : RS (w6.setCell ⟨rb, 1, none⟩ (.int .i64 ((skip l a0 : Int) + 1))) B rb A cap l (skip l a0 + 1) (noF fa (skip l a0 : Int)) (noE fa er 240) tv := hst6.to (hst6.r.set1 (skip l a0 + 1)) ((Chg.refl _ _).st _ _)
            have HS7 := Lib.hid (And.intro hst7 (hc06.st 1 (.int .i64 ((skip l a0 : Int) + 1))))
            have hb7 := rblanks_any rb A cap l (skip l a0 + 1) _ _ tv B _ hst7 (by omega)
            have HB7 := Lib.hid hb7
            clear hst6 hc06 hr6 hc6 hst7 hb7
            go_wp2_with fail
            refine HB7.out.mono ?_
            rintro e w8 ⟨rfl, hr8, hc8⟩
            have hE : NmR l i ns rb (.slice A l.length cap) tv w (.returned (.string ⟨s.toArray⟩)) w8 := by
              refine ⟨s, skip l (skip l a0 + 1), _, _, rfl, hr8, (HK.out _ (HS7.out.2.trans hc8)).1, hsl, by have := skip_bd l (skip l a0 + 1); omega, ?_⟩
              rcases HFIN.out with ⟨h1, h2, h3, h4⟩ | ⟨h1, h2⟩
              · have hx : nameJ l i ns = .error (skip l a0, 240) := by
                  rw [HX0.out, h3]
                  simp only
                  rw [if_neg h4, if_pos Q58.out]
                rw [hx]
                subst h1
                exact ⟨rfl, rfl⟩
              · rw [h2]
                unfold noF noE
                rw [if_neg (by omega), if_neg (by omega)]
                exact ⟨by simp; omega, rfl⟩
            have HE := Lib.hid hE
            clear hE hr8 hc8
            go_wp2_with fail
            go_ret
            exact HE.out
      case neg =>
        have hd : decide (k < ns.length) = false := decide_eq_false hlt
        have HFIN := Lib.hid (HFIN0.out (fun _ => by omega))
        clear HFIN0
        have hb1 := rblanks_any rb A cap l a0 fa er tv B wr HS3.out.1 (by omega)
        have HB1 := Lib.hid hb1
        clear hb1
        go_wp2_with fail
        refine HB1.out.mono ?_
        rintro e w4 ⟨rfl, hr4, hc4⟩
        have hst4 := HS3.out.1.to hr4 hc4
        have hc04 : Chg (· = rb) W0 w4 := HS3.out.2.trans hc4
        have hh4 := here_any rb A cap l (skip l a0) fa er tv B w4 hst4.r hst4.b
        have hq4 := atI_eq (l := l) (p := skip l a0) (n := 58) (by omega) (by omega)
        generalize atI l (skip l a0) = y4 at *
        have HH4 := Lib.hid hh4
        have HQ4 := Lib.hid hq4
        have HS4 := Lib.hid (And.intro hst4 hc04)
        have hsk := skip_le l a0 ha0
        clear hh4 hq4 hst4 hc04 hr4 hc4
        by_cases h58 : y4 = 58
        case pos =>
          have t58 : (y4 != 58) = false := by rw [h58]; rfl
          have Q58 := Lib.hid (HQ4.out.1 h58)
          clear h58
          go_wp2_with fail
          refine HH4.out.mono ?_
          rintro e w5 ⟨rfl, hd5⟩
          have hst5 := HS4.out.1.drawn hd5
          have hc05 : Chg (· = rb) W0 w5 := HS4.out.2.trans hd5.chg
          have d1 := hst5.r.c1
          have g1 := hst5.r.f 1
          have hst6 : RS (w5.setCell ⟨rb, 1, none⟩ (.int .i64 ((skip l a0 : Int) + 1))) B rb A cap l (skip l a0 + 1) fa er tv := hst5.to (hst5.r.set1 (skip l a0 + 1)) ((Chg.refl _ _).st _ _)
          have HS6 := Lib.hid (And.intro hst6 (hc05.st 1 (.int .i64 ((skip l a0 : Int) + 1))))
          have hb6 := rblanks_any rb A cap l (skip l a0 + 1) fa er tv B _ hst6 (by omega)
          have HB6 := Lib.hid hb6
          clear hst5 hc05 hst6 hb6 hd5
          go_wp2_with fail
          refine HB6.out.mono ?_
          rintro e w7 ⟨rfl, hr7, hc7⟩
          have hE : NmR l i ns rb (.slice A l.length cap) tv w (.returned (.string ⟨s.toArray⟩)) w7 := by
            refine ⟨s, skip l (skip l a0 + 1), fa, er, rfl, hr7, (HK.out _ (HS6.out.2.trans hc7)).1, hsl, by have := skip_bd l (skip l a0 + 1); omega, ?_⟩
            rcases HFIN.out with ⟨h1, h2, h3, h4⟩ | ⟨h1, h2⟩
            · have hx : nameJ l i ns = .ok (s, skip l (skip l a0 + 1)) := by
                rw [HX0.out, h3]
                simp only
                rw [if_neg h4, if_neg (show ¬ pk l (skip l a0) ≠ 58 from fun h => h Q58.out)]
              rw [hx]
              exact ⟨rfl, rfl, h1, h2⟩
            · rw [h2]
              exact ⟨by simp; omega, rfl⟩
          have HE := Lib.hid hE
          clear hE hr7 hc7
          go_wp2_with fail
          go_ret
          exact HE.out
        case neg =>
          have t58 : (y4 != 58) = true := by rw [bne_iff_ne]; exact h58
          have Q58 : Hid (pk l (skip l a0) ≠ 58) := fun h => h58 (HQ4.out.2 h)
          clear h58
          go_wp2_with fail
          refine HH4.out.mono ?_
          rintro e w5 ⟨rfl, hd5⟩
          have hst5 := HS4.out.1.drawn hd5
          have hc05 : Chg (· = rb) W0 w5 := HS4.out.2.trans hd5.chg
          have d1 := hst5.r.c1
          have hno := rno_any rb (.slice A l.length cap) (skip l a0) fa er tv (skip l a0 : Int) 240 w5 hst5.r
          have HNO := Lib.hid hno
          have HS5 := Lib.hid (And.intro hst5 hc05)
          clear hst5 hc05 hd5 hno
          go_wp2_with fail
          refine HNO.out.mono ?_
          rintro e w6 ⟨rfl, hr6, hc6⟩
          have hst6 := HS5.out.1.to hr6 hc6
          have hc06 : Chg (· = rb) W0 w6 := HS5.out.2.trans hc6
          have d1 := hst6.r.c1
          have g1 := hst6.r.f 1
          have hst7 : RS (w6.setCell ⟨rb, 1, none⟩ (.int .i64 ((skip l a0 : Int) + 1))) B rb A cap l (skip l a0 + 1) (noF fa (skip l a0 : Int)) (noE fa er 240) tv := hst6.to (hst6.r.set1 (skip l a0 + 1)) ((Chg.refl _ _).st _ _)
          have HS7 := Lib.hid (And.intro hst7 (hc06.st 1 (.int .i64 ((skip l a0 : Int) + 1))))
          have hb7 := rblanks_any rb A cap l (skip l a0 + 1) _ _ tv B _ hst7 (by omega)
          have HB7 := Lib.hid hb7
          clear hst6 hc06 hr6 hc6 hst7 hb7
          go_wp2_with fail
          refine HB7.out.mono ?_
          rintro e w8 ⟨rfl, hr8, hc8⟩
          have hE : NmR l i ns rb (.slice A l.length cap) tv w (.returned (.string ⟨s.toArray⟩)) w8 := by
            refine ⟨s, skip l (skip l a0 + 1), _, _, rfl, hr8, (HK.out _ (HS7.out.2.trans hc8)).1, hsl, by have := skip_bd l (skip l a0 + 1); omega, ?_⟩
            rcases HFIN.out with ⟨h1, h2, h3, h4⟩ | ⟨h1, h2⟩
            · have hx : nameJ l i ns = .error (skip l a0, 240) := by
                rw [HX0.out, h3]
                simp only
                rw [if_neg h4, if_pos Q58.out]
              rw [hx]
              subst h1
              exact ⟨rfl, rfl⟩
            · rw [h2]
              unfold noF noE
              rw [if_neg (by omega), if_neg (by omega)]
              exact ⟨by simp; omega, rfl⟩
          have HE := Lib.hid hE
          clear hE hr8 hc8
          go_wp2_with fail
          go_ret
          exact HE.out
end Go.Proofs.YtknmbfkpclacgaaGreatDoor

/- The document's reader: what stands while a list or an object is read. -/
set_option linter.unusedSimpArgs false
namespace Go.Proofs.YtknmbfkpclacgaaGreatDoor
open Go.RowKit

structure MI (l : List UInt8) (rb : Nat) (A : Option Addr) (cap B base : Nat) (tv : Value) (xs : List VC) (w : World) (lb : Nat) (kd : Int)
    (a : Nat) (fa er : Int) (t' : List JV) (xs' : List VC) (tv' : Value) (ks : List Int) (ns : List (List UInt8)) (kv nv : Value) (wr : World) : Prop where
  st : RS wr B rb A cap l a fa er tv'
  tr : TR base wr tv' (xs ++ xs') t'
  lv : Lv wr lb kd kv nv
  kown : wr.ownsRow w.heap.size 3 1 kv ks.length (ints ks)
  nown : wr.ownsRow w.heap.size 9 1 nv ns.length (strs ns)
  knew : ∀ b, kv.ownBlock = some b → b ∉ tb (xs ++ xs')
  nnew : ∀ b, nv.ownBlock = some b → b ∉ tb (xs ++ xs')
  chg : Chg (SP rb tv) w wr
  fresh : ∀ b ∈ tb xs', w.heap.size ≤ b
  tvb : ∀ b, tv'.ownBlock = some b → tv.ownBlock = some b ∨ w.heap.size ≤ b
  tvl : tv'.ownBlock ≠ some lb
  lbw : w.heap.size ≤ lb
  rbw : rb < w.heap.size

section
variable {l : List UInt8} {rb : Nat} {A : Option Addr} {cap B base : Nat} {tv : Value} {xs : List VC} {w : World} {lb a : Nat} {kd fa er : Int} {t' : List JV} {xs' : List VC} {tv' : Value} {ks : List Int} {ns : List (List UInt8)} {kv nv : Value} {wr : World} {i0 : Nat} {fa0 er0 : Int} {t0 : List JV}

theorem MI.mv (h : MI l rb A cap B base tv xs w lb kd a fa er t' xs' tv' ks ns kv nv wr) {a2 : Nat} {fa2 er2 : Int} {w2 : World} (hr : RR w2 rb (.slice A l.length cap) a2 fa2 er2 tv') (hc : Chg (· = rb) wr w2) :
    MI l rb A cap B base tv xs w lb kd a2 fa2 er2 t' xs' tv' ks ns kv nv w2 := by
  have hrw := h.rbw
  have hlw := h.lbw
  exact ⟨h.st.to hr hc, h.tr.rbR h.st.r hc, h.lv.keep hc (by omega), own_chg h.kown hc (fun b hb e => by have := own_ge h.kown b hb; omega), own_chg h.nown hc (fun b hb e => by have := own_ge h.nown b hb; omega), h.knew, h.nnew,
    h.chg.trans (hc.mono fun _ _ e => .inl e), h.fresh, h.tvb, h.tvl, h.lbw, h.rbw⟩
theorem MI.drawn (h : MI l rb A cap B base tv xs w lb kd a fa er t' xs' tv' ks ns kv nv wr) {w2 : World} (hd : Drawn wr w2) : MI l rb A cap B base tv xs w lb kd a fa er t' xs' tv' ks ns kv nv w2 := by
  obtain ⟨n, rfl⟩ := hd
  exact h.mv (h.st.r.drewN n) ((Chg.refl _ _).drewN n)
theorem MI.drew (h : MI l rb A cap B base tv xs w lb kd a fa er t' xs' tv' ks ns kv nv wr) : MI l rb A cap B base tv xs w lb kd a fa er t' xs' tv' ks ns kv nv wr.drew :=
  h.mv ⟨h.st.r.h⟩ (Chg.refl _ _).drew
theorem MI.below (h : MI l rb A cap B base tv xs w lb kd a fa er t' xs' tv' ks ns kv nv wr) (hT : TR base w tv xs t0) (hrb : base ≤ rb) : Below base w wr := SP.base hT hrb h.rbw h.chg
theorem MI.apart (h : MI l rb A cap B base tv xs w lb kd a fa er t' xs' tv' ks ns kv nv wr) {S : Nat → Prop} (hS : ∀ b, S b → b = lb ∨ kv.ownBlock = some b ∨ nv.ownBlock = some b) :
    ¬ S rb ∧ (∀ b ∈ tb (xs ++ xs'), ¬ S b) ∧ (∀ b, tv'.ownBlock = some b → ¬ S b) ∧ ∀ b, S b → w.heap.size ≤ b := by
  have hrw := h.rbw
  have hlw := h.lbw
  refine ⟨fun hs => ?_, fun b hb hs => ?_, fun b hb hs => ?_, fun b hs => ?_⟩
  · rcases hS _ hs with e | e | e
    · omega
    · have := own_ge h.kown _ e; omega
    · have := own_ge h.nown _ e; omega
  · have h1 := (h.tr.vals.lt b hb).2.2
    rcases hS _ hs with e | e | e
    · subst e
      rw [h.lv.ety] at h1
      rcases h1 with h1 | h1 <;> exact absurd (Option.some.inj h1) (by decide)
    · exact h.knew b e hb
    · exact h.nnew b e hb
  · have h1 := own_ety h.tr.own hb
    rcases hS _ hs with e | e | e
    · subst e; exact h.tvl hb
    · rw [own_ety h.kown e] at h1; exact absurd (Option.some.inj h1) (by decide)
    · rw [own_ety h.nown e] at h1; exact absurd (Option.some.inj h1) (by decide)
  · rcases hS _ hs with e | e | e
    · omega
    · exact own_ge h.kown _ e
    · exact own_ge h.nown _ e
/-- The call's own blocks turn. -/
theorem MI.own (h : MI l rb A cap B base tv xs w lb kd a fa er t' xs' tv' ks ns kv nv wr) {S : Nat → Prop} {w2 : World} (hc : Chg S wr w2) (hS : ∀ b, S b → b = lb ∨ kv.ownBlock = some b ∨ nv.ownBlock = some b)
    (hT : TR base w tv xs t0) (hrb : base ≤ rb) (hB : B ≤ base) (hst : RS w B rb A cap l i0 fa0 er0 tv)
    {kv' nv' : Value} {ks' : List Int} {ns' : List (List UInt8)} (hlv : Lv w2 lb kd kv' nv') (hk : w2.ownsRow w.heap.size 3 1 kv' ks'.length (ints ks')) (hn : w2.ownsRow w.heap.size 9 1 nv' ns'.length (strs ns'))
    (hkn : ∀ b, kv'.ownBlock = some b → kv.ownBlock = some b ∨ wr.heap.size ≤ b) (hnn : ∀ b, nv'.ownBlock = some b → nv.ownBlock = some b ∨ wr.heap.size ≤ b) :
    MI l rb A cap B base tv xs w lb kd a fa er t' xs' tv' ks' ns' kv' nv' w2 := by
  obtain ⟨h1, h2, h3, h4⟩ := h.apart hS
  have hch : Chg (SP rb tv) w w2 := h.chg.andThen hc (fun b hb hs => by have := h4 b hs; omega)
  refine ⟨hst.base hB (h.st.r.keep hc h1) (SP.base hT hrb h.rbw hch), h.tr.keepB hc h2 h3, hlv, hk, hn, ?_, ?_, hch, h.fresh, h.tvb, h.tvl, h.lbw, h.rbw⟩
  · intro b hb hm
    rcases hkn b hb with e | e
    · exact h.knew b e hm
    · have := (h.tr.vals.lt b hm).1; omega
  · intro b hb hm
    rcases hnn b hb with e | e
    · exact h.nnew b e hm
    · have := (h.tr.vals.lt b hm).1; omega
theorem MI.disj (h : MI l rb A cap B base tv xs w lb kd a fa er t' xs' tv' ks ns kv nv wr) : kv.ownBlock ≠ some lb ∧ nv.ownBlock ≠ some lb ∧ ∀ b, kv.ownBlock = some b → nv.ownBlock ≠ some b := by
  refine ⟨fun e => ?_, fun e => ?_, fun b hk hn => ?_⟩
  · have h1 := own_ety h.kown e; rw [h.lv.ety] at h1; exact absurd (Option.some.inj h1) (by decide)
  · have h1 := own_ety h.nown e; rw [h.lv.ety] at h1; exact absurd (Option.some.inj h1) (by decide)
  · have h1 := own_ety h.nown hn; rw [own_ety h.kown hk] at h1; exact absurd (Option.some.inj h1) (by decide)
/-- The names grow by one. -/
theorem MI.name (h : MI l rb A cap B base tv xs w lb kd a fa er t' xs' tv' ks ns kv nv wr) {w4 : World} {o : Obj} {gg cap' : Nat} {s : List UInt8} (hT : TR base w tv xs t0) (hrb : base ≤ rb) (hB : B ≤ base) (hst : RS w B rb A cap l i0 fa0 er0 tv)
    (hown4 : w4.ownsRow w.heap.size 9 1 (.slice (some ⟨gg, 0, none⟩) (ns.length + 1) cap') (ns.length + 1) (strs ns ++ [.string ⟨s.toArray⟩])) (hgrow : (wr.alloc o).grownBy w4 nv.ownBlock) (hat : nv.ownBlock = some gg ∨ gg = wr.heap.size + 1) :
    MI l rb A cap B base tv xs w lb kd a fa er t' xs' tv' ks (ns ++ [s]) kv (.slice (some ⟨gg, 0, none⟩) (ns.length + 1) cap') (w4.setCell ⟨lb, 5, none⟩ (.slice (some ⟨gg, 0, none⟩) (ns.length + 1) cap')) := by
  obtain ⟨d2, d4, d6⟩ := h.disj
  have hll := h.lv.lt
  have hgl : gg ≠ lb := by
    rintro rfl
    rcases hat with e | e
    · exact d4 e
    · omega
  have hlv4 : Lv w4 lb kd kv nv := ⟨by
    rw [hgrow.block lb (by rw [World.size_alloc]; omega) (fun e => d4 e.symm), Below.heap_alloc wr _ lb hll]
    exact h.lv.h⟩
  have hc : Chg (fun b => b = lb ∨ nv.ownBlock = some b) wr (w4.setCell ⟨lb, 5, none⟩ (.slice (some ⟨gg, 0, none⟩) (ns.length + 1) cap')) :=
    (((Chg.refl _ wr).alloc o).grown hgrow (fun k _ e => .inr e.symm)).setCell (fun _ => .inl rfl) _
  refine h.own hc (fun b e => by
    rcases e with e | e
    · exact .inl e
    · exact .inr (.inr e)) hT hrb hB hst (hlv4.set5 _) (own_chg h.kown hc ?_) ?_ (fun b hb => .inl hb) ?_
  · rintro b hb (e | e)
    · subst e; exact d2 hb
    · exact d6 b hb e
  · rw [strs_snoc, List.length_append]
    exact ownsRow_setCell_other hown4 (by simpa [Value.ownBlock] using hgl) _
  · intro b hb
    obtain rfl : gg = b := by simpa [Value.ownBlock] using hb
    exact hat.imp id (fun e => by omega)
/-- The kids grow by one. -/
theorem MI.kid (h : MI l rb A cap B base tv xs w lb kd a fa er t' xs' tv' ks ns kv nv wr) {w4 : World} {o : Obj} {gg cap' : Nat} {p : Int} (hT : TR base w tv xs t0) (hrb : base ≤ rb) (hB : B ≤ base) (hst : RS w B rb A cap l i0 fa0 er0 tv)
    (hown4 : w4.ownsRow w.heap.size 3 1 (.slice (some ⟨gg, 0, none⟩) (ks.length + 1) cap') (ks.length + 1) (ints ks ++ [.int .i64 p])) (hgrow : (wr.alloc o).grownBy w4 kv.ownBlock) (hat : kv.ownBlock = some gg ∨ gg = wr.heap.size + 1) :
    MI l rb A cap B base tv xs w lb kd a fa er t' xs' tv' (ks ++ [p]) ns (.slice (some ⟨gg, 0, none⟩) (ks.length + 1) cap') nv (w4.setCell ⟨lb, 4, none⟩ (.slice (some ⟨gg, 0, none⟩) (ks.length + 1) cap')) := by
  obtain ⟨d2, d4, d6⟩ := h.disj
  have hll := h.lv.lt
  have hgl : gg ≠ lb := by
    rintro rfl
    rcases hat with e | e
    · exact d2 e
    · omega
  have hlv4 : Lv w4 lb kd kv nv := ⟨by
    rw [hgrow.block lb (by rw [World.size_alloc]; omega) (fun e => d2 e.symm), Below.heap_alloc wr _ lb hll]
    exact h.lv.h⟩
  have hc : Chg (fun b => b = lb ∨ kv.ownBlock = some b) wr (w4.setCell ⟨lb, 4, none⟩ (.slice (some ⟨gg, 0, none⟩) (ks.length + 1) cap')) :=
    (((Chg.refl _ wr).alloc o).grown hgrow (fun k _ e => .inr e.symm)).setCell (fun _ => .inl rfl) _
  refine h.own hc (fun b e => by
    rcases e with e | e
    · exact .inl e
    · exact .inr (.inl e)) hT hrb hB hst (hlv4.set4 _) ?_ (own_chg h.nown hc ?_) ?_ (fun b hb => .inl hb)
  · rw [ints_snoc, List.length_append]
    exact ownsRow_setCell_other hown4 (by simpa [Value.ownBlock] using hgl) _
  · rintro b hb (e | e)
    · subst e; exact d4 hb
    · exact d6 b e hb
  · intro b hb
    obtain rfl : gg = b := by simpa [Value.ownBlock] using hb
    exact hat.imp id (fun e => by omega)
/-- A value has been read. -/
theorem MI.call (h : MI l rb A cap B base tv xs w lb kd a fa er t' xs' tv' ks ns kv nv wr) {w3 : World} {j : Nat} {fa2 er2 : Int} {tv2 : Value} {xs2 : List VC} {t2 : List JV} (hT : TR base w tv xs t0) (hrb : base ≤ rb) (hB : B ≤ base) (hst : RS w B rb A cap l i0 fa0 er0 tv)
    (hr3 : RR w3 rb (.slice A l.length cap) j fa2 er2 tv2) (hT3 : TR base w3 tv2 ((xs ++ xs') ++ xs2) t2) (hch3 : Chg (SP rb tv') wr w3) (hxs3 : ∀ b ∈ tb xs2, wr.heap.size ≤ b)
    (htv3 : ∀ b, tv2.ownBlock = some b → tv'.ownBlock = some b ∨ wr.heap.size ≤ b) : MI l rb A cap B base tv xs w lb kd j fa2 er2 t2 (xs' ++ xs2) tv2 ks ns kv nv w3 := by
  have hrw := h.rbw
  have hlw := h.lbw
  have hsz := h.chg.size
  have hll := h.lv.lt
  have hch : Chg (SP rb tv) w w3 := h.chg.andThen hch3 (by
    rintro b hb (e | e)
    · exact .inl e
    · rcases h.tvb b e.symm with e' | e'
      · exact .inr e'.symm
      · omega)
  refine ⟨hst.base hB hr3 (SP.base hT hrb hrw hch), by rw [← List.append_assoc]; exact hT3, h.lv.keep hch3 ?_, own_chg h.kown hch3 (fun b hb hs => (h.tr.spR h.st.r b hs).1 (own_ety h.kown hb)), own_chg h.nown hch3 (fun b hb hs => (h.tr.spR h.st.r b hs).2 (own_ety h.nown hb)),
    ?_, ?_, hch, ?_, ?_, ?_, hlw, hrw⟩
  · rintro (e | e)
    · omega
    · exact h.tvl e.symm
  · intro b hb hm
    rw [← List.append_assoc, tb_append, List.mem_append] at hm
    rcases hm with hm | hm
    · exact h.knew b hb hm
    · have := hxs3 b hm; have := own_lt2 h.kown b hb; omega
  · intro b hb hm
    rw [← List.append_assoc, tb_append, List.mem_append] at hm
    rcases hm with hm | hm
    · exact h.nnew b hb hm
    · have := hxs3 b hm; have := own_lt2 h.nown b hb; omega
  · intro b hb
    rw [tb_append, List.mem_append] at hb
    rcases hb with hb | hb
    · exact h.fresh b hb
    · have := hxs3 b hb; omega
  · intro b hb
    rcases htv3 b hb with e | e
    · exact h.tvb b e
    · exact .inr (by omega)
  · intro e
    rcases htv3 lb e with e | e
    · exact h.tvl e
    · omega
/-- The reading ends here, with nothing put. -/
theorem MI.stop (h : MI l rb A cap B base tv xs w lb kd a fa er t' xs' tv' ks ns kv nv wr) {res : Except Flt (Nat × Nat × List JV)} {lim : Nat} (ha : a ≤ lim) (ht : t'.length ≤ lim) (hr : res = .error (fa.toNat, er)) (hf : 0 ≤ fa) (z : Int) :
    RPost res rb base (.slice A l.length cap) tv xs lim w (.returned (.int .i64 z)) wr :=
  ⟨z, a, fa, er, tv', xs', t', rfl, h.st.r, h.tr, h.chg, h.fresh, h.tvb, ha, ht, by rw [hr]; exact ⟨by simp; omega, rfl⟩⟩
/-- The list or object is put. -/
theorem MI.put (h : MI l rb A cap B base tv xs w lb kd a fa er t' xs' tv' ks ns kv nv wr) {res : Except Flt (Nat × Nat × List JV)} {lim : Nat} (v : JV) (hv : v = ⟨kd, false, 0, [], ks, ns⟩) (hrb : base ≤ rb) (hB : B ≤ base) (hbw : base ≤ w.heap.size) (htl : t'.length ≤ 1000000000) (ha : a ≤ lim) (ht : t'.length + 1 ≤ lim)
    (hf : FR res (t'.length : Nat) a fa er (t' ++ [v])) :
    Calls Tryz.prog 116 #[.pointer (some ⟨rb, 0, none⟩), .agg #[.int .i64 kd, .bool false, .int .i64 0, .string ⟨#[]⟩, kv, nv]] wr (RPost res rb base (.slice A l.length cap) tv xs lim w) := by
  have hsz := h.chg.size
  have hb := h.disj
  subst hv
  refine (put_tr rb A cap l a fa er B base tv' (xs ++ xs') t' ⟨kd, false, 0, ⟨#[]⟩, kv, nv⟩ ⟨kd, false, 0, [], ks, ns⟩ wr h.st h.tr ⟨rfl, rfl, rfl, rfl, own_mono h.kown hbw, own_mono h.nown hbw⟩ (tb_two h.tr.nodup h.knew h.nnew hb.2.2) hrb hB htl).mono ?_
  rintro e w4 ⟨rfl, tv4, hst4, hT4, hch4, htv4⟩
  refine ⟨_, a, fa, er, tv4, xs' ++ [⟨kd, false, 0, ⟨#[]⟩, kv, nv⟩], _, rfl, hst4.r, by rw [← List.append_assoc]; exact hT4, ?_, ?_, ?_, ha, by simp; omega, hf⟩
  · refine h.chg.andThen hch4 ?_
    rintro b hb (rfl | hb')
    · exact .inl rfl
    · rcases h.tvb b hb'.symm with h | h
      · exact .inr h.symm
      · omega
  · intro b hb
    rw [tb_append, List.mem_append] at hb
    rcases hb with hb | hb
    · exact h.fresh b hb
    · have : kv.ownBlock = some b ∨ nv.ownBlock = some b := by simpa [tb, vb] using hb
      rcases this with e | e
      · exact own_ge h.kown b e
      · exact own_ge h.nown b e
  · intro b hb
    rcases htv4 b hb with e | e
    · exact h.tvb b e
    · exact .inr (by omega)
end
/-- how far a reading may go at a depth -/
def limR (l : List UInt8) (dp : Nat) : Nat := l.length + 200 - 2 * dp
/-- The contract of value at so much fuel. -/
def VConR (l : List UInt8) (rb : Nat) (A : Option Addr) (cap B base k : Nat) : Prop :=
  ∀ (i dp : Nat) (t : List JV) (tv : Value) (xs : List VC) (w : World), 2 * (l.length - i) + 2 ≤ k → i ≤ l.length → t.length ≤ i → dp ≤ 64 → skip l i = i → RS w B rb A cap l i (-1) 0 tv → TR base w tv xs t →
    Calls Tryz.prog 53 #[.pointer (some ⟨rb, 0, none⟩), .int .i64 dp] w (RPost (valueJ l k i dp t) rb base (.slice A l.length cap) tv xs (limR l dp) w)
end Go.Proofs.YtknmbfkpclacgaaGreatDoor
