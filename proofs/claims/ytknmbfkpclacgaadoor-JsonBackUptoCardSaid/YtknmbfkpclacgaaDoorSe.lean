/- json.same and Same: the walk. -/
import Derived.Test.YtknmbfkpclacgaaDoorEq
import Derived.Test.YtknmbfkpclacgaaDoorPf
set_option linter.unusedSimpArgs false
namespace Go.Proofs.YtknmbfkpclacgaaDoor
open Go.RowKit

theorem diff_true {x y : JV} (h : diffJ x y = true) : (x.kind != y.kind) = true ∨ ((x.kind != y.kind) = false ∧ x.truth = !y.truth) ∨ ((x.kind != y.kind) = false ∧ x.truth = y.truth ∧ (x.n != y.n) = true) ∨
    ((x.kind != y.kind) = false ∧ x.truth = y.truth ∧ (x.n != y.n) = false ∧ ¬ x.text = y.text) ∨ ((x.kind != y.kind) = false ∧ x.truth = y.truth ∧ (x.n != y.n) = false ∧ x.text = y.text ∧ ((x.kids.length : Int) != (y.kids.length : Int)) = true) := by
  unfold diffJ at h
  cases h1 : x.kind != y.kind with
  | true => exact .inl rfl
  | false =>
    by_cases h2 : x.truth = y.truth
    · cases h3 : x.n != y.n with
      | true => exact .inr (.inr (.inl ⟨rfl, h2, rfl⟩))
      | false =>
        by_cases h4 : x.text = y.text
        · rw [h1, h2, h3, h4] at h
          refine .inr (.inr (.inr (.inr ⟨rfl, h2, rfl, h4, ?_⟩)))
          simp at h
          rw [bne_iff_ne]
          omega
        · exact .inr (.inr (.inr (.inl ⟨rfl, h2, rfl, h4⟩)))
    · refine .inr (.inl ⟨rfl, ?_⟩)
      cases hx : x.truth <;> cases hy : y.truth <;> simp_all
theorem diff_false {x y : JV} (h : diffJ x y = false) : (x.kind != y.kind) = false ∧ x.truth = y.truth ∧ (x.n != y.n) = false ∧ x.text = y.text ∧ x.kids.length = y.kids.length ∧ x.kind = y.kind := by
  unfold diffJ at h
  simp only [Bool.or_eq_false_iff, bne_eq_false_iff_eq] at h
  obtain ⟨⟨⟨⟨h1, h2⟩, h3⟩, h4⟩, h5⟩ := h
  exact ⟨by simp [h1], h2, by simp [h3], h4, h5, h1⟩
theorem two_cells2 (w : World) (v v2 : JV) (Ak1 : Option Addr) (ck1 : Nat) (An1 : Option Addr) (cn1 : Nat) (Ak2 : Option Addr) (ck2 : Nat) (An2 : Option Addr) (cn2 : Nat) :
    ∃ W, ((w.alloc (.cells #[.int .i64 v.kind, .bool v.truth, .int .i64 v.n, .string ⟨v.text.toArray⟩, .slice Ak1 v.kids.length ck1, .slice An1 v.names.length cn1] 35)).alloc (.cells #[.int .i64 v2.kind, .bool v2.truth, .int .i64 v2.n, .string ⟨v2.text.toArray⟩, .slice Ak2 v2.kids.length ck2, .slice An2 v2.names.length cn2] 35)).drew = W ∧
      W.heap[w.heap.size]? = some (.cells (vcells v Ak1 ck1 An1 cn1) 35) ∧ W.heap[w.heap.size + 1]? = some (.cells (vcells v2 Ak2 ck2 An2 cn2) 35) ∧ Chg (fun _ => False) w W :=
  ⟨_, rfl, two_allocs w _ _⟩

set_option maxRecDepth 100000 in
set_option maxHeartbeats 4000000 in
theorem same_any (t u : List JV) (A1 A2 : Option Addr) (c1 c2 B : Nat) (xs1 xs2 : List VC) (hut : ∀ i (hi : i < t.length), usedJ t[i] = true) (huu : ∀ i (hi : i < u.length), usedJ u[i] = true) (hkt : KidsOk t) (hku : KidsOk u) :
    ∀ (f i j : Nat) (w : World), TRd w B A1 xs1 t → TRd w B A2 xs2 u → B ≤ w.heap.size → i < f → i < t.length → j < u.length →
    Calls Tryd.prog 27 #[.slice A1 t.length c1, .slice A2 u.length c2, .int .i64 i, .int .i64 j] w fun e w' => e = .returned (.bool (sameGo t u f i j)) ∧ Chg (fun _ => False) w w'
  | 0, i, _, _, _, _, _, h, _, _ => by omega
  | f + 1, i, j, w, h1, h2, hB, hf, hi, hj => by
    have ih := same_any t u A1 A2 c1 c2 B xs1 xs2 hut huu hkt hku f
    have hsg : sameGo t u (f + 1) i j = if diffJ t[i] u[j] then false else sameKids (sameGo t u f) t[i] u[j] 0 t[i].kids := by
      rw [sameGo, getD_at t i hi, getD_at u j hj]
    have h1c := h1
    have h2c := h2
    obtain ⟨b1, o1, Ak1, ck1, An1, cn1, hA1, hb1, p0, p1, p2, p3, p4, p5, hk1, hn1, hkl, hnl⟩ := h1.at i hi
    obtain ⟨b2, o2, Ak2, ck2, An2, cn2, hA2, hb2, q0, q1, q2, q3, q4, q5, hk2, hn2, hkl2, hnl2⟩ := h2.at j hj
    have htl := h1.tl
    have hul := h2.tl
    have hxk := hkt i hi
    have hyk := hku j hj
    have hxn : t[i].kind = 6 → t[i].kids.length = t[i].names.length := fun h6 => by
      have hu := hut i hi
      unfold usedJ at hu
      simp only [h6] at hu
      simp at hu
      exact hu.2
    have hyn : u[j].kind = 6 → u[j].kids.length = u[j].names.length := fun h6 => by
      have hu := huu j hj
      unfold usedJ at hu
      simp only [h6] at hu
      simp at hu
      exact hu.2
    generalize t[i] = x at *
    generalize u[j] = y at *
    have HSG := Lib.hid hsg
    have HT := Lib.hid (And.intro h1c h2c)
    have HK := Lib.hid (And.intro hxk (And.intro hyk (And.intro hxn hyn)))
    have HIH := Lib.hid ih
    subst hA1 hA2
    clear hsg h1c h2c h1 h2 hxk hyk hxn hyn ih hut huu hkt hku
    go_enter Tryd.func27, Tryd.ntmps27
    go_wp2_with fail
    have n1 : w.heap.size ≠ b1 := by omega
    have n2 : w.heap.size ≠ b2 := by omega
    have n3 : w.heap.size + 1 ≠ b1 := by omega
    have n4 : w.heap.size + 1 ≠ b2 := by omega
    go_region_held (fun w' => w'.cell? ⟨b1, o1 + i * 6, none⟩ = some (.int .i64 x.kind) ∧ w'.cell? ⟨b1, o1 + i * 6 + 1, none⟩ = some (.bool x.truth) ∧ w'.cell? ⟨b1, o1 + i * 6 + 2, none⟩ = some (.int .i64 x.n) ∧ w'.cell? ⟨b1, o1 + i * 6 + 3, none⟩ = some (.string ⟨x.text.toArray⟩) ∧ w'.cell? ⟨b1, o1 + i * 6 + 4, none⟩ = some (.slice Ak1 x.kids.length ck1) ∧ w'.cell? ⟨b1, o1 + i * 6 + 5, none⟩ = some (.slice An1 x.names.length cn1) ∧ w'.cell? ⟨b2, o2 + j * 6, none⟩ = some (.int .i64 y.kind) ∧ w'.cell? ⟨b2, o2 + j * 6 + 1, none⟩ = some (.bool y.truth) ∧ w'.cell? ⟨b2, o2 + j * 6 + 2, none⟩ = some (.int .i64 y.n) ∧ w'.cell? ⟨b2, o2 + j * 6 + 3, none⟩ = some (.string ⟨y.text.toArray⟩) ∧ w'.cell? ⟨b2, o2 + j * 6 + 4, none⟩ = some (.slice Ak2 y.kids.length ck2) ∧ w'.cell? ⟨b2, o2 + j * 6 + 5, none⟩ = some (.slice An2 y.names.length cn2)) (go_keep) (fail)
    all_goals
      rename_i hHeld
      clear hHeld n1 n2 n3 n4 p0 p1 p2 p3 p4 p5 q0 q1 q2 q3 q4 q5
      first
      | (obtain ⟨W, hWW, hx, hy, hcW⟩ := two_cells2 w x y Ak1 ck1 An1 cn1 Ak2 ck2 An2 cn2
         have hBW := Nat.le_trans hB hcW.size
         have hbl := hcW.below hB (fun _ h => h.elim)
         rw [hWW]
         clear hWW
         generalize w.heap.size + 1 = yb at *
         generalize w.heap.size = xb at *)
      | (obtain ⟨W, hWW, hy, hx, hcW⟩ := two_cells2 w y x Ak2 ck2 An2 cn2 Ak1 ck1 An1 cn1
         have hBW := Nat.le_trans hB hcW.size
         have hbl := hcW.below hB (fun _ h => h.elim)
         rw [hWW]
         clear hWW
         generalize w.heap.size + 1 = xb at *
         generalize w.heap.size = yb at *)
      have hkw1 := hk1.keep hbl
      have hkw2 := hk2.keep hbl
      have hnw1 := hn1.keep hbl
      have hnw2 := hn2.keep hbl
      have hT1 := HT.out.1.keep hbl
      have hT2 := HT.out.2.keep hbl
      obtain ⟨p0, p1, p2, p3, p4, p5⟩ := vcells_at hx
      obtain ⟨q0, q1, q2, q3, q4, q5⟩ := vcells_at hy
      have HX := Lib.hid (And.intro hx (And.intro hy (And.intro hnw1 (And.intro hnw2 (And.intro hkw1 (And.intro hkw2 (And.intro hT1 hT2)))))))
      clear hk1 hk2 hn1 hn2 hkw1 hkw2 hx hy hnw1 hnw2 hT1 hT2 hbl
      cases hd : diffJ x y with
      | true =>
        have hsg := HSG.out
        rw [hd, if_pos rfl] at hsg
        have HS := Lib.hid hsg
        have hd2 := diff_true hd
        clear hsg hd HX
        rcases hd2 with h1 | ⟨h1, h2⟩ | ⟨h1, h2, h3⟩ | ⟨h1, h2, h3, h4⟩ | ⟨h1, h2, h3, h4, h5⟩
        all_goals
          go_wp2_with fail
          go_ret
          exact ⟨by rw [HS.out]; rfl, hcW⟩
      | false =>
        have hsg := HSG.out
        rw [hd, if_neg (by simp)] at hsg
        have HS := Lib.hid hsg
        obtain ⟨h1, h2, h3, h4, h5, h6⟩ := diff_false hd
        have h5' : ((x.kids.length : Int) != (y.kids.length : Int)) = false := by rw [h5]; simp
        have HE := Lib.hid (And.intro h5 h6)
        clear hsg hd h5 h6
        go_wp2_with fail
        clear h1 h2 h3 h4 h5'
        obtain ⟨R, hR⟩ : ∃ R, R = sameKids (sameGo t u f) x y 0 x.kids := ⟨_, rfl⟩
        rw [← hR] at HS
        go_loopg [61] (x.kids.length + 1) (fun g s61 wr => ∃ k : Nat, s61 = .int .i64 k ∧ k ≤ x.kids.length ∧ Chg (fun _ => False) W wr ∧ sameKids (sameGo t u f) x y k (x.kids.drop k) = R ∧ x.kids.length - k + 1 = g)
        case atStart => exact ⟨0, rfl, by omega, Chg.refl _ _, hR.symm, rfl⟩
        case round =>
          obtain ⟨k, rfl, hk, hch, hsk, hg⟩ := hrel
          have HG := Lib.hid hg
          have HSK := Lib.hid hsk
          have HR := Lib.hid hR
          have hBq := Nat.le_trans hBW hch.size
          have hblq := hch.below (B := B) hBW (fun _ h => h.elim)
          have hcq := hcW.trans hch
          have hcWr := Lib.hid hch
          clear hg hsk hR p0 p1 p2 p3 p4 p5 q0 q1 q2 q3 q4 q5
          obtain ⟨p0, p1, p2, p3, p4, p5⟩ := vcells_at (hch.obj HX.out.1 id)
          obtain ⟨q0, q1, q2, q3, q4, q5⟩ := vcells_at (hch.obj HX.out.2.1 id)
          clear p1 p2 p3 p4 q0 q1 q2 q3 hch
          by_cases hkl' : k < x.kids.length
          · have hky : k < y.kids.length := by rw [← HE.out.1]; exact hkl'
            obtain ⟨b3, o3, hA3, hb3, x3⟩ := (HX.out.2.2.2.2.1.keep hblq).int k hkl'
            obtain ⟨b4, o4, hA4, hb4, x4⟩ := (HX.out.2.2.2.2.2.1.keep hblq).int k hky
            have hm := HK.out.1 _ (List.getElem_mem hkl')
            have hm2 := HK.out.2.1 _ (List.getElem_mem hky)
            have hdr := List.drop_eq_getElem_cons hkl'
            have hsk := HSK.out
            rw [hdr] at hsk
            have hgy : y.kids.getD k 0 = y.kids[k] := by rw [List.getD_eq_getElem?_getD, List.getElem?_eq_getElem hky]; rfl
            obtain ⟨p, hp⟩ : ∃ p : Nat, x.kids[k] = (p : Int) := ⟨(x.kids[k]).toNat, by omega⟩
            obtain ⟨q, hq⟩ : ∃ q : Nat, y.kids[k] = (q : Int) := ⟨(y.kids[k]).toNat, by omega⟩
            rw [hp] at x3 hm hsk
            rw [hq] at x4 hm2 hgy
            clear hdr hp hq
            have hIH := fun (W' : World) (hc' : Chg (fun _ => False) wr W') q hq => HIH.out p q W' ((HX.out.2.2.2.2.2.2.1.keep hblq).keep (hc'.below hBq (fun _ h => h.elim))) ((HX.out.2.2.2.2.2.2.2.keep hblq).keep (hc'.below hBq (fun _ h => h.elim))) (Nat.le_trans hBq hc'.size) (by omega) (by omega) hq
            by_cases hk6 : x.kind = 6
            · have hnl6 := HK.out.2.2.1 hk6
              have hyl6 := HK.out.2.2.2 (by rw [← HE.out.2]; exact hk6)
              have hkn : k < x.names.length := by omega
              obtain ⟨b5, o5, hA5, hb5, x5⟩ := (HX.out.2.2.1.keep hblq).str k hkn
              have hdx := fun n => index_any y.names x.names[k] An2 cn2 B (wr.drewN n) ((HX.out.2.2.2.1.keep hblq).keep (bl_drewN (Below.refl _ _) n)) hnl2
              have hgn : x.names.getD k [] = x.names[k] := by rw [List.getD_eq_getElem?_getD, List.getElem?_eq_getElem hkn]; rfl
              rw [sameKids, if_pos hk6, hgn] at hsk
              rw [hk6] at p0
              generalize x.names[k] = nm at *
              by_cases hat : y.names.idxOf nm < y.names.length
              · have hay : y.names.idxOf nm < y.kids.length := by omega
                obtain ⟨b6, o6, hA6, hb6, x6⟩ := (HX.out.2.2.2.2.2.1.keep hblq).int (y.names.idxOf nm) hay
                have hm3 := HK.out.2.1 _ (List.getElem_mem hay)
                have hga : y.kids.getD (y.names.idxOf nm) 0 = y.kids[y.names.idxOf nm] := by rw [List.getD_eq_getElem?_getD, List.getElem?_eq_getElem hay]; rfl
                rw [if_pos hat, hga] at hsk
                rw [if_pos hat] at hdx
                obtain ⟨q2, hq2⟩ : ∃ q2 : Nat, y.kids[y.names.idxOf nm] = (q2 : Int) := ⟨(y.kids[y.names.idxOf nm]).toNat, by omega⟩
                rw [hq2] at x6 hm3 hsk
                rw [Int.toNat_natCast, Int.toNat_natCast] at hsk
                have hIH2 := Lib.hid (fun n => hIH (wr.drewN n) ((Chg.refl _ _).drewN n) q2 (by omega))
                have hcqn := Lib.hid (fun n => hcq.drewN n)
                have hHH := Lib.hid (And.intro hm (And.intro hm2 hm3))
                have hsk2 := Lib.hid hsk
                generalize hmm : y.names.idxOf nm = at_ at *
                subst hA3
                rw [hA4] at hA6
                obtain ⟨rfl, rfl⟩ : b4 = b6 ∧ o4 = o6 := by simpa using hA6
                subst hA4 hA5
                clear hmm hsk hm hm2 hm3 hgy hga hq2 hgn HSK hIH hat hnl6 hyl6 hA6 HIH hk6
                go_wp2_with fail
                go_quiet (first | (go_at_call 30; refine Calls.quiet_of_same (hdx _)))
                go_wp2_with fail
                refine (hIH2.out _).mono ?_
                rintro e w5 ⟨rfl, hch5⟩
                have hc5 := (hcqn.out _).trans hch5
                have hcW5 := ((hcWr.out.drewN _)).trans hch5
                have hsk := hsk2.out
                clear hIH2 hch5 hdx hcq hcqn hsk2
                cases hs : sameGo t u f p q2 with
                | false =>
                  rw [hs] at hsk
                  simp only [Bool.false_eq_true, if_false] at hsk
                  have HF := Lib.hid hsk
                  clear hs hsk
                  go_wp2_with fail
                  go_ret
                  exact ⟨by rw [HS.out, ← HF.out]; rfl, hc5⟩
                | true =>
                  rw [hs] at hsk
                  simp only [if_true] at hsk
                  have HF := Lib.hid hsk
                  clear hs hsk
                  go_wp2_with fail
                  go_roundg (x.kids.length - (k + 1) + 1)
                  case measure => rw [← HG.out]; omega
                  case rel => exact ⟨k + 1, int_i64 (by omega), by omega, hcW5, HF.out, rfl⟩
              · rw [if_neg hat] at hsk hdx
                have HF := Lib.hid hsk
                have hcqn := Lib.hid (fun n => hcq.drewN n)
                subst hA3 hA4 hA5
                clear hsk hm hm2 hgy hgn HSK hIH hat hnl6 hyl6 HIH hk6
                go_wp2_with fail
                go_quiet (first | (go_at_call 30; refine Calls.quiet_of_same (hdx _)))
                go_wp2_with fail
                go_ret
                exact ⟨by rw [HS.out, ← HF.out]; rfl, hcqn.out _⟩
            · have hkf : (x.kind == 6) = false := by rw [beq_eq_false_iff_ne]; exact hk6
              rw [sameKids, if_neg hk6, hgy, Int.toNat_natCast, Int.toNat_natCast] at hsk
              have hIH2 := Lib.hid (hIH wr (Chg.refl _ _) q (by omega))
              have hsk2 := Lib.hid hsk
              have hHH := Lib.hid (And.intro hm hm2)
              subst hA3 hA4
              clear hsk hm hm2 hgy HSK hIH HIH hk6
              go_wp2_with fail
              refine hIH2.out.mono ?_
              rintro e w5 ⟨rfl, hch5⟩
              have hc5 := hcq.trans hch5
              have hcW5 := hcWr.out.trans hch5
              have hsk := hsk2.out
              clear hIH2 hch5 hcq hsk2
              cases hs : sameGo t u f p q with
              | false =>
                rw [hs] at hsk
                simp only [Bool.false_eq_true, if_false] at hsk
                have HF := Lib.hid hsk
                clear hs hsk
                go_wp2_with fail
                go_ret
                exact ⟨by rw [HS.out, ← HF.out]; rfl, hc5⟩
              | true =>
                rw [hs] at hsk
                simp only [if_true] at hsk
                have HF := Lib.hid hsk
                clear hs hsk
                go_wp2_with fail
                go_roundg (x.kids.length - (k + 1) + 1)
                case measure => rw [← HG.out]; omega
                case rel => exact ⟨k + 1, int_i64 (by omega), by omega, hcW5, HF.out, rfl⟩
          · have hsk := HSK.out
            rw [List.drop_eq_nil_of_le (by omega : x.kids.length ≤ k)] at hsk
            simp only [sameKids] at hsk
            have HS2 := Lib.hid hsk
            clear hsk HSK
            go_wp2_with fail
            go_ret
            exact ⟨by rw [HS.out, ← HS2.out]; rfl, hcq⟩
end Go.Proofs.YtknmbfkpclacgaaDoor
