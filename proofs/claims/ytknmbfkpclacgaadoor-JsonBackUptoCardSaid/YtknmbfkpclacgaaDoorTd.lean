/- json.shaped: the walk. -/
import Derived.Test.YtknmbfkpclacgaaDoorTc
set_option linter.unusedSimpArgs false
namespace Go.Proofs.YtknmbfkpclacgaaDoor
open Go.RowKit

theorem Tryd.infoBool : (Tryd.prog.info? 4).map (fun i => (i.zero, i.size, i.bytes)) = some (some (.bool false), 1, 1) := by kernel_rfl
def bools (o : List Bool) : List Value := o.map Value.bool
theorem bools_length (o : List Bool) : (bools o).length = o.length := by simp [bools]
theorem bools_rep (n : Nat) : List.replicate n (Value.bool false) = bools (List.replicate n false) := by simp [bools]
theorem bools_set (o : List Bool) (j : Nat) (b : Bool) : (bools o).set j (.bool b) = bools (o.set j b) := by simp [bools]

set_option maxRecDepth 100000 in
set_option maxHeartbeats 4000000 in
theorem shaped_any (t : List JV) (A : Option Addr) (cap B : Nat) (xs : List VC) (w : World) (hT : TRd w B A xs t) (hB : B ≤ w.heap.size) :
    Calls Tryd.prog 38 #[.slice A t.length cap] w fun e w' => e = .returned (.bool (shapedJ t)) ∧ Chg (fun _ => False) w w' := by
  have htl := hT.tl
  have hmk := run_make_row' (P := Tryd.prog) 99 4 (.bool false) 1 Tryd.underlying99 Tryd.infoBool rfl .i64 .i64 t.length (by omega) (by omega)
  have HT := Lib.hid hT
  clear hT
  obtain ⟨R, hR⟩ : ∃ R, R = shapedGo 0 t (List.replicate t.length false) := ⟨_, rfl⟩
  have HR := Lib.hid hR
  clear hR
  go_enter Tryd.func38, Tryd.ntmps38
  go_wp2_with fail
  generalize hW : w.alloc (.cells (madeCells #[Value.bool false] t.length) 4) = W
  have hrow : Row1 W w.heap.size 4 (bools (List.replicate t.length false)) := by rw [← hW, ← bools_rep]; exact Row1.made _ _ _ _
  have hch : Chg (fun _ => False) w W := by rw [← hW]; exact (Chg.refl _ _).alloc _
  clear hW
  go_loopg [14] (t.length + 1) (fun g s14 wr => ∃ (i : Nat) (o : List Bool), s14 = .int .i64 i ∧ i ≤ t.length ∧ o.length = t.length ∧ Row1 wr w.heap.size 4 (bools o) ∧ Chg (fun _ => False) w wr ∧ shapedGo i (t.drop i) o = R ∧ t.length - i + 1 = g)
  case atStart => exact ⟨0, _, rfl, by omega, by simp, hrow, hch, HR.out.symm, rfl⟩
  case round =>
    obtain ⟨i, o, rfl, hi, ho, hrow, hch, hgo, hg⟩ := hrel
    have HGO := Lib.hid hgo
    have HG := Lib.hid hg
    clear hgo hg
    by_cases hit : i < t.length
    · obtain ⟨b, oo, Ak, ck, An, cn, hA, hbB, c0, c1, c2, c3, c4, c5, hkr, hnr, hkl, hnl⟩ := (HT.out.keep (hch.below hB (fun _ h => h.elim))).at i hit
      subst hA
      go_wp2_with fail
      generalize hW5 : wr.alloc (.cells #[.int .i64 t[i].kind, .bool t[i].truth, .int .i64 t[i].n, .string ⟨t[i].text.toArray⟩, .slice Ak t[i].kids.length ck, .slice An t[i].names.length cn] 35) = W5
      have hc5 : Chg (fun _ => False) wr W5 := by rw [← hW5]; exact (Chg.refl _ _).alloc _
      have hb5 : W5.heap[wr.heap.size]? = some (.cells #[.int .i64 t[i].kind, .bool t[i].truth, .int .i64 t[i].n, .string ⟨t[i].text.toArray⟩, .slice Ak t[i].kids.length ck, .slice An t[i].names.length cn] 35) := by rw [← hW5]; exact heap_alloc_new wr _
      clear hW5 c0 c1 c2 c3 c4 c5
      refine (used_any t[i] Ak An ck cn W5).mono ?_
      rintro e w6 ⟨rfl, hc6⟩
      have hb6 := hc6.obj hb5 id
      have c4 : w6.cell? ⟨wr.heap.size, 4, none⟩ = some (.slice Ak t[i].kids.length ck) := by simp [World.cell?, hb6]
      have hch6 : Chg (fun _ => False) w w6 := (hch.trans hc5).trans hc6
      have hrow6 := hrow.keep (hc5.trans hc6) id
      have hdrop : t.drop i = t[i] :: t.drop (i + 1) := List.drop_eq_getElem_cons hit
      have hgo2 := HGO.out
      rw [hdrop] at hgo2
      simp only [shapedGo] at hgo2
      have hkr6 : Ro w6 B Ak (ints t[i].kids) := hkr.keep (((hc5.trans hc6).below (B := B) (by have := hch.size; omega) (fun _ h => h.elim)))
      clear hdrop hb5 hb6 hc5 hc6 hrow hch hkr hnr HGO
      cases hu : usedJ t[i] with
      | false =>
        rw [hu] at hgo2
        have hsh : shapedJ t = false := by
          unfold shapedJ
          rw [← HR.out, ← hgo2]
          rfl
        have HSH := Lib.hid hsh
        clear hu hgo2 hsh
        go_wp2_with fail
        go_ret
        exact ⟨by rw [HSH.out]; rfl, hch6⟩
      | true =>
        rw [hu] at hgo2
        simp only [if_true] at hgo2
        have HGO2 := Lib.hid hgo2
        clear hu hgo2
        go_wp2_with fail
        go_loopg [25] (t[i].kids.length + 1) (fun g s25 wr => ∃ (j : Nat) (o2 : List Bool), s25 = .int .i64 j ∧ j ≤ t[i].kids.length ∧ o2.length = t.length ∧ Row1 wr w.heap.size 4 (bools o2) ∧ Chg (fun _ => False) w wr ∧ Ro wr B Ak (ints t[i].kids) ∧ kidsGo i (t[i].kids.drop j) o2 = kidsGo i t[i].kids o ∧ t[i].kids.length - j + 1 = g)
        case atStart => exact ⟨0, o, rfl, by omega, ho, hrow6, hch6, hkr6, rfl, rfl⟩
        case round =>
          obtain ⟨j, o2, rfl, hj, ho2, hrow2, hch2, hkr2, hkg, hg2⟩ := hrel
          have HKG := Lib.hid hkg
          have HG2 := Lib.hid hg2
          clear hkg hg2
          by_cases hjt : j < t[i].kids.length
          · obtain ⟨b2, o3, hAk, hb2, k0⟩ := hkr2.int j hjt
            have hdr : t[i].kids.drop j = t[i].kids[j] :: t[i].kids.drop (j + 1) := List.drop_eq_getElem_cons hjt
            have hk2 := HKG.out
            rw [hdr, kidsGo] at hk2
            generalize hkk : t[i].kids[j] = k at *
            have hfalse : kidsGo i t[i].kids o = none → shapedJ t = false := fun h => by
              have h2 := HGO2.out
              rw [h] at h2
              simp only at h2
              unfold shapedJ
              rw [← HR.out, ← h2]
            have HK2 := Lib.hid hk2
            have HF := Lib.hid hfalse
            clear hdr hk2 hfalse hkk
            subst hAk
            by_cases h0 : k < 0
            · have hsh := HF.out (by rw [← HK2.out, if_pos (.inl h0)])
              have HSH := Lib.hid hsh
              clear hsh
              go_wp2_with fail
              go_ret
              exact ⟨by rw [HSH.out]; rfl, hch2⟩
            by_cases h1 : (i : Int) ≤ k
            · have hsh := HF.out (by rw [← HK2.out, if_pos (.inr (.inl h1))])
              have HSH := Lib.hid hsh
              clear hsh
              go_wp2_with fail
              go_ret
              exact ⟨by rw [HSH.out]; rfl, hch2⟩
            obtain ⟨m, rfl⟩ : ∃ m : Nat, k = m := ⟨k.toNat, by omega⟩
            have hm : m < o2.length := by omega
            have m0 : wr.cell? ⟨w.heap.size, m, none⟩ = some (.bool o2[m]) := hrow2.cell m _ (by simp [bools, hm])
            have mf := hrow2.fz m
            have hgd : o2.getD m false = o2[m] := by simp [List.getD_eq_getElem?_getD, hm]
            cases hom : o2[m] with
            | true =>
              have hsh := HF.out (by rw [← HK2.out, if_pos (.inr (.inr (by simp only [Int.toNat_natCast]; rw [hgd, hom])))])
              have HSH := Lib.hid hsh
              rw [hom] at m0
              clear hsh hgd hom
              go_wp2_with fail
              go_ret
              exact ⟨by rw [HSH.out]; rfl, hch2⟩
            | false =>
              have hk3 := HK2.out
              rw [if_neg (by simp only [Int.toNat_natCast]; rw [hgd, hom]; simp; omega)] at hk3
              simp only [Int.toNat_natCast] at hk3
              rw [hom] at m0
              have hr3 := hrow2.set m (.bool true) (by rw [bools_length]; exact hm)
              rw [bools_set] at hr3
              have hc3 : Chg (fun _ => False) w (wr.setCell ⟨w.heap.size, m, none⟩ (.bool true)) := hch2.setCell (fun h => by simp only at h; omega) _
              have hk4 : Ro (wr.setCell ⟨w.heap.size, m, none⟩ (.bool true)) B (some ⟨b2, o3, none⟩) (ints t[i].kids) :=
                hkr2.keep ((Chg.refl (fun q => q = w.heap.size) wr).setCell (p := ⟨w.heap.size, m, none⟩) (fun _ => rfl) _ |>.below (by have := hch2.size; omega) (fun q hq => by omega))
              have HX := Lib.hid (And.intro hr3 (And.intro hc3 (And.intro hk4 hk3)))
              clear hr3 hc3 hk4 hk3 hgd hom
              go_wp2_with fail
              go_roundg (t[i].kids.length - (j + 1) + 1)
              case measure => rw [← HG2.out]; omega
              case rel => exact ⟨j + 1, o2.set m true, int_i64 (by omega), by omega, by rw [List.length_set]; exact ho2, HX.out.1, HX.out.2.1, HX.out.2.2.1, HX.out.2.2.2, rfl⟩
          · have hdr : t[i].kids.drop j = [] := List.drop_eq_nil_of_le (by omega)
            have hk2 := HKG.out
            rw [hdr, kidsGo] at hk2
            have hgo3 := HGO2.out
            rw [← hk2] at hgo3
            simp only at hgo3
            have HGO3 := Lib.hid hgo3
            clear hdr hk2 hgo3
            go_wp2_with fail
            go_roundg (t.length - (i + 1) + 1)
            case measure => rw [← HG.out]; omega
            case rel => exact ⟨i + 1, o2, int_i64 (by omega), by omega, ho2, hrow2, hch2, HGO3.out, rfl⟩
    · have hdr : t.drop i = [] := List.drop_eq_nil_of_le (by omega)
      have hR2 := HGO.out
      rw [hdr, shapedGo] at hR2
      have hsh : shapedJ t = (ownedOk t.length 0 o && decide (0 < t.length)) := by
        unfold shapedJ
        rw [← HR.out, ← hR2]
      have HSH := Lib.hid hsh
      clear hdr hR2 hsh
      go_wp2_with fail
      go_loopg [49] (t.length + 1) (fun g s49 wr => ∃ j : Nat, s49 = .int .i64 j ∧ j ≤ t.length ∧ Row1 wr w.heap.size 4 (bools o) ∧ Chg (fun _ => False) w wr ∧ ownedOk t.length j (o.drop j) = ownedOk t.length 0 o ∧ t.length - j + 1 = g)
      case atStart => exact ⟨0, rfl, by omega, hrow, hch, rfl, rfl⟩
      case round =>
        obtain ⟨j, rfl, hj, hrow2, hch2, hok, hg2⟩ := hrel
        have HOK := Lib.hid hok
        have HG2 := Lib.hid hg2
        clear hok hg2
        by_cases hjt : j < t.length
        · have hjo : j < o.length := by omega
          have m0 : wr.cell? ⟨w.heap.size, j, none⟩ = some (.bool o[j]) := hrow2.cell j _ (by simp [bools, hjo])
          have hdr : o.drop j = o[j] :: o.drop (j + 1) := List.drop_eq_getElem_cons hjo
          have hk2 := HOK.out
          rw [hdr, ownedOk] at hk2
          have hjn : (j + 1 = t.length ∧ (((j : Int)) == (t.length : Int) - 1) = true) ∨ (j + 1 ≠ t.length ∧ (((j : Int)) == (t.length : Int) - 1) = false) := by
            by_cases h : j + 1 = t.length
            · exact .inl ⟨h, by rw [beq_iff_eq]; omega⟩
            · exact .inr ⟨h, by rw [beq_eq_false_iff_ne]; omega⟩
          have hend : (o[j] = (j + 1 == t.length) → shapedJ t = false) := fun h => by
            rw [if_pos h] at hk2
            rw [HSH.out, ← hk2, Bool.false_and]
          have hnx : (¬ o[j] = (j + 1 == t.length) → ownedOk t.length (j + 1) (o.drop (j + 1)) = ownedOk t.length 0 o) := fun h => by
            rw [if_neg h] at hk2
            exact hk2
          have HEND := Lib.hid hend
          have HNX := Lib.hid hnx
          clear hdr hk2 hend hnx
          cases hoj : o[j] <;> rcases hjn with ⟨hjn, tj⟩ | ⟨hjn, tj⟩
          · have hx := HNX.out (by rw [hoj, hjn]; simp)
            have HX := Lib.hid hx
            rw [hoj] at m0
            clear hx hoj
            go_wp2_with fail
            go_roundg (t.length - (j + 1) + 1)
            case measure => rw [← HG2.out]; omega
            case rel => exact ⟨j + 1, int_i64 (by omega), by omega, hrow2, hch2, HX.out, rfl⟩
          · have hx := HEND.out (by rw [hoj]; simp [hjn])
            have HX := Lib.hid hx
            rw [hoj] at m0
            clear hx hoj
            go_wp2_with fail
            go_ret
            exact ⟨by rw [HX.out]; rfl, hch2⟩
          · have hx := HEND.out (by rw [hoj, hjn]; simp)
            have HX := Lib.hid hx
            rw [hoj] at m0
            clear hx hoj
            go_wp2_with fail
            go_ret
            exact ⟨by rw [HX.out]; rfl, hch2⟩
          · have hx := HNX.out (by rw [hoj]; simp [hjn])
            have HX := Lib.hid hx
            rw [hoj] at m0
            clear hx hoj
            go_wp2_with fail
            go_roundg (t.length - (j + 1) + 1)
            case measure => rw [← HG2.out]; omega
            case rel => exact ⟨j + 1, int_i64 (by omega), by omega, hrow2, hch2, HX.out, rfl⟩
        · have hdr : o.drop j = [] := List.drop_eq_nil_of_le (by omega)
          have hk2 := HOK.out
          rw [hdr, ownedOk] at hk2
          have hsh : shapedJ t = decide (0 < t.length) := by rw [HSH.out, ← hk2, Bool.true_and]
          have HSH2 := Lib.hid hsh
          clear hdr hk2 hsh
          go_wp2_with fail
          go_ret
          exact ⟨by rw [HSH2.out]; rfl, hch2⟩
end Go.Proofs.YtknmbfkpclacgaaDoor
