/- json.deep: the walk. -/
import Derived.Test.YtknmbfkpclacgaaDoorTd
set_option linter.unusedSimpArgs false
namespace Go.Proofs.YtknmbfkpclacgaaDoor
open Go.RowKit

/-! ### What a shaped tree's kids are -/
theorem kidsGo_some {i : Nat} : ∀ {ks : List Int} {o o' : List Bool}, kidsGo i ks o = some o' → ∀ k ∈ ks, 0 ≤ k ∧ k < (i : Int)
  | [], _, _, _, _, h => by cases h
  | k :: ks, o, o', h, q, hq => by
    rw [kidsGo] at h
    split at h
    · cases h
    · rename_i hn
      rcases List.mem_cons.1 hq with rfl | hq
      · omega
      · exact kidsGo_some h q hq
theorem shapedGo_some : ∀ {vs : List JV} {i : Nat} {o o' : List Bool}, shapedGo i vs o = some o' → ∀ j (h : j < vs.length), usedJ vs[j] = true ∧ ∀ k ∈ vs[j].kids, 0 ≤ k ∧ k < ((i + j : Nat) : Int)
  | [], _, _, _, _, j, h => by simp at h
  | v :: vs, i, o, o', h, j, hj => by
    rw [shapedGo] at h
    split at h
    · rename_i hu
      split at h
      · cases h
      · rename_i o2 hk
        cases j with
        | zero => exact ⟨hu, fun k hk' => by simpa using kidsGo_some hk k hk'⟩
        | succ j =>
          have := shapedGo_some h j (by simpa using hj)
          simp only [List.getElem_cons_succ]
          rw [show i + (j + 1) = i + 1 + j from by omega]
          exact this
    · cases h
theorem shapedJ_kids {t : List JV} (h : shapedJ t = true) : 0 < t.length ∧ ∀ j (hj : j < t.length), usedJ t[j] = true ∧ ∀ k ∈ t[j].kids, 0 ≤ k ∧ k < (j : Int) := by
  unfold shapedJ at h
  split at h
  · cases h
  · rename_i o ho
    rw [Bool.and_eq_true, decide_eq_true_eq] at h
    exact ⟨h.2, fun j hj => by simpa using shapedGo_some ho j hj⟩

def dints (d : List Nat) : List Value := d.map fun n : Nat => Value.int .i64 n
theorem dints_length (d : List Nat) : (dints d).length = d.length := by simp [dints]
theorem dints_rep (n : Nat) : List.replicate n (Value.int .i64 0) = dints (List.replicate n 0) := by simp [dints]
theorem dints_set (d : List Nat) (m x : Nat) (z : List Nat) : (dints (d ++ m :: z)).set d.length (.int .i64 x) = dints (d ++ x :: z) := by
  simp [dints]
theorem dints_mid (d : List Nat) (m : Nat) (z : List Nat) : (dints (d ++ m :: z))[d.length]? = some (.int .i64 m) := by simp [dints]
theorem dints_lo (d : List Nat) (z : List Nat) (k : Nat) (hk : k < d.length) : (dints (d ++ z))[k]? = some (.int .i64 (d.getD k 0 : Nat)) := by
  simp [dints, List.getElem?_append_left, hk, List.getD_eq_getElem?_getD]
theorem kidsDeep_le (d : List Nat) (b : Nat) (hd : ∀ x ∈ d, x ≤ b) : ∀ (ks : List Int) (m : Nat), m ≤ b → kidsDeep d ks m ≤ b
  | [], m, h => h
  | k :: ks, m, h => by
    rw [kidsDeep]
    refine kidsDeep_le d b hd ks _ ?_
    have : d.getD k.toNat 0 ≤ b := by
      rw [List.getD_eq_getElem?_getD]
      cases hh : d[k.toNat]? with
      | none => simp
      | some x => simpa using hd x (List.mem_of_getElem? hh)
    omega
theorem deepGo_append : ∀ (vs : List JV) (d : List Nat), ∃ e, deepGo vs d = d ++ e ∧ e.length = vs.length
  | [], d => ⟨[], by simp [deepGo], rfl⟩
  | v :: vs, d => by
    obtain ⟨e, h1, h2⟩ := deepGo_append vs (d ++ [if v.kind = 5 ∨ v.kind = 6 then kidsDeep d v.kids 0 + 1 else 0])
    exact ⟨_ :: e, by rw [deepGo, h1, List.append_assoc, List.singleton_append], by simp [h2]⟩

set_option maxRecDepth 100000 in
set_option maxHeartbeats 4000000 in
theorem deep_any (t : List JV) (A : Option Addr) (cap B : Nat) (xs : List VC) (w : World) (hT : TRd w B A xs t) (hB : B ≤ w.heap.size) (hsh : shapedJ t = true) :
    Calls Tryd.prog 39 #[.slice A t.length cap] w fun e w' => e = .returned (.int .i64 (deepJ t : Nat)) ∧ Chg (fun _ => False) w w' := by
  have htl := hT.tl
  have hmk := run_make_row' (P := Tryd.prog) 32 3 (.int .i64 0) 8 Tryd.underlying32 Tryd.infoInt rfl .i64 .i64 t.length (by omega) (by omega)
  obtain ⟨hpos, hkids⟩ := shapedJ_kids hsh
  have HT := Lib.hid hT
  have HK := Lib.hid hkids
  clear hT hsh hkids
  go_enter Tryd.func39, Tryd.ntmps39
  go_wp2_with fail
  generalize hW : w.alloc (.cells (madeCells #[Value.int .i64 0] t.length) 3) = W
  have hrow : Row1 W w.heap.size 3 (dints ([] ++ List.replicate t.length 0)) := by rw [← hW, List.nil_append, ← dints_rep]; exact Row1.made _ _ _ _
  have hch : Chg (fun _ => False) w W := by rw [← hW]; exact (Chg.refl _ _).alloc _
  clear hW
  go_loopg [13] (t.length + 1) (fun g s13 wr => ∃ (i : Nat) (d : List Nat), s13 = .int .i64 i ∧ i ≤ t.length ∧ d.length = i ∧ (∀ x ∈ d, x ≤ i) ∧ Row1 wr w.heap.size 3 (dints (d ++ List.replicate (t.length - i) 0)) ∧ Chg (fun _ => False) w wr ∧ deepGo (t.drop i) d = deepGo t [] ∧ t.length - i + 1 = g)
  case atStart => exact ⟨0, [], rfl, by omega, rfl, by simp, hrow, hch, rfl, rfl⟩
  case round =>
    obtain ⟨i, d, rfl, hi, hdl, hdb, hrow, hch, hgo, hg⟩ := hrel
    have HGO := Lib.hid hgo
    have HG := Lib.hid hg
    clear hgo hg
    by_cases hit : i < t.length
    · obtain ⟨b, oo, Ak, ck, An, cn, hA, hbB, c0, c1, c2, c3, c4, c5, hkr, hnr, hkl, hnl⟩ := (HT.out.keep (hch.below hB (fun _ h => h.elim))).at i hit
      subst hA
      have hdrop : t.drop i = t[i] :: t.drop (i + 1) := List.drop_eq_getElem_cons hit
      have hgo2 := HGO.out
      rw [hdrop, deepGo] at hgo2
      have hrep : List.replicate (t.length - i) 0 = 0 :: List.replicate (t.length - (i + 1)) 0 := by rw [show t.length - i = (t.length - (i + 1)) + 1 from by omega]; rfl
      rw [hrep] at hrow
      clear hrep hdrop
      by_cases hkind : t[i].kind = 5 ∨ t[i].kind = 6
      · rw [if_pos hkind] at hgo2
        have hkk := HK.out i hit
        have hch5 : ∀ o, Chg (fun _ => False) w (wr.alloc o) := fun o => hch.alloc o
        have hrow5 : ∀ o, Row1 (wr.alloc o) w.heap.size 3 (dints (d ++ 0 :: List.replicate (t.length - (i + 1)) 0)) := fun o => hrow.keep ((Chg.refl (fun _ => False) wr).alloc o) id
        have hkr5 : ∀ o, Ro (wr.alloc o) B Ak (ints t[i].kids) := fun o => hkr.keep (((Chg.refl (fun _ => False) wr).alloc o).below (by have := hch.size; omega) (fun _ h => h.elim))
        have HGO2 := Lib.hid hgo2
        have HKK := Lib.hid hkk.2
        have HX5 := Lib.hid (And.intro hch5 (And.intro hrow5 hkr5))
        clear hgo2 hkk hch5 hrow5 hkr5 hrow hch hkr hnr HGO
        have htests : (t[i].kind != 5) = false ∨ ((t[i].kind != 5) = true ∧ (t[i].kind != 6) = false) := by
          by_cases h5 : t[i].kind = 5
          · exact .inl (by simp [h5])
          · exact .inr ⟨by simp [h5], by simp; omega⟩
        clear hkind
        have hzero : ∃ m, m = 0 ∧ m ≤ i := ⟨0, rfl, by omega⟩
        rcases htests with k5 | ⟨k5, k6⟩
        all_goals
          go_wp2_with fail
          go_loopg [29] (t[i].kids.length + 1) (fun g s29 wr => ∃ j m : Nat, s29 = .int .i64 j ∧ j ≤ t[i].kids.length ∧ m ≤ i ∧ Row1 wr w.heap.size 3 (dints (d ++ m :: List.replicate (t.length - (i + 1)) 0)) ∧ Chg (fun _ => False) w wr ∧ Ro wr B Ak (ints t[i].kids) ∧ kidsDeep d (t[i].kids.drop j) m = kidsDeep d t[i].kids 0 ∧ t[i].kids.length - j + 1 = g)
          case atStart => exact ⟨0, 0, rfl, by omega, by omega, HX5.out.2.1 _, HX5.out.1 _, HX5.out.2.2 _, rfl, rfl⟩
          case round =>
            obtain ⟨j, m, rfl, hj, hmi, hrow2, hch2, hkr2, hkd, hg2⟩ := hrel
            have HKD := Lib.hid hkd
            have HG2 := Lib.hid hg2
            clear hkd hg2
            have m0 : wr.cell? ⟨w.heap.size, i, none⟩ = some (.int .i64 m) := hrow2.cell i _ (by rw [← hdl]; exact dints_mid d m _)
            have mf := hrow2.fz i
            by_cases hjt : j < t[i].kids.length
            · obtain ⟨b2, o3, hAk, hb2, k0⟩ := hkr2.int j hjt
              have hdr : t[i].kids.drop j = t[i].kids[j] :: t[i].kids.drop (j + 1) := List.drop_eq_getElem_cons hjt
              have hk2 := HKD.out
              rw [hdr, kidsDeep] at hk2
              have hq := HKK.out _ (List.getElem_mem hjt)
              generalize hkk : t[i].kids[j] = k at *
              obtain ⟨q, rfl⟩ : ∃ q : Nat, k = q := ⟨k.toNat, by omega⟩
              have hqi : q < i := by omega
              have q0 : wr.cell? ⟨w.heap.size, q, none⟩ = some (.int .i64 (d.getD q 0 : Nat)) := hrow2.cell q _ (dints_lo d _ q (by omega))
              simp only [Int.toNat_natCast] at hk2
              have hxb : d.getD q 0 ≤ i := by
                rw [List.getD_eq_getElem?_getD]
                cases hh : d[q]? with
                | none => simp
                | some x => simpa using hdb x (List.mem_of_getElem? hh)
              generalize d.getD q 0 = x at *
              have HK2 := Lib.hid hk2
              clear hdr hk2 hkk hq
              subst hAk
              go_wp2_with fail
              have hiI : (i : Int) < (t.length : Int) := by omega
              have hqI : (q : Int) < (t.length : Int) := by omega
              have hr3 := hrow2.set i (.int .i64 ((max m x : Nat) : Int)) (by rw [dints_length]; simp; omega)
              have hset : (dints (d ++ m :: List.replicate (t.length - (i + 1)) 0)).set i (.int .i64 ((max m x : Nat) : Int)) = dints (d ++ (max m x) :: List.replicate (t.length - (i + 1)) 0) := by
                rw [← hdl]; exact dints_set d m (max m x) _
              rw [hset] at hr3
              have e1 : ((max m x : Nat) : Int) = max (m : Int) (x : Int) := by omega
              rw [e1] at hr3
              have hc3 : Chg (fun _ => False) w (wr.setCell ⟨w.heap.size, i, none⟩ (.int .i64 (max (m : Int) (x : Int)))) := hch2.setCell (fun h => by simp only at h; omega) _
              have hk4 : Ro (wr.setCell ⟨w.heap.size, i, none⟩ (.int .i64 (max (m : Int) (x : Int)))) B (some ⟨b2, o3, none⟩) (ints t[i].kids) :=
                hkr2.keep ((Chg.refl (fun q => q = w.heap.size) wr).setCell (p := ⟨w.heap.size, i, none⟩) (fun _ => rfl) _ |>.below (by have := hch2.size; omega) (fun q hq => by omega))
              have HX := Lib.hid (And.intro hr3 (And.intro hc3 hk4))
              clear hset e1 hr3 hc3 hk4
              go_region
              all_goals
                go_wp2_with fail
                go_roundg (t[i].kids.length - (j + 1) + 1)
                case measure => rw [← HG2.out]; omega
                case rel => exact ⟨j + 1, max m x, int_i64 (by omega), by omega, by omega, ⟨HX.out.1.h⟩, HX.out.2.1.drew, HX.out.2.2, HK2.out, rfl⟩
            · have hdr : t[i].kids.drop j = [] := List.drop_eq_nil_of_le (by omega)
              have hk2 := HKD.out
              rw [hdr, kidsDeep] at hk2
              have hgo3 := HGO2.out
              rw [← hk2] at hgo3
              have hr3 := hrow2.set i (.int .i64 ((m + 1 : Nat) : Int)) (by rw [dints_length]; simp; omega)
              have hset : (dints (d ++ m :: List.replicate (t.length - (i + 1)) 0)).set i (.int .i64 ((m + 1 : Nat) : Int)) = dints (d ++ (m + 1) :: List.replicate (t.length - (i + 1)) 0) := by
                rw [← hdl]; exact dints_set d m (m + 1) _
              rw [hset] at hr3
              have e1 : ((m + 1 : Nat) : Int) = (m : Int) + 1 := by omega
              rw [e1] at hr3
              have hc3 : Chg (fun _ => False) w (wr.setCell ⟨w.heap.size, i, none⟩ (.int .i64 ((m : Int) + 1))) := hch2.setCell (fun h => by simp only at h; omega) _
              have HX := Lib.hid (And.intro hr3 (And.intro hc3 hgo3))
              clear hdr hk2 hset e1 hr3 hc3 hgo3
              go_wp2_with fail
              go_roundg (t.length - (i + 1) + 1)
              case measure => rw [← HG.out]; omega
              case rel => exact ⟨i + 1, d ++ [m + 1], int_i64 (by omega), by omega, by simp [hdl], fun x hx => by
                rcases List.mem_append.1 hx with h | h
                · have := hdb x h; omega
                · have : x = m + 1 := by simpa using h
                  omega, by rw [List.append_assoc, List.singleton_append]; exact HX.out.1, HX.out.2.1, HX.out.2.2, rfl⟩
      · rw [if_neg hkind] at hgo2
        have k5 : (t[i].kind != 5) = true := by simp; omega
        have k6 : (t[i].kind != 6) = true := by simp; omega
        have HGO2 := Lib.hid hgo2
        clear hgo2 hkind
        go_wp2_with fail
        go_roundg (t.length - (i + 1) + 1)
        case measure => rw [← HG.out]; omega
        case rel => exact ⟨i + 1, d ++ [0], int_i64 (by omega), by omega, by simp [hdl], fun x hx => by
            rcases List.mem_append.1 hx with h | h
            · have := hdb x h; omega
            · have : x = 0 := by simpa using h
              omega, by rw [List.append_assoc, List.singleton_append]; exact hrow.keep ((Chg.refl (fun _ => False) wr).alloc _) id, hch.alloc _, HGO2.out, rfl⟩
    · obtain rfl : i = t.length := by omega
      have hd : deepJ t = d.getD (t.length - 1) 0 := by
        have := HGO.out
        rw [List.drop_eq_nil_of_le (Nat.le_refl _), deepGo] at this
        unfold deepJ
        rw [← this]
      have m0 : wr.cell? ⟨w.heap.size, t.length - 1, none⟩ = some (.int .i64 (d.getD (t.length - 1) 0 : Nat)) := hrow.cell _ _ (dints_lo d _ _ (by omega))
      have HD := Lib.hid hd
      have e1 : ((t.length : Int) - 1).toNat = t.length - 1 := by omega
      clear hd
      generalize d.getD (t.length - 1) 0 = x at *
      go_wp2_with fail
      go_ret
      exact ⟨by rw [HD.out]; rfl, hch⟩
end Go.Proofs.YtknmbfkpclacgaaDoor
