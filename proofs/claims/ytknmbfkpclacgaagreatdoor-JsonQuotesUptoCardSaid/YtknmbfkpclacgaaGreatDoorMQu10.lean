import Derived.Test.YtknmbfkpclacgaaGreatDoorMQu1
import Derived.Test.YtknmbfkpclacgaaGreatDoorMQu9
import Derived.Deep.OwnRows
/- json.used: the walk. -/
set_option linter.unusedSimpArgs false
namespace Go.Proofs.YtknmbfkpclacgaaGreatDoor
open Go.RowKit

def usedB (kd : Int) (t n x k m e : Bool) : Bool :=
  if kd = 1 then !t && !n && !x && !k && !m
  else if kd = 2 then !n && !x && !k && !m
  else if kd = 3 then !t && !x && !k && !m
  else if kd = 4 then !t && !n && !k && !m
  else if kd = 5 then !t && !n && !x && !m
  else if kd = 6 then !t && !n && !x && e
  else false
set_option maxRecDepth 100000 in
set_option maxHeartbeats 4000000 in
theorem used_any (v : JV) (Ak An : Option Addr) (ck cn : Nat) (w : World) :
    Calls Tryz.prog 181 #[.agg #[.int .i64 v.kind, .bool v.truth, .int .i64 v.n, .string ⟨v.text.toArray⟩, .slice Ak v.kids.length ck, .slice An v.names.length cn]] w fun e w' => e = .returned (.bool (usedJ v)) ∧ Chg (fun _ => False) w w' := by
  go_enter Tryz.func181, Tryz.ntmps181
  go_wp2_with fail
  go_quiet (fail)
  go_wp2_with fail
  go_quiet (fail)
  go_upto_region 4 with fail
  have hu : usedJ v = usedB v.kind v.truth (v.n != 0) (!v.text.isEmpty) (decide (0 < v.kids.length)) (decide (0 < v.names.length)) (v.kids.length == v.names.length) := rfl
  have hch : ∀ o n, Chg (fun _ => False) w ((w.alloc o).drewN n) := fun o n => ((Chg.refl _ w).alloc o).drewN n
  have HU := Lib.hid hu
  have HCH := Lib.hid hch
  clear hu hch
  have hkn : (((v.kids.length : Int)) == (v.names.length : Int)) = (v.kids.length == v.names.length) := by
    by_cases h : v.kids.length = v.names.length
    · rw [h]; simp
    · have h2 : ¬ (v.kids.length : Int) = (v.names.length : Int) := by omega
      rw [beq_false_of_ne h, beq_false_of_ne h2]
  have hcase : v.kind = 1 ∨ v.kind = 2 ∨ v.kind = 3 ∨ v.kind = 4 ∨ v.kind = 5 ∨ v.kind = 6 ∨ (v.kind ≠ 1 ∧ v.kind ≠ 2 ∧ v.kind ≠ 3 ∧ v.kind ≠ 4 ∧ v.kind ≠ 5 ∧ v.kind ≠ 6) := by omega
  rcases hcase with hk | hk | hk | hk | hk | hk | hk
  · have HK := Lib.hid hk
    have g1 : (v.kind == 1) = true := by simp [hk]
    clear hk
    go_wp2_with fail
    all_goals
      go_ret
      refine ⟨?_, HCH.out _ _⟩
      rw [HU.out, HK.out]
      simp_all [usedB]
  · have HK := Lib.hid hk
    have g1 : (v.kind == 1) = false := by simp [hk]
    have g2 : (v.kind == 2) = true := by simp [hk]
    clear hk
    go_wp2_with fail
    all_goals
      go_ret
      refine ⟨?_, HCH.out _ _⟩
      rw [HU.out, HK.out]
      simp_all [usedB]
  · have HK := Lib.hid hk
    have g1 : (v.kind == 1) = false := by simp [hk]
    have g2 : (v.kind == 2) = false := by simp [hk]
    have g3 : (v.kind == 3) = true := by simp [hk]
    clear hk
    go_wp2_with fail
    all_goals
      go_ret
      refine ⟨?_, HCH.out _ _⟩
      rw [HU.out, HK.out]
      simp_all [usedB]
  · have HK := Lib.hid hk
    have g1 : (v.kind == 1) = false := by simp [hk]
    have g2 : (v.kind == 2) = false := by simp [hk]
    have g3 : (v.kind == 3) = false := by simp [hk]
    have g4 : (v.kind == 4) = true := by simp [hk]
    clear hk
    go_wp2_with fail
    all_goals
      go_ret
      refine ⟨?_, HCH.out _ _⟩
      rw [HU.out, HK.out]
      simp_all [usedB]
  · have HK := Lib.hid hk
    have g1 : (v.kind == 1) = false := by simp [hk]
    have g2 : (v.kind == 2) = false := by simp [hk]
    have g3 : (v.kind == 3) = false := by simp [hk]
    have g4 : (v.kind == 4) = false := by simp [hk]
    have g5 : (v.kind == 5) = true := by simp [hk]
    clear hk
    go_wp2_with fail
    all_goals
      go_ret
      refine ⟨?_, HCH.out _ _⟩
      rw [HU.out, HK.out]
      simp_all [usedB]
  · have HK := Lib.hid hk
    have g1 : (v.kind == 1) = false := by simp [hk]
    have g2 : (v.kind == 2) = false := by simp [hk]
    have g3 : (v.kind == 3) = false := by simp [hk]
    have g4 : (v.kind == 4) = false := by simp [hk]
    have g5 : (v.kind == 5) = false := by simp [hk]
    have g6 : (v.kind == 6) = true := by simp [hk]
    clear hk
    go_wp2_with fail
    all_goals
      go_ret
      refine ⟨?_, HCH.out _ _⟩
      rw [HU.out, HK.out]
      simp_all [usedB]
  · have HK := Lib.hid hk
    obtain ⟨k1, k2, k3, k4, k5, k6⟩ := hk
    have g1 : (v.kind == 1) = false := by simp [k1]
    have g2 : (v.kind == 2) = false := by simp [k2]
    have g3 : (v.kind == 3) = false := by simp [k3]
    have g4 : (v.kind == 4) = false := by simp [k4]
    have g5 : (v.kind == 5) = false := by simp [k5]
    have g6 : (v.kind == 6) = false := by simp [k6]
    clear k1 k2 k3 k4 k5 k6
    go_wp2_with fail
    all_goals
      go_ret
      refine ⟨?_, HCH.out _ _⟩
      rw [HU.out]
      obtain ⟨k1, k2, k3, k4, k5, k6⟩ := HK.out
      simp [usedB, k1, k2, k3, k4, k5, k6]
end Go.Proofs.YtknmbfkpclacgaaGreatDoor

/- A tree that is read: what memory holds; a row of bools or numbers that a call makes. -/
set_option linter.unusedSimpArgs false
namespace Go.Proofs.YtknmbfkpclacgaaGreatDoor
open Go.RowKit

/-- A row that is read: it lies below B. -/
def Ro (w : World) (B : Nat) (A : Option Addr) (xs : List Value) : Prop :=
  0 < xs.length → ∃ b o, A = some ⟨b, o, none⟩ ∧ b < B ∧ ∀ j x, xs[j]? = some x → w.cell? ⟨b, o + j, none⟩ = some x
theorem Ro.keep {w w' : World} {B : Nat} {A : Option Addr} {xs : List Value} (h : Ro w B A xs) (hb : Below B w w') : Ro w' B A xs := fun hp => by
  obtain ⟨b, o, hA, hlt, hc⟩ := h hp
  exact ⟨b, o, hA, hlt, fun j x hj => by rw [← hc j x hj]; exact hb.cell (p := ⟨b, o + j, none⟩) hlt⟩
theorem Ro.mono {w : World} {B B' : Nat} {A : Option Addr} {xs : List Value} (h : Ro w B A xs) (hB : B ≤ B') : Ro w B' A xs := fun hp => by
  obtain ⟨b, o, hA, hlt, hc⟩ := h hp
  exact ⟨b, o, hA, by omega, hc⟩
/-- A value of a tree, as it is read. -/
structure VRd (w : World) (B : Nat) (x : VC) (v : JV) : Prop where
  kind : x.kind = v.kind
  truth : x.truth = v.truth
  n : x.n = v.n
  text : x.text = ⟨v.text.toArray⟩
  kids : ∃ A c, x.kids = .slice A v.kids.length c ∧ Ro w B A (ints v.kids)
  names : ∃ A c, x.names = .slice A v.names.length c ∧ Ro w B A (strs v.names)
  kl : v.kids.length ≤ 140737488355328
  nl : v.names.length ≤ 140737488355328
theorem VRd.keep {w w' : World} {B : Nat} {x : VC} {v : JV} (h : VRd w B x v) (hb : Below B w w') : VRd w' B x v := by
  obtain ⟨A, c, h1, h2⟩ := h.kids
  obtain ⟨A', c', h3, h4⟩ := h.names
  exact ⟨h.kind, h.truth, h.n, h.text, ⟨A, c, h1, h2.keep hb⟩, ⟨A', c', h3, h4.keep hb⟩, h.kl, h.nl⟩
/-- A tree, as it is read. -/
structure TRd (w : World) (B : Nat) (A : Option Addr) (xs : List VC) (t : List JV) : Prop where
  row : Ro w B A (flat xs)
  len : xs.length = t.length
  tl : t.length ≤ 1000000000000
  vals : ∀ i (h : i < t.length), VRd w B (xs[i]'(by omega)) t[i]
theorem TRd.keep {w w' : World} {B : Nat} {A : Option Addr} {xs : List VC} {t : List JV} (h : TRd w B A xs t) (hb : Below B w w') : TRd w' B A xs t :=
  ⟨h.row.keep hb, h.len, h.tl, fun i hi => (h.vals i hi).keep hb⟩
theorem flat_length (xs : List VC) : (flat xs).length = 6 * xs.length := by
  induction xs with
  | nil => rfl
  | cons x xs ih => simp only [flat, List.flatMap_cons, List.length_append, List.length_cons] at ih ⊢; rw [ih]; simp [VC.cells]; omega
theorem flat_get (xs : List VC) (i k : Nat) (hi : i < xs.length) (hk : k < 6) : (flat xs)[6 * i + k]? = (xs[i]).cells[k]? := by
  induction xs generalizing i with
  | nil => simp at hi
  | cons x xs ih =>
    have hx : x.cells.length = 6 := by simp [VC.cells]
    cases i with
    | zero =>
      simp only [flat, List.flatMap_cons]
      rw [List.getElem?_append_left (by rw [hx]; omega)]
      simp
    | succ i =>
      simp only [flat, List.flatMap_cons]
      rw [List.getElem?_append_right (by rw [hx]; omega), hx, show 6 * (i + 1) + k - 6 = 6 * i + k from by omega]
      have := ih i (by simpa using hi)
      simpa [flat] using this
/-- The six cells of value i. -/
theorem TRd.at {w : World} {B : Nat} {A : Option Addr} {xs : List VC} {t : List JV} (h : TRd w B A xs t) (i : Nat) (hi : i < t.length) :
    ∃ b o Ak ck An cn, A = some ⟨b, o, none⟩ ∧ b < B ∧ w.cell? ⟨b, o + i * 6, none⟩ = some (.int .i64 t[i].kind) ∧ w.cell? ⟨b, o + i * 6 + 1, none⟩ = some (.bool t[i].truth) ∧ w.cell? ⟨b, o + i * 6 + 2, none⟩ = some (.int .i64 t[i].n) ∧
      w.cell? ⟨b, o + i * 6 + 3, none⟩ = some (.string ⟨t[i].text.toArray⟩) ∧ w.cell? ⟨b, o + i * 6 + 4, none⟩ = some (.slice Ak t[i].kids.length ck) ∧ w.cell? ⟨b, o + i * 6 + 5, none⟩ = some (.slice An t[i].names.length cn) ∧
      Ro w B Ak (ints t[i].kids) ∧ Ro w B An (strs t[i].names) ∧ t[i].kids.length ≤ 140737488355328 ∧ t[i].names.length ≤ 140737488355328 := by
  have hix : i < xs.length := by rw [h.len]; exact hi
  obtain ⟨b, o, hA, hb, hc⟩ := h.row (by rw [flat_length]; omega)
  have hv := h.vals i hi
  obtain ⟨Ak, ck, hk, hkr⟩ := hv.kids
  obtain ⟨An, cn, hn, hnr⟩ := hv.names
  have hg : ∀ k, k < 6 → ∀ x, (xs[i]).cells[k]? = some x → w.cell? ⟨b, o + i * 6 + k, none⟩ = some x := fun k hk' x hx => by
    have := hc (6 * i + k) x (by rw [flat_get xs i k hix hk']; exact hx)
    rwa [← Nat.add_assoc, Nat.mul_comm 6 i] at this
  refine ⟨b, o, Ak, ck, An, cn, hA, hb, hg 0 (by omega) _ ?_, hg 1 (by omega) _ ?_, hg 2 (by omega) _ ?_, hg 3 (by omega) _ ?_, hg 4 (by omega) _ ?_, hg 5 (by omega) _ ?_, hkr, hnr, hv.kl, hv.nl⟩
  · simp [VC.cells, hv.kind]
  · simp [VC.cells, hv.truth]
  · simp [VC.cells, hv.n]
  · simp [VC.cells, hv.text]
  · simp [VC.cells, hk]
  · simp [VC.cells, hn]
theorem Ro.int {w : World} {B : Nat} {A : Option Addr} {ks : List Int} (h : Ro w B A (ints ks)) (j : Nat) (hj : j < ks.length) : ∃ b o, A = some ⟨b, o, none⟩ ∧ b < B ∧ w.cell? ⟨b, o + j, none⟩ = some (.int .i64 ks[j]) := by
  obtain ⟨b, o, hA, hb, hc⟩ := h (by rw [ints_length]; omega)
  exact ⟨b, o, hA, hb, hc j _ (by simp [ints, hj])⟩
theorem Ro.str {w : World} {B : Nat} {A : Option Addr} {ns : List (List UInt8)} (h : Ro w B A (strs ns)) (j : Nat) (hj : j < ns.length) : ∃ b o, A = some ⟨b, o, none⟩ ∧ b < B ∧ w.cell? ⟨b, o + j, none⟩ = some (.string ⟨ns[j].toArray⟩) := by
  obtain ⟨b, o, hA, hb, hc⟩ := h (by rw [strs_length]; omega)
  exact ⟨b, o, hA, hb, hc j _ (by simp [strs, hj])⟩

/-- A row of one cell each that the call made. -/
structure Row1 (w : World) (mb : Nat) (e : TypeId) (xs : List Value) : Prop where
  h : w.heap[mb]? = some (.cells xs.toArray e (0, 0))
theorem Row1.cell {w : World} {mb : Nat} {e : TypeId} {xs : List Value} (h : Row1 w mb e xs) (j : Nat) (x : Value) (hj : xs[j]? = some x) : w.cell? ⟨mb, j, none⟩ = some x := by
  rw [cell_of_row w mb j _ _ _ h.h]
  simpa using hj
theorem Row1.fz {w : World} {mb : Nat} {e : TypeId} {xs : List Value} (h : Row1 w mb e xs) (j : Nat) : w.frozen? ⟨mb, j, none⟩ = false := by simp [World.frozen?, h.h]
theorem Row1.lt {w : World} {mb : Nat} {e : TypeId} {xs : List Value} (h : Row1 w mb e xs) : mb < w.heap.size := lt_of_block h.h
theorem Row1.keep {w w' : World} {mb : Nat} {e : TypeId} {xs : List Value} {S : Nat → Prop} (h : Row1 w mb e xs) (hc : Chg S w w') (hs : ¬ S mb) : Row1 w' mb e xs := ⟨hc.obj h.h hs⟩
theorem Row1.set {w : World} {mb : Nat} {e : TypeId} {xs : List Value} (h : Row1 w mb e xs) (j : Nat) (x : Value) (_hj : j < xs.length) : Row1 (w.setCell ⟨mb, j, none⟩ x) mb e (xs.set j x) := ⟨by
  rw [heap_setCell_same h.h]
  simp⟩
theorem madeCells_one (z : Value) (n : Nat) : madeCells #[z] n = (List.replicate n z).toArray := by
  apply Array.ext
  · simp [size_madeCells]
  · intro i h1 h2
    simp [madeCells, Nat.mod_one]
theorem Row1.made (w : World) (e : TypeId) (z : Value) (n : Nat) : Row1 (w.alloc (.cells (madeCells #[z] n) e)) w.heap.size e (List.replicate n z) := ⟨by
  rw [heap_alloc_new, madeCells_one]⟩
end Go.Proofs.YtknmbfkpclacgaaGreatDoor

/- json.shaped: the walk. -/
set_option linter.unusedSimpArgs false
namespace Go.Proofs.YtknmbfkpclacgaaGreatDoor
open Go.RowKit

theorem Tryz.infoBool : (Tryz.prog.info? 4).map (fun i => (i.zero, i.size, i.bytes)) = some (some (.bool false), 1, 1) := by kernel_rfl
def bools (o : List Bool) : List Value := o.map Value.bool
theorem bools_length (o : List Bool) : (bools o).length = o.length := by simp [bools]
theorem bools_rep (n : Nat) : List.replicate n (Value.bool false) = bools (List.replicate n false) := by simp [bools]
theorem bools_set (o : List Bool) (j : Nat) (b : Bool) : (bools o).set j (.bool b) = bools (o.set j b) := by simp [bools]

set_option maxRecDepth 100000 in
set_option maxHeartbeats 4000000 in
theorem shaped_any (t : List JV) (A : Option Addr) (cap B : Nat) (xs : List VC) (w : World) (hT : TRd w B A xs t) (hB : B ≤ w.heap.size) :
    Calls Tryz.prog 120 #[.slice A t.length cap] w fun e w' => e = .returned (.bool (shapedJ t)) ∧ Chg (fun _ => False) w w' := by
  have htl := hT.tl
  have hmk := run_make_row' (P := Tryz.prog) 231 4 (.bool false) 1 Tryz.underlying231 Tryz.infoBool rfl .i64 .i64 t.length (by omega) (by omega)
  have HT := Lib.hid hT
  clear hT
  obtain ⟨R, hR⟩ : ∃ R, R = shapedGo 0 t (List.replicate t.length false) := ⟨_, rfl⟩
  have HR := Lib.hid hR
  clear hR
  go_enter Tryz.func120, Tryz.ntmps120
  go_wp2_with fail
  generalize hW : w.alloc (.cells (madeCells #[Value.bool false] t.length) 4) = W
  have hrow : Row1 W w.heap.size 4 (bools (List.replicate t.length false)) := by rw [← hW, ← bools_rep]; exact Row1.made _ _ _ _
  have hch : Chg (fun _ => False) w W := by rw [← hW]; exact (Chg.refl _ _).alloc _
  clear hW
  go_loopg [14] (t.length + 1) (fun g s14 wr => ∃ (i : Nat) (o : List Bool), s14 = .int .i64 i ∧ i ≤ t.length ∧ o.length = t.length ∧ Row1 wr w.heap.size 4 (bools o) ∧ Chg (fun _ => False) w wr ∧ shapedGo i (t.drop i) o = R ∧ t.length - i + 1 = g)
  case atStart => exact ⟨0, _, rfl, by omega, by simp, hrow, hch, HR.out.symm, rfl⟩
  case round =>
    obtain ⟨i, o, rfl, hi, ho, hrow, hch, hgo, hg⟩ := hrel
    have HGO := Lib.hid hgo
    have HG := Lib.hid hg
    clear hgo hg
    by_cases hit : i < t.length
    · obtain ⟨b, oo, Ak, ck, An, cn, hA, hbB, c0, c1, c2, c3, c4, c5, hkr, hnr, hkl, hnl⟩ := (HT.out.keep (hch.below hB (fun _ h => h.elim))).at i hit
      subst hA
      go_wp2_with fail
      generalize hW5 : wr.alloc (.cells #[.int .i64 t[i].kind, .bool t[i].truth, .int .i64 t[i].n, .string ⟨t[i].text.toArray⟩, .slice Ak t[i].kids.length ck, .slice An t[i].names.length cn] 47) = W5
      have hc5 : Chg (fun _ => False) wr W5 := by rw [← hW5]; exact (Chg.refl _ _).alloc _
      have hb5 : W5.heap[wr.heap.size]? = some (.cells #[.int .i64 t[i].kind, .bool t[i].truth, .int .i64 t[i].n, .string ⟨t[i].text.toArray⟩, .slice Ak t[i].kids.length ck, .slice An t[i].names.length cn] 47) := by rw [← hW5]; exact heap_alloc_new wr _
      clear hW5 c0 c1 c2 c3 c4 c5
      refine (used_any t[i] Ak An ck cn W5).mono ?_
      rintro e w6 ⟨rfl, hc6⟩
      have hb6 := hc6.obj hb5 id
      have c4 : w6.cell? ⟨wr.heap.size, 4, none⟩ = some (.slice Ak t[i].kids.length ck) := by simp [World.cell?, hb6]
      have hch6 : Chg (fun _ => False) w w6 := (hch.trans hc5).trans hc6
      have hrow6 := hrow.keep (hc5.trans hc6) id
      have hdrop : t.drop i = t[i] :: t.drop (i + 1) := List.drop_eq_getElem_cons hit
      have hgo2 := HGO.out
      rw [hdrop] at hgo2
      simp only [shapedGo] at hgo2
      have hkr6 : Ro w6 B Ak (ints t[i].kids) := hkr.keep (((hc5.trans hc6).below (B := B) (by have := hch.size; omega) (fun _ h => h.elim)))
      clear hdrop hb5 hb6 hc5 hc6 hrow hch hkr hnr HGO
      cases hu : usedJ t[i] with
      | false =>
        rw [hu] at hgo2
        have hsh : shapedJ t = false := by
          unfold shapedJ
          rw [← HR.out, ← hgo2]
          rfl
        have HSH := Lib.hid hsh
        clear hu hgo2 hsh
        go_wp2_with fail
        go_ret
        exact ⟨by rw [HSH.out]; rfl, hch6⟩
      | true =>
        rw [hu] at hgo2
        simp only [if_true] at hgo2
        have HGO2 := Lib.hid hgo2
        clear hu hgo2
        go_wp2_with fail
        go_loopg [25] (t[i].kids.length + 1) (fun g s25 wr => ∃ (j : Nat) (o2 : List Bool), s25 = .int .i64 j ∧ j ≤ t[i].kids.length ∧ o2.length = t.length ∧ Row1 wr w.heap.size 4 (bools o2) ∧ Chg (fun _ => False) w wr ∧ Ro wr B Ak (ints t[i].kids) ∧ kidsGo i (t[i].kids.drop j) o2 = kidsGo i t[i].kids o ∧ t[i].kids.length - j + 1 = g)
        case atStart => exact ⟨0, o, rfl, by omega, ho, hrow6, hch6, hkr6, rfl, rfl⟩
        case round =>
          obtain ⟨j, o2, rfl, hj, ho2, hrow2, hch2, hkr2, hkg, hg2⟩ := hrel
          have HKG := Lib.hid hkg
          have HG2 := Lib.hid hg2
          clear hkg hg2
          by_cases hjt : j < t[i].kids.length
          · obtain ⟨b2, o3, hAk, hb2, k0⟩ := hkr2.int j hjt
            have hdr : t[i].kids.drop j = t[i].kids[j] :: t[i].kids.drop (j + 1) := List.drop_eq_getElem_cons hjt
            have hk2 := HKG.out
            rw [hdr, kidsGo] at hk2
            generalize hkk : t[i].kids[j] = k at *
            have hfalse : kidsGo i t[i].kids o = none → shapedJ t = false := fun h => by
              have h2 := HGO2.out
              rw [h] at h2
              simp only at h2
              unfold shapedJ
              rw [← HR.out, ← h2]
            have HK2 := Lib.hid hk2
            have HF := Lib.hid hfalse
            clear hdr hk2 hfalse hkk
            subst hAk
            by_cases h0 : k < 0
            · have hsh := HF.out (by rw [← HK2.out, if_pos (.inl h0)])
              have HSH := Lib.hid hsh
              clear hsh
              go_wp2_with fail
              go_ret
              exact ⟨by rw [HSH.out]; rfl, hch2⟩
            by_cases h1 : (i : Int) ≤ k
            · have hsh := HF.out (by rw [← HK2.out, if_pos (.inr (.inl h1))])
              have HSH := Lib.hid hsh
              clear hsh
              go_wp2_with fail
              go_ret
              exact ⟨by rw [HSH.out]; rfl, hch2⟩
            obtain ⟨m, rfl⟩ : ∃ m : Nat, k = m := ⟨k.toNat, by omega⟩
            have hm : m < o2.length := by omega
            have m0 : wr.cell? ⟨w.heap.size, m, none⟩ = some (.bool o2[m]) := hrow2.cell m _ (by simp [bools, hm])
            have mf := hrow2.fz m
            have hgd : o2.getD m false = o2[m] := by simp [List.getD_eq_getElem?_getD, hm]
            cases hom : o2[m] with
            | true =>
              have hsh := HF.out (by rw [← HK2.out, if_pos (.inr (.inr (by simp only [Int.toNat_natCast]; rw [hgd, hom])))])
              have HSH := Lib.hid hsh
              rw [hom] at m0
              clear hsh hgd hom
              go_wp2_with fail
              go_ret
              exact ⟨by rw [HSH.out]; rfl, hch2⟩
            | false =>
              have hk3 := HK2.out
              rw [if_neg (by simp only [Int.toNat_natCast]; rw [hgd, hom]; simp; omega)] at hk3
              simp only [Int.toNat_natCast] at hk3
              rw [hom] at m0
              have hr3 := hrow2.set m (.bool true) (by rw [bools_length]; exact hm)
              rw [bools_set] at hr3
              have hc3 : Chg (fun _ => False) w (wr.setCell ⟨w.heap.size, m, none⟩ (.bool true)) := hch2.setCell (fun h => by simp only at h; omega) _
              have hk4 : Ro (wr.setCell ⟨w.heap.size, m, none⟩ (.bool true)) B (some ⟨b2, o3, none⟩) (ints t[i].kids) :=
                hkr2.keep ((Chg.refl (fun q => q = w.heap.size) wr).setCell (p := ⟨w.heap.size, m, none⟩) (fun _ => rfl) _ |>.below (by have := hch2.size; omega) (fun q hq => by omega))
              have HX := Lib.hid (And.intro hr3 (And.intro hc3 (And.intro hk4 hk3)))
              clear hr3 hc3 hk4 hk3 hgd hom
              go_wp2_with fail
              go_roundg (t[i].kids.length - (j + 1) + 1)
              case measure => rw [← HG2.out]; omega
              case rel => exact ⟨j + 1, o2.set m true, int_i64 (by omega), by omega, by rw [List.length_set]; exact ho2, HX.out.1, HX.out.2.1, HX.out.2.2.1, HX.out.2.2.2, rfl⟩
          · have hdr : t[i].kids.drop j = [] := List.drop_eq_nil_of_le (by omega)
            have hk2 := HKG.out
            rw [hdr, kidsGo] at hk2
            have hgo3 := HGO2.out
            rw [← hk2] at hgo3
            simp only at hgo3
            have HGO3 := Lib.hid hgo3
            clear hdr hk2 hgo3
            go_wp2_with fail
            go_roundg (t.length - (i + 1) + 1)
            case measure => rw [← HG.out]; omega
            case rel => exact ⟨i + 1, o2, int_i64 (by omega), by omega, ho2, hrow2, hch2, HGO3.out, rfl⟩
    · have hdr : t.drop i = [] := List.drop_eq_nil_of_le (by omega)
      have hR2 := HGO.out
      rw [hdr, shapedGo] at hR2
      have hsh : shapedJ t = (ownedOk t.length 0 o && decide (0 < t.length)) := by
        unfold shapedJ
        rw [← HR.out, ← hR2]
      have HSH := Lib.hid hsh
      clear hdr hR2 hsh
      go_wp2_with fail
      go_loopg [49] (t.length + 1) (fun g s49 wr => ∃ j : Nat, s49 = .int .i64 j ∧ j ≤ t.length ∧ Row1 wr w.heap.size 4 (bools o) ∧ Chg (fun _ => False) w wr ∧ ownedOk t.length j (o.drop j) = ownedOk t.length 0 o ∧ t.length - j + 1 = g)
      case atStart => exact ⟨0, rfl, by omega, hrow, hch, rfl, rfl⟩
      case round =>
        obtain ⟨j, rfl, hj, hrow2, hch2, hok, hg2⟩ := hrel
        have HOK := Lib.hid hok
        have HG2 := Lib.hid hg2
        clear hok hg2
        by_cases hjt : j < t.length
        · have hjo : j < o.length := by omega
          have m0 : wr.cell? ⟨w.heap.size, j, none⟩ = some (.bool o[j]) := hrow2.cell j _ (by simp [bools, hjo])
          have hdr : o.drop j = o[j] :: o.drop (j + 1) := List.drop_eq_getElem_cons hjo
          have hk2 := HOK.out
          rw [hdr, ownedOk] at hk2
          have hjn : (j + 1 = t.length ∧ (((j : Int)) == (t.length : Int) - 1) = true) ∨ (j + 1 ≠ t.length ∧ (((j : Int)) == (t.length : Int) - 1) = false) := by
            by_cases h : j + 1 = t.length
            · exact .inl ⟨h, by rw [beq_iff_eq]; omega⟩
            · exact .inr ⟨h, by rw [beq_eq_false_iff_ne]; omega⟩
          have hend : (o[j] = (j + 1 == t.length) → shapedJ t = false) := fun h => by
            rw [if_pos h] at hk2
            rw [HSH.out, ← hk2, Bool.false_and]
          have hnx : (¬ o[j] = (j + 1 == t.length) → ownedOk t.length (j + 1) (o.drop (j + 1)) = ownedOk t.length 0 o) := fun h => by
            rw [if_neg h] at hk2
            exact hk2
          have HEND := Lib.hid hend
          have HNX := Lib.hid hnx
          clear hdr hk2 hend hnx
          cases hoj : o[j] <;> rcases hjn with ⟨hjn, tj⟩ | ⟨hjn, tj⟩
          · have hx := HNX.out (by rw [hoj, hjn]; simp)
            have HX := Lib.hid hx
            rw [hoj] at m0
            clear hx hoj
            go_wp2_with fail
            go_roundg (t.length - (j + 1) + 1)
            case measure => rw [← HG2.out]; omega
            case rel => exact ⟨j + 1, int_i64 (by omega), by omega, hrow2, hch2, HX.out, rfl⟩
          · have hx := HEND.out (by rw [hoj]; simp [hjn])
            have HX := Lib.hid hx
            rw [hoj] at m0
            clear hx hoj
            go_wp2_with fail
            go_ret
            exact ⟨by rw [HX.out]; rfl, hch2⟩
          · have hx := HEND.out (by rw [hoj, hjn]; simp)
            have HX := Lib.hid hx
            rw [hoj] at m0
            clear hx hoj
            go_wp2_with fail
            go_ret
            exact ⟨by rw [HX.out]; rfl, hch2⟩
          · have hx := HNX.out (by rw [hoj]; simp [hjn])
            have HX := Lib.hid hx
            rw [hoj] at m0
            clear hx hoj
            go_wp2_with fail
            go_roundg (t.length - (j + 1) + 1)
            case measure => rw [← HG2.out]; omega
            case rel => exact ⟨j + 1, int_i64 (by omega), by omega, hrow2, hch2, HX.out, rfl⟩
        · have hdr : o.drop j = [] := List.drop_eq_nil_of_le (by omega)
          have hk2 := HOK.out
          rw [hdr, ownedOk] at hk2
          have hsh : shapedJ t = decide (0 < t.length) := by rw [HSH.out, ← hk2, Bool.true_and]
          have HSH2 := Lib.hid hsh
          clear hdr hk2 hsh
          go_wp2_with fail
          go_ret
          exact ⟨by rw [HSH2.out]; rfl, hch2⟩
end Go.Proofs.YtknmbfkpclacgaaGreatDoor

/- json.deep: the walk. -/
set_option linter.unusedSimpArgs false
namespace Go.Proofs.YtknmbfkpclacgaaGreatDoor
open Go.RowKit

/-! ### What a shaped tree's kids are -/
theorem kidsGo_some {i : Nat} : ∀ {ks : List Int} {o o' : List Bool}, kidsGo i ks o = some o' → ∀ k ∈ ks, 0 ≤ k ∧ k < (i : Int)
  | [], _, _, _, _, h => by cases h
  | k :: ks, o, o', h, q, hq => by
    rw [kidsGo] at h
    split at h
    · cases h
    · rename_i hn
      rcases List.mem_cons.1 hq with rfl | hq
      · omega
      · exact kidsGo_some h q hq
theorem shapedGo_some : ∀ {vs : List JV} {i : Nat} {o o' : List Bool}, shapedGo i vs o = some o' → ∀ j (h : j < vs.length), usedJ vs[j] = true ∧ ∀ k ∈ vs[j].kids, 0 ≤ k ∧ k < ((i + j : Nat) : Int)
  | [], _, _, _, _, j, h => by simp at h
  | v :: vs, i, o, o', h, j, hj => by
    rw [shapedGo] at h
    split at h
    · rename_i hu
      split at h
      · cases h
      · rename_i o2 hk
        cases j with
        | zero => exact ⟨hu, fun k hk' => by simpa using kidsGo_some hk k hk'⟩
        | succ j =>
          have := shapedGo_some h j (by simpa using hj)
          simp only [List.getElem_cons_succ]
          rw [show i + (j + 1) = i + 1 + j from by omega]
          exact this
    · cases h
theorem shapedJ_kids {t : List JV} (h : shapedJ t = true) : 0 < t.length ∧ ∀ j (hj : j < t.length), usedJ t[j] = true ∧ ∀ k ∈ t[j].kids, 0 ≤ k ∧ k < (j : Int) := by
  unfold shapedJ at h
  split at h
  · cases h
  · rename_i o ho
    rw [Bool.and_eq_true, decide_eq_true_eq] at h
    exact ⟨h.2, fun j hj => by simpa using shapedGo_some ho j hj⟩

def dints (d : List Nat) : List Value := d.map fun n : Nat => Value.int .i64 n
theorem dints_length (d : List Nat) : (dints d).length = d.length := by simp [dints]
theorem dints_rep (n : Nat) : List.replicate n (Value.int .i64 0) = dints (List.replicate n 0) := by simp [dints]
theorem dints_set (d : List Nat) (m x : Nat) (z : List Nat) : (dints (d ++ m :: z)).set d.length (.int .i64 x) = dints (d ++ x :: z) := by
  simp [dints]
theorem dints_mid (d : List Nat) (m : Nat) (z : List Nat) : (dints (d ++ m :: z))[d.length]? = some (.int .i64 m) := by simp [dints]
theorem dints_lo (d : List Nat) (z : List Nat) (k : Nat) (hk : k < d.length) : (dints (d ++ z))[k]? = some (.int .i64 (d.getD k 0 : Nat)) := by
  simp [dints, List.getElem?_append_left, hk, List.getD_eq_getElem?_getD]
theorem kidsDeep_le (d : List Nat) (b : Nat) (hd : ∀ x ∈ d, x ≤ b) : ∀ (ks : List Int) (m : Nat), m ≤ b → kidsDeep d ks m ≤ b
  | [], m, h => h
  | k :: ks, m, h => by
    rw [kidsDeep]
    refine kidsDeep_le d b hd ks _ ?_
    have : d.getD k.toNat 0 ≤ b := by
      rw [List.getD_eq_getElem?_getD]
      cases hh : d[k.toNat]? with
      | none => simp
      | some x => simpa using hd x (List.mem_of_getElem? hh)
    omega
theorem deepGo_append : ∀ (vs : List JV) (d : List Nat), ∃ e, deepGo vs d = d ++ e ∧ e.length = vs.length
  | [], d => ⟨[], by simp [deepGo], rfl⟩
  | v :: vs, d => by
    obtain ⟨e, h1, h2⟩ := deepGo_append vs (d ++ [if v.kind = 5 ∨ v.kind = 6 then kidsDeep d v.kids 0 + 1 else 0])
    exact ⟨_ :: e, by rw [deepGo, h1, List.append_assoc, List.singleton_append], by simp [h2]⟩

set_option maxRecDepth 100000 in
set_option maxHeartbeats 4000000 in
theorem deep_any (t : List JV) (A : Option Addr) (cap B : Nat) (xs : List VC) (w : World) (hT : TRd w B A xs t) (hB : B ≤ w.heap.size) (hsh : shapedJ t = true) :
    Calls Tryz.prog 121 #[.slice A t.length cap] w fun e w' => e = .returned (.int .i64 (deepJ t : Nat)) ∧ Chg (fun _ => False) w w' := by
  have htl := hT.tl
  have hmk := run_make_row' (P := Tryz.prog) 44 3 (.int .i64 0) 8 Tryz.underlying44 Tryz.infoInt rfl .i64 .i64 t.length (by omega) (by omega)
  obtain ⟨hpos, hkids⟩ := shapedJ_kids hsh
  have HT := Lib.hid hT
  have HK := Lib.hid hkids
  clear hT hsh hkids
  go_enter Tryz.func121, Tryz.ntmps121
  go_wp2_with fail
  generalize hW : w.alloc (.cells (madeCells #[Value.int .i64 0] t.length) 3) = W
  have hrow : Row1 W w.heap.size 3 (dints ([] ++ List.replicate t.length 0)) := by rw [← hW, List.nil_append, ← dints_rep]; exact Row1.made _ _ _ _
  have hch : Chg (fun _ => False) w W := by rw [← hW]; exact (Chg.refl _ _).alloc _
  clear hW
  go_loopg [13] (t.length + 1) (fun g s13 wr => ∃ (i : Nat) (d : List Nat), s13 = .int .i64 i ∧ i ≤ t.length ∧ d.length = i ∧ (∀ x ∈ d, x ≤ i) ∧ Row1 wr w.heap.size 3 (dints (d ++ List.replicate (t.length - i) 0)) ∧ Chg (fun _ => False) w wr ∧ deepGo (t.drop i) d = deepGo t [] ∧ t.length - i + 1 = g)
  case atStart => exact ⟨0, [], rfl, by omega, rfl, by simp, hrow, hch, rfl, rfl⟩
  case round =>
    obtain ⟨i, d, rfl, hi, hdl, hdb, hrow, hch, hgo, hg⟩ := hrel
    have HGO := Lib.hid hgo
    have HG := Lib.hid hg
    clear hgo hg
    by_cases hit : i < t.length
    · obtain ⟨b, oo, Ak, ck, An, cn, hA, hbB, c0, c1, c2, c3, c4, c5, hkr, hnr, hkl, hnl⟩ := (HT.out.keep (hch.below hB (fun _ h => h.elim))).at i hit
      subst hA
      have hdrop : t.drop i = t[i] :: t.drop (i + 1) := List.drop_eq_getElem_cons hit
      have hgo2 := HGO.out
      rw [hdrop, deepGo] at hgo2
      have hrep : List.replicate (t.length - i) 0 = 0 :: List.replicate (t.length - (i + 1)) 0 := by rw [show t.length - i = (t.length - (i + 1)) + 1 from by omega]; rfl
      rw [hrep] at hrow
      clear hrep hdrop
      by_cases hkind : t[i].kind = 5 ∨ t[i].kind = 6
      · rw [if_pos hkind] at hgo2
        have hkk := HK.out i hit
        have hch5 : ∀ o, Chg (fun _ => False) w (wr.alloc o) := fun o => hch.alloc o
        have hrow5 : ∀ o, Row1 (wr.alloc o) w.heap.size 3 (dints (d ++ 0 :: List.replicate (t.length - (i + 1)) 0)) := fun o => hrow.keep ((Chg.refl (fun _ => False) wr).alloc o) id
        have hkr5 : ∀ o, Ro (wr.alloc o) B Ak (ints t[i].kids) := fun o => hkr.keep (((Chg.refl (fun _ => False) wr).alloc o).below (by have := hch.size; omega) (fun _ h => h.elim))
        have HGO2 := Lib.hid hgo2
        have HKK := Lib.hid hkk.2
        have HX5 := Lib.hid (And.intro hch5 (And.intro hrow5 hkr5))
        clear hgo2 hkk hch5 hrow5 hkr5 hrow hch hkr hnr HGO
        have htests : (t[i].kind != 5) = false ∨ ((t[i].kind != 5) = true ∧ (t[i].kind != 6) = false) := by
          by_cases h5 : t[i].kind = 5
          · exact .inl (by simp [h5])
          · exact .inr ⟨by simp [h5], by simp; omega⟩
        clear hkind
        have hzero : ∃ m, m = 0 ∧ m ≤ i := ⟨0, rfl, by omega⟩
        rcases htests with k5 | ⟨k5, k6⟩
        all_goals
          go_wp2_with fail
          go_loopg [29] (t[i].kids.length + 1) (fun g s29 wr => ∃ j m : Nat, s29 = .int .i64 j ∧ j ≤ t[i].kids.length ∧ m ≤ i ∧ Row1 wr w.heap.size 3 (dints (d ++ m :: List.replicate (t.length - (i + 1)) 0)) ∧ Chg (fun _ => False) w wr ∧ Ro wr B Ak (ints t[i].kids) ∧ kidsDeep d (t[i].kids.drop j) m = kidsDeep d t[i].kids 0 ∧ t[i].kids.length - j + 1 = g)
          case atStart => exact ⟨0, 0, rfl, by omega, by omega, HX5.out.2.1 _, HX5.out.1 _, HX5.out.2.2 _, rfl, rfl⟩
          case round =>
            obtain ⟨j, m, rfl, hj, hmi, hrow2, hch2, hkr2, hkd, hg2⟩ := hrel
            have HKD := Lib.hid hkd
            have HG2 := Lib.hid hg2
            clear hkd hg2
            have m0 : wr.cell? ⟨w.heap.size, i, none⟩ = some (.int .i64 m) := hrow2.cell i _ (by rw [← hdl]; exact dints_mid d m _)
            have mf := hrow2.fz i
            by_cases hjt : j < t[i].kids.length
            · obtain ⟨b2, o3, hAk, hb2, k0⟩ := hkr2.int j hjt
              have hdr : t[i].kids.drop j = t[i].kids[j] :: t[i].kids.drop (j + 1) := List.drop_eq_getElem_cons hjt
              have hk2 := HKD.out
              rw [hdr, kidsDeep] at hk2
              have hq := HKK.out _ (List.getElem_mem hjt)
              generalize hkk : t[i].kids[j] = k at *
              obtain ⟨q, rfl⟩ : ∃ q : Nat, k = q := ⟨k.toNat, by omega⟩
              have hqi : q < i := by omega
              have q0 : wr.cell? ⟨w.heap.size, q, none⟩ = some (.int .i64 (d.getD q 0 : Nat)) := hrow2.cell q _ (dints_lo d _ q (by omega))
              simp only [Int.toNat_natCast] at hk2
              have hxb : d.getD q 0 ≤ i := by
                rw [List.getD_eq_getElem?_getD]
                cases hh : d[q]? with
                | none => simp
                | some x => simpa using hdb x (List.mem_of_getElem? hh)
              generalize d.getD q 0 = x at *
              have HK2 := Lib.hid hk2
              clear hdr hk2 hkk hq
              subst hAk
              go_wp2_with fail
              have hiI : (i : Int) < (t.length : Int) := by omega
              have hqI : (q : Int) < (t.length : Int) := by omega
              have hr3 := hrow2.set i (.int .i64 ((max m x : Nat) : Int)) (by rw [dints_length]; simp; omega)
              have hset : (dints (d ++ m :: List.replicate (t.length - (i + 1)) 0)).set i (.int .i64 ((max m x : Nat) : Int)) = dints (d ++ (max m x) :: List.replicate (t.length - (i + 1)) 0) := by
                rw [← hdl]; exact dints_set d m (max m x) _
              rw [hset] at hr3
              have e1 : ((max m x : Nat) : Int) = max (m : Int) (x : Int) := by omega
              rw [e1] at hr3
              have hc3 : Chg (fun _ => False) w (wr.setCell ⟨w.heap.size, i, none⟩ (.int .i64 (max (m : Int) (x : Int)))) := hch2.setCell (fun h => by simp only at h; omega) _
              have hk4 : Ro (wr.setCell ⟨w.heap.size, i, none⟩ (.int .i64 (max (m : Int) (x : Int)))) B (some ⟨b2, o3, none⟩) (ints t[i].kids) :=
                hkr2.keep ((Chg.refl (fun q => q = w.heap.size) wr).setCell (p := ⟨w.heap.size, i, none⟩) (fun _ => rfl) _ |>.below (by have := hch2.size; omega) (fun q hq => by omega))
              have HX := Lib.hid (And.intro hr3 (And.intro hc3 hk4))
              clear hset e1 hr3 hc3 hk4
              go_region
              all_goals
                go_wp2_with fail
                go_roundg (t[i].kids.length - (j + 1) + 1)
                case measure => rw [← HG2.out]; omega
                case rel => exact ⟨j + 1, max m x, int_i64 (by omega), by omega, by omega, ⟨HX.out.1.h⟩, HX.out.2.1.drew, HX.out.2.2, HK2.out, rfl⟩
            · have hdr : t[i].kids.drop j = [] := List.drop_eq_nil_of_le (by omega)
              have hk2 := HKD.out
              rw [hdr, kidsDeep] at hk2
              have hgo3 := HGO2.out
              rw [← hk2] at hgo3
              have hr3 := hrow2.set i (.int .i64 ((m + 1 : Nat) : Int)) (by rw [dints_length]; simp; omega)
              have hset : (dints (d ++ m :: List.replicate (t.length - (i + 1)) 0)).set i (.int .i64 ((m + 1 : Nat) : Int)) = dints (d ++ (m + 1) :: List.replicate (t.length - (i + 1)) 0) := by
                rw [← hdl]; exact dints_set d m (m + 1) _
              rw [hset] at hr3
              have e1 : ((m + 1 : Nat) : Int) = (m : Int) + 1 := by omega
              rw [e1] at hr3
              have hc3 : Chg (fun _ => False) w (wr.setCell ⟨w.heap.size, i, none⟩ (.int .i64 ((m : Int) + 1))) := hch2.setCell (fun h => by simp only at h; omega) _
              have HX := Lib.hid (And.intro hr3 (And.intro hc3 hgo3))
              clear hdr hk2 hset e1 hr3 hc3 hgo3
              go_wp2_with fail
              go_roundg (t.length - (i + 1) + 1)
              case measure => rw [← HG.out]; omega
              case rel => exact ⟨i + 1, d ++ [m + 1], int_i64 (by omega), by omega, by simp [hdl], fun x hx => by
                rcases List.mem_append.1 hx with h | h
                · have := hdb x h; omega
                · have : x = m + 1 := by simpa using h
                  omega, by rw [List.append_assoc, List.singleton_append]; exact HX.out.1, HX.out.2.1, HX.out.2.2, rfl⟩
      · rw [if_neg hkind] at hgo2
        have k5 : (t[i].kind != 5) = true := by simp; omega
        have k6 : (t[i].kind != 6) = true := by simp; omega
        have HGO2 := Lib.hid hgo2
        clear hgo2 hkind
        go_wp2_with fail
        go_roundg (t.length - (i + 1) + 1)
        case measure => rw [← HG.out]; omega
        case rel => exact ⟨i + 1, d ++ [0], int_i64 (by omega), by omega, by simp [hdl], fun x hx => by
            rcases List.mem_append.1 hx with h | h
            · have := hdb x h; omega
            · have : x = 0 := by simpa using h
              omega, by rw [List.append_assoc, List.singleton_append]; exact hrow.keep ((Chg.refl (fun _ => False) wr).alloc _) id, hch.alloc _, HGO2.out, rfl⟩
    · obtain rfl : i = t.length := by omega
      have hd : deepJ t = d.getD (t.length - 1) 0 := by
        have := HGO.out
        rw [List.drop_eq_nil_of_le (Nat.le_refl _), deepGo] at this
        unfold deepJ
        rw [← this]
      have m0 : wr.cell? ⟨w.heap.size, t.length - 1, none⟩ = some (.int .i64 (d.getD (t.length - 1) 0 : Nat)) := hrow.cell _ _ (dints_lo d _ _ (by omega))
      have HD := Lib.hid hd
      have e1 : ((t.length : Int) - 1).toNat = t.length - 1 := by omega
      clear hd
      generalize d.getD (t.length - 1) 0 = x at *
      go_wp2_with fail
      go_ret
      exact ⟨by rw [HD.out]; rfl, hch⟩
end Go.Proofs.YtknmbfkpclacgaaGreatDoor
