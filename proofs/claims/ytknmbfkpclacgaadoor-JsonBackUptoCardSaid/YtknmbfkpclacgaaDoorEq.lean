/- Alike and Equal of galleyref, of two readings of one tree: the walk. -/
import Derived.Test.YtknmbfkpclacgaaDoorFx
import Derived.BigQuiet
import Derived.Deep.QuietTactic
import Derived.Deep.RegionHeld
set_option linter.unusedSimpArgs false
namespace Go.Proofs.YtknmbfkpclacgaaDoor
open Go.RowKit

set_option maxRecDepth 100000 in
set_option maxHeartbeats 4000000 in
theorem alike_same (ks : List Int) (A1 A2 : Option Addr) (c1 c2 B : Nat) (w : World) (h1 : Ro w B A1 (ints ks)) (h2 : Ro w B A2 (ints ks)) (hB : B ≤ w.heap.size) (hl : ks.length ≤ 140737488355328) :
    Calls Tryd.prog 26 #[.slice A1 ks.length c1, .slice A2 ks.length c2] w fun e w' => e = .returned (.bool true) ∧ Chg (fun _ => False) w w' := by
  have H1 := Lib.hid h1
  have H2 := Lib.hid h2
  clear h1 h2
  go_enter Tryd.func26, Tryd.ntmps26
  go_wp2_with fail
  go_loopg [5] (ks.length + 1) (fun g s5 wr => ∃ j : Nat, s5 = .int .i64 j ∧ j ≤ ks.length ∧ Chg (fun _ => False) w wr ∧ ks.length - j + 1 = g)
  case atStart => exact ⟨0, rfl, by omega, Chg.refl _ _, rfl⟩
  case round =>
    obtain ⟨j, rfl, hj, hch, hg⟩ := hrel
    have HG := Lib.hid hg
    clear hg
    by_cases hjl : j < ks.length
    · obtain ⟨b1, o1, hA1, hb1, x1⟩ := (H1.out.keep (hch.below hB (fun _ h => h.elim))).int j hjl
      obtain ⟨b2, o2, hA2, hb2, x2⟩ := (H2.out.keep (hch.below hB (fun _ h => h.elim))).int j hjl
      subst hA1 hA2
      generalize ks[j] = x at *
      go_wp2_with fail
      go_quiet (fail)
      go_wp2_with fail
      go_roundg (ks.length - (j + 1) + 1)
      case measure => rw [← HG.out]; omega
      case rel => exact ⟨j + 1, int_i64 (by omega), by omega, hch.drewN _, rfl⟩
    · go_wp2_with fail
      go_ret
      exact ⟨rfl, hch⟩

theorem two_allocs (w : World) (o1 o2 : Obj) : ((w.alloc o1).alloc o2).drew.heap[w.heap.size]? = some o1 ∧ ((w.alloc o1).alloc o2).drew.heap[w.heap.size + 1]? = some o2 ∧ Chg (fun _ => False) w ((w.alloc o1).alloc o2).drew := by
  refine ⟨?_, ?_, (((Chg.refl _ _).alloc _).alloc _).drew⟩
  · show ((w.alloc o1).alloc o2).heap[w.heap.size]? = some o1
    simp only [World.alloc, Array.getElem?_push, Array.size_push]
    rw [if_neg (by omega), if_pos trivial]
  · show ((w.alloc o1).alloc o2).heap[w.heap.size + 1]? = some o2
    simp only [World.alloc, Array.getElem?_push, Array.size_push]
    rw [if_pos trivial]
def vcells (v : JV) (Ak : Option Addr) (ck : Nat) (An : Option Addr) (cn : Nat) : Array Value := #[.int .i64 v.kind, .bool v.truth, .int .i64 v.n, .string ⟨v.text.toArray⟩, .slice Ak v.kids.length ck, .slice An v.names.length cn]
theorem vcells_at {w : World} {b : Nat} {v : JV} {Ak : Option Addr} {ck : Nat} {An : Option Addr} {cn : Nat} {e : TypeId} (h : w.heap[b]? = some (.cells (vcells v Ak ck An cn) e (0, 0))) :
    w.cell? ⟨b, 0, none⟩ = some (.int .i64 v.kind) ∧ w.cell? ⟨b, 1, none⟩ = some (.bool v.truth) ∧ w.cell? ⟨b, 2, none⟩ = some (.int .i64 v.n) ∧ w.cell? ⟨b, 3, none⟩ = some (.string ⟨v.text.toArray⟩) ∧ w.cell? ⟨b, 4, none⟩ = some (.slice Ak v.kids.length ck) ∧ w.cell? ⟨b, 5, none⟩ = some (.slice An v.names.length cn) := by
  refine ⟨?_, ?_, ?_, ?_, ?_, ?_⟩ <;> (rw [cell_of_row _ _ _ _ _ _ h]; rfl)
theorem two_cells (w : World) (v : JV) (Ak1 : Option Addr) (ck1 : Nat) (An1 : Option Addr) (cn1 : Nat) (Ak2 : Option Addr) (ck2 : Nat) (An2 : Option Addr) (cn2 : Nat) :
    ∃ W, ((w.alloc (.cells #[.int .i64 v.kind, .bool v.truth, .int .i64 v.n, .string ⟨v.text.toArray⟩, .slice Ak1 v.kids.length ck1, .slice An1 v.names.length cn1] 35)).alloc (.cells #[.int .i64 v.kind, .bool v.truth, .int .i64 v.n, .string ⟨v.text.toArray⟩, .slice Ak2 v.kids.length ck2, .slice An2 v.names.length cn2] 35)).drew = W ∧
      W.heap[w.heap.size]? = some (.cells (vcells v Ak1 ck1 An1 cn1) 35) ∧ W.heap[w.heap.size + 1]? = some (.cells (vcells v Ak2 ck2 An2 cn2) 35) ∧ Chg (fun _ => False) w W :=
  ⟨_, rfl, two_allocs w _ _⟩

set_option maxRecDepth 100000 in
set_option maxHeartbeats 4000000 in
theorem equal_same (t : List JV) (A1 A2 : Option Addr) (c1 c2 B : Nat) (xs1 xs2 : List VC) (w : World) (h1 : TRd w B A1 xs1 t) (h2 : TRd w B A2 xs2 t) (hB : B ≤ w.heap.size) :
    Calls Tryd.prog 12 #[.slice A1 t.length c1, .slice A2 t.length c2] w fun e w' => e = .returned (.bool true) ∧ Chg (fun _ => False) w w' := by
  have H1 := Lib.hid h1
  have H2 := Lib.hid h2
  have htl := h1.tl
  clear h1 h2
  go_enter Tryd.func12, Tryd.ntmps12
  go_wp2_with fail
  go_loopg [5] (t.length + 1) (fun g s5 wr => ∃ j : Nat, s5 = .int .i64 j ∧ j ≤ t.length ∧ Chg (fun _ => False) w wr ∧ t.length - j + 1 = g)
  case atStart => exact ⟨0, rfl, by omega, Chg.refl _ _, rfl⟩
  case round =>
    obtain ⟨i, rfl, hi, hch, hg⟩ := hrel
    have HG := Lib.hid hg
    clear hg
    by_cases hit : i < t.length
    · obtain ⟨b1, o1, Ak1, ck1, An1, cn1, hA1, hb1, p0, p1, p2, p3, p4, p5, hk1, hn1, hkl, hnl⟩ := (H1.out.keep (hch.below hB (fun _ h => h.elim))).at i hit
      obtain ⟨b2, o2, Ak2, ck2, An2, cn2, hA2, hb2, q0, q1, q2, q3, q4, q5, hk2, hn2, _, _⟩ := (H2.out.keep (hch.below hB (fun _ h => h.elim))).at i hit
      subst hA1 hA2
      generalize t[i] = v at *
      have hBw := Nat.le_trans hB hch.size
      go_wp2_with fail
      have n1 : wr.heap.size ≠ b1 := by omega
      have n2 : wr.heap.size ≠ b2 := by omega
      have n3 : wr.heap.size + 1 ≠ b1 := by omega
      have n4 : wr.heap.size + 1 ≠ b2 := by omega
      go_region_held (fun w' => w'.cell? ⟨b1, o1 + i * 6, none⟩ = some (.int .i64 v.kind) ∧ w'.cell? ⟨b1, o1 + i * 6 + 1, none⟩ = some (.bool v.truth) ∧ w'.cell? ⟨b1, o1 + i * 6 + 2, none⟩ = some (.int .i64 v.n) ∧ w'.cell? ⟨b1, o1 + i * 6 + 3, none⟩ = some (.string ⟨v.text.toArray⟩) ∧ w'.cell? ⟨b1, o1 + i * 6 + 4, none⟩ = some (.slice Ak1 v.kids.length ck1) ∧ w'.cell? ⟨b1, o1 + i * 6 + 5, none⟩ = some (.slice An1 v.names.length cn1) ∧ w'.cell? ⟨b2, o2 + i * 6, none⟩ = some (.int .i64 v.kind) ∧ w'.cell? ⟨b2, o2 + i * 6 + 1, none⟩ = some (.bool v.truth) ∧ w'.cell? ⟨b2, o2 + i * 6 + 2, none⟩ = some (.int .i64 v.n) ∧ w'.cell? ⟨b2, o2 + i * 6 + 3, none⟩ = some (.string ⟨v.text.toArray⟩) ∧ w'.cell? ⟨b2, o2 + i * 6 + 4, none⟩ = some (.slice Ak2 v.kids.length ck2) ∧ w'.cell? ⟨b2, o2 + i * 6 + 5, none⟩ = some (.slice An2 v.names.length cn2)) (go_keep) (fail)
      all_goals
        rename_i hHeld
        clear hHeld n1 n2 n3 n4 p0 p1 p2 p3 p4 p5 q0 q1 q2 q3 q4 q5
        first
        | (obtain ⟨W, hWW, hx, hy, hcW⟩ := two_cells wr v Ak1 ck1 An1 cn1 Ak2 ck2 An2 cn2
           have hBW := Nat.le_trans hBw hcW.size
           have hbl := hcW.below hBw (fun _ h => h.elim)
           rw [hWW]
           clear hWW
           generalize wr.heap.size + 1 = yb at *
           generalize wr.heap.size = xb at *)
        | (obtain ⟨W, hWW, hy, hx, hcW⟩ := two_cells wr v Ak2 ck2 An2 cn2 Ak1 ck1 An1 cn1
           have hBW := Nat.le_trans hBw hcW.size
           have hbl := hcW.below hBw (fun _ h => h.elim)
           rw [hWW]
           clear hWW
           generalize wr.heap.size + 1 = xb at *
           generalize wr.heap.size = yb at *)
        have hkw1 := hk1.keep hbl
        have hkw2 := hk2.keep hbl
        have hnw1 := hn1.keep hbl
        have hnw2 := hn2.keep hbl
        have hcw := hch.trans hcW
        have hal := alike_same v.kids Ak1 Ak2 ck1 ck2 B W hkw1 hkw2 hBW hkl
        obtain ⟨p0, p1, p2, p3, p4, p5⟩ := vcells_at hx
        obtain ⟨q0, q1, q2, q3, q4, q5⟩ := vcells_at hy
        have HX := Lib.hid (And.intro hx (And.intro hy (And.intro hnw1 (And.intro hnw2 hal))))
        clear hk1 hk2 hn1 hn2 hkw1 hkw2 hch hcW hBw hx hy hnw1 hnw2 hal
        go_wp2_with fail
        refine HX.out.2.2.2.2.mono ?_
        rintro e W2 ⟨rfl, hch2⟩
        have hx2 := hch2.obj HX.out.1 id
        have hy2 := hch2.obj HX.out.2.1 id
        have hbl2 := hch2.below hBW (fun _ h => h.elim)
        have hnx2 := HX.out.2.2.1.keep hbl2
        have hny2 := HX.out.2.2.2.1.keep hbl2
        have hcw2 := hcw.trans hch2
        have hBW2 := Nat.le_trans hBW hch2.size
        clear p0 p1 p2 p3 p4 p5 q0 q1 q2 q3 q4 q5 HX hcw hch2 hbl hbl2
        go_wp2_with fail
        go_loopg [8] (v.names.length + 1) (fun g s8 wq => ∃ j : Nat, s8 = .int .i64 j ∧ j ≤ v.names.length ∧ Chg (fun _ => False) W2 wq ∧ v.names.length - j + 1 = g)
        case atStart => exact ⟨0, rfl, by omega, Chg.refl _ _, rfl⟩
        case round =>
          rename_i gk2 wq _ _
          obtain ⟨j, rfl, hj, hchq, hg⟩ := hrel
          have HG2 := Lib.hid hg
          clear hg
          obtain ⟨p0, p1, p2, p3, p4, p5⟩ := vcells_at (hchq.obj hx2 id)
          obtain ⟨q0, q1, q2, q3, q4, q5⟩ := vcells_at (hchq.obj hy2 id)
          clear p0 p1 p2 p3 p4 q0 q1 q2 q3 q4
          by_cases hjl : j < v.names.length
          · obtain ⟨b3, o3, hA3, hb3, x3⟩ := (hnx2.keep (hchq.below hBW2 (fun _ h => h.elim))).str j hjl
            obtain ⟨b4, o4, hA4, hb4, x4⟩ := (hny2.keep (hchq.below hBW2 (fun _ h => h.elim))).str j hjl
            subst hA3 hA4
            generalize v.names[j] = nm at *
            go_wp2_with fail
            go_quiet (fail)
            go_wp2_with fail
            go_roundg (v.names.length - (j + 1) + 1)
            case measure => rw [← HG2.out]; omega
            case rel => exact ⟨j + 1, int_i64 (by omega), by omega, hchq.drewN _, rfl⟩
          · go_wp2_with fail
            go_roundg (t.length - (i + 1) + 1)
            case measure => rw [← HG.out]; omega
            case rel => exact ⟨i + 1, int_i64 (by omega), by omega, hcw2.trans hchq, rfl⟩
    · go_wp2_with fail
      go_ret
      exact ⟨rfl, hch⟩
end Go.Proofs.YtknmbfkpclacgaaDoor
