/- json.Parse: the deferred closure, the walk. -/
import Derived.Test.YtknmbfkpclacgaaDoorRdl
import Derived.Recover
import Derived.Defers
import Derived.Laws.Pointers
set_option linter.unusedSimpArgs false
namespace Go.Proofs.YtknmbfkpclacgaaDoor
open Go.RowKit

theorem slots_catch (v1 v2 v3 pv : Value) : #[v1, v2, v3] ++ ((Array.replicate 18 undef).setIfInBounds 3 pv).setIfInBounds 0 pv = #[v1, v2, v3, pv, undef, undef, pv, undef, undef, undef, undef, undef, undef, undef, undef, undef, undef, undef, undef, undef, undef] := by
  simp [Array.replicate, Array.setIfInBounds]
set_option maxRecDepth 100000 in
set_option maxHeartbeats 4000000 in
theorem catch_idle (p1 p2 p3 : Addr) (w : World) :
    CallsD Tryd.prog 18 #[.pointer (some p1), .pointer (some p2), .pointer (some p3)] .returning w fun e u' w' => e = .returned (.tuple #[]) ∧ u' = .returning ∧ w' = w := by
  generalize hR : (fun (e : Ending) (u' : FrameMode) (w' : World) => e = .returned (.tuple #[]) ∧ u' = .returning ∧ w' = w) = R
  generalize hv1 : Value.pointer (some p1) = v1
  generalize hv2 : Value.pointer (some p2) = v2
  generalize hv3 : Value.pointer (some p3) = v3
  refine callsD_of_wpS Tryd.func18 rfl fun c₀ cs hu => ?_
  apply wpS_seq
  apply wpS_region
  simp [wpOpsS, go_sem, recoverD, hu, Tryd.ntmps18, Exit.thenS]
  refine wpS_of_wp ?_
  rw [slots_catch]
  go_wp2_with fail
  subst hR
  exact ⟨rfl, .returning, by cases c₀; simp only at hu; subst hu; rfl, .tuple #[], by kernel_rfl, rfl, rfl, rfl⟩

theorem assert_fault (v : Value) (w : World) : (Instr.typeAssert (.iface 50 v) 20 50 true).run Tryd.prog w = .ok (.tuple #[v, .bool true]) w := by kernel_rfl
def CatchPost (p1 p2 p3 i : Nat) (er : Int) (older : List PanicEntry) (w : World) (e : Ending) (u' : FrameMode) (w' : World) : Prop :=
  e = .returned (.tuple #[]) ∧ u' = .panicking ({ v := fltV i er, recovered := true } :: older) ∧ w'.cell? ⟨p1, 0, none⟩ = some (.slice none 0 0) ∧ w'.cell? ⟨p2, 0, none⟩ = some (.int .i64 i) ∧ w'.cell? ⟨p3, 0, none⟩ = some (.int .i64 er) ∧ Chg (fun b => b = p1 ∨ b = p2 ∨ b = p3) w w'

set_option maxRecDepth 100000 in
set_option maxHeartbeats 400000 in
theorem catch_fault (p1 p2 p3 i : Nat) (er : Int) (x1 : Value) (x2 x3 : Int) (older : List PanicEntry) (w : World)
    (h1 : w.cell? ⟨p1, 0, none⟩ = some x1) (z1 : w.frozen? ⟨p1, 0, none⟩ = false) (h2 : w.cell? ⟨p2, 0, none⟩ = some (.int .i64 x2)) (z2 : w.frozen? ⟨p2, 0, none⟩ = false) (h3 : w.cell? ⟨p3, 0, none⟩ = some (.int .i64 x3)) (z3 : w.frozen? ⟨p3, 0, none⟩ = false) (d12 : p1 ≠ p2) (d13 : p1 ≠ p3) (d23 : p2 ≠ p3) :
    CallsD Tryd.prog 18 #[.pointer (some ⟨p1, 0, none⟩), .pointer (some ⟨p2, 0, none⟩), .pointer (some ⟨p3, 0, none⟩)] (.panicking ({ v := fltV i er, recovered := false } :: older)) w (CatchPost p1 p2 p3 i er older w) := by
  generalize hR : CatchPost p1 p2 p3 i er older w = R
  generalize hv1 : Value.pointer (some ⟨p1, 0, none⟩) = v1
  generalize hv2 : Value.pointer (some ⟨p2, 0, none⟩) = v2
  generalize hv3 : Value.pointer (some ⟨p3, 0, none⟩) = v3
  generalize hpv : fltV i er = pv
  refine callsD_of_wpS Tryd.func18 rfl fun c₀ cs hu => ?_
  apply wpS_seq
  apply wpS_region
  simp [wpOpsS, go_sem, recoverD, hu, Tryd.ntmps18, Exit.thenS]
  refine wpS_of_wp ?_
  rw [slots_catch]
  subst hv1 hv2 hv3
  unfold fltV at hpv
  subst hpv
  have hta := assert_fault
  go_upto_region 5 with fail
  have hp1 := World.block_lt_of_cell? w _ h1
  have hp2 := World.block_lt_of_cell? w _ h2
  have hp3 := World.block_lt_of_cell? w _ h3
  simp only at hp1 hp2 hp3
  have hW : ∀ o : Obj, Chg (fun _ => False) w (w.alloc o) := fun o => (Chg.refl _ _).alloc o
  generalize hWW : w.alloc (.cells #[.int .i64 i, .int .i64 er] 50) = W
  have hch : Chg (fun _ => False) w W := by rw [← hWW]; exact hW _
  have hb : W.heap[w.heap.size]? = some (.cells #[.int .i64 i, .int .i64 er] 50) := by rw [← hWW]; exact heap_alloc_new w _
  have b0 : W.cell? ⟨w.heap.size, 0, none⟩ = some (.int .i64 i) := by simp [World.cell?, hb]
  have b1 : W.cell? ⟨w.heap.size, 1, none⟩ = some (.int .i64 er) := by simp [World.cell?, hb]
  have k1 := hch.cell h1 id
  have k2 := hch.cell h2 id
  have k3 := hch.cell h3 id
  have y1 : W.frozen? ⟨p1, 0, none⟩ = false := (World.frozen?_of_block (hch.block p1 hp1 id)).trans z1
  have y2 : W.frozen? ⟨p2, 0, none⟩ = false := (World.frozen?_of_block (hch.block p2 hp2 id)).trans z2
  have y3 : W.frozen? ⟨p3, 0, none⟩ = false := (World.frozen?_of_block (hch.block p3 hp3 id)).trans z3
  have e1 : p1 ≠ w.heap.size := by omega
  have e2 : p2 ≠ w.heap.size := by omega
  have e3 : p3 ≠ w.heap.size := by omega
  generalize w.heap.size = nb at *
  have HCH := Lib.hid hch
  have HR := Lib.hid hR
  have HU := Lib.hid hu
  clear hch hW hWW hb h1 h2 h3 z1 z2 z3 hp1 hp2 hp3 hR hu
  go_region
  refine ⟨rfl, _, rfl, .tuple #[], by kernel_rfl, ?_⟩
  rw [← HR.out]
  refine ⟨rfl, rfl, ?_, ?_, ?_, ?_⟩
  · go_simp
  · go_simp
  · go_simp
  · exact ((((HCH.out.mono fun _ _ h => h.elim).setCell (p := ⟨p1, 0, none⟩) (fun _ => .inl rfl) _).setCell (p := ⟨p2, 0, none⟩) (fun _ => .inr (.inl rfl)) _).setCell (p := ⟨p3, 0, none⟩) (fun _ => .inr (.inr rfl)) _).drew

end Go.Proofs.YtknmbfkpclacgaaDoor
