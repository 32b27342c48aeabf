/- step.Runes, step.Valid, json.valid: the walks. -/
import Derived.Test.YtknmbfkpclacgaaDoorTf
set_option linter.unusedSimpArgs false
namespace Go.Proofs.YtknmbfkpclacgaaDoor
open Go.RowKit

theorem valid_b (l : List UInt8) : (outL l.length l == l) = validL l := by
  have h := runes_back l
  cases hv : validL l with
  | true => rw [h.2 hv]; simp
  | false =>
    rw [beq_eq_false_iff_ne]
    intro e
    rw [h.1 e] at hv; cases hv
theorem addr_zero (rb j : Nat) : (⟨rb, 0, none⟩ : Addr).add j = ⟨rb, j, none⟩ := by unfold Addr.add; split <;> simp_all

set_option maxRecDepth 100000 in
set_option maxHeartbeats 4000000 in
theorem runes_any (b o cap : Nat) (l : List UInt8) (w : World) (hc : ∀ j, j < l.length → w.cell? ⟨b, o + j, none⟩ = some (.int .u8 ((pk l j).toNat : Int))) (hl : l.length ≤ 70368744177664) :
    Calls Tryd.prog 69 #[.slice (some ⟨b, o, none⟩) l.length cap] w fun e w' => ∃ (rb c : Nat), e = .returned (.slice (some ⟨rb, 0, none⟩) (runesL l.length l).length c) ∧ Chg (fun _ => False) w w' ∧ ∀ j, j < (runesL l.length l).length → w'.cell? ⟨rb, j, none⟩ = some (.int .i32 ((runesL l.length l).getD j 0)) := by
  have hconv : (convert 30 9 (.slice (some ⟨b, o, none⟩) l.length cap)).run Tryd.prog w = .ok (.string ⟨l.toArray⟩) w :=
    conv_bytes Tryd.underlying30 Tryd.underlying5 Tryd.underlying9 w b o l.length cap l rfl hc
  have hsz : (⟨l.toArray⟩ : ByteArray).size = l.length := by show l.toArray.size = _; simp
  have hrf : Conv.runesFrom ⟨l.toArray⟩ l.length 0 #[] = ((runesL l.length l).map (Value.int .i32)).toArray := by rw [runesFrom_L]; simp
  have hr := run_runes_of_string (P := Tryd.prog) w 9 44 21 ⟨l.toArray⟩ Tryd.underlying9 Tryd.underlying44 Tryd.underlying21
  rw [hsz, hrf] at hr
  have hrl := runesL_len l.length l
  have hr2 := hr (by simp; omega)
  clear hr hrf hsz
  generalize runesL l.length l = R at *
  have hR : (R.map (Value.int .i32)).toArray.size = R.length := by simp
  rw [hR] at hr2
  generalize hz : grownCap w R.length 0 21 = cc at *
  generalize hWW : w.drew.alloc (.cells ((R.map (Value.int .i32)).toArray ++ Array.replicate (cc - R.length) (.int .i32 0)) 21) = W at *
  have hch : Chg (fun _ => False) w W := by rw [← hWW]; exact ((Chg.refl _ _).drew).alloc _
  have hcells : ∀ j, j < R.length → W.cell? ⟨w.heap.size, j, none⟩ = some (.int .i32 (R.getD j 0)) := fun j hj => by
    have h := heap_alloc_new w.drew (.cells ((R.map (Value.int .i32)).toArray ++ Array.replicate (cc - R.length) (.int .i32 0)) 21)
    rw [hWW] at h
    rw [cell_of_row W w.heap.size j _ _ _ h, Array.getElem?_append_left (by simpa using hj)]
    simp [List.getD_eq_getElem?_getD, hj]
  clear hWW hz hR hrl
  go_enter Tryd.func69, Tryd.ntmps69
  go_wp2_with fail
  go_ret
  exact ⟨w.heap.size, cc, rfl, hch, hcells⟩

set_option maxRecDepth 100000 in
set_option maxHeartbeats 4000000 in
theorem step_valid_any (b o cap : Nat) (l : List UInt8) (w : World) (hb : b < w.heap.size) (hc : ∀ j, j < l.length → w.cell? ⟨b, o + j, none⟩ = some (.int .u8 ((pk l j).toNat : Int))) (hl : l.length ≤ 70368744177664) :
    Calls Tryd.prog 52 #[.slice (some ⟨b, o, none⟩) l.length cap] w fun e w' => e = .returned (.bool (validL l)) ∧ Chg (fun _ => False) w w' := by
  have HC := Lib.hid hc
  clear hc
  have hconv1 : ∀ W : World, Chg (fun _ => False) w W → (convert 30 9 (.slice (some ⟨b, o, none⟩) l.length cap)).run Tryd.prog W = .ok (.string ⟨l.toArray⟩) W := fun W h =>
    conv_bytes Tryd.underlying30 Tryd.underlying5 Tryd.underlying9 W b o l.length cap l rfl (fun j hj => h.cell (HC.out j hj) id)
  have H1 := Lib.hid hconv1
  have hconv0 := hconv1 w.drew ((Chg.refl _ _).drew)
  clear hconv1
  go_enter Tryd.func52, Tryd.ntmps52
  go_wp2_with fail
  go_region_with
    ((go_at_call 69; refine (runes_any b o cap l w.drew HC.out hl).mono ?_; rintro e w3 ⟨rb, c, rfl, hch3, hcells⟩; have hcv := H1.out w3 (((Chg.refl _ _).drew).trans hch3); have hcr := run_convert_runes (P := Tryd.prog) w3 44 9 21 ⟨rb, 0, none⟩ (runesL l.length l).length c (runesL l.length l) (Nat.le_refl _) Tryd.underlying44 Tryd.underlying21 Tryd.underlying9 (fun j hj => by rw [addr_zero]; exact hcells j hj); rw [List.take_length, runesBytes_L] at hcr))
  all_goals
    have hfin := ((Chg.refl (fun _ => False) w).drew).trans hch3
    have HF := Lib.hid hfin
    clear hcells hcv hcr hfin hconv0
    go_wp2_with fail
    go_ret
    refine ⟨?_, HF.out⟩
    rw [← valid_b l]
    rfl

set_option maxRecDepth 100000 in
set_option maxHeartbeats 4000000 in
theorem valid_any (l : List UInt8) (w : World) (hl : l.length ≤ 70368744177664) :
    Calls Tryd.prog 28 #[.string ⟨l.toArray⟩] w fun e w' => e = .returned (.bool (validL l)) ∧ Chg (fun _ => False) w w' := by
  have hsz : (⟨l.toArray⟩ : ByteArray).size = l.length := by show l.toArray.size = _; simp
  have hcv := run_bytes_of_string (P := Tryd.prog) w 9 30 5 ⟨l.toArray⟩ Tryd.underlying9 Tryd.underlying30 Tryd.underlying5
  rw [hsz] at hcv
  generalize grownCap w l.length 0 5 = cc at *
  generalize hWW : w.drew.alloc (.cells (bytesRow ⟨l.toArray⟩ cc) 5 ((bytesRow ⟨l.toArray⟩ cc).size, (bytesRow ⟨l.toArray⟩ cc).size + 1)) = W at *
  have hch : Chg (fun _ => False) w W := by rw [← hWW]; exact ((Chg.refl _ _).drew).alloc _
  have hlt : w.heap.size < W.heap.size := by rw [← hWW, World.size_alloc]; show w.heap.size < w.heap.size + 1; omega
  have hcells : ∀ j, j < l.length → W.cell? ⟨w.heap.size, 0 + j, none⟩ = some (.int .u8 ((pk l j).toNat : Int)) := fun j hj => by
    have h := heap_alloc_new w.drew (.cells (bytesRow ⟨l.toArray⟩ cc) 5 ((bytesRow ⟨l.toArray⟩ cc).size, (bytesRow ⟨l.toArray⟩ cc).size + 1))
    rw [hWW] at h
    rw [Nat.zero_add, cell_of_row W w.heap.size j _ _ _ h, bytesRow_at _ _ _ (by simpa using hj)]
    simp [pk, List.getD_eq_getElem?_getD, hj]
  have HX := Lib.hid (And.intro hch (And.intro hlt hcells))
  clear hWW hsz hch hlt hcells
  go_enter Tryd.func28, Tryd.ntmps28
  go_wp2_with fail
  refine (step_valid_any w.heap.size 0 cc l W HX.out.2.1 HX.out.2.2 hl).mono ?_
  rintro e w3 ⟨rfl, hch3⟩
  go_wp2_with fail
  go_ret
  exact ⟨rfl, HX.out.1.trans hch3⟩
end Go.Proofs.YtknmbfkpclacgaaDoor
