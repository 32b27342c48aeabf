/- strconv.FormatInt at base 16, of one digit. -/
import Derived.Test.YtknmbfkpclacgaaDoorBe
set_option linter.unusedSimpArgs false
namespace Go.Proofs.YtknmbfkpclacgaaDoor
open Go.RowKit

def hexDigits : ByteArray := ⟨#[48, 49, 50, 51, 52, 53, 54, 55, 56, 57, 97, 98, 99, 100, 101, 102, 103, 104, 105, 106, 107, 108, 109, 110, 111, 112, 113, 114, 115, 116, 117, 118, 119, 120, 121, 122]⟩
theorem wrap_small : ∀ m : Fin 16, IntKind.u64.wrap ((m.val : Nat) : Int) = ((m.val : Nat) : Int) := by decide
theorem hexDigits_size : hexDigits.size = 36 := rfl
theorem hex_all : ∀ m : Fin 16, hexDigits[m.val]'(by rw [hexDigits_size]; omega) = hexd m.val := by decide
theorem hex_digit (n : Nat) (hn : n < 16) : hexDigits[n]'(by rw [hexDigits_size]; omega) = hexd n := hex_all ⟨n, hn⟩
set_option maxRecDepth 100000 in
set_option maxHeartbeats 4000000 in
theorem pow2_any (w : World) : Calls Tryd.prog 102 #[.int .i64 16] w fun e w' => e = .returned (.bool true) ∧ w' = w := by
  go_enter Tryd.func102, Tryd.ntmps102
  go_wp2
  go_ret
  exact ⟨rfl, rfl⟩

set_option maxRecDepth 100000 in
set_option maxHeartbeats 4000000 in
theorem tz64_any (w : World) (h5 : w.cell? ⟨5, 15, none⟩ = some (.int .u8 4)) : Calls Tryd.prog 107 #[.int .u64 16] w fun e w' => e = .returned (.int .i64 4) ∧ w' = w := by
  have e1 : bits BinOp.and IntKind.u64 16 (IntKind.u64.wrap (-16)) = 16 := by decide
  have e2 : IntKind.u64.wrap (16 * 285870213051353865) = 4573923408821661840 := by decide
  have e3 : (4573923408821661840 : Int) / 288230376151711744 = 15 := by decide
  go_enter Tryd.func107, Tryd.ntmps107
  go_wp2
  go_ret
  exact ⟨rfl, rfl⟩
set_option maxRecDepth 100000 in
set_option maxHeartbeats 4000000 in
theorem tz_any (w : World) (h5 : w.cell? ⟨5, 15, none⟩ = some (.int .u8 4)) : Calls Tryd.prog 103 #[.int .u64 16] w fun e w' => e = .returned (.int .i64 4) ∧ w' = w := by
  go_enter Tryd.func103, Tryd.ntmps103
  go_wp2_with fail
  refine (tz64_any _ h5).mono ?_
  rintro e w2 ⟨rfl, rfl⟩
  go_wp2_with fail
  go_ret
  exact ⟨rfl, rfl⟩

set_option maxRecDepth 100000 in
set_option maxHeartbeats 4000000 in
theorem bits_any (n : Nat) (hn : n < 16) (w : World) (h5 : w.cell? ⟨5, 15, none⟩ = some (.int .u8 4)) : Calls Tryd.prog 91 #[.slice none 0 0, .int .u64 n, .int .i64 16, .bool false, .bool false] w fun e w' => e = .returned (.tuple #[.slice none 0 0, .string ⟨#[hexd n]⟩]) ∧ Chg (fun _ => False) w w' := by
  go_enter Tryd.func91, Tryd.ntmps91
  go_wp2_with fail
  refine (pow2_any _).mono ?_
  rintro e w2 ⟨rfl, rfl⟩
  go_wp2_with fail
  refine (tz_any _ ((World.cell?_of_block (Below.heap_alloc w _ _ (World.block_lt_of_cell? w _ h5))).trans h5)).mono ?_
  rintro e w2 ⟨rfl, rfl⟩
  go_wp2_with fail
  generalize hW : w.alloc (.cells Tryd.zeroCells140 140) = W at *
  have hblk : W.heap[w.heap.size]? = some (.cells Tryd.zeroCells140 140) := by rw [← hW]; exact heap_alloc_new w _
  have hch : Chg (fun _ => False) w W := by rw [← hW]; exact (Chg.refl _ _).alloc _
  have c64 : W.cell? ⟨w.heap.size, 64, none⟩ = some (.int .u8 0) := by
    rw [cell_of_row W w.heap.size 64 _ _ _ hblk]; kernel_rfl
  have f64 : W.frozen? ⟨w.heap.size, 64, none⟩ = false := by simp [World.frozen?, hblk]
  have hcv : ∀ c : UInt8, (convert 30 9 (.slice (some ⟨w.heap.size, 64, none⟩) 1 1)).run Tryd.prog (W.setCell ⟨w.heap.size, 64, none⟩ (.int .u8 (c.toNat : Int))) = .ok (.string ⟨#[c]⟩) (W.setCell ⟨w.heap.size, 64, none⟩ (.int .u8 (c.toNat : Int))) := fun c =>
    conv_bytes Tryd.underlying30 Tryd.underlying5 Tryd.underlying9 _ w.heap.size 64 1 1 [c] rfl (fun j hj => by
      obtain rfl : j = 0 := by omega
      exact World.cell?_setCell_same _ _ _ c64)
  have hc2 : ∀ v, Chg (fun _ => False) w (W.setCell ⟨w.heap.size, 64, none⟩ v) := fun v => hch.setCell (fun h => by simp only at h; omega) v
  have HC2 := Lib.hid hc2
  clear hc2 hch hblk
  clear hW
  go_loopg [1, 13] 1 (fun g v1 v13 wr => v1 = .int .u64 n ∧ v13 = .int .i64 65 ∧ wr = W)
  case atStart => exact ⟨rfl, rfl, rfl⟩
  case round =>
    obtain ⟨rfl, rfl, rfl⟩ := hrel
    have hlt : ¬ (16 : Int) ≤ (n : Int) := by omega
    go_wp2_with fail
    go_ret2
    exact ⟨congrArg (fun c => Ending.returned (.tuple #[.slice none 0 0, .string ⟨#[c]⟩])) (hex_digit n hn), HC2.out _⟩

set_option maxRecDepth 100000 in
set_option maxHeartbeats 4000000 in
theorem hex_any (n : Nat) (hn : n < 16) (w : World) (h5 : w.cell? ⟨5, 15, none⟩ = some (.int .u8 4)) : Calls Tryd.prog 70 #[.int .i64 n, .int .i64 16] w fun e w' => e = .returned (.string ⟨#[hexd n]⟩) ∧ Chg (fun _ => False) w w' := by
  have e1 : IntKind.u64.wrap (n : Int) = n := wrap_small ⟨n, hn⟩
  go_enter Tryd.func70, Tryd.ntmps70
  go_wp2_with fail
  refine (bits_any n hn w h5).mono ?_
  rintro e w2 ⟨rfl, hch⟩
  go_wp2_with fail
  go_ret
  exact ⟨rfl, hch⟩
set_option maxRecDepth 100000 in
set_option maxHeartbeats 4000000 in
theorem formatInt16_any (n : Nat) (hn : n < 16) (w : World) (h5 : w.cell? ⟨5, 15, none⟩ = some (.int .u8 4)) : Calls Tryd.prog 53 #[.int .i64 n, .int .i64 16] w fun e w' => e = .returned (.string ⟨#[hexd n]⟩) ∧ Chg (fun _ => False) w w' := by
  go_enter Tryd.func53, Tryd.ntmps53
  go_wp2_with fail
  refine (hex_any n hn w h5).mono ?_
  rintro e w2 ⟨rfl, hch⟩
  go_wp2_with fail
  go_ret
  exact ⟨rfl, hch⟩
end Go.Proofs.YtknmbfkpclacgaaDoor
