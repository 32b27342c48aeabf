import Derived.Test.YtknmbfkpclacgaaGreatDoorMQu0
import Derived.Test.YtknmbfkpclacgaaGreatDoorShelf
import Derived.Test.YtknmbfkpclacgaaGreatDoorMQu1
import Derived.Lib.OthersKept
/- The walks of package step: first, at, inside, At. -/
set_option linter.unusedSimpArgs false
namespace Go.Proofs.YtknmbfkpclacgaaGreatDoor
open Go.RowKit

/-- The variable 'bad' of package step. -/
structure BadOk (w : World) (B : Nat) : Prop where
  g : 5 < B
  c0 : w.cell? ⟨5, 0, none⟩ = some (.int .i32 65533)
  c1 : w.cell? ⟨5, 1, none⟩ = some (.int .i64 1)
  c2 : w.cell? ⟨5, 2, none⟩ = some (.bool false)
theorem BadOk.keep {w w' : World} {B : Nat} (h : BadOk w B) (hb : Below B w w') : BadOk w' B :=
  ⟨h.g, by rw [← h.c0]; exact hb.cell (p := ⟨_, 0, none⟩) h.g, by rw [← h.c1]; exact hb.cell (p := ⟨_, 1, none⟩) h.g, by rw [← h.c2]; exact hb.cell (p := ⟨_, 2, none⟩) h.g⟩
theorem BadOk.at' {w w' : World} {B : Nat} (h : BadOk w B) (hB : B ≤ w.heap.size) (hc : Below w.heap.size w w') : BadOk w' B := h.keep (hc.mono hB)

/-- The step with which a text begins. -/
def stepV (l : List UInt8) : Value := match dec l with
  | some (r, n) => .agg #[.int .i32 (r : Int), .int .i64 (n : Int), .bool true]
  | none => .agg #[.int .i32 65533, .int .i64 1, .bool false]
theorem stepV_some {l : List UInt8} {r n : Nat} (h : dec l = some (r, n)) : stepV l = .agg #[.int .i32 (r : Int), .int .i64 (n : Int), .bool true] := by simp [stepV, h]
theorem stepV_none {l : List UInt8} (h : dec l = none) : stepV l = .agg #[.int .i32 65533, .int .i64 1, .bool false] := by simp [stepV, h]

theorem three_set {W : World} {b : Nat} {x0 x1 x2 y0 y1 y2 : Value} {t : TypeId} (h : W.heap[b]? = some (.cells #[x0, x1, x2] t (0, 0))) :
    (((W.setCell ⟨b, 0, none⟩ y0).setCell ⟨b, 1, none⟩ y1).setCell ⟨b, 2, none⟩ y2).heap[b]? = some (.cells #[y0, y1, y2] t (0, 0)) := by
  have h1 := heap_setCell_same h 0 y0
  have h2 := heap_setCell_same h1 1 y1
  have h3 := heap_setCell_same h2 2 y2
  exact h3
theorem below_three {w W : World} {b : Nat} (hb : w.heap.size ≤ b) (h : Below w.heap.size w W) (y0 y1 y2 : Value) :
    Below w.heap.size w (((W.setCell ⟨b, 0, none⟩ y0).setCell ⟨b, 1, none⟩ y1).setCell ⟨b, 2, none⟩ y2) :=
  ((h.setCell (p := ⟨b, 0, none⟩) hb _).setCell (p := ⟨b, 1, none⟩) hb _).setCell (p := ⟨b, 2, none⟩) hb _

set_option maxRecDepth 100000 in
set_option maxHeartbeats 4000000 in
theorem first_any (l : List UInt8) (hl : l ≠ []) (w : World) (B : Nat) (hbad : BadOk w B) (hB : B ≤ w.heap.size) :
    Calls Tryz.prog 276 #[.string ⟨l.toArray⟩] w fun e w' => e = .returned (stepV l) ∧ Below w.heap.size w w' := by
  have hs : (⟨l.toArray⟩ : ByteArray).size = l.length := by simp [ByteArray.size]
  have hl0 : 0 < l.length := List.length_pos_iff.2 hl
  generalize hW : (w.alloc (.cells #[.int .i32 0, .int .i64 0, .bool false] 117)).iter ⟨l.toArray⟩ 0 = W
  have hit : W.heap[w.heap.size + 1]? = some (.stringIter ⟨l.toArray⟩ 0) := by
    subst hW
    have := World.iter_heap (w.alloc (.cells #[.int .i32 0, .int .i64 0, .bool false] 117)) ⟨l.toArray⟩ 0
    simpa using this
  have hbl : Below w.heap.size w W := by
    subst hW
    exact ((Below.refl _ w).alloc (Nat.le_refl _) _).alloc (by simp) _
  have hrs : W.heap[w.heap.size]? = some (.cells #[.int .i32 0, .int .i64 0, .bool false] 117 (0, 0)) := by
    subst hW
    rw [World.iter, Below.heap_alloc _ _ _ (by simp)]
    exact heap_alloc_new w _
  have hnx : ∀ ty, (Instr.next (.pointer (some ⟨w.heap.size + 1, 0, none⟩)) true ty).run Tryz.prog W = _ := fun ty => Lib.run_next_any_at W (w.heap.size + 1) ⟨l.toArray⟩ 0 ty hit (by omega)
  rw [decode_dec l hl] at hnx
  have hrs2 := (Lib.iterAt_other W (w.heap.size + 1) w.heap.size ⟨l.toArray⟩ (0 + ((dec l).getD (65533, 1)).2) (by omega)).trans hrs
  have hbl2 := Lib.below_iterAt hbl (k := w.heap.size + 1) (by omega) ⟨l.toArray⟩ (0 + ((dec l).getD (65533, 1)).2)
  subst hW
  clear hit hbl hrs
  generalize hW2 : (((w.alloc (.cells #[.int .i32 0, .int .i64 0, .bool false] 117)).iter ⟨l.toArray⟩ 0).iterAt (w.heap.size + 1) ⟨l.toArray⟩ (0 + ((dec l).getD (65533, 1)).2)) = W2 at hnx hrs2 hbl2
  clear hW2
  have q0 : W2.cell? ⟨w.heap.size, 0, none⟩ = some (.int .i32 0) := by simp [World.cell?, hrs2]
  have q1 : W2.cell? ⟨w.heap.size, 1, none⟩ = some (.int .i64 0) := by simp [World.cell?, hrs2]
  have q2 : W2.cell? ⟨w.heap.size, 2, none⟩ = some (.bool false) := by simp [World.cell?, hrs2]
  have z0 : W2.frozen? ⟨w.heap.size, 0, none⟩ = false := by simp [World.frozen?, hrs2]
  have z1 : W2.frozen? ⟨w.heap.size, 1, none⟩ = false := by simp [World.frozen?, hrs2]
  have z2 : W2.frozen? ⟨w.heap.size, 2, none⟩ = false := by simp [World.frozen?, hrs2]
  have hbd := hbad.at' hB hbl2
  have b0 := hbd.c0
  have b1 := hbd.c1
  have b2 := hbd.c2
  have HRS := Lib.hid hrs2
  have HBL := Lib.hid hbl2
  clear hrs2 hbl2 hbd hbad
  cases hd : dec l with
  | some x =>
    obtain ⟨r, n⟩ := x
    obtain ⟨d1, d2, d3, d4, d5, d6⟩ := dec_enc l r n hd
    have henc := encode_encN r d5
    have hlen : (⟨(encN r).toArray⟩ : ByteArray).size = n := by simp [ByteArray.size, d6]
    rw [hd] at hnx
    have hst := stepV_some hd
    have HST := Lib.hid hst
    have HP : Hid (r = 65533 → l.take 3 = [239, 191, 189]) := fun e => (dec_fffd l).2 ⟨n, by rw [hd, e]⟩
    clear hst hd d1 d6
    simp only [Option.getD_some] at hnx
    go_enter Tryz.func276, Tryz.ntmps276
    go_wp2_with fail
    refine wp_loop_once ?_
    by_cases hr : r = 65533
    · have tr : ((r : Int) == 65533) = true := by rw [beq_iff_eq]; omega
      have hpre : Lib.hasPrefix l [239, 191, 189] = true := by
        simp only [Lib.hasPrefix, List.isPrefixOf_iff_prefix]
        exact ⟨l.drop 3, by rw [← HP.out hr]; exact List.take_append_drop 3 l⟩
      have HPRE := Lib.hid hpre
      clear hr hpre HP
      go_wp
      refine (Tryz.strings_HasPrefix _ _ _).mono ?_
      rintro e w1 ⟨rfl, rfl⟩
      rw [show Lib.hasPrefix (⟨l.toArray⟩ : ByteArray).data.toList (⟨#[239, 191, 189]⟩ : ByteArray).data.toList = true from HPRE.out]
      dsimp only
      go_wp
      (try simp only [Exit.inBlock, Exit.then])
      refine bodyPost_ret (v := .agg #[.int .i32 (r : Int), .int .i64 (n : Int), .bool true]) ?_ rfl ?_
      · simp [results, Tryz.results276, go_sem, *]
      · exact ⟨by rw [HST.out], below_three (Nat.le_refl _) HBL.out _ _ _⟩
    · have tr : ((r : Int) == 65533) = false := by rw [beq_eq_false_iff_ne]; omega
      clear hr HP
      go_wp
      (try simp only [Exit.inBlock, Exit.then])
      refine bodyPost_ret (v := .agg #[.int .i32 (r : Int), .int .i64 (n : Int), .bool true]) ?_ rfl ?_
      · simp [results, Tryz.results276, go_sem, *]
      · exact ⟨by rw [HST.out], below_three (Nat.le_refl _) HBL.out _ _ _⟩
  | none =>
    rw [hd] at hnx
    have hst := stepV_none hd
    have HST := Lib.hid hst
    have hpre : Lib.hasPrefix l [239, 191, 189] = false := by
      rw [← Bool.not_eq_true]
      intro h
      simp only [Lib.hasPrefix, List.isPrefixOf_iff_prefix] at h
      obtain ⟨t, ht⟩ := h
      obtain ⟨n, hn⟩ := (dec_fffd l).1 (by rw [← ht]; rfl)
      rw [hd] at hn; cases hn
    have HPRE := Lib.hid hpre
    clear hst hd hpre
    simp only [Option.getD_none] at hnx
    go_enter Tryz.func276, Tryz.ntmps276
    go_wp2_with fail
    refine wp_loop_once ?_
    go_wp
    refine (Tryz.strings_HasPrefix _ _ _).mono ?_
    rintro e w1 ⟨rfl, rfl⟩
    rw [show Lib.hasPrefix (⟨l.toArray⟩ : ByteArray).data.toList (⟨#[239, 191, 189]⟩ : ByteArray).data.toList = false from HPRE.out]
    dsimp only
    go_wp
    (try simp only [Exit.inBlock, Exit.then])
    refine bodyPost_ret (v := .agg #[.int .i32 65533, .int .i64 1, .bool false]) ?_ rfl ?_
    · simp [results, Tryz.results276, go_sem, *]
    · exact ⟨by rw [HST.out], below_three (Nat.le_refl _) HBL.out _ _ _⟩

/-- string(b[p:p+m]) -/
theorem conv_part {P : Program} {src e dst : TypeId} (hs : P.underlying src = some (.slice e)) (he : P.underlying e = some (.int .u8)) (hd : P.underlying dst = some .string)
    (w : World) (b o p m c : Nat) (l : List UInt8) (hm : p + m ≤ l.length) (hc : ∀ j, j < l.length → w.cell? ⟨b, o + j, none⟩ = some (.int .u8 ((pk l j).toNat : Int))) :
    (convert src dst (.slice (some ⟨b, o + p, none⟩) m c)).run P w = .ok (.string ⟨((l.drop p).take m).toArray⟩) w :=
  conv_bytes hs he hd w b (o + p) m c ((l.drop p).take m) (by simp; omega) (fun j hj => by
    rw [show o + p + j = o + (p + j) from by omega, hc (p + j) (by omega)]
    simp only [pk, List.getD_eq_getElem?_getD, List.getElem?_take, if_pos hj, List.getElem?_drop])

set_option maxRecDepth 100000 in
set_option maxHeartbeats 4000000 in
theorem at_any (A : Option Addr) (cap : Nat) (l : List UInt8) (p : Nat) (hp : p < l.length) (hcap : l.length ≤ cap) (w : World) (B : Nat) (hb : Bs w B A l) (hbad : BadOk w B) (hB : B ≤ w.heap.size) :
    Calls Tryz.prog 246 #[.slice A l.length cap, .int .i64 p] w fun e w' => e = .returned (stepV (l.drop p)) ∧ Below w.heap.size w w' := by
  have hln := hb.len
  obtain ⟨b, o, rfl, hne, hc⟩ := hb.cells (by omega)
  have hs4 : stepV ((l.drop p).take 4) = stepV (l.drop p) := by simp only [stepV, dec_take4]
  have HS4 := Lib.hid hs4
  clear hs4
  have hcA : ∀ j, j < l.length → (w.alloc (.cells #[.int .i32 0, .int .i64 0, .bool false] 117)).cell? ⟨b, o + j, none⟩ = some (.int .u8 ((pk l j).toNat : Int)) := fun j hj => by
    rw [← hc j hj]; exact ((Below.refl _ w).alloc (Nat.le_refl _) _).cell (p := ⟨b, o + j, none⟩) (by show b < _; omega)
  have hbdA : BadOk (w.alloc (.cells #[.int .i32 0, .int .i64 0, .bool false] 117)) B := hbad.keep ((Below.refl _ w).alloc hB _)
  have hm0 : 0 < min 4 (l.length - p) := by omega
  have hcv : ∀ m c, m = min 4 (l.length - p) → (convert 22 9 (.slice (some ⟨b, o + p, none⟩) m c)).run Tryz.prog (w.alloc (.cells #[.int .i32 0, .int .i64 0, .bool false] 117)) = .ok (.string ⟨((l.drop p).take 4).toArray⟩) (w.alloc (.cells #[.int .i32 0, .int .i64 0, .bool false] 117)) := fun m c hm => by
      rw [conv_part (e := 5) (by kernel_rfl) (by kernel_rfl) (by kernel_rfl) _ b o p m c l (by omega) hcA, show (l.drop p).take m = (l.drop p).take 4 from by
        subst hm; rw [← List.take_eq_take_iff.2]; simp]
  have hcw := fun c => hcv ((min ((p : Int) + 4) (l.length : Int)).toNat - p) c (by omega)
  have hne4 : (l.drop p).take 4 ≠ [] := by
    intro h; have := congrArg List.length h; simp at this; omega
  have hrs : (w.alloc (.cells #[.int .i32 0, .int .i64 0, .bool false] 117)).heap[w.heap.size]? = some (.cells #[.int .i32 0, .int .i64 0, .bool false] 117 (0, 0)) := heap_alloc_new w _
  have hbl : Below w.heap.size w (w.alloc (.cells #[.int .i32 0, .int .i64 0, .bool false] 117)) := (Below.refl _ w).alloc (Nat.le_refl _) _
  have hend : ∀ w1, Below (w.alloc (.cells #[.int .i32 0, .int .i64 0, .bool false] 117)).heap.size (w.alloc (.cells #[.int .i32 0, .int .i64 0, .bool false] 117)) w1 →
      w1.heap[w.heap.size]? = some (.cells #[.int .i32 0, .int .i64 0, .bool false] 117 (0, 0)) ∧ Below w.heap.size w w1 := fun w1 h1 =>
    ⟨by rw [← hrs]; exact h1.block _ (by simp), hbl.trans (h1.mono (by simp))⟩
  have HEND := Lib.hid hend
  have HNE := Lib.hid hne4
  have HBD := Lib.hid hbdA
  clear hc hcA hcv hrs hbl hend hne4 hbdA
  obtain ⟨r, n, bb, hst⟩ : ∃ (r n : Int) (bb : Bool), stepV (l.drop p) = .agg #[.int .i32 r, .int .i64 n, .bool bb] := by
    unfold stepV; split
    · exact ⟨_, _, _, rfl⟩
    · exact ⟨_, _, _, rfl⟩
  have HST := Lib.hid hst
  clear hst
  go_enter Tryz.func246, Tryz.ntmps246
  go_wp2_with fail
  refine (first_any _ HNE.out _ B HBD.out (by simp; omega)).mono ?_
  rintro e w1 ⟨rfl, hb1⟩
  rw [HS4.out, HST.out]
  obtain ⟨hrs1, hbl1⟩ := HEND.out w1 hb1
  have q0 : w1.cell? ⟨w.heap.size, 0, none⟩ = some (.int .i32 0) := by simp [World.cell?, hrs1]
  have q1 : w1.cell? ⟨w.heap.size, 1, none⟩ = some (.int .i64 0) := by simp [World.cell?, hrs1]
  have q2 : w1.cell? ⟨w.heap.size, 2, none⟩ = some (.bool false) := by simp [World.cell?, hrs1]
  have z0 : w1.frozen? ⟨w.heap.size, 0, none⟩ = false := by simp [World.frozen?, hrs1]
  have z1 : w1.frozen? ⟨w.heap.size, 1, none⟩ = false := by simp [World.frozen?, hrs1]
  have z2 : w1.frozen? ⟨w.heap.size, 2, none⟩ = false := by simp [World.frozen?, hrs1]
  have HB1 := Lib.hid hbl1
  clear hrs1 hbl1 hb1
  dsimp only
  go_wp
  (try simp only [Exit.inBlock, Exit.then])
  refine bodyPost_ret (v := .agg #[.int .i32 r, .int .i64 n, .bool bb]) ?_ rfl ?_
  · simp [results, Tryz.results246, go_sem, *]
  · exact ⟨by rw [HST.out], below_three (Nat.le_refl _) HB1.out _ _ _⟩

theorem stepV_form (l : List UInt8) : ∃ (r : Int) (b : Bool), stepV l = .agg #[.int .i32 r, .int .i64 (wid l : Int), .bool b] := by
  cases hd : dec l with
  | some x => exact ⟨x.1, true, by simp [stepV, wid, hd]⟩
  | none => exact ⟨65533, false, by simp [stepV, wid, hd]⟩
theorem wid_le (l : List UInt8) : wid l ≤ 4 := by
  unfold wid
  split
  · rename_i h; have := dec_enc l _ _ h; omega
  · omega
def hit (l : List UInt8) (p k : Nat) : Prop := k ≤ p ∧ k < wid (l.drop (p - k))
theorem inside_hit {l : List UInt8} {p k : Nat} (h1 : 1 ≤ k) (h3 : k ≤ 3) (h : hit l p k) (hno : ∀ j, 1 ≤ j → j < k → ¬ hit l p j) : insideN l p = k := by
  unfold hit at h hno
  unfold insideN
  rcases (show k = 1 ∨ k = 2 ∨ k = 3 from by omega) with rfl | rfl | rfl
  · rw [if_pos h]
  · rw [if_neg (hno 1 (by omega) (by omega)), if_pos h]
  · rw [if_neg (hno 1 (by omega) (by omega)), if_neg (hno 2 (by omega) (by omega)), if_pos h]
theorem inside_none {l : List UInt8} {p k : Nat} (hno : ∀ j, 1 ≤ j → j < k → ¬ hit l p j) (hk : 3 < k ∨ p < k) : insideN l p = 0 := by
  unfold hit at hno
  unfold insideN
  rw [if_neg, if_neg, if_neg]
  · intro h; rcases Nat.lt_or_ge 3 k with hk' | hk'
    · exact hno 3 (by omega) hk' h
    · have := h.1; omega
  · intro h; rcases Nat.lt_or_ge 2 k with hk' | hk'
    · exact hno 2 (by omega) hk' h
    · have := h.1; omega
  · intro h; rcases Nat.lt_or_ge 1 k with hk' | hk'
    · exact hno 1 (by omega) hk' h
    · have := h.1; omega

set_option maxRecDepth 100000 in
set_option maxHeartbeats 4000000 in
theorem inside_any (A : Option Addr) (cap : Nat) (l : List UInt8) (p : Nat) (hp : p < l.length) (hcap : l.length ≤ cap) (w : World) (B : Nat) (hb : Bs w B A l) (hbad : BadOk w B) (hB : B ≤ w.heap.size) :
    Calls Tryz.prog 245 #[.slice A l.length cap, .int .i64 p] w fun e w' => e = .returned (.int .i64 (insideN l p : Int)) ∧ Below w.heap.size w w' := by
  have hln := hb.len
  go_enter Tryz.func245, Tryz.ntmps245
  go_wp2_with fail
  go_loopg [5] 4 (fun g vk wr => ∃ k : Nat, vk = .int .i64 k ∧ 1 ≤ k ∧ k ≤ 4 ∧ (∀ j, 1 ≤ j → j < k → ¬ hit l p j) ∧ Below w.heap.size w wr ∧ 4 - k + 1 = g)
  case atStart => exact ⟨1, rfl, by omega, by omega, fun j h1 h2 => by omega, Below.refl _ _, rfl⟩
  case round =>
    obtain ⟨k, rfl, hk1, hk4, hno, hbw, hg⟩ := hrel
    have HN := Lib.hid hno
    have HG := Lib.hid hg
    clear hno hg
    have hb' := hb.keep (hbw.mono hB)
    have hbad' := hbad.keep (hbw.mono hB)
    have hsz := hbw.size
    by_cases hk : k ≤ 3
    · by_cases hkp : k ≤ p
      · go_wp2_with fail
        rw [show (p : Int) - (k : Int) = ((p - k : Nat) : Int) from by omega]
        refine (at_any A cap l (p - k) (by omega) hcap _ B hb' hbad' (by omega)).mono ?_
        rintro e w1 ⟨rfl, hb1⟩
        obtain ⟨r, bb, hst⟩ := stepV_form (l.drop (p - k))
        rw [hst]
        have hfl : ∀ W : World, (Instr.field 117 (.agg #[.int .i32 r, .int .i64 (wid (l.drop (p - k)) : Int), .bool bb]) 1).run Tryz.prog W = .ok (.int .i64 (wid (l.drop (p - k)) : Int)) W := fun _ => by kernel_rfl
        have hbw1 : Below w.heap.size w w1 := hbw.trans (hb1.mono hsz)
        by_cases hw : k < wid (l.drop (p - k))
        · have hin := inside_hit hk1 hk ⟨hkp, hw⟩ HN.out
          have HIN := Lib.hid hin
          clear hin hst
          go_wp2_with fail
          go_ret
          exact ⟨by rw [HIN.out]; rfl, hbw1⟩
        · have HW := Lib.hid hw
          have hw' : wid (l.drop (p - k)) ≤ k := by omega
          clear hst hw
          go_wp2_with fail
          go_roundg (4 - (k + 1) + 1)
          case measure => rw [← HG.out]; omega
          case rel =>
            refine ⟨k + 1, by go_num, by omega, by omega, fun j h1 h2 h => ?_, hbw1, rfl⟩
            rcases Nat.lt_or_ge j k with h3 | h3
            · exact HN.out j h1 h3 h
            · obtain rfl : j = k := by omega
              exact HW.out h.2
      · have hin := inside_none HN.out (.inr (by omega))
        have HIN := Lib.hid hin
        clear hin
        go_wp2_with fail
        go_ret
        exact ⟨by rw [HIN.out]; rfl, hbw⟩
    · have hin := inside_none HN.out (.inl (by omega))
      have HIN := Lib.hid hin
      clear hin
      go_wp2_with fail
      go_ret
      exact ⟨by rw [HIN.out]; rfl, hbw⟩

/-- What step.At answers. -/
def atV (l : List UInt8) (p : Nat) : Value := if insideN l p = 0 then .tuple #[stepV (l.drop p), .int .i64 0] else .tuple #[.agg #[.int .i32 0, .int .i64 0, .bool false], .int .i64 4]
theorem atV_in {l : List UInt8} {p : Nat} (h : insideN l p ≠ 0) : atV l p = .tuple #[.agg #[.int .i32 0, .int .i64 0, .bool false], .int .i64 4] := by simp [atV, h]
theorem atV_out {l : List UInt8} {p : Nat} (h : insideN l p = 0) : atV l p = .tuple #[stepV (l.drop p), .int .i64 0] := by simp [atV, h]

set_option maxRecDepth 100000 in
set_option maxHeartbeats 4000000 in
theorem At_any (A : Option Addr) (cap : Nat) (l : List UInt8) (p : Nat) (hp : p < l.length) (hcap : l.length ≤ cap) (w : World) (B : Nat) (hb : Bs w B A l) (hbad : BadOk w B) (hB : B ≤ w.heap.size) :
    Calls Tryz.prog 176 #[.slice A l.length cap, .int .i64 p] w fun e w' => e = .returned (atV l p) ∧ Below w.heap.size w w' := by
  have hln := hb.len
  have hrs : (w.alloc (.cells #[.int .i32 0, .int .i64 0, .bool false] 117)).heap[w.heap.size]? = some (.cells #[.int .i32 0, .int .i64 0, .bool false] 117 (0, 0)) := heap_alloc_new w _
  have hbl : Below w.heap.size w (w.alloc (.cells #[.int .i32 0, .int .i64 0, .bool false] 117)) := (Below.refl _ w).alloc (Nat.le_refl _) _
  have hend : ∀ w1, Below (w.alloc (.cells #[.int .i32 0, .int .i64 0, .bool false] 117)).heap.size (w.alloc (.cells #[.int .i32 0, .int .i64 0, .bool false] 117)) w1 →
      w1.heap[w.heap.size]? = some (.cells #[.int .i32 0, .int .i64 0, .bool false] 117 (0, 0)) ∧ Below w.heap.size w w1 := fun w1 h1 =>
    ⟨by rw [← hrs]; exact h1.block _ (by simp), hbl.trans (h1.mono (by simp))⟩
  have hbA := hb.keep (hbl.mono hB)
  have hbdA := hbad.keep (hbl.mono hB)
  have HEND := Lib.hid hend
  clear hrs hbl hend
  go_enter Tryz.func176, Tryz.ntmps176
  go_wp2_with fail
  refine (inside_any A cap l p hp hcap _ B hbA hbdA (by simp; omega)).mono ?_
  rintro e w1 ⟨rfl, hb1⟩
  obtain ⟨hrs1, hbl1⟩ := HEND.out w1 hb1
  have hsz1 := hbl1.size
  by_cases hin : insideN l p = 0
  · have hb1' := hb.keep (hbl1.mono hB)
    have hbad1 := hbad.keep (hbl1.mono hB)
    have HV := Lib.hid (atV_out hin)
    have hin' : ((insideN l p : Nat) : Int) = 0 := by omega
    rw [hin']
    clear hin hin'
    go_wp2_with fail
    refine (at_any A cap l p hp hcap _ B hb1' hbad1 (by omega)).mono ?_
    rintro e w2 ⟨rfl, hb2⟩
    obtain ⟨r, bb, hst⟩ := stepV_form (l.drop p)
    have HST := Lib.hid hst
    rw [hst]
    clear hst
    have hlt1 : w.heap.size < w1.heap.size := lt_of_block hrs1
    have hrs2 : w2.heap[w.heap.size]? = some (.cells #[.int .i32 0, .int .i64 0, .bool false] 117 (0, 0)) := by rw [← hrs1]; exact hb2.block _ hlt1
    have hbl2 := hbl1.trans (hb2.mono hsz1)
    have q0 : w2.cell? ⟨w.heap.size, 0, none⟩ = some (.int .i32 0) := by simp [World.cell?, hrs2]
    have q1 : w2.cell? ⟨w.heap.size, 1, none⟩ = some (.int .i64 0) := by simp [World.cell?, hrs2]
    have q2 : w2.cell? ⟨w.heap.size, 2, none⟩ = some (.bool false) := by simp [World.cell?, hrs2]
    have z0 : w2.frozen? ⟨w.heap.size, 0, none⟩ = false := by simp [World.frozen?, hrs2]
    have z1 : w2.frozen? ⟨w.heap.size, 1, none⟩ = false := by simp [World.frozen?, hrs2]
    have z2 : w2.frozen? ⟨w.heap.size, 2, none⟩ = false := by simp [World.frozen?, hrs2]
    have HB2 := Lib.hid hbl2
    clear hrs1 hbl1 hb1 hrs2 hbl2 hb2 hlt1
    dsimp only
    go_wp
    (try simp only [Exit.inBlock, Exit.then])
    refine bodyPost_ret (v := .tuple #[.agg #[.int .i32 r, .int .i64 (wid (l.drop p) : Int), .bool bb], .int .i64 0]) ?_ rfl ?_
    · simp [results, Tryz.results176, go_sem, *]
    · exact ⟨by rw [HV.out, HST.out], below_three (Nat.le_refl _) HB2.out _ _ _⟩
  · have HV := Lib.hid (atV_in hin)
    have hin' : 0 < insideN l p := by omega
    have q0 : w1.cell? ⟨w.heap.size, 0, none⟩ = some (.int .i32 0) := by simp [World.cell?, hrs1]
    have q1 : w1.cell? ⟨w.heap.size, 1, none⟩ = some (.int .i64 0) := by simp [World.cell?, hrs1]
    have q2 : w1.cell? ⟨w.heap.size, 2, none⟩ = some (.bool false) := by simp [World.cell?, hrs1]
    have z0 : w1.frozen? ⟨w.heap.size, 0, none⟩ = false := by simp [World.frozen?, hrs1]
    have z1 : w1.frozen? ⟨w.heap.size, 1, none⟩ = false := by simp [World.frozen?, hrs1]
    have z2 : w1.frozen? ⟨w.heap.size, 2, none⟩ = false := by simp [World.frozen?, hrs1]
    have HB1 := Lib.hid hbl1
    clear hrs1 hbl1 hb1 hin
    go_wp2_with fail
    (try simp only [Exit.inBlock, Exit.then])
    refine bodyPost_ret (v := .tuple #[.agg #[.int .i32 0, .int .i64 0, .bool false], .int .i64 4]) ?_ rfl ?_
    · simp [results, Tryz.results176, go_sem, *]
    · exact ⟨by rw [HV.out], below_three (Nat.le_refl _) HB1.out _ _ _⟩
theorem atV_form (l : List UInt8) (p : Nat) : ∃ (r n : Int) (b : Bool) (e : Int), atV l p = .tuple #[.agg #[.int .i32 r, .int .i64 n, .bool b], .int .i64 e] := by
  unfold atV
  split
  · obtain ⟨r, b, h⟩ := stepV_form (l.drop p)
    exact ⟨r, _, b, 0, by rw [h]⟩
  · exact ⟨0, 0, false, 4, rfl⟩
end Go.Proofs.YtknmbfkpclacgaaGreatDoor
