import Derived.Test.YtknmbfkpclacgaaGreatDoorMQu10
import Derived.Test.YtknmbfkpclacgaaGreatDoorMQu0
import Derived.Laws.Cover4
import Derived.Laws.IdiomStrings
import Derived.Lib.TrimUEq
import Derived.Test.YtknmbfkpclacgaaGreatDoorShelf
/- A string as runes and back: is it valid? (plain law) -/
set_option linter.unusedSimpArgs false
namespace Go.Proofs.YtknmbfkpclacgaaGreatDoor
open Go.RowKit

def stepJ (l : List UInt8) : Nat × Nat := (dec l).getD (65533, 1)
def runesL : Nat → List UInt8 → List Int
  | 0, _ => []
  | k + 1, l => if l = [] then [] else ((stepJ l).1 : Int) :: runesL k (l.drop (stepJ l).2)
def outL : Nat → List UInt8 → List UInt8
  | 0, _ => []
  | k + 1, l => if l = [] then [] else encN (stepJ l).1 ++ outL k (l.drop (stepJ l).2)
theorem decode_drop (l : List UInt8) (i : Nat) (hi : i < l.length) : Utf8.decode ⟨l.toArray⟩ i = stepJ (l.drop i) := by
  have h := Lib.decodeL_drop ⟨l.toArray⟩ i
  rw [← h]
  show Utf8.decode _ 0 = _
  have hne : l.drop i ≠ [] := by
    intro e
    have := congrArg List.length e
    simp at this
    omega
  exact decode_dec (l.drop i) hne
theorem runesFrom_L (l : List UInt8) : ∀ (k i : Nat) (acc : Array Value), Conv.runesFrom ⟨l.toArray⟩ k i acc = acc ++ ((runesL k (l.drop i)).map (Value.int .i32)).toArray
  | 0, i, acc => by simp [Conv.runesFrom, runesL]
  | k + 1, i, acc => by
    rw [Conv.runesFrom, runesL]
    have hsz : (⟨l.toArray⟩ : ByteArray).size = l.length := by show l.toArray.size = _; simp
    rw [hsz]
    by_cases hi : i < l.length
    · have hne : l.drop i ≠ [] := by
        intro e
        have := congrArg List.length e
        simp at this
        omega
      rw [if_pos hi, if_neg hne, decode_drop l i hi]
      simp only
      rw [runesFrom_L l k _ _, List.drop_drop]
      simp [Nat.add_comm]
    · have he : l.drop i = [] := List.drop_eq_nil_of_le (by omega)
      rw [if_neg hi, if_pos he]
      simp
theorem stepJ_valid (l : List UInt8) (_h : l ≠ []) : validR (stepJ l).1 = true ∧ 1 ≤ (stepJ l).2 := by
  unfold stepJ
  cases hd : dec l with
  | none => exact ⟨by decide, by decide⟩
  | some p => obtain ⟨r, n⟩ := p; have := dec_enc l r n hd; exact ⟨this.2.2.2.2.1, this.2.1⟩
theorem foldl_enc : ∀ (ns : List Nat) (s : List UInt8), (∀ n ∈ ns, validR n = true) → (ns.map (fun n : Nat => (n : Int))).foldl (fun r n => r ++ Utf8.encode n) (⟨s.toArray⟩ : ByteArray) = ⟨(s ++ ns.flatMap encN).toArray⟩
  | [], s, _ => by simp
  | n :: ns, s, h => by
    simp only [List.map_cons, List.foldl_cons, List.flatMap_cons]
    rw [encode_encN n (h n (by simp))]
    have : (⟨s.toArray⟩ : ByteArray) ++ ⟨(encN n).toArray⟩ = ⟨(s ++ encN n).toArray⟩ := by
      apply ByteArray.ext
      simp
    rw [this, foldl_enc ns _ (fun m hm => h m (by simp [hm])), List.append_assoc]
def runesN : Nat → List UInt8 → List Nat
  | 0, _ => []
  | k + 1, l => if l = [] then [] else (stepJ l).1 :: runesN k (l.drop (stepJ l).2)
theorem runesN_L : ∀ (k : Nat) (l : List UInt8), runesL k l = (runesN k l).map (fun n : Nat => (n : Int))
  | 0, _ => rfl
  | k + 1, l => by
    rw [runesL, runesN]
    split
    · rfl
    · rw [runesN_L k]; rfl
theorem runesN_out : ∀ (k : Nat) (l : List UInt8), (runesN k l).flatMap encN = outL k l
  | 0, _ => rfl
  | k + 1, l => by
    rw [outL, runesN]
    split
    · rfl
    · rw [List.flatMap_cons, runesN_out k]
theorem runesN_valid : ∀ (k : Nat) (l : List UInt8), ∀ n ∈ runesN k l, validR n = true
  | 0, _, n, h => by simp [runesN] at h
  | k + 1, l, n, h => by
    rw [runesN] at h
    split at h
    · simp at h
    · rename_i hne
      rcases List.mem_cons.1 h with rfl | h
      · exact (stepJ_valid l hne).1
      · exact runesN_valid k _ n h
theorem runesBytes_L (k : Nat) (l : List UInt8) : runesBytes (runesL k l) = ⟨(outL k l).toArray⟩ := by
  unfold runesBytes
  rw [runesN_L, ← runesN_out]
  have := foldl_enc (runesN k l) [] (runesN_valid k l)
  rw [List.nil_append] at this
  exact this
theorem outL_ge : ∀ (k : Nat) (l : List UInt8), l.length ≤ k → l.length ≤ (outL k l).length
  | 0, l, h => by omega
  | k + 1, l, h => by
    rw [outL]
    split
    · rename_i e; simp [e]
    · rename_i hne
      have hpos := List.length_pos_iff.2 hne
      have h1 := (stepJ_valid l hne).2
      have ih := outL_ge k (l.drop (stepJ l).2) (by rw [List.length_drop]; omega)
      rw [List.length_append]
      rw [List.length_drop] at ih
      cases hd : dec l with
      | none =>
        have e1 : stepJ l = (65533, 1) := by unfold stepJ; rw [hd]; rfl
        rw [e1] at ih ⊢
        simp only at ih ⊢
        have : (encN 65533).length = 3 := by decide
        omega
      | some p =>
        obtain ⟨r, n⟩ := p
        have e1 : stepJ l = (r, n) := by unfold stepJ; rw [hd]; rfl
        have e2 := dec_enc l r n hd
        rw [e1] at ih ⊢
        simp only at ih ⊢
        omega
theorem outL_eq : ∀ (k : Nat) (l : List UInt8), l.length ≤ k → (outL k l = l ↔ vld k l = true)
  | 0, l, h => by
    have : l = [] := List.length_eq_zero_iff.1 (by omega)
    subst this
    simp [outL, vld]
  | k + 1, l, h => by
    rw [outL]
    split
    · rename_i e; subst e; simp [vld]
    · rename_i hne
      have hpos := List.length_pos_iff.2 hne
      cases hd : dec l with
      | none =>
        have e1 : stepJ l = (65533, 1) := by unfold stepJ; rw [hd]; rfl
        rw [e1]
        have ih := outL_ge k (l.drop 1) (by rw [List.length_drop]; omega)
        rw [List.length_drop] at ih
        have hv : vld (k + 1) l = false := by
          cases l with
          | nil => exact absurd rfl hne
          | cons c r => simp [vld, hd]
        rw [hv]
        constructor
        · intro e
          have := congrArg List.length e
          rw [List.length_append] at this
          simp only at this
          have h3 : (encN 65533).length = 3 := by decide
          omega
        · intro e; cases e
      | some p =>
        obtain ⟨r, n⟩ := p
        have e1 : stepJ l = (r, n) := by unfold stepJ; rw [hd]; rfl
        have e2 := dec_enc l r n hd
        rw [e1]
        have ih := outL_eq k (l.drop n) (by rw [List.length_drop]; omega)
        have hv : vld (k + 1) l = vld k (l.drop n) := by
          cases l with
          | nil => exact absurd rfl hne
          | cons c r => simp [vld, hd]
        rw [hv, ← ih]
        simp only
        rw [← e2.1]
        constructor
        · intro e
          have h5 := e.trans (List.take_append_drop n l).symm
          exact List.append_cancel_left h5
        · intro e
          rw [e]
          exact List.take_append_drop n l
/-- A string that goes to runes and back is the same just where it is valid. -/
theorem runes_back (l : List UInt8) : outL l.length l = l ↔ validL l = true := outL_eq l.length l (Nat.le_refl _)
theorem runesL_len : ∀ (k : Nat) (l : List UInt8), (runesL k l).length ≤ k
  | 0, _ => by simp [runesL]
  | k + 1, l => by
    rw [runesL]
    split
    · simp
    · have := runesL_len k (l.drop (stepJ l).2)
      simp; omega
theorem outL_len (k : Nat) (l : List UInt8) : (outL k l).length ≤ 4 * k := by
  have h := runesBytes_size_le (runesL k l)
  have h2 := runesL_len k l
  rw [runesBytes_L] at h
  have : (⟨(outL k l).toArray⟩ : ByteArray).size = (outL k l).length := by show (outL k l).toArray.size = _; simp
  omega
end Go.Proofs.YtknmbfkpclacgaaGreatDoor

/- step.Runes, step.Valid, json.valid: the walks. -/
set_option linter.unusedSimpArgs false
namespace Go.Proofs.YtknmbfkpclacgaaGreatDoor
open Go.RowKit

theorem valid_b (l : List UInt8) : (outL l.length l == l) = validL l := by
  have h := runes_back l
  cases hv : validL l with
  | true => rw [h.2 hv]; simp
  | false =>
    rw [beq_eq_false_iff_ne]
    intro e
    rw [h.1 e] at hv; cases hv
theorem addr_zero (rb j : Nat) : (⟨rb, 0, none⟩ : Addr).add j = ⟨rb, j, none⟩ := by unfold Addr.add; split <;> simp_all

set_option maxRecDepth 100000 in
set_option maxHeartbeats 4000000 in
theorem runes_any (b o cap : Nat) (l : List UInt8) (w : World) (hc : ∀ j, j < l.length → w.cell? ⟨b, o + j, none⟩ = some (.int .u8 ((pk l j).toNat : Int))) (hl : l.length ≤ 70368744177664) :
    Calls Tryz.prog 190 #[.slice (some ⟨b, o, none⟩) l.length cap] w fun e w' => ∃ (rb c : Nat), e = .returned (.slice (some ⟨rb, 0, none⟩) (runesL l.length l).length c) ∧ Chg (fun _ => False) w w' ∧ ∀ j, j < (runesL l.length l).length → w'.cell? ⟨rb, j, none⟩ = some (.int .i32 ((runesL l.length l).getD j 0)) := by
  have hconv : (convert 22 9 (.slice (some ⟨b, o, none⟩) l.length cap)).run Tryz.prog w = .ok (.string ⟨l.toArray⟩) w :=
    conv_bytes Tryz.underlying22 Tryz.underlying5 Tryz.underlying9 w b o l.length cap l rfl hc
  have hsz : (⟨l.toArray⟩ : ByteArray).size = l.length := by show l.toArray.size = _; simp
  have hrf : Conv.runesFrom ⟨l.toArray⟩ l.length 0 #[] = ((runesL l.length l).map (Value.int .i32)).toArray := by rw [runesFrom_L]; simp
  have hr := run_runes_of_string (P := Tryz.prog) w 9 236 21 ⟨l.toArray⟩ Tryz.underlying9 Tryz.underlying236 Tryz.underlying21
  rw [hsz, hrf] at hr
  have hrl := runesL_len l.length l
  have hr2 := hr (by simp; omega)
  clear hr hrf hsz
  generalize runesL l.length l = R at *
  have hR : (R.map (Value.int .i32)).toArray.size = R.length := by simp
  rw [hR] at hr2
  generalize hz : grownCap w R.length 0 21 = cc at *
  generalize hWW : w.drew.alloc (.cells ((R.map (Value.int .i32)).toArray ++ Array.replicate (cc - R.length) (.int .i32 0)) 21) = W at *
  have hch : Chg (fun _ => False) w W := by rw [← hWW]; exact ((Chg.refl _ _).drew).alloc _
  have hcells : ∀ j, j < R.length → W.cell? ⟨w.heap.size, j, none⟩ = some (.int .i32 (R.getD j 0)) := fun j hj => by
    have h := heap_alloc_new w.drew (.cells ((R.map (Value.int .i32)).toArray ++ Array.replicate (cc - R.length) (.int .i32 0)) 21)
    rw [hWW] at h
    rw [cell_of_row W w.heap.size j _ _ _ h, Array.getElem?_append_left (by simpa using hj)]
    simp [List.getD_eq_getElem?_getD, hj]
  clear hWW hz hR hrl
  go_enter Tryz.func190, Tryz.ntmps190
  go_wp2_with fail
  go_ret
  exact ⟨w.heap.size, cc, rfl, hch, hcells⟩

set_option maxRecDepth 100000 in
set_option maxHeartbeats 4000000 in
theorem step_valid_any (b o cap : Nat) (l : List UInt8) (w : World) (_hb : b < w.heap.size) (hc : ∀ j, j < l.length → w.cell? ⟨b, o + j, none⟩ = some (.int .u8 ((pk l j).toNat : Int))) (hl : l.length ≤ 70368744177664) :
    Calls Tryz.prog 136 #[.slice (some ⟨b, o, none⟩) l.length cap] w fun e w' => e = .returned (.bool (validL l)) ∧ Chg (fun _ => False) w w' := by
  have HC := Lib.hid hc
  clear hc
  have hconv1 : ∀ W : World, Chg (fun _ => False) w W → (convert 22 9 (.slice (some ⟨b, o, none⟩) l.length cap)).run Tryz.prog W = .ok (.string ⟨l.toArray⟩) W := fun W h =>
    conv_bytes Tryz.underlying22 Tryz.underlying5 Tryz.underlying9 W b o l.length cap l rfl (fun j hj => h.cell (HC.out j hj) id)
  have H1 := Lib.hid hconv1
  have hconv0 := hconv1 w.drew ((Chg.refl _ _).drew)
  clear hconv1
  go_enter Tryz.func136, Tryz.ntmps136
  go_wp2_with fail
  go_region_with
    ((go_at_call 190; refine (runes_any b o cap l w.drew HC.out hl).mono ?_; rintro e w3 ⟨rb, c, rfl, hch3, hcells⟩; have hcv := H1.out w3 (((Chg.refl _ _).drew).trans hch3); have hcr := run_convert_runes (P := Tryz.prog) w3 236 9 21 ⟨rb, 0, none⟩ (runesL l.length l).length c (runesL l.length l) (Nat.le_refl _) Tryz.underlying236 Tryz.underlying21 Tryz.underlying9 (fun j hj => by rw [addr_zero]; exact hcells j hj); rw [List.take_length, runesBytes_L] at hcr))
  all_goals
    have hfin := ((Chg.refl (fun _ => False) w).drew).trans hch3
    have HF := Lib.hid hfin
    clear hcells hcv hcr hfin hconv0
    go_wp2_with fail
    go_ret
    refine ⟨?_, HF.out⟩
    rw [← valid_b l]
    rfl

set_option maxRecDepth 100000 in
set_option maxHeartbeats 4000000 in
theorem valid_any (l : List UInt8) (w : World) (hl : l.length ≤ 70368744177664) :
    Calls Tryz.prog 62 #[.string ⟨l.toArray⟩] w fun e w' => e = .returned (.bool (validL l)) ∧ Chg (fun _ => False) w w' := by
  have hsz : (⟨l.toArray⟩ : ByteArray).size = l.length := by show l.toArray.size = _; simp
  have hcv := run_bytes_of_string (P := Tryz.prog) w 9 22 5 ⟨l.toArray⟩ Tryz.underlying9 Tryz.underlying22 Tryz.underlying5
  rw [hsz] at hcv
  generalize grownCap w l.length 0 5 = cc at *
  generalize hWW : w.drew.alloc (.cells (bytesRow ⟨l.toArray⟩ cc) 5 ((bytesRow ⟨l.toArray⟩ cc).size, (bytesRow ⟨l.toArray⟩ cc).size + 1)) = W at *
  have hch : Chg (fun _ => False) w W := by rw [← hWW]; exact ((Chg.refl _ _).drew).alloc _
  have hlt : w.heap.size < W.heap.size := by rw [← hWW, World.size_alloc]; show w.heap.size < w.heap.size + 1; omega
  have hcells : ∀ j, j < l.length → W.cell? ⟨w.heap.size, 0 + j, none⟩ = some (.int .u8 ((pk l j).toNat : Int)) := fun j hj => by
    have h := heap_alloc_new w.drew (.cells (bytesRow ⟨l.toArray⟩ cc) 5 ((bytesRow ⟨l.toArray⟩ cc).size, (bytesRow ⟨l.toArray⟩ cc).size + 1))
    rw [hWW] at h
    rw [Nat.zero_add, cell_of_row W w.heap.size j _ _ _ h, bytesRow_at _ _ _ (by simpa using hj)]
    simp [pk, List.getD_eq_getElem?_getD, hj]
  have HX := Lib.hid (And.intro hch (And.intro hlt hcells))
  clear hWW hsz hch hlt hcells
  go_enter Tryz.func62, Tryz.ntmps62
  go_wp2_with fail
  refine (step_valid_any w.heap.size 0 cc l W HX.out.2.1 HX.out.2.2 hl).mono ?_
  rintro e w3 ⟨rfl, hch3⟩
  go_wp2_with fail
  go_ret
  exact ⟨rfl, HX.out.1.trans hch3⟩
end Go.Proofs.YtknmbfkpclacgaaGreatDoor

/- strings.Builder by hand: copyCheck, WriteByte, WriteString, WriteRune (after the library's own proofs over any numbering). -/
set_option linter.unusedSimpArgs false
namespace Go.Proofs.YtknmbfkpclacgaaGreatDoor
open Go.RowKit

theorem Tryz.sizeBuilder : (Tryz.prog.info? 106).map (fun i => i.size) = some 2 := by kernel_rfl
set_option maxRecDepth 100000 in
set_option maxHeartbeats 4000000 in
theorem copy_fresh (b : Nat) (w : World) (h0 : w.cell? ⟨b, 0, none⟩ = some (.pointer none)) (hsh : w.shape? b = some (106, 2)) (hfz : w.frozen? ⟨b, 0, none⟩ = false) :
    Calls Tryz.prog 186 #[.pointer (some ⟨b, 0, none⟩)] w fun e w' => e = .returned (.tuple #[]) ∧ w' = w.setCell ⟨b, 0, none⟩ (.pointer (some ⟨b, 0, none⟩)) := by
  obtain ⟨j, hj, hjs⟩ := Option.map_eq_some_iff.1 Tryz.sizeBuilder
  go_enter Tryz.func186, Tryz.ntmps186
  go_wp2
  rw [Lib.run_to_unsafe w ⟨b, 0, none⟩ Tryz.underlying104 Tryz.underlying269 hj (by rw [hjs]; decide) hsh (Nat.zero_lt_succ 1)]
  simp only [Result.andThen]
  rw [Oper.upon_value]
  go_wp2
  rw [run_callFunc_extern Tryz.func261 (by kernel_rfl) (by kernel_rfl) (by kernel_rfl) (e := Extern.AbiNoEscape.same) (by kernel_rfl)]
  rw [Lib.run_noEscape]
  simp only [Result.andThen]
  rw [Oper.upon_value]
  go_wp2
  rw [Lib.run_from_unsafe w ⟨b, 0, none⟩ Tryz.underlying269 Tryz.underlying104 hj hsh (by kernel_rfl)]
  simp only [Result.andThen]
  rw [Oper.upon_value]
  go_wp2
  go_end0
  exact ⟨rfl, rfl⟩

set_option maxRecDepth 100000 in
set_option maxHeartbeats 4000000 in
theorem copy_used (b : Nat) (w : World) (h0 : w.cell? ⟨b, 0, none⟩ = some (.pointer (some ⟨b, 0, none⟩))) :
    Calls Tryz.prog 186 #[.pointer (some ⟨b, 0, none⟩)] w fun e w' => e = .returned (.tuple #[]) ∧ w' = w := by
  obtain ⟨j, hj, _⟩ := Option.map_eq_some_iff.1 Tryz.sizeBuilder
  go_enter Tryz.func186, Tryz.ntmps186
  go_wp2
  rw [Lib.run_neq_ptr_same w _ Tryz.underlying104 hj]
  go_wp2
  go_end0
  exact ⟨rfl, rfl⟩

theorem copy_any (B b : Nat) (bs : List Value) (w : World) (h : Lib.IsBuilderF 106 5 B b bs w) :
    Calls Tryz.prog 186 #[.pointer (some ⟨b, 0, none⟩)] w fun e w' => e = .returned (.tuple #[]) ∧ (Lib.BuilderAtF 106 5 B b (.pointer (some ⟨b, 0, none⟩)) bs w' ∧ Below B w w' ∧ Lib.OthersKept 5 (some b) w w') := by
  rcases h with h | h
  · refine (copy_fresh b w h.cell0 h.shape h.frozen0).mono ?_
    rintro e w' ⟨rfl, rfl⟩
    exact ⟨rfl, h.used _, (Below.refl B w).setCell (p := ⟨b, 0, none⟩) h.1 _, (Lib.OthersKept.refl _ _ w).setCell ⟨b, 0, none⟩ rfl _⟩
  · refine (copy_used b w h.cell0).mono ?_
    rintro e w' ⟨rfl, rfl⟩
    exact ⟨rfl, h, Below.refl B _, Lib.OthersKept.refl _ _ _⟩

set_option maxRecDepth 100000 in
set_option maxHeartbeats 4000000 in
theorem wbyte_any (B b : Nat) (bs : List Value) (c : Int) (w : World) (h : Lib.IsBuilderF 106 5 B b bs w) (hlen : bs.length + 1 ≤ 140737488355328) (hBw : B ≤ w.heap.size) :
    Calls Tryz.prog 133 #[.pointer (some ⟨b, 0, none⟩), .int .u8 c] w fun e w' => e = .returned .nilIface ∧ (Lib.BuilderAtF 106 5 B b (.pointer (some ⟨b, 0, none⟩)) (bs ++ [.int .u8 c]) w' ∧ Below B w w' ∧ Lib.OthersKept 5 (some b) w w') := by
  obtain ⟨i0, hi, hz0, hz1, hz2⟩ := info_parts Tryz.infoByte
  go_enter Tryz.func133, Tryz.ntmps133
  go_wp2_with fail
  refine (copy_any B b bs _ h).mono ?_
  rintro e w1 ⟨rfl, h1, hb1, hk1⟩
  obtain ⟨hB, v, hbk, hown, hne⟩ := h1
  have c0 : w1.cell? ⟨b, 0, none⟩ = some (.pointer (some ⟨b, 0, none⟩)) := by rw [Lib.cell_of_heap hbk]; rfl
  have c1 : w1.cell? ⟨b, 1, none⟩ = some v := by rw [Lib.cell_of_heap hbk]; rfl
  go_wp2_with (at_builtin; refine wpList_append_ownF _ rfl _ _ 22 rfl B 5 i0 (.int .u8 0) 1 1 Tryz.underlying22 hi hz0 hz1 hz2 rfl (by decide) _ _ _ rfl (hown.alloc _) ⟨w1.heap.size, 0, none⟩ 1 1 [.int .u8 c] rfl rfl ?c1 ?c2 ?c3 ?c4 ?c5 ?_)
  case c1 =>
    intro j u hj
    match j, hj with
    | 0, hj => simp at hj; subst hj; simp [Addr.add]
  case c2 => intro u hu; simp at hu; subst hu; rfl
  case c3 => unfold maxLen; omega
  case c4 => omega
  case c5 => have := hb1.size; simp; omega
  intro v' w2 hown' hgrow _
  have hlt : b < w1.heap.size := lt_of_block hbk
  have hb2 : w2.heap[b]? = some (.cells #[.pointer (some ⟨b, 0, none⟩), v] 106 (0, 0)) := by
    rw [hgrow.block b (by simp; omega) (fun e => hne e.symm), Lib.alloc_old w1 _ b hlt]
    exact hbk
  have d0 : w2.cell? ⟨b, 0, none⟩ = some (.pointer (some ⟨b, 0, none⟩)) := by rw [Lib.cell_of_heap hb2]; rfl
  have d1 : w2.cell? ⟨b, 1, none⟩ = some v := by rw [Lib.cell_of_heap hb2]; rfl
  have f1 : w2.frozen? ⟨b, 1, none⟩ = false := Lib.frozen_of_heap hb2 1
  obtain ⟨g, cap, rfl⟩ : ∃ g cap, v' = .slice (some ⟨g, 0, none⟩) (bs.length + 1) cap := by
    rcases hown'.2 with ⟨_, h0⟩ | ⟨g, cap, cur, fz, hv, _⟩
    · omega
    · exact ⟨g, cap, hv⟩
  go_wp2
  go_ret
  refine ⟨rfl, ?_, ?_, ((hk1.alloc _).grown hgrow (Lib.ownsRowF_kind (hown.alloc _))).setCell ⟨b, 1, none⟩ rfl _⟩
  · exact Lib.BuilderAtF.put (T := 106) (e := 5) hB hb2 (bs' := bs ++ [.int .u8 c]) (by simpa using hown') (by decide)
  · exact ((hb1.alloc (by have := hb1.size; omega) _).grown hgrow (by have := hb1.size; simp; omega) (fun k hk => (hown.lt k hk).1)).setCell (p := ⟨b, 1, none⟩) hB _

set_option maxRecDepth 100000 in
set_option maxHeartbeats 4000000 in
theorem wstring_any (B b : Nat) (bs : List Value) (s : ByteArray) (w : World) (h : Lib.IsBuilderF 106 5 B b bs w) (hlen : bs.length + s.size ≤ 140737488355328) (hBw : B ≤ w.heap.size) :
    Calls Tryz.prog 130 #[.pointer (some ⟨b, 0, none⟩), .string s] w fun e w' => e = .returned (.tuple #[.int .i64 s.size, .nilIface]) ∧ (Lib.BuilderAtF 106 5 B b (.pointer (some ⟨b, 0, none⟩)) (bs ++ Lib.strCells s) w' ∧ Below B w w' ∧ Lib.OthersKept 5 (some b) w w') := by
  obtain ⟨i0, hi, hz0, hz1, hz2⟩ := info_parts Tryz.infoByte
  go_enter Tryz.func130, Tryz.ntmps130
  go_wp2_with fail
  refine (copy_any B b bs _ h).mono ?_
  rintro e w1 ⟨rfl, h1, hb1, hk1⟩
  obtain ⟨hB, v, hbk, hown, hne⟩ := h1
  have c0 : w1.cell? ⟨b, 0, none⟩ = some (.pointer (some ⟨b, 0, none⟩)) := by rw [Lib.cell_of_heap hbk]; rfl
  have c1 : w1.cell? ⟨b, 1, none⟩ = some v := by rw [Lib.cell_of_heap hbk]; rfl
  go_wp2_with (at_builtin; refine Lib.wpList_append_own_stringF _ rfl _ _ 22 9 rfl B 5 i0 Tryz.underlying22 Tryz.underlying9 hi hz0 hz1 hz2 _ _ _ rfl hown s rfl ?c3 ?c4 ?c5 ?_)
  case c3 => unfold maxLen; omega
  case c4 => omega
  case c5 => have := hb1.size; omega
  intro v' w2 hown' hgrow _
  have hlt : b < w1.heap.size := lt_of_block hbk
  have hb2 : w2.heap[b]? = some (.cells #[.pointer (some ⟨b, 0, none⟩), v] 106 (0, 0)) := by
    rw [hgrow.block b hlt (fun e => hne e.symm)]
    exact hbk
  have d0 : w2.cell? ⟨b, 0, none⟩ = some (.pointer (some ⟨b, 0, none⟩)) := by rw [Lib.cell_of_heap hb2]; rfl
  have d1 : w2.cell? ⟨b, 1, none⟩ = some v := by rw [Lib.cell_of_heap hb2]; rfl
  have f1 : w2.frozen? ⟨b, 1, none⟩ = false := Lib.frozen_of_heap hb2 1
  obtain ⟨ao, n', cap, rfl⟩ : ∃ ao n' cap, v' = .slice ao n' cap := by
    rcases hown'.2 with ⟨hv, _⟩ | ⟨g, cap, cur, fz, hv, _⟩
    · exact ⟨_, _, _, hv⟩
    · exact ⟨_, _, _, hv⟩
  go_wp2
  go_ret2
  refine ⟨rfl, ?_, ?_, (hk1.grown hgrow (Lib.ownsRowF_kind hown)).setCell ⟨b, 1, none⟩ rfl _⟩
  · exact Lib.BuilderAtF.put (T := 106) (e := 5) hB hb2 (bs' := bs ++ Lib.strCells s) (by simpa [Lib.strCells_length] using hown') (by decide)
  · exact (hb1.grown hgrow (by have := hb1.size; omega) (fun k hk => (hown.lt k hk).1)).setCell (p := ⟨b, 1, none⟩) hB _
end Go.Proofs.YtknmbfkpclacgaaGreatDoor

/- strings.Builder.WriteRune by hand (after the library's own proof over any numbering). -/
set_option linter.unusedSimpArgs false
namespace Go.Proofs.YtknmbfkpclacgaaGreatDoor
open Go.RowKit

set_option maxRecDepth 100000 in
set_option maxHeartbeats 4000000 in
theorem wrune_any (B b : Nat) (bs : List Value) (r : Int) (hr0 : -2147483648 ≤ r) (hr1 : r ≤ 2147483647) (w : World) (h : Lib.IsBuilderF 106 5 B b bs w) (hlen : bs.length + 4 ≤ 140737488355328) (hBw : B ≤ w.heap.size) :
    Calls Tryz.prog 138 #[.pointer (some ⟨b, 0, none⟩), .int .i32 r] w fun e w' => e = .returned (.tuple #[.int .i64 (Lib.runeCells r).length, .nilIface]) ∧ (Lib.BuilderAtF 106 5 B b (.pointer (some ⟨b, 0, none⟩)) (bs ++ Lib.runeCells r) w' ∧ Below B w w' ∧ Lib.OthersKept 5 (some b) w w') := by
  have hk4 := Lib.runeCells_le r
  go_enter Tryz.func138, Tryz.ntmps138
  go_wp2_with fail
  refine (copy_any B b bs _ h).mono ?_
  rintro e w1 ⟨rfl, h1, hb1, hk1⟩
  obtain ⟨hB, v, hbk, hown, hne⟩ := h1
  obtain ⟨ao, cap, rfl⟩ : ∃ ao cap, v = .slice ao bs.length cap := by
    rcases hown.2 with ⟨hv, h0⟩ | ⟨g, cap, cur, fz, hv, _⟩
    · exact ⟨none, 0, by rw [hv, h0]⟩
    · exact ⟨_, _, hv⟩
  have c0 : w1.cell? ⟨b, 0, none⟩ = some (.pointer (some ⟨b, 0, none⟩)) := by rw [Lib.cell_of_heap hbk]; rfl
  have c1 : w1.cell? ⟨b, 1, none⟩ = some (.slice ao bs.length cap) := by rw [Lib.cell_of_heap hbk]; rfl
  go_wp2_with fail
  refine (Tryz.utf8_AppendRune_row B _ bs.length bs r hr0 hr1 _ hown hlen (by have := hb1.size; omega)).mono ?_
  rintro e w2 ⟨v', rfl, hown', o, hgrow⟩
  have hlt : b < w1.heap.size := lt_of_block hbk
  have hb2 : w2.heap[b]? = some (.cells #[.pointer (some ⟨b, 0, none⟩), .slice ao bs.length cap] 106 (0, 0)) := by
    rw [hgrow.block b (by rw [World.size_alloc]; omega) (fun e => hne e.symm), Lib.alloc_old w1 _ b hlt]
    exact hbk
  have d0 : w2.cell? ⟨b, 0, none⟩ = some (.pointer (some ⟨b, 0, none⟩)) := by rw [Lib.cell_of_heap hb2]; rfl
  have d1 : w2.cell? ⟨b, 1, none⟩ = some (.slice ao bs.length cap) := by rw [Lib.cell_of_heap hb2]; rfl
  have f1 : w2.frozen? ⟨b, 1, none⟩ = false := Lib.frozen_of_heap hb2 1
  obtain ⟨g, cap', rfl⟩ : ∃ g cap', v' = .slice (some ⟨g, 0, none⟩) (bs.length + (Lib.runeCells r).length) cap' := by
    rcases hown'.2 with ⟨_, h0⟩ | ⟨g, cap', cur, fz, hv, _⟩
    · omega
    · exact ⟨g, cap', hv⟩
  go_wp2
  go_ret2
  refine ⟨?_, ?_, ?_, ((hk1.alloc _).grown hgrow (Lib.ownsRowF_kind (hown.alloc _))).setCell ⟨b, 1, none⟩ rfl _⟩
  · have e : ((bs.length : Int) + ((Lib.runeCells r).length : Int) - (bs.length : Int)) = ((Lib.runeCells r).length : Int) := by omega
    simp [e]
  · exact Lib.BuilderAtF.put (T := 106) (e := 5) hB hb2 (bs' := bs ++ Lib.runeCells r) (by simpa using hown') (by decide)
  · exact ((hb1.alloc (by have := hb1.size; omega) _).grown hgrow (by have := hb1.size; simp; omega) (fun k hk => (hown.lt k hk).1)).setCell (p := ⟨b, 1, none⟩) hB _
end Go.Proofs.YtknmbfkpclacgaaGreatDoor

/- strconv.FormatInt at base 16, of one digit. -/
set_option linter.unusedSimpArgs false
namespace Go.Proofs.YtknmbfkpclacgaaGreatDoor
open Go.RowKit

def hexDigits : ByteArray := ⟨#[48, 49, 50, 51, 52, 53, 54, 55, 56, 57, 97, 98, 99, 100, 101, 102, 103, 104, 105, 106, 107, 108, 109, 110, 111, 112, 113, 114, 115, 116, 117, 118, 119, 120, 121, 122]⟩
theorem wrap_small : ∀ m : Fin 16, IntKind.u64.wrap ((m.val : Nat) : Int) = ((m.val : Nat) : Int) := by decide
theorem hexDigits_size : hexDigits.size = 36 := rfl
theorem hex_all : ∀ m : Fin 16, hexDigits[m.val]'(by rw [hexDigits_size]; omega) = hexd m.val := by decide
theorem hex_digit (n : Nat) (hn : n < 16) : hexDigits[n]'(by rw [hexDigits_size]; omega) = hexd n := hex_all ⟨n, hn⟩
set_option maxRecDepth 100000 in
set_option maxHeartbeats 4000000 in
theorem pow2_any (w : World) : Calls Tryz.prog 288 #[.int .i64 16] w fun e w' => e = .returned (.bool true) ∧ w' = w := by
  go_enter Tryz.func288, Tryz.ntmps288
  go_wp2
  go_ret
  exact ⟨rfl, rfl⟩

set_option maxRecDepth 100000 in
set_option maxHeartbeats 4000000 in
theorem tz64_any (w : World) (h5 : w.cell? ⟨7, 15, none⟩ = some (.int .u8 4)) : Calls Tryz.prog 298 #[.int .u64 16] w fun e w' => e = .returned (.int .i64 4) ∧ w' = w := by
  have e1 : bits BinOp.and IntKind.u64 16 (IntKind.u64.wrap (-16)) = 16 := by decide
  have e2 : IntKind.u64.wrap (16 * 285870213051353865) = 4573923408821661840 := by decide
  have e3 : (4573923408821661840 : Int) / 288230376151711744 = 15 := by decide
  go_enter Tryz.func298, Tryz.ntmps298
  go_wp2
  go_ret
  exact ⟨rfl, rfl⟩
set_option maxRecDepth 100000 in
set_option maxHeartbeats 4000000 in
theorem tz_any (w : World) (h5 : w.cell? ⟨7, 15, none⟩ = some (.int .u8 4)) : Calls Tryz.prog 289 #[.int .u64 16] w fun e w' => e = .returned (.int .i64 4) ∧ w' = w := by
  go_enter Tryz.func289, Tryz.ntmps289
  go_wp2_with fail
  refine (tz64_any _ h5).mono ?_
  rintro e w2 ⟨rfl, rfl⟩
  go_wp2_with fail
  go_ret
  exact ⟨rfl, rfl⟩

set_option maxRecDepth 100000 in
set_option maxHeartbeats 4000000 in
theorem bits_any (n : Nat) (hn : n < 16) (w : World) (h5 : w.cell? ⟨7, 15, none⟩ = some (.int .u8 4)) : Calls Tryz.prog 265 #[.slice none 0 0, .int .u64 n, .int .i64 16, .bool false, .bool false] w fun e w' => e = .returned (.tuple #[.slice none 0 0, .string ⟨#[hexd n]⟩]) ∧ Chg (fun _ => False) w w' := by
  go_enter Tryz.func265, Tryz.ntmps265
  go_wp2_with fail
  refine (pow2_any _).mono ?_
  rintro e w2 ⟨rfl, rfl⟩
  go_wp2_with fail
  refine (tz_any _ ((World.cell?_of_block (Below.heap_alloc w _ _ (World.block_lt_of_cell? w _ h5))).trans h5)).mono ?_
  rintro e w2 ⟨rfl, rfl⟩
  go_wp2_with fail
  generalize hW : w.alloc (.cells Tryz.zeroCells289 289) = W at *
  have hblk : W.heap[w.heap.size]? = some (.cells Tryz.zeroCells289 289) := by rw [← hW]; exact heap_alloc_new w _
  have hch : Chg (fun _ => False) w W := by rw [← hW]; exact (Chg.refl _ _).alloc _
  have c64 : W.cell? ⟨w.heap.size, 64, none⟩ = some (.int .u8 0) := by
    rw [cell_of_row W w.heap.size 64 _ _ _ hblk]; kernel_rfl
  have f64 : W.frozen? ⟨w.heap.size, 64, none⟩ = false := by simp [World.frozen?, hblk]
  have hcv : ∀ c : UInt8, (convert 22 9 (.slice (some ⟨w.heap.size, 64, none⟩) 1 1)).run Tryz.prog (W.setCell ⟨w.heap.size, 64, none⟩ (.int .u8 (c.toNat : Int))) = .ok (.string ⟨#[c]⟩) (W.setCell ⟨w.heap.size, 64, none⟩ (.int .u8 (c.toNat : Int))) := fun c =>
    conv_bytes Tryz.underlying22 Tryz.underlying5 Tryz.underlying9 _ w.heap.size 64 1 1 [c] rfl (fun j hj => by
      obtain rfl : j = 0 := by omega
      exact World.cell?_setCell_same _ _ _ c64)
  have hc2 : ∀ v, Chg (fun _ => False) w (W.setCell ⟨w.heap.size, 64, none⟩ v) := fun v => hch.setCell (fun h => by simp only at h; omega) v
  have HC2 := Lib.hid hc2
  clear hc2 hch hblk
  clear hW
  go_loopg [1, 13] 1 (fun g v1 v13 wr => v1 = .int .u64 n ∧ v13 = .int .i64 65 ∧ wr = W)
  case atStart => exact ⟨rfl, rfl, rfl⟩
  case round =>
    obtain ⟨rfl, rfl, rfl⟩ := hrel
    have hlt : ¬ (16 : Int) ≤ (n : Int) := by omega
    go_wp2_with fail
    go_ret2
    exact ⟨congrArg (fun c => Ending.returned (.tuple #[.slice none 0 0, .string ⟨#[c]⟩])) (hex_digit n hn), HC2.out _⟩

set_option maxRecDepth 100000 in
set_option maxHeartbeats 4000000 in
theorem hex_any (n : Nat) (hn : n < 16) (w : World) (h5 : w.cell? ⟨7, 15, none⟩ = some (.int .u8 4)) : Calls Tryz.prog 191 #[.int .i64 n, .int .i64 16] w fun e w' => e = .returned (.string ⟨#[hexd n]⟩) ∧ Chg (fun _ => False) w w' := by
  have e1 : IntKind.u64.wrap (n : Int) = n := wrap_small ⟨n, hn⟩
  go_enter Tryz.func191, Tryz.ntmps191
  go_wp2_with fail
  refine (bits_any n hn w h5).mono ?_
  rintro e w2 ⟨rfl, hch⟩
  go_wp2_with fail
  go_ret
  exact ⟨rfl, hch⟩
set_option maxRecDepth 100000 in
set_option maxHeartbeats 4000000 in
theorem formatInt16_any (n : Nat) (hn : n < 16) (w : World) (h5 : w.cell? ⟨7, 15, none⟩ = some (.int .u8 4)) : Calls Tryz.prog 137 #[.int .i64 n, .int .i64 16] w fun e w' => e = .returned (.string ⟨#[hexd n]⟩) ∧ Chg (fun _ => False) w w' := by
  go_enter Tryz.func137, Tryz.ntmps137
  go_wp2_with fail
  refine (hex_any n hn w h5).mono ?_
  rintro e w2 ⟨rfl, hch⟩
  go_wp2_with fail
  go_ret
  exact ⟨rfl, hch⟩
end Go.Proofs.YtknmbfkpclacgaaGreatDoor

/- A string's text: rune by rune (as quoted goes) is byte by byte (quoteB), where the string is valid (plain law). -/
set_option linter.unusedSimpArgs false
namespace Go.Proofs.YtknmbfkpclacgaaGreatDoor

/-- what quoted writes for a rune -/
def qR (r : Nat) : List UInt8 := if r < 128 then quoteB (UInt8.ofNat r) else encN r
def qL : Nat → List UInt8 → List UInt8
  | 0, _ => []
  | k + 1, l => if l = [] then [] else qR (stepJ l).1 ++ qL k (l.drop (stepJ l).2)
theorem quoteB_high {c : UInt8} (h : 128 ≤ c.toNat) : quoteB c = [c] := by
  unfold quoteB shortJ
  have hne : ∀ n : Nat, n < 128 → c ≠ UInt8.ofNat n := fun n hn e => by
    have := congrArg UInt8.toNat e
    simp at this
    omega
  rw [if_neg (show c ≠ 34 from hne 34 (by omega)), if_neg (show c ≠ 92 from hne 92 (by omega)), if_neg (show c ≠ 8 from hne 8 (by omega)), if_neg (show c ≠ 9 from hne 9 (by omega)), if_neg (show c ≠ 10 from hne 10 (by omega)), if_neg (show c ≠ 12 from hne 12 (by omega)), if_neg (show c ≠ 13 from hne 13 (by omega))]
  simp only
  rw [if_neg (by omega)]
theorem encN_high {r : Nat} (h : 128 ≤ r) (hv : validR r = true) : ∀ c ∈ encN r, 128 ≤ c.toNat := by
  have hlt := validR_lt hv
  intro c hc
  unfold encN at hc
  rw [if_neg (by omega)] at hc
  split at hc
  · simp at hc; rcases hc with rfl | rfl <;> simp <;> omega
  · split at hc
    · simp at hc; rcases hc with rfl | rfl | rfl <;> simp <;> omega
    · simp at hc; rcases hc with rfl | rfl | rfl | rfl <;> simp <;> omega
theorem flat_id : ∀ {l : List UInt8}, (∀ c ∈ l, 128 ≤ c.toNat) → l.flatMap quoteB = l
  | [], _ => rfl
  | c :: l, h => by
    rw [List.flatMap_cons, quoteB_high (h c (by simp)), flat_id (fun d hd => h d (by simp [hd]))]
    rfl
theorem qR_take {l : List UInt8} {r n : Nat} (h : dec l = some (r, n)) : qR r = (l.take n).flatMap quoteB := by
  have e := dec_enc l r n h
  rw [e.1]
  unfold qR
  split
  · rename_i hr
    unfold encN
    rw [if_pos hr]
    simp
  · rename_i hr
    exact (flat_id (encN_high (by omega) e.2.2.2.2.1)).symm
theorem qL_eq : ∀ (k : Nat) (l : List UInt8), l.length ≤ k → vld k l = true → qL k l = l.flatMap quoteB
  | 0, l, h, _ => by
    have : l = [] := List.length_eq_zero_iff.1 (by omega)
    subst this; rfl
  | k + 1, l, h, hv => by
    rw [qL]
    split
    · rename_i e; subst e; rfl
    · rename_i hne
      cases hd : dec l with
      | none =>
        cases l with
        | nil => exact absurd rfl hne
        | cons c r => simp [vld, hd] at hv
      | some p =>
        obtain ⟨r, n⟩ := p
        have e1 : stepJ l = (r, n) := by unfold stepJ; rw [hd]; rfl
        have e2 := dec_enc l r n hd
        have hv2 : vld k (l.drop n) = true := by
          cases l with
          | nil => exact absurd rfl hne
          | cons c q => simpa [vld, hd] using hv
        rw [e1, qL_eq k (l.drop n) (by rw [List.length_drop]; omega) hv2]
        simp only
        rw [qR_take hd, ← List.flatMap_append, List.take_append_drop]
end Go.Proofs.YtknmbfkpclacgaaGreatDoor
