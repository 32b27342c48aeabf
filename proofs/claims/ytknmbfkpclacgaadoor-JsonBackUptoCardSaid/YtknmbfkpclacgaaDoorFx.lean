/- The tables that the program's start lays; a tree that Parse made is read; the laws' fixed part: the walk. -/
import Derived.Test.YtknmbfkpclacgaaDoorTx
import Derived.Lib.SlBytesConst
set_option linter.unusedSimpArgs false
namespace Go.Proofs.YtknmbfkpclacgaaDoor
open Go.RowKit

/-- What the program's start has laid. -/
structure Gs (w : World) (B : Nat) : Prop where
  letters : LetOk w B
  bad : BadOk w B
  short : ShortOk w B
  num : NumOk w B
theorem Gs.keep {w w' : World} {B : Nat} (h : Gs w B) (hb : Below B w w') : Gs w' B := ⟨h.letters.keep hb, h.bad.keep hb, h.short.keep hb, h.num.keep hb⟩

theorem LetOk.mono {w : World} {B B' : Nat} (h : LetOk w B) (hB : B ≤ B') : LetOk w B' := by
  obtain ⟨hg, mb, es, clock, h1, h2, h3, h4⟩ := h
  exact ⟨by omega, mb, es, clock, h1, by omega, h3, h4⟩
theorem BadOk.mono {w : World} {B B' : Nat} (h : BadOk w B) (hB : B ≤ B') : BadOk w B' := ⟨Nat.lt_of_lt_of_le h.g hB, h.c0, h.c1, h.c2⟩
theorem own_ro {w : World} {base : Nat} {e : TypeId} {size n : Nat} {v : Value} {xs : List Value} (h : w.ownsRow base e size v n xs) : ∃ A c, v = .slice A n c ∧ Ro w w.heap.size A xs ∧ n ≤ c := by
  rcases h.2 with ⟨rfl, rfl⟩ | ⟨g, cap, cur, rfl, hb, hg, hn, hm, hs, ht⟩
  · refine ⟨none, 0, rfl, fun hp => ?_, by omega⟩
    have := h.1
    simp at this
    rw [this] at hp
    simp at hp
  · refine ⟨_, cap, rfl, fun hp => ⟨g, 0, rfl, lt_of_block hg, fun j x hj => ?_⟩, hn⟩
    rw [cell_of_row _ _ _ _ _ _ hg, Nat.zero_add]
    have hl := h.1
    rw [← ht, List.getElem?_take] at hj
    split at hj
    · rw [← Array.getElem?_toList]; exact hj
    · cases hj
def KL (v : JV) : Prop := v.kids.length ≤ 140737488355328 ∧ v.names.length ≤ 140737488355328
theorem VR.rd {base : Nat} {w : World} {x : VC} {v : JV} (h : VR base w x v) (hk : KL v) : VRd w w.heap.size x v := by
  obtain ⟨A1, c1, e1, r1, _⟩ := own_ro h.kids
  obtain ⟨A2, c2, e2, r2, _⟩ := own_ro h.names
  exact ⟨h.kind, h.truth, h.n, h.text, ⟨A1, c1, e1, r1⟩, ⟨A2, c2, e2, r2⟩, hk.1, hk.2⟩
theorem VRs.rd {base : Nat} {w : World} : ∀ {xs : List VC} {t : List JV}, VRs base w xs t → (∀ v ∈ t, KL v) → ∀ i (h : i < t.length) (h2 : i < xs.length), VRd w w.heap.size xs[i] t[i]
  | [], [], _, _, i, h, _ => by simp at h
  | x :: xs, v :: vs, hv, hk, 0, _, _ => hv.1.rd (hk v (by simp))
  | x :: xs, v :: vs, hv, hk, i + 1, h, h2 => VRs.rd hv.2 (fun u hu => hk u (by simp [hu])) i (by simpa using h) (by simpa using h2)
  | [], _ :: _, hv, _, _, _, _ => hv.elim
  | _ :: _, [], hv, _, _, _, _ => hv.elim
/-- A tree that Parse made can be read. -/
theorem TR.rd {base : Nat} {w : World} {tv : Value} {xs : List VC} {t : List JV} (h : TR base w tv xs t) (hl : t.length ≤ 1000000000000) (hk : ∀ v ∈ t, KL v) : ∃ A c, tv = .slice A t.length c ∧ t.length ≤ c ∧ TRd w w.heap.size A xs t := by
  obtain ⟨A, c, e, r, hc⟩ := own_ro h.own
  exact ⟨A, c, e, hc, r, h.vals.length, hl, fun i hi => h.vals.rd hk i hi _⟩
theorem parseJ_len {l : List UInt8} {t : List JV} (h : parseJ l = .ok t) : t.length ≤ l.length ∧ l.length ≤ 268435456 := by
  unfold parseJ at h
  split at h
  · cases h
  · rename_i hl
    split at h
    · cases h
    · rename_i p j t' hv
      obtain ⟨h1, h2, ⟨n, h3, h4⟩, h5⟩ := (grew_all l _).1 _ _ _ _ _ _ hv
      split at h
      · cases h
      · simp only [Except.ok.injEq] at h
        subst h
        rw [h3]
        simp
        omega
/-- Parse, of a text that holds a tree. -/
theorem parse_ok (A : Option Addr) (cap : Nat) (l : List UInt8) (t : List JV) (ht : parseJ l = .ok t) (w : World) (B : Nat) (hBw : B ≤ w.heap.size) (hb : Bs w w.heap.size A l) (hcap : l.length ≤ cap) (hG : Gs w B) :
    Calls Tryd.prog 9 #[.slice A l.length cap] w fun e w' => ∃ tv xs, e = .returned (.tuple #[tv, .int .i64 0, .int .i64 0]) ∧ TR w.heap.size w' tv xs t ∧ Chg (fun _ => False) w w' := by
  refine (parse_any A cap l w hb hcap (hG.letters.mono hBw) (hG.bad.mono hBw)).mono ?_
  intro e w' h
  unfold PPost at h
  rw [ht] at h
  exact h
theorem parse_bad (A : Option Addr) (cap : Nat) (l : List UInt8) (f : Flt) (ht : parseJ l = .error f) (w : World) (B : Nat) (hBw : B ≤ w.heap.size) (hb : Bs w w.heap.size A l) (hcap : l.length ≤ cap) (hG : Gs w B) :
    Calls Tryd.prog 9 #[.slice A l.length cap] w fun e w' => e = .returned (.tuple #[.slice none 0 0, .int .i64 f.1, .int .i64 f.2]) ∧ Chg (fun _ => False) w w' := by
  refine (parse_any A cap l w hb hcap (hG.letters.mono hBw) (hG.bad.mono hBw)).mono ?_
  intro e w' h
  unfold PPost at h
  rw [ht] at h
  exact h
def u8s (l : List UInt8) : Array Value := (l.map fun c => Value.int .u8 (c.toNat : Int)).toArray
theorem Bs.lit (w : World) (l : List UInt8) (e : TypeId) (fr : Nat × Nat) (hl : l.length ≤ 140737488355328) : Bs (w.alloc (.cells (u8s l) e fr)) (w.alloc (.cells (u8s l) e fr)).heap.size (some ⟨w.heap.size, 0, none⟩) l :=
  ⟨hl, fun _ => ⟨w.heap.size, 0, rfl, by rw [World.size_alloc]; omega, fun j hj => by
    rw [cell_of_row _ _ _ _ _ _ (heap_alloc_new w _), Nat.zero_add]
    simp [u8s, pk, List.getD_eq_getElem?_getD, hj]⟩⟩

/-! ### fixed -/
def fT : List UInt8 := [91, 49, 44, 123, 34, 97, 34, 58, 110, 117, 108, 108, 125, 93]
def fV : List JV := [jNum 1, jNull, jObj [1] [[97]], jList [0, 2]]
def fB : List UInt8 := [91, 49, 44, 93]
def fQ : List UInt8 := [97, 34, 92, 1, 10, 195, 169]
theorem fT_parse : parseJ fT = .ok fV := by kernel_rfl
theorem fB_parse : parseJ fB = .error (3, 240) := by kernel_rfl
theorem fV_may : mayJ fV = 0 := by kernel_rfl
theorem fV_tx : tx fV = fT := by kernel_rfl
theorem fQ_qtx : qtx fQ = [34, 97, 92, 34, 92, 92, 92, 117, 48, 48, 48, 49, 92, 110, 195, 169, 34] := by kernel_rfl
theorem fQ_qerr : qerr fQ = 0 := by kernel_rfl
theorem fV_get2 : getJ fV 2 [97] = 1 := by kernel_rfl
theorem fV_get3 : getJ fV 3 [97] = -1 := by kernel_rfl
theorem fV_kl : ∀ v ∈ fV, KL v := by
  intro v hv
  simp only [fV, List.mem_cons, List.mem_nil_iff, or_false] at hv
  rcases hv with rfl | rfl | rfl | rfl <;> exact ⟨by decide, by decide⟩
theorem fV_sm : Sm fV := by
  have key : ∀ v ∈ fV, VSm v := by
    intro v hv
    simp only [fV, List.mem_cons, List.mem_nil_iff, or_false] at hv
    rcases hv with rfl | rfl | rfl | rfl <;> exact ⟨by decide, by decide, by decide⟩
  exact fun j hj => key _ (List.getElem_mem hj)

theorem fT_conv (w : World) : (convert 30 30 (.slice (some ⟨w.heap.size, 0, none⟩) 14 14)).run Tryd.prog (w.alloc (.cells #[.int .u8 91, .int .u8 49, .int .u8 44, .int .u8 123, .int .u8 34, .int .u8 97, .int .u8 34, .int .u8 58, .int .u8 110, .int .u8 117, .int .u8 108, .int .u8 108, .int .u8 125, .int .u8 93] 5)) = .ok (.slice (some ⟨w.heap.size, 0, none⟩) 14 14) (w.alloc (.cells (u8s fT) 5 (14, 15))) :=
  Lib.run_convert_bytes_const w 30 5 _ 14 14 Tryd.underlying30 Tryd.underlying5
theorem fB_conv (w : World) : (convert 30 30 (.slice (some ⟨w.heap.size, 0, none⟩) 4 4)).run Tryd.prog (w.alloc (.cells #[.int .u8 91, .int .u8 49, .int .u8 44, .int .u8 93] 5)) = .ok (.slice (some ⟨w.heap.size, 0, none⟩) 4 4) (w.alloc (.cells (u8s fB) 5 (4, 5))) :=
  Lib.run_convert_bytes_const w 30 5 _ 4 4 Tryd.underlying30 Tryd.underlying5

set_option maxRecDepth 100000 in
set_option maxHeartbeats 4000000 in
theorem fixed_any (w : World) (B : Nat) (hB : B ≤ w.heap.size) (hG : Gs w B) :
    Calls Tryd.prog 8 #[] w fun e w' => e = .returned (.bool true) ∧ Chg (fun _ => False) w w' := by
  have HG := Lib.hid hG
  have hal : Chg (fun _ => False) w (w.alloc (.cells (u8s fT) 5 (14, 15))) := (Chg.refl _ w).alloc _
  have hp1 := parse_ok (some ⟨w.heap.size, 0, none⟩) 14 fT fV fT_parse _ B (Nat.le_trans hB hal.size) (Bs.lit w fT 5 (14, 15) (by decide)) (by decide) (hG.keep (hal.below hB (fun _ h => h.elim)))
  rw [show fT.length = 14 from rfl] at hp1
  have HP1 := Lib.hid hp1
  have HAL := Lib.hid hal
  have hcv := fT_conv w
  clear hG hp1 hal
  go_enter Tryd.func8, Tryd.ntmps8
  go_wp2_with fail
  refine HP1.out.mono ?_
  rintro e w2 ⟨tv, xs, rfl, hTR, hch2⟩
  obtain ⟨A, c, rfl, _, hT⟩ := hTR.rd (by decide) fV_kl
  have hc2 := HAL.out.trans hch2
  have htx := jtext_any fV A c w2.heap.size xs w2 hT (Nat.le_refl _) fV_sm ((HG.out.keep (hc2.below hB (fun _ h => h.elim))).short.mono (Nat.le_trans hB hc2.size)) ((HG.out.keep (hc2.below hB (fun _ h => h.elim))).num.mono (Nat.le_trans hB hc2.size)) (by rw [fV_tx]; decide)
  rw [fV_tx, fV_may, show fV.length = 4 from rfl] at htx
  rw [show fV.length = 4 from rfl]
  have HT := Lib.hid hT
  have HC2 := Lib.hid hc2
  have HTX := Lib.hid htx
  clear hTR hch2 hT hc2 HP1 HAL htx hcv
  go_wp2_with fail
  refine HTX.out.mono ?_
  rintro e w3 ⟨rfl, hch3⟩
  have hc3 := HC2.out.trans hch3
  have hqu := jquote_any fQ w3 ((HG.out.keep (hc3.below hB (fun _ h => h.elim))).short.mono (Nat.le_trans hB hc3.size)) (by decide)
  rw [fQ_qtx, fQ_qerr] at hqu
  have HQU := Lib.hid hqu
  have HCH3 := Lib.hid hch3
  have HC3 := Lib.hid hc3
  clear hch3 hc3 hqu HTX
  go_wp2_with fail
  refine HQU.out.mono ?_
  rintro e w4 ⟨rfl, hch4⟩
  have hal4 : Chg (fun _ => False) w4 (w4.alloc (.cells (u8s fB) 5 (4, 5))) := (Chg.refl _ w4).alloc _
  have hc4 := (HC3.out.trans hch4).trans hal4
  have hp2 := parse_bad (some ⟨w4.heap.size, 0, none⟩) 4 fB (3, 240) fB_parse _ B (Nat.le_trans hB hc4.size) (Bs.lit w4 fB 5 (4, 5) (by decide)) (by decide) (HG.out.keep (hc4.below hB (fun _ h => h.elim)))
  rw [show fB.length = 4 from rfl] at hp2
  have HP2 := Lib.hid hp2
  have hcv := fB_conv w4
  have HX := Lib.hid (And.intro hch4 (And.intro hal4 hc4))
  clear hch4 hal4 hc4 hp2 HQU
  go_wp2_with fail
  refine HP2.out.mono ?_
  rintro e w5 ⟨rfl, hch5⟩
  have h25 : Chg (fun _ => False) w2 w5 := ((HCH3.out.trans HX.out.1).trans HX.out.2.1).trans hch5
  have hc5 := HX.out.2.2.trans hch5
  have hT5 := HT.out.keep (h25.below (Nat.le_refl _) (fun _ h => h.elim))
  have hg1 := jget_any fV 2 [97] A c w2.heap.size xs w5 hT5 h25.size fV_sm
  rw [fV_get2, show fV.length = 4 from rfl] at hg1
  have hg2 := fun (W : World) (hW : Chg (fun _ => False) w5 W) => jget_any fV 3 [97] A c w2.heap.size xs W (hT5.keep (hW.below h25.size (fun _ h => h.elim))) (Nat.le_trans h25.size hW.size) fV_sm
  rw [fV_get3, show fV.length = 4 from rfl] at hg2
  have HG1 := Lib.hid hg1
  have HG2 := Lib.hid hg2
  have HC5 := Lib.hid hc5
  clear h25 hc5 hT5 hg1 hg2 hch5 HP2 hcv
  go_wp2_with fail
  refine HG1.out.mono ?_
  rintro e w6 ⟨rfl, hch6⟩
  go_wp2_with fail
  refine (HG2.out w6 hch6).mono ?_
  rintro e w7 ⟨rfl, hch7⟩
  go_wp2_with fail
  go_ret
  exact ⟨rfl, (HC5.out.trans hch6).trans hch7⟩
end Go.Proofs.YtknmbfkpclacgaaDoor
