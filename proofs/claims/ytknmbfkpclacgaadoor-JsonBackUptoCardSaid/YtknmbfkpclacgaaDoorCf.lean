/- slices.IndexFunc, slices.ContainsFunc over strings; json.may's inner functions: the walks. -/
import Derived.Test.YtknmbfkpclacgaaDoorWr
import Derived.Test.YtknmbfkpclacgaaDoorDu
set_option linter.unusedSimpArgs false
namespace Go.Proofs.YtknmbfkpclacgaaDoor
open Go.RowKit

set_option maxRecDepth 100000 in
set_option maxHeartbeats 4000000 in
theorem bad1_any (s : List UInt8) (w : World) (hl : s.length ≤ 70368744177664) :
    Calls Tryd.prog 42 #[.string ⟨s.toArray⟩] w fun e w' => e = .returned (.bool (!validL s)) ∧ Chg (fun _ => False) w w' := by
  go_enter Tryd.func42, Tryd.ntmps42
  go_wp2_with fail
  refine (valid_any s _ hl).mono ?_
  rintro e w2 ⟨rfl, hch⟩
  go_wp2_with fail
  go_ret
  exact ⟨rfl, hch⟩

def StrOk (ns : List (List UInt8)) : Prop := ∀ s ∈ ns, s.length ≤ 70368744177664
theorem any_drop {α : Type} {p : α → Bool} {l : List α} {j : Nat} (hj : j < l.length) (hp : p l[j] = false) : (l.drop (j + 1)).any p = (l.drop j).any p := by
  rw [List.drop_eq_getElem_cons hj, List.any_cons, hp, Bool.false_or]
theorem any_hit {α : Type} {p : α → Bool} {l : List α} {j : Nat} (hj : j < l.length) (hp : p l[j] = true) : (l.drop j).any p = true := by
  rw [List.drop_eq_getElem_cons hj, List.any_cons, hp, Bool.true_or]
/-- what IndexFunc gives -/
def IPost (x : Bool) (w : World) (e : Ending) (w' : World) : Prop := ∃ r : Int, e = .returned (.int .i64 r) ∧ decide (0 ≤ r) = x ∧ -1 ≤ r ∧ r ≤ 140737488355328 ∧ Chg (fun _ => False) w w'

set_option maxRecDepth 100000 in
set_option maxHeartbeats 4000000 in
theorem idxs_any (ns : List (List UInt8)) (A : Option Addr) (cap B : Nat) (w : World) (hN : Ro w B A (strs ns)) (hB : B ≤ w.heap.size) (hl : ns.length ≤ 140737488355328) (hs : StrOk ns) :
    Calls Tryd.prog 62 #[.slice A ns.length cap, .func (.func 42) #[] #[]] w (IPost (ns.any fun s => !validL s) w) := by
  have HN := Lib.hid hN
  have HS := Lib.hid hs
  clear hN hs
  go_enter Tryd.func62, Tryd.ntmps62
  go_wp2_with fail
  go_loopg [8] (ns.length + 1) (fun g s8 wr => ∃ j : Nat, s8 = .int .i64 j ∧ j ≤ ns.length ∧ Chg (fun _ => False) w wr ∧ (ns.drop j).any (fun s => !validL s) = ns.any (fun s => !validL s) ∧ ns.length - j + 1 = g)
  case atStart => exact ⟨0, rfl, by omega, Chg.refl _ _, rfl, rfl⟩
  case round =>
    obtain ⟨j, rfl, hj, hch, hany, hg⟩ := hrel
    have HG := Lib.hid hg
    have HANY := Lib.hid hany
    clear hg hany
    by_cases hjt : j < ns.length
    · obtain ⟨b2, o2, hAk, hb2, k0⟩ := (HN.out.keep (hch.below hB (fun _ h => h.elim))).str j hjt
      subst hAk
      have hbad := bad1_any ns[j] wr (HS.out _ (List.getElem_mem hjt))
      have hnx := any_drop (p := fun s => !validL s) hjt
      have hht := any_hit (p := fun s => !validL s) hjt
      generalize ns[j] = s at *
      cases hv : validL s with
      | true =>
        rw [hv] at hbad hnx
        have hnx' := hnx rfl
        have HNX := Lib.hid hnx'
        clear hnx hnx' hht hv
        go_wp2_with fail
        refine hbad.mono ?_
        rintro e w2 ⟨rfl, hch2⟩
        go_wp2_with fail
        go_roundg (ns.length - (j + 1) + 1)
        case measure => rw [← HG.out]; omega
        case rel => exact ⟨j + 1, int_i64 (by omega), by omega, hch.trans hch2, HNX.out.trans HANY.out, rfl⟩
      | false =>
        rw [hv] at hbad hht
        have hht' := hht rfl
        have HHT := Lib.hid hht'
        clear hnx hht hht' hv
        go_wp2_with fail
        refine hbad.mono ?_
        rintro e w2 ⟨rfl, hch2⟩
        go_wp2_with fail
        go_ret
        exact ⟨j, rfl, by rw [← HANY.out, HHT.out]; simp, by omega, by omega, hch.trans hch2⟩
    · have hdr : ns.drop j = [] := List.drop_eq_nil_of_le (by omega)
      have hh := HANY.out
      rw [hdr] at hh
      have HH := Lib.hid hh
      clear hdr hh
      go_wp2_with fail
      go_ret
      exact ⟨-1, rfl, by rw [← HH.out]; rfl, by omega, by omega, hch⟩

set_option maxRecDepth 100000 in
set_option maxHeartbeats 4000000 in
theorem has_any (ns : List (List UInt8)) (A : Option Addr) (cap B : Nat) (w : World) (hN : Ro w B A (strs ns)) (hB : B ≤ w.heap.size) (hl : ns.length ≤ 140737488355328) (hs : StrOk ns) :
    Calls Tryd.prog 41 #[.slice A ns.length cap, .func (.func 42) #[] #[]] w fun e w' => e = .returned (.bool (ns.any fun s => !validL s)) ∧ Chg (fun _ => False) w w' := by
  go_enter Tryd.func41, Tryd.ntmps41
  go_wp2_with fail
  refine (idxs_any ns A cap B w hN hB hl hs).mono ?_
  rintro e w2 ⟨r, rfl, hr, _, _, hch⟩
  have HR := Lib.hid hr
  clear hN hr
  go_wp2_with fail
  go_ret
  exact ⟨by rw [← HR.out]; rfl, hch⟩

/-- a value's cells, as one -/
abbrev vagg (v : JV) (Ak : Option Addr) (ck : Nat) (An : Option Addr) (cn : Nat) : Value := .agg #[.int .i64 v.kind, .bool v.truth, .int .i64 v.n, .string ⟨v.text.toArray⟩, .slice Ak v.kids.length ck, .slice An v.names.length cn]
set_option maxRecDepth 100000 in
set_option maxHeartbeats 4000000 in
theorem is242_any (v : JV) (Ak : Option Addr) (ck : Nat) (An : Option Addr) (cn : Nat) (w : World) :
    Calls Tryd.prog 40 #[vagg v Ak ck An cn, .int .i64 242] w fun e w' => e = .returned (.bool (decide (v.n < -9007199254740991) || decide (9007199254740991 < v.n))) ∧ Chg (fun _ => False) w w' := by
  have hal : ∀ o, Chg (fun _ => False) w (w.alloc o) := fun o => (Chg.refl _ w).alloc o
  have HAL := Lib.hid hal
  clear hal
  go_enter Tryd.func40, Tryd.ntmps40
  by_cases h1 : v.n < -9007199254740991
  · go_wp2_with fail
    go_ret
    refine ⟨?_, HAL.out _⟩
    first
      | rfl
      | (rw [decide_eq_true h1]; rfl)
  · have e1 := Lib.hid (decide_eq_false h1)
    by_cases h2 : 9007199254740991 < v.n
    · go_wp2_with fail
      go_ret
      refine ⟨?_, HAL.out _⟩
      first
        | rfl
        | (rw [e1.out, decide_eq_true h2]; rfl)
    · have e2 := Lib.hid (decide_eq_false h2)
      go_wp2_with fail
      go_ret
      refine ⟨?_, HAL.out _⟩
      first
        | rfl
        | (rw [e1.out, e2.out]; rfl)

set_option maxRecDepth 100000 in
set_option maxHeartbeats 4000000 in
theorem is243_any (v : JV) (Ak : Option Addr) (ck : Nat) (An : Option Addr) (cn B : Nat) (w : World) (hN : Ro w B An (strs v.names)) (hB : B ≤ w.heap.size) (hl : v.names.length ≤ 140737488355328) (hs : StrOk v.names) (ht : v.text.length ≤ 70368744177664) :
    Calls Tryd.prog 40 #[vagg v Ak ck An cn, .int .i64 243] w fun e w' => e = .returned (.bool (!validL v.text || v.names.any fun s => !validL s)) ∧ Chg (fun _ => False) w w' := by
  have hal : ∀ o, Chg (fun _ => False) w (w.alloc o) := fun o => (Chg.refl _ w).alloc o
  have HAL := Lib.hid hal
  have HN := Lib.hid hN
  clear hal hN
  go_enter Tryd.func40, Tryd.ntmps40
  go_wp2_with fail
  refine (valid_any v.text _ ht).mono ?_
  rintro e w2 ⟨rfl, hch2⟩
  have hbk := hch2.obj (heap_alloc_new w _) id
  have c5 : w2.cell? ⟨w.heap.size, 5, none⟩ = some (.slice An v.names.length cn) := by simp [World.cell?, hbk]
  have hch : Chg (fun _ => False) w w2 := (HAL.out _).trans hch2
  clear hbk hch2
  cases hv : validL v.text with
  | true =>
    go_wp2_with fail
    refine (has_any v.names An cn B w2 (HN.out.keep (hch.below hB (fun _ h => h.elim))) (Nat.le_trans hB hch.size) hl hs).mono ?_
    rintro e w3 ⟨rfl, hch3⟩
    have HV := Lib.hid hv
    clear hv
    go_wp2_with fail
    go_ret
    exact ⟨by rw [HV.out]; rfl, hch.trans hch3⟩
  | false =>
    have HV := Lib.hid hv
    clear hv
    go_wp2_with fail
    go_ret
    exact ⟨by rw [HV.out]; rfl, hch⟩
end Go.Proofs.YtknmbfkpclacgaaDoor
