/- The JSON reader's method put: a value goes behind the tree. -/
import Derived.Test.YtknmbfkpclacgaaDoorRdb
import Derived.Deep.RegionHeld3
import Derived.Deep.RegionLaw
import Derived.Deep.AppendLies
import Derived.WalkSpells
import Derived.OwnWalk
set_option linter.unusedSimpArgs false
namespace Go.Proofs.YtknmbfkpclacgaaDoor
open Go.RowKit

theorem Tryd.infoValue : (Tryd.prog.info? 35).map (fun i => (i.zero, i.size, i.bytes)) = some (some (.agg #[.int .i64 0, .bool false, .int .i64 0, .string ByteArray.empty, .slice none 0 0, .slice none 0 0]), 6, 88) := by kernel_rfl

/-- A value as it lies in memory: its six cells. -/
structure VC where
  kind : Int
  truth : Bool
  n : Int
  text : ByteArray
  kids : Value
  names : Value
def VC.cells (x : VC) : List Value := [.int .i64 x.kind, .bool x.truth, .int .i64 x.n, .string x.text, x.kids, x.names]
def flat (xs : List VC) : List Value := xs.flatMap VC.cells
theorem flat_snoc (xs : List VC) (x : VC) : flat (xs ++ [x]) = flat xs ++ x.cells := by simp [flat, List.flatMap_append]

/-- What a call of put may turn: the reader's block, the tree's own row. -/
def SP (rb : Nat) (tv : Value) (k : Nat) : Prop := k = rb ∨ some k = tv.ownBlock

theorem heap_two (w : World) (o1 o2 : Obj) : ((w.alloc o1).alloc o2).drew.heap[w.heap.size + 1]? = some o2 := by
  have := heap_alloc_new (w.alloc o1) o2
  rw [World.size_alloc] at this
  exact this
theorem own_lt' {w : World} {base : Nat} {e : TypeId} {size n : Nat} {v : Value} {xs : List Value} (h : w.ownsRow base e size v n xs) (k : Nat) (hk : v.ownBlock = some k) : k < w.heap.size := by
  rcases h.2 with ⟨rfl, _⟩ | ⟨g, cap, cur, rfl, hb, hh, _⟩
  · simp [Value.ownBlock] at hk
  · have : g = k := by simpa [Value.ownBlock] using hk
    subst this
    exact lt_of_block hh
set_option maxRecDepth 100000 in
set_option maxHeartbeats 8000000 in
theorem put_any (rb : Nat) (bv tv : Value) (i dp base n : Nat) (xs : List Value) (x : VC) (hk : x.kids.oneCell' = true) (hn : x.names.oneCell' = true) (w : World) (hr : Rd w rb bv i dp tv)
    (hown : w.ownsRow base 35 6 tv n xs) (hbase : base ≤ w.heap.size) (hlen : n ≤ 1000000000) (hne : tv.ownBlock ≠ some rb) :
    Calls Tryd.prog 34 #[.pointer (some ⟨rb, 0, none⟩), .agg #[.int .i64 x.kind, .bool x.truth, .int .i64 x.n, .string x.text, x.kids, x.names]] w fun e w' =>
      ∃ g cap, e = .returned (.int .i64 n) ∧ Rd w' rb bv i dp (.slice (some ⟨g, 0, none⟩) (n + 1) cap) ∧
        w'.ownsRow base 35 6 (.slice (some ⟨g, 0, none⟩) (n + 1) cap) (n + 1) (xs ++ x.cells) ∧ Chg (SP rb tv) w w' ∧ (tv.ownBlock = some g ∨ w.heap.size ≤ g) := by
  obtain ⟨x0, x1, x2, x3, x4, x5⟩ := x
  obtain ⟨i0, hi0, hz0, hz1, hz2⟩ := info_parts Tryd.infoValue
  have c3 := hr.c3
  have hlt := hr.lt
  have f3 := hr.f 3
  have h1 : ∀ u ∈ [Value.int .i64 x0, .bool x1, .int .i64 x2, .string x3, x4, x5], u.oneCell' = true := by
    intro u hu
    simp only [List.mem_cons, List.not_mem_nil, or_false] at hu
    rcases hu with rfl | rfl | rfl | rfl | rfl | rfl
    · rfl
    · rfl
    · rfl
    · rfl
    · exact hk
    · exact hn
  have H1 := Lib.hid h1
  have HZ := Lib.hid (And.intro hi0 (And.intro hz0 (And.intro hz1 hz2)))
  have HK := Lib.hid (And.intro hk hn)
  have hw0 : some w.heap.size ≠ tv.ownBlock := fun e => by have := own_lt' hown _ e.symm; omega
  have HW := Lib.hid hw0
  clear hw0
  clear h1 hk hn hi0 hz0 hz1 hz2
  go_enter Tryd.func34, Tryd.ntmps34
  go_wp2_with fail
  have f3A : ∀ o1 o2, (((w.alloc o1).alloc o2).drew).frozen? ⟨rb, 3, none⟩ = false := fun o1 o2 => by
    rw [← f3]
    refine World.frozen?_of_block (w := w) ?_
    show ((w.alloc o1).alloc o2).heap[rb]? = _
    rw [Below.heap_alloc _ _ rb (by simp; omega), Below.heap_alloc w _ rb hlt]
  have c3A : ∀ o1 o2, (((w.alloc o1).alloc o2).drew).cell? ⟨rb, 3, none⟩ = some tv := fun o1 o2 => by
    rw [← c3]
    refine World.cell?_of_block (w := w) ?_
    show ((w.alloc o1).alloc o2).heap[rb]? = _
    rw [Below.heap_alloc _ _ rb (by simp; omega), Below.heap_alloc w _ rb hlt]
  have CA := Lib.hid c3A
  clear c3A
  have FA := Lib.hid f3A
  clear f3A
  go_region_law
    ((refine step_append_lies _ (by rfl) _ _ _ (by rfl) base 35 i0 _ 6 88 Tryd.underlying27 HZ.out.1 HZ.out.2.1 HZ.out.2.2.1 HZ.out.2.2.2 rfl (by omega) tv n xs (by rfl) (((hown.alloc _).alloc _).drew)
        ⟨w.heap.size + 1, 0, none⟩ 1 1 [.int .i64 x0, .bool x1, .int .i64 x2, .string x3, x4, x5] (by rfl) (by rfl) (World.news_of_block (cs := #[.int .i64 x0, .bool x1, .int .i64 x2, .string x3, x4, x5]) (t := 35) (fr := (0, 0)) (heap_two w _ _)) H1.out
        (by omega) (by unfold maxLen; omega) (by omega) (by simp; omega) (w.heap.size + 2) (by simp) ?_; intro gg cap w1 hown1 hgrow hat hlt1; have fz1 : w1.frozen? ⟨rb, 3, none⟩ = false := (hgrow.frozen_far ⟨rb, 3, none⟩ (by simp; omega) (Ne.symm hne)).trans (FA.out _ _); have cz1 : w1.cell? ⟨rb, 3, none⟩ = some tv := (hgrow.cell_far ⟨rb, 3, none⟩ (by simp; omega) (Ne.symm hne)).trans (CA.out _ _)))
  all_goals
    have hr1 : Rd w1 rb bv i dp tv := ⟨by
      rw [hgrow.block rb (by simp; omega) (Ne.symm hne)]
      show ((w.alloc _).alloc _).heap[rb]? = _
      rw [Below.heap_alloc _ _ rb (by simp; omega), Below.heap_alloc w _ rb hlt]
      exact hr.h⟩
    have hr2 := hr1.set3 (.slice (some ⟨gg, 0, none⟩) (n + 1) cap)
    have hgr : gg ≠ rb := by
      rintro rfl
      rcases hat with h | h
      · exact hne h
      · omega
    have hown2 := ownsRow_setCell_other hown1 (a := ⟨rb, 3, none⟩) (by simpa [Value.ownBlock] using hgr) (.slice (some ⟨gg, 0, none⟩) (n + 1) cap)
    have hch : Chg (SP rb tv) w (w1.setCell ⟨rb, 3, none⟩ (.slice (some ⟨gg, 0, none⟩) (n + 1) cap)) :=
      ((((Chg.refl _ w).alloc _).alloc _).drew.grown hgrow (fun k _ e => .inr e)).setCell (fun _ => .inl rfl) _
    have hat' : tv.ownBlock = some gg ∨ w.heap.size ≤ gg := hat.imp id (fun h => by omega)
    have d3 := hr2.c3
    have HE := Lib.hid (And.intro hr2 (And.intro hown2 (And.intro hch hat')))
    clear hr2 hown2 hch hat' hat hown1 hgrow hgr fz1 cz1 c3 f3
    go_wp2_with fail
    go_ret
    exact ⟨gg, cap, congrArg Ending.returned (by first | rfl | go_num), HE.out.1, HE.out.2.1, HE.out.2.2.1, HE.out.2.2.2⟩
end Go.Proofs.YtknmbfkpclacgaaDoor
