import Derived.Test.YtknmbfkpclacgaaGreatDoorMPa22
/- The document's reader: put, word, number. -/
set_option linter.unusedSimpArgs false
namespace Go.Proofs.YtknmbfkpclacgaaGreatDoor
open Go.RowKit

set_option maxRecDepth 100000 in
set_option maxHeartbeats 8000000 in
theorem rput_any (rb : Nat) (bv tv : Value) (i : Nat) (fa er : Int) (base n : Nat) (xs : List Value) (x : VC) (hk : x.kids.oneCell' = true) (hn : x.names.oneCell' = true) (w : World) (hr : RR w rb bv i fa er tv)
    (hown : w.ownsRow base 47 6 tv n xs) (hbase : base ≤ w.heap.size) (hlen : n ≤ 1000000000) (hne : tv.ownBlock ≠ some rb) :
    Calls Tryz.prog 116 #[.pointer (some ⟨rb, 0, none⟩), .agg #[.int .i64 x.kind, .bool x.truth, .int .i64 x.n, .string x.text, x.kids, x.names]] w fun e w' =>
      ∃ g cap, e = .returned (.int .i64 n) ∧ RR w' rb bv i fa er (.slice (some ⟨g, 0, none⟩) (n + 1) cap) ∧
        w'.ownsRow base 47 6 (.slice (some ⟨g, 0, none⟩) (n + 1) cap) (n + 1) (xs ++ x.cells) ∧ Chg (SP rb tv) w w' ∧ (tv.ownBlock = some g ∨ w.heap.size ≤ g) := by
  obtain ⟨x0, x1, x2, x3, x4, x5⟩ := x
  obtain ⟨i0, hi0, hz0, hz1, hz2⟩ := info_parts Tryz.infoValue
  have c4 := hr.c4
  have hlt := hr.lt
  have f4 := hr.f 4
  have h1 : ∀ u ∈ [Value.int .i64 x0, .bool x1, .int .i64 x2, .string x3, x4, x5], u.oneCell' = true := by
    intro u hu
    simp only [List.mem_cons, List.not_mem_nil, or_false] at hu
    rcases hu with rfl | rfl | rfl | rfl | rfl | rfl
    · rfl
    · rfl
    · rfl
    · rfl
    · exact hk
    · exact hn
  have H1 := Lib.hid h1
  have HZ := Lib.hid (And.intro hi0 (And.intro hz0 (And.intro hz1 hz2)))
  have HK := Lib.hid (And.intro hk hn)
  have hw0 : some w.heap.size ≠ tv.ownBlock := fun e => by have := own_lt' hown _ e.symm; omega
  have HW := Lib.hid hw0
  clear hw0
  clear h1 hk hn hi0 hz0 hz1 hz2
  go_enter Tryz.func116, Tryz.ntmps116
  go_wp2_with fail
  have f4A : ∀ o1 o2, (((w.alloc o1).alloc o2).drew).frozen? ⟨rb, 4, none⟩ = false := fun o1 o2 => by
    rw [← f4]
    refine World.frozen?_of_block (w := w) ?_
    show ((w.alloc o1).alloc o2).heap[rb]? = _
    rw [Below.heap_alloc _ _ rb (by simp; omega), Below.heap_alloc w _ rb hlt]
  have c4A : ∀ o1 o2, (((w.alloc o1).alloc o2).drew).cell? ⟨rb, 4, none⟩ = some tv := fun o1 o2 => by
    rw [← c4]
    refine World.cell?_of_block (w := w) ?_
    show ((w.alloc o1).alloc o2).heap[rb]? = _
    rw [Below.heap_alloc _ _ rb (by simp; omega), Below.heap_alloc w _ rb hlt]
  have CA := Lib.hid c4A
  clear c4A
  have FA := Lib.hid f4A
  clear f4A
  go_region_law
    ((refine step_append_lies _ (by rfl) _ _ _ (by rfl) base 47 i0 _ 6 88 Tryz.underlying25 HZ.out.1 HZ.out.2.1 HZ.out.2.2.1 HZ.out.2.2.2 rfl (by omega) tv n xs (by rfl) (((hown.alloc _).alloc _).drew)
        ⟨w.heap.size + 1, 0, none⟩ 1 1 [.int .i64 x0, .bool x1, .int .i64 x2, .string x3, x4, x5] (by rfl) (by rfl) (World.news_of_block (cs := #[.int .i64 x0, .bool x1, .int .i64 x2, .string x3, x4, x5]) (t := 47) (fr := (0, 0)) (heap_two w _ _)) H1.out
        (by omega) (by unfold maxLen; omega) (by omega) (by simp; omega) (w.heap.size + 2) (by simp) ?_; intro gg cap w1 hown1 hgrow hat hlt1; have fz1 : w1.frozen? ⟨rb, 4, none⟩ = false := (hgrow.frozen_far ⟨rb, 4, none⟩ (by simp; omega) (Ne.symm hne)).trans (FA.out _ _); have cz1 : w1.cell? ⟨rb, 4, none⟩ = some tv := (hgrow.cell_far ⟨rb, 4, none⟩ (by simp; omega) (Ne.symm hne)).trans (CA.out _ _)))
  all_goals
    have hr1 : RR w1 rb bv i fa er tv := ⟨by
      rw [hgrow.block rb (by simp; omega) (Ne.symm hne)]
      show ((w.alloc _).alloc _).heap[rb]? = _
      rw [Below.heap_alloc _ _ rb (by simp; omega), Below.heap_alloc w _ rb hlt]
      exact hr.h⟩
    have hr2 := hr1.set4 (.slice (some ⟨gg, 0, none⟩) (n + 1) cap)
    have hgr : gg ≠ rb := by
      rintro rfl
      rcases hat with h | h
      · exact hne h
      · omega
    have hown2 := ownsRow_setCell_other hown1 (a := ⟨rb, 4, none⟩) (by simpa [Value.ownBlock] using hgr) (.slice (some ⟨gg, 0, none⟩) (n + 1) cap)
    have hch : Chg (SP rb tv) w (w1.setCell ⟨rb, 4, none⟩ (.slice (some ⟨gg, 0, none⟩) (n + 1) cap)) :=
      ((((Chg.refl _ w).alloc _).alloc _).drew.grown hgrow (fun k _ e => .inr e)).setCell (fun _ => .inl rfl) _
    have hat' : tv.ownBlock = some gg ∨ w.heap.size ≤ gg := hat.imp id (fun h => by omega)
    have d4 := hr2.c4
    have HE := Lib.hid (And.intro hr2 (And.intro hown2 (And.intro hch hat')))
    clear hr2 hown2 hch hat' hat hown1 hgrow hgr fz1 cz1 c4 f4
    go_wp2_with fail
    go_ret
    exact ⟨gg, cap, congrArg Ending.returned (by first | rfl | go_num), HE.out.1, HE.out.2.1, HE.out.2.2.1, HE.out.2.2.2⟩

theorem TR.neRR {base : Nat} {w : World} {tv : Value} {xs : List VC} {t : List JV} (h : TR base w tv xs t) {rb : Nat} {bv : Value} {i : Nat} {fa er : Int} {tv' : Value} (hr : RR w rb bv i fa er tv') : tv.ownBlock ≠ some rb := fun e => by
  have h1 := own_ety h.own e
  rw [hr.ety] at h1
  exact absurd (Option.some.inj h1) (by decide)
theorem TR.spR {base : Nat} {w : World} {tv : Value} {xs : List VC} {t : List JV} (h : TR base w tv xs t) {rb : Nat} {bv : Value} {i : Nat} {fa er : Int} {tv' : Value} (hr : RR w rb bv i fa er tv') : ∀ b, SP rb tv b → ety w b ≠ some 3 ∧ ety w b ≠ some 9 := by
  rintro b (rfl | hb)
  · rw [hr.ety]; decide
  · rw [own_ety h.own hb.symm]; decide
theorem TR.rbR {base : Nat} {w w' : World} {tv : Value} {xs : List VC} {t : List JV} (h : TR base w tv xs t) {rb : Nat} {bv : Value} {i : Nat} {fa er : Int} {tv' : Value} (hr : RR w rb bv i fa er tv') (hc : Chg (· = rb) w w') : TR base w' tv xs t :=
  h.keep hc (fun b hb => by subst hb; rw [hr.ety]; decide) (fun b hb e => h.neRR hr (e ▸ hb))
theorem RS.base {w w' : World} {B rb : Nat} {A : Option Addr} {cap : Nat} {l : List UInt8} {i i' : Nat} {fa er fa' er' : Int} {tv tv' : Value} {base : Nat} (h : RS w B rb A cap l i fa er tv) (hB : B ≤ base) (hr : RR w' rb (.slice A l.length cap) i' fa' er' tv') (hb : Below base w w') : RS w' B rb A cap l i' fa' er' tv' :=
  ⟨hr, h.b.keep (hb.mono hB), h.B, h.c⟩
theorem put_tr (rb : Nat) (A : Option Addr) (cap : Nat) (l : List UInt8) (i : Nat) (fa er : Int) (B base : Nat) (tv : Value) (xs : List VC) (t : List JV) (x : VC) (v : JV) (w : World) (hst : RS w B rb A cap l i fa er tv) (hT : TR base w tv xs t)
    (hx : VR base w x v) (hnd : (tb (xs ++ [x])).Nodup) (hbase : base ≤ rb) (hB : B ≤ base) (ht : t.length ≤ 1000000000) :
    Calls Tryz.prog 116 #[.pointer (some ⟨rb, 0, none⟩), .agg #[.int .i64 v.kind, .bool v.truth, .int .i64 v.n, .string ⟨v.text.toArray⟩, x.kids, x.names]] w fun e w' =>
      e = .returned (.int .i64 t.length) ∧ ∃ tv', RS w' B rb A cap l i fa er tv' ∧ TR base w' tv' (xs ++ [x]) (t ++ [v]) ∧ Chg (SP rb tv) w w' ∧ (∀ b, tv'.ownBlock = some b → tv.ownBlock = some b ∨ w.heap.size ≤ b) := by
  have hlt := hst.r.lt
  have h := rput_any rb (.slice A l.length cap) tv i fa er base t.length (flat xs) x (own_one hx.kids) (own_one hx.names) w hst.r hT.own (by omega) ht (hT.neRR hst.r)
  rw [hx.kind, hx.truth, hx.n, hx.text] at h
  refine h.mono ?_
  rintro e w' ⟨g, cap', he, hr, hown, hch, hg⟩
  have hS := hT.spR hst.r
  refine ⟨he, _, hst.base hB hr (SP.base hT hbase hlt hch), ⟨?_, ?_, hnd⟩, hch, ?_⟩
  · rw [flat_snoc, List.length_append]; exact hown
  · exact (hT.vals.keep hch hS).snoc (hx.keep hch hS)
  · intro b hb
    have : g = b := by simpa [Value.ownBlock] using hb
    subst this; exact hg

/-- How a reading ends. -/
def FR (res : Except Flt (Nat × Nat × List JV)) (z : Int) (a : Nat) (fa er : Int) (t' : List JV) : Prop :=
  match res with
  | .ok (p, j, t2) => z = p ∧ a = j ∧ fa = -1 ∧ er = 0 ∧ t' = t2
  | .error f => fa = f.1 ∧ er = f.2
/-- What a call that reads a value does. -/
structure RP (res : Except Flt (Nat × Nat × List JV)) (rb base : Nat) (bv tv : Value) (xs : List VC) (lim : Nat) (w : World) (w' : World) (z : Int) (a : Nat) (fa er : Int) (tv' : Value) (xs' : List VC) (t' : List JV) : Prop where
  r : RR w' rb bv a fa er tv'
  tr : TR base w' tv' (xs ++ xs') t'
  chg : Chg (SP rb tv) w w'
  fresh : ∀ b ∈ tb xs', w.heap.size ≤ b
  tvb : ∀ b, tv'.ownBlock = some b → tv.ownBlock = some b ∨ w.heap.size ≤ b
  al : a ≤ lim
  tl : t'.length ≤ lim
  fr : FR res z a fa er t'
def RPost (res : Except Flt (Nat × Nat × List JV)) (rb base : Nat) (bv tv : Value) (xs : List VC) (lim : Nat) (w : World) (e : Ending) (w' : World) : Prop :=
  ∃ (z : Int) (a : Nat) (fa er : Int) (tv' : Value) (xs' : List VC) (t' : List JV), e = .returned (.int .i64 z) ∧ RP res rb base bv tv xs lim w w' z a fa er tv' xs' t'
/-- Nothing has been put. -/
theorem RPost.none {res : Except Flt (Nat × Nat × List JV)} {rb base : Nat} {bv tv : Value} {xs : List VC} {lim : Nat} {w w' : World} {f : Flt} {a : Nat} {fa er : Int} {t : List JV} (h : res = .error f) (hr : RR w' rb bv a fa er tv) (hT : TR base w' tv xs t) (hc : Chg (SP rb tv) w w') (ha : a ≤ lim) (htl : t.length ≤ lim) (h1 : fa = f.1) (h2 : er = f.2) (z : Int) :
    RPost res rb base bv tv xs lim w (.returned (.int .i64 z)) w' :=
  ⟨z, a, fa, er, tv, [], t, rfl, hr, by rw [List.append_nil]; exact hT, hc, by simp [tb], fun b hb => .inl hb, ha, htl, by rw [h]; exact ⟨h1, h2⟩⟩
/-- A value without lists has been put. -/
theorem put_bareR (rb : Nat) (A : Option Addr) (cap : Nat) (l : List UInt8) (i j : Nat) (fa er fa0 er0 : Int) (B base : Nat) (tv : Value) (xs : List VC) (t : List JV) (v : JV) (lim : Nat) (res : Except Flt (Nat × Nat × List JV)) (w w1 : World) (hst : RS w B rb A cap l i fa0 er0 tv) (hT : TR base w tv xs t)
    (hr1 : RR w1 rb (.slice A l.length cap) j fa er tv) (hc1 : Chg (· = rb) w w1) (hbase : base ≤ rb) (hB : B ≤ base) (ht : t.length ≤ 1000000000) (hk : v.kids = []) (hn : v.names = []) (hj : j ≤ lim) (hl : t.length + 1 ≤ lim) (hf : FR res (t.length : Nat) j fa er (t ++ [v])) :
    Calls Tryz.prog 116 #[.pointer (some ⟨rb, 0, none⟩), .agg #[.int .i64 v.kind, .bool v.truth, .int .i64 v.n, .string ⟨v.text.toArray⟩, .slice none 0 0, .slice none 0 0]] w1
      (RPost res rb base (.slice A l.length cap) tv xs lim w) := by
  have hst1 := hst.to hr1 hc1
  have hT1 := hT.rbR hst.r hc1
  have hsz := hc1.size
  refine (put_tr rb A cap l j fa er B base tv xs t (bare v) v w1 hst1 hT1 (VR.bare hk hn) (by rw [tb_append, tb_bare, List.append_nil]; exact hT.nodup) hbase hB ht).mono ?_
  rintro e w4 ⟨rfl, tv4, hst4, hT4, hch4, htv4⟩
  exact ⟨_, j, fa, er, tv4, [bare v], _, rfl, hst4.r, hT4, (hc1.mono fun _ _ h => .inl h).trans hch4, by rw [tb_bare]; simp, fun b hb => (htv4 b hb).imp id (fun h => by omega), hj, by simp; omega, hf⟩
end Go.Proofs.YtknmbfkpclacgaaGreatDoor

/- The document's reader: word, number. -/
set_option linter.unusedSimpArgs false
namespace Go.Proofs.YtknmbfkpclacgaaGreatDoor
open Go.RowKit

theorem six_cells {W : World} {b : Nat} {x0 x1 x2 x3 x4 x5 : Value} {e : TypeId} (h : W.heap[b]? = some (.cells #[x0, x1, x2, x3, x4, x5] e (0, 0))) :
    W.cell? ⟨b, 0, none⟩ = some x0 ∧ W.cell? ⟨b, 1, none⟩ = some x1 ∧ W.cell? ⟨b, 2, none⟩ = some x2 ∧ W.cell? ⟨b, 3, none⟩ = some x3 ∧ W.cell? ⟨b, 4, none⟩ = some x4 ∧ W.cell? ⟨b, 5, none⟩ = some x5 := by
  simp [World.cell?, h]
def resW (r : Except Flt Nat) (t : List JV) (v : JV) : Except Flt (Nat × Nat × List JV) := match r with
  | .error e => .error e
  | .ok j => .ok (t.length, j, t ++ [v])
set_option maxRecDepth 100000 in
set_option maxHeartbeats 8000000 in
theorem word_r (rb : Nat) (A : Option Addr) (cap : Nat) (l : List UInt8) (i B base : Nat) (tv : Value) (xs : List VC) (t : List JV) (wd : List UInt8) (v : JV) (w : World) (lim : Nat) (hst : RS w B rb A cap l i (-1) 0 tv) (hT : TR base w tv xs t) (hw0 : 0 < wd.length) (hw : wd.length ≤ 100)
    (hil : i ≤ l.length) (hk : v.kids = []) (hn : v.names = []) (hbase : base ≤ rb) (hB : B ≤ base) (ht : t.length ≤ 1000000000) (hl1 : l.length ≤ lim) (hl2 : t.length + 1 ≤ lim) :
    Calls Tryz.prog 114 #[.pointer (some ⟨rb, 0, none⟩), .string ⟨wd.toArray⟩, .agg #[.int .i64 v.kind, .bool v.truth, .int .i64 v.n, .string ⟨v.text.toArray⟩, .slice none 0 0, .slice none 0 0]] w
      (RPost (resW (wordJ l i wd) t v) rb base (.slice A l.length cap) tv xs lim w) := by
  have hlt := hst.r.lt
  have hBr := hst.B
  have hcap := hst.c
  generalize hW0 : w.alloc (.cells #[.int .i64 v.kind, .bool v.truth, .int .i64 v.n, .string ⟨v.text.toArray⟩, .slice none 0 0, .slice none 0 0] 47) = W0
  have hc0 : Chg (fun _ => False) w W0 := by subst hW0; exact (Chg.refl _ _).alloc _
  have hblk : W0.heap[w.heap.size]? = some (.cells #[.int .i64 v.kind, .bool v.truth, .int .i64 v.n, .string ⟨v.text.toArray⟩, .slice none 0 0, .slice none 0 0] 47 (0, 0)) := by subst hW0; exact heap_alloc_new w _
  have hst0 : RS W0 B rb A cap l i (-1) 0 tv := hst.to (hst.r.keep hc0 id) (hc0.mono fun _ _ h => h.elim)
  have hT0 : TR base W0 tv xs t := hT.keep hc0 (fun _ h => h.elim) (fun _ _ h => h)
  have c0 := hst0.r.c0
  have c1 := hst0.r.c1
  have f1 := hst0.r.f 1
  have hln := hst0.b.len
  by_cases hww : (l.drop i).take wd.length = wd
  · have hi : i + wd.length ≤ l.length := by
      have := congrArg List.length hww
      simp only [List.length_take, List.length_drop] at this
      omega
    have hres : resW (wordJ l i wd) t v = .ok (t.length, i + wd.length, t ++ [v]) := by rw [wordJ_yes hww]; rfl
    have hb0 : (!(l.drop i).take wd.length == wd) = false := by rw [hww]; simp
    have hput := fun (W1 : World) (hr : RR W1 rb (.slice A l.length cap) (i + wd.length) (-1) 0 tv) (hc : Chg (· = rb) W0 W1) =>
      put_bareR rb A cap l i (i + wd.length) (-1) 0 (-1) 0 B base tv xs t v lim (.ok (t.length, i + wd.length, t ++ [v])) W0 W1 hst0 hT0 hr hc hbase hB ht hk hn (by omega) hl2 ⟨rfl, rfl, rfl, rfl, rfl⟩
    rw [hres]
    obtain ⟨b, o, rfl, hne, hc⟩ := hst0.b.cells (by omega)
    have hs : ∀ (n c : Nat), (convert 22 9 (.slice (some ⟨b, o + i, none⟩) wd.length c)).run Tryz.prog (W0.drewN n) = .ok (.string ⟨((l.drop i).take wd.length).toArray⟩) (W0.drewN n) := fun n c =>
      conv_bytes (e := 5) (by kernel_rfl) (by kernel_rfl) (by kernel_rfl) (W0.drewN n) b (o + i) wd.length c ((l.drop i).take wd.length) (by simp; omega) (fun j hj => by
        have := hc (i + j) (by omega)
        rw [show o + i + j = o + (i + j) from by omega]
        refine this.trans ?_
        simp only [pk, List.getD_eq_getElem?_getD, List.getElem?_take, if_pos hj, List.getElem?_drop])
    have hrr : ∀ n, RR ((W0.drewN n).setCell ⟨rb, 1, none⟩ (.int .i64 ((i : Int) + (wd.length : Int)))) rb (.slice (some ⟨b, o, none⟩) l.length cap) (i + wd.length) (-1) 0 tv ∧ Chg (· = rb) W0 ((W0.drewN n).setCell ⟨rb, 1, none⟩ (.int .i64 ((i : Int) + (wd.length : Int)))) := fun n =>
      ⟨(hst0.r.drewN n).set1 (i + wd.length), ((Chg.refl _ _).drewN _).st _ _⟩
    have hcb : ∀ n, ((W0.drewN n).setCell ⟨rb, 1, none⟩ (.int .i64 ((i : Int) + (wd.length : Int)))).heap[w.heap.size]? = some (.cells #[.int .i64 v.kind, .bool v.truth, .int .i64 v.n, .string ⟨v.text.toArray⟩, .slice none 0 0, .slice none 0 0] 47 (0, 0)) := fun n =>
      ((Chg.refl (· = rb) (W0.drewN n)).st 1 (.int .i64 ((i : Int) + (wd.length : Int)))).obj (show (W0.drewN n).heap[w.heap.size]? = _ from hblk) (by omega)
    have HPUT := Lib.hid hput
    have HRR := Lib.hid (And.intro hrr hcb)
    have HC0 := Lib.hid hc0
    have HBLK := Lib.hid hblk
    clear hww hres hput hrr hcb hc hst0 hT0 hc0 hblk hst hT
    go_enter Tryz.func114, Tryz.ntmps114
    go_wp2_with fail
    (try rw [hW0])
    have hd : decide ((l.length : Int) - (i : Int) < (wd.length : Int)) = false := by simp; omega
    go_quiet (fail)
    obtain ⟨q0, q1, q2, q3, q4, q5⟩ := six_cells HBLK.out
    have n1 : w.heap.size ≠ rb := by omega
    have n2 : rb ≠ w.heap.size := by omega
    go_wp2_with fail
    have hP := HPUT.out _ (HRR.out.1 nq).1 (HRR.out.1 nq).2
    generalize ((W0.drewN nq).setCell ⟨rb, 1, none⟩ (.int .i64 ((i : Int) + (wd.length : Int)))) = W1 at *
    have HP := Lib.hid hP
    clear hP HRR HPUT
    go_wp2_with fail
    refine HP.out.mono ?_
    intro e w2 hR
    obtain ⟨z, a, fa, er, tv', xs', t', rfl, hR⟩ := hR
    have hend : RPost (.ok (t.length, i + wd.length, t ++ [v])) rb base (.slice (some ⟨b, o, none⟩) l.length cap) tv xs lim w (.returned (.int .i64 z)) w2 :=
      ⟨z, a, fa, er, tv', xs', t', rfl, hR.r, hR.tr, (HC0.out.mono fun _ _ h => h.elim).trans hR.chg, fun b hb => Nat.le_trans HC0.out.size (hR.fresh b hb), fun b hb => (hR.tvb b hb).imp id (Nat.le_trans HC0.out.size), hR.al, hR.tl, hR.fr⟩
    have HE := Lib.hid hend
    clear hend hR
    go_wp2_with fail
    go_ret
    exact HE.out
  · have hres : resW (wordJ l i wd) t v = .error (i, 240) := by rw [wordJ_no hww]; rfl
    have hb0 : (!(l.drop i).take wd.length == wd) = true := by simpa using hww
    have hno := fun n => rno_any rb (.slice A l.length cap) i (-1) 0 tv (i : Int) 240 (W0.drewN n) (hst0.r.drewN n)
    have hend : ∀ n W2, RR W2 rb (.slice A l.length cap) i (noF (-1) i) (noE (-1) 0 240) tv → Chg (· = rb) (W0.drewN n) W2 → RPost (resW (wordJ l i wd) t v) rb base (.slice A l.length cap) tv xs lim w (.returned (.int .i64 0)) W2 := by
      intro n W2 hr hc
      have hcw : Chg (· = rb) w W2 := (hc0.mono fun _ _ h => h.elim).trans (((Chg.refl _ W0).drewN n).trans hc)
      exact RPost.none hres (by simpa [noF, noE] using hr) (hT.rbR hst.r hcw) (hcw.mono fun _ _ h => .inl h) (by omega) (by omega) rfl rfl 0
    have HNO := Lib.hid hno
    have HEND := Lib.hid hend
    clear hww hres hno hend hT0 hT hc0 hblk
    by_cases hi : i + wd.length ≤ l.length
    · obtain ⟨b, o, rfl, hne, hc⟩ := hst0.b.cells (by omega)
      have hs : ∀ (n c : Nat), (convert 22 9 (.slice (some ⟨b, o + i, none⟩) wd.length c)).run Tryz.prog (W0.drewN n) = .ok (.string ⟨((l.drop i).take wd.length).toArray⟩) (W0.drewN n) := fun n c =>
        conv_bytes (e := 5) (by kernel_rfl) (by kernel_rfl) (by kernel_rfl) (W0.drewN n) b (o + i) wd.length c ((l.drop i).take wd.length) (by simp; omega) (fun j hj => by
          have := hc (i + j) (by omega)
          rw [show o + i + j = o + (i + j) from by omega]
          refine this.trans ?_
          simp only [pk, List.getD_eq_getElem?_getD, List.getElem?_take, if_pos hj, List.getElem?_drop])
      clear hc hst0 hst
      go_enter Tryz.func114, Tryz.ntmps114
      go_wp2_with fail
      (try rw [hW0])
      have hd : decide ((l.length : Int) - (i : Int) < (wd.length : Int)) = false := by simp; omega
      go_quiet (fail)
      go_wp2_with fail
      refine (HNO.out _).mono ?_
      rintro e w2 ⟨rfl, hr, hc⟩
      have HE := Lib.hid (HEND.out _ _ hr hc)
      clear hr hc
      go_wp2_with fail
      go_ret
      exact HE.out
    · clear hst0 hst
      go_enter Tryz.func114, Tryz.ntmps114
      go_wp2_with fail
      (try rw [hW0])
      have hd : decide ((l.length : Int) - (i : Int) < (wd.length : Int)) = true := by simp; omega
      go_quiet (fail)
      go_wp2_with fail
      refine (HNO.out _).mono ?_
      rintro e w2 ⟨rfl, hr, hc⟩
      have HE := Lib.hid (HEND.out _ _ hr hc)
      clear hr hc
      go_wp2_with fail
      go_ret
      exact HE.out
end Go.Proofs.YtknmbfkpclacgaaGreatDoor
