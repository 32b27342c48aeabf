import Derived.Test.YtknmbfkpclacgaaGreatDoorMQu5
import Derived.Deep.CutRange
import Derived.RegionDies
/- The reader's put over trees; its list. -/
set_option linter.unusedSimpArgs false
namespace Go.Proofs.YtknmbfkpclacgaaGreatDoor
open Go.RowKit

theorem own_one {w : World} {base : Nat} {e : TypeId} {size n : Nat} {v : Value} {xs : List Value} (h : w.ownsRow base e size v n xs) : v.oneCell' = true := by
  rcases h.2 with ⟨rfl, _⟩ | ⟨g, cap, cur, rfl, _⟩ <;> rfl
theorem own_mono {w : World} {base base' : Nat} {e : TypeId} {size n : Nat} {v : Value} {xs : List Value} (h : w.ownsRow base e size v n xs) (hb : base' ≤ base) : w.ownsRow base' e size v n xs := by
  refine ⟨h.1, ?_⟩
  rcases h.2 with hn | ⟨g, cap, cur, rfl, hb', r⟩
  · exact .inl hn
  · exact .inr ⟨g, cap, cur, rfl, by omega, r⟩
theorem St.base {w w' : World} {B rb : Nat} {A : Option Addr} {cap : Nat} {l : List UInt8} {i dp i' dp' : Nat} {tv tv' : Value} {base : Nat} (h : St w B rb A cap l i dp tv) (hB : B ≤ base) (hr : Rd w' rb (.slice A l.length cap) i' dp' tv') (hb : Below base w w') : St w' B rb A cap l i' dp' tv' :=
  ⟨hr, h.b.keep (hb.mono hB), h.B, h.c⟩

theorem put_tree (rb : Nat) (A : Option Addr) (cap : Nat) (l : List UInt8) (i dp B base : Nat) (tv : Value) (xs : List VC) (t : List JV) (x : VC) (v : JV) (w : World) (hst : St w B rb A cap l i dp tv) (hT : TR base w tv xs t)
    (hx : VR base w x v) (hnd : (tb (xs ++ [x])).Nodup) (hbase : base ≤ rb) (hB : B ≤ base) (ht : t.length ≤ 1000000000) :
    Calls Tryz.prog 109 #[.pointer (some ⟨rb, 0, none⟩), .agg #[.int .i64 v.kind, .bool v.truth, .int .i64 v.n, .string ⟨v.text.toArray⟩, x.kids, x.names]] w fun e w' =>
      e = .returned (.int .i64 t.length) ∧ ∃ tv', St w' B rb A cap l i dp tv' ∧ TR base w' tv' (xs ++ [x]) (t ++ [v]) ∧ Chg (SP rb tv) w w' ∧ (∀ b, tv'.ownBlock = some b → tv.ownBlock = some b ∨ w.heap.size ≤ b) := by
  have hlt := hst.r.lt
  have h := put_any rb (.slice A l.length cap) tv i dp base t.length (flat xs) x (own_one hx.kids) (own_one hx.names) w hst.r hT.own (by omega) ht (hT.neRb hst.r)
  rw [hx.kind, hx.truth, hx.n, hx.text] at h
  refine h.mono ?_
  rintro e w' ⟨g, cap', he, hr, hown, hch, hg⟩
  have hS := hT.sp hst.r
  refine ⟨he, _, hst.base hB hr (SP.base hT hbase hlt hch), ⟨?_, ?_, hnd⟩, hch, ?_⟩
  · rw [flat_snoc, List.length_append]; exact hown
  · exact (hT.vals.keep hch hS).snoc (hx.keep hch hS)
  · intro b hb
    have : g = b := by simpa [Value.ownBlock] using hb
    subst this; exact hg

theorem own_form {w : World} {base : Nat} {e : TypeId} {size n : Nat} {v : Value} {xs : List Value} (h : w.ownsRow base e size v n xs) : ∃ A c, v = .slice A n c := by
  rcases h.2 with ⟨rfl, rfl⟩ | ⟨g, cap, cur, rfl, _⟩
  · exact ⟨none, 0, rfl⟩
  · exact ⟨_, cap, rfl⟩
theorem skip_skip (l : List UInt8) (i : Nat) : skip l (skip l i) = skip l i := by
  apply skip_stay
  rintro ⟨h1, h2⟩
  have : ∀ m : List UInt8, ∀ h : skipBl m < m.length, isBl (m[skipBl m]'h) = false := by
    intro m
    induction m with
    | nil => intro h; simp at h
    | cons c r ih =>
      intro h
      by_cases hc : isBl c = true
      · have e : skipBl (c :: r) = skipBl r + 1 := by simp [skipBl, hc]
        simp only [e, List.getElem_cons_succ]
        exact ih (by simp [e] at h; exact h)
      · have e : skipBl (c :: r) = 0 := by simp [skipBl, hc]
        simp only [e, List.getElem_cons_zero]
        simpa using hc
  have h3 := this (l.drop i) (by unfold skip at h1; simp; omega)
  rw [List.getElem_drop] at h3
  simp only [pk, List.getD_eq_getElem?_getD, List.getElem?_eq_getElem h1, Option.getD_some] at h2
  exact Bool.false_ne_true (h3.symm.trans h2)
theorem tb_one {xs : List VC} {kv : Value} {a b c d} (h : (tb xs).Nodup) (hn : ∀ b, kv.ownBlock = some b → b ∉ tb xs) : (tb (xs ++ [⟨a, b, c, d, kv, .slice none 0 0⟩])).Nodup := by
  rw [tb_append, List.nodup_append]
  refine ⟨h, ?_, ?_⟩
  · have e : tb [(⟨a, b, c, d, kv, .slice none 0 0⟩ : VC)] = kv.ownBlock.toList := by simp [tb, vb, Value.ownBlock]
    rw [e]
    cases kv.ownBlock with
    | none => exact List.nodup_nil
    | some q => exact (List.nodup_cons).2 ⟨List.not_mem_nil, List.nodup_nil⟩
  · intro x hx y hy e
    subst e
    have : kv.ownBlock = some x := by simpa [tb, vb, Value.ownBlock] using hy
    exact hn x this hx
/-- The value that list and object build up: a local variable. -/
structure Lv (w : World) (b : Nat) (kd : Int) (kv nv : Value) : Prop where
  h : w.heap[b]? = some (.cells #[.int .i64 kd, .bool false, .int .i64 0, .string ⟨#[]⟩, kv, nv] 47 (0, 0))
theorem Lv.cells {w : World} {b : Nat} {kd : Int} {kv nv : Value} (h : Lv w b kd kv nv) : w.cell? ⟨b, 0, none⟩ = some (.int .i64 kd) ∧ w.cell? ⟨b, 1, none⟩ = some (.bool false) ∧ w.cell? ⟨b, 2, none⟩ = some (.int .i64 0) ∧ w.cell? ⟨b, 3, none⟩ = some (.string ⟨#[]⟩) ∧ w.cell? ⟨b, 4, none⟩ = some kv ∧ w.cell? ⟨b, 5, none⟩ = some nv := by
  simp [World.cell?, h.h]
theorem Lv.fz {w : World} {b : Nat} {kd : Int} {kv nv : Value} (h : Lv w b kd kv nv) (k : Nat) : w.frozen? ⟨b, k, none⟩ = false := by simp [World.frozen?, h.h]
theorem Lv.keep {w w' : World} {b : Nat} {kd : Int} {kv nv : Value} {S : Nat → Prop} (h : Lv w b kd kv nv) (hc : Chg S w w') (hs : ¬ S b) : Lv w' b kd kv nv := ⟨hc.obj h.h hs⟩
theorem Lv.set4 {w : World} {b : Nat} {kd : Int} {kv nv : Value} (h : Lv w b kd kv nv) (v : Value) : Lv (w.setCell ⟨b, 4, none⟩ v) b kd v nv := ⟨by rw [heap_setCell_same h.h]; rfl⟩
theorem Lv.set5 {w : World} {b : Nat} {kd : Int} {kv nv : Value} (h : Lv w b kd kv nv) (v : Value) : Lv (w.setCell ⟨b, 5, none⟩ v) b kd kv v := ⟨by rw [heap_setCell_same h.h]; rfl⟩
theorem Lv.lt {w : World} {b : Nat} {kd : Int} {kv nv : Value} (h : Lv w b kd kv nv) : b < w.heap.size := lt_of_block h.h
theorem Lv.ety {w : World} {b : Nat} {kd : Int} {kv nv : Value} (h : Lv w b kd kv nv) : ety w b = some 47 := by simp [Go.Proofs.YtknmbfkpclacgaaGreatDoor.ety, h.h]

theorem Tryz.infoInt : (Tryz.prog.info? 3).map (fun i => (i.zero, i.size, i.bytes)) = some (some (.int .i64 0), 1, 8) := by kernel_rfl

end Go.Proofs.YtknmbfkpclacgaaGreatDoor

/- The reader's list. -/
set_option linter.unusedSimpArgs false
namespace Go.Proofs.YtknmbfkpclacgaaGreatDoor
open Go.RowKit

/-- What holds at the head of list's loop. -/
structure LS (l : List UInt8) (rb : Nat) (A : Option Addr) (cap B base dp : Nat) (tv : Value) (xs : List VC) (w : World) (lb : Nat) (res : Except Flt (Nat × Nat × List JV)) (k i : Nat)
    (kc i' : Nat) (t' : List JV) (xs' : List VC) (tv' : Value) (ks : List Int) (kv : Value) (wr : World) : Prop where
  st : St wr B rb A cap l i' (dp + 1) tv'
  tr : TR base wr tv' (xs ++ xs') t'
  lv : Lv wr lb 5 kv (.slice none 0 0)
  own : wr.ownsRow w.heap.size 3 1 kv ks.length (ints ks)
  new : ∀ b, kv.ownBlock = some b → b ∉ tb (xs ++ xs')
  chg : Chg (SP rb tv) w wr
  fresh : ∀ b ∈ tb xs', w.heap.size ≤ b
  tvb : ∀ b, tv'.ownBlock = some b → tv.ownBlock = some b ∨ w.heap.size ≤ b
  tvl : tv'.ownBlock ≠ some lb
  lbw : w.heap.size ≤ lb
  fuel : 2 * (l.length - i') + 3 ≤ kc
  kle : kc ≤ k
  lo : i < i'
  hi : i' ≤ l.length
  tl : t'.length ≤ i'
  kl : ks.length ≤ i'
  eq : listJ l kc i' dp t' ks = res

theorem VRs.keepB {base : Nat} {w w' : World} {S : Nat → Prop} (hc : Chg S w w') : ∀ {xs : List VC} {vs : List JV}, VRs base w xs vs → (∀ b ∈ tb xs, ¬ S b) → VRs base w' xs vs
  | [], [], _, _ => trivial
  | x :: xs, _ :: _, h, hS => by
    have hx : ∀ b, b ∈ vb x → ¬ S b := fun b hb => hS b (by simp only [tb, List.flatMap_cons, List.mem_append]; exact .inl hb)
    have hr : ∀ b ∈ tb xs, ¬ S b := fun b hb => hS b (by simp only [tb, List.flatMap_cons, List.mem_append]; exact .inr hb)
    refine ⟨⟨h.1.kind, h.1.truth, h.1.n, h.1.text, own_chg h.1.kids hc (fun k hk => hx k ?_), own_chg h.1.names hc (fun k hk => hx k ?_)⟩, VRs.keepB hc h.2 hr⟩
    · simp [vb, hk]
    · simp [vb, hk]
  | [], _ :: _, h, _ => h.elim
  | _ :: _, [], h, _ => h.elim
theorem TR.keepB {base : Nat} {w w' : World} {S : Nat → Prop} {tv : Value} {xs : List VC} {t : List JV} (h : TR base w tv xs t) (hc : Chg S w w')
    (hS : ∀ b ∈ tb xs, ¬ S b) (ht : ∀ b, tv.ownBlock = some b → ¬ S b) : TR base w' tv xs t := ⟨own_chg h.own hc ht, h.vals.keepB hc hS, h.nodup⟩
theorem ints_snoc (ks : List Int) (p : Int) : ints (ks ++ [p]) = ints ks ++ [.int .i64 p] := by simp [ints]

theorem LS.next {l : List UInt8} {rb : Nat} {A : Option Addr} {cap B base dp : Nat} {tv : Value} {xs : List VC} {w : World} {lb : Nat} {res : Except Flt (Nat × Nat × List JV)} {k i : Nat}
    {kc i' : Nat} {t t' : List JV} {xs' : List VC} {tv' : Value} {ks : List Int} {kv : Value} {wr : World} (h : LS l rb A cap B base dp tv xs w lb res k i (kc + 1) i' t' xs' tv' ks kv wr)
    {ip p j : Nat} {t2 : List JV} {wc w3 w4 : World} {tv2 : Value} {xs2 : List VC} {gg cap' : Nat} {o : Obj} (hrb : base ≤ rb) (hB : B ≤ base) (hst : St w B rb A cap l i dp tv) (hT : TR base w tv xs t)
    (hwc : Chg (SP rb tv) w wc) (hlc : Lv wc lb 5 kv (.slice none 0 0)) (hownc : wc.ownsRow w.heap.size 3 1 kv ks.length (ints ks)) (hip : i' ≤ ip) (hG : Grew l ip t' p j t2)
    (hr3 : Rd w3 rb (.slice A l.length cap) j (dp + 1) tv2) (hT3 : TR base w3 tv2 ((xs ++ xs') ++ xs2) t2) (hch3 : Chg (SP rb tv') wc.drew w3) (hxs3 : ∀ b ∈ tb xs2, wc.heap.size ≤ b)
    (htv3 : ∀ b, tv2.ownBlock = some b → tv'.ownBlock = some b ∨ wc.heap.size ≤ b)
    (hown4 : w4.ownsRow w.heap.size 3 1 (.slice (some ⟨gg, 0, none⟩) (ks.length + 1) cap') (ks.length + 1) (ints ks ++ [.int .i64 p])) (hgrow : (w3.alloc o).grownBy w4 kv.ownBlock)
    (hat : kv.ownBlock = some gg ∨ gg = w3.heap.size + 1) (hres : listJ l kc j dp t2 (ks ++ [(p : Int)]) = res) :
    LS l rb A cap B base dp tv xs w lb res k i kc j t2 (xs' ++ xs2) tv2 (ks ++ [(p : Int)]) (.slice (some ⟨gg, 0, none⟩) (ks.length + 1) cap')
      (w4.setCell ⟨lb, 4, none⟩ (.slice (some ⟨gg, 0, none⟩) (ks.length + 1) cap')) := by
  have hrl := hst.r.lt
  have hsc := hwc.size
  have hs3 : wc.heap.size ≤ w3.heap.size := hch3.size
  have hlbc := hlc.lt
  have hlbw := h.lbw
  obtain ⟨hg1, hg2, ⟨n, hn, hnl⟩, hp⟩ := hG
  have hkge : ∀ b, kv.ownBlock = some b → w.heap.size ≤ b ∧ b < wc.heap.size := fun b hb => ⟨own_ge hownc b hb, own_lt2 hownc b hb⟩
  have hklb : kv.ownBlock ≠ some lb := fun e => by
    have h1 := own_ety hownc e
    rw [hlc.ety] at h1
    exact absurd (Option.some.inj h1) (by decide)
  have hgl : gg ≠ lb := by
    rintro rfl
    rcases hat with e | e
    · exact hklb e
    · omega
  have hgw : w.heap.size ≤ gg := by
    rcases hat with e | e
    · exact (hkge _ e).1
    · omega
  -- from w3 on
  have hc5 : Chg (fun b => b = lb ∨ some b = kv.ownBlock) w3 (w4.setCell ⟨lb, 4, none⟩ (.slice (some ⟨gg, 0, none⟩) (ks.length + 1) cap')) :=
    (((Chg.refl _ w3).alloc o).grown hgrow (fun k _ e => .inr e)).setCell (fun _ => .inl rfl) _
  have hlv3 : Lv w3 lb 5 kv (.slice none 0 0) := hlc.keep ((Chg.refl (SP rb tv') wc).drew.trans hch3) (by
    rintro (e | e)
    · omega
    · exact h.tvl e.symm)
  have hlv4 : Lv w4 lb 5 kv (.slice none 0 0) := ⟨by
    rw [hgrow.block lb (by simp; omega) (fun e => hklb e.symm), Below.heap_alloc w3 _ lb (by omega)]
    exact hlv3.h⟩
  have hch5 : Chg (SP rb tv) w (w4.setCell ⟨lb, 4, none⟩ (.slice (some ⟨gg, 0, none⟩) (ks.length + 1) cap')) := by
    refine Chg.andThen (hwc.andThen ((Chg.refl (SP rb tv') wc).drew.trans hch3) ?_) hc5 ?_
    · rintro b hb (e | e)
      · exact .inl e
      · rcases h.tvb b e.symm with e' | e'
        · exact .inr e'.symm
        · omega
    · rintro b hb (e | e)
      · omega
      · have := hkge b e.symm; omega
  have htb2 : ∀ b ∈ tb (xs ++ xs' ++ xs2), ¬ (b = lb ∨ some b = kv.ownBlock) := by
    rintro b hb (e | e)
    · subst e
      have h1 := (hT3.vals.lt _ hb).2.2
      rw [hlv3.ety] at h1
      rcases h1 with h1 | h1 <;> exact absurd (Option.some.inj h1) (by decide)
    · rw [tb_append, List.mem_append] at hb
      rcases hb with hb | hb
      · exact h.new b e.symm hb
      · have := hxs3 b hb; have := hkge b e.symm; omega
  have htv5 : ∀ b, tv2.ownBlock = some b → ¬ (b = lb ∨ some b = kv.ownBlock) := by
    rintro b hb (e | e)
    · subst e
      rcases htv3 _ hb with e | e
      · exact h.tvl e
      · omega
    · have h1 := own_ety hT3.own hb
      have h2 := own_ety (own_chg hownc ((Chg.refl (SP rb tv') wc).drew.trans hch3) (fun q hq hs => by
        rcases hs with e' | e'
        · have := hkge q hq; omega
        · rcases htv3 b hb with e2 | e2
          · have e3 : q = b := Option.some.inj (e'.trans e2)
            have := hkge q hq
            have e4 := own_ety hownc hq
            have e5 := h.tvl
            rcases h.tvb q e'.symm with e6 | e6
            · have := own_lt2 hT.own q e6; omega
            · exact absurd (own_ety h.own hq) (by rw [own_ety h.tr.own e'.symm]; decide)
          · have := hkge b e.symm; omega)) e.symm
      rw [h1] at h2
      exact absurd (Option.some.inj h2) (by decide)
  have hr5 : Rd (w4.setCell ⟨lb, 4, none⟩ (.slice (some ⟨gg, 0, none⟩) (ks.length + 1) cap')) rb (.slice A l.length cap) j (dp + 1) tv2 := hr3.keep hc5 (by
    rintro (e | e)
    · omega
    · have := hkge rb e.symm; omega)
  have hk := h.kl
  refine ⟨hst.base hB hr5 (SP.base hT hrb hrl hch5), ?_, hlv4.set4 _, ?_, ?_, hch5, ?_, ?_, ?_, hlbw, ?_, ?_, ?_, hg2, ?_, ?_, hres⟩
  · rw [← List.append_assoc]; exact hT3.keepB hc5 htb2 htv5
  · rw [ints_snoc, List.length_append]
    exact ownsRow_setCell_other hown4 (by simpa [Value.ownBlock] using hgl) _
  · intro b hb hm
    obtain rfl : gg = b := by simpa [Value.ownBlock] using hb
    rw [← List.append_assoc] at hm
    rcases hat with e | e
    · exact htb2 _ hm (.inr e.symm)
    · have := (hT3.vals.lt _ hm).1; omega
  · intro b hb
    rw [tb_append, List.mem_append] at hb
    rcases hb with hb | hb
    · exact h.fresh b hb
    · have := hxs3 b hb; omega
  · intro b hb
    rcases htv3 b hb with e | e
    · exact h.tvb b e
    · exact .inr (by omega)
  · intro e; exact htv5 lb e (.inl rfl)
  · have := h.fuel; omega
  · have := h.kle; omega
  · have := h.lo; omega
  · have := h.tl; rw [hn, List.length_append]; omega
  · simp; omega

set_option maxRecDepth 100000 in
set_option maxHeartbeats 16000000 in
theorem list_any (l : List UInt8) (rb : Nat) (A : Option Addr) (cap B base k : Nat) (hrb : base ≤ rb) (hB : B ≤ base) (hL : l.length ≤ 268435456) (IH : ∀ k', k' < k → VCon l rb A cap B base k')
    (i dp : Nat) (t : List JV) (tv : Value) (xs : List VC) (w : World) (hk : 2 * (l.length - (i + 1)) + 3 ≤ k) (hil : i < l.length) (hti : t.length ≤ i) (hdp : dp ≤ 64) (hst : St w B rb A cap l i dp tv) (hT : TR base w tv xs t) (hG : LetOk w B) (hD : BadOk w B) :
    Calls Tryz.prog 108 #[.pointer (some ⟨rb, 0, none⟩)] w (TPost (if dp = 64 then .error (i, 241) else listJ l k (i + 1) dp t []) rb base (.slice A l.length cap) tv xs dp w) := by
  have HIH := Lib.hid IH
  clear IH
  have hrl := hst.r.lt
  by_cases h64 : dp = 64
  · subst h64
    rw [if_pos rfl]
    go_enter Tryz.func108, Tryz.ntmps108
    go_wp2_with fail
    refine (open_no rb _ tv i _ hst.r).mono ?_
    rintro e w1 ⟨rfl, rfl⟩
    exact ⟨rfl, rfl, Chg.refl _ _⟩
  · rw [if_neg h64]
    obtain ⟨i0, hi0, hz0, hz1, hz2⟩ := info_parts Tryz.infoInt
    have HI := Lib.hid (And.intro hi0 (And.intro hz0 (And.intro hz1 hz2)))
    clear hi0 hz0 hz1 hz2
    go_enter Tryz.func108, Tryz.ntmps108
    go_wp2_with fail
    refine (open_yes rb _ tv i dp _ (by omega) (by omega) hst.r).mono ?_
    rintro e w1 ⟨rfl, hr1, hch1⟩
    have hst1 := hst.to hr1 hch1
    have hT1 := hT.rb hst.r hch1
    have hsz1 := hch1.size
    have hrl1 := hr1.lt
    go_wp2_with fail
    have hS1 := hT1.sp hr1
    generalize hW0 : w1.alloc (.cells #[.int .i64 5, .bool false, .int .i64 0, .string ⟨#[]⟩, .slice none 0 0, .slice none 0 0] 47) = W0
    have hc0 : Chg (fun _ => False) w1 W0 := by subst hW0; exact (Chg.refl _ _).alloc _
    have hst0 : St W0 B rb A cap l (i + 1) (dp + 1) tv := hst1.to (hr1.keep hc0 id) (hc0.mono fun _ _ h => h.elim)
    have hT0 : TR base W0 tv xs t := hT1.keep hc0 (fun _ h => h.elim) (fun _ _ h => h)
    have hl0 : Lv W0 w1.heap.size 5 (.slice none 0 0) (.slice none 0 0) := ⟨by subst hW0; exact heap_alloc_new w1 _⟩
    have hch0 : Chg (SP rb tv) w W0 := (hch1.mono fun _ _ h => .inl h).trans (hc0.mono fun _ _ h => h.elim)
    clear hW0
    go_loopg [] (l.length - i + 1) (fun g wr => ∃ kc i' t' xs' tv' ks kv, LS l rb A cap B base dp tv xs w w1.heap.size (listJ l k (i + 1) dp t []) k i kc i' t' xs' tv' ks kv wr ∧ l.length - i' + 1 ≤ g)
    case atStart =>
      exact ⟨k, i + 1, t, [], tv, [], .slice none 0 0, ⟨hst0, by rw [List.append_nil]; exact hT0, hl0, ⟨rfl, .inl ⟨rfl, rfl⟩⟩, fun b hb => by simp [Value.ownBlock] at hb, hch0, fun b hb => by simp [tb] at hb, fun b hb => .inl hb,
        fun e => by have := own_lt2 hT1.own _ e; omega, hsz1, hk, Nat.le_refl _, by omega, by omega, by omega, by simp, rfl⟩, by omega⟩
    case round =>
      obtain ⟨kc, i', t', xs', tv', ks, kv, hLS, hg⟩ := hrel
      obtain ⟨kc, rfl⟩ : ∃ m, kc = m + 1 := ⟨kc - 1, by have := hLS.fuel; omega⟩
      have hwr := hLS.chg.size
      have hbw : Below base w wr := SP.base hT hrb hrl hLS.chg
      by_cases h93 : pk l (skip l i') = 93
      · have HE : Hid (listJ l k (i + 1) dp t [] = .ok (t'.length, skip l i' + 1, t' ++ [jList ks])) := by
          show _ = _
          rw [← hLS.eq, listJ]; simp only [if_pos h93]
        have HLS := Lib.hid hLS
        have H93 := Lib.hid h93
        clear hLS h93
        go_wp2_with fail
        refine (next_yes rb A cap tv' l i' (dp + 1) B 93 _ HLS.out.st.B (by decide) HLS.out.st.r HLS.out.st.b H93.out).mono ?_
        rintro e w2 ⟨rfl, hr2, hch2⟩
        have hst2 := HLS.out.st.to hr2 hch2
        have hT2 := HLS.out.tr.rb HLS.out.st.r hch2
        have hlb : w1.heap.size ≠ rb := by omega
        have hl2 := HLS.out.lv.keep hch2 hlb
        have hch2' : Chg (SP rb tv) w w2 := HLS.out.chg.trans (hch2.mono fun _ _ h => .inl h)
        have d2 := hst2.r.c2
        have f2 := hst2.r.f 2
        -- the depth goes back
        have hr3 := hst2.r.set2 dp
        have hst3 : St (w2.setCell ⟨rb, 2, none⟩ (.int .i64 dp)) B rb A cap l (skip l i' + 1) dp tv' := hst2.to hr3 ((Chg.refl _ _).st _ _)
        have hT3 := hT2.rb hst2.r ((Chg.refl _ w2).st 2 (.int .i64 dp))
        have hl3 := hl2.keep ((Chg.refl _ w2).st 2 (.int .i64 dp)) hlb
        have hch3 : Chg (SP rb tv) w (w2.setCell ⟨rb, 2, none⟩ (.int .i64 dp)) := hch2'.setCell (fun _ => .inl rfl) _
        obtain ⟨l0, l1, l2, l3, l4, l5⟩ := hl3.cells
        have HX := Lib.hid (And.intro hst3 (And.intro hT3 (And.intro hl3 hch3)))
        have hown3 : (w2.setCell ⟨rb, 2, none⟩ (.int .i64 dp)).ownsRow w.heap.size 3 1 kv ks.length (ints ks) :=
          own_chg HLS.out.own (hch2.trans ((Chg.refl _ w2).st 2 (.int .i64 dp))) (fun b hb e => by have := own_ge HLS.out.own b hb; omega)
        have HO := Lib.hid hown3
        clear hst2 hT2 hl2 hch2 hch2' hr2 hr3 hst3 hT3 hl3 hch3 hown3
        go_wp2_with fail
        refine (put_tree rb A cap l (skip l i' + 1) dp B base tv' (xs ++ xs') t' ⟨5, false, 0, ⟨#[]⟩, kv, .slice none 0 0⟩ (jList ks) _ HX.out.1 HX.out.2.1 ⟨rfl, rfl, rfl, rfl, own_mono HO.out (by omega), rfl, .inl ⟨rfl, rfl⟩⟩
          (tb_one HX.out.2.1.nodup HLS.out.new) hrb hB (by have := HLS.out.tl; have := HLS.out.hi; omega)).mono ?_
        rintro e w4 ⟨rfl, tv4, hst4, hT4, hch4, htv4⟩
        have HEND : Hid (TPost (listJ l k (i + 1) dp t []) rb base (.slice A l.length cap) tv xs dp w (.returned (.int .i64 t'.length)) w4) := by
          show TPost _ _ _ _ _ _ _ _ _ _
          rw [HE.out]
          refine ⟨rfl, tv4, xs' ++ [⟨5, false, 0, ⟨#[]⟩, kv, .slice none 0 0⟩], hst4.r, by rw [← List.append_assoc]; exact hT4, ?_, ?_, ?_⟩
          · refine HX.out.2.2.2.andThen hch4 ?_
            rintro b hb (rfl | hb')
            · exact .inl rfl
            · rcases HLS.out.tvb b hb'.symm with h | h
              · exact .inr h.symm
              · omega
          · intro b hb
            rw [tb_append, List.mem_append] at hb
            rcases hb with hb | hb
            · exact HLS.out.fresh b hb
            · have : kv.ownBlock = some b := by simpa [tb, vb, Value.ownBlock] using hb
              exact own_ge HLS.out.own b this
          · intro b hb
            have hs3 := HX.out.2.2.2.size
            rcases htv4 b hb with h | h
            · exact HLS.out.tvb b h
            · exact .inr (by omega)
        clear hst4 hT4 hch4 htv4
        go_wp2_with fail
        go_ret
        exact HEND.out
      · have HE : Hid (listJ l k (i + 1) dp t [] = if ks ≠ [] ∧ pk l (skip l i') ≠ 44 then .error (skip l i', 240)
            else match valueJ l kc (if ks = [] then skip l i' else skip l i' + 1) (dp + 1) t' with
              | .error e => .error e
              | .ok (p, j, t2) => listJ l kc j dp t2 (ks ++ [(p : Int)])) := by
          show _ = _
          rw [← hLS.eq, listJ]; simp only [if_neg h93]
          rfl
        obtain ⟨Ak, ck, rfl⟩ := own_form hLS.own
        have HLS := Lib.hid hLS
        have H93 := Lib.hid h93
        clear hLS h93
        go_wp2_with fail
        refine (next_no rb A cap tv' l i' (dp + 1) B 93 _ HLS.out.st.B HLS.out.st.r HLS.out.st.b H93.out).mono ?_
        rintro e w2 ⟨rfl, hr2, hch2⟩
        have hst2 := HLS.out.st.to hr2 hch2
        have hT2 := HLS.out.tr.rb HLS.out.st.r hch2
        have hlb : w1.heap.size ≠ rb := by omega
        have hl2 := HLS.out.lv.keep hch2 hlb
        have hown2 := own_chg HLS.out.own hch2 (fun b hb e => by have := own_ge HLS.out.own b hb; omega)
        obtain ⟨l0, l1, l2, l3, l4, l5⟩ := hl2.cells
        have HX := Lib.hid (And.intro hst2 (And.intro hT2 (And.intro hl2 (And.intro hch2 hown2))))
        clear hst2 hT2 hl2 hch2 hr2 hown2 l0 l1 l2 l3 l5
        go_upto_if 13 with fail
        go_cut [] from 7 to 22 (fun wx => ¬ (ks ≠ [] ∧ pk l (skip l i') ≠ 44) ∧ St wx B rb A cap l (if ks = [] then skip l i' else skip l i' + 1) (dp + 1) tv' ∧ Chg (· = rb) w2 wx)
        case first =>
          by_cases hks : ks = []
          · subst hks
            go_wp2_with fail
            go_meet
            exact ⟨fun h => h.1 rfl, HX.out.1, Chg.refl _ _⟩
          · have h0 : 0 < ks.length := List.length_pos_iff.2 hks
            by_cases h44 : pk l (skip l i') = 44
            · have H44 := Lib.hid h44
              have HKS := Lib.hid hks
              clear h44 hks
              go_wp2_with fail
              refine (want_yes rb A cap tv' l (skip l i') (dp + 1) B 44 _ HX.out.1.B (by decide) HX.out.1.r HX.out.1.b (by rw [skip_skip]; exact H44.out)).mono ?_
              rintro e w3 ⟨rfl, hr3, hch3⟩
              rw [skip_skip] at hr3
              have HR := Lib.hid (And.intro hr3 hch3)
              clear hr3 hch3
              go_wp2_with fail
              go_meet
              refine ⟨fun h => h.2 H44.out, ?_, HR.out.2⟩
              rw [if_neg HKS.out]
              exact HX.out.1.to HR.out.1 HR.out.2
            · have H44 := Lib.hid h44
              have HKS := Lib.hid hks
              clear h44 hks
              go_wp2_with fail
              refine (want_no rb A cap tv' l (skip l i') (dp + 1) B 44 _ HX.out.1.B HX.out.1.r HX.out.1.b (by rw [skip_skip]; exact H44.out)).mono ?_
              rintro e w3 ⟨rfl, hch3⟩
              refine ⟨rfl, ?_⟩
              rw [HE.out, if_pos ⟨HKS.out, H44.out⟩, skip_skip]
              refine ⟨rfl, ?_⟩
              have h1 : Chg (fun k => base ≤ k) w w2 := (Chg.of_below hbw (fun _ _ h => h)).trans (HX.out.2.2.2.1.mono fun _ _ h => by omega)
              exact h1.trans (hch3.mono fun _ _ h => by omega)
        case rest =>
          obtain ⟨hno, hstc, hchc⟩ := hcut
          have HNO := Lib.hid hno
          clear hno
          have hip : ∃ ip, ip = (if ks = [] then skip l i' else skip l i' + 1) ∧ i' ≤ ip ∧ ip ≤ l.length := by
            refine ⟨_, rfl, ?_, ?_⟩
            · have := skip_ge l i'; split <;> omega
            · have h1 := skip_le l i' HLS.out.hi
              split
              · exact h1
              · rename_i hks
                have h44 : pk l (skip l i') = 44 := Decidable.byContradiction fun h => HNO.out ⟨hks, h⟩
                exact pk_nz (by decide) h44
          obtain ⟨ip, hip, hip1, hip2⟩ := hip
          rw [← hip] at hstc
          have HIP := Lib.hid hip
          have hTc := HX.out.2.1.rb HX.out.1.r hchc
          have hlc := HX.out.2.2.1.keep hchc hlb
          have hownc := own_chg HX.out.2.2.2.2 hchc (fun b hb e => by have := own_ge HX.out.2.2.2.2 b hb; omega)
          have hwc : Chg (SP rb tv) w wc := (HLS.out.chg.trans (HX.out.2.2.2.1.mono fun _ _ h => .inl h)).trans (hchc.mono fun _ _ h => .inl h)
          have hbc : Below base w wc := SP.base hT hrb hrl hwc
          have hcall := HIH.out kc (by have := HLS.out.kle; omega) ip (dp + 1) t' tv' (xs ++ xs') wc.drew (by have := HLS.out.fuel; omega) hip2 (by have := HLS.out.tl; omega) (by omega) ⟨⟨hstc.r.h⟩, ⟨hstc.b.len, hstc.b.cells⟩, hstc.B, hstc.c⟩
            (hTc.keep (S := fun _ => False) (Chg.refl _ _).drew (fun _ h => h.elim) (fun _ _ h => h)) (hG.base hB (bl_drew hbc)) (hD.base hB (bl_drew hbc))
          have HC := Lib.hid (And.intro hstc (And.intro hTc (And.intro hlc (And.intro hownc hwc))))
          have l4c : wc.cell? ⟨w1.heap.size, 4, none⟩ = some (.slice Ak ks.length ck) := hlc.cells.2.2.2.2.1
          have HCALL := Lib.hid hcall
          have hszc := hwc.size
          clear hip hTc hlc hownc hwc hcall hstc hchc l4
          go_wp2_with fail
          cases hv : valueJ l kc ip (dp + 1) t' with
          | error f =>
            have HV := Lib.hid hv
            have hcall2 : Calls Tryz.prog 49 #[.pointer (some ⟨rb, 0, none⟩)] wc.drew fun e w' => e = .panicked [{ v := fltV f.1 f.2, recovered := false }] ∧ Chg (fun k => base ≤ k) wc.drew w' :=
              HCALL.out.mono fun e w' h => by
                unfold TPost at h; rw [HV.out] at h; exact h
            have HCALL2 := Lib.hid hcall2
            clear hv hcall2
            go_region_dies
            all_goals
              go_at_call 49
              refine HCALL2.out.mono ?_
              rintro e w3 ⟨rfl, hch3⟩
              refine ⟨rfl, ?_⟩
              rw [HE.out, if_neg HNO.out, ← HIP.out, HV.out]
              refine ⟨rfl, ?_⟩
              exact ((Chg.of_below (SP.base hT hrb hrl HC.out.2.2.2.2) (fun _ _ h => h)).drew).trans (hch3.mono fun _ _ h => h)
          | ok r =>
            obtain ⟨p, j, t2⟩ := r
            have HGR := Lib.hid ((grew_all l kc).1 _ _ _ _ _ _ hv)
            have HV := Lib.hid hv
            have hcall2 : Calls Tryz.prog 49 #[.pointer (some ⟨rb, 0, none⟩)] wc.drew fun e w' => e = .returned (.int .i64 p) ∧ ∃ tv2 xs2, Rd w' rb (.slice A l.length cap) j (dp + 1) tv2 ∧ TR base w' tv2 ((xs ++ xs') ++ xs2) t2 ∧
                Chg (SP rb tv') wc.drew w' ∧ (∀ b ∈ tb xs2, wc.heap.size ≤ b) ∧ (∀ b, tv2.ownBlock = some b → tv'.ownBlock = some b ∨ wc.heap.size ≤ b) :=
              HCALL.out.mono fun e w' h => by
                unfold TPost at h; rw [HV.out] at h; exact h
            have HCALL2 := Lib.hid hcall2
            have HLB := Lib.hid hlb
            have HKL : Hid (ks.length ≤ 268435456) := by have := HLS.out.kl; have := HLS.out.hi; show _ ≤ _; omega
            have HSZ : Hid (w.heap.size ≤ wc.heap.size ∧ rb < w.heap.size) := ⟨hszc, hrl⟩
            have hkn : (Value.slice Ak ks.length ck).ownBlock ≠ some w1.heap.size := fun e => by
              have h1 := own_ety HC.out.2.2.2.1 e
              rw [HC.out.2.2.1.ety] at h1
              exact absurd (Option.some.inj h1) (by decide)
            have HKN := Lib.hid hkn
            clear hkn
            have hkb : ∀ w3, Chg (SP rb tv') wc.drew w3 → Lv w3 w1.heap.size 5 (.slice Ak ks.length ck) (.slice none 0 0) ∧ w3.ownsRow w.heap.size 3 1 (.slice Ak ks.length ck) ks.length (ints ks) := by
              intro w3 hch3
              have hc := (Chg.refl (SP rb tv') wc).drew.trans hch3
              refine ⟨HC.out.2.2.1.keep hc ?_, own_chg HC.out.2.2.2.1 hc ?_⟩
              · rintro (e | e)
                · exact hlb e
                · exact HLS.out.tvl e.symm
              · intro b hb hs
                have h1 := own_ety HC.out.2.2.2.1 hb
                exact (HC.out.2.1.sp HC.out.1.r b hs).1 h1
            have HKB := Lib.hid hkb
            clear hv hcall2 hkb
            go_region_law
              ((first
                | (go_simp; go_at_call 49; refine HCALL2.out.mono ?_; rintro e w3 ⟨rfl, tv2, xs2, hr3, hT3, hch3, hxs3, htv3⟩; obtain ⟨hlv3, hown3⟩ := HKB.out _ hch3; have l43 := hlv3.cells.2.2.2.2.1; have l43A : ∀ o, (w3.alloc o).cell? ⟨w1.heap.size, 4, none⟩ = some (.slice Ak ks.length ck) := fun o => (World.cell?_of_block (Below.heap_alloc w3 o _ hlv3.lt)).trans l43)
                | (refine step_append_lies _ (by rfl) _ _ _ (by rfl) w.heap.size 3 i0 _ 1 8 Tryz.underlying44 HI.out.1 HI.out.2.1 HI.out.2.2.1 HI.out.2.2.2 rfl (by omega) (.slice Ak ks.length ck) ks.length (ints ks) (by rfl) (hown3.alloc _)
                    ⟨w3.heap.size, 0, none⟩ 1 1 [.int .i64 p] (by rfl) (by rfl) (World.news_of_block (cs := #[.int .i64 p]) (t := 3) (fr := (0, 0)) (heap_alloc_new w3 _)) (by simp [Value.oneCell'])
                    (by omega) (by have := HKL.out; unfold maxLen; omega) (by have := HKL.out; omega) (by have := HSZ.out; have := hch3.size; rw [World.size_alloc]; have : wc.drew.heap.size = wc.heap.size := rfl; omega) (w3.heap.size + 1) (by simp) ?_
                   intro gg cap' w4 hown4 hgrow hat hlt
                   have fz4 : w4.frozen? ⟨w1.heap.size, 4, none⟩ = false := (hgrow.frozen_far ⟨w1.heap.size, 4, none⟩ (Nat.lt_of_lt_of_le hlv3.lt (by rw [World.size_alloc]; exact Nat.le_succ _)) (fun e => HKN.out e.symm)).trans (by rw [World.frozen?_of_block (w := w3) (Below.heap_alloc w3 _ _ hlv3.lt)]; exact hlv3.fz 4)
                   have cz4 : w4.cell? ⟨w1.heap.size, 4, none⟩ = some (.slice Ak ks.length ck) := (hgrow.cell_far ⟨w1.heap.size, 4, none⟩ (Nat.lt_of_lt_of_le hlv3.lt (by rw [World.size_alloc]; exact Nat.le_succ _)) (fun e => HKN.out e.symm)).trans (by rw [World.cell?_of_block (w := w3) (Below.heap_alloc w3 _ _ hlv3.lt)]; exact l43))))
            all_goals
              have hnx := LS.next HLS.out (B := B) hrb hB hst hT HC.out.2.2.2.2 HC.out.2.2.1 HC.out.2.2.2.1 hip1 HGR.out hr3 hT3 hch3 hxs3 htv3 hown4 hgrow hat (by rw [HE.out, if_neg HNO.out, ← HIP.out, HV.out])
              have hjj : l.length - j + 1 < l.length - i' + 1 := by have := HGR.out.1; have := HGR.out.2.1; omega
              have HNX := Lib.hid hnx
              clear hnx hgrow hown4 fz4 cz4 hat hlt hr3 hT3 hch3 hxs3 htv3 hlv3 hown3 l43 l43A
              go_wp2_with fail
              go_roundg (l.length - j + 1)
              case measure => omega
              case rel => exact ⟨kc, j, t2, xs' ++ xs2, tv2, ks ++ [(p : Int)], _, HNX.out, by omega⟩
end Go.Proofs.YtknmbfkpclacgaaGreatDoor
