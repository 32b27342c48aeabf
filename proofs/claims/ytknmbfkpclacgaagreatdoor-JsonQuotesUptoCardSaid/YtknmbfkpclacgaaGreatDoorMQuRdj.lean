import Derived.Test.YtknmbfkpclacgaaGreatDoorMQu6
import Derived.Maps.Views
import Derived.Maps.OwnOps
import Derived.StringKeys
/- The reader's object: the set of names, what stands while an object is read. -/
set_option linter.unusedSimpArgs false
namespace Go.Proofs.YtknmbfkpclacgaaGreatDoor
open Go.RowKit

/-! ### The set of names -/
theorem law_string : Maps.Keyed Tryz.prog 9 := Maps.string_keyed Tryz.underlying9
theorem zero_bool (w : World) : (zeroValue 4).run Tryz.prog w = .ok (.bool false) w := by kernel_rfl
/-- Block b is a map that holds 'true' at these strings. -/
def SM (w : World) (b n : Nat) (ss : List (List UInt8)) : Prop :=
  ∃ D : DataW Unit, w.ownsMap Tryz.prog 9 (plainElem Tryz.prog 4) b n D ∧ Maps.IsMap D ∧ ∀ s : List UInt8, D.atKey (.string s) (.lit (.bool false)) = .lit (.bool (decide (s ∈ ss)))
theorem SM.made (w : World) : SM (w.alloc (.map #[] 0)) w.heap.size 0 [] := ⟨_, World.ownsMap_made .., ⟨_, rfl⟩, fun s => by simp [DataW.atKey]⟩
theorem SM.lt {w : World} {b n : Nat} {ss} (h : SM w b n ss) : b < w.heap.size := by obtain ⟨D, h, _⟩ := h; exact h.lt
theorem SM.keep {w w' : World} {b n : Nat} {ss} {S : Nat → Prop} (h : SM w b n ss) (hc : Chg S w w') (hS : ¬ S b) : SM w' b n ss := by
  obtain ⟨D, ⟨es, clock, hb, F, hs, hD⟩, h2, h3⟩ := h
  exact ⟨D, ⟨es, clock, hc.obj hb hS, F, hs, hD⟩, h2, h3⟩
theorem SM.ety {w : World} {b n : Nat} {ss} (h : SM w b n ss) : ety w b = none := by
  obtain ⟨D, ⟨es, clock, hb, _⟩, _⟩ := h
  simp [Go.Proofs.YtknmbfkpclacgaaGreatDoor.ety, hb]
theorem plain_bool_inv {P : Program} {e : TypeId} (he : P.underlying e = some .bool) {v : Value} {z : DataW Unit × List MemPlace} (h : plainElem P e v = some z) : ∃ x, v = .bool x ∧ z = (.lit (.bool x), []) := by
  unfold plainElem at h
  rw [he] at h
  cases v <;> simp at h
  exact ⟨_, rfl, h.symm⟩
def litBool : DataW Unit → Bool
  | .lit (.bool x) => x
  | _ => false
theorem SM.look {w : World} {b n : Nat} {ss} (h : SM w b n ss) (s : List UInt8) (hs : s.length ≤ maxLen) :
    (Instr.lookup 139 (.map (some b)) (.string ⟨s.toArray⟩) false).run Tryz.prog w = .ok (.bool (decide (s ∈ ss))) w := by
  obtain ⟨D, h1, _, h3⟩ := h
  obtain ⟨v, ps, hrun, hv⟩ := h1.lookup law_string Tryz.underlying139 (zero_bool w) (plainElem_bool Tryz.underlying4 false) (WideMaps.keyOf_string_mk Tryz.underlying9 (s := ⟨s.toArray⟩) (show s.toArray.size ≤ maxLen from by rw [List.size_toArray]; exact hs))
  obtain ⟨x, rfl, hx⟩ := plain_bool_inv Tryz.underlying4 hv
  have h4 := h3 s
  have h5 : (DataW.lit (.bool (decide (s ∈ ss))) : DataW Unit) = .lit (.bool x) := h4.symm.trans (congrArg Prod.fst hx)
  have h6 : decide (s ∈ ss) = x := congrArg litBool h5
  exact hrun.trans (congrArg (fun z => Result.ok (Value.bool z) w) h6.symm)
theorem SM.put {w' : World} {b n : Nat} {ss} {D : DataW Unit} {s : List UInt8} (h2 : Maps.IsMap D) (h3 : ∀ s : List UInt8, D.atKey (.string s) (.lit (.bool false)) = .lit (.bool (decide (s ∈ ss))))
    (h : w'.ownsMap Tryz.prog 9 (plainElem Tryz.prog 4) b n (D.put (.string s) (.lit (.bool true)))) : SM w' b n (ss ++ [s]) := by
  refine ⟨_, h, h2.put _ _, fun s' => ?_⟩
  by_cases e : s' = s
  · subst e
    rw [Maps.atKey_put_same h2 (by simp [WideAt.IsKeyLit])]
    simp
  · rw [Maps.atKey_put_other (fun e' => e (by injection e')), h3]
    simp [e]
theorem wpList_look_set {w : World} {ops : Array Oper} {rest : List Oper} {o : Oper} {a : Act} {Q : Exit → Act → World → Prop}
    (hg : o.guard = none) (m x : Operand) (hop : o.op = Op.lookup 139 m x false) (b n : Nat) (ss : List (List UInt8)) (s : List UInt8)
    (hm : a.eval m = .map (some b)) (hx : a.eval x = .string ⟨s.toArray⟩) (hown : SM w b n ss) (hs : s.length ≤ maxLen) (x0 : Bool) (hx0 : decide (s ∈ ss) = x0)
    (hK : wpList Tryz.prog ops Q rest (a.put o.dst (.bool x0)) w) : wpList Tryz.prog ops Q (o :: rest) a w := by
  refine wpList_plain hg fun K' hK' => ?_
  have hrun := hown.look s hs
  rw [hx0] at hrun
  unfold Oper.wp
  simp [execOp, hop, hm, hx, hrun, Result.andThen]
  exact hK' _ _ hK
theorem wpList_put_set {w : World} {ops : Array Oper} {rest : List Oper} {o : Oper} {a : Act} {Q : Exit → Act → World → Prop}
    (hg : o.guard = none) (m x v : Operand) (hop : o.op = Op.mapUpdate 139 m x v) (b n : Nat) (ss : List (List UInt8)) (s : List UInt8)
    (hm : a.eval m = .map (some b)) (hx : a.eval x = .string ⟨s.toArray⟩) (hv : a.eval v = .bool true) (hown : SM w b n ss) (hn : n < maxLen) (hs : s.length ≤ maxLen)
    (hK : ∀ w', SM w' b (n + 1) (ss ++ [s]) → w.grownBy w' (some b) → wpList Tryz.prog ops Q rest (a.put o.dst undef) w') : wpList Tryz.prog ops Q (o :: rest) a w := by
  obtain ⟨D, h1, h2, h3⟩ := hown
  refine wpList_mapUpdate_own (H := Unit) w hg m x v _ hop 9 4 law_string Tryz.underlying139 (plainElem Tryz.prog 4) b n D hm h1 hn _ _ (.string s) hx hv (WideMaps.keyOf_string_mk Tryz.underlying9 (s := ⟨s.toArray⟩) (show s.toArray.size ≤ maxLen from by rw [List.size_toArray]; exact hs)) _ [] (plainElem_bool Tryz.underlying4 true) ?_
  intro w' h4 h5
  exact hK w' (SM.put h2 h3 h4) h5

/-! ### A string's inside is no longer than four times what was read -/
theorem encN_len (r : Nat) : (encN r).length ≤ 4 := by unfold encN; split <;> (try split) <;> (try split) <;> simp
theorem textGo_len (l : List UInt8) : ∀ (k i : Nat) (out s : List UInt8) (j : Nat), textGo l k i out = .ok (s, j) → s.length ≤ out.length + 4 * (j - i)
  | 0, _, _, _, _, h => by simp [textGo] at h
  | k + 1, i, out, s, j, h => by
    have h0 := (textGo_ok l (k + 1) i out s j h).1
    rw [textGo] at h
    split at h
    · split at h
      · obtain ⟨rfl, rfl⟩ : out = s ∧ i + 1 = j := by simpa using h
        omega
      · split at h
        · split at h
          · cases h
          · rename_i r j1 he
            have h1 := textGo_len l k _ _ _ _ h
            have h2 := (textGo_ok l k _ _ _ _ h).1
            have h3 := (escapeJ_len he).1
            have h4 := encN_len r
            rw [List.length_append] at h1
            omega
        · split at h
          · cases h
          · split at h
            · cases h
            · rename_i r n hd
              split at h
              · cases h
              · have h1 := textGo_len l k _ _ _ _ h
                have h2 := (textGo_ok l k _ _ _ _ h).1
                rw [List.length_append] at h1
                have h3 : ((l.drop i).take n).length ≤ n := by simp; omega
                omega
    · cases h
theorem textJ_len {l : List UInt8} {i : Nat} {s : List UInt8} {j : Nat} (h : textJ l i = .ok (s, j)) : s.length ≤ 4 * l.length := by
  have h1 := textGo_len _ _ _ _ _ _ h
  have h2 := (textJ_ok h).2
  simp at h1
  omega

theorem strs_snoc (ns : List (List UInt8)) (s : List UInt8) : strs (ns ++ [s]) = strs ns ++ [.string ⟨s.toArray⟩] := by simp [strs]

/-! ### What stands while an object is read -/
structure OI (l : List UInt8) (rb : Nat) (A : Option Addr) (cap B base dp : Nat) (tv : Value) (xs : List VC) (w : World) (lb mb : Nat)
    (i : Nat) (t' : List JV) (xs' : List VC) (tv' : Value) (ks : List Int) (ns ms : List (List UInt8)) (kv nv : Value) (wr : World) : Prop where
  st : St wr B rb A cap l i (dp + 1) tv'
  tr : TR base wr tv' (xs ++ xs') t'
  lv : Lv wr lb 6 kv nv
  kown : wr.ownsRow w.heap.size 3 1 kv ks.length (ints ks)
  nown : wr.ownsRow w.heap.size 9 1 nv ns.length (strs ns)
  knew : ∀ b, kv.ownBlock = some b → b ∉ tb (xs ++ xs')
  nnew : ∀ b, nv.ownBlock = some b → b ∉ tb (xs ++ xs')
  mp : SM wr mb ms.length ms
  chg : Chg (SP rb tv) w wr
  fresh : ∀ b ∈ tb xs', w.heap.size ≤ b
  tvb : ∀ b, tv'.ownBlock = some b → tv.ownBlock = some b ∨ w.heap.size ≤ b
  tvl : tv'.ownBlock ≠ some lb
  lbw : w.heap.size ≤ lb
  mbw : w.heap.size ≤ mb
  rbw : rb < w.heap.size

section
variable {l : List UInt8} {rb : Nat} {A : Option Addr} {cap B base dp : Nat} {tv : Value} {xs : List VC} {w : World} {lb mb i : Nat} {t' : List JV} {xs' : List VC} {tv' : Value} {ks : List Int} {ns ms : List (List UInt8)} {kv nv : Value} {wr : World} {i0 : Nat} {t0 : List JV}

theorem OI.mv (h : OI l rb A cap B base dp tv xs w lb mb i t' xs' tv' ks ns ms kv nv wr) {i2 : Nat} {w2 : World} (hr : Rd w2 rb (.slice A l.length cap) i2 (dp + 1) tv') (hc : Chg (· = rb) wr w2) :
    OI l rb A cap B base dp tv xs w lb mb i2 t' xs' tv' ks ns ms kv nv w2 := by
  have hrw := h.rbw
  have hlw := h.lbw
  have hmw := h.mbw
  exact ⟨h.st.to hr hc, h.tr.rb h.st.r hc, h.lv.keep hc (by omega), own_chg h.kown hc (fun b hb e => by have := own_ge h.kown b hb; omega), own_chg h.nown hc (fun b hb e => by have := own_ge h.nown b hb; omega), h.knew, h.nnew,
    h.mp.keep hc (by omega), h.chg.trans (hc.mono fun _ _ e => .inl e), h.fresh, h.tvb, h.tvl, h.lbw, h.mbw, h.rbw⟩
theorem OI.drawn (h : OI l rb A cap B base dp tv xs w lb mb i t' xs' tv' ks ns ms kv nv wr) {w2 : World} (hd : Drawn wr w2) : OI l rb A cap B base dp tv xs w lb mb i t' xs' tv' ks ns ms kv nv w2 := by
  obtain ⟨n, rfl⟩ := hd
  exact h.mv (h.st.r.drewN n) ((Chg.refl _ _).drewN n)
theorem OI.below (h : OI l rb A cap B base dp tv xs w lb mb i t' xs' tv' ks ns ms kv nv wr) (hT : TR base w tv xs t0) (hrb : base ≤ rb) : Below base w wr := SP.base hT hrb h.rbw h.chg
theorem OI.apart (h : OI l rb A cap B base dp tv xs w lb mb i t' xs' tv' ks ns ms kv nv wr) {S : Nat → Prop} (hS : ∀ b, S b → b = lb ∨ b = mb ∨ kv.ownBlock = some b ∨ nv.ownBlock = some b) :
    ¬ S rb ∧ (∀ b ∈ tb (xs ++ xs'), ¬ S b) ∧ (∀ b, tv'.ownBlock = some b → ¬ S b) ∧ ∀ b, S b → w.heap.size ≤ b := by
  have hrw := h.rbw
  have hlw := h.lbw
  have hmw := h.mbw
  refine ⟨fun hs => ?_, fun b hb hs => ?_, fun b hb hs => ?_, fun b hs => ?_⟩
  · rcases hS _ hs with e | e | e | e
    · omega
    · omega
    · have := own_ge h.kown _ e; omega
    · have := own_ge h.nown _ e; omega
  · have h1 := (h.tr.vals.lt b hb).2.2
    rcases hS _ hs with e | e | e | e
    · subst e
      rw [h.lv.ety] at h1
      rcases h1 with h1 | h1 <;> exact absurd (Option.some.inj h1) (by decide)
    · subst e
      rw [h.mp.ety] at h1
      rcases h1 with h1 | h1 <;> cases h1
    · exact h.knew b e hb
    · exact h.nnew b e hb
  · have h1 := own_ety h.tr.own hb
    rcases hS _ hs with e | e | e | e
    · subst e; exact h.tvl hb
    · subst e; rw [h.mp.ety] at h1; cases h1
    · rw [own_ety h.kown e] at h1; exact absurd (Option.some.inj h1) (by decide)
    · rw [own_ety h.nown e] at h1; exact absurd (Option.some.inj h1) (by decide)
  · rcases hS _ hs with e | e | e | e
    · omega
    · omega
    · exact own_ge h.kown _ e
    · exact own_ge h.nown _ e
/-- The call's own blocks turn. -/
theorem OI.own (h : OI l rb A cap B base dp tv xs w lb mb i t' xs' tv' ks ns ms kv nv wr) {S : Nat → Prop} {w2 : World} (hc : Chg S wr w2) (hS : ∀ b, S b → b = lb ∨ b = mb ∨ kv.ownBlock = some b ∨ nv.ownBlock = some b)
    (hT : TR base w tv xs t0) (hrb : base ≤ rb) (hB : B ≤ base) (hst : St w B rb A cap l i0 dp tv)
    {kv' nv' : Value} {ks' : List Int} {ns' ms' : List (List UInt8)} (hlv : Lv w2 lb 6 kv' nv') (hk : w2.ownsRow w.heap.size 3 1 kv' ks'.length (ints ks')) (hn : w2.ownsRow w.heap.size 9 1 nv' ns'.length (strs ns'))
    (hkn : ∀ b, kv'.ownBlock = some b → kv.ownBlock = some b ∨ wr.heap.size ≤ b) (hnn : ∀ b, nv'.ownBlock = some b → nv.ownBlock = some b ∨ wr.heap.size ≤ b) (hm : SM w2 mb ms'.length ms') :
    OI l rb A cap B base dp tv xs w lb mb i t' xs' tv' ks' ns' ms' kv' nv' w2 := by
  obtain ⟨h1, h2, h3, h4⟩ := h.apart hS
  have hch : Chg (SP rb tv) w w2 := h.chg.andThen hc (fun b hb hs => by have := h4 b hs; omega)
  refine ⟨hst.base hB (h.st.r.keep hc h1) (SP.base hT hrb h.rbw hch), h.tr.keepB hc h2 h3, hlv, hk, hn, ?_, ?_, hm, hch, h.fresh, h.tvb, h.tvl, h.lbw, h.mbw, h.rbw⟩
  · intro b hb hm
    rcases hkn b hb with e | e
    · exact h.knew b e hm
    · have := (h.tr.vals.lt b hm).1; omega
  · intro b hb hm
    rcases hnn b hb with e | e
    · exact h.nnew b e hm
    · have := (h.tr.vals.lt b hm).1; omega
/-- The map takes a name. -/
theorem OI.mark (h : OI l rb A cap B base dp tv xs w lb mb i t' xs' tv' ks ns ms kv nv wr) {w2 : World} (hg : wr.grownBy w2 (some mb)) (hT : TR base w tv xs t0) (hrb : base ≤ rb) (hB : B ≤ base) (hst : St w B rb A cap l i0 dp tv)
    {ms' : List (List UInt8)} (hm : SM w2 mb ms'.length ms') : OI l rb A cap B base dp tv xs w lb mb i t' xs' tv' ks ns ms' kv nv w2 := by
  have hc : Chg (· = mb) wr w2 := (Chg.refl _ wr).grown hg (fun k _ e => by injection e)
  have hl : lb ≠ mb := fun e => by
    have h1 := h.lv.ety
    rw [e, h.mp.ety] at h1
    cases h1
  refine h.own hc (fun b e => .inr (.inl e)) hT hrb hB hst (h.lv.keep hc hl) (own_chg h.kown hc fun b hb e => ?_) (own_chg h.nown hc fun b hb e => ?_) (fun b hb => .inl hb) (fun b hb => .inl hb) hm
  · have h1 := own_ety h.kown hb
    rw [e, h.mp.ety] at h1
    cases h1
  · have h1 := own_ety h.nown hb
    rw [e, h.mp.ety] at h1
    cases h1
theorem OI.disj (h : OI l rb A cap B base dp tv xs w lb mb i t' xs' tv' ks ns ms kv nv wr) : lb ≠ mb ∧ kv.ownBlock ≠ some lb ∧ kv.ownBlock ≠ some mb ∧ nv.ownBlock ≠ some lb ∧ nv.ownBlock ≠ some mb ∧ ∀ b, kv.ownBlock = some b → nv.ownBlock ≠ some b := by
  refine ⟨fun e => ?_, fun e => ?_, fun e => ?_, fun e => ?_, fun e => ?_, fun b hk hn => ?_⟩
  · have h1 := h.lv.ety; rw [e, h.mp.ety] at h1; cases h1
  · have h1 := own_ety h.kown e; rw [h.lv.ety] at h1; exact absurd (Option.some.inj h1) (by decide)
  · have h1 := own_ety h.kown e; rw [h.mp.ety] at h1; cases h1
  · have h1 := own_ety h.nown e; rw [h.lv.ety] at h1; exact absurd (Option.some.inj h1) (by decide)
  · have h1 := own_ety h.nown e; rw [h.mp.ety] at h1; cases h1
  · have h1 := own_ety h.nown hn; rw [own_ety h.kown hk] at h1; exact absurd (Option.some.inj h1) (by decide)
/-- The names grow by one. -/
theorem OI.name (h : OI l rb A cap B base dp tv xs w lb mb i t' xs' tv' ks ns ms kv nv wr) {w4 : World} {o : Obj} {gg cap' : Nat} {s : List UInt8} (hT : TR base w tv xs t0) (hrb : base ≤ rb) (hB : B ≤ base) (hst : St w B rb A cap l i0 dp tv)
    (hown4 : w4.ownsRow w.heap.size 9 1 (.slice (some ⟨gg, 0, none⟩) (ns.length + 1) cap') (ns.length + 1) (strs ns ++ [.string ⟨s.toArray⟩])) (hgrow : (wr.alloc o).grownBy w4 nv.ownBlock) (hat : nv.ownBlock = some gg ∨ gg = wr.heap.size + 1) :
    OI l rb A cap B base dp tv xs w lb mb i t' xs' tv' ks (ns ++ [s]) ms kv (.slice (some ⟨gg, 0, none⟩) (ns.length + 1) cap') (w4.setCell ⟨lb, 5, none⟩ (.slice (some ⟨gg, 0, none⟩) (ns.length + 1) cap')) := by
  obtain ⟨d1, d2, d3, d4, d5, d6⟩ := h.disj
  have hll := h.lv.lt
  have hgl : gg ≠ lb := by
    rintro rfl
    rcases hat with e | e
    · exact d4 e
    · omega
  have hlv4 : Lv w4 lb 6 kv nv := ⟨by
    rw [hgrow.block lb (by rw [World.size_alloc]; omega) (fun e => d4 e.symm), Below.heap_alloc wr _ lb hll]
    exact h.lv.h⟩
  have hc : Chg (fun b => b = lb ∨ nv.ownBlock = some b) wr (w4.setCell ⟨lb, 5, none⟩ (.slice (some ⟨gg, 0, none⟩) (ns.length + 1) cap')) :=
    (((Chg.refl _ wr).alloc o).grown hgrow (fun k _ e => .inr e.symm)).setCell (fun _ => .inl rfl) _
  refine h.own hc (fun b e => by
    rcases e with e | e
    · exact .inl e
    · exact .inr (.inr (.inr e))) hT hrb hB hst (hlv4.set5 _) (own_chg h.kown hc ?_) ?_ (fun b hb => .inl hb) ?_ (h.mp.keep hc ?_)
  · rintro b hb (e | e)
    · subst e; exact d2 hb
    · exact d6 b hb e
  · rw [strs_snoc, List.length_append]
    exact ownsRow_setCell_other hown4 (by simpa [Value.ownBlock] using hgl) _
  · intro b hb
    obtain rfl : gg = b := by simpa [Value.ownBlock] using hb
    exact hat.imp id (fun e => by omega)
  · rintro (e | e)
    · exact d1 e.symm
    · exact d5 e
/-- The kids grow by one. -/
theorem OI.kid (h : OI l rb A cap B base dp tv xs w lb mb i t' xs' tv' ks ns ms kv nv wr) {w4 : World} {o : Obj} {gg cap' : Nat} {p : Int} (hT : TR base w tv xs t0) (hrb : base ≤ rb) (hB : B ≤ base) (hst : St w B rb A cap l i0 dp tv)
    (hown4 : w4.ownsRow w.heap.size 3 1 (.slice (some ⟨gg, 0, none⟩) (ks.length + 1) cap') (ks.length + 1) (ints ks ++ [.int .i64 p])) (hgrow : (wr.alloc o).grownBy w4 kv.ownBlock) (hat : kv.ownBlock = some gg ∨ gg = wr.heap.size + 1) :
    OI l rb A cap B base dp tv xs w lb mb i t' xs' tv' (ks ++ [p]) ns ms (.slice (some ⟨gg, 0, none⟩) (ks.length + 1) cap') nv (w4.setCell ⟨lb, 4, none⟩ (.slice (some ⟨gg, 0, none⟩) (ks.length + 1) cap')) := by
  obtain ⟨d1, d2, d3, d4, d5, d6⟩ := h.disj
  have hll := h.lv.lt
  have hgl : gg ≠ lb := by
    rintro rfl
    rcases hat with e | e
    · exact d2 e
    · omega
  have hlv4 : Lv w4 lb 6 kv nv := ⟨by
    rw [hgrow.block lb (by rw [World.size_alloc]; omega) (fun e => d2 e.symm), Below.heap_alloc wr _ lb hll]
    exact h.lv.h⟩
  have hc : Chg (fun b => b = lb ∨ kv.ownBlock = some b) wr (w4.setCell ⟨lb, 4, none⟩ (.slice (some ⟨gg, 0, none⟩) (ks.length + 1) cap')) :=
    (((Chg.refl _ wr).alloc o).grown hgrow (fun k _ e => .inr e.symm)).setCell (fun _ => .inl rfl) _
  refine h.own hc (fun b e => by
    rcases e with e | e
    · exact .inl e
    · exact .inr (.inr (.inl e))) hT hrb hB hst (hlv4.set4 _) ?_ (own_chg h.nown hc ?_) ?_ (fun b hb => .inl hb) (h.mp.keep hc ?_)
  · rw [ints_snoc, List.length_append]
    exact ownsRow_setCell_other hown4 (by simpa [Value.ownBlock] using hgl) _
  · rintro b hb (e | e)
    · subst e; exact d4 hb
    · exact d6 b e hb
  · intro b hb
    obtain rfl : gg = b := by simpa [Value.ownBlock] using hb
    exact hat.imp id (fun e => by omega)
  · rintro (e | e)
    · exact d1 e.symm
    · exact d3 e
/-- A value has been read. -/
theorem OI.call (h : OI l rb A cap B base dp tv xs w lb mb i t' xs' tv' ks ns ms kv nv wr) {w3 : World} {j : Nat} {tv2 : Value} {xs2 : List VC} {t2 : List JV} (hT : TR base w tv xs t0) (hrb : base ≤ rb) (hB : B ≤ base) (hst : St w B rb A cap l i0 dp tv)
    (hr3 : Rd w3 rb (.slice A l.length cap) j (dp + 1) tv2) (hT3 : TR base w3 tv2 ((xs ++ xs') ++ xs2) t2) (hch3 : Chg (SP rb tv') wr w3) (hxs3 : ∀ b ∈ tb xs2, wr.heap.size ≤ b)
    (htv3 : ∀ b, tv2.ownBlock = some b → tv'.ownBlock = some b ∨ wr.heap.size ≤ b) : OI l rb A cap B base dp tv xs w lb mb j t2 (xs' ++ xs2) tv2 ks ns ms kv nv w3 := by
  have hrw := h.rbw
  have hlw := h.lbw
  have hmw := h.mbw
  have hsz := h.chg.size
  have hll := h.lv.lt
  have hch : Chg (SP rb tv) w w3 := h.chg.andThen hch3 (by
    rintro b hb (e | e)
    · exact .inl e
    · rcases h.tvb b e.symm with e' | e'
      · exact .inr e'.symm
      · omega)
  have hmtv : ¬ SP rb tv' mb := by
    rintro (e | e)
    · omega
    · have h1 := own_ety h.tr.own e.symm; rw [h.mp.ety] at h1; cases h1
  refine ⟨hst.base hB hr3 (SP.base hT hrb hrw hch), by rw [← List.append_assoc]; exact hT3, h.lv.keep hch3 ?_, own_chg h.kown hch3 (fun b hb hs => (h.tr.sp h.st.r b hs).1 (own_ety h.kown hb)), own_chg h.nown hch3 (fun b hb hs => (h.tr.sp h.st.r b hs).2 (own_ety h.nown hb)),
    ?_, ?_, h.mp.keep hch3 hmtv, hch, ?_, ?_, ?_, hlw, hmw, hrw⟩
  · rintro (e | e)
    · omega
    · exact h.tvl e.symm
  · intro b hb hm
    rw [← List.append_assoc, tb_append, List.mem_append] at hm
    rcases hm with hm | hm
    · exact h.knew b hb hm
    · have := hxs3 b hm; have := own_lt2 h.kown b hb; omega
  · intro b hb hm
    rw [← List.append_assoc, tb_append, List.mem_append] at hm
    rcases hm with hm | hm
    · exact h.nnew b hb hm
    · have := hxs3 b hm; have := own_lt2 h.nown b hb; omega
  · intro b hb
    rw [tb_append, List.mem_append] at hb
    rcases hb with hb | hb
    · exact h.fresh b hb
    · have := hxs3 b hb; omega
  · intro b hb
    rcases htv3 b hb with e | e
    · exact h.tvb b e
    · exact .inr (by omega)
  · intro e
    rcases htv3 lb e with e | e
    · exact h.tvl e
    · omega
/-- The numbers at the head of object's loop. -/
structure OB (l : List UInt8) (k i kc i' dp : Nat) (t' : List JV) (ks : List Int) (ns : List (List UInt8)) (res : Except Flt (Nat × Nat × List JV)) : Prop where
  fuel : 2 * (l.length - i') + 3 ≤ kc
  kle : kc ≤ k
  lo : i < i'
  hi : i' ≤ l.length
  tl : t'.length ≤ i'
  kl : ks.length ≤ i'
  nl : ns.length = ks.length
  eq : objectJ l kc i' dp t' ks ns = res
theorem OB.next {k i kc i' dp : Nat} {t' : List JV} {ks : List Int} {ns : List (List UInt8)} {res : Except Flt (Nat × Nat × List JV)} (h : OB l k i (kc + 1) i' dp t' ks ns res) {ip p j : Nat} {t2 : List JV} {s : List UInt8} (hip : i' ≤ ip) (hG : Grew l ip t' p j t2)
    (hres : objectJ l kc j dp t2 (ks ++ [(p : Int)]) (ns ++ [s]) = res) : OB l k i kc j dp t2 (ks ++ [(p : Int)]) (ns ++ [s]) res := by
  obtain ⟨hg1, hg2, ⟨n, hn, hnl⟩, hp⟩ := hG
  obtain ⟨a1, a2, a3, a4, a5, a6, a7, a8⟩ := h
  refine ⟨by omega, by omega, by omega, hg2, ?_, ?_, ?_, hres⟩
  · rw [hn, List.length_append]; omega
  · simp; omega
  · simp; omega
end
end Go.Proofs.YtknmbfkpclacgaaGreatDoor
