/- The parsed tree in memory; what a call of the reader's value, list and object does. -/
import Derived.Test.YtknmbfkpclacgaaDoorRde
import Derived.Test.YtknmbfkpclacgaaDoorRdf
import Derived.Test.YtknmbfkpclacgaaDoorJc
set_option linter.unusedSimpArgs false
namespace Go.Proofs.YtknmbfkpclacgaaDoor
open Go.RowKit

def ints (ks : List Int) : List Value := ks.map (Value.int .i64)
def strs (ns : List (List UInt8)) : List Value := ns.map fun s => Value.string ⟨s.toArray⟩
theorem ints_length (ks : List Int) : (ints ks).length = ks.length := by simp [ints]
theorem strs_length (ns : List (List UInt8)) : (strs ns).length = ns.length := by simp [strs]

/-- A value's cells read as a value of the parser's function; its lists are rows of its own. -/
structure VR (base : Nat) (w : World) (x : VC) (v : JV) : Prop where
  kind : x.kind = v.kind
  truth : x.truth = v.truth
  n : x.n = v.n
  text : x.text = ⟨v.text.toArray⟩
  kids : w.ownsRow base 3 1 x.kids v.kids.length (ints v.kids)
  names : w.ownsRow base 9 1 x.names v.names.length (strs v.names)
def VRs (base : Nat) (w : World) : List VC → List JV → Prop
  | [], [] => True
  | x :: xs, v :: vs => VR base w x v ∧ VRs base w xs vs
  | _, _ => False
theorem VRs.length {base : Nat} {w : World} : ∀ {xs : List VC} {vs : List JV}, VRs base w xs vs → xs.length = vs.length
  | [], [], _ => rfl
  | _ :: _, _ :: _, h => by simp [VRs.length h.2]
  | [], _ :: _, h => h.elim
  | _ :: _, [], h => h.elim
theorem VRs.snoc {base : Nat} {w : World} : ∀ {xs : List VC} {vs : List JV} {x : VC} {v : JV}, VRs base w xs vs → VR base w x v → VRs base w (xs ++ [x]) (vs ++ [v])
  | [], [], _, _, _, h => ⟨h, trivial⟩
  | _ :: _, _ :: _, _, _, h, k => ⟨h.1, VRs.snoc h.2 k⟩
  | [], _ :: _, _, _, h, _ => h.elim
  | _ :: _, [], _, _, h, _ => h.elim
/-- The blocks of a value's lists. -/
def vb (x : VC) : List Nat := x.kids.ownBlock.toList ++ x.names.ownBlock.toList
def tb (xs : List VC) : List Nat := xs.flatMap vb
theorem tb_append (xs ys : List VC) : tb (xs ++ ys) = tb xs ++ tb ys := by simp [tb, List.flatMap_append]

/-- The type of a block's elements. -/
def ety (w : World) (b : Nat) : Option TypeId := match w.heap[b]? with
  | some (.cells _ t _) => some t
  | _ => none
theorem own_ety {w : World} {base : Nat} {e : TypeId} {size n : Nat} {v : Value} {xs : List Value} (h : w.ownsRow base e size v n xs) {k : Nat} (hk : v.ownBlock = some k) : ety w k = some e := by
  rcases h.2 with ⟨rfl, _⟩ | ⟨g, cap, cur, rfl, hb, hh, _⟩
  · simp [Value.ownBlock] at hk
  · have : g = k := by simpa [Value.ownBlock] using hk
    subst this
    simp [ety, hh]
theorem Rd.ety {w : World} {rb : Nat} {bv : Value} {i dp : Nat} {tv : Value} (h : Rd w rb bv i dp tv) : ety w rb = some 54 := by simp [Go.Proofs.YtknmbfkpclacgaaDoor.ety, h.h]
theorem VR.keep {base : Nat} {w w' : World} {S : Nat → Prop} {x : VC} {v : JV} (h : VR base w x v) (hc : Chg S w w') (hS : ∀ b, S b → ety w b ≠ some 3 ∧ ety w b ≠ some 9) : VR base w' x v :=
  ⟨h.kind, h.truth, h.n, h.text, own_chg h.kids hc (fun k hk hs => (hS k hs).1 (own_ety h.kids hk)), own_chg h.names hc (fun k hk hs => (hS k hs).2 (own_ety h.names hk))⟩
theorem VRs.keep {base : Nat} {w w' : World} {S : Nat → Prop} (hc : Chg S w w') (hS : ∀ b, S b → ety w b ≠ some 3 ∧ ety w b ≠ some 9) : ∀ {xs : List VC} {vs : List JV}, VRs base w xs vs → VRs base w' xs vs
  | [], [], _ => trivial
  | _ :: _, _ :: _, h => ⟨h.1.keep hc hS, VRs.keep hc hS h.2⟩
  | [], _ :: _, h => h.elim
  | _ :: _, [], h => h.elim
theorem VRs.lt {base : Nat} {w : World} : ∀ {xs : List VC} {vs : List JV}, VRs base w xs vs → ∀ b ∈ tb xs, b < w.heap.size ∧ base ≤ b ∧ (ety w b = some 3 ∨ ety w b = some 9)
  | [], [], _, b, hb => by simp [tb] at hb
  | x :: xs, v :: vs, h, b, hb => by
    have hb' : b ∈ vb x ∨ b ∈ tb xs := by simpa [tb] using hb
    rcases hb' with hb' | hb'
    · simp only [vb, List.mem_append, Option.mem_toList] at hb'
      rcases hb' with hb' | hb'
      · exact ⟨own_lt2 h.1.kids b hb', own_ge h.1.kids b hb', .inl (own_ety h.1.kids hb')⟩
      · exact ⟨own_lt2 h.1.names b hb', own_ge h.1.names b hb', .inr (own_ety h.1.names hb')⟩
    · exact VRs.lt h.2 b hb'
  | [], _ :: _, h, _, _ => h.elim
  | _ :: _, [], h, _, _ => h.elim

/-- The tree that has been read so far. -/
structure TR (base : Nat) (w : World) (tv : Value) (xs : List VC) (t : List JV) : Prop where
  own : w.ownsRow base 35 6 tv t.length (flat xs)
  vals : VRs base w xs t
  nodup : (tb xs).Nodup
theorem TR.keep {base : Nat} {w w' : World} {S : Nat → Prop} {tv : Value} {xs : List VC} {t : List JV} (h : TR base w tv xs t) (hc : Chg S w w')
    (hS : ∀ b, S b → ety w b ≠ some 3 ∧ ety w b ≠ some 9) (ht : ∀ b, tv.ownBlock = some b → ¬ S b) : TR base w' tv xs t :=
  ⟨own_chg h.own hc ht, h.vals.keep hc hS, h.nodup⟩
theorem TR.neRb {base : Nat} {w : World} {tv : Value} {xs : List VC} {t : List JV} (h : TR base w tv xs t) {rb : Nat} {bv : Value} {i dp : Nat} {tv' : Value} (hr : Rd w rb bv i dp tv') : tv.ownBlock ≠ some rb := fun e => by
  have h1 := own_ety h.own e
  rw [hr.ety] at h1
  exact absurd (Option.some.inj h1) (by decide)
theorem TR.sp {base : Nat} {w : World} {tv : Value} {xs : List VC} {t : List JV} (h : TR base w tv xs t) {rb : Nat} {bv : Value} {i dp : Nat} {tv' : Value} (hr : Rd w rb bv i dp tv') : ∀ b, SP rb tv b → ety w b ≠ some 3 ∧ ety w b ≠ some 9 := by
  rintro b (rfl | hb)
  · rw [hr.ety]; decide
  · rw [own_ety h.own hb.symm]; decide
theorem TR.rb {base : Nat} {w w' : World} {tv : Value} {xs : List VC} {t : List JV} (h : TR base w tv xs t) {rb : Nat} {bv : Value} {i dp : Nat} {tv' : Value} (hr : Rd w rb bv i dp tv') (hc : Chg (· = rb) w w') : TR base w' tv xs t :=
  h.keep hc (fun b hb => by subst hb; rw [hr.ety]; decide) (fun b hb e => h.neRb hr (e ▸ hb))

/-- What a call that reads a value does. -/
def TPost (res : Except Flt (Nat × Nat × List JV)) (rb base : Nat) (bv tv : Value) (xs : List VC) (dp : Nat) (w : World) (e : Ending) (w' : World) : Prop :=
  match res with
  | .ok (p, j, t') => e = .returned (.int .i64 p) ∧ ∃ tv' xs', Rd w' rb bv j dp tv' ∧ TR base w' tv' (xs ++ xs') t' ∧ Chg (SP rb tv) w w' ∧ (∀ b ∈ tb xs', w.heap.size ≤ b) ∧ (∀ b, tv'.ownBlock = some b → tv.ownBlock = some b ∨ w.heap.size ≤ b)
  | .error f => NoEnd f.1 f.2 e ∧ Chg (fun k => base ≤ k) w w'

/-- The contract of value at so much fuel. -/
def VCon (l : List UInt8) (rb : Nat) (A : Option Addr) (cap B base k : Nat) : Prop :=
  ∀ (i dp : Nat) (t : List JV) (tv : Value) (xs : List VC) (w : World), 2 * (l.length - i) + 2 ≤ k → i ≤ l.length → t.length ≤ i → dp ≤ 64 → St w B rb A cap l i dp tv → TR base w tv xs t → LetOk w B → BadOk w B →
    Calls Tryd.prog 19 #[.pointer (some ⟨rb, 0, none⟩)] w (TPost (valueJ l k i dp t) rb base (.slice A l.length cap) tv xs dp w)

theorem LetOk.base {w w' : World} {B base : Nat} (h : LetOk w B) (hB : B ≤ base) (hb : Below base w w') : LetOk w' B := h.keep (hb.mono hB)
theorem BadOk.base {w w' : World} {B base : Nat} (h : BadOk w B) (hB : B ≤ base) (hb : Below base w w') : BadOk w' B := h.keep (hb.mono hB)
theorem SP.base {base : Nat} {w w' : World} {tv : Value} {xs : List VC} {t : List JV} (h : TR base w tv xs t) {rb : Nat} (hrb : base ≤ rb) (hlt : rb < w.heap.size) (hc : Chg (SP rb tv) w w') : Below base w w' :=
  hc.below (by omega) (by
    rintro k (rfl | hk)
    · exact hrb
    · exact own_ge h.own k hk.symm)
end Go.Proofs.YtknmbfkpclacgaaDoor
