/- The reader's put over trees; its list. -/
import Derived.Test.YtknmbfkpclacgaaDoorRdg
import Derived.Deep.CutRange
set_option linter.unusedSimpArgs false
namespace Go.Proofs.YtknmbfkpclacgaaDoor
open Go.RowKit

theorem own_one {w : World} {base : Nat} {e : TypeId} {size n : Nat} {v : Value} {xs : List Value} (h : w.ownsRow base e size v n xs) : v.oneCell' = true := by
  rcases h.2 with ⟨rfl, _⟩ | ⟨g, cap, cur, rfl, _⟩ <;> rfl
theorem own_mono {w : World} {base base' : Nat} {e : TypeId} {size n : Nat} {v : Value} {xs : List Value} (h : w.ownsRow base e size v n xs) (hb : base' ≤ base) : w.ownsRow base' e size v n xs := by
  refine ⟨h.1, ?_⟩
  rcases h.2 with hn | ⟨g, cap, cur, rfl, hb', r⟩
  · exact .inl hn
  · exact .inr ⟨g, cap, cur, rfl, by omega, r⟩
theorem St.base {w w' : World} {B rb : Nat} {A : Option Addr} {cap : Nat} {l : List UInt8} {i dp i' dp' : Nat} {tv tv' : Value} {base : Nat} (h : St w B rb A cap l i dp tv) (hB : B ≤ base) (hr : Rd w' rb (.slice A l.length cap) i' dp' tv') (hb : Below base w w') : St w' B rb A cap l i' dp' tv' :=
  ⟨hr, h.b.keep (hb.mono hB), h.B, h.c⟩

theorem put_tree (rb : Nat) (A : Option Addr) (cap : Nat) (l : List UInt8) (i dp B base : Nat) (tv : Value) (xs : List VC) (t : List JV) (x : VC) (v : JV) (w : World) (hst : St w B rb A cap l i dp tv) (hT : TR base w tv xs t)
    (hx : VR base w x v) (hnd : (tb (xs ++ [x])).Nodup) (hbase : base ≤ rb) (hB : B ≤ base) (ht : t.length ≤ 1000000000) :
    Calls Tryd.prog 34 #[.pointer (some ⟨rb, 0, none⟩), .agg #[.int .i64 v.kind, .bool v.truth, .int .i64 v.n, .string ⟨v.text.toArray⟩, x.kids, x.names]] w fun e w' =>
      e = .returned (.int .i64 t.length) ∧ ∃ tv', St w' B rb A cap l i dp tv' ∧ TR base w' tv' (xs ++ [x]) (t ++ [v]) ∧ Chg (SP rb tv) w w' ∧ (∀ b, tv'.ownBlock = some b → tv.ownBlock = some b ∨ w.heap.size ≤ b) := by
  have hlt := hst.r.lt
  have h := put_any rb (.slice A l.length cap) tv i dp base t.length (flat xs) x (own_one hx.kids) (own_one hx.names) w hst.r hT.own (by omega) ht (hT.neRb hst.r)
  rw [hx.kind, hx.truth, hx.n, hx.text] at h
  refine h.mono ?_
  rintro e w' ⟨g, cap', he, hr, hown, hch, hg⟩
  have hS := hT.sp hst.r
  refine ⟨he, _, hst.base hB hr (SP.base hT hbase hlt hch), ⟨?_, ?_, hnd⟩, hch, ?_⟩
  · rw [flat_snoc, List.length_append]; exact hown
  · exact (hT.vals.keep hch hS).snoc (hx.keep hch hS)
  · intro b hb
    have : g = b := by simpa [Value.ownBlock] using hb
    subst this; exact hg

theorem own_form {w : World} {base : Nat} {e : TypeId} {size n : Nat} {v : Value} {xs : List Value} (h : w.ownsRow base e size v n xs) : ∃ A c, v = .slice A n c := by
  rcases h.2 with ⟨rfl, rfl⟩ | ⟨g, cap, cur, rfl, _⟩
  · exact ⟨none, 0, rfl⟩
  · exact ⟨_, cap, rfl⟩
theorem skip_skip (l : List UInt8) (i : Nat) : skip l (skip l i) = skip l i := by
  apply skip_stay
  rintro ⟨h1, h2⟩
  have : ∀ m : List UInt8, ∀ h : skipBl m < m.length, isBl (m[skipBl m]'h) = false := by
    intro m
    induction m with
    | nil => intro h; simp at h
    | cons c r ih =>
      intro h
      by_cases hc : isBl c = true
      · have e : skipBl (c :: r) = skipBl r + 1 := by simp [skipBl, hc]
        simp only [e, List.getElem_cons_succ]
        exact ih (by simp [e] at h; exact h)
      · have e : skipBl (c :: r) = 0 := by simp [skipBl, hc]
        simp only [e, List.getElem_cons_zero]
        simpa using hc
  have h3 := this (l.drop i) (by unfold skip at h1; simp; omega)
  rw [List.getElem_drop] at h3
  simp only [pk, List.getD_eq_getElem?_getD, List.getElem?_eq_getElem h1, Option.getD_some] at h2
  exact Bool.false_ne_true (h3.symm.trans h2)
theorem tb_one {xs : List VC} {kv : Value} {a b c d} (h : (tb xs).Nodup) (hn : ∀ b, kv.ownBlock = some b → b ∉ tb xs) : (tb (xs ++ [⟨a, b, c, d, kv, .slice none 0 0⟩])).Nodup := by
  rw [tb_append, List.nodup_append]
  refine ⟨h, ?_, ?_⟩
  · have e : tb [(⟨a, b, c, d, kv, .slice none 0 0⟩ : VC)] = kv.ownBlock.toList := by simp [tb, vb, Value.ownBlock]
    rw [e]
    cases kv.ownBlock with
    | none => exact List.nodup_nil
    | some q => exact (List.nodup_cons).2 ⟨List.not_mem_nil, List.nodup_nil⟩
  · intro x hx y hy e
    subst e
    have : kv.ownBlock = some x := by simpa [tb, vb, Value.ownBlock] using hy
    exact hn x this hx
/-- The value that list and object build up: a local variable. -/
structure Lv (w : World) (b : Nat) (kd : Int) (kv nv : Value) : Prop where
  h : w.heap[b]? = some (.cells #[.int .i64 kd, .bool false, .int .i64 0, .string ⟨#[]⟩, kv, nv] 35 (0, 0))
theorem Lv.cells {w : World} {b : Nat} {kd : Int} {kv nv : Value} (h : Lv w b kd kv nv) : w.cell? ⟨b, 0, none⟩ = some (.int .i64 kd) ∧ w.cell? ⟨b, 1, none⟩ = some (.bool false) ∧ w.cell? ⟨b, 2, none⟩ = some (.int .i64 0) ∧ w.cell? ⟨b, 3, none⟩ = some (.string ⟨#[]⟩) ∧ w.cell? ⟨b, 4, none⟩ = some kv ∧ w.cell? ⟨b, 5, none⟩ = some nv := by
  simp [World.cell?, h.h]
theorem Lv.fz {w : World} {b : Nat} {kd : Int} {kv nv : Value} (h : Lv w b kd kv nv) (k : Nat) : w.frozen? ⟨b, k, none⟩ = false := by simp [World.frozen?, h.h]
theorem Lv.keep {w w' : World} {b : Nat} {kd : Int} {kv nv : Value} {S : Nat → Prop} (h : Lv w b kd kv nv) (hc : Chg S w w') (hs : ¬ S b) : Lv w' b kd kv nv := ⟨hc.obj h.h hs⟩
theorem Lv.set4 {w : World} {b : Nat} {kd : Int} {kv nv : Value} (h : Lv w b kd kv nv) (v : Value) : Lv (w.setCell ⟨b, 4, none⟩ v) b kd v nv := ⟨by rw [heap_setCell_same h.h]; rfl⟩
theorem Lv.set5 {w : World} {b : Nat} {kd : Int} {kv nv : Value} (h : Lv w b kd kv nv) (v : Value) : Lv (w.setCell ⟨b, 5, none⟩ v) b kd kv v := ⟨by rw [heap_setCell_same h.h]; rfl⟩
theorem Lv.lt {w : World} {b : Nat} {kd : Int} {kv nv : Value} (h : Lv w b kd kv nv) : b < w.heap.size := lt_of_block h.h
theorem Lv.ety {w : World} {b : Nat} {kd : Int} {kv nv : Value} (h : Lv w b kd kv nv) : ety w b = some 35 := by simp [Go.Proofs.YtknmbfkpclacgaaDoor.ety, h.h]

theorem Tryd.infoInt : (Tryd.prog.info? 3).map (fun i => (i.zero, i.size, i.bytes)) = some (some (.int .i64 0), 1, 8) := by kernel_rfl

end Go.Proofs.YtknmbfkpclacgaaDoor
