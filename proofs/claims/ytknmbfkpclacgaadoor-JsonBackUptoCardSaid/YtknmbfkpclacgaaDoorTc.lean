/- A tree that is read: what memory holds; a row of bools or numbers that a call makes. -/
import Derived.Test.YtknmbfkpclacgaaDoorTb
import Derived.Deep.OwnRows
set_option linter.unusedSimpArgs false
namespace Go.Proofs.YtknmbfkpclacgaaDoor
open Go.RowKit

/-- A row that is read: it lies below B. -/
def Ro (w : World) (B : Nat) (A : Option Addr) (xs : List Value) : Prop :=
  0 < xs.length → ∃ b o, A = some ⟨b, o, none⟩ ∧ b < B ∧ ∀ j x, xs[j]? = some x → w.cell? ⟨b, o + j, none⟩ = some x
theorem Ro.keep {w w' : World} {B : Nat} {A : Option Addr} {xs : List Value} (h : Ro w B A xs) (hb : Below B w w') : Ro w' B A xs := fun hp => by
  obtain ⟨b, o, hA, hlt, hc⟩ := h hp
  exact ⟨b, o, hA, hlt, fun j x hj => by rw [← hc j x hj]; exact hb.cell (p := ⟨b, o + j, none⟩) hlt⟩
theorem Ro.mono {w : World} {B B' : Nat} {A : Option Addr} {xs : List Value} (h : Ro w B A xs) (hB : B ≤ B') : Ro w B' A xs := fun hp => by
  obtain ⟨b, o, hA, hlt, hc⟩ := h hp
  exact ⟨b, o, hA, by omega, hc⟩
/-- A value of a tree, as it is read. -/
structure VRd (w : World) (B : Nat) (x : VC) (v : JV) : Prop where
  kind : x.kind = v.kind
  truth : x.truth = v.truth
  n : x.n = v.n
  text : x.text = ⟨v.text.toArray⟩
  kids : ∃ A c, x.kids = .slice A v.kids.length c ∧ Ro w B A (ints v.kids)
  names : ∃ A c, x.names = .slice A v.names.length c ∧ Ro w B A (strs v.names)
  kl : v.kids.length ≤ 140737488355328
  nl : v.names.length ≤ 140737488355328
theorem VRd.keep {w w' : World} {B : Nat} {x : VC} {v : JV} (h : VRd w B x v) (hb : Below B w w') : VRd w' B x v := by
  obtain ⟨A, c, h1, h2⟩ := h.kids
  obtain ⟨A', c', h3, h4⟩ := h.names
  exact ⟨h.kind, h.truth, h.n, h.text, ⟨A, c, h1, h2.keep hb⟩, ⟨A', c', h3, h4.keep hb⟩, h.kl, h.nl⟩
/-- A tree, as it is read. -/
structure TRd (w : World) (B : Nat) (A : Option Addr) (xs : List VC) (t : List JV) : Prop where
  row : Ro w B A (flat xs)
  len : xs.length = t.length
  tl : t.length ≤ 1000000000000
  vals : ∀ i (h : i < t.length), VRd w B (xs[i]'(by omega)) t[i]
theorem TRd.keep {w w' : World} {B : Nat} {A : Option Addr} {xs : List VC} {t : List JV} (h : TRd w B A xs t) (hb : Below B w w') : TRd w' B A xs t :=
  ⟨h.row.keep hb, h.len, h.tl, fun i hi => (h.vals i hi).keep hb⟩
theorem flat_length (xs : List VC) : (flat xs).length = 6 * xs.length := by
  induction xs with
  | nil => rfl
  | cons x xs ih => simp only [flat, List.flatMap_cons, List.length_append, List.length_cons] at ih ⊢; rw [ih]; simp [VC.cells]; omega
theorem flat_get (xs : List VC) (i k : Nat) (hi : i < xs.length) (hk : k < 6) : (flat xs)[6 * i + k]? = (xs[i]).cells[k]? := by
  induction xs generalizing i with
  | nil => simp at hi
  | cons x xs ih =>
    have hx : x.cells.length = 6 := by simp [VC.cells]
    cases i with
    | zero =>
      simp only [flat, List.flatMap_cons]
      rw [List.getElem?_append_left (by rw [hx]; omega)]
      simp
    | succ i =>
      simp only [flat, List.flatMap_cons]
      rw [List.getElem?_append_right (by rw [hx]; omega), hx, show 6 * (i + 1) + k - 6 = 6 * i + k from by omega]
      have := ih i (by simpa using hi)
      simpa [flat] using this
/-- The six cells of value i. -/
theorem TRd.at {w : World} {B : Nat} {A : Option Addr} {xs : List VC} {t : List JV} (h : TRd w B A xs t) (i : Nat) (hi : i < t.length) :
    ∃ b o Ak ck An cn, A = some ⟨b, o, none⟩ ∧ b < B ∧ w.cell? ⟨b, o + i * 6, none⟩ = some (.int .i64 t[i].kind) ∧ w.cell? ⟨b, o + i * 6 + 1, none⟩ = some (.bool t[i].truth) ∧ w.cell? ⟨b, o + i * 6 + 2, none⟩ = some (.int .i64 t[i].n) ∧
      w.cell? ⟨b, o + i * 6 + 3, none⟩ = some (.string ⟨t[i].text.toArray⟩) ∧ w.cell? ⟨b, o + i * 6 + 4, none⟩ = some (.slice Ak t[i].kids.length ck) ∧ w.cell? ⟨b, o + i * 6 + 5, none⟩ = some (.slice An t[i].names.length cn) ∧
      Ro w B Ak (ints t[i].kids) ∧ Ro w B An (strs t[i].names) ∧ t[i].kids.length ≤ 140737488355328 ∧ t[i].names.length ≤ 140737488355328 := by
  have hix : i < xs.length := by rw [h.len]; exact hi
  obtain ⟨b, o, hA, hb, hc⟩ := h.row (by rw [flat_length]; omega)
  have hv := h.vals i hi
  obtain ⟨Ak, ck, hk, hkr⟩ := hv.kids
  obtain ⟨An, cn, hn, hnr⟩ := hv.names
  have hg : ∀ k, k < 6 → ∀ x, (xs[i]).cells[k]? = some x → w.cell? ⟨b, o + i * 6 + k, none⟩ = some x := fun k hk' x hx => by
    have := hc (6 * i + k) x (by rw [flat_get xs i k hix hk']; exact hx)
    rwa [← Nat.add_assoc, Nat.mul_comm 6 i] at this
  refine ⟨b, o, Ak, ck, An, cn, hA, hb, hg 0 (by omega) _ ?_, hg 1 (by omega) _ ?_, hg 2 (by omega) _ ?_, hg 3 (by omega) _ ?_, hg 4 (by omega) _ ?_, hg 5 (by omega) _ ?_, hkr, hnr, hv.kl, hv.nl⟩
  · simp [VC.cells, hv.kind]
  · simp [VC.cells, hv.truth]
  · simp [VC.cells, hv.n]
  · simp [VC.cells, hv.text]
  · simp [VC.cells, hk]
  · simp [VC.cells, hn]
theorem Ro.int {w : World} {B : Nat} {A : Option Addr} {ks : List Int} (h : Ro w B A (ints ks)) (j : Nat) (hj : j < ks.length) : ∃ b o, A = some ⟨b, o, none⟩ ∧ b < B ∧ w.cell? ⟨b, o + j, none⟩ = some (.int .i64 ks[j]) := by
  obtain ⟨b, o, hA, hb, hc⟩ := h (by rw [ints_length]; omega)
  exact ⟨b, o, hA, hb, hc j _ (by simp [ints, hj])⟩
theorem Ro.str {w : World} {B : Nat} {A : Option Addr} {ns : List (List UInt8)} (h : Ro w B A (strs ns)) (j : Nat) (hj : j < ns.length) : ∃ b o, A = some ⟨b, o, none⟩ ∧ b < B ∧ w.cell? ⟨b, o + j, none⟩ = some (.string ⟨ns[j].toArray⟩) := by
  obtain ⟨b, o, hA, hb, hc⟩ := h (by rw [strs_length]; omega)
  exact ⟨b, o, hA, hb, hc j _ (by simp [strs, hj])⟩

/-- A row of one cell each that the call made. -/
structure Row1 (w : World) (mb : Nat) (e : TypeId) (xs : List Value) : Prop where
  h : w.heap[mb]? = some (.cells xs.toArray e (0, 0))
theorem Row1.cell {w : World} {mb : Nat} {e : TypeId} {xs : List Value} (h : Row1 w mb e xs) (j : Nat) (x : Value) (hj : xs[j]? = some x) : w.cell? ⟨mb, j, none⟩ = some x := by
  rw [cell_of_row w mb j _ _ _ h.h]
  simpa using hj
theorem Row1.fz {w : World} {mb : Nat} {e : TypeId} {xs : List Value} (h : Row1 w mb e xs) (j : Nat) : w.frozen? ⟨mb, j, none⟩ = false := by simp [World.frozen?, h.h]
theorem Row1.lt {w : World} {mb : Nat} {e : TypeId} {xs : List Value} (h : Row1 w mb e xs) : mb < w.heap.size := lt_of_block h.h
theorem Row1.keep {w w' : World} {mb : Nat} {e : TypeId} {xs : List Value} {S : Nat → Prop} (h : Row1 w mb e xs) (hc : Chg S w w') (hs : ¬ S mb) : Row1 w' mb e xs := ⟨hc.obj h.h hs⟩
theorem Row1.set {w : World} {mb : Nat} {e : TypeId} {xs : List Value} (h : Row1 w mb e xs) (j : Nat) (x : Value) (hj : j < xs.length) : Row1 (w.setCell ⟨mb, j, none⟩ x) mb e (xs.set j x) := ⟨by
  rw [heap_setCell_same h.h]
  simp⟩
theorem madeCells_one (z : Value) (n : Nat) : madeCells #[z] n = (List.replicate n z).toArray := by
  apply Array.ext
  · simp [size_madeCells]
  · intro i h1 h2
    simp [madeCells, Nat.mod_one]
theorem Row1.made (w : World) (e : TypeId) (z : Value) (n : Nat) : Row1 (w.alloc (.cells (madeCells #[z] n) e)) w.heap.size e (List.replicate n z) := ⟨by
  rw [heap_alloc_new, madeCells_one]⟩
end Go.Proofs.YtknmbfkpclacgaaDoor
