/- A tree that the law is handed: what its reading says of memory (TRd), and how its bulk bounds it. -/
import Derived.Test.YtknmbfkpclacgaaDoorFx
import Derived.Test.YtknmbfkpclacgaaDoorRows
import Derived.Test.YtknmbfkpclacgaaDoorWa
import Derived.ChangeSlices
import Derived.SliceStrings
import Derived.Deep.Slices
set_option linter.unusedSimpArgs false
namespace Go.Proofs.YtknmbfkpclacgaaDoor
open Go.ChangeShapes Go.WideShapes Go.RowKit

theorem list_choice {α : Type} {P : Nat → α → Prop} : ∀ n : Nat, (∀ i, i < n → ∃ x, P i x) → ∃ l : List α, l.length = n ∧ ∀ i (h : i < l.length), P i l[i]
  | 0, _ => ⟨[], rfl, fun i h => by simp at h⟩
  | n + 1, h => by
    obtain ⟨l, hl, hp⟩ := list_choice n (fun i hi => h i (by omega))
    obtain ⟨x, hx⟩ := h n (by omega)
    refine ⟨l ++ [x], by simp [hl], fun i hi => ?_⟩
    rw [List.getElem_append]
    split
    · exact hp i _
    · have : i = n := by simp at hi; omega
      subst this
      simpa using hx
theorem cell_plain {w : World} {a : Addr} {v : Value} (h : w.cell? a = some v) : a = ⟨a.block, a.off, none⟩ ∧ a.block < w.heap.size := by
  obtain ⟨b, o, s⟩ := a
  refine ⟨?_, World.block_lt_of_cell? w _ h⟩
  cases s with
  | none => rfl
  | some s =>
    exfalso
    unfold World.cell? at h
    split at h <;> simp at h
theorem add_at (b o i : Nat) : (⟨b, o, none⟩ : Addr).add i = ⟨b, o + i, none⟩ := by
  unfold Addr.add
  split
  · rename_i h; subst h; rfl
  · rfl

/-! ### bulk -/
theorem bulk_one {H : Type} (d : DataW H) : 1 ≤ Rows.uptoBulk d := by
  cases d with
  | lit l => cases l <;> simp [Rows.uptoBulk]
  | nil => simp [Rows.uptoBulk]
  | ptr d => simp [Rows.uptoBulk]
  | slice elems spare => simp [Rows.uptoBulk]
  | agg parts => simp [Rows.uptoBulk]
  | iface t d => simp [Rows.uptoBulk]
  | map entries => simp [Rows.uptoBulk]
  | held h => simp [Rows.uptoBulk]
theorem bulkAll_len {H : Type} (l : List (DataW H)) : l.length ≤ Rows.uptoBulkAll l := by
  induction l with
  | nil => simp [Rows.uptoBulkAll]
  | cons x r ih => have := bulk_one x; simp only [Rows.uptoBulkAll, List.length_cons]; omega
theorem bulkAll_app {H : Type} (l r : List (DataW H)) : Rows.uptoBulkAll (l ++ r) = Rows.uptoBulkAll l + Rows.uptoBulkAll r := by
  induction l with
  | nil => simp [Rows.uptoBulkAll]
  | cons x l ih => simp only [List.cons_append, Rows.uptoBulkAll, ih]; omega
/-- a value's bulk -/
def bulkJ (v : JV) : Nat := v.text.length + v.kids.length + (v.names.map fun s => s.length + 1).sum + 6
theorem bulk_strs {H : Type} : ∀ ss : List ByteArray, Rows.uptoBulkAll (ss.map fun s => (DataW.lit (.string s.data.toList) : DataW H)) = (ss.map fun s => s.data.toList.length + 1).sum
  | [] => by simp [Rows.uptoBulkAll]
  | s :: ss => by simp [Rows.uptoBulkAll, Rows.uptoBulk, bulk_strs ss]

/-! ### rows of numbers and of strings -/
variable {H : Type} {enc : TypeId × Value → H} {W : World} {base : Nat} {sp : Nat → Bool} {held : Bool} {fuel : Nat}
theorem open_kids {v : Value} {x : DataW H × List MemPlace} (h : DataW.trod enc Tryd.prog W base sp held fuel 32 [v] = some x) :
    ∃ (A : Option Addr) (c : Nat) (ks : List Int), v = .slice A ks.length c ∧ Ro W W.heap.size A (ints ks) ∧ ks.length + 1 ≤ Rows.uptoBulk x.1 ∧ ks.length ≤ c := by
  rcases open_ints Tryd.underlying32 Tryd.underlying3 (by kernel_rfl) h with ⟨h1, rfl⟩ | ⟨a, len, cap, zs, h1, hb, hlc, hcm, hzl, rfl, hcell, _⟩
  · simp only [List.cons.injEq, and_true] at h1
    subst h1
    exact ⟨none, 0, [], rfl, fun hp => by simp [ints] at hp, by simp [Rows.uptoBulk], by simp⟩
  · simp only [List.cons.injEq, and_true] at h1
    subst h1
    have hle : len ≤ zs.length := by rw [hzl]; split <;> omega
    have hl : (zs.take len).length = len := by rw [List.length_take]; omega
    refine ⟨some a, cap, zs.take len, by rw [hl], fun hp => ?_, ?_, by omega⟩
    · have h0 := hcell 0 (by rw [ints_length, hl] at hp; omega)
      have ha := cell_plain h0
      have e0 : a.add 0 = a := by simp [Addr.add]
      rw [e0] at ha
      refine ⟨a.block, a.off, by rw [← ha.1], ha.2, fun j y hj => ?_⟩
      have hjl : j < len := by
        have := (List.getElem?_eq_some_iff.1 hj).1
        rw [ints_length, hl] at this; exact this
      have hc := hcell j (by omega)
      rw [ha.1, add_at] at hc
      rw [hc]
      have : (ints (zs.take len))[j]? = some (.int .i64 (zs.getD j 0)) := by
        simp [ints, List.getElem?_take, hjl, List.getD_eq_getElem?_getD, List.getElem?_eq_getElem (show j < zs.length by omega)]
      rw [this] at hj
      exact hj
    · have := bulkAll_len (lits (H := H) .i64 (zs.take len))
      rw [show (lits (H := H) .i64 (zs.take len)).length = len by simp [lits, hl]; omega] at this
      simp only [Rows.uptoBulk]
      omega
theorem open_names {v : Value} {x : DataW H × List MemPlace} (h : DataW.trod enc Tryd.prog W base sp held fuel 33 [v] = some x) :
    ∃ (A : Option Addr) (c : Nat) (ns : List (List UInt8)), v = .slice A ns.length c ∧ Ro W W.heap.size A (strs ns) ∧ (ns.map fun s => s.length + 1).sum + 1 ≤ Rows.uptoBulk x.1 ∧ ns.length ≤ c := by
  rcases open_strings Tryd.underlying33 Tryd.underlying9 (by kernel_rfl) h with ⟨h1, rfl⟩ | ⟨a, len, cap, ss, h1, hb, hlc, hcm, hzl, rfl, hcell, _⟩
  · simp only [List.cons.injEq, and_true] at h1
    subst h1
    exact ⟨none, 0, [], rfl, fun hp => by simp [Go.Proofs.YtknmbfkpclacgaaDoor.strs] at hp, by simp [Rows.uptoBulk], by simp⟩
  · simp only [List.cons.injEq, and_true] at h1
    subst h1
    have hle : len ≤ ss.length := by rw [hzl]; split <;> omega
    have hl : ((ss.take len).map fun s => s.data.toList).length = len := by rw [List.length_map, List.length_take]; omega
    refine ⟨some a, cap, (ss.take len).map fun s => s.data.toList, by rw [hl], fun hp => ?_, ?_, by omega⟩
    · have h0 := hcell 0 (by rw [strs_length, hl] at hp; omega)
      have ha := cell_plain h0
      have e0 : a.add 0 = a := by simp [Addr.add]
      rw [e0] at ha
      refine ⟨a.block, a.off, by rw [← ha.1], ha.2, fun j y hj => ?_⟩
      have hjl : j < len := by
        have := (List.getElem?_eq_some_iff.1 hj).1
        rw [strs_length, hl] at this; exact this
      have hc := hcell j (by omega)
      rw [ha.1, add_at] at hc
      rw [hc]
      have : (Go.Proofs.YtknmbfkpclacgaaDoor.strs ((ss.take len).map fun s => s.data.toList))[j]? = some (.string (ss.getD j ByteArray.empty)) := by
        simp [Go.Proofs.YtknmbfkpclacgaaDoor.strs, List.getElem?_take, hjl, List.getD_eq_getElem?_getD, List.getElem?_eq_getElem (show j < ss.length by omega)]
      rw [this] at hj
      exact hj
    · have e := bulk_strs (H := H) (ss.take len)
      simp only [Rows.uptoBulk]
      rw [List.map_map]
      show ((ss.take len).map fun s => s.data.toList.length + 1).sum + 1 ≤ _
      have e2 : Rows.uptoBulkAll (Go.ChangeShapes.strs (H := H) (ss.take len)) = ((ss.take len).map fun s => s.data.toList.length + 1).sum := e
      omega

/-! ### a value, a tree -/
set_option maxRecDepth 100000 in
theorem open_value {cs : List Value} {x : DataW H × List MemPlace} (h : DataW.trod enc Tryd.prog W base sp held fuel 35 cs = some x) :
    ∃ (y : VC) (v : JV), cs = y.cells ∧ (KL v → VRd W W.heap.size y v) ∧ bulkJ v ≤ Rows.uptoBulk x.1 := by
  obtain ⟨xs, n, _, rfl, hlen, hxl, hel⟩ := DataW.trod_struct Tryd.underlying35 h
  have c6 : Tryd.prog.cellsOf 35 = 6 := by kernel_rfl
  have ci : Tryd.prog.cellsOf 3 = 1 := by kernel_rfl
  have ck : Tryd.prog.cellsOf 31 = 1 := by kernel_rfl
  have cb : Tryd.prog.cellsOf 4 = 1 := by kernel_rfl
  have cs' : Tryd.prog.cellsOf 9 = 1 := by kernel_rfl
  have cI : Tryd.prog.cellsOf 32 = 1 := by kernel_rfl
  have cS : Tryd.prog.cellsOf 33 = 1 := by kernel_rfl
  rw [c6] at hlen
  match cs, hlen, xs, hxl, hel with
  | [a0, a1, a2, a3, a4, a5], _, [x0, x1, x2, x3, x4, x5], _, hel =>
    have h0 := hel 0 _ rfl
    have h1 := hel 1 _ rfl
    have h2 := hel 2 _ rfl
    have h3 := hel 3 _ rfl
    have h4 := hel 4 _ rfl
    have h5 := hel 5 _ rfl
    obtain ⟨k0, e0, rfl, _⟩ := DataW.trod_int Tryd.underlying31 (show DataW.trod enc Tryd.prog W base sp held n 31 _ = some x0 from h0)
    obtain ⟨k1, e1, rfl⟩ := DataW.trod_bool Tryd.underlying4 (show DataW.trod enc Tryd.prog W base sp held n 4 _ = some x1 from h1)
    obtain ⟨k2, e2, rfl, _⟩ := DataW.trod_int Tryd.underlying3 (show DataW.trod enc Tryd.prog W base sp held n 3 _ = some x2 from h2)
    obtain ⟨k3, e3, rfl, _⟩ := DataW.trod_string Tryd.underlying9 (show DataW.trod enc Tryd.prog W base sp held n 9 _ = some x3 from h3)
    have h4' : DataW.trod enc Tryd.prog W base sp held n 32 [a4] = some x4 := by
      have : DataW.trod enc Tryd.prog W base sp held n 32 (([a0, a1, a2, a3, a4, a5].drop 4).take (Tryd.prog.cellsOf 32)) = some x4 := h4
      rw [cI] at this
      exact this
    have h5' : DataW.trod enc Tryd.prog W base sp held n 33 [a5] = some x5 := by
      have : DataW.trod enc Tryd.prog W base sp held n 33 (([a0, a1, a2, a3, a4, a5].drop 5).take (Tryd.prog.cellsOf 33)) = some x5 := h5
      rw [cS] at this
      exact this
    obtain ⟨A1, c1, ks, rfl, r1, b1, _⟩ := open_kids h4'
    obtain ⟨A2, c2, ns, rfl, r2, b2, _⟩ := open_names h5'
    simp [ck, cb, ci, cs'] at e0 e1 e2 e3
    subst e0 e1 e2 e3
    refine ⟨⟨k0, k1, k2, k3, .slice A1 ks.length c1, .slice A2 ns.length c2⟩, ⟨k0, k1, k2, k3.data.toList, ks, ns⟩, rfl, fun hk => ⟨rfl, rfl, rfl, by simp, ⟨A1, c1, rfl, r1⟩, ⟨A2, c2, rfl, r2⟩, hk.1, hk.2⟩, ?_⟩
    simp only [bulkJ, List.map_cons, List.map_nil, Rows.uptoBulk, Rows.uptoBulkAll]
    omega
theorem sum_mem {l : List Nat} {x : Nat} (h : x ∈ l) : x ≤ l.sum := by
  induction l with
  | nil => simp at h
  | cons y l ih =>
    rcases List.mem_cons.1 h with rfl | h
    · simp
    · have := ih h; simp; omega
theorem bulkAll_range {H : Type} (D : Nat → DataW H) (f : Nat → Nat) : ∀ (l : List Nat), (∀ i ∈ l, f i ≤ Rows.uptoBulk (D i)) → (l.map f).sum ≤ Rows.uptoBulkAll (l.map D)
  | [], _ => by simp [Rows.uptoBulkAll]
  | a :: l, h => by
    have := bulkAll_range D f l (fun i hi => h i (by simp [hi]))
    have h0 := h a (by simp)
    simp only [List.map_cons, List.sum_cons, Rows.uptoBulkAll]
    omega
/-- The tree that the law is handed. -/
theorem open_tree {v : Value} {x : DataW H × List MemPlace} (h : DataW.trod enc Tryd.prog W base sp held fuel 27 [v] = some x) (hb : Rows.uptoBulk x.1 ≤ 1048576) :
    ∃ (A : Option Addr) (c : Nat) (xs : List VC) (t : List JV), v = .slice A t.length c ∧ TRd W W.heap.size A xs t ∧ (t.map bulkJ).sum ≤ 1048576 ∧ t.length ≤ c := by
  rcases Go.Deep.open_slice Tryd.underlying27 h with ⟨h1, rfl⟩ | ⟨a, len, cap, m, n, D, Pl, h1, hba, hlc, hcm, hm, rfl, hcell⟩
  · simp only [List.cons.injEq, and_true] at h1
    subst h1
    exact ⟨none, 0, [], [], rfl, ⟨fun hp => by simp [flat] at hp, rfl, by simp, fun i hi => by simp at hi⟩, by simp, by simp⟩
  · simp only [List.cons.injEq, and_true] at h1
    subst h1
    have c6 : Tryd.prog.cellsOf 35 = 6 := by kernel_rfl
    rw [c6] at hcell
    have hml : len ≤ m := by rw [hm]; split <;> omega
    obtain ⟨l, hl, hp⟩ := list_choice (P := fun i (p : VC × JV) => (∃ cs', W.cells? base (a.add (i * 6)) 6 = some cs' ∧ cs' = p.1.cells) ∧ (KL p.2 → VRd W W.heap.size p.1 p.2) ∧ bulkJ p.2 ≤ Rows.uptoBulk (D i)) len (fun i hi => by
      obtain ⟨cs', hc, ht⟩ := hcell i (by omega)
      obtain ⟨y, v, e1, e2, e3⟩ := open_value ht
      exact ⟨(y, v), ⟨cs', hc, e1⟩, e2, e3⟩)
    have hsum : ((l.map (·.2)).map bulkJ).sum ≤ 1048576 := by
      have e : (l.map (·.2)).map bulkJ = (List.range len).map fun i => if h : i < l.length then bulkJ (l[i]).2 else 0 := by
        apply List.ext_getElem
        · simp [hl]
        · intro i h1 h2
          simp at h1
          simp [h1]
      rw [e]
      have := bulkAll_range D (fun i => if h : i < l.length then bulkJ (l[i]).2 else 0) (List.range len) (fun i hi => by
        have hi' : i < l.length := by rw [hl]; exact List.mem_range.1 hi
        simp only [hi', dif_pos]
        exact (hp i hi').2.2)
      simp only [Rows.uptoBulk] at hb
      omega
    have hkl : ∀ i (hi : i < l.length), KL (l[i]).2 := fun i hi => by
      have h1 := Nat.le_trans (sum_mem (List.mem_map.2 ⟨_, List.mem_map.2 ⟨_, List.getElem_mem hi, rfl⟩, rfl⟩ : bulkJ (l[i]).2 ∈ (l.map (·.2)).map bulkJ)) hsum
      have h2 : (l[i]).2.names.length ≤ ((l[i]).2.names.map fun s => s.length + 1).sum := by
        generalize (l[i]).2.names = ns
        induction ns with
        | nil => simp
        | cons s ns ih => simp; omega
      unfold bulkJ at h1
      exact ⟨by omega, by omega⟩
    have hlen : (l.map (·.2)).length ≤ ((l.map (·.2)).map bulkJ).sum := by
      generalize l.map (·.2) = t
      induction t with
      | nil => simp
      | cons v t ih => simp only [List.length_cons, List.map_cons, List.sum_cons]; unfold bulkJ at *; omega
    have ha : 0 < len → a = ⟨a.block, a.off, none⟩ ∧ a.block < W.heap.size := fun h0 => by
      obtain ⟨⟨cs', hc, e1⟩, _⟩ := hp 0 (by omega)
      have h5 := (World.cells?_some hc).2.2 0 (by omega)
      have e0 : (a.add (0 * 6)).add 0 = a := by simp [Addr.add]
      rw [e0, e1] at h5
      exact cell_plain (h5.trans rfl)
    refine ⟨some a, cap, l.map (·.1), l.map (·.2), by simp [hl], ⟨fun hpos => ?_, by simp, by omega, fun i hi => ?_⟩, hsum, by simp [hl]; omega⟩
    · have h0 : 0 < len := by rw [flat_length] at hpos; simp [hl] at hpos; omega
      obtain ⟨ha1, ha2⟩ := ha h0
      refine ⟨a.block, a.off, by rw [← ha1], ha2, fun j y hj => ?_⟩
      have hjl : j < 6 * len := by
        have := (List.getElem?_eq_some_iff.1 hj).1
        rw [flat_length] at this
        simpa [hl] using this
      have hi : j / 6 < l.length := by omega
      obtain ⟨⟨cs', hc, e1⟩, _⟩ := hp (j / 6) hi
      have h5 := (World.cells?_some hc).2.2 (j % 6) (by omega)
      have hg := flat_get (l.map (·.1)) (j / 6) (j % 6) (by simpa using hi) (by omega)
      rw [show 6 * (j / 6) + j % 6 = j by omega, hj] at hg
      rw [e1] at h5
      rw [ha1, add_at, add_at, show a.off + j / 6 * 6 + j % 6 = a.off + j by omega] at h5
      rw [h5, hg]
      simp
    · simp only [List.length_map] at hi
      simp only [List.getElem_map]
      exact (hp i hi).2.1 (hkl i hi)
/-- What the bulk bounds. -/
theorem bulk_sm {t : List JV} (h : (t.map bulkJ).sum ≤ 1048576) : Sm t ∧ (tx t).length ≤ 20000000 := by
  have hone : ∀ v ∈ t, bulkJ v ≤ 1048576 := fun v hv => Nat.le_trans (sum_mem (List.mem_map.2 ⟨v, hv, rfl⟩)) h
  have hns : ∀ ns : List (List UInt8), ns.length ≤ (ns.map fun s => s.length + 1).sum ∧ ∀ s ∈ ns, s.length ≤ (ns.map fun s => s.length + 1).sum := by
    intro ns
    induction ns with
    | nil => simp
    | cons s ns ih =>
      refine ⟨by simp; omega, fun u hu => ?_⟩
      rcases List.mem_cons.1 hu with rfl | hu
      · simp; omega
      · have := ih.2 u hu; simp; omega
  refine ⟨fun j hj => ?_, ?_⟩
  · have h1 := hone _ (List.getElem_mem hj)
    have h2 := hns t[j].names
    unfold bulkJ at h1
    exact ⟨by omega, fun s hs => by have := h2.2 s hs; omega, by omega⟩
  · unfold tx
    split
    · rename_i hm
      have hz := mayJ_zero hm
      have hl := writeJ_len hz.1 (fun v hv => by have := hz.2.2.1 v hv; omega)
      have ho : (t.map ownLen).sum ≤ 12 * (t.map bulkJ).sum := by
        clear h hone hns hm hz hl
        induction t with
        | nil => simp
        | cons v t ih =>
          have hq : ∀ s : List UInt8, (quoteJ s).length ≤ 6 * s.length + 2 := fun s => by
            unfold quoteJ
            have : (s.flatMap quoteB).length ≤ 6 * s.length := by
              induction s with
              | nil => simp
              | cons c s ih => have := quoteB_len c; rw [List.flatMap_cons, List.length_append, List.length_cons]; omega
            rw [List.length_append, List.length_append, List.length_cons, List.length_nil]; omega
          have hn : (v.names.map fun s => (quoteJ s).length + 1).sum ≤ 6 * (v.names.map fun s => s.length + 1).sum := by
            generalize v.names = ns
            induction ns with
            | nil => simp
            | cons s ns ih => have := hq s; simp; omega
          have := hq v.text
          simp only [List.map_cons, List.sum_cons]
          unfold ownLen bulkJ at *
          omega
      omega
    · simp
end Go.Proofs.YtknmbfkpclacgaaDoor
