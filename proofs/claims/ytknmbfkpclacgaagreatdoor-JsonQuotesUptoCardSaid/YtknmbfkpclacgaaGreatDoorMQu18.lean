import Derived.Test.YtknmbfkpclacgaaGreatDoorMQu17
import Derived.Test.YtknmbfkpclacgaaGreatDoorRows
import Derived.Test.YtknmbfkpclacgaaGreatDoorMQu13
import Derived.ChangeSlices
import Derived.SliceStrings
import Derived.Deep.Slices
import Derived.Test.YtknmbfkpclacgaaGreatDoorMQu12
import Derived.Test.YtknmbfkpclacgaaGreatDoorMQu6
/- A tree that the law is handed: what its reading says of memory (TRd), and how its bulk bounds it. -/
set_option linter.unusedSimpArgs false
namespace Go.Proofs.YtknmbfkpclacgaaGreatDoor
open Go.ChangeShapes Go.WideShapes Go.RowKit

theorem list_choice {α : Type} {P : Nat → α → Prop} : ∀ n : Nat, (∀ i, i < n → ∃ x, P i x) → ∃ l : List α, l.length = n ∧ ∀ i (h : i < l.length), P i l[i]
  | 0, _ => ⟨[], rfl, fun i h => by simp at h⟩
  | n + 1, h => by
    obtain ⟨l, hl, hp⟩ := list_choice n (fun i hi => h i (by omega))
    obtain ⟨x, hx⟩ := h n (by omega)
    refine ⟨l ++ [x], by simp [hl], fun i hi => ?_⟩
    rw [List.getElem_append]
    split
    · exact hp i _
    · have : i = n := by simp at hi; omega
      subst this
      simpa using hx
theorem cell_plain {w : World} {a : Addr} {v : Value} (h : w.cell? a = some v) : a = ⟨a.block, a.off, none⟩ ∧ a.block < w.heap.size := by
  obtain ⟨b, o, s⟩ := a
  refine ⟨?_, World.block_lt_of_cell? w _ h⟩
  cases s with
  | none => rfl
  | some s =>
    exfalso
    unfold World.cell? at h
    split at h <;> simp at h
theorem add_at (b o i : Nat) : (⟨b, o, none⟩ : Addr).add i = ⟨b, o + i, none⟩ := by
  unfold Addr.add
  split
  · rename_i h; subst h; rfl
  · rfl

/-! ### bulk -/
theorem bulk_one {H : Type} (d : DataW H) : 1 ≤ Rows.uptoBulk d := by
  cases d with
  | lit l => cases l <;> simp [Rows.uptoBulk]
  | nil => simp [Rows.uptoBulk]
  | ptr d => simp [Rows.uptoBulk]
  | slice elems spare => simp [Rows.uptoBulk]
  | agg parts => simp [Rows.uptoBulk]
  | iface t d => simp [Rows.uptoBulk]
  | map entries => simp [Rows.uptoBulk]
  | held h => simp [Rows.uptoBulk]
theorem bulkAll_len {H : Type} (l : List (DataW H)) : l.length ≤ Rows.uptoBulkAll l := by
  induction l with
  | nil => simp [Rows.uptoBulkAll]
  | cons x r ih => have := bulk_one x; simp only [Rows.uptoBulkAll, List.length_cons]; omega
theorem bulkAll_app {H : Type} (l r : List (DataW H)) : Rows.uptoBulkAll (l ++ r) = Rows.uptoBulkAll l + Rows.uptoBulkAll r := by
  induction l with
  | nil => simp [Rows.uptoBulkAll]
  | cons x l ih => simp only [List.cons_append, Rows.uptoBulkAll, ih]; omega
/-- a value's bulk -/
def bulkJ (v : JV) : Nat := v.text.length + v.kids.length + (v.names.map fun s => s.length + 1).sum + 6
theorem bulk_strs {H : Type} : ∀ ss : List ByteArray, Rows.uptoBulkAll (ss.map fun s => (DataW.lit (.string s.data.toList) : DataW H)) = (ss.map fun s => s.data.toList.length + 1).sum
  | [] => by simp [Rows.uptoBulkAll]
  | s :: ss => by simp [Rows.uptoBulkAll, Rows.uptoBulk, bulk_strs ss]

/-! ### rows of numbers and of strings -/
variable {H : Type} {enc : TypeId × Value → H} {W : World} {base : Nat} {sp : Nat → Bool} {held : Bool} {fuel : Nat}
theorem open_kids {v : Value} {x : DataW H × List MemPlace} (h : DataW.trod enc Tryz.prog W base sp held fuel 44 [v] = some x) :
    ∃ (A : Option Addr) (c : Nat) (ks : List Int), v = .slice A ks.length c ∧ Ro W W.heap.size A (ints ks) ∧ ks.length + 1 ≤ Rows.uptoBulk x.1 ∧ ks.length ≤ c := by
  rcases open_ints Tryz.underlying44 Tryz.underlying3 (by kernel_rfl) h with ⟨h1, rfl⟩ | ⟨a, len, cap, zs, h1, hb, hlc, hcm, hzl, rfl, hcell, _⟩
  · simp only [List.cons.injEq, and_true] at h1
    subst h1
    exact ⟨none, 0, [], rfl, fun hp => by simp [ints] at hp, by simp [Rows.uptoBulk], by simp⟩
  · simp only [List.cons.injEq, and_true] at h1
    subst h1
    have hle : len ≤ zs.length := by rw [hzl]; split <;> omega
    have hl : (zs.take len).length = len := by rw [List.length_take]; omega
    refine ⟨some a, cap, zs.take len, by rw [hl], fun hp => ?_, ?_, by omega⟩
    · have h0 := hcell 0 (by rw [ints_length, hl] at hp; omega)
      have ha := cell_plain h0
      have e0 : a.add 0 = a := by simp [Addr.add]
      rw [e0] at ha
      refine ⟨a.block, a.off, by rw [← ha.1], ha.2, fun j y hj => ?_⟩
      have hjl : j < len := by
        have := (List.getElem?_eq_some_iff.1 hj).1
        rw [ints_length, hl] at this; exact this
      have hc := hcell j (by omega)
      rw [ha.1, add_at] at hc
      rw [hc]
      have : (ints (zs.take len))[j]? = some (.int .i64 (zs.getD j 0)) := by
        simp [ints, List.getElem?_take, hjl, List.getD_eq_getElem?_getD, List.getElem?_eq_getElem (show j < zs.length by omega)]
      rw [this] at hj
      exact hj
    · have := bulkAll_len (lits (H := H) .i64 (zs.take len))
      rw [show (lits (H := H) .i64 (zs.take len)).length = len by simp [lits, hl]; omega] at this
      simp only [Rows.uptoBulk]
      omega
theorem open_names {v : Value} {x : DataW H × List MemPlace} (h : DataW.trod enc Tryz.prog W base sp held fuel 45 [v] = some x) :
    ∃ (A : Option Addr) (c : Nat) (ns : List (List UInt8)), v = .slice A ns.length c ∧ Ro W W.heap.size A (strs ns) ∧ (ns.map fun s => s.length + 1).sum + 1 ≤ Rows.uptoBulk x.1 ∧ ns.length ≤ c := by
  rcases open_strings Tryz.underlying45 Tryz.underlying9 (by kernel_rfl) h with ⟨h1, rfl⟩ | ⟨a, len, cap, ss, h1, hb, hlc, hcm, hzl, rfl, hcell, _⟩
  · simp only [List.cons.injEq, and_true] at h1
    subst h1
    exact ⟨none, 0, [], rfl, fun hp => by simp [Go.Proofs.YtknmbfkpclacgaaGreatDoor.strs] at hp, by simp [Rows.uptoBulk], by simp⟩
  · simp only [List.cons.injEq, and_true] at h1
    subst h1
    have hle : len ≤ ss.length := by rw [hzl]; split <;> omega
    have hl : ((ss.take len).map fun s => s.data.toList).length = len := by rw [List.length_map, List.length_take]; omega
    refine ⟨some a, cap, (ss.take len).map fun s => s.data.toList, by rw [hl], fun hp => ?_, ?_, by omega⟩
    · have h0 := hcell 0 (by rw [strs_length, hl] at hp; omega)
      have ha := cell_plain h0
      have e0 : a.add 0 = a := by simp [Addr.add]
      rw [e0] at ha
      refine ⟨a.block, a.off, by rw [← ha.1], ha.2, fun j y hj => ?_⟩
      have hjl : j < len := by
        have := (List.getElem?_eq_some_iff.1 hj).1
        rw [strs_length, hl] at this; exact this
      have hc := hcell j (by omega)
      rw [ha.1, add_at] at hc
      rw [hc]
      have : (Go.Proofs.YtknmbfkpclacgaaGreatDoor.strs ((ss.take len).map fun s => s.data.toList))[j]? = some (.string (ss.getD j ByteArray.empty)) := by
        simp [Go.Proofs.YtknmbfkpclacgaaGreatDoor.strs, List.getElem?_take, hjl, List.getD_eq_getElem?_getD, List.getElem?_eq_getElem (show j < ss.length by omega)]
      rw [this] at hj
      exact hj
    · have e := bulk_strs (H := H) (ss.take len)
      simp only [Rows.uptoBulk]
      rw [List.map_map]
      show ((ss.take len).map fun s => s.data.toList.length + 1).sum + 1 ≤ _
      have e2 : Rows.uptoBulkAll (Go.ChangeShapes.strs (H := H) (ss.take len)) = ((ss.take len).map fun s => s.data.toList.length + 1).sum := e
      omega

/-! ### a value, a tree -/
set_option maxRecDepth 100000 in
theorem open_value {cs : List Value} {x : DataW H × List MemPlace} (h : DataW.trod enc Tryz.prog W base sp held fuel 47 cs = some x) :
    ∃ (y : VC) (v : JV), cs = y.cells ∧ (KL v → VRd W W.heap.size y v) ∧ bulkJ v ≤ Rows.uptoBulk x.1 := by
  obtain ⟨xs, n, _, rfl, hlen, hxl, hel⟩ := DataW.trod_struct Tryz.underlying47 h
  have c6 : Tryz.prog.cellsOf 47 = 6 := by kernel_rfl
  have ci : Tryz.prog.cellsOf 3 = 1 := by kernel_rfl
  have ck : Tryz.prog.cellsOf 43 = 1 := by kernel_rfl
  have cb : Tryz.prog.cellsOf 4 = 1 := by kernel_rfl
  have cs' : Tryz.prog.cellsOf 9 = 1 := by kernel_rfl
  have cI : Tryz.prog.cellsOf 44 = 1 := by kernel_rfl
  have cS : Tryz.prog.cellsOf 45 = 1 := by kernel_rfl
  rw [c6] at hlen
  match cs, hlen, xs, hxl, hel with
  | [a0, a1, a2, a3, a4, a5], _, [x0, x1, x2, x3, x4, x5], _, hel =>
    have h0 := hel 0 _ rfl
    have h1 := hel 1 _ rfl
    have h2 := hel 2 _ rfl
    have h3 := hel 3 _ rfl
    have h4 := hel 4 _ rfl
    have h5 := hel 5 _ rfl
    obtain ⟨k0, e0, rfl, _⟩ := DataW.trod_int Tryz.underlying43 (show DataW.trod enc Tryz.prog W base sp held n 43 _ = some x0 from h0)
    obtain ⟨k1, e1, rfl⟩ := DataW.trod_bool Tryz.underlying4 (show DataW.trod enc Tryz.prog W base sp held n 4 _ = some x1 from h1)
    obtain ⟨k2, e2, rfl, _⟩ := DataW.trod_int Tryz.underlying3 (show DataW.trod enc Tryz.prog W base sp held n 3 _ = some x2 from h2)
    obtain ⟨k3, e3, rfl, _⟩ := DataW.trod_string Tryz.underlying9 (show DataW.trod enc Tryz.prog W base sp held n 9 _ = some x3 from h3)
    have h4' : DataW.trod enc Tryz.prog W base sp held n 44 [a4] = some x4 := by
      have : DataW.trod enc Tryz.prog W base sp held n 44 (([a0, a1, a2, a3, a4, a5].drop 4).take (Tryz.prog.cellsOf 44)) = some x4 := h4
      rw [cI] at this
      exact this
    have h5' : DataW.trod enc Tryz.prog W base sp held n 45 [a5] = some x5 := by
      have : DataW.trod enc Tryz.prog W base sp held n 45 (([a0, a1, a2, a3, a4, a5].drop 5).take (Tryz.prog.cellsOf 45)) = some x5 := h5
      rw [cS] at this
      exact this
    obtain ⟨A1, c1, ks, rfl, r1, b1, _⟩ := open_kids h4'
    obtain ⟨A2, c2, ns, rfl, r2, b2, _⟩ := open_names h5'
    simp [ck, cb, ci, cs'] at e0 e1 e2 e3
    subst e0 e1 e2 e3
    refine ⟨⟨k0, k1, k2, k3, .slice A1 ks.length c1, .slice A2 ns.length c2⟩, ⟨k0, k1, k2, k3.data.toList, ks, ns⟩, rfl, fun hk => ⟨rfl, rfl, rfl, by simp, ⟨A1, c1, rfl, r1⟩, ⟨A2, c2, rfl, r2⟩, hk.1, hk.2⟩, ?_⟩
    simp only [bulkJ, List.map_cons, List.map_nil, Rows.uptoBulk, Rows.uptoBulkAll]
    omega
theorem sum_mem {l : List Nat} {x : Nat} (h : x ∈ l) : x ≤ l.sum := by
  induction l with
  | nil => simp at h
  | cons y l ih =>
    rcases List.mem_cons.1 h with rfl | h
    · simp
    · have := ih h; simp; omega
theorem bulkAll_range {H : Type} (D : Nat → DataW H) (f : Nat → Nat) : ∀ (l : List Nat), (∀ i ∈ l, f i ≤ Rows.uptoBulk (D i)) → (l.map f).sum ≤ Rows.uptoBulkAll (l.map D)
  | [], _ => by simp [Rows.uptoBulkAll]
  | a :: l, h => by
    have := bulkAll_range D f l (fun i hi => h i (by simp [hi]))
    have h0 := h a (by simp)
    simp only [List.map_cons, List.sum_cons, Rows.uptoBulkAll]
    omega
/-- The tree that the law is handed. -/
theorem open_tree {v : Value} {x : DataW H × List MemPlace} (h : DataW.trod enc Tryz.prog W base sp held fuel 25 [v] = some x) (hb : Rows.uptoBulk x.1 ≤ 1048576) :
    ∃ (A : Option Addr) (c : Nat) (xs : List VC) (t : List JV), v = .slice A t.length c ∧ TRd W W.heap.size A xs t ∧ (t.map bulkJ).sum ≤ 1048576 ∧ t.length ≤ c := by
  rcases Go.Deep.open_slice Tryz.underlying25 h with ⟨h1, rfl⟩ | ⟨a, len, cap, m, n, D, Pl, h1, hba, hlc, hcm, hm, rfl, hcell⟩
  · simp only [List.cons.injEq, and_true] at h1
    subst h1
    exact ⟨none, 0, [], [], rfl, ⟨fun hp => by simp [flat] at hp, rfl, by simp, fun i hi => by simp at hi⟩, by simp, by simp⟩
  · simp only [List.cons.injEq, and_true] at h1
    subst h1
    have c6 : Tryz.prog.cellsOf 47 = 6 := by kernel_rfl
    rw [c6] at hcell
    have hml : len ≤ m := by rw [hm]; split <;> omega
    obtain ⟨l, hl, hp⟩ := list_choice (P := fun i (p : VC × JV) => (∃ cs', W.cells? base (a.add (i * 6)) 6 = some cs' ∧ cs' = p.1.cells) ∧ (KL p.2 → VRd W W.heap.size p.1 p.2) ∧ bulkJ p.2 ≤ Rows.uptoBulk (D i)) len (fun i hi => by
      obtain ⟨cs', hc, ht⟩ := hcell i (by omega)
      obtain ⟨y, v, e1, e2, e3⟩ := open_value ht
      exact ⟨(y, v), ⟨cs', hc, e1⟩, e2, e3⟩)
    have hsum : ((l.map (·.2)).map bulkJ).sum ≤ 1048576 := by
      have e : (l.map (·.2)).map bulkJ = (List.range len).map fun i => if h : i < l.length then bulkJ (l[i]).2 else 0 := by
        apply List.ext_getElem
        · simp [hl]
        · intro i h1 h2
          simp at h1
          simp [h1]
      rw [e]
      have := bulkAll_range D (fun i => if h : i < l.length then bulkJ (l[i]).2 else 0) (List.range len) (fun i hi => by
        have hi' : i < l.length := by rw [hl]; exact List.mem_range.1 hi
        simp only [hi', dif_pos]
        exact (hp i hi').2.2)
      simp only [Rows.uptoBulk] at hb
      omega
    have hkl : ∀ i (hi : i < l.length), KL (l[i]).2 := fun i hi => by
      have h1 := Nat.le_trans (sum_mem (List.mem_map.2 ⟨_, List.mem_map.2 ⟨_, List.getElem_mem hi, rfl⟩, rfl⟩ : bulkJ (l[i]).2 ∈ (l.map (·.2)).map bulkJ)) hsum
      have h2 : (l[i]).2.names.length ≤ ((l[i]).2.names.map fun s => s.length + 1).sum := by
        generalize (l[i]).2.names = ns
        induction ns with
        | nil => simp
        | cons s ns ih => simp; omega
      unfold bulkJ at h1
      exact ⟨by omega, by omega⟩
    have hlen : (l.map (·.2)).length ≤ ((l.map (·.2)).map bulkJ).sum := by
      generalize l.map (·.2) = t
      induction t with
      | nil => simp
      | cons v t ih => simp only [List.length_cons, List.map_cons, List.sum_cons]; unfold bulkJ at *; omega
    have ha : 0 < len → a = ⟨a.block, a.off, none⟩ ∧ a.block < W.heap.size := fun h0 => by
      obtain ⟨⟨cs', hc, e1⟩, _⟩ := hp 0 (by omega)
      have h5 := (World.cells?_some hc).2.2 0 (by omega)
      have e0 : (a.add (0 * 6)).add 0 = a := by simp [Addr.add]
      rw [e0, e1] at h5
      exact cell_plain (h5.trans rfl)
    refine ⟨some a, cap, l.map (·.1), l.map (·.2), by simp [hl], ⟨fun hpos => ?_, by simp, by omega, fun i hi => ?_⟩, hsum, by simp [hl]; omega⟩
    · have h0 : 0 < len := by rw [flat_length] at hpos; simp [hl] at hpos; omega
      obtain ⟨ha1, ha2⟩ := ha h0
      refine ⟨a.block, a.off, by rw [← ha1], ha2, fun j y hj => ?_⟩
      have hjl : j < 6 * len := by
        have := (List.getElem?_eq_some_iff.1 hj).1
        rw [flat_length] at this
        simpa [hl] using this
      have hi : j / 6 < l.length := by omega
      obtain ⟨⟨cs', hc, e1⟩, _⟩ := hp (j / 6) hi
      have h5 := (World.cells?_some hc).2.2 (j % 6) (by omega)
      have hg := flat_get (l.map (·.1)) (j / 6) (j % 6) (by simpa using hi) (by omega)
      rw [show 6 * (j / 6) + j % 6 = j by omega, hj] at hg
      rw [e1] at h5
      rw [ha1, add_at, add_at, show a.off + j / 6 * 6 + j % 6 = a.off + j by omega] at h5
      rw [h5, hg]
      simp
    · simp only [List.length_map] at hi
      simp only [List.getElem_map]
      exact (hp i hi).2.1 (hkl i hi)
/-- What the bulk bounds. -/
theorem bulk_sm {t : List JV} (h : (t.map bulkJ).sum ≤ 1048576) : Sm t ∧ (tx t).length ≤ 20000000 := by
  have hone : ∀ v ∈ t, bulkJ v ≤ 1048576 := fun v hv => Nat.le_trans (sum_mem (List.mem_map.2 ⟨v, hv, rfl⟩)) h
  have hns : ∀ ns : List (List UInt8), ns.length ≤ (ns.map fun s => s.length + 1).sum ∧ ∀ s ∈ ns, s.length ≤ (ns.map fun s => s.length + 1).sum := by
    intro ns
    induction ns with
    | nil => simp
    | cons s ns ih =>
      refine ⟨by simp; omega, fun u hu => ?_⟩
      rcases List.mem_cons.1 hu with rfl | hu
      · simp; omega
      · have := ih.2 u hu; simp; omega
  refine ⟨fun j hj => ?_, ?_⟩
  · have h1 := hone _ (List.getElem_mem hj)
    have h2 := hns t[j].names
    unfold bulkJ at h1
    exact ⟨by omega, fun s hs => by have := h2.2 s hs; omega, by omega⟩
  · unfold tx
    split
    · rename_i hm
      have hz := mayJ_zero hm
      have hl := writeJ_len hz.1 (fun v hv => by have := hz.2.2.1 v hv; omega)
      have ho : (t.map ownLen).sum ≤ 12 * (t.map bulkJ).sum := by
        clear h hone hns hm hz hl
        induction t with
        | nil => simp
        | cons v t ih =>
          have hq : ∀ s : List UInt8, (quoteJ s).length ≤ 6 * s.length + 2 := fun s => by
            unfold quoteJ
            have : (s.flatMap quoteB).length ≤ 6 * s.length := by
              induction s with
              | nil => simp
              | cons c s ih => have := quoteB_len c; rw [List.flatMap_cons, List.length_append, List.length_cons]; omega
            rw [List.length_append, List.length_append, List.length_cons, List.length_nil]; omega
          have hn : (v.names.map fun s => (quoteJ s).length + 1).sum ≤ 6 * (v.names.map fun s => s.length + 1).sum := by
            generalize v.names = ns
            induction ns with
            | nil => simp
            | cons s ns ih => have := hq s; simp; omega
          have := hq v.text
          simp only [List.map_cons, List.sum_cons]
          unfold ownLen bulkJ at *
          omega
      omega
    · simp
end Go.Proofs.YtknmbfkpclacgaaGreatDoor

/- Plain laws for the document's reader (galleyref24): numbers, escapes, places inside strings. -/
set_option linter.unusedSimpArgs false
namespace Go.Proofs.YtknmbfkpclacgaaGreatDoor

/-! ### numbers -/
/-- the digits' number -/
def valD : List UInt8 → Nat → Nat
  | [], n => n
  | c :: r, n => if isDig c then valD r (10 * n + (c.toNat - 48)) else n
theorem digs_val : ∀ (l : List UInt8) (n : Nat), digs l (min n 9007199254740992) = min (valD l n) 9007199254740992
  | [], n => rfl
  | c :: r, n => by
    rw [digs, valD]
    split
    · rw [← digs_val r]
      congr 1
      omega
    · rfl
theorem valD_ge : ∀ (l : List UInt8) (n : Nat), n * 10 ^ nDigs l ≤ valD l n
  | [], n => by simp [valD, nDigs]
  | c :: r, n => by
    rw [valD, nDigs]
    split
    · refine Nat.le_trans ?_ (valD_ge r _)
      rw [Nat.pow_succ, ← Nat.mul_assoc, Nat.mul_right_comm]
      exact Nat.mul_le_mul_right _ (by omega)
    · simp
def stepD (n : Nat) (c : UInt8) : Nat := 10 * n + (c.toNat - 48)
/-- what the document's reader has after k digits: it stops at seventeen -/
def refN (x : List UInt8) (k : Nat) : Nat := ((x.take k).take 17).foldl stepD 0
theorem valD_fold : ∀ (x : List UInt8) (n : Nat), valD x n = (x.take (nDigs x)).foldl stepD n
  | [], n => rfl
  | c :: r, n => by
    rw [valD, nDigs]
    split
    · rw [List.take_succ_cons, List.foldl_cons, valD_fold r]; rfl
    · rfl
theorem refN_zero (x : List UInt8) : refN x 0 = 0 := by simp [refN]
theorem refN_lo (x : List UInt8) (k : Nat) (hk : k < 17) (hx : k < x.length) : refN x (k + 1) = 10 * refN x k + ((x.getD k 0).toNat - 48) := by
  unfold refN
  rw [List.take_of_length_le (l := x.take (k + 1)) (by simp; omega), List.take_of_length_le (l := x.take k) (by simp; omega), List.take_succ_eq_append_getElem hx, List.foldl_append]
  simp [stepD, List.getD_eq_getElem?_getD, hx]
theorem refN_hi (x : List UInt8) (k : Nat) (hk : 17 ≤ k) : refN x (k + 1) = refN x k := by
  unfold refN
  rw [List.take_take, List.take_take, Nat.min_eq_left (by omega), Nat.min_eq_left (by omega)]
theorem fold_lt : ∀ (x : List UInt8) (n m : Nat), (∀ c ∈ x, c.toNat ≤ 57) → n < m → x.foldl stepD n < m * 10 ^ x.length
  | [], n, m, _, h => by simpa using h
  | c :: r, n, m, hx, h => by
    rw [List.foldl_cons, List.length_cons, Nat.pow_succ, Nat.mul_comm (10 ^ r.length) 10, ← Nat.mul_assoc]
    refine fold_lt r _ _ (fun d hd => hx d (by simp [hd])) ?_
    have := hx c (by simp)
    unfold stepD
    omega
theorem nDigs_all : ∀ (x : List UInt8), ∀ c ∈ x.take (nDigs x), isDig c = true
  | [], c, h => by simp at h
  | d :: r, c, h => by
    rw [nDigs] at h
    split at h
    · rename_i hd
      rw [List.take_succ_cons] at h
      rcases List.mem_cons.1 h with rfl | h
      · exact hd
      · exact nDigs_all r c h
    · simp at h
theorem isDig_le {c : UInt8} (h : isDig c = true) : 48 ≤ c.toNat ∧ c.toNat ≤ 57 := by
  unfold isDig at h
  simpa using h
theorem refN_lt (x : List UInt8) (k : Nat) (hk : k ≤ nDigs x) : refN x k < 100000000000000000 := by
  unfold refN
  have h := fold_lt ((x.take k).take 17) 0 1 (fun c hc => (isDig_le (nDigs_all x c (by
    have h1 := List.mem_of_mem_take hc
    rw [show x.take k = (x.take (nDigs x)).take k by rw [List.take_take, Nat.min_eq_left hk]] at h1
    exact List.mem_of_mem_take h1))).2) (by omega)
  refine Nat.lt_of_lt_of_le h ?_
  rw [Nat.one_mul, show (100000000000000000 : Nat) = 10 ^ 17 from rfl]
  exact Nat.pow_le_pow_right (by omega) (by simp; omega)
theorem nDigs_more : ∀ (x : List UInt8) (k : Nat), k ≤ nDigs x → (isDig (x.getD k 0) = true ↔ k < nDigs x)
  | [], k, h => by
    simp only [nDigs, Nat.le_zero] at h
    subst h
    simp [nDigs]
    decide
  | c :: r, k, h => by
    rw [nDigs] at h ⊢
    cases k with
    | zero =>
      simp only [List.getD_cons_zero]
      split <;> simp_all
    | succ k =>
      split at h
      · rename_i hc
        rw [if_pos hc, List.getD_cons_succ, nDigs_more r k (by omega)]
        omega
      · omega
/-- What the document's reader asks of a number is what the reader asks of it. -/
theorem num_same (x : List UInt8) (min0 : Bool) (c : Prop) :
    ((nDigs x = 0 ∨ (1 < nDigs x ∧ x.getD 0 0 = 48) ∨ 16 < nDigs x ∨ 9007199254740991 < refN x (nDigs x) ∨ (min0 = true ∧ refN x (nDigs x) = 0) ∨ c) ↔
      (nDigs x = 0 ∨ (1 < nDigs x ∧ x.getD 0 0 = 48) ∨ (min0 = true ∧ digs x 0 = 0) ∨ 9007199254740991 < digs x 0 ∨ c)) ∧
    (nDigs x ≤ 16 → refN x (nDigs x) ≤ 9007199254740991 → digs x 0 = refN x (nDigs x)) := by
  have hd : digs x 0 = min (valD x 0) 9007199254740992 := digs_val x 0
  rcases Nat.lt_or_ge 16 (nDigs x) with h | h
  · refine ⟨?_, fun h' => by omega⟩
    constructor
    · intro _
      by_cases h48 : x.getD 0 0 = 48
      · exact .inr (.inl ⟨by omega, h48⟩)
      · refine .inr (.inr (.inr (.inl ?_)))
        rw [hd]
        suffices 9007199254740992 ≤ valD x 0 by omega
        cases x with
        | nil => simp [nDigs] at h
        | cons a r =>
          rw [nDigs] at h
          split at h
          · rename_i ha
            rw [valD, if_pos ha]
            have h1 := valD_ge r (10 * 0 + (a.toNat - 48))
            have h2 := isDig_le ha
            have h3 : a.toNat ≠ 48 := fun e => h48 (by rw [List.getD_cons_zero]; exact UInt8.toNat_inj.1 (by rw [e]; rfl))
            refine Nat.le_trans ?_ h1
            have h4 : 10 ^ 16 ≤ 10 ^ nDigs r := Nat.pow_le_pow_right (by omega) (by omega)
            have h5 : 1 * 10 ^ nDigs r ≤ (10 * 0 + (a.toNat - 48)) * 10 ^ nDigs r := Nat.mul_le_mul_right _ (by omega)
            omega
          · omega
    · intro _
      exact .inr (.inr (.inl h))
  · have e : refN x (nDigs x) = valD x 0 := by
      rw [valD_fold]
      unfold refN
      rw [List.take_of_length_le (l := x.take (nDigs x)) (by simp; omega)]
    rw [e, hd]
    refine ⟨?_, fun _ h1 => by omega⟩
    constructor
    · rintro (h1 | h1 | h1 | h1 | ⟨h1, h2⟩ | h1)
      · exact .inl h1
      · exact .inr (.inl h1)
      · omega
      · exact .inr (.inr (.inr (.inl (by omega))))
      · exact .inr (.inr (.inl ⟨h1, by omega⟩))
      · exact .inr (.inr (.inr (.inr h1)))
    · rintro (h1 | h1 | ⟨h1, h2⟩ | h1 | h1)
      · exact .inl h1
      · exact .inr (.inl h1)
      · exact .inr (.inr (.inr (.inr (.inl ⟨h1, by omega⟩))))
      · exact .inr (.inr (.inr (.inl (by omega))))
      · exact .inr (.inr (.inr (.inr (.inr h1))))

/-! ### escapes -/
/-- a digit of base sixteen in a place; -1: none; -2: the bytes end ahead -/
def nibR (l : List UInt8) (p : Nat) : Int := if p < l.length then (match hexv (pk l p) with | some d => (d : Int) | none => -1) else -2
/-- what so many digits say from a place on -/
def unitR (l : List UInt8) : Nat → Nat → Nat → Int
  | 0, _, n => (n : Int)
  | k + 1, p, n => if nibR l p < 0 then nibR l p else unitR l k (p + 1) (16 * n + (nibR l p).toNat)
theorem hexv_lt16 {c : UInt8} {d : Nat} (h : hexv c = some d) : d < 16 ∧ c.toNat < 128 := by
  unfold hexv at h
  (repeat' split at h) <;> simp at h <;> omega
theorem nibR_range (l : List UInt8) (p : Nat) : -2 ≤ nibR l p ∧ nibR l p < 16 := by
  unfold nibR
  split
  · split
    · rename_i d h; have := hexv_lt16 h; omega
    · omega
  · omega
theorem unitR_four (l : List UInt8) (b : Nat) : ∀ (k p n : Nat), fourJ l b k p n = if unitR l k p n = -2 then .error (l.length, 240) else if unitR l k p n < 0 then .error (b, 243) else .ok (unitR l k p n).toNat
  | 0, p, n => by
    rw [fourJ, unitR, if_neg (by omega), if_neg (by omega)]
    simp
  | k + 1, p, n => by
    rw [unitR]
    by_cases hp : p < l.length
    · have hn : nibR l p = (match hexv (pk l p) with | some d => (d : Int) | none => -1) := by unfold nibR; rw [if_pos hp]
      cases hx : hexv (pk l p) with
      | none =>
        rw [hx] at hn
        simp only at hn
        rw [hn, fourJ_bad l b k p n hp hx]
        simp
      | some d =>
        rw [hx] at hn
        simp only at hn
        rw [hn, fourJ_step l b k p n d hp hx, if_neg (show ¬ ((d : Int) < 0) by omega), unitR_four l b k (p + 1), show 16 * n + ((d : Int)).toNat = n * 16 + d by omega]
    · have hn : nibR l p = -2 := by unfold nibR; rw [if_neg hp]
      rw [fourJ_end l b k p n hp, hn]
      simp
theorem unitR_range (l : List UInt8) : ∀ (k p n : Nat), -2 ≤ unitR l k p n ∧ unitR l k p n < ((n : Int) + 1) * 16 ^ k
  | 0, p, n => by rw [unitR]; omega
  | k + 1, p, n => by
    rw [unitR]
    have h1 := nibR_range l p
    have h3 : (1 : Int) ≤ 16 ^ k := by
      have : (1 : Nat) ≤ 16 ^ k := Nat.one_le_pow _ _ (by omega)
      exact_mod_cast this
    have h4 : ((n : Int) + 1) * 16 ^ (k + 1) = (16 * n + 16) * 16 ^ k := by rw [Int.pow_succ, Int.mul_comm (16 ^ k) 16, ← Int.mul_assoc]; congr 1; omega
    rw [h4]
    split
    · refine ⟨h1.1, ?_⟩
      have : (0 : Int) ≤ (16 * n + 16) * 16 ^ k := Int.mul_nonneg (by omega) (by omega)
      omega
    · have h2 := unitR_range l k (p + 1) (16 * n + (nibR l p).toNat)
      refine ⟨h2.1, Int.lt_of_lt_of_le h2.2 ?_⟩
      refine Int.mul_le_mul_of_nonneg_right ?_ (by omega)
      omega
theorem fourJ_ascii {l : List UInt8} {b : Nat} : ∀ (k p n m : Nat), fourJ l b k p n = .ok m → 0 < k → (pk l (p + k - 1)).toNat < 128
  | 0, _, _, _, _, h => by omega
  | k + 1, p, n, m, h, _ => by
    by_cases hp : p < l.length
    · cases hx : hexv (pk l p) with
      | none => rw [fourJ_bad l b k p n hp hx] at h; cases h
      | some d =>
        rw [fourJ_step l b k p n d hp hx] at h
        cases k with
        | zero => simpa using (hexv_lt16 hx).2
        | succ k =>
          have := fourJ_ascii (k + 1) (p + 1) _ m h (by omega)
          rw [show p + 1 + (k + 1) - 1 = p + (k + 1 + 1) - 1 by omega] at this
          exact this
    · rw [fourJ_end l b k p n hp] at h; cases h
theorem letter_ascii {c : UInt8} {x : Nat} (h : letter c = some x) : c.toNat < 128 := by
  unfold letter at h
  (repeat' split at h) <;> first | (rename_i hc; subst hc; decide) | (simp at h)
theorem escapeJ_ascii {l : List UInt8} {i r j : Nat} (h : escapeJ l i = .ok (r, j)) : 1 ≤ j ∧ (pk l (j - 1)).toNat < 128 := by
  unfold escapeJ at h
  split at h
  · cases h
  · rename_i c hc
    have hcp : pk l (i + 1) = c := by
      unfold takeJ at hc
      split at hc
      · simpa using hc
      · cases hc
    split at h
    · rename_i x hx
      simp only [Except.ok.injEq, Prod.mk.injEq] at h
      obtain ⟨_, rfl⟩ := h
      have := letter_ascii hx
      rw [← hcp] at this
      exact ⟨by omega, by simpa using this⟩
    · split at h
      · cases h
      · split at h
        · cases h
        · rename_i n hn
          have h4 := fourJ_ascii 4 (i + 2) 0 n hn (by omega)
          split at h
          · cases h
          · split at h
            · simp only [Except.ok.injEq, Prod.mk.injEq] at h
              obtain ⟨_, rfl⟩ := h
              exact ⟨by omega, by simpa using h4⟩
            · split at h
              · cases h
              · split at h
                · cases h
                · split at h
                  · cases h
                  · split at h
                    · cases h
                    · split at h
                      · cases h
                      · rename_i m hm
                        have h8 := fourJ_ascii 4 (i + 8) 0 m hm (by omega)
                        split at h
                        · cases h
                        · simp only [Except.ok.injEq, Prod.mk.injEq] at h
                          obtain ⟨_, rfl⟩ := h
                          exact ⟨by omega, by simpa using h8⟩

/-! ### places inside strings -/
theorem no_hit {l : List UInt8} {p : Nat} (h : insideN l p = 0) : ∀ k, 1 ≤ k → k ≤ 3 → ¬ hit l p k := by
  intro k h1 h3 hh
  unfold insideN at h
  unfold hit at hh
  rcases (show k = 1 ∨ k = 2 ∨ k = 3 by omega) with rfl | rfl | rfl
  · rw [if_pos hh] at h; omega
  · split at h
    · omega
    · simp [hh] at h
  · split at h
    · omega
    · split at h
      · omega
      · simp [hh] at h
theorem dec_ascii {l : List UInt8} (h : (l.getD 0 0).toNat < 128) : wid l = 1 := by
  cases l with
  | nil => rfl
  | cons a r =>
    rw [List.getD_cons_zero] at h
    unfold wid
    simp only [dec, if_pos h]
theorem drop_getD (l : List UInt8) (p : Nat) : (l.drop p).getD 0 0 = pk l p := by simp [pk, List.getD_eq_getElem?_getD]
theorem drop_getD' (l : List UInt8) (p k : Nat) : (l.drop p).getD k 0 = pk l (p + k) := by simp [pk, List.getD_eq_getElem?_getD]
theorem cb_ascii {c : UInt8} (h : c.toNat < 128) : cb c = false := by unfold cb; simp; omega
theorem inside_ascii {l : List UInt8} {i : Nat} (h0 : 1 ≤ i) (h : (pk l (i - 1)).toNat < 128) : insideN l i = 0 := by
  refine inside_none (k := 4) (fun k h1 h3 hh => ?_) (.inl (by omega))
  unfold hit at hh
  rcases Nat.lt_or_ge 1 k with hk | hk
  · have := wid_cb (l := l) (p := i - 1) (j := k - 1) (by omega) (by omega) (by rw [show i - 1 - (k - 1) = i - k by omega]; omega)
    rw [cb_ascii h] at this
    cases this
  · obtain rfl : k = 1 := by omega
    rw [dec_ascii (by rw [drop_getD]; exact h)] at hh
    omega
theorem inside_step {l : List UInt8} {j r n : Nat} (hd : dec (l.drop j) = some (r, n)) (h : insideN l j = 0) : insideN l (j + n) = 0 := by
  refine inside_none (k := 4) (fun k h1 h3 hh => ?_) (.inl (by omega))
  unfold hit at hh
  have hw : wid (l.drop j) = n := by unfold wid; rw [hd]
  rcases Nat.lt_trichotomy k n with hk | hk | hk
  · have hc := dec_cb hd (n - k) (by omega) (by omega)
    rw [drop_getD'] at hc
    have hlt : j + (n - k) < l.length := by
      rcases Nat.lt_or_ge (j + (n - k)) l.length with h | h
      · exact h
      · rw [show pk l (j + (n - k)) = 0 by simp [pk, List.getD_eq_getElem?_getD, List.getElem?_eq_none h]] at hc
        exact absurd hc (by decide)
    have hdn : dec (l.drop (j + (n - k))) = none := by
      rw [List.drop_eq_getElem_cons hlt]
      refine dec_cont ?_ _
      simpa [pk, List.getD_eq_getElem?_getD, hlt] using hc
    have : wid (l.drop (j + n - k)) = 1 := by
      rw [show j + n - k = j + (n - k) by omega]
      unfold wid; rw [hdn]
    omega
  · subst hk
    rw [show j + k - k = j by omega] at hh
    omega
  · refine no_hit h (k - n) (by omega) (by omega) ⟨by omega, ?_⟩
    rw [show j - (k - n) = j + n - k by omega]
    omega
/-- a list, an object: blanks ahead change nothing -/
theorem valueJ_skip (l : List UInt8) (k i dp : Nat) (t : List JV) (hk : 0 < k) : valueJ l k (skip l i) dp t = valueJ l k i dp t := by
  obtain ⟨k, rfl⟩ : ∃ m, k = m + 1 := ⟨k - 1, by omega⟩
  rw [valueJ, valueJ]
  simp only [skip_skip]
end Go.Proofs.YtknmbfkpclacgaaGreatDoor
