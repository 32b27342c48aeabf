/- Words for the walks: which blocks of memory may have turned ('Chg'), a list of bytes in memory ('Bs'), the JSON reader's own block ('Rd'). -/
import Derived.Test.YtknmbfkpclacgaaDoorJa
import Derived.Below
import Derived.OneCell
import Derived.Lib.Hide
import Derived.Deep.Draws
import Derived.Laws.BytesArg
namespace Go.Proofs.YtknmbfkpclacgaaDoor
open Go.RowKit

/-- But for the blocks that S names, w' is as w was where w had blocks. -/
structure Chg (S : Nat → Prop) (w w' : World) : Prop where
  os : w'.os = w.os
  tape : w'.tape = w.tape
  output : w'.output = w.output
  size : w.heap.size ≤ w'.heap.size
  block : ∀ k, k < w.heap.size → ¬ S k → w'.heap[k]? = w.heap[k]?

theorem Chg.refl (S : Nat → Prop) (w : World) : Chg S w w := ⟨rfl, rfl, rfl, Nat.le_refl _, fun _ _ _ => rfl⟩
theorem Chg.trans {S : Nat → Prop} {a b c : World} (h : Chg S a b) (k : Chg S b c) : Chg S a c :=
  ⟨k.os.trans h.os, k.tape.trans h.tape, k.output.trans h.output, Nat.le_trans h.size k.size, fun i hi hs => (k.block i (Nat.lt_of_lt_of_le hi h.size) hs).trans (h.block i hi hs)⟩
/-- The second step may turn more, as long as that is new to the first world. -/
theorem Chg.andThen {S T : Nat → Prop} {a b c : World} (h : Chg S a b) (k : Chg T b c) (hT : ∀ i, i < a.heap.size → T i → S i) : Chg S a c :=
  ⟨k.os.trans h.os, k.tape.trans h.tape, k.output.trans h.output, Nat.le_trans h.size k.size, fun i hi hs => (k.block i (Nat.lt_of_lt_of_le hi h.size) (fun ht => hs (hT i hi ht))).trans (h.block i hi hs)⟩
theorem Chg.mono {S T : Nat → Prop} {a b : World} (h : Chg S a b) (hT : ∀ i, i < a.heap.size → S i → T i) : Chg T a b :=
  ⟨h.os, h.tape, h.output, h.size, fun i hi ht => h.block i hi (fun hs => ht (hT i hi hs))⟩
theorem Chg.drew {S : Nat → Prop} {a b : World} (h : Chg S a b) : Chg S a b.drew := ⟨h.os, h.tape, h.output, h.size, h.block⟩
theorem Chg.drewN {S : Nat → Prop} {a b : World} (h : Chg S a b) (n : Nat) : Chg S a (b.drewN n) := ⟨h.os, h.tape, h.output, h.size, h.block⟩
theorem Chg.alloc {S : Nat → Prop} {a b : World} (h : Chg S a b) (o : Obj) : Chg S a (b.alloc o) :=
  h.trans ⟨rfl, rfl, rfl, by simp, fun k hk _ => Below.heap_alloc _ _ _ hk⟩
theorem Chg.setCell {S : Nat → Prop} {a b : World} (h : Chg S a b) {p : Addr} (hp : p.block < a.heap.size → S p.block) (u : Value) : Chg S a (b.setCell p u) :=
  ⟨h.os, h.tape, h.output, by simpa [World.setCell] using h.size, fun k hk hs => by
    rw [Below.heap_setCell _ _ _ _ (fun e => hs (by subst e; exact hp hk))]; exact h.block k hk hs⟩
theorem Chg.below {S : Nat → Prop} {a b : World} (h : Chg S a b) {B : Nat} (hB : B ≤ a.heap.size) (hS : ∀ k, S k → B ≤ k) : Below B a b :=
  ⟨h.os, h.tape, h.output, h.size, fun k hk => h.block k (by omega) (fun hs => by have := hS k hs; omega)⟩
theorem Chg.of_below {S : Nat → Prop} {a b : World} {B : Nat} (h : Below B a b) (hS : ∀ k, k < a.heap.size → B ≤ k → S k) : Chg S a b :=
  ⟨h.os, h.tape, h.output, h.size, fun k hk hs => h.block k (by
    rcases Nat.lt_or_ge k B with h1 | h1
    · exact h1
    · exact absurd (hS k hk h1) hs)⟩
theorem Chg.of_below' {S : Nat → Prop} {a b : World} (h : Below a.heap.size a b) : Chg S a b := Chg.of_below h fun k hk hB => by omega
theorem Chg.grown {S : Nat → Prop} {a b c : World} (h : Chg S a b) {row : Option Nat} (hg : b.grownBy c row) (hr : ∀ k, k < a.heap.size → some k = row → S k) : Chg S a c :=
  ⟨hg.os.trans h.os, hg.tape.trans h.tape, hg.output.trans h.output, Nat.le_trans h.size hg.size, fun k hk hs =>
    (hg.block k (Nat.lt_of_lt_of_le hk h.size) (fun e => hs (hr k hk e))).trans (h.block k hk hs)⟩
theorem Chg.cell {S : Nat → Prop} {a b : World} (h : Chg S a b) {p : Addr} {v : Value} (hc : a.cell? p = some v) (hs : ¬ S p.block) : b.cell? p = some v := by
  rw [← hc]; exact World.cell?_of_block (h.block _ (World.block_lt_of_cell? a p hc) hs)
theorem Chg.obj {S : Nat → Prop} {a b : World} (h : Chg S a b) {k : Nat} {o : Obj} (hc : a.heap[k]? = some o) (hs : ¬ S k) : b.heap[k]? = some o := by
  rw [← hc]; exact h.block k (lt_of_block hc) hs
theorem bl_drew {B : Nat} {w W : World} (h : Below B w W) : Below B w W.drew := ⟨h.os, h.tape, h.output, h.size, h.block⟩
theorem bl_drewN {B : Nat} {w W : World} (h : Below B w W) (n : Nat) : Below B w (W.drewN n) := ⟨h.os, h.tape, h.output, h.size, h.block⟩
/-- No old block has turned. -/
abbrev Same0 (w w' : World) : Prop := Chg (fun _ => False) w w'
theorem Same0.below {a b : World} (h : Same0 a b) : Below a.heap.size a b := ⟨h.os, h.tape, h.output, h.size, fun k hk => h.block k hk id⟩
theorem Same0.of_below {a b : World} (h : Below a.heap.size a b) : Same0 a b := Chg.of_below' h
theorem Chg.same0 {S : Nat → Prop} {a b : World} (h : Same0 a b) : Chg S a b := h.mono fun _ _ hf => hf.elim

theorem addr_add_block (a : Addr) (n : Nat) : (a.add n).block = a.block := by unfold Addr.add; split <;> rfl

/-- A slice of bytes that reads as l; its cells lie below block B. -/
structure Bs (w : World) (B : Nat) (A : Option Addr) (l : List UInt8) : Prop where
  len : l.length ≤ 140737488355328
  cells : 0 < l.length → ∃ b o, A = some ⟨b, o, none⟩ ∧ b < B ∧ ∀ j, j < l.length → w.cell? ⟨b, o + j, none⟩ = some (.int .u8 ((pk l j).toNat : Int))
theorem Bs.keep {w w' : World} {B : Nat} {A : Option Addr} {l : List UInt8} (h : Bs w B A l) (hb : Below B w w') : Bs w' B A l :=
  ⟨h.len, fun hp => by
    obtain ⟨b, o, e, hB, hc⟩ := h.cells hp
    exact ⟨b, o, e, hB, fun j hj => by rw [← hc j hj]; exact hb.cell (p := ⟨b, o + j, none⟩) hB⟩⟩
theorem Bs.mono {w : World} {B B' : Nat} {A : Option Addr} {l : List UInt8} (h : Bs w B A l) (hB : B ≤ B') : Bs w B' A l :=
  ⟨h.len, fun hp => by
    obtain ⟨b, o, e, hb, hc⟩ := h.cells hp
    exact ⟨b, o, e, Nat.lt_of_lt_of_le hb hB, hc⟩⟩
/-- string(b): whatever slice of bytes, read cell by cell. -/
theorem conv_bytes {P : Program} {src e dst : TypeId} (hs : P.underlying src = some (.slice e)) (he : P.underlying e = some (.int .u8)) (hd : P.underlying dst = some .string)
    (w : World) (b o m c : Nat) (l : List UInt8) (hm : l.length = m) (hc : ∀ j, j < m → w.cell? ⟨b, o + j, none⟩ = some (.int .u8 ((pk l j).toNat : Int))) :
    (convert src dst (.slice (some ⟨b, o, none⟩) m c)).run P w = .ok (.string ⟨l.toArray⟩) w := by
  have h := run_convert_bytes_arg (P := P) w src e hs he b o m c (l.map fun x => (x.toNat : Int)) (by simpa using hm) (fun i hi => by
    rw [hc i hi]
    have hi' : i < l.length := by omega
    simp [pk, List.getD_eq_getElem?_getD, List.getElem?_eq_getElem hi']) dst hd
  rw [h]
  congr 3
  simp [strOfNums, List.map_map, Function.comp_def]

theorem Chg.st {rb : Nat} {a b : World} (h : Chg (· = rb) a b) (o : Nat) (u : Value) : Chg (· = rb) a (b.setCell ⟨rb, o, none⟩ u) := h.setCell (fun _ => rfl) u
/-- The reader's block. -/
structure Rd (w : World) (rb : Nat) (bv : Value) (i dp : Nat) (tv : Value) : Prop where
  h : w.heap[rb]? = some (.cells #[bv, .int .i64 i, .int .i64 dp, tv] 54 (0, 0))
section
variable {w : World} {rb : Nat} {bv : Value} {i dp : Nat} {tv : Value}
theorem Rd.c0 (h : Rd w rb bv i dp tv) : w.cell? ⟨rb, 0, none⟩ = some bv := by simp [World.cell?, h.h]
theorem Rd.c1 (h : Rd w rb bv i dp tv) : w.cell? ⟨rb, 1, none⟩ = some (.int .i64 i) := by simp [World.cell?, h.h]
theorem Rd.c2 (h : Rd w rb bv i dp tv) : w.cell? ⟨rb, 2, none⟩ = some (.int .i64 dp) := by simp [World.cell?, h.h]
theorem Rd.c3 (h : Rd w rb bv i dp tv) : w.cell? ⟨rb, 3, none⟩ = some tv := by simp [World.cell?, h.h]
theorem Rd.f (h : Rd w rb bv i dp tv) (k : Nat) : w.frozen? ⟨rb, k, none⟩ = false := by simp [World.frozen?, h.h]
theorem Rd.lt (h : Rd w rb bv i dp tv) : rb < w.heap.size := lt_of_block h.h
theorem Rd.keep {w' : World} {S : Nat → Prop} (h : Rd w rb bv i dp tv) (hc : Chg S w w') (hs : ¬ S rb) : Rd w' rb bv i dp tv := ⟨hc.obj h.h hs⟩
theorem Rd.drewN (h : Rd w rb bv i dp tv) (n : Nat) : Rd (w.drewN n) rb bv i dp tv := ⟨h.h⟩
theorem heap_setCell_same {w : World} {b : Nat} {c : Array Value} {t : TypeId} {fr : Nat × Nat} (h : w.heap[b]? = some (.cells c t fr)) (o : Nat) (u : Value) :
    (w.setCell ⟨b, o, none⟩ u).heap[b]? = some (.cells (c.setIfInBounds o u) t fr) := by
  have hlt := lt_of_block h
  have h' : w.heap[b] = .cells c t fr := by simpa [Array.getElem?_eq_getElem hlt] using h
  show (w.heap.modify b _)[b]? = _
  rw [Array.getElem?_eq_getElem (by simpa using hlt), Array.getElem_modify_self, h']
  rfl
theorem Rd.set1 (h : Rd w rb bv i dp tv) (j : Nat) : Rd (w.setCell ⟨rb, 1, none⟩ (.int .i64 j)) rb bv j dp tv := ⟨by rw [heap_setCell_same h.h]; rfl⟩
theorem Rd.set2 (h : Rd w rb bv i dp tv) (j : Nat) : Rd (w.setCell ⟨rb, 2, none⟩ (.int .i64 j)) rb bv i j tv := ⟨by rw [heap_setCell_same h.h]; rfl⟩
theorem Rd.set3 (h : Rd w rb bv i dp tv) (v : Value) : Rd (w.setCell ⟨rb, 3, none⟩ v) rb bv i dp v := ⟨by rw [heap_setCell_same h.h]; rfl⟩
theorem Bs.rd {w' : World} {B : Nat} {A : Option Addr} {l : List UInt8} (hb : Bs w B A l) (hr : Rd w rb bv i dp tv) (hB : B ≤ rb) (hch : Chg (· = rb) w w') : Bs w' B A l :=
  hb.keep (hch.below (by have := hr.lt; omega) (fun k hk => by omega))
end
end Go.Proofs.YtknmbfkpclacgaaDoor
