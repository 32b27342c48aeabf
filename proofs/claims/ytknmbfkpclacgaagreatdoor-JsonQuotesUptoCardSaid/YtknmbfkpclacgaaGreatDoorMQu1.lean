import Derived.Test.YtknmbfkpclacgaaGreatDoorMQu0
import Derived.Below
import Derived.OneCell
import Derived.Lib.Hide
import Derived.Deep.Draws
import Derived.Laws.BytesArg
import Derived.Test.YtknmbfkpclacgaaGreatDoorProg
import Derived.WalkKit
import Derived.Deep.QuietTactic
import Derived.BigQuiet
import Derived.KernelRfl
import Derived.Deep.LoopGhost
import Derived.WalkLawsBesides
/- Plain Lean, no program: what json's Valid, Text and Quote compute, as functions over lists of values. -/
namespace Go.Proofs.YtknmbfkpclacgaaGreatDoor

/-- a kind's fields: is all else zero? -/
def usedJ (v : JV) : Bool :=
  let n := v.n != 0
  let x := !v.text.isEmpty
  let k := decide (0 < v.kids.length)
  let m := decide (0 < v.names.length)
  if v.kind = 1 then !v.truth && !n && !x && !k && !m
  else if v.kind = 2 then !n && !x && !k && !m
  else if v.kind = 3 then !v.truth && !x && !k && !m
  else if v.kind = 4 then !v.truth && !n && !k && !m
  else if v.kind = 5 then !v.truth && !n && !x && !m
  else if v.kind = 6 then !v.truth && !n && !x && v.kids.length == v.names.length
  else false
/-- the kids of value i: each ahead of it, none owned yet -/
def kidsGo (i : Nat) : List Int → List Bool → Option (List Bool)
  | [], o => some o
  | k :: ks, o => if k < 0 ∨ (i : Int) ≤ k ∨ o.getD k.toNat false = true then none else kidsGo i ks (o.set k.toNat true)
def shapedGo : Nat → List JV → List Bool → Option (List Bool)
  | _, [], o => some o
  | i, v :: vs, o => if usedJ v then (match kidsGo i v.kids o with
    | none => none
    | some o' => shapedGo (i + 1) vs o') else none
def ownedOk (n : Nat) : Nat → List Bool → Bool
  | _, [] => true
  | i, b :: bs => if b = (i + 1 == n) then false else ownedOk n (i + 1) bs
def shapedJ (t : List JV) : Bool := match shapedGo 0 t (List.replicate t.length false) with
  | none => false
  | some o => ownedOk t.length 0 o && decide (0 < t.length)
/-- how deep each value is -/
def kidsDeep (d : List Nat) : List Int → Nat → Nat
  | [], m => m
  | k :: ks, m => kidsDeep d ks (max m (d.getD k.toNat 0))
def deepGo : List JV → List Nat → List Nat
  | [], d => d
  | v :: vs, d => deepGo vs (d ++ [if v.kind = 5 ∨ v.kind = 6 then kidsDeep d v.kids 0 + 1 else 0])
def deepJ (t : List JV) : Nat := (deepGo t []).getD (t.length - 1) 0
def noDup : List (List UInt8) → Bool
  | [] => true
  | s :: r => !(r.contains s) && noDup r
/-- what is wrong with a tree first -/
def mayJ (t : List JV) : Int :=
  if shapedJ t = false then 240
  else if 64 < deepJ t then 241
  else if t.any (fun v => decide (v.n < -9007199254740991) || decide (9007199254740991 < v.n)) then 242
  else if t.any (fun v => !validL v.text || v.names.any (fun s => !validL s)) then 243
  else if t.any (fun v => !noDup v.names) then 244
  else 0

/-- a string's text -/
def hexd (n : Nat) : UInt8 := if n < 10 then UInt8.ofNat (48 + n) else UInt8.ofNat (87 + n)
def shortJ (c : UInt8) : Option (List UInt8) :=
  if c = 34 then some [92, 34] else if c = 92 then some [92, 92] else if c = 8 then some [92, 98] else if c = 9 then some [92, 116]
  else if c = 10 then some [92, 110] else if c = 12 then some [92, 102] else if c = 13 then some [92, 114] else none
def quoteB (c : UInt8) : List UInt8 := match shortJ c with
  | some e => e
  | none => if c.toNat < 32 then [92, 117, 48, 48, hexd (c.toNat / 16), hexd (c.toNat % 16)] else [c]
def quoteJ (s : List UInt8) : List UInt8 := [34] ++ s.flatMap quoteB ++ [34]
/-- a number's digits -/
def decGo : Nat → Nat → List UInt8
  | 0, n => [UInt8.ofNat (48 + n % 10)]
  | k + 1, n => if n < 10 then [UInt8.ofNat (48 + n)] else decGo k (n / 10) ++ [UInt8.ofNat (48 + n % 10)]
def decJ (n : Int) : List UInt8 := if n < 0 then [45] ++ decGo n.natAbs n.natAbs else decGo n.natAbs n.natAbs
def sepJ (b : Bool) : List UInt8 := if b then [44] else []
/-- a value's text; the first number is fuel -/
def writeJ (t : List JV) : Nat → Nat → List UInt8
  | 0, _ => []
  | f + 1, i =>
    let v := t.getD i jNull
    if v.kind = 1 then [110, 117, 108, 108]
    else if v.kind = 2 then (if v.truth then [116, 114, 117, 101] else [102, 97, 108, 115, 101])
    else if v.kind = 3 then decJ v.n
    else if v.kind = 4 then quoteJ v.text
    else if v.kind = 5 then [91] ++ (v.kids.zipIdx.flatMap fun p => sepJ (0 < p.2) ++ writeJ t f p.1.toNat) ++ [93]
    else if v.kind = 6 then [123] ++ (v.kids.zipIdx.flatMap fun p => sepJ (0 < p.2) ++ quoteJ (v.names.getD p.2 []) ++ [58] ++ writeJ t f p.1.toNat) ++ [125]
    else []
def textOf (t : List JV) : Except Int (List UInt8) := if mayJ t = 0 then .ok (writeJ t t.length (t.length - 1)) else .error (mayJ t)
def getJ (t : List JV) (o : Int) (name : List UInt8) : Int :=
  if mayJ t ≠ 0 ∨ o < 0 ∨ (t.length : Int) ≤ o ∨ (t.getD o.toNat jNull).kind ≠ 6 then -1
  else let v := t.getD o.toNat jNull
    if v.names.idxOf name < v.names.length then v.kids.getD (v.names.idxOf name) 0 else -1
end Go.Proofs.YtknmbfkpclacgaaGreatDoor

/- Words for the walks: which blocks of memory may have turned ('Chg'), a list of bytes in memory ('Bs'), the JSON reader's own block ('Rd'). -/
namespace Go.Proofs.YtknmbfkpclacgaaGreatDoor
open Go.RowKit

/-- But for the blocks that S names, w' is as w was where w had blocks. -/
structure Chg (S : Nat → Prop) (w w' : World) : Prop where
  os : w'.os = w.os
  tape : w'.tape = w.tape
  output : w'.output = w.output
  size : w.heap.size ≤ w'.heap.size
  block : ∀ k, k < w.heap.size → ¬ S k → w'.heap[k]? = w.heap[k]?

theorem Chg.refl (S : Nat → Prop) (w : World) : Chg S w w := ⟨rfl, rfl, rfl, Nat.le_refl _, fun _ _ _ => rfl⟩
theorem Chg.trans {S : Nat → Prop} {a b c : World} (h : Chg S a b) (k : Chg S b c) : Chg S a c :=
  ⟨k.os.trans h.os, k.tape.trans h.tape, k.output.trans h.output, Nat.le_trans h.size k.size, fun i hi hs => (k.block i (Nat.lt_of_lt_of_le hi h.size) hs).trans (h.block i hi hs)⟩
/-- The second step may turn more, as long as that is new to the first world. -/
theorem Chg.andThen {S T : Nat → Prop} {a b c : World} (h : Chg S a b) (k : Chg T b c) (hT : ∀ i, i < a.heap.size → T i → S i) : Chg S a c :=
  ⟨k.os.trans h.os, k.tape.trans h.tape, k.output.trans h.output, Nat.le_trans h.size k.size, fun i hi hs => (k.block i (Nat.lt_of_lt_of_le hi h.size) (fun ht => hs (hT i hi ht))).trans (h.block i hi hs)⟩
theorem Chg.mono {S T : Nat → Prop} {a b : World} (h : Chg S a b) (hT : ∀ i, i < a.heap.size → S i → T i) : Chg T a b :=
  ⟨h.os, h.tape, h.output, h.size, fun i hi ht => h.block i hi (fun hs => ht (hT i hi hs))⟩
theorem Chg.drew {S : Nat → Prop} {a b : World} (h : Chg S a b) : Chg S a b.drew := ⟨h.os, h.tape, h.output, h.size, h.block⟩
theorem Chg.drewN {S : Nat → Prop} {a b : World} (h : Chg S a b) (n : Nat) : Chg S a (b.drewN n) := ⟨h.os, h.tape, h.output, h.size, h.block⟩
theorem Chg.alloc {S : Nat → Prop} {a b : World} (h : Chg S a b) (o : Obj) : Chg S a (b.alloc o) :=
  h.trans ⟨rfl, rfl, rfl, by simp, fun k hk _ => Below.heap_alloc _ _ _ hk⟩
theorem Chg.setCell {S : Nat → Prop} {a b : World} (h : Chg S a b) {p : Addr} (hp : p.block < a.heap.size → S p.block) (u : Value) : Chg S a (b.setCell p u) :=
  ⟨h.os, h.tape, h.output, by simpa [World.setCell] using h.size, fun k hk hs => by
    rw [Below.heap_setCell _ _ _ _ (fun e => hs (by subst e; exact hp hk))]; exact h.block k hk hs⟩
theorem Chg.below {S : Nat → Prop} {a b : World} (h : Chg S a b) {B : Nat} (hB : B ≤ a.heap.size) (hS : ∀ k, S k → B ≤ k) : Below B a b :=
  ⟨h.os, h.tape, h.output, h.size, fun k hk => h.block k (by omega) (fun hs => by have := hS k hs; omega)⟩
theorem Chg.of_below {S : Nat → Prop} {a b : World} {B : Nat} (h : Below B a b) (hS : ∀ k, k < a.heap.size → B ≤ k → S k) : Chg S a b :=
  ⟨h.os, h.tape, h.output, h.size, fun k hk hs => h.block k (by
    rcases Nat.lt_or_ge k B with h1 | h1
    · exact h1
    · exact absurd (hS k hk h1) hs)⟩
theorem Chg.of_below' {S : Nat → Prop} {a b : World} (h : Below a.heap.size a b) : Chg S a b := Chg.of_below h fun k hk hB => by omega
theorem Chg.grown {S : Nat → Prop} {a b c : World} (h : Chg S a b) {row : Option Nat} (hg : b.grownBy c row) (hr : ∀ k, k < a.heap.size → some k = row → S k) : Chg S a c :=
  ⟨hg.os.trans h.os, hg.tape.trans h.tape, hg.output.trans h.output, Nat.le_trans h.size hg.size, fun k hk hs =>
    (hg.block k (Nat.lt_of_lt_of_le hk h.size) (fun e => hs (hr k hk e))).trans (h.block k hk hs)⟩
theorem Chg.cell {S : Nat → Prop} {a b : World} (h : Chg S a b) {p : Addr} {v : Value} (hc : a.cell? p = some v) (hs : ¬ S p.block) : b.cell? p = some v := by
  rw [← hc]; exact World.cell?_of_block (h.block _ (World.block_lt_of_cell? a p hc) hs)
theorem Chg.obj {S : Nat → Prop} {a b : World} (h : Chg S a b) {k : Nat} {o : Obj} (hc : a.heap[k]? = some o) (hs : ¬ S k) : b.heap[k]? = some o := by
  rw [← hc]; exact h.block k (lt_of_block hc) hs
theorem bl_drew {B : Nat} {w W : World} (h : Below B w W) : Below B w W.drew := ⟨h.os, h.tape, h.output, h.size, h.block⟩
theorem bl_drewN {B : Nat} {w W : World} (h : Below B w W) (n : Nat) : Below B w (W.drewN n) := ⟨h.os, h.tape, h.output, h.size, h.block⟩
/-- No old block has turned. -/
abbrev Same0 (w w' : World) : Prop := Chg (fun _ => False) w w'
theorem Same0.below {a b : World} (h : Same0 a b) : Below a.heap.size a b := ⟨h.os, h.tape, h.output, h.size, fun k hk => h.block k hk id⟩
theorem Same0.of_below {a b : World} (h : Below a.heap.size a b) : Same0 a b := Chg.of_below' h
theorem Chg.same0 {S : Nat → Prop} {a b : World} (h : Same0 a b) : Chg S a b := h.mono fun _ _ hf => hf.elim

theorem addr_add_block (a : Addr) (n : Nat) : (a.add n).block = a.block := by unfold Addr.add; split <;> rfl

/-- A slice of bytes that reads as l; its cells lie below block B. -/
structure Bs (w : World) (B : Nat) (A : Option Addr) (l : List UInt8) : Prop where
  len : l.length ≤ 140737488355328
  cells : 0 < l.length → ∃ b o, A = some ⟨b, o, none⟩ ∧ b < B ∧ ∀ j, j < l.length → w.cell? ⟨b, o + j, none⟩ = some (.int .u8 ((pk l j).toNat : Int))
theorem Bs.keep {w w' : World} {B : Nat} {A : Option Addr} {l : List UInt8} (h : Bs w B A l) (hb : Below B w w') : Bs w' B A l :=
  ⟨h.len, fun hp => by
    obtain ⟨b, o, e, hB, hc⟩ := h.cells hp
    exact ⟨b, o, e, hB, fun j hj => by rw [← hc j hj]; exact hb.cell (p := ⟨b, o + j, none⟩) hB⟩⟩
theorem Bs.mono {w : World} {B B' : Nat} {A : Option Addr} {l : List UInt8} (h : Bs w B A l) (hB : B ≤ B') : Bs w B' A l :=
  ⟨h.len, fun hp => by
    obtain ⟨b, o, e, hb, hc⟩ := h.cells hp
    exact ⟨b, o, e, Nat.lt_of_lt_of_le hb hB, hc⟩⟩
/-- string(b): whatever slice of bytes, read cell by cell. -/
theorem conv_bytes {P : Program} {src e dst : TypeId} (hs : P.underlying src = some (.slice e)) (he : P.underlying e = some (.int .u8)) (hd : P.underlying dst = some .string)
    (w : World) (b o m c : Nat) (l : List UInt8) (hm : l.length = m) (hc : ∀ j, j < m → w.cell? ⟨b, o + j, none⟩ = some (.int .u8 ((pk l j).toNat : Int))) :
    (convert src dst (.slice (some ⟨b, o, none⟩) m c)).run P w = .ok (.string ⟨l.toArray⟩) w := by
  have h := run_convert_bytes_arg (P := P) w src e hs he b o m c (l.map fun x => (x.toNat : Int)) (by simpa using hm) (fun i hi => by
    rw [hc i hi]
    have hi' : i < l.length := by omega
    simp [pk, List.getD_eq_getElem?_getD, List.getElem?_eq_getElem hi']) dst hd
  rw [h]
  congr 3
  simp [strOfNums, List.map_map, Function.comp_def]

theorem Chg.st {rb : Nat} {a b : World} (h : Chg (· = rb) a b) (o : Nat) (u : Value) : Chg (· = rb) a (b.setCell ⟨rb, o, none⟩ u) := h.setCell (fun _ => rfl) u
/-- The reader's block. -/
structure Rd (w : World) (rb : Nat) (bv : Value) (i dp : Nat) (tv : Value) : Prop where
  h : w.heap[rb]? = some (.cells #[bv, .int .i64 i, .int .i64 dp, tv] 95 (0, 0))
section
variable {w : World} {rb : Nat} {bv : Value} {i dp : Nat} {tv : Value}
theorem Rd.c0 (h : Rd w rb bv i dp tv) : w.cell? ⟨rb, 0, none⟩ = some bv := by simp [World.cell?, h.h]
theorem Rd.c1 (h : Rd w rb bv i dp tv) : w.cell? ⟨rb, 1, none⟩ = some (.int .i64 i) := by simp [World.cell?, h.h]
theorem Rd.c2 (h : Rd w rb bv i dp tv) : w.cell? ⟨rb, 2, none⟩ = some (.int .i64 dp) := by simp [World.cell?, h.h]
theorem Rd.c3 (h : Rd w rb bv i dp tv) : w.cell? ⟨rb, 3, none⟩ = some tv := by simp [World.cell?, h.h]
theorem Rd.f (h : Rd w rb bv i dp tv) (k : Nat) : w.frozen? ⟨rb, k, none⟩ = false := by simp [World.frozen?, h.h]
theorem Rd.lt (h : Rd w rb bv i dp tv) : rb < w.heap.size := lt_of_block h.h
theorem Rd.keep {w' : World} {S : Nat → Prop} (h : Rd w rb bv i dp tv) (hc : Chg S w w') (hs : ¬ S rb) : Rd w' rb bv i dp tv := ⟨hc.obj h.h hs⟩
theorem Rd.drewN (h : Rd w rb bv i dp tv) (n : Nat) : Rd (w.drewN n) rb bv i dp tv := ⟨h.h⟩
theorem heap_setCell_same {w : World} {b : Nat} {c : Array Value} {t : TypeId} {fr : Nat × Nat} (h : w.heap[b]? = some (.cells c t fr)) (o : Nat) (u : Value) :
    (w.setCell ⟨b, o, none⟩ u).heap[b]? = some (.cells (c.setIfInBounds o u) t fr) := by
  have hlt := lt_of_block h
  have h' : w.heap[b] = .cells c t fr := by simpa [Array.getElem?_eq_getElem hlt] using h
  show (w.heap.modify b _)[b]? = _
  rw [Array.getElem?_eq_getElem (by simpa using hlt), Array.getElem_modify_self, h']
  rfl
theorem Rd.set1 (h : Rd w rb bv i dp tv) (j : Nat) : Rd (w.setCell ⟨rb, 1, none⟩ (.int .i64 j)) rb bv j dp tv := ⟨by rw [heap_setCell_same h.h]; rfl⟩
theorem Rd.set2 (h : Rd w rb bv i dp tv) (j : Nat) : Rd (w.setCell ⟨rb, 2, none⟩ (.int .i64 j)) rb bv i j tv := ⟨by rw [heap_setCell_same h.h]; rfl⟩
theorem Rd.set3 (h : Rd w rb bv i dp tv) (v : Value) : Rd (w.setCell ⟨rb, 3, none⟩ v) rb bv i dp v := ⟨by rw [heap_setCell_same h.h]; rfl⟩
theorem Bs.rd {w' : World} {B : Nat} {A : Option Addr} {l : List UInt8} (hb : Bs w B A l) (hr : Rd w rb bv i dp tv) (hB : B ≤ rb) (hch : Chg (· = rb) w w') : Bs w' B A l :=
  hb.keep (hch.below (by have := hr.lt; omega) (fun k hk => by omega))
end
end Go.Proofs.YtknmbfkpclacgaaGreatDoor

/- The JSON reader's small methods: what each does to the reader's block. -/
namespace Go.Proofs.YtknmbfkpclacgaaGreatDoor
open Go.RowKit

/-- The value with which the reader gives up. -/
def fltV (i : Nat) (e : Int) : Value := .iface 91 (.agg #[.int .i64 i, .int .i64 e])
/-- The call ends in the reader's own panic. -/
def NoEnd (i : Nat) (e : Int) (x : Ending) : Prop := x = .panicked [{ v := fltV i e, recovered := false }]

theorem no_any (rp : Option Addr) (i : Nat) (e : Int) (w : World) :
    Calls Tryz.prog 51 #[.pointer rp, .int .i64 i, .int .i64 e] w fun x w' => NoEnd i e x ∧ w' = w := by
  go_enter Tryz.func51, Tryz.ntmps51
  go_wp2
  exact ⟨rfl, rfl, rfl⟩

/-! ### The plain steps -/
theorem skip_stay (l : List UInt8) (i : Nat) (h : ¬ (i < l.length ∧ isBl (pk l i) = true)) : skip l i = i := by
  unfold skip
  by_cases hi : i < l.length
  · have hb : isBl (pk l i) = false := by simpa [hi] using h
    rw [List.drop_eq_getElem_cons hi]
    simp only [pk, List.getD_eq_getElem?_getD, List.getElem?_eq_getElem hi, Option.getD_some] at hb
    simp [skipBl, hb]
  · rw [List.drop_eq_nil_of_le (by omega)]; simp [skipBl]
theorem skip_step (l : List UInt8) (i : Nat) (hi : i < l.length) (hb : isBl (pk l i) = true) : skip l i = skip l (i + 1) := by
  unfold skip
  rw [List.drop_eq_getElem_cons hi]
  simp only [pk, List.getD_eq_getElem?_getD, List.getElem?_eq_getElem hi, Option.getD_some] at hb
  simp [skipBl, hb]; omega
theorem pk_range (l : List UInt8) (i : Nat) : 0 ≤ ((pk l i).toNat : Int) ∧ ((pk l i).toNat : Int) < 256 := by have := (pk l i).toNat_lt; omega
theorem pk_out (l : List UInt8) (i : Nat) (h : ¬ i < l.length) : pk l i = 0 := by simp [pk, List.getD_eq_getElem?_getD, List.getElem?_eq_none (show l.length ≤ i by omega)]
theorem u8_eq (c : UInt8) (n : Nat) (hn : n < 256) : (((c.toNat : Int) == (n : Int)) = true) ↔ c = UInt8.ofNat n := by
  rw [beq_iff_eq]
  constructor
  · intro h
    apply UInt8.toNat_inj.1
    rw [UInt8.toNat_ofNat']; omega
  · intro h; subst h; rw [UInt8.toNat_ofNat']; omega

theorem isBl_of (c : UInt8) (h : ((c.toNat : Int) == 32) = true ∨ ((c.toNat : Int) == 9) = true ∨ ((c.toNat : Int) == 10) = true ∨ ((c.toNat : Int) == 13) = true) : isBl c = true := by
  simp only [isBl, Bool.or_eq_true, beq_iff_eq]
  rcases h with h | h | h | h
  · exact .inl (.inl (.inl ((u8_eq c 32 (by omega)).1 h)))
  · exact .inl (.inl (.inr ((u8_eq c 9 (by omega)).1 h)))
  · exact .inl (.inr ((u8_eq c 10 (by omega)).1 h))
  · exact .inr ((u8_eq c 13 (by omega)).1 h)
theorem isBl_not (c : UInt8) (h1 : ((c.toNat : Int) == 32) = false) (h2 : ((c.toNat : Int) == 9) = false) (h3 : ((c.toNat : Int) == 10) = false) (h4 : ((c.toNat : Int) == 13) = false) : ¬ isBl c = true := by
  intro h
  simp only [isBl, Bool.or_eq_true, beq_iff_eq] at h
  rcases h with ((h | h) | h) | h <;> subst h <;> simp at h1 h2 h3 h4

set_option maxHeartbeats 1000000 in
theorem blanks_any (rb : Nat) (A : Option Addr) (cap : Nat) (tv : Value) (l : List UInt8) (i dp : Nat) (B : Nat) (w : World) (hB : B ≤ rb)
   (hr : Rd w rb (.slice A l.length cap) i dp tv) (hb : Bs w B A l) :
    Calls Tryz.prog 50 #[.pointer (some ⟨rb, 0, none⟩)] w fun e w' => e = .returned (.tuple #[]) ∧ Rd w' rb (.slice A l.length cap) (skip l i) dp tv ∧ Chg (· = rb) w w' := by
  go_enter Tryz.func50, Tryz.ntmps50
  go_wp2_with fail
  go_loopg [] (l.length - i + 1) (fun g wr => ∃ j, Rd wr rb (.slice A l.length cap) j dp tv ∧ Chg (· = rb) w wr ∧ skip l j = skip l i ∧ l.length - j + 1 = g)
  case atStart => exact ⟨i, hr, Chg.refl _ _, rfl, rfl⟩
  case round =>
   obtain ⟨j, hr', hch, hsk, hg⟩ := hrel
   have HS := Lib.hid hsk
   have HG := Lib.hid hg
   clear hsk hg
   have hb' := hb.rd hr hB hch
   have c0 := hr'.c0
   have c1 := hr'.c1
   have f1 := hr'.f 1
   have hln := hb.len
   by_cases hlt : j < l.length
   · obtain ⟨b, o, rfl, hne, hc⟩ := hb'.cells (by omega)
     have ci := hc j hlt
     have hpr := pk_range l j
     clear hc
     go_wp2_with fail
     go_quiet (fail)
     go_wp2_with fail
     go_quiet (fail)
     go_wp2_with fail
     all_goals first
       | (refine bodyPost_ret (results_none rfl _ _ _) rfl ?_
          refine ⟨rfl, ?_, (hch.drewN _)⟩
          rw [← HS.out, skip_stay l j (fun h => isBl_not _ ‹_› ‹_› ‹_› ‹_› h.2)]
          exact hr'.drewN _)
       | (go_roundg (l.length - (j + 1) + 1)
          case measure => rw [← HG.out]; omega
          case rel =>
            refine ⟨j + 1, (hr'.drewN _).set1 (j + 1), (hch.drewN _).setCell (fun _ => rfl) _, ?_, rfl⟩
            rw [← HS.out]
            refine (skip_step l j hlt (isBl_of _ ?_)).symm
            simp [*])
   · go_wp2_with fail
     go_quiet (fail)
     go_wp2_with fail
     go_end0
     refine ⟨rfl, ?_, hch.drewN _⟩
     rw [← HS.out, skip_stay l j (fun h => hlt h.1)]
     exact hr'.drewN _

def Drawn (w w' : World) : Prop := ∃ n, w' = w.drewN n
theorem Drawn.refl (w : World) : Drawn w w := ⟨0, rfl⟩
theorem Drawn.step {w w1 : World} (h : Drawn w w1) (n : Nat) : Drawn w (w1.drewN n) := by obtain ⟨m, rfl⟩ := h; exact ⟨m + n, World.drewN_drewN ..⟩
theorem Drawn.trans {w w1 w2 : World} (h : Drawn w w1) (k : Drawn w1 w2) : Drawn w w2 := by obtain ⟨m, rfl⟩ := k; exact h.step m
theorem Drawn.rd {w w' : World} {rb : Nat} {bv : Value} {i dp : Nat} {tv : Value} (h : Drawn w w') (hr : Rd w rb bv i dp tv) : Rd w' rb bv i dp tv := by obtain ⟨n, rfl⟩ := h; exact hr.drewN n
theorem Drawn.bs {w w' : World} {B : Nat} {A : Option Addr} {l : List UInt8} (h : Drawn w w') (hb : Bs w B A l) : Bs w' B A l := by obtain ⟨n, rfl⟩ := h; exact ⟨hb.len, hb.cells⟩
theorem Drawn.chg {S : Nat → Prop} {w w' : World} (h : Drawn w w') : Chg S w w' := by obtain ⟨n, rfl⟩ := h; exact (Chg.refl _ _).drewN n

set_option maxHeartbeats 1000000 in
theorem peek_any (rb : Nat) (A : Option Addr) (cap : Nat) (tv : Value) (l : List UInt8) (i dp : Nat) (B : Nat) (w : World)
   (hr : Rd w rb (.slice A l.length cap) i dp tv) (hb : Bs w B A l) :
    Calls Tryz.prog 106 #[.pointer (some ⟨rb, 0, none⟩)] w fun e w' => e = .returned (.int .u8 ((pk l i).toNat : Int)) ∧ Drawn w w' := by
  have c0 := hr.c0
  have c1 := hr.c1
  have hln := hb.len
  by_cases hlt : i < l.length
  · obtain ⟨b, o, rfl, hne, hc⟩ := hb.cells (by omega)
    have ci := hc i hlt
    have hpr := pk_range l i
    clear hc
    go_enter Tryz.func106, Tryz.ntmps106
    go_wp2_with fail
    go_quiet (fail)
    go_wp2_with fail
    go_quiet (fail)
    go_wp2_with fail
    go_ret
    exact ⟨rfl, by repeat (first | exact Drawn.refl _ | apply Drawn.step)⟩
  · go_enter Tryz.func106, Tryz.ntmps106
    go_wp2_with fail
    go_quiet (fail)
    go_wp2_with fail
    go_ret
    exact ⟨by rw [pk_out l i hlt]; rfl, by repeat (first | exact Drawn.refl _ | apply Drawn.step)⟩

theorem pk_lt (l : List UInt8) (i : Nat) (c : UInt8) (hc0 : c ≠ 0) (h : pk l i = c) : i < l.length := by
  rcases Nat.lt_or_ge i l.length with h' | h'
  · exact h'
  · exact absurd ((pk_out l _ (by omega)).symm.trans h).symm hc0
set_option maxHeartbeats 1000000 in
theorem next_yes (rb : Nat) (A : Option Addr) (cap : Nat) (tv : Value) (l : List UInt8) (i dp : Nat) (B : Nat) (c : UInt8) (w : World) (hB : B ≤ rb) (hc0 : c ≠ 0)
   (hr : Rd w rb (.slice A l.length cap) i dp tv) (hb : Bs w B A l) (h : pk l (skip l i) = c) :
    Calls Tryz.prog 173 #[.pointer (some ⟨rb, 0, none⟩), .int .u8 (c.toNat : Int)] w fun e w' =>
      e = .returned (.bool true) ∧ Rd w' rb (.slice A l.length cap) (skip l i + 1) dp tv ∧ Chg (· = rb) w w' := by
  have hln := hb.len
  have hlt := pk_lt l _ c hc0 h
  have t1 : (((pk l (skip l i)).toNat : Int) != (c.toNat : Int)) = false := by simp [h]
  clear h
  go_enter Tryz.func173, Tryz.ntmps173
  go_wp2_with fail
  refine (blanks_any rb A cap tv l i dp B _ hB hr hb).mono ?_
  rintro e w1 ⟨rfl, hr1, hch1⟩
  have hb1 := hb.rd hr hB hch1
  go_wp2_with fail
  refine (peek_any rb A cap tv l (skip l i) dp B _ hr1 hb1).mono ?_
  rintro e w2 ⟨rfl, hd⟩
  have hr2 := hd.rd hr1
  have hch2 : Chg (· = rb) w w2 := hch1.trans hd.chg
  have c1 := hr2.c1
  have f1 := hr2.f 1
  go_wp2_with fail
  go_ret
  exact ⟨rfl, hr2.set1 (skip l i + 1), hch2.setCell (fun _ => rfl) _⟩
set_option maxHeartbeats 1000000 in
theorem next_no (rb : Nat) (A : Option Addr) (cap : Nat) (tv : Value) (l : List UInt8) (i dp : Nat) (B : Nat) (c : UInt8) (w : World) (hB : B ≤ rb)
   (hr : Rd w rb (.slice A l.length cap) i dp tv) (hb : Bs w B A l) (h : pk l (skip l i) ≠ c) :
    Calls Tryz.prog 173 #[.pointer (some ⟨rb, 0, none⟩), .int .u8 (c.toNat : Int)] w fun e w' =>
      e = .returned (.bool false) ∧ Rd w' rb (.slice A l.length cap) (skip l i) dp tv ∧ Chg (· = rb) w w' := by
  have t1 : (((pk l (skip l i)).toNat : Int) != (c.toNat : Int)) = true := by
    rw [bne_iff_ne]; intro h'; exact h (UInt8.toNat_inj.1 (by omega))
  clear h
  go_enter Tryz.func173, Tryz.ntmps173
  go_wp2_with fail
  refine (blanks_any rb A cap tv l i dp B _ hB hr hb).mono ?_
  rintro e w1 ⟨rfl, hr1, hch1⟩
  have hb1 := hb.rd hr hB hch1
  go_wp2_with fail
  refine (peek_any rb A cap tv l (skip l i) dp B _ hr1 hb1).mono ?_
  rintro e w2 ⟨rfl, hd⟩
  have hr2 := hd.rd hr1
  have hch2 : Chg (· = rb) w w2 := hch1.trans hd.chg
  go_wp2_with fail
  go_ret
  exact ⟨rfl, hr2, hch2⟩

set_option maxHeartbeats 1000000 in
theorem want_yes (rb : Nat) (A : Option Addr) (cap : Nat) (tv : Value) (l : List UInt8) (i dp : Nat) (B : Nat) (c : UInt8) (w : World) (hB : B ≤ rb) (hc0 : c ≠ 0)
   (hr : Rd w rb (.slice A l.length cap) i dp tv) (hb : Bs w B A l) (h : pk l (skip l i) = c) :
    Calls Tryz.prog 174 #[.pointer (some ⟨rb, 0, none⟩), .int .u8 (c.toNat : Int)] w fun e w' =>
      e = .returned (.tuple #[]) ∧ Rd w' rb (.slice A l.length cap) (skip l i + 1) dp tv ∧ Chg (· = rb) w w' := by
  have H := Lib.hid h
  clear h
  go_enter Tryz.func174, Tryz.ntmps174
  go_wp2_with fail
  refine (next_yes rb A cap tv l i dp B c _ hB hc0 hr hb H.out).mono ?_
  rintro e w1 ⟨rfl, hr1, hch1⟩
  go_wp2_with fail
  go_end0
  exact ⟨rfl, hr1, hch1⟩

set_option maxHeartbeats 1000000 in
theorem want_no (rb : Nat) (A : Option Addr) (cap : Nat) (tv : Value) (l : List UInt8) (i dp : Nat) (B : Nat) (c : UInt8) (w : World) (hB : B ≤ rb)
   (hr : Rd w rb (.slice A l.length cap) i dp tv) (hb : Bs w B A l) (h : pk l (skip l i) ≠ c) :
    Calls Tryz.prog 174 #[.pointer (some ⟨rb, 0, none⟩), .int .u8 (c.toNat : Int)] w fun e w' =>
      NoEnd (skip l i) 240 e ∧ Chg (· = rb) w w' := by
  have H := Lib.hid h
  clear h
  go_enter Tryz.func174, Tryz.ntmps174
  go_wp2_with fail
  refine (next_no rb A cap tv l i dp B c _ hB hr hb H.out).mono ?_
  rintro e w1 ⟨rfl, hr1, hch1⟩
  have c1 := hr1.c1
  go_wp2_with fail
  refine (no_any _ _ _ _).mono ?_
  rintro e w2 ⟨rfl, rfl⟩
  exact ⟨rfl, rfl, hch1⟩

set_option maxHeartbeats 1000000 in
theorem digit_any (rb : Nat) (A : Option Addr) (cap : Nat) (tv : Value) (l : List UInt8) (i dp : Nat) (B : Nat) (w : World)
   (hr : Rd w rb (.slice A l.length cap) i dp tv) (hb : Bs w B A l) :
    Calls Tryz.prog 177 #[.pointer (some ⟨rb, 0, none⟩)] w fun e w' => e = .returned (.bool (isDig (pk l i))) ∧ Drawn w w' := by
  have hpr := pk_range l i
  by_cases h1 : 48 ≤ (pk l i).toNat
  · have h1' : (48 : Int) ≤ ((pk l i).toNat : Int) := by omega
    have hf : isDig (pk l i) = decide (((pk l i).toNat : Int) ≤ 57) := by simp [isDig, h1]; omega
    have HF := Lib.hid hf
    clear hf
    go_enter Tryz.func177, Tryz.ntmps177
    go_wp2_with fail
    refine (peek_any rb A cap tv l i dp B _ hr hb).mono ?_
    rintro e w1 ⟨rfl, n1, rfl⟩
    go_wp2_with fail
    refine (peek_any rb A cap tv l i dp B _ (hr.drewN _) (Drawn.bs ⟨n1, rfl⟩ hb)).mono ?_
    rintro e w1 ⟨rfl, n2, rfl⟩
    go_wp2_with fail
    go_ret
    exact ⟨congrArg (fun b => Ending.returned (.bool b)) HF.out.symm, by repeat (first | exact Drawn.refl _ | apply Drawn.step)⟩
  · have h1' : ¬ (48 : Int) ≤ ((pk l i).toNat : Int) := by omega
    have hf : isDig (pk l i) = false := by simp [isDig]; omega
    have HF := Lib.hid hf
    clear hf
    go_enter Tryz.func177, Tryz.ntmps177
    go_wp2_with fail
    refine (peek_any rb A cap tv l i dp B _ hr hb).mono ?_
    rintro e w1 ⟨rfl, n1, rfl⟩
    go_wp2_with fail
    go_ret
    exact ⟨congrArg (fun b => Ending.returned (.bool b)) HF.out.symm, by repeat (first | exact Drawn.refl _ | apply Drawn.step)⟩
end Go.Proofs.YtknmbfkpclacgaaGreatDoor
