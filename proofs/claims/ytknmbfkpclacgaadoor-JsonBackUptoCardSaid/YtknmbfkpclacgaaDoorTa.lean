/- Plain Lean, no program: what json's Valid, Text and Quote compute, as functions over lists of values. -/
import Derived.Test.YtknmbfkpclacgaaDoorJc
namespace Go.Proofs.YtknmbfkpclacgaaDoor

/-- a kind's fields: is all else zero? -/
def usedJ (v : JV) : Bool :=
  let n := v.n != 0
  let x := !v.text.isEmpty
  let k := decide (0 < v.kids.length)
  let m := decide (0 < v.names.length)
  if v.kind = 1 then !v.truth && !n && !x && !k && !m
  else if v.kind = 2 then !n && !x && !k && !m
  else if v.kind = 3 then !v.truth && !x && !k && !m
  else if v.kind = 4 then !v.truth && !n && !k && !m
  else if v.kind = 5 then !v.truth && !n && !x && !m
  else if v.kind = 6 then !v.truth && !n && !x && v.kids.length == v.names.length
  else false
/-- the kids of value i: each ahead of it, none owned yet -/
def kidsGo (i : Nat) : List Int → List Bool → Option (List Bool)
  | [], o => some o
  | k :: ks, o => if k < 0 ∨ (i : Int) ≤ k ∨ o.getD k.toNat false = true then none else kidsGo i ks (o.set k.toNat true)
def shapedGo : Nat → List JV → List Bool → Option (List Bool)
  | _, [], o => some o
  | i, v :: vs, o => if usedJ v then (match kidsGo i v.kids o with
    | none => none
    | some o' => shapedGo (i + 1) vs o') else none
def ownedOk (n : Nat) : Nat → List Bool → Bool
  | _, [] => true
  | i, b :: bs => if b = (i + 1 == n) then false else ownedOk n (i + 1) bs
def shapedJ (t : List JV) : Bool := match shapedGo 0 t (List.replicate t.length false) with
  | none => false
  | some o => ownedOk t.length 0 o && decide (0 < t.length)
/-- how deep each value is -/
def kidsDeep (d : List Nat) : List Int → Nat → Nat
  | [], m => m
  | k :: ks, m => kidsDeep d ks (max m (d.getD k.toNat 0))
def deepGo : List JV → List Nat → List Nat
  | [], d => d
  | v :: vs, d => deepGo vs (d ++ [if v.kind = 5 ∨ v.kind = 6 then kidsDeep d v.kids 0 + 1 else 0])
def deepJ (t : List JV) : Nat := (deepGo t []).getD (t.length - 1) 0
def noDup : List (List UInt8) → Bool
  | [] => true
  | s :: r => !(r.contains s) && noDup r
/-- what is wrong with a tree first -/
def mayJ (t : List JV) : Int :=
  if shapedJ t = false then 240
  else if 64 < deepJ t then 241
  else if t.any (fun v => decide (v.n < -9007199254740991) || decide (9007199254740991 < v.n)) then 242
  else if t.any (fun v => !validL v.text || v.names.any (fun s => !validL s)) then 243
  else if t.any (fun v => !noDup v.names) then 244
  else 0

/-- a string's text -/
def hexd (n : Nat) : UInt8 := if n < 10 then UInt8.ofNat (48 + n) else UInt8.ofNat (87 + n)
def shortJ (c : UInt8) : Option (List UInt8) :=
  if c = 34 then some [92, 34] else if c = 92 then some [92, 92] else if c = 8 then some [92, 98] else if c = 9 then some [92, 116]
  else if c = 10 then some [92, 110] else if c = 12 then some [92, 102] else if c = 13 then some [92, 114] else none
def quoteB (c : UInt8) : List UInt8 := match shortJ c with
  | some e => e
  | none => if c.toNat < 32 then [92, 117, 48, 48, hexd (c.toNat / 16), hexd (c.toNat % 16)] else [c]
def quoteJ (s : List UInt8) : List UInt8 := [34] ++ s.flatMap quoteB ++ [34]
/-- a number's digits -/
def decGo : Nat → Nat → List UInt8
  | 0, n => [UInt8.ofNat (48 + n % 10)]
  | k + 1, n => if n < 10 then [UInt8.ofNat (48 + n)] else decGo k (n / 10) ++ [UInt8.ofNat (48 + n % 10)]
def decJ (n : Int) : List UInt8 := if n < 0 then [45] ++ decGo n.natAbs n.natAbs else decGo n.natAbs n.natAbs
def sepJ (b : Bool) : List UInt8 := if b then [44] else []
/-- a value's text; the first number is fuel -/
def writeJ (t : List JV) : Nat → Nat → List UInt8
  | 0, _ => []
  | f + 1, i =>
    let v := t.getD i jNull
    if v.kind = 1 then [110, 117, 108, 108]
    else if v.kind = 2 then (if v.truth then [116, 114, 117, 101] else [102, 97, 108, 115, 101])
    else if v.kind = 3 then decJ v.n
    else if v.kind = 4 then quoteJ v.text
    else if v.kind = 5 then [91] ++ (v.kids.zipIdx.flatMap fun p => sepJ (0 < p.2) ++ writeJ t f p.1.toNat) ++ [93]
    else if v.kind = 6 then [123] ++ (v.kids.zipIdx.flatMap fun p => sepJ (0 < p.2) ++ quoteJ (v.names.getD p.2 []) ++ [58] ++ writeJ t f p.1.toNat) ++ [125]
    else []
def textOf (t : List JV) : Except Int (List UInt8) := if mayJ t = 0 then .ok (writeJ t t.length (t.length - 1)) else .error (mayJ t)
def getJ (t : List JV) (o : Int) (name : List UInt8) : Int :=
  if mayJ t ≠ 0 ∨ o < 0 ∨ (t.length : Int) ≤ o ∨ (t.getD o.toNat jNull).kind ≠ 6 then -1
  else let v := t.getD o.toNat jNull
    if v.names.idxOf name < v.names.length then v.kids.getD (v.names.idxOf name) 0 else -1
end Go.Proofs.YtknmbfkpclacgaaDoor
