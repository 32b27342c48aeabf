/- Plain Lean, no program: what json.Parse computes, as a function over a list of bytes (the encodings of runes, the reader's small steps, values, lists, objects). -/
namespace Go.Proofs.YtknmbfkpclacgaaDoor

/-! ### Encodings -/
/-- a byte that goes on an encoding -/
def cb (c : UInt8) : Bool := 128 ≤ c.toNat && c.toNat < 192
def validR (r : Nat) : Bool := r < 0xD800 || (0xE000 ≤ r && r ≤ 0x10FFFF)
/-- the encoding with which a list of bytes begins: its rune and how many bytes it has -/
def dec : List UInt8 → Option (Nat × Nat)
  | [] => none
  | a :: r =>
    if a.toNat < 128 then some (a.toNat, 1)
    else match r with
      | [] => none
      | b :: r2 =>
        if cb b = false then none
        else if 0xC2 ≤ a.toNat ∧ a.toNat < 0xE0 then some ((a.toNat % 32) * 64 + b.toNat % 64, 2)
        else match r2 with
          | [] => none
          | c :: r3 =>
            if cb c = false then none
            else if a.toNat / 16 = 14 then
              (if 0x800 ≤ (a.toNat % 16) * 4096 + (b.toNat % 64) * 64 + c.toNat % 64 ∧ validR ((a.toNat % 16) * 4096 + (b.toNat % 64) * 64 + c.toNat % 64) = true then some ((a.toNat % 16) * 4096 + (b.toNat % 64) * 64 + c.toNat % 64, 3) else none)
            else match r3 with
              | [] => none
              | d :: _ =>
                if cb d = false then none
                else if a.toNat / 8 = 30 ∧ 0x10000 ≤ (a.toNat % 8) * 262144 + (b.toNat % 64) * 4096 + (c.toNat % 64) * 64 + d.toNat % 64 ∧ validR ((a.toNat % 8) * 262144 + (b.toNat % 64) * 4096 + (c.toNat % 64) * 64 + d.toNat % 64) = true then
                  some ((a.toNat % 8) * 262144 + (b.toNat % 64) * 4096 + (c.toNat % 64) * 64 + d.toNat % 64, 4)
                else none
def encN (r : Nat) : List UInt8 :=
  if r < 0x80 then [UInt8.ofNat r]
  else if r < 0x800 then [UInt8.ofNat (0xC0 + r / 64), UInt8.ofNat (0x80 + r % 64)]
  else if r < 0x10000 then [UInt8.ofNat (0xE0 + r / 4096), UInt8.ofNat (0x80 + r / 64 % 64), UInt8.ofNat (0x80 + r % 64)]
  else [UInt8.ofNat (0xF0 + r / 262144), UInt8.ofNat (0x80 + r / 4096 % 64), UInt8.ofNat (0x80 + r / 64 % 64), UInt8.ofNat (0x80 + r % 64)]
/-- the step's width -/
def wid (l : List UInt8) : Nat := match dec l with | some (_, n) => n | none => 1
/-- how far ahead of p the encoding begins that goes over it -/
def insideN (l : List UInt8) (p : Nat) : Nat :=
  if 1 ≤ p ∧ 1 < wid (l.drop (p - 1)) then 1
  else if 2 ≤ p ∧ 2 < wid (l.drop (p - 2)) then 2
  else if 3 ≤ p ∧ 3 < wid (l.drop (p - 3)) then 3
  else 0
/-- are all steps whole? -/
def vld : Nat → List UInt8 → Bool
  | 0, l => l.isEmpty
  | k + 1, l => match l with
    | [] => true
    | _ => match dec l with
      | some (_, n) => vld k (l.drop n)
      | none => false
def validL (l : List UInt8) : Bool := vld l.length l

/-! ### Values -/
structure JV where
  kind : Int
  truth : Bool
  n : Int
  text : List UInt8
  kids : List Int
  names : List (List UInt8)
deriving DecidableEq
def jNull : JV := ⟨1, false, 0, [], [], []⟩
def jBool (t : Bool) : JV := ⟨2, t, 0, [], [], []⟩
def jNum (n : Int) : JV := ⟨3, false, n, [], [], []⟩
def jStr (s : List UInt8) : JV := ⟨4, false, 0, s, [], []⟩
def jList (ks : List Int) : JV := ⟨5, false, 0, [], ks, []⟩
def jObj (ks : List Int) (ns : List (List UInt8)) : JV := ⟨6, false, 0, [], ks, ns⟩

/-! ### The reader's steps -/
abbrev Flt := Nat × Int
def pk (l : List UInt8) (i : Nat) : UInt8 := l.getD i 0
def isBl (c : UInt8) : Bool := c == 32 || c == 9 || c == 10 || c == 13
def skipBl : List UInt8 → Nat
  | [] => 0
  | c :: r => if isBl c then skipBl r + 1 else 0
/-- the place behind blanks -/
def skip (l : List UInt8) (i : Nat) : Nat := i + skipBl (l.drop i)
def isDig (c : UInt8) : Bool := 48 ≤ c.toNat && c.toNat ≤ 57
/-- the digits from a place on: the number (it stops growing at 2^53) and the place behind them -/
def digs : List UInt8 → Nat → Nat
  | [], n => n
  | c :: r, n => if isDig c then digs r (min (10 * n + (c.toNat - 48)) 9007199254740992) else n
def nDigs : List UInt8 → Nat
  | [] => 0
  | c :: r => if isDig c then nDigs r + 1 else 0
def numberJ (l : List UInt8) (i : Nat) : Except Flt (Int × Nat) :=
  let below := pk l i == 45
  let f := if below then i + 1 else i
  let n := digs (l.drop f) 0
  let k := nDigs (l.drop f)
  let c := pk l (f + k)
  if k = 0 ∨ (1 < k ∧ pk l f = 48) ∨ (below = true ∧ n = 0) ∨ 9007199254740991 < n ∨ c = 46 ∨ c = 101 ∨ c = 69 then .error (i, 242)
  else .ok (if below then -(n : Int) else (n : Int), f + k)
def wordJ (l : List UInt8) (i : Nat) (w : List UInt8) : Except Flt Nat :=
  if (l.drop i).take w.length = w then .ok (i + w.length) else .error (i, 240)
def takeJ (l : List UInt8) (i : Nat) : Except Flt UInt8 :=
  if i < l.length then .ok (pk l i) else .error (l.length, 240)
def hexv (c : UInt8) : Option Nat :=
  if 48 ≤ c.toNat ∧ c.toNat ≤ 57 then some (c.toNat - 48)
  else if 97 ≤ c.toNat ∧ c.toNat ≤ 102 then some (c.toNat - 97 + 10)
  else if 65 ≤ c.toNat ∧ c.toNat ≤ 70 then some (c.toNat - 65 + 10)
  else none
/-- the number of so many digits of base sixteen -/
def fourJ (l : List UInt8) (begin : Nat) : Nat → Nat → Nat → Except Flt Nat
  | 0, _, n => .ok n
  | k + 1, i, n =>
    match takeJ l i with
    | .error e => .error e
    | .ok c => match hexv c with
      | none => .error (begin, 243)
      | some d => fourJ l begin k (i + 1) (n * 16 + d)
def letter (c : UInt8) : Option Nat :=
  if c = 34 then some 34 else if c = 92 then some 92 else if c = 47 then some 47 else if c = 98 then some 8 else if c = 102 then some 12
  else if c = 110 then some 10 else if c = 114 then some 13 else if c = 116 then some 9 else none
/-- an escape that begins at a place: its rune and the place behind it -/
def escapeJ (l : List UInt8) (i : Nat) : Except Flt (Nat × Nat) :=
  match takeJ l (i + 1) with
  | .error e => .error e
  | .ok c => match letter c with
    | some x => .ok (x, i + 2)
    | none =>
      if c ≠ 117 then .error (i, 243)
      else match fourJ l i 4 (i + 2) 0 with
        | .error e => .error e
        | .ok n =>
          if 0xdc00 ≤ n ∧ n ≤ 0xdfff then .error (i, 243)
          else if n < 0xd800 ∨ 0xdbff < n then .ok (n, i + 6)
          else match takeJ l (i + 6) with
            | .error e => .error e
            | .ok c1 => if c1 ≠ 92 then .error (i, 243)
              else match takeJ l (i + 7) with
                | .error e => .error e
                | .ok c2 => if c2 ≠ 117 then .error (i, 243)
                  else match fourJ l i 4 (i + 8) 0 with
                    | .error e => .error e
                    | .ok m => if m < 0xdc00 ∨ 0xdfff < m then .error (i, 243) else .ok (0x10000 + (n - 0xd800) * 1024 + (m - 0xdc00), i + 12)
/-- a string's inside from a place on; 'out' is what has been read -/
def textGo (l : List UInt8) : Nat → Nat → List UInt8 → Except Flt (List UInt8 × Nat)
  | 0, i, _ => .error (i, -1)
  | k + 1, i, out =>
    if i < l.length then
      (if pk l i = 34 then .ok (out, i + 1)
      else if pk l i = 92 then
        (match escapeJ l i with
        | .error e => .error e
        | .ok (r, j) => textGo l k j (out ++ encN r))
      else if 0 < insideN l i then .error (i, 243)
      else match dec (l.drop i) with
        | none => .error (i, 243)
        | some (r, n) => if r < 32 then .error (i, 243) else textGo l k (i + n) (out ++ (l.drop i).take n))
    else .error (l.length, 240)
def textJ (l : List UInt8) (i : Nat) : Except Flt (List UInt8 × Nat) := textGo l (l.length + 1 - i) (i + 1) []

/-! ### Values, lists, objects -/
mutual
def valueJ (l : List UInt8) : Nat → Nat → Nat → List JV → Except Flt (Nat × Nat × List JV)
  | 0, i, _, _ => .error (i, -1)
  | k + 1, i0, dp, t =>
    let i := skip l i0
    let c := pk l i
    if c = 123 then (if dp = 64 then .error (i, 241) else objectJ l k (i + 1) dp t [] [])
    else if c = 91 then (if dp = 64 then .error (i, 241) else listJ l k (i + 1) dp t [])
    else if c = 34 then (match textJ l i with
      | .error e => .error e
      | .ok (s, j) => .ok (t.length, j, t ++ [jStr s]))
    else if c = 45 ∨ isDig c = true then (match numberJ l i with
      | .error e => .error e
      | .ok (n, j) => .ok (t.length, j, t ++ [jNum n]))
    else if c = 116 then (match wordJ l i [116, 114, 117, 101] with
      | .error e => .error e
      | .ok j => .ok (t.length, j, t ++ [jBool true]))
    else if c = 102 then (match wordJ l i [102, 97, 108, 115, 101] with
      | .error e => .error e
      | .ok j => .ok (t.length, j, t ++ [jBool false]))
    else if c = 110 then (match wordJ l i [110, 117, 108, 108] with
      | .error e => .error e
      | .ok j => .ok (t.length, j, t ++ [jNull]))
    else .error (i, 240)
/-- a list behind its bracket or behind one of its things -/
def listJ (l : List UInt8) : Nat → Nat → Nat → List JV → List Int → Except Flt (Nat × Nat × List JV)
  | 0, i, _, _, _ => .error (i, -1)
  | k + 1, i0, dp, t, ks =>
    let i := skip l i0
    if pk l i = 93 then .ok (t.length, i + 1, t ++ [jList ks])
    else if ks ≠ [] ∧ pk l i ≠ 44 then .error (i, 240)
    else match valueJ l k (if ks = [] then i else i + 1) (dp + 1) t with
      | .error e => .error e
      | .ok (p, j, t') => listJ l k j dp t' (ks ++ [(p : Int)])
def objectJ (l : List UInt8) : Nat → Nat → Nat → List JV → List Int → List (List UInt8) → Except Flt (Nat × Nat × List JV)
  | 0, i, _, _, _, _ => .error (i, -1)
  | k + 1, i0, dp, t, ks, ns =>
    let i := skip l i0
    if pk l i = 125 then .ok (t.length, i + 1, t ++ [jObj ks ns])
    else if ks ≠ [] ∧ pk l i ≠ 44 then .error (i, 240)
    else
      let j := if ks = [] then i else skip l (i + 1)
      if pk l j ≠ 34 then .error (j, 240)
      else match textJ l j with
        | .error e => .error e
        | .ok (s, j2) =>
          if s ∈ ns then .error (j, 244)
          else
            let j3 := skip l j2
            if pk l j3 ≠ 58 then .error (j3, 240)
            else match valueJ l k (j3 + 1) (dp + 1) t with
              | .error e => .error e
              | .ok (p, j4, t') => objectJ l k j4 dp t' (ks ++ [(p : Int)]) (ns ++ [s])
end
/-- json.Parse: the tree, or the place of the fault and its number -/
def parseJ (l : List UInt8) : Except Flt (List JV) :=
  if 268435456 < l.length then .error (268435456, 5)
  else match valueJ l (2 * l.length + 3) 0 0 [] with
    | .error e => .error e
    | .ok (_, j, t) => if skip l j < l.length then .error (skip l j, 240) else .ok t
end Go.Proofs.YtknmbfkpclacgaaDoor
