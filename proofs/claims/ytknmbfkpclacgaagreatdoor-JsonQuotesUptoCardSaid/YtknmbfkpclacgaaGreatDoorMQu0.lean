import GoSem.Core.Utf8
import Derived.Lib.RuneBytes
/- Plain Lean, no program: what json.Parse computes, as a function over a list of bytes (the encodings of runes, the reader's small steps, values, lists, objects). -/
namespace Go.Proofs.YtknmbfkpclacgaaGreatDoor

/-! ### Encodings -/
/-- a byte that goes on an encoding -/
def cb (c : UInt8) : Bool := 128 ≤ c.toNat && c.toNat < 192
def validR (r : Nat) : Bool := r < 0xD800 || (0xE000 ≤ r && r ≤ 0x10FFFF)
/-- the encoding with which a list of bytes begins: its rune and how many bytes it has -/
def dec : List UInt8 → Option (Nat × Nat)
  | [] => none
  | a :: r =>
    if a.toNat < 128 then some (a.toNat, 1)
    else match r with
      | [] => none
      | b :: r2 =>
        if cb b = false then none
        else if 0xC2 ≤ a.toNat ∧ a.toNat < 0xE0 then some ((a.toNat % 32) * 64 + b.toNat % 64, 2)
        else match r2 with
          | [] => none
          | c :: r3 =>
            if cb c = false then none
            else if a.toNat / 16 = 14 then
              (if 0x800 ≤ (a.toNat % 16) * 4096 + (b.toNat % 64) * 64 + c.toNat % 64 ∧ validR ((a.toNat % 16) * 4096 + (b.toNat % 64) * 64 + c.toNat % 64) = true then some ((a.toNat % 16) * 4096 + (b.toNat % 64) * 64 + c.toNat % 64, 3) else none)
            else match r3 with
              | [] => none
              | d :: _ =>
                if cb d = false then none
                else if a.toNat / 8 = 30 ∧ 0x10000 ≤ (a.toNat % 8) * 262144 + (b.toNat % 64) * 4096 + (c.toNat % 64) * 64 + d.toNat % 64 ∧ validR ((a.toNat % 8) * 262144 + (b.toNat % 64) * 4096 + (c.toNat % 64) * 64 + d.toNat % 64) = true then
                  some ((a.toNat % 8) * 262144 + (b.toNat % 64) * 4096 + (c.toNat % 64) * 64 + d.toNat % 64, 4)
                else none
def encN (r : Nat) : List UInt8 :=
  if r < 0x80 then [UInt8.ofNat r]
  else if r < 0x800 then [UInt8.ofNat (0xC0 + r / 64), UInt8.ofNat (0x80 + r % 64)]
  else if r < 0x10000 then [UInt8.ofNat (0xE0 + r / 4096), UInt8.ofNat (0x80 + r / 64 % 64), UInt8.ofNat (0x80 + r % 64)]
  else [UInt8.ofNat (0xF0 + r / 262144), UInt8.ofNat (0x80 + r / 4096 % 64), UInt8.ofNat (0x80 + r / 64 % 64), UInt8.ofNat (0x80 + r % 64)]
/-- the step's width -/
def wid (l : List UInt8) : Nat := match dec l with | some (_, n) => n | none => 1
/-- how far ahead of p the encoding begins that goes over it -/
def insideN (l : List UInt8) (p : Nat) : Nat :=
  if 1 ≤ p ∧ 1 < wid (l.drop (p - 1)) then 1
  else if 2 ≤ p ∧ 2 < wid (l.drop (p - 2)) then 2
  else if 3 ≤ p ∧ 3 < wid (l.drop (p - 3)) then 3
  else 0
/-- are all steps whole? -/
def vld : Nat → List UInt8 → Bool
  | 0, l => l.isEmpty
  | k + 1, l => match l with
    | [] => true
    | _ => match dec l with
      | some (_, n) => vld k (l.drop n)
      | none => false
def validL (l : List UInt8) : Bool := vld l.length l

/-! ### Values -/
structure JV where
  kind : Int
  truth : Bool
  n : Int
  text : List UInt8
  kids : List Int
  names : List (List UInt8)
deriving DecidableEq
def jNull : JV := ⟨1, false, 0, [], [], []⟩
def jBool (t : Bool) : JV := ⟨2, t, 0, [], [], []⟩
def jNum (n : Int) : JV := ⟨3, false, n, [], [], []⟩
def jStr (s : List UInt8) : JV := ⟨4, false, 0, s, [], []⟩
def jList (ks : List Int) : JV := ⟨5, false, 0, [], ks, []⟩
def jObj (ks : List Int) (ns : List (List UInt8)) : JV := ⟨6, false, 0, [], ks, ns⟩

/-! ### The reader's steps -/
abbrev Flt := Nat × Int
def pk (l : List UInt8) (i : Nat) : UInt8 := l.getD i 0
def isBl (c : UInt8) : Bool := c == 32 || c == 9 || c == 10 || c == 13
def skipBl : List UInt8 → Nat
  | [] => 0
  | c :: r => if isBl c then skipBl r + 1 else 0
/-- the place behind blanks -/
def skip (l : List UInt8) (i : Nat) : Nat := i + skipBl (l.drop i)
def isDig (c : UInt8) : Bool := 48 ≤ c.toNat && c.toNat ≤ 57
/-- the digits from a place on: the number (it stops growing at 2^53) and the place behind them -/
def digs : List UInt8 → Nat → Nat
  | [], n => n
  | c :: r, n => if isDig c then digs r (min (10 * n + (c.toNat - 48)) 9007199254740992) else n
def nDigs : List UInt8 → Nat
  | [] => 0
  | c :: r => if isDig c then nDigs r + 1 else 0
def numberJ (l : List UInt8) (i : Nat) : Except Flt (Int × Nat) :=
  let below := pk l i == 45
  let f := if below then i + 1 else i
  let n := digs (l.drop f) 0
  let k := nDigs (l.drop f)
  let c := pk l (f + k)
  if k = 0 ∨ (1 < k ∧ pk l f = 48) ∨ (below = true ∧ n = 0) ∨ 9007199254740991 < n ∨ c = 46 ∨ c = 101 ∨ c = 69 then .error (i, 242)
  else .ok (if below then -(n : Int) else (n : Int), f + k)
def wordJ (l : List UInt8) (i : Nat) (w : List UInt8) : Except Flt Nat :=
  if (l.drop i).take w.length = w then .ok (i + w.length) else .error (i, 240)
def takeJ (l : List UInt8) (i : Nat) : Except Flt UInt8 :=
  if i < l.length then .ok (pk l i) else .error (l.length, 240)
def hexv (c : UInt8) : Option Nat :=
  if 48 ≤ c.toNat ∧ c.toNat ≤ 57 then some (c.toNat - 48)
  else if 97 ≤ c.toNat ∧ c.toNat ≤ 102 then some (c.toNat - 97 + 10)
  else if 65 ≤ c.toNat ∧ c.toNat ≤ 70 then some (c.toNat - 65 + 10)
  else none
/-- the number of so many digits of base sixteen -/
def fourJ (l : List UInt8) (begin : Nat) : Nat → Nat → Nat → Except Flt Nat
  | 0, _, n => .ok n
  | k + 1, i, n =>
    match takeJ l i with
    | .error e => .error e
    | .ok c => match hexv c with
      | none => .error (begin, 243)
      | some d => fourJ l begin k (i + 1) (n * 16 + d)
def letter (c : UInt8) : Option Nat :=
  if c = 34 then some 34 else if c = 92 then some 92 else if c = 47 then some 47 else if c = 98 then some 8 else if c = 102 then some 12
  else if c = 110 then some 10 else if c = 114 then some 13 else if c = 116 then some 9 else none
/-- an escape that begins at a place: its rune and the place behind it -/
def escapeJ (l : List UInt8) (i : Nat) : Except Flt (Nat × Nat) :=
  match takeJ l (i + 1) with
  | .error e => .error e
  | .ok c => match letter c with
    | some x => .ok (x, i + 2)
    | none =>
      if c ≠ 117 then .error (i, 243)
      else match fourJ l i 4 (i + 2) 0 with
        | .error e => .error e
        | .ok n =>
          if 0xdc00 ≤ n ∧ n ≤ 0xdfff then .error (i, 243)
          else if n < 0xd800 ∨ 0xdbff < n then .ok (n, i + 6)
          else match takeJ l (i + 6) with
            | .error e => .error e
            | .ok c1 => if c1 ≠ 92 then .error (i, 243)
              else match takeJ l (i + 7) with
                | .error e => .error e
                | .ok c2 => if c2 ≠ 117 then .error (i, 243)
                  else match fourJ l i 4 (i + 8) 0 with
                    | .error e => .error e
                    | .ok m => if m < 0xdc00 ∨ 0xdfff < m then .error (i, 243) else .ok (0x10000 + (n - 0xd800) * 1024 + (m - 0xdc00), i + 12)
/-- a string's inside from a place on; 'out' is what has been read -/
def textGo (l : List UInt8) : Nat → Nat → List UInt8 → Except Flt (List UInt8 × Nat)
  | 0, i, _ => .error (i, -1)
  | k + 1, i, out =>
    if i < l.length then
      (if pk l i = 34 then .ok (out, i + 1)
      else if pk l i = 92 then
        (match escapeJ l i with
        | .error e => .error e
        | .ok (r, j) => textGo l k j (out ++ encN r))
      else if 0 < insideN l i then .error (i, 243)
      else match dec (l.drop i) with
        | none => .error (i, 243)
        | some (r, n) => if r < 32 then .error (i, 243) else textGo l k (i + n) (out ++ (l.drop i).take n))
    else .error (l.length, 240)
def textJ (l : List UInt8) (i : Nat) : Except Flt (List UInt8 × Nat) := textGo l (l.length + 1 - i) (i + 1) []

/-! ### Values, lists, objects -/
mutual
def valueJ (l : List UInt8) : Nat → Nat → Nat → List JV → Except Flt (Nat × Nat × List JV)
  | 0, i, _, _ => .error (i, -1)
  | k + 1, i0, dp, t =>
    let i := skip l i0
    let c := pk l i
    if c = 123 then (if dp = 64 then .error (i, 241) else objectJ l k (i + 1) dp t [] [])
    else if c = 91 then (if dp = 64 then .error (i, 241) else listJ l k (i + 1) dp t [])
    else if c = 34 then (match textJ l i with
      | .error e => .error e
      | .ok (s, j) => .ok (t.length, j, t ++ [jStr s]))
    else if c = 45 ∨ isDig c = true then (match numberJ l i with
      | .error e => .error e
      | .ok (n, j) => .ok (t.length, j, t ++ [jNum n]))
    else if c = 116 then (match wordJ l i [116, 114, 117, 101] with
      | .error e => .error e
      | .ok j => .ok (t.length, j, t ++ [jBool true]))
    else if c = 102 then (match wordJ l i [102, 97, 108, 115, 101] with
      | .error e => .error e
      | .ok j => .ok (t.length, j, t ++ [jBool false]))
    else if c = 110 then (match wordJ l i [110, 117, 108, 108] with
      | .error e => .error e
      | .ok j => .ok (t.length, j, t ++ [jNull]))
    else .error (i, 240)
/-- a list behind its bracket or behind one of its things -/
def listJ (l : List UInt8) : Nat → Nat → Nat → List JV → List Int → Except Flt (Nat × Nat × List JV)
  | 0, i, _, _, _ => .error (i, -1)
  | k + 1, i0, dp, t, ks =>
    let i := skip l i0
    if pk l i = 93 then .ok (t.length, i + 1, t ++ [jList ks])
    else if ks ≠ [] ∧ pk l i ≠ 44 then .error (i, 240)
    else match valueJ l k (if ks = [] then i else i + 1) (dp + 1) t with
      | .error e => .error e
      | .ok (p, j, t') => listJ l k j dp t' (ks ++ [(p : Int)])
def objectJ (l : List UInt8) : Nat → Nat → Nat → List JV → List Int → List (List UInt8) → Except Flt (Nat × Nat × List JV)
  | 0, i, _, _, _, _ => .error (i, -1)
  | k + 1, i0, dp, t, ks, ns =>
    let i := skip l i0
    if pk l i = 125 then .ok (t.length, i + 1, t ++ [jObj ks ns])
    else if ks ≠ [] ∧ pk l i ≠ 44 then .error (i, 240)
    else
      let j := if ks = [] then i else skip l (i + 1)
      if pk l j ≠ 34 then .error (j, 240)
      else match textJ l j with
        | .error e => .error e
        | .ok (s, j2) =>
          if s ∈ ns then .error (j, 244)
          else
            let j3 := skip l j2
            if pk l j3 ≠ 58 then .error (j3, 240)
            else match valueJ l k (j3 + 1) (dp + 1) t with
              | .error e => .error e
              | .ok (p, j4, t') => objectJ l k j4 dp t' (ks ++ [(p : Int)]) (ns ++ [s])
end
/-- json.Parse: the tree, or the place of the fault and its number -/
def parseJ (l : List UInt8) : Except Flt (List JV) :=
  if 268435456 < l.length then .error (268435456, 5)
  else match valueJ l (2 * l.length + 3) 0 0 [] with
    | .error e => .error e
    | .ok (_, j, t) => if skip l j < l.length then .error (skip l j, 240) else .ok t
end Go.Proofs.YtknmbfkpclacgaaGreatDoor

/- Plain lemmas on encodings: 'dec' and the model's own decoder and encoder. -/
set_option linter.unusedSimpArgs false
namespace Go.Proofs.YtknmbfkpclacgaaGreatDoor

theorem get_at (l : List UInt8) (k : Nat) (h : k < l.length) : ((⟨l.toArray⟩ : ByteArray).get! k).toNat = (l[k]).toNat := by
  simp [ByteArray.get!, h]
theorem valid_nat (r : Nat) : Utf8.valid (r : Int) = validR r := by
  rw [Bool.eq_iff_iff]
  simp only [Utf8.valid, validR, Bool.or_eq_true, Bool.and_eq_true, decide_eq_true_eq]
  omega

/-- what 'dec' says of the bytes, case by case -/
theorem dec_cases (l : List UInt8) (r n : Nat) (h : dec l = some (r, n)) :
    (∃ a t, l = a :: t ∧ a.toNat < 128 ∧ r = a.toNat ∧ n = 1) ∨
    (∃ a b t, l = a :: b :: t ∧ 0xC2 ≤ a.toNat ∧ a.toNat < 0xE0 ∧ cb b = true ∧ r = (a.toNat % 32) * 64 + b.toNat % 64 ∧ n = 2) ∨
    (∃ a b c t, l = a :: b :: c :: t ∧ a.toNat / 16 = 14 ∧ cb b = true ∧ cb c = true ∧ r = (a.toNat % 16) * 4096 + (b.toNat % 64) * 64 + c.toNat % 64 ∧ 0x800 ≤ r ∧ validR r = true ∧ n = 3) ∨
    (∃ a b c d t, l = a :: b :: c :: d :: t ∧ a.toNat / 8 = 30 ∧ cb b = true ∧ cb c = true ∧ cb d = true ∧ r = (a.toNat % 8) * 262144 + (b.toNat % 64) * 4096 + (c.toNat % 64) * 64 + d.toNat % 64 ∧ 0x10000 ≤ r ∧ validR r = true ∧ n = 4) := by
  match l, h with
  | [], h => simp [dec] at h
  | a :: t, h =>
    by_cases ha : a.toNat < 128
    · simp [dec, ha] at h
      exact .inl ⟨a, t, rfl, ha, h.1.symm, h.2.symm⟩
    · match t, h with
      | [], h => simp [dec, ha] at h
      | b :: t2, h =>
        by_cases hb : cb b = true
        · by_cases h2 : 0xC2 ≤ a.toNat ∧ a.toNat < 0xE0
          · simp [dec, ha, hb, h2] at h
            exact .inr (.inl ⟨a, b, t2, rfl, h2.1, h2.2, hb, h.1.symm, h.2.symm⟩)
          · match t2, h with
            | [], h => simp [dec, ha, hb, h2] at h
            | c :: t3, h =>
              by_cases hc : cb c = true
              · by_cases h3 : a.toNat / 16 = 14
                · simp only [dec, ha, hb, h2, hc, h3, if_false, if_true, Bool.true_eq_false] at h
                  split at h
                  · rename_i hv
                    simp only [Option.some.injEq, Prod.mk.injEq] at h
                    obtain ⟨rfl, rfl⟩ := h
                    exact .inr (.inr (.inl ⟨a, b, c, t3, rfl, h3, hb, hc, rfl, hv.1, hv.2, rfl⟩))
                  · simp at h
                · match t3, h with
                  | [], h => simp [dec, ha, hb, h2, hc, h3] at h
                  | d :: t4, h =>
                    by_cases hd : cb d = true
                    · simp only [dec, ha, hb, h2, hc, h3, hd, if_false, Bool.true_eq_false] at h
                      split at h
                      · rename_i hv
                        simp only [Option.some.injEq, Prod.mk.injEq] at h
                        obtain ⟨rfl, rfl⟩ := h
                        exact .inr (.inr (.inr ⟨a, b, c, d, t4, rfl, hv.1, hb, hc, hd, rfl, hv.2.1, hv.2.2, rfl⟩))
                      · simp at h
                    · simp [dec, ha, hb, h2, hc, h3, hd] at h
              · simp [dec, ha, hb, h2, hc] at h
        · simp [dec, ha, hb] at h

theorem cb_iff (c : UInt8) : cb c = true ↔ c.toNat / 64 = 2 := by
  simp only [cb, Bool.and_eq_true, decide_eq_true_eq]; omega
theorem cb_iff' (c : UInt8) : (c.toNat / 64 == 2) = cb c := by
  rw [Bool.eq_iff_iff, cb_iff, beq_iff_eq]

/-- the model's decoder at the begin of a text -/
theorem decode_dec (l : List UInt8) (h : l ≠ []) : Utf8.decode ⟨l.toArray⟩ 0 = (dec l).getD (65533, 1) := by
  have hs : (⟨l.toArray⟩ : ByteArray).size = l.length := by simp [ByteArray.size]
  match l, h with
  | [a], _ =>
    have ha := a.toNat_lt
    simp only [Utf8.decode, hs, Nat.add_zero, Nat.zero_add, get_at [a] 0 (by simp), List.getElem_cons_zero, dec, List.length_singleton, Nat.lt_irrefl, decide_false, Bool.false_and, Bool.and_false, Utf8.runeError]
    by_cases h1 : a.toNat < 128
    · simp [h1]
    · simp [h1]
  | [a, b], _ =>
    have ha := a.toNat_lt
    simp only [Utf8.decode, hs, Nat.add_zero, Nat.zero_add, get_at [a, b] 0 (by simp), get_at [a, b] 1 (by simp), List.getElem_cons_zero, List.getElem_cons_succ, dec, List.length_cons, List.length_nil, Nat.reduceAdd, Nat.reduceLT, decide_true, Bool.true_and, decide_false, Bool.false_and, Bool.and_false, Utf8.runeError, cb_iff']
    by_cases h1 : a.toNat < 128
    · simp [h1]
    · by_cases hb : cb b = true
      · by_cases h2 : 0xC2 ≤ a.toNat ∧ a.toNat < 0xE0
        · have h2' : (a.toNat / 32 == 6) = true := by rw [beq_iff_eq]; omega
          have h2'' : 128 ≤ a.toNat % 32 * 64 + b.toNat % 64 := by omega
          simp [h1, hb, h2, h2', h2'']
        · by_cases h3 : (a.toNat / 32 == 6) = true
          · rw [beq_iff_eq] at h3
            have h2'' : ¬ 128 ≤ a.toNat % 32 * 64 + b.toNat % 64 := by omega
            simp [h1, hb, h2, h3, h2'']
          · simp [h1, hb, h2, h3]
      · simp [h1, hb]
  | [a, b, c], _ =>
    have ha := a.toNat_lt
    simp only [Utf8.decode, hs, Nat.add_zero, Nat.zero_add, get_at [a, b, c] 0 (by simp), get_at [a, b, c] 1 (by simp), get_at [a, b, c] 2 (by simp), List.getElem_cons_zero, List.getElem_cons_succ, dec, List.length_cons, List.length_nil, Nat.reduceAdd, Nat.reduceLT, decide_true, Bool.true_and, decide_false, Bool.false_and, Bool.and_false, Utf8.runeError, cb_iff', valid_nat]
    by_cases h1 : a.toNat < 128
    · simp [h1]
    · by_cases hb : cb b = true
      · by_cases h2 : 0xC2 ≤ a.toNat ∧ a.toNat < 0xE0
        · have h2' : (a.toNat / 32 == 6) = true := by rw [beq_iff_eq]; omega
          have h2'' : 128 ≤ a.toNat % 32 * 64 + b.toNat % 64 := by omega
          simp [h1, hb, h2, h2', h2'']
        · by_cases h3 : (a.toNat / 32 == 6) = true
          · rw [beq_iff_eq] at h3
            have h2'' : ¬ 128 ≤ a.toNat % 32 * 64 + b.toNat % 64 := by omega
            have h4 : ¬ a.toNat / 16 = 14 := by omega
            by_cases hc : cb c = true <;> simp [h1, hb, h2, h3, h2'', h4, hc]
          · by_cases hc : cb c = true
            · by_cases h4 : a.toNat / 16 = 14
              · simp only [h1, hb, h2, h3, h4, hc, if_false, if_true, Bool.and_true, Bool.true_and, beq_self_eq_true, Bool.false_and, Bool.false_eq_true, Bool.true_eq_false, Bool.and_eq_true, decide_eq_true_eq, ge_iff_le]
                split <;> simp
              · simp [h1, hb, h2, h3, h4, hc]
            · simp [h1, hb, h2, h3, hc]
      · simp [h1, hb]
  | a :: b :: c :: d :: t, _ =>
    have ha := a.toNat_lt
    simp only [Utf8.decode, hs, Nat.add_zero, Nat.zero_add, get_at (a :: b :: c :: d :: t) 0 (by simp), get_at (a :: b :: c :: d :: t) 1 (by simp), get_at (a :: b :: c :: d :: t) 2 (by simp), get_at (a :: b :: c :: d :: t) 3 (by simp), List.getElem_cons_zero, List.getElem_cons_succ, dec, List.length_cons, Utf8.runeError, cb_iff', valid_nat,
      show (1 < t.length + 1 + 1 + 1 + 1) = True from by simp, show (2 < t.length + 1 + 1 + 1 + 1) = True from by simp, show (3 < t.length + 1 + 1 + 1 + 1) = True from by simp, decide_true, Bool.true_and]
    by_cases h1 : a.toNat < 128
    · simp [h1]
    · by_cases hb : cb b = true
      · by_cases h2 : 0xC2 ≤ a.toNat ∧ a.toNat < 0xE0
        · have h2' : (a.toNat / 32 == 6) = true := by rw [beq_iff_eq]; omega
          have h2'' : 128 ≤ a.toNat % 32 * 64 + b.toNat % 64 := by omega
          simp [h1, hb, h2, h2', h2'']
        · by_cases h3 : (a.toNat / 32 == 6) = true
          · rw [beq_iff_eq] at h3
            have h2'' : ¬ 128 ≤ a.toNat % 32 * 64 + b.toNat % 64 := by omega
            have h4 : ¬ a.toNat / 16 = 14 := by omega
            have h5 : ¬ a.toNat / 8 = 30 := by omega
            by_cases hc : cb c = true <;> by_cases hd : cb d = true <;> simp [h1, hb, h2, h3, h2'', h4, hc, hd, h5]
          · by_cases hc : cb c = true
            · by_cases h4 : a.toNat / 16 = 14
              · simp only [h1, hb, h2, h3, h4, hc, if_false, if_true, Bool.and_true, Bool.true_and, beq_self_eq_true, Bool.false_and, Bool.false_eq_true, Bool.true_eq_false, Bool.and_eq_true, decide_eq_true_eq, ge_iff_le]
                split <;> simp
              · by_cases hd : cb d = true
                · by_cases h5 : a.toNat / 8 = 30
                  · simp only [h1, hb, h2, h3, h4, hc, hd, h5, if_false, if_true, Bool.and_true, Bool.true_and, beq_self_eq_true, Bool.false_and, Bool.false_eq_true, Bool.true_eq_false, Bool.and_eq_true, decide_eq_true_eq, ge_iff_le, beq_iff_eq, true_and]
                    split <;> simp
                  · simp [h1, hb, h2, h3, h4, hc, hd, h5]
                · simp [h1, hb, h2, h3, h4, hc, hd]
            · simp [h1, hb, h2, h3, hc]
      · simp [h1, hb]

theorem ofNat_eq {c : UInt8} {n : Nat} (h : n = c.toNat) : UInt8.ofNat n = c := by subst h; simp
theorem validR_lt {r : Nat} (h : validR r = true) : r ≤ 0x10FFFF := by
  simp only [validR, Bool.or_eq_true, Bool.and_eq_true, decide_eq_true_eq] at h; omega
/-- what a whole step says: the bytes are the rune's encoding -/
theorem dec_enc (l : List UInt8) (r n : Nat) (h : dec l = some (r, n)) : l.take n = encN r ∧ 1 ≤ n ∧ n ≤ 4 ∧ n ≤ l.length ∧ validR r = true ∧ (encN r).length = n := by
  rcases dec_cases l r n h with ⟨a, t, rfl, h1, rfl, rfl⟩ | ⟨a, b, t, rfl, h1, h2, hb, rfl, rfl⟩ | ⟨a, b, c, t, rfl, h1, hb, hc, hr, h2, hv, rfl⟩ | ⟨a, b, c, d, t, rfl, h1, hb, hc, hd, hr, h2, hv, rfl⟩
  · refine ⟨?_, by omega, by omega, by simp, ?_, ?_⟩
    · simp [encN, h1]
    · simp only [validR, Bool.or_eq_true, decide_eq_true_eq]; omega
    · simp [encN, h1]
  · have hb' := (cb_iff b).1 hb
    have e1 : ¬ a.toNat % 32 * 64 + b.toNat % 64 < 128 := by omega
    have e2 : a.toNat % 32 * 64 + b.toNat % 64 < 2048 := by omega
    refine ⟨?_, by omega, by omega, by simp, ?_, ?_⟩
    · simp only [encN, if_neg e1, if_pos e2, List.take_succ_cons, List.take_zero, List.cons.injEq, and_true]
      exact ⟨(ofNat_eq (by omega)).symm, (ofNat_eq (by omega)).symm⟩
    · simp only [validR, Bool.or_eq_true, decide_eq_true_eq]; omega
    · simp [encN, if_neg e1, if_pos e2]
  · have hb' := (cb_iff b).1 hb
    have hc' := (cb_iff c).1 hc
    have ha := a.toNat_lt
    have e1 : ¬ r < 128 := by omega
    have e2 : ¬ r < 2048 := by omega
    have e3 : r < 65536 := by omega
    refine ⟨?_, by omega, by omega, by simp, hv, ?_⟩
    · simp only [encN, if_neg e1, if_neg e2, if_pos e3, List.take_succ_cons, List.take_zero, List.cons.injEq, and_true]
      exact ⟨(ofNat_eq (by omega)).symm, (ofNat_eq (by omega)).symm, (ofNat_eq (by omega)).symm⟩
    · simp [encN, if_neg e1, if_neg e2, if_pos e3]
  · have hb' := (cb_iff b).1 hb
    have hc' := (cb_iff c).1 hc
    have hd' := (cb_iff d).1 hd
    have ha := a.toNat_lt
    have e1 : ¬ r < 128 := by omega
    have e2 : ¬ r < 2048 := by omega
    have e3 : ¬ r < 65536 := by omega
    refine ⟨?_, by omega, by omega, by simp, hv, ?_⟩
    · simp only [encN, if_neg e1, if_neg e2, if_neg e3, List.take_succ_cons, List.take_zero, List.cons.injEq, and_true]
      exact ⟨(ofNat_eq (by omega)).symm, (ofNat_eq (by omega)).symm, (ofNat_eq (by omega)).symm, (ofNat_eq (by omega)).symm⟩
    · simp [encN, if_neg e1, if_neg e2, if_neg e3]
/-- an encoding begins with the rune's step -/
theorem enc_dec (r : Nat) (hv : validR r = true) (t : List UInt8) : dec (encN r ++ t) = some (r, (encN r).length) := by
  have hr := validR_lt hv
  have hv' := hv
  simp only [validR, Bool.or_eq_true, Bool.and_eq_true, decide_eq_true_eq] at hv
  have hof : ∀ n : Nat, n < 256 → (UInt8.ofNat n).toNat = n := fun n h => by rw [UInt8.toNat_ofNat']; omega
  unfold encN
  by_cases e1 : r < 128
  · simp only [if_pos e1, List.cons_append, List.nil_append, dec, hof r (by omega), List.length_singleton]
  · by_cases e2 : r < 2048
    · have hb : cb (UInt8.ofNat (0x80 + r % 64)) = true := (cb_iff _).2 (by rw [hof _ (by omega)]; omega)
      simp only [if_neg e1, if_pos e2, List.cons_append, List.nil_append, dec, hb, hof (0xC0 + r / 64) (by omega), hof (0x80 + r % 64) (by omega), List.length_cons, List.length_nil]
      rw [if_neg (by omega), if_neg (by simp), if_pos (by omega)]
      rw [show (0xC0 + r / 64) % 32 * 64 + (0x80 + r % 64) % 64 = r from by omega]
    · by_cases e3 : r < 65536
      · have hb : cb (UInt8.ofNat (0x80 + r / 64 % 64)) = true := (cb_iff _).2 (by rw [hof _ (by omega)]; omega)
        have hc : cb (UInt8.ofNat (0x80 + r % 64)) = true := (cb_iff _).2 (by rw [hof _ (by omega)]; omega)
        have hx : (0xE0 + r / 4096) % 16 * 4096 + (0x80 + r / 64 % 64) % 64 * 64 + (0x80 + r % 64) % 64 = r := by omega
        simp only [if_neg e1, if_neg e2, if_pos e3, List.cons_append, List.nil_append, dec, hb, hc, hof (0xE0 + r / 4096) (by omega), hof (0x80 + r / 64 % 64) (by omega), hof (0x80 + r % 64) (by omega), List.length_cons, List.length_nil, hx]
        rw [if_neg (by omega), if_neg (by simp), if_neg (by omega), if_neg (by simp), if_pos (by omega), if_pos ⟨by omega, hv'⟩]
      · have hb : cb (UInt8.ofNat (0x80 + r / 4096 % 64)) = true := (cb_iff _).2 (by rw [hof _ (by omega)]; omega)
        have hc : cb (UInt8.ofNat (0x80 + r / 64 % 64)) = true := (cb_iff _).2 (by rw [hof _ (by omega)]; omega)
        have hd : cb (UInt8.ofNat (0x80 + r % 64)) = true := (cb_iff _).2 (by rw [hof _ (by omega)]; omega)
        have hx : (0xF0 + r / 262144) % 8 * 262144 + (0x80 + r / 4096 % 64) % 64 * 4096 + (0x80 + r / 64 % 64) % 64 * 64 + (0x80 + r % 64) % 64 = r := by omega
        simp only [if_neg e1, if_neg e2, if_neg e3, List.cons_append, List.nil_append, dec, hb, hc, hd, hof (0xF0 + r / 262144) (by omega), hof (0x80 + r / 4096 % 64) (by omega), hof (0x80 + r / 64 % 64) (by omega), hof (0x80 + r % 64) (by omega), List.length_cons, List.length_nil, hx]
        rw [if_neg (by omega), if_neg (by simp), if_neg (by omega), if_neg (by simp), if_neg (by omega), if_neg (by simp), if_pos ⟨by omega, by omega, hv'⟩]
theorem encode_encN (r : Nat) (hv : validR r = true) : Utf8.encode (r : Int) = ⟨(encN r).toArray⟩ := by
  unfold Utf8.encode encN
  rw [valid_nat, hv]
  simp only [if_true, Int.toNat_natCast]
  split
  · rfl
  · split
    · rfl
    · split <;> rfl
theorem encodeRune_encN (r : Nat) (hv : validR r = true) : Lib.encodeRune (r : Int) = encN r := by
  have hr := validR_lt hv
  simp only [validR, Bool.or_eq_true, Bool.and_eq_true, decide_eq_true_eq] at hv
  have hto : ∀ n : Nat, n.toUInt8 = UInt8.ofNat n := fun n => rfl
  unfold Lib.encodeRune encN
  by_cases e1 : r < 128
  · rw [if_pos e1, Lib.encodeRuneZ_one (by omega) (by omega)]; simp [hto]
  · by_cases e2 : r < 2048
    · rw [if_neg e1, if_pos e2, Lib.encodeRuneZ_two (by omega) (by omega)]
      simp only [List.map_cons, List.map_nil, hto]
      rw [show ((192 : Int) + (r : Int) / 64).toNat = 0xC0 + r / 64 from by omega, show ((128 : Int) + (r : Int) % 64).toNat = 0x80 + r % 64 from by omega]
    · by_cases e3 : r < 65536
      · rw [if_neg e1, if_neg e2, if_pos e3, Lib.encodeRuneZ_three (by omega)]
        simp only [List.map_cons, List.map_nil, hto]
        rw [show ((224 : Int) + (r : Int) / 4096).toNat = 0xE0 + r / 4096 from by omega, show ((128 : Int) + (r : Int) / 64 % 64).toNat = 0x80 + r / 64 % 64 from by omega, show ((128 : Int) + (r : Int) % 64).toNat = 0x80 + r % 64 from by omega]
      · rw [if_neg e1, if_neg e2, if_neg e3, Lib.encodeRuneZ_four (by omega) (by omega)]
        simp only [List.map_cons, List.map_nil, hto]
        rw [show ((240 : Int) + (r : Int) / 262144).toNat = 0xF0 + r / 262144 from by omega, show ((128 : Int) + (r : Int) / 4096 % 64).toNat = 0x80 + r / 4096 % 64 from by omega, show ((128 : Int) + (r : Int) / 64 % 64).toNat = 0x80 + r / 64 % 64 from by omega, show ((128 : Int) + (r : Int) % 64).toNat = 0x80 + r % 64 from by omega]
/-- the rune FFFD is a whole step just where its encoding begins -/
theorem dec_fffd (l : List UInt8) : l.take 3 = [239, 191, 189] ↔ ∃ n, dec l = some (65533, n) := by
  constructor
  · intro h
    refine ⟨3, ?_⟩
    have e : encN 65533 = [239, 191, 189] := by decide
    have := enc_dec 65533 (by decide) (l.drop 3)
    rw [e, ← h, List.take_append_drop] at this
    rw [this, h]; rfl
  · rintro ⟨n, h⟩
    obtain ⟨h1, _, _, _, _, h6⟩ := dec_enc l _ _ h
    have e : encN 65533 = [239, 191, 189] := by decide
    rw [e] at h1 h6
    simp at h6
    rw [h6]; exact h1
theorem dec_take4 (l : List UInt8) : dec (l.take 4) = dec l := by
  match l with
  | [] => rfl
  | [_] => rfl
  | [_, _] => rfl
  | [_, _, _] => rfl
  | a :: b :: c :: d :: t => simp [dec]
end Go.Proofs.YtknmbfkpclacgaaGreatDoor

/- Plain lemmas on the parser's function: places grow, values go behind the tree. -/
set_option linter.unusedSimpArgs false
namespace Go.Proofs.YtknmbfkpclacgaaGreatDoor

theorem skipBl_le (l : List UInt8) : skipBl l ≤ l.length := by
  induction l with
  | nil => simp [skipBl]
  | cons c r ih => simp only [skipBl]; split <;> simp <;> omega
theorem skip_ge (l : List UInt8) (i : Nat) : i ≤ skip l i := by unfold skip; omega
theorem skip_le (l : List UInt8) (i : Nat) (h : i ≤ l.length) : skip l i ≤ l.length := by
  unfold skip; have := skipBl_le (l.drop i); simp at this; omega
theorem pk_nz {l : List UInt8} {i : Nat} {c : UInt8} (hc : c ≠ 0) (h : pk l i = c) : i < l.length := by
  rcases Nat.lt_or_ge i l.length with h' | h'
  · exact h'
  · exfalso; apply hc; rw [← h]; simp [pk, List.getD_eq_getElem?_getD, List.getElem?_eq_none h']
theorem pk_nz' {l : List UInt8} {i : Nat} (h : pk l i ≠ 0) : i < l.length := pk_nz h rfl
theorem nDigs_le (l : List UInt8) : nDigs l ≤ l.length := by
  induction l with
  | nil => simp [nDigs]
  | cons c r ih => simp only [nDigs]; split <;> simp <;> omega
theorem numberJ_ok {l : List UInt8} {i : Nat} {n : Int} {j : Nat} (h : numberJ l i = .ok (n, j)) : i < j ∧ j ≤ l.length := by
  unfold numberJ at h
  simp only at h
  generalize hf : (if (pk l i == 45) = true then i + 1 else i) = f at h
  have hfi : i ≤ f := by subst hf; split <;> omega
  generalize (if (pk l i == 45) = true then -(digs (l.drop f) 0 : Int) else (digs (l.drop f) 0 : Int)) = v at h
  clear hf
  split at h
  · simp at h
  · rename_i hc
    simp only [Except.ok.injEq, Prod.mk.injEq] at h
    obtain ⟨_, rfl⟩ := h
    have h1 : ¬ nDigs (l.drop f) = 0 := fun h => hc (.inl h)
    have h2 := nDigs_le (l.drop f)
    rw [List.length_drop] at h2
    omega
theorem wordJ_ok {l : List UInt8} {i j : Nat} {w : List UInt8} (hw : 0 < w.length) (h : wordJ l i w = .ok j) : i < j ∧ j ≤ l.length := by
  unfold wordJ at h
  split at h
  · rename_i he
    simp only [Except.ok.injEq] at h
    subst h
    have := congrArg List.length he
    simp only [List.length_take, List.length_drop] at this
    omega
  · simp at h
theorem takeJ_lt {l : List UInt8} {i : Nat} {c : UInt8} (h : takeJ l i = .ok c) : i < l.length := by
  unfold takeJ at h; split at h
  · assumption
  · simp at h
theorem fourJ_len (l : List UInt8) (begin : Nat) : ∀ (k i n m : Nat), fourJ l begin k i n = .ok m → i ≤ l.length → i + k ≤ l.length
  | 0, i, n, m, _, hi => hi
  | k + 1, i, n, m, h, hi => by
    simp only [fourJ] at h
    split at h
    · simp at h
    · rename_i ht
      have := takeJ_lt ht
      split at h
      · simp at h
      · have := fourJ_len l begin k _ _ m h (by omega)
        omega
theorem escapeJ_len {l : List UInt8} {i r j : Nat} (h : escapeJ l i = .ok (r, j)) : i < j ∧ j ≤ l.length := by
  unfold escapeJ at h
  split at h
  · simp at h
  · rename_i c ht
    have h1 := takeJ_lt ht
    split at h
    · simp only [Except.ok.injEq, Prod.mk.injEq] at h; omega
    · split at h
      · simp at h
      · split at h
        · simp at h
        · rename_i n hn
          have hl := fourJ_len _ _ _ _ _ _ hn (by omega)
          split at h
          · simp at h
          · split at h
            · simp only [Except.ok.injEq, Prod.mk.injEq] at h; omega
            · split at h
              · simp at h
              · split at h
                · simp at h
                · split at h
                  · simp at h
                  · rename_i ht7
                    have h7 := takeJ_lt ht7
                    split at h
                    · simp at h
                    · split at h
                      · simp at h
                      · rename_i m hm
                        have hl2 := fourJ_len _ _ _ _ _ _ hm (by omega)
                        split at h
                        · simp at h
                        · simp only [Except.ok.injEq, Prod.mk.injEq] at h; omega
theorem textGo_ok (l : List UInt8) : ∀ (k i : Nat) (out s : List UInt8) (j : Nat), textGo l k i out = .ok (s, j) → i < j ∧ j ≤ l.length
  | 0, i, out, s, j, h => by simp [textGo] at h
  | k + 1, i, out, s, j, h => by
    rw [textGo] at h
    split at h
    · rename_i hi
      split at h
      · simp only [Except.ok.injEq, Prod.mk.injEq] at h; omega
      · split at h
        · split at h
          · simp at h
          · rename_i r j' he
            have h1 := escapeJ_len he
            have h2 := textGo_ok l k _ _ _ _ h
            omega
        · split at h
          · simp at h
          · split at h
            · simp at h
            · rename_i r n hd
              have h1 := dec_enc _ _ _ hd
              split at h
              · simp at h
              · have h2 := textGo_ok l k _ _ _ _ h
                omega
    · simp at h
theorem textJ_ok {l : List UInt8} {i : Nat} {s : List UInt8} {j : Nat} (h : textJ l i = .ok (s, j)) : i + 1 < j ∧ j ≤ l.length := textGo_ok _ _ _ _ _ _ h

/-- What an answer of the parser's functions says: it lies behind the place, the values are new ones behind the tree, the last is the answer. -/
def Grew (l : List UInt8) (i : Nat) (t : List JV) (p j : Nat) (t' : List JV) : Prop := i < j ∧ j ≤ l.length ∧ (∃ n, t' = t ++ n ∧ n.length + i ≤ j) ∧ p + 1 = t'.length
theorem Grew.one {l : List UInt8} {i i' j : Nat} {t : List JV} {v : JV} (h : i' ≤ i) (h1 : i < j) (h2 : j ≤ l.length) : Grew l i' t t.length j (t ++ [v]) :=
  ⟨by omega, h2, ⟨[v], rfl, by simp; omega⟩, by simp⟩

theorem grew_all (l : List UInt8) : ∀ k : Nat,
    (∀ i dp t p j t', valueJ l k i dp t = .ok (p, j, t') → Grew l i t p j t') ∧
    (∀ i dp t ks p j t', listJ l k i dp t ks = .ok (p, j, t') → Grew l i t p j t') ∧
    (∀ i dp t ks ns p j t', objectJ l k i dp t ks ns = .ok (p, j, t') → Grew l i t p j t') := by
  intro k
  induction k with
  | zero =>
    refine ⟨fun i dp t p j t' h => ?_, fun i dp t ks p j t' h => ?_, fun i dp t ks ns p j t' h => ?_⟩
    · simp [valueJ] at h
    · simp [listJ] at h
    · simp [objectJ] at h
  | succ k ih =>
    obtain ⟨ihv, ihl, iho⟩ := ih
    refine ⟨fun i dp t p j t' h => ?_, fun i dp t ks p j t' h => ?_, fun i dp t ks ns p j t' h => ?_⟩
    · have hs := skip_ge l i
      simp only [valueJ] at h
      split at h
      · split at h
        · simp at h
        · obtain ⟨h1, h2, ⟨n, h3, h4⟩, h5⟩ := iho _ _ _ _ _ _ _ _ h
          exact ⟨by omega, h2, ⟨n, h3, by omega⟩, h5⟩
      · split at h
        · split at h
          · simp at h
          · obtain ⟨h1, h2, ⟨n, h3, h4⟩, h5⟩ := ihl _ _ _ _ _ _ _ h
            exact ⟨by omega, h2, ⟨n, h3, by omega⟩, h5⟩
        · split at h
          · split at h
            · simp at h
            · rename_i s j' ht
              simp only [Except.ok.injEq, Prod.mk.injEq] at h
              obtain ⟨rfl, rfl, rfl⟩ := h
              have := textJ_ok ht
              exact .one hs (by omega) this.2
          · split at h
            · split at h
              · simp at h
              · rename_i s j' ht
                simp only [Except.ok.injEq, Prod.mk.injEq] at h
                obtain ⟨rfl, rfl, rfl⟩ := h
                have := numberJ_ok ht
                exact .one hs (by omega) this.2
            · split at h
              · split at h
                · simp at h
                · rename_i j' ht
                  simp only [Except.ok.injEq, Prod.mk.injEq] at h
                  obtain ⟨rfl, rfl, rfl⟩ := h
                  have := wordJ_ok (by simp) ht
                  exact .one hs (by omega) this.2
              · split at h
                · split at h
                  · simp at h
                  · rename_i j' ht
                    simp only [Except.ok.injEq, Prod.mk.injEq] at h
                    obtain ⟨rfl, rfl, rfl⟩ := h
                    have := wordJ_ok (by simp) ht
                    exact .one hs (by omega) this.2
                · split at h
                  · split at h
                    · simp at h
                    · rename_i j' ht
                      simp only [Except.ok.injEq, Prod.mk.injEq] at h
                      obtain ⟨rfl, rfl, rfl⟩ := h
                      have := wordJ_ok (by simp) ht
                      exact .one hs (by omega) this.2
                  · simp at h
    · have hs := skip_ge l i
      simp only [listJ] at h
      split at h
      · rename_i hp
        simp only [Except.ok.injEq, Prod.mk.injEq] at h
        obtain ⟨rfl, rfl, rfl⟩ := h
        have := pk_nz (by decide) hp
        exact .one hs (by omega) (by omega)
      · split at h
        · simp at h
        · split at h
          · simp at h
          · rename_i q j' t2 hv
            obtain ⟨h1, h2, ⟨n, h3, h4⟩, h5⟩ := ihv _ _ _ _ _ _ hv
            obtain ⟨g1, g2, ⟨m, g3, g4⟩, g5⟩ := ihl _ _ _ _ _ _ _ h
            have hb : skip l i ≤ (if ks = [] then skip l i else skip l i + 1) := by split <;> omega
            exact ⟨by omega, g2, ⟨n ++ m, by rw [g3, h3, List.append_assoc], by simp; omega⟩, g5⟩
    · have hs := skip_ge l i
      simp only [objectJ] at h
      split at h
      · rename_i hp
        simp only [Except.ok.injEq, Prod.mk.injEq] at h
        obtain ⟨rfl, rfl, rfl⟩ := h
        have := pk_nz (by decide) hp
        exact .one hs (by omega) (by omega)
      · have hb : skip l i ≤ (if ks = [] then skip l i else skip l (skip l i + 1)) := by
          have hs3 := skip_ge l (skip l i + 1)
          split <;> omega
        generalize (if ks = [] then skip l i else skip l (skip l i + 1)) = j1 at h hb
        split at h
        · simp at h
        · split at h
          · simp at h
          · split at h
            · simp at h
            · rename_i s j2 ht
              split at h
              · simp at h
              · split at h
                · simp at h
                · split at h
                  · simp at h
                  · rename_i q j' t2 hv
                    have hj := textJ_ok ht
                    have hs2 := skip_ge l j2
                    obtain ⟨h1, h2, ⟨n, h3, h4⟩, h5⟩ := ihv _ _ _ _ _ _ hv
                    obtain ⟨g1, g2, ⟨m, g3, g4⟩, g5⟩ := iho _ _ _ _ _ _ _ _ h
                    exact ⟨by omega, g2, ⟨n ++ m, by rw [g3, h3, List.append_assoc], by simp; omega⟩, g5⟩
end Go.Proofs.YtknmbfkpclacgaaGreatDoor
