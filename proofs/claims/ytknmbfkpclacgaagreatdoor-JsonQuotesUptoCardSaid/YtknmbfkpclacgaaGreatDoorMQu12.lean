import Derived.Test.YtknmbfkpclacgaaGreatDoorMQu11
import Derived.Test.YtknmbfkpclacgaaGreatDoorMQu0
/- json.quoted: the walk. -/
set_option linter.unusedSimpArgs false
namespace Go.Proofs.YtknmbfkpclacgaaGreatDoor
open Go.RowKit

/-- the escapes of one letter, by rune -/
def shortN (r : Nat) : Option (List UInt8) := if r < 128 then shortJ (UInt8.ofNat r) else none
/-- The table of short escapes and the library's table, as the program's start lays them. -/
structure ShortOk (w : World) (B : Nat) : Prop where
  g : 0 < B
  m : ∃ mb es clock, w.cell? ⟨0, 0, none⟩ = some (.map (some mb)) ∧ mb < B ∧ w.heap[mb]? = some (.map es clock) ∧
    ∀ W : World, W.heap[mb]? = some (.map es clock) → ∀ r : Nat, r ≤ 0x10FFFF →
      (Instr.lookup 195 (.map (some mb)) (.int .i32 (r : Int)) true).run Tryz.prog W = .ok (.tuple #[.string ⟨((shortN r).getD []).toArray⟩, .bool (shortN r).isSome]) W
  gb : 7 < B
  b : w.cell? ⟨7, 15, none⟩ = some (.int .u8 4)
theorem ShortOk.keep {w w' : World} {B : Nat} (h : ShortOk w B) (hb : Below B w w') : ShortOk w' B := by
  obtain ⟨hg, ⟨mb, es, clock, h1, h2, h3, h4⟩, h5, h6⟩ := h
  exact ⟨hg, ⟨mb, es, clock, by rw [← h1]; exact hb.cell (p := ⟨_, 0, none⟩) hg, h2, by rw [← h3]; exact hb.block _ h2, h4⟩, h5, by rw [← h6]; exact hb.cell (p := ⟨_, 15, none⟩) h5⟩

theorem vld_step {k : Nat} {l : List UInt8} (hne : l ≠ []) (h : vld (k + 1) l = true) : dec l = some (stepJ l) ∧ vld k (l.drop (stepJ l).2) = true := by
  cases hd : dec l with
  | none =>
    exfalso
    cases l with
    | nil => exact hne rfl
    | cons c r => simp [vld, hd] at h
  | some p =>
    have e : stepJ l = p := by unfold stepJ; rw [hd]; rfl
    rw [e]
    refine ⟨rfl, ?_⟩
    cases l with
    | nil => exact absurd rfl hne
    | cons c r => obtain ⟨r', n⟩ := p; simpa [vld, hd] using h
theorem quoteB_len (c : UInt8) : (quoteB c).length ≤ 6 := by
  unfold quoteB
  split
  · rename_i e he
    have : e.length = 2 := by
      unfold shortJ at he
      repeat' split at he
      all_goals simp only [Option.some.injEq, reduceCtorEq] at he
      all_goals (subst he; rfl)
    omega
  · split <;> simp
theorem qR_len (r : Nat) : (qR r).length ≤ 6 := by
  unfold qR
  split
  · exact quoteB_len _
  · have := encN_len r; omega
theorem qR_short {r : Nat} {e : List UInt8} (h : shortN r = some e) : qR r = e := by
  unfold shortN at h
  split at h
  · rename_i hr
    unfold qR quoteB
    rw [if_pos hr, h]
  · cases h
theorem toNat_low {r : Nat} (h : r < 256) : (UInt8.ofNat r).toNat = r := by simp; omega
theorem qR_low {r : Nat} (h : shortN r = none) (hr : r < 32) : qR r = [92, 117, 48, 48, hexd (r / 16), hexd (r % 16)] := by
  unfold shortN at h
  rw [if_pos (by omega)] at h
  unfold qR quoteB
  rw [if_pos (by omega), h]
  simp only [toNat_low (show r < 256 by omega)]
  rw [if_pos hr]
theorem qR_high {r : Nat} (h : shortN r = none) (hr : 32 ≤ r) : qR r = encN r := by
  unfold qR
  split
  · rename_i h1
    unfold shortN at h
    rw [if_pos h1] at h
    unfold quoteB
    rw [h]
    simp only [toNat_low (show r < 256 by omega)]
    rw [if_neg (by omega)]
    unfold encN
    rw [if_pos h1]
  · rfl
theorem and15 : ∀ m : Fin 32, bits BinOp.and IntKind.i32 ((m.val : Nat) : Int) 15 = ((m.val % 16 : Nat) : Int) := by decide

theorem Chg.below0 {a b : World} {B : Nat} (h : Chg (fun _ => False) a b) (hB : B ≤ a.heap.size) : Below B a b := h.below hB (fun _ hf => hf.elim)
theorem bu_same {B b : Nat} {bs : List Value} {w w' : World} (h : Lib.IsBuilderF 106 5 B b bs w) (hb : Below w.heap.size w w') : Lib.IsBuilderF 106 5 B b bs w' := by
  have key : ∀ p, Lib.BuilderAtF 106 5 B b p bs w → Lib.BuilderAtF 106 5 B b p bs w' := by
    rintro p ⟨hB, v, hbk, hown, hne⟩
    refine ⟨hB, v, (hb.block b (lt_of_block hbk)).trans hbk, ?_, hne⟩
    refine hown.kept (row := none) ⟨hb.os, hb.tape, hb.output, hb.size, fun k hk _ => hb.block k hk⟩ ?_
    by_cases e : v.ownBlock = none
    · exact .inl e
    · exact .inr e
  exact h.elim (fun x => .inl (key _ x)) (fun x => .inr (key _ x))
set_option maxRecDepth 100000 in
set_option maxHeartbeats 4000000 in
theorem quoted_any (l : List UInt8) (w : World) (hS : ShortOk w w.heap.size) (hv : validL l = true) (hl : l.length ≤ 1099511627776) :
    Calls Tryz.prog 63 #[.string ⟨l.toArray⟩] w fun e w' => e = .returned (.string ⟨(quoteJ l).toArray⟩) ∧ Below w.heap.size w w' := by
  have hmm := hv
  go_enter Tryz.func63, Tryz.ntmps63
  go_wp2_with fail
  refine (wbyte_any w.heap.size w.heap.size [] 34 _ (Lib.IsBuilderF.of (Lib.fresh_isBuilder 106 5 w)) (by simp) (by simp)).mono ?_
  rintro e w1 ⟨rfl, h1, b1, k1⟩
  have hbw1 : Below w.heap.size w w1 := ((Below.refl _ w).alloc (Nat.le_refl _) _).trans b1
  have hlt1 := h1.lt
  go_wp2_with fail
  go_loopg [] (l.length + 1) (fun g wr => ∃ (i k : Nat) (acc : List UInt8), Lib.IsBuilderF 106 5 w.heap.size w.heap.size (Lib.byteCells acc) wr ∧ wr.heap[w1.heap.size]? = some (.stringIter ⟨l.toArray⟩ i) ∧ Below w.heap.size w wr ∧ acc ++ qL k (l.drop i) = [34] ++ l.flatMap quoteB ∧ vld k (l.drop i) = true ∧ l.length ≤ i + k ∧ i ≤ l.length ∧ acc.length ≤ 6 * i + 1 ∧ l.length - i + 1 = g)
  case atStart =>
    refine ⟨0, l.length, [34], Lib.IsBuilderF.alloc (Or.inr h1) _, ?_, hbw1.alloc (by omega) _, ?_, hv, by omega, by omega, by simp, by omega⟩
    · exact heap_alloc_new w1 _
    · rw [List.drop_zero, qL_eq l.length l (Nat.le_refl _) hv]
  case round =>
    obtain ⟨i, k, acc, hI, hit, hbw, hq, hvk, hk, hi, hal, hg⟩ := hrel
    have hsz : (⟨l.toArray⟩ : ByteArray).size = l.length := by show l.toArray.size = _; simp
    have hG := Lib.hid hg
    have HQ := Lib.hid hq
    clear hg hq
    by_cases hil : i < l.length
    · have hne : l.drop i ≠ [] := by
        intro e
        have := congrArg List.length e
        simp at this
        omega
      obtain ⟨k', rfl⟩ : ∃ k', k = k' + 1 := ⟨k - 1, by omega⟩
      obtain ⟨hd, hvk'⟩ := vld_step hne hvk
      have hnx : ∀ ty, (Instr.next (.pointer (some ⟨w1.heap.size, 0, none⟩)) true ty).run Tryz.prog wr = .ok (.tuple #[.bool true, .int .i64 i, .int .i32 ((stepJ (l.drop i)).1 : Nat)]) (wr.iterAt w1.heap.size ⟨l.toArray⟩ (i + (stepJ (l.drop i)).2)) := fun ty => by
        rw [Lib.run_next_any_at wr w1.heap.size ⟨l.toArray⟩ i ty hit (by rw [hsz]; exact hil), decode_drop l i hil]
      have hq1 := HQ.out
      rw [qL, if_neg hne, List.drop_drop] at hq1
      rw [List.drop_drop] at hvk'
      generalize hrn : stepJ (l.drop i) = rn at *
      obtain ⟨r, n⟩ := rn
      simp only at hnx hd hvk' hq1
      have hde := dec_enc (l.drop i) r n hd
      rw [List.length_drop] at hde
      have hr := validR_lt hde.2.2.2.2.1
      have hn1 := hde.2.1
      have hn2 := hde.2.2.2.1
      have hq6 := qR_len r
      have hI2 := hI.iterAt hit (i + n)
      have hit2 := Lib.iterAt_heap wr w1.heap.size ⟨l.toArray⟩ i (i + n) hit
      have hbw2 := Lib.below_iterAt hbw (k := w1.heap.size) (by omega) ⟨l.toArray⟩ (i + n)
      have hsz2 := hbw2.size
      clear hit hI hbw
      generalize hWW : wr.iterAt w1.heap.size ⟨l.toArray⟩ (i + n) = W at *
      obtain ⟨_, ⟨mb, es, clock, g1, g2, g3, g4⟩, g5, g6⟩ := hS.keep hbw2
      have hlk := g4 W g3 r (by omega)
      have HQ1 := Lib.hid hq1
      have HV := Lib.hid hvk'
      have HD := Lib.hid (And.intro hde (And.intro hd hrn))
      clear hq1 hvk' hde hd hrn hvk HQ g4 g3 hS hv hmm hWW hne
      cases hs : shortN r with
      | some e =>
        rw [hs] at hlk
        have hqe := qR_short hs
        have he : e.length ≤ 6 := by rw [← hqe]; exact hq6
        clear hs
        simp only [Option.getD_some, Option.isSome_some] at hlk
        go_wp2_with fail
        refine (wstring_any w.heap.size w.heap.size _ ⟨e.toArray⟩ _ hI2 (by rw [Lib.byteCells_length]; show _ + e.toArray.size ≤ _; simp; omega) hsz2).mono ?_
        rintro e' w3 ⟨rfl, h3, b3, k3⟩
        go_wp2_with fail
        go_roundg (l.length - (i + n) + 1)
        case measure => rw [← hG.out]; omega
        case rel =>
          refine ⟨i + n, k', acc ++ e, ?_, k3.iter hit2 (by omega), hbw2.trans b3, ?_, HV.out, by omega, by omega, by simp; omega, rfl⟩
          · rw [Lib.byteCells_append]; exact Or.inr h3
          · rw [← HQ1.out, hqe, List.append_assoc]
      | none =>
        rw [hs] at hlk
        simp only [Option.getD_none, Option.isSome_none] at hlk
        by_cases h32 : r < 32
        · have hqe := qR_low hs h32
          have h32' : ((r : Int) < 32) := by omega
          have ha := and15 ⟨r, h32⟩
          simp only at ha
          clear hs
          go_wp2_with fail
          rw [show ((r : Int) / 16) = ((r / 16 : Nat) : Int) by omega]
          refine (formatInt16_any (r / 16) (by omega) _ g6).mono ?_
          rintro e w3 ⟨rfl, hch3⟩
          have g6' : w3.cell? ⟨7, 15, none⟩ = some (.int .u8 4) := hch3.cell g6 id
          have hI3 := bu_same hI2 (hch3.below0 (Nat.le_refl _))
          have hit3 := hch3.obj hit2 id
          have hbw3 := hbw2.trans (hch3.below0 hsz2)
          clear hI2 hit2 hbw2 g1 g6
          go_wp2_with fail
          rw [show ((r : Int) % 16) = ((r % 16 : Nat) : Int) by omega]
          refine (formatInt16_any (r % 16) (by omega) _ g6').mono ?_
          rintro e w4 ⟨rfl, hch4⟩
          have hI4 := bu_same hI3 (hch4.below0 (Nat.le_refl _))
          have hit4 := hch4.obj hit3 id
          have hbw4 := hbw3.trans (hch4.below0 hbw3.size)
          have hsz4 := hbw4.size
          clear hI3 hit3 hbw3 g6'
          go_wp2_with fail
          refine (wstring_any w.heap.size w.heap.size _ _ _ hI4 (by rw [Lib.byteCells_length]; show _ + 6 ≤ _; omega) hsz4).mono ?_
          rintro e' w5 ⟨rfl, h5, b5, k5⟩
          go_wp2_with fail
          go_roundg (l.length - (i + n) + 1)
          case measure => rw [← hG.out]; omega
          case rel =>
            refine ⟨i + n, k', acc ++ qR r, ?_, k5.iter hit4 (by omega), hbw4.trans b5, ?_, HV.out, by omega, by omega, by rw [List.length_append]; omega, rfl⟩
            · rw [hqe, Lib.byteCells_append]
              exact Or.inr h5
            · rw [← HQ1.out, List.append_assoc]
        · have hqe := qR_high hs (by omega)
          have h32' : ¬ ((r : Int) < 32) := by omega
          clear hs
          go_wp2_with fail
          refine (wrune_any w.heap.size w.heap.size _ (r : Int) (by omega) (by omega) _ hI2 (by rw [Lib.byteCells_length]; omega) hsz2).mono ?_
          rintro e' w3 ⟨rfl, h3, b3, k3⟩
          go_wp2_with fail
          go_roundg (l.length - (i + n) + 1)
          case measure => rw [← hG.out]; omega
          case rel =>
            refine ⟨i + n, k', acc ++ encN r, ?_, k3.iter hit2 (by omega), hbw2.trans b3, ?_, HV.out, by omega, by omega, by rw [← hqe, List.length_append]; omega, rfl⟩
            · rw [Lib.byteCells_append, ← encodeRune_encN r HD.out.1.2.2.2.2.1, Lib.byteCells_encodeRune]
              exact Or.inr h3
            · rw [← HQ1.out, hqe, List.append_assoc]
    · have hnx : ∀ ty, (Instr.next (.pointer (some ⟨w1.heap.size, 0, none⟩)) true ty).run Tryz.prog wr = _ := fun ty => Lib.run_next_end_at wr w1.heap.size ⟨l.toArray⟩ i ty hit (by rw [hsz]; exact hil)
      go_wp2_with fail
      refine (wbyte_any w.heap.size w.heap.size _ 34 _ hI (by rw [Lib.byteCells_length]; omega) hbw.size).mono ?_
      rintro e w3 ⟨rfl, h3, b3, k3⟩
      have hq := HQ.out
      rw [List.drop_eq_nil_of_le (by omega : l.length ≤ i)] at hq
      have hqn : qL k [] = [] := by cases k <;> rfl
      rw [hqn, List.append_nil] at hq
      have h3' : Lib.IsBuilderF 106 5 w.heap.size w.heap.size (Lib.byteCells (quoteJ l)) w3 := by
        have e : Lib.byteCells (quoteJ l) = Lib.byteCells acc ++ [.int .u8 34] := by
          unfold quoteJ
          rw [← hq, Lib.byteCells_append]
          rfl
        rw [e]; exact Or.inr h3
      go_wp2_with fail
      refine (Tryz.Builder_String_any_k w.heap.size w.heap.size (quoteJ l) _ h3' (by have := b3.size; have := hbw.size; omega)).mono ?_
      rintro e w4 ⟨rfl, _, b4, _⟩
      go_wp2_with fail
      go_ret
      exact ⟨rfl, (hbw.trans b3).trans b4⟩
end Go.Proofs.YtknmbfkpclacgaaGreatDoor

/- Plain laws: what write writes of strings and numbers is read back by the parser's functions. -/
set_option linter.unusedSimpArgs false
namespace Go.Proofs.YtknmbfkpclacgaaGreatDoor

theorem pk_of {l X : List UInt8} {i : Nat} (h : l.drop i = X) (j : Nat) : pk l (i + j) = X.getD j 0 := by
  subst h
  simp [pk, List.getD_eq_getElem?_getD, List.getElem?_drop]
theorem pk_of0 {l X : List UInt8} {i : Nat} (h : l.drop i = X) : pk l i = X.getD 0 0 := pk_of h 0
theorem lt_of_drop {l X : List UInt8} {i : Nat} (h : l.drop i = X) {j : Nat} (hj : j < X.length) : i + j < l.length := by
  subst h
  rw [List.length_drop] at hj
  omega
theorem dropq_at {l Q X : List UInt8} {i : Nat} (h : l.drop i = Q ++ X) : l.drop (i + Q.length) = X := by
  rw [← List.drop_drop, h, List.drop_left]

/-! ### no encoding goes over a place at which one begins -/
theorem dec_cb {l : List UInt8} {r n : Nat} (h : dec l = some (r, n)) (k : Nat) (h1 : 1 ≤ k) (h2 : k < n) : cb (l.getD k 0) = true := by
  rcases dec_cases l r n h with ⟨a, t, rfl, _, _, rfl⟩ | ⟨a, b, t, rfl, _, _, hb, _, rfl⟩ | ⟨a, b, c, t, rfl, _, hb, hc, _, _, _, rfl⟩ | ⟨a, b, c, d, t, rfl, _, hb, hc, hd, _, _, _, rfl⟩
  · omega
  · obtain rfl : k = 1 := by omega
    simpa using hb
  · rcases (show k = 1 ∨ k = 2 by omega) with rfl | rfl
    · simpa using hb
    · simpa using hc
  · rcases (show k = 1 ∨ k = 2 ∨ k = 3 by omega) with rfl | rfl | rfl
    · simpa using hb
    · simpa using hc
    · simpa using hd
theorem dec_cont {c : UInt8} (h : cb c = true) (r : List UInt8) : dec (c :: r) = none := by
  have hc : 128 ≤ c.toNat ∧ c.toNat < 192 := by
    unfold cb at h
    simpa using h
  cases hd : dec (c :: r) with
  | none => rfl
  | some p =>
    exfalso
    obtain ⟨x, n⟩ := p
    rcases dec_cases _ x n hd with ⟨a, t, he, h, _, _⟩ | ⟨a, b, t, he, h, h', _⟩ | ⟨a, b, c', t, he, h, _⟩ | ⟨a, b, c', d, t, he, h, _⟩
    all_goals
      simp only [List.cons.injEq] at he
      obtain ⟨rfl, _⟩ := he
      omega
theorem wid_cb {l : List UInt8} {p j : Nat} (h1 : 1 ≤ j) (hj : j ≤ p) (h : j < wid (l.drop (p - j))) : cb (pk l p) = true := by
  unfold wid at h
  cases hd : dec (l.drop (p - j)) with
  | none => rw [hd] at h; simp only at h; omega
  | some q =>
    obtain ⟨r, n⟩ := q
    rw [hd] at h
    simp only at h
    have h5 := dec_cb hd j h1 h
    have e : (l.drop (p - j)).getD j 0 = pk l p := by
      simp only [pk, List.getD_eq_getElem?_getD, List.getElem?_drop]
      rw [show p - j + j = p by omega]
    rwa [e] at h5
theorem inside_dec {l : List UInt8} {p : Nat} {x : Nat × Nat} (h : dec (l.drop p) = some x) : insideN l p = 0 := by
  have hno : cb (pk l p) = true → False := fun hc => by
    rcases Nat.lt_or_ge p l.length with hp | hp
    · rw [List.drop_eq_getElem_cons hp] at h
      have e : pk l p = l[p] := by simp [pk, List.getD_eq_getElem?_getD, hp]
      rw [e] at hc
      rw [dec_cont hc] at h
      cases h
    · rw [List.drop_eq_nil_of_le hp] at h
      cases h
  unfold insideN
  rw [if_neg (fun hh => hno (wid_cb (Nat.le_refl _) hh.1 hh.2)), if_neg (fun hh => hno (wid_cb (by omega) hh.1 hh.2)), if_neg (fun hh => hno (wid_cb (by omega) hh.1 hh.2))]

/-! ### strings -/
theorem letter_short {r : Nat} {e : List UInt8} (h : shortJ (UInt8.ofNat r) = some e) (hr : r < 128) : ∃ c, e = [92, c] ∧ c.toNat < 128 ∧ letter c = some r := by
  have key : ∀ m : Fin 128, ∀ e, shortJ (UInt8.ofNat m.val) = some e → ∃ c, e = [92, c] ∧ c.toNat < 128 ∧ letter c = some m.val := by
    intro m e h
    have hm : m.val = (UInt8.ofNat m.val).toNat := by simp; omega
    unfold shortJ at h
    have st : ∀ n : Nat, n < 128 → UInt8.ofNat m.val = UInt8.ofNat n → m.val = n := fun n hn e => by
      have := congrArg UInt8.toNat e
      simp at this
      omega
    repeat' split at h
    all_goals simp only [Option.some.injEq, reduceCtorEq] at h
    all_goals subst h
    all_goals refine ⟨_, rfl, by decide, ?_⟩
    · rename_i h1; rw [st 34 (by omega) h1]; rfl
    · rename_i h1; rw [st 92 (by omega) h1]; rfl
    · rename_i h1; rw [st 8 (by omega) h1]; rfl
    · rename_i h1; rw [st 9 (by omega) h1]; rfl
    · rename_i h1; rw [st 10 (by omega) h1]; rfl
    · rename_i h1; rw [st 12 (by omega) h1]; rfl
    · rename_i h1; rw [st 13 (by omega) h1]; rfl
  exact key ⟨r, hr⟩ e h
theorem hexv_hexd : ∀ m : Fin 16, hexv (hexd m.val) = some m.val ∧ (hexd m.val).toNat < 128 := by decide
theorem takeJ_at {l X : List UInt8} {i : Nat} (h : l.drop i = X) {j : Nat} (hj : j < X.length) : takeJ l (i + j) = .ok (X.getD j 0) := by
  unfold takeJ
  rw [if_pos (lt_of_drop h hj), pk_of h]
theorem escape_u {l : List UInt8} {i a b c d : Nat} {rest : List UInt8} (_ha : a < 16) (_hb : b < 16) (_hc : c < 16) (_hd : d < 16) (A B C D : UInt8) (eA : hexv A = some a) (eB : hexv B = some b) (eC : hexv C = some c) (eD : hexv D = some d)
    (h : l.drop i = 92 :: 117 :: A :: B :: C :: D :: rest) (begin : Nat) : fourJ l begin 4 (i + 2) 0 = .ok (((a * 16 + b) * 16 + c) * 16 + d) := by
  have t2 := takeJ_at h (j := 2) (by simp)
  have t3 := takeJ_at h (j := 3) (by simp)
  have t4 := takeJ_at h (j := 4) (by simp)
  have t5 := takeJ_at h (j := 5) (by simp)
  simp at t2 t3 t4 t5
  simp [fourJ, t2, t3, t4, t5, eA, eB, eC, eD, Nat.add_assoc]
theorem escapeJ_u {l : List UInt8} {i n : Nat} (h1 : takeJ l (i + 1) = .ok 117) (h2 : fourJ l i 4 (i + 2) 0 = .ok n) (hn : ¬ (0xdc00 ≤ n ∧ n ≤ 0xdfff)) (hn2 : n < 0xd800 ∨ 0xdbff < n) : escapeJ l i = .ok (n, i + 6) := by
  unfold escapeJ
  rw [h1]
  simp only
  rw [show letter 117 = none from rfl]
  simp only
  rw [if_neg (by decide), h2]
  simp only
  rw [if_neg hn, if_pos hn2]
theorem qRs {r : Nat} {e : List UInt8} (hr : r < 128) (h : shortJ (UInt8.ofNat r) = some e) : qR r = e := by
  unfold qR quoteB
  rw [if_pos hr, h]
theorem qRl {r : Nat} (hr : r < 32) (h : shortJ (UInt8.ofNat r) = none) : qR r = [92, 117, 48, 48, hexd (r / 16), hexd (r % 16)] := by
  have hrn : (UInt8.ofNat r).toNat = r := by simp; omega
  unfold qR quoteB
  rw [if_pos (by omega), h]
  simp only [hrn]
  rw [if_pos hr]
theorem qRm {r : Nat} (h32 : ¬ r < 32) (hr : r < 128) (h : shortJ (UInt8.ofNat r) = none) : qR r = [UInt8.ofNat r] := by
  have hrn : (UInt8.ofNat r).toNat = r := by simp; omega
  unfold qR quoteB
  rw [if_pos (by omega), h]
  simp only [hrn]
  rw [if_neg h32]
theorem qRh {r : Nat} (hr : ¬ r < 128) : qR r = encN r := by
  unfold qR
  rw [if_neg hr]
theorem textGo_str (l : List UInt8) : ∀ (k : Nat) (s out rest : List UInt8) (f i : Nat), s.length ≤ k → vld k s = true → l.drop i = s.flatMap quoteB ++ 34 :: rest → (s.flatMap quoteB).length < f → textGo l f i out = .ok (out ++ s, i + (s.flatMap quoteB).length + 1) := by
  intro k
  induction k with
  | zero =>
    intro s out rest f i hk _ h hf
    have : s = [] := List.length_eq_zero_iff.1 (by omega)
    subst this
    obtain ⟨f, rfl⟩ : ∃ g, f = g + 1 := ⟨f - 1, by simp at hf; omega⟩
    simp only [List.flatMap_nil, List.nil_append] at h
    have hp := pk_of0 h
    have hlt := lt_of_drop h (j := 0) (by simp)
    simp at hp
    rw [textGo, if_pos (by omega), if_pos hp]
    simp
  | succ k ih =>
    intro s out rest f i hk hv h hf
    by_cases hs : s = []
    · subst hs
      obtain ⟨f, rfl⟩ : ∃ g, f = g + 1 := ⟨f - 1, by simp at hf; omega⟩
      simp only [List.flatMap_nil, List.nil_append] at h
      have hp := pk_of0 h
      have hlt := lt_of_drop h (j := 0) (by simp)
      simp at hp
      rw [textGo, if_pos (by omega), if_pos hp]
      simp
    · cases hd : dec s with
      | none =>
        exfalso
        cases s with
        | nil => exact hs rfl
        | cons c r => simp [vld, hd] at hv
      | some p =>
        obtain ⟨r, n⟩ := p
        have e2 := dec_enc s r n hd
        have hv2 : vld k (s.drop n) = true := by
          cases s with
          | nil => exact absurd rfl hs
          | cons c q => simpa [vld, hd] using hv
        have hq := qR_take hd
        have hsplit : s.flatMap quoteB = qR r ++ (s.drop n).flatMap quoteB := by
          rw [hq, ← List.flatMap_append, List.take_append_drop]
        have hse : encN r ++ s.drop n = s := by rw [← e2.1]; exact List.take_append_drop n s
        rw [hsplit] at hf ⊢
        rw [hsplit, List.append_assoc] at h
        rw [List.length_append] at hf ⊢
        have hnext := dropq_at h
        have hlen : (s.drop n).length ≤ k := by rw [List.length_drop]; omega
        have hIH := fun (f : Nat) (hf : ((s.drop n).flatMap quoteB).length < f) => ih (s.drop n) (out ++ encN r) rest f (i + (qR r).length) hlen hv2 hnext hf
        have hfin : ∀ f : Nat, ((s.drop n).flatMap quoteB).length < f → textGo l f (i + (qR r).length) (out ++ encN r) = .ok (out ++ s, i + ((qR r).length + ((s.drop n).flatMap quoteB).length) + 1) := fun f hf => by
          rw [hIH f hf, List.append_assoc, hse]
          simp [Nat.add_assoc]
        clear hIH ih hsplit hv hv2
        by_cases hr : r < 128
        · cases hsh : shortJ (UInt8.ofNat r) with
          | some e =>
            obtain ⟨c, rfl, hc1, hc2⟩ := letter_short hsh hr
            rw [qRs hr hsh] at h hf hfin ⊢
            simp only [List.cons_append, List.nil_append, List.length_cons, List.length_nil] at h hf hfin ⊢
            have hp := pk_of0 h
            have hlt := lt_of_drop h (j := 0) (by simp)
            have ht1 := takeJ_at h (j := 1) (by simp)
            simp at hp ht1
            obtain ⟨f, rfl⟩ : ∃ g, f = g + 1 := ⟨f - 1, by omega⟩
            rw [textGo, if_pos (by omega), if_neg (by rw [hp]; decide), if_pos hp]
            unfold escapeJ
            rw [ht1]
            simp only [hc2]
            exact hfin f (by omega)
          | none =>
            have hrn : (UInt8.ofNat r).toNat = r := by simp; omega
            by_cases h32 : r < 32
            · rw [qRl h32 hsh] at h hf hfin ⊢
              simp only [List.cons_append, List.nil_append, List.length_cons, List.length_nil] at h hf hfin ⊢
              have hp := pk_of0 h
              have hlt := lt_of_drop h (j := 0) (by simp)
              have ht1 := takeJ_at h (j := 1) (by simp)
              simp at hp ht1
              have x1 := hexv_hexd ⟨r / 16, by omega⟩
              have x2 := hexv_hexd ⟨r % 16, by omega⟩
              simp only at x1 x2
              have h4 := escape_u (a := 0) (b := 0) (c := r / 16) (d := r % 16) (by omega) (by omega) (by omega) (by omega) 48 48 _ _ rfl rfl x1.1 x2.1 h i
              have en : ((0 * 16 + 0) * 16 + r / 16) * 16 + r % 16 = r := by omega
              rw [en] at h4
              have he := escapeJ_u ht1 h4 (by omega) (by omega)
              obtain ⟨f, rfl⟩ : ∃ g, f = g + 1 := ⟨f - 1, by omega⟩
              rw [textGo, if_pos (by omega), if_neg (by rw [hp]; decide), if_pos hp, he]
              exact hfin f (by omega)
            · rw [qRm h32 hr hsh] at h hf hfin ⊢
              simp only [List.cons_append, List.nil_append, List.length_cons, List.length_nil] at h hf hfin ⊢
              have hp := pk_of0 h
              have hlt := lt_of_drop h (j := 0) (by simp)
              simp at hp
              obtain ⟨f, rfl⟩ : ∃ g, f = g + 1 := ⟨f - 1, by omega⟩
              have hne : ∀ m : Nat, m < 128 → r ≠ m → UInt8.ofNat r ≠ UInt8.ofNat m := fun m hm hrm e => by
                have := congrArg UInt8.toNat e
                simp at this
                omega
              have h34 : r ≠ 34 := fun e => by subst e; simp [shortJ] at hsh
              have h92 : r ≠ 92 := fun e => by subst e; simp [shortJ] at hsh
              have een : encN r = [UInt8.ofNat r] := by unfold encN; rw [if_pos hr]
              have hde := enc_dec r e2.2.2.2.2.1 ((s.drop n).flatMap quoteB ++ 34 :: rest)
              rw [een] at hde
              simp only [List.cons_append, List.nil_append, List.length_cons, List.length_nil] at hde
              rw [textGo, if_pos (by omega), if_neg (by rw [hp]; exact hne 34 (by omega) h34), if_neg (by rw [hp]; exact hne 92 (by omega) h92), if_neg (by rw [inside_dec (h ▸ hde)]; omega), h, hde]
              simp only
              rw [if_neg h32]
              have := hfin f (by omega)
              rw [een] at this
              simpa using this
        · rw [qRh hr] at h hf hfin ⊢
          have hde := enc_dec r e2.2.2.2.2.1 ((s.drop n).flatMap quoteB ++ 34 :: rest)
          have hpos : 0 < (encN r).length := by omega
          have hlt := lt_of_drop h (j := 0) (by rw [List.length_append]; omega)
          have hp := pk_of0 h
          have hg : (encN r ++ ((s.drop n).flatMap quoteB ++ 34 :: rest)).getD 0 0 = (encN r)[0] := by
            simp [List.getD_eq_getElem?_getD, List.getElem?_append_left hpos, List.getElem?_eq_getElem hpos]
          rw [hg] at hp
          have hh := encN_high (by omega : 128 ≤ r) e2.2.2.2.2.1 _ (List.getElem_mem hpos)
          rw [← hp] at hh
          obtain ⟨f, rfl⟩ : ∃ g, f = g + 1 := ⟨f - 1, by omega⟩
          rw [textGo, if_pos (by omega), if_neg (fun e => by rw [e] at hh; exact absurd hh (by decide)), if_neg (fun e => by rw [e] at hh; exact absurd hh (by decide)), if_neg (by rw [inside_dec (h ▸ hde)]; omega), h, hde]
          simp only
          rw [if_neg (by omega), List.take_left]
          exact hfin f (by omega)
theorem quoteJ_len (s : List UInt8) : (quoteJ s).length = (s.flatMap quoteB).length + 2 := by unfold quoteJ; simp
/-- A string's text is read back. -/
theorem textJ_quote {l s rest : List UInt8} {i : Nat} (hv : validL s = true) (h : l.drop i = quoteJ s ++ rest) : textJ l i = .ok (s, i + (quoteJ s).length) := by
  unfold quoteJ at h
  simp only [List.cons_append, List.nil_append, List.append_assoc] at h
  have hlt := lt_of_drop h (j := 0) (by simp)
  have hp := pk_of0 h
  simp at hp
  have h2 : l.drop (i + 1) = s.flatMap quoteB ++ 34 :: rest := by rw [← List.drop_drop, h]; rfl
  have hl2 := congrArg List.length h2
  simp at hl2
  unfold textJ
  rw [textGo_str l s.length s [] rest _ (i + 1) (Nat.le_refl _) hv h2 (by simp; omega), quoteJ_len, List.nil_append]
  congr 2
  omega

/-! ### numbers -/
theorem isDig_of {d : Nat} (h : d < 10) : isDig (UInt8.ofNat (48 + d)) = true ∧ (UInt8.ofNat (48 + d)).toNat = 48 + d := by
  have e : (UInt8.ofNat (48 + d)).toNat = 48 + d := by simp; omega
  refine ⟨?_, e⟩
  unfold isDig
  rw [e]
  simp
  omega
theorem digs_dec : ∀ (k n : Nat) (x : List UInt8), n ≤ k → n ≤ 9007199254740991 → digs (decGo k n ++ x) 0 = digs x n ∧ nDigs (decGo k n ++ x) = (decGo k n).length + nDigs x
  | 0, n, x, h, _ => by
    obtain rfl : n = 0 := by omega
    have h0 := isDig_of (d := 0) (by omega)
    simp only [decGo, List.cons_append, List.nil_append, digs, nDigs, Nat.zero_mod, h0.1, if_true, h0.2, List.length_cons, List.length_nil]
    refine ⟨by congr 1, by omega⟩
  | k + 1, n, x, h, hm => by
    rw [decGo]
    by_cases h10 : n < 10
    · rw [if_pos h10]
      have h0 := isDig_of h10
      simp only [List.cons_append, List.nil_append, digs, nDigs, h0.1, if_true, h0.2, List.length_cons, List.length_nil]
      refine ⟨by congr 1; omega, by omega⟩
    · rw [if_neg h10, List.append_assoc]
      have h0 := isDig_of (d := n % 10) (by omega)
      have ih := digs_dec k (n / 10) ([UInt8.ofNat (48 + n % 10)] ++ x) (by omega) (by omega)
      rw [ih.1, ih.2]
      simp only [List.cons_append, List.nil_append, digs, nDigs, h0.1, if_true, h0.2, List.length_cons, List.length_nil, List.length_append]
      refine ⟨by congr 1; omega, by omega⟩
theorem decGo_head : ∀ (k n : Nat), n ≤ k → ∃ d r, decGo k n = UInt8.ofNat (48 + d) :: r ∧ d < 10 ∧ (n = 0 ∧ r = [] ∨ d ≠ 0)
  | 0, n, h => ⟨0, [], by obtain rfl : n = 0 := by omega
                          rfl, by omega, .inl ⟨by omega, rfl⟩⟩
  | k + 1, n, h => by
    rw [decGo]
    by_cases h10 : n < 10
    · rw [if_pos h10]
      refine ⟨n, [], rfl, h10, ?_⟩
      by_cases h0 : n = 0
      · exact .inl ⟨h0, rfl⟩
      · exact .inr h0
    · rw [if_neg h10]
      obtain ⟨d, r, he, hd, hr⟩ := decGo_head k (n / 10) (by omega)
      refine ⟨d, r ++ [UInt8.ofNat (48 + n % 10)], by rw [he]; rfl, hd, ?_⟩
      rcases hr with ⟨h0, _⟩ | h0
      · omega
      · exact .inr h0
/-- what may stand behind a number -/
def EndOk (rest : List UInt8) : Prop := isDig (rest.getD 0 0) = false ∧ rest.getD 0 0 ≠ 46 ∧ rest.getD 0 0 ≠ 101 ∧ rest.getD 0 0 ≠ 69
theorem digs_end {rest : List UInt8} (h : isDig (rest.getD 0 0) = false) (n : Nat) : digs rest n = n ∧ nDigs rest = 0 := by
  cases rest with
  | nil => exact ⟨rfl, rfl⟩
  | cons c r =>
    simp at h
    simp [digs, nDigs, h]
theorem numberJ_dec {l rest : List UInt8} {i : Nat} {n : Int} (hn : -9007199254740991 ≤ n ∧ n ≤ 9007199254740991) (h : l.drop i = decJ n ++ rest) (he : EndOk rest) : numberJ l i = .ok (n, i + (decJ n).length) := by
  obtain ⟨d, r, hhd, hd10, hd0⟩ := decGo_head n.natAbs n.natAbs (Nat.le_refl _)
  have hdd := digs_dec n.natAbs n.natAbs rest (Nat.le_refl _) (by omega)
  have hen := digs_end he.1 n.natAbs
  rw [hen.1, hen.2, Nat.add_zero] at hdd
  have hid := isDig_of hd10
  have hlenpos : 0 < (decGo n.natAbs n.natAbs).length := by rw [hhd]; simp
  by_cases hneg : n < 0
  · unfold decJ at h ⊢
    rw [if_pos hneg] at h ⊢
    simp only [List.cons_append, List.nil_append] at h
    have hp := pk_of0 h
    simp at hp
    have h1 : l.drop (i + 1) = decGo n.natAbs n.natAbs ++ rest := by rw [← List.drop_drop, h]; rfl
    have hpf := pk_of0 h1
    rw [hhd] at hpf
    simp only [List.cons_append, List.getD_cons_zero] at hpf
    have hpe : pk l (i + 1 + (decGo n.natAbs n.natAbs).length) = rest.getD 0 0 := pk_of0 (dropq_at h1)
    unfold numberJ
    simp only [hp, beq_self_eq_true, if_true, h1, hdd.1, hdd.2, hpe]
    rw [if_neg]
    · simp
      refine ⟨by omega, by omega⟩
    · have := he.2
      rintro (h | ⟨h, h'⟩ | ⟨_, h⟩ | h | h | h | h)
      · omega
      · rw [hpf] at h'
        have := congrArg UInt8.toNat h'
        rw [hid.2] at this
        rcases hd0 with ⟨hz, hr⟩ | hz
        · rw [hhd, hr] at h; simp at h
        · simp at this; omega
      · omega
      · omega
      · exact this.1 h
      · exact this.2.1 h
      · exact this.2.2 h
  · unfold decJ at h ⊢
    rw [if_neg hneg] at h ⊢
    have hpf := pk_of0 h
    rw [hhd] at hpf
    simp only [List.cons_append, List.getD_cons_zero] at hpf
    have hp : (pk l i == 45) = false := by
      rw [beq_eq_false_iff_ne]
      intro e
      rw [hpf] at e
      have := congrArg UInt8.toNat e
      rw [hid.2] at this
      simp at this
      omega
    have hpe : pk l (i + (decGo n.natAbs n.natAbs).length) = rest.getD 0 0 := pk_of0 (dropq_at h)
    unfold numberJ
    simp only [hp, Bool.false_eq_true, if_false, h, hdd.1, hdd.2, hpe]
    rw [if_neg]
    · simp
      omega
    · have := he.2
      rintro (h | ⟨h, h'⟩ | ⟨h, _⟩ | h | h | h | h)
      · omega
      · rw [hpf] at h'
        have := congrArg UInt8.toNat h'
        rw [hid.2] at this
        rcases hd0 with ⟨hz, hr⟩ | hz
        · rw [hhd, hr] at h; simp at h
        · simp at this; omega
      · cases h
      · omega
      · exact this.1 h
      · exact this.2.1 h
      · exact this.2.2 h
theorem wordJ_at {l w rest : List UInt8} {i : Nat} (h : l.drop i = w ++ rest) : wordJ l i w = .ok (i + w.length) := by
  unfold wordJ
  rw [if_pos (by rw [h]; exact List.take_left)]
end Go.Proofs.YtknmbfkpclacgaaGreatDoor
