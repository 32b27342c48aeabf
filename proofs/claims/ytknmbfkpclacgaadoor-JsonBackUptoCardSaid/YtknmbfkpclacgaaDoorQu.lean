/- json.quoted: the walk. -/
import Derived.Test.YtknmbfkpclacgaaDoorHx
import Derived.Test.YtknmbfkpclacgaaDoorTh
set_option linter.unusedSimpArgs false
namespace Go.Proofs.YtknmbfkpclacgaaDoor
open Go.RowKit

/-- the escapes of one letter, by rune -/
def shortN (r : Nat) : Option (List UInt8) := if r < 128 then shortJ (UInt8.ofNat r) else none
/-- The table of short escapes and the library's table, as the program's start lays them. -/
structure ShortOk (w : World) (B : Nat) : Prop where
  g : 0 < B
  m : ∃ mb es clock, w.cell? ⟨0, 0, none⟩ = some (.map (some mb)) ∧ mb < B ∧ w.heap[mb]? = some (.map es clock) ∧
    ∀ W : World, W.heap[mb]? = some (.map es clock) → ∀ r : Nat, r ≤ 0x10FFFF →
      (Instr.lookup 88 (.map (some mb)) (.int .i32 (r : Int)) true).run Tryd.prog W = .ok (.tuple #[.string ⟨((shortN r).getD []).toArray⟩, .bool (shortN r).isSome]) W
  gb : 5 < B
  b : w.cell? ⟨5, 15, none⟩ = some (.int .u8 4)
theorem ShortOk.keep {w w' : World} {B : Nat} (h : ShortOk w B) (hb : Below B w w') : ShortOk w' B := by
  obtain ⟨hg, ⟨mb, es, clock, h1, h2, h3, h4⟩, h5, h6⟩ := h
  exact ⟨hg, ⟨mb, es, clock, by rw [← h1]; exact hb.cell (p := ⟨_, 0, none⟩) hg, h2, by rw [← h3]; exact hb.block _ h2, h4⟩, h5, by rw [← h6]; exact hb.cell (p := ⟨_, 15, none⟩) h5⟩

theorem vld_step {k : Nat} {l : List UInt8} (hne : l ≠ []) (h : vld (k + 1) l = true) : dec l = some (stepJ l) ∧ vld k (l.drop (stepJ l).2) = true := by
  cases hd : dec l with
  | none =>
    exfalso
    cases l with
    | nil => exact hne rfl
    | cons c r => simp [vld, hd] at h
  | some p =>
    have e : stepJ l = p := by unfold stepJ; rw [hd]; rfl
    rw [e]
    refine ⟨rfl, ?_⟩
    cases l with
    | nil => exact absurd rfl hne
    | cons c r => obtain ⟨r', n⟩ := p; simpa [vld, hd] using h
theorem quoteB_len (c : UInt8) : (quoteB c).length ≤ 6 := by
  unfold quoteB
  split
  · rename_i e he
    have : e.length = 2 := by
      unfold shortJ at he
      repeat' split at he
      all_goals simp only [Option.some.injEq, reduceCtorEq] at he
      all_goals (subst he; rfl)
    omega
  · split <;> simp
theorem qR_len (r : Nat) : (qR r).length ≤ 6 := by
  unfold qR
  split
  · exact quoteB_len _
  · have := encN_len r; omega
theorem qR_short {r : Nat} {e : List UInt8} (h : shortN r = some e) : qR r = e := by
  unfold shortN at h
  split at h
  · rename_i hr
    unfold qR quoteB
    rw [if_pos hr, h]
  · cases h
theorem toNat_low {r : Nat} (h : r < 256) : (UInt8.ofNat r).toNat = r := by simp; omega
theorem qR_low {r : Nat} (h : shortN r = none) (hr : r < 32) : qR r = [92, 117, 48, 48, hexd (r / 16), hexd (r % 16)] := by
  unfold shortN at h
  rw [if_pos (by omega)] at h
  unfold qR quoteB
  rw [if_pos (by omega), h]
  simp only [toNat_low (show r < 256 by omega)]
  rw [if_pos hr]
theorem qR_high {r : Nat} (h : shortN r = none) (hr : 32 ≤ r) : qR r = encN r := by
  unfold qR
  split
  · rename_i h1
    unfold shortN at h
    rw [if_pos h1] at h
    unfold quoteB
    rw [h]
    simp only [toNat_low (show r < 256 by omega)]
    rw [if_neg (by omega)]
    unfold encN
    rw [if_pos h1]
  · rfl
theorem and15 : ∀ m : Fin 32, bits BinOp.and IntKind.i32 ((m.val : Nat) : Int) 15 = ((m.val % 16 : Nat) : Int) := by decide

theorem Chg.below0 {a b : World} {B : Nat} (h : Chg (fun _ => False) a b) (hB : B ≤ a.heap.size) : Below B a b := h.below hB (fun _ hf => hf.elim)
theorem bu_same {B b : Nat} {bs : List Value} {w w' : World} (h : Lib.IsBuilderF 60 5 B b bs w) (hb : Below w.heap.size w w') : Lib.IsBuilderF 60 5 B b bs w' := by
  have key : ∀ p, Lib.BuilderAtF 60 5 B b p bs w → Lib.BuilderAtF 60 5 B b p bs w' := by
    rintro p ⟨hB, v, hbk, hown, hne⟩
    refine ⟨hB, v, (hb.block b (lt_of_block hbk)).trans hbk, ?_, hne⟩
    refine hown.kept (row := none) ⟨hb.os, hb.tape, hb.output, hb.size, fun k hk _ => hb.block k hk⟩ ?_
    by_cases e : v.ownBlock = none
    · exact .inl e
    · exact .inr e
  exact h.elim (fun x => .inl (key _ x)) (fun x => .inr (key _ x))
set_option maxRecDepth 100000 in
set_option maxHeartbeats 4000000 in
theorem quoted_any (l : List UInt8) (w : World) (hS : ShortOk w w.heap.size) (hv : validL l = true) (hl : l.length ≤ 1099511627776) :
    Calls Tryd.prog 29 #[.string ⟨l.toArray⟩] w fun e w' => e = .returned (.string ⟨(quoteJ l).toArray⟩) ∧ Below w.heap.size w w' := by
  have hmm := hv
  go_enter Tryd.func29, Tryd.ntmps29
  go_wp2_with fail
  refine (wbyte_any w.heap.size w.heap.size [] 34 _ (Lib.IsBuilderF.of (Lib.fresh_isBuilder 60 5 w)) (by simp) (by simp)).mono ?_
  rintro e w1 ⟨rfl, h1, b1, k1⟩
  have hbw1 : Below w.heap.size w w1 := ((Below.refl _ w).alloc (Nat.le_refl _) _).trans b1
  have hlt1 := h1.lt
  go_wp2_with fail
  go_loopg [] (l.length + 1) (fun g wr => ∃ (i k : Nat) (acc : List UInt8), Lib.IsBuilderF 60 5 w.heap.size w.heap.size (Lib.byteCells acc) wr ∧ wr.heap[w1.heap.size]? = some (.stringIter ⟨l.toArray⟩ i) ∧ Below w.heap.size w wr ∧ acc ++ qL k (l.drop i) = [34] ++ l.flatMap quoteB ∧ vld k (l.drop i) = true ∧ l.length ≤ i + k ∧ i ≤ l.length ∧ acc.length ≤ 6 * i + 1 ∧ l.length - i + 1 = g)
  case atStart =>
    refine ⟨0, l.length, [34], Lib.IsBuilderF.alloc (Or.inr h1) _, ?_, hbw1.alloc (by omega) _, ?_, hv, by omega, by omega, by simp, by omega⟩
    · exact heap_alloc_new w1 _
    · rw [List.drop_zero, qL_eq l.length l (Nat.le_refl _) hv]
  case round =>
    obtain ⟨i, k, acc, hI, hit, hbw, hq, hvk, hk, hi, hal, hg⟩ := hrel
    have hsz : (⟨l.toArray⟩ : ByteArray).size = l.length := by show l.toArray.size = _; simp
    have hG := Lib.hid hg
    have HQ := Lib.hid hq
    clear hg hq
    by_cases hil : i < l.length
    · have hne : l.drop i ≠ [] := by
        intro e
        have := congrArg List.length e
        simp at this
        omega
      obtain ⟨k', rfl⟩ : ∃ k', k = k' + 1 := ⟨k - 1, by omega⟩
      obtain ⟨hd, hvk'⟩ := vld_step hne hvk
      have hnx : ∀ ty, (Instr.next (.pointer (some ⟨w1.heap.size, 0, none⟩)) true ty).run Tryd.prog wr = .ok (.tuple #[.bool true, .int .i64 i, .int .i32 ((stepJ (l.drop i)).1 : Nat)]) (wr.iterAt w1.heap.size ⟨l.toArray⟩ (i + (stepJ (l.drop i)).2)) := fun ty => by
        rw [Lib.run_next_any_at wr w1.heap.size ⟨l.toArray⟩ i ty hit (by rw [hsz]; exact hil), decode_drop l i hil]
      have hq1 := HQ.out
      rw [qL, if_neg hne, List.drop_drop] at hq1
      rw [List.drop_drop] at hvk'
      generalize hrn : stepJ (l.drop i) = rn at *
      obtain ⟨r, n⟩ := rn
      simp only at hnx hd hvk' hq1
      have hde := dec_enc (l.drop i) r n hd
      rw [List.length_drop] at hde
      have hr := validR_lt hde.2.2.2.2.1
      have hn1 := hde.2.1
      have hn2 := hde.2.2.2.1
      have hq6 := qR_len r
      have hI2 := hI.iterAt hit (i + n)
      have hit2 := Lib.iterAt_heap wr w1.heap.size ⟨l.toArray⟩ i (i + n) hit
      have hbw2 := Lib.below_iterAt hbw (k := w1.heap.size) (by omega) ⟨l.toArray⟩ (i + n)
      have hsz2 := hbw2.size
      clear hit hI hbw
      generalize hWW : wr.iterAt w1.heap.size ⟨l.toArray⟩ (i + n) = W at *
      obtain ⟨_, ⟨mb, es, clock, g1, g2, g3, g4⟩, g5, g6⟩ := hS.keep hbw2
      have hlk := g4 W g3 r (by omega)
      have HQ1 := Lib.hid hq1
      have HV := Lib.hid hvk'
      have HD := Lib.hid (And.intro hde (And.intro hd hrn))
      clear hq1 hvk' hde hd hrn hvk HQ g4 g3 hS hv hmm hWW hne
      cases hs : shortN r with
      | some e =>
        rw [hs] at hlk
        have hqe := qR_short hs
        have he : e.length ≤ 6 := by rw [← hqe]; exact hq6
        clear hs
        simp only [Option.getD_some, Option.isSome_some] at hlk
        go_wp2_with fail
        refine (wstring_any w.heap.size w.heap.size _ ⟨e.toArray⟩ _ hI2 (by rw [Lib.byteCells_length]; show _ + e.toArray.size ≤ _; simp; omega) hsz2).mono ?_
        rintro e' w3 ⟨rfl, h3, b3, k3⟩
        go_wp2_with fail
        go_roundg (l.length - (i + n) + 1)
        case measure => rw [← hG.out]; omega
        case rel =>
          refine ⟨i + n, k', acc ++ e, ?_, k3.iter hit2 (by omega), hbw2.trans b3, ?_, HV.out, by omega, by omega, by simp; omega, rfl⟩
          · rw [Lib.byteCells_append]; exact Or.inr h3
          · rw [← HQ1.out, hqe, List.append_assoc]
      | none =>
        rw [hs] at hlk
        simp only [Option.getD_none, Option.isSome_none] at hlk
        by_cases h32 : r < 32
        · have hqe := qR_low hs h32
          have h32' : ((r : Int) < 32) := by omega
          have ha := and15 ⟨r, h32⟩
          simp only at ha
          clear hs
          go_wp2_with fail
          rw [show ((r : Int) / 16) = ((r / 16 : Nat) : Int) by omega]
          refine (formatInt16_any (r / 16) (by omega) _ g6).mono ?_
          rintro e w3 ⟨rfl, hch3⟩
          have g6' : w3.cell? ⟨5, 15, none⟩ = some (.int .u8 4) := hch3.cell g6 id
          have hI3 := bu_same hI2 (hch3.below0 (Nat.le_refl _))
          have hit3 := hch3.obj hit2 id
          have hbw3 := hbw2.trans (hch3.below0 hsz2)
          clear hI2 hit2 hbw2 g1 g6
          go_wp2_with fail
          rw [show ((r : Int) % 16) = ((r % 16 : Nat) : Int) by omega]
          refine (formatInt16_any (r % 16) (by omega) _ g6').mono ?_
          rintro e w4 ⟨rfl, hch4⟩
          have hI4 := bu_same hI3 (hch4.below0 (Nat.le_refl _))
          have hit4 := hch4.obj hit3 id
          have hbw4 := hbw3.trans (hch4.below0 hbw3.size)
          have hsz4 := hbw4.size
          clear hI3 hit3 hbw3 g6'
          go_wp2_with fail
          refine (wstring_any w.heap.size w.heap.size _ _ _ hI4 (by rw [Lib.byteCells_length]; show _ + 6 ≤ _; omega) hsz4).mono ?_
          rintro e' w5 ⟨rfl, h5, b5, k5⟩
          go_wp2_with fail
          go_roundg (l.length - (i + n) + 1)
          case measure => rw [← hG.out]; omega
          case rel =>
            refine ⟨i + n, k', acc ++ qR r, ?_, k5.iter hit4 (by omega), hbw4.trans b5, ?_, HV.out, by omega, by omega, by rw [List.length_append]; omega, rfl⟩
            · rw [hqe, Lib.byteCells_append]
              exact Or.inr h5
            · rw [← HQ1.out, List.append_assoc]
        · have hqe := qR_high hs (by omega)
          have h32' : ¬ ((r : Int) < 32) := by omega
          clear hs
          go_wp2_with fail
          refine (wrune_any w.heap.size w.heap.size _ (r : Int) (by omega) (by omega) _ hI2 (by rw [Lib.byteCells_length]; omega) hsz2).mono ?_
          rintro e' w3 ⟨rfl, h3, b3, k3⟩
          go_wp2_with fail
          go_roundg (l.length - (i + n) + 1)
          case measure => rw [← hG.out]; omega
          case rel =>
            refine ⟨i + n, k', acc ++ encN r, ?_, k3.iter hit2 (by omega), hbw2.trans b3, ?_, HV.out, by omega, by omega, by rw [← hqe, List.length_append]; omega, rfl⟩
            · rw [Lib.byteCells_append, ← encodeRune_encN r HD.out.1.2.2.2.2.1, Lib.byteCells_encodeRune]
              exact Or.inr h3
            · rw [← HQ1.out, hqe, List.append_assoc]
    · have hnx : ∀ ty, (Instr.next (.pointer (some ⟨w1.heap.size, 0, none⟩)) true ty).run Tryd.prog wr = _ := fun ty => Lib.run_next_end_at wr w1.heap.size ⟨l.toArray⟩ i ty hit (by rw [hsz]; exact hil)
      go_wp2_with fail
      refine (wbyte_any w.heap.size w.heap.size _ 34 _ hI (by rw [Lib.byteCells_length]; omega) hbw.size).mono ?_
      rintro e w3 ⟨rfl, h3, b3, k3⟩
      have hq := HQ.out
      rw [List.drop_eq_nil_of_le (by omega : l.length ≤ i)] at hq
      have hqn : qL k [] = [] := by cases k <;> rfl
      rw [hqn, List.append_nil] at hq
      have h3' : Lib.IsBuilderF 60 5 w.heap.size w.heap.size (Lib.byteCells (quoteJ l)) w3 := by
        have e : Lib.byteCells (quoteJ l) = Lib.byteCells acc ++ [.int .u8 34] := by
          unfold quoteJ
          rw [← hq, Lib.byteCells_append]
          rfl
        rw [e]; exact Or.inr h3
      go_wp2_with fail
      refine (Tryd.Builder_String_any_k w.heap.size w.heap.size (quoteJ l) _ h3' (by have := b3.size; have := hbw.size; omega)).mono ?_
      rintro e w4 ⟨rfl, _, b4, _⟩
      go_wp2_with fail
      go_ret
      exact ⟨rfl, (hbw.trans b3).trans b4⟩
end Go.Proofs.YtknmbfkpclacgaaDoor
