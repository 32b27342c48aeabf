/- Plain lemmas on encodings: 'dec' and the model's own decoder and encoder. -/
import Derived.Test.YtknmbfkpclacgaaDoorJa
import GoSem.Core.Utf8
import Derived.Lib.RuneBytes
set_option linter.unusedSimpArgs false
namespace Go.Proofs.YtknmbfkpclacgaaDoor

theorem get_at (l : List UInt8) (k : Nat) (h : k < l.length) : ((⟨l.toArray⟩ : ByteArray).get! k).toNat = (l[k]).toNat := by
  simp [ByteArray.get!, h]
theorem valid_nat (r : Nat) : Utf8.valid (r : Int) = validR r := by
  rw [Bool.eq_iff_iff]
  simp only [Utf8.valid, validR, Bool.or_eq_true, Bool.and_eq_true, decide_eq_true_eq]
  omega

/-- what 'dec' says of the bytes, case by case -/
theorem dec_cases (l : List UInt8) (r n : Nat) (h : dec l = some (r, n)) :
    (∃ a t, l = a :: t ∧ a.toNat < 128 ∧ r = a.toNat ∧ n = 1) ∨
    (∃ a b t, l = a :: b :: t ∧ 0xC2 ≤ a.toNat ∧ a.toNat < 0xE0 ∧ cb b = true ∧ r = (a.toNat % 32) * 64 + b.toNat % 64 ∧ n = 2) ∨
    (∃ a b c t, l = a :: b :: c :: t ∧ a.toNat / 16 = 14 ∧ cb b = true ∧ cb c = true ∧ r = (a.toNat % 16) * 4096 + (b.toNat % 64) * 64 + c.toNat % 64 ∧ 0x800 ≤ r ∧ validR r = true ∧ n = 3) ∨
    (∃ a b c d t, l = a :: b :: c :: d :: t ∧ a.toNat / 8 = 30 ∧ cb b = true ∧ cb c = true ∧ cb d = true ∧ r = (a.toNat % 8) * 262144 + (b.toNat % 64) * 4096 + (c.toNat % 64) * 64 + d.toNat % 64 ∧ 0x10000 ≤ r ∧ validR r = true ∧ n = 4) := by
  match l, h with
  | [], h => simp [dec] at h
  | a :: t, h =>
    by_cases ha : a.toNat < 128
    · simp [dec, ha] at h
      exact .inl ⟨a, t, rfl, ha, h.1.symm, h.2.symm⟩
    · match t, h with
      | [], h => simp [dec, ha] at h
      | b :: t2, h =>
        by_cases hb : cb b = true
        · by_cases h2 : 0xC2 ≤ a.toNat ∧ a.toNat < 0xE0
          · simp [dec, ha, hb, h2] at h
            exact .inr (.inl ⟨a, b, t2, rfl, h2.1, h2.2, hb, h.1.symm, h.2.symm⟩)
          · match t2, h with
            | [], h => simp [dec, ha, hb, h2] at h
            | c :: t3, h =>
              by_cases hc : cb c = true
              · by_cases h3 : a.toNat / 16 = 14
                · simp only [dec, ha, hb, h2, hc, h3, if_false, if_true, Bool.true_eq_false] at h
                  split at h
                  · rename_i hv
                    simp only [Option.some.injEq, Prod.mk.injEq] at h
                    obtain ⟨rfl, rfl⟩ := h
                    exact .inr (.inr (.inl ⟨a, b, c, t3, rfl, h3, hb, hc, rfl, hv.1, hv.2, rfl⟩))
                  · simp at h
                · match t3, h with
                  | [], h => simp [dec, ha, hb, h2, hc, h3] at h
                  | d :: t4, h =>
                    by_cases hd : cb d = true
                    · simp only [dec, ha, hb, h2, hc, h3, hd, if_false, Bool.true_eq_false] at h
                      split at h
                      · rename_i hv
                        simp only [Option.some.injEq, Prod.mk.injEq] at h
                        obtain ⟨rfl, rfl⟩ := h
                        exact .inr (.inr (.inr ⟨a, b, c, d, t4, rfl, hv.1, hb, hc, hd, rfl, hv.2.1, hv.2.2, rfl⟩))
                      · simp at h
                    · simp [dec, ha, hb, h2, hc, h3, hd] at h
              · simp [dec, ha, hb, h2, hc] at h
        · simp [dec, ha, hb] at h

theorem cb_iff (c : UInt8) : cb c = true ↔ c.toNat / 64 = 2 := by
  simp only [cb, Bool.and_eq_true, decide_eq_true_eq]; omega
theorem cb_iff' (c : UInt8) : (c.toNat / 64 == 2) = cb c := by
  rw [Bool.eq_iff_iff, cb_iff, beq_iff_eq]

/-- the model's decoder at the begin of a text -/
theorem decode_dec (l : List UInt8) (h : l ≠ []) : Utf8.decode ⟨l.toArray⟩ 0 = (dec l).getD (65533, 1) := by
  have hs : (⟨l.toArray⟩ : ByteArray).size = l.length := by simp [ByteArray.size]
  match l, h with
  | [a], _ =>
    have ha := a.toNat_lt
    simp only [Utf8.decode, hs, Nat.add_zero, Nat.zero_add, get_at [a] 0 (by simp), List.getElem_cons_zero, dec, List.length_singleton, Nat.lt_irrefl, decide_false, Bool.false_and, Bool.and_false, Utf8.runeError]
    by_cases h1 : a.toNat < 128
    · simp [h1]
    · simp [h1]
  | [a, b], _ =>
    have ha := a.toNat_lt
    simp only [Utf8.decode, hs, Nat.add_zero, Nat.zero_add, get_at [a, b] 0 (by simp), get_at [a, b] 1 (by simp), List.getElem_cons_zero, List.getElem_cons_succ, dec, List.length_cons, List.length_nil, Nat.reduceAdd, Nat.reduceLT, decide_true, Bool.true_and, decide_false, Bool.false_and, Bool.and_false, Utf8.runeError, cb_iff']
    by_cases h1 : a.toNat < 128
    · simp [h1]
    · by_cases hb : cb b = true
      · by_cases h2 : 0xC2 ≤ a.toNat ∧ a.toNat < 0xE0
        · have h2' : (a.toNat / 32 == 6) = true := by rw [beq_iff_eq]; omega
          have h2'' : 128 ≤ a.toNat % 32 * 64 + b.toNat % 64 := by omega
          simp [h1, hb, h2, h2', h2'']
        · by_cases h3 : (a.toNat / 32 == 6) = true
          · rw [beq_iff_eq] at h3
            have h2'' : ¬ 128 ≤ a.toNat % 32 * 64 + b.toNat % 64 := by omega
            simp [h1, hb, h2, h3, h2'']
          · simp [h1, hb, h2, h3]
      · simp [h1, hb]
  | [a, b, c], _ =>
    have ha := a.toNat_lt
    simp only [Utf8.decode, hs, Nat.add_zero, Nat.zero_add, get_at [a, b, c] 0 (by simp), get_at [a, b, c] 1 (by simp), get_at [a, b, c] 2 (by simp), List.getElem_cons_zero, List.getElem_cons_succ, dec, List.length_cons, List.length_nil, Nat.reduceAdd, Nat.reduceLT, decide_true, Bool.true_and, decide_false, Bool.false_and, Bool.and_false, Utf8.runeError, cb_iff', valid_nat]
    by_cases h1 : a.toNat < 128
    · simp [h1]
    · by_cases hb : cb b = true
      · by_cases h2 : 0xC2 ≤ a.toNat ∧ a.toNat < 0xE0
        · have h2' : (a.toNat / 32 == 6) = true := by rw [beq_iff_eq]; omega
          have h2'' : 128 ≤ a.toNat % 32 * 64 + b.toNat % 64 := by omega
          simp [h1, hb, h2, h2', h2'']
        · by_cases h3 : (a.toNat / 32 == 6) = true
          · rw [beq_iff_eq] at h3
            have h2'' : ¬ 128 ≤ a.toNat % 32 * 64 + b.toNat % 64 := by omega
            have h4 : ¬ a.toNat / 16 = 14 := by omega
            by_cases hc : cb c = true <;> simp [h1, hb, h2, h3, h2'', h4, hc]
          · by_cases hc : cb c = true
            · by_cases h4 : a.toNat / 16 = 14
              · simp only [h1, hb, h2, h3, h4, hc, if_false, if_true, Bool.and_true, Bool.true_and, beq_self_eq_true, Bool.false_and, Bool.false_eq_true, Bool.true_eq_false, Bool.and_eq_true, decide_eq_true_eq, ge_iff_le]
                split <;> simp
              · simp [h1, hb, h2, h3, h4, hc]
            · simp [h1, hb, h2, h3, hc]
      · simp [h1, hb]
  | a :: b :: c :: d :: t, _ =>
    have ha := a.toNat_lt
    simp only [Utf8.decode, hs, Nat.add_zero, Nat.zero_add, get_at (a :: b :: c :: d :: t) 0 (by simp), get_at (a :: b :: c :: d :: t) 1 (by simp), get_at (a :: b :: c :: d :: t) 2 (by simp), get_at (a :: b :: c :: d :: t) 3 (by simp), List.getElem_cons_zero, List.getElem_cons_succ, dec, List.length_cons, Utf8.runeError, cb_iff', valid_nat,
      show (1 < t.length + 1 + 1 + 1 + 1) = True from by simp, show (2 < t.length + 1 + 1 + 1 + 1) = True from by simp, show (3 < t.length + 1 + 1 + 1 + 1) = True from by simp, decide_true, Bool.true_and]
    by_cases h1 : a.toNat < 128
    · simp [h1]
    · by_cases hb : cb b = true
      · by_cases h2 : 0xC2 ≤ a.toNat ∧ a.toNat < 0xE0
        · have h2' : (a.toNat / 32 == 6) = true := by rw [beq_iff_eq]; omega
          have h2'' : 128 ≤ a.toNat % 32 * 64 + b.toNat % 64 := by omega
          simp [h1, hb, h2, h2', h2'']
        · by_cases h3 : (a.toNat / 32 == 6) = true
          · rw [beq_iff_eq] at h3
            have h2'' : ¬ 128 ≤ a.toNat % 32 * 64 + b.toNat % 64 := by omega
            have h4 : ¬ a.toNat / 16 = 14 := by omega
            have h5 : ¬ a.toNat / 8 = 30 := by omega
            by_cases hc : cb c = true <;> by_cases hd : cb d = true <;> simp [h1, hb, h2, h3, h2'', h4, hc, hd, h5]
          · by_cases hc : cb c = true
            · by_cases h4 : a.toNat / 16 = 14
              · simp only [h1, hb, h2, h3, h4, hc, if_false, if_true, Bool.and_true, Bool.true_and, beq_self_eq_true, Bool.false_and, Bool.false_eq_true, Bool.true_eq_false, Bool.and_eq_true, decide_eq_true_eq, ge_iff_le]
                split <;> simp
              · by_cases hd : cb d = true
                · by_cases h5 : a.toNat / 8 = 30
                  · simp only [h1, hb, h2, h3, h4, hc, hd, h5, if_false, if_true, Bool.and_true, Bool.true_and, beq_self_eq_true, Bool.false_and, Bool.false_eq_true, Bool.true_eq_false, Bool.and_eq_true, decide_eq_true_eq, ge_iff_le, beq_iff_eq, true_and]
                    split <;> simp
                  · simp [h1, hb, h2, h3, h4, hc, hd, h5]
                · simp [h1, hb, h2, h3, h4, hc, hd]
            · simp [h1, hb, h2, h3, hc]
      · simp [h1, hb]

theorem ofNat_eq {c : UInt8} {n : Nat} (h : n = c.toNat) : UInt8.ofNat n = c := by subst h; simp
theorem validR_lt {r : Nat} (h : validR r = true) : r ≤ 0x10FFFF := by
  simp only [validR, Bool.or_eq_true, Bool.and_eq_true, decide_eq_true_eq] at h; omega
/-- what a whole step says: the bytes are the rune's encoding -/
theorem dec_enc (l : List UInt8) (r n : Nat) (h : dec l = some (r, n)) : l.take n = encN r ∧ 1 ≤ n ∧ n ≤ 4 ∧ n ≤ l.length ∧ validR r = true ∧ (encN r).length = n := by
  rcases dec_cases l r n h with ⟨a, t, rfl, h1, rfl, rfl⟩ | ⟨a, b, t, rfl, h1, h2, hb, rfl, rfl⟩ | ⟨a, b, c, t, rfl, h1, hb, hc, hr, h2, hv, rfl⟩ | ⟨a, b, c, d, t, rfl, h1, hb, hc, hd, hr, h2, hv, rfl⟩
  · refine ⟨?_, by omega, by omega, by simp, ?_, ?_⟩
    · simp [encN, h1]
    · simp only [validR, Bool.or_eq_true, decide_eq_true_eq]; omega
    · simp [encN, h1]
  · have hb' := (cb_iff b).1 hb
    have e1 : ¬ a.toNat % 32 * 64 + b.toNat % 64 < 128 := by omega
    have e2 : a.toNat % 32 * 64 + b.toNat % 64 < 2048 := by omega
    refine ⟨?_, by omega, by omega, by simp, ?_, ?_⟩
    · simp only [encN, if_neg e1, if_pos e2, List.take_succ_cons, List.take_zero, List.cons.injEq, and_true]
      exact ⟨(ofNat_eq (by omega)).symm, (ofNat_eq (by omega)).symm⟩
    · simp only [validR, Bool.or_eq_true, decide_eq_true_eq]; omega
    · simp [encN, if_neg e1, if_pos e2]
  · have hb' := (cb_iff b).1 hb
    have hc' := (cb_iff c).1 hc
    have ha := a.toNat_lt
    have e1 : ¬ r < 128 := by omega
    have e2 : ¬ r < 2048 := by omega
    have e3 : r < 65536 := by omega
    refine ⟨?_, by omega, by omega, by simp, hv, ?_⟩
    · simp only [encN, if_neg e1, if_neg e2, if_pos e3, List.take_succ_cons, List.take_zero, List.cons.injEq, and_true]
      exact ⟨(ofNat_eq (by omega)).symm, (ofNat_eq (by omega)).symm, (ofNat_eq (by omega)).symm⟩
    · simp [encN, if_neg e1, if_neg e2, if_pos e3]
  · have hb' := (cb_iff b).1 hb
    have hc' := (cb_iff c).1 hc
    have hd' := (cb_iff d).1 hd
    have ha := a.toNat_lt
    have e1 : ¬ r < 128 := by omega
    have e2 : ¬ r < 2048 := by omega
    have e3 : ¬ r < 65536 := by omega
    refine ⟨?_, by omega, by omega, by simp, hv, ?_⟩
    · simp only [encN, if_neg e1, if_neg e2, if_neg e3, List.take_succ_cons, List.take_zero, List.cons.injEq, and_true]
      exact ⟨(ofNat_eq (by omega)).symm, (ofNat_eq (by omega)).symm, (ofNat_eq (by omega)).symm, (ofNat_eq (by omega)).symm⟩
    · simp [encN, if_neg e1, if_neg e2, if_neg e3]
/-- an encoding begins with the rune's step -/
theorem enc_dec (r : Nat) (hv : validR r = true) (t : List UInt8) : dec (encN r ++ t) = some (r, (encN r).length) := by
  have hr := validR_lt hv
  have hv' := hv
  simp only [validR, Bool.or_eq_true, Bool.and_eq_true, decide_eq_true_eq] at hv
  have hof : ∀ n : Nat, n < 256 → (UInt8.ofNat n).toNat = n := fun n h => by rw [UInt8.toNat_ofNat']; omega
  unfold encN
  by_cases e1 : r < 128
  · simp only [if_pos e1, List.cons_append, List.nil_append, dec, hof r (by omega), List.length_singleton]
  · by_cases e2 : r < 2048
    · have hb : cb (UInt8.ofNat (0x80 + r % 64)) = true := (cb_iff _).2 (by rw [hof _ (by omega)]; omega)
      simp only [if_neg e1, if_pos e2, List.cons_append, List.nil_append, dec, hb, hof (0xC0 + r / 64) (by omega), hof (0x80 + r % 64) (by omega), List.length_cons, List.length_nil]
      rw [if_neg (by omega), if_neg (by simp), if_pos (by omega)]
      rw [show (0xC0 + r / 64) % 32 * 64 + (0x80 + r % 64) % 64 = r from by omega]
    · by_cases e3 : r < 65536
      · have hb : cb (UInt8.ofNat (0x80 + r / 64 % 64)) = true := (cb_iff _).2 (by rw [hof _ (by omega)]; omega)
        have hc : cb (UInt8.ofNat (0x80 + r % 64)) = true := (cb_iff _).2 (by rw [hof _ (by omega)]; omega)
        have hx : (0xE0 + r / 4096) % 16 * 4096 + (0x80 + r / 64 % 64) % 64 * 64 + (0x80 + r % 64) % 64 = r := by omega
        simp only [if_neg e1, if_neg e2, if_pos e3, List.cons_append, List.nil_append, dec, hb, hc, hof (0xE0 + r / 4096) (by omega), hof (0x80 + r / 64 % 64) (by omega), hof (0x80 + r % 64) (by omega), List.length_cons, List.length_nil, hx]
        rw [if_neg (by omega), if_neg (by simp), if_neg (by omega), if_neg (by simp), if_pos (by omega), if_pos ⟨by omega, hv'⟩]
      · have hb : cb (UInt8.ofNat (0x80 + r / 4096 % 64)) = true := (cb_iff _).2 (by rw [hof _ (by omega)]; omega)
        have hc : cb (UInt8.ofNat (0x80 + r / 64 % 64)) = true := (cb_iff _).2 (by rw [hof _ (by omega)]; omega)
        have hd : cb (UInt8.ofNat (0x80 + r % 64)) = true := (cb_iff _).2 (by rw [hof _ (by omega)]; omega)
        have hx : (0xF0 + r / 262144) % 8 * 262144 + (0x80 + r / 4096 % 64) % 64 * 4096 + (0x80 + r / 64 % 64) % 64 * 64 + (0x80 + r % 64) % 64 = r := by omega
        simp only [if_neg e1, if_neg e2, if_neg e3, List.cons_append, List.nil_append, dec, hb, hc, hd, hof (0xF0 + r / 262144) (by omega), hof (0x80 + r / 4096 % 64) (by omega), hof (0x80 + r / 64 % 64) (by omega), hof (0x80 + r % 64) (by omega), List.length_cons, List.length_nil, hx]
        rw [if_neg (by omega), if_neg (by simp), if_neg (by omega), if_neg (by simp), if_neg (by omega), if_neg (by simp), if_pos ⟨by omega, by omega, hv'⟩]
theorem encode_encN (r : Nat) (hv : validR r = true) : Utf8.encode (r : Int) = ⟨(encN r).toArray⟩ := by
  unfold Utf8.encode encN
  rw [valid_nat, hv]
  simp only [if_true, Int.toNat_natCast]
  split
  · rfl
  · split
    · rfl
    · split <;> rfl
theorem encodeRune_encN (r : Nat) (hv : validR r = true) : Lib.encodeRune (r : Int) = encN r := by
  have hr := validR_lt hv
  simp only [validR, Bool.or_eq_true, Bool.and_eq_true, decide_eq_true_eq] at hv
  have hto : ∀ n : Nat, n.toUInt8 = UInt8.ofNat n := fun n => rfl
  unfold Lib.encodeRune encN
  by_cases e1 : r < 128
  · rw [if_pos e1, Lib.encodeRuneZ_one (by omega) (by omega)]; simp [hto]
  · by_cases e2 : r < 2048
    · rw [if_neg e1, if_pos e2, Lib.encodeRuneZ_two (by omega) (by omega)]
      simp only [List.map_cons, List.map_nil, hto]
      rw [show ((192 : Int) + (r : Int) / 64).toNat = 0xC0 + r / 64 from by omega, show ((128 : Int) + (r : Int) % 64).toNat = 0x80 + r % 64 from by omega]
    · by_cases e3 : r < 65536
      · rw [if_neg e1, if_neg e2, if_pos e3, Lib.encodeRuneZ_three (by omega)]
        simp only [List.map_cons, List.map_nil, hto]
        rw [show ((224 : Int) + (r : Int) / 4096).toNat = 0xE0 + r / 4096 from by omega, show ((128 : Int) + (r : Int) / 64 % 64).toNat = 0x80 + r / 64 % 64 from by omega, show ((128 : Int) + (r : Int) % 64).toNat = 0x80 + r % 64 from by omega]
      · rw [if_neg e1, if_neg e2, if_neg e3, Lib.encodeRuneZ_four (by omega) (by omega)]
        simp only [List.map_cons, List.map_nil, hto]
        rw [show ((240 : Int) + (r : Int) / 262144).toNat = 0xF0 + r / 262144 from by omega, show ((128 : Int) + (r : Int) / 4096 % 64).toNat = 0x80 + r / 4096 % 64 from by omega, show ((128 : Int) + (r : Int) / 64 % 64).toNat = 0x80 + r / 64 % 64 from by omega, show ((128 : Int) + (r : Int) % 64).toNat = 0x80 + r % 64 from by omega]
/-- the rune FFFD is a whole step just where its encoding begins -/
theorem dec_fffd (l : List UInt8) : l.take 3 = [239, 191, 189] ↔ ∃ n, dec l = some (65533, n) := by
  constructor
  · intro h
    refine ⟨3, ?_⟩
    have e : encN 65533 = [239, 191, 189] := by decide
    have := enc_dec 65533 (by decide) (l.drop 3)
    rw [e, ← h, List.take_append_drop] at this
    rw [this, h]; rfl
  · rintro ⟨n, h⟩
    obtain ⟨h1, _, _, _, _, h6⟩ := dec_enc l _ _ h
    have e : encN 65533 = [239, 191, 189] := by decide
    rw [e] at h1 h6
    simp at h6
    rw [h6]; exact h1
theorem dec_take4 (l : List UInt8) : dec (l.take 4) = dec l := by
  match l with
  | [] => rfl
  | [_] => rfl
  | [_, _] => rfl
  | [_, _, _] => rfl
  | a :: b :: c :: d :: t => simp [dec]
end Go.Proofs.YtknmbfkpclacgaaDoor
