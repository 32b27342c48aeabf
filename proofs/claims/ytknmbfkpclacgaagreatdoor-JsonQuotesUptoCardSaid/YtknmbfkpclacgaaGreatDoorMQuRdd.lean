import Derived.Test.YtknmbfkpclacgaaGreatDoorMQu2
/- The JSON reader's method number. -/
set_option linter.unusedSimpArgs false
namespace Go.Proofs.YtknmbfkpclacgaaGreatDoor
open Go.RowKit

theorem drop_at (l : List UInt8) (j : Nat) (h : j < l.length) : l.drop j = pk l j :: l.drop (j + 1) := by
  rw [List.drop_eq_getElem_cons h]
  simp [pk, List.getD_eq_getElem?_getD, List.getElem?_eq_getElem h]
theorem digs_step (l : List UInt8) (j n : Nat) (h : j < l.length) (hd : isDig (pk l j) = true) : digs (l.drop j) n = digs (l.drop (j + 1)) (min (10 * n + ((pk l j).toNat - 48)) 9007199254740992) := by
  rw [drop_at l j h]; simp [digs, hd]
theorem digs_stop (l : List UInt8) (j n : Nat) (hd : isDig (pk l j) = false) : digs (l.drop j) n = n := by
  rcases Nat.lt_or_ge j l.length with h | h
  · rw [drop_at l j h]; simp [digs, hd]
  · rw [List.drop_eq_nil_of_le h]; rfl
theorem nDigs_step (l : List UInt8) (j : Nat) (h : j < l.length) (hd : isDig (pk l j) = true) : nDigs (l.drop j) = nDigs (l.drop (j + 1)) + 1 := by
  rw [drop_at l j h]; simp [nDigs, hd]
theorem nDigs_stop (l : List UInt8) (j : Nat) (hd : isDig (pk l j) = false) : nDigs (l.drop j) = 0 := by
  rcases Nat.lt_or_ge j l.length with h | h
  · rw [drop_at l j h]; simp [nDigs, hd]
  · rw [List.drop_eq_nil_of_le h]; rfl
theorem isDig_lt (l : List UInt8) (j : Nat) (hd : isDig (pk l j) = true) : j < l.length := by
  rcases Nat.lt_or_ge j l.length with h | h
  · exact h
  · rw [pk_out l j (by omega)] at hd; simp [isDig] at hd
theorem isDig_bd (c : UInt8) (hd : isDig c = true) : 48 ≤ (c.toNat : Int) ∧ (c.toNat : Int) ≤ 57 := by
  simp only [isDig, Bool.and_eq_true, decide_eq_true_eq] at hd; omega

/-- The number's loop: from its first digit on. -/
def NumPost (l : List UInt8) (i f : Nat) (below : Bool) (rb : Nat) (bv tv : Value) (dp : Nat) (w : World) (e : Ending) (w' : World) : Prop :=
  if nDigs (l.drop f) = 0 ∨ (1 < nDigs (l.drop f) ∧ pk l f = 48) ∨ (below = true ∧ digs (l.drop f) 0 = 0) ∨ 9007199254740991 < digs (l.drop f) 0 ∨ pk l (f + nDigs (l.drop f)) = 46 ∨ pk l (f + nDigs (l.drop f)) = 101 ∨ pk l (f + nDigs (l.drop f)) = 69 then
    NoEnd i 242 e ∧ Chg (· = rb) w w'
  else e = .returned (.int .i64 (if below then -(digs (l.drop f) 0 : Int) else (digs (l.drop f) 0 : Int))) ∧ Rd w' rb bv (f + nDigs (l.drop f)) dp tv ∧ Chg (· = rb) w w'
theorem num_err {l : List UInt8} {i f : Nat} {below : Bool} {rb : Nat} {bv tv : Value} {dp : Nat} {w : World} {w' : World}
    (h : nDigs (l.drop f) = 0 ∨ (1 < nDigs (l.drop f) ∧ pk l f = 48) ∨ (below = true ∧ digs (l.drop f) 0 = 0) ∨ 9007199254740991 < digs (l.drop f) 0 ∨ pk l (f + nDigs (l.drop f)) = 46 ∨ pk l (f + nDigs (l.drop f)) = 101 ∨ pk l (f + nDigs (l.drop f)) = 69)
    (hc : Chg (· = rb) w w') : NumPost l i f below rb bv tv dp w (.panicked [{ v := fltV i 242, recovered := false }]) w' := by
  unfold NumPost; rw [if_pos h]; exact ⟨rfl, hc⟩

set_option maxRecDepth 100000 in
set_option maxHeartbeats 16000000 in
theorem number_false (rb : Nat) (A : Option Addr) (cap : Nat) (tv : Value) (l : List UInt8) (i dp : Nat) (B : Nat) (w : World) (hst : St w B rb A cap l i dp tv) (hbl : (pk l i == 45) = false) (hil : i < l.length) :
    Calls Tryz.prog 111 #[.pointer (some ⟨rb, 0, none⟩)] w (NumPost l i i false rb (.slice A l.length cap) tv dp w) := by
  have hln := hst.b.len
  have c1 := hst.r.c1
  have tb : (((pk l i).toNat : Int) == 45) = false := by
    rw [← hbl, Bool.eq_iff_iff]
    rw [show ((((pk l i).toNat : Int) == 45) = true ↔ _) from u8_eq (pk l i) 45 (by omega)]
    simp
  clear hbl
  go_enter Tryz.func111, Tryz.ntmps111
  go_wp2_with fail
  refine (peek_any rb A cap tv l i dp B _ hst.r hst.b).mono ?_
  rintro e w1 ⟨rfl, hd1⟩
  have hst1 := hst.drawn hd1
  have hch1 : Chg (· = rb) w w1 := hd1.chg
  have c1' := hst1.r.c1
  have f1' := hst1.r.f 1
  have HS2 := Lib.hid hst1
  have HC2 := Lib.hid hch1
  go_wp2_with fail
  go_loopg [6] (l.length - i + 1) (fun g vn wr => ∃ j n : Nat, vn = .int .i64 n ∧ n ≤ 9007199254740992 ∧ i ≤ j ∧ j ≤ l.length ∧ St wr B rb A cap l j dp tv ∧ Chg (· = rb) w wr ∧ digs (l.drop j) n = digs (l.drop i) 0 ∧ nDigs (l.drop i) = (j - i) + nDigs (l.drop j) ∧ l.length - j + 1 = g)
  case atStart => exact ⟨i, 0, rfl, by omega, Nat.le_refl _, by omega, HS2.out, HC2.out, rfl, by omega, rfl⟩
  case round =>
    obtain ⟨j, n, rfl, hn, hj1, hj2, hstJ, hchJ, hdg, hnd, hg⟩ := hrel
    have HDG := Lib.hid hdg
    have HND := Lib.hid hnd
    have HG := Lib.hid hg
    have HN := Lib.hid hn
    clear hdg hnd hg hn
    go_wp2_with fail
    refine (digit_any rb A cap tv l j dp B _ hstJ.r hstJ.b).mono ?_
    rintro e w3 ⟨rfl, hd3⟩
    have hst3 := hstJ.drawn hd3
    have hch3 : Chg (· = rb) w w3 := hchJ.trans hd3.chg
    have hpr := pk_range l j
    cases hdig : isDig (pk l j) with
    | true =>
      have hjl := isDig_lt l j hdig
      have hbd := isDig_bd _ hdig
      have hn9 : n ≤ 90071992547409920 := by have := HN.out; omega
      have HDIG := Lib.hid hdig
      clear hdig
      go_wp2_with fail
      refine (peek_any rb A cap tv l j dp B _ hst3.r hst3.b).mono ?_
      rintro e w4 ⟨rfl, hd4⟩
      have hst4 := hst3.drawn hd4
      have hch4 : Chg (· = rb) w w4 := hch3.trans hd4.chg
      have d1 := hst4.r.c1
      have g1 := hst4.r.f 1
      go_wp2_with fail
      all_goals
        go_roundg (l.length - (j + 1) + 1)
        case measure => rw [← HG.out]; omega
        case rel =>
          refine ⟨j + 1, min (10 * n + ((pk l j).toNat - 48)) 9007199254740992, int_i64 (by omega), by omega, by omega, by omega, hst4.to (hst4.r.set1 (j + 1)) ((Chg.refl _ _).st _ _), hch4.st _ _, ?_, ?_, rfl⟩
          · rw [← HDG.out, digs_step l j n hjl HDIG.out]
          · rw [HND.out, nDigs_step l j hjl HDIG.out]; omega
    | false =>
      have e1 : digs (l.drop i) 0 = n := by rw [← HDG.out, digs_stop l j n hdig]
      have e2 : nDigs (l.drop i) = j - i := by rw [HND.out, nDigs_stop l j hdig]; omega
      have HX1 := Lib.hid e1
      have HX2 := Lib.hid e2
      have HX3 : Hid (i + (j - i) = j) := by show i + (j - i) = j; omega
      clear e1 e2 hdig HDG HND
      have d1 := hst3.r.c1
      go_wp2_with fail
      refine (peek_any rb A cap tv l j dp B _ hst3.r hst3.b).mono ?_
      rintro e w5 ⟨rfl, hd5⟩
      have hst5 := hst3.drawn hd5
      have hchE : Chg (· = rb) w w5 := hch3.trans hd5.chg
      have e0 := hst5.r.c0
      by_cases h1 : j = i
      · have t1 : ((j : Int) - (i : Int) == 0) = true := by rw [beq_iff_eq]; omega
        have H1 := Lib.hid h1
        clear h1
        go_wp2_with fail
        refine (no_any _ _ _ _).mono ?_
        rintro e w9 ⟨rfl, rfl⟩
        exact ⟨rfl, num_err (by rw [HX1.out, HX2.out]; exact .inl (by have := H1.out; omega)) hchE⟩
      · have t1 : ((j : Int) - (i : Int) == 0) = false := by rw [beq_eq_false_iff_ne]; omega
        have hlt : i < l.length := by omega
        obtain ⟨b, o, rfl, hne, hc⟩ := hst5.b.cells (by omega)
        have cf := hc i hlt
        have hprf := pk_range l (i)
        clear hc
        by_cases h2 : 1 < j - i ∧ pk l (i) = 48
        · have t2 : decide ((1 : Int) < (j : Int) - (i : Int)) = true := by simp; omega
          have t3 : (((pk l (i)).toNat : Int) == 48) = true := (u8_eq _ 48 (by omega)).2 h2.2
          have H2 := Lib.hid h2
          clear h2
          go_wp2_with fail
          refine (no_any _ _ _ _).mono ?_
          rintro e w9 ⟨rfl, rfl⟩
          exact ⟨rfl, num_err (by rw [HX1.out, HX2.out]; exact .inr (.inl H2.out)) hchE⟩
        · have hn9 : n ≤ 90071992547409920 := by have := HN.out; omega
          have H2 := Lib.hid h2
          rcases Nat.lt_or_ge 1 (j - i) with h6 | h6
          · have t2 : decide ((1 : Int) < (j : Int) - (i : Int)) = true := by simp; omega
            have t3 : (((pk l (i)).toNat : Int) == 48) = false := by rw [← Bool.not_eq_true]; intro h; exact h2 ⟨h6, (u8_eq _ 48 (by omega)).1 h⟩
            clear h2 h6
            by_cases h4 : 9007199254740991 < n
            · have t5 : decide ((9007199254740991 : Int) < (n : Int)) = true := by rw [decide_eq_true_eq]; omega
              have H4 := Lib.hid h4
              clear h4 hn9
              go_wp2_with fail
              refine (no_any _ _ _ _).mono ?_
              rintro e w9 ⟨rfl, rfl⟩
              exact ⟨rfl, num_err (by rw [HX1.out, HX2.out]; exact .inr (.inr (.inr (.inl H4.out)))) hchE⟩
            · have t5 : decide ((9007199254740991 : Int) < (n : Int)) = false := by rw [decide_eq_false_iff_not]; omega
              have H4 := Lib.hid h4
              clear h4 hn9
              by_cases hq46 : pk l j = 46
              · have tq46 : (((pk l j).toNat : Int) == 46) = true := (u8_eq _ 46 (by omega)).2 hq46
                have HQ := Lib.hid hq46
                clear hq46
                go_wp2_with fail
                refine (no_any _ _ _ _).mono ?_
                rintro e w9 ⟨rfl, rfl⟩
                exact ⟨rfl, num_err (by rw [HX1.out, HX2.out]; have HC := HQ.out; rw [← HX3.out] at HC; exact .inr (.inr (.inr (.inr (.inl HC))))) hchE⟩
              · have tq46 : (((pk l j).toNat : Int) == 46) = false := by rw [← Bool.not_eq_true]; intro h; exact hq46 ((u8_eq _ 46 (by omega)).1 h)
                have HQ46 := Lib.hid hq46
                clear hq46
                by_cases hq101 : pk l j = 101
                · have tq101 : (((pk l j).toNat : Int) == 101) = true := (u8_eq _ 101 (by omega)).2 hq101
                  have HQ := Lib.hid hq101
                  clear hq101
                  go_wp2_with fail
                  refine (no_any _ _ _ _).mono ?_
                  rintro e w9 ⟨rfl, rfl⟩
                  exact ⟨rfl, num_err (by rw [HX1.out, HX2.out]; have HC := HQ.out; rw [← HX3.out] at HC; exact .inr (.inr (.inr (.inr (.inr (.inl HC)))))) hchE⟩
                · have tq101 : (((pk l j).toNat : Int) == 101) = false := by rw [← Bool.not_eq_true]; intro h; exact hq101 ((u8_eq _ 101 (by omega)).1 h)
                  have HQ101 := Lib.hid hq101
                  clear hq101
                  by_cases hq69 : pk l j = 69
                  · have tq69 : (((pk l j).toNat : Int) == 69) = true := (u8_eq _ 69 (by omega)).2 hq69
                    have HQ := Lib.hid hq69
                    clear hq69
                    go_wp2_with fail
                    refine (no_any _ _ _ _).mono ?_
                    rintro e w9 ⟨rfl, rfl⟩
                    exact ⟨rfl, num_err (by rw [HX1.out, HX2.out]; have HC := HQ.out; rw [← HX3.out] at HC; exact .inr (.inr (.inr (.inr (.inr (.inr HC)))))) hchE⟩
                  · have tq69 : (((pk l j).toNat : Int) == 69) = false := by rw [← Bool.not_eq_true]; intro h; exact hq69 ((u8_eq _ 69 (by omega)).1 h)
                    have HQ69 := Lib.hid hq69
                    clear hq69
                    go_wp2_with fail
                    go_ret
                    unfold NumPost
                    rw [HX1.out, HX2.out, HX3.out, if_neg (by
                      rintro (h | h | h | h | h | h | h)
                      · have := HX3.out; omega
                      · exact H2.out h
                      · simp at h
                      · exact H4.out h
                      · exact HQ46.out h
                      · exact HQ101.out h
                      · exact HQ69.out h)]
                    exact ⟨rfl, hst5.r, hchE⟩
          · have t2 : decide ((1 : Int) < (j : Int) - (i : Int)) = false := by simp; omega
            clear h2 h6
            by_cases h4 : 9007199254740991 < n
            · have t5 : decide ((9007199254740991 : Int) < (n : Int)) = true := by rw [decide_eq_true_eq]; omega
              have H4 := Lib.hid h4
              clear h4 hn9
              go_wp2_with fail
              refine (no_any _ _ _ _).mono ?_
              rintro e w9 ⟨rfl, rfl⟩
              exact ⟨rfl, num_err (by rw [HX1.out, HX2.out]; exact .inr (.inr (.inr (.inl H4.out)))) hchE⟩
            · have t5 : decide ((9007199254740991 : Int) < (n : Int)) = false := by rw [decide_eq_false_iff_not]; omega
              have H4 := Lib.hid h4
              clear h4 hn9
              by_cases hq46 : pk l j = 46
              · have tq46 : (((pk l j).toNat : Int) == 46) = true := (u8_eq _ 46 (by omega)).2 hq46
                have HQ := Lib.hid hq46
                clear hq46
                go_wp2_with fail
                refine (no_any _ _ _ _).mono ?_
                rintro e w9 ⟨rfl, rfl⟩
                exact ⟨rfl, num_err (by rw [HX1.out, HX2.out]; have HC := HQ.out; rw [← HX3.out] at HC; exact .inr (.inr (.inr (.inr (.inl HC))))) hchE⟩
              · have tq46 : (((pk l j).toNat : Int) == 46) = false := by rw [← Bool.not_eq_true]; intro h; exact hq46 ((u8_eq _ 46 (by omega)).1 h)
                have HQ46 := Lib.hid hq46
                clear hq46
                by_cases hq101 : pk l j = 101
                · have tq101 : (((pk l j).toNat : Int) == 101) = true := (u8_eq _ 101 (by omega)).2 hq101
                  have HQ := Lib.hid hq101
                  clear hq101
                  go_wp2_with fail
                  refine (no_any _ _ _ _).mono ?_
                  rintro e w9 ⟨rfl, rfl⟩
                  exact ⟨rfl, num_err (by rw [HX1.out, HX2.out]; have HC := HQ.out; rw [← HX3.out] at HC; exact .inr (.inr (.inr (.inr (.inr (.inl HC)))))) hchE⟩
                · have tq101 : (((pk l j).toNat : Int) == 101) = false := by rw [← Bool.not_eq_true]; intro h; exact hq101 ((u8_eq _ 101 (by omega)).1 h)
                  have HQ101 := Lib.hid hq101
                  clear hq101
                  by_cases hq69 : pk l j = 69
                  · have tq69 : (((pk l j).toNat : Int) == 69) = true := (u8_eq _ 69 (by omega)).2 hq69
                    have HQ := Lib.hid hq69
                    clear hq69
                    go_wp2_with fail
                    refine (no_any _ _ _ _).mono ?_
                    rintro e w9 ⟨rfl, rfl⟩
                    exact ⟨rfl, num_err (by rw [HX1.out, HX2.out]; have HC := HQ.out; rw [← HX3.out] at HC; exact .inr (.inr (.inr (.inr (.inr (.inr HC)))))) hchE⟩
                  · have tq69 : (((pk l j).toNat : Int) == 69) = false := by rw [← Bool.not_eq_true]; intro h; exact hq69 ((u8_eq _ 69 (by omega)).1 h)
                    have HQ69 := Lib.hid hq69
                    clear hq69
                    go_wp2_with fail
                    go_ret
                    unfold NumPost
                    rw [HX1.out, HX2.out, HX3.out, if_neg (by
                      rintro (h | h | h | h | h | h | h)
                      · have := HX3.out; omega
                      · exact H2.out h
                      · simp at h
                      · exact H4.out h
                      · exact HQ46.out h
                      · exact HQ101.out h
                      · exact HQ69.out h)]
                    exact ⟨rfl, hst5.r, hchE⟩

set_option maxRecDepth 100000 in
set_option maxHeartbeats 16000000 in
theorem number_true (rb : Nat) (A : Option Addr) (cap : Nat) (tv : Value) (l : List UInt8) (i dp : Nat) (B : Nat) (w : World) (hst : St w B rb A cap l i dp tv) (hbl : (pk l i == 45) = true) (hil : i < l.length) :
    Calls Tryz.prog 111 #[.pointer (some ⟨rb, 0, none⟩)] w (NumPost l i (i + 1) true rb (.slice A l.length cap) tv dp w) := by
  have hln := hst.b.len
  have c1 := hst.r.c1
  have tb : (((pk l i).toNat : Int) == 45) = true := by
    rw [← hbl, Bool.eq_iff_iff]
    rw [show ((((pk l i).toNat : Int) == 45) = true ↔ _) from u8_eq (pk l i) 45 (by omega)]
    simp
  clear hbl
  go_enter Tryz.func111, Tryz.ntmps111
  go_wp2_with fail
  refine (peek_any rb A cap tv l i dp B _ hst.r hst.b).mono ?_
  rintro e w1 ⟨rfl, hd1⟩
  have hst1 := hst.drawn hd1
  have hch1 : Chg (· = rb) w w1 := hd1.chg
  have c1' := hst1.r.c1
  have f1' := hst1.r.f 1
  have hst2 : St (w1.setCell ⟨rb, 1, none⟩ (.int .i64 ((i : Int) + 1))) B rb A cap l (i + 1) dp tv := hst1.to (hst1.r.set1 (i + 1)) ((Chg.refl _ _).st _ _)
  have hch2 : Chg (· = rb) w (w1.setCell ⟨rb, 1, none⟩ (.int .i64 ((i : Int) + 1))) := hch1.st _ _
  have e1' := hst2.r.c1
  have HS2 := Lib.hid hst2
  have HC2 := Lib.hid hch2
  clear hst2 hch2
  go_wp2_with fail
  go_loopg [6] (l.length - (i + 1) + 1) (fun g vn wr => ∃ j n : Nat, vn = .int .i64 n ∧ n ≤ 9007199254740992 ∧ (i + 1) ≤ j ∧ j ≤ l.length ∧ St wr B rb A cap l j dp tv ∧ Chg (· = rb) w wr ∧ digs (l.drop j) n = digs (l.drop (i + 1)) 0 ∧ nDigs (l.drop (i + 1)) = (j - (i + 1)) + nDigs (l.drop j) ∧ l.length - j + 1 = g)
  case atStart => exact ⟨(i + 1), 0, rfl, by omega, Nat.le_refl _, by omega, HS2.out, HC2.out, rfl, by omega, rfl⟩
  case round =>
    obtain ⟨j, n, rfl, hn, hj1, hj2, hstJ, hchJ, hdg, hnd, hg⟩ := hrel
    have HDG := Lib.hid hdg
    have HND := Lib.hid hnd
    have HG := Lib.hid hg
    have HN := Lib.hid hn
    clear hdg hnd hg hn
    go_wp2_with fail
    refine (digit_any rb A cap tv l j dp B _ hstJ.r hstJ.b).mono ?_
    rintro e w3 ⟨rfl, hd3⟩
    have hst3 := hstJ.drawn hd3
    have hch3 : Chg (· = rb) w w3 := hchJ.trans hd3.chg
    have hpr := pk_range l j
    cases hdig : isDig (pk l j) with
    | true =>
      have hjl := isDig_lt l j hdig
      have hbd := isDig_bd _ hdig
      have hn9 : n ≤ 90071992547409920 := by have := HN.out; omega
      have HDIG := Lib.hid hdig
      clear hdig
      go_wp2_with fail
      refine (peek_any rb A cap tv l j dp B _ hst3.r hst3.b).mono ?_
      rintro e w4 ⟨rfl, hd4⟩
      have hst4 := hst3.drawn hd4
      have hch4 : Chg (· = rb) w w4 := hch3.trans hd4.chg
      have d1 := hst4.r.c1
      have g1 := hst4.r.f 1
      go_wp2_with fail
      all_goals
        go_roundg (l.length - (j + 1) + 1)
        case measure => rw [← HG.out]; omega
        case rel =>
          refine ⟨j + 1, min (10 * n + ((pk l j).toNat - 48)) 9007199254740992, int_i64 (by omega), by omega, by omega, by omega, hst4.to (hst4.r.set1 (j + 1)) ((Chg.refl _ _).st _ _), hch4.st _ _, ?_, ?_, rfl⟩
          · rw [← HDG.out, digs_step l j n hjl HDIG.out]
          · rw [HND.out, nDigs_step l j hjl HDIG.out]; omega
    | false =>
      have e1 : digs (l.drop (i + 1)) 0 = n := by rw [← HDG.out, digs_stop l j n hdig]
      have e2 : nDigs (l.drop (i + 1)) = j - (i + 1) := by rw [HND.out, nDigs_stop l j hdig]; omega
      have HX1 := Lib.hid e1
      have HX2 := Lib.hid e2
      have HX3 : Hid ((i + 1) + (j - (i + 1)) = j) := by show (i + 1) + (j - (i + 1)) = j; omega
      clear e1 e2 hdig HDG HND
      have d1 := hst3.r.c1
      go_wp2_with fail
      refine (peek_any rb A cap tv l j dp B _ hst3.r hst3.b).mono ?_
      rintro e w5 ⟨rfl, hd5⟩
      have hst5 := hst3.drawn hd5
      have hchE : Chg (· = rb) w w5 := hch3.trans hd5.chg
      have e0 := hst5.r.c0
      by_cases h1 : j = (i + 1)
      · have t1 : ((j : Int) - ((i : Int) + 1) == 0) = true := by rw [beq_iff_eq]; omega
        have H1 := Lib.hid h1
        clear h1
        go_wp2_with fail
        refine (no_any _ _ _ _).mono ?_
        rintro e w9 ⟨rfl, rfl⟩
        exact ⟨rfl, num_err (by rw [HX1.out, HX2.out]; exact .inl (by have := H1.out; omega)) hchE⟩
      · have t1 : ((j : Int) - ((i : Int) + 1) == 0) = false := by rw [beq_eq_false_iff_ne]; omega
        have hlt : (i + 1) < l.length := by omega
        obtain ⟨b, o, rfl, hne, hc⟩ := hst5.b.cells (by omega)
        have cf := hc (i + 1) hlt
        have hprf := pk_range l ((i + 1))
        clear hc
        by_cases h2 : 1 < j - (i + 1) ∧ pk l ((i + 1)) = 48
        · have t2 : decide ((1 : Int) < (j : Int) - ((i : Int) + 1)) = true := by simp; omega
          have t3 : (((pk l ((i + 1))).toNat : Int) == 48) = true := (u8_eq _ 48 (by omega)).2 h2.2
          have H2 := Lib.hid h2
          clear h2
          go_wp2_with fail
          refine (no_any _ _ _ _).mono ?_
          rintro e w9 ⟨rfl, rfl⟩
          exact ⟨rfl, num_err (by rw [HX1.out, HX2.out]; exact .inr (.inl H2.out)) hchE⟩
        · have hn9 : n ≤ 90071992547409920 := by have := HN.out; omega
          have H2 := Lib.hid h2
          rcases Nat.lt_or_ge 1 (j - (i + 1)) with h6 | h6
          · have t2 : decide ((1 : Int) < (j : Int) - ((i : Int) + 1)) = true := by simp; omega
            have t3 : (((pk l ((i + 1))).toNat : Int) == 48) = false := by rw [← Bool.not_eq_true]; intro h; exact h2 ⟨h6, (u8_eq _ 48 (by omega)).1 h⟩
            clear h2 h6
            by_cases h3 : n = 0
            · have t4 : ((n : Int) == 0) = true := by rw [beq_iff_eq]; omega
              have H3 := Lib.hid h3
              clear h3 hn9
              go_wp2_with fail
              refine (no_any _ _ _ _).mono ?_
              rintro e w9 ⟨rfl, rfl⟩
              exact ⟨rfl, num_err (by rw [HX1.out, HX2.out]; exact .inr (.inr (.inl ⟨rfl, H3.out⟩))) hchE⟩
            · have t4 : ((n : Int) == 0) = false := by rw [beq_eq_false_iff_ne]; omega
              have H3 := Lib.hid h3
              clear h3
              by_cases h4 : 9007199254740991 < n
              · have t5 : decide ((9007199254740991 : Int) < (n : Int)) = true := by rw [decide_eq_true_eq]; omega
                have H4 := Lib.hid h4
                clear h4 hn9
                go_wp2_with fail
                refine (no_any _ _ _ _).mono ?_
                rintro e w9 ⟨rfl, rfl⟩
                exact ⟨rfl, num_err (by rw [HX1.out, HX2.out]; exact .inr (.inr (.inr (.inl H4.out)))) hchE⟩
              · have t5 : decide ((9007199254740991 : Int) < (n : Int)) = false := by rw [decide_eq_false_iff_not]; omega
                have H4 := Lib.hid h4
                clear h4 hn9
                by_cases hq46 : pk l j = 46
                · have tq46 : (((pk l j).toNat : Int) == 46) = true := (u8_eq _ 46 (by omega)).2 hq46
                  have HQ := Lib.hid hq46
                  clear hq46
                  go_wp2_with fail
                  refine (no_any _ _ _ _).mono ?_
                  rintro e w9 ⟨rfl, rfl⟩
                  exact ⟨rfl, num_err (by rw [HX1.out, HX2.out]; have HC := HQ.out; rw [← HX3.out] at HC; exact .inr (.inr (.inr (.inr (.inl HC))))) hchE⟩
                · have tq46 : (((pk l j).toNat : Int) == 46) = false := by rw [← Bool.not_eq_true]; intro h; exact hq46 ((u8_eq _ 46 (by omega)).1 h)
                  have HQ46 := Lib.hid hq46
                  clear hq46
                  by_cases hq101 : pk l j = 101
                  · have tq101 : (((pk l j).toNat : Int) == 101) = true := (u8_eq _ 101 (by omega)).2 hq101
                    have HQ := Lib.hid hq101
                    clear hq101
                    go_wp2_with fail
                    refine (no_any _ _ _ _).mono ?_
                    rintro e w9 ⟨rfl, rfl⟩
                    exact ⟨rfl, num_err (by rw [HX1.out, HX2.out]; have HC := HQ.out; rw [← HX3.out] at HC; exact .inr (.inr (.inr (.inr (.inr (.inl HC)))))) hchE⟩
                  · have tq101 : (((pk l j).toNat : Int) == 101) = false := by rw [← Bool.not_eq_true]; intro h; exact hq101 ((u8_eq _ 101 (by omega)).1 h)
                    have HQ101 := Lib.hid hq101
                    clear hq101
                    by_cases hq69 : pk l j = 69
                    · have tq69 : (((pk l j).toNat : Int) == 69) = true := (u8_eq _ 69 (by omega)).2 hq69
                      have HQ := Lib.hid hq69
                      clear hq69
                      go_wp2_with fail
                      refine (no_any _ _ _ _).mono ?_
                      rintro e w9 ⟨rfl, rfl⟩
                      exact ⟨rfl, num_err (by rw [HX1.out, HX2.out]; have HC := HQ.out; rw [← HX3.out] at HC; exact .inr (.inr (.inr (.inr (.inr (.inr HC)))))) hchE⟩
                    · have tq69 : (((pk l j).toNat : Int) == 69) = false := by rw [← Bool.not_eq_true]; intro h; exact hq69 ((u8_eq _ 69 (by omega)).1 h)
                      have HQ69 := Lib.hid hq69
                      clear hq69
                      have hn9 : n ≤ 9007199254740992 := HN.out
                      go_wp2_with fail
                      go_ret
                      unfold NumPost
                      rw [HX1.out, HX2.out, HX3.out, if_neg (by
                        rintro (h | h | h | h | h | h | h)
                        · have := HX3.out; omega
                        · exact H2.out h
                        · exact H3.out h.2
                        · exact H4.out h
                        · exact HQ46.out h
                        · exact HQ101.out h
                        · exact HQ69.out h)]
                      exact ⟨rfl, hst5.r, hchE⟩
          · have t2 : decide ((1 : Int) < (j : Int) - ((i : Int) + 1)) = false := by simp; omega
            clear h2 h6
            by_cases h3 : n = 0
            · have t4 : ((n : Int) == 0) = true := by rw [beq_iff_eq]; omega
              have H3 := Lib.hid h3
              clear h3 hn9
              go_wp2_with fail
              refine (no_any _ _ _ _).mono ?_
              rintro e w9 ⟨rfl, rfl⟩
              exact ⟨rfl, num_err (by rw [HX1.out, HX2.out]; exact .inr (.inr (.inl ⟨rfl, H3.out⟩))) hchE⟩
            · have t4 : ((n : Int) == 0) = false := by rw [beq_eq_false_iff_ne]; omega
              have H3 := Lib.hid h3
              clear h3
              by_cases h4 : 9007199254740991 < n
              · have t5 : decide ((9007199254740991 : Int) < (n : Int)) = true := by rw [decide_eq_true_eq]; omega
                have H4 := Lib.hid h4
                clear h4 hn9
                go_wp2_with fail
                refine (no_any _ _ _ _).mono ?_
                rintro e w9 ⟨rfl, rfl⟩
                exact ⟨rfl, num_err (by rw [HX1.out, HX2.out]; exact .inr (.inr (.inr (.inl H4.out)))) hchE⟩
              · have t5 : decide ((9007199254740991 : Int) < (n : Int)) = false := by rw [decide_eq_false_iff_not]; omega
                have H4 := Lib.hid h4
                clear h4 hn9
                by_cases hq46 : pk l j = 46
                · have tq46 : (((pk l j).toNat : Int) == 46) = true := (u8_eq _ 46 (by omega)).2 hq46
                  have HQ := Lib.hid hq46
                  clear hq46
                  go_wp2_with fail
                  refine (no_any _ _ _ _).mono ?_
                  rintro e w9 ⟨rfl, rfl⟩
                  exact ⟨rfl, num_err (by rw [HX1.out, HX2.out]; have HC := HQ.out; rw [← HX3.out] at HC; exact .inr (.inr (.inr (.inr (.inl HC))))) hchE⟩
                · have tq46 : (((pk l j).toNat : Int) == 46) = false := by rw [← Bool.not_eq_true]; intro h; exact hq46 ((u8_eq _ 46 (by omega)).1 h)
                  have HQ46 := Lib.hid hq46
                  clear hq46
                  by_cases hq101 : pk l j = 101
                  · have tq101 : (((pk l j).toNat : Int) == 101) = true := (u8_eq _ 101 (by omega)).2 hq101
                    have HQ := Lib.hid hq101
                    clear hq101
                    go_wp2_with fail
                    refine (no_any _ _ _ _).mono ?_
                    rintro e w9 ⟨rfl, rfl⟩
                    exact ⟨rfl, num_err (by rw [HX1.out, HX2.out]; have HC := HQ.out; rw [← HX3.out] at HC; exact .inr (.inr (.inr (.inr (.inr (.inl HC)))))) hchE⟩
                  · have tq101 : (((pk l j).toNat : Int) == 101) = false := by rw [← Bool.not_eq_true]; intro h; exact hq101 ((u8_eq _ 101 (by omega)).1 h)
                    have HQ101 := Lib.hid hq101
                    clear hq101
                    by_cases hq69 : pk l j = 69
                    · have tq69 : (((pk l j).toNat : Int) == 69) = true := (u8_eq _ 69 (by omega)).2 hq69
                      have HQ := Lib.hid hq69
                      clear hq69
                      go_wp2_with fail
                      refine (no_any _ _ _ _).mono ?_
                      rintro e w9 ⟨rfl, rfl⟩
                      exact ⟨rfl, num_err (by rw [HX1.out, HX2.out]; have HC := HQ.out; rw [← HX3.out] at HC; exact .inr (.inr (.inr (.inr (.inr (.inr HC)))))) hchE⟩
                    · have tq69 : (((pk l j).toNat : Int) == 69) = false := by rw [← Bool.not_eq_true]; intro h; exact hq69 ((u8_eq _ 69 (by omega)).1 h)
                      have HQ69 := Lib.hid hq69
                      clear hq69
                      have hn9 : n ≤ 9007199254740992 := HN.out
                      go_wp2_with fail
                      go_ret
                      unfold NumPost
                      rw [HX1.out, HX2.out, HX3.out, if_neg (by
                        rintro (h | h | h | h | h | h | h)
                        · have := HX3.out; omega
                        · exact H2.out h
                        · exact H3.out h.2
                        · exact H4.out h
                        · exact HQ46.out h
                        · exact HQ101.out h
                        · exact HQ69.out h)]
                      exact ⟨rfl, hst5.r, hchE⟩

end Go.Proofs.YtknmbfkpclacgaaGreatDoor
