import Derived.Test.YtknmbfkpclacgaaGreatDoorMPa23
/- The document's reader: number. -/
set_option linter.unusedSimpArgs false
namespace Go.Proofs.YtknmbfkpclacgaaGreatDoor
open Go.RowKit

def resN (r : Except Flt (Int × Nat)) (t : List JV) : Except Flt (Nat × Nat × List JV) := match r with
  | .error e => .error e
  | .ok (n, j) => .ok (t.length, j, t ++ [jNum n])
/-- The number's fault, as the document's reader asks for it. -/
def numBad (l : List UInt8) (f : Nat) (m : Bool) : Prop :=
  nDigs (l.drop f) = 0 ∨ (1 < nDigs (l.drop f) ∧ pk l f = 48) ∨ 16 < nDigs (l.drop f) ∨ 9007199254740991 < refN (l.drop f) (nDigs (l.drop f)) ∨ (m = true ∧ refN (l.drop f) (nDigs (l.drop f)) = 0) ∨
    (pk l (f + nDigs (l.drop f)) = 46 ∨ pk l (f + nDigs (l.drop f)) = 101 ∨ pk l (f + nDigs (l.drop f)) = 69)
theorem num_err_r {l : List UInt8} {i f : Nat} {m : Bool} (hm : (pk l i == 45) = m) (hf : f = if m then i + 1 else i) (h : numBad l f m) (t : List JV) : resN (numberJ l i) t = .error (i, 242) := by
  have hs := (num_same (l.drop f) m (pk l (f + nDigs (l.drop f)) = 46 ∨ pk l (f + nDigs (l.drop f)) = 101 ∨ pk l (f + nDigs (l.drop f)) = 69)).1
  rw [drop_getD] at hs
  have h2 := hs.1 h
  unfold numberJ
  simp only [hm, ← hf]
  rw [if_pos h2]
  rfl
theorem num_ok_r {l : List UInt8} {i f : Nat} {m : Bool} (hm : (pk l i == 45) = m) (hf : f = if m then i + 1 else i) (h : ¬ numBad l f m) (t : List JV) :
    resN (numberJ l i) t = .ok (t.length, f + nDigs (l.drop f), t ++ [jNum (if m then -(refN (l.drop f) (nDigs (l.drop f)) : Int) else (refN (l.drop f) (nDigs (l.drop f)) : Int))]) := by
  have hs := num_same (l.drop f) m (pk l (f + nDigs (l.drop f)) = 46 ∨ pk l (f + nDigs (l.drop f)) = 101 ∨ pk l (f + nDigs (l.drop f)) = 69)
  rw [drop_getD] at hs
  have h2 := fun hh => h (hs.1.2 hh)
  have h3 := hs.2 (by unfold numBad at h; omega) (by unfold numBad at h; omega)
  unfold numberJ
  simp only [hm, ← hf]
  rw [if_neg h2, h3]
  rfl
theorem atI_eq {l : List UInt8} {p n : Nat} (h0 : 0 < n) (hn : n < 256) : atI l p = (n : Int) ↔ pk l p = UInt8.ofNat n := by
  unfold atI
  split
  · rename_i h
    have := u8_eq (pk l p) n hn
    rw [beq_iff_eq] at this
    exact this
  · rename_i h
    rw [pk_out l p h]
    constructor
    · intro h; omega
    · intro h
      have : (UInt8.ofNat n).toNat = 0 := by rw [← h]; rfl
      rw [UInt8.toNat_ofNat'] at this; omega

set_option maxRecDepth 100000 in
set_option maxHeartbeats 16000000 in
theorem number_p (rb : Nat) (A : Option Addr) (cap : Nat) (l : List UInt8) (i B base : Nat) (tv : Value) (xs : List VC) (t : List JV) (w : World) (lim : Nat) (hst : RS w B rb A cap l i (-1) 0 tv) (hT : TR base w tv xs t) (hbl : (pk l i == 45) = false)
    (hil : i < l.length) (hL : l.length ≤ 268435456) (hbase : base ≤ rb) (hB : B ≤ base) (ht : t.length ≤ 1000000000) (hl1 : l.length ≤ lim) (hl2 : t.length + 1 ≤ lim) :
    Calls Tryz.prog 119 #[.pointer (some ⟨rb, 0, none⟩)] w (RPost (resN (numberJ l i) t) rb base (.slice A l.length cap) tv xs lim w) := by
  have hrl := hst.r.lt
  have hBr := hst.B
  have c1 := hst.r.c1
  have hh := here_any rb A cap l i (-1) 0 tv B w hst.r hst.b
  have hx0 := atI_eq (l := l) (p := i) (n := 45) (by omega) (by omega)
  have t45 : (atI l i == 45) = false := by
    rw [← hbl, Bool.eq_iff_iff, beq_iff_eq, beq_iff_eq]
    exact hx0
  obtain ⟨f, hf⟩ : ∃ f, f = i := ⟨_, rfl⟩
  have hend1 : numBad l f false → resN (numberJ l i) t = .error (i, 242) := fun h => num_err_r hbl hf h t
  have hend2 : ¬ numBad l f false → resN (numberJ l i) t = .ok (t.length, f + nDigs (l.drop f), t ++ [jNum (if false then -(refN (l.drop f) (nDigs (l.drop f)) : Int) else (refN (l.drop f) (nDigs (l.drop f)) : Int))]) := fun h => num_ok_r hbl hf h t
  have HF := Lib.hid hf
  generalize resN (numberJ l i) t = res at *
  generalize atI l i = y0 at *
  have HE1 := Lib.hid hend1
  have HE2 := Lib.hid hend2
  have HST := Lib.hid hst
  have HT := Lib.hid hT
  have HH := Lib.hid hh
  clear hend1 hend2 hst hT hh hx0 hbl hf
  go_enter Tryz.func119, Tryz.ntmps119
  go_wp2_with fail
  refine HH.out.mono ?_
  rintro e w1 ⟨rfl, hd1⟩
  have hst1 := HST.out.drawn hd1
  have hch1 : Chg (· = rb) w w1 := hd1.chg
  have d1 := hst1.r.c1
  have g1 := hst1.r.f 1
  have hst2 := hst1
  have hch2 := hch1
  have hf := HF.out
  rw [← hf] at hst2
  have hh2 := here_any rb A cap l f (-1) 0 tv B _ hst2.r hst2.b
  have hy := atI_range l f
  have hy48 := atI_eq (l := l) (p := f) (n := 48) (by omega) (by omega)
  generalize atI l f = y at *
  have HH2 := Lib.hid hh2
  have HS2 := Lib.hid (And.intro hst2 hch2)
  have HY := Lib.hid hy48
  have hfl : f ≤ l.length := by omega
  clear hh2 hst1 hch1 hd1 hst2 hch2 hy48 hf
  go_wp2_with fail
  refine HH2.out.mono ?_
  rintro e w2 ⟨rfl, hd2⟩
  have HS3 := Lib.hid (And.intro (HS2.out.1.drawn hd2) (HS2.out.2.trans hd2.chg))
  clear hd2 d1 g1 HS2 HH2
  go_wp2_with fail
  go_loopg [6, 7] (l.length - f + 1) (fun g vn vk wr => ∃ (kn : Nat) (n k : Int), vn = .int .i64 n ∧ vk = .int .i64 k ∧ k = kn ∧ n = refN (l.drop f) kn ∧ kn ≤ nDigs (l.drop f) ∧ f + kn ≤ l.length ∧ RS wr B rb A cap l (f + kn) (-1) 0 tv ∧ Chg (· = rb) w wr ∧ l.length - (f + kn) + 1 = g)
  case atStart => exact ⟨0, 0, 0, rfl, rfl, rfl, by rw [refN_zero]; rfl, by omega, by omega, HS3.out.1, HS3.out.2, rfl⟩
  case round =>
    obtain ⟨kn, n, k, rfl, rfl, hk, hn, hkd, hkl, hstJ, hchJ, hg⟩ := hrel
    have k0 : 0 ≤ k := by omega
    have k1 : k ≤ 268435456 := by omega
    have hlt := refN_lt (l.drop f) kn hkd
    have n0 : 0 ≤ n := by omega
    have n1 : n ≤ 100000000000000000 := by omega
    have hdig := rdigit_any rb A cap l (f + kn) (-1) 0 tv B wr hstJ
    have hmore := nDigs_more (l.drop f) kn hkd
    rw [drop_getD'] at hmore
    have HK := Lib.hid (And.intro hk (And.intro hn (And.intro hkd (And.intro hg hmore))))
    have HSJ := Lib.hid (And.intro hstJ hchJ)
    have HD := Lib.hid hdig
    clear hk hn hkd hg hstJ hchJ hdig hlt hmore
    go_wp2_with fail
    refine HD.out.mono ?_
    rintro e w3 ⟨rfl, hd3⟩
    have hst3 := HSJ.out.1.drawn hd3
    have hch3 : Chg (· = rb) w w3 := HSJ.out.2.trans hd3.chg
    cases hdg : isDig (pk l (f + kn)) with
    | true =>
      have hkk := HK.out.2.2.2.2.1 hdg
      have hjl := isDig_lt l (f + kn) hdg
      have hbd := isDig_bd _ hdg
      have hh4 := here_any rb A cap l (f + kn) (-1) 0 tv B w3 hst3.r hst3.b
      rw [show atI l (f + kn) = ((pk l (f + kn)).toNat : Int) from if_pos hjl] at hh4
      have d1 := hst3.r.c1
      have g1 := hst3.r.f 1
      rw [show (((f + kn : Nat)) : Int) = (f : Int) + kn by omega] at d1
      have HH4 := Lib.hid hh4
      have HS4 := Lib.hid (And.intro hst3 hch3)
      have HB := Lib.hid (And.intro hkk hjl)
      have hpk : ∃ c : Int, c = ((pk l (f + kn)).toNat : Int) ∧ 48 ≤ c ∧ c ≤ 57 := ⟨_, rfl, hbd.1, hbd.2⟩
      obtain ⟨c, hc, hc1, hc2⟩ := hpk
      rw [← hc] at HH4
      have HC := Lib.hid hc
      clear hdg hh4 hst3 hch3 hd3 hbd hkk hjl hc
      by_cases h17 : k < 17
      · go_wp2_with fail
        refine HH4.out.mono ?_
        rintro e w4 ⟨rfl, hd4⟩
        have hst4 := HS4.out.1.drawn hd4
        have hch4 : Chg (· = rb) w w4 := HS4.out.2.trans hd4.chg
        have e1 := hst4.r.c1
        have e2 := hst4.r.f 1
        rw [show (((f + kn : Nat)) : Int) = (f : Int) + kn by omega] at e1
        have hst5 : RS (w4.setCell ⟨rb, 1, none⟩ (.int .i64 ((f : Int) + kn + 1))) B rb A cap l (f + (kn + 1)) (-1) 0 tv := hst4.to (by have := hst4.r.set1 (f + (kn + 1)); rw [show (((f + (kn + 1) : Nat)) : Int) = (f : Int) + kn + 1 by omega] at this; exact this) ((Chg.refl _ _).st _ _)
        have HS5 := Lib.hid (And.intro hst5 (hch4.st 1 (.int .i64 ((f : Int) + kn + 1))))
        have H17 : Hid (kn < 17) := by show kn < 17; have := HK.out.1; omega
        clear hst4 hch4 hd4 hst5
        go_wp2_with fail
        go_roundg (l.length - (f + (kn + 1)) + 1)
        case measure => have := HK.out.2.2.2.1; have := HB.out.2; omega
        case rel =>
          have hk := HK.out.1
          have hn := HK.out.2.1
          have hb := HB.out
          have h17 := H17.out
          have hc := HC.out
          have hr := refN_lo (l.drop f) kn h17 (by simp; omega)
          rw [drop_getD'] at hr
          exact ⟨kn + 1, _, _, rfl, rfl, by omega, by rw [hr]; omega, by omega, by omega, HS5.out.1, HS5.out.2, rfl⟩
      · have hst5 : RS (w3.setCell ⟨rb, 1, none⟩ (.int .i64 ((f : Int) + kn + 1))) B rb A cap l (f + (kn + 1)) (-1) 0 tv := HS4.out.1.to (by have := HS4.out.1.r.set1 (f + (kn + 1)); rw [show (((f + (kn + 1) : Nat)) : Int) = (f : Int) + kn + 1 by omega] at this; exact this) ((Chg.refl _ _).st _ _)
        have HS5 := Lib.hid (And.intro hst5 (HS4.out.2.st 1 (.int .i64 ((f : Int) + kn + 1))))
        have H17 : Hid (17 ≤ kn) := by show 17 ≤ kn; have := HK.out.1; omega
        clear hst5
        go_wp2_with fail
        go_roundg (l.length - (f + (kn + 1)) + 1)
        case measure => have := HK.out.2.2.2.1; have := HB.out.2; omega
        case rel =>
          have hk := HK.out.1
          have hn := HK.out.2.1
          have hb := HB.out
          exact ⟨kn + 1, _, _, rfl, rfl, by omega, by rw [refN_hi _ _ H17.out]; exact hn, by omega, by omega, HS5.out.1, HS5.out.2, rfl⟩
    | false =>
      have hkk : kn = nDigs (l.drop f) := by
        have h1 := HK.out.2.2.1
        have h2 := HK.out.2.2.2.2
        rw [hdg] at h2
        rcases Nat.lt_or_ge kn (nDigs (l.drop f)) with h | h
        · exact absurd (h2.2 h) (by decide)
        · omega
      have hh5 := here_any rb A cap l (f + kn) (-1) 0 tv B w3 hst3.r hst3.b
      have z46 := atI_eq (l := l) (p := f + kn) (n := 46) (by omega) (by omega)
      have z101 := atI_eq (l := l) (p := f + kn) (n := 101) (by omega) (by omega)
      have z69 := atI_eq (l := l) (p := f + kn) (n := 69) (by omega) (by omega)
      generalize atI l (f + kn) = c at *
      have hbad : (k = 0 ∨ (1 < k ∧ y = 48) ∨ 16 < k ∨ 9007199254740991 < n ∨ (false = true ∧ n = 0) ∨ (c = 46 ∨ c = 101 ∨ c = 69)) ↔ numBad l f false := by
        have hk := HK.out.1
        have hn := HK.out.2.1
        have hy := HY.out
        unfold numBad
        rw [← hkk]
        have e1 : k = 0 ↔ kn = 0 := by omega
        have e2 : (1 < k ∧ y = 48) ↔ (1 < kn ∧ pk l f = 48) := by rw [show (1 < k ↔ 1 < kn) by omega]; exact and_congr Iff.rfl hy
        have e3 : 16 < k ↔ 16 < kn := by omega
        have e4 : 9007199254740991 < n ↔ 9007199254740991 < refN (l.drop f) kn := by omega
        have e5 : (false = true ∧ n = 0) ↔ (false = true ∧ refN (l.drop f) kn = 0) := and_congr Iff.rfl (by omega)
        rw [e1, e2, e3, e4, e5]
        exact or_congr Iff.rfl (or_congr Iff.rfl (or_congr Iff.rfl (or_congr Iff.rfl (or_congr Iff.rfl (or_congr z46 (or_congr z101 z69))))))
      have HBAD := Lib.hid hbad
      have HH5 := Lib.hid hh5
      have HS3' := Lib.hid (And.intro hst3 hch3)
      have HKK := Lib.hid hkk
      clear hdg hh5 hst3 hch3 hd3 z46 z101 z69 hbad hkk HD HSJ
      go_wp2_with fail
      refine HH5.out.mono ?_
      rintro e w5 ⟨rfl, hd5⟩
      have hst5 := HS3'.out.1.drawn hd5
      have hch5 : Chg (· = rb) w w5 := HS3'.out.2.trans hd5.chg
      have hno := rno_any rb (.slice A l.length cap) (f + kn) (-1) 0 tv (i : Int) 242 w5 hst5.r
      have hT5 := HT.out.rbR HST.out.r hch5
      have hfin : (k = 0 ∨ (1 < k ∧ y = 48) ∨ 16 < k ∨ 9007199254740991 < n ∨ (false = true ∧ n = 0) ∨ (c = 46 ∨ c = 101 ∨ c = 69)) → ∀ W2, RR W2 rb (.slice A l.length cap) (f + kn) (noF (-1) i) (noE (-1) 0 242) tv → Chg (· = rb) w5 W2 → RPost res rb base (.slice A l.length cap) tv xs lim w (.returned (.int .i64 0)) W2 := by
        intro h W2 hr hc
        have hcw : Chg (· = rb) w W2 := hch5.trans hc
        exact RPost.none (HE1.out (HBAD.out.1 (by simpa using h))) (by simpa [noF, noE] using hr) (HT.out.rbR HST.out.r hcw) (hcw.mono fun _ _ h => .inl h) (by omega) (by omega) rfl rfl 0
      have hput : ¬ (k = 0 ∨ (1 < k ∧ y = 48) ∨ 16 < k ∨ 9007199254740991 < n ∨ (false = true ∧ n = 0) ∨ (c = 46 ∨ c = 101 ∨ c = 69)) → Calls Tryz.prog 116 #[.pointer (some ⟨rb, 0, none⟩), .agg #[.int .i64 3, .bool false, .int .i64 n, .string ⟨#[]⟩, .slice none 0 0, .slice none 0 0]] w5 (RPost res rb base (.slice A l.length cap) tv xs lim w) := by
        intro h
        have h2 := HE2.out (fun hh => h (by simpa using HBAD.out.2 hh))
        rw [← HKK.out, ← HK.out.2.1] at h2
        exact put_bareR rb A cap l i (f + kn) (-1) 0 (-1) 0 B base tv xs t (jNum n) lim res w w5 HST.out HT.out hst5.r hch5 hbase hB ht rfl rfl (by omega) hl2 (by rw [h2]; exact ⟨rfl, rfl, rfl, rfl, rfl⟩)
      have HNO := Lib.hid hno
      have HFIN := Lib.hid hfin
      have HPUT := Lib.hid hput
      clear hst5 hch5 hd5 hno hT5 hfin hput HBAD HE1 HE2 HK HS3' HKK HH5
      by_cases hq : k = 0
      case pos =>
        have t0 : (k == 0) = true := by rw [beq_iff_eq]; exact hq
        have HF0 := Lib.hid (HFIN.out (.inl hq))
        clear hq
        go_wp2_with fail
        refine HNO.out.mono ?_
        rintro e w6 ⟨rfl, hr, hc⟩
        have HR := Lib.hid (HF0.out _ hr hc)
        clear hr hc
        go_wp2_with fail
        go_ret
        exact HR.out
      case neg =>
      have t0 : (k == 0) = false := by rw [beq_eq_false_iff_ne]; exact hq
      have Q0 := Lib.hid hq
      clear hq
      rcases Int.lt_or_le 1 k with hk1 | hk1
      · have t1 : decide (1 < k) = true := by simp; omega
        by_cases hq : y = 48
        case pos =>
          have t2 : (y == 48) = true := by rw [beq_iff_eq]; exact hq
          have HF0 := Lib.hid (HFIN.out (.inr (.inl ⟨hk1, hq⟩)))
          clear hq
          go_wp2_with fail
          refine HNO.out.mono ?_
          rintro e w6 ⟨rfl, hr, hc⟩
          have HR := Lib.hid (HF0.out _ hr hc)
          clear hr hc
          go_wp2_with fail
          go_ret
          exact HR.out
        case neg =>
        have t2 : (y == 48) = false := by rw [beq_eq_false_iff_ne]; exact hq
        have Q1 : Hid (¬ (1 < k ∧ y = 48)) := fun h => hq h.2
        clear hq
        by_cases hq : 16 < k
        case pos =>
          have t3 : decide (16 < k) = true := by simp; omega
          have hq' : 16 < k := hq
          have HF0 := Lib.hid (HFIN.out (.inr (.inr (.inl hq))))
          clear hq
          go_wp2_with fail
          refine HNO.out.mono ?_
          rintro e w6 ⟨rfl, hr, hc⟩
          have HR := Lib.hid (HF0.out _ hr hc)
          clear hr hc
          go_wp2_with fail
          go_ret
          exact HR.out
        case neg =>
        have t3 : decide (16 < k) = false := by simp; omega
        have hk16 : ¬ 16 < k := hq
        have Q2 := Lib.hid hq
        clear hq
        by_cases hq : 9007199254740991 < n
        case pos =>
          have t4 : decide (9007199254740991 < n) = true := by simp; omega
          have hq' : 9007199254740991 < n := hq
          have HF0 := Lib.hid (HFIN.out (.inr (.inr (.inr (.inl hq)))))
          clear hq
          go_wp2_with fail
          refine HNO.out.mono ?_
          rintro e w6 ⟨rfl, hr, hc⟩
          have HR := Lib.hid (HF0.out _ hr hc)
          clear hr hc
          go_wp2_with fail
          go_ret
          exact HR.out
        case neg =>
        have t4 : decide (9007199254740991 < n) = false := by simp; omega
        have hn9 : ¬ 9007199254740991 < n := hq
        have Q3 := Lib.hid hq
        clear hq
        have Q4 : Hid (¬ (false = true ∧ n = 0)) := fun h => by cases h.1
        by_cases hq : c = 46
        case pos =>
          have t6 : (c == 46) = true := by rw [beq_iff_eq]; exact hq
          have HF0 := Lib.hid (HFIN.out (.inr (.inr (.inr (.inr (.inr (.inl hq)))))))
          clear hq
          go_wp2_with fail
          refine HNO.out.mono ?_
          rintro e w6 ⟨rfl, hr, hc⟩
          have HR := Lib.hid (HF0.out _ hr hc)
          clear hr hc
          go_wp2_with fail
          go_ret
          exact HR.out
        case neg =>
        have t46 : (c == 46) = false := by rw [beq_eq_false_iff_ne]; exact hq
        have Q5 := Lib.hid hq
        clear hq
        by_cases hq : c = 101
        case pos =>
          have t6 : (c == 101) = true := by rw [beq_iff_eq]; exact hq
          have HF0 := Lib.hid (HFIN.out (.inr (.inr (.inr (.inr (.inr (.inr (.inl hq))))))))
          clear hq
          go_wp2_with fail
          refine HNO.out.mono ?_
          rintro e w6 ⟨rfl, hr, hc⟩
          have HR := Lib.hid (HF0.out _ hr hc)
          clear hr hc
          go_wp2_with fail
          go_ret
          exact HR.out
        case neg =>
        have t101 : (c == 101) = false := by rw [beq_eq_false_iff_ne]; exact hq
        have Q6 := Lib.hid hq
        clear hq
        by_cases hq : c = 69
        case pos =>
          have t6 : (c == 69) = true := by rw [beq_iff_eq]; exact hq
          have HF0 := Lib.hid (HFIN.out (.inr (.inr (.inr (.inr (.inr (.inr (.inr hq))))))))
          clear hq
          go_wp2_with fail
          refine HNO.out.mono ?_
          rintro e w6 ⟨rfl, hr, hc⟩
          have HR := Lib.hid (HF0.out _ hr hc)
          clear hr hc
          go_wp2_with fail
          go_ret
          exact HR.out
        case neg =>
        have t69 : (c == 69) = false := by rw [beq_eq_false_iff_ne]; exact hq
        have Q7 := Lib.hid hq
        clear hq
        have hP := HPUT.out (by rintro (h | h | h | h | h | h | h | h) <;> first | exact Q0.out h | exact Q1.out h | exact Q2.out h | exact Q3.out h | exact Q4.out h | exact Q5.out h | exact Q6.out h | exact Q7.out h)
        have HP := Lib.hid hP
        clear hP HPUT HFIN HNO
        go_wp2_with fail
        refine HP.out.mono ?_
        intro e w6 hR
        obtain ⟨z, a, fa, er, tv', xs', t', rfl, hR⟩ := hR
        have HE := Lib.hid (show RPost res rb base (.slice A l.length cap) tv xs lim w (.returned (.int .i64 z)) w6 from ⟨z, a, fa, er, tv', xs', t', rfl, hR⟩)
        clear hR
        go_wp2_with fail
        go_ret
        exact HE.out
      · have t1 : decide (1 < k) = false := by simp; omega
        have Q1 : Hid (¬ (1 < k ∧ y = 48)) := fun h => by omega
        by_cases hq : 16 < k
        case pos =>
          have t3 : decide (16 < k) = true := by simp; omega
          have hq' : 16 < k := hq
          have HF0 := Lib.hid (HFIN.out (.inr (.inr (.inl hq))))
          clear hq
          go_wp2_with fail
          refine HNO.out.mono ?_
          rintro e w6 ⟨rfl, hr, hc⟩
          have HR := Lib.hid (HF0.out _ hr hc)
          clear hr hc
          go_wp2_with fail
          go_ret
          exact HR.out
        case neg =>
        have t3 : decide (16 < k) = false := by simp; omega
        have hk16 : ¬ 16 < k := hq
        have Q2 := Lib.hid hq
        clear hq
        by_cases hq : 9007199254740991 < n
        case pos =>
          have t4 : decide (9007199254740991 < n) = true := by simp; omega
          have hq' : 9007199254740991 < n := hq
          have HF0 := Lib.hid (HFIN.out (.inr (.inr (.inr (.inl hq)))))
          clear hq
          go_wp2_with fail
          refine HNO.out.mono ?_
          rintro e w6 ⟨rfl, hr, hc⟩
          have HR := Lib.hid (HF0.out _ hr hc)
          clear hr hc
          go_wp2_with fail
          go_ret
          exact HR.out
        case neg =>
        have t4 : decide (9007199254740991 < n) = false := by simp; omega
        have hn9 : ¬ 9007199254740991 < n := hq
        have Q3 := Lib.hid hq
        clear hq
        have Q4 : Hid (¬ (false = true ∧ n = 0)) := fun h => by cases h.1
        by_cases hq : c = 46
        case pos =>
          have t6 : (c == 46) = true := by rw [beq_iff_eq]; exact hq
          have HF0 := Lib.hid (HFIN.out (.inr (.inr (.inr (.inr (.inr (.inl hq)))))))
          clear hq
          go_wp2_with fail
          refine HNO.out.mono ?_
          rintro e w6 ⟨rfl, hr, hc⟩
          have HR := Lib.hid (HF0.out _ hr hc)
          clear hr hc
          go_wp2_with fail
          go_ret
          exact HR.out
        case neg =>
        have t46 : (c == 46) = false := by rw [beq_eq_false_iff_ne]; exact hq
        have Q5 := Lib.hid hq
        clear hq
        by_cases hq : c = 101
        case pos =>
          have t6 : (c == 101) = true := by rw [beq_iff_eq]; exact hq
          have HF0 := Lib.hid (HFIN.out (.inr (.inr (.inr (.inr (.inr (.inr (.inl hq))))))))
          clear hq
          go_wp2_with fail
          refine HNO.out.mono ?_
          rintro e w6 ⟨rfl, hr, hc⟩
          have HR := Lib.hid (HF0.out _ hr hc)
          clear hr hc
          go_wp2_with fail
          go_ret
          exact HR.out
        case neg =>
        have t101 : (c == 101) = false := by rw [beq_eq_false_iff_ne]; exact hq
        have Q6 := Lib.hid hq
        clear hq
        by_cases hq : c = 69
        case pos =>
          have t6 : (c == 69) = true := by rw [beq_iff_eq]; exact hq
          have HF0 := Lib.hid (HFIN.out (.inr (.inr (.inr (.inr (.inr (.inr (.inr hq))))))))
          clear hq
          go_wp2_with fail
          refine HNO.out.mono ?_
          rintro e w6 ⟨rfl, hr, hc⟩
          have HR := Lib.hid (HF0.out _ hr hc)
          clear hr hc
          go_wp2_with fail
          go_ret
          exact HR.out
        case neg =>
        have t69 : (c == 69) = false := by rw [beq_eq_false_iff_ne]; exact hq
        have Q7 := Lib.hid hq
        clear hq
        have hP := HPUT.out (by rintro (h | h | h | h | h | h | h | h) <;> first | exact Q0.out h | exact Q1.out h | exact Q2.out h | exact Q3.out h | exact Q4.out h | exact Q5.out h | exact Q6.out h | exact Q7.out h)
        have HP := Lib.hid hP
        clear hP HPUT HFIN HNO
        go_wp2_with fail
        refine HP.out.mono ?_
        intro e w6 hR
        obtain ⟨z, a, fa, er, tv', xs', t', rfl, hR⟩ := hR
        have HE := Lib.hid (show RPost res rb base (.slice A l.length cap) tv xs lim w (.returned (.int .i64 z)) w6 from ⟨z, a, fa, er, tv', xs', t', rfl, hR⟩)
        clear hR
        go_wp2_with fail
        go_ret
        exact HE.out

set_option maxRecDepth 100000 in
set_option maxHeartbeats 16000000 in
theorem number_m (rb : Nat) (A : Option Addr) (cap : Nat) (l : List UInt8) (i B base : Nat) (tv : Value) (xs : List VC) (t : List JV) (w : World) (lim : Nat) (hst : RS w B rb A cap l i (-1) 0 tv) (hT : TR base w tv xs t) (hbl : (pk l i == 45) = true)
    (hil : i < l.length) (hL : l.length ≤ 268435456) (hbase : base ≤ rb) (hB : B ≤ base) (ht : t.length ≤ 1000000000) (hl1 : l.length ≤ lim) (hl2 : t.length + 1 ≤ lim) :
    Calls Tryz.prog 119 #[.pointer (some ⟨rb, 0, none⟩)] w (RPost (resN (numberJ l i) t) rb base (.slice A l.length cap) tv xs lim w) := by
  have hrl := hst.r.lt
  have hBr := hst.B
  have c1 := hst.r.c1
  have hh := here_any rb A cap l i (-1) 0 tv B w hst.r hst.b
  have hx0 := atI_eq (l := l) (p := i) (n := 45) (by omega) (by omega)
  have t45 : (atI l i == 45) = true := by
    rw [← hbl, Bool.eq_iff_iff, beq_iff_eq, beq_iff_eq]
    exact hx0
  obtain ⟨f, hf⟩ : ∃ f, f = (i + 1) := ⟨_, rfl⟩
  have hend1 : numBad l f true → resN (numberJ l i) t = .error (i, 242) := fun h => num_err_r hbl hf h t
  have hend2 : ¬ numBad l f true → resN (numberJ l i) t = .ok (t.length, f + nDigs (l.drop f), t ++ [jNum (if true then -(refN (l.drop f) (nDigs (l.drop f)) : Int) else (refN (l.drop f) (nDigs (l.drop f)) : Int))]) := fun h => num_ok_r hbl hf h t
  have HF := Lib.hid hf
  generalize resN (numberJ l i) t = res at *
  generalize atI l i = y0 at *
  have HE1 := Lib.hid hend1
  have HE2 := Lib.hid hend2
  have HST := Lib.hid hst
  have HT := Lib.hid hT
  have HH := Lib.hid hh
  clear hend1 hend2 hst hT hh hx0 hbl hf
  go_enter Tryz.func119, Tryz.ntmps119
  go_wp2_with fail
  refine HH.out.mono ?_
  rintro e w1 ⟨rfl, hd1⟩
  have hst1 := HST.out.drawn hd1
  have hch1 : Chg (· = rb) w w1 := hd1.chg
  have d1 := hst1.r.c1
  have g1 := hst1.r.f 1
  have hst2 : RS (w1.setCell ⟨rb, 1, none⟩ (.int .i64 ((i : Int) + 1))) B rb A cap l (i + 1) (-1) 0 tv := hst1.to (hst1.r.set1 (i + 1)) ((Chg.refl _ _).st _ _)
  have hch2 : Chg (· = rb) w (w1.setCell ⟨rb, 1, none⟩ (.int .i64 ((i : Int) + 1))) := hch1.st _ _
  have hf := HF.out
  rw [← hf] at hst2
  have hh2 := here_any rb A cap l f (-1) 0 tv B _ hst2.r hst2.b
  have hy := atI_range l f
  have hy48 := atI_eq (l := l) (p := f) (n := 48) (by omega) (by omega)
  generalize atI l f = y at *
  have HH2 := Lib.hid hh2
  have HS2 := Lib.hid (And.intro hst2 hch2)
  have HY := Lib.hid hy48
  have hfl : f ≤ l.length := by omega
  clear hh2 hst1 hch1 hd1 hst2 hch2 hy48 hf
  go_wp2_with fail
  refine HH2.out.mono ?_
  rintro e w2 ⟨rfl, hd2⟩
  have HS3 := Lib.hid (And.intro (HS2.out.1.drawn hd2) (HS2.out.2.trans hd2.chg))
  clear hd2 d1 g1 HS2 HH2
  go_wp2_with fail
  go_loopg [6, 7] (l.length - f + 1) (fun g vn vk wr => ∃ (kn : Nat) (n k : Int), vn = .int .i64 n ∧ vk = .int .i64 k ∧ k = kn ∧ n = refN (l.drop f) kn ∧ kn ≤ nDigs (l.drop f) ∧ f + kn ≤ l.length ∧ RS wr B rb A cap l (f + kn) (-1) 0 tv ∧ Chg (· = rb) w wr ∧ l.length - (f + kn) + 1 = g)
  case atStart => exact ⟨0, 0, 0, rfl, rfl, rfl, by rw [refN_zero]; rfl, by omega, by omega, HS3.out.1, HS3.out.2, rfl⟩
  case round =>
    obtain ⟨kn, n, k, rfl, rfl, hk, hn, hkd, hkl, hstJ, hchJ, hg⟩ := hrel
    have k0 : 0 ≤ k := by omega
    have k1 : k ≤ 268435456 := by omega
    have hlt := refN_lt (l.drop f) kn hkd
    have n0 : 0 ≤ n := by omega
    have n1 : n ≤ 100000000000000000 := by omega
    have hdig := rdigit_any rb A cap l (f + kn) (-1) 0 tv B wr hstJ
    have hmore := nDigs_more (l.drop f) kn hkd
    rw [drop_getD'] at hmore
    have HK := Lib.hid (And.intro hk (And.intro hn (And.intro hkd (And.intro hg hmore))))
    have HSJ := Lib.hid (And.intro hstJ hchJ)
    have HD := Lib.hid hdig
    clear hk hn hkd hg hstJ hchJ hdig hlt hmore
    go_wp2_with fail
    refine HD.out.mono ?_
    rintro e w3 ⟨rfl, hd3⟩
    have hst3 := HSJ.out.1.drawn hd3
    have hch3 : Chg (· = rb) w w3 := HSJ.out.2.trans hd3.chg
    cases hdg : isDig (pk l (f + kn)) with
    | true =>
      have hkk := HK.out.2.2.2.2.1 hdg
      have hjl := isDig_lt l (f + kn) hdg
      have hbd := isDig_bd _ hdg
      have hh4 := here_any rb A cap l (f + kn) (-1) 0 tv B w3 hst3.r hst3.b
      rw [show atI l (f + kn) = ((pk l (f + kn)).toNat : Int) from if_pos hjl] at hh4
      have d1 := hst3.r.c1
      have g1 := hst3.r.f 1
      rw [show (((f + kn : Nat)) : Int) = (f : Int) + kn by omega] at d1
      have HH4 := Lib.hid hh4
      have HS4 := Lib.hid (And.intro hst3 hch3)
      have HB := Lib.hid (And.intro hkk hjl)
      have hpk : ∃ c : Int, c = ((pk l (f + kn)).toNat : Int) ∧ 48 ≤ c ∧ c ≤ 57 := ⟨_, rfl, hbd.1, hbd.2⟩
      obtain ⟨c, hc, hc1, hc2⟩ := hpk
      rw [← hc] at HH4
      have HC := Lib.hid hc
      clear hdg hh4 hst3 hch3 hd3 hbd hkk hjl hc
      by_cases h17 : k < 17
      · go_wp2_with fail
        refine HH4.out.mono ?_
        rintro e w4 ⟨rfl, hd4⟩
        have hst4 := HS4.out.1.drawn hd4
        have hch4 : Chg (· = rb) w w4 := HS4.out.2.trans hd4.chg
        have e1 := hst4.r.c1
        have e2 := hst4.r.f 1
        rw [show (((f + kn : Nat)) : Int) = (f : Int) + kn by omega] at e1
        have hst5 : RS (w4.setCell ⟨rb, 1, none⟩ (.int .i64 ((f : Int) + kn + 1))) B rb A cap l (f + (kn + 1)) (-1) 0 tv := hst4.to (by have := hst4.r.set1 (f + (kn + 1)); rw [show (((f + (kn + 1) : Nat)) : Int) = (f : Int) + kn + 1 by omega] at this; exact this) ((Chg.refl _ _).st _ _)
        have HS5 := Lib.hid (And.intro hst5 (hch4.st 1 (.int .i64 ((f : Int) + kn + 1))))
        have H17 : Hid (kn < 17) := by show kn < 17; have := HK.out.1; omega
        clear hst4 hch4 hd4 hst5
        go_wp2_with fail
        go_roundg (l.length - (f + (kn + 1)) + 1)
        case measure => have := HK.out.2.2.2.1; have := HB.out.2; omega
        case rel =>
          have hk := HK.out.1
          have hn := HK.out.2.1
          have hb := HB.out
          have h17 := H17.out
          have hc := HC.out
          have hr := refN_lo (l.drop f) kn h17 (by simp; omega)
          rw [drop_getD'] at hr
          exact ⟨kn + 1, _, _, rfl, rfl, by omega, by rw [hr]; omega, by omega, by omega, HS5.out.1, HS5.out.2, rfl⟩
      · have hst5 : RS (w3.setCell ⟨rb, 1, none⟩ (.int .i64 ((f : Int) + kn + 1))) B rb A cap l (f + (kn + 1)) (-1) 0 tv := HS4.out.1.to (by have := HS4.out.1.r.set1 (f + (kn + 1)); rw [show (((f + (kn + 1) : Nat)) : Int) = (f : Int) + kn + 1 by omega] at this; exact this) ((Chg.refl _ _).st _ _)
        have HS5 := Lib.hid (And.intro hst5 (HS4.out.2.st 1 (.int .i64 ((f : Int) + kn + 1))))
        have H17 : Hid (17 ≤ kn) := by show 17 ≤ kn; have := HK.out.1; omega
        clear hst5
        go_wp2_with fail
        go_roundg (l.length - (f + (kn + 1)) + 1)
        case measure => have := HK.out.2.2.2.1; have := HB.out.2; omega
        case rel =>
          have hk := HK.out.1
          have hn := HK.out.2.1
          have hb := HB.out
          exact ⟨kn + 1, _, _, rfl, rfl, by omega, by rw [refN_hi _ _ H17.out]; exact hn, by omega, by omega, HS5.out.1, HS5.out.2, rfl⟩
    | false =>
      have hkk : kn = nDigs (l.drop f) := by
        have h1 := HK.out.2.2.1
        have h2 := HK.out.2.2.2.2
        rw [hdg] at h2
        rcases Nat.lt_or_ge kn (nDigs (l.drop f)) with h | h
        · exact absurd (h2.2 h) (by decide)
        · omega
      have hh5 := here_any rb A cap l (f + kn) (-1) 0 tv B w3 hst3.r hst3.b
      have z46 := atI_eq (l := l) (p := f + kn) (n := 46) (by omega) (by omega)
      have z101 := atI_eq (l := l) (p := f + kn) (n := 101) (by omega) (by omega)
      have z69 := atI_eq (l := l) (p := f + kn) (n := 69) (by omega) (by omega)
      generalize atI l (f + kn) = c at *
      have hbad : (k = 0 ∨ (1 < k ∧ y = 48) ∨ 16 < k ∨ 9007199254740991 < n ∨ (true = true ∧ n = 0) ∨ (c = 46 ∨ c = 101 ∨ c = 69)) ↔ numBad l f true := by
        have hk := HK.out.1
        have hn := HK.out.2.1
        have hy := HY.out
        unfold numBad
        rw [← hkk]
        have e1 : k = 0 ↔ kn = 0 := by omega
        have e2 : (1 < k ∧ y = 48) ↔ (1 < kn ∧ pk l f = 48) := by rw [show (1 < k ↔ 1 < kn) by omega]; exact and_congr Iff.rfl hy
        have e3 : 16 < k ↔ 16 < kn := by omega
        have e4 : 9007199254740991 < n ↔ 9007199254740991 < refN (l.drop f) kn := by omega
        have e5 : (true = true ∧ n = 0) ↔ (true = true ∧ refN (l.drop f) kn = 0) := and_congr Iff.rfl (by omega)
        rw [e1, e2, e3, e4, e5]
        exact or_congr Iff.rfl (or_congr Iff.rfl (or_congr Iff.rfl (or_congr Iff.rfl (or_congr Iff.rfl (or_congr z46 (or_congr z101 z69))))))
      have HBAD := Lib.hid hbad
      have HH5 := Lib.hid hh5
      have HS3' := Lib.hid (And.intro hst3 hch3)
      have HKK := Lib.hid hkk
      clear hdg hh5 hst3 hch3 hd3 z46 z101 z69 hbad hkk HD HSJ
      go_wp2_with fail
      refine HH5.out.mono ?_
      rintro e w5 ⟨rfl, hd5⟩
      have hst5 := HS3'.out.1.drawn hd5
      have hch5 : Chg (· = rb) w w5 := HS3'.out.2.trans hd5.chg
      have hno := rno_any rb (.slice A l.length cap) (f + kn) (-1) 0 tv (i : Int) 242 w5 hst5.r
      have hT5 := HT.out.rbR HST.out.r hch5
      have hfin : (k = 0 ∨ (1 < k ∧ y = 48) ∨ 16 < k ∨ 9007199254740991 < n ∨ (true = true ∧ n = 0) ∨ (c = 46 ∨ c = 101 ∨ c = 69)) → ∀ W2, RR W2 rb (.slice A l.length cap) (f + kn) (noF (-1) i) (noE (-1) 0 242) tv → Chg (· = rb) w5 W2 → RPost res rb base (.slice A l.length cap) tv xs lim w (.returned (.int .i64 0)) W2 := by
        intro h W2 hr hc
        have hcw : Chg (· = rb) w W2 := hch5.trans hc
        exact RPost.none (HE1.out (HBAD.out.1 (by simpa using h))) (by simpa [noF, noE] using hr) (HT.out.rbR HST.out.r hcw) (hcw.mono fun _ _ h => .inl h) (by omega) (by omega) rfl rfl 0
      have hput : ¬ (k = 0 ∨ (1 < k ∧ y = 48) ∨ 16 < k ∨ 9007199254740991 < n ∨ (true = true ∧ n = 0) ∨ (c = 46 ∨ c = 101 ∨ c = 69)) → Calls Tryz.prog 116 #[.pointer (some ⟨rb, 0, none⟩), .agg #[.int .i64 3, .bool false, .int .i64 (-n), .string ⟨#[]⟩, .slice none 0 0, .slice none 0 0]] w5 (RPost res rb base (.slice A l.length cap) tv xs lim w) := by
        intro h
        have h2 := HE2.out (fun hh => h (by simpa using HBAD.out.2 hh))
        rw [← HKK.out, ← HK.out.2.1] at h2
        exact put_bareR rb A cap l i (f + kn) (-1) 0 (-1) 0 B base tv xs t (jNum (-n)) lim res w w5 HST.out HT.out hst5.r hch5 hbase hB ht rfl rfl (by omega) hl2 (by rw [h2]; exact ⟨rfl, rfl, rfl, rfl, rfl⟩)
      have HNO := Lib.hid hno
      have HFIN := Lib.hid hfin
      have HPUT := Lib.hid hput
      clear hst5 hch5 hd5 hno hT5 hfin hput HBAD HE1 HE2 HK HS3' HKK HH5
      by_cases hq : k = 0
      case pos =>
        have t0 : (k == 0) = true := by rw [beq_iff_eq]; exact hq
        have HF0 := Lib.hid (HFIN.out (.inl hq))
        clear hq
        go_wp2_with fail
        refine HNO.out.mono ?_
        rintro e w6 ⟨rfl, hr, hc⟩
        have HR := Lib.hid (HF0.out _ hr hc)
        clear hr hc
        go_wp2_with fail
        go_ret
        exact HR.out
      case neg =>
      have t0 : (k == 0) = false := by rw [beq_eq_false_iff_ne]; exact hq
      have Q0 := Lib.hid hq
      clear hq
      rcases Int.lt_or_le 1 k with hk1 | hk1
      · have t1 : decide (1 < k) = true := by simp; omega
        by_cases hq : y = 48
        case pos =>
          have t2 : (y == 48) = true := by rw [beq_iff_eq]; exact hq
          have HF0 := Lib.hid (HFIN.out (.inr (.inl ⟨hk1, hq⟩)))
          clear hq
          go_wp2_with fail
          refine HNO.out.mono ?_
          rintro e w6 ⟨rfl, hr, hc⟩
          have HR := Lib.hid (HF0.out _ hr hc)
          clear hr hc
          go_wp2_with fail
          go_ret
          exact HR.out
        case neg =>
        have t2 : (y == 48) = false := by rw [beq_eq_false_iff_ne]; exact hq
        have Q1 : Hid (¬ (1 < k ∧ y = 48)) := fun h => hq h.2
        clear hq
        by_cases hq : 16 < k
        case pos =>
          have t3 : decide (16 < k) = true := by simp; omega
          have hq' : 16 < k := hq
          have HF0 := Lib.hid (HFIN.out (.inr (.inr (.inl hq))))
          clear hq
          go_wp2_with fail
          refine HNO.out.mono ?_
          rintro e w6 ⟨rfl, hr, hc⟩
          have HR := Lib.hid (HF0.out _ hr hc)
          clear hr hc
          go_wp2_with fail
          go_ret
          exact HR.out
        case neg =>
        have t3 : decide (16 < k) = false := by simp; omega
        have hk16 : ¬ 16 < k := hq
        have Q2 := Lib.hid hq
        clear hq
        by_cases hq : 9007199254740991 < n
        case pos =>
          have t4 : decide (9007199254740991 < n) = true := by simp; omega
          have hq' : 9007199254740991 < n := hq
          have HF0 := Lib.hid (HFIN.out (.inr (.inr (.inr (.inl hq)))))
          clear hq
          go_wp2_with fail
          refine HNO.out.mono ?_
          rintro e w6 ⟨rfl, hr, hc⟩
          have HR := Lib.hid (HF0.out _ hr hc)
          clear hr hc
          go_wp2_with fail
          go_ret
          exact HR.out
        case neg =>
        have t4 : decide (9007199254740991 < n) = false := by simp; omega
        have hn9 : ¬ 9007199254740991 < n := hq
        have Q3 := Lib.hid hq
        clear hq
        by_cases hq : n = 0
        case pos =>
          have t5 : (n == 0) = true := by rw [beq_iff_eq]; exact hq
          have HF0 := Lib.hid (HFIN.out (.inr (.inr (.inr (.inr (.inl ⟨rfl, hq⟩))))))
          clear hq
          go_wp2_with fail
          refine HNO.out.mono ?_
          rintro e w6 ⟨rfl, hr, hc⟩
          have HR := Lib.hid (HF0.out _ hr hc)
          clear hr hc
          go_wp2_with fail
          go_ret
          exact HR.out
        case neg =>
        have t5 : (n == 0) = false := by rw [beq_eq_false_iff_ne]; exact hq
        have Q4 : Hid (¬ (true = true ∧ n = 0)) := fun h => hq h.2
        clear hq
        by_cases hq : c = 46
        case pos =>
          have t6 : (c == 46) = true := by rw [beq_iff_eq]; exact hq
          have HF0 := Lib.hid (HFIN.out (.inr (.inr (.inr (.inr (.inr (.inl hq)))))))
          clear hq
          go_wp2_with fail
          refine HNO.out.mono ?_
          rintro e w6 ⟨rfl, hr, hc⟩
          have HR := Lib.hid (HF0.out _ hr hc)
          clear hr hc
          go_wp2_with fail
          go_ret
          exact HR.out
        case neg =>
        have t46 : (c == 46) = false := by rw [beq_eq_false_iff_ne]; exact hq
        have Q5 := Lib.hid hq
        clear hq
        by_cases hq : c = 101
        case pos =>
          have t6 : (c == 101) = true := by rw [beq_iff_eq]; exact hq
          have HF0 := Lib.hid (HFIN.out (.inr (.inr (.inr (.inr (.inr (.inr (.inl hq))))))))
          clear hq
          go_wp2_with fail
          refine HNO.out.mono ?_
          rintro e w6 ⟨rfl, hr, hc⟩
          have HR := Lib.hid (HF0.out _ hr hc)
          clear hr hc
          go_wp2_with fail
          go_ret
          exact HR.out
        case neg =>
        have t101 : (c == 101) = false := by rw [beq_eq_false_iff_ne]; exact hq
        have Q6 := Lib.hid hq
        clear hq
        by_cases hq : c = 69
        case pos =>
          have t6 : (c == 69) = true := by rw [beq_iff_eq]; exact hq
          have HF0 := Lib.hid (HFIN.out (.inr (.inr (.inr (.inr (.inr (.inr (.inr hq))))))))
          clear hq
          go_wp2_with fail
          refine HNO.out.mono ?_
          rintro e w6 ⟨rfl, hr, hc⟩
          have HR := Lib.hid (HF0.out _ hr hc)
          clear hr hc
          go_wp2_with fail
          go_ret
          exact HR.out
        case neg =>
        have t69 : (c == 69) = false := by rw [beq_eq_false_iff_ne]; exact hq
        have Q7 := Lib.hid hq
        clear hq
        have hP := HPUT.out (by rintro (h | h | h | h | h | h | h | h) <;> first | exact Q0.out h | exact Q1.out h | exact Q2.out h | exact Q3.out h | exact Q4.out h | exact Q5.out h | exact Q6.out h | exact Q7.out h)
        have HP := Lib.hid hP
        clear hP HPUT HFIN HNO
        go_wp2_with fail
        refine HP.out.mono ?_
        intro e w6 hR
        obtain ⟨z, a, fa, er, tv', xs', t', rfl, hR⟩ := hR
        have HE := Lib.hid (show RPost res rb base (.slice A l.length cap) tv xs lim w (.returned (.int .i64 z)) w6 from ⟨z, a, fa, er, tv', xs', t', rfl, hR⟩)
        clear hR
        go_wp2_with fail
        go_ret
        exact HE.out
      · have t1 : decide (1 < k) = false := by simp; omega
        have Q1 : Hid (¬ (1 < k ∧ y = 48)) := fun h => by omega
        by_cases hq : 16 < k
        case pos =>
          have t3 : decide (16 < k) = true := by simp; omega
          have hq' : 16 < k := hq
          have HF0 := Lib.hid (HFIN.out (.inr (.inr (.inl hq))))
          clear hq
          go_wp2_with fail
          refine HNO.out.mono ?_
          rintro e w6 ⟨rfl, hr, hc⟩
          have HR := Lib.hid (HF0.out _ hr hc)
          clear hr hc
          go_wp2_with fail
          go_ret
          exact HR.out
        case neg =>
        have t3 : decide (16 < k) = false := by simp; omega
        have hk16 : ¬ 16 < k := hq
        have Q2 := Lib.hid hq
        clear hq
        by_cases hq : 9007199254740991 < n
        case pos =>
          have t4 : decide (9007199254740991 < n) = true := by simp; omega
          have hq' : 9007199254740991 < n := hq
          have HF0 := Lib.hid (HFIN.out (.inr (.inr (.inr (.inl hq)))))
          clear hq
          go_wp2_with fail
          refine HNO.out.mono ?_
          rintro e w6 ⟨rfl, hr, hc⟩
          have HR := Lib.hid (HF0.out _ hr hc)
          clear hr hc
          go_wp2_with fail
          go_ret
          exact HR.out
        case neg =>
        have t4 : decide (9007199254740991 < n) = false := by simp; omega
        have hn9 : ¬ 9007199254740991 < n := hq
        have Q3 := Lib.hid hq
        clear hq
        by_cases hq : n = 0
        case pos =>
          have t5 : (n == 0) = true := by rw [beq_iff_eq]; exact hq
          have HF0 := Lib.hid (HFIN.out (.inr (.inr (.inr (.inr (.inl ⟨rfl, hq⟩))))))
          clear hq
          go_wp2_with fail
          refine HNO.out.mono ?_
          rintro e w6 ⟨rfl, hr, hc⟩
          have HR := Lib.hid (HF0.out _ hr hc)
          clear hr hc
          go_wp2_with fail
          go_ret
          exact HR.out
        case neg =>
        have t5 : (n == 0) = false := by rw [beq_eq_false_iff_ne]; exact hq
        have Q4 : Hid (¬ (true = true ∧ n = 0)) := fun h => hq h.2
        clear hq
        by_cases hq : c = 46
        case pos =>
          have t6 : (c == 46) = true := by rw [beq_iff_eq]; exact hq
          have HF0 := Lib.hid (HFIN.out (.inr (.inr (.inr (.inr (.inr (.inl hq)))))))
          clear hq
          go_wp2_with fail
          refine HNO.out.mono ?_
          rintro e w6 ⟨rfl, hr, hc⟩
          have HR := Lib.hid (HF0.out _ hr hc)
          clear hr hc
          go_wp2_with fail
          go_ret
          exact HR.out
        case neg =>
        have t46 : (c == 46) = false := by rw [beq_eq_false_iff_ne]; exact hq
        have Q5 := Lib.hid hq
        clear hq
        by_cases hq : c = 101
        case pos =>
          have t6 : (c == 101) = true := by rw [beq_iff_eq]; exact hq
          have HF0 := Lib.hid (HFIN.out (.inr (.inr (.inr (.inr (.inr (.inr (.inl hq))))))))
          clear hq
          go_wp2_with fail
          refine HNO.out.mono ?_
          rintro e w6 ⟨rfl, hr, hc⟩
          have HR := Lib.hid (HF0.out _ hr hc)
          clear hr hc
          go_wp2_with fail
          go_ret
          exact HR.out
        case neg =>
        have t101 : (c == 101) = false := by rw [beq_eq_false_iff_ne]; exact hq
        have Q6 := Lib.hid hq
        clear hq
        by_cases hq : c = 69
        case pos =>
          have t6 : (c == 69) = true := by rw [beq_iff_eq]; exact hq
          have HF0 := Lib.hid (HFIN.out (.inr (.inr (.inr (.inr (.inr (.inr (.inr hq))))))))
          clear hq
          go_wp2_with fail
          refine HNO.out.mono ?_
          rintro e w6 ⟨rfl, hr, hc⟩
          have HR := Lib.hid (HF0.out _ hr hc)
          clear hr hc
          go_wp2_with fail
          go_ret
          exact HR.out
        case neg =>
        have t69 : (c == 69) = false := by rw [beq_eq_false_iff_ne]; exact hq
        have Q7 := Lib.hid hq
        clear hq
        have hP := HPUT.out (by rintro (h | h | h | h | h | h | h | h) <;> first | exact Q0.out h | exact Q1.out h | exact Q2.out h | exact Q3.out h | exact Q4.out h | exact Q5.out h | exact Q6.out h | exact Q7.out h)
        have HP := Lib.hid hP
        clear hP HPUT HFIN HNO
        go_wp2_with fail
        refine HP.out.mono ?_
        intro e w6 hR
        obtain ⟨z, a, fa, er, tv', xs', t', rfl, hR⟩ := hR
        have HE := Lib.hid (show RPost res rb base (.slice A l.length cap) tv xs lim w (.returned (.int .i64 z)) w6 from ⟨z, a, fa, er, tv', xs', t', rfl, hR⟩)
        clear hR
        go_wp2_with fail
        go_ret
        exact HE.out

theorem number_r (rb : Nat) (A : Option Addr) (cap : Nat) (l : List UInt8) (i B base : Nat) (tv : Value) (xs : List VC) (t : List JV) (w : World) (lim : Nat) (hst : RS w B rb A cap l i (-1) 0 tv) (hT : TR base w tv xs t)
    (hil : i < l.length) (hL : l.length ≤ 268435456) (hbase : base ≤ rb) (hB : B ≤ base) (ht : t.length ≤ 1000000000) (hl1 : l.length ≤ lim) (hl2 : t.length + 1 ≤ lim) :
    Calls Tryz.prog 119 #[.pointer (some ⟨rb, 0, none⟩)] w (RPost (resN (numberJ l i) t) rb base (.slice A l.length cap) tv xs lim w) := by
  cases hb : (pk l i == 45) with
  | true => exact number_m rb A cap l i B base tv xs t w lim hst hT hb hil hL hbase hB ht hl1 hl2
  | false => exact number_p rb A cap l i B base tv xs t w lim hst hT hb hil hL hbase hB ht hl1 hl2
end Go.Proofs.YtknmbfkpclacgaaGreatDoor

