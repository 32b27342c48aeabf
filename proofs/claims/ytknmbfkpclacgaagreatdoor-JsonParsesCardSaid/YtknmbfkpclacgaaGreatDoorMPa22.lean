import Derived.Test.YtknmbfkpclacgaaGreatDoorMPaUa
import Derived.Test.YtknmbfkpclacgaaGreatDoorMPa18
import Derived.Test.YtknmbfkpclacgaaGreatDoorMPa21
import Derived.Laws.AppendOwnNone
/- galleyref02's Long says what dec says: the plain law. -/
set_option linter.unusedSimpArgs false
namespace Go.Proofs.YtknmbfkpclacgaaGreatDoor
theorem atI_drop (l : List UInt8) (p k : Nat) : atI l (p + k) = ((l.drop p)[k]?.map (fun c : UInt8 => (c.toNat : Int))).getD (-1) := by
  unfold atI
  by_cases h : p + k < l.length
  · rw [if_pos h]
    simp [pk, List.getD_eq_getElem?_getD, List.getElem?_eq_getElem h]
  · rw [if_neg h]
    simp [List.getElem?_eq_none (show l.length ≤ p + k by omega)]
theorem dec3 (a b c : Nat) (ha : a < 256) (hb : 128 ≤ b) (hb2 : b < 192) (hc : 128 ≤ c) (hc2 : c < 192) (h14 : a / 16 = 14) :
    (0x800 ≤ (a % 16) * 4096 + (b % 64) * 64 + c % 64 ∧ validR ((a % 16) * 4096 + (b % 64) * 64 + c % 64) = true) ↔ (a = 224 ∧ 160 ≤ b ∨ (225 ≤ a ∧ a ≤ 236) ∨ a = 237 ∧ b ≤ 159 ∨ (238 ≤ a ∧ a ≤ 239)) := by
  unfold validR
  simp only [Bool.or_eq_true, Bool.and_eq_true, decide_eq_true_eq]
  omega
theorem dec4 (a b c d : Nat) (ha : a < 256) (hb : 128 ≤ b) (hb2 : b < 192) (hc : 128 ≤ c) (hc2 : c < 192) (hd : 128 ≤ d) (hd2 : d < 192) :
    (a / 8 = 30 ∧ 0x10000 ≤ (a % 8) * 262144 + (b % 64) * 4096 + (c % 64) * 64 + d % 64 ∧ validR ((a % 8) * 262144 + (b % 64) * 4096 + (c % 64) * 64 + d % 64) = true) ↔ (a = 240 ∧ 144 ≤ b ∨ (241 ≤ a ∧ a ≤ 243) ∨ a = 244 ∧ b ≤ 143) := by
  unfold validR
  simp only [Bool.or_eq_true, Bool.and_eq_true, decide_eq_true_eq]
  omega
theorem refLong_eq (x y z u : Int) : refLong x y z u = if 0 ≤ x ∧ x ≤ 127 then 1 else if (194 ≤ x ∧ x ≤ 223) ∧ (128 ≤ y ∧ y ≤ 191) then 2
    else if (128 ≤ z ∧ z ≤ 191) ∧ (((x = 224 ∧ (160 ≤ y ∧ y ≤ 191) ∨ (225 ≤ x ∧ x ≤ 236) ∧ (128 ≤ y ∧ y ≤ 191)) ∨ x = 237 ∧ (128 ≤ y ∧ y ≤ 159)) ∨ (238 ≤ x ∧ x ≤ 239) ∧ (128 ≤ y ∧ y ≤ 191)) then 3
    else if ((128 ≤ z ∧ z ≤ 191) ∧ (128 ≤ u ∧ u ≤ 191)) ∧ ((x = 240 ∧ (144 ≤ y ∧ y ≤ 191) ∨ (241 ≤ x ∧ x ≤ 243) ∧ (128 ≤ y ∧ y ≤ 191)) ∨ x = 244 ∧ (128 ≤ y ∧ y ≤ 143)) then 4 else 0 := by
  unfold refLong yOk3 yOk4
  simp only [inB, Bool.and_eq_true, Bool.or_eq_true, decide_eq_true_eq, beq_iff_eq]
def lenD (m : List UInt8) : Nat := match dec m with | some (_, n) => n | none => 0
theorem cb_nat (c : UInt8) : cb c = true ↔ 128 ≤ c.toNat ∧ c.toNat < 192 := by unfold cb; simp
theorem lenD_one {a : UInt8} {r : List UInt8} (h : a.toNat < 128) : lenD (a :: r) = 1 := by
  unfold lenD
  cases r <;> simp [dec, h]
theorem lenD_end {a : UInt8} (h : ¬ a.toNat < 128) : lenD [a] = 0 := by unfold lenD; simp [dec, h]
theorem lenD_nocb {a b : UInt8} {r : List UInt8} (h : ¬ a.toNat < 128) (hb : cb b = false) : lenD (a :: b :: r) = 0 := by unfold lenD; simp [dec, h, hb]
theorem lenD_two {a b : UInt8} {r : List UInt8} (h : ¬ a.toNat < 128) (hb : cb b = true) (h2 : 0xC2 ≤ a.toNat ∧ a.toNat < 0xE0) : lenD (a :: b :: r) = 2 := by unfold lenD; simp [dec, h, hb, h2]
theorem lenD_end2 {a b : UInt8} (h : ¬ a.toNat < 128) (hb : cb b = true) (h2 : ¬ (0xC2 ≤ a.toNat ∧ a.toNat < 0xE0)) : lenD [a, b] = 0 := by unfold lenD; simp only [dec, if_neg h, hb, Bool.true_eq_false, if_false, if_neg h2]
theorem lenD_nocb2 {a b c : UInt8} {r : List UInt8} (h : ¬ a.toNat < 128) (hb : cb b = true) (h2 : ¬ (0xC2 ≤ a.toNat ∧ a.toNat < 0xE0)) (hc : cb c = false) : lenD (a :: b :: c :: r) = 0 := by
  unfold lenD; simp only [dec, if_neg h, hb, Bool.true_eq_false, if_false, if_neg h2, if_pos hc]
theorem lenD_three {a b c : UInt8} {r : List UInt8} (h : ¬ a.toNat < 128) (hb : cb b = true) (h2 : ¬ (0xC2 ≤ a.toNat ∧ a.toNat < 0xE0)) (hc : cb c = true) (h14 : a.toNat / 16 = 14) :
    lenD (a :: b :: c :: r) = if (a.toNat = 224 ∧ 160 ≤ b.toNat ∨ (225 ≤ a.toNat ∧ a.toNat ≤ 236) ∨ a.toNat = 237 ∧ b.toNat ≤ 159 ∨ (238 ≤ a.toNat ∧ a.toNat ≤ 239)) then 3 else 0 := by
  unfold lenD; simp only [dec, if_neg h, hb, Bool.true_eq_false, if_false, if_neg h2, hc, if_pos h14]
  have h1 := (cb_nat b).1 hb
  have h3 := (cb_nat c).1 hc
  have := dec3 a.toNat b.toNat c.toNat a.toNat_lt h1.1 h1.2 h3.1 h3.2 h14
  by_cases hk : (a.toNat = 224 ∧ 160 ≤ b.toNat ∨ (225 ≤ a.toNat ∧ a.toNat ≤ 236) ∨ a.toNat = 237 ∧ b.toNat ≤ 159 ∨ (238 ≤ a.toNat ∧ a.toNat ≤ 239))
  · rw [if_pos (this.2 hk), if_pos hk]
  · rw [if_neg (fun h => hk (this.1 h)), if_neg hk]
theorem lenD_end3 {a b c : UInt8} (h : ¬ a.toNat < 128) (hb : cb b = true) (h2 : ¬ (0xC2 ≤ a.toNat ∧ a.toNat < 0xE0)) (hc : cb c = true) (h14 : ¬ a.toNat / 16 = 14) : lenD [a, b, c] = 0 := by
  unfold lenD; simp only [dec, if_neg h, hb, Bool.true_eq_false, if_false, if_neg h2, hc, if_neg h14]
theorem lenD_nocb3 {a b c d : UInt8} {r : List UInt8} (h : ¬ a.toNat < 128) (hb : cb b = true) (h2 : ¬ (0xC2 ≤ a.toNat ∧ a.toNat < 0xE0)) (hc : cb c = true) (h14 : ¬ a.toNat / 16 = 14) (hd : cb d = false) : lenD (a :: b :: c :: d :: r) = 0 := by
  unfold lenD; simp only [dec, if_neg h, hb, Bool.true_eq_false, if_false, if_neg h2, hc, if_neg h14, if_pos hd]
theorem lenD_four {a b c d : UInt8} {r : List UInt8} (h : ¬ a.toNat < 128) (hb : cb b = true) (h2 : ¬ (0xC2 ≤ a.toNat ∧ a.toNat < 0xE0)) (hc : cb c = true) (h14 : ¬ a.toNat / 16 = 14) (hd : cb d = true) :
    lenD (a :: b :: c :: d :: r) = if (a.toNat = 240 ∧ 144 ≤ b.toNat ∨ (241 ≤ a.toNat ∧ a.toNat ≤ 243) ∨ a.toNat = 244 ∧ b.toNat ≤ 143) then 4 else 0 := by
  unfold lenD; simp only [dec, if_neg h, hb, Bool.true_eq_false, if_false, if_neg h2, hc, if_neg h14, hd]
  have h1 := (cb_nat b).1 hb
  have h3 := (cb_nat c).1 hc
  have h4 := (cb_nat d).1 hd
  have := dec4 a.toNat b.toNat c.toNat d.toNat a.toNat_lt h1.1 h1.2 h3.1 h3.2 h4.1 h4.2
  by_cases hk : (a.toNat = 240 ∧ 144 ≤ b.toNat ∨ (241 ≤ a.toNat ∧ a.toNat ≤ 243) ∨ a.toNat = 244 ∧ b.toNat ≤ 143)
  · rw [if_pos (this.2 hk), if_pos hk]
  · rw [if_neg (fun h => hk (this.1 h)), if_neg hk]
def gI (m : List UInt8) (k : Nat) : Int := (m[k]?.map (fun c : UInt8 => (c.toNat : Int))).getD (-1)
theorem cb_false_nat {c : UInt8} (h : cb c = false) : ¬ (128 ≤ (c.toNat : Int) ∧ (c.toNat : Int) ≤ 191) := by
  intro hh
  have := (cb_nat c).2 (by omega)
  rw [h] at this; cases this
theorem refLong_lenD (m : List UInt8) : refLong (gI m 0) (gI m 1) (gI m 2) (gI m 3) = lenD m := by
  rw [refLong_eq]
  match m with
  | [] => rfl
  | a :: r =>
    have ha := a.toNat_lt
    have e0 : gI (a :: r) 0 = (a.toNat : Int) := rfl
    rw [e0]
    by_cases h1 : a.toNat < 128
    · rw [if_pos (by omega), lenD_one h1]
    · rw [if_neg (by omega)]
      match r with
      | [] =>
        have e1 : gI [a] 1 = -1 := rfl
        have e2 : gI [a] 2 = -1 := rfl
        rw [e1, e2, if_neg (by omega), if_neg (by omega), if_neg (by omega), lenD_end h1]
      | b :: r2 =>
        have e1 : gI (a :: b :: r2) 1 = (b.toNat : Int) := rfl
        rw [e1]
        cases hb : cb b with
        | false =>
          have := cb_false_nat hb
          rw [if_neg (by omega), if_neg (by omega), if_neg (by omega), lenD_nocb h1 hb]
        | true =>
          have hb' := (cb_nat b).1 hb
          by_cases h2 : 0xC2 ≤ a.toNat ∧ a.toNat < 0xE0
          · rw [if_pos (by omega), lenD_two h1 hb h2]
          · rw [if_neg (by omega)]
            match r2 with
            | [] =>
              have e2 : gI [a, b] 2 = -1 := rfl
              rw [e2, if_neg (by omega), if_neg (by omega), lenD_end2 h1 hb h2]
            | c :: r3 =>
              have e2 : gI (a :: b :: c :: r3) 2 = (c.toNat : Int) := rfl
              rw [e2]
              cases hc : cb c with
              | false =>
                have := cb_false_nat hc
                rw [if_neg (by omega), if_neg (by omega), lenD_nocb2 h1 hb h2 hc]
              | true =>
                have hc' := (cb_nat c).1 hc
                by_cases h14 : a.toNat / 16 = 14
                · rw [lenD_three h1 hb h2 hc h14]
                  by_cases hk : (a.toNat = 224 ∧ 160 ≤ b.toNat ∨ (225 ≤ a.toNat ∧ a.toNat ≤ 236) ∨ a.toNat = 237 ∧ b.toNat ≤ 159 ∨ (238 ≤ a.toNat ∧ a.toNat ≤ 239))
                  · rw [if_pos (by omega), if_pos hk]
                  · rw [if_neg (by omega), if_neg (by omega), if_neg hk]
                · rw [if_neg (by omega)]
                  match r3 with
                  | [] =>
                    have e3 : gI [a, b, c] 3 = -1 := rfl
                    rw [e3, if_neg (by omega), lenD_end3 h1 hb h2 hc h14]
                  | d :: r4 =>
                    have e3 : gI (a :: b :: c :: d :: r4) 3 = (d.toNat : Int) := rfl
                    rw [e3]
                    cases hd : cb d with
                    | false =>
                      have := cb_false_nat hd
                      rw [if_neg (by omega), lenD_nocb3 h1 hb h2 hc h14 hd]
                    | true =>
                      have hd' := (cb_nat d).1 hd
                      rw [lenD_four h1 hb h2 hc h14 hd]
                      by_cases hk : (a.toNat = 240 ∧ 144 ≤ b.toNat ∨ (241 ≤ a.toNat ∧ a.toNat ≤ 243) ∨ a.toNat = 244 ∧ b.toNat ≤ 143)
                      · rw [if_pos (by omega), if_pos hk]
                      · rw [if_neg (by omega), if_neg hk]
theorem refLong_long (l : List UInt8) (p : Nat) : refLong (atI l p) (atI l (p + 1)) (atI l (p + 2)) (atI l (p + 3)) = longN l p := by
  have h0 : atI l p = gI (l.drop p) 0 := atI_drop l p 0
  rw [h0, show atI l (p + 1) = gI (l.drop p) 1 from atI_drop l p 1, show atI l (p + 2) = gI (l.drop p) 2 from atI_drop l p 2, show atI l (p + 3) = gI (l.drop p) 3 from atI_drop l p 3, refLong_lenD]
  rfl
end Go.Proofs.YtknmbfkpclacgaaGreatDoor

/- The document's reader: text. -/
set_option linter.unusedSimpArgs false
namespace Go.Proofs.YtknmbfkpclacgaaGreatDoor
open Go.RowKit

theorem dec_low {m : List UInt8} {r n : Nat} (h : dec m = some (r, n)) : (r < 32 ↔ (m.getD 0 0).toNat < 32) ∧ 1 ≤ n := by
  rcases dec_cases m r n h with ⟨a, t, rfl, ha, hr, hn⟩ | ⟨a, b, t, rfl, h1, h2, hb, hr, hn⟩ | ⟨a, b, c, t, rfl, h1, hb, hc, hr, h8, hv, hn⟩ | ⟨a, b, c, d, t, rfl, h1, hb, hc, hd, hr, h8, hv, hn⟩
  · rw [List.getD_cons_zero, hr]; omega
  · rw [List.getD_cons_zero]; omega
  · rw [List.getD_cons_zero]; omega
  · rw [List.getD_cons_zero]; omega
/-- What text does. -/
def TxR (l : List UInt8) (i : Nat) (rb : Nat) (bv tv : Value) (w : World) (e : Ending) (w' : World) : Prop :=
  ∃ (s : List UInt8) (a : Nat) (fa er : Int), e = .returned (.string ⟨s.toArray⟩) ∧ RR w' rb bv a fa er tv ∧ Chg (· = rb) w w' ∧ s.length ≤ 4 * l.length ∧ a ≤ l.length ∧
    match textJ l i with
    | .ok (s', j) => s = s' ∧ a = j ∧ fa = -1 ∧ er = 0
    | .error f => fa = f.1 ∧ er = f.2
/-- What holds at the head of text's loop. -/
structure TxS (l : List UInt8) (i j : Nat) (fa er : Int) (acc : List UInt8) : Prop where
  jl : j ≤ l.length
  al : acc.length ≤ 4 * l.length
  st : (fa = -1 ∧ er = 0 ∧ insideN l j = 0 ∧ acc.length ≤ 4 * j ∧ ∃ k, l.length + 1 ≤ j + k ∧ textGo l k j acc = textJ l i) ∨ (0 ≤ fa ∧ textJ l i = .error (fa.toNat, er))
def txM (l : List UInt8) (j : Nat) (fa : Int) : Nat := if fa < 0 then l.length - j + 2 else 1
theorem txM_pos (l : List UInt8) (j : Nat) (fa : Int) : 1 ≤ txM l j fa := by unfold txM; split <;> omega

set_option maxRecDepth 100000 in
set_option maxHeartbeats 16000000 in
theorem text_r (rb : Nat) (A : Option Addr) (cap : Nat) (l : List UInt8) (i : Nat) (tv : Value) (B : Nat) (w : World) (hst : RS w B rb A cap l i (-1) 0 tv) (hil : i < l.length) (hq : pk l i = 34) (hL : l.length ≤ 268435456) :
    Calls Tryz.prog 115 #[.pointer (some ⟨rb, 0, none⟩)] w (TxR l i rb (.slice A l.length cap) tv w) := by
  obtain ⟨i0, hi0, hz0, hz1, hz2⟩ := info_parts Tryz.infoByte
  have HI := Lib.hid (And.intro hi0 (And.intro hz0 (And.intro hz1 hz2)))
  clear hi0 hz0 hz1 hz2
  have hrl := hst.r.lt
  have hBr := hst.B
  have hcap := hst.c
  have c1 := hst.r.c1
  have f1 := hst.r.f 1
  have hin : insideN l (i + 1) = 0 := inside_ascii (by omega) (by rw [Nat.add_sub_cancel, hq]; decide)
  have hstA : RS (w.setCell ⟨rb, 1, none⟩ (.int .i64 ((i : Int) + 1))) B rb A cap l (i + 1) (-1) 0 tv := hst.to (hst.r.set1 (i + 1)) ((Chg.refl _ _).st _ _)
  have hchA : Chg (· = rb) w (w.setCell ⟨rb, 1, none⟩ (.int .i64 ((i : Int) + 1))) := (Chg.refl _ _).st _ _
  have HA := Lib.hid (And.intro hstA (And.intro hchA hin))
  clear hstA hchA hin hst hq
  go_enter Tryz.func115, Tryz.ntmps115
  go_wp2_with fail
  go_loopg [3] (l.length + 2) (fun g v wr => ∃ (j : Nat) (fa er : Int) (acc : List UInt8), wr.ownsRow w.heap.size 5 1 v acc.length (Lib.byteCells acc) ∧ RS wr B rb A cap l j fa er tv ∧ Chg (· = rb) w wr ∧ TxS l i j fa er acc ∧ txM l j fa ≤ g)
  case atStart => exact ⟨i + 1, -1, 0, [], ⟨rfl, .inl ⟨rfl, rfl⟩⟩, HA.out.1, HA.out.2.1, ⟨by omega, by simp, .inl ⟨rfl, rfl, HA.out.2.2, by simp, l.length + 1 - i, by omega, rfl⟩⟩, by unfold txM; rw [if_pos (by omega)]; omega⟩
  case round =>
    obtain ⟨j, fa, er, acc, hown, hstJ, hchJ, hTX, hg⟩ := hrel
    have hszJ := hchJ.size
    have hjl := hTX.jl
    have hal := hTX.al
    have c1 := hstJ.r.c1
    have c2 := hstJ.r.c2
    have f1 := hstJ.r.f 1
    have hcv : (convert 22 9 u3).run Tryz.prog wr = .ok (.string ⟨acc.toArray⟩) wr := own_conv (e := 5) (by kernel_rfl) (by kernel_rfl) (by kernel_rfl) hown
    rcases hTX.st with ⟨rfl, rfl, hin, hal4, k, hk, htx⟩ | ⟨hfa, herr⟩
    case inr =>
      have hE : TxR l i rb (.slice A l.length cap) tv w (.returned (.string ⟨acc.toArray⟩)) wr := by
        refine ⟨acc, j, fa, er, rfl, hstJ.r, hchJ, by omega, hjl, ?_⟩
        rw [herr]
        exact ⟨by simp; omega, rfl⟩
      have HE := Lib.hid hE
      clear hE herr hTX hg hown hstJ hchJ
      go_wp2_with fail
      go_ret
      exact HE.out
    case inl =>
      clear hcv
      obtain ⟨k, rfl⟩ : ∃ m, k = m + 1 := ⟨k - 1, by omega⟩
      rw [txM, if_pos (by omega)] at hg
      have HG := Lib.hid hg
      have HK := Lib.hid hk
      have HTX := Lib.hid htx
      have HIN := Lib.hid hin
      have hhere := here_any rb A cap l j (-1) 0 tv B wr hstJ.r hstJ.b
      have hln := hstJ.b.len
      clear htx hin hTX hg hk
      by_cases hjl2 : j < l.length
      case neg =>
        obtain rfl : j = l.length := by omega
        have hat : atI l l.length = -1 := by unfold atI; rw [if_neg (by omega)]
        rw [hat] at hhere
        have HH := Lib.hid hhere
        have HS := Lib.hid (And.intro hstJ (And.intro hchJ hown))
        clear hat hhere hstJ hchJ hown
        go_wp2_with fail
        refine HH.out.mono ?_
        rintro e w1 ⟨rfl, n1, rfl⟩
        have hst1 := HS.out.1.drewN n1
        have hno := rno_any rb (.slice A l.length cap) l.length (-1) 0 tv (l.length : Int) 240 _ hst1.r
        have d0 := hst1.r.c0
        have HNO := Lib.hid hno
        clear hno hst1
        go_wp2_with fail
        refine HNO.out.mono ?_
        rintro e w2 ⟨rfl, hr, hc⟩
        have hown2 : w2.ownsRow w.heap.size 5 1 u3 acc.length (Lib.byteCells acc) := own_chg (S := (· = rb)) (w := wr.drewN n1) HS.out.2.2 hc (fun q hq e => by have := own_ge HS.out.2.2 q hq; omega)
        have hcv : (convert 22 9 u3).run Tryz.prog w2 = .ok (.string ⟨acc.toArray⟩) w2 := own_conv (e := 5) (by kernel_rfl) (by kernel_rfl) (by kernel_rfl) hown2
        have hE : TxR l i rb (.slice A l.length cap) tv w (.returned (.string ⟨acc.toArray⟩)) w2 := by
          refine ⟨acc, l.length, (l.length : Int), 240, rfl, by simpa [noF, noE] using hr, (HS.out.2.1.drewN n1).trans hc, by omega, Nat.le_refl _, ?_⟩
          rw [← HTX.out, textGo, if_neg (by omega)]
          exact ⟨rfl, rfl⟩
        have HE := Lib.hid hE
        clear hE hown2 hr hc
        go_wp2_with fail
        go_ret
        exact HE.out
      case pos =>
        have hat : atI l j = ((pk l j).toNat : Int) := by unfold atI; rw [if_pos hjl2]
        rw [hat] at hhere
        have hpr := pk_range l j
        have HH := Lib.hid hhere
        have HS := Lib.hid (And.intro hstJ (And.intro hchJ hown))
        clear hat hhere hstJ hchJ hown
        by_cases hq : pk l j = 34
        case pos =>
          have tq : (((pk l j).toNat : Int) == 34) = true := eq_t (b := 34) hq
          have hx : textJ l i = .ok (acc, j + 1) := by rw [← HTX.out, textGo, if_pos hjl2, if_pos hq]
          have HX := Lib.hid hx
          clear hx hq
          go_wp2_with fail
          refine HH.out.mono ?_
          rintro e w1 ⟨rfl, n1, rfl⟩
          have hst1 := HS.out.1.drewN n1
          have d1 := hst1.r.c1
          have g1 := hst1.r.f 1
          have hst2 : RS ((wr.drewN n1).setCell ⟨rb, 1, none⟩ (.int .i64 ((j : Int) + 1))) B rb A cap l (j + 1) (-1) 0 tv := hst1.to (hst1.r.set1 (j + 1)) ((Chg.refl _ _).st _ _)
          have hown2 : ((wr.drewN n1).setCell ⟨rb, 1, none⟩ (.int .i64 ((j : Int) + 1))).ownsRow w.heap.size 5 1 u3 acc.length (Lib.byteCells acc) := ownsRow_setCell_other (w := wr.drewN n1) HS.out.2.2 (a := ⟨rb, 1, none⟩) (fun e => by have := own_ge HS.out.2.2 rb e; omega) _
          have hcv : (convert 22 9 u3).run Tryz.prog ((wr.drewN n1).setCell ⟨rb, 1, none⟩ (.int .i64 ((j : Int) + 1))) = .ok (.string ⟨acc.toArray⟩) ((wr.drewN n1).setCell ⟨rb, 1, none⟩ (.int .i64 ((j : Int) + 1))) := own_conv (e := 5) (by kernel_rfl) (by kernel_rfl) (by kernel_rfl) hown2
          have hE : TxR l i rb (.slice A l.length cap) tv w (.returned (.string ⟨acc.toArray⟩)) ((wr.drewN n1).setCell ⟨rb, 1, none⟩ (.int .i64 ((j : Int) + 1))) := by
            refine ⟨acc, j + 1, -1, 0, rfl, hst2.r, (HS.out.2.1.drewN n1).st _ _, by omega, by omega, ?_⟩
            rw [HX.out]
            exact ⟨rfl, rfl, rfl, rfl⟩
          have HE := Lib.hid hE
          clear hE hown2 hst1 hst2
          go_wp2_with fail
          go_ret
          exact HE.out
        case neg =>
        have tq : (((pk l j).toNat : Int) == 34) = false := eq_f (b := 34) hq
        by_cases hs : pk l j = 92
        case pos =>
          have ts : (((pk l j).toNat : Int) == 92) = true := eq_t (b := 92) hs
          have hx0 : textJ l i = match escapeJ l j with
              | .error e => .error e
              | .ok (r, j') => textGo l k j' (acc ++ encN r) := by rw [← HTX.out, textGo, if_pos hjl2, if_neg hq, if_pos hs]; rfl
          have HX0 := Lib.hid hx0
          clear hx0 hq hs
          go_wp2_with fail
          refine HH.out.mono ?_
          rintro e w1 ⟨rfl, n1, rfl⟩
          have hst1 := HS.out.1.drewN n1
          have hesc := escape_r rb A cap l j tv B _ hst1 hjl2 hL
          have HES := Lib.hid hesc
          clear hesc hst1
          go_wp2_with fail
          refine HES.out.mono ?_
          intro e w2 hE
          unfold EscR at hE
          cases he : escapeJ l j with
          | error f =>
            rw [he] at hE
            obtain ⟨rfl, hc, a, ha, hr⟩ := hE
            have hown2 : w2.ownsRow w.heap.size 5 1 u3 acc.length (Lib.byteCells acc) := own_chg (S := (· = rb)) (w := wr.drewN n1) HS.out.2.2 hc (fun q hq e => by have := own_ge HS.out.2.2 q hq; omega)
            have hx := HX0.out
            rw [he] at hx
            have HX := Lib.hid hx
            have HR := Lib.hid (And.intro ((HS.out.1.drewN n1).to hr hc) (And.intro ((HS.out.2.1.drewN n1).trans hc) (And.intro hown2 ha)))
            clear hx he HX0 hr hc hown2 ha
            go_wp2_with (at_builtin; refine wpList_append_own_none rfl _ _ 22 rfl w.heap.size 5 i0 1 Tryz.underlying22 HI.out.1 u3 acc.length (Lib.byteCells acc) rfl HR.out.2.2.1 rfl ?_)
            go_roundg 1
            case measure => have := HG.out; omega
            case rel => exact ⟨a, f.1, f.2, acc, HR.out.2.2.1, HR.out.1, HR.out.2.1, ⟨HR.out.2.2.2, hal, .inr ⟨by omega, by rw [HX.out]; rfl⟩⟩, by unfold txM; rw [if_neg (by omega)]; omega⟩
          | ok rj =>
            obtain ⟨r, j'⟩ := rj
            rw [he] at hE
            obtain ⟨b2, c2', rfl, hblk, hb2, hr, hc⟩ := hE
            have hown2 : w2.ownsRow w.heap.size 5 1 u3 acc.length (Lib.byteCells acc) := own_chg (S := (· = rb)) (w := wr.drewN n1) HS.out.2.2 hc (fun q hq e => by have := own_ge HS.out.2.2 q hq; omega)
            obtain ⟨hv, hjj, hjl'⟩ := escapeJ_ok he
            have hlen : (encN r).length ≤ 4 := encN_len r
            have hx := HX0.out
            rw [he] at hx
            have HX := Lib.hid hx
            have hasc := escapeJ_ascii he
            have hin' : insideN l j' = 0 := inside_ascii hasc.1 hasc.2
            have hst2 := (HS.out.1.drewN n1).to hr hc
            have hch2 : Chg (· = rb) w w2 := (HS.out.2.1.drewN n1).trans hc
            have hsz2 := hch2.size
            have hcells : ∀ q u, (Lib.byteCells (encN r))[q]? = some u → w2.cell? ((⟨b2, 0, none⟩ : Addr).add q) = some u := by
              intro q u hu
              rw [addr_add_plain, cell_of_row _ _ _ _ _ _ hblk, Nat.zero_add]
              simpa using hu
            have hone : ∀ u ∈ Lib.byteCells (encN r), u.oneCell' = true := by
              intro u hu; simp only [Lib.byteCells, List.mem_map] at hu; obtain ⟨x, _, rfl⟩ := hu; rfl
            have hnl : (Lib.byteCells (encN r)).length = (encN r).length * 1 := by rw [Lib.byteCells_length]; omega
            have hbk2 := hst2.b
            have hB2 := hst2.B
            have hcp2 := hst2.c
            have hlrb : rb < w2.heap.size := hst2.r.lt
            have HR := Lib.hid (And.intro hst2 (And.intro hch2 (And.intro hin' (And.intro hown2 (And.intro hcells (And.intro hone hnl))))))
            clear hx he HX0 hr hc hown2 hasc hin' hst2 hch2 hcells hone hnl hblk hbk2 hB2 hcp2
            go_wp2_with (at_builtin; refine wpList_append_own _ rfl _ _ 22 rfl w.heap.size 5 i0 (.int .u8 0) 1 1 Tryz.underlying22 HI.out.1 HI.out.2.1 HI.out.2.2.1 HI.out.2.2.2 rfl (by decide) _ _ _ rfl HR.out.2.2.2.1 ⟨b2, 0, none⟩ (encN r).length c2' (Lib.byteCells (encN r)) rfl HR.out.2.2.2.2.2.2 HR.out.2.2.2.2.1 HR.out.2.2.2.2.2.1 ?c3 ?c4 ?c5 ?_)
            case c3 => unfold maxLen; omega
            case c4 => omega
            case c5 => omega
            intro v' w3 hown3 hgrow _
            have hrow : ∀ q, u3.ownBlock = some q → w.heap.size ≤ q ∧ q < w2.heap.size := fun q hq => ⟨own_ge HR.out.2.2.2.1 q hq, own_lt2 HR.out.2.2.2.1 q hq⟩
            have hrowRb : some rb ≠ u3.ownBlock := fun e => by have := hrow rb e.symm; omega
            have hch3 : Chg (· = rb) w w3 := HR.out.2.1.grown hgrow (fun q hq e => by have := hrow q e.symm; omega)
            have hr3 : RR w3 rb (.slice A l.length cap) j' (-1) 0 tv := ⟨by rw [hgrow.block rb hlrb hrowRb]; exact HR.out.1.r.h⟩
            have hst3 : RS w3 B rb A cap l j' (-1) 0 tv := ⟨hr3, HR.out.1.b.keep ((Below.refl B w2).grown hgrow (by omega) (fun q hq => by have := hrow q hq; omega)), HR.out.1.B, HR.out.1.c⟩
            have hown4 : w3.ownsRow w.heap.size 5 1 v' (acc ++ encN r).length (Lib.byteCells (acc ++ encN r)) := by
              rw [Lib.byteCells_append, List.length_append]; exact hown3
            have H3 := Lib.hid (And.intro hown4 (And.intro hst3 hch3))
            clear hown3 hgrow hrow hrowRb hch3 hr3 hst3 hown4
            go_wp2_with fail
            go_roundg (l.length - j' + 2)
            case measure => have := HG.out; omega
            case rel =>
              refine ⟨j', -1, 0, acc ++ encN r, H3.out.1, H3.out.2.1, H3.out.2.2, ⟨hjl', by simp; omega, .inl ⟨rfl, rfl, HR.out.2.2.1, by simp; omega, k, by have := HK.out; omega, HX.out.symm⟩⟩, by unfold txM; rw [if_pos (by omega)]; omega⟩
        case neg =>
          have ts : (((pk l j).toNat : Int) == 92) = false := eq_f (b := 92) hs
          have hx0 : textJ l i = match dec (l.drop j) with
              | none => .error (j, 243)
              | some (r, n) => if r < 32 then .error (j, 243) else textGo l k (j + n) (acc ++ (l.drop j).take n) := by
            rw [← HTX.out, textGo, if_pos hjl2, if_neg hq, if_neg hs, if_neg (by have := HIN.out; omega)]
            rfl
          have HX0 := Lib.hid hx0
          clear hx0 hq hs
          have hlongA := fun W (hb : Bs W B A l) => long_any A cap l j B W hb (by omega)
          rw [refLong_long] at hlongA
          have hlongV : longN l j = match dec (l.drop j) with | some (_, n) => n | none => 0 := rfl
          generalize longN l j = n at *
          have HLA := Lib.hid hlongA
          have HLV := Lib.hid hlongV
          clear hlongA hlongV
          go_wp2_with fail
          refine HH.out.mono ?_
          rintro e w1 ⟨rfl, hd1⟩
          have hst1 := HS.out.1.drawn hd1
          have hch1 : Chg (· = rb) w w1 := HS.out.2.1.trans hd1.chg
          have hown1 : w1.ownsRow w.heap.size 5 1 u3 acc.length (Lib.byteCells acc) := own_chg (S := fun _ => False) HS.out.2.2 hd1.chg (fun _ _ => id)
          have d0 := hst1.r.c0
          have d1 := hst1.r.c1
          have hLq : ∀ q, Calls Tryz.prog 179 #[.slice A l.length cap, .int .i64 j] (w1.drewN q) fun e w' => e = .returned (.int .i64 (n : Nat)) ∧ w' = w1.drewN q := fun q => HLA.out _ (hst1.drewN q).b
          have hcl := hst1.b.cells (by omega)
          have hkeep : ∀ q, RS (w1.drewN q) B rb A cap l j (-1) 0 tv ∧ Chg (· = rb) w (w1.drewN q) ∧ (w1.drewN q).ownsRow w.heap.size 5 1 u3 acc.length (Lib.byteCells acc) := fun q => ⟨hst1.drewN q, hch1.drewN q, hown1⟩
          have H1 := Lib.hid hkeep
          have HLQ := Lib.hid hLq
          have HCL := Lib.hid hcl
          clear hLq hkeep hcl hst1 hch1 hown1 hd1 HS HH
          go_wp2_with fail
          go_quiet ((go_at_call 179; exact Calls.quiet_of_same (HLQ.out _)))
          obtain ⟨hst2, hch2, hown2⟩ := H1.out nq
          have hno := rno_any rb (.slice A l.length cap) j (-1) 0 tv (j : Int) 243 (w1.drewN nq) hst2.r
          have HNO := Lib.hid hno
          have e0 := hst2.r.c0
          have e1 := hst2.r.c1
          have HS2 := Lib.hid (And.intro hst2 (And.intro hch2 hown2))
          have hcl2 : ∃ b o, A = some ⟨b, o, none⟩ ∧ b < B ∧ ∀ q, q < l.length → (w1.drewN nq).cell? ⟨b, o + q, none⟩ = some (.int .u8 ((pk l q).toNat : Int)) := HCL.out
          have HCL2 := Lib.hid hcl2
          have hbad : (pk l j).toNat < 32 ∨ n = 0 → textJ l i = .error (j, 243) := by
            intro h
            rw [HX0.out]
            have hv := HLV.out
            cases hdc : dec (l.drop j) with
            | none => rfl
            | some x =>
              obtain ⟨r, m⟩ := x
              rw [hdc] at hv
              simp only at hv ⊢
              have hl := dec_low hdc
              rw [drop_getD] at hl
              rw [if_pos (hl.1.2 (by omega))]
          have hgood : ¬ (pk l j).toNat < 32 → n ≠ 0 → (∃ r, dec (l.drop j) = some (r, n)) ∧ textJ l i = textGo l k (j + n) (acc ++ (l.drop j).take n) := by
            intro h1 h2
            have hv := HLV.out
            have hx := HX0.out
            cases hdc : dec (l.drop j) with
            | none => rw [hdc] at hv; exact absurd hv h2
            | some x =>
              obtain ⟨r, m⟩ := x
              rw [hdc] at hv hx
              simp only at hv hx
              subst hv
              have hl := dec_low hdc
              rw [drop_getD] at hl
              rw [if_neg (fun h => h1 (hl.1.1 h))] at hx
              exact ⟨⟨r, rfl⟩, hx⟩
          have HBAD := Lib.hid hbad
          have HGOOD := Lib.hid hgood
          clear hst2 hch2 hown2 hno hcl2 hbad hgood H1 HCL HLQ HX0 HLA
          have hend : textJ l i = .error (j, 243) → ∀ w3, RR w3 rb (.slice A l.length cap) j (noF (-1) j) (noE (-1) 0 243) tv → Chg (· = rb) (w1.drewN nq) w3 → (convert 22 9 u3).run Tryz.prog w3 = .ok (.string ⟨acc.toArray⟩) w3 ∧ TxR l i rb (.slice A l.length cap) tv w (.returned (.string ⟨acc.toArray⟩)) w3 := by
            intro hx w3 hr hc
            have hown3 : w3.ownsRow w.heap.size 5 1 u3 acc.length (Lib.byteCells acc) := own_chg (S := (· = rb)) HS2.out.2.2 hc (fun q hq e => by have := own_ge HS2.out.2.2 q hq; omega)
            refine ⟨own_conv (e := 5) (by kernel_rfl) (by kernel_rfl) (by kernel_rfl) hown3, acc, j, (j : Int), 243, rfl, by simpa [noF, noE] using hr, HS2.out.2.1.trans hc, hal, hjl, ?_⟩
            rw [hx]
            exact ⟨rfl, rfl⟩
          have HEND := Lib.hid hend
          clear hend
          by_cases hc32 : (pk l j).toNat < 32
          · have tc : decide (((pk l j).toNat : Int) < 32) = true := by simp; omega
            have tc' : ((pk l j).toNat : Int) < 32 := by omega
            have HXX := Lib.hid (HBAD.out (.inl hc32))
            clear hc32
            go_wp2_with fail
            refine HNO.out.mono ?_
            rintro e w3 ⟨rfl, hr, hc⟩
            obtain ⟨hcv, hE⟩ := HEND.out HXX.out w3 hr hc
            have HE := Lib.hid hE
            clear hE hr hc
            go_wp2_with fail
            go_ret
            exact HE.out
          · have tc : decide (((pk l j).toNat : Int) < 32) = false := by simp; omega
            have tc' : ¬ ((pk l j).toNat : Int) < 32 := by omega
            by_cases hn0 : n = 0
            · subst hn0
              have HXX := Lib.hid (HBAD.out (.inr rfl))
              clear hc32
              go_wp2_with fail
              refine HNO.out.mono ?_
              rintro e w3 ⟨rfl, hr, hc⟩
              obtain ⟨hcv, hE⟩ := HEND.out HXX.out w3 hr hc
              have HE := Lib.hid hE
              clear hE hr hc
              go_wp2_with fail
              go_ret
              exact HE.out
            · obtain ⟨⟨r, hdc⟩, hx⟩ := HGOOD.out hc32 hn0
              have tn : (((n : Nat) : Int) == 0) = false := by rw [beq_eq_false_iff_ne]; omega
              obtain ⟨q1, q2, q3, q4, q5, q6⟩ := dec_enc _ _ _ hdc
              have hnl : j + n ≤ l.length := by simp at q4; omega
              have hin' := inside_step hdc HIN.out
              obtain ⟨b, o, rfl, hbB, hcb⟩ := HCL2.out
              have HX := Lib.hid (And.intro hx hin')
              have HCB := Lib.hid hcb
              clear hx hin' hdc q1 q4 q5 q6 hc32 hn0 hcb HGOOD HBAD HEND HNO HLV
              go_upto_region 14 with fail
              have hw1 : IntKind.i64.wrap ((j : Int) + (n : Int)) = (j : Int) + (n : Int) := IntWalk.i64_in _ (by omega)
              have hw2 : 0 ≤ (j : Int) + (n : Int) := by omega
              have hw3 : ((j : Int) + (n : Int)).toNat = j + n := by omega
              have hw4 : ¬ cap = j := by omega
              have hw5 : (j : Int) + (n : Int) ≤ (cap : Int) := by omega
              have hw6 : j ≤ j + n := by omega
              refine wp_region_still_tail 16 (by kernel_rfl) (by kernel_rfl) ?_
              simp only [List.take_succ_cons, List.take_zero, List.drop_succ_cons, List.drop_zero]
              change wpStill _ _ (w1.drewN nq).drew _ _ _
              repeat still_step
              refine wpStill_nil ?_
              clear hw1 hw2 hw3 hw4 hw5 hw6
              change wpList _ _ _ _ _ (w1.drewN nq).drew
              have hnews : (Lib.byteCells ((l.drop j).take n)).length = n * 1 := by rw [Lib.byteCells_length]; simp; omega
              have hcells : ∀ q u, (Lib.byteCells ((l.drop j).take n))[q]? = some u → (w1.drewN nq).drew.cell? ((⟨b, o + j, none⟩ : Addr).add q) = some u := by
                intro q u hu
                have hq : q < n := by
                  have := (List.getElem?_eq_some_iff.1 hu).1
                  rw [Lib.byteCells_length] at this; simp at this; omega
                rw [addr_add_plain]
                show (w1.drewN nq).cell? _ = _
                rw [show o + j + q = o + (j + q) from by omega, HCB.out (j + q) (by omega), ← hu]
                simp only [Lib.byteCells, List.getElem?_map, List.getElem?_take, if_pos hq, List.getElem?_drop, pk, List.getD_eq_getElem?_getD]
                rw [List.getElem?_eq_getElem (show j + q < l.length by omega)]
                rfl
              refine wpList_append_own (w1.drewN nq).drew rfl _ _ 22 rfl w.heap.size 5 i0 (.int .u8 0) 1 1 Tryz.underlying22 HI.out.1 HI.out.2.1 HI.out.2.2.1 HI.out.2.2.2 rfl (by decide) _ _ _ rfl (HS2.out.2.2.drew) ⟨b, o + j, none⟩ n (cap - j) (Lib.byteCells ((l.drop j).take n)) rfl hnews hcells ?c2 ?c3 ?c4 ?c5 ?_
              case c2 => intro u hu; simp only [Lib.byteCells, List.mem_map] at hu; obtain ⟨x, _, rfl⟩ := hu; rfl
              case c3 => unfold maxLen; omega
              case c4 => omega
              case c5 => exact HS2.out.2.1.size
              intro v' w3 hown3 hgrow _
              have hlrb : rb < (w1.drewN nq).heap.size := HS2.out.1.r.lt
              have hszq := HS2.out.2.1.size
              have hrow : ∀ q, u3.ownBlock = some q → w.heap.size ≤ q := fun q hq => own_ge HS2.out.2.2 q hq
              have hrowRb : some rb ≠ u3.ownBlock := fun e => by have := hrow rb e.symm; omega
              have hch3 : Chg (· = rb) w w3 := HS2.out.2.1.drew.grown hgrow (fun q hq e => by have := hrow q e.symm; omega)
              have hr3 : RR w3 rb (.slice (some ⟨b, o, none⟩) l.length cap) j (-1) 0 tv := ⟨by rw [hgrow.block rb hlrb hrowRb]; exact HS2.out.1.r.h⟩
              have hst3 : RS w3 B rb (some ⟨b, o, none⟩) cap l j (-1) 0 tv := ⟨hr3, HS2.out.1.b.keep ((bl_drew (Below.refl B (w1.drewN nq))).grown hgrow (by show B ≤ (w1.drewN nq).heap.size; omega) (fun q hq => by have := hrow q hq; omega)), HS2.out.1.B, HS2.out.1.c⟩
              have hown4 : w3.ownsRow w.heap.size 5 1 v' (acc ++ (l.drop j).take n).length (Lib.byteCells (acc ++ (l.drop j).take n)) := by
                have e1 : (acc ++ (l.drop j).take n).length = acc.length + n := by simp; omega
                rw [e1, Lib.byteCells_append]; exact hown3
              have d1 := hst3.r.c1
              have g1 := hst3.r.f 1
              have hst5 : RS (w3.setCell ⟨rb, 1, none⟩ (.int .i64 ((j : Int) + (n : Int)))) B rb (some ⟨b, o, none⟩) cap l (j + n) (-1) 0 tv := hst3.to (hst3.r.set1 (j + n)) ((Chg.refl _ _).st _ _)
              have hown5 : (w3.setCell ⟨rb, 1, none⟩ (.int .i64 ((j : Int) + (n : Int)))).ownsRow w.heap.size 5 1 v' (acc ++ (l.drop j).take n).length (Lib.byteCells (acc ++ (l.drop j).take n)) := ownsRow_setCell_other hown4 (a := ⟨rb, 1, none⟩) (fun e => by have := own_ge hown4 rb e; omega) _
              have H3 := Lib.hid (And.intro hown5 (And.intro hst5 (hch3.st 1 (.int .i64 ((j : Int) + (n : Int))))))
              clear hown3 hgrow hrow hrowRb hch3 hr3 hst3 hown4 hown5 hst5 hnews hcells
              go_wp2_with fail
              go_roundg (l.length - (j + n) + 2)
              case measure => have := HG.out; omega
              case rel =>
                refine ⟨j + n, -1, 0, acc ++ (l.drop j).take n, H3.out.1, H3.out.2.1, H3.out.2.2, ⟨hnl, by simp; omega, .inl ⟨rfl, rfl, HX.out.2, by simp; omega, k, by have := HK.out; omega, HX.out.1.symm⟩⟩, by unfold txM; rw [if_pos (by omega)]; omega⟩
end Go.Proofs.YtknmbfkpclacgaaGreatDoor
