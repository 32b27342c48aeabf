/- The reader's value. -/
import Derived.Test.YtknmbfkpclacgaaDoorRdk
set_option linter.unusedSimpArgs false
namespace Go.Proofs.YtknmbfkpclacgaaDoor
open Go.RowKit

theorem eq_t {a b : UInt8} (h : a = b) : (((a.toNat : Int)) == (b.toNat : Int)) = true := by subst h; simp
theorem eq_f {a b : UInt8} (h : a ≠ b) : (((a.toNat : Int)) == (b.toNat : Int)) = false := by
  simp only [beq_eq_false_iff_ne, ne_eq]
  intro e
  exact h (UInt8.toNat_inj.1 (by omega))

/-- A value without lists. -/
def bare (v : JV) : VC := ⟨v.kind, v.truth, v.n, ⟨v.text.toArray⟩, .slice none 0 0, .slice none 0 0⟩
theorem VR.bare {base : Nat} {w : World} {v : JV} (hk : v.kids = []) (hn : v.names = []) : VR base w (bare v) v := by
  refine ⟨rfl, rfl, rfl, rfl, ?_, ?_⟩
  · rw [hk]; exact ⟨rfl, .inl ⟨rfl, rfl⟩⟩
  · rw [hn]; exact ⟨rfl, .inl ⟨rfl, rfl⟩⟩
theorem tb_bare (v : JV) : tb [bare v] = [] := by simp [tb, vb, bare, Value.ownBlock]

theorem put_bare (rb : Nat) (A : Option Addr) (cap : Nat) (l : List UInt8) (i j dp B base : Nat) (tv : Value) (xs : List VC) (t : List JV) (v : JV) (w w1 : World) (hst : St w B rb A cap l i dp tv) (hT : TR base w tv xs t)
    (hr1 : Rd w1 rb (.slice A l.length cap) j dp tv) (hc1 : Chg (· = rb) w w1) (hbase : base ≤ rb) (hB : B ≤ base) (ht : t.length ≤ 1000000000) (hk : v.kids = []) (hn : v.names = []) :
    Calls Tryd.prog 34 #[.pointer (some ⟨rb, 0, none⟩), .agg #[.int .i64 v.kind, .bool v.truth, .int .i64 v.n, .string ⟨v.text.toArray⟩, .slice none 0 0, .slice none 0 0]] w1
      (TPost (.ok (t.length, j, t ++ [v])) rb base (.slice A l.length cap) tv xs dp w) := by
  have hst1 := hst.to hr1 hc1
  have hT1 := hT.rb hst.r hc1
  have hsz := hc1.size
  refine (put_tree rb A cap l j dp B base tv xs t (bare v) v w1 hst1 hT1 (VR.bare hk hn) (by rw [tb_append, tb_bare, List.append_nil]; exact hT.nodup) hbase hB ht).mono ?_
  rintro e w4 ⟨rfl, tv4, hst4, hT4, hch4, htv4⟩
  refine ⟨rfl, tv4, [bare v], hst4.r, hT4, (hc1.mono fun _ _ h => .inl h).trans hch4, by rw [tb_bare]; simp, fun b hb => (htv4 b hb).imp id (fun h => by omega)⟩

/-- What a call of number does. -/
def NPost (l : List UInt8) (i : Nat) (rb : Nat) (bv tv : Value) (dp : Nat) (w : World) (e : Ending) (w' : World) : Prop :=
  match numberJ l i with
  | .ok (n, j) => e = .returned (.int .i64 n) ∧ Rd w' rb bv j dp tv ∧ Chg (· = rb) w w'
  | .error f => NoEnd f.1 f.2 e ∧ Chg (· = rb) w w'
theorem number_any (rb : Nat) (A : Option Addr) (cap : Nat) (tv : Value) (l : List UInt8) (i dp : Nat) (B : Nat) (w : World) (hst : St w B rb A cap l i dp tv) (hil : i < l.length) :
    Calls Tryd.prog 36 #[.pointer (some ⟨rb, 0, none⟩)] w (NPost l i rb (.slice A l.length cap) tv dp w) := by
  cases hb : (pk l i == 45) with
  | false =>
    refine (number_false rb A cap tv l i dp B w hst hb hil).mono fun e w' h => ?_
    unfold NumPost at h
    unfold NPost numberJ
    simp only [hb, Bool.false_eq_true, if_false] at h ⊢
    split at h
    · rename_i hc; simp only [if_pos hc]; exact h
    · rename_i hc; simp only [if_neg hc]; exact h
  | true =>
    refine (number_true rb A cap tv l i dp B w hst hb hil).mono fun e w' h => ?_
    unfold NumPost at h
    unfold NPost numberJ
    simp only [hb, if_true] at h ⊢
    split at h
    · rename_i hc; simp only [if_pos hc]; exact h
    · rename_i hc; simp only [if_neg hc]; exact h
theorem TPost.back {res : Except Flt (Nat × Nat × List JV)} {rb base : Nat} {bv tv : Value} {xs : List VC} {dp : Nat} {w w2 : World} {e : Ending} {w' : World} (hb : ∀ b, b = rb → base ≤ b) (hc : Chg (· = rb) w w2) (h : TPost res rb base bv tv xs dp w2 e w') : TPost res rb base bv tv xs dp w e w' := by
  have hsz := hc.size
  unfold TPost at h ⊢
  cases res with
  | error f => exact ⟨h.1, (hc.mono fun b _ e => hb b e).trans h.2⟩
  | ok r =>
    obtain ⟨he, tv', xs', h1, h2, h3, h4, h5⟩ := h
    exact ⟨he, tv', xs', h1, h2, (hc.mono fun _ _ h => .inl h).trans h3, fun b hb => by have := h4 b hb; omega, fun b hb => (h5 b hb).imp id fun h => by omega⟩

theorem wordJ_yes {l : List UInt8} {i : Nat} {w : List UInt8} (h : (l.drop i).take w.length = w) : wordJ l i w = .ok (i + w.length) := if_pos h
theorem wordJ_no {l : List UInt8} {i : Nat} {w : List UInt8} (h : (l.drop i).take w.length ≠ w) : wordJ l i w = .error (i, 240) := if_neg h
theorem TPost.form {res : Except Flt (Nat × Nat × List JV)} {rb base : Nat} {bv tv : Value} {xs : List VC} {dp : Nat} {w : World} {e : Ending} {w' : World} (h : TPost res rb base bv tv xs dp w e w') :
    (∃ p : Nat, e = .returned (.int .i64 p)) ∨ ∃ f : Flt, e = .panicked [{ v := fltV f.1 f.2, recovered := false }] := by
  unfold TPost at h
  cases res with
  | error f => exact .inr ⟨f, h.1⟩
  | ok r => obtain ⟨p, j, t'⟩ := r; exact .inl ⟨p, h.1⟩

set_option maxRecDepth 100000 in
set_option maxHeartbeats 16000000 in
theorem value_any (l : List UInt8) (rb : Nat) (A : Option Addr) (cap B base : Nat) (hrb : base ≤ rb) (hB : B ≤ base) (hL : l.length ≤ 268435456) (k : Nat) (IH : ∀ k', k' < k → VCon l rb A cap B base k') : VCon l rb A cap B base k := by
  intro i dp t tv xs w hk hil hti hdp hst hT hG hD
  obtain ⟨k, rfl⟩ : ∃ m, k = m + 1 := ⟨k - 1, by omega⟩
  have HIH := Lib.hid IH
  clear IH
  have hrl := hst.r.lt
  have hsk := skip_ge l i
  have hsl := skip_le l i hil
  obtain ⟨res, hres⟩ : ∃ r, r = valueJ l (k + 1) i dp t := ⟨_, rfl⟩
  rw [← hres]
  rw [valueJ] at hres
  try simp only at hres
  generalize hj : skip l i = j at *
  have HRES := Lib.hid hres
  have HJ := Lib.hid hj
  clear hres hj
  go_enter Tryd.func19, Tryd.ntmps19
  go_wp2_with fail
  refine (blanks_any rb A cap tv l i dp B _ hst.B hst.r hst.b).mono ?_
  rintro e w1 ⟨rfl, hr1, hch1⟩
  rw [HJ.out] at hr1
  have hst1 := hst.to hr1 hch1
  go_wp2_with fail
  refine (peek_any rb A cap tv l j dp B _ hst1.r hst1.b).mono ?_
  rintro e w2 ⟨rfl, hd2⟩
  have hst2 := hst1.drawn hd2
  have hch2 : Chg (· = rb) w w2 := by obtain ⟨n, rfl⟩ := hd2; exact hch1.drewN n
  have hT2 := hT.rb hst.r hch2
  have hb2 : Below B w w2 := hch2.below (by omega) (by rintro b rfl; omega)
  have c1 := hst2.r.c1
  have HS := Lib.hid (And.intro hst2 (And.intro hT2 (And.intro hch2 (And.intro (hG.keep hb2) (hD.keep hb2)))))
  have HIL : Hid (i ≤ l.length ∧ t.length ≤ 268435456) := ⟨hil, by omega⟩
  clear hst1 hch1 hr1 hd2 hst2 hch2 hT2 hb2 hG hD
  by_cases h123 : pk l j = 123
  · have t123 : (((pk l j).toNat : Int) == 123) = true := eq_t (b := 123) h123
    have hjl := pk_nz (by decide) h123
    have hres := HRES.out
    rw [if_pos h123] at hres
    have hcall := object_any l rb A cap B base k hrb hB hL (fun k' h => HIH.out k' (by omega)) j dp t tv xs w2 (by omega) hjl (by omega) hdp HS.out.1 HS.out.2.1 HS.out.2.2.2.1 HS.out.2.2.2.2
    rw [← hres] at hcall
    have HCALL := Lib.hid (hcall.mono fun e w' h => TPost.back (by rintro b rfl; omega) HS.out.2.2.1 h)
    clear hres h123 hcall
    go_wp2_with fail
    refine HCALL.out.mono ?_
    intro e w3 h3
    rcases h3.form with ⟨p, rfl⟩ | ⟨f, rfl⟩
    · have H3 := Lib.hid h3
      clear h3
      go_wp2_with fail
      go_ret
      exact H3.out
    · exact ⟨rfl, h3⟩
  have t123 : (((pk l j).toNat : Int) == 123) = false := eq_f (b := 123) h123
  have hres1 := HRES.out
  rw [if_neg h123] at hres1
  have HRES1 := Lib.hid hres1
  clear h123 hres1 HRES
  by_cases h91 : pk l j = 91
  · have t91 : (((pk l j).toNat : Int) == 91) = true := eq_t (b := 91) h91
    have hjl := pk_nz (by decide) h91
    have hres := HRES1.out
    rw [if_pos h91] at hres
    have hcall := list_any l rb A cap B base k hrb hB hL (fun k' h => HIH.out k' (by omega)) j dp t tv xs w2 (by omega) hjl (by omega) hdp HS.out.1 HS.out.2.1 HS.out.2.2.2.1 HS.out.2.2.2.2
    rw [← hres] at hcall
    have HCALL := Lib.hid (hcall.mono fun e w' h => TPost.back (by rintro b rfl; omega) HS.out.2.2.1 h)
    clear hres h91 hcall
    go_wp2_with fail
    refine HCALL.out.mono ?_
    intro e w3 h3
    rcases h3.form with ⟨p, rfl⟩ | ⟨f, rfl⟩
    · have H3 := Lib.hid h3
      clear h3
      go_wp2_with fail
      go_ret
      exact H3.out
    · exact ⟨rfl, h3⟩
  have t91 : (((pk l j).toNat : Int) == 91) = false := eq_f (b := 91) h91
  have hres2 := HRES1.out
  rw [if_neg h91] at hres2
  have HRES2 := Lib.hid hres2
  clear h91 hres2 HRES1
  by_cases h34 : pk l j = 34
  · have t34 : (((pk l j).toNat : Int) == 34) = true := eq_t (b := 34) h34
    have hjl := pk_nz (by decide) h34
    have hres := HRES2.out
    rw [if_pos h34] at hres
    have htx := text_any rb A cap tv l j dp B w2 HS.out.1 hjl hL HS.out.2.2.2.1 HS.out.2.2.2.2
    clear h34
    have HTX := Lib.hid htx
    have HR0 := Lib.hid hres
    clear htx hres
    go_wp2_with fail
    cases ht : textJ l j with
    | error f =>
      have HT := Lib.hid ht
      have hres := HR0.out
      rw [ht] at hres
      simp only at hres
      have HR := Lib.hid hres
      clear ht hres
      refine HTX.out.mono ?_
      intro e w5 h5
      unfold TextPost at h5
      rw [HT.out] at h5
      obtain ⟨rfl, hch5⟩ := h5
      refine ⟨rfl, ?_⟩
      rw [HR.out]
      exact ⟨rfl, (HS.out.2.2.1.trans hch5).mono fun b _ h => by omega⟩
    | ok r =>
      obtain ⟨s, j2⟩ := r
      have HT := Lib.hid ht
      have hres := HR0.out
      rw [ht] at hres
      simp only at hres
      have HR := Lib.hid hres
      clear ht hres
      refine HTX.out.mono ?_
      intro e w5 h5
      unfold TextPost at h5
      rw [HT.out] at h5
      obtain ⟨rfl, hr5, hch5⟩ := h5
      have hcall := put_bare rb A cap l j j2 dp B base tv xs t (jStr s) w2 w5 HS.out.1 HS.out.2.1 hr5 hch5 hrb hB (by have := HIL.out.2; omega) rfl rfl
      rw [← HR.out] at hcall
      have HCALL := Lib.hid (hcall.mono fun e w' h => TPost.back (by rintro b rfl; omega) HS.out.2.2.1 h)
      clear hcall hr5 hch5
      go_wp2_with fail
      refine HCALL.out.mono ?_
      intro e w3 h3
      rcases h3.form with ⟨p, rfl⟩ | ⟨f, rfl⟩
      · have H3 := Lib.hid h3
        clear h3
        go_wp2_with fail
        go_ret
        exact H3.out
      · exact ⟨rfl, h3⟩
  have t34 : (((pk l j).toNat : Int) == 34) = false := eq_f (b := 34) h34
  have hres3 := HRES2.out
  rw [if_neg h34] at hres3
  have HRES3 := Lib.hid hres3
  clear h34 hres3 HRES2
  by_cases hnum : pk l j = 45 ∨ isDig (pk l j) = true
  · have hjl : j < l.length := by
      rcases hnum with h | h
      · exact pk_nz (by decide) h
      · refine pk_nz' fun e => ?_
        rw [e] at h
        exact absurd h (by decide)
    have hres := HRES3.out
    rw [if_pos hnum] at hres
    have htx := number_any rb A cap tv l j dp B w2 HS.out.1 hjl
    have hnum' : (((pk l j).toNat : Int) == 45) = true ∨ ((((pk l j).toNat : Int) == 45) = false ∧ (48 : Int) ≤ ((pk l j).toNat : Int) ∧ ((pk l j).toNat : Int) ≤ 57) := by
      by_cases h45 : pk l j = 45
      · exact .inl (eq_t (b := 45) h45)
      · refine .inr ⟨eq_f (b := 45) h45, ?_⟩
        rcases hnum with h | h
        · exact absurd h h45
        · simp only [isDig, Bool.and_eq_true, decide_eq_true_eq] at h; omega
    clear hnum
    have HTX := Lib.hid htx
    have HR0 := Lib.hid hres
    clear htx hres
    rcases hnum' with t45 | ⟨t45, d48, d57⟩
    all_goals
      go_wp2_with fail
      cases ht : numberJ l j with
      | error f =>
        have HT := Lib.hid ht
        have hres := HR0.out
        rw [ht] at hres
        simp only at hres
        have HR := Lib.hid hres
        clear ht hres
        refine HTX.out.mono ?_
        intro e w5 h5
        unfold NPost at h5
        rw [HT.out] at h5
        obtain ⟨rfl, hch5⟩ := h5
        refine ⟨rfl, ?_⟩
        rw [HR.out]
        exact ⟨rfl, (HS.out.2.2.1.trans hch5).mono fun b _ h => by omega⟩
      | ok r =>
        obtain ⟨s, j2⟩ := r
        have HT := Lib.hid ht
        have hres := HR0.out
        rw [ht] at hres
        simp only at hres
        have HR := Lib.hid hres
        clear ht hres
        refine HTX.out.mono ?_
        intro e w5 h5
        unfold NPost at h5
        rw [HT.out] at h5
        obtain ⟨rfl, hr5, hch5⟩ := h5
        have hcall := put_bare rb A cap l j j2 dp B base tv xs t (jNum s) w2 w5 HS.out.1 HS.out.2.1 hr5 hch5 hrb hB (by have := HIL.out.2; omega) rfl rfl
        rw [← HR.out] at hcall
        have HCALL := Lib.hid (hcall.mono fun e w' h => TPost.back (by rintro b rfl; omega) HS.out.2.2.1 h)
        clear hcall hr5 hch5
        go_wp2_with fail
        refine HCALL.out.mono ?_
        intro e w3 h3
        rcases h3.form with ⟨p, rfl⟩ | ⟨f, rfl⟩
        · have H3 := Lib.hid h3
          clear h3
          go_wp2_with fail
          go_ret
          exact H3.out
        · exact ⟨rfl, h3⟩
  have hnum' : (((pk l j).toNat : Int) == 45) = false ∧ (((48 : Int) ≤ ((pk l j).toNat : Int) ∧ ¬ ((pk l j).toNat : Int) ≤ 57) ∨ ¬ (48 : Int) ≤ ((pk l j).toNat : Int)) := by
    refine ⟨eq_f (b := 45) fun h => hnum (.inl h), ?_⟩
    have h2 : ¬ isDig (pk l j) = true := fun h => hnum (.inr h)
    simp only [isDig, Bool.and_eq_true, decide_eq_true_eq, not_and] at h2
    omega
  have hres4 := HRES3.out
  rw [if_neg hnum] at hres4
  have HRES4 := Lib.hid hres4
  clear hnum hres4 HRES3
  obtain ⟨t45, hdd⟩ := hnum'
  rcases hdd with ⟨d48, d57⟩ | d48
  all_goals
    by_cases h116 : pk l j = 116
    · have t116 : (((pk l j).toNat : Int) == 116) = true := eq_t (b := 116) h116
      have hjl := pk_nz (by decide) h116
      have hres := HRES4.out
      rw [if_pos h116] at hres
      clear h116
      by_cases hw : (l.drop j).take [116, 114, 117, 101].length = [116, 114, 117, 101]
      · rw [wordJ_yes hw] at hres
        have hcall0 := word_yes rb A cap tv l j dp B w2 [116, 114, 117, 101] (by decide) (by decide) HS.out.1 hw
        have H0 := Lib.hid hcall0
        have HR := Lib.hid hres
        clear hw hres hcall0
        go_wp2_with fail
        refine H0.out.mono ?_
        rintro e w5 ⟨rfl, hr5, hch5⟩
        have hcall := put_bare rb A cap l j (j + 4) dp B base tv xs t (jBool true) w2 w5 HS.out.1 HS.out.2.1 hr5 hch5 hrb hB (by have := HIL.out.2; omega) rfl rfl
        have hr' : res = .ok (t.length, j + 4, t ++ [(jBool true)]) := HR.out
        rw [← hr'] at hcall
        have HCALL := Lib.hid (hcall.mono fun e w' h => TPost.back (by rintro b rfl; omega) HS.out.2.2.1 h)
        clear hcall hr5 hch5 hr'
        go_wp2_with fail
        refine HCALL.out.mono ?_
        intro e w3 h3
        rcases h3.form with ⟨p, rfl⟩ | ⟨f, rfl⟩
        · have H3 := Lib.hid h3
          clear h3
          go_wp2_with fail
          go_ret
          exact H3.out
        · exact ⟨rfl, h3⟩
      · rw [wordJ_no hw] at hres
        have hcall0 := word_no rb A cap tv l j dp B w2 [116, 114, 117, 101] (by decide) (by decide) (by omega) HS.out.1 hw
        have H0 := Lib.hid hcall0
        have HR := Lib.hid hres
        clear hw hres hcall0
        go_wp2_with fail
        refine H0.out.mono ?_
        rintro e w5 ⟨rfl, hch5⟩
        refine ⟨rfl, ?_⟩
        rw [HR.out]
        exact ⟨rfl, (HS.out.2.2.1.trans hch5).mono fun b _ h => by omega⟩
    have t116 : (((pk l j).toNat : Int) == 116) = false := eq_f (b := 116) h116
    have hres5 := HRES4.out
    rw [if_neg h116] at hres5
    have HRES5 := Lib.hid hres5
    clear h116 hres5 HRES4
    by_cases h102 : pk l j = 102
    · have t102 : (((pk l j).toNat : Int) == 102) = true := eq_t (b := 102) h102
      have hjl := pk_nz (by decide) h102
      have hres := HRES5.out
      rw [if_pos h102] at hres
      clear h102
      by_cases hw : (l.drop j).take [102, 97, 108, 115, 101].length = [102, 97, 108, 115, 101]
      · rw [wordJ_yes hw] at hres
        have hcall0 := word_yes rb A cap tv l j dp B w2 [102, 97, 108, 115, 101] (by decide) (by decide) HS.out.1 hw
        have H0 := Lib.hid hcall0
        have HR := Lib.hid hres
        clear hw hres hcall0
        go_wp2_with fail
        refine H0.out.mono ?_
        rintro e w5 ⟨rfl, hr5, hch5⟩
        have hcall := put_bare rb A cap l j (j + 5) dp B base tv xs t (jBool false) w2 w5 HS.out.1 HS.out.2.1 hr5 hch5 hrb hB (by have := HIL.out.2; omega) rfl rfl
        have hr' : res = .ok (t.length, j + 5, t ++ [(jBool false)]) := HR.out
        rw [← hr'] at hcall
        have HCALL := Lib.hid (hcall.mono fun e w' h => TPost.back (by rintro b rfl; omega) HS.out.2.2.1 h)
        clear hcall hr5 hch5 hr'
        go_wp2_with fail
        refine HCALL.out.mono ?_
        intro e w3 h3
        rcases h3.form with ⟨p, rfl⟩ | ⟨f, rfl⟩
        · have H3 := Lib.hid h3
          clear h3
          go_wp2_with fail
          go_ret
          exact H3.out
        · exact ⟨rfl, h3⟩
      · rw [wordJ_no hw] at hres
        have hcall0 := word_no rb A cap tv l j dp B w2 [102, 97, 108, 115, 101] (by decide) (by decide) (by omega) HS.out.1 hw
        have H0 := Lib.hid hcall0
        have HR := Lib.hid hres
        clear hw hres hcall0
        go_wp2_with fail
        refine H0.out.mono ?_
        rintro e w5 ⟨rfl, hch5⟩
        refine ⟨rfl, ?_⟩
        rw [HR.out]
        exact ⟨rfl, (HS.out.2.2.1.trans hch5).mono fun b _ h => by omega⟩
    have t102 : (((pk l j).toNat : Int) == 102) = false := eq_f (b := 102) h102
    have hres6 := HRES5.out
    rw [if_neg h102] at hres6
    have HRES6 := Lib.hid hres6
    clear h102 hres6 HRES5
    by_cases h110 : pk l j = 110
    · have t110 : (((pk l j).toNat : Int) == 110) = true := eq_t (b := 110) h110
      have hjl := pk_nz (by decide) h110
      have hres := HRES6.out
      rw [if_pos h110] at hres
      clear h110
      by_cases hw : (l.drop j).take [110, 117, 108, 108].length = [110, 117, 108, 108]
      · rw [wordJ_yes hw] at hres
        have hcall0 := word_yes rb A cap tv l j dp B w2 [110, 117, 108, 108] (by decide) (by decide) HS.out.1 hw
        have H0 := Lib.hid hcall0
        have HR := Lib.hid hres
        clear hw hres hcall0
        go_wp2_with fail
        refine H0.out.mono ?_
        rintro e w5 ⟨rfl, hr5, hch5⟩
        have hcall := put_bare rb A cap l j (j + 4) dp B base tv xs t jNull w2 w5 HS.out.1 HS.out.2.1 hr5 hch5 hrb hB (by have := HIL.out.2; omega) rfl rfl
        have hr' : res = .ok (t.length, j + 4, t ++ [jNull]) := HR.out
        rw [← hr'] at hcall
        have HCALL := Lib.hid (hcall.mono fun e w' h => TPost.back (by rintro b rfl; omega) HS.out.2.2.1 h)
        clear hcall hr5 hch5 hr'
        go_wp2_with fail
        refine HCALL.out.mono ?_
        intro e w3 h3
        rcases h3.form with ⟨p, rfl⟩ | ⟨f, rfl⟩
        · have H3 := Lib.hid h3
          clear h3
          go_wp2_with fail
          go_ret
          exact H3.out
        · exact ⟨rfl, h3⟩
      · rw [wordJ_no hw] at hres
        have hcall0 := word_no rb A cap tv l j dp B w2 [110, 117, 108, 108] (by decide) (by decide) (by omega) HS.out.1 hw
        have H0 := Lib.hid hcall0
        have HR := Lib.hid hres
        clear hw hres hcall0
        go_wp2_with fail
        refine H0.out.mono ?_
        rintro e w5 ⟨rfl, hch5⟩
        refine ⟨rfl, ?_⟩
        rw [HR.out]
        exact ⟨rfl, (HS.out.2.2.1.trans hch5).mono fun b _ h => by omega⟩
    have t110 : (((pk l j).toNat : Int) == 110) = false := eq_f (b := 110) h110
    have hres7 := HRES6.out
    rw [if_neg h110] at hres7
    have HRES7 := Lib.hid hres7
    clear h110 hres7 HRES6
    go_wp2_with fail
    refine (no_any (some ⟨rb, 0, none⟩) j 240 _).mono ?_
    rintro e w5 ⟨rfl, rfl⟩
    refine ⟨rfl, ?_⟩
    rw [HRES7.out]
    exact ⟨rfl, HS.out.2.2.1.mono fun b _ h => by omega⟩

theorem value_all (l : List UInt8) (rb : Nat) (A : Option Addr) (cap B base : Nat) (hrb : base ≤ rb) (hB : B ≤ base) (hL : l.length ≤ 268435456) : ∀ k, VCon l rb A cap B base k := by
  intro k
  induction k using Nat.strongRecOn with
  | _ k ih => exact value_any l rb A cap B base hrb hB hL k ih
end Go.Proofs.YtknmbfkpclacgaaDoor
