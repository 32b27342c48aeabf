import Derived.Test.YtknmbfkpclacgaaGreatDoorMQuRdk
import Derived.Recover
import Derived.Defers
import Derived.Laws.Pointers
/- The reader's value. -/
set_option linter.unusedSimpArgs false
namespace Go.Proofs.YtknmbfkpclacgaaGreatDoor
open Go.RowKit

theorem eq_t {a b : UInt8} (h : a = b) : (((a.toNat : Int)) == (b.toNat : Int)) = true := by subst h; simp
theorem eq_f {a b : UInt8} (h : a ≠ b) : (((a.toNat : Int)) == (b.toNat : Int)) = false := by
  simp only [beq_eq_false_iff_ne, ne_eq]
  intro e
  exact h (UInt8.toNat_inj.1 (by omega))

/-- A value without lists. -/
def bare (v : JV) : VC := ⟨v.kind, v.truth, v.n, ⟨v.text.toArray⟩, .slice none 0 0, .slice none 0 0⟩
theorem VR.bare {base : Nat} {w : World} {v : JV} (hk : v.kids = []) (hn : v.names = []) : VR base w (bare v) v := by
  refine ⟨rfl, rfl, rfl, rfl, ?_, ?_⟩
  · rw [hk]; exact ⟨rfl, .inl ⟨rfl, rfl⟩⟩
  · rw [hn]; exact ⟨rfl, .inl ⟨rfl, rfl⟩⟩
theorem tb_bare (v : JV) : tb [bare v] = [] := by simp [tb, vb, bare, Value.ownBlock]

theorem put_bare (rb : Nat) (A : Option Addr) (cap : Nat) (l : List UInt8) (i j dp B base : Nat) (tv : Value) (xs : List VC) (t : List JV) (v : JV) (w w1 : World) (hst : St w B rb A cap l i dp tv) (hT : TR base w tv xs t)
    (hr1 : Rd w1 rb (.slice A l.length cap) j dp tv) (hc1 : Chg (· = rb) w w1) (hbase : base ≤ rb) (hB : B ≤ base) (ht : t.length ≤ 1000000000) (hk : v.kids = []) (hn : v.names = []) :
    Calls Tryz.prog 109 #[.pointer (some ⟨rb, 0, none⟩), .agg #[.int .i64 v.kind, .bool v.truth, .int .i64 v.n, .string ⟨v.text.toArray⟩, .slice none 0 0, .slice none 0 0]] w1
      (TPost (.ok (t.length, j, t ++ [v])) rb base (.slice A l.length cap) tv xs dp w) := by
  have hst1 := hst.to hr1 hc1
  have hT1 := hT.rb hst.r hc1
  have hsz := hc1.size
  refine (put_tree rb A cap l j dp B base tv xs t (bare v) v w1 hst1 hT1 (VR.bare hk hn) (by rw [tb_append, tb_bare, List.append_nil]; exact hT.nodup) hbase hB ht).mono ?_
  rintro e w4 ⟨rfl, tv4, hst4, hT4, hch4, htv4⟩
  refine ⟨rfl, tv4, [bare v], hst4.r, hT4, (hc1.mono fun _ _ h => .inl h).trans hch4, by rw [tb_bare]; simp, fun b hb => (htv4 b hb).imp id (fun h => by omega)⟩

/-- What a call of number does. -/
def NPost (l : List UInt8) (i : Nat) (rb : Nat) (bv tv : Value) (dp : Nat) (w : World) (e : Ending) (w' : World) : Prop :=
  match numberJ l i with
  | .ok (n, j) => e = .returned (.int .i64 n) ∧ Rd w' rb bv j dp tv ∧ Chg (· = rb) w w'
  | .error f => NoEnd f.1 f.2 e ∧ Chg (· = rb) w w'
theorem number_any (rb : Nat) (A : Option Addr) (cap : Nat) (tv : Value) (l : List UInt8) (i dp : Nat) (B : Nat) (w : World) (hst : St w B rb A cap l i dp tv) (hil : i < l.length) :
    Calls Tryz.prog 111 #[.pointer (some ⟨rb, 0, none⟩)] w (NPost l i rb (.slice A l.length cap) tv dp w) := by
  cases hb : (pk l i == 45) with
  | false =>
    refine (number_false rb A cap tv l i dp B w hst hb hil).mono fun e w' h => ?_
    unfold NumPost at h
    unfold NPost numberJ
    simp only [hb, Bool.false_eq_true, if_false] at h ⊢
    split at h
    · rename_i hc; simp only [if_pos hc]; exact h
    · rename_i hc; simp only [if_neg hc]; exact h
  | true =>
    refine (number_true rb A cap tv l i dp B w hst hb hil).mono fun e w' h => ?_
    unfold NumPost at h
    unfold NPost numberJ
    simp only [hb, if_true] at h ⊢
    split at h
    · rename_i hc; simp only [if_pos hc]; exact h
    · rename_i hc; simp only [if_neg hc]; exact h
theorem TPost.back {res : Except Flt (Nat × Nat × List JV)} {rb base : Nat} {bv tv : Value} {xs : List VC} {dp : Nat} {w w2 : World} {e : Ending} {w' : World} (hb : ∀ b, b = rb → base ≤ b) (hc : Chg (· = rb) w w2) (h : TPost res rb base bv tv xs dp w2 e w') : TPost res rb base bv tv xs dp w e w' := by
  have hsz := hc.size
  unfold TPost at h ⊢
  cases res with
  | error f => exact ⟨h.1, (hc.mono fun b _ e => hb b e).trans h.2⟩
  | ok r =>
    obtain ⟨he, tv', xs', h1, h2, h3, h4, h5⟩ := h
    exact ⟨he, tv', xs', h1, h2, (hc.mono fun _ _ h => .inl h).trans h3, fun b hb => by have := h4 b hb; omega, fun b hb => (h5 b hb).imp id fun h => by omega⟩

theorem wordJ_yes {l : List UInt8} {i : Nat} {w : List UInt8} (h : (l.drop i).take w.length = w) : wordJ l i w = .ok (i + w.length) := if_pos h
theorem wordJ_no {l : List UInt8} {i : Nat} {w : List UInt8} (h : (l.drop i).take w.length ≠ w) : wordJ l i w = .error (i, 240) := if_neg h
theorem TPost.form {res : Except Flt (Nat × Nat × List JV)} {rb base : Nat} {bv tv : Value} {xs : List VC} {dp : Nat} {w : World} {e : Ending} {w' : World} (h : TPost res rb base bv tv xs dp w e w') :
    (∃ p : Nat, e = .returned (.int .i64 p)) ∨ ∃ f : Flt, e = .panicked [{ v := fltV f.1 f.2, recovered := false }] := by
  unfold TPost at h
  cases res with
  | error f => exact .inr ⟨f, h.1⟩
  | ok r => obtain ⟨p, j, t'⟩ := r; exact .inl ⟨p, h.1⟩

set_option maxRecDepth 100000 in
set_option maxHeartbeats 16000000 in
theorem value_any (l : List UInt8) (rb : Nat) (A : Option Addr) (cap B base : Nat) (hrb : base ≤ rb) (hB : B ≤ base) (hL : l.length ≤ 268435456) (k : Nat) (IH : ∀ k', k' < k → VCon l rb A cap B base k') : VCon l rb A cap B base k := by
  intro i dp t tv xs w hk hil hti hdp hst hT hG hD
  obtain ⟨k, rfl⟩ : ∃ m, k = m + 1 := ⟨k - 1, by omega⟩
  have HIH := Lib.hid IH
  clear IH
  have hrl := hst.r.lt
  have hsk := skip_ge l i
  have hsl := skip_le l i hil
  obtain ⟨res, hres⟩ : ∃ r, r = valueJ l (k + 1) i dp t := ⟨_, rfl⟩
  rw [← hres]
  rw [valueJ] at hres
  try simp only at hres
  generalize hj : skip l i = j at *
  have HRES := Lib.hid hres
  have HJ := Lib.hid hj
  clear hres hj
  go_enter Tryz.func49, Tryz.ntmps49
  go_wp2_with fail
  refine (blanks_any rb A cap tv l i dp B _ hst.B hst.r hst.b).mono ?_
  rintro e w1 ⟨rfl, hr1, hch1⟩
  rw [HJ.out] at hr1
  have hst1 := hst.to hr1 hch1
  go_wp2_with fail
  refine (peek_any rb A cap tv l j dp B _ hst1.r hst1.b).mono ?_
  rintro e w2 ⟨rfl, hd2⟩
  have hst2 := hst1.drawn hd2
  have hch2 : Chg (· = rb) w w2 := by obtain ⟨n, rfl⟩ := hd2; exact hch1.drewN n
  have hT2 := hT.rb hst.r hch2
  have hb2 : Below B w w2 := hch2.below (by omega) (by rintro b rfl; omega)
  have c1 := hst2.r.c1
  have HS := Lib.hid (And.intro hst2 (And.intro hT2 (And.intro hch2 (And.intro (hG.keep hb2) (hD.keep hb2)))))
  have HIL : Hid (i ≤ l.length ∧ t.length ≤ 268435456) := ⟨hil, by omega⟩
  clear hst1 hch1 hr1 hd2 hst2 hch2 hT2 hb2 hG hD
  by_cases h123 : pk l j = 123
  · have t123 : (((pk l j).toNat : Int) == 123) = true := eq_t (b := 123) h123
    have hjl := pk_nz (by decide) h123
    have hres := HRES.out
    rw [if_pos h123] at hres
    have hcall := object_any l rb A cap B base k hrb hB hL (fun k' h => HIH.out k' (by omega)) j dp t tv xs w2 (by omega) hjl (by omega) hdp HS.out.1 HS.out.2.1 HS.out.2.2.2.1 HS.out.2.2.2.2
    rw [← hres] at hcall
    have HCALL := Lib.hid (hcall.mono fun e w' h => TPost.back (by rintro b rfl; omega) HS.out.2.2.1 h)
    clear hres h123 hcall
    go_wp2_with fail
    refine HCALL.out.mono ?_
    intro e w3 h3
    rcases h3.form with ⟨p, rfl⟩ | ⟨f, rfl⟩
    · have H3 := Lib.hid h3
      clear h3
      go_wp2_with fail
      go_ret
      exact H3.out
    · exact ⟨rfl, h3⟩
  have t123 : (((pk l j).toNat : Int) == 123) = false := eq_f (b := 123) h123
  have hres1 := HRES.out
  rw [if_neg h123] at hres1
  have HRES1 := Lib.hid hres1
  clear h123 hres1 HRES
  by_cases h91 : pk l j = 91
  · have t91 : (((pk l j).toNat : Int) == 91) = true := eq_t (b := 91) h91
    have hjl := pk_nz (by decide) h91
    have hres := HRES1.out
    rw [if_pos h91] at hres
    have hcall := list_any l rb A cap B base k hrb hB hL (fun k' h => HIH.out k' (by omega)) j dp t tv xs w2 (by omega) hjl (by omega) hdp HS.out.1 HS.out.2.1 HS.out.2.2.2.1 HS.out.2.2.2.2
    rw [← hres] at hcall
    have HCALL := Lib.hid (hcall.mono fun e w' h => TPost.back (by rintro b rfl; omega) HS.out.2.2.1 h)
    clear hres h91 hcall
    go_wp2_with fail
    refine HCALL.out.mono ?_
    intro e w3 h3
    rcases h3.form with ⟨p, rfl⟩ | ⟨f, rfl⟩
    · have H3 := Lib.hid h3
      clear h3
      go_wp2_with fail
      go_ret
      exact H3.out
    · exact ⟨rfl, h3⟩
  have t91 : (((pk l j).toNat : Int) == 91) = false := eq_f (b := 91) h91
  have hres2 := HRES1.out
  rw [if_neg h91] at hres2
  have HRES2 := Lib.hid hres2
  clear h91 hres2 HRES1
  by_cases h34 : pk l j = 34
  · have t34 : (((pk l j).toNat : Int) == 34) = true := eq_t (b := 34) h34
    have hjl := pk_nz (by decide) h34
    have hres := HRES2.out
    rw [if_pos h34] at hres
    have htx := text_any rb A cap tv l j dp B w2 HS.out.1 hjl hL HS.out.2.2.2.1 HS.out.2.2.2.2
    clear h34
    have HTX := Lib.hid htx
    have HR0 := Lib.hid hres
    clear htx hres
    go_wp2_with fail
    cases ht : textJ l j with
    | error f =>
      have HT := Lib.hid ht
      have hres := HR0.out
      rw [ht] at hres
      simp only at hres
      have HR := Lib.hid hres
      clear ht hres
      refine HTX.out.mono ?_
      intro e w5 h5
      unfold TextPost at h5
      rw [HT.out] at h5
      obtain ⟨rfl, hch5⟩ := h5
      refine ⟨rfl, ?_⟩
      rw [HR.out]
      exact ⟨rfl, (HS.out.2.2.1.trans hch5).mono fun b _ h => by omega⟩
    | ok r =>
      obtain ⟨s, j2⟩ := r
      have HT := Lib.hid ht
      have hres := HR0.out
      rw [ht] at hres
      simp only at hres
      have HR := Lib.hid hres
      clear ht hres
      refine HTX.out.mono ?_
      intro e w5 h5
      unfold TextPost at h5
      rw [HT.out] at h5
      obtain ⟨rfl, hr5, hch5⟩ := h5
      have hcall := put_bare rb A cap l j j2 dp B base tv xs t (jStr s) w2 w5 HS.out.1 HS.out.2.1 hr5 hch5 hrb hB (by have := HIL.out.2; omega) rfl rfl
      rw [← HR.out] at hcall
      have HCALL := Lib.hid (hcall.mono fun e w' h => TPost.back (by rintro b rfl; omega) HS.out.2.2.1 h)
      clear hcall hr5 hch5
      go_wp2_with fail
      refine HCALL.out.mono ?_
      intro e w3 h3
      rcases h3.form with ⟨p, rfl⟩ | ⟨f, rfl⟩
      · have H3 := Lib.hid h3
        clear h3
        go_wp2_with fail
        go_ret
        exact H3.out
      · exact ⟨rfl, h3⟩
  have t34 : (((pk l j).toNat : Int) == 34) = false := eq_f (b := 34) h34
  have hres3 := HRES2.out
  rw [if_neg h34] at hres3
  have HRES3 := Lib.hid hres3
  clear h34 hres3 HRES2
  by_cases hnum : pk l j = 45 ∨ isDig (pk l j) = true
  · have hjl : j < l.length := by
      rcases hnum with h | h
      · exact pk_nz (by decide) h
      · refine pk_nz' fun e => ?_
        rw [e] at h
        exact absurd h (by decide)
    have hres := HRES3.out
    rw [if_pos hnum] at hres
    have htx := number_any rb A cap tv l j dp B w2 HS.out.1 hjl
    have hnum' : (((pk l j).toNat : Int) == 45) = true ∨ ((((pk l j).toNat : Int) == 45) = false ∧ (48 : Int) ≤ ((pk l j).toNat : Int) ∧ ((pk l j).toNat : Int) ≤ 57) := by
      by_cases h45 : pk l j = 45
      · exact .inl (eq_t (b := 45) h45)
      · refine .inr ⟨eq_f (b := 45) h45, ?_⟩
        rcases hnum with h | h
        · exact absurd h h45
        · simp only [isDig, Bool.and_eq_true, decide_eq_true_eq] at h; omega
    clear hnum
    have HTX := Lib.hid htx
    have HR0 := Lib.hid hres
    clear htx hres
    rcases hnum' with t45 | ⟨t45, d48, d57⟩
    all_goals
      go_wp2_with fail
      cases ht : numberJ l j with
      | error f =>
        have HT := Lib.hid ht
        have hres := HR0.out
        rw [ht] at hres
        simp only at hres
        have HR := Lib.hid hres
        clear ht hres
        refine HTX.out.mono ?_
        intro e w5 h5
        unfold NPost at h5
        rw [HT.out] at h5
        obtain ⟨rfl, hch5⟩ := h5
        refine ⟨rfl, ?_⟩
        rw [HR.out]
        exact ⟨rfl, (HS.out.2.2.1.trans hch5).mono fun b _ h => by omega⟩
      | ok r =>
        obtain ⟨s, j2⟩ := r
        have HT := Lib.hid ht
        have hres := HR0.out
        rw [ht] at hres
        simp only at hres
        have HR := Lib.hid hres
        clear ht hres
        refine HTX.out.mono ?_
        intro e w5 h5
        unfold NPost at h5
        rw [HT.out] at h5
        obtain ⟨rfl, hr5, hch5⟩ := h5
        have hcall := put_bare rb A cap l j j2 dp B base tv xs t (jNum s) w2 w5 HS.out.1 HS.out.2.1 hr5 hch5 hrb hB (by have := HIL.out.2; omega) rfl rfl
        rw [← HR.out] at hcall
        have HCALL := Lib.hid (hcall.mono fun e w' h => TPost.back (by rintro b rfl; omega) HS.out.2.2.1 h)
        clear hcall hr5 hch5
        go_wp2_with fail
        refine HCALL.out.mono ?_
        intro e w3 h3
        rcases h3.form with ⟨p, rfl⟩ | ⟨f, rfl⟩
        · have H3 := Lib.hid h3
          clear h3
          go_wp2_with fail
          go_ret
          exact H3.out
        · exact ⟨rfl, h3⟩
  have hnum' : (((pk l j).toNat : Int) == 45) = false ∧ (((48 : Int) ≤ ((pk l j).toNat : Int) ∧ ¬ ((pk l j).toNat : Int) ≤ 57) ∨ ¬ (48 : Int) ≤ ((pk l j).toNat : Int)) := by
    refine ⟨eq_f (b := 45) fun h => hnum (.inl h), ?_⟩
    have h2 : ¬ isDig (pk l j) = true := fun h => hnum (.inr h)
    simp only [isDig, Bool.and_eq_true, decide_eq_true_eq, not_and] at h2
    omega
  have hres4 := HRES3.out
  rw [if_neg hnum] at hres4
  have HRES4 := Lib.hid hres4
  clear hnum hres4 HRES3
  obtain ⟨t45, hdd⟩ := hnum'
  rcases hdd with ⟨d48, d57⟩ | d48
  all_goals
    by_cases h116 : pk l j = 116
    · have t116 : (((pk l j).toNat : Int) == 116) = true := eq_t (b := 116) h116
      have hjl := pk_nz (by decide) h116
      have hres := HRES4.out
      rw [if_pos h116] at hres
      clear h116
      by_cases hw : (l.drop j).take [116, 114, 117, 101].length = [116, 114, 117, 101]
      · rw [wordJ_yes hw] at hres
        have hcall0 := word_yes rb A cap tv l j dp B w2 [116, 114, 117, 101] (by decide) (by decide) HS.out.1 hw
        have H0 := Lib.hid hcall0
        have HR := Lib.hid hres
        clear hw hres hcall0
        go_wp2_with fail
        refine H0.out.mono ?_
        rintro e w5 ⟨rfl, hr5, hch5⟩
        have hcall := put_bare rb A cap l j (j + 4) dp B base tv xs t (jBool true) w2 w5 HS.out.1 HS.out.2.1 hr5 hch5 hrb hB (by have := HIL.out.2; omega) rfl rfl
        have hr' : res = .ok (t.length, j + 4, t ++ [(jBool true)]) := HR.out
        rw [← hr'] at hcall
        have HCALL := Lib.hid (hcall.mono fun e w' h => TPost.back (by rintro b rfl; omega) HS.out.2.2.1 h)
        clear hcall hr5 hch5 hr'
        go_wp2_with fail
        refine HCALL.out.mono ?_
        intro e w3 h3
        rcases h3.form with ⟨p, rfl⟩ | ⟨f, rfl⟩
        · have H3 := Lib.hid h3
          clear h3
          go_wp2_with fail
          go_ret
          exact H3.out
        · exact ⟨rfl, h3⟩
      · rw [wordJ_no hw] at hres
        have hcall0 := word_no rb A cap tv l j dp B w2 [116, 114, 117, 101] (by decide) (by decide) (by omega) HS.out.1 hw
        have H0 := Lib.hid hcall0
        have HR := Lib.hid hres
        clear hw hres hcall0
        go_wp2_with fail
        refine H0.out.mono ?_
        rintro e w5 ⟨rfl, hch5⟩
        refine ⟨rfl, ?_⟩
        rw [HR.out]
        exact ⟨rfl, (HS.out.2.2.1.trans hch5).mono fun b _ h => by omega⟩
    have t116 : (((pk l j).toNat : Int) == 116) = false := eq_f (b := 116) h116
    have hres5 := HRES4.out
    rw [if_neg h116] at hres5
    have HRES5 := Lib.hid hres5
    clear h116 hres5 HRES4
    by_cases h102 : pk l j = 102
    · have t102 : (((pk l j).toNat : Int) == 102) = true := eq_t (b := 102) h102
      have hjl := pk_nz (by decide) h102
      have hres := HRES5.out
      rw [if_pos h102] at hres
      clear h102
      by_cases hw : (l.drop j).take [102, 97, 108, 115, 101].length = [102, 97, 108, 115, 101]
      · rw [wordJ_yes hw] at hres
        have hcall0 := word_yes rb A cap tv l j dp B w2 [102, 97, 108, 115, 101] (by decide) (by decide) HS.out.1 hw
        have H0 := Lib.hid hcall0
        have HR := Lib.hid hres
        clear hw hres hcall0
        go_wp2_with fail
        refine H0.out.mono ?_
        rintro e w5 ⟨rfl, hr5, hch5⟩
        have hcall := put_bare rb A cap l j (j + 5) dp B base tv xs t (jBool false) w2 w5 HS.out.1 HS.out.2.1 hr5 hch5 hrb hB (by have := HIL.out.2; omega) rfl rfl
        have hr' : res = .ok (t.length, j + 5, t ++ [(jBool false)]) := HR.out
        rw [← hr'] at hcall
        have HCALL := Lib.hid (hcall.mono fun e w' h => TPost.back (by rintro b rfl; omega) HS.out.2.2.1 h)
        clear hcall hr5 hch5 hr'
        go_wp2_with fail
        refine HCALL.out.mono ?_
        intro e w3 h3
        rcases h3.form with ⟨p, rfl⟩ | ⟨f, rfl⟩
        · have H3 := Lib.hid h3
          clear h3
          go_wp2_with fail
          go_ret
          exact H3.out
        · exact ⟨rfl, h3⟩
      · rw [wordJ_no hw] at hres
        have hcall0 := word_no rb A cap tv l j dp B w2 [102, 97, 108, 115, 101] (by decide) (by decide) (by omega) HS.out.1 hw
        have H0 := Lib.hid hcall0
        have HR := Lib.hid hres
        clear hw hres hcall0
        go_wp2_with fail
        refine H0.out.mono ?_
        rintro e w5 ⟨rfl, hch5⟩
        refine ⟨rfl, ?_⟩
        rw [HR.out]
        exact ⟨rfl, (HS.out.2.2.1.trans hch5).mono fun b _ h => by omega⟩
    have t102 : (((pk l j).toNat : Int) == 102) = false := eq_f (b := 102) h102
    have hres6 := HRES5.out
    rw [if_neg h102] at hres6
    have HRES6 := Lib.hid hres6
    clear h102 hres6 HRES5
    by_cases h110 : pk l j = 110
    · have t110 : (((pk l j).toNat : Int) == 110) = true := eq_t (b := 110) h110
      have hjl := pk_nz (by decide) h110
      have hres := HRES6.out
      rw [if_pos h110] at hres
      clear h110
      by_cases hw : (l.drop j).take [110, 117, 108, 108].length = [110, 117, 108, 108]
      · rw [wordJ_yes hw] at hres
        have hcall0 := word_yes rb A cap tv l j dp B w2 [110, 117, 108, 108] (by decide) (by decide) HS.out.1 hw
        have H0 := Lib.hid hcall0
        have HR := Lib.hid hres
        clear hw hres hcall0
        go_wp2_with fail
        refine H0.out.mono ?_
        rintro e w5 ⟨rfl, hr5, hch5⟩
        have hcall := put_bare rb A cap l j (j + 4) dp B base tv xs t jNull w2 w5 HS.out.1 HS.out.2.1 hr5 hch5 hrb hB (by have := HIL.out.2; omega) rfl rfl
        have hr' : res = .ok (t.length, j + 4, t ++ [jNull]) := HR.out
        rw [← hr'] at hcall
        have HCALL := Lib.hid (hcall.mono fun e w' h => TPost.back (by rintro b rfl; omega) HS.out.2.2.1 h)
        clear hcall hr5 hch5 hr'
        go_wp2_with fail
        refine HCALL.out.mono ?_
        intro e w3 h3
        rcases h3.form with ⟨p, rfl⟩ | ⟨f, rfl⟩
        · have H3 := Lib.hid h3
          clear h3
          go_wp2_with fail
          go_ret
          exact H3.out
        · exact ⟨rfl, h3⟩
      · rw [wordJ_no hw] at hres
        have hcall0 := word_no rb A cap tv l j dp B w2 [110, 117, 108, 108] (by decide) (by decide) (by omega) HS.out.1 hw
        have H0 := Lib.hid hcall0
        have HR := Lib.hid hres
        clear hw hres hcall0
        go_wp2_with fail
        refine H0.out.mono ?_
        rintro e w5 ⟨rfl, hch5⟩
        refine ⟨rfl, ?_⟩
        rw [HR.out]
        exact ⟨rfl, (HS.out.2.2.1.trans hch5).mono fun b _ h => by omega⟩
    have t110 : (((pk l j).toNat : Int) == 110) = false := eq_f (b := 110) h110
    have hres7 := HRES6.out
    rw [if_neg h110] at hres7
    have HRES7 := Lib.hid hres7
    clear h110 hres7 HRES6
    go_wp2_with fail
    refine (no_any (some ⟨rb, 0, none⟩) j 240 _).mono ?_
    rintro e w5 ⟨rfl, rfl⟩
    refine ⟨rfl, ?_⟩
    rw [HRES7.out]
    exact ⟨rfl, HS.out.2.2.1.mono fun b _ h => by omega⟩

theorem value_all (l : List UInt8) (rb : Nat) (A : Option Addr) (cap B base : Nat) (hrb : base ≤ rb) (hB : B ≤ base) (hL : l.length ≤ 268435456) : ∀ k, VCon l rb A cap B base k := by
  intro k
  induction k using Nat.strongRecOn with
  | _ k ih => exact value_any l rb A cap B base hrb hB hL k ih
end Go.Proofs.YtknmbfkpclacgaaGreatDoor

/- json.Parse: the deferred closure, the walk. -/
set_option linter.unusedSimpArgs false
namespace Go.Proofs.YtknmbfkpclacgaaGreatDoor
open Go.RowKit

theorem slots_catch (v1 v2 v3 pv : Value) : #[v1, v2, v3] ++ ((Array.replicate 18 undef).setIfInBounds 3 pv).setIfInBounds 0 pv = #[v1, v2, v3, pv, undef, undef, pv, undef, undef, undef, undef, undef, undef, undef, undef, undef, undef, undef, undef, undef, undef] := by
  simp [Array.replicate, Array.setIfInBounds]
set_option maxRecDepth 100000 in
set_option maxHeartbeats 4000000 in
theorem catch_idle (p1 p2 p3 : Addr) (w : World) :
    CallsD Tryz.prog 48 #[.pointer (some p1), .pointer (some p2), .pointer (some p3)] .returning w fun e u' w' => e = .returned (.tuple #[]) ∧ u' = .returning ∧ w' = w := by
  generalize hR : (fun (e : Ending) (u' : FrameMode) (w' : World) => e = .returned (.tuple #[]) ∧ u' = .returning ∧ w' = w) = R
  generalize hv1 : Value.pointer (some p1) = v1
  generalize hv2 : Value.pointer (some p2) = v2
  generalize hv3 : Value.pointer (some p3) = v3
  refine callsD_of_wpS Tryz.func48 rfl fun c₀ cs hu => ?_
  apply wpS_seq
  apply wpS_region
  simp [wpOpsS, go_sem, recoverD, hu, Tryz.ntmps48, Exit.thenS]
  refine wpS_of_wp ?_
  rw [slots_catch]
  go_wp2_with fail
  subst hR
  exact ⟨rfl, .returning, by cases c₀; simp only at hu; subst hu; rfl, .tuple #[], by kernel_rfl, rfl, rfl, rfl⟩

theorem assert_fault (v : Value) (w : World) : (Instr.typeAssert (.iface 91 v) 20 91 true).run Tryz.prog w = .ok (.tuple #[v, .bool true]) w := by kernel_rfl
def CatchPost (p1 p2 p3 i : Nat) (er : Int) (older : List PanicEntry) (w : World) (e : Ending) (u' : FrameMode) (w' : World) : Prop :=
  e = .returned (.tuple #[]) ∧ u' = .panicking ({ v := fltV i er, recovered := true } :: older) ∧ w'.cell? ⟨p1, 0, none⟩ = some (.slice none 0 0) ∧ w'.cell? ⟨p2, 0, none⟩ = some (.int .i64 i) ∧ w'.cell? ⟨p3, 0, none⟩ = some (.int .i64 er) ∧ Chg (fun b => b = p1 ∨ b = p2 ∨ b = p3) w w'

set_option maxRecDepth 100000 in
set_option maxHeartbeats 400000 in
theorem catch_fault (p1 p2 p3 i : Nat) (er : Int) (x1 : Value) (x2 x3 : Int) (older : List PanicEntry) (w : World)
    (h1 : w.cell? ⟨p1, 0, none⟩ = some x1) (z1 : w.frozen? ⟨p1, 0, none⟩ = false) (h2 : w.cell? ⟨p2, 0, none⟩ = some (.int .i64 x2)) (z2 : w.frozen? ⟨p2, 0, none⟩ = false) (h3 : w.cell? ⟨p3, 0, none⟩ = some (.int .i64 x3)) (z3 : w.frozen? ⟨p3, 0, none⟩ = false) (d12 : p1 ≠ p2) (d13 : p1 ≠ p3) (d23 : p2 ≠ p3) :
    CallsD Tryz.prog 48 #[.pointer (some ⟨p1, 0, none⟩), .pointer (some ⟨p2, 0, none⟩), .pointer (some ⟨p3, 0, none⟩)] (.panicking ({ v := fltV i er, recovered := false } :: older)) w (CatchPost p1 p2 p3 i er older w) := by
  generalize hR : CatchPost p1 p2 p3 i er older w = R
  generalize hv1 : Value.pointer (some ⟨p1, 0, none⟩) = v1
  generalize hv2 : Value.pointer (some ⟨p2, 0, none⟩) = v2
  generalize hv3 : Value.pointer (some ⟨p3, 0, none⟩) = v3
  generalize hpv : fltV i er = pv
  refine callsD_of_wpS Tryz.func48 rfl fun c₀ cs hu => ?_
  apply wpS_seq
  apply wpS_region
  simp [wpOpsS, go_sem, recoverD, hu, Tryz.ntmps48, Exit.thenS]
  refine wpS_of_wp ?_
  rw [slots_catch]
  subst hv1 hv2 hv3
  unfold fltV at hpv
  subst hpv
  have hta := assert_fault
  go_upto_region 5 with fail
  have hp1 := World.block_lt_of_cell? w _ h1
  have hp2 := World.block_lt_of_cell? w _ h2
  have hp3 := World.block_lt_of_cell? w _ h3
  simp only at hp1 hp2 hp3
  have hW : ∀ o : Obj, Chg (fun _ => False) w (w.alloc o) := fun o => (Chg.refl _ _).alloc o
  generalize hWW : w.alloc (.cells #[.int .i64 i, .int .i64 er] 91) = W
  have hch : Chg (fun _ => False) w W := by rw [← hWW]; exact hW _
  have hb : W.heap[w.heap.size]? = some (.cells #[.int .i64 i, .int .i64 er] 91) := by rw [← hWW]; exact heap_alloc_new w _
  have b0 : W.cell? ⟨w.heap.size, 0, none⟩ = some (.int .i64 i) := by simp [World.cell?, hb]
  have b1 : W.cell? ⟨w.heap.size, 1, none⟩ = some (.int .i64 er) := by simp [World.cell?, hb]
  have k1 := hch.cell h1 id
  have k2 := hch.cell h2 id
  have k3 := hch.cell h3 id
  have y1 : W.frozen? ⟨p1, 0, none⟩ = false := (World.frozen?_of_block (hch.block p1 hp1 id)).trans z1
  have y2 : W.frozen? ⟨p2, 0, none⟩ = false := (World.frozen?_of_block (hch.block p2 hp2 id)).trans z2
  have y3 : W.frozen? ⟨p3, 0, none⟩ = false := (World.frozen?_of_block (hch.block p3 hp3 id)).trans z3
  have e1 : p1 ≠ w.heap.size := by omega
  have e2 : p2 ≠ w.heap.size := by omega
  have e3 : p3 ≠ w.heap.size := by omega
  generalize w.heap.size = nb at *
  have HCH := Lib.hid hch
  have HR := Lib.hid hR
  have HU := Lib.hid hu
  clear hch hW hWW hb h1 h2 h3 z1 z2 z3 hp1 hp2 hp3 hR hu
  go_region
  refine ⟨rfl, _, rfl, .tuple #[], by kernel_rfl, ?_⟩
  rw [← HR.out]
  refine ⟨rfl, rfl, ?_, ?_, ?_, ?_⟩
  · go_simp
  · go_simp
  · go_simp
  · exact ((((HCH.out.mono fun _ _ h => h.elim).setCell (p := ⟨p1, 0, none⟩) (fun _ => .inl rfl) _).setCell (p := ⟨p2, 0, none⟩) (fun _ => .inr (.inl rfl)) _).setCell (p := ⟨p3, 0, none⟩) (fun _ => .inr (.inr rfl)) _).drew

end Go.Proofs.YtknmbfkpclacgaaGreatDoor

/- json.Parse: the walk. -/
set_option linter.unusedSimpArgs false
namespace Go.Proofs.YtknmbfkpclacgaaGreatDoor
open Go.RowKit

theorem VRs.mono {base base' : Nat} (hb : base' ≤ base) {w : World} : ∀ {xs : List VC} {vs : List JV}, VRs base w xs vs → VRs base' w xs vs
  | [], [], _ => trivial
  | _ :: _, _ :: _, h => ⟨⟨h.1.kind, h.1.truth, h.1.n, h.1.text, own_mono h.1.kids hb, own_mono h.1.names hb⟩, VRs.mono hb h.2⟩
  | [], _ :: _, h => h.elim
  | _ :: _, [], h => h.elim
theorem TR.mono {base base' : Nat} {w : World} {tv : Value} {xs : List VC} {t : List JV} (h : TR base w tv xs t) (hb : base' ≤ base) : TR base' w tv xs t := ⟨own_mono h.own hb, h.vals.mono hb, h.nodup⟩
/-- What a call of Parse does. -/
def PPost (l : List UInt8) (w : World) (e : Ending) (w' : World) : Prop :=
  match parseJ l with
  | .ok t => ∃ tv xs, e = .returned (.tuple #[tv, .int .i64 0, .int .i64 0]) ∧ TR w.heap.size w' tv xs t ∧ Chg (fun _ => False) w w'
  | .error f => e = .returned (.tuple #[.slice none 0 0, .int .i64 f.1, .int .i64 f.2]) ∧ Chg (fun _ => False) w w'

set_option maxRecDepth 100000 in
set_option maxHeartbeats 4000000 in
theorem parse_any (A : Option Addr) (cap : Nat) (l : List UInt8) (w : World) (hb : Bs w w.heap.size A l) (hcap : l.length ≤ cap) (hG : LetOk w w.heap.size) (hD : BadOk w w.heap.size) :
    Calls Tryz.prog 18 #[.slice A l.length cap] w (PPost l w) := by
  have hmf : ∀ (fn : Fn) (first cap : Array Value) (w : World), (Instr.makeFunc fn first cap).run Tryz.prog w = .ok (.func fn first cap) w := fun _ _ _ _ => rfl
  by_cases hlen : 268435456 < l.length
  · have hp : parseJ l = .error (268435456, 5) := by unfold parseJ; rw [if_pos hlen]
    have HP := Lib.hid hp
    have hl : (268435456 : Int) < (l.length : Int) := by omega
    clear hlen hp hb hG hD
    generalize hN : l.length = N at *
    generalize hR : PPost l w = R
    go_enter_defers Tryz.func18, Tryz.ntmps18
    go_wp2_with fail
    simp [bodyPostD, Leaves, settle, results, Tryz.results18, go_sem]
    rw [← hR]
    unfold PPost
    rw [HP.out]
    exact ⟨rfl, (((Chg.refl _ w).alloc _).alloc _).alloc _⟩
  · have HL := Lib.hid hlen
    have hl : ¬ (268435456 : Int) < (l.length : Int) := by omega
    clear hlen
    generalize hR : PPost l w = R
    have HR := Lib.hid hR
    clear hR
    go_enter_defers Tryz.func18, Tryz.ntmps18
    go_wp2_with fail
    generalize hW3 : ((w.alloc (.cells #[.slice none 0 0] 25)).alloc (.cells #[.int .i64 0] 3)).alloc (.cells #[.int .i64 0] 26) = W3
    have hs3 : W3.heap.size = w.heap.size + 3 := by rw [← hW3]; simp
    have hc3 : Chg (fun _ => False) w W3 := by rw [← hW3]; exact (((Chg.refl _ w).alloc _).alloc _).alloc _
    have q1 : W3.heap[w.heap.size]? = some (.cells #[.slice none 0 0] 25) := by
      rw [← hW3, Below.heap_alloc _ _ _ (by simp; omega), Below.heap_alloc _ _ _ (by simp)]; exact heap_alloc_new w _
    have q2 : W3.heap[w.heap.size + 1]? = some (.cells #[.int .i64 0] 3) := by
      rw [← hW3, Below.heap_alloc _ _ _ (by simp)]
      have h := heap_alloc_new (w.alloc (.cells #[.slice none 0 0] 25)) (.cells #[.int .i64 0] 3)
      rw [World.size_alloc] at h
      exact h
    have q3 : W3.heap[w.heap.size + 1 + 1]? = some (.cells #[.int .i64 0] 26) := by
      rw [← hW3]
      have h := heap_alloc_new ((w.alloc (.cells #[.slice none 0 0] 25)).alloc (.cells #[.int .i64 0] 3)) (.cells #[.int .i64 0] 26)
      rw [World.size_alloc, World.size_alloc] at h
      exact h
    clear hW3
    have hb3 : Below w.heap.size w W3 := hc3.below (Nat.le_refl _) (fun _ h => h.elim)
    generalize hW4 : W3.alloc (.cells #[.slice A l.length cap, .int .i64 0, .int .i64 0, .slice none 0 0] 95) = W4
    have hc4 : Chg (fun _ => False) W3 W4 := by rw [← hW4]; exact (Chg.refl _ _).alloc _
    have hb4 : Below w.heap.size w W4 := (hc3.trans hc4).below (Nat.le_refl _) (fun _ h => h.elim)
    have hr4 : Rd W4 (w.heap.size + 1 + 1 + 1) (.slice A l.length cap) 0 0 (.slice none 0 0) := ⟨by
      rw [← hW4]
      have h := heap_alloc_new W3 (.cells #[.slice A l.length cap, .int .i64 0, .int .i64 0, .slice none 0 0] 95)
      rw [hs3] at h
      exact h⟩
    have hst4 : St W4 w.heap.size (w.heap.size + 1 + 1 + 1) A cap l 0 0 (.slice none 0 0) := ⟨hr4, hb.keep hb4, by omega, hcap⟩
    have hT4 : TR (w.heap.size + 1 + 1 + 1) W4 (.slice none 0 0) [] [] := ⟨⟨rfl, .inl ⟨rfl, rfl⟩⟩, trivial, by simp [tb]⟩
    have hcall := value_all l (w.heap.size + 1 + 1 + 1) A cap w.heap.size (w.heap.size + 1 + 1 + 1) (Nat.le_refl _) (by omega) (by have := HL.out; omega) (2 * l.length + 3) 0 0 [] (.slice none 0 0) [] W4 (by omega) (by omega) (by simp) (by omega) hst4 hT4 (hG.keep hb4) (hD.keep hb4)
    have HB4 := Lib.hid (And.intro hst4 hb4)
    have hrn := hr4.lt
    clear hW4 hr4 hst4 hT4 hb4 hb3
    cases hv : valueJ l (2 * l.length + 3) 0 0 [] with
    | error f =>
      rw [hv] at hcall
      have hp : parseJ l = .error f := by unfold parseJ; rw [if_neg HL.out, hv]
      have HP := Lib.hid hp
      have HCALL := Lib.hid hcall
      clear hv hp hcall
      refine HCALL.out.mono ?_
      rintro e w5 ⟨rfl, hch5⟩
      have hx : Chg (fun k => w.heap.size + 1 + 1 + 1 ≤ k) W3 w5 := (hc4.mono fun _ _ h => h.elim).trans hch5
      have g1 := hx.obj q1 (by omega)
      have g2 := hx.obj q2 (by omega)
      have g3 := hx.obj q3 (by omega)
      have hcx : Chg (fun _ => False) w w5 := hc3.andThen hx (fun k hk h => by omega)
      have hcat := catch_fault w.heap.size (w.heap.size + 1) (w.heap.size + 1 + 1) f.1 f.2 (.slice none 0 0) 0 0 [] w5 (by simp [World.cell?, g1]) (by simp [World.frozen?, g1]) (by simp [World.cell?, g2]) (by simp [World.frozen?, g2]) (by simp [World.cell?, g3]) (by simp [World.frozen?, g3]) (by omega) (by omega) (by omega)
      have HX := Lib.hid (And.intro hcx hcat)
      clear hx g1 g2 g3 hcx hcat
      refine leaves_cons (f := 48) (args := #[.pointer (some ⟨w.heap.size, 0, none⟩), .pointer (some ⟨w.heap.size + 1, 0, none⟩), .pointer (some ⟨w.heap.size + 1 + 1, 0, none⟩)]) (by simp) (by simp [go_sem]) ?_
      refine HX.out.2.mono ?_
      rintro e u' w9 ⟨rfl, rfl, z1, z2, z3, hch9⟩
      unfold fltV
      simp [Leaves, settle, results, Tryz.results18, go_sem, z1, z2, z3]
      rw [← HR.out]
      unfold PPost
      rw [HP.out]
      exact ⟨rfl, HX.out.1.andThen hch9 (fun k hk h => by omega)⟩
    | ok r =>
      obtain ⟨p, j, t⟩ := r
      rw [hv] at hcall
      have hgr := (grew_all l _).1 _ _ _ _ _ _ hv
      have hp : parseJ l = if skip l j < l.length then .error (skip l j, 240) else .ok t := by unfold parseJ; rw [if_neg HL.out, hv]
      have HP0 := Lib.hid hp
      have HGR := Lib.hid hgr
      have HCALL := Lib.hid hcall
      clear hv hp hcall hgr
      refine HCALL.out.mono ?_
      rintro e w5 ⟨rfl, tv5, xs5, hr5, hT5, hch5, hxs5, htv5⟩
      rw [List.nil_append] at hT5
      have hch5' : Chg (fun k => w.heap.size + 1 + 1 + 1 ≤ k) W4 w5 := hch5.mono fun k _ h => by
        rcases h with rfl | h
        · exact Nat.le_refl _
        · simp [Value.ownBlock] at h
      have hst5 : St w5 w.heap.size (w.heap.size + 1 + 1 + 1) A cap l j 0 tv5 := ⟨hr5, HB4.out.1.b.keep (hch5'.below (by omega) (fun k h => by omega)), by omega, hcap⟩
      have HS5 := Lib.hid (And.intro hst5 (And.intro hT5 hch5'))
      clear hr5 hT5 hch5 hch5' hst5 hxs5 htv5
      go_wp2_with fail
      refine (blanks_any (w.heap.size + 1 + 1 + 1) A cap tv5 l j 0 w.heap.size _ HS5.out.1.B HS5.out.1.r HS5.out.1.b).mono ?_
      rintro e w6 ⟨rfl, hr6, hch6⟩
      have c1 := hr6.c1
      have hT6 := HS5.out.2.1.rb HS5.out.1.r hch6
      have HS6 := Lib.hid (And.intro hr6 (And.intro hT6 (HS5.out.2.2.trans (hch6.mono fun _ _ h => by omega))))
      clear hr6 hT6 hch6
      by_cases hend : skip l j < l.length
      · have hp : parseJ l = .error (skip l j, 240) := by rw [HP0.out, if_pos hend]
        have hlt : ((skip l j : Nat) : Int) < (l.length : Int) := by omega
        have HP := Lib.hid hp
        clear hend hp
        go_wp2_with fail
        refine (no_any (some ⟨w.heap.size + 1 + 1 + 1, 0, none⟩) (skip l j) 240 _).mono ?_
        rintro e w7 ⟨rfl, rfl⟩
        have hx : Chg (fun k => w.heap.size + 1 + 1 + 1 ≤ k) W3 w7 := (hc4.mono fun _ _ h => h.elim).trans HS6.out.2.2
        have g1 := hx.obj q1 (by omega)
        have g2 := hx.obj q2 (by omega)
        have g3 := hx.obj q3 (by omega)
        have hcx : Chg (fun _ => False) w w7 := hc3.andThen hx (fun k hk h => by omega)
        have hcat := catch_fault w.heap.size (w.heap.size + 1) (w.heap.size + 1 + 1) (skip l j) 240 (.slice none 0 0) 0 0 [] w7 (by simp [World.cell?, g1]) (by simp [World.frozen?, g1]) (by simp [World.cell?, g2]) (by simp [World.frozen?, g2]) (by simp [World.cell?, g3]) (by simp [World.frozen?, g3]) (by omega) (by omega) (by omega)
        have HX := Lib.hid (And.intro hcx hcat)
        clear hx g1 g2 g3 hcx hcat
        refine leaves_cons (f := 48) (args := #[.pointer (some ⟨w.heap.size, 0, none⟩), .pointer (some ⟨w.heap.size + 1, 0, none⟩), .pointer (some ⟨w.heap.size + 1 + 1, 0, none⟩)]) (by simp) (by simp [go_sem]) ?_
        refine HX.out.2.mono ?_
        rintro e u' w9 ⟨rfl, rfl, z1, z2, z3, hch9⟩
        unfold fltV
        simp [Leaves, settle, results, Tryz.results18, go_sem, z1, z2, z3]
        rw [← HR.out]
        unfold PPost
        rw [HP.out]
        exact ⟨rfl, HX.out.1.andThen hch9 (fun k hk h => by omega)⟩
      · have hp : parseJ l = .ok t := by rw [HP0.out, if_neg hend]
        have hlt : ¬ ((skip l j : Nat) : Int) < (l.length : Int) := by omega
        have HP := Lib.hid hp
        obtain ⟨At, ct, rfl⟩ := own_form HS6.out.2.1.own
        have c3 := HS6.out.1.c3
        have hx : Chg (fun k => w.heap.size + 1 + 1 + 1 ≤ k) W3 w6 := (hc4.mono fun _ _ h => h.elim).trans HS6.out.2.2
        have g1 := hx.obj q1 (by omega)
        have g2 := hx.obj q2 (by omega)
        have g3 := hx.obj q3 (by omega)
        have a1 : w6.cell? ⟨w.heap.size, 0, none⟩ = some (.slice none 0 0) := by simp [World.cell?, g1]
        have b1 : w6.frozen? ⟨w.heap.size, 0, none⟩ = false := by simp [World.frozen?, g1]
        have a2 : w6.cell? ⟨w.heap.size + 1, 0, none⟩ = some (.int .i64 0) := by simp [World.cell?, g2]
        have b2 : w6.frozen? ⟨w.heap.size + 1, 0, none⟩ = false := by simp [World.frozen?, g2]
        have a3 : w6.cell? ⟨w.heap.size + 1 + 1, 0, none⟩ = some (.int .i64 0) := by simp [World.cell?, g3]
        have b3 : w6.frozen? ⟨w.heap.size + 1 + 1, 0, none⟩ = false := by simp [World.frozen?, g3]
        have HX := Lib.hid hx
        clear hend hp hx g1 g2 g3
        go_wp2_with fail
        refine leaves_cons (f := 48) (args := #[.pointer (some ⟨w.heap.size, 0, none⟩), .pointer (some ⟨w.heap.size + 1, 0, none⟩), .pointer (some ⟨w.heap.size + 1 + 1, 0, none⟩)]) (by simp) (by simp [go_sem]) ?_
        refine (catch_idle ⟨w.heap.size, 0, none⟩ ⟨w.heap.size + 1, 0, none⟩ ⟨w.heap.size + 1 + 1, 0, none⟩ _).mono ?_
        rintro e u' w9 ⟨rfl, rfl, rfl⟩
        have z1 : (((w6.setCell ⟨w.heap.size, 0, none⟩ (.slice At t.length ct)).setCell ⟨w.heap.size + 1, 0, none⟩ (.int .i64 0)).setCell ⟨w.heap.size + 1 + 1, 0, none⟩ (.int .i64 0)).cell? ⟨w.heap.size, 0, none⟩ = some (.slice At t.length ct) := by go_simp
        have z2 : (((w6.setCell ⟨w.heap.size, 0, none⟩ (.slice At t.length ct)).setCell ⟨w.heap.size + 1, 0, none⟩ (.int .i64 0)).setCell ⟨w.heap.size + 1 + 1, 0, none⟩ (.int .i64 0)).cell? ⟨w.heap.size + 1, 0, none⟩ = some (.int .i64 0) := by go_simp
        have z3 : (((w6.setCell ⟨w.heap.size, 0, none⟩ (.slice At t.length ct)).setCell ⟨w.heap.size + 1, 0, none⟩ (.int .i64 0)).setCell ⟨w.heap.size + 1 + 1, 0, none⟩ (.int .i64 0)).cell? ⟨w.heap.size + 1 + 1, 0, none⟩ = some (.int .i64 0) := by go_simp
        have hc9 : Chg (fun b => b = w.heap.size ∨ b = w.heap.size + 1 ∨ b = w.heap.size + 1 + 1) w6 (((w6.setCell ⟨w.heap.size, 0, none⟩ (.slice At t.length ct)).setCell ⟨w.heap.size + 1, 0, none⟩ (.int .i64 0)).setCell ⟨w.heap.size + 1 + 1, 0, none⟩ (.int .i64 0)) :=
          (((Chg.refl _ w6).setCell (p := ⟨w.heap.size, 0, none⟩) (fun _ => .inl rfl) _).setCell (p := ⟨w.heap.size + 1, 0, none⟩) (fun _ => .inr (.inl rfl)) _).setCell (p := ⟨w.heap.size + 1 + 1, 0, none⟩) (fun _ => .inr (.inr rfl)) _
        generalize (((w6.setCell ⟨w.heap.size, 0, none⟩ (.slice At t.length ct)).setCell ⟨w.heap.size + 1, 0, none⟩ (.int .i64 0)).setCell ⟨w.heap.size + 1 + 1, 0, none⟩ (.int .i64 0)) = W9 at *
        simp [Leaves, settle, results, Tryz.results18, go_sem, z1, z2, z3]
        rw [← HR.out]
        unfold PPost
        rw [HP.out]
        have hT9 := HS6.out.2.1.keepB hc9 (fun b hb h => by have := (HS6.out.2.1.vals.lt b hb).2.1; omega) (fun b hb h => by have := own_ge HS6.out.2.1.own b hb; omega)
        refine ⟨_, xs5, rfl, hT9.mono (by omega), ?_⟩
        exact (hc3.andThen HX.out (fun k hk h => by omega)).andThen hc9 (fun k hk h => by omega)
end Go.Proofs.YtknmbfkpclacgaaGreatDoor
