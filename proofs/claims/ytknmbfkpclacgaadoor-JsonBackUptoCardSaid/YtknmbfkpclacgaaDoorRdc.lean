/- The JSON reader's methods escape and number. -/
import Derived.Test.YtknmbfkpclacgaaDoorRdb
namespace Go.Proofs.YtknmbfkpclacgaaDoor
open Go.RowKit

/-- The table of letters, as the program's start lays it. -/
structure LetOk (w : World) (B : Nat) : Prop where
  g : 1 < B
  m : ∃ mb es clock, w.cell? ⟨1, 0, none⟩ = some (.map (some mb)) ∧ mb < B ∧ w.heap[mb]? = some (.map es clock) ∧
    ∀ W : World, W.heap[mb]? = some (.map es clock) → ∀ c : UInt8,
      (Instr.lookup 107 (.map (some mb)) (.int .u8 (c.toNat : Int)) true).run Tryd.prog W = .ok (.tuple #[.int .i32 (((letter c).getD 0 : Nat) : Int), .bool (letter c).isSome]) W
theorem LetOk.keep {w w' : World} {B : Nat} (h : LetOk w B) (hb : Below B w w') : LetOk w' B := by
  obtain ⟨hg, mb, es, clock, h1, h2, h3, h4⟩ := h
  exact ⟨hg, mb, es, clock, by rw [← h1]; exact hb.cell (p := ⟨_, 0, none⟩) hg, h2, by rw [← h3]; exact hb.block _ h2, h4⟩
theorem LetOk.chg {w w' : World} {B : Nat} {S : Nat → Prop} (h : LetOk w B) (hc : Chg S w w') (hB : B ≤ w.heap.size) (hS : ∀ k, S k → B ≤ k) : LetOk w' B := h.keep (hc.below hB hS)

def EscPost (l : List UInt8) (i : Nat) (rb : Nat) (bv tv : Value) (dp : Nat) (w : World) (e : Ending) (w' : World) : Prop :=
  match escapeJ l i with
  | .ok (r, j) => e = .returned (.int .i32 r) ∧ Rd w' rb bv j dp tv ∧ Chg (· = rb) w w'
  | .error f => NoEnd f.1 f.2 e ∧ Chg (· = rb) w w'
theorem u8_ne {c : UInt8} {n : Nat} (hn : n < 256) (h : c ≠ UInt8.ofNat n) : ((c.toNat : Int) != (n : Int)) = true := by
  rw [bne_iff_ne]; intro h'; exact h (by apply UInt8.toNat_inj.1; rw [UInt8.toNat_ofNat']; omega)
theorem u8_ne' {c : UInt8} {n : Nat} (hn : n < 256) (h : c = UInt8.ofNat n) : ((c.toNat : Int) != (n : Int)) = false := by
  subst h; rw [UInt8.toNat_ofNat', Nat.mod_eq_of_lt hn]; simp
theorem fourJ_lt (l : List UInt8) (begin : Nat) : ∀ (k i n m : Nat), fourJ l begin k i n = .ok m → m < (n + 1) * 16 ^ k
  | 0, i, n, m, h => by simp [fourJ] at h; subst h; simp
  | k + 1, i, n, m, h => by
    simp only [fourJ, takeJ] at h
    split at h
    · simp at h
    · split at h
      · simp at h
      · rename_i d hd
        have := fourJ_lt l begin k _ _ m h
        have hdl : d < 16 := by
          unfold hexv at hd
          split at hd
          · simp at hd; omega
          · split at hd
            · simp at hd; omega
            · split at hd
              · simp at hd; omega
              · simp at hd
        refine Nat.lt_of_lt_of_le this ?_
        rw [Nat.pow_succ, Nat.mul_comm (16 ^ k) 16, ← Nat.mul_assoc]
        exact Nat.mul_le_mul_right _ (by omega)

set_option maxRecDepth 100000 in
set_option maxHeartbeats 4000000 in
theorem escape_any (rb : Nat) (A : Option Addr) (cap : Nat) (tv : Value) (l : List UInt8) (i dp : Nat) (B : Nat) (w : World) (hst : St w B rb A cap l i dp tv) (hil : i < l.length) (hG : LetOk w B) :
    Calls Tryd.prog 58 #[.pointer (some ⟨rb, 0, none⟩)] w (EscPost l i rb (.slice A l.length cap) tv dp w) := by
  have hln := hst.b.len
  have hrl := hst.r.lt
  have hBr := hst.B
  have c1 := hst.r.c1
  have f1 := hst.r.f 1
  have hstA : St (w.setCell ⟨rb, 1, none⟩ (.int .i64 ((i : Int) + 1))) B rb A cap l (i + 1) dp tv := hst.to (hst.r.set1 (i + 1)) ((Chg.refl _ _).st _ _)
  have hchA : Chg (· = rb) w (w.setCell ⟨rb, 1, none⟩ (.int .i64 ((i : Int) + 1))) := (Chg.refl _ _).st _ _
  have HA := Lib.hid hstA
  have HCA := Lib.hid hchA
  clear hstA hchA
  go_enter Tryd.func58, Tryd.ntmps58
  go_wp2_with fail
  by_cases h1 : i + 1 < l.length
  · refine (take_yes rb A cap tv l (i + 1) dp B _ HA.out.B h1 HA.out.r HA.out.b).mono ?_
    rintro e w1 ⟨rfl, hr1, hch1⟩
    have hch1' : Chg (· = rb) w w1 := HCA.out.trans hch1
    have hst1 : St w1 B rb A cap l (i + 2) dp tv := HA.out.to hr1 hch1
    have hG1 : LetOk w1 B := hG.chg hch1' (by omega) (fun k hk => by omega)
    have hsz1 := hch1'.size
    obtain ⟨hg, mb, es, clock, hm1, hm2, hm3, hm4⟩ := hG1
    have hpr := pk_range l (i + 1)
    have hlk := hm4 w1 hm3 (pk l (i + 1))
    clear hm3 hm4 HA HCA
    cases hL : letter (pk l (i + 1)) with
    | some x =>
      rw [hL] at hlk
      have HL := Lib.hid hL
      clear hL
      simp only [Option.getD_some, Option.isSome_some] at hlk
      go_wp2_with fail
      go_ret
      unfold EscPost escapeJ
      simp only [takeJ, if_pos h1, HL.out]
      exact ⟨rfl, hr1, hch1'⟩
    | none =>
      rw [hL] at hlk
      have HL := Lib.hid hL
      clear hL
      simp only [Option.getD_none, Option.isSome_none] at hlk
      by_cases hu : pk l (i + 1) = 117
      · have tu : (((pk l (i + 1)).toNat : Int) != 117) = false := u8_ne' (n := 117) (by omega) hu
        have HU := Lib.hid hu
        clear hu
        go_wp2_with fail
        refine (four_any rb A cap tv l i (i + 2) dp B _ hst1).mono ?_
        intro e w2 hp
        unfold FourPost at hp
        cases hf : fourJ l i 4 (i + 2) 0 with
        | error f =>
          rw [hf] at hp
          obtain ⟨rfl, hch2⟩ := hp
          refine ⟨rfl, ?_⟩
          unfold EscPost escapeJ
          simp only [takeJ, if_pos h1, HU.out, ne_eq, not_true_eq_false, if_false, hf]
          exact ⟨rfl, hch1'.trans hch2⟩
        | ok n =>
          rw [hf] at hp
          obtain ⟨rfl, hr2, hch2⟩ := hp
          have hn : n < 65536 := by simpa using fourJ_lt _ _ _ _ _ _ hf
          have HF := Lib.hid hf
          clear hf
          have hst2 : St w2 B rb A cap l (i + 6) dp tv := hst1.to hr2 hch2
          have hch2' : Chg (· = rb) w w2 := hch1'.trans hch2
          have HX : Hid (escapeJ l i = if 0xdc00 ≤ n ∧ n ≤ 0xdfff then .error (i, 243)
              else if n < 0xd800 ∨ 0xdbff < n then .ok (n, i + 6)
              else match takeJ l (i + 6) with
                | .error e => .error e
                | .ok c1 => if c1 ≠ 92 then .error (i, 243)
                  else match takeJ l (i + 7) with
                    | .error e => .error e
                    | .ok c2 => if c2 ≠ 117 then .error (i, 243)
                      else match fourJ l i 4 (i + 8) 0 with
                        | .error e => .error e
                        | .ok m => if m < 0xdc00 ∨ 0xdfff < m then .error (i, 243) else .ok (0x10000 + (n - 0xd800) * 1024 + (m - 0xdc00), i + 12)) := by
            unfold escapeJ
            simp only [takeJ, if_pos h1, HU.out, ne_eq, not_true_eq_false, if_false, HF.out]
            exact rfl
          by_cases hd : 0xdc00 ≤ n ∧ n ≤ 0xdfff
          · have hd1 := hd.1
            have hd2 := hd.2
            have HD := Lib.hid hd
            clear hd
            go_wp2_with fail
            refine (no_any _ _ _ _).mono ?_
            rintro e w3 ⟨rfl, rfl⟩
            refine ⟨rfl, ?_⟩
            unfold EscPost
            rw [HX.out, if_pos HD.out]
            exact ⟨rfl, hch2'⟩
          · by_cases hd' : n < 0xd800 ∨ 0xdbff < n
            · have HD := Lib.hid hd
              have HD' := Lib.hid hd'
              clear hd hd'
              have hEnd : EscPost l i rb (.slice A l.length cap) tv dp w (.returned (.int .i32 n)) w2 := by
                unfold EscPost
                rw [HX.out, if_neg HD.out, if_pos HD'.out]
                exact ⟨rfl, hr2, hch2'⟩
              have HE := Lib.hid hEnd
              clear hEnd
              rcases Nat.lt_or_ge n 0xd800 with h8 | h8
              · go_wp2_with fail
                go_ret
                exact HE.out
              · rcases Nat.lt_or_ge n 0xdc00 with h9 | h9
                · have h10 : 0xdbff < n := by have := HD'.out; omega
                  exact absurd h9 (by omega)
                · have h10 : 0xdfff < n := by have := HD.out; omega
                  go_wp2_with fail
                  go_ret
                  exact HE.out
            · have h8 : 0xd800 ≤ n := by omega
              have h9 : n ≤ 0xdbff := by omega
              have HD := Lib.hid hd
              have HD' := Lib.hid hd'
              clear hd hd'
              go_wp2_with fail
              by_cases h6 : i + 6 < l.length
              · refine (take_yes rb A cap tv l (i + 6) dp B _ hst2.B h6 hst2.r hst2.b).mono ?_
                rintro e w3 ⟨rfl, hr3, hch3⟩
                have hst3 : St w3 B rb A cap l (i + 7) dp tv := hst2.to hr3 hch3
                have hch3' : Chg (· = rb) w w3 := hch2'.trans hch3
                have hpr3 := pk_range l (i + 6)
                by_cases hb6 : pk l (i + 6) = 92
                · have tb : (((pk l (i + 6)).toNat : Int) != 92) = false := u8_ne' (n := 92) (by omega) hb6
                  have HB6 := Lib.hid hb6
                  clear hb6
                  go_wp2_with fail
                  by_cases h7 : i + 7 < l.length
                  · refine (take_yes rb A cap tv l (i + 7) dp B _ hst3.B h7 hst3.r hst3.b).mono ?_
                    rintro e w4 ⟨rfl, hr4, hch4⟩
                    have hst4 : St w4 B rb A cap l (i + 8) dp tv := hst3.to hr4 hch4
                    have hch4' : Chg (· = rb) w w4 := hch3'.trans hch4
                    have hpr4 := pk_range l (i + 7)
                    by_cases hb7 : pk l (i + 7) = 117
                    · have tb7 : (((pk l (i + 7)).toNat : Int) != 117) = false := u8_ne' (n := 117) (by omega) hb7
                      have HB7 := Lib.hid hb7
                      clear hb7
                      go_wp2_with fail
                      refine (four_any rb A cap tv l i (i + 8) dp B _ hst4).mono ?_
                      intro e w5 hp
                      unfold FourPost at hp
                      have HX2 : Hid (escapeJ l i = match fourJ l i 4 (i + 8) 0 with
                            | .error e => .error e
                            | .ok m => if m < 0xdc00 ∨ 0xdfff < m then .error (i, 243) else .ok (0x10000 + (n - 0xd800) * 1024 + (m - 0xdc00), i + 12)) := by
                        have := HX.out
                        simp only [if_neg HD.out, if_neg HD'.out, takeJ, if_pos h6, if_pos h7, HB6.out, HB7.out, ne_eq, not_true_eq_false, if_false] at this
                        exact this
                      clear HX
                      cases hf : fourJ l i 4 (i + 8) 0 with
                      | error f =>
                        rw [hf] at hp
                        obtain ⟨rfl, hch5⟩ := hp
                        refine ⟨rfl, ?_⟩
                        unfold EscPost
                        rw [HX2.out, hf]
                        exact ⟨rfl, hch4'.trans hch5⟩
                      | ok m =>
                        rw [hf] at hp
                        obtain ⟨rfl, hr5, hch5⟩ := hp
                        have hm : m < 65536 := by simpa using fourJ_lt _ _ _ _ _ _ hf
                        have HX3 : Hid (escapeJ l i = if m < 0xdc00 ∨ 0xdfff < m then .error (i, 243) else .ok (0x10000 + (n - 0xd800) * 1024 + (m - 0xdc00), i + 12)) := by
                          have := HX2.out
                          rw [hf] at this
                          exact this
                        clear hf HX2
                        have hch5' : Chg (· = rb) w w5 := hch4'.trans hch5
                        rename_i hx2 hx1 hx3 K1 ka1 K0 ka0
                        clear hx1 hx2 hx3
                        rcases Nat.lt_or_ge m 0xdc00 with h8 | h8
                        · go_wp2_with fail
                          refine (no_any _ _ _ _).mono ?_
                          rintro e w6 ⟨rfl, rfl⟩
                          refine ⟨rfl, ?_⟩
                          unfold EscPost
                          rw [HX3.out, if_pos (.inl h8)]
                          exact ⟨rfl, hch5'⟩
                        · rcases Nat.lt_or_ge 0xdfff m with h9 | h9
                          · go_wp2_with fail
                            refine (no_any _ _ _ _).mono ?_
                            rintro e w6 ⟨rfl, rfl⟩
                            refine ⟨rfl, ?_⟩
                            unfold EscPost
                            rw [HX3.out, if_pos (.inr h9)]
                            exact ⟨rfl, hch5'⟩
                          · go_wp2_with fail
                            go_ret
                            unfold EscPost
                            rw [HX3.out, if_neg (by omega)]
                            exact ⟨congrArg Ending.returned (int_i32 (by omega)), hr5, hch5'⟩
                    · have tb7 : (((pk l (i + 7)).toNat : Int) != 117) = true := u8_ne (n := 117) (by omega) hb7
                      have HB7 := Lib.hid hb7
                      clear hb7
                      go_wp2_with fail
                      refine (no_any _ _ _ _).mono ?_
                      rintro e w6 ⟨rfl, rfl⟩
                      refine ⟨rfl, ?_⟩
                      unfold EscPost
                      rw [HX.out, if_neg HD.out, if_neg HD'.out]
                      simp only [takeJ, if_pos h6, if_pos h7, HB6.out, HB7.out, ne_eq, not_true_eq_false, not_false_eq_true, if_false, if_true]
                      exact ⟨rfl, hch4'⟩
                  · refine (take_no rb A cap tv l (i + 7) dp B _ h7 hst3.r hst3.b).mono ?_
                    rintro e w4 ⟨rfl, hch4⟩
                    refine ⟨rfl, ?_⟩
                    unfold EscPost
                    rw [HX.out, if_neg HD.out, if_neg HD'.out]
                    simp only [takeJ, if_pos h6, if_neg h7, HB6.out, ne_eq, not_true_eq_false, if_false]
                    exact ⟨rfl, hch3'.trans hch4⟩
                · have tb : (((pk l (i + 6)).toNat : Int) != 92) = true := u8_ne (n := 92) (by omega) hb6
                  have HB6 := Lib.hid hb6
                  clear hb6
                  go_wp2_with fail
                  refine (no_any _ _ _ _).mono ?_
                  rintro e w6 ⟨rfl, rfl⟩
                  refine ⟨rfl, ?_⟩
                  unfold EscPost
                  rw [HX.out, if_neg HD.out, if_neg HD'.out]
                  simp only [takeJ, if_pos h6, HB6.out, ne_eq, not_false_eq_true, if_true]
                  exact ⟨rfl, hch3'⟩
              · refine (take_no rb A cap tv l (i + 6) dp B _ h6 hst2.r hst2.b).mono ?_
                rintro e w3 ⟨rfl, hch3⟩
                refine ⟨rfl, ?_⟩
                unfold EscPost
                rw [HX.out, if_neg HD.out, if_neg HD'.out]
                simp only [takeJ, if_neg h6]
                exact ⟨rfl, hch2'.trans hch3⟩
      · have tu : (((pk l (i + 1)).toNat : Int) != 117) = true := u8_ne (n := 117) (by omega) hu
        have HU := Lib.hid hu
        clear hu
        go_wp2_with fail
        refine (no_any _ _ _ _).mono ?_
        rintro e w2 ⟨rfl, rfl⟩
        refine ⟨rfl, ?_⟩
        unfold EscPost escapeJ
        simp only [takeJ, if_pos h1, HL.out, HU.out, ne_eq, not_false_eq_true, if_true]
        exact ⟨rfl, hch1'⟩
  · refine (take_no rb A cap tv l (i + 1) dp B _ h1 HA.out.r HA.out.b).mono ?_
    rintro e w1 ⟨rfl, hch1⟩
    refine ⟨rfl, ?_⟩
    unfold EscPost escapeJ
    simp only [takeJ, if_neg h1]
    exact ⟨rfl, HCA.out.trans hch1⟩
end Go.Proofs.YtknmbfkpclacgaaDoor
