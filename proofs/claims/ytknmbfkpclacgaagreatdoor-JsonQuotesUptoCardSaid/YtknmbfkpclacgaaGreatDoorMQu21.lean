import Derived.Test.YtknmbfkpclacgaaGreatDoorMQu20
import Derived.Test.YtknmbfkpclacgaaGreatDoorMQu12
import Derived.Test.YtknmbfkpclacgaaGreatDoorMQu16
/- The document's quoted strings: hex, quoted, Quote: the walks. -/
set_option linter.unusedSimpArgs false
namespace Go.Proofs.YtknmbfkpclacgaaGreatDoor
open Go.RowKit

set_option maxRecDepth 100000 in
set_option maxHeartbeats 4000000 in
theorem rhex_any (z : Int) (h0 : 0 ≤ z) (h1 : z < 16) (w : World) :
    Calls Tryz.prog 139 #[.int .i64 z] w fun e w' => e = .returned (.int .u8 ((hexd z.toNat).toNat : Int)) ∧ w' = w := by
  rcases (show z = 0 ∨ z = 1 ∨ z = 2 ∨ z = 3 ∨ z = 4 ∨ z = 5 ∨ z = 6 ∨ z = 7 ∨ z = 8 ∨ z = 9 ∨ z = 10 ∨ z = 11 ∨ z = 12 ∨ z = 13 ∨ z = 14 ∨ z = 15 by omega) with h | h | h | h | h | h | h | h | h | h | h | h | h | h | h | h
  all_goals
    subst h
    go_enter Tryz.func139, Tryz.ntmps139
    go_wp2_with fail
    go_ret
    exact ⟨rfl, rfl⟩

theorem byteCells_app (a b : List UInt8) : Lib.byteCells (a ++ b) = Lib.byteCells a ++ Lib.byteCells b := by simp [Lib.byteCells]
theorem one_u8 (x : List UInt8) : ∀ u ∈ Lib.byteCells x, u.oneCell' = true := by intro u hu; simp only [Lib.byteCells, List.mem_map] at hu; obtain ⟨y, _, rfl⟩ := hu; rfl

set_option maxRecDepth 100000 in
set_option maxHeartbeats 8000000 in
theorem rquoted_any (l : List UInt8) (w : World) (hl : l.length ≤ 1099511627776) :
    Calls Tryz.prog 64 #[.string ⟨l.toArray⟩] w fun e w' => ∃ v, e = .returned v ∧ w'.ownsRow w.heap.size 5 1 v (quoteJ l).length (Lib.byteCells (quoteJ l)) ∧ Chg (fun _ => False) w w' := by
  obtain ⟨i0, hi, hz0, hz1, hz2⟩ := info_parts Tryz.infoByte
  have HI := Lib.hid (And.intro hi (And.intro hz0 (And.intro hz1 hz2)))
  have hsz : (⟨l.toArray⟩ : ByteArray).size = l.length := by show l.toArray.size = _; simp
  clear hi hz0 hz1 hz2
  go_enter Tryz.func64, Tryz.ntmps64
  go_wp2_with fail
  go_loopg [3, 4] (l.length + 2) (fun g s3 s4 wr => ∃ (i : Nat) (acc : List UInt8), s4 = .int .i64 i ∧ i ≤ l.length ∧ wr.ownsRow w.heap.size 5 1 s3 acc.length (Lib.byteCells acc) ∧ Chg (fun _ => False) w wr ∧ acc ++ (l.drop i).flatMap quoteB = [34] ++ l.flatMap quoteB ∧ acc.length ≤ 6 * i + 1 ∧ l.length - i + 1 ≤ g)
  case atStart =>
    refine ⟨0, [34], rfl, by omega, ⟨rfl, .inr ⟨_, 1, _, rfl, Nat.le_refl _, heap_alloc_new w _, Nat.le_refl _, by decide, rfl, rfl⟩⟩, (Chg.refl _ w).alloc _, by rw [List.drop_zero], by simp, by omega⟩
  case round =>
    obtain ⟨i, acc, rfl, hi, hown, hch, hq, hal, hg⟩ := hrel
    have HO := Lib.hid hown
    have HC := Lib.hid hch
    have HQ := Lib.hid hq
    have HG := Lib.hid hg
    clear hown hch hq hg
    by_cases hil : i < l.length
    · have hdrop : l.drop i = l[i] :: l.drop (i + 1) := List.drop_eq_getElem_cons hil
      have hstep : ∀ nb, quoteB l[i] = nb → (acc ++ nb) ++ (l.drop (i + 1)).flatMap quoteB = [34] ++ l.flatMap quoteB := by
        intro nb hnb
        rw [← HQ.out, hdrop, List.flatMap_cons, hnb, List.append_assoc]
      have hqlen := quoteB_len l[i]
      have HST := Lib.hid hstep
      have HQL := Lib.hid hqlen
      clear hdrop hstep hqlen
      go_upto_region 7 with fail
      have hci : (⟨l.toArray⟩ : ByteArray)[i]'(by rw [hsz]; exact hil) = l[i] := rfl
      rw [hci]
      clear hci
      have hxl := (l[i]).toNat_lt
      generalize hcc : l[i] = c at *
      obtain ⟨X, hX⟩ : ∃ X : Int, X = (c.toNat : Int) := ⟨_, rfl⟩
      rw [← hX]
      have hX0 : 0 ≤ X := by omega
      have hX1 : X < 256 := by omega
      have HX := Lib.hid hX
      clear hX hxl hcc
      by_cases h34 : X = 34
      · subst h34
        have hc : c = 34 := UInt8.toNat_inj.1 (by have := HX.out; show c.toNat = 34; omega)
        have hnb : quoteB c = [92, 34] := by rw [hc]; rfl
        clear hc
        have hbc : Lib.byteCells [92, 34] = [.int .u8 92, .int .u8 34] := rfl
        have HBC := Lib.hid hbc
        have HNB := Lib.hid hnb
        clear hbc hnb
        go_wp2_with (at_builtin; refine wpList_append_own (wr.alloc (.cells #[.int .u8 92, .int .u8 34] 5)) rfl _ _ 22 rfl w.heap.size 5 i0 (.int .u8 0) 1 1 Tryz.underlying22 HI.out.1 HI.out.2.1 HI.out.2.2.1 HI.out.2.2.2 rfl (by decide) _ _ _ rfl (HO.out.alloc _) ⟨wr.heap.size, 0, none⟩ 2 2 [.int .u8 92, .int .u8 34] rfl ?bb1 ?bb2 ?bc2 ?bc3 ?bc4 ?bc5 ?_)
        case bb1 => rfl
        case bb2 => exact World.news_of_block (cs := #[.int .u8 92, .int .u8 34]) (t := 5) (fr := (0, 0)) (heap_alloc_new wr _)
        case bc2 => rw [← HBC.out]; exact one_u8 _
        case bc3 => unfold maxLen; omega
        case bc4 => omega
        case bc5 => have := HC.out.size; simp; omega
        intro v' w2 hown2 hgrow _
        have hc2 : Chg (fun _ => False) w w2 := (HC.out.alloc _).grown hgrow (fun k hk e => by have := own_ge HO.out k e.symm; omega)
        rw [← HBC.out, ← byteCells_app] at hown2
        have HC2 := Lib.hid hc2
        have HO2 := Lib.hid hown2
        clear hown2 hgrow hc2
        go_wp2_with fail
        go_roundg (l.length - (i + 1) + 1)
        case measure => have := HG.out; omega
        case rel => exact ⟨i + 1, acc ++ [92, 34], int_i64 (by omega), by omega, by rw [List.length_append]; exact HO2.out, HC2.out, HST.out _ HNB.out, by rw [List.length_append]; have := HQL.out; rw [HNB.out] at this; omega, by omega⟩
      have t34 : (X == 34) = false := by rw [beq_eq_false_iff_ne]; exact h34
      by_cases h92 : X = 92
      · subst h92
        have hc : c = 92 := UInt8.toNat_inj.1 (by have := HX.out; show c.toNat = 92; omega)
        have hnb : quoteB c = [92, 92] := by rw [hc]; rfl
        clear hc
        have hbc : Lib.byteCells [92, 92] = [.int .u8 92, .int .u8 92] := rfl
        have HBC := Lib.hid hbc
        have HNB := Lib.hid hnb
        clear hbc hnb
        go_wp2_with (at_builtin; refine wpList_append_own (wr.alloc (.cells #[.int .u8 92, .int .u8 92] 5)) rfl _ _ 22 rfl w.heap.size 5 i0 (.int .u8 0) 1 1 Tryz.underlying22 HI.out.1 HI.out.2.1 HI.out.2.2.1 HI.out.2.2.2 rfl (by decide) _ _ _ rfl (HO.out.alloc _) ⟨wr.heap.size, 0, none⟩ 2 2 [.int .u8 92, .int .u8 92] rfl ?cb1 ?cb2 ?cc2 ?cc3 ?cc4 ?cc5 ?_)
        case cb1 => rfl
        case cb2 => exact World.news_of_block (cs := #[.int .u8 92, .int .u8 92]) (t := 5) (fr := (0, 0)) (heap_alloc_new wr _)
        case cc2 => rw [← HBC.out]; exact one_u8 _
        case cc3 => unfold maxLen; omega
        case cc4 => omega
        case cc5 => have := HC.out.size; simp; omega
        intro v' w2 hown2 hgrow _
        have hc2 : Chg (fun _ => False) w w2 := (HC.out.alloc _).grown hgrow (fun k hk e => by have := own_ge HO.out k e.symm; omega)
        rw [← HBC.out, ← byteCells_app] at hown2
        have HC2 := Lib.hid hc2
        have HO2 := Lib.hid hown2
        clear hown2 hgrow hc2
        go_wp2_with fail
        go_roundg (l.length - (i + 1) + 1)
        case measure => have := HG.out; omega
        case rel => exact ⟨i + 1, acc ++ [92, 92], int_i64 (by omega), by omega, by rw [List.length_append]; exact HO2.out, HC2.out, HST.out _ HNB.out, by rw [List.length_append]; have := HQL.out; rw [HNB.out] at this; omega, by omega⟩
      have t92 : (X == 92) = false := by rw [beq_eq_false_iff_ne]; exact h92
      by_cases h8 : X = 8
      · subst h8
        have hc : c = 8 := UInt8.toNat_inj.1 (by have := HX.out; show c.toNat = 8; omega)
        have hnb : quoteB c = [92, 98] := by rw [hc]; rfl
        clear hc
        have hbc : Lib.byteCells [92, 98] = [.int .u8 92, .int .u8 98] := rfl
        have HBC := Lib.hid hbc
        have HNB := Lib.hid hnb
        clear hbc hnb
        go_wp2_with (at_builtin; refine wpList_append_own (wr.alloc (.cells #[.int .u8 92, .int .u8 98] 5)) rfl _ _ 22 rfl w.heap.size 5 i0 (.int .u8 0) 1 1 Tryz.underlying22 HI.out.1 HI.out.2.1 HI.out.2.2.1 HI.out.2.2.2 rfl (by decide) _ _ _ rfl (HO.out.alloc _) ⟨wr.heap.size, 0, none⟩ 2 2 [.int .u8 92, .int .u8 98] rfl ?db1 ?db2 ?dc2 ?dc3 ?dc4 ?dc5 ?_)
        case db1 => rfl
        case db2 => exact World.news_of_block (cs := #[.int .u8 92, .int .u8 98]) (t := 5) (fr := (0, 0)) (heap_alloc_new wr _)
        case dc2 => rw [← HBC.out]; exact one_u8 _
        case dc3 => unfold maxLen; omega
        case dc4 => omega
        case dc5 => have := HC.out.size; simp; omega
        intro v' w2 hown2 hgrow _
        have hc2 : Chg (fun _ => False) w w2 := (HC.out.alloc _).grown hgrow (fun k hk e => by have := own_ge HO.out k e.symm; omega)
        rw [← HBC.out, ← byteCells_app] at hown2
        have HC2 := Lib.hid hc2
        have HO2 := Lib.hid hown2
        clear hown2 hgrow hc2
        go_wp2_with fail
        go_roundg (l.length - (i + 1) + 1)
        case measure => have := HG.out; omega
        case rel => exact ⟨i + 1, acc ++ [92, 98], int_i64 (by omega), by omega, by rw [List.length_append]; exact HO2.out, HC2.out, HST.out _ HNB.out, by rw [List.length_append]; have := HQL.out; rw [HNB.out] at this; omega, by omega⟩
      have t8 : (X == 8) = false := by rw [beq_eq_false_iff_ne]; exact h8
      by_cases h9 : X = 9
      · subst h9
        have hc : c = 9 := UInt8.toNat_inj.1 (by have := HX.out; show c.toNat = 9; omega)
        have hnb : quoteB c = [92, 116] := by rw [hc]; rfl
        clear hc
        have hbc : Lib.byteCells [92, 116] = [.int .u8 92, .int .u8 116] := rfl
        have HBC := Lib.hid hbc
        have HNB := Lib.hid hnb
        clear hbc hnb
        go_wp2_with (at_builtin; refine wpList_append_own (wr.alloc (.cells #[.int .u8 92, .int .u8 116] 5)) rfl _ _ 22 rfl w.heap.size 5 i0 (.int .u8 0) 1 1 Tryz.underlying22 HI.out.1 HI.out.2.1 HI.out.2.2.1 HI.out.2.2.2 rfl (by decide) _ _ _ rfl (HO.out.alloc _) ⟨wr.heap.size, 0, none⟩ 2 2 [.int .u8 92, .int .u8 116] rfl ?eb1 ?eb2 ?ec2 ?ec3 ?ec4 ?ec5 ?_)
        case eb1 => rfl
        case eb2 => exact World.news_of_block (cs := #[.int .u8 92, .int .u8 116]) (t := 5) (fr := (0, 0)) (heap_alloc_new wr _)
        case ec2 => rw [← HBC.out]; exact one_u8 _
        case ec3 => unfold maxLen; omega
        case ec4 => omega
        case ec5 => have := HC.out.size; simp; omega
        intro v' w2 hown2 hgrow _
        have hc2 : Chg (fun _ => False) w w2 := (HC.out.alloc _).grown hgrow (fun k hk e => by have := own_ge HO.out k e.symm; omega)
        rw [← HBC.out, ← byteCells_app] at hown2
        have HC2 := Lib.hid hc2
        have HO2 := Lib.hid hown2
        clear hown2 hgrow hc2
        go_wp2_with fail
        go_roundg (l.length - (i + 1) + 1)
        case measure => have := HG.out; omega
        case rel => exact ⟨i + 1, acc ++ [92, 116], int_i64 (by omega), by omega, by rw [List.length_append]; exact HO2.out, HC2.out, HST.out _ HNB.out, by rw [List.length_append]; have := HQL.out; rw [HNB.out] at this; omega, by omega⟩
      have t9 : (X == 9) = false := by rw [beq_eq_false_iff_ne]; exact h9
      by_cases h10 : X = 10
      · subst h10
        have hc : c = 10 := UInt8.toNat_inj.1 (by have := HX.out; show c.toNat = 10; omega)
        have hnb : quoteB c = [92, 110] := by rw [hc]; rfl
        clear hc
        have hbc : Lib.byteCells [92, 110] = [.int .u8 92, .int .u8 110] := rfl
        have HBC := Lib.hid hbc
        have HNB := Lib.hid hnb
        clear hbc hnb
        go_wp2_with (at_builtin; refine wpList_append_own (wr.alloc (.cells #[.int .u8 92, .int .u8 110] 5)) rfl _ _ 22 rfl w.heap.size 5 i0 (.int .u8 0) 1 1 Tryz.underlying22 HI.out.1 HI.out.2.1 HI.out.2.2.1 HI.out.2.2.2 rfl (by decide) _ _ _ rfl (HO.out.alloc _) ⟨wr.heap.size, 0, none⟩ 2 2 [.int .u8 92, .int .u8 110] rfl ?fb1 ?fb2 ?fc2 ?fc3 ?fc4 ?fc5 ?_)
        case fb1 => rfl
        case fb2 => exact World.news_of_block (cs := #[.int .u8 92, .int .u8 110]) (t := 5) (fr := (0, 0)) (heap_alloc_new wr _)
        case fc2 => rw [← HBC.out]; exact one_u8 _
        case fc3 => unfold maxLen; omega
        case fc4 => omega
        case fc5 => have := HC.out.size; simp; omega
        intro v' w2 hown2 hgrow _
        have hc2 : Chg (fun _ => False) w w2 := (HC.out.alloc _).grown hgrow (fun k hk e => by have := own_ge HO.out k e.symm; omega)
        rw [← HBC.out, ← byteCells_app] at hown2
        have HC2 := Lib.hid hc2
        have HO2 := Lib.hid hown2
        clear hown2 hgrow hc2
        go_wp2_with fail
        go_roundg (l.length - (i + 1) + 1)
        case measure => have := HG.out; omega
        case rel => exact ⟨i + 1, acc ++ [92, 110], int_i64 (by omega), by omega, by rw [List.length_append]; exact HO2.out, HC2.out, HST.out _ HNB.out, by rw [List.length_append]; have := HQL.out; rw [HNB.out] at this; omega, by omega⟩
      have t10 : (X == 10) = false := by rw [beq_eq_false_iff_ne]; exact h10
      by_cases h12 : X = 12
      · subst h12
        have hc : c = 12 := UInt8.toNat_inj.1 (by have := HX.out; show c.toNat = 12; omega)
        have hnb : quoteB c = [92, 102] := by rw [hc]; rfl
        clear hc
        have hbc : Lib.byteCells [92, 102] = [.int .u8 92, .int .u8 102] := rfl
        have HBC := Lib.hid hbc
        have HNB := Lib.hid hnb
        clear hbc hnb
        go_wp2_with (at_builtin; refine wpList_append_own (wr.alloc (.cells #[.int .u8 92, .int .u8 102] 5)) rfl _ _ 22 rfl w.heap.size 5 i0 (.int .u8 0) 1 1 Tryz.underlying22 HI.out.1 HI.out.2.1 HI.out.2.2.1 HI.out.2.2.2 rfl (by decide) _ _ _ rfl (HO.out.alloc _) ⟨wr.heap.size, 0, none⟩ 2 2 [.int .u8 92, .int .u8 102] rfl ?gb1 ?gb2 ?gc2 ?gc3 ?gc4 ?gc5 ?_)
        case gb1 => rfl
        case gb2 => exact World.news_of_block (cs := #[.int .u8 92, .int .u8 102]) (t := 5) (fr := (0, 0)) (heap_alloc_new wr _)
        case gc2 => rw [← HBC.out]; exact one_u8 _
        case gc3 => unfold maxLen; omega
        case gc4 => omega
        case gc5 => have := HC.out.size; simp; omega
        intro v' w2 hown2 hgrow _
        have hc2 : Chg (fun _ => False) w w2 := (HC.out.alloc _).grown hgrow (fun k hk e => by have := own_ge HO.out k e.symm; omega)
        rw [← HBC.out, ← byteCells_app] at hown2
        have HC2 := Lib.hid hc2
        have HO2 := Lib.hid hown2
        clear hown2 hgrow hc2
        go_wp2_with fail
        go_roundg (l.length - (i + 1) + 1)
        case measure => have := HG.out; omega
        case rel => exact ⟨i + 1, acc ++ [92, 102], int_i64 (by omega), by omega, by rw [List.length_append]; exact HO2.out, HC2.out, HST.out _ HNB.out, by rw [List.length_append]; have := HQL.out; rw [HNB.out] at this; omega, by omega⟩
      have t12 : (X == 12) = false := by rw [beq_eq_false_iff_ne]; exact h12
      by_cases h13 : X = 13
      · subst h13
        have hc : c = 13 := UInt8.toNat_inj.1 (by have := HX.out; show c.toNat = 13; omega)
        have hnb : quoteB c = [92, 114] := by rw [hc]; rfl
        clear hc
        have hbc : Lib.byteCells [92, 114] = [.int .u8 92, .int .u8 114] := rfl
        have HBC := Lib.hid hbc
        have HNB := Lib.hid hnb
        clear hbc hnb
        go_wp2_with (at_builtin; refine wpList_append_own (wr.alloc (.cells #[.int .u8 92, .int .u8 114] 5)) rfl _ _ 22 rfl w.heap.size 5 i0 (.int .u8 0) 1 1 Tryz.underlying22 HI.out.1 HI.out.2.1 HI.out.2.2.1 HI.out.2.2.2 rfl (by decide) _ _ _ rfl (HO.out.alloc _) ⟨wr.heap.size, 0, none⟩ 2 2 [.int .u8 92, .int .u8 114] rfl ?hb1 ?hb2 ?hc2 ?hc3 ?hc4 ?hc5 ?_)
        case hb1 => rfl
        case hb2 => exact World.news_of_block (cs := #[.int .u8 92, .int .u8 114]) (t := 5) (fr := (0, 0)) (heap_alloc_new wr _)
        case hc2 => rw [← HBC.out]; exact one_u8 _
        case hc3 => unfold maxLen; omega
        case hc4 => omega
        case hc5 => have := HC.out.size; simp; omega
        intro v' w2 hown2 hgrow _
        have hc2 : Chg (fun _ => False) w w2 := (HC.out.alloc _).grown hgrow (fun k hk e => by have := own_ge HO.out k e.symm; omega)
        rw [← HBC.out, ← byteCells_app] at hown2
        have HC2 := Lib.hid hc2
        have HO2 := Lib.hid hown2
        clear hown2 hgrow hc2
        go_wp2_with fail
        go_roundg (l.length - (i + 1) + 1)
        case measure => have := HG.out; omega
        case rel => exact ⟨i + 1, acc ++ [92, 114], int_i64 (by omega), by omega, by rw [List.length_append]; exact HO2.out, HC2.out, HST.out _ HNB.out, by rw [List.length_append]; have := HQL.out; rw [HNB.out] at this; omega, by omega⟩
      have t13 : (X == 13) = false := by rw [beq_eq_false_iff_ne]; exact h13
      have hsj : shortJ c = none := by
        have hx := HX.out
        unfold shortJ
        rw [if_neg (fun e => h34 (by rw [hx, e]; rfl)), if_neg (fun e => h92 (by rw [hx, e]; rfl)), if_neg (fun e => h8 (by rw [hx, e]; rfl)), if_neg (fun e => h9 (by rw [hx, e]; rfl)), if_neg (fun e => h10 (by rw [hx, e]; rfl)), if_neg (fun e => h12 (by rw [hx, e]; rfl)), if_neg (fun e => h13 (by rw [hx, e]; rfl))]
      have HSJ := Lib.hid hsj
      clear hsj h34 h92 h8 h9 h10 h12 h13
      by_cases hlo : X < 32
      · have hcn : c.toNat < 32 := by have := HX.out; omega
        have hnb : quoteB c = [92, 117, 48, 48, hexd (X / 16).toNat, hexd (X % 16).toNat] := by
          unfold quoteB
          rw [HSJ.out, show (X / 16).toNat = c.toNat / 16 by have := HX.out; omega, show (X % 16).toNat = c.toNat % 16 by have := HX.out; omega]
          simp only
          rw [if_pos hcn]
        clear hcn
        have hh1 := fun W => rhex_any (X / 16) (by omega) (by omega) W
        have hh2 := fun W => rhex_any (X % 16) (by omega) (by omega) W
        generalize hexd (X / 16).toNat = d1 at *
        generalize hexd (X % 16).toNat = d2 at *
        have HH1 := Lib.hid hh1
        have HH2 := Lib.hid hh2
        clear hh1 hh2
        go_wp2_with fail
        refine (HH1.out _).mono ?_
        rintro e w1 ⟨rfl, rfl⟩
        go_wp2_with fail
        refine (HH2.out _).mono ?_
        rintro e w1 ⟨rfl, rfl⟩
        have hbc : Lib.byteCells [92, 117, 48, 48, d1, d2] = [.int .u8 92, .int .u8 117, .int .u8 48, .int .u8 48, .int .u8 (d1.toNat : Int), .int .u8 (d2.toNat : Int)] := rfl
        have HBC := Lib.hid hbc
        have HNB := Lib.hid hnb
        clear hbc hnb
        go_wp2_with (at_builtin; refine wpList_append_own (w1.alloc (.cells #[.int .u8 92, .int .u8 117, .int .u8 48, .int .u8 48, .int .u8 (d1.toNat : Int), .int .u8 (d2.toNat : Int)] 5)) rfl _ _ 22 rfl w.heap.size 5 i0 (.int .u8 0) 1 1 Tryz.underlying22 HI.out.1 HI.out.2.1 HI.out.2.2.1 HI.out.2.2.2 rfl (by decide) _ _ _ rfl (HO.out.alloc _) ⟨w1.heap.size, 0, none⟩ 6 6 [.int .u8 92, .int .u8 117, .int .u8 48, .int .u8 48, .int .u8 (d1.toNat : Int), .int .u8 (d2.toNat : Int)] rfl ?ib1 ?ib2 ?ic2 ?ic3 ?ic4 ?ic5 ?_)
        case ib1 => rfl
        case ib2 => exact World.news_of_block (cs := #[.int .u8 92, .int .u8 117, .int .u8 48, .int .u8 48, .int .u8 (d1.toNat : Int), .int .u8 (d2.toNat : Int)]) (t := 5) (fr := (0, 0)) (heap_alloc_new w1 _)
        case ic2 => rw [← HBC.out]; exact one_u8 _
        case ic3 => unfold maxLen; omega
        case ic4 => omega
        case ic5 => have := HC.out.size; simp; omega
        intro v' w2 hown2 hgrow _
        have hc2 : Chg (fun _ => False) w w2 := (HC.out.alloc _).grown hgrow (fun k hk e => by have := own_ge HO.out k e.symm; omega)
        rw [← HBC.out, ← byteCells_app] at hown2
        have HC2 := Lib.hid hc2
        have HO2 := Lib.hid hown2
        clear hown2 hgrow hc2
        go_wp2_with fail
        go_roundg (l.length - (i + 1) + 1)
        case measure => have := HG.out; omega
        case rel => exact ⟨i + 1, acc ++ [92, 117, 48, 48, d1, d2], int_i64 (by omega), by omega, by rw [List.length_append]; exact HO2.out, HC2.out, HST.out _ HNB.out, by rw [List.length_append]; have := HQL.out; rw [HNB.out] at this; omega, by omega⟩
      · have hcn : ¬ c.toNat < 32 := by have := HX.out; omega
        have hnb : quoteB c = [c] := by
          unfold quoteB
          rw [HSJ.out]
          simp only
          rw [if_neg hcn]
        clear hcn
        have hbc : Lib.byteCells [c] = [.int .u8 X] := by rw [HX.out]; rfl
        have HBC := Lib.hid hbc
        have HNB := Lib.hid hnb
        clear hbc hnb
        go_wp2_with (at_builtin; refine wpList_append_own (wr.alloc (.cells #[.int .u8 X] 5)) rfl _ _ 22 rfl w.heap.size 5 i0 (.int .u8 0) 1 1 Tryz.underlying22 HI.out.1 HI.out.2.1 HI.out.2.2.1 HI.out.2.2.2 rfl (by decide) _ _ _ rfl (HO.out.alloc _) ⟨wr.heap.size, 0, none⟩ 1 1 [.int .u8 X] rfl ?jb1 ?jb2 ?jc2 ?jc3 ?jc4 ?jc5 ?_)
        case jc2 => rfl
        case jc3 => unfold maxLen; omega
        case jc4 => omega
        case jc5 => have := HC.out.size; simp; omega
        intro v' w2 hown2 hgrow _
        have hc2 : Chg (fun _ => False) w w2 := (HC.out.alloc _).grown hgrow (fun k hk e => by have := own_ge HO.out k e.symm; omega)
        rw [← HBC.out, ← byteCells_app] at hown2
        have HC2 := Lib.hid hc2
        have HO2 := Lib.hid hown2
        clear hown2 hgrow hc2
        go_wp2_with fail
        go_roundg (l.length - (i + 1) + 1)
        case measure => have := HG.out; omega
        case rel => exact ⟨i + 1, acc ++ [c], int_i64 (by omega), by omega, by rw [List.length_append]; exact HO2.out, HC2.out, HST.out _ HNB.out, by rw [List.length_append]; have := HQL.out; rw [HNB.out] at this; omega, by omega⟩
    · have hie : i = l.length := by omega
      have hq0 : acc = [34] ++ l.flatMap quoteB := by
        have := HQ.out
        rw [List.drop_eq_nil_of_le (by omega : l.length ≤ i), List.flatMap_nil, List.append_nil] at this
        exact this
      have HQ0 := Lib.hid hq0
      clear hq0 hie
      go_wp2_with (at_builtin; refine wpList_append_own (wr.alloc (.cells #[.int .u8 34] 5)) rfl _ _ 22 rfl w.heap.size 5 i0 (.int .u8 0) 1 1 Tryz.underlying22 HI.out.1 HI.out.2.1 HI.out.2.2.1 HI.out.2.2.2 rfl (by decide) _ _ _ rfl (HO.out.alloc _) ⟨wr.heap.size, 0, none⟩ 1 1 [.int .u8 34] rfl ?zb1 ?zb2 ?zc2 ?zc3 ?zc4 ?zc5 ?_)
      case zb1 => rfl
      case zb2 => exact World.news_of_block (cs := #[.int .u8 34]) (t := 5) (fr := (0, 0)) (heap_alloc_new wr _)
      case zc2 => exact one_u8 [34]
      case zc3 => unfold maxLen; omega
      case zc4 => omega
      case zc5 => have := HC.out.size; simp; omega
      intro v' w2 hown2 hgrow _
      have hc2 : Chg (fun _ => False) w w2 := (HC.out.alloc _).grown hgrow (fun k hk e => by have := own_ge HO.out k e.symm; omega)
      have hqj : quoteJ l = acc ++ [34] := by unfold quoteJ; rw [HQ0.out]
      have hown3 : w2.ownsRow w.heap.size 5 1 v' (quoteJ l).length (Lib.byteCells (quoteJ l)) := by
        rw [hqj, byteCells_app, show (acc ++ [(34 : UInt8)]).length = acc.length + 1 from by simp]
        exact hown2
      have HE := Lib.hid (And.intro hown3 hc2)
      clear hown2 hgrow hc2 hqj hown3
      go_wp2_with fail
      go_ret
      exact ⟨_, rfl, HE.out.1, HE.out.2⟩
end Go.Proofs.YtknmbfkpclacgaaGreatDoor

/- The document's Quote; JsonQuotes: the walk. -/
set_option linter.unusedSimpArgs false
namespace Go.Proofs.YtknmbfkpclacgaaGreatDoor
open Go.RowKit

set_option maxRecDepth 100000 in
set_option maxHeartbeats 8000000 in
theorem rquote_any (s : List UInt8) (w : World) (hl : s.length ≤ 1000000000000) :
    Calls Tryz.prog 28 #[.string ⟨s.toArray⟩] w fun e w' => e = .returned (.tuple #[.string ⟨(qtx s).toArray⟩, .int .i64 (qerr s)]) ∧ Chg (fun _ => False) w w' := by
  obtain ⟨cc, W2, hcv, hcc, hc2, hbs⟩ := conv_sb w s (by omega)
  have hval := rvalid_any _ cc s W2 hbs hl
  have hquo := fun W => rquoted_any s W (by omega)
  have HQ := Lib.hid hquo
  have HV := Lib.hid hval
  have HC2 := Lib.hid hc2
  clear hval hbs hc2 hquo
  go_enter Tryz.func28, Tryz.ntmps28
  go_wp2_with fail
  refine HV.out.mono ?_
  rintro e w3 ⟨rfl, hc3⟩
  have HC3 := Lib.hid (HC2.out.trans hc3)
  clear hc3 HV HC2 hcv
  cases hv : validL s with
  | false =>
    have e1 : qtx s = [] := by unfold qtx; rw [hv]; rfl
    have e2 : qerr s = 243 := by unfold qerr; rw [hv]; rfl
    have E1 := Lib.hid e1
    have E2 := Lib.hid e2
    clear hv e1 e2
    go_wp2_with fail
    go_ret2
    exact ⟨by rw [E1.out, E2.out]; rfl, HC3.out⟩
  | true =>
    have e1 : qtx s = quoteJ s := by unfold qtx; rw [hv]; rfl
    have e2 : qerr s = 0 := by unfold qerr; rw [hv]; rfl
    have E1 := Lib.hid e1
    have E2 := Lib.hid e2
    clear hv e1 e2
    go_wp2_with fail
    refine (HQ.out w3).mono ?_
    rintro e w4 ⟨v, rfl, hown, hc4⟩
    have hcv : (convert 22 9 v).run Tryz.prog w4 = .ok (.string ⟨(quoteJ s).toArray⟩) w4 := own_conv (e := 5) (by kernel_rfl) (by kernel_rfl) (by kernel_rfl) hown
    have HC4 := Lib.hid (HC3.out.trans hc4)
    clear hown hc4 HC3 HQ
    go_wp2_with fail
    go_ret2
    exact ⟨by rw [E1.out, E2.out]; rfl, HC4.out⟩

/-- what Quote writes is parsed as the string -/
theorem parseJ_quote (s : List UInt8) (hv : validL s = true) (hlen : (quoteJ s).length ≤ 200000000) : parseJ (quoteJ s) = .ok [jStr s] := by
  have ht : textJ (quoteJ s) 0 = .ok (s, 0 + (quoteJ s).length) := textJ_quote (rest := []) hv (by simp)
  rw [Nat.zero_add] at ht
  have hsk : skip (quoteJ s) 0 = 0 := rfl
  have hp : pk (quoteJ s) 0 = 34 := rfl
  have hsk2 : skip (quoteJ s) (quoteJ s).length = (quoteJ s).length := by
    unfold skip
    rw [List.drop_eq_nil_of_le (by omega)]
    rfl
  unfold parseJ
  rw [if_neg (by omega), show 2 * (quoteJ s).length + 3 = (2 * (quoteJ s).length + 2) + 1 from rfl, valueJ]
  simp only [hsk, hp, ht]
  simp only [show ((34 : UInt8) = 123) = False by simp, show ((34 : UInt8) = 91) = False by simp, if_true, if_false]
  rw [if_neg (by rw [hsk2]; omega)]
  rfl
theorem quoteJ_bd (s : List UInt8) : (quoteJ s).length ≤ 6 * s.length + 2 := by
  rw [quoteJ_len]
  have : ∀ s : List UInt8, (s.flatMap quoteB).length ≤ 6 * s.length := by
    intro s
    induction s with
    | nil => simp
    | cons c r ih =>
      rw [List.flatMap_cons, List.length_append, List.length_cons]
      have := quoteB_len c
      omega
  have := this s
  omega
/-- two strings with one Quote are one -/
theorem quoteJ_inj {s o : List UInt8} (hs : validL s = true) (ho : validL o = true) (h : quoteJ s = quoteJ o) : s = o := by
  have h1 := textJ_quote (l := quoteJ s) (i := 0) (rest := []) hs (by simp)
  have h2 := textJ_quote (l := quoteJ s) (i := 0) (rest := []) ho (by rw [h]; simp)
  rw [h1] at h2
  simp only [Except.ok.injEq, Prod.mk.injEq] at h2
  exact h2.1
theorem quote_same {s o : List UInt8} (hs : validL s = true) (ho : validL o = true) : (quoteJ o == quoteJ s) = (o == s) := by
  by_cases h : o = s
  · rw [h]; simp
  · have : ¬ quoteJ o = quoteJ s := fun e => h (quoteJ_inj ho hs e)
    rw [beq_eq_false_iff_ne.2 h, beq_eq_false_iff_ne.2 this]

set_option maxRecDepth 100000 in
set_option maxHeartbeats 8000000 in
theorem quotes_walk (s o : List UInt8) (w : World) (hs : s.length ≤ 1048576) (ho : o.length ≤ 1048576) (hG : Gs w w.heap.size) :
    Calls Tryz.prog 5 #[.string ⟨s.toArray⟩, .string ⟨o.toArray⟩] w fun e w' => e = .returned (.bool true) ∧ Chg (fun _ => False) w w' := by
  have hfx := fixed_any w w.heap.size (Nat.le_refl _) hG
  have HGG := Lib.hid hG
  clear hG
  go_enter Tryz.func5, Tryz.ntmps5
  go_wp2_with fail
  refine hfx.mono ?_
  rintro e w1 ⟨rfl, hc1⟩
  have hq1 := jquote_any s w1 ((HGG.out.keep (hc1.below (Nat.le_refl _) fun _ h => h.elim)).short.mono hc1.size) (by omega)
  have HC1 := Lib.hid hc1
  clear hc1 hfx
  go_wp2_with fail
  refine hq1.mono ?_
  rintro e w2 ⟨rfl, hc2⟩
  have hq2 := rquote_any s w2 (by omega)
  have HC2 := Lib.hid (HC1.out.trans hc2)
  clear hc2 hq1 HC1
  go_wp2_with fail
  refine hq2.mono ?_
  rintro e w3 ⟨rfl, hc3⟩
  have HC3 := Lib.hid (HC2.out.trans hc3)
  clear hc3 hq2 HC2
  cases hv : validL s with
  | false =>
    have e1 : qtx s = [] := by unfold qtx; rw [hv]; rfl
    have e2 : qerr s = 243 := by unfold qerr; rw [hv]; rfl
    rw [e1, e2]
    obtain ⟨cc, W2, hcv, hcc, hc2, hbs⟩ := conv_sb w3 s (by omega)
    have hval := rvalid_any _ cc s W2 hbs (by omega)
    rw [hv] at hval
    have HV := Lib.hid hval
    have HC4 := Lib.hid (HC3.out.trans hc2)
    clear hv e1 e2 hval hbs hc2 HC3
    go_wp2_with fail
    refine HV.out.mono ?_
    rintro e w4 ⟨rfl, hc4⟩
    have HC5 := Lib.hid (HC4.out.trans hc4)
    clear hc4 HC4 HV hcv
    go_wp2_with fail
    go_ret
    exact ⟨rfl, HC5.out⟩
  | true =>
    have e1 : qtx s = quoteJ s := by unfold qtx; rw [hv]; rfl
    have e2 : qerr s = 0 := by unfold qerr; rw [hv]; rfl
    have hqb := quoteJ_bd s
    rw [e1, e2]
    obtain ⟨cc, W2, hcv, hcc, hc2, hbs⟩ := conv_sb w3 (quoteJ s) (by omega)
    have hcw := HC3.out.trans hc2
    have hpc := parse_ok _ cc (quoteJ s) [jStr s] (parseJ_quote s hv (by omega)) W2 w.heap.size hcw.size hbs hcc (HGG.out.keep (hcw.below (Nat.le_refl _) fun _ h => h.elim))
    have hsame := fun (h : validL o = true) => quote_same (s := s) (o := o) hv h
    have HS := Lib.hid hsame
    have HPC := Lib.hid hpc
    have HC4 := Lib.hid hcw
    have hqq : (quoteJ s).length ≤ 6291458 := by omega
    clear hv e1 e2 hpc hbs hc2 HC3 hcw hqb hsame
    generalize quoteJ s = q at *
    go_wp2_with fail
    refine HPC.out.mono ?_
    rintro e w4 ⟨tv, xs, rfl, hT, hc4⟩
    obtain ⟨A, c, rfl, _, hR⟩ := hT.rd (by simp) (by intro v hv; simp at hv; subst hv; exact ⟨by simp [jStr], by simp [jStr]⟩)
    obtain ⟨b, oo, Ak, ck, An, cn, hA, hbB, k0, k1, k2, k3, k4, k5, hkr, hnr, hkl, hnl⟩ := hR.at 0 (by simp)
    subst hA
    have hcw := HC4.out.trans hc4
    have hq3 := jquote_any o w4 ((HGG.out.keep (hcw.below (Nat.le_refl _) fun _ h => h.elim)).short.mono hcw.size) (by omega)
    have HC5 := Lib.hid hcw
    have KK := Lib.hid (And.intro k0 k3)
    clear hT hc4 hR k0 k1 k2 k3 k4 k5 hkr hnr hkl hnl hcw HC4 HPC hcv
    go_wp2_with fail
    refine hq3.mono ?_
    rintro e w5 ⟨rfl, hc5⟩
    have j0 := hc5.cell KK.out.1 id
    have j3 := hc5.cell KK.out.2 id
    rw [Nat.zero_mul, Nat.add_zero] at j0 j3
    have HC6 := Lib.hid (HC5.out.trans hc5)
    clear hc5 hq3 HC5 KK
    cases hvo : validL o with
    | false =>
      have e1 : qtx o = [] := by unfold qtx; rw [hvo]; rfl
      have e2 : qerr o = 243 := by unfold qerr; rw [hvo]; rfl
      rw [e1, e2]
      clear e1 e2 hvo
      go_wp2_with fail
      go_ret
      exact ⟨rfl, HC6.out⟩
    | true =>
      have e1 : qtx o = quoteJ o := by unfold qtx; rw [hvo]; rfl
      have e2 : qerr o = 0 := by unfold qerr; rw [hvo]; rfl
      have hsm := HS.out hvo
      rw [e1, e2]
      clear e1 e2 hvo
      generalize quoteJ o = qo at *
      cases hb : (o == s) with
      | false =>
        rw [hb] at hsm
        go_wp2_with fail
        go_ret
        exact ⟨rfl, HC6.out⟩
      | true =>
        rw [hb] at hsm
        go_wp2_with fail
        go_ret
        exact ⟨rfl, HC6.out⟩
end Go.Proofs.YtknmbfkpclacgaaGreatDoor
