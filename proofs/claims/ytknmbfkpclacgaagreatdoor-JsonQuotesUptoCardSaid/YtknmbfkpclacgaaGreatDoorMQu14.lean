import Derived.Test.YtknmbfkpclacgaaGreatDoorMQu1
import Derived.Test.YtknmbfkpclacgaaGreatDoorShelf
import Derived.Test.YtknmbfkpclacgaaGreatDoorMQu12
import Derived.Test.YtknmbfkpclacgaaGreatDoorMQu13
import Derived.Lib.SlicesCompact
/- strconv.Itoa and FormatBool: what they give. -/
namespace Go.Proofs.YtknmbfkpclacgaaGreatDoor
open Go.RowKit

theorem decGo_eq : ∀ (k n : Nat), n ≤ k → decGo k n = Lib.decDigits n
  | 0, n, h => by
    obtain rfl : n = 0 := by omega
    rw [Lib.decDigits, dif_pos (by omega)]
    rfl
  | k + 1, n, h => by
    rw [decGo, Lib.decDigits]
    by_cases h10 : n < 10
    · rw [if_pos h10, dif_pos h10]
    · rw [if_neg h10, dif_neg h10, decGo_eq k (n / 10) (by omega)]
theorem decJ_itoa (n : Int) : decJ n = Lib.itoa n := by
  unfold decJ Lib.itoa
  split
  · rw [decGo_eq _ _ (Nat.le_refl _)]; rfl
  · rename_i h
    rw [decGo_eq _ _ (Nat.le_refl _), show n.natAbs = n.toNat by omega]
/-- The table of powers of ten is laid, and lies below B. -/
structure NumOk (w : World) (B : Nat) : Prop where
  tab : ∀ W, Below B w W → Lib.TabIs Tryz.prog W "internal/strconv.uint64pow10" .u64 Lib.pow10Tab
theorem NumOk.keep {w w' : World} {B : Nat} (h : NumOk w B) (hb : Below B w w') : NumOk w' B := ⟨fun W hW => h.tab W (hb.trans hW)⟩
theorem grow_same (w : World) (k : Nat) (os : Array Obj) : Below w.heap.size w (Go.Sort.grow (w.drewN k) os) := by
  refine ⟨rfl, rfl, rfl, ?_, fun i hi => ?_⟩
  · simp [Go.Sort.grow]
  · simp [Go.Sort.grow, Array.getElem?_append_left hi]
theorem itoa_any (n : Int) (h0 : -9223372036854775808 ≤ n) (h1 : n ≤ 9223372036854775807) (w : World) (B : Nat) (h : NumOk w B) :
    Calls Tryz.prog 132 #[.int .i64 n] w fun e w' => e = .returned (.string ⟨(decJ n).toArray⟩) ∧ Below w.heap.size w w' := by
  refine (Tryz.strconv_Itoa n h0 h1 w (h.tab w (Below.refl _ _))).mono ?_
  rintro e w' ⟨rfl, k, os, rfl⟩
  exact ⟨by rw [decJ_itoa], grow_same w k os⟩
theorem fbool_any (x : Bool) (w : World) :
    Calls Tryz.prog 131 #[.bool x] w fun e w' => e = .returned (.string ⟨(if x then [116, 114, 117, 101] else [102, 97, 108, 115, 101] : List UInt8).toArray⟩) ∧ w' = w := by
  refine (Tryz.strconv_FormatBool x w).mono ?_
  rintro e w' ⟨rfl, rfl⟩
  refine ⟨?_, rfl⟩
  cases x <;> rfl
end Go.Proofs.YtknmbfkpclacgaaGreatDoor

/- json.write: the walk. -/
set_option linter.unusedSimpArgs false
namespace Go.Proofs.YtknmbfkpclacgaaGreatDoor
open Go.RowKit

abbrev IsBu (B b : Nat) (bs : List UInt8) (w : World) : Prop := Lib.IsBuilderF 106 5 B b (Lib.byteCells bs) w
theorem IsBu.keep {B b : Nat} {bs : List UInt8} {w w' : World} (h : IsBu B b bs w) (hb : Below w.heap.size w w') : IsBu B b bs w' := bu_same h hb
theorem Others.of_below {b : Nat} {w w' : World} (hb : Below w.heap.size w w') : Lib.OthersKept 5 (some b) w w' := fun k _ hk _ _ => (hb.block k (lt_of_block hk)).trans hk
theorem ShortOk.mono {w : World} {B B' : Nat} (h : ShortOk w B) (hB : B ≤ B') : ShortOk w B' := by
  obtain ⟨hg, ⟨mb, es, clock, h1, h2, h3, h4⟩, h5, h6⟩ := h
  exact ⟨by omega, ⟨mb, es, clock, h1, by omega, h3, h4⟩, by omega, h6⟩

/-- A value's strings. -/
def TxtOk (v : JV) : Prop := (validL v.text = true ∧ v.text.length ≤ 1099511627776) ∧ ∀ s ∈ v.names, validL s = true ∧ s.length ≤ 1099511627776
/-- What write leaves. -/
def WPost (B b : Nat) (bs : List UInt8) (w : World) (e : Ending) (w' : World) : Prop := e = .returned (.tuple #[]) ∧ IsBu B b bs w' ∧ Below B w w' ∧ Lib.OthersKept 5 (some b) w w'
theorem strCells_list (l : List UInt8) : Lib.strCells ⟨l.toArray⟩ = Lib.byteCells l := rfl
theorem wstr (B b : Nat) (bs s : List UInt8) (w : World) (h : IsBu B b bs w) (hlen : bs.length + s.length ≤ 140737488355328) (hB : B ≤ w.heap.size) :
    Calls Tryz.prog 130 #[.pointer (some ⟨b, 0, none⟩), .string ⟨s.toArray⟩] w fun e w' => e = .returned (.tuple #[.int .i64 ((⟨s.toArray⟩ : ByteArray).size : Nat), .nilIface]) ∧ IsBu B b (bs ++ s) w' ∧ Below B w w' ∧ Lib.OthersKept 5 (some b) w w' := by
  refine (wstring_any B b _ ⟨s.toArray⟩ w h (by rw [Lib.byteCells_length]; show _ + s.toArray.size ≤ _; simpa using hlen) hB).mono ?_
  rintro e w' ⟨rfl, h1, h2, h3⟩
  refine ⟨rfl, ?_, h2, h3⟩
  unfold IsBu
  rw [Lib.byteCells_append]
  exact Or.inr h1
theorem wbyt (B b : Nat) (bs : List UInt8) (c : UInt8) (n : Int) (hn : (c.toNat : Int) = n) (w : World) (h : IsBu B b bs w) (hlen : bs.length + 1 ≤ 140737488355328) (hB : B ≤ w.heap.size) :
    Calls Tryz.prog 133 #[.pointer (some ⟨b, 0, none⟩), .int .u8 n] w fun e w' => e = .returned .nilIface ∧ IsBu B b (bs ++ [c]) w' ∧ Below B w w' ∧ Lib.OthersKept 5 (some b) w w' := by
  subst hn
  refine (wbyte_any B b _ (c.toNat : Int) w h (by rw [Lib.byteCells_length]; exact hlen) hB).mono ?_
  rintro e w' ⟨rfl, h1, h2, h3⟩
  refine ⟨rfl, ?_, h2, h3⟩
  unfold IsBu
  rw [Lib.byteCells_append]
  exact Or.inr h1
/-- the rest of a list's text -/
def lRest (t : List JV) (i j : Nat) (ks : List Int) : List UInt8 := ((ks.drop j).zipIdx j).flatMap fun p => sepJ (0 < p.2) ++ writeJ t i p.1.toNat
def oRest (t : List JV) (i j : Nat) (ks : List Int) (ns : List (List UInt8)) : List UInt8 := ((ks.drop j).zipIdx j).flatMap fun p => sepJ (0 < p.2) ++ quoteJ (ns.getD p.2 []) ++ [58] ++ writeJ t i p.1.toNat
theorem lRest_cons {t : List JV} {i j : Nat} {ks : List Int} (hj : j < ks.length) : lRest t i j ks = sepJ (0 < j) ++ (writeJ t i (ks[j]).toNat ++ lRest t i (j + 1) ks) := by
  unfold lRest
  rw [List.drop_eq_getElem_cons hj, List.zipIdx_cons, List.flatMap_cons, List.append_assoc]
theorem lRest_nil {t : List JV} {i j : Nat} {ks : List Int} (hj : ks.length ≤ j) : lRest t i j ks = [] := by
  unfold lRest
  rw [List.drop_eq_nil_of_le hj]
  rfl
theorem oRest_cons {t : List JV} {i j : Nat} {ks : List Int} {ns : List (List UInt8)} (hj : j < ks.length) (hn : j < ns.length) : oRest t i j ks ns = sepJ (0 < j) ++ (quoteJ ns[j] ++ ([58] ++ (writeJ t i (ks[j]).toNat ++ oRest t i (j + 1) ks ns))) := by
  unfold oRest
  rw [List.drop_eq_getElem_cons hj, List.zipIdx_cons, List.flatMap_cons]
  simp only [List.append_assoc, List.getD_eq_getElem?_getD, List.getElem?_eq_getElem hn, Option.getD_some]
theorem oRest_nil {t : List JV} {i j : Nat} {ks : List Int} {ns : List (List UInt8)} (hj : ks.length ≤ j) : oRest t i j ks ns = [] := by
  unfold oRest
  rw [List.drop_eq_nil_of_le hj]
  rfl

set_option maxRecDepth 100000 in
set_option maxHeartbeats 4000000 in
theorem write_any (t : List JV) (A : Option Addr) (cap : Nat) (xs : List VC) (B b : Nat) (hK : KidsOk t) (hu : ∀ j (hj : j < t.length), usedJ t[j] = true) (hx : ∀ j (hj : j < t.length), TxtOk t[j]) (hn : ∀ j (hj : j < t.length), -9223372036854775808 ≤ (t[j]).n ∧ (t[j]).n ≤ 9223372036854775807) (i : Nat) :
    ∀ (bs : List UInt8) (w : World), i < t.length → TRd w B A xs t → ShortOk w B → NumOk w B → IsBu B b bs w → bs.length + (writeJ t (i + 1) i).length ≤ 70368744177664 → B ≤ w.heap.size →
    Calls Tryz.prog 57 #[.pointer (some ⟨b, 0, none⟩), .slice A t.length cap, .int .i64 i] w (WPost B b (bs ++ writeJ t (i + 1) i) w) := by
  induction i using Nat.strongRecOn with
  | _ i ih =>
  intro bs w hi hT hS hN hI hlen hB
  obtain ⟨bb, oo, Ak, ck, An, cn, hA, hbB, c0, c1, c2, c3, c4, c5, hkr, hnr, hkl, hnl⟩ := hT.at i hi
  subst hA
  have htl := hT.tl
  have hui := hu i hi
  have hxi := hx i hi
  have hki := hK i hi
  have hni := hn i hi
  have hall : ∀ o, IsBu B b bs (w.alloc o) ∧ Below B w (w.alloc o) ∧ Lib.OthersKept 5 (some b) w (w.alloc o) := fun o => ⟨Lib.IsBuilderF.alloc hI o, (Below.refl _ w).alloc hB o, (Lib.OthersKept.refl _ _ w).alloc o⟩
  have hlt := hI.elim (fun x => x.lt) (fun x => x.lt)
  have hwr : writeJ t (i + 1) i = writeJ t (i + 1) i := rfl
  conv at hwr => rhs; simp only [writeJ, getD_at t i hi]
  generalize hR : writeJ t (i + 1) i = R at *
  have HT := Lib.hid hT
  have HS := Lib.hid hS
  have HN := Lib.hid hN
  have HIH := Lib.hid ih
  have HK := Lib.hid hki
  have HX := Lib.hid hxi
  have HNM := Lib.hid hni
  have HKA := Lib.hid hK
  have HA := Lib.hid hall
  have HW := Lib.hid hwr
  have HKR := Lib.hid hkr
  have HNR := Lib.hid hnr
  clear hT hS hN ih hki hxi hK hu hx hn hni hall hwr hI hkr hnr hR
  generalize t[i] = v at *
  go_enter Tryz.func57, Tryz.ntmps57
  rcases used_cases hui with rfl | ⟨x, rfl⟩ | ⟨n, rfl⟩ | ⟨s, rfl⟩ | ⟨ks, rfl⟩ | ⟨ks, ns, rfl, hkn⟩
  · clear hui
    simp only [jNull] at c0 c1 c2 c3 c4 c5 hkl hnl
    have hw : R = [110, 117, 108, 108] := HW.out
    have HR := Lib.hid hw
    clear HW
    rw [hw] at hlen
    clear hw
    go_wp2_with fail
    refine (wstr B b bs [110, 117, 108, 108] _ (HA.out _).1 (by simp at hlen ⊢; omega) (by have := (HA.out (.cells #[] 0)).2.1.size; rw [World.size_alloc]; omega)).mono ?_
    rintro e w3 ⟨rfl, h3, b3, k3⟩
    go_wp2_with fail
    go_end0
    exact ⟨rfl, by rw [HR.out]; exact h3, (HA.out _).2.1.trans b3, (HA.out _).2.2.trans k3⟩
  · clear hui
    simp only [jBool] at c0 c1 c2 c3 c4 c5 hkl hnl
    have hw : R = (if x then [116, 114, 117, 101] else [102, 97, 108, 115, 101]) := HW.out
    have hxl : (if x then [116, 114, 117, 101] else [102, 97, 108, 115, 101] : List UInt8).length ≤ 5 := by cases x <;> decide
    have HR := Lib.hid hw
    clear HW
    rw [hw] at hlen
    clear hw
    go_wp2_with fail
    refine (fbool_any x _).mono ?_
    rintro e w3 ⟨rfl, rfl⟩
    generalize (if x then [116, 114, 117, 101] else [102, 97, 108, 115, 101] : List UInt8) = S at *
    go_wp2_with fail
    refine (wstr B b bs S _ (HA.out _).1 (by omega) (by have := (HA.out (.cells #[] 0)).2.1.size; rw [World.size_alloc]; omega)).mono ?_
    rintro e w3 ⟨rfl, h3, b3, k3⟩
    go_wp2_with fail
    go_end0
    exact ⟨rfl, by rw [HR.out]; exact h3, (HA.out _).2.1.trans b3, (HA.out _).2.2.trans k3⟩
  · clear hui
    simp only [jNum] at c0 c1 c2 c3 c4 c5 hkl hnl
    have hw : R = decJ n := HW.out
    have hn := HNM.out
    simp only [jNum] at hn
    have HR := Lib.hid hw
    clear HW
    rw [hw] at hlen
    clear hw
    go_wp2_with fail
    refine (itoa_any n hn.1 hn.2 _ B (HN.out.keep (HA.out _).2.1)).mono ?_
    rintro e w3 ⟨rfl, b2⟩
    have h1 := IsBu.keep (HA.out _).1 b2
    have hb1 := (HA.out _).2.1.trans (b2.mono (by rw [World.size_alloc]; omega))
    have hk1 := (HA.out _).2.2.trans (Others.of_below (b := b) b2)
    clear b2
    generalize decJ n = S at *
    go_wp2_with fail
    refine (wstr B b bs S _ h1 (by omega) (Nat.le_trans hB hb1.size)).mono ?_
    rintro e w4 ⟨rfl, h3, b3, k3⟩
    go_wp2_with fail
    go_end0
    exact ⟨rfl, by rw [HR.out]; exact h3, hb1.trans b3, hk1.trans k3⟩
  · clear hui
    simp only [jStr] at c0 c1 c2 c3 c4 c5 hkl hnl
    have hw : R = quoteJ s := HW.out
    have hs := HX.out.1
    simp only [jStr] at hs
    have HR := Lib.hid hw
    clear HW
    rw [hw] at hlen
    clear hw
    go_wp2_with fail
    refine (quoted_any s _ ((HS.out.keep (HA.out _).2.1).mono (by rw [World.size_alloc]; omega)) hs.1 hs.2).mono ?_
    rintro e w3 ⟨rfl, b2⟩
    have h1 := IsBu.keep (HA.out _).1 b2
    have hb1 := (HA.out _).2.1.trans (b2.mono (by rw [World.size_alloc]; omega))
    have hk1 := (HA.out _).2.2.trans (Others.of_below (b := b) b2)
    clear b2
    generalize quoteJ s = S at *
    go_wp2_with fail
    refine (wstr B b bs S _ h1 (by omega) (Nat.le_trans hB hb1.size)).mono ?_
    rintro e w4 ⟨rfl, h3, b3, k3⟩
    go_wp2_with fail
    go_end0
    exact ⟨rfl, by rw [HR.out]; exact h3, hb1.trans b3, hk1.trans k3⟩
  · clear hui
    simp only [jList] at c0 c1 c2 c3 c4 c5 hkl hnl
    have hw : R = [91] ++ (lRest t i 0 ks ++ [93]) := by rw [← List.append_assoc]; exact HW.out
    have HR := Lib.hid hw
    have HKR' : Ro w B Ak (ints ks) := HKR.out
    have HKR2 := Lib.hid HKR'
    have hki : ∀ k ∈ ks, 0 ≤ k ∧ k < (i : Int) := HK.out
    have HK2 := Lib.hid hki
    clear HW HKR HKR' HNR HK hki
    have hl0 := congrArg List.length hw
    simp only [List.length_append, List.length_cons, List.length_nil] at hl0
    clear hw
    go_wp2_with fail
    refine (wbyt B b bs 91 91 (by decide) _ (HA.out _).1 (by omega) (by have := (HA.out (.cells #[] 0)).2.1.size; rw [World.size_alloc]; omega)).mono ?_
    rintro e w3 ⟨rfl, h3, b3, k3⟩
    have hbk : (w.alloc (.cells #[.int .i64 5, .bool false, .int .i64 0, .string ⟨([] : List UInt8).toArray⟩, .slice Ak ks.length ck, .slice An ([] : List (List UInt8)).length cn] 47)).heap[w.heap.size]? = some (.cells #[.int .i64 5, .bool false, .int .i64 0, .string ⟨([] : List UInt8).toArray⟩, .slice Ak ks.length ck, .slice An ([] : List (List UInt8)).length cn] 47) := heap_alloc_new w _
    have hbk3 := k3 _ _ hbk (by simp; omega) (by intro c fz h; simp at h)
    have d4 : w3.cell? ⟨w.heap.size, 4, none⟩ = some (.slice Ak ks.length ck) := by simp [World.cell?, hbk3]
    have hb3 := (HA.out _).2.1.trans b3
    have hk3 := (HA.out _).2.2.trans k3
    clear hbk hbk3 b3 k3 c0 c1 c2 c3 c4 c5
    go_wp2_with fail
    go_loopg [49] (ks.length + 1) (fun g s49 wr => ∃ (j : Nat) (acc : List UInt8), s49 = .int .i64 j ∧ j ≤ ks.length ∧ IsBu B b (bs ++ acc) wr ∧ Below B w wr ∧ Lib.OthersKept 5 (some b) w wr ∧ acc ++ (lRest t i j ks ++ [93]) = R ∧ ks.length - j + 1 = g)
    case atStart => exact ⟨0, [91], rfl, by omega, h3, hb3, hk3, HR.out.symm, rfl⟩
    case round =>
      obtain ⟨j, acc, rfl, hj, hI, hbw, hkw, hacc, hg⟩ := hrel
      have hla := congrArg List.length hacc
      simp only [List.length_append, List.length_cons, List.length_nil] at hla
      have HG := Lib.hid hg
      have hsz := Nat.le_trans hB hbw.size
      by_cases hjt : j < ks.length
      · obtain ⟨b2, o2, hAk, hb2, k0⟩ := (HKR2.out.keep hbw).int j hjt
        have hkm := HK2.out ks[j] (List.getElem_mem hjt)
        obtain ⟨m, hm⟩ : ∃ m : Nat, ks[j] = m := ⟨(ks[j]).toNat, by omega⟩
        rw [hm] at k0 hkm
        subst hAk
        have hstep := HIH.out m (by omega)
        have hms : writeJ t i m = writeJ t (m + 1) m := writeJ_stable HKA.out m i (by omega) (by omega)
        have hcons := lRest_cons (t := t) (i := i) hjt
        rw [hm, Int.toNat_natCast, hms] at hcons
        rw [hcons] at hacc hla
        simp only [List.length_append] at hla
        have HAC := Lib.hid hacc
        clear hcons hacc hms hg hm
        by_cases hj0 : j = 0
        · subst hj0
          rw [Nat.add_zero] at k0
          have hs0 : sepJ (decide (0 < 0)) = [] := rfl
          rw [hs0] at hla
          simp only [List.length_nil] at hla
          go_wp2_with fail
          refine (hstep (bs ++ acc) _ (by omega) (HT.out.keep hbw) (HS.out.keep hbw) (HN.out.keep hbw) hI (by rw [List.length_append]; omega) hsz).mono ?_
          rintro e w4 ⟨rfl, h4, b4, k4⟩
          have hacc2 := HAC.out
          rw [hs0] at hacc2
          have HA2 := Lib.hid hacc2
          clear hacc2
          go_wp2_with fail
          go_roundg (ks.length - (0 + 1) + 1)
          case measure => rw [← HG.out]; omega
          case rel =>
            refine ⟨0 + 1, acc ++ writeJ t (m + 1) m, int_i64 (by omega), by omega, by rw [← List.append_assoc]; exact h4, hbw.trans b4, hkw.trans k4, ?_, rfl⟩
            rw [← HA2.out]
            simp
        · have hs1 : sepJ (decide (0 < j)) = [44] := by rw [decide_eq_true (by omega)]; rfl
          have hj1 : (0 : Int) < (j : Int) := by omega
          rw [hs1] at hla
          simp only [List.length_cons, List.length_nil] at hla
          go_wp2_with fail
          refine (wbyt B b _ 44 44 (by decide) _ hI (by rw [List.length_append]; omega) hsz).mono ?_
          rintro e w4 ⟨rfl, h4, b4, k4⟩
          have hbw4 := hbw.trans b4
          have hkw4 := hkw.trans k4
          have hsz4 := Nat.le_trans hB hbw4.size
          clear b4 k4
          go_wp2_with fail
          refine (hstep (bs ++ acc ++ [44]) _ (by omega) (HT.out.keep hbw4) (HS.out.keep hbw4) (HN.out.keep hbw4) h4 (by simp only [List.length_append, List.length_cons, List.length_nil]; omega) hsz4).mono ?_
          rintro e w5 ⟨rfl, h5, b5, k5⟩
          have hacc2 := HAC.out
          rw [hs1] at hacc2
          have HA2 := Lib.hid hacc2
          clear hacc2
          go_wp2_with fail
          go_roundg (ks.length - (j + 1) + 1)
          case measure => rw [← HG.out]; omega
          case rel =>
            refine ⟨j + 1, acc ++ ([44] ++ writeJ t (m + 1) m), int_i64 (by omega), by omega, by simpa [List.append_assoc] using h5, hbw4.trans b5, hkw4.trans k5, ?_, rfl⟩
            rw [← HA2.out]
            simp
      · have hnil := lRest_nil (t := t) (i := i) (j := j) (ks := ks) (by omega)
        rw [hnil] at hacc hla
        simp only [List.length_nil] at hla
        have HAC := Lib.hid hacc
        clear hacc hnil hg
        go_wp2_with fail
        refine (wbyt B b _ 93 93 (by decide) _ hI (by rw [List.length_append]; omega) hsz).mono ?_
        rintro e w4 ⟨rfl, h4, b4, k4⟩
        go_wp2_with fail
        go_end0
        refine ⟨rfl, ?_, hbw.trans b4, hkw.trans k4⟩
        have e : bs ++ R = bs ++ acc ++ [93] := by rw [← HAC.out]; simp
        rw [e]
        exact h4
  · clear hui
    simp only [jObj] at c0 c1 c2 c3 c4 c5 hkl hnl
    have hw : R = [123] ++ (oRest t i 0 ks ns ++ [125]) := by rw [← List.append_assoc]; exact HW.out
    have HR := Lib.hid hw
    have HKR' : Ro w B Ak (ints ks) := HKR.out
    have HNR' : Ro w B An (strs ns) := HNR.out
    have HKR2 := Lib.hid HKR'
    have HNR2 := Lib.hid HNR'
    have hki : ∀ k ∈ ks, 0 ≤ k ∧ k < (i : Int) := HK.out
    have HK2 := Lib.hid hki
    have hxs : ∀ s ∈ ns, validL s = true ∧ s.length ≤ 1099511627776 := HX.out.2
    have HXS := Lib.hid hxs
    have HKN := Lib.hid hkn
    clear hkn
    clear HW HKR HKR' HNR HNR' HK hki hxs
    have hl0 := congrArg List.length hw
    simp only [List.length_append, List.length_cons, List.length_nil] at hl0
    clear hw
    go_wp2_with fail
    refine (wbyt B b bs 123 123 (by decide) _ (HA.out _).1 (by omega) (by have := (HA.out (.cells #[] 0)).2.1.size; rw [World.size_alloc]; omega)).mono ?_
    rintro e w3 ⟨rfl, h3, b3, k3⟩
    have hbk3 := k3 w.heap.size _ (heap_alloc_new w _) (by simp; omega) (by intro c fz h; simp at h)
    have d4 : w3.cell? ⟨w.heap.size, 4, none⟩ = some (.slice Ak ks.length ck) := by simp [World.cell?, hbk3]
    have hb3 := (HA.out _).2.1.trans b3
    have hvb := Lib.hid hbk3
    have HO3 := Lib.hid ((HA.out _).2.2.trans k3)
    have hne : w.heap.size ≠ b := by omega
    clear hbk3 b3 k3 c0 c1 c2 c3 c4 c5
    go_wp2_with fail
    go_loopg [72] (ks.length + 1) (fun g s72 wr => ∃ (j : Nat) (acc : List UInt8), s72 = .int .i64 j ∧ j ≤ ks.length ∧ IsBu B b (bs ++ acc) wr ∧ Below B w wr ∧ Lib.OthersKept 5 (some b) w3 wr ∧ acc ++ (oRest t i j ks ns ++ [125]) = R ∧ ks.length - j + 1 = g)
    case atStart => exact ⟨0, [123], rfl, by omega, h3, hb3, Lib.OthersKept.refl _ _ _, HR.out.symm, rfl⟩
    case round =>
      obtain ⟨j, acc, rfl, hj, hI, hbw, hkw, hacc, hg⟩ := hrel
      have hla := congrArg List.length hacc
      simp only [List.length_append, List.length_cons, List.length_nil] at hla
      have HG := Lib.hid hg
      have hsz := Nat.le_trans hB hbw.size
      by_cases hjt : j < ks.length
      · have hjn : j < ns.length := by rw [← HKN.out]; exact hjt
        obtain ⟨b2, o2, hAk, hb2, k0⟩ := (HKR2.out.keep hbw).int j hjt
        obtain ⟨b3, o3, hAn, hb3', n0⟩ := (HNR2.out.keep hbw).str j hjn
        have hkm := HK2.out ks[j] (List.getElem_mem hjt)
        have hsn := HXS.out ns[j] (List.getElem_mem hjn)
        obtain ⟨m, hm⟩ : ∃ m : Nat, ks[j] = m := ⟨(ks[j]).toNat, by omega⟩
        rw [hm] at k0 hkm
        subst hAk
        subst hAn
        have hstep := HIH.out m (by omega)
        have hms : writeJ t i m = writeJ t (m + 1) m := writeJ_stable HKA.out m i (by omega) (by omega)
        have hcons := oRest_cons (t := t) (i := i) hjt hjn
        rw [hm, Int.toNat_natCast, hms] at hcons
        rw [hcons] at hacc hla
        simp only [List.length_append, List.length_cons, List.length_nil] at hla
        have HAC := Lib.hid hacc
        have hvbw := hkw _ _ hvb.out (by simp; exact hne) (by intro c fz h; simp at h)
        have d5 : wr.cell? ⟨w.heap.size, 5, none⟩ = some (.slice (some ⟨b3, o3, none⟩) ns.length cn) := by simp [World.cell?, hvbw]
        have hq2 := @quoted_any ns[j]
        generalize hnj : ns[j] = s at *
        have HSN := Lib.hid hsn
        have HQ := Lib.hid hq2
        have HVB := Lib.hid hvbw
        have HNW : Ro wr B (some ⟨b3, o3, none⟩) (strs ns) := HNR2.out.keep hbw
        have HNS : (strs ns)[j]? = some (.string ⟨s.toArray⟩) := by simp [strs, hjn, hnj]
        have HN5 := Lib.hid (And.intro HNW HNS)
        clear hcons hacc hms hg hm hsn hq2 hvbw hnj HNW HNS
        by_cases hj0 : j = 0
        · subst hj0
          rw [Nat.add_zero] at k0 n0
          have hs0 : sepJ (decide (0 < 0)) = [] := rfl
          rw [hs0] at hla
          simp only [List.length_nil] at hla
          go_wp2_with fail
          refine (HQ.out _ ((HS.out.keep hbw).mono hsz) HSN.out.1 HSN.out.2).mono ?_
          rintro e w4 ⟨rfl, b4⟩
          have h4 := IsBu.keep hI b4
          have hbw4 := hbw.trans (b4.mono hsz)
          have hkw4 := hkw.trans (Others.of_below (b := b) b4)
          have hsz4 := Nat.le_trans hB hbw4.size
          generalize hQJ : quoteJ s = S at *
          clear b4 d5
          go_wp2_with fail
          refine (wstr B b _ S _ h4 (by rw [List.length_append]; omega) hsz4).mono ?_
          rintro e w5 ⟨rfl, h5, b5, k5⟩
          have hbw5 := hbw4.trans b5
          have hkw5 := hkw4.trans k5
          have hsz5 := Nat.le_trans hB hbw5.size
          clear b5 k5 h4
          go_wp2_with fail
          refine (wbyt B b _ 58 58 (by decide) _ h5 (by simp only [List.length_append]; omega) hsz5).mono ?_
          rintro e w6 ⟨rfl, h6, b6, k6⟩
          have hbw6 := hbw5.trans b6
          have hkw6 := hkw5.trans k6
          have hsz6 := Nat.le_trans hB hbw6.size
          clear b6 k6 h5
          go_wp2_with fail
          refine (hstep (bs ++ acc ++ S ++ [58]) _ (by omega) (HT.out.keep hbw6) (HS.out.keep hbw6) (HN.out.keep hbw6) h6 (by simp only [List.length_append, List.length_cons, List.length_nil]; omega) hsz6).mono ?_
          rintro e w7 ⟨rfl, h7, b7, k7⟩
          have hacc2 := HAC.out
          rw [hs0] at hacc2
          have HA2 := Lib.hid hacc2
          clear hacc2
          go_wp2_with fail
          go_roundg (ks.length - (0 + 1) + 1)
          case measure => rw [← HG.out]; omega
          case rel =>
            refine ⟨0 + 1, acc ++ (S ++ ([58] ++ writeJ t (m + 1) m)), int_i64 (by omega), by omega, by simpa [List.append_assoc] using h7, hbw6.trans b7, hkw6.trans k7, ?_, rfl⟩
            rw [← HA2.out]
            simp
        · have hs1 : sepJ (decide (0 < j)) = [44] := by rw [decide_eq_true (by omega)]; rfl
          have hj1 : (0 : Int) < (j : Int) := by omega
          rw [hs1] at hla
          simp only [List.length_cons, List.length_nil] at hla
          go_wp2_with fail
          refine (wbyt B b _ 44 44 (by decide) _ hI (by rw [List.length_append]; omega) hsz).mono ?_
          rintro e w8 ⟨rfl, h8, b8, k8⟩
          have hbw8 := hbw.trans b8
          have hkw8 := hkw.trans k8
          have hsz8 := Nat.le_trans hB hbw8.size
          have hvb8 := k8 _ _ HVB.out (by simp; exact hne) (by intro c fz h; simp at h)
          have d5' : w8.cell? ⟨w.heap.size, 5, none⟩ = some (.slice (some ⟨b3, o3, none⟩) ns.length cn) := by simp [World.cell?, hvb8]
          have n0' : w8.cell? ⟨b3, o3 + j, none⟩ = some (.string ⟨s.toArray⟩) := by
            rw [← n0]
            exact b8.cell (p := ⟨b3, o3 + j, none⟩) hb3'
          clear b8 k8 hvb8 d5
          go_wp2_with fail
          refine (HQ.out _ ((HS.out.keep hbw8).mono hsz8) HSN.out.1 HSN.out.2).mono ?_
          rintro e w4 ⟨rfl, b4⟩
          have h4 := IsBu.keep h8 b4
          have hbw4 := hbw8.trans (b4.mono hsz8)
          have hkw4 := hkw8.trans (Others.of_below (b := b) b4)
          have hsz4 := Nat.le_trans hB hbw4.size
          generalize hQJ : quoteJ s = S at *
          clear b4 d5' n0' h8
          go_wp2_with fail
          refine (wstr B b _ S _ h4 (by simp only [List.length_append, List.length_cons, List.length_nil]; omega) hsz4).mono ?_
          rintro e w5 ⟨rfl, h5, b5, k5⟩
          have hbw5 := hbw4.trans b5
          have hkw5 := hkw4.trans k5
          have hsz5 := Nat.le_trans hB hbw5.size
          clear b5 k5 h4
          go_wp2_with fail
          refine (wbyt B b _ 58 58 (by decide) _ h5 (by simp only [List.length_append, List.length_cons, List.length_nil]; omega) hsz5).mono ?_
          rintro e w6 ⟨rfl, h6, b6, k6⟩
          have hbw6 := hbw5.trans b6
          have hkw6 := hkw5.trans k6
          have hsz6 := Nat.le_trans hB hbw6.size
          clear b6 k6 h5
          go_wp2_with fail
          refine (hstep (bs ++ acc ++ [44] ++ S ++ [58]) _ (by omega) (HT.out.keep hbw6) (HS.out.keep hbw6) (HN.out.keep hbw6) h6 (by simp only [List.length_append, List.length_cons, List.length_nil]; omega) hsz6).mono ?_
          rintro e w7 ⟨rfl, h7, b7, k7⟩
          have hacc2 := HAC.out
          rw [hs1] at hacc2
          have HA2 := Lib.hid hacc2
          clear hacc2
          go_wp2_with fail
          go_roundg (ks.length - (j + 1) + 1)
          case measure => rw [← HG.out]; omega
          case rel =>
            refine ⟨j + 1, acc ++ ([44] ++ (S ++ ([58] ++ writeJ t (m + 1) m))), int_i64 (by omega), by omega, by simpa [List.append_assoc] using h7, hbw6.trans b7, hkw6.trans k7, ?_, rfl⟩
            rw [← HA2.out]
            simp
      · have hnil := oRest_nil (t := t) (i := i) (j := j) (ks := ks) (ns := ns) (by omega)
        rw [hnil] at hacc hla
        simp only [List.length_nil] at hla
        have HAC := Lib.hid hacc
        clear hacc hnil hg
        go_wp2_with fail
        refine (wbyt B b _ 125 125 (by decide) _ hI (by rw [List.length_append]; omega) hsz).mono ?_
        rintro e w4 ⟨rfl, h4, b4, k4⟩
        go_wp2_with fail
        go_end0
        refine ⟨rfl, ?_, hbw.trans b4, HO3.out.trans (hkw.trans k4)⟩
        have e : bs ++ R = bs ++ acc ++ [125] := by rw [← HAC.out]; simp
        rw [e]
        exact h4
end Go.Proofs.YtknmbfkpclacgaaGreatDoor

/- Plain law: sorted and compacted, a list is shorter just where something stands in it twice. -/
set_option linter.unusedSimpArgs false
namespace Go.Proofs.YtknmbfkpclacgaaGreatDoor

theorem noDup_nodup : ∀ l : List (List UInt8), noDup l = true ↔ l.Nodup
  | [] => by simp [noDup]
  | s :: r => by
    rw [noDup, List.nodup_cons, Bool.and_eq_true, noDup_nodup r]
    simp
theorem compact_lt (l : List (List UInt8)) : (Lib.compact l).length < l.length ↔ ∃ j, 0 < j ∧ ∃ h : j < l.length, l[j] = l[j - 1]'(by omega) := by
  have e : (Lib.compact l).length = ((List.range l.length).filter (Lib.keeps l.toArray)).length := by simp [Lib.compact, Lib.compactUpTo]
  have hr : (List.range l.length).length = l.length := List.length_range
  rw [e]
  conv => lhs; rhs; rw [← hr]
  rw [List.length_filter_lt_length_iff_exists]
  constructor
  · rintro ⟨j, hj, hk⟩
    have hj := List.mem_range.1 hj
    unfold Lib.keeps at hk
    simp only [decide_eq_true_eq, not_or, Classical.not_not] at hk
    refine ⟨j, by omega, hj, ?_⟩
    have h2 := hk.2
    rw [getElem!_pos l.toArray j (by simpa using hj), getElem!_pos l.toArray (j - 1) (by simp; omega)] at h2
    simpa using h2
  · rintro ⟨j, h0, hj, h⟩
    refine ⟨j, List.mem_range.2 hj, ?_⟩
    unfold Lib.keeps
    simp only [decide_eq_true_eq, not_or, Classical.not_not]
    refine ⟨by omega, ?_⟩
    rw [getElem!_pos l.toArray j (by simpa using hj), getElem!_pos l.toArray (j - 1) (by simp; omega)]
    simpa using h
theorem dup_lt (l : List (List UInt8)) : decide ((Lib.compact (l.mergeSort fun x y => decide (x ≤ y))).length < l.length) = !noDup l := by
  have hp := List.mergeSort_perm l (fun x y => decide (x ≤ y))
  have hs : List.Pairwise (fun a b : List UInt8 => a ≤ b) (l.mergeSort fun x y => decide (x ≤ y)) := by
    have := List.pairwise_mergeSort (le := fun x y : List UInt8 => decide (x ≤ y)) (fun a b c h1 h2 => by simp only [decide_eq_true_eq] at *; exact List.le_trans h1 h2) (fun a b => by simp only [Bool.or_eq_true, decide_eq_true_eq]; exact List.le_total a b) l
    simpa using this
  have hl := hp.length_eq
  have hnd := hp.nodup_iff
  generalize (l.mergeSort fun x y => decide (x ≤ y)) = S at *
  have key : (Lib.compact S).length < l.length ↔ ¬ l.Nodup := by
    rw [← hl, compact_lt, ← hnd]
    constructor
    · rintro ⟨j, h0, hj, h⟩ hn
      exact List.pairwise_iff_getElem.1 hn (j - 1) j (by omega) hj (by omega) h.symm
    · intro hn
      apply Classical.byContradiction
      intro hno
      apply hn
      refine List.pairwise_iff_getElem.2 fun i j hi hj hij he => hno ⟨i + 1, by omega, by omega, ?_⟩
      have h1 := List.pairwise_iff_getElem.1 hs i (i + 1) hi (by omega) (by omega)
      have h2 : S[i + 1]'(by omega) ≤ S[j] := by
        rcases Nat.lt_or_ge (i + 1) j with h | h
        · exact List.pairwise_iff_getElem.1 hs (i + 1) j (by omega) hj h
        · obtain rfl : i + 1 = j := by omega
          exact List.le_refl _
      rw [← he] at h2
      exact List.le_antisymm h2 h1
  cases hd : noDup l with
  | true =>
    rw [decide_eq_false (fun h => key.1 h ((noDup_nodup l).1 hd))]
    rfl
  | false =>
    rw [decide_eq_true (key.2 (fun h => by rw [(noDup_nodup l).2 h] at hd; cases hd))]
    rfl
end Go.Proofs.YtknmbfkpclacgaaGreatDoor

/- slices.IndexFunc, slices.ContainsFunc over strings; json.may's inner functions: the walks. -/
set_option linter.unusedSimpArgs false
namespace Go.Proofs.YtknmbfkpclacgaaGreatDoor
open Go.RowKit

set_option maxRecDepth 100000 in
set_option maxHeartbeats 4000000 in
theorem bad1_any (s : List UInt8) (w : World) (hl : s.length ≤ 70368744177664) :
    Calls Tryz.prog 124 #[.string ⟨s.toArray⟩] w fun e w' => e = .returned (.bool (!validL s)) ∧ Chg (fun _ => False) w w' := by
  go_enter Tryz.func124, Tryz.ntmps124
  go_wp2_with fail
  refine (valid_any s _ hl).mono ?_
  rintro e w2 ⟨rfl, hch⟩
  go_wp2_with fail
  go_ret
  exact ⟨rfl, hch⟩

def StrOk (ns : List (List UInt8)) : Prop := ∀ s ∈ ns, s.length ≤ 70368744177664
theorem any_drop {α : Type} {p : α → Bool} {l : List α} {j : Nat} (hj : j < l.length) (hp : p l[j] = false) : (l.drop (j + 1)).any p = (l.drop j).any p := by
  rw [List.drop_eq_getElem_cons hj, List.any_cons, hp, Bool.false_or]
theorem any_hit {α : Type} {p : α → Bool} {l : List α} {j : Nat} (hj : j < l.length) (hp : p l[j] = true) : (l.drop j).any p = true := by
  rw [List.drop_eq_getElem_cons hj, List.any_cons, hp, Bool.true_or]
/-- what IndexFunc gives -/
def IPost (x : Bool) (w : World) (e : Ending) (w' : World) : Prop := ∃ r : Int, e = .returned (.int .i64 r) ∧ decide (0 ≤ r) = x ∧ -1 ≤ r ∧ r ≤ 140737488355328 ∧ Chg (fun _ => False) w w'

set_option maxRecDepth 100000 in
set_option maxHeartbeats 4000000 in
theorem idxs_any (ns : List (List UInt8)) (A : Option Addr) (cap B : Nat) (w : World) (hN : Ro w B A (strs ns)) (hB : B ≤ w.heap.size) (hl : ns.length ≤ 140737488355328) (hs : StrOk ns) :
    Calls Tryz.prog 182 #[.slice A ns.length cap, .func (.func 124) #[] #[]] w (IPost (ns.any fun s => !validL s) w) := by
  have HN := Lib.hid hN
  have HS := Lib.hid hs
  clear hN hs
  go_enter Tryz.func182, Tryz.ntmps182
  go_wp2_with fail
  go_loopg [8] (ns.length + 1) (fun g s8 wr => ∃ j : Nat, s8 = .int .i64 j ∧ j ≤ ns.length ∧ Chg (fun _ => False) w wr ∧ (ns.drop j).any (fun s => !validL s) = ns.any (fun s => !validL s) ∧ ns.length - j + 1 = g)
  case atStart => exact ⟨0, rfl, by omega, Chg.refl _ _, rfl, rfl⟩
  case round =>
    obtain ⟨j, rfl, hj, hch, hany, hg⟩ := hrel
    have HG := Lib.hid hg
    have HANY := Lib.hid hany
    clear hg hany
    by_cases hjt : j < ns.length
    · obtain ⟨b2, o2, hAk, hb2, k0⟩ := (HN.out.keep (hch.below hB (fun _ h => h.elim))).str j hjt
      subst hAk
      have hbad := bad1_any ns[j] wr (HS.out _ (List.getElem_mem hjt))
      have hnx := any_drop (p := fun s => !validL s) hjt
      have hht := any_hit (p := fun s => !validL s) hjt
      generalize ns[j] = s at *
      cases hv : validL s with
      | true =>
        rw [hv] at hbad hnx
        have hnx' := hnx rfl
        have HNX := Lib.hid hnx'
        clear hnx hnx' hht hv
        go_wp2_with fail
        refine hbad.mono ?_
        rintro e w2 ⟨rfl, hch2⟩
        go_wp2_with fail
        go_roundg (ns.length - (j + 1) + 1)
        case measure => rw [← HG.out]; omega
        case rel => exact ⟨j + 1, int_i64 (by omega), by omega, hch.trans hch2, HNX.out.trans HANY.out, rfl⟩
      | false =>
        rw [hv] at hbad hht
        have hht' := hht rfl
        have HHT := Lib.hid hht'
        clear hnx hht hht' hv
        go_wp2_with fail
        refine hbad.mono ?_
        rintro e w2 ⟨rfl, hch2⟩
        go_wp2_with fail
        go_ret
        exact ⟨j, rfl, by rw [← HANY.out, HHT.out]; simp, by omega, by omega, hch.trans hch2⟩
    · have hdr : ns.drop j = [] := List.drop_eq_nil_of_le (by omega)
      have hh := HANY.out
      rw [hdr] at hh
      have HH := Lib.hid hh
      clear hdr hh
      go_wp2_with fail
      go_ret
      exact ⟨-1, rfl, by rw [← HH.out]; rfl, by omega, by omega, hch⟩

set_option maxRecDepth 100000 in
set_option maxHeartbeats 4000000 in
theorem has_any (ns : List (List UInt8)) (A : Option Addr) (cap B : Nat) (w : World) (hN : Ro w B A (strs ns)) (hB : B ≤ w.heap.size) (hl : ns.length ≤ 140737488355328) (hs : StrOk ns) :
    Calls Tryz.prog 123 #[.slice A ns.length cap, .func (.func 124) #[] #[]] w fun e w' => e = .returned (.bool (ns.any fun s => !validL s)) ∧ Chg (fun _ => False) w w' := by
  go_enter Tryz.func123, Tryz.ntmps123
  go_wp2_with fail
  refine (idxs_any ns A cap B w hN hB hl hs).mono ?_
  rintro e w2 ⟨r, rfl, hr, _, _, hch⟩
  have HR := Lib.hid hr
  clear hN hr
  go_wp2_with fail
  go_ret
  exact ⟨by rw [← HR.out]; rfl, hch⟩

/-- a value's cells, as one -/
abbrev vagg (v : JV) (Ak : Option Addr) (ck : Nat) (An : Option Addr) (cn : Nat) : Value := .agg #[.int .i64 v.kind, .bool v.truth, .int .i64 v.n, .string ⟨v.text.toArray⟩, .slice Ak v.kids.length ck, .slice An v.names.length cn]
set_option maxRecDepth 100000 in
set_option maxHeartbeats 4000000 in
theorem is242_any (v : JV) (Ak : Option Addr) (ck : Nat) (An : Option Addr) (cn : Nat) (w : World) :
    Calls Tryz.prog 122 #[vagg v Ak ck An cn, .int .i64 242] w fun e w' => e = .returned (.bool (decide (v.n < -9007199254740991) || decide (9007199254740991 < v.n))) ∧ Chg (fun _ => False) w w' := by
  have hal : ∀ o, Chg (fun _ => False) w (w.alloc o) := fun o => (Chg.refl _ w).alloc o
  have HAL := Lib.hid hal
  clear hal
  go_enter Tryz.func122, Tryz.ntmps122
  by_cases h1 : v.n < -9007199254740991
  · go_wp2_with fail
    go_ret
    refine ⟨?_, HAL.out _⟩
    first
      | rfl
      | (rw [decide_eq_true h1]; rfl)
  · have e1 := Lib.hid (decide_eq_false h1)
    by_cases h2 : 9007199254740991 < v.n
    · go_wp2_with fail
      go_ret
      refine ⟨?_, HAL.out _⟩
      first
        | rfl
        | (rw [e1.out, decide_eq_true h2]; rfl)
    · have e2 := Lib.hid (decide_eq_false h2)
      go_wp2_with fail
      go_ret
      refine ⟨?_, HAL.out _⟩
      first
        | rfl
        | (rw [e1.out, e2.out]; rfl)

set_option maxRecDepth 100000 in
set_option maxHeartbeats 4000000 in
theorem is243_any (v : JV) (Ak : Option Addr) (ck : Nat) (An : Option Addr) (cn B : Nat) (w : World) (hN : Ro w B An (strs v.names)) (hB : B ≤ w.heap.size) (hl : v.names.length ≤ 140737488355328) (hs : StrOk v.names) (ht : v.text.length ≤ 70368744177664) :
    Calls Tryz.prog 122 #[vagg v Ak ck An cn, .int .i64 243] w fun e w' => e = .returned (.bool (!validL v.text || v.names.any fun s => !validL s)) ∧ Chg (fun _ => False) w w' := by
  have hal : ∀ o, Chg (fun _ => False) w (w.alloc o) := fun o => (Chg.refl _ w).alloc o
  have HAL := Lib.hid hal
  have HN := Lib.hid hN
  clear hal hN
  go_enter Tryz.func122, Tryz.ntmps122
  go_wp2_with fail
  refine (valid_any v.text _ ht).mono ?_
  rintro e w2 ⟨rfl, hch2⟩
  have hbk := hch2.obj (heap_alloc_new w _) id
  have c5 : w2.cell? ⟨w.heap.size, 5, none⟩ = some (.slice An v.names.length cn) := by simp [World.cell?, hbk]
  have hch : Chg (fun _ => False) w w2 := (HAL.out _).trans hch2
  clear hbk hch2
  cases hv : validL v.text with
  | true =>
    go_wp2_with fail
    refine (has_any v.names An cn B w2 (HN.out.keep (hch.below hB (fun _ h => h.elim))) (Nat.le_trans hB hch.size) hl hs).mono ?_
    rintro e w3 ⟨rfl, hch3⟩
    have HV := Lib.hid hv
    clear hv
    go_wp2_with fail
    go_ret
    exact ⟨by rw [HV.out]; rfl, hch.trans hch3⟩
  | false =>
    have HV := Lib.hid hv
    clear hv
    go_wp2_with fail
    go_ret
    exact ⟨by rw [HV.out]; rfl, hch⟩
end Go.Proofs.YtknmbfkpclacgaaGreatDoor
