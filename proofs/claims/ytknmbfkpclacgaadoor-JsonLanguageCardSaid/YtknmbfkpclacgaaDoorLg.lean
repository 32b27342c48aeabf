/- JsonLanguage: the walk. -/
import Derived.Test.YtknmbfkpclacgaaDoorJn
import Derived.Test.YtknmbfkpclacgaaDoorPl
import Derived.Lib.QuoteBits
import Derived.StillTailTactics
import Derived.Deep.RegionHeld
set_option linter.unusedSimpArgs false
namespace Go.Proofs.YtknmbfkpclacgaaDoor
open Go.RowKit

def digS : ByteArray := ⟨#[48, 49, 50, 51, 52, 53, 54, 55, 56, 57, 97, 66, 99, 68, 101, 70]⟩
theorem digS_size : digS.size = 16 := rfl
theorem digS_all : ∀ m : Fin 16, digS[m.val]'(by rw [digS_size]; omega) = digL m.val := by decide
theorem digS_at (n : Nat) (hn : n < 16) : digS[n]'(by rw [digS_size]; omega) = digL n := digS_all ⟨n, hn⟩
theorem and1023_i32 (x : Nat) (h : x < 2147483648) : bits .and .i32 (x : Int) 1023 = ((x % 1024 : Nat) : Int) := by
  show IntKind.i32.wrap ((BitVec.ofInt 32 (x : Int) &&& BitVec.ofInt 32 ((1023 : Nat) : Int)).toNat : Int) = _
  rw [BitVec.toNat_and, ofInt_u32 x (by omega), ofInt_u32 1023 (by omega), show 1023 = 2 ^ 10 - 1 from rfl, Nat.and_two_pow_sub_one_eq_mod]
  exact Lib.wrap_i32_small _ (by omega)
theorem dig_index (W : World) (m : Nat) (hm : m < 16) (i : Int) (hi : i = (m : Int)) : (Instr.index 9 (.string digS) (.int .i32 i)).run Tryd.prog W = .ok (.int .u8 ((digL m).toNat : Int)) W := by
  subst hi
  rw [run_index_string W _ _ _ _ Tryd.underlying9, dif_pos (by rw [digS_size]; omega)]
  simp only [Int.toNat_natCast]
  rw [digS_at m hm]
set_option maxRecDepth 100000 in
set_option maxHeartbeats 4000000 in
theorem unit_any (n db : Nat) (hn : n < 65536) (w : World) (hd : w.cell? ⟨db, 0, none⟩ = some (.string digS)) :
    Calls Tryd.prog 13 #[.int .i32 n, .pointer (some ⟨db, 0, none⟩)] w fun e w' => e = .returned (.string ⟨(unitL n).toArray⟩) ∧ Chg (fun _ => False) w w' := by
  have a1 : bits .and .i32 ((n : Int) / 4096) 15 = ((n / 4096 % 16 : Nat) : Int) := Lib.and15_shift n n rfl (by omega) 4096
  have a2 : bits .and .i32 ((n : Int) / 256) 15 = ((n / 256 % 16 : Nat) : Int) := Lib.and15_shift n n rfl (by omega) 256
  have a3 : bits .and .i32 ((n : Int) / 16) 15 = ((n / 16 % 16 : Nat) : Int) := Lib.and15_shift n n rfl (by omega) 16
  have a4 := Lib.and15_i32 n (by omega)
  have b1 : n / 4096 % 16 < 16 := by omega
  have b2 : n / 256 % 16 < 16 := by omega
  have b3 : n / 16 % 16 < 16 := by omega
  have b4 : n % 16 < 16 := by omega
  go_enter Tryd.func13, Tryd.ntmps13
  go_wp2_with fail
  have hd' : w.drew.cell? ⟨db, 0, none⟩ = some (.string digS) := hd
  have hch : Chg (fun _ => False) w w.drew := (Chg.refl _ _).drew
  refine wp_region_still_tail 19 (by kernel_rfl) (by kernel_rfl) ?_
  simp only [List.take_succ_cons, List.take_zero, List.drop_succ_cons, List.drop_zero]
  generalize hWW : w.drew = W at *
  have i1 := dig_index W (n / 4096 % 16) b1 ((n : Int) / 4096 % 16) (by omega)
  have i2 := dig_index W (n / 256 % 16) b2 ((n : Int) / 256 % 16) (by omega)
  have i3 := dig_index W (n / 16 % 16) b3 ((n : Int) / 16 % 16) (by omega)
  have i4 := dig_index W (n % 16) b4 ((n : Int) % 16) (by omega)
  have hu : unitL n = [92, 117, digL (n / 4096 % 16), digL (n / 256 % 16), digL (n / 16 % 16), digL (n % 16)] := rfl
  generalize digL (n / 4096 % 16) = d1 at *
  generalize digL (n / 256 % 16) = d2 at *
  generalize digL (n / 16 % 16) = d3 at *
  generalize digL (n % 16) = d4 at *
  have HU := Lib.hid hu
  clear hu b1 b2 b3 b4
  repeat still_step
  try refine wpStill_nil ?_
  change wpList _ _ _ _ _ w.drew
  rw [hWW]
  clear hWW a1 a2 a3 a4 i1 i2 i3 i4
  have hcv : (convert 30 9 (.slice (some ⟨W.heap.size, 0, none⟩) 4 4)).run Tryd.prog (W.alloc (.cells #[.int .u8 (d1.toNat : Int), .int .u8 (d2.toNat : Int), .int .u8 (d3.toNat : Int), .int .u8 (d4.toNat : Int)] 5)) = .ok (.string ⟨[d1, d2, d3, d4].toArray⟩) (W.alloc (.cells #[.int .u8 (d1.toNat : Int), .int .u8 (d2.toNat : Int), .int .u8 (d3.toNat : Int), .int .u8 (d4.toNat : Int)] 5)) :=
    conv_bytes Tryd.underlying30 Tryd.underlying5 Tryd.underlying9 _ W.heap.size 0 4 4 [d1, d2, d3, d4] rfl (fun j hj => by
      rw [Nat.zero_add, cell_of_row _ _ _ _ _ _ (heap_alloc_new W _)]
      rcases (show j = 0 ∨ j = 1 ∨ j = 2 ∨ j = 3 by omega) with rfl | rfl | rfl | rfl <;> rfl)
  have hch2 : ∀ o, Chg (fun _ => False) w (W.alloc o) := fun o => hch.alloc o
  have HC := Lib.hid hch2
  clear hch hch2
  go_wp2_with fail
  go_ret
  refine ⟨?_, HC.out _⟩
  rw [HU.out]
  rfl

theorem str_app (a b : List UInt8) : ((⟨a.toArray⟩ : ByteArray) ++ ⟨b.toArray⟩) = ⟨(a ++ b).toArray⟩ := by
  apply ByteArray.ext
  simp
/-- string([]rune(s)), as the two conversions give it -/
theorem conv_runes (w : World) (l : List UInt8) (hl : l.length ≤ 70368744177664) : ∃ (n cc : Nat) (W : World), (convert 9 44 (.string ⟨l.toArray⟩)).run Tryd.prog w = .ok (.slice (some ⟨w.heap.size, 0, none⟩) n cc) W ∧
    (convert 44 9 (.slice (some ⟨w.heap.size, 0, none⟩) n cc)).run Tryd.prog W = .ok (.string ⟨(outL l.length l).toArray⟩) W ∧ Chg (fun _ => False) w W := by
  have hsz : (⟨l.toArray⟩ : ByteArray).size = l.length := by show l.toArray.size = _; simp
  have hrf : Conv.runesFrom ⟨l.toArray⟩ l.length 0 #[] = ((runesL l.length l).map (Value.int .i32)).toArray := by rw [runesFrom_L]; simp
  have hr := run_runes_of_string (P := Tryd.prog) w 9 44 21 ⟨l.toArray⟩ Tryd.underlying9 Tryd.underlying44 Tryd.underlying21
  rw [hsz, hrf] at hr
  have hrl := runesL_len l.length l
  have hr2 := hr (by simp; omega)
  refine ⟨_, _, _, hr2, ?_, ((Chg.refl _ _).drew).alloc _⟩
  have hR : ((runesL l.length l).map (Value.int .i32)).toArray.size = (runesL l.length l).length := by simp
  have hcr := run_convert_runes (P := Tryd.prog) (w.drew.alloc (.cells (((runesL l.length l).map (Value.int .i32)).toArray ++ Array.replicate (grownCap w ((runesL l.length l).map (Value.int .i32)).toArray.size 0 21 - ((runesL l.length l).map (Value.int .i32)).toArray.size) (.int .i32 0)) 21)) 44 9 21 ⟨w.heap.size, 0, none⟩ (runesL l.length l).length (grownCap w ((runesL l.length l).map (Value.int .i32)).toArray.size 0 21) (runesL l.length l) (Nat.le_refl _) Tryd.underlying44 Tryd.underlying21 Tryd.underlying9 (fun j hj => by
    have h := heap_alloc_new w.drew (.cells (((runesL l.length l).map (Value.int .i32)).toArray ++ Array.replicate (grownCap w ((runesL l.length l).map (Value.int .i32)).toArray.size 0 21 - ((runesL l.length l).map (Value.int .i32)).toArray.size) (.int .i32 0)) 21)
    rw [addr_zero, cell_of_row _ w.heap.size j _ _ _ h, Array.getElem?_append_left (by simpa using hj)]
    simp [List.getD_eq_getElem?_getD, hj])
  rw [List.take_length, runesBytes_L] at hcr
  rw [hR] at hcr ⊢
  exact hcr
theorem langL_len : ∀ (k : Nat) (l : List UInt8), (langL k l).length ≤ 12 * k
  | 0, _ => by simp [langL]
  | k + 1, l => by
    rw [langL]
    split
    · simp
    · have := langL_len k (l.drop (stepJ l).2)
      have h2 : (uR (stepJ l).1).length ≤ 12 := by unfold uR; split <;> simp [unitL]
      rw [List.length_append]
      omega
set_option maxRecDepth 100000 in
set_option maxHeartbeats 4000000 in
theorem lang_walk (s : List UInt8) (w : World) (hG : Gs w w.heap.size) :
    Calls Tryd.prog 6 #[.string ⟨s.toArray⟩] w fun e w' => e = .returned (.bool true) ∧ Chg (fun _ => False) w w' := by
  have HG := Lib.hid hG
  have hfx := fixed_any w w.heap.size (Nat.le_refl _) hG
  have hsz : (⟨s.toArray⟩ : ByteArray).size = s.length := by show s.toArray.size = _; simp
  clear hG
  go_enter Tryd.func6, Tryd.ntmps6
  go_wp2_with fail
  refine hfx.mono ?_
  rintro e w2 ⟨rfl, hch2⟩
  clear hfx
  by_cases hlong : 65536 < s.length
  · go_wp2_with fail
    go_ret
    exact ⟨rfl, hch2⟩
  · have hl : s.length ≤ 65536 := by omega
    go_wp2_with fail
    generalize hW1 : w2.alloc (.cells #[.string ⟨#[48, 49, 50, 51, 52, 53, 54, 55, 56, 57, 97, 66, 99, 68, 101, 70]⟩] 9) = W1
    have hd1 : W1.cell? ⟨w2.heap.size, 0, none⟩ = some (.string digS) := by rw [← hW1, cell_of_row _ _ _ _ _ _ (heap_alloc_new w2 _)]; rfl
    have hc1 : Chg (fun _ => False) w W1 := by rw [← hW1]; exact hch2.alloc _
    have hs1 : W1.heap.size = w2.heap.size + 1 := by rw [← hW1, World.size_alloc]
    clear hW1 hch2
    go_loopg [5] (s.length + 1) (fun g s5 wr => ∃ (i k : Nat) (acc : List UInt8), s5 = .string ⟨acc.toArray⟩ ∧ wr.heap[w2.heap.size + 1]? = some (.stringIter ⟨s.toArray⟩ i) ∧ Below (w2.heap.size + 1) W1 wr ∧ acc ++ langL k (s.drop i) = [34] ++ langL s.length s ∧ s.length ≤ i + k ∧ i ≤ s.length ∧ acc.length ≤ 12 * i + 1 ∧ s.length - i + 1 = g)
    case atStart =>
      refine ⟨0, s.length, [34], rfl, ?_, (Below.refl _ _).alloc (by omega) _, by rw [List.drop_zero], by omega, by omega, by simp, by omega⟩
      rw [← hs1]
      exact heap_alloc_new W1 _
    case round =>
      obtain ⟨i, k, acc, rfl, hit, hbw, hacc, hik, hi, hal, hg⟩ := hrel
      have hG2 := Lib.hid hg
      have HACC := Lib.hid hacc
      clear hg hacc
      by_cases hil : i < s.length
      · have hne : s.drop i ≠ [] := by
          intro e
          have := congrArg List.length e
          simp at this
          omega
        obtain ⟨k', rfl⟩ : ∃ k', k = k' + 1 := ⟨k - 1, by omega⟩
        have hst := stepJ_valid (s.drop i) hne
        have hwl : (stepJ (s.drop i)).2 ≤ s.length - i := by
          unfold stepJ
          cases hdd : dec (s.drop i) with
          | none => simp only [Option.getD_none]; omega
          | some p =>
            obtain ⟨r, n⟩ := p
            have := (dec_enc _ _ _ hdd).2.2.2.1
            rw [List.length_drop] at this
            exact this
        have hnx : ∀ ty, (Instr.next (.pointer (some ⟨w2.heap.size + 1, 0, none⟩)) true ty).run Tryd.prog wr = .ok (.tuple #[.bool true, .int .i64 i, .int .i32 ((stepJ (s.drop i)).1 : Nat)]) (wr.iterAt (w2.heap.size + 1) ⟨s.toArray⟩ (i + (stepJ (s.drop i)).2)) := fun ty => by
          rw [Lib.run_next_any_at wr (w2.heap.size + 1) ⟨s.toArray⟩ i ty hit (by rw [hsz]; exact hil), decode_drop s i hil]
        have hq1 := HACC.out
        rw [langL, if_neg hne, List.drop_drop] at hq1
        generalize hrn : stepJ (s.drop i) = rn at *
        obtain ⟨r, n⟩ := rn
        simp only at hnx hq1 hst hwl
        have hr := validR_lt hst.1
        have hit2 := Lib.iterAt_heap wr (w2.heap.size + 1) ⟨s.toArray⟩ i (i + n) hit
        have hbw2 := Lib.below_iterAt hbw (k := w2.heap.size + 1) (by omega) ⟨s.toArray⟩ (i + n)
        clear hit hbw
        generalize hWW : wr.iterAt (w2.heap.size + 1) ⟨s.toArray⟩ (i + n) = W at *
        have hdW : W.cell? ⟨w2.heap.size, 0, none⟩ = some (.string digS) := (hbw2.cell (p := ⟨w2.heap.size, 0, none⟩) (by simp)).trans hd1
        have HQ1 := Lib.hid hq1
        have HST := Lib.hid hst
        clear hq1 hrn hWW hne HACC
        by_cases hr2 : 65535 < r
        · have hr2' : ((65535 : Int) < (r : Int)) := by omega
          have huR : uR r = unitL (55296 + (r - 65536) / 1024) ++ unitL (56320 + (r - 65536) % 1024) := by unfold uR; rw [if_pos hr2]
          have HUR := Lib.hid huR
          clear huR
          obtain ⟨m, hm⟩ : ∃ m : Nat, m = r - 65536 := ⟨_, rfl⟩
          rw [← hm] at HUR
          have e0 : ((r : Int) - 65536) = (m : Int) := by omega
          have hand : bits .and .i32 ((r : Int) - 65536) 1023 = ((m % 1024 : Nat) : Int) := by rw [e0]; exact and1023_i32 m (by omega)
          have q1 := Lib.hid (show ((55296 : Int) + ((r : Int) - 65536) / 1024) = ((55296 + m / 1024 : Nat) : Int) by omega)
          have q2 := Lib.hid (show ((56320 : Int) + (m : Int) % 1024) = ((56320 + m % 1024 : Nat) : Int) by omega)
          have hmm : m < 1048576 := by omega
          have HM := Lib.hid (And.intro hm e0)
          clear hm e0
          go_wp2_with fail
          rw [q1.out]
          refine (unit_any (55296 + m / 1024) w2.heap.size (by omega) W hdW).mono ?_
          rintro e w3 ⟨rfl, hch3⟩
          have hd3 := hch3.cell hdW id
          go_wp2_with fail
          rw [q2.out]
          refine (unit_any (56320 + m % 1024) w2.heap.size (by omega) w3 hd3).mono ?_
          rintro e w4 ⟨rfl, hch4⟩
          have hch5 := hch3.trans hch4
          have hit3 := hch5.obj hit2 id
          have hbw3 := hbw2.trans (hch5.below (B := w2.heap.size + 1) (by have := hbw2.size; omega) (fun _ h => h.elim))
          generalize hu1 : unitL (55296 + m / 1024) = U1 at *
          generalize hu2 : unitL (56320 + m % 1024) = U2 at *
          have hl1 : U1.length = 6 := by rw [← hu1]; simp [unitL]
          have hl2 : U2.length = 6 := by rw [← hu2]; simp [unitL]
          have hcat1 := str_app U1 U2
          have hcat := str_app acc (U1 ++ U2)
          clear hch3 hch4 hch5 hu1 hu2
          go_wp2_with fail
          go_roundg (s.length - (i + n) + 1)
          case measure => rw [← hG2.out]; omega
          case rel =>
            refine ⟨i + n, k', acc ++ (U1 ++ U2), rfl, hit3, hbw3, ?_, by omega, by omega, by rw [List.length_append, List.length_append]; omega, rfl⟩
            rw [← HQ1.out, HUR.out, List.append_assoc]
        · have hr2' : ¬ ((65535 : Int) < (r : Int)) := by omega
          have huR : uR r = unitL r := by unfold uR; rw [if_neg hr2]
          have HUR := Lib.hid huR
          clear huR
          go_wp2_with fail
          refine (unit_any r w2.heap.size (by omega) W hdW).mono ?_
          rintro e w3 ⟨rfl, hch3⟩
          have hcat := str_app acc (unitL r)
          have hul : (unitL r).length = 6 := by simp [unitL]
          have hit3 := hch3.obj hit2 id
          have hbw3 := hbw2.trans (hch3.below (B := w2.heap.size + 1) (by have := hbw2.size; omega) (fun _ h => h.elim))
          clear hch3
          go_wp2_with fail
          go_roundg (s.length - (i + n) + 1)
          case measure => rw [← hG2.out]; omega
          case rel =>
            refine ⟨i + n, k', acc ++ unitL r, rfl, hit3, hbw3, ?_, by omega, by omega, by rw [List.length_append]; omega, rfl⟩
            rw [← HQ1.out, HUR.out, List.append_assoc]
      · have hnx : ∀ ty, (Instr.next (.pointer (some ⟨w2.heap.size + 1, 0, none⟩)) true ty).run Tryd.prog wr = _ := fun ty => Lib.run_next_end_at wr (w2.heap.size + 1) ⟨s.toArray⟩ i ty hit (by rw [hsz]; exact hil)
        have hacc := HACC.out
        rw [List.drop_eq_nil_of_le (by omega : s.length ≤ i)] at hacc
        have hln : langL k [] = [] := by cases k <;> rfl
        rw [hln, List.append_nil] at hacc
        have hlen := langL_len s.length s
        have HA := Lib.hid hacc
        have hcat := str_app acc [34]
        have hcw := (hc1.trans (Chg.of_below' (hbw.mono (by omega : W1.heap.size ≤ w2.heap.size + 1))))
        obtain ⟨cc, W2, hcv, hcc, hc2, hbs⟩ := conv_sb wr (acc ++ [34]) (by simp; omega)
        have hcw2 := hcw.trans hc2
        have hpl : parseJ (acc ++ [34]) = .ok [jStr (outL s.length s)] := by
          rw [hacc]
          simp only [List.cons_append, List.nil_append]
          exact parseJ_lang s (by omega)
        have hpc := parse_ok _ cc (acc ++ [34]) _ hpl W2 w.heap.size hcw2.size hbs hcc (HG.out.keep (hcw2.below (Nat.le_refl _) (fun _ h => h.elim)))
        have hL : (acc ++ [(34 : UInt8)]).length = acc.length + 1 := by simp
        rw [hL] at hpc
        clear hL
        have HPC := Lib.hid hpc
        clear hpc hpl hbs hacc hln hcw hc2
        go_wp2_with fail
        refine HPC.out.mono ?_
        rintro e w5 ⟨tv, xs, rfl, hTR, hch5⟩
        obtain ⟨A, c, rfl, _, hT⟩ := hTR.rd (by simp) (by intro v hv; simp at hv; subst hv; exact ⟨by simp [jStr], by simp [jStr]⟩)
        obtain ⟨b, oo, Ak, ck, An, cn, hA, hbB, c0, c1, c2, c3, c4, c5, hkr, hnr, hkl, hnl⟩ := hT.at 0 (by simp)
        subst hA
        have k3 : w5.cell? ⟨b, oo + 3, none⟩ = some (.string ⟨(outL s.length s).toArray⟩) := by rw [Nat.zero_mul, Nat.add_zero] at c3; exact c3
        have hc5 := hcw2.trans hch5
        clear hTR hch5 hT c0 c1 c2 c3 c4 c5 hkr hnr hkl hnl HPC hcv hcat
        go_wp2_with fail
        have k3' : w5.drew.cell? ⟨b, oo + 3, none⟩ = some (.string ⟨(outL s.length s).toArray⟩) := k3
        have hcd : Chg (fun _ => False) w w5.drew := hc5.trans (Chg.refl _ _).drew
        obtain ⟨rn, rc, W6, hr1, hr2, hc6⟩ := conv_runes w5.drew s (by omega)
        have k6 : W6.cell? ⟨b, oo + 3, none⟩ = some (.string ⟨(outL s.length s).toArray⟩) := hc6.cell k3' id
        have hc7 := hcd.trans hc6
        have hwh : w5.drew.heap.size = w5.heap.size := rfl
        rw [hwh] at hr1 hr2
        generalize outL s.length s = O at *
        clear hc6 hcd hc5 hc1 hd1 hbw hit hcw2 hwh
        go_region_held (fun w' => w'.cell? ⟨b, oo + 3, none⟩ = some (.string ⟨O.toArray⟩)) (first | assumption | go_keep) (fail)
        all_goals
          go_wp2_with fail
          go_ret
          exact ⟨rfl, hc7⟩
end Go.Proofs.YtknmbfkpclacgaaDoor
