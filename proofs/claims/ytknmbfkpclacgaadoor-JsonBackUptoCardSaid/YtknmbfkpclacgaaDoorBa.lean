/- JsonBack: the walk. -/
import Derived.Test.YtknmbfkpclacgaaDoorJn
import Derived.Test.YtknmbfkpclacgaaDoorOa
import Derived.Test.YtknmbfkpclacgaaDoorSf
set_option linter.unusedSimpArgs false
namespace Go.Proofs.YtknmbfkpclacgaaDoor
open Go.RowKit

theorem trd_kl {w : World} {B : Nat} {A : Option Addr} {xs : List VC} {t : List JV} (h : TRd w B A xs t) : ∀ v ∈ t, KL v := fun v hv => by
  obtain ⟨i, hi, rfl⟩ := List.getElem_of_mem hv
  exact ⟨(h.vals i hi).kl, (h.vals i hi).nl⟩
theorem canon_kl {t : List JV} (h : ∀ v ∈ t, KL v) (f i base : Nat) : ∀ v ∈ canon t f i base, KL v :=
  canon_all ⟨by simp [jNull], by simp [jNull]⟩ h (fun v ks hv hl => ⟨by simp only [jList]; rw [hl]; exact hv.1, by simp [jList]⟩) (fun v ks hv hl => ⟨by simp only [jObj]; rw [hl]; exact hv.1, hv.2⟩) f i base
theorem canon_sm {t : List JV} (h : Sm t) (f i base : Nat) : Sm (canon t f i base) := by
  have hall := canon_all (P := VSm) (t := t) ⟨by simp [jNull], by simp [jNull], by simp [jNull]⟩ (fun v hv => by
    obtain ⟨i, hi, rfl⟩ := List.getElem_of_mem hv
    exact h i hi) (fun v ks hv hl => ⟨by simp [jList], by simp [jList], by simp [jList]⟩) (fun v ks hv hl => ⟨by simp [jObj], hv.strs, hv.names⟩) f i base
  exact fun j hj => hall _ (List.getElem_mem hj)
set_option maxRecDepth 100000 in
set_option maxHeartbeats 4000000 in
theorem back_walk (t : List JV) (A : Option Addr) (cap : Nat) (xs : List VC) (w : World) (hT : TRd w w.heap.size A xs t) (hs : Sm t) (hl : (tx t).length ≤ 20000000) (hG : Gs w w.heap.size) :
    Calls Tryd.prog 7 #[.slice A t.length cap] w fun e w' => e = .returned (.bool true) ∧ Chg (fun _ => False) w w' := by
  have HG := Lib.hid hG
  have HT := Lib.hid hT
  have HS := Lib.hid hs
  have htl := hT.tl
  have hfx := fixed_any w w.heap.size (Nat.le_refl _) hG
  clear hG hT hs
  go_enter Tryd.func7, Tryd.ntmps7
  go_wp2_with fail
  refine hfx.mono ?_
  rintro e w2 ⟨rfl, hch2⟩
  have hk2 := hch2.below (Nat.le_refl _) (fun _ h => h.elim)
  have htx := jtext_any t A cap w.heap.size xs w2 (HT.out.keep hk2) hch2.size HS.out (HG.out.keep hk2).short (HG.out.keep hk2).num (by omega)
  have HTX := Lib.hid htx
  clear hfx htx hk2
  go_wp2_with fail
  refine HTX.out.mono ?_
  rintro e w3 ⟨rfl, hch3'⟩
  have hch3 := hch2.trans hch3'
  clear hch2 hch3' HTX
  by_cases hm : mayJ t = 0
  · have htxw : tx t = writeJ t t.length (t.length - 1) := by unfold tx; rw [if_pos hm]
    have hp1 := parseJ_write hm (by rw [← htxw]; omega)
    obtain ⟨hbm, hbw, hbs⟩ := canon_back hm
    have hkl := canon_kl (trd_kl HT.out) t.length (t.length - 1) 0
    have hcs := canon_sm HS.out t.length (t.length - 1) 0
    have hsj : sameJ t (canon t t.length (t.length - 1) 0) = true := by
      unfold sameJ
      rw [decide_eq_true hm, decide_eq_true hbm, hbs]
      rfl
    have hctx : tx (canon t t.length (t.length - 1) 0) = tx t := by
      rw [htxw, ← hbw]
      unfold tx
      rw [if_pos hbm]
    rw [← htxw] at hp1
    have hcl := (parseJ_len hp1).1
    generalize canon t t.length (t.length - 1) 0 = C at *
    generalize tx t = S at *
    rw [hm]
    obtain ⟨cc, W4, hcv, hcc, hc4, hbs4⟩ := conv_sb w3 S (by omega)
    have hcw4 := hch3.trans hc4
    have hpc := parse_ok _ cc _ _ hp1 W4 w.heap.size hcw4.size hbs4 hcc (HG.out.keep (hcw4.below (Nat.le_refl _) (fun _ h => h.elim)))
    have HPC := Lib.hid hpc
    have HCW := Lib.hid hcw4
    have HP := Lib.hid (And.intro hp1 (And.intro hbm (And.intro hkl (And.intro hcs (And.intro hsj hctx)))))
    clear hpc hcw4 hc4 hbs4 hch3 hp1 hbm hbw hbs hkl hcs hsj hctx htxw hm
    go_wp2_with fail
    refine HPC.out.mono ?_
    rintro e w5 ⟨tv, xs1, rfl, hTR, hch5⟩
    obtain ⟨A1, c1, rfl, _, hT1⟩ := hTR.rd (by omega) HP.out.2.2.1
    have hcw5 := HCW.out.trans hch5
    have hT5 := HT.out.keep (hcw5.below (Nat.le_refl _) (fun _ h => h.elim))
    have hsame := jsame_any t C A A1 cap c1 w5.heap.size xs xs1 w5 (hT5.mono hcw5.size) hT1 (Nat.le_refl _) HS.out HP.out.2.2.2.1
    rw [HP.out.2.2.2.2.1] at hsame
    have HT1 := Lib.hid hT1
    clear hTR hch5 hT1 hT5 HPC HCW hcv
    go_wp2_with fail
    refine hsame.mono ?_
    rintro e w6 ⟨rfl, hch6⟩
    have hT6 := HT1.out.keep (hch6.below (Nat.le_refl _) (fun _ h => h.elim))
    have hv6 := jvalid_any C A1 c1 w5.heap.size xs1 w6 hT6 hch6.size HP.out.2.2.2.1
    rw [decide_eq_true HP.out.2.1] at hv6
    have hcw6 := hcw5.trans hch6
    have HT6 := Lib.hid hT6
    have hsz6 := hch6.size
    clear hsame hch6 hT6 hcw5 HT1
    go_wp2_with fail
    refine hv6.mono ?_
    rintro e w7 ⟨rfl, hch7⟩
    have hT7 := HT6.out.keep (hch7.below hsz6 (fun _ h => h.elim))
    have hcw7 := hcw6.trans hch7
    have hG7 := HG.out.keep (hcw7.below (Nat.le_refl _) (fun _ h => h.elim))
    have hsz7 := Nat.le_trans hsz6 hch7.size
    have hwz : w.heap.size ≤ w7.heap.size := hcw7.size
    have ht7 := jtext_any C A1 c1 w7.heap.size xs1 w7 (hT7.mono hsz7) (Nat.le_refl _) HP.out.2.2.2.1 (hG7.short.mono hwz) (hG7.num.mono hwz) (by rw [HP.out.2.2.2.2.2]; omega)
    rw [HP.out.2.2.2.2.2, HP.out.2.1] at ht7
    have HT7 := Lib.hid hT7
    clear hv6 hch7 hT7 hcw6 hG7 HT6 hsz6
    go_wp2_with fail
    refine ht7.mono ?_
    rintro e w8 ⟨rfl, hch8⟩
    have hT8 := HT7.out.keep (hch8.below hsz7 (fun _ h => h.elim))
    have hcw8 := hcw7.trans hch8
    have hsz8 := Nat.le_trans hsz7 hch8.size
    obtain ⟨cc2, W9, hcv2, hcc2, hc9, hbs9⟩ := conv_sb w8 S (by omega)
    have hcw9 := hcw8.trans hc9
    have hpc2 := parse_ok _ cc2 _ _ HP.out.1 W9 w.heap.size hcw9.size hbs9 hcc2 (HG.out.keep (hcw9.below (Nat.le_refl _) (fun _ h => h.elim)))
    have hT9 := (hT8.keep (hc9.below hsz8 (fun _ h => h.elim))).mono (Nat.le_trans hsz8 hc9.size)
    have HPC2 := Lib.hid hpc2
    have HT9 := Lib.hid hT9
    have HCW9 := Lib.hid hcw9
    clear ht7 hch8 hT8 hcw7 hcw8 hc9 hbs9 hpc2 hT9 hcw9 hsz7 hsz8 HT7 hwz
    go_wp2_with fail
    refine HPC2.out.mono ?_
    rintro e w10 ⟨tv, xs2, rfl, hTR2, hch10⟩
    obtain ⟨A2, c2, rfl, _, hT2⟩ := hTR2.rd (by omega) HP.out.2.2.1
    have hT10 := (HT9.out.keep (hch10.below (Nat.le_refl _) (fun _ h => h.elim))).mono hch10.size
    have heq := equal_same C A1 A2 c1 c2 w10.heap.size xs1 xs2 w10 hT10 hT2 (Nat.le_refl _)
    have hcw10 := HCW9.out.trans hch10
    clear hTR2 hch10 hT2 hT10 HPC2 hcv2 HCW9 HT9
    go_wp2_with fail
    refine heq.mono ?_
    rintro e w11 ⟨rfl, hch11⟩
    have hc11 := hcw10.trans hch11
    clear heq hcw10 hch11
    go_wp2_with fail
    go_ret
    exact ⟨rfl, hc11⟩
  · have hne : (mayJ t == 0) = false := by rw [beq_eq_false_iff_ne]; exact hm
    have hne2 : (mayJ t != 0) = true := by rw [bne, hne]; rfl
    have htx0 : tx t = [] := by unfold tx; rw [if_neg hm]
    have hbl3 := hch3.below (B := w.heap.size) (Nat.le_refl _) (fun _ h => h.elim)
    have hv := jvalid_any t A cap w.heap.size xs w3 (HT.out.keep hbl3) hch3.size HS.out
    rw [decide_eq_false hm] at hv
    rw [htx0]
    generalize mayJ t = e0 at *
    clear hm hl htx0 hbl3
    go_wp2_with fail
    refine hv.mono ?_
    rintro e w4 ⟨rfl, hch4⟩
    have hc4 := hch3.trans hch4
    clear hv hch4 hch3
    go_wp2_with fail
    go_ret
    exact ⟨rfl, hc4⟩
end Go.Proofs.YtknmbfkpclacgaaDoor
