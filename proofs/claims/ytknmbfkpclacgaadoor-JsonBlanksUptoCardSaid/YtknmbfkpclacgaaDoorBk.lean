/- JsonBlanks: the walk. -/
import Derived.Test.YtknmbfkpclacgaaDoorJn
import Derived.Test.YtknmbfkpclacgaaDoorOa
import Derived.Test.YtknmbfkpclacgaaDoorPc
import Derived.Test.YtknmbfkpclacgaaDoorWd
import Derived.Test.YtknmbfkpclacgaaDoorEq
set_option linter.unusedSimpArgs false
namespace Go.Proofs.YtknmbfkpclacgaaDoor
open Go.RowKit

theorem wideGo_len (b : Nat → List UInt8) (hb : ∀ k, (b k).length ≤ 2) : ∀ (x : List UInt8) (ins esc : Bool) (k : Nat), (wideGo b x ins esc k).1.length ≤ 5 * x.length
  | [], _, _, _ => by simp [wideGo]
  | c :: r, ins, esc, k => by
    have ih := fun k => wideGo_len b hb r (nIn c ins esc) (nEsc c ins esc) k
    have h1 := hb k
    have h2 := hb (k + 1)
    rw [wideGo]
    split
    · have := ih (k + 2)
      simp [mkW]
      omega
    · have := ih k
      simp
      omega
theorem wideL_len (b : Nat → List UInt8) (hb : ∀ k, (b k).length ≤ 2) (s : List UInt8) : (wideL b s).length ≤ 5 * s.length + 4 := by
  have h1 := wideGo_len b hb s false false 1
  have h2 := hb 0
  have h3 := hb (wideGo b s false false 1).2
  unfold wideL
  simp
  omega
theorem canonL_len (g : Int → Nat → List JV) : ∀ (ks : List Int) (base : Nat), (canonL g ks base).2.length = ks.length
  | [], _ => rfl
  | k :: ks, base => by simp [canonL, canonL_len g ks]
theorem canonL_mem (g : Int → Nat → List JV) {P : JV → Prop} (h : ∀ k base, ∀ v ∈ g k base, P v) : ∀ (ks : List Int) (base : Nat), ∀ v ∈ (canonL g ks base).1, P v
  | [], _, v, hv => by simp [canonL] at hv
  | k :: ks, base, v, hv => by
    simp only [canonL, List.mem_append] at hv
    rcases hv with hv | hv
    · exact h _ _ v hv
    · exact canonL_mem g h ks _ v hv
theorem canon_kl {t : List JV} (h : ∀ v ∈ t, KL v) : ∀ (f i base : Nat), ∀ v ∈ canon t f i base, KL v
  | 0, _, _, v, hv => by simp [canon] at hv
  | f + 1, i, base, v, hv => by
    have ih := canon_kl h f
    have hk : KL (t.getD i jNull) := by
      rcases Nat.lt_or_ge i t.length with hi | hi
      · rw [List.getD_eq_getElem?_getD, List.getElem?_eq_getElem hi]
        exact h _ (List.getElem_mem hi)
      · rw [List.getD_eq_getElem?_getD, List.getElem?_eq_none hi]
        exact ⟨by simp [jNull], by simp [jNull]⟩
    simp only [canon] at hv
    split at hv
    · rcases List.mem_append.1 hv with hv | hv
      · exact canonL_mem _ (fun k base => ih k.toNat base) _ _ v hv
      · simp only [List.mem_singleton] at hv
        subst hv
        exact ⟨by simp only [jList, canonL_len]; exact hk.1, by simp [jList]⟩
    · split at hv
      · rcases List.mem_append.1 hv with hv | hv
        · exact canonL_mem _ (fun k base => ih k.toNat base) _ _ v hv
        · simp only [List.mem_singleton] at hv
          subst hv
          exact ⟨by simp only [jObj, canonL_len]; exact hk.1, by simp only [jObj]; exact hk.2⟩
      · simp only [List.mem_singleton] at hv
        subst hv
        exact hk
theorem trd_kl {w : World} {B : Nat} {A : Option Addr} {xs : List VC} {t : List JV} (h : TRd w B A xs t) : ∀ v ∈ t, KL v := fun v hv => by
  obtain ⟨i, hi, rfl⟩ := List.getElem_of_mem hv
  exact ⟨(h.vals i hi).kl, (h.vals i hi).nl⟩
set_option maxRecDepth 100000 in
set_option maxHeartbeats 4000000 in
theorem blanks_walk (t : List JV) (A : Option Addr) (cap : Nat) (xs : List VC) (ks : List Int) (Ab : Option Addr) (cb : Nat) (w : World) (hT : TRd w w.heap.size A xs t) (hs : Sm t) (hl : (tx t).length ≤ 20000000) (hG : Gs w w.heap.size) (hr : Ro w w.heap.size Ab (ints ks)) (hks : ks.length ≤ 1000000000) :
    Calls Tryd.prog 5 #[.slice A t.length cap, .slice Ab ks.length cb] w fun e w' => e = .returned (.bool true) ∧ Chg (fun _ => False) w w' := by
  have HG := Lib.hid hG
  have HT := Lib.hid hT
  have HS := Lib.hid hs
  have HRO := Lib.hid hr
  have htl := hT.tl
  have hfx := fixed_any w w.heap.size (Nat.le_refl _) hG
  clear hG hT hs hr
  go_enter Tryd.func5, Tryd.ntmps5
  go_wp2_with fail
  refine hfx.mono ?_
  rintro e w2 ⟨rfl, hch2⟩
  have hk2 := hch2.below (Nat.le_refl _) (fun _ h => h.elim)
  have htx := jtext_any t A cap w.heap.size xs w2 (HT.out.keep hk2) hch2.size HS.out (HG.out.keep hk2).short (HG.out.keep hk2).num (by omega)
  have HTX := Lib.hid htx
  clear hfx htx hk2
  go_wp2_with fail
  refine HTX.out.mono ?_
  rintro e w3 ⟨rfl, hch3'⟩
  have hch3 := hch2.trans hch3'
  clear hch2 hch3' HTX
  by_cases hm : mayJ t = 0
  · have htxw : tx t = writeJ t t.length (t.length - 1) := by unfold tx; rw [if_pos hm]
    rw [htxw] at hl ⊢
    rw [hm]
    have hp1 := fun h => parseJ_write hm h
    have hww := wideGo_write (bW ks) t t.length (t.length - 1) 1
    have hp2 := fun n h => parseJ_wide hm (bW_ok ks) 1 0 n h
    have hkl := canon_kl (trd_kl HT.out) t.length (t.length - 1) 0
    rw [← hww] at hp2
    have hwl := wideL_len (bW ks) (bW_len ks) (writeJ t t.length (t.length - 1))
    have hp2' := hp2 (wideGo (bW ks) (writeJ t t.length (t.length - 1)) false false 1).2
    change (wideL (bW ks) (writeJ t t.length (t.length - 1))).length ≤ 268435456 → parseJ (wideL (bW ks) (writeJ t t.length (t.length - 1))) = _ at hp2'
    generalize writeJ t t.length (t.length - 1) = S at *
    generalize canon t t.length (t.length - 1) 0 = C at *
    clear hp2 hww htxw hm
    have HP := Lib.hid (And.intro hp1 (And.intro hp2' hkl))
    have HWL := Lib.hid hwl
    clear hp1 hp2' hkl hwl
    by_cases hlong : 20000 < S.length
    · go_wp2_with fail
      go_ret
      exact ⟨rfl, hch3⟩
    · have hkw := hch3.below (B := w.heap.size) (Nat.le_refl _) (fun _ h => h.elim)
      have hwd := wide_any S (by omega) ks Ab cb w.heap.size w3 (HRO.out.keep hkw) hch3.size hks
      have HWD := Lib.hid hwd
      clear hwd hkw
      go_wp2_with fail
      refine HWD.out.mono ?_
      rintro e w4 ⟨rfl, hch4'⟩
      have hch4 := hch3.trans hch4'
      have hwl := HWL.out
      obtain ⟨cc, W2, hcv, hcc, hc2, hbs⟩ := conv_sb w4 (wideL (bW ks) S) (by omega)
      have hcw2 := hch4.trans hc2
      have hC1 := HP.out.2.1 (by omega)
      have hpc := parse_ok _ cc _ _ hC1 W2 w.heap.size hcw2.size hbs hcc (HG.out.keep (hcw2.below (Nat.le_refl _) (fun _ h => h.elim)))
      have hCl := (parseJ_len hC1).1
      have HPC := Lib.hid hpc
      have HCW := Lib.hid hcw2
      have HC1 := Lib.hid hC1
      generalize wideL (bW ks) S = D at *
      have hDl : D.length ≤ 100004 := by omega
      have HDL := Lib.hid hDl
      clear hpc hcw2 hc2 hbs hch4' hch3 hch4 HWD hC1 HRO hwl
      go_wp2_with fail
      refine HPC.out.mono ?_
      rintro e w5 ⟨tv, xs1, rfl, hTR, hch5⟩
      obtain ⟨A1, c1, rfl, _, hT1⟩ := hTR.rd (by omega) HP.out.2.2
      have hcw5 := HCW.out.trans hch5
      have hSl : S.length ≤ 20000 := by omega
      obtain ⟨cc2, W6, hcv2, hcc2, hc6, hbs2⟩ := conv_sb w5 S (by omega)
      have hcw6 := hcw5.trans hc6
      have hC2 := HP.out.1 (by omega)
      have hpc2 := parse_ok _ cc2 _ _ hC2 W6 w.heap.size hcw6.size hbs2 hcc2 (HG.out.keep (hcw6.below (Nat.le_refl _) (fun _ h => h.elim)))
      have HPC2 := Lib.hid hpc2
      have HCW6 := Lib.hid hcw6
      have hT6 := hT1.keep (hc6.below (Nat.le_refl _) (fun _ h => h.elim))
      have HT6 := Lib.hid (And.intro hT6 hc6.size)
      clear hpc2 hcw6 hc6 hbs2 hcw5 hT1 hT6 hTR hch5 hC2 HPC HCW hcv
      go_wp2_with fail
      refine HPC2.out.mono ?_
      rintro e w7 ⟨tv, xs2, rfl, hTR2, hch7⟩
      obtain ⟨A2, c2, rfl, _, hT2⟩ := hTR2.rd (by omega) HP.out.2.2
      have hT7 := (HT6.out.1.keep (hch7.below HT6.out.2 (fun _ h => h.elim))).mono (Nat.le_trans HT6.out.2 hch7.size)
      have heq := equal_same C A1 A2 c1 c2 w7.heap.size xs1 xs2 w7 hT7 hT2 (Nat.le_refl _)
      have hcw7 := HCW6.out.trans hch7
      clear hT7 hT2 hTR2 hch7 HPC2 hcv2
      go_wp2_with fail
      refine heq.mono ?_
      rintro e w8 ⟨rfl, hch8⟩
      have hcw8 := hcw7.trans hch8
      clear heq hcw7 hch8
      go_wp2_with fail
      go_ret
      exact ⟨rfl, hcw8⟩
  · have hne : (mayJ t == 0) = false := by rw [beq_eq_false_iff_ne]; exact hm
    have hne2 : (mayJ t != 0) = true := by rw [bne, hne]; rfl
    generalize mayJ t = e0 at *
    clear hm hl
    generalize tx t = S at *
    go_wp2_with fail
    go_ret
    exact ⟨rfl, hch3⟩
end Go.Proofs.YtknmbfkpclacgaaDoor
