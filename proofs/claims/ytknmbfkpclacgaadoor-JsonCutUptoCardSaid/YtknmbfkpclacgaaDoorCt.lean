/- JsonCut: the walk. -/
import Derived.Test.YtknmbfkpclacgaaDoorJn
import Derived.Test.YtknmbfkpclacgaaDoorPe
import Derived.Test.YtknmbfkpclacgaaDoorOa
set_option linter.unusedSimpArgs false
namespace Go.Proofs.YtknmbfkpclacgaaDoor
open Go.RowKit

/-- where the text is cut -/
def cutAt (c : Int) (n : Nat) : Nat := (min (max c 0) ((n : Int) - 1)).toNat
set_option maxRecDepth 100000 in
set_option maxHeartbeats 4000000 in
theorem cut_walk (t : List JV) (A : Option Addr) (cap : Nat) (xs : List VC) (c : Int) (w : World) (hT : TRd w w.heap.size A xs t) (hs : Sm t) (hl : (tx t).length ≤ 20000000) (hG : Gs w w.heap.size) :
    Calls Tryd.prog 4 #[.slice A t.length cap, .int .i64 c] w fun e w' => e = .returned (.bool true) ∧ Chg (fun _ => False) w w' := by
  have HG := Lib.hid hG
  have HT := Lib.hid hT
  have HS := Lib.hid hs
  have htl := hT.tl
  have hfx := fixed_any w w.heap.size (Nat.le_refl _) hG
  clear hG hT hs
  go_enter Tryd.func4, Tryd.ntmps4
  go_wp2_with fail
  refine hfx.mono ?_
  rintro e w2 ⟨rfl, hch2⟩
  have hk2 := hch2.below (Nat.le_refl _) (fun _ h => h.elim)
  have htx := jtext_any t A cap w.heap.size xs w2 (HT.out.keep hk2) hch2.size HS.out (HG.out.keep hk2).short (HG.out.keep hk2).num (by omega)
  have HTX := Lib.hid htx
  clear hfx htx hk2
  go_wp2_with fail
  refine HTX.out.mono ?_
  rintro e w3 ⟨rfl, hch3'⟩
  have hch3 := hch2.trans hch3'
  clear hch2 hch3' HTX
  by_cases hm : mayJ t = 0
  · obtain ⟨hGd, hpos, hD⟩ := good_of_may hm
    have htxw : tx t = writeJ t t.length (t.length - 1) := by unfold tx; rw [if_pos hm]
    rw [htxw] at hl ⊢
    rw [hm]
    obtain ⟨b, oo, Ak, ck, An, cn, hA, hbB, c0, c1, c2, c3, c4, c5, hkr, hnr, hkl, hnl⟩ := (HT.out.keep (hch3.below (Nat.le_refl _) (fun _ h => h.elim))).at (t.length - 1) (by omega)
    subst hA
    have hcut := fun h => cut_text hm h (by omega)
    obtain ⟨m, hm1⟩ : ∃ m, t.length = m + 1 := ⟨t.length - 1, by omega⟩
    obtain ⟨X, lc, hX, _⟩ := writeJ_last hGd (t.length - 1) m (by omega)
    rw [← hm1] at hX
    have hSpos : 0 < (writeJ t t.length (t.length - 1)).length := by rw [hX]; simp
    generalize hkk : t[t.length - 1].kind = kk at *
    have hcut2 : kk ≠ 3 → _ := fun h => hcut (fun _ => by rw [hkk]; exact h)
    generalize writeJ t t.length (t.length - 1) = S at *
    have HCUT := Lib.hid hcut2
    have hm2 : t.length - 1 = m := by omega
    rw [hm2] at c0
    have hm1' := Lib.hid hm1
    have hmb : m ≤ 1000000000000 := by omega
    rw [hm1]
    clear hcut hcut2 hm hGd hD htxw hX hkk c1 c2 c3 c4 c5 hkr hnr hkl hnl hm1 hm2 HT
    by_cases h3 : kk = 3
    · subst h3
      go_wp2_with fail
      go_ret
      exact ⟨rfl, hch3⟩
    · have hk3 : (kk == 3) = false := by rw [beq_eq_false_iff_ne]; exact h3
      have hc3 := HCUT.out h3
      have HC3 := Lib.hid hc3
      clear hc3 HCUT h3
      obtain ⟨k, hk, hks⟩ : ∃ k : Nat, min (max c 0) ((S.length : Int) - 1) = (k : Int) ∧ k < S.length := ⟨(min (max c 0) ((S.length : Int) - 1)).toNat, by omega, by omega⟩
      obtain ⟨f, hf, hf1, hf2⟩ := HC3.out k hks
      have htk : (S.take k).length = k := by rw [List.length_take]; omega
      obtain ⟨cc, W2, hcv, hcc, hc2, hbs⟩ := conv_sb w3 (S.take k) (by omega)
      have hcw2 := hch3.trans hc2
      have hpc := parse_bad _ cc (S.take k) f hf W2 w.heap.size hcw2.size hbs hcc (HG.out.keep (hcw2.below (Nat.le_refl _) (fun _ h => h.elim)))
      have hex : (⟨S.toArray⟩ : ByteArray).extract 0 (min (max c 0) ((S.length : Int) - 1)).toNat = ⟨(S.take k).toArray⟩ := by
        rw [hk, Int.toNat_natCast]
        apply ByteArray.ext
        simp
      rw [← hex] at hcv
      have hle : (f.1 : Int) ≤ min (max c 0) ((S.length : Int) - 1) := by omega
      have hfe : (f.2 != 0) = true := by simpa using hf2
      have HPC := Lib.hid hpc
      have HCW := Lib.hid hcw2
      generalize (S.take k).length = tl at *
      clear hpc hcw2 hc2 hbs hf hf2 hf1 hk htk hex HC3
      go_wp2_with fail
      refine HPC.out.mono ?_
      rintro e w4 ⟨rfl, hch4⟩
      clear hcv HPC
      go_wp2_with fail
      go_ret
      exact ⟨rfl, HCW.out.trans hch4⟩
  · have hne : (mayJ t == 0) = false := by rw [beq_eq_false_iff_ne]; exact hm
    have hne2 : (mayJ t != 0) = true := by rw [bne, hne]; rfl
    generalize mayJ t = e0 at *
    clear hm hl
    generalize tx t = S at *
    go_wp2_with fail
    go_ret
    exact ⟨rfl, hch3⟩
end Go.Proofs.YtknmbfkpclacgaaDoor
