/- json.Same: the walk. -/
import Derived.Test.YtknmbfkpclacgaaDoorSe
import Derived.Test.YtknmbfkpclacgaaDoorTx
set_option linter.unusedSimpArgs false
namespace Go.Proofs.YtknmbfkpclacgaaDoor
open Go.RowKit

/-- what Same answers -/
def sameJ (t u : List JV) : Bool := decide (mayJ t = 0) && (decide (mayJ u = 0) && sameGo t u t.length (t.length - 1) (u.length - 1))
set_option maxRecDepth 100000 in
set_option maxHeartbeats 4000000 in
theorem jsame_any (t u : List JV) (A1 A2 : Option Addr) (c1 c2 B : Nat) (xs1 xs2 : List VC) (w : World) (hT : TRd w B A1 xs1 t) (hU : TRd w B A2 xs2 u) (hB : B ≤ w.heap.size) (hs : Sm t) (hs2 : Sm u) :
    Calls Tryd.prog 15 #[.slice A1 t.length c1, .slice A2 u.length c2] w fun e w' => e = .returned (.bool (sameJ t u)) ∧ Chg (fun _ => False) w w' := by
  have HT := Lib.hid hT
  have HU := Lib.hid hU
  have htl := hT.tl
  have hul := hU.tl
  have hv1 := jvalid_any t A1 c1 B xs1 w hT hB hs
  have HS2 := Lib.hid hs2
  clear hT hU hs hs2
  go_enter Tryd.func15, Tryd.ntmps15
  go_wp2_with fail
  refine hv1.mono ?_
  rintro e w2 ⟨rfl, hch2⟩
  clear hv1
  by_cases hm : mayJ t = 0
  · rw [decide_eq_true hm]
    have hv2 := jvalid_any u A2 c2 B xs2 w2 (HU.out.keep (hch2.below hB (fun _ h => h.elim))) (Nat.le_trans hB hch2.size) HS2.out
    have HM := Lib.hid hm
    clear hm
    go_wp2_with fail
    refine hv2.mono ?_
    rintro e w3 ⟨rfl, hch3'⟩
    have hch3 := hch2.trans hch3'
    clear hv2 hch3' hch2
    by_cases hm2 : mayJ u = 0
    · rw [decide_eq_true hm2]
      obtain ⟨hG1, hp1, _⟩ := good_of_may HM.out
      obtain ⟨hG2, hp2, _⟩ := good_of_may hm2
      have hbl := hch3.below hB (fun _ h => h.elim)
      have hsm := same_any t u A1 A2 c1 c2 B xs1 xs2 hG1.used hG2.used hG1.kids hG2.kids t.length (t.length - 1) (u.length - 1) w3 (HT.out.keep hbl) (HU.out.keep hbl) (Nat.le_trans hB hch3.size) (by omega) (by omega) (by omega)
      have e1 : ((t.length - 1 : Nat) : Int) = (t.length : Int) - 1 := by omega
      have e2 : ((u.length - 1 : Nat) : Int) = (u.length : Int) - 1 := by omega
      rw [e1, e2] at hsm
      have hsj : sameJ t u = sameGo t u t.length (t.length - 1) (u.length - 1) := by
        unfold sameJ
        rw [decide_eq_true HM.out, decide_eq_true hm2]
        rfl
      rw [← hsj] at hsm
      obtain ⟨r, hr⟩ : ∃ r, sameJ t u = r := ⟨_, rfl⟩
      rw [hr] at hsm
      have HR := Lib.hid hr
      clear hsj hG1 hG2 e1 e2 hbl hm2 hr
      go_wp2_with fail
      refine hsm.mono ?_
      rintro e w4 ⟨rfl, hch4⟩
      have hc4 := hch3.trans hch4
      clear hsm hch4 hch3
      go_wp2_with fail
      go_ret
      exact ⟨by rw [HR.out]; rfl, hc4⟩
    · rw [decide_eq_false hm2]
      have hsj : sameJ t u = false := by
        unfold sameJ
        rw [decide_eq_false hm2]
        simp
      have HJ := Lib.hid hsj
      clear hm2 hsj
      go_wp2_with fail
      go_ret
      exact ⟨by rw [HJ.out]; rfl, hch3⟩
  · rw [decide_eq_false hm]
    have hsj : sameJ t u = false := by
      unfold sameJ
      rw [decide_eq_false hm]
      simp
    have HJ := Lib.hid hsj
    clear hm hsj
    go_wp2_with fail
    go_ret
    exact ⟨by rw [HJ.out]; rfl, hch2⟩
end Go.Proofs.YtknmbfkpclacgaaDoor
