import Derived.Test.YtknmbfkpclacgaaGreatDoorMPa28
import Derived.Laws.AppendOwnNone
/- JsonParses: the walk. -/
set_option linter.unusedSimpArgs false
namespace Go.Proofs.YtknmbfkpclacgaaGreatDoor
open Go.RowKit

/-! ### the lengths of the rows of a parsed tree -/
def KLl (l : List UInt8) (v : JV) : Prop := v.kids.length ≤ l.length ∧ v.names.length ≤ l.length
theorem KLl.app {l : List UInt8} {t : List JV} {v : JV} (h : ∀ u ∈ t, KLl l u) (hv : KLl l v) : ∀ u ∈ t ++ [v], KLl l u := by
  intro u hu
  rcases List.mem_append.1 hu with h' | h'
  · exact h u h'
  · rw [List.mem_singleton.1 h']; exact hv
theorem kl_all (l : List UInt8) : ∀ k : Nat,
    (∀ i dp t p j t', valueJ l k i dp t = .ok (p, j, t') → (∀ u ∈ t, KLl l u) → ∀ u ∈ t', KLl l u) ∧
    (∀ i dp t ks p j t', listJ l k i dp t ks = .ok (p, j, t') → ks.length ≤ i → (∀ u ∈ t, KLl l u) → ∀ u ∈ t', KLl l u) ∧
    (∀ i dp t ks ns p j t', objectJ l k i dp t ks ns = .ok (p, j, t') → ks.length ≤ i → ns.length ≤ i → (∀ u ∈ t, KLl l u) → ∀ u ∈ t', KLl l u) := by
  intro k
  induction k with
  | zero =>
    refine ⟨fun i dp t p j t' h => ?_, fun i dp t ks p j t' h => ?_, fun i dp t ks ns p j t' h => ?_⟩
    · simp [valueJ] at h
    · simp [listJ] at h
    · simp [objectJ] at h
  | succ k ih =>
    obtain ⟨ihv, ihl, iho⟩ := ih
    refine ⟨fun i dp t p j t' h ht => ?_, fun i dp t ks p j t' h hks ht => ?_, fun i dp t ks ns p j t' h hks hns ht => ?_⟩
    · simp only [valueJ] at h
      split at h
      · split at h
        · simp at h
        · exact iho _ _ _ _ _ _ _ _ h (by simp) (by simp) ht
      · split at h
        · split at h
          · simp at h
          · exact ihl _ _ _ _ _ _ _ h (by simp) ht
        · split at h
          · split at h
            · simp at h
            · simp only [Except.ok.injEq, Prod.mk.injEq] at h
              obtain ⟨rfl, rfl, rfl⟩ := h
              exact KLl.app ht ⟨by simp [jStr], by simp [jStr]⟩
          · split at h
            · split at h
              · simp at h
              · simp only [Except.ok.injEq, Prod.mk.injEq] at h
                obtain ⟨rfl, rfl, rfl⟩ := h
                exact KLl.app ht ⟨by simp [jNum], by simp [jNum]⟩
            · split at h
              · split at h
                · simp at h
                · simp only [Except.ok.injEq, Prod.mk.injEq] at h
                  obtain ⟨rfl, rfl, rfl⟩ := h
                  exact KLl.app ht ⟨by simp [jBool], by simp [jBool]⟩
              · split at h
                · split at h
                  · simp at h
                  · simp only [Except.ok.injEq, Prod.mk.injEq] at h
                    obtain ⟨rfl, rfl, rfl⟩ := h
                    exact KLl.app ht ⟨by simp [jBool], by simp [jBool]⟩
                · split at h
                  · split at h
                    · simp at h
                    · simp only [Except.ok.injEq, Prod.mk.injEq] at h
                      obtain ⟨rfl, rfl, rfl⟩ := h
                      exact KLl.app ht ⟨by simp [jNull], by simp [jNull]⟩
                  · simp at h
    · have hs := skip_ge l i
      simp only [listJ] at h
      split at h
      · rename_i hp
        simp only [Except.ok.injEq, Prod.mk.injEq] at h
        obtain ⟨rfl, rfl, rfl⟩ := h
        have := pk_nz (by decide) hp
        exact KLl.app ht ⟨by simp [jList]; omega, by simp [jList]⟩
      · split at h
        · simp at h
        · split at h
          · simp at h
          · rename_i q j' t2 hv
            obtain ⟨h1, h2, _, h5⟩ := (grew_all l k).1 _ _ _ _ _ _ hv
            have hb : skip l i ≤ (if ks = [] then skip l i else skip l i + 1) := by split <;> omega
            exact ihl _ _ _ _ _ _ _ h (by simp; omega) (ihv _ _ _ _ _ _ hv ht)
    · have hs := skip_ge l i
      simp only [objectJ] at h
      split at h
      · rename_i hp
        simp only [Except.ok.injEq, Prod.mk.injEq] at h
        obtain ⟨rfl, rfl, rfl⟩ := h
        have := pk_nz (by decide) hp
        exact KLl.app ht ⟨by simp [jObj]; omega, by simp [jObj]; omega⟩
      · have hb : skip l i ≤ (if ks = [] then skip l i else skip l (skip l i + 1)) := by
          have hs3 := skip_ge l (skip l i + 1)
          split <;> omega
        generalize (if ks = [] then skip l i else skip l (skip l i + 1)) = j1 at h hb
        split at h
        · simp at h
        · split at h
          · simp at h
          · split at h
            · simp at h
            · rename_i s j2 htx
              split at h
              · simp at h
              · split at h
                · simp at h
                · split at h
                  · simp at h
                  · rename_i q j' t2 hv
                    have hj := textJ_ok htx
                    have hs2 := skip_ge l j2
                    obtain ⟨h1, h2, _, h5⟩ := (grew_all l k).1 _ _ _ _ _ _ hv
                    exact iho _ _ _ _ _ _ _ _ h (by simp; omega) (by simp; omega) (ihv _ _ _ _ _ _ hv ht)
theorem parseJ_kl {l : List UInt8} {t : List JV} (h : parseJ l = .ok t) : ∀ v ∈ t, KL v := by
  have hlen := parseJ_len h
  unfold parseJ at h
  split at h
  · cases h
  · split at h
    · cases h
    · rename_i hv
      split at h
      · cases h
      · simp only [Except.ok.injEq] at h
        subst h
        intro v hv'
        have := (kl_all l _).1 _ _ _ _ _ _ hv (by simp) v hv'
        exact ⟨by have := this.1; omega, by have := this.2; omega⟩

/-! ### a copy of the bytes -/
theorem own_bs {w : World} {base : Nat} {e : TypeId} {n : Nat} {v : Value} {l : List UInt8} (h : w.ownsRow base e 1 v n (Lib.byteCells l)) (hl : l.length ≤ 140737488355328) : ∃ A c, v = .slice A l.length c ∧ Bs w w.heap.size A l ∧ l.length ≤ c := by
  obtain ⟨A, c, e1, r, hc⟩ := own_ro h
  have hn : n = l.length := by have := h.1; rw [Lib.byteCells_length] at this; omega
  subst hn
  refine ⟨A, c, e1, ⟨hl, fun hp => ?_⟩, hc⟩
  obtain ⟨b, o, hA, hB, hcell⟩ := r (by rw [Lib.byteCells_length]; exact hp)
  refine ⟨b, o, hA, hB, fun j hj => hcell j _ ?_⟩
  simp only [Lib.byteCells, List.getElem?_map, pk, List.getD_eq_getElem?_getD]
  rw [List.getElem?_eq_getElem hj]
  rfl
theorem bs_cells {w : World} {B : Nat} {A : Addr} {l : List UInt8} (h : Bs w B (some A) l) : ∀ q u, (Lib.byteCells l)[q]? = some u → w.cell? (A.add q) = some u := by
  intro q u hu
  have hq : q < l.length := by
    have := (List.getElem?_eq_some_iff.1 hu).1
    rw [Lib.byteCells_length] at this; exact this
  obtain ⟨b, o, hA, hB, hc⟩ := h.cells (by omega)
  obtain rfl := Option.some.inj hA
  rw [addr_add_plain, hc q hq, ← hu]
  simp only [Lib.byteCells, List.getElem?_map, pk, List.getD_eq_getElem?_getD]
  rw [List.getElem?_eq_getElem hq]
  rfl
theorem grown_chg {w w' : World} {r : Option Nat} (h : w.grownBy w' r) (hr : ∀ k, r = some k → w.heap.size ≤ k) : Chg (fun _ => False) w w' :=
  Chg.of_below' ((Below.refl _ w).grown h (Nat.le_refl _) hr)
/-- []byte(s), as Parse is handed it. -/
theorem conv_sb (w : World) (l : List UInt8) (hl : l.length ≤ 140737488355328) : ∃ cc W, (convert 9 22 (.string ⟨l.toArray⟩)).run Tryz.prog w = .ok (.slice (some ⟨w.heap.size, 0, none⟩) l.length cc) W ∧ l.length ≤ cc ∧ Chg (fun _ => False) w W ∧ Bs W W.heap.size (some ⟨w.heap.size, 0, none⟩) l := by
  have hsz : (⟨l.toArray⟩ : ByteArray).size = l.length := by show l.toArray.size = _; simp
  have hcv := run_bytes_of_string (P := Tryz.prog) w 9 22 5 ⟨l.toArray⟩ Tryz.underlying9 Tryz.underlying22 Tryz.underlying5
  rw [hsz] at hcv
  refine ⟨_, _, hcv, grownCap_ge w l.length 0 _, ((Chg.refl _ w).drew).alloc _, hl, fun _ => ⟨w.heap.size, 0, rfl, ?_, fun j hj => ?_⟩⟩
  · rw [World.size_alloc]; show w.heap.size < w.heap.size + 1; omega
  · have h := heap_alloc_new w.drew (.cells (bytesRow ⟨l.toArray⟩ (grownCap w l.length 0 5)) 5 ((bytesRow ⟨l.toArray⟩ (grownCap w l.length 0 5)).size, (bytesRow ⟨l.toArray⟩ (grownCap w l.length 0 5)).size + 1))
    rw [Nat.zero_add, cell_of_row _ w.heap.size j _ _ _ h, bytesRow_at _ _ _ (by simpa using hj)]
    simp [pk, List.getD_eq_getElem?_getD, hj]

/-- The three ends that the law compares. -/
theorem parses_end (l : List UInt8) (A : Option Addr) (cap : Nat) (A2 : Option Addr) (cap2 : Nat) (w : World) (B : Nat) (hBw : B ≤ w.heap.size) (hG : Gs w B) (hb : Bs w w.heap.size A l) (hcap : l.length ≤ cap) (hb2 : Bs w w.heap.size A2 l) (hcap2 : l.length ≤ cap2) :
    Calls Tryz.prog 18 #[.slice A2 l.length cap2] w fun e1 w1 => ∃ B1 n c1 p f, e1 = .returned (.tuple #[.slice B1 n c1, .int .i64 p, .int .i64 f]) ∧ Chg (fun _ => False) w w1 ∧
      Calls Tryz.prog 19 #[.slice A l.length cap] w1 fun e2 w2 => ∃ B2 c2, e2 = .returned (.tuple #[.slice B2 n c2, .int .i64 p, .int .i64 f]) ∧ Chg (fun _ => False) w w2 ∧
        Calls Tryz.prog 20 #[.slice B1 n c1, .slice B2 n c2] w2 fun e3 w3 => e3 = .returned (.bool true) ∧ Chg (fun _ => False) w w3 := by
  have hne : TRd w w.heap.size none [] [] := ⟨fun hp => by simp [flat] at hp, rfl, by simp, fun i hi => by simp at hi⟩
  refine (parse_any A2 cap2 l w hb2 hcap2 (hG.letters.mono hBw) (hG.bad.mono hBw)).mono ?_
  intro e1 w1 h1
  have hcall := rparse_any A cap l w1
  unfold PPost at h1
  cases hp : parseJ l with
  | error f =>
    rw [hp] at h1
    obtain ⟨rfl, hc1⟩ := h1
    refine ⟨none, 0, 0, _, _, rfl, hc1, (hcall ((hb.keep (hc1.below (Nat.le_refl _) fun _ h => h.elim)).mono hc1.size) hcap).mono ?_⟩
    intro e2 w2 h2
    unfold PPost at h2
    rw [hp] at h2
    obtain ⟨rfl, hc2⟩ := h2
    refine ⟨none, 0, rfl, hc1.trans hc2, ?_⟩
    have hk := hne.keep ((hc1.trans hc2).below (Nat.le_refl _) fun _ h => h.elim)
    refine (equal_same [] none none 0 0 w.heap.size [] [] w2 hk hk (hc1.trans hc2).size).mono ?_
    rintro e w3 ⟨rfl, hc3⟩
    exact ⟨rfl, (hc1.trans hc2).trans hc3⟩
  | ok t =>
    have hkl := parseJ_kl hp
    have htl := parseJ_len hp
    rw [hp] at h1
    obtain ⟨tv, xs, rfl, hT1, hc1⟩ := h1
    obtain ⟨B1, c1, rfl, _, hR1⟩ := hT1.rd (by omega) hkl
    refine ⟨B1, t.length, c1, 0, 0, rfl, hc1, (hcall ((hb.keep (hc1.below (Nat.le_refl _) fun _ h => h.elim)).mono hc1.size) hcap).mono ?_⟩
    intro e2 w2 h2
    unfold PPost at h2
    rw [hp] at h2
    obtain ⟨tv2, xs2, rfl, hT2, hc2⟩ := h2
    obtain ⟨B2, c2, rfl, _, hR2⟩ := hT2.rd (by omega) hkl
    refine ⟨B2, c2, rfl, hc1.trans hc2, ?_⟩
    have hk := hR1.keep (hc2.below (Nat.le_refl _) fun _ h => h.elim)
    refine (equal_same t B1 B2 c1 c2 w2.heap.size xs xs2 w2 (hk.mono hc2.size) hR2 (Nat.le_refl _)).mono ?_
    rintro e w3 ⟨rfl, hc3⟩
    exact ⟨rfl, (hc1.trans hc2).trans hc3⟩

set_option maxRecDepth 100000 in
set_option maxHeartbeats 8000000 in
theorem parses_walk (A : Option Addr) (cap : Nat) (l : List UInt8) (w : World) (hb : Bs w w.heap.size A l) (hcap : l.length ≤ cap) (hnil : A = none → cap = 0) (hG : Gs w w.heap.size) (hlen : l.length ≤ 140737488355327) :
    Calls Tryz.prog 3 #[.slice A l.length cap] w fun e w' => e = .returned (.bool true) ∧ Chg (fun _ => False) w w' := by
  have hfx := fixed_any w w.heap.size (Nat.le_refl _) hG
  obtain ⟨i0, hi, hii⟩ := Option.map_eq_some_iff.1 Tryz.infoByte
  simp only [Prod.mk.injEq] at hii
  obtain ⟨hz0, hz1, hz2⟩ := hii
  have H0 := Lib.hid (And.intro hb hG)
  have HI := Lib.hid (And.intro hi (And.intro hz0 (And.intro hz1 hz2)))
  clear hb hG hi hz0 hz1 hz2
  go_enter Tryz.func3, Tryz.ntmps3
  go_wp2_with fail
  refine hfx.mono ?_
  rintro e w1 ⟨rfl, hc1⟩
  have HC1 := Lib.hid hc1
  clear hc1 hfx
  have hfin : ∀ (v' : Value) (w2 : World), w2.ownsRow w.heap.size 5 1 v' l.length (Lib.byteCells l) → Chg (fun _ => False) w w2 → ∃ A2 cap2, v' = .slice A2 l.length cap2 ∧
      Calls Tryz.prog 18 #[.slice A2 l.length cap2] w2 fun e1 w1 => ∃ B1 n c1 p f, e1 = .returned (.tuple #[.slice B1 n c1, .int .i64 p, .int .i64 f]) ∧ Chg (fun _ => False) w2 w1 ∧
        Calls Tryz.prog 19 #[.slice A l.length cap] w1 fun e2 w3 => ∃ B2 c2, e2 = .returned (.tuple #[.slice B2 n c2, .int .i64 p, .int .i64 f]) ∧ Chg (fun _ => False) w2 w3 ∧
          Calls Tryz.prog 20 #[.slice B1 n c1, .slice B2 n c2] w3 fun e3 w4 => e3 = .returned (.bool true) ∧ Chg (fun _ => False) w2 w4 := by
    intro v' w2 hown hc
    obtain ⟨A2, c2, rfl, hb2, hc2⟩ := own_bs hown (by omega)
    exact ⟨A2, c2, rfl, parses_end l A cap A2 c2 w2 w.heap.size hc.size (H0.out.2.keep (hc.below (Nat.le_refl _) fun _ h => h.elim)) ((H0.out.1.keep (hc.below (Nat.le_refl _) fun _ h => h.elim)).mono hc.size) hcap hb2 hc2⟩
  have HF := Lib.hid hfin
  clear hfin
  have hal := HC1.out.alloc (.cells #[] 5)
  have hmade := World.ownsRow_made (base := w.heap.size) (e := 5) (size := 1) w1 #[] 0 HC1.out.size (by decide) rfl
  have HM := Lib.hid (And.intro hal hmade)
  clear hal hmade
  cases A with
  | none =>
    obtain rfl := hnil rfl
    obtain rfl : l = [] := List.length_eq_zero_iff.1 (by omega)
    have hf := HF.out _ _ HM.out.2 HM.out.1
    obtain ⟨A2, c2, e2, hcall⟩ := hf
    have HE := Lib.hid e2
    have HCL := Lib.hid hcall
    clear e2 hcall HF
    go_wp2_with (at_builtin; refine wpList_append_own_none rfl _ _ 22 rfl w.heap.size 5 i0 1 Tryz.underlying22 HI.out.1 _ _ _ rfl HM.out.2 rfl ?_)
    rw [HE.out]
    refine HCL.out.mono ?_
    rintro e w5 ⟨B1, n, c1, p, f, rfl, hc5, hcall⟩
    have HCL2 := Lib.hid hcall
    clear hcall HCL hc5
    go_wp2_with fail
    refine HCL2.out.mono ?_
    rintro e w6 ⟨B2, c2, rfl, hc6, hcall⟩
    have HCL3 := Lib.hid hcall
    clear hcall HCL2 hc6
    go_wp2_with fail
    refine HCL3.out.mono ?_
    rintro e w7 ⟨rfl, hc7⟩
    have HE7 := Lib.hid (HM.out.1.trans hc7)
    clear HCL3 hc7
    go_wp2_with fail
    go_ret
    exact ⟨rfl, HE7.out⟩
  | some ad =>
    go_wp2_with (at_builtin; refine wpList_append_own (w1.alloc (.cells #[] 5)) rfl _ _ 22 rfl w.heap.size 5 i0 (.int .u8 0) 1 1 Tryz.underlying22 HI.out.1 HI.out.2.1 HI.out.2.2.1 HI.out.2.2.2 rfl (by decide) _ _ _ rfl HM.out.2 ad l.length cap (Lib.byteCells l) rfl ?b1 ?b2 ?c2 ?c3 ?c4 ?c5 ?_)
    case b1 => rw [Lib.byteCells_length]; omega
    case b2 => exact bs_cells (H0.out.1.keep (HM.out.1.below (Nat.le_refl _) fun _ h => h.elim))
    case c2 => intro u hu; simp only [Lib.byteCells, List.mem_map] at hu; obtain ⟨x, _, rfl⟩ := hu; rfl
    case c3 => unfold maxLen; omega
    case c4 => omega
    case c5 => exact HM.out.1.size
    intro v' w2 hown2 hgrow _
    have hc2 : Chg (fun _ => False) w w2 := HC1.out.trans (Chg.of_below' (((Below.refl _ w1).alloc (Nat.le_refl _) _).grown hgrow (by simp) (fun k hk => by simp [Value.ownBlock] at hk; omega)))
    obtain ⟨A2, c2, e2, hcall⟩ := HF.out _ _ hown2 hc2
    have HCL := Lib.hid hcall
    have HC2 := Lib.hid hc2
    subst e2
    clear hcall HF hown2 hgrow hc2
    go_wp2_with fail
    refine HCL.out.mono ?_
    rintro e w5 ⟨B1, n, c1, p, f, rfl, hc5, hcall⟩
    have HCL2 := Lib.hid hcall
    clear hcall HCL hc5
    go_wp2_with fail
    refine HCL2.out.mono ?_
    rintro e w6 ⟨B2, c2, rfl, hc6, hcall⟩
    have HCL3 := Lib.hid hcall
    clear hcall HCL2 hc6
    go_wp2_with fail
    refine HCL3.out.mono ?_
    rintro e w7 ⟨rfl, hc7⟩
    have HE7 := Lib.hid (HC2.out.trans hc7)
    clear HCL3 hc7
    go_wp2_with fail
    go_ret
    exact ⟨rfl, HE7.out⟩
end Go.Proofs.YtknmbfkpclacgaaGreatDoor
