/- Plain laws on what write writes: fuel, lengths. -/
import Derived.Test.YtknmbfkpclacgaaDoorTe
import Derived.Test.YtknmbfkpclacgaaDoorTh
set_option linter.unusedSimpArgs false
namespace Go.Proofs.YtknmbfkpclacgaaDoor

theorem fm_congr {α β : Type} {f g : α → List β} : ∀ {l : List α}, (∀ a ∈ l, f a = g a) → l.flatMap f = l.flatMap g
  | [], _ => rfl
  | a :: l, h => by rw [List.flatMap_cons, List.flatMap_cons, h a (by simp), fm_congr (fun b hb => h b (by simp [hb]))]
def KidsOk (t : List JV) : Prop := ∀ j (hj : j < t.length), ∀ k ∈ t[j].kids, 0 ≤ k ∧ k < (j : Int)
theorem shapedJ_kidsOk {t : List JV} (h : shapedJ t = true) : KidsOk t := fun j hj => ((shapedJ_kids h).2 j hj).2
theorem getD_at (t : List JV) (i : Nat) (hi : i < t.length) : t.getD i jNull = t[i] := by simp [List.getD_eq_getElem?_getD, hi]
theorem writeJ_stable {t : List JV} (hk : KidsOk t) (i : Nat) : ∀ f : Nat, i < t.length → i < f → writeJ t f i = writeJ t (i + 1) i := by
  induction i using Nat.strongRecOn with
  | _ i ih =>
  intro f hi hf
  obtain ⟨f, rfl⟩ : ∃ g, f = g + 1 := ⟨f - 1, by omega⟩
  have hkid : ∀ p ∈ (t[i]).kids.zipIdx, writeJ t f p.1.toNat = writeJ t i p.1.toNat := by
    intro p hp
    have := hk i hi p.1 (List.fst_mem_of_mem_zipIdx hp)
    rw [ih p.1.toNat (by omega) f (by omega) (by omega), ih p.1.toNat (by omega) i (by omega) (by omega)]
  have e1 := fm_congr (l := (t[i]).kids.zipIdx) (f := fun p : Int × Nat => sepJ (0 < p.2) ++ writeJ t f p.1.toNat) (g := fun p => sepJ (0 < p.2) ++ writeJ t i p.1.toNat) (fun p hp => by simp only [hkid p hp])
  have e2 := fm_congr (l := (t[i]).kids.zipIdx) (f := fun p : Int × Nat => sepJ (0 < p.2) ++ quoteJ ((t[i]).names.getD p.2 []) ++ [58] ++ writeJ t f p.1.toNat) (g := fun p => sepJ (0 < p.2) ++ quoteJ ((t[i]).names.getD p.2 []) ++ [58] ++ writeJ t i p.1.toNat) (fun p hp => by simp only [hkid p hp])
  simp only [writeJ, getD_at t i hi]
  rw [e1, e2]

theorem decGo_len : ∀ (d k n : Nat), n < 10 ^ (d + 1) → (decGo k n).length ≤ d + 1
  | d, 0, n, _ => by simp [decGo]
  | 0, k + 1, n, h => by rw [decGo, if_pos (by simpa using h)]; simp
  | d + 1, k + 1, n, h => by
    rw [decGo]
    split
    · simp
    · have := decGo_len d k (n / 10) (by rw [Nat.div_lt_iff_lt_mul (by omega)]; rw [Nat.pow_succ] at h; exact h)
      simp; omega
theorem decJ_len (n : Int) (h : n.natAbs < 10 ^ 20) : (decJ n).length ≤ 21 := by
  unfold decJ
  have := decGo_len 19 n.natAbs n.natAbs (by simpa using h)
  split <;> simp <;> omega
def ownLen (v : JV) : Nat := 30 + (quoteJ v.text).length + (v.names.map fun s => (quoteJ s).length + 1).sum + v.kids.length
def wLen (t : List JV) (i : Nat) : Nat := (writeJ t (i + 1) i).length
theorem sepJ_len (b : Bool) : (sepJ b).length ≤ 1 := by cases b <;> simp [sepJ]
theorem list_len (F : Int → List UInt8) : ∀ (ks : List Int) (n : Nat), ((ks.zipIdx n).flatMap fun p => sepJ (0 < p.2) ++ F p.1).length ≤ ks.length + (ks.map fun k => (F k).length).sum
  | [], _ => by simp
  | k :: ks, n => by
    have := list_len F ks (n + 1)
    have h2 := sepJ_len (decide (0 < n))
    simp only [List.zipIdx_cons, List.flatMap_cons, List.length_append, List.length_cons, List.map_cons, List.sum_cons] at this ⊢
    omega
theorem object_len (F : Int → List UInt8) (names : List (List UInt8)) : ∀ (ks : List Int) (n : Nat), names.length = n + ks.length → ((ks.zipIdx n).flatMap fun p => sepJ (0 < p.2) ++ quoteJ (names.getD p.2 []) ++ [58] ++ F p.1).length ≤ ks.length + ((names.drop n).map fun s => (quoteJ s).length + 1).sum + (ks.map fun k => (F k).length).sum
  | [], _, _ => by simp
  | k :: ks, n, h => by
    have h1 : n < names.length := by simp at h; omega
    have := object_len F names ks (n + 1) (by simp at h; omega)
    have h2 := sepJ_len (decide (0 < n))
    have hg : names.getD n [] = names[n] := by simp [List.getD_eq_getElem?_getD, h1]
    rw [List.drop_eq_getElem_cons h1]
    simp only [List.zipIdx_cons, List.flatMap_cons, List.length_append, List.length_cons, List.map_cons, List.sum_cons, hg, List.length_nil] at this ⊢
    omega
theorem sum_congr {α : Type} {f g : α → Nat} : ∀ {l : List α}, (∀ a ∈ l, f a = g a) → (l.map f).sum = (l.map g).sum
  | [], _ => rfl
  | a :: l, h => by rw [List.map_cons, List.map_cons, List.sum_cons, List.sum_cons, h a (by simp), sum_congr (fun b hb => h b (by simp [hb]))]
theorem wLen_le {t : List JV} (hk : KidsOk t) (i : Nat) (hi : i < t.length) (hn : (t[i]).n.natAbs < 10 ^ 20) (ho : (t[i]).kind = 6 → (t[i]).kids.length = (t[i]).names.length) :
    wLen t i ≤ ownLen t[i] + ((t[i]).kids.map fun k => wLen t k.toNat).sum := by
  have hs : ((t[i]).kids.map fun k => (writeJ t i k.toNat).length).sum = ((t[i]).kids.map fun k => wLen t k.toNat).sum := sum_congr fun k hkm => by
    have := hk i hi k hkm
    rw [writeJ_stable hk k.toNat i (by omega) (by omega)]; rfl
  rw [← hs]
  clear hs
  unfold wLen ownLen
  rw [writeJ]
  simp only [getD_at t i hi]
  have h5 := list_len (fun k => writeJ t i k.toNat) (t[i]).kids 0
  have h6 := fun (e6 : (t[i]).kind = 6) => object_len (fun k => writeJ t i k.toNat) (t[i]).names (t[i]).kids 0 (by rw [ho e6]; omega)
  simp only [List.drop_zero] at h6
  have h3 := decJ_len _ hn
  generalize ((t[i]).kids.map fun k => (writeJ t i k.toNat).length).sum = S at *
  split
  · simp; omega
  · split
    · split <;> (simp; omega)
    · split
      · omega
      · split
        · omega
        · split
          · simp only [List.length_append, List.length_cons, List.length_nil]
            omega
          · split
            · rename_i hk6
              have := h6 hk6
              simp only [List.length_append, List.length_cons, List.length_nil]
              omega
            · simp

/-- the texts that nobody owns yet -/
def unU (W : Nat → Nat) : Nat → List Bool → Nat
  | 0, _ => 0
  | i + 1, o => unU W i o + (if o.getD i false then 0 else W i)
theorem unU_out (W : Nat → Nat) (m : Nat) (o : List Bool) : ∀ i, i ≤ m → unU W i (o.set m true) = unU W i o
  | 0, _ => rfl
  | i + 1, h => by
    rw [unU, unU, unU_out W m o i (by omega)]
    have : (o.set m true).getD i false = o.getD i false := by simp [List.getD_eq_getElem?_getD, List.getElem?_set, show m ≠ i by omega]
    rw [this]
theorem unU_set (W : Nat → Nat) (m : Nat) (o : List Bool) (hm : m < o.length) (ho : o.getD m false = false) : ∀ i, m < i → unU W i (o.set m true) + W m = unU W i o
  | 0, h => by omega
  | i + 1, h => by
    rw [unU, unU]
    rcases Nat.lt_or_ge m i with h1 | h1
    · have := unU_set W m o hm ho i h1
      have h2 : (o.set m true).getD i false = o.getD i false := by simp [List.getD_eq_getElem?_getD, List.getElem?_set, show m ≠ i by omega]
      rw [h2]; omega
    · obtain rfl : m = i := by omega
      rw [unU_out W m o m (Nat.le_refl _), ho]
      have h2 : (o.set m true).getD m false = true := by simp [List.getD_eq_getElem?_getD, List.getElem?_set, hm]
      rw [h2]; simp
theorem kidsGo_sum (W : Nat → Nat) (i : Nat) : ∀ (ks : List Int) (o o' : List Bool), i ≤ o.length → kidsGo i ks o = some o' → o'.length = o.length ∧ unU W i o' + (ks.map fun k => W k.toNat).sum = unU W i o
  | [], o, o', _, h => by simp only [kidsGo, Option.some.injEq] at h; subst h; simp
  | k :: ks, o, o', hl, h => by
    rw [kidsGo] at h
    split at h
    · cases h
    · rename_i hc
      simp only [not_or, Bool.not_eq_true] at hc
      have h1 := kidsGo_sum W i ks (o.set k.toNat true) o' (by simpa using hl) h
      have h2 := unU_set W k.toNat o (by omega) hc.2.2 i (by omega)
      rw [List.map_cons, List.sum_cons]
      refine ⟨by simpa using h1.1, by omega⟩
theorem shapedGo_sum (W : Nat → Nat) (O : JV → Nat) : ∀ (vs : List JV) (i : Nat) (o o' : List Bool), o.length = i + vs.length → (∀ j (hj : j < vs.length), W (i + j) ≤ O vs[j] + ((vs[j]).kids.map fun k => W k.toNat).sum) → shapedGo i vs o = some o' →
    o'.length = o.length ∧ unU W (i + vs.length) o' ≤ unU W i o + (vs.map O).sum
  | [], i, o, o', _, _, h => by simp only [shapedGo, Option.some.injEq] at h; subst h; simp
  | v :: vs, i, o, o', hl, hw, h => by
    rw [shapedGo] at h
    split at h
    · split at h
      · cases h
      · rename_i o1 h1
        have hk := kidsGo_sum W i v.kids o o1 (by omega) h1
        have ih := shapedGo_sum W O vs (i + 1) o1 o' (by simp at hl; omega) (fun j hj => by
          have := hw (j + 1) (by simp; omega)
          simpa [Nat.add_assoc, Nat.add_comm 1 j] using this) h
        have h0 := hw 0 (by simp)
        simp only [Nat.add_zero, List.getElem_cons_zero] at h0
        have hu : unU W (i + 1) o1 ≤ unU W i o1 + W i := by rw [unU]; split <;> omega
        simp only [List.length_cons, List.map_cons, List.sum_cons]
        rw [show i + (vs.length + 1) = i + 1 + vs.length by omega]
        refine ⟨by omega, by omega⟩
    · cases h
theorem ownedOk_last : ∀ (n j : Nat) (o : List Bool), j + o.length = n → 0 < o.length → ownedOk n j o = true → o.getD (o.length - 1) false = false
  | n, j, [], _, h, _ => by simp at h
  | n, j, [b], hl, _, h => by
    rw [ownedOk] at h
    split at h
    · cases h
    · rename_i hb
      have e : (j + 1 == n) = true := by rw [beq_iff_eq]; simpa using hl
      rw [e] at hb
      simpa using hb
  | n, j, b :: c :: r, hl, _, h => by
    rw [ownedOk] at h
    split at h
    · cases h
    · have := ownedOk_last n (j + 1) (c :: r) (by simp at hl ⊢; omega) (by simp) h
      simpa using this
/-- How long a shaped tree's text is at most. -/
theorem writeJ_len {t : List JV} (hs : shapedJ t = true) (hn : ∀ v ∈ t, v.n.natAbs < 10 ^ 20) : (writeJ t t.length (t.length - 1)).length ≤ (t.map ownLen).sum := by
  have hk := shapedJ_kidsOk hs
  obtain ⟨hpos, hall⟩ := shapedJ_kids hs
  unfold shapedJ at hs
  split at hs
  · cases hs
  · rename_i o ho
    rw [Bool.and_eq_true, decide_eq_true_eq] at hs
    have h := shapedGo_sum (wLen t) ownLen t 0 _ o (by simp) (fun j hj => by
      rw [Nat.zero_add]
      refine wLen_le hk j hj (hn _ (List.getElem_mem hj)) fun h6 => ?_
      have hu := (hall j hj).1
      unfold usedJ at hu
      simp only [h6] at hu
      simp at hu
      omega) ho
    simp only [Nat.zero_add, unU, List.length_replicate] at h
    obtain ⟨n, hn1⟩ : ∃ n, t.length = n + 1 := ⟨t.length - 1, by omega⟩
    have hlast := ownedOk_last t.length 0 o (by omega) (by omega) hs.1
    have h2 := h.2
    rw [hn1, unU] at h2
    rw [h.1, hn1] at hlast
    simp only [Nat.add_sub_cancel] at hlast
    rw [hlast] at h2
    rw [hn1]
    simp only [Nat.add_sub_cancel]
    unfold wLen at h2
    simp at h2
    omega
end Go.Proofs.YtknmbfkpclacgaaDoor
