/- Plain laws: the tree in the order of its text is shaped, may be, has the tree's text and is the same. -/
import Derived.Test.YtknmbfkpclacgaaDoorPc
set_option linter.unusedSimpArgs false
namespace Go.Proofs.YtknmbfkpclacgaaDoor

/-! ### what holds of all values -/
theorem canonL_len (g : Int → Nat → List JV) : ∀ (ks : List Int) (base : Nat), (canonL g ks base).2.length = ks.length
  | [], _ => rfl
  | k :: ks, base => by simp [canonL, canonL_len g ks]
theorem canonL_mem (g : Int → Nat → List JV) {P : JV → Prop} (h : ∀ k base, ∀ v ∈ g k base, P v) : ∀ (ks : List Int) (base : Nat), ∀ v ∈ (canonL g ks base).1, P v
  | [], _, v, hv => by simp [canonL] at hv
  | k :: ks, base, v, hv => by
    simp only [canonL, List.mem_append] at hv
    rcases hv with hv | hv
    · exact h _ _ v hv
    · exact canonL_mem g h ks _ v hv
theorem canon_all {t : List JV} {P : JV → Prop} (h0 : P jNull) (h : ∀ v ∈ t, P v) (hl : ∀ v ks, P v → ks.length = v.kids.length → P (jList ks)) (ho : ∀ v ks, P v → ks.length = v.kids.length → P (jObj ks v.names)) : ∀ (f i base : Nat), ∀ v ∈ canon t f i base, P v
  | 0, _, _, v, hv => by simp [canon] at hv
  | f + 1, i, base, v, hv => by
    have ih := canon_all h0 h hl ho f
    have hk : P (t.getD i jNull) := by
      rcases Nat.lt_or_ge i t.length with hi | hi
      · rw [List.getD_eq_getElem?_getD, List.getElem?_eq_getElem hi]
        exact h _ (List.getElem_mem hi)
      · rw [List.getD_eq_getElem?_getD, List.getElem?_eq_none hi]
        exact h0
    simp only [canon] at hv
    split at hv
    · rcases List.mem_append.1 hv with hv | hv
      · exact canonL_mem _ (fun k base => ih k.toNat base) _ _ v hv
      · simp only [List.mem_singleton] at hv
        subst hv
        exact hl _ _ hk (canonL_len _ _ _)
    · split at hv
      · rcases List.mem_append.1 hv with hv | hv
        · exact canonL_mem _ (fun k base => ih k.toNat base) _ _ v hv
        · simp only [List.mem_singleton] at hv
          subst hv
          exact ho _ _ hk (canonL_len _ _ _)
      · simp only [List.mem_singleton] at hv
        subst hv
        exact hk

/-! ### value i of t and value j of u say the same, kid by kid -/
def RelF (t u : List JV) : Nat → Nat → Nat → Prop
  | 0, _, _ => False
  | f + 1, i, j => (u.getD j jNull).kind = (t.getD i jNull).kind ∧ (u.getD j jNull).truth = (t.getD i jNull).truth ∧ (u.getD j jNull).n = (t.getD i jNull).n ∧ (u.getD j jNull).text = (t.getD i jNull).text ∧
      (u.getD j jNull).names = (t.getD i jNull).names ∧ (u.getD j jNull).kids.length = (t.getD i jNull).kids.length ∧
      ∀ k, k < (t.getD i jNull).kids.length → 0 ≤ (u.getD j jNull).kids.getD k 0 ∧ (u.getD j jNull).kids.getD k 0 < (j : Int) ∧ RelF t u f ((t.getD i jNull).kids.getD k 0).toNat ((u.getD j jNull).kids.getD k 0).toNat
theorem RelF.succ {t u : List JV} : ∀ {f i j : Nat}, RelF t u f i j → RelF t u (f + 1) i j
  | 0, _, _, h => h.elim
  | f + 1, i, j, h => by
    rw [RelF] at h
    rw [RelF]
    obtain ⟨h1, h2, h3, h4, h5, h6, h7⟩ := h
    exact ⟨h1, h2, h3, h4, h5, h6, fun k hk => ⟨(h7 k hk).1, (h7 k hk).2.1, (h7 k hk).2.2.succ⟩⟩
theorem RelF.more {t u : List JV} {f i j : Nat} (h : RelF t u f i j) : ∀ d, RelF t u (f + d) i j
  | 0 => h
  | d + 1 => (h.more d).succ
/-- block c of u begins at base -/
def Blk (u : List JV) (base : Nat) (c : List JV) : Prop := ∀ j, j < c.length → u.getD (base + j) jNull = c.getD j jNull
theorem Blk.left {u : List JV} {base : Nat} {a b : List JV} (h : Blk u base (a ++ b)) : Blk u base a := fun j hj => by
  rw [h j (by simp; omega)]
  simp [List.getD_eq_getElem?_getD, List.getElem?_append_left hj]
theorem Blk.right {u : List JV} {base : Nat} {a b : List JV} (h : Blk u base (a ++ b)) : Blk u (base + a.length) b := fun j hj => by
  rw [Nat.add_assoc, h (a.length + j) (by simp; omega)]
  simp [List.getD_eq_getElem?_getD, List.getElem?_append_right]
theorem canon_pos (t : List JV) (f i base : Nat) : 0 < (canon t (f + 1) i base).length := by
  simp only [canon]
  repeat' split
  all_goals simp
theorem canonL_at (u : List JV) (g : Int → Nat → List JV) : ∀ (ks : List Int) (base : Nat), (∀ k ∈ ks, ∀ b, 0 < (g k b).length) → Blk u base (canonL g ks base).1 → ∀ k, k < ks.length →
    ∃ b, base ≤ b ∧ (canonL g ks base).2.getD k 0 = ((b + (g (ks.getD k 0) b).length - 1 : Nat) : Int) ∧ b + (g (ks.getD k 0) b).length ≤ base + (canonL g ks base).1.length ∧ Blk u b (g (ks.getD k 0) b)
  | [], _, _, _, k, hk => by simp at hk
  | p :: ks, base, hp, hB, 0, _ => by
    simp only [canonL] at hB ⊢
    exact ⟨base, Nat.le_refl _, by simp, by simp, hB.left⟩
  | p :: ks, base, hp, hB, k + 1, hk => by
    simp only [canonL] at hB ⊢
    obtain ⟨b, h1, h2, h3, h4⟩ := canonL_at u g ks (base + (g p base).length) (fun q hq => hp q (by simp [hq])) hB.right k (by simpa using hk)
    refine ⟨b, by omega, by simpa using h2, ?_, by simpa using h4⟩
    simp only [List.getD_cons_succ, List.length_append]
    omega
theorem getD_mem_i {ks : List Int} {k : Nat} (h : k < ks.length) : ks.getD k 0 ∈ ks := by
  rw [List.getD_eq_getElem?_getD, List.getElem?_eq_getElem h]
  exact List.getElem_mem h
theorem canon_rel {t : List JV} {D : Nat → Nat} (hG : Good t D) (u : List JV) : ∀ (f i base : Nat), i < f → i < t.length → Blk u base (canon t f i base) → RelF t u f i (base + (canon t f i base).length - 1)
  | 0, _, _, h, _, _ => by omega
  | f + 1, i, base, hf, hi, hB => by
    have ih := canon_rel hG u f
    have hv := getD_at t i hi
    have hkk := hG.kids i hi
    have hlist : ∀ (ks : List Int), ks = t[i].kids → Blk u base (canonL (fun kid base => canon t f kid.toNat base) ks base).1 → ∀ k, k < ks.length →
        0 ≤ (canonL (fun kid base => canon t f kid.toNat base) ks base).2.getD k 0 ∧ (canonL (fun kid base => canon t f kid.toNat base) ks base).2.getD k 0 < ((base + (canonL (fun kid base => canon t f kid.toNat base) ks base).1.length : Nat) : Int) ∧
        RelF t u f (ks.getD k 0).toNat ((canonL (fun kid base => canon t f kid.toNat base) ks base).2.getD k 0).toNat := by
      intro ks hks hBk k hk
      have hfpos : 0 < f := by
        have := hkk _ (by rw [← hks]; exact getD_mem_i hk)
        omega
      obtain ⟨f', rfl⟩ : ∃ f', f = f' + 1 := ⟨f - 1, by omega⟩
      obtain ⟨b, h1, h2, h3, h4⟩ := canonL_at u (fun kid base => canon t (f' + 1) kid.toNat base) ks base (fun k _ b => canon_pos t f' k.toNat b) hBk k hk
      have hm := hkk _ (by rw [← hks]; exact getD_mem_i hk)
      have hpos := canon_pos t f' (ks.getD k 0).toNat b
      rw [h2]
      refine ⟨by omega, by omega, ?_⟩
      have := ih (ks.getD k 0).toNat b (by omega) (by omega) h4
      rw [Int.toNat_natCast]
      exact this
    have hlast : ∀ (x : List JV) (y : JV), Blk u base (x ++ [y]) → u.getD (base + (x ++ [y]).length - 1) jNull = y := by
      intro x y hb
      have := hb x.length (by simp)
      rw [show base + (x ++ [y]).length - 1 = base + x.length by simp, this]
      simp [List.getD_eq_getElem?_getD]
    have hu := used_cases (hG.used i hi)
    simp only [canon, hv] at hB ⊢
    rw [RelF, hv]
    by_cases h5 : t[i].kind = 5
    · have e : t[i].truth = false ∧ t[i].n = 0 ∧ t[i].text = [] ∧ t[i].names = [] := by
        rcases hu with hu | ⟨x, hu⟩ | ⟨n, hu⟩ | ⟨s, hu⟩ | ⟨ks, hu⟩ | ⟨ks, ns, hu, hlen⟩
        · exact absurd h5 (by rw [hu]; decide)
        · exact absurd h5 (by rw [hu]; simp [jBool])
        · exact absurd h5 (by rw [hu]; simp [jNum])
        · exact absurd h5 (by rw [hu]; simp [jStr])
        · rw [hu]; exact ⟨rfl, rfl, rfl, rfl⟩
        · exact absurd h5 (by rw [hu]; simp [jObj])
      rw [if_pos h5] at hB ⊢
      have h := hlast _ _ hB
      rw [h]
      refine ⟨h5.symm, e.1.symm, e.2.1.symm, e.2.2.1.symm, e.2.2.2.symm, canonL_len _ _ _, fun k hk => ?_⟩
      have := hlist t[i].kids rfl hB.left k hk
      refine ⟨this.1, ?_, this.2.2⟩
      have h2 := this.2.1
      simp only [List.length_append, List.length_singleton]
      simp only [jList] at h2 ⊢
      omega
    · by_cases h6 : t[i].kind = 6
      · have e : t[i].truth = false ∧ t[i].n = 0 ∧ t[i].text = [] := by
          rcases hu with hu | ⟨x, hu⟩ | ⟨n, hu⟩ | ⟨s, hu⟩ | ⟨ks, hu⟩ | ⟨ks, ns, hu, hlen⟩
          · exact absurd h6 (by rw [hu]; decide)
          · exact absurd h6 (by rw [hu]; simp [jBool])
          · exact absurd h6 (by rw [hu]; simp [jNum])
          · exact absurd h6 (by rw [hu]; simp [jStr])
          · exact absurd h6 (by rw [hu]; simp [jList])
          · rw [hu]; exact ⟨rfl, rfl, rfl⟩
        rw [if_neg h5, if_pos h6] at hB ⊢
        have h := hlast _ _ hB
        rw [h]
        refine ⟨h6.symm, e.1.symm, e.2.1.symm, e.2.2.symm, rfl, canonL_len _ _ _, fun k hk => ?_⟩
        have := hlist t[i].kids rfl hB.left k hk
        refine ⟨this.1, ?_, this.2.2⟩
        have h2 := this.2.1
        simp only [List.length_append, List.length_singleton]
        simp only [jObj] at h2 ⊢
        omega
      · have e : t[i].kids = [] := by
          rcases hu with hu | ⟨x, hu⟩ | ⟨n, hu⟩ | ⟨s, hu⟩ | ⟨ks, hu⟩ | ⟨ks, ns, hu, hlen⟩
          · rw [hu]; rfl
          · rw [hu]; rfl
          · rw [hu]; rfl
          · rw [hu]; rfl
          · exact absurd (by rw [hu]; rfl) h5
          · exact absurd (by rw [hu]; rfl) h6
        rw [if_neg h5, if_neg h6] at hB ⊢
        have h := hlast [] _ hB
        simp only [List.nil_append] at h
        rw [h]
        exact ⟨rfl, rfl, rfl, rfl, rfl, rfl, fun k hk => by rw [e] at hk; simp at hk⟩
theorem zip_congr {F F' : Int → List UInt8} (G : List UInt8 → Nat → List UInt8) : ∀ {ks ks' : List Int} (n : Nat), ks'.length = ks.length → (∀ k, k < ks.length → F' (ks'.getD k 0) = F (ks.getD k 0)) → ((ks'.zipIdx n).flatMap fun p => G (F' p.1) p.2) = ((ks.zipIdx n).flatMap fun p => G (F p.1) p.2)
  | [], [], _, _, _ => rfl
  | k :: ks, k' :: ks', n, hl, h => by
    have h0 := h 0 (by simp)
    simp only [List.getD_cons_zero] at h0
    rw [List.zipIdx_cons, List.zipIdx_cons, List.flatMap_cons, List.flatMap_cons, zip_congr G (n + 1) (by simpa using hl) (fun q hq => by have := h (q + 1) (by simpa using hq); simpa using this)]
    simp only
    rw [h0]
  | [], _ :: _, _, hl, _ => by simp at hl
  | _ :: _, [], _, hl, _ => by simp at hl
/-- The same text. -/
theorem rel_write {t u : List JV} : ∀ {f i j : Nat}, RelF t u f i j → writeJ u f j = writeJ t f i
  | 0, _, _, h => h.elim
  | f + 1, i, j, h => by
    rw [RelF] at h
    obtain ⟨h1, h2, h3, h4, h5, h6, h7⟩ := h
    have hl : ∀ (G : List UInt8 → Nat → List UInt8), ((u.getD j jNull).kids.zipIdx.flatMap fun p => G (writeJ u f p.1.toNat) p.2) = ((t.getD i jNull).kids.zipIdx.flatMap fun p => G (writeJ t f p.1.toNat) p.2) := by
      intro G
      exact zip_congr (F := fun k => writeJ t f k.toNat) (F' := fun k => writeJ u f k.toNat) G 0 h6 fun k hk => rel_write (h7 k hk).2.2
    simp only [writeJ]
    rw [h1, h2, h3, h4, h5, hl (fun x k => sepJ (0 < k) ++ x), hl (fun x k => sepJ (0 < k) ++ quoteJ ((t.getD i jNull).names.getD k []) ++ [58] ++ x)]
/-- The same depth. -/
theorem kidsDeep_congr {d d' : List Nat} : ∀ {ks ks' : List Int} (m : Nat), ks'.length = ks.length → (∀ k, k < ks.length → d'.getD (ks'.getD k 0).toNat 0 = d.getD (ks.getD k 0).toNat 0) → kidsDeep d' ks' m = kidsDeep d ks m
  | [], [], m, _, _ => rfl
  | k :: ks, k' :: ks', m, hl, h => by
    have h0 := h 0 (by simp)
    simp only [List.getD_cons_zero] at h0
    rw [kidsDeep, kidsDeep, h0]
    exact kidsDeep_congr _ (by simpa using hl) (fun q hq => by have := h (q + 1) (by simpa using hq); simpa using this)
  | [], _ :: _, _, hl, _ => by simp at hl
  | _ :: _, [], _, hl, _ => by simp at hl
theorem rel_depth {t u : List JV} (hkt : KidsOk t) : ∀ {f i j : Nat}, RelF t u f i j → i < t.length → j < u.length → dpt u j = dpt t i
  | 0, _, _, h, _, _ => h.elim
  | f + 1, i, j, h, hi, hj => by
    rw [RelF] at h
    obtain ⟨h1, h2, h3, h4, h5, h6, h7⟩ := h
    rw [dpt_eq t i hi, dpt_eq u j hj]
    rw [getD_at t i hi, getD_at u j hj] at h1 h6 h7
    rw [h1]
    split
    · congr 1
      refine kidsDeep_congr 0 h6 fun k hk => ?_
      have hm := hkt i hi _ (getD_mem_i hk)
      have h8 := h7 k hk
      rw [dpt_take t (by omega), dpt_take u (by omega)]
      exact rel_depth hkt h8.2.2 (by omega) (by omega)
    · rfl

/-! ### shaped -/
theorem shapedGo_app : ∀ (vs : List JV) (i : Nat) (o o' : List Bool) (rest : List JV), shapedGo i vs o = some o' → shapedGo i (vs ++ rest) o = shapedGo (i + vs.length) rest o'
  | [], i, o, o', rest, h => by simp only [shapedGo, Option.some.injEq] at h; subst h; rfl
  | v :: vs, i, o, o', rest, h => by
    rw [shapedGo] at h
    rw [List.cons_append, shapedGo]
    split at h
    · rename_i hu
      rw [if_pos hu]
      cases hk : kidsGo i v.kids o with
      | none => rw [hk] at h; cases h
      | some o2 =>
        rw [hk] at h
        simp only at h ⊢
        rw [shapedGo_app vs (i + 1) o2 o' rest h, List.length_cons]
        congr 1
        omega
    · cases h
def ownQ (g : Int → Nat → List JV) : List Int → Nat → List Bool
  | [], _ => []
  | k :: ks, base => List.replicate ((g k base).length - 1) true ++ false :: ownQ g ks (base + (g k base).length)
theorem set_here (A X : List Bool) (b c : Bool) : (A ++ b :: X).set A.length c = A ++ c :: X := by
  induction A with
  | nil => rfl
  | cons a A ih => simp [ih]
theorem getD_here (A X : List Bool) (b d : Bool) : (A ++ b :: X).getD A.length d = b := by
  simp [List.getD_eq_getElem?_getD]
theorem shaped_list (g : Int → Nat → List JV) : ∀ (ks : List Int), (∀ k ∈ ks, ∀ b, 0 < (g k b).length) → (∀ k ∈ ks, ∀ (P : List Bool) (m : Nat), shapedGo P.length (g k P.length) (P ++ List.replicate ((g k P.length).length + m) false) = some (P ++ (List.replicate ((g k P.length).length - 1) true ++ false :: List.replicate m false))) →
    ∀ (P : List Bool) (m : Nat), shapedGo P.length (canonL g ks P.length).1 (P ++ List.replicate ((canonL g ks P.length).1.length + m) false) = some (P ++ (ownQ g ks P.length ++ List.replicate m false))
  | [], _, _, P, m => by simp [canonL, shapedGo, ownQ]
  | k :: ks, hp, h, P, m => by
    have hk := hp k (by simp) P.length
    have h0 := h k (by simp) P ((canonL g ks (P.length + (g k P.length).length)).1.length + m)
    have ih := shaped_list g ks (fun q hq => hp q (by simp [hq])) (fun q hq => h q (by simp [hq])) (P ++ (List.replicate ((g k P.length).length - 1) true ++ [false])) m
    have hPl : (P ++ (List.replicate ((g k P.length).length - 1) true ++ [false])).length = P.length + (g k P.length).length := by simp; omega
    rw [hPl] at ih
    simp only [canonL, ownQ, List.length_append]
    rw [Nat.add_assoc, shapedGo_app _ _ _ _ _ h0]
    have e1 : P ++ (List.replicate ((g k P.length).length - 1) true ++ false :: List.replicate ((canonL g ks (P.length + (g k P.length).length)).1.length + m) false) = P ++ (List.replicate ((g k P.length).length - 1) true ++ [false]) ++ List.replicate ((canonL g ks (P.length + (g k P.length).length)).1.length + m) false := by simp
    rw [e1, ih]
    simp
theorem kids_list (g : Int → Nat → List JV) : ∀ (ks : List Int), (∀ k ∈ ks, ∀ b, 0 < (g k b).length) → ∀ (P S : List Bool) (i : Nat), P.length + (canonL g ks P.length).1.length ≤ i →
    kidsGo i (canonL g ks P.length).2 (P ++ (ownQ g ks P.length ++ S)) = some (P ++ (List.replicate (canonL g ks P.length).1.length true ++ S))
  | [], _, P, S, i, _ => by simp [canonL, kidsGo, ownQ]
  | k :: ks, hp, P, S, i, hi => by
    have hk := hp k (by simp) P.length
    have hPl : (P ++ List.replicate (g k P.length).length true).length = P.length + (g k P.length).length := by simp
    have ih := kids_list g ks (fun q hq => hp q (by simp [hq])) (P ++ List.replicate (g k P.length).length true) S i (by
      rw [hPl]
      simp only [canonL, List.length_append] at hi
      omega)
    rw [hPl] at ih
    simp only [canonL, ownQ, List.length_append] at hi ⊢
    generalize ownQ g ks (P.length + (g k P.length).length) = X at *
    generalize hR : canonL g ks (P.length + (g k P.length).length) = R at *
    obtain ⟨n, hn⟩ : ∃ n, (g k P.length).length = n + 1 := ⟨(g k P.length).length - 1, by omega⟩
    rw [hn] at ih hi ⊢
    have hA : (P ++ List.replicate n true).length = P.length + (n + 1) - 1 := by simp
    have e1 : P ++ (List.replicate (n + 1 - 1) true ++ false :: X ++ S) = (P ++ List.replicate n true) ++ false :: (X ++ S) := by simp
    rw [kidsGo, e1, Int.toNat_natCast, ← hA, getD_here, set_here, hA, if_neg (by rintro (h | h | h) <;> first | omega | cases h)]
    have e2 : P ++ List.replicate n true ++ true :: (X ++ S) = P ++ List.replicate (n + 1) true ++ (X ++ S) := by
      rw [List.replicate_succ']
      simp
    rw [e2, ih, show List.replicate (n + 1 + R.1.length) true = List.replicate (n + 1) true ++ List.replicate R.1.length true from List.replicate_append_replicate.symm]
    simp only [List.append_assoc]
theorem canon_shaped {t : List JV} {D : Nat → Nat} (hG : Good t D) : ∀ (f i : Nat), i < f → i < t.length → ∀ (P : List Bool) (m : Nat), shapedGo P.length (canon t f i P.length) (P ++ List.replicate ((canon t f i P.length).length + m) false) = some (P ++ (List.replicate ((canon t f i P.length).length - 1) true ++ false :: List.replicate m false))
  | 0, _, h, _, _, _ => by omega
  | f + 1, i, hf, hi, P, m => by
    have hv := getD_at t i hi
    have hkk := hG.kids i hi
    have hu := hG.used i hi
    have hpos : ∀ k ∈ t[i].kids, ∀ b, 0 < (canon t f k.toNat b).length := fun k hk b => by
      have := hkk k hk
      obtain ⟨f', rfl⟩ : ∃ f', f = f' + 1 := ⟨f - 1, by omega⟩
      exact canon_pos t f' k.toNat b
    have hsl := shaped_list (fun kid base => canon t f kid.toNat base) t[i].kids hpos (fun k hk P m => by
      have := hkk k hk
      exact canon_shaped hG f k.toNat (by omega) (by omega) P m) P (1 + m)
    have hkl := kids_list (fun kid base => canon t f kid.toNat base) t[i].kids hpos P (List.replicate (1 + m) false) _ (Nat.le_refl _)
    have hlen := canonL_len (fun kid base => canon t f kid.toNat base) t[i].kids P.length
    have key : ∀ v : JV, usedJ v = true → v.kids = (canonL (fun kid base => canon t f kid.toNat base) t[i].kids P.length).2 →
        shapedGo P.length ((canonL (fun kid base => canon t f kid.toNat base) t[i].kids P.length).1 ++ [v]) (P ++ List.replicate (((canonL (fun kid base => canon t f kid.toNat base) t[i].kids P.length).1 ++ [v]).length + m) false) = some (P ++ (List.replicate (((canonL (fun kid base => canon t f kid.toNat base) t[i].kids P.length).1 ++ [v]).length - 1) true ++ false :: List.replicate m false)) := by
      intro v hv1 hv2
      rw [List.length_append, List.length_singleton, Nat.add_assoc, shapedGo_app _ _ _ _ _ hsl, shapedGo, if_pos hv1, hv2, hkl]
      simp only [shapedGo, Nat.add_sub_cancel]
      rw [Nat.add_comm 1 m, List.replicate_succ]
    simp only [canon, hv]
    by_cases h5 : t[i].kind = 5
    · rw [if_pos h5]
      exact key _ (by simp [usedJ, jList]) rfl
    · by_cases h6 : t[i].kind = 6
      · rw [if_neg h5, if_pos h6]
        have hnl : t[i].kids.length = t[i].names.length := by
          unfold usedJ at hu
          simp only [h6] at hu
          simp at hu
          exact hu.2
        exact key _ (by simp [usedJ, jObj, hlen, hnl]) rfl
      · rw [if_neg h5, if_neg h6]
        have e : t[i].kids = [] := by
          rcases used_cases hu with hu | ⟨x, hu⟩ | ⟨n, hu⟩ | ⟨s, hu⟩ | ⟨ks, hu⟩ | ⟨ks, ns, hu, hlen⟩
          · rw [hu]; rfl
          · rw [hu]; rfl
          · rw [hu]; rfl
          · rw [hu]; rfl
          · exact absurd (by rw [hu]; rfl) h5
          · exact absurd (by rw [hu]; rfl) h6
        simp only [shapedGo, hu, e, kidsGo, if_true, List.length_singleton]
        rw [Nat.add_comm 1 m, List.replicate_succ]
        simp
theorem ownedOk_rep : ∀ (L j n : Nat), n = j + L + 1 → ownedOk n j (List.replicate L true ++ [false]) = true
  | 0, j, n, h => by
    subst h
    simp [ownedOk]
  | L + 1, j, n, h => by
    rw [List.replicate_succ, List.cons_append, ownedOk, if_neg (by simp; omega)]
    exact ownedOk_rep L (j + 1) n (by omega)

/-! ### same -/
def diffJ (x y : JV) : Bool := x.kind != y.kind || x.truth != y.truth || x.n != y.n || x.text != y.text || x.kids.length != y.kids.length
def sameKids (g : Nat → Nat → Bool) (x y : JV) : Nat → List Int → Bool
  | _, [] => true
  | k, p :: r =>
    if x.kind = 6 then
      (if y.names.idxOf (x.names.getD k []) < y.names.length then
        (if g p.toNat (y.kids.getD (y.names.idxOf (x.names.getD k [])) 0).toNat then sameKids g x y (k + 1) r else false) else false)
    else (if g p.toNat (y.kids.getD k 0).toNat then sameKids g x y (k + 1) r else false)
def sameGo (t u : List JV) : Nat → Nat → Nat → Bool
  | 0, _, _ => true
  | f + 1, i, j => if diffJ (t.getD i jNull) (u.getD j jNull) then false else sameKids (sameGo t u f) (t.getD i jNull) (u.getD j jNull) 0 (t.getD i jNull).kids
theorem idxOf_noDup : ∀ {ns : List (List UInt8)} (k : Nat), noDup ns = true → k < ns.length → ns.idxOf (ns.getD k []) = k
  | [], k, _, h => by simp at h
  | s :: r, 0, _, _ => by simp
  | s :: r, k + 1, hd, h => by
    rw [noDup, Bool.and_eq_true, Bool.not_eq_true'] at hd
    have hk : k < r.length := by simpa using h
    have hne : s ≠ r.getD k [] := by
      rintro rfl
      have : r.contains (r.getD k []) = true := by
        rw [List.getD_eq_getElem?_getD, List.getElem?_eq_getElem hk]
        simp
      rw [this] at hd
      exact absurd hd.1 (by simp)
    have ih := idxOf_noDup k hd.2 hk
    have hb : (s == r.getD k []) = false := by rw [beq_eq_false_iff_ne]; exact hne
    rw [List.getD_cons_succ, List.idxOf_cons, hb, ih]
    rfl
theorem sameKids_yes (g : Nat → Nat → Bool) (x y : JV) (h6 : x.kind = 6 → ∀ k, k < x.kids.length → y.names.idxOf (x.names.getD k []) = k ∧ k < y.names.length) (hg : ∀ k, k < x.kids.length → g (x.kids.getD k 0).toNat (y.kids.getD k 0).toNat = true) :
    ∀ (d k : Nat), k + d = x.kids.length → sameKids g x y k (x.kids.drop k) = true
  | 0, k, h => by rw [List.drop_eq_nil_of_le (by omega)]; rfl
  | d + 1, k, h => by
    have hk : k < x.kids.length := by omega
    have ih := sameKids_yes g x y h6 hg d (k + 1) (by omega)
    have hgk := hg k hk
    have hx : x.kids.getD k 0 = x.kids[k] := by rw [List.getD_eq_getElem?_getD, List.getElem?_eq_getElem hk]; rfl
    rw [List.drop_eq_getElem_cons hk, sameKids]
    rw [hx] at hgk
    split
    · rename_i hk6
      obtain ⟨h1, h2⟩ := h6 hk6 k hk
      rw [h1, if_pos h2, hgk, if_pos rfl]
      exact ih
    · first
      | exact ih
      | (rw [hgk, if_pos rfl]; exact ih)
theorem rel_same {t u : List JV} {D : Nat → Nat} (hG : Good t D) : ∀ {f i j : Nat}, RelF t u f i j → i < t.length → sameGo t u f i j = true
  | 0, _, _, _, _ => rfl
  | f + 1, i, j, h, hi => by
    rw [RelF] at h
    obtain ⟨h1, h2, h3, h4, h5, h6, h7⟩ := h
    have hv := getD_at t i hi
    have hkk := hG.kids i hi
    have hu := hG.used i hi
    have hdup := hG.dup i hi
    rw [sameGo]
    have hd : diffJ (t.getD i jNull) (u.getD j jNull) = false := by
      unfold diffJ
      rw [h1, h2, h3, h4, h6]
      simp
    rw [hd]
    simp only [Bool.false_eq_true, if_false]
    rw [hv] at h1 h2 h3 h4 h5 h6 h7 ⊢
    have := sameKids_yes (sameGo t u f) t[i] (u.getD j jNull) (fun hk6 k hk => by
      have hnl : t[i].kids.length = t[i].names.length := by
        unfold usedJ at hu
        simp only [hk6] at hu
        simp at hu
        exact hu.2
      rw [h5]
      exact ⟨idxOf_noDup k hdup (by omega), by omega⟩) (fun k hk => by
        have hm := hkk _ (getD_mem_i hk)
        exact rel_same hG (h7 k hk).2.2 (by omega)) t[i].kids.length 0 (by omega)
    rwa [List.drop_zero] at this

/-! ### all of it -/
def OkV (v : JV) : Prop := (-9007199254740991 ≤ v.n ∧ v.n ≤ 9007199254740991) ∧ validL v.text = true ∧ (∀ s ∈ v.names, validL s = true) ∧ noDup v.names = true
theorem canon_back {t : List JV} (h : mayJ t = 0) : mayJ (canon t t.length (t.length - 1) 0) = 0 ∧
    writeJ (canon t t.length (t.length - 1) 0) (canon t t.length (t.length - 1) 0).length ((canon t t.length (t.length - 1) 0).length - 1) = writeJ t t.length (t.length - 1) ∧
    sameGo t (canon t t.length (t.length - 1) 0) t.length (t.length - 1) ((canon t t.length (t.length - 1) 0).length - 1) = true := by
  obtain ⟨hG, hpos, hD⟩ := good_of_may h
  have hsh := canon_shaped hG t.length (t.length - 1) (by omega) (by omega) [] 0
  have hpu : 0 < (canon t t.length (t.length - 1) 0).length := by
    obtain ⟨n, hn⟩ : ∃ n, t.length = n + 1 := ⟨t.length - 1, by omega⟩
    rw [hn]
    exact canon_pos t n _ 0
  have hr := canon_rel hG (canon t t.length (t.length - 1) 0) t.length (t.length - 1) 0 (by omega) (by omega) (fun j hj => by rw [Nat.zero_add])
  rw [Nat.zero_add] at hr
  have hok : ∀ v ∈ t, OkV v := fun v hv => by
    obtain ⟨i, hi, rfl⟩ := List.getElem_of_mem hv
    exact ⟨hG.num i hi, hG.text i hi, hG.names i hi, hG.dup i hi⟩
  have hall := canon_all (t := t) (P := OkV) ⟨by decide, by rfl, by simp [jNull], by rfl⟩ hok (fun v ks _ _ => ⟨by simp [jList], by rfl, by simp [jList], by rfl⟩) (fun v ks hv _ => ⟨by simp [jObj], by rfl, hv.2.2.1, hv.2.2.2⟩) t.length (t.length - 1) 0
  simp only [List.length_nil, List.nil_append, Nat.add_zero, List.replicate_zero] at hsh
  generalize canon t t.length (t.length - 1) 0 = u at *
  have hshape : shapedJ u = true := by
    unfold shapedJ
    rw [hsh]
    simp only
    rw [ownedOk_rep (u.length - 1) 0 u.length (by omega)]
    simpa using hpu
  have hku := shapedJ_kidsOk hshape
  have hdep : deepJ u ≤ 64 := by
    have := rel_depth hG.kids hr (by omega) (by omega)
    show dpt u (u.length - 1) ≤ 64
    omega
  refine ⟨?_, ?_, ?_⟩
  · unfold mayJ
    rw [if_neg (by rw [hshape]; simp), if_neg (by omega), if_neg, if_neg, if_neg]
    · rw [List.any_eq_true]
      rintro ⟨v, hv, hn⟩
      rw [(hall v hv).2.2.2] at hn
      simp at hn
    · rw [List.any_eq_true]
      rintro ⟨v, hv, hn⟩
      rw [(hall v hv).2.1] at hn
      simp only [Bool.not_true, Bool.false_or, List.any_eq_true] at hn
      obtain ⟨s, hs, hn⟩ := hn
      rw [(hall v hv).2.2.1 s hs] at hn
      simp at hn
    · rw [List.any_eq_true]
      rintro ⟨v, hv, hn⟩
      have := (hall v hv).1
      simp at hn
      omega
  · have h1 := rel_write (hr.more u.length)
    rw [writeJ_stable hG.kids (t.length - 1) (t.length + u.length) (by omega) (by omega), writeJ_stable hku (u.length - 1) (t.length + u.length) (by omega) (by omega)] at h1
    rw [writeJ_stable hku (u.length - 1) u.length (by omega) (by omega), writeJ_stable hG.kids (t.length - 1) t.length (by omega) (by omega)]
    exact h1
  · exact rel_same hG hr (by omega)
end Go.Proofs.YtknmbfkpclacgaaDoor
