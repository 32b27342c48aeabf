import Derived.Test.YtknmbfkpclacgaaGreatDoorMQu13
import Derived.Test.YtknmbfkpclacgaaGreatDoorMQuMy
/- Plain laws: a tree that mayJ lets by is good; its beginnings are refused. -/
set_option linter.unusedSimpArgs false
namespace Go.Proofs.YtknmbfkpclacgaaGreatDoor

/-! ### depths -/
theorem deepGo_all : ∀ (vs : List JV) (d : List Nat), (deepGo vs d).length = d.length + vs.length ∧ (deepGo vs d).take d.length = d ∧
    ∀ j (hj : j < vs.length), (deepGo vs d).getD (d.length + j) 0 = if (vs[j]).kind = 5 ∨ (vs[j]).kind = 6 then kidsDeep ((deepGo vs d).take (d.length + j)) (vs[j]).kids 0 + 1 else 0
  | [], d => by simp [deepGo]
  | v :: vs, d => by
    rw [deepGo]
    obtain ⟨h1, h2, h3⟩ := deepGo_all vs (d ++ [if v.kind = 5 ∨ v.kind = 6 then kidsDeep d v.kids 0 + 1 else 0])
    generalize hx : (if v.kind = 5 ∨ v.kind = 6 then kidsDeep d v.kids 0 + 1 else 0) = x at *
    generalize hR : deepGo vs (d ++ [x]) = R at *
    simp only [List.length_append, List.length_cons, List.length_nil] at h1 h2 h3
    have h4 : R.take d.length = d := by
      have := congrArg (List.take d.length) h2
      rw [List.take_take, Nat.min_eq_left (by omega), List.take_left] at this
      exact this
    refine ⟨by simp; omega, h4, fun j hj => ?_⟩
    cases j with
    | zero =>
      have hg : R.getD (d.length + 0) 0 = x := by
        have h5 : (R.take (d.length + 1)).getD d.length 0 = x := by rw [h2]; simp [List.getD_eq_getElem?_getD]
        rw [← h5]
        simp [List.getD_eq_getElem?_getD, List.getElem?_take]
      rw [hg, ← hx]
      simp only [List.getElem_cons_zero, Nat.add_zero, h4]
    | succ j =>
      have := h3 j (by simpa using hj)
      simp only [List.getElem_cons_succ]
      rw [show d.length + (j + 1) = d.length + 1 + j by omega]
      exact this
theorem kidsDeep_ge (d : List Nat) : ∀ (ks : List Int) (m : Nat), m ≤ kidsDeep d ks m ∧ ∀ k ∈ ks, d.getD k.toNat 0 ≤ kidsDeep d ks m
  | [], m => by simp [kidsDeep]
  | k :: ks, m => by
    rw [kidsDeep]
    have := kidsDeep_ge d ks (max m (d.getD k.toNat 0))
    refine ⟨by omega, fun x hx => ?_⟩
    rcases List.mem_cons.1 hx with rfl | hx
    · omega
    · exact this.2 x hx
def dpt (t : List JV) (i : Nat) : Nat := (deepGo t []).getD i 0
theorem dpt_eq (t : List JV) (i : Nat) (hi : i < t.length) : dpt t i = if (t[i]).kind = 5 ∨ (t[i]).kind = 6 then kidsDeep ((deepGo t []).take i) (t[i]).kids 0 + 1 else 0 := by
  have := (deepGo_all t []).2.2 i hi
  simpa [dpt] using this
theorem dpt_take (t : List JV) {i k : Nat} (h : k < i) : ((deepGo t []).take i).getD k 0 = dpt t k := by
  simp [dpt, List.getD_eq_getElem?_getD, List.getElem?_take, h]
theorem mayJ_zero {t : List JV} (h : mayJ t = 0) : shapedJ t = true ∧ deepJ t ≤ 64 ∧ (∀ v ∈ t, -9007199254740991 ≤ v.n ∧ v.n ≤ 9007199254740991) ∧ (∀ v ∈ t, validL v.text = true ∧ ∀ s ∈ v.names, validL s = true) ∧ (∀ v ∈ t, noDup v.names = true) := by
  unfold mayJ at h
  split at h
  · exact absurd h (by decide)
  · rename_i h1
    split at h
    · exact absurd h (by decide)
    · rename_i h2
      split at h
      · exact absurd h (by decide)
      · rename_i h3
        split at h
        · exact absurd h (by decide)
        · rename_i h4
          split at h
          · exact absurd h (by decide)
          · rename_i h5
            refine ⟨by simpa using h1, by omega, fun v hv => ?_, fun v hv => ?_, fun v hv => ?_⟩
            · rw [List.any_eq_true] at h3
              have : ¬ ((decide (v.n < -9007199254740991) || decide (9007199254740991 < v.n)) = true) := fun e => h3 ⟨v, hv, e⟩
              simp at this
              omega
            · rw [List.any_eq_true] at h4
              have : ¬ ((!validL v.text || v.names.any fun s => !validL s) = true) := fun e => h4 ⟨v, hv, e⟩
              simp at this
              exact this
            · rw [List.any_eq_true] at h5
              have : ¬ ((!noDup v.names) = true) := fun e => h5 ⟨v, hv, e⟩
              simpa using this
theorem good_of_may {t : List JV} (h : mayJ t = 0) : Good t (dpt t) ∧ 0 < t.length ∧ dpt t (t.length - 1) ≤ 64 := by
  obtain ⟨h1, h2, h3, h4, h5⟩ := mayJ_zero h
  obtain ⟨hpos, hall⟩ := shapedJ_kids h1
  refine ⟨⟨fun i hi => (hall i hi).1, shapedJ_kidsOk h1, fun i hi => h3 _ (List.getElem_mem hi), fun i hi => (h4 _ (List.getElem_mem hi)).1, fun i hi => (h4 _ (List.getElem_mem hi)).2, fun i hi => h5 _ (List.getElem_mem hi), fun i hi hk => ?_⟩, hpos, h2⟩
  rw [dpt_eq t i hi, if_pos hk]
  refine ⟨by omega, fun k hkm => ?_⟩
  have hr := (hall i hi).2 k hkm
  have := (kidsDeep_ge ((deepGo t []).take i) (t[i]).kids 0).2 k hkm
  rw [dpt_take t (by omega)] at this
  omega
/-- A tree's text is parsed as the tree in the order of its text. -/
theorem parseJ_write {t : List JV} (h : mayJ t = 0) (hl : (writeJ t t.length (t.length - 1)).length ≤ 268435456) : parseJ (writeJ t t.length (t.length - 1)) = .ok (canon t t.length (t.length - 1) 0) := by
  obtain ⟨hG, hpos, hD⟩ := good_of_may h
  have := parseJ_wW (b := noBl) (fun k c hc => by simp [noBl] at hc) hG (t.length - 1) 0 [] [] (by simp) (by simp) (by omega) t.length (by omega) hD (by rw [wW_nil]; simpa using hl)
  rw [wW_nil] at this
  simpa using this
theorem parseJ_wide {t : List JV} (h : mayJ t = 0) {b : Nat → List UInt8} (hb : BlOk b) (k m n : Nat) (hl : (b m ++ ((wW b t t.length (t.length - 1) k).1 ++ b n)).length ≤ 268435456) : parseJ (b m ++ ((wW b t t.length (t.length - 1) k).1 ++ b n)) = .ok (canon t t.length (t.length - 1) 0) := by
  obtain ⟨hG, hpos, hD⟩ := good_of_may h
  exact parseJ_wW hb hG (t.length - 1) k (b m) (b n) (hb m) (hb n) (by omega) t.length (by omega) hD hl

/-! ### what ends inside a longer text -/
/-- l goes on as L. -/
def Pre (l L : List UInt8) : Prop := ∃ x, L = l ++ x
theorem Pre.pk {l L : List UInt8} (h : Pre l L) {i : Nat} (hi : i < l.length) : pk L i = pk l i := by
  obtain ⟨x, rfl⟩ := h
  simp [Go.Proofs.YtknmbfkpclacgaaGreatDoor.pk, List.getD_eq_getElem?_getD, List.getElem?_append_left hi]
theorem Pre.len {l L : List UInt8} (h : Pre l L) : l.length ≤ L.length := by
  obtain ⟨x, rfl⟩ := h
  simp
theorem Pre.drop {l L : List UInt8} (h : Pre l L) (i : Nat) (hi : i ≤ l.length) : Pre (l.drop i) (L.drop i) := by
  obtain ⟨x, rfl⟩ := h
  exact ⟨x, by rw [List.drop_append_of_le_length hi]⟩
theorem skipBl_pre {l x : List UInt8} (h : skipBl l < l.length) : skipBl (l ++ x) = skipBl l := by
  induction l with
  | nil => simp [skipBl] at h
  | cons c l ih =>
    rw [List.cons_append, skipBl, skipBl]
    rw [skipBl] at h
    split
    · rename_i hc
      rw [if_pos hc] at h
      rw [ih (by simpa using h)]
    · rfl
theorem skip_pre {l L : List UInt8} (h : Pre l L) {p : Nat} (hp : skip l p < l.length) : skip L p = skip l p := by
  have hge := skip_ge l p
  obtain ⟨x, rfl⟩ := h
  unfold skip at hp ⊢
  rw [List.drop_append_of_le_length (by omega), skipBl_pre (by rw [List.length_drop]; omega)]
theorem takeJ_pre {l L : List UInt8} (h : Pre l L) {i : Nat} {c : UInt8} (ht : takeJ l i = .ok c) : takeJ L i = .ok c := by
  have hlt := takeJ_lt ht
  have := h.len
  unfold takeJ at ht ⊢
  rw [if_pos hlt] at ht
  rw [if_pos (by omega), h.pk hlt]
  exact ht
theorem fourJ_pre {l L : List UInt8} (h : Pre l L) (begin : Nat) : ∀ (k i n m : Nat), fourJ l begin k i n = .ok m → fourJ L begin k i n = .ok m
  | 0, i, n, m, e => e
  | k + 1, i, n, m, e => by
    rw [fourJ] at e ⊢
    split at e
    · simp at e
    · rename_i c ht
      rw [takeJ_pre h ht]
      simp only
      split at e
      · simp at e
      · exact fourJ_pre h begin k _ _ m e
theorem escapeJ_pre {l L : List UInt8} (h : Pre l L) {i : Nat} {r j : Nat} (e : escapeJ l i = .ok (r, j)) : escapeJ L i = .ok (r, j) := by
  unfold escapeJ at e ⊢
  split at e
  · simp at e
  · rename_i c ht
    rw [takeJ_pre h ht]
    simp only
    split at e
    · exact e
    · split at e
      · simp at e
      · rename_i h117
        rw [if_neg h117]
        split at e
        · simp at e
        · rename_i n hn
          rw [fourJ_pre h _ _ _ _ _ hn]
          simp only
          split at e
          · simp at e
          · rename_i h1
            rw [if_neg h1]
            split at e
            · rename_i h2
              rw [if_pos h2]; exact e
            · rename_i h2
              rw [if_neg h2]
              split at e
              · simp at e
              · rename_i c1 ht1
                rw [takeJ_pre h ht1]
                simp only
                split at e
                · simp at e
                · rename_i h3
                  rw [if_neg h3]
                  split at e
                  · simp at e
                  · rename_i c2 ht2
                    rw [takeJ_pre h ht2]
                    simp only
                    split at e
                    · simp at e
                    · rename_i h4
                      rw [if_neg h4]
                      split at e
                      · simp at e
                      · rename_i m hm
                        rw [fourJ_pre h _ _ _ _ _ hm]
                        exact e
theorem dec_pre {l x : List UInt8} {r n : Nat} (h : dec l = some (r, n)) : dec (l ++ x) = some (r, n) := by
  have e := dec_enc l r n h
  have h2 := enc_dec r e.2.2.2.2.1 (l.drop n ++ x)
  rw [← List.append_assoc, ← e.1, List.take_append_drop, e.1, e.2.2.2.2.2] at h2
  exact h2
theorem text_pre {l L : List UInt8} (h : Pre l L) : ∀ (k k' i : Nat) (out s : List UInt8) (j : Nat), textGo l k i out = .ok (s, j) → L.length + 1 ≤ k' + i → textGo L k' i out = .ok (s, j)
  | 0, k', i, out, s, j, e, _ => by simp [textGo] at e
  | k + 1, k', i, out, s, j, e, hk => by
    have hlen := h.len
    rw [textGo] at e
    split at e
    · rename_i hi
      obtain ⟨k', rfl⟩ : ∃ g, k' = g + 1 := ⟨k' - 1, by omega⟩
      rw [textGo, if_pos (by omega), h.pk hi]
      split at e
      · rename_i h1
        rw [if_pos h1]; exact e
      · rename_i h1
        rw [if_neg h1]
        split at e
        · rename_i h2
          rw [if_pos h2]
          split at e
          · simp at e
          · rename_i r j' he
            rw [escapeJ_pre h he]
            simp only
            have := escapeJ_len he
            exact text_pre h k k' j' _ s j e (by omega)
        · rename_i h2
          rw [if_neg h2]
          split at e
          · simp at e
          · split at e
            · simp at e
            · rename_i r n hd
              have hd2 : dec (L.drop i) = some (r, n) := by
                obtain ⟨x, hx⟩ := h.drop i (by omega)
                rw [hx]
                exact dec_pre hd
              have hn := dec_enc _ _ _ hd
              rw [if_neg (by rw [inside_dec hd2]; omega), hd2]
              simp only
              split at e
              · simp at e
              · rename_i h3
                rw [if_neg h3]
                have ht : (L.drop i).take n = (l.drop i).take n := by
                  obtain ⟨x, hx⟩ := h.drop i (by omega)
                  rw [hx, List.take_append_of_le_length (by omega)]
                rw [ht]
                exact text_pre h k k' (i + n) _ s j e (by omega)
    · simp at e
theorem textJ_pre {l L : List UInt8} (h : Pre l L) {i : Nat} {s : List UInt8} {j : Nat} (e : textJ l i = .ok (s, j)) : textJ L i = .ok (s, j) := text_pre h _ _ _ _ _ _ e (by omega)
theorem wordJ_pre {l L : List UInt8} (h : Pre l L) {i j : Nat} {w : List UInt8} (hw : 0 < w.length) (e : wordJ l i w = .ok j) : wordJ L i w = .ok j := by
  have hj := wordJ_ok hw e
  unfold wordJ at e ⊢
  split at e
  · rename_i h1
    simp only [Except.ok.injEq] at e
    obtain ⟨x, hx⟩ := h.drop i (by omega)
    have hl := congrArg List.length h1
    rw [List.length_take] at hl
    rw [if_pos (by rw [hx, List.take_append_of_le_length (by omega)]; exact h1), e]
  · simp at e
theorem digs_pre (x : List UInt8) : ∀ (l : List UInt8) (n : Nat), nDigs l < l.length → digs (l ++ x) n = digs l n ∧ nDigs (l ++ x) = nDigs l
  | [], n, h => by simp [nDigs] at h
  | c :: l, n, h => by
    rw [nDigs] at h
    rw [List.cons_append, digs, digs, nDigs, nDigs]
    split
    · rename_i hc
      rw [if_pos hc] at h
      have := digs_pre x l (min (10 * n + (c.toNat - 48)) 9007199254740992) (by simpa using h)
      rw [this.1, this.2]
      exact ⟨rfl, rfl⟩
    · exact ⟨rfl, rfl⟩
/-- A number that something stands behind. -/
theorem numberJ_pre {l L : List UInt8} (h : Pre l L) {i j : Nat} {n : Int} (e : numberJ l i = .ok (n, j)) (hj : j < l.length) : numberJ L i = .ok (n, j) := by
  have hij := numberJ_ok e
  unfold numberJ at e ⊢
  simp only at e ⊢
  rw [h.pk (by omega : i < l.length)]
  generalize hf : (if (pk l i == 45) = true then i + 1 else i) = f at e ⊢
  have hfi : i ≤ f := by subst hf; split <;> omega
  split at e
  · simp at e
  · rename_i hc
    simp only [Except.ok.injEq, Prod.mk.injEq] at e
    obtain ⟨x, hx⟩ := h.drop f (by omega)
    have hd := digs_pre x (l.drop f) 0 (by rw [List.length_drop]; omega)
    rw [hx, hd.1, hd.2, h.pk (by omega : f + nDigs (l.drop f) < l.length), h.pk (by omega : f < l.length), if_neg hc]
    simp only [Except.ok.injEq, Prod.mk.injEq]
    exact e
/-- What is parsed is parsed in a longer text too, if something stands behind it or it is no number. -/
theorem pre_all {l L : List UInt8} (h : Pre l L) : ∀ k : Nat,
    (∀ i dp t p j t', valueJ l k i dp t = .ok (p, j, t') → (j < l.length ∨ (pk l (skip l i) ≠ 45 ∧ isDig (pk l (skip l i)) = false)) → ∀ K, 2 * (L.length - i) + 2 ≤ K → valueJ L K i dp t = .ok (p, j, t')) ∧
    (∀ i dp t ks p j t', listJ l k i dp t ks = .ok (p, j, t') → ∀ K, 2 * (L.length - i) + 3 ≤ K → listJ L K i dp t ks = .ok (p, j, t')) ∧
    (∀ i dp t ks ns p j t', objectJ l k i dp t ks ns = .ok (p, j, t') → ∀ K, 2 * (L.length - i) + 3 ≤ K → objectJ L K i dp t ks ns = .ok (p, j, t')) := by
  have hlen := h.len
  intro k
  induction k with
  | zero =>
    refine ⟨fun i dp t p j t' e => ?_, fun i dp t ks p j t' e => ?_, fun i dp t ks ns p j t' e => ?_⟩
    · simp [valueJ] at e
    · simp [listJ] at e
    · simp [objectJ] at e
  | succ k ih =>
    obtain ⟨ihv, ihl, iho⟩ := ih
    refine ⟨fun i dp t p j t' e hb K hK => ?_, fun i dp t ks p j t' e K hK => ?_, fun i dp t ks ns p j t' e K hK => ?_⟩
    · have hs := skip_ge l i
      have hlt : skip l i < l.length := by
        rcases Nat.lt_or_ge (skip l i) l.length with h1 | h1
        · exact h1
        · exfalso
          have hp0 : pk l (skip l i) = 0 := by simp [pk, List.getD_eq_getElem?_getD, List.getElem?_eq_none h1]
          simp only [valueJ, hp0] at e
          simp [isDig] at e
      obtain ⟨K, rfl⟩ : ∃ g, K = g + 1 := ⟨K - 1, by omega⟩
      simp only [valueJ] at e ⊢
      rw [skip_pre h hlt, h.pk hlt]
      split at e
      · rename_i h1
        rw [if_pos h1]
        split at e
        · simp at e
        · rename_i h2
          rw [if_neg h2]
          exact iho _ _ _ _ _ _ _ _ e K (by omega)
      · rename_i h1
        rw [if_neg h1]
        split at e
        · rename_i h1
          rw [if_pos h1]
          split at e
          · simp at e
          · rename_i h2
            rw [if_neg h2]
            exact ihl _ _ _ _ _ _ _ e K (by omega)
        · rename_i h1
          rw [if_neg h1]
          split at e
          · rename_i h1
            rw [if_pos h1]
            split at e
            · simp at e
            · rename_i s j' ht
              rw [textJ_pre h ht]
              exact e
          · rename_i h1
            rw [if_neg h1]
            split at e
            · rename_i h1
              rw [if_pos h1]
              split at e
              · simp at e
              · rename_i n j' ht
                have hj : j' = j := by simp only [Except.ok.injEq, Prod.mk.injEq] at e; exact e.2.1
                subst hj
                have hjl : j' < l.length := by
                  rcases hb with hb | ⟨hb1, hb2⟩
                  · exact hb
                  · rcases h1 with h1 | h1
                    · exact absurd h1 hb1
                    · rw [hb2] at h1; cases h1
                rw [numberJ_pre h ht hjl]
                exact e
            · rename_i h1
              rw [if_neg h1]
              split at e
              · rename_i h1
                rw [if_pos h1]
                split at e
                · simp at e
                · rename_i j' ht
                  rw [wordJ_pre h (by simp) ht]
                  exact e
              · rename_i h1
                rw [if_neg h1]
                split at e
                · rename_i h1
                  rw [if_pos h1]
                  split at e
                  · simp at e
                  · rename_i j' ht
                    rw [wordJ_pre h (by simp) ht]
                    exact e
                · rename_i h1
                  rw [if_neg h1]
                  split at e
                  · rename_i h1
                    rw [if_pos h1]
                    split at e
                    · simp at e
                    · rename_i j' ht
                      rw [wordJ_pre h (by simp) ht]
                      exact e
                  · simp at e
    · have hs := skip_ge l i
      have hg := (grew_all l (k + 1)).2.1 i dp t ks p j t' e
      obtain ⟨K, rfl⟩ : ∃ g, K = g + 1 := ⟨K - 1, by omega⟩
      simp only [listJ] at e ⊢
      split at e
      · rename_i h1
        have hlt := pk_nz (by decide) h1
        rw [skip_pre h hlt, h.pk hlt, if_pos h1]
        exact e
      · rename_i h1
        split at e
        · simp at e
        · rename_i h2
          split at e
          · simp at e
          · rename_i q j' t2 hv
            have hv1 := val_lt hv
            have hl2 := (grew_all l k).2.1 _ _ _ _ _ _ _ e
            have hb : skip l i ≤ (if ks = [] then skip l i else skip l i + 1) := by split <;> omega
            have hlt : skip l i < l.length := by omega
            rw [skip_pre h hlt, h.pk hlt, if_neg h1, if_neg h2]
            rw [ihv _ _ _ _ _ _ hv (.inl (by have := hl2.1; have := hl2.2.1; omega)) K (by omega)]
            exact ihl _ _ _ _ _ _ _ e K (by omega)
    · have hs := skip_ge l i
      obtain ⟨K, rfl⟩ : ∃ g, K = g + 1 := ⟨K - 1, by omega⟩
      simp only [objectJ] at e ⊢
      split at e
      · rename_i h1
        have hlt := pk_nz (by decide) h1
        rw [skip_pre h hlt, h.pk hlt, if_pos h1]
        exact e
      · rename_i h1
        split at e
        · simp at e
        · rename_i h2
          have hs3 := skip_ge l (skip l i + 1)
          have hb : skip l i ≤ (if ks = [] then skip l i else skip l (skip l i + 1)) := by split <;> omega
          obtain ⟨j1, hj1⟩ : ∃ x, (if ks = [] then skip l i else skip l (skip l i + 1)) = x := ⟨_, rfl⟩
          rw [hj1] at e hb
          split at e
          · simp at e
          · rename_i h34
            have h34' : pk l j1 = 34 := by simpa using h34
            have hltj := pk_nz (by decide) h34'
            have hlt : skip l i < l.length := by omega
            have hj : (if ks = [] then skip L i else skip L (skip L i + 1)) = j1 := by
              rw [skip_pre h hlt, ← hj1]
              split
              · rfl
              · rename_i hk
                rw [if_neg hk] at hj1
                rw [skip_pre h (by rw [hj1]; exact hltj)]
            rw [hj]
            rw [skip_pre h hlt, h.pk hlt, if_neg h1, if_neg h2]
            rw [h.pk hltj, if_neg h34]
            split at e
            · simp at e
            · rename_i s j2 ht
              rw [textJ_pre h ht]
              simp only
              split at e
              · simp at e
              · rename_i hin
                rw [if_neg hin]
                split at e
                · simp at e
                · rename_i h58
                  have h58' : pk l (skip l j2) = 58 := by simpa using h58
                  have hlt3 := pk_nz (by decide) h58'
                  rw [skip_pre h hlt3, h.pk hlt3, if_neg h58]
                  split at e
                  · simp at e
                  · rename_i q j' t2 hv
                    have hjt := textJ_ok ht
                    have hs2 := skip_ge l j2
                    have hv1 := val_lt hv
                    have hl2 := (grew_all l k).2.2 _ _ _ _ _ _ _ _ e
                    rw [ihv _ _ _ _ _ _ hv (.inl (by have := hl2.1; have := hl2.2.1; omega)) K (by omega)]
                    exact iho _ _ _ _ _ _ _ _ e K (by omega)
/-- A shorter beginning of a value's whole text is refused. -/
theorem parse_cut {L : List UInt8} {p j : Nat} {t' : List JV} {K : Nat} (hK : 2 * L.length + 2 ≤ K) (hv : valueJ L K 0 0 [] = .ok (p, j, t')) (hj : j = L.length) (h0 : skip L 0 = 0) (hno : pk L 0 ≠ 45 ∧ isDig (pk L 0) = false) (c : Nat) (hc : c < L.length) : ∃ at_ e, parseJ (L.take c) = .error (at_, e) := by
  cases hp : parseJ (L.take c) with
  | error e => exact ⟨e.1, e.2, rfl⟩
  | ok t =>
    exfalso
    have hl : (L.take c).length = c := by rw [List.length_take]; omega
    have hpre : Pre (L.take c) L := ⟨L.drop c, (List.take_append_drop c L).symm⟩
    unfold parseJ at hp
    split at hp
    · cases hp
    · split at hp
      · cases hp
      · rename_i q j' t2 hv2
        have hj2 := val_lt hv2
        have hc0 : 0 < (L.take c).length := by omega
        have hpk := hpre.pk hc0
        have hsk : skip (L.take c) 0 = 0 := by
          cases hL : L with
          | nil => rw [hL] at hc; simp at hc
          | cons x xs =>
            have hx : isBl x = false := by
              rw [hL] at h0
              unfold skip at h0
              rw [List.drop_zero, skipBl] at h0
              split at h0
              · omega
              · rename_i h; simpa using h
            obtain ⟨c', rfl⟩ : ∃ g, c = g + 1 := ⟨c - 1, by omega⟩
            unfold skip
            rw [List.take_succ_cons, List.drop_zero, skipBl, if_neg (by rw [hx]; simp)]
        have := (pre_all hpre _).1 _ _ _ _ _ _ hv2 (.inr (by rw [hsk, ← hpk]; exact hno)) K (by omega)
        rw [hv] at this
        simp only [Except.ok.injEq, Prod.mk.injEq] at this
        omega
end Go.Proofs.YtknmbfkpclacgaaGreatDoor

/- json.Text, Valid, Quote, Get: the walks. -/
set_option linter.unusedSimpArgs false
namespace Go.Proofs.YtknmbfkpclacgaaGreatDoor
open Go.RowKit

/-- A value of modest strings. -/
structure VSm (v : JV) : Prop where
  text : v.text.length ≤ 1099511627776
  strs : ∀ s ∈ v.names, s.length ≤ 1099511627776
  names : v.names.length ≤ 1099511627776
def Sm (t : List JV) : Prop := ∀ j (hj : j < t.length), VSm t[j]
theorem Sm.ok {t : List JV} (h : Sm t) : ∀ j (hj : j < t.length), VOk t[j] := fun j hj =>
  ⟨by have := (h j hj).names; omega, fun s hs => by have := (h j hj).strs s hs; omega, by have := (h j hj).text; omega⟩
theorem TRd.mono {w : World} {B B' : Nat} {A : Option Addr} {xs : List VC} {t : List JV} (h : TRd w B A xs t) (hB : B ≤ B') : TRd w B' A xs t :=
  ⟨h.row.mono hB, h.len, h.tl, fun i hi => by
    have hv := h.vals i hi
    obtain ⟨A1, c1, h1, h2⟩ := hv.kids
    obtain ⟨A2, c2, h3, h4⟩ := hv.names
    exact ⟨hv.kind, hv.truth, hv.n, hv.text, ⟨A1, c1, h1, h2.mono hB⟩, ⟨A2, c2, h3, h4.mono hB⟩, hv.kl, hv.nl⟩⟩
theorem NumOk.mono {w : World} {B B' : Nat} (h : NumOk w B) (hB : B ≤ B') : NumOk w B' := ⟨fun W hW => h.tab W (hW.mono hB)⟩
/-- the tree's text, or nothing -/
def tx (t : List JV) : List UInt8 := if mayJ t = 0 then writeJ t t.length (t.length - 1) else []
set_option maxRecDepth 100000 in
set_option maxHeartbeats 4000000 in
theorem jvalid_any (t : List JV) (A : Option Addr) (cap B : Nat) (xs : List VC) (w : World) (hT : TRd w B A xs t) (hB : B ≤ w.heap.size) (hs : Sm t) :
    Calls Tryz.prog 24 #[.slice A t.length cap] w fun e w' => e = .returned (.bool (decide (mayJ t = 0))) ∧ Chg (fun _ => False) w w' := by
  have h := may_any t A cap B xs w hT hB hs.ok
  clear hT hs
  go_enter Tryz.func24, Tryz.ntmps24
  go_wp2_with fail
  refine h.mono ?_
  rintro e w2 ⟨rfl, hch⟩
  obtain ⟨m, hmm⟩ : ∃ m, mayJ t = m := ⟨_, rfl⟩
  rw [hmm]
  have HM := Lib.hid hmm
  clear h hmm
  go_wp2_with fail
  go_ret
  refine ⟨?_, hch⟩
  rw [HM.out]
  by_cases hm : m = 0
  · subst hm; rfl
  · have h1 : (m == 0) = false := by rw [beq_eq_false_iff_ne]; exact hm
    rw [decide_eq_false hm, ← h1]
    rfl

set_option maxRecDepth 100000 in
set_option maxHeartbeats 4000000 in
theorem jtext_any (t : List JV) (A : Option Addr) (cap B : Nat) (xs : List VC) (w : World) (hT : TRd w B A xs t) (hB : B ≤ w.heap.size) (hs : Sm t) (hS : ShortOk w B) (hN : NumOk w B) (hl : (tx t).length ≤ 70368744177664) :
    Calls Tryz.prog 22 #[.slice A t.length cap] w fun e w' => e = .returned (.tuple #[.string ⟨(tx t).toArray⟩, .int .i64 (mayJ t)]) ∧ Chg (fun _ => False) w w' := by
  have h := may_any t A cap B xs w hT hB hs.ok
  have HT := Lib.hid hT
  have HS := Lib.hid hS
  have HN := Lib.hid hN
  have HSM := Lib.hid hs
  clear hT hS hN hs
  go_enter Tryz.func22, Tryz.ntmps22
  go_wp2_with fail
  refine h.mono ?_
  rintro e w2 ⟨rfl, hch⟩
  by_cases hm : mayJ t = 0
  · have htx : tx t = writeJ t t.length (t.length - 1) := by unfold tx; rw [if_pos hm]
    rw [htx] at hl
    have HTX := Lib.hid htx
    have HM := Lib.hid hm
    have hpos := (good_of_may hm).2.1
    have hG := (good_of_may hm).1
    have htl := HT.out.tl
    have hw := fun (W : World) (hW : Chg (fun _ => False) w W) (hlt : w2.heap.size < W.heap.size) (hb : IsBu w2.heap.size w2.heap.size [] W) =>
      write_any t A cap xs w2.heap.size w2.heap.size hG.kids hG.used (fun j hj => ⟨⟨hG.text j hj, (HSM.out j hj).text⟩, fun s hs => ⟨hG.names j hj s hs, (HSM.out j hj).strs s hs⟩⟩) (fun j hj => by have := hG.num j hj; omega) (t.length - 1) [] W (by omega)
        ((HT.out.keep (hW.below hB (fun _ h => h.elim))).mono (Nat.le_trans hB hch.size)) ((HS.out.keep (hW.below hB (fun _ h => h.elim))).mono (Nat.le_trans hB hch.size)) ((HN.out.keep (hW.below hB (fun _ h => h.elim))).mono (Nat.le_trans hB hch.size)) hb (by simp only [List.length_nil]; rw [show t.length - 1 + 1 = t.length by omega]; omega) (by omega)
    rw [show t.length - 1 + 1 = t.length by omega, List.nil_append] at hw
    have e1 : ((t.length : Int) - 1) = ((t.length - 1 : Nat) : Int) := by omega
    have HW := Lib.hid hw
    generalize writeJ t t.length (t.length - 1) = R at *
    clear hw hG h htx
    rw [hm]
    clear hm
    go_wp2_with fail
    refine (HW.out _ (hch.alloc _) (by rw [World.size_alloc]; omega) (Lib.IsBuilderF.of (Lib.fresh_isBuilder 106 5 w2))).mono ?_
    rintro e w3 ⟨rfl, h3, b3, _⟩
    have hb23 : Below w2.heap.size w2 w3 := ((Below.refl _ w2).alloc (Nat.le_refl _) _).trans b3
    have hsz3 : w2.heap.size ≤ w3.heap.size := by have := b3.size; rw [World.size_alloc] at this; omega
    clear b3
    go_wp2_with fail
    refine (Tryz.Builder_String_any_k w2.heap.size w2.heap.size R _ h3 hsz3).mono ?_
    rintro e w4 ⟨rfl, _, b4, _⟩
    have hch4 : Chg (fun _ => False) w w4 := hch.trans (Chg.of_below' (hb23.trans b4))
    go_wp2_with fail
    go_ret2
    exact ⟨by rw [HTX.out, HM.out]; rfl, hch4⟩
  · have htx : tx t = [] := by unfold tx; rw [if_neg hm]
    have HTX := Lib.hid htx
    obtain ⟨m, hmm⟩ : ∃ m, mayJ t = m := ⟨_, rfl⟩
    rw [hmm] at hm ⊢
    have HM := Lib.hid hmm
    have hne : (m == 0) = false := by rw [beq_eq_false_iff_ne]; exact hm
    clear htx hl h hmm
    go_wp2_with fail
    go_ret2
    exact ⟨by rw [HTX.out, HM.out]; rfl, hch⟩

def qtx (s : List UInt8) : List UInt8 := if validL s then quoteJ s else []
def qerr (s : List UInt8) : Int := if validL s then 0 else 243
set_option maxRecDepth 100000 in
set_option maxHeartbeats 4000000 in
theorem jquote_any (s : List UInt8) (w : World) (hS : ShortOk w w.heap.size) (hl : s.length ≤ 1099511627776) :
    Calls Tryz.prog 27 #[.string ⟨s.toArray⟩] w fun e w' => e = .returned (.tuple #[.string ⟨(qtx s).toArray⟩, .int .i64 (qerr s)]) ∧ Chg (fun _ => False) w w' := by
  have HS := Lib.hid hS
  clear hS
  go_enter Tryz.func27, Tryz.ntmps27
  go_wp2_with fail
  refine (valid_any s _ (by omega)).mono ?_
  rintro e w2 ⟨rfl, hch⟩
  cases hv : validL s with
  | false =>
    have e1 : qtx s = [] := by unfold qtx; rw [hv]; rfl
    have e2 : qerr s = 243 := by unfold qerr; rw [hv]; rfl
    have E1 := Lib.hid e1
    have E2 := Lib.hid e2
    clear hv e1 e2
    go_wp2_with fail
    go_ret2
    exact ⟨by rw [E1.out, E2.out]; rfl, hch⟩
  | true =>
    have HV := Lib.hid hv
    have e1 : qtx s = quoteJ s := by unfold qtx; rw [hv]; rfl
    have e2 : qerr s = 0 := by unfold qerr; rw [hv]; rfl
    have E1 := Lib.hid e1
    have E2 := Lib.hid e2
    clear hv e1 e2
    go_wp2_with fail
    refine (quoted_any s w2 ((HS.out.keep (hch.below (Nat.le_refl _) (fun _ h => h.elim))).mono hch.size) HV.out hl).mono ?_
    rintro e w3 ⟨rfl, hb⟩
    go_wp2_with fail
    go_ret2
    exact ⟨by rw [E1.out, E2.out]; rfl, hch.trans (Chg.of_below' hb)⟩

/-! ### Get -/
theorem idx_list (name : List UInt8) : ∀ ns : List (List UInt8), Lib.idxOfS (ns.map fun l : List UInt8 => (⟨l.toArray⟩ : ByteArray)) ⟨name.toArray⟩ = if ns.idxOf name < ns.length then ((ns.idxOf name : Nat) : Int) else -1 := by
  have key : ∀ (ns : List (List UInt8)) (i : Nat), Lib.idxFromS (ns.map fun l : List UInt8 => (⟨l.toArray⟩ : ByteArray)) ⟨name.toArray⟩ i = if ns.idxOf name < ns.length then ((i + ns.idxOf name : Nat) : Int) else -1 := by
    intro ns
    induction ns with
    | nil => intro i; rfl
    | cons s ns ih =>
      intro i
      rw [List.map_cons, Lib.idxFromS]
      by_cases h : s = name
      · subst h
        simp [List.idxOf_cons]
      · have hb : ¬ ((⟨s.toArray⟩ : ByteArray) = ⟨name.toArray⟩) := fun e => h (by
          have := congrArg (fun b : ByteArray => b.data.toList) e
          simpa using this)
        rw [if_neg hb, ih]
        have e : (s :: ns).idxOf name = ns.idxOf name + 1 := by
          rw [List.idxOf_cons]
          have : (s == name) = false := by rw [beq_eq_false_iff_ne]; exact h
          rw [this]; rfl
        rw [e, List.length_cons]
        by_cases hl : ns.idxOf name < ns.length
        · rw [if_pos hl, if_pos (by omega)]; omega
        · rw [if_neg hl, if_neg (by omega)]
  intro ns
  unfold Lib.idxOfS
  rw [key ns 0]
  simp
theorem index_any (ns : List (List UInt8)) (name : List UInt8) (A : Option Addr) (cap B : Nat) (w : World) (hN : Ro w B A (strs ns)) (hl : ns.length ≤ 140737488355328) :
    Calls Tryz.prog 61 #[.slice A ns.length cap, .string ⟨name.toArray⟩] w fun e w' => e = .returned (.int .i64 (if ns.idxOf name < ns.length then ((ns.idxOf name : Nat) : Int) else -1)) ∧ w' = w := by
  by_cases h0 : ns.length = 0
  · have hnil : ns = [] := List.length_eq_zero_iff.1 h0
    subst hnil
    refine (Tryz.slices_Index_string_empty A cap ⟨name.toArray⟩ w).mono ?_
    rintro e w' ⟨rfl, rfl⟩
    exact ⟨rfl, rfl⟩
  · obtain ⟨b, o, rfl, hbB, hc⟩ := hN (by rw [strs_length]; omega)
    have h := Tryz.slices_Index_string b o ns.length cap (ns.map fun l : List UInt8 => (⟨l.toArray⟩ : ByteArray)) ⟨name.toArray⟩ w (by simp) (by omega) (fun j hj => by
      have hj' : j < ns.length := by simpa using hj
      refine hc j _ ?_
      simp [strs, hj', List.getD_eq_getElem?_getD])
    refine h.mono ?_
    rintro e w' ⟨rfl, rfl⟩
    have ht : (ns.map fun l : List UInt8 => (⟨l.toArray⟩ : ByteArray)).take ns.length = (ns.map fun l : List UInt8 => (⟨l.toArray⟩ : ByteArray)) := List.take_of_length_le (by simp)
    rw [ht, idx_list]
    exact ⟨rfl, rfl⟩

set_option maxRecDepth 100000 in
set_option maxHeartbeats 4000000 in
theorem jget_any (t : List JV) (o : Int) (name : List UInt8) (A : Option Addr) (cap B : Nat) (xs : List VC) (w : World) (hT : TRd w B A xs t) (hB : B ≤ w.heap.size) (hs : Sm t) :
    Calls Tryz.prog 25 #[.slice A t.length cap, .int .i64 o, .string ⟨name.toArray⟩] w fun e w' => e = .returned (.int .i64 (getJ t o name)) ∧ Chg (fun _ => False) w w' := by
  have h := jvalid_any t A cap B xs w hT hB hs
  have HT := Lib.hid hT
  have HSM := Lib.hid hs
  have htl := hT.tl
  have hg : getJ t o name = getJ t o name := rfl
  conv at hg => rhs; unfold getJ
  have HGJ := Lib.hid hg
  clear hT hs hg
  go_enter Tryz.func25, Tryz.ntmps25
  go_wp2_with fail
  refine h.mono ?_
  rintro e w2 ⟨rfl, hch⟩
  by_cases hm : mayJ t = 0
  · rw [decide_eq_true hm]
    have HM := Lib.hid hm
    clear h hm
    by_cases ho : o < 0
    · have HO := Lib.hid ho
      go_wp2_with fail
      go_ret
      refine ⟨?_, hch⟩
      rw [HGJ.out, if_pos (.inr (.inl HO.out))]
      rfl
    · by_cases ho2 : (t.length : Int) ≤ o
      · have HO := Lib.hid ho2
        have HO1 := Lib.hid ho
        go_wp2_with fail
        go_ret
        refine ⟨?_, hch⟩
        rw [HGJ.out, if_pos (.inr (.inr (.inl HO.out)))]
        rfl
      · obtain ⟨i, rfl⟩ : ∃ i : Nat, o = i := ⟨o.toNat, by omega⟩
        have hi : i < t.length := by omega
        have hgd : t.getD i jNull = t[i] := getD_at t i hi
        have hT2 := HT.out.keep (hch.below hB (fun _ h => h.elim))
        obtain ⟨b, oo, Ak, ck, An, cn, hA, hbB, c0, c1, c2, c3, c4, c5, hkr, hnr, hkl, hnl⟩ := hT2.at i hi
        subst hA
        have hgj := HGJ.out
        simp only [Int.toNat_natCast, hgd] at hgj
        have hidx := index_any t[i].names name An cn B w2 hnr hnl
        have hkn : mayJ t = 0 → t[i].kind = 6 → t[i].kids.length = t[i].names.length := fun hm h6 => by
          have hu := (good_of_may hm).1.used i hi
          unfold usedJ at hu
          simp only [h6] at hu
          simp at hu
          exact hu.2
        generalize t[i] = v at *
        have HGJ2 := Lib.hid hgj
        have HKN := Lib.hid hkn
        have HKR := Lib.hid hkr
        clear hgj hkn hkr hnr hT2 hgd HGJ
        by_cases hk : v.kind = 6
        · have HK := Lib.hid hk
          rw [hk] at c0
          have hx1 := HGJ2.out
          rw [if_neg (by rw [HM.out, hk]; simp; omega)] at hx1
          have HX := Lib.hid hx1
          clear hx1 hk
          go_wp2_with fail
          refine hidx.mono ?_
          rintro e w3 ⟨rfl, rfl⟩
          by_cases hin : v.names.idxOf name < v.names.length
          · rw [if_pos hin]
            have hlt : v.names.idxOf name < v.kids.length := by rw [HKN.out HM.out HK.out]; exact hin
            obtain ⟨b2, o2, hAk, hb2, k0⟩ := HKR.out.int (v.names.idxOf name) hlt
            have hx2 := HX.out
            rw [if_pos hin] at hx2
            have hgd2 : v.kids.getD (v.names.idxOf name) 0 = v.kids[v.names.idxOf name] := by simp [List.getD_eq_getElem?_getD, hlt]
            rw [hgd2] at hx2
            clear hgd2
            generalize v.kids[v.names.idxOf name] = kv at k0 hx2
            have HX2 := Lib.hid hx2
            subst hAk
            clear hx2 hin hidx
            generalize hmi : v.names.idxOf name = m at *
            clear hmi
            go_wp2_with fail
            go_ret
            refine ⟨?_, hch⟩
            rw [HX2.out]
            rfl
          · rw [if_neg hin]
            have hx2 := HX.out
            rw [if_neg hin] at hx2
            have HX2 := Lib.hid hx2
            clear hx2 hin hidx
            go_wp2_with fail
            go_ret
            refine ⟨?_, hch⟩
            rw [HX2.out]
            rfl
        · have HK := Lib.hid hk
          have hkf : (v.kind == 6) = false := by rw [beq_eq_false_iff_ne]; exact hk
          have hkn : (v.kind != 6) = true := by rw [bne, hkf]; rfl
          clear hidx
          go_wp2_with fail
          go_ret
          refine ⟨?_, hch⟩
          rw [HGJ2.out, if_pos (.inr (.inr (.inr HK.out)))]
          rfl
  · rw [decide_eq_false hm]
    have HM := Lib.hid hm
    clear h hm
    go_wp2_with fail
    go_ret
    refine ⟨?_, hch⟩
    rw [HGJ.out, if_pos (.inl HM.out)]
    rfl
end Go.Proofs.YtknmbfkpclacgaaGreatDoor
