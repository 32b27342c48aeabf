/- Plain lemmas on the parser's function: places grow, values go behind the tree. -/
import Derived.Test.YtknmbfkpclacgaaDoorJb
set_option linter.unusedSimpArgs false
namespace Go.Proofs.YtknmbfkpclacgaaDoor

theorem skipBl_le (l : List UInt8) : skipBl l ≤ l.length := by
  induction l with
  | nil => simp [skipBl]
  | cons c r ih => simp only [skipBl]; split <;> simp <;> omega
theorem skip_ge (l : List UInt8) (i : Nat) : i ≤ skip l i := by unfold skip; omega
theorem skip_le (l : List UInt8) (i : Nat) (h : i ≤ l.length) : skip l i ≤ l.length := by
  unfold skip; have := skipBl_le (l.drop i); simp at this; omega
theorem pk_nz {l : List UInt8} {i : Nat} {c : UInt8} (hc : c ≠ 0) (h : pk l i = c) : i < l.length := by
  rcases Nat.lt_or_ge i l.length with h' | h'
  · exact h'
  · exfalso; apply hc; rw [← h]; simp [pk, List.getD_eq_getElem?_getD, List.getElem?_eq_none h']
theorem pk_nz' {l : List UInt8} {i : Nat} (h : pk l i ≠ 0) : i < l.length := pk_nz h rfl
theorem nDigs_le (l : List UInt8) : nDigs l ≤ l.length := by
  induction l with
  | nil => simp [nDigs]
  | cons c r ih => simp only [nDigs]; split <;> simp <;> omega
theorem numberJ_ok {l : List UInt8} {i : Nat} {n : Int} {j : Nat} (h : numberJ l i = .ok (n, j)) : i < j ∧ j ≤ l.length := by
  unfold numberJ at h
  simp only at h
  generalize hf : (if (pk l i == 45) = true then i + 1 else i) = f at h
  have hfi : i ≤ f := by subst hf; split <;> omega
  generalize (if (pk l i == 45) = true then -(digs (l.drop f) 0 : Int) else (digs (l.drop f) 0 : Int)) = v at h
  clear hf
  split at h
  · simp at h
  · rename_i hc
    simp only [Except.ok.injEq, Prod.mk.injEq] at h
    obtain ⟨_, rfl⟩ := h
    have h1 : ¬ nDigs (l.drop f) = 0 := fun h => hc (.inl h)
    have h2 := nDigs_le (l.drop f)
    rw [List.length_drop] at h2
    omega
theorem wordJ_ok {l : List UInt8} {i j : Nat} {w : List UInt8} (hw : 0 < w.length) (h : wordJ l i w = .ok j) : i < j ∧ j ≤ l.length := by
  unfold wordJ at h
  split at h
  · rename_i he
    simp only [Except.ok.injEq] at h
    subst h
    have := congrArg List.length he
    simp only [List.length_take, List.length_drop] at this
    omega
  · simp at h
theorem takeJ_lt {l : List UInt8} {i : Nat} {c : UInt8} (h : takeJ l i = .ok c) : i < l.length := by
  unfold takeJ at h; split at h
  · assumption
  · simp at h
theorem fourJ_len (l : List UInt8) (begin : Nat) : ∀ (k i n m : Nat), fourJ l begin k i n = .ok m → i ≤ l.length → i + k ≤ l.length
  | 0, i, n, m, _, hi => hi
  | k + 1, i, n, m, h, hi => by
    simp only [fourJ] at h
    split at h
    · simp at h
    · rename_i ht
      have := takeJ_lt ht
      split at h
      · simp at h
      · have := fourJ_len l begin k _ _ m h (by omega)
        omega
theorem escapeJ_len {l : List UInt8} {i r j : Nat} (h : escapeJ l i = .ok (r, j)) : i < j ∧ j ≤ l.length := by
  unfold escapeJ at h
  split at h
  · simp at h
  · rename_i c ht
    have h1 := takeJ_lt ht
    split at h
    · simp only [Except.ok.injEq, Prod.mk.injEq] at h; omega
    · split at h
      · simp at h
      · split at h
        · simp at h
        · rename_i n hn
          have hl := fourJ_len _ _ _ _ _ _ hn (by omega)
          split at h
          · simp at h
          · split at h
            · simp only [Except.ok.injEq, Prod.mk.injEq] at h; omega
            · split at h
              · simp at h
              · split at h
                · simp at h
                · split at h
                  · simp at h
                  · rename_i ht7
                    have h7 := takeJ_lt ht7
                    split at h
                    · simp at h
                    · split at h
                      · simp at h
                      · rename_i m hm
                        have hl2 := fourJ_len _ _ _ _ _ _ hm (by omega)
                        split at h
                        · simp at h
                        · simp only [Except.ok.injEq, Prod.mk.injEq] at h; omega
theorem textGo_ok (l : List UInt8) : ∀ (k i : Nat) (out s : List UInt8) (j : Nat), textGo l k i out = .ok (s, j) → i < j ∧ j ≤ l.length
  | 0, i, out, s, j, h => by simp [textGo] at h
  | k + 1, i, out, s, j, h => by
    rw [textGo] at h
    split at h
    · rename_i hi
      split at h
      · simp only [Except.ok.injEq, Prod.mk.injEq] at h; omega
      · split at h
        · split at h
          · simp at h
          · rename_i r j' he
            have h1 := escapeJ_len he
            have h2 := textGo_ok l k _ _ _ _ h
            omega
        · split at h
          · simp at h
          · split at h
            · simp at h
            · rename_i r n hd
              have h1 := dec_enc _ _ _ hd
              split at h
              · simp at h
              · have h2 := textGo_ok l k _ _ _ _ h
                omega
    · simp at h
theorem textJ_ok {l : List UInt8} {i : Nat} {s : List UInt8} {j : Nat} (h : textJ l i = .ok (s, j)) : i + 1 < j ∧ j ≤ l.length := textGo_ok _ _ _ _ _ _ h

/-- What an answer of the parser's functions says: it lies behind the place, the values are new ones behind the tree, the last is the answer. -/
def Grew (l : List UInt8) (i : Nat) (t : List JV) (p j : Nat) (t' : List JV) : Prop := i < j ∧ j ≤ l.length ∧ (∃ n, t' = t ++ n ∧ n.length + i ≤ j) ∧ p + 1 = t'.length
theorem Grew.one {l : List UInt8} {i i' j : Nat} {t : List JV} {v : JV} (h : i' ≤ i) (h1 : i < j) (h2 : j ≤ l.length) : Grew l i' t t.length j (t ++ [v]) :=
  ⟨by omega, h2, ⟨[v], rfl, by simp; omega⟩, by simp⟩

theorem grew_all (l : List UInt8) : ∀ k : Nat,
    (∀ i dp t p j t', valueJ l k i dp t = .ok (p, j, t') → Grew l i t p j t') ∧
    (∀ i dp t ks p j t', listJ l k i dp t ks = .ok (p, j, t') → Grew l i t p j t') ∧
    (∀ i dp t ks ns p j t', objectJ l k i dp t ks ns = .ok (p, j, t') → Grew l i t p j t') := by
  intro k
  induction k with
  | zero =>
    refine ⟨fun i dp t p j t' h => ?_, fun i dp t ks p j t' h => ?_, fun i dp t ks ns p j t' h => ?_⟩
    · simp [valueJ] at h
    · simp [listJ] at h
    · simp [objectJ] at h
  | succ k ih =>
    obtain ⟨ihv, ihl, iho⟩ := ih
    refine ⟨fun i dp t p j t' h => ?_, fun i dp t ks p j t' h => ?_, fun i dp t ks ns p j t' h => ?_⟩
    · have hs := skip_ge l i
      simp only [valueJ] at h
      split at h
      · split at h
        · simp at h
        · obtain ⟨h1, h2, ⟨n, h3, h4⟩, h5⟩ := iho _ _ _ _ _ _ _ _ h
          exact ⟨by omega, h2, ⟨n, h3, by omega⟩, h5⟩
      · split at h
        · split at h
          · simp at h
          · obtain ⟨h1, h2, ⟨n, h3, h4⟩, h5⟩ := ihl _ _ _ _ _ _ _ h
            exact ⟨by omega, h2, ⟨n, h3, by omega⟩, h5⟩
        · split at h
          · split at h
            · simp at h
            · rename_i s j' ht
              simp only [Except.ok.injEq, Prod.mk.injEq] at h
              obtain ⟨rfl, rfl, rfl⟩ := h
              have := textJ_ok ht
              exact .one hs (by omega) this.2
          · split at h
            · split at h
              · simp at h
              · rename_i s j' ht
                simp only [Except.ok.injEq, Prod.mk.injEq] at h
                obtain ⟨rfl, rfl, rfl⟩ := h
                have := numberJ_ok ht
                exact .one hs (by omega) this.2
            · split at h
              · split at h
                · simp at h
                · rename_i j' ht
                  simp only [Except.ok.injEq, Prod.mk.injEq] at h
                  obtain ⟨rfl, rfl, rfl⟩ := h
                  have := wordJ_ok (by simp) ht
                  exact .one hs (by omega) this.2
              · split at h
                · split at h
                  · simp at h
                  · rename_i j' ht
                    simp only [Except.ok.injEq, Prod.mk.injEq] at h
                    obtain ⟨rfl, rfl, rfl⟩ := h
                    have := wordJ_ok (by simp) ht
                    exact .one hs (by omega) this.2
                · split at h
                  · split at h
                    · simp at h
                    · rename_i j' ht
                      simp only [Except.ok.injEq, Prod.mk.injEq] at h
                      obtain ⟨rfl, rfl, rfl⟩ := h
                      have := wordJ_ok (by simp) ht
                      exact .one hs (by omega) this.2
                  · simp at h
    · have hs := skip_ge l i
      simp only [listJ] at h
      split at h
      · rename_i hp
        simp only [Except.ok.injEq, Prod.mk.injEq] at h
        obtain ⟨rfl, rfl, rfl⟩ := h
        have := pk_nz (by decide) hp
        exact .one hs (by omega) (by omega)
      · split at h
        · simp at h
        · split at h
          · simp at h
          · rename_i q j' t2 hv
            obtain ⟨h1, h2, ⟨n, h3, h4⟩, h5⟩ := ihv _ _ _ _ _ _ hv
            obtain ⟨g1, g2, ⟨m, g3, g4⟩, g5⟩ := ihl _ _ _ _ _ _ _ h
            have hb : skip l i ≤ (if ks = [] then skip l i else skip l i + 1) := by split <;> omega
            exact ⟨by omega, g2, ⟨n ++ m, by rw [g3, h3, List.append_assoc], by simp; omega⟩, g5⟩
    · have hs := skip_ge l i
      simp only [objectJ] at h
      split at h
      · rename_i hp
        simp only [Except.ok.injEq, Prod.mk.injEq] at h
        obtain ⟨rfl, rfl, rfl⟩ := h
        have := pk_nz (by decide) hp
        exact .one hs (by omega) (by omega)
      · have hb : skip l i ≤ (if ks = [] then skip l i else skip l (skip l i + 1)) := by
          have hs3 := skip_ge l (skip l i + 1)
          split <;> omega
        generalize (if ks = [] then skip l i else skip l (skip l i + 1)) = j1 at h hb
        split at h
        · simp at h
        · split at h
          · simp at h
          · split at h
            · simp at h
            · rename_i s j2 ht
              split at h
              · simp at h
              · split at h
                · simp at h
                · split at h
                  · simp at h
                  · rename_i q j' t2 hv
                    have hj := textJ_ok ht
                    have hs2 := skip_ge l j2
                    obtain ⟨h1, h2, ⟨n, h3, h4⟩, h5⟩ := ihv _ _ _ _ _ _ hv
                    obtain ⟨g1, g2, ⟨m, g3, g4⟩, g5⟩ := iho _ _ _ _ _ _ _ _ h
                    exact ⟨by omega, g2, ⟨n ++ m, by rw [g3, h3, List.append_assoc], by simp; omega⟩, g5⟩
end Go.Proofs.YtknmbfkpclacgaaDoor
