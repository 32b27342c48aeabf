/- Plain law: where the parser refuses, its place lies within the text and its number is not 0. -/
import Derived.Test.YtknmbfkpclacgaaDoorPc
set_option linter.unusedSimpArgs false
namespace Go.Proofs.YtknmbfkpclacgaaDoor

def ErrOk (l : List UInt8) (f : Flt) : Prop := f.1 ≤ l.length ∧ f.2 ≠ 0
theorem takeJ_err {l : List UInt8} {i : Nat} {f : Flt} (h : takeJ l i = .error f) : ErrOk l f := by
  unfold takeJ at h
  split at h
  · cases h
  · simp only [Except.error.injEq] at h; subst h; exact ⟨Nat.le_refl _, by simp⟩
theorem fourJ_err {l : List UInt8} {begin : Nat} (hb : begin ≤ l.length) : ∀ (k i n : Nat) {f : Flt}, fourJ l begin k i n = .error f → ErrOk l f
  | 0, i, n, f, h => by simp [fourJ] at h
  | k + 1, i, n, f, h => by
    rw [fourJ] at h
    split at h
    · rename_i e ht
      simp only [Except.error.injEq] at h; subst h; exact takeJ_err ht
    · split at h
      · simp only [Except.error.injEq] at h; subst h; exact ⟨hb, by simp⟩
      · exact fourJ_err hb k _ _ h
theorem escapeJ_err {l : List UInt8} {i : Nat} {f : Flt} (hi : i ≤ l.length) (h : escapeJ l i = .error f) : ErrOk l f := by
  unfold escapeJ at h
  split at h
  · rename_i e ht
    simp only [Except.error.injEq] at h; subst h; exact takeJ_err ht
  · split at h
    · cases h
    · split at h
      · simp only [Except.error.injEq] at h; subst h; exact ⟨hi, by simp⟩
      · split at h
        · rename_i e ht
          simp only [Except.error.injEq] at h; subst h; exact fourJ_err hi _ _ _ ht
        · split at h
          · simp only [Except.error.injEq] at h; subst h; exact ⟨hi, by simp⟩
          · split at h
            · cases h
            · split at h
              · rename_i e ht
                simp only [Except.error.injEq] at h; subst h; exact takeJ_err ht
              · split at h
                · simp only [Except.error.injEq] at h; subst h; exact ⟨hi, by simp⟩
                · split at h
                  · rename_i e ht
                    simp only [Except.error.injEq] at h; subst h; exact takeJ_err ht
                  · split at h
                    · simp only [Except.error.injEq] at h; subst h; exact ⟨hi, by simp⟩
                    · split at h
                      · rename_i e ht
                        simp only [Except.error.injEq] at h; subst h; exact fourJ_err hi _ _ _ ht
                      · split at h
                        · simp only [Except.error.injEq] at h; subst h; exact ⟨hi, by simp⟩
                        · cases h
theorem textGo_err {l : List UInt8} : ∀ (k i : Nat) (out : List UInt8) {f : Flt}, i ≤ l.length → textGo l k i out = .error f → ErrOk l f
  | 0, i, out, f, hi, h => by
    simp only [textGo, Except.error.injEq] at h; subst h; exact ⟨hi, by simp⟩
  | k + 1, i, out, f, hi, h => by
    rw [textGo] at h
    split at h
    · split at h
      · cases h
      · split at h
        · split at h
          · rename_i e ht
            simp only [Except.error.injEq] at h; subst h; exact escapeJ_err hi ht
          · rename_i r j he
            exact textGo_err k j _ (escapeJ_len he).2 h
        · split at h
          · simp only [Except.error.injEq] at h; subst h; exact ⟨hi, by simp⟩
          · split at h
            · simp only [Except.error.injEq] at h; subst h; exact ⟨hi, by simp⟩
            · rename_i r n hd
              have := dec_enc _ _ _ hd
              rw [List.length_drop] at this
              split at h
              · simp only [Except.error.injEq] at h; subst h; exact ⟨hi, by simp⟩
              · exact textGo_err k (i + n) _ (by omega) h
    · simp only [Except.error.injEq] at h; subst h; exact ⟨Nat.le_refl _, by simp⟩
theorem textJ_err {l : List UInt8} {i : Nat} {f : Flt} (hi : i < l.length) (h : textJ l i = .error f) : ErrOk l f := textGo_err _ _ _ (by omega) h
theorem numberJ_err {l : List UInt8} {i : Nat} {f : Flt} (hi : i ≤ l.length) (h : numberJ l i = .error f) : ErrOk l f := by
  unfold numberJ at h
  simp only at h
  generalize (if (pk l i == 45) = true then i + 1 else i) = g at h
  split at h
  · simp only [Except.error.injEq] at h; subst h; exact ⟨hi, by simp⟩
  · simp at h
theorem wordJ_err {l w : List UInt8} {i : Nat} {f : Flt} (hi : i ≤ l.length) (h : wordJ l i w = .error f) : ErrOk l f := by
  unfold wordJ at h
  split at h
  · cases h
  · simp only [Except.error.injEq] at h; subst h; exact ⟨hi, by simp⟩
theorem err_all (l : List UInt8) : ∀ k : Nat,
    (∀ i dp t f, i ≤ l.length → valueJ l k i dp t = .error f → ErrOk l f) ∧
    (∀ i dp t ks f, i ≤ l.length → listJ l k i dp t ks = .error f → ErrOk l f) ∧
    (∀ i dp t ks ns f, i ≤ l.length → objectJ l k i dp t ks ns = .error f → ErrOk l f) := by
  intro k
  induction k with
  | zero =>
    refine ⟨fun i dp t f hi h => ?_, fun i dp t ks f hi h => ?_, fun i dp t ks ns f hi h => ?_⟩
    · simp only [valueJ, Except.error.injEq] at h; subst h; exact ⟨hi, by simp⟩
    · simp only [listJ, Except.error.injEq] at h; subst h; exact ⟨hi, by simp⟩
    · simp only [objectJ, Except.error.injEq] at h; subst h; exact ⟨hi, by simp⟩
  | succ k ih =>
    obtain ⟨ihv, ihl, iho⟩ := ih
    refine ⟨fun i dp t f hi h => ?_, fun i dp t ks f hi h => ?_, fun i dp t ks ns f hi h => ?_⟩
    · have hs := skip_le l i hi
      simp only [valueJ] at h
      split at h
      · rename_i h1
        have := pk_nz (by decide) h1
        split at h
        · simp only [Except.error.injEq] at h; subst h; exact ⟨hs, by simp⟩
        · exact iho _ _ _ _ _ _ (by omega) h
      · split at h
        · rename_i h1
          have := pk_nz (by decide) h1
          split at h
          · simp only [Except.error.injEq] at h; subst h; exact ⟨hs, by simp⟩
          · exact ihl _ _ _ _ _ (by omega) h
        · split at h
          · rename_i h1
            have := pk_nz (by decide) h1
            split at h
            · rename_i e ht
              simp only [Except.error.injEq] at h; subst h; exact textJ_err this ht
            · cases h
          · split at h
            · split at h
              · rename_i e ht
                simp only [Except.error.injEq] at h; subst h; exact numberJ_err hs ht
              · cases h
            · split at h
              · split at h
                · rename_i e ht
                  simp only [Except.error.injEq] at h; subst h; exact wordJ_err hs ht
                · cases h
              · split at h
                · split at h
                  · rename_i e ht
                    simp only [Except.error.injEq] at h; subst h; exact wordJ_err hs ht
                  · cases h
                · split at h
                  · split at h
                    · rename_i e ht
                      simp only [Except.error.injEq] at h; subst h; exact wordJ_err hs ht
                    · cases h
                  · simp only [Except.error.injEq] at h; subst h; exact ⟨hs, by simp⟩
    · have hs := skip_le l i hi
      simp only [listJ] at h
      split at h
      · cases h
      · split at h
        · simp only [Except.error.injEq] at h; subst h; exact ⟨hs, by simp⟩
        · rename_i h2
          have hb : (if ks = [] then skip l i else skip l i + 1) ≤ l.length := by
            split
            · exact hs
            · rename_i hk
              have h44 : pk l (skip l i) = 44 := by
                rcases Classical.em (pk l (skip l i) = 44) with e | e
                · exact e
                · exact absurd ⟨hk, e⟩ h2
              have := pk_nz (by decide) h44
              omega
          split at h
          · rename_i e hv
            simp only [Except.error.injEq] at h; subst h; exact ihv _ _ _ _ hb hv
          · rename_i q j t2 hv
            exact ihl _ _ _ _ _ (val_lt hv).2 h
    · have hs := skip_le l i hi
      simp only [objectJ] at h
      split at h
      · cases h
      · split at h
        · simp only [Except.error.injEq] at h; subst h; exact ⟨hs, by simp⟩
        · rename_i h2
          have hb : (if ks = [] then skip l i else skip l (skip l i + 1)) ≤ l.length := by
            split
            · exact hs
            · rename_i hk
              have h44 : pk l (skip l i) = 44 := by
                rcases Classical.em (pk l (skip l i) = 44) with e | e
                · exact e
                · exact absurd ⟨hk, e⟩ h2
              have := pk_nz (by decide) h44
              exact skip_le l _ (by omega)
          generalize (if ks = [] then skip l i else skip l (skip l i + 1)) = j1 at *
          split at h
          · simp only [Except.error.injEq] at h; subst h; exact ⟨hb, by simp⟩
          · rename_i h34
            have h34' : pk l j1 = 34 := by simpa using h34
            have hlt := pk_nz (by decide) h34'
            split at h
            · rename_i e ht
              simp only [Except.error.injEq] at h; subst h; exact textJ_err hlt ht
            · rename_i s j2 ht
              have hj := textJ_ok ht
              have hs2 := skip_le l j2 hj.2
              split at h
              · simp only [Except.error.injEq] at h; subst h; exact ⟨hb, by simp⟩
              · split at h
                · simp only [Except.error.injEq] at h; subst h; exact ⟨hs2, by simp⟩
                · rename_i h58
                  have h58' : pk l (skip l j2) = 58 := by simpa using h58
                  have := pk_nz (by decide) h58'
                  split at h
                  · rename_i e hv
                    simp only [Except.error.injEq] at h; subst h; exact ihv _ _ _ _ (by omega) hv
                  · rename_i q j t2 hv
                    exact iho _ _ _ _ _ _ (val_lt hv).2 h
theorem parseJ_err {l : List UInt8} {f : Flt} (h : parseJ l = .error f) : ErrOk l f := by
  unfold parseJ at h
  split at h
  · simp only [Except.error.injEq] at h; subst h; exact ⟨by omega, by simp⟩
  · split at h
    · rename_i e hv
      simp only [Except.error.injEq] at h; subst h; exact (err_all l _).1 _ _ _ _ (by omega) hv
    · rename_i q j t2 hv
      have := skip_le l j (val_lt hv).2
      split at h
      · simp only [Except.error.injEq] at h; subst h; exact ⟨this, by simp⟩
      · cases h
end Go.Proofs.YtknmbfkpclacgaaDoor
