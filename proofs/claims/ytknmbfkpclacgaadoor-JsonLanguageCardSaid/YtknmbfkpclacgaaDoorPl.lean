/- Plain law: a string of which every rune is written as an escape, or two, is parsed as it. -/
import Derived.Test.YtknmbfkpclacgaaDoorPa
set_option linter.unusedSimpArgs false
namespace Go.Proofs.YtknmbfkpclacgaaDoor

def digL (n : Nat) : UInt8 := [48, 49, 50, 51, 52, 53, 54, 55, 56, 57, 97, 66, 99, 68, 101, 70].getD n 0
theorem digL_all : ∀ m : Fin 16, hexv (digL m.val) = some m.val ∧ (digL m.val).toNat < 128 := by decide
def unitL (n : Nat) : List UInt8 := [92, 117, digL (n / 4096 % 16), digL (n / 256 % 16), digL (n / 16 % 16), digL (n % 16)]
def uR (r : Nat) : List UInt8 := if 65535 < r then unitL (55296 + (r - 65536) / 1024) ++ unitL (56320 + (r - 65536) % 1024) else unitL r
def langL : Nat → List UInt8 → List UInt8
  | 0, _ => []
  | k + 1, l => if l = [] then [] else uR (stepJ l).1 ++ langL k (l.drop (stepJ l).2)
theorem unit_at {l rest : List UInt8} {i n : Nat} (hn : n < 65536) (h : l.drop i = unitL n ++ rest) (begin : Nat) : pk l i = 92 ∧ i + 5 < l.length ∧ (pk l (i + 5)).toNat < 128 ∧ takeJ l i = .ok 92 ∧ takeJ l (i + 1) = .ok 117 ∧ fourJ l begin 4 (i + 2) 0 = .ok n ∧ l.drop (i + 6) = rest := by
  unfold unitL at h
  simp only [List.cons_append, List.nil_append] at h
  have a := digL_all ⟨n / 4096 % 16, by omega⟩
  have b := digL_all ⟨n / 256 % 16, by omega⟩
  have c := digL_all ⟨n / 16 % 16, by omega⟩
  have d := digL_all ⟨n % 16, by omega⟩
  simp only at a b c d
  have hp := pk_of0 h
  have hp5 := pk_of h 5
  have t0 := takeJ_at h (j := 0) (by simp)
  have t1 := takeJ_at h (j := 1) (by simp)
  simp at hp hp5 t0 t1
  have h4 := escape_u (by omega) (by omega) (by omega) (by omega) _ _ _ _ a.1 b.1 c.1 d.1 h begin
  have en : ((n / 4096 % 16 * 16 + n / 256 % 16) * 16 + n / 16 % 16) * 16 + n % 16 = n := by omega
  rw [en] at h4
  refine ⟨hp, lt_of_drop h (by simp), by rw [hp5]; exact d.2, t0, t1, h4, ?_⟩
  rw [← List.drop_drop, h]
  rfl
theorem uR_at {l rest : List UInt8} {i r : Nat} (hv : validR r = true) (h : l.drop i = uR r ++ rest) : pk l i = 92 ∧ i < l.length ∧ escapeJ l i = .ok (r, i + (uR r).length) ∧ 6 ≤ (uR r).length := by
  have hlt := validR_lt hv
  unfold uR at h ⊢
  by_cases hr : 65535 < r
  · rw [if_pos hr] at h ⊢
    rw [List.append_assoc] at h
    obtain ⟨h1, h2, _, _, h3, h4, h5⟩ := unit_at (by omega) h i
    obtain ⟨_, _, _, g0, g1, g4, _⟩ := unit_at (by omega) h5 i
    refine ⟨h1, by omega, ?_, by simp [unitL]⟩
    unfold escapeJ
    rw [h3]
    simp only
    rw [show letter 117 = none from rfl]
    simp only
    rw [if_neg (by decide), h4]
    simp only
    rw [if_neg (by omega), if_neg (by omega), g0]
    simp only
    rw [if_neg (by decide), g1]
    simp only
    rw [if_neg (by decide), g4]
    simp only
    rw [if_neg (by omega)]
    simp [unitL]
    omega
  · rw [if_neg hr] at h ⊢
    obtain ⟨h1, h2, _, _, h3, h4, _⟩ := unit_at (by omega) h i
    have hv2 : ¬ (0xdc00 ≤ r ∧ r ≤ 0xdfff) ∧ (r < 0xd800 ∨ 0xdbff < r) := by
      simp only [validR, Bool.or_eq_true, Bool.and_eq_true, decide_eq_true_eq] at hv
      omega
    exact ⟨h1, by omega, escapeJ_u h3 h4 hv2.1 hv2.2, by simp [unitL]⟩
theorem textGo_lang (l : List UInt8) : ∀ (k : Nat) (s out rest : List UInt8) (f i : Nat), s.length ≤ k → l.drop i = langL k s ++ 34 :: rest → (langL k s).length < f → textGo l f i out = .ok (out ++ outL k s, i + (langL k s).length + 1)
  | 0, s, out, rest, f, i, _, h, hf => by
    obtain ⟨f, rfl⟩ : ∃ g, f = g + 1 := ⟨f - 1, by omega⟩
    simp only [langL, List.nil_append] at h
    have hp := pk_of0 h
    have hlt := lt_of_drop h (j := 0) (by simp)
    simp at hp
    rw [textGo, if_pos (by omega), if_pos hp]
    simp [langL, outL]
  | k + 1, s, out, rest, f, i, hk, h, hf => by
    rw [langL] at h hf ⊢
    rw [outL]
    by_cases hs : s = []
    · rw [if_pos hs] at h hf ⊢
      rw [if_pos hs]
      obtain ⟨f, rfl⟩ : ∃ g, f = g + 1 := ⟨f - 1, by omega⟩
      simp only [List.nil_append] at h
      have hp := pk_of0 h
      have hlt := lt_of_drop h (j := 0) (by simp)
      simp at hp
      rw [textGo, if_pos (by omega), if_pos hp]
      simp
    · rw [if_neg hs] at h hf ⊢
      rw [if_neg hs]
      have hst := stepJ_valid s hs
      have hpos := List.length_pos_iff.2 hs
      rw [List.append_assoc] at h
      rw [List.length_append] at hf ⊢
      have hu := uR_at hst.1 h
      have hnext := dropq_at h
      obtain ⟨f, rfl⟩ : ∃ g, f = g + 1 := ⟨f - 1, by omega⟩
      rw [textGo, if_pos hu.2.1, if_neg (by rw [hu.1]; decide), if_pos hu.1, hu.2.2.1]
      simp only
      rw [textGo_lang l k _ _ rest f _ (by rw [List.length_drop]; omega) hnext (by omega), List.append_assoc]
      simp [Nat.add_assoc]
/-- A string of escapes is parsed as the string. -/
theorem parseJ_lang (s : List UInt8) (hlen : (langL s.length s).length ≤ 200000000) : parseJ (34 :: (langL s.length s ++ [34])) = .ok [jStr (outL s.length s)] := by
  have hl : (34 :: (langL s.length s ++ [34])).length = (langL s.length s).length + 2 := by simp
  have hd1 : (34 :: (langL s.length s ++ [34])).drop (0 + 1) = langL s.length s ++ 34 :: [] := rfl
  have ht : textJ (34 :: (langL s.length s ++ [34])) 0 = .ok (outL s.length s, (langL s.length s).length + 2) := by
    unfold textJ
    rw [textGo_lang _ s.length s [] [] _ _ (Nat.le_refl _) hd1 (by rw [hl]; omega)]
    simp
    omega
  have hsk : skip (34 :: (langL s.length s ++ [34])) 0 = 0 := rfl
  have hp : pk (34 :: (langL s.length s ++ [34])) 0 = 34 := rfl
  have hsk2 : skip (34 :: (langL s.length s ++ [34])) ((langL s.length s).length + 2) = (langL s.length s).length + 2 := by
    unfold skip
    rw [List.drop_eq_nil_of_le (by omega)]
    rfl
  unfold parseJ
  rw [if_neg (by omega), show 2 * (34 :: (langL s.length s ++ [34])).length + 3 = (2 * (34 :: (langL s.length s ++ [34])).length + 2) + 1 from rfl, valueJ]
  simp only [hsk, hp, ht]
  simp only [show ((34 : UInt8) = 123) = False by simp, show ((34 : UInt8) = 91) = False by simp, if_true, if_false]
  rw [if_neg (by rw [hsk2, hl]; omega)]
  rfl
end Go.Proofs.YtknmbfkpclacgaaDoor
