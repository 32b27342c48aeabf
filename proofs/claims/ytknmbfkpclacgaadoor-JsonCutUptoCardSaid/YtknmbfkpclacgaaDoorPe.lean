/- Plain law: of a tree's text, if it is no number's, each shorter beginning is refused, at its end or ahead of it. -/
import Derived.Test.YtknmbfkpclacgaaDoorPd
set_option linter.unusedSimpArgs false
namespace Go.Proofs.YtknmbfkpclacgaaDoor

theorem decGo_last : ∀ (k n : Nat), n ≤ k → ∃ X d, decGo k n = X ++ [UInt8.ofNat (48 + d)] ∧ d < 10
  | 0, n, _ => ⟨[], n % 10, rfl, by omega⟩
  | k + 1, n, h => by
    rw [decGo]
    split
    · rename_i h10; exact ⟨[], n, rfl, h10⟩
    · exact ⟨_, n % 10, rfl, by omega⟩
theorem dig_noBl : ∀ d : Fin 10, isBl (UInt8.ofNat (48 + d.val)) = false := by decide
theorem writeJ_last {t : List JV} {D : Nat → Nat} (G : Good t D) (i f : Nat) (hi : i < t.length) : ∃ X c, writeJ t (f + 1) i = X ++ [c] ∧ isBl c = false := by
  have hu := G.used i hi
  simp only [writeJ, getD_at t i hi]
  generalize t[i] = v at *
  rcases used_cases hu with rfl | ⟨x, rfl⟩ | ⟨n, rfl⟩ | ⟨s, rfl⟩ | ⟨ks, rfl⟩ | ⟨ks, ns, rfl, _⟩
  · exact ⟨[110, 117, 108], 108, rfl, by rfl⟩
  · cases x
    · exact ⟨[102, 97, 108, 115], 101, rfl, by rfl⟩
    · exact ⟨[116, 114, 117], 101, rfl, by rfl⟩
  · show ∃ X c, decJ n = X ++ [c] ∧ isBl c = false
    obtain ⟨X, d, h, hd⟩ := decGo_last n.natAbs n.natAbs (Nat.le_refl _)
    unfold decJ
    split
    · exact ⟨[45] ++ X, _, by rw [h, List.append_assoc], dig_noBl ⟨d, hd⟩⟩
    · exact ⟨X, _, h, dig_noBl ⟨d, hd⟩⟩
  · exact ⟨[34] ++ s.flatMap quoteB, 34, rfl, by rfl⟩
  · exact ⟨_, 93, rfl, by rfl⟩
  · exact ⟨_, 125, rfl, by rfl⟩
theorem writeJ_first {t : List JV} {D : Nat → Nat} (G : Good t D) (i f : Nat) (hi : i < t.length) (hk : (t[i]).kind ≠ 3) : ∃ c Y, writeJ t (f + 1) i = c :: Y ∧ isBl c = false ∧ c ≠ 45 ∧ isDig c = false := by
  have hu := G.used i hi
  simp only [writeJ, getD_at t i hi]
  generalize t[i] = v at *
  rcases used_cases hu with rfl | ⟨x, rfl⟩ | ⟨n, rfl⟩ | ⟨s, rfl⟩ | ⟨ks, rfl⟩ | ⟨ks, ns, rfl, _⟩
  · exact ⟨110, [117, 108, 108], rfl, by rfl, by decide, by rfl⟩
  · cases x
    · exact ⟨102, [97, 108, 115, 101], rfl, by rfl, by decide, by rfl⟩
    · exact ⟨116, [114, 117, 101], rfl, by rfl, by decide, by rfl⟩
  · exact absurd rfl hk
  · exact ⟨34, s.flatMap quoteB ++ [34], rfl, by rfl, by decide, by rfl⟩
  · exact ⟨91, _, rfl, by rfl, by decide, by rfl⟩
  · exact ⟨123, _, rfl, by rfl, by decide, by rfl⟩
theorem dropBl_nil : ∀ {x : List UInt8}, dropBl x = [] → ∀ c ∈ x, isBl c = true
  | [], _, c, hc => by simp at hc
  | a :: x, h, c, hc => by
    unfold dropBl at h
    rw [skipBl] at h
    split at h
    · rename_i ha
      rw [List.drop_succ_cons] at h
      rcases List.mem_cons.1 hc with rfl | hc
      · exact ha
      · exact dropBl_nil h c hc
    · simp at h
/-- Each shorter beginning of a tree's text is refused. -/
theorem cut_text {t : List JV} (h : mayJ t = 0) (hk : ∀ (hp : t.length - 1 < t.length), (t[t.length - 1]).kind ≠ 3) (hl : (writeJ t t.length (t.length - 1)).length ≤ 268435456) (c : Nat) (hc : c < (writeJ t t.length (t.length - 1)).length) :
    ∃ f, parseJ ((writeJ t t.length (t.length - 1)).take c) = .error f ∧ f.1 ≤ c ∧ f.2 ≠ 0 := by
  obtain ⟨hG, hpos, hD⟩ := good_of_may h
  obtain ⟨m, hm⟩ : ∃ m, t.length = m + 1 := ⟨t.length - 1, by omega⟩
  have hend : EndOk [] := ⟨by rfl, by decide, by decide, by decide⟩
  have hW := wW_nil t t.length (t.length - 1) 0
  obtain ⟨j, hv, hdj⟩ := parse_all (b := noBl) (fun k c hc => by simp [noBl] at hc) hG (writeJ t t.length (t.length - 1)) (t.length - 1) t.length 0 0 [] (2 * (writeJ t t.length (t.length - 1)).length + 3) 0 [] (by omega) (by omega) (by rw [hW]; simp) hend (by omega) (by omega)
  obtain ⟨X, e, hX, hbe⟩ := writeJ_last hG (t.length - 1) m (by omega)
  obtain ⟨a, Y, hY, hba, ha1, ha2⟩ := writeJ_first hG (t.length - 1) m (by omega) (hk (by omega))
  rw [← hm] at hX hY
  generalize writeJ t t.length (t.length - 1) = S at *
  have hvl := val_lt hv
  have hjl : j = S.length := by
    rcases Nat.lt_or_ge j S.length with hlt | hge
    · exfalso
      have hall := dropBl_nil (hdj.trans (by rfl : dropBl [] = [])) e (by
        rw [hX]
        rw [hX] at hlt
        simp at hlt
        rw [List.drop_append_of_le_length (by omega)]
        simp)
      rw [hbe] at hall
      cases hall
    · omega
  have hp0 : pk S 0 = a := by rw [hY]; rfl
  have hs0 : skip S 0 = 0 := by
    rw [hY]
    unfold skip
    rw [List.drop_zero, skipBl, if_neg (by rw [hba]; simp)]
  obtain ⟨at_, e2, he⟩ := parse_cut (by omega : 2 * S.length + 2 ≤ 2 * S.length + 3) hv hjl hs0 (by rw [hp0]; exact ⟨ha1, ha2⟩) c hc
  have hb := parseJ_err he
  have hlen : (S.take c).length = c := by rw [List.length_take]; omega
  exact ⟨(at_, e2), he, by have := hb.1; rw [hlen] at this; exact this, hb.2⟩
end Go.Proofs.YtknmbfkpclacgaaDoor
