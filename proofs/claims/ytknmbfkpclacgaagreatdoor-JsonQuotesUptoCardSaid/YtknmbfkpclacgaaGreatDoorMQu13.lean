import Derived.Test.YtknmbfkpclacgaaGreatDoorMQu10
import Derived.Test.YtknmbfkpclacgaaGreatDoorMQu11
import Derived.Test.YtknmbfkpclacgaaGreatDoorMQu12
/- Plain laws on what write writes: fuel, lengths. -/
set_option linter.unusedSimpArgs false
namespace Go.Proofs.YtknmbfkpclacgaaGreatDoor

theorem fm_congr {α β : Type} {f g : α → List β} : ∀ {l : List α}, (∀ a ∈ l, f a = g a) → l.flatMap f = l.flatMap g
  | [], _ => rfl
  | a :: l, h => by rw [List.flatMap_cons, List.flatMap_cons, h a (by simp), fm_congr (fun b hb => h b (by simp [hb]))]
def KidsOk (t : List JV) : Prop := ∀ j (hj : j < t.length), ∀ k ∈ t[j].kids, 0 ≤ k ∧ k < (j : Int)
theorem shapedJ_kidsOk {t : List JV} (h : shapedJ t = true) : KidsOk t := fun j hj => ((shapedJ_kids h).2 j hj).2
theorem getD_at (t : List JV) (i : Nat) (hi : i < t.length) : t.getD i jNull = t[i] := by simp [List.getD_eq_getElem?_getD, hi]
theorem writeJ_stable {t : List JV} (hk : KidsOk t) (i : Nat) : ∀ f : Nat, i < t.length → i < f → writeJ t f i = writeJ t (i + 1) i := by
  induction i using Nat.strongRecOn with
  | _ i ih =>
  intro f hi hf
  obtain ⟨f, rfl⟩ : ∃ g, f = g + 1 := ⟨f - 1, by omega⟩
  have hkid : ∀ p ∈ (t[i]).kids.zipIdx, writeJ t f p.1.toNat = writeJ t i p.1.toNat := by
    intro p hp
    have := hk i hi p.1 (List.fst_mem_of_mem_zipIdx hp)
    rw [ih p.1.toNat (by omega) f (by omega) (by omega), ih p.1.toNat (by omega) i (by omega) (by omega)]
  have e1 := fm_congr (l := (t[i]).kids.zipIdx) (f := fun p : Int × Nat => sepJ (0 < p.2) ++ writeJ t f p.1.toNat) (g := fun p => sepJ (0 < p.2) ++ writeJ t i p.1.toNat) (fun p hp => by simp only [hkid p hp])
  have e2 := fm_congr (l := (t[i]).kids.zipIdx) (f := fun p : Int × Nat => sepJ (0 < p.2) ++ quoteJ ((t[i]).names.getD p.2 []) ++ [58] ++ writeJ t f p.1.toNat) (g := fun p => sepJ (0 < p.2) ++ quoteJ ((t[i]).names.getD p.2 []) ++ [58] ++ writeJ t i p.1.toNat) (fun p hp => by simp only [hkid p hp])
  simp only [writeJ, getD_at t i hi]
  rw [e1, e2]

theorem decGo_len : ∀ (d k n : Nat), n < 10 ^ (d + 1) → (decGo k n).length ≤ d + 1
  | d, 0, n, _ => by simp [decGo]
  | 0, k + 1, n, h => by rw [decGo, if_pos (by simpa using h)]; simp
  | d + 1, k + 1, n, h => by
    rw [decGo]
    split
    · simp
    · have := decGo_len d k (n / 10) (by rw [Nat.div_lt_iff_lt_mul (by omega)]; rw [Nat.pow_succ] at h; exact h)
      simp; omega
theorem decJ_len (n : Int) (h : n.natAbs < 10 ^ 20) : (decJ n).length ≤ 21 := by
  unfold decJ
  have := decGo_len 19 n.natAbs n.natAbs (by simpa using h)
  split <;> simp <;> omega
def ownLen (v : JV) : Nat := 30 + (quoteJ v.text).length + (v.names.map fun s => (quoteJ s).length + 1).sum + v.kids.length
def wLen (t : List JV) (i : Nat) : Nat := (writeJ t (i + 1) i).length
theorem sepJ_len (b : Bool) : (sepJ b).length ≤ 1 := by cases b <;> simp [sepJ]
theorem list_len (F : Int → List UInt8) : ∀ (ks : List Int) (n : Nat), ((ks.zipIdx n).flatMap fun p => sepJ (0 < p.2) ++ F p.1).length ≤ ks.length + (ks.map fun k => (F k).length).sum
  | [], _ => by simp
  | k :: ks, n => by
    have := list_len F ks (n + 1)
    have h2 := sepJ_len (decide (0 < n))
    simp only [List.zipIdx_cons, List.flatMap_cons, List.length_append, List.length_cons, List.map_cons, List.sum_cons] at this ⊢
    omega
theorem object_len (F : Int → List UInt8) (names : List (List UInt8)) : ∀ (ks : List Int) (n : Nat), names.length = n + ks.length → ((ks.zipIdx n).flatMap fun p => sepJ (0 < p.2) ++ quoteJ (names.getD p.2 []) ++ [58] ++ F p.1).length ≤ ks.length + ((names.drop n).map fun s => (quoteJ s).length + 1).sum + (ks.map fun k => (F k).length).sum
  | [], _, _ => by simp
  | k :: ks, n, h => by
    have h1 : n < names.length := by simp at h; omega
    have := object_len F names ks (n + 1) (by simp at h; omega)
    have h2 := sepJ_len (decide (0 < n))
    have hg : names.getD n [] = names[n] := by simp [List.getD_eq_getElem?_getD, h1]
    rw [List.drop_eq_getElem_cons h1]
    simp only [List.zipIdx_cons, List.flatMap_cons, List.length_append, List.length_cons, List.map_cons, List.sum_cons, hg, List.length_nil] at this ⊢
    omega
theorem sum_congr {α : Type} {f g : α → Nat} : ∀ {l : List α}, (∀ a ∈ l, f a = g a) → (l.map f).sum = (l.map g).sum
  | [], _ => rfl
  | a :: l, h => by rw [List.map_cons, List.map_cons, List.sum_cons, List.sum_cons, h a (by simp), sum_congr (fun b hb => h b (by simp [hb]))]
theorem wLen_le {t : List JV} (hk : KidsOk t) (i : Nat) (hi : i < t.length) (hn : (t[i]).n.natAbs < 10 ^ 20) (ho : (t[i]).kind = 6 → (t[i]).kids.length = (t[i]).names.length) :
    wLen t i ≤ ownLen t[i] + ((t[i]).kids.map fun k => wLen t k.toNat).sum := by
  have hs : ((t[i]).kids.map fun k => (writeJ t i k.toNat).length).sum = ((t[i]).kids.map fun k => wLen t k.toNat).sum := sum_congr fun k hkm => by
    have := hk i hi k hkm
    rw [writeJ_stable hk k.toNat i (by omega) (by omega)]; rfl
  rw [← hs]
  clear hs
  unfold wLen ownLen
  rw [writeJ]
  simp only [getD_at t i hi]
  have h5 := list_len (fun k => writeJ t i k.toNat) (t[i]).kids 0
  have h6 := fun (e6 : (t[i]).kind = 6) => object_len (fun k => writeJ t i k.toNat) (t[i]).names (t[i]).kids 0 (by rw [ho e6]; omega)
  simp only [List.drop_zero] at h6
  have h3 := decJ_len _ hn
  generalize ((t[i]).kids.map fun k => (writeJ t i k.toNat).length).sum = S at *
  split
  · simp; omega
  · split
    · split <;> (simp; omega)
    · split
      · omega
      · split
        · omega
        · split
          · simp only [List.length_append, List.length_cons, List.length_nil]
            omega
          · split
            · rename_i hk6
              have := h6 hk6
              simp only [List.length_append, List.length_cons, List.length_nil]
              omega
            · simp

/-- the texts that nobody owns yet -/
def unU (W : Nat → Nat) : Nat → List Bool → Nat
  | 0, _ => 0
  | i + 1, o => unU W i o + (if o.getD i false then 0 else W i)
theorem unU_out (W : Nat → Nat) (m : Nat) (o : List Bool) : ∀ i, i ≤ m → unU W i (o.set m true) = unU W i o
  | 0, _ => rfl
  | i + 1, h => by
    rw [unU, unU, unU_out W m o i (by omega)]
    have : (o.set m true).getD i false = o.getD i false := by simp [List.getD_eq_getElem?_getD, List.getElem?_set, show m ≠ i by omega]
    rw [this]
theorem unU_set (W : Nat → Nat) (m : Nat) (o : List Bool) (hm : m < o.length) (ho : o.getD m false = false) : ∀ i, m < i → unU W i (o.set m true) + W m = unU W i o
  | 0, h => by omega
  | i + 1, h => by
    rw [unU, unU]
    rcases Nat.lt_or_ge m i with h1 | h1
    · have := unU_set W m o hm ho i h1
      have h2 : (o.set m true).getD i false = o.getD i false := by simp [List.getD_eq_getElem?_getD, List.getElem?_set, show m ≠ i by omega]
      rw [h2]; omega
    · obtain rfl : m = i := by omega
      rw [unU_out W m o m (Nat.le_refl _), ho]
      have h2 : (o.set m true).getD m false = true := by simp [List.getD_eq_getElem?_getD, List.getElem?_set, hm]
      rw [h2]; simp
theorem kidsGo_sum (W : Nat → Nat) (i : Nat) : ∀ (ks : List Int) (o o' : List Bool), i ≤ o.length → kidsGo i ks o = some o' → o'.length = o.length ∧ unU W i o' + (ks.map fun k => W k.toNat).sum = unU W i o
  | [], o, o', _, h => by simp only [kidsGo, Option.some.injEq] at h; subst h; simp
  | k :: ks, o, o', hl, h => by
    rw [kidsGo] at h
    split at h
    · cases h
    · rename_i hc
      simp only [not_or, Bool.not_eq_true] at hc
      have h1 := kidsGo_sum W i ks (o.set k.toNat true) o' (by simpa using hl) h
      have h2 := unU_set W k.toNat o (by omega) hc.2.2 i (by omega)
      rw [List.map_cons, List.sum_cons]
      refine ⟨by simpa using h1.1, by omega⟩
theorem shapedGo_sum (W : Nat → Nat) (O : JV → Nat) : ∀ (vs : List JV) (i : Nat) (o o' : List Bool), o.length = i + vs.length → (∀ j (hj : j < vs.length), W (i + j) ≤ O vs[j] + ((vs[j]).kids.map fun k => W k.toNat).sum) → shapedGo i vs o = some o' →
    o'.length = o.length ∧ unU W (i + vs.length) o' ≤ unU W i o + (vs.map O).sum
  | [], i, o, o', _, _, h => by simp only [shapedGo, Option.some.injEq] at h; subst h; simp
  | v :: vs, i, o, o', hl, hw, h => by
    rw [shapedGo] at h
    split at h
    · split at h
      · cases h
      · rename_i o1 h1
        have hk := kidsGo_sum W i v.kids o o1 (by omega) h1
        have ih := shapedGo_sum W O vs (i + 1) o1 o' (by simp at hl; omega) (fun j hj => by
          have := hw (j + 1) (by simp; omega)
          simpa [Nat.add_assoc, Nat.add_comm 1 j] using this) h
        have h0 := hw 0 (by simp)
        simp only [Nat.add_zero, List.getElem_cons_zero] at h0
        have hu : unU W (i + 1) o1 ≤ unU W i o1 + W i := by rw [unU]; split <;> omega
        simp only [List.length_cons, List.map_cons, List.sum_cons]
        rw [show i + (vs.length + 1) = i + 1 + vs.length by omega]
        refine ⟨by omega, by omega⟩
    · cases h
theorem ownedOk_last : ∀ (n j : Nat) (o : List Bool), j + o.length = n → 0 < o.length → ownedOk n j o = true → o.getD (o.length - 1) false = false
  | n, j, [], _, h, _ => by simp at h
  | n, j, [b], hl, _, h => by
    rw [ownedOk] at h
    split at h
    · cases h
    · rename_i hb
      have e : (j + 1 == n) = true := by rw [beq_iff_eq]; simpa using hl
      rw [e] at hb
      simpa using hb
  | n, j, b :: c :: r, hl, _, h => by
    rw [ownedOk] at h
    split at h
    · cases h
    · have := ownedOk_last n (j + 1) (c :: r) (by simp at hl ⊢; omega) (by simp) h
      simpa using this
/-- How long a shaped tree's text is at most. -/
theorem writeJ_len {t : List JV} (hs : shapedJ t = true) (hn : ∀ v ∈ t, v.n.natAbs < 10 ^ 20) : (writeJ t t.length (t.length - 1)).length ≤ (t.map ownLen).sum := by
  have hk := shapedJ_kidsOk hs
  obtain ⟨hpos, hall⟩ := shapedJ_kids hs
  unfold shapedJ at hs
  split at hs
  · cases hs
  · rename_i o ho
    rw [Bool.and_eq_true, decide_eq_true_eq] at hs
    have h := shapedGo_sum (wLen t) ownLen t 0 _ o (by simp) (fun j hj => by
      rw [Nat.zero_add]
      refine wLen_le hk j hj (hn _ (List.getElem_mem hj)) fun h6 => ?_
      have hu := (hall j hj).1
      unfold usedJ at hu
      simp only [h6] at hu
      simp at hu
      omega) ho
    simp only [Nat.zero_add, unU, List.length_replicate] at h
    obtain ⟨n, hn1⟩ : ∃ n, t.length = n + 1 := ⟨t.length - 1, by omega⟩
    have hlast := ownedOk_last t.length 0 o (by omega) (by omega) hs.1
    have h2 := h.2
    rw [hn1, unU] at h2
    rw [h.1, hn1] at hlast
    simp only [Nat.add_sub_cancel] at hlast
    rw [hlast] at h2
    rw [hn1]
    simp only [Nat.add_sub_cancel]
    unfold wLen at h2
    simp at h2
    omega
end Go.Proofs.YtknmbfkpclacgaaGreatDoor

/- Plain laws: a tree's text, with blanks between (wW), is parsed as the tree in the order of its text (canon). -/
set_option linter.unusedSimpArgs false
namespace Go.Proofs.YtknmbfkpclacgaaGreatDoor

/-! ### the text with blanks; the k-th blanks are b k -/
def BlOk (b : Nat → List UInt8) : Prop := ∀ k, ∀ c ∈ b k, isBl c = true
def mkW (b : Nat → List UInt8) (c : UInt8) (k : Nat) : List UInt8 := b k ++ c :: b (k + 1)
def sepW (b : Nat → List UInt8) (j k : Nat) : List UInt8 × Nat := if 0 < j then (mkW b 44 k, k + 2) else ([], k)
def listW (b : Nat → List UInt8) (g : Int → Nat → List UInt8 × Nat) : List Int → Nat → Nat → List UInt8 × Nat
  | [], _, k => ([], k)
  | kid :: ks, j, k =>
    let s := sepW b j k
    let v := g kid s.2
    let r := listW b g ks (j + 1) v.2
    (s.1 ++ (v.1 ++ r.1), r.2)
def objW (b : Nat → List UInt8) (names : List (List UInt8)) (g : Int → Nat → List UInt8 × Nat) : List Int → Nat → Nat → List UInt8 × Nat
  | [], _, k => ([], k)
  | kid :: ks, j, k =>
    let s := sepW b j k
    let v := g kid (s.2 + 2)
    let r := objW b names g ks (j + 1) v.2
    (s.1 ++ (quoteJ (names.getD j []) ++ (mkW b 58 s.2 ++ (v.1 ++ r.1))), r.2)
def wW (b : Nat → List UInt8) (t : List JV) : Nat → Nat → Nat → List UInt8 × Nat
  | 0, _, k => ([], k)
  | f + 1, i, k =>
    let v := t.getD i jNull
    if v.kind = 1 then ([110, 117, 108, 108], k)
    else if v.kind = 2 then ((if v.truth then [116, 114, 117, 101] else [102, 97, 108, 115, 101]), k)
    else if v.kind = 3 then (decJ v.n, k)
    else if v.kind = 4 then (quoteJ v.text, k)
    else if v.kind = 5 then
      let r := listW b (fun kid k => wW b t f kid.toNat k) v.kids 0 (k + 2)
      (mkW b 91 k ++ (r.1 ++ mkW b 93 r.2), r.2 + 2)
    else if v.kind = 6 then
      let r := objW b v.names (fun kid k => wW b t f kid.toNat k) v.kids 0 (k + 2)
      (mkW b 123 k ++ (r.1 ++ mkW b 125 r.2), r.2 + 2)
    else ([], k)
def noBl : Nat → List UInt8 := fun _ => []
theorem listW_nil (g : Int → Nat → List UInt8 × Nat) (G : Int → List UInt8) (h : ∀ kid k, (g kid k).1 = G kid) : ∀ (ks : List Int) (j k : Nat), (listW noBl g ks j k).1 = (ks.zipIdx j).flatMap fun p => sepJ (0 < p.2) ++ G p.1
  | [], _, _ => rfl
  | kid :: ks, j, k => by
    rw [listW, List.zipIdx_cons, List.flatMap_cons]
    simp only [listW_nil g G h ks, h]
    rw [← List.append_assoc]
    congr 2
    unfold sepW sepJ mkW noBl
    split <;> simp_all
theorem objW_nil (names : List (List UInt8)) (g : Int → Nat → List UInt8 × Nat) (G : Int → List UInt8) (h : ∀ kid k, (g kid k).1 = G kid) : ∀ (ks : List Int) (j k : Nat), (objW noBl names g ks j k).1 = (ks.zipIdx j).flatMap fun p => sepJ (0 < p.2) ++ quoteJ (names.getD p.2 []) ++ [58] ++ G p.1
  | [], _, _ => rfl
  | kid :: ks, j, k => by
    rw [objW, List.zipIdx_cons, List.flatMap_cons]
    simp only [objW_nil names g G h ks, h]
    have e : (sepW noBl j k).1 = sepJ (0 < j) := by
      unfold sepW sepJ mkW noBl
      split <;> simp_all
    rw [e]
    simp [mkW, noBl]
theorem wW_nil (t : List JV) : ∀ f i k, (wW noBl t f i k).1 = writeJ t f i
  | 0, _, _ => rfl
  | f + 1, i, k => by
    simp only [wW, writeJ]
    have h := wW_nil t f
    repeat' split
    all_goals try rfl
    · simp only [listW_nil _ (fun kid => writeJ t f kid.toNat) (fun kid k => h kid.toNat k)]
      simp [mkW, noBl]
    · simp only [objW_nil _ _ (fun kid => writeJ t f kid.toNat) (fun kid k => h kid.toNat k)]
      simp [mkW, noBl]

/-! ### the tree in the order of its text -/
def canonL (g : Int → Nat → List JV) : List Int → Nat → List JV × List Int
  | [], _ => ([], [])
  | kid :: ks, base =>
    let c := g kid base
    let r := canonL g ks (base + c.length)
    (c ++ r.1, ((base + c.length - 1 : Nat) : Int) :: r.2)
def canon (t : List JV) : Nat → Nat → Nat → List JV
  | 0, _, _ => []
  | f + 1, i, base =>
    let v := t.getD i jNull
    if v.kind = 5 then
      let r := canonL (fun kid base => canon t f kid.toNat base) v.kids base
      r.1 ++ [jList r.2]
    else if v.kind = 6 then
      let r := canonL (fun kid base => canon t f kid.toNat base) v.kids base
      r.1 ++ [jObj r.2 v.names]
    else [v]

/-! ### blanks -/
def dropBl (x : List UInt8) : List UInt8 := x.drop (skipBl x)
theorem dropBl_app {e x : List UInt8} (h : ∀ c ∈ e, isBl c = true) : dropBl (e ++ x) = dropBl x := by
  induction e with
  | nil => rfl
  | cons c e ih =>
    have hc := h c (by simp)
    have ih' := ih (fun d hd => h d (by simp [hd]))
    unfold dropBl at ih' ⊢
    rw [List.cons_append, skipBl, if_pos hc, List.drop_succ_cons]
    exact ih'
theorem dropBl_cons {c : UInt8} (h : isBl c = false) (x : List UInt8) : dropBl (c :: x) = c :: x := by
  unfold dropBl
  rw [skipBl, if_neg (by rw [h]; simp)]
  rfl
theorem skip_drop (l : List UInt8) (p : Nat) : l.drop (skip l p) = dropBl (l.drop p) := by
  unfold skip dropBl
  rw [List.drop_drop]
theorem skipBl_dropBl : ∀ x : List UInt8, skipBl (dropBl x) = 0
  | [] => rfl
  | c :: x => by
    unfold dropBl
    rw [skipBl]
    split
    · rw [List.drop_succ_cons]
      exact skipBl_dropBl x
    · rename_i h
      rw [List.drop_zero, skipBl, if_neg h]
theorem skip_twice (l : List UInt8) (p : Nat) : skip l (skip l p) = skip l p := by
  have h := skipBl_dropBl (l.drop p)
  rw [← skip_drop] at h
  conv => lhs; unfold skip
  show skip l p + skipBl (l.drop (skip l p)) = skip l p
  rw [h]
  rfl
theorem mk_drop {b : Nat → List UInt8} (hb : BlOk b) {c : UInt8} (hc : isBl c = false) (k : Nat) (x : List UInt8) : dropBl (mkW b c k ++ x) = c :: (b (k + 1) ++ x) := by
  unfold mkW
  rw [List.append_assoc, dropBl_app (hb k), List.cons_append, dropBl_cons hc]
theorem isBl_end {c : UInt8} (h : isBl c = true) : isDig c = false ∧ c ≠ 46 ∧ c ≠ 101 ∧ c ≠ 69 := by
  unfold isBl at h
  simp only [Bool.or_eq_true, beq_iff_eq] at h
  rcases h with ((rfl | rfl) | rfl) | rfl <;> decide
theorem EndOk_bl {e x : List UInt8} (h : ∀ c ∈ e, isBl c = true) (hx : EndOk x) : EndOk (e ++ x) := by
  cases e with
  | nil => exact hx
  | cons c e => exact isBl_end (h c (by simp))
theorem EndOk_mk {b : Nat → List UInt8} (hb : BlOk b) {c : UInt8} (hc : c = 44 ∨ c = 93 ∨ c = 125) (k : Nat) (x : List UInt8) : EndOk (mkW b c k ++ x) := by
  unfold mkW
  rw [List.append_assoc]
  refine EndOk_bl (hb k) ?_
  unfold EndOk
  simp only [List.cons_append, List.getD_cons_zero]
  rcases hc with rfl | rfl | rfl <;> decide

/-! ### a good tree -/
structure Good (t : List JV) (D : Nat → Nat) : Prop where
  used : ∀ i (hi : i < t.length), usedJ t[i] = true
  kids : KidsOk t
  num : ∀ i (hi : i < t.length), -9007199254740991 ≤ (t[i]).n ∧ (t[i]).n ≤ 9007199254740991
  text : ∀ i (hi : i < t.length), validL (t[i]).text = true
  names : ∀ i (hi : i < t.length), ∀ s ∈ (t[i]).names, validL s = true
  dup : ∀ i (hi : i < t.length), noDup (t[i]).names = true
  depth : ∀ i (hi : i < t.length), ((t[i]).kind = 5 ∨ (t[i]).kind = 6) → 1 ≤ D i ∧ ∀ k ∈ (t[i]).kids, D k.toNat + 1 ≤ D i
theorem used_cases {v : JV} (h : usedJ v = true) : v = jNull ∨ (∃ x, v = jBool x) ∨ (∃ n, v = jNum n) ∨ (∃ s, v = jStr s) ∨ (∃ ks, v = jList ks) ∨ (∃ ks ns, v = jObj ks ns ∧ ks.length = ns.length) := by
  obtain ⟨kind, truth, n, text, kids, names⟩ := v
  unfold usedJ at h
  simp only at h
  repeat' split at h
  all_goals simp at h
  · refine .inl ?_
    obtain ⟨⟨⟨⟨h1, h2⟩, h3⟩, h4⟩, h5⟩ := h
    subst_vars; rfl
  · refine .inr (.inl ⟨truth, ?_⟩)
    obtain ⟨⟨⟨h2, h3⟩, h4⟩, h5⟩ := h
    subst_vars; rfl
  · refine .inr (.inr (.inl ⟨n, ?_⟩))
    obtain ⟨⟨⟨h1, h3⟩, h4⟩, h5⟩ := h
    subst_vars; rfl
  · refine .inr (.inr (.inr (.inl ⟨text, ?_⟩)))
    obtain ⟨⟨⟨h1, h2⟩, h4⟩, h5⟩ := h
    subst_vars; rfl
  · refine .inr (.inr (.inr (.inr (.inl ⟨kids, ?_⟩))))
    obtain ⟨⟨⟨h1, h2⟩, h3⟩, h5⟩ := h
    subst_vars; rfl
  · refine .inr (.inr (.inr (.inr (.inr ⟨kids, names, ?_, h.2⟩))))
    obtain ⟨⟨⟨h1, h2⟩, h3⟩, h5⟩ := h
    subst_vars; rfl
theorem noDup_take : ∀ {ns : List (List UInt8)}, noDup ns = true → ∀ j (hj : j < ns.length), ns[j] ∉ ns.take j
  | [], _, j, hj => by simp at hj
  | s :: r, h, 0, _ => by simp
  | s :: r, h, j + 1, hj => by
    rw [noDup, Bool.and_eq_true, Bool.not_eq_true'] at h
    have h1 : s ∉ r := by
      intro hm
      have : r.contains s = true := by simpa using hm
      rw [this] at h; exact absurd h.1 (by simp)
    have ih := noDup_take h.2 j (by simpa using hj)
    simp only [List.getElem_cons_succ, List.take_succ_cons, List.mem_cons, not_or]
    refine ⟨fun e => h1 (by rw [← e]; exact List.getElem_mem _), ih⟩

/-! ### parsing -/
theorem val_lt {l : List UInt8} {F p dp : Nat} {acc t' : List JV} {q j : Nat} (h : valueJ l F p dp acc = .ok (q, j, t')) : p < j ∧ j ≤ l.length := by
  have := (grew_all l F).1 p dp acc q j t' h
  exact ⟨this.1, this.2.1⟩
/-- a value's part of the loops below -/
def VIH (l : List UInt8) (dp : Nat) (g : Int → Nat → List UInt8 × Nat) (C : Int → Nat → List JV) (kid : Int) : Prop :=
  (∀ k p rest F acc, dropBl (l.drop p) = dropBl ((g kid k).1 ++ rest) → EndOk rest → 2 * (l.length - p) + 2 ≤ F →
    ∃ j, valueJ l F p dp acc = .ok (acc.length + (C kid acc.length).length - 1, j, acc ++ C kid acc.length) ∧ dropBl (l.drop j) = dropBl rest) ∧
  (∀ k rest, ∃ c Y, dropBl ((g kid k).1 ++ rest) = c :: Y ∧ c ≠ 93 ∧ c ≠ 125)
theorem at_drop {l : List UInt8} {i : Nat} {c : UInt8} {x : List UInt8} (h : l.drop i = c :: x) : pk l i = c ∧ i < l.length ∧ l.drop (i + 1) = x := by
  have h1 := pk_of0 h
  have h2 := lt_of_drop h (j := 0) (by simp)
  refine ⟨by simpa using h1, by omega, ?_⟩
  rw [← List.drop_drop, h]
  rfl
theorem parse_list {b : Nat → List UInt8} (hb : BlOk b) (l : List UInt8) (dp : Nat) (g : Int → Nat → List UInt8 × Nat) (C : Int → Nat → List JV) : ∀ (ks : List Int) (jx k p F : Nat) (rest : List UInt8) (acc : List JV) (pre : List Int),
    (∀ kid ∈ ks, VIH l (dp + 1) g C kid) → dropBl (l.drop p) = dropBl ((listW b g ks jx k).1 ++ (mkW b 93 (listW b g ks jx k).2 ++ rest)) → (pre = [] ↔ jx = 0) → 2 * (l.length - p) + 3 ≤ F →
    ∃ q j, listJ l F p dp acc pre = .ok (q, j, acc ++ ((canonL C ks acc.length).1 ++ [jList (pre ++ (canonL C ks acc.length).2)])) ∧ q = acc.length + (canonL C ks acc.length).1.length ∧ dropBl (l.drop j) = dropBl rest
  | [], jx, k, p, F, rest, acc, pre, _, hd, _, hF => by
    obtain ⟨F, rfl⟩ : ∃ g, F = g + 1 := ⟨F - 1, by omega⟩
    simp only [listW, List.nil_append] at hd
    rw [mk_drop hb (by rfl), ← skip_drop] at hd
    have ha := at_drop hd
    refine ⟨acc.length, skip l p + 1, ?_, ?_, ?_⟩
    · rw [listJ]
      simp only [ha.1, if_true]
      simp [canonL]
    · simp [canonL]
    · rw [ha.2.2, dropBl_app (hb _)]
  | kid :: ks, jx, k, p, F, rest, acc, pre, hV, hd, hpre, hF => by
    obtain ⟨F, rfl⟩ : ∃ g, F = g + 1 := ⟨F - 1, by omega⟩
    obtain ⟨hv, hh⟩ := hV kid (by simp)
    have hEnd : ∀ k', EndOk ((listW b g ks (jx + 1) k').1 ++ (mkW b 93 (listW b g ks (jx + 1) k').2 ++ rest)) := fun k' => by
      cases ks with
      | nil => exact EndOk_mk hb (.inr (.inl rfl)) _ _
      | cons kid2 ks =>
        simp only [listW]
        rw [List.append_assoc]
        unfold sepW
        rw [if_pos (by omega)]
        exact EndOk_mk hb (.inl rfl) _ _
    simp only [listW] at hd
    have key : ∃ p', (if pre = [] then skip l p else skip l p + 1) = p' ∧ ¬ (pk l (skip l p) = 93) ∧ ¬ (pre ≠ [] ∧ pk l (skip l p) ≠ 44) ∧ p ≤ p' ∧
        dropBl (l.drop p') = dropBl ((g kid (sepW b jx k).2).1 ++ ((listW b g ks (jx + 1) (g kid (sepW b jx k).2).2).1 ++ (mkW b 93 (listW b g ks (jx + 1) (g kid (sepW b jx k).2).2).2 ++ rest))) := by
      have hsk := skip_ge l p
      by_cases hp : pre = []
      · have hj : jx = 0 := hpre.1 hp
        refine ⟨skip l p, by rw [if_pos hp], ?_, fun h => h.1 hp, hsk, ?_⟩
        · subst hj
          unfold sepW at hd
          simp only [Nat.lt_irrefl, if_false, List.nil_append, List.append_assoc] at hd
          obtain ⟨c, Y, e, h1, _⟩ := hh k ((listW b g ks (0 + 1) (g kid k).2).1 ++ (mkW b 93 (listW b g ks (0 + 1) (g kid k).2).2 ++ rest))
          rw [e, ← skip_drop] at hd
          rw [(at_drop hd).1]
          exact h1
        · rw [← skip_drop, skip_twice, skip_drop, hd]
          subst hj
          unfold sepW
          simp
      · have hj : 0 < jx := by
          rcases Nat.eq_zero_or_pos jx with h | h
          · exact absurd (hpre.2 h) hp
          · exact h
        have e : (sepW b jx k) = (mkW b 44 k, k + 2) := by unfold sepW; rw [if_pos hj]
        rw [e] at hd ⊢
        simp only [List.append_assoc] at hd
        rw [mk_drop hb (by rfl), ← skip_drop] at hd
        have ha := at_drop hd
        refine ⟨skip l p + 1, by rw [if_neg hp], by rw [ha.1]; decide, fun h => h.2 ha.1, by omega, ?_⟩
        rw [ha.2.2, dropBl_app (hb _)]
    obtain ⟨p', hp', hne, hn44, hpp, hdp⟩ := key
    obtain ⟨j, hj1, hj2⟩ := hv _ p' _ F acc hdp (hEnd _) (by omega)
    have hlt := val_lt hj1
    obtain ⟨q2, j2, h3, h4, h5⟩ := parse_list hb l dp g C ks (jx + 1) _ j F rest (acc ++ C kid acc.length) (pre ++ [((acc.length + (C kid acc.length).length - 1 : Nat) : Int)]) (fun x hx => hV x (by simp [hx])) hj2 (by simp) (by omega)
    refine ⟨q2, j2, ?_, ?_, h5⟩
    · rw [listJ]
      simp only [if_neg hne, if_neg hn44, hp', hj1, h3]
      simp [canonL, List.append_assoc]
    · rw [h4]
      simp [canonL, Nat.add_assoc]
theorem quote_head (s x : List UInt8) : quoteJ s ++ x = 34 :: ((s.flatMap quoteB ++ [34]) ++ x) := by simp [quoteJ]
theorem parse_object {b : Nat → List UInt8} (hb : BlOk b) (l : List UInt8) (dp : Nat) (names : List (List UInt8)) (hnv : ∀ s ∈ names, validL s = true) (hnd : noDup names = true) (g : Int → Nat → List UInt8 × Nat) (C : Int → Nat → List JV) : ∀ (ks : List Int) (jx k p F : Nat) (rest : List UInt8) (acc : List JV) (pre : List Int),
    (∀ kid ∈ ks, VIH l (dp + 1) g C kid) → dropBl (l.drop p) = dropBl ((objW b names g ks jx k).1 ++ (mkW b 125 (objW b names g ks jx k).2 ++ rest)) → (pre = [] ↔ jx = 0) → jx + ks.length = names.length → 2 * (l.length - p) + 3 ≤ F →
    ∃ q j, objectJ l F p dp acc pre (names.take jx) = .ok (q, j, acc ++ ((canonL C ks acc.length).1 ++ [jObj (pre ++ (canonL C ks acc.length).2) names])) ∧ q = acc.length + (canonL C ks acc.length).1.length ∧ dropBl (l.drop j) = dropBl rest
  | [], jx, k, p, F, rest, acc, pre, _, hd, _, hn, hF => by
    obtain ⟨F, rfl⟩ : ∃ g, F = g + 1 := ⟨F - 1, by omega⟩
    simp only [objW, List.nil_append] at hd
    rw [mk_drop hb (by rfl), ← skip_drop] at hd
    have ha := at_drop hd
    have ht : names.take jx = names := List.take_of_length_le (by simp at hn; omega)
    refine ⟨acc.length, skip l p + 1, ?_, ?_, ?_⟩
    · rw [objectJ]
      simp only [ha.1, if_true, ht]
      simp [canonL]
    · simp [canonL]
    · rw [ha.2.2, dropBl_app (hb _)]
  | kid :: ks, jx, k, p, F, rest, acc, pre, hV, hd, hpre, hn, hF => by
    obtain ⟨F, rfl⟩ : ∃ g, F = g + 1 := ⟨F - 1, by omega⟩
    obtain ⟨hv, hh⟩ := hV kid (by simp)
    have hjn : jx < names.length := by simp at hn; omega
    have hEnd : ∀ k', EndOk ((objW b names g ks (jx + 1) k').1 ++ (mkW b 125 (objW b names g ks (jx + 1) k').2 ++ rest)) := fun k' => by
      cases ks with
      | nil => exact EndOk_mk hb (.inr (.inr rfl)) _ _
      | cons kid2 ks =>
        simp only [objW]
        rw [List.append_assoc]
        unfold sepW
        rw [if_pos (by omega)]
        exact EndOk_mk hb (.inl rfl) _ _
    have hg : names.getD jx [] = names[jx] := by simp [List.getD_eq_getElem?_getD, hjn]
    simp only [objW, hg] at hd
    have key : ∃ p', (if pre = [] then skip l p else skip l (skip l p + 1)) = p' ∧ ¬ (pk l (skip l p) = 125) ∧ ¬ (pre ≠ [] ∧ pk l (skip l p) ≠ 44) ∧ p ≤ p' ∧
        l.drop p' = quoteJ names[jx] ++ (mkW b 58 (sepW b jx k).2 ++ ((g kid ((sepW b jx k).2 + 2)).1 ++ ((objW b names g ks (jx + 1) (g kid ((sepW b jx k).2 + 2)).2).1 ++ (mkW b 125 (objW b names g ks (jx + 1) (g kid ((sepW b jx k).2 + 2)).2).2 ++ rest)))) := by
      have hsk := skip_ge l p
      by_cases hp : pre = []
      · have hj : jx = 0 := hpre.1 hp
        have e : (sepW b jx k) = ([], k) := by unfold sepW; rw [if_neg (by omega)]
        rw [e] at hd ⊢
        simp only [List.nil_append, List.append_assoc] at hd
        have hd' := hd
        rw [quote_head, dropBl_cons (by rfl), ← quote_head, ← skip_drop] at hd
        have ha := at_drop (hd.trans (quote_head _ _))
        exact ⟨skip l p, by rw [if_pos hp], by rw [ha.1]; decide, fun h => h.1 hp, hsk, hd⟩
      · have hj : 0 < jx := by
          rcases Nat.eq_zero_or_pos jx with h | h
          · exact absurd (hpre.2 h) hp
          · exact h
        have e : (sepW b jx k) = (mkW b 44 k, k + 2) := by unfold sepW; rw [if_pos hj]
        rw [e] at hd ⊢
        simp only [List.append_assoc] at hd
        rw [mk_drop hb (by rfl), ← skip_drop] at hd
        have ha := at_drop hd
        have hs2 := skip_ge l (skip l p + 1)
        refine ⟨skip l (skip l p + 1), by rw [if_neg hp], by rw [ha.1]; decide, fun h => h.2 ha.1, by omega, ?_⟩
        rw [skip_drop, ha.2.2, dropBl_app (hb _), quote_head, dropBl_cons (by rfl), ← quote_head]
    obtain ⟨p', hp', hne, hn44, hpp, hdp⟩ := key
    have htx := textJ_quote (hnv _ (List.getElem_mem hjn)) hdp
    have h34 := (at_drop (hdp.trans (quote_head _ _))).1
    have hafter := dropq_at hdp
    have hnot := noDup_take hnd jx hjn
    have hd3 : l.drop (skip l (p' + (quoteJ names[jx]).length)) = 58 :: (b ((sepW b jx k).2 + 1) ++ ((g kid ((sepW b jx k).2 + 2)).1 ++ ((objW b names g ks (jx + 1) (g kid ((sepW b jx k).2 + 2)).2).1 ++ (mkW b 125 (objW b names g ks (jx + 1) (g kid ((sepW b jx k).2 + 2)).2).2 ++ rest)))) := by
      rw [skip_drop, hafter, mk_drop hb (by rfl)]
    have ha3 := at_drop hd3
    have hs3 := skip_ge l (p' + (quoteJ names[jx]).length)
    obtain ⟨j, hj1, hj2⟩ := hv ((sepW b jx k).2 + 2) (skip l (p' + (quoteJ names[jx]).length) + 1) _ F acc (by rw [ha3.2.2, dropBl_app (hb _)]) (hEnd _) (by omega)
    have hlt := val_lt hj1
    obtain ⟨q2, j2, h3, h4, h5⟩ := parse_object hb l dp names hnv hnd g C ks (jx + 1) _ j F rest (acc ++ C kid acc.length) (pre ++ [((acc.length + (C kid acc.length).length - 1 : Nat) : Int)]) (fun x hx => hV x (by simp [hx])) hj2 (by simp) (by simp at hn; omega) (by omega)
    have htk : names.take jx ++ [names[jx]] = names.take (jx + 1) := by rw [List.take_succ_eq_append_getElem hjn]
    refine ⟨q2, j2, ?_, ?_, h5⟩
    · rw [objectJ]
      simp only [if_neg hne, if_neg hn44, hp', h34, ne_eq, not_true_eq_false, if_false, htx, if_neg hnot, ha3.1, hj1, htk, h3]
      simp [canonL, List.append_assoc]
    · rw [h4]
      simp [canonL, Nat.add_assoc]
theorem dec_head (n : Int) (rest : List UInt8) : ∃ c Y, decJ n ++ rest = c :: Y ∧ isBl c = false ∧ (c = 45 ∨ isDig c = true) ∧ c ≠ 123 ∧ c ≠ 91 ∧ c ≠ 34 ∧ c ≠ 93 ∧ c ≠ 125 := by
  have key : ∀ d : Fin 10, isBl (UInt8.ofNat (48 + d.val)) = false ∧ isDig (UInt8.ofNat (48 + d.val)) = true ∧ UInt8.ofNat (48 + d.val) ≠ 123 ∧ UInt8.ofNat (48 + d.val) ≠ 91 ∧ UInt8.ofNat (48 + d.val) ≠ 34 ∧ UInt8.ofNat (48 + d.val) ≠ 93 ∧ UInt8.ofNat (48 + d.val) ≠ 125 := by decide
  unfold decJ
  split
  · exact ⟨45, _, rfl, by rfl, .inl rfl, by decide, by decide, by decide, by decide, by decide⟩
  · obtain ⟨d, r, h, hd, _⟩ := decGo_head n.natAbs n.natAbs (Nat.le_refl _)
    have k := key ⟨d, hd⟩
    exact ⟨_, _, by rw [h]; rfl, k.1, .inr k.2.1, k.2.2⟩
theorem wW_head {b : Nat → List UInt8} (hb : BlOk b) {t : List JV} {D : Nat → Nat} (G : Good t D) (i f k : Nat) (rest : List UInt8) (hi : i < t.length) : ∃ c Y, dropBl ((wW b t (f + 1) i k).1 ++ rest) = c :: Y ∧ c ≠ 93 ∧ c ≠ 125 := by
  simp only [wW, getD_at t i hi]
  rcases used_cases (G.used i hi) with e | ⟨x, e⟩ | ⟨n, e⟩ | ⟨s, e⟩ | ⟨ks, e⟩ | ⟨ks, ns, e, _⟩
  · simp only [e, jNull]
    exact ⟨110, _, dropBl_cons (by rfl) _, by decide, by decide⟩
  · cases x
    · simp only [e, jBool]
      exact ⟨102, _, dropBl_cons (by rfl) _, by decide, by decide⟩
    · simp only [e, jBool]
      exact ⟨116, _, dropBl_cons (by rfl) _, by decide, by decide⟩
  · obtain ⟨c, Y, h, h1, h2⟩ := dec_head n rest
    simp only [e, jNum]
    refine ⟨c, Y, ?_, h2.2.2.2.2.1, h2.2.2.2.2.2⟩
    show dropBl (decJ n ++ rest) = _
    rw [h, dropBl_cons h1]
  · simp only [e, jStr]
    exact ⟨34, _, (show dropBl (quoteJ s ++ rest) = _ from (congrArg dropBl (quote_head s rest)).trans (dropBl_cons (by rfl) _)), by decide, by decide⟩
  · simp only [e, jList]
    exact ⟨91, _, (show dropBl ((mkW b 91 k ++ _) ++ rest) = _ from (congrArg dropBl (List.append_assoc _ _ _)).trans (mk_drop hb (by rfl) _ _)), by decide, by decide⟩
  · simp only [e, jObj]
    exact ⟨123, _, (show dropBl ((mkW b 123 k ++ _) ++ rest) = _ from (congrArg dropBl (List.append_assoc _ _ _)).trans (mk_drop hb (by rfl) _ _)), by decide, by decide⟩
theorem parse_all {b : Nat → List UInt8} (hb : BlOk b) {t : List JV} {D : Nat → Nat} (G : Good t D) (l : List UInt8) (i : Nat) : ∀ (f k p : Nat) (rest : List UInt8) (F dp : Nat) (acc : List JV), i < t.length → i < f →
    dropBl (l.drop p) = dropBl ((wW b t f i k).1 ++ rest) → EndOk rest → dp + D i ≤ 64 → 2 * (l.length - p) + 2 ≤ F →
    ∃ j, valueJ l F p dp acc = .ok (acc.length + (canon t f i acc.length).length - 1, j, acc ++ canon t f i acc.length) ∧ dropBl (l.drop j) = dropBl rest := by
  induction i using Nat.strongRecOn with
  | _ i ih =>
  intro f k p rest F dp acc hi hf hd hend hdp hF
  obtain ⟨f, rfl⟩ : ∃ g, f = g + 1 := ⟨f - 1, by omega⟩
  obtain ⟨F, rfl⟩ : ∃ g, F = g + 1 := ⟨F - 1, by omega⟩
  have hu := G.used i hi
  have hdep := G.depth i hi
  have hkid := G.kids i hi
  have hnum := G.num i hi
  have htx := G.text i hi
  have hns := G.names i hi
  have hdup := G.dup i hi
  simp only [wW, getD_at t i hi] at hd
  simp only [canon, getD_at t i hi]
  generalize t[i] = v at *
  rw [valueJ]
  have hsk := skip_ge l p
  rcases used_cases hu with rfl | ⟨x, rfl⟩ | ⟨n, rfl⟩ | ⟨s, rfl⟩ | ⟨ks, rfl⟩ | ⟨ks, ns, rfl, hkn⟩
  · replace hd : dropBl (l.drop p) = dropBl ([110, 117, 108, 108] ++ rest) := hd
    rw [List.cons_append, dropBl_cons (by rfl), ← List.cons_append, ← skip_drop] at hd
    have ha := (at_drop hd).1
    have hw := wordJ_at hd
    refine ⟨_, ?_, by rw [dropq_at hd]⟩
    simp only [ha, hw]
    simp [jNull, isDig]
  · cases x
    · replace hd : dropBl (l.drop p) = dropBl ([102, 97, 108, 115, 101] ++ rest) := hd
      rw [List.cons_append, dropBl_cons (by rfl), ← List.cons_append, ← skip_drop] at hd
      have ha := (at_drop hd).1
      have hw := wordJ_at hd
      refine ⟨_, ?_, by rw [dropq_at hd]⟩
      simp only [ha, hw]
      simp [jBool, isDig]
    · replace hd : dropBl (l.drop p) = dropBl ([116, 114, 117, 101] ++ rest) := hd
      rw [List.cons_append, dropBl_cons (by rfl), ← List.cons_append, ← skip_drop] at hd
      have ha := (at_drop hd).1
      have hw := wordJ_at hd
      refine ⟨_, ?_, by rw [dropq_at hd]⟩
      simp only [ha, hw]
      simp [jBool, isDig]
  · replace hd : dropBl (l.drop p) = dropBl (decJ n ++ rest) := hd
    obtain ⟨c, Y, h, h1, h2⟩ := dec_head n rest
    rw [h, dropBl_cons h1, ← skip_drop] at hd
    have ha := (at_drop hd).1
    rw [← h] at hd
    have hw := numberJ_dec hnum hd hend
    refine ⟨_, ?_, by rw [dropq_at hd]⟩
    simp only [ha, if_neg h2.2.1, if_neg h2.2.2.1, if_neg h2.2.2.2.1, if_pos h2.1, hw]
    simp [jNum]
  · replace hd : dropBl (l.drop p) = dropBl (quoteJ s ++ rest) := hd
    rw [quote_head, dropBl_cons (by rfl), ← quote_head, ← skip_drop] at hd
    have ha := (at_drop (hd.trans (quote_head _ _))).1
    have hw := textJ_quote htx hd
    refine ⟨_, ?_, by rw [dropq_at hd]⟩
    simp only [ha, hw]
    simp [jStr]
  · replace hd : dropBl (l.drop p) = dropBl ((mkW b 91 k ++ ((listW b (fun kid k => wW b t f kid.toNat k) ks 0 (k + 2)).1 ++ mkW b 93 (listW b (fun kid k => wW b t f kid.toNat k) ks 0 (k + 2)).2)) ++ rest) := hd
    simp only [List.append_assoc] at hd
    rw [mk_drop hb (by rfl), ← skip_drop] at hd
    have ha := at_drop hd
    have hde := hdep (.inl rfl)
    have hV : ∀ kid ∈ ks, VIH l (dp + 1) (fun kid k => wW b t f kid.toNat k) (fun kid base => canon t f kid.toNat base) kid := fun kid hk => by
      have h0 := hkid kid hk
      have h1 := hde.2 kid hk
      refine ⟨fun k' p' rest' F' acc' e1 e2 e3 => ih kid.toNat (by omega) f k' p' rest' F' (dp + 1) acc' (by omega) (by omega) e1 e2 (by omega) e3, fun k' rest' => ?_⟩
      obtain ⟨f, rfl⟩ : ∃ g, f = g + 1 := ⟨f - 1, by omega⟩
      exact wW_head hb G kid.toNat f k' rest' (by omega)
    obtain ⟨q, j, h1, h2, h3⟩ := parse_list hb l dp _ _ ks 0 (k + 2) (skip l p + 1) F rest acc [] hV (by rw [ha.2.2, dropBl_app (hb _)]) (by simp) (by omega)
    refine ⟨j, ?_, h3⟩
    have e : (jList ks).kind = 5 := rfl
    have ek : (jList ks).kids = ks := rfl
    have hdp2 : ¬ dp = 64 := by omega
    simp only [ha.1, e, ek, if_true, hdp2, if_false, h1, h2]
    simp
  · replace hd : dropBl (l.drop p) = dropBl ((mkW b 123 k ++ ((objW b ns (fun kid k => wW b t f kid.toNat k) ks 0 (k + 2)).1 ++ mkW b 125 (objW b ns (fun kid k => wW b t f kid.toNat k) ks 0 (k + 2)).2)) ++ rest) := hd
    simp only [List.append_assoc] at hd
    rw [mk_drop hb (by rfl), ← skip_drop] at hd
    have ha := at_drop hd
    have hde := hdep (.inr rfl)
    have hV : ∀ kid ∈ ks, VIH l (dp + 1) (fun kid k => wW b t f kid.toNat k) (fun kid base => canon t f kid.toNat base) kid := fun kid hk => by
      have h0 := hkid kid hk
      have h1 := hde.2 kid hk
      refine ⟨fun k' p' rest' F' acc' e1 e2 e3 => ih kid.toNat (by omega) f k' p' rest' F' (dp + 1) acc' (by omega) (by omega) e1 e2 (by omega) e3, fun k' rest' => ?_⟩
      obtain ⟨f, rfl⟩ : ∃ g, f = g + 1 := ⟨f - 1, by omega⟩
      exact wW_head hb G kid.toNat f k' rest' (by omega)
    obtain ⟨q, j, h1, h2, h3⟩ := parse_object hb l dp ns hns hdup _ _ ks 0 (k + 2) (skip l p + 1) F rest acc [] hV (by rw [ha.2.2, dropBl_app (hb _)]) (by simp) (by simpa using hkn) (by omega)
    refine ⟨j, ?_, h3⟩
    have e : (jObj ks ns).kind = 6 := rfl
    have ek : (jObj ks ns).kids = ks := rfl
    have en : (jObj ks ns).names = ns := rfl
    have hdp2 : ¬ dp = 64 := by omega
    rw [List.take_zero] at h1
    simp only [ha.1, e, ek, en, if_true, hdp2, if_false, h1, h2]
    simp
/-- A good tree's text, blanks between, is parsed as the tree in the order of its text. -/
theorem parseJ_wW {b : Nat → List UInt8} (hb : BlOk b) {t : List JV} {D : Nat → Nat} (G : Good t D) (i k : Nat) (e1 e2 : List UInt8) (h1 : ∀ c ∈ e1, isBl c = true) (h2 : ∀ c ∈ e2, isBl c = true) (hi : i < t.length) (f : Nat) (hf : i < f) (hD : D i ≤ 64)
    (hl : (e1 ++ ((wW b t f i k).1 ++ e2)).length ≤ 268435456) : parseJ (e1 ++ ((wW b t f i k).1 ++ e2)) = .ok (canon t f i 0) := by
  have hend : EndOk e2 := by
    have := EndOk_bl h2 (x := []) ⟨by rfl, by decide, by decide, by decide⟩
    rwa [List.append_nil] at this
  obtain ⟨j, h3, h4⟩ := parse_all hb G (e1 ++ ((wW b t f i k).1 ++ e2)) i f k 0 e2 _ 0 [] hi hf (by rw [List.drop_zero, dropBl_app h1]) hend (by omega) (by omega : _ ≤ 2 * (e1 ++ ((wW b t f i k).1 ++ e2)).length + 3)
  unfold parseJ
  rw [if_neg (by omega), h3]
  simp only
  have hb2 : dropBl e2 = [] := by
    have := dropBl_app h2 (x := [])
    rwa [List.append_nil] at this
  rw [hb2, ← skip_drop] at h4
  have := congrArg List.length h4
  rw [List.length_drop] at this
  rw [if_neg (by simp only [List.length_nil] at this; omega)]
  rfl
end Go.Proofs.YtknmbfkpclacgaaGreatDoor
