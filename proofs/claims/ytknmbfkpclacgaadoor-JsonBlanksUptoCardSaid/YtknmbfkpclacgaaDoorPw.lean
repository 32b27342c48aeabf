/- Plain law: blanks where they may stand (as wide lays them into a text) make the text with blanks of Pb. -/
import Derived.Test.YtknmbfkpclacgaaDoorPb
set_option linter.unusedSimpArgs false
namespace Go.Proofs.YtknmbfkpclacgaaDoor

def isMark (c : UInt8) : Bool := c == 91 || c == 93 || c == 123 || c == 125 || c == 44 || c == 58
/-- inside a string? behind a stroke? -/
def nIn (c : UInt8) (ins esc : Bool) : Bool := if ins && esc then ins else if ins && c == 92 then ins else if c == 34 then !ins else ins
def nEsc (c : UInt8) (ins esc : Bool) : Bool := if ins && esc then false else if ins && c == 92 then true else esc
def wideGo (b : Nat → List UInt8) : List UInt8 → Bool → Bool → Nat → List UInt8 × Nat
  | [], _, _, k => ([], k)
  | c :: r, ins, esc, k =>
    if !ins && isMark c then
      let q := wideGo b r (nIn c ins esc) (nEsc c ins esc) (k + 2)
      (mkW b c k ++ q.1, q.2)
    else
      let q := wideGo b r (nIn c ins esc) (nEsc c ins esc) k
      (c :: q.1, q.2)
def WD (b : Nat → List UInt8) (x y : List UInt8) (k k' : Nat) : Prop := ∀ rest, wideGo b (x ++ rest) false false k = (y ++ (wideGo b rest false false k').1, (wideGo b rest false false k').2)
theorem WD.nil (b : Nat → List UInt8) (k : Nat) : WD b [] [] k k := fun rest => by simp
theorem WD.comp {b : Nat → List UInt8} {x1 y1 x2 y2 : List UInt8} {k k1 k2 : Nat} (h1 : WD b x1 y1 k k1) (h2 : WD b x2 y2 k1 k2) : WD b (x1 ++ x2) (y1 ++ y2) k k2 := fun rest => by
  rw [List.append_assoc, h1, h2]
  simp
theorem WD.plain {b : Nat → List UInt8} (k : Nat) : ∀ (x : List UInt8), (∀ c ∈ x, isMark c = false ∧ c ≠ 34) → WD b x x k k
  | [], _ => WD.nil b k
  | c :: x, h => fun rest => by
    have hc := h c (by simp)
    have ih := WD.plain k x (fun d hd => h d (by simp [hd])) (b := b) rest
    have h34 : (c == 34) = false := by rw [beq_eq_false_iff_ne]; exact hc.2
    rw [List.cons_append, wideGo]
    simp only [hc.1, Bool.and_false, Bool.false_eq_true, if_false]
    have e1 : nIn c false false = false := by simp [nIn, h34]
    have e2 : nEsc c false false = false := by simp [nEsc]
    rw [e1, e2, ih]
    rfl
theorem WD.mark {b : Nat → List UInt8} {c : UInt8} (hc : isMark c = true) (k : Nat) : WD b [c] (mkW b c k) k (k + 2) := fun rest => by
  have h34 : (c == 34) = false := by
    rw [beq_eq_false_iff_ne]
    rintro rfl
    exact absurd hc (by decide)
  rw [List.cons_append, List.nil_append, wideGo]
  have e1 : nIn c false false = false := by simp [nIn, h34]
  have e2 : nEsc c false false = false := by simp [nEsc]
  simp only [hc, e1, e2, Bool.not_false, Bool.and_self, if_true]
theorem in_one (b : Nat → List UInt8) (c : UInt8) (rest : List UInt8) (esc : Bool) (k : Nat) : wideGo b (c :: rest) true esc k = (c :: (wideGo b rest (nIn c true esc) (nEsc c true esc) k).1, (wideGo b rest (nIn c true esc) (nEsc c true esc) k).2) := by
  rw [wideGo]
  simp
theorem in_plain (b : Nat → List UInt8) {c : UInt8} (h34 : c ≠ 34) (h92 : c ≠ 92) (rest : List UInt8) (k : Nat) : wideGo b (c :: rest) true false k = (c :: (wideGo b rest true false k).1, (wideGo b rest true false k).2) := by
  have e34 : (c == 34) = false := by rw [beq_eq_false_iff_ne]; exact h34
  have e92 : (c == 92) = false := by rw [beq_eq_false_iff_ne]; exact h92
  have e1 : nIn c true false = true := by simp [nIn, e34, e92]
  have e2 : nEsc c true false = false := by simp [nEsc, e92]
  rw [in_one, e1, e2]
theorem in_esc (b : Nat → List UInt8) (c : UInt8) (rest : List UInt8) (k : Nat) : wideGo b (92 :: c :: rest) true false k = (92 :: c :: (wideGo b rest true false k).1, (wideGo b rest true false k).2) := by
  rw [in_one, show nIn 92 true false = true from rfl, show nEsc 92 true false = true from rfl, in_one, show nIn c true true = true from rfl, show nEsc c true true = false from rfl]
theorem hexd_ne : ∀ m : Fin 16, hexd m.val ≠ 34 ∧ hexd m.val ≠ 92 := by decide
theorem in_quoteB (b : Nat → List UInt8) (c : UInt8) (rest : List UInt8) (k : Nat) : wideGo b (quoteB c ++ rest) true false k = (quoteB c ++ (wideGo b rest true false k).1, (wideGo b rest true false k).2) := by
  unfold quoteB
  cases hs : shortJ c with
  | some e =>
    have he : ∃ x, e = [92, x] := by
      unfold shortJ at hs
      repeat' split at hs
      all_goals simp only [Option.some.injEq, reduceCtorEq] at hs
      all_goals (subst hs; exact ⟨_, rfl⟩)
    obtain ⟨x, rfl⟩ := he
    exact in_esc b x rest k
  | none =>
    simp only
    have hc := c.toNat_lt
    split
    · rename_i h32
      have x1 := hexd_ne ⟨c.toNat / 16, by omega⟩
      have x2 := hexd_ne ⟨c.toNat % 16, by omega⟩
      simp only at x1 x2
      simp only [List.cons_append, List.nil_append]
      rw [in_esc, in_plain b (by decide) (by decide), in_plain b (by decide) (by decide), in_plain b x1.1 x1.2, in_plain b x2.1 x2.2]
    · have h34 : c ≠ 34 := by rintro rfl; simp [shortJ] at hs
      have h92 : c ≠ 92 := by rintro rfl; simp [shortJ] at hs
      exact in_plain b h34 h92 rest k
theorem in_text (b : Nat → List UInt8) (k : Nat) (rest : List UInt8) : ∀ s : List UInt8, wideGo b (s.flatMap quoteB ++ rest) true false k = (s.flatMap quoteB ++ (wideGo b rest true false k).1, (wideGo b rest true false k).2)
  | [] => rfl
  | c :: s => by
    rw [List.flatMap_cons, List.append_assoc, in_quoteB, in_text b k rest s]
    simp
theorem WD.quote (b : Nat → List UInt8) (k : Nat) (s : List UInt8) : WD b (quoteJ s) (quoteJ s) k k := fun rest => by
  unfold quoteJ
  simp only [List.cons_append, List.nil_append, List.append_assoc]
  rw [wideGo]
  simp only [show isMark 34 = false from rfl, Bool.and_false, Bool.false_eq_true, if_false]
  rw [show nIn 34 false false = true from rfl, show nEsc 34 false false = false from rfl, in_text, in_one, show nIn 34 true false = false from rfl, show nEsc 34 true false = false from rfl]
theorem WD.sep (b : Nat → List UInt8) (j k k0 : Nat) : WD b (sepW noBl j k0).1 (sepW b j k).1 k (sepW b j k).2 := by
  unfold sepW
  split
  · exact WD.mark (by rfl) k
  · exact WD.nil b k
theorem WD.list {b : Nat → List UInt8} (g0 g : Int → Nat → List UInt8 × Nat) (h : ∀ kid k0 k, WD b (g0 kid k0).1 (g kid k).1 k (g kid k).2) : ∀ (ks : List Int) (j k0 k : Nat), WD b (listW noBl g0 ks j k0).1 (listW b g ks j k).1 k (listW b g ks j k).2
  | [], _, _, k => WD.nil b k
  | kid :: ks, j, k0, k => by
    simp only [listW]
    exact (WD.sep b j k k0).comp ((h kid _ _).comp (WD.list g0 g h ks (j + 1) _ _))
theorem WD.obj {b : Nat → List UInt8} (names : List (List UInt8)) (g0 g : Int → Nat → List UInt8 × Nat) (h : ∀ kid k0 k, WD b (g0 kid k0).1 (g kid k).1 k (g kid k).2) : ∀ (ks : List Int) (j k0 k : Nat), WD b (objW noBl names g0 ks j k0).1 (objW b names g ks j k).1 k (objW b names g ks j k).2
  | [], _, _, k => WD.nil b k
  | kid :: ks, j, k0, k => by
    simp only [objW]
    exact (WD.sep b j k k0).comp ((WD.quote b _ _).comp ((WD.mark (by rfl) _).comp ((h kid _ _).comp (WD.obj names g0 g h ks (j + 1) _ _))))
theorem decGo_plain : ∀ (k n : Nat), n ≤ k → ∀ c ∈ decGo k n, isMark c = false ∧ c ≠ 34 := by
  have key : ∀ d : Fin 10, isMark (UInt8.ofNat (48 + d.val)) = false ∧ UInt8.ofNat (48 + d.val) ≠ 34 := by decide
  intro k
  induction k with
  | zero =>
    intro n h c hc
    obtain rfl : n = 0 := by omega
    simp only [decGo, List.mem_singleton] at hc
    subst hc
    exact key 0
  | succ k ih =>
    intro n h c hc
    rw [decGo] at hc
    split at hc
    · rename_i h10
      simp only [List.mem_singleton] at hc
      subst hc
      exact key ⟨n, h10⟩
    · rcases List.mem_append.1 hc with hc | hc
      · exact ih (n / 10) (by omega) c hc
      · simp only [List.mem_singleton] at hc
        subst hc
        exact key ⟨n % 10, by omega⟩
theorem WD.dec (b : Nat → List UInt8) (k : Nat) (n : Int) : WD b (decJ n) (decJ n) k k := by
  refine WD.plain k _ fun c hc => ?_
  unfold decJ at hc
  split at hc
  · rcases List.mem_append.1 hc with hc | hc
    · simp only [List.mem_singleton] at hc
      subst hc
      exact ⟨by rfl, by decide⟩
    · exact decGo_plain _ _ (Nat.le_refl _) c hc
  · exact decGo_plain _ _ (Nat.le_refl _) c hc
theorem WD.value (b : Nat → List UInt8) (t : List JV) : ∀ (f i k0 k : Nat), WD b (wW noBl t f i k0).1 (wW b t f i k).1 k (wW b t f i k).2
  | 0, _, _, k => WD.nil b k
  | f + 1, i, k0, k => by
    have ih := WD.value b t f
    simp only [wW]
    repeat' split
    · exact WD.plain k [110, 117, 108, 108] (by decide)
    · exact WD.plain k [116, 114, 117, 101] (by decide)
    · exact WD.plain k [102, 97, 108, 115, 101] (by decide)
    · exact WD.dec b k _
    · exact WD.quote b k _
    · exact (WD.mark (by rfl) k).comp ((WD.list _ _ (fun kid k0 k => ih kid.toNat k0 k) _ 0 _ _).comp (WD.mark (by rfl) _))
    · exact (WD.mark (by rfl) k).comp ((WD.obj _ _ _ (fun kid k0 k => ih kid.toNat k0 k) _ 0 _ _).comp (WD.mark (by rfl) _))
    · exact WD.nil b k
/-- What wide makes of a tree's text. -/
theorem wideGo_write (b : Nat → List UInt8) (t : List JV) (f i k : Nat) : wideGo b (writeJ t f i) false false k = wW b t f i k := by
  have h := WD.value b t f i 0 k []
  rw [wW_nil, List.append_nil] at h
  rw [h]
  simp [wideGo]
end Go.Proofs.YtknmbfkpclacgaaDoor
