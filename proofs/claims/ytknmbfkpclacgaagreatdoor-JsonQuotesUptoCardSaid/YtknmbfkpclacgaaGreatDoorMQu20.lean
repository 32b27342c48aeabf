import Derived.Test.YtknmbfkpclacgaaGreatDoorMQu18
import Derived.Test.YtknmbfkpclacgaaGreatDoorMQu19
import Derived.Test.YtknmbfkpclacgaaGreatDoorMQu6
import Derived.Test.YtknmbfkpclacgaaGreatDoorMQu17
/- The document's steps: Inside, Edges: the walks. -/
set_option linter.unusedSimpArgs false
namespace Go.Proofs.YtknmbfkpclacgaaGreatDoor
open Go.RowKit

theorem hit_long (l : List UInt8) (p k : Nat) (h1 : 1 ≤ k) : hit l p k ↔ k ≤ p ∧ k < longN l (p - k) := by
  unfold hit wid longN
  cases dec (l.drop (p - k)) with
  | none => simp; omega
  | some r => rfl

set_option maxRecDepth 100000 in
set_option maxHeartbeats 4000000 in
theorem rinside_any (A : Option Addr) (cap : Nat) (l : List UInt8) (p B : Nat) (w : World) (h : Bs w B A l) (hp : p ≤ 1000000000000000) :
    Calls Tryz.prog 193 #[.slice A l.length cap, .int .i64 p] w fun e w' => e = .returned (.bool (insideN l p != 0)) ∧ Drawn w w' := by
  have H := Lib.hid h
  clear h
  go_enter Tryz.func193, Tryz.ntmps193
  go_wp2_with fail
  go_loopg [5] 5 (fun g s5 wr => ∃ k : Nat, s5 = .int .i64 k ∧ 1 ≤ k ∧ k ≤ 4 ∧ (∀ j, 1 ≤ j → j < k → ¬ hit l p j) ∧ Drawn w wr ∧ 4 - k + 1 ≤ g)
  case atStart => exact ⟨1, rfl, by omega, by omega, fun j h1 h2 => by omega, Drawn.refl _, by omega⟩
  case round =>
    obtain ⟨k, rfl, hk1, hk4, hnh, hd, hg⟩ := hrel
    have HN := Lib.hid hnh
    have HD := Lib.hid hd
    have HG := Lib.hid hg
    clear hnh hd hg
    by_cases hk : k = 4
    · have he : (insideN l p != 0) = false := by
        rw [inside_none (k := 4) (fun j h1 h3 hh => HN.out j h1 (by omega) hh) (.inl (by omega))]; rfl
      have HE := Lib.hid he
      have hk3 : ¬ ((k : Int) ≤ 3) := by omega
      clear he
      go_wp2_with fail
      go_ret
      exact ⟨by rw [HE.out]; rfl, HD.out⟩
    · by_cases hpk : k ≤ p
      · have hL := fun n => long_any A cap l (p - k) B (wr.drewN n) ((HD.out.step n).bs H.out) (by omega)
        simp only [refLong_long] at hL
        have hhit := hit_long l p k hk1
        rw [show ((p - k : Nat) : Int) = (p : Int) - (k : Int) by omega] at hL
        generalize longN l (p - k) = n at *
        have HL := Lib.hid hL
        have HH := Lib.hid hhit
        have hk3 : (k : Int) ≤ 3 := by omega
        clear hL hhit
        go_wp2_with fail
        refine (HL.out 0).mono ?_
        rintro e w1 ⟨rfl, rfl⟩
        by_cases hkn : k < n
        · have he : (insideN l p != 0) = true := by
            have h0 : insideN l p = k := inside_hit (l := l) (p := p) hk1 (by omega) (HH.out.2 ⟨hpk, hkn⟩) HN.out
            rw [h0, bne_iff_ne]
            omega
          have HE := Lib.hid he
          have h1 : (k : Int) < (n : Int) := by omega
          clear he
          go_wp2_with fail
          go_ret
          exact ⟨by rw [HE.out]; rfl, HD.out⟩
        · have hnk : ¬ hit l p k := fun h => hkn (HH.out.1 h).2
          have HNK := Lib.hid hnk
          have h1 : ¬ (k : Int) < (n : Int) := by omega
          clear hnk
          go_wp2_with fail
          go_roundg (4 - (k + 1) + 1)
          case measure => have := HG.out; omega
          case rel => exact ⟨k + 1, int_i64 (by omega), by omega, by omega, fun j h1 h2 => if h : j = k then h ▸ HNK.out else HN.out j h1 (by omega), HD.out, by omega⟩
      · have hnk : ¬ hit l p k := by unfold hit; omega
        have HNK := Lib.hid hnk
        have hk3 : (k : Int) ≤ 3 := by omega
        clear hnk
        go_wp2_with fail
        go_roundg (4 - (k + 1) + 1)
        case measure => have := HG.out; omega
        case rel => exact ⟨k + 1, int_i64 (by omega), by omega, by omega, fun j h1 h2 => if h : j = k then h ▸ HNK.out else HN.out j h1 (by omega), HD.out, by omega⟩
/-- the edges ahead of a place -/
def edgesTo (l : List UInt8) (p : Nat) : List Int := ((List.range p).filter fun q => insideN l q == 0).map fun q : Nat => (q : Int)
theorem edgesTo_len (l : List UInt8) (p : Nat) : (edgesTo l p).length ≤ p := by
  unfold edgesTo
  rw [List.length_map]
  exact Nat.le_trans (List.length_filter_le _ _) (by simp)
theorem edgesTo_yes {l : List UInt8} {p : Nat} (h : insideN l p = 0) : edgesTo l (p + 1) = edgesTo l p ++ [(p : Int)] := by
  unfold edgesTo
  rw [List.range_succ, List.filter_append]
  simp [h]
theorem edgesTo_no {l : List UInt8} {p : Nat} (h : ¬ insideN l p = 0) : edgesTo l (p + 1) = edgesTo l p := by
  unfold edgesTo
  rw [List.range_succ, List.filter_append]
  simp [h]

set_option maxRecDepth 100000 in
set_option maxHeartbeats 4000000 in
theorem redges_any (A : Option Addr) (cap : Nat) (l : List UInt8) (w : World) (h : Bs w w.heap.size A l) (hl : l.length ≤ 1000000000000) :
    Calls Tryz.prog 140 #[.slice A l.length cap] w fun e w' => ∃ v, e = .returned v ∧ w'.ownsRow w.heap.size 3 1 v (edgesTo l (l.length + 1)).length (ints (edgesTo l (l.length + 1))) ∧ Chg (fun _ => False) w w' := by
  obtain ⟨i0, hi, hz0, hz1, hz2⟩ := info_parts Tryz.infoInt
  have H := Lib.hid h
  have HI := Lib.hid (And.intro hi (And.intro hz0 (And.intro hz1 hz2)))
  clear h hi hz0 hz1 hz2
  go_enter Tryz.func140, Tryz.ntmps140
  go_wp2_with fail
  go_loopg [3, 4] (l.length + 3) (fun g s3 s4 wr => ∃ p : Nat, s4 = .int .i64 p ∧ p ≤ l.length + 1 ∧ wr.ownsRow w.heap.size 3 1 s3 (edgesTo l p).length (ints (edgesTo l p)) ∧ Chg (fun _ => False) w wr ∧ l.length + 1 - p + 1 ≤ g)
  case atStart => exact ⟨0, rfl, by omega, ⟨by simp [edgesTo, ints], .inl ⟨rfl, by simp [edgesTo]⟩⟩, Chg.refl _ _, by omega⟩
  case round =>
    obtain ⟨p, rfl, hp, hown, hch, hg⟩ := hrel
    have HO := Lib.hid hown
    have HC := Lib.hid hch
    have HG := Lib.hid hg
    clear hown hch hg
    by_cases hpl : p ≤ l.length
    · have hp1 : (p : Int) ≤ (l.length : Int) := by omega
      have hin := rinside_any A cap l p w.heap.size wr (H.out.keep (HC.out.below (Nat.le_refl _) fun _ h => h.elim)) (by omega)
      have hel := edgesTo_len l p
      by_cases h0 : insideN l p = 0
      · have hb : (insideN l p != 0) = false := by rw [h0]; rfl
        rw [hb] at hin
        have HIN := Lib.hid hin
        have HE := Lib.hid (edgesTo_yes h0)
        clear hin hb h0
        go_wp2_with fail
        refine HIN.out.mono ?_
        rintro e w1 ⟨rfl, hd1⟩
        have hcd : Chg (fun _ => False) w w1 := HC.out.trans hd1.chg
        have hown1 := own_chg (S := fun _ => False) HO.out hd1.chg (fun _ _ => id)
        have HC1 := Lib.hid hcd
        have HO1 := Lib.hid hown1
        clear hd1 hcd hown1 HIN
        go_wp2_with (at_builtin; refine wpList_append_own (w1.alloc (.cells #[.int .i64 p] 3)) rfl _ _ 44 rfl w.heap.size 3 i0 (.int .i64 0) 1 8 Tryz.underlying44 HI.out.1 HI.out.2.1 HI.out.2.2.1 HI.out.2.2.2 rfl (by decide) _ _ _ rfl (HO1.out.alloc _) ⟨w1.heap.size, 0, none⟩ 1 1 [.int .i64 p] rfl ?b1 ?b2 ?c2 ?c3 ?c4 ?c5 ?_)
        case b1 => rfl
        case b2 => exact World.news_of_block (cs := #[.int .i64 p]) (t := 3) (fr := (0, 0)) (heap_alloc_new w1 _)
        case c2 => intro u hu; simp only [List.mem_cons, List.not_mem_nil, or_false] at hu; subst hu; rfl
        case c3 => unfold maxLen; omega
        case c4 => omega
        case c5 => have := HC1.out.size; simp; omega
        intro v' w2 hown2 hgrow _
        have hc2 : Chg (fun _ => False) w w2 := (HC1.out.alloc _).grown hgrow (fun k hk e => by have := own_ge HO1.out k e.symm; omega)
        have HC2 := Lib.hid hc2
        have HO2 := Lib.hid hown2
        clear hown2 hgrow hc2
        go_wp2_with fail
        go_roundg (l.length + 1 - (p + 1) + 1)
        case measure => have := HG.out; omega
        case rel => exact ⟨p + 1, int_i64 (by omega), by omega, by rw [HE.out, List.length_append, ints_snoc]; exact HO2.out, HC2.out, by omega⟩
      · have hb : (insideN l p != 0) = true := by rw [bne_iff_ne]; exact h0
        rw [hb] at hin
        have HIN := Lib.hid hin
        have HE := Lib.hid (edgesTo_no h0)
        clear hin hb h0
        go_wp2_with fail
        refine HIN.out.mono ?_
        rintro e w1 ⟨rfl, hd1⟩
        have hcd : Chg (fun _ => False) w w1 := HC.out.trans hd1.chg
        have hown1 := own_chg (S := fun _ => False) HO.out hd1.chg (fun _ _ => id)
        have HC1 := Lib.hid hcd
        have HO1 := Lib.hid hown1
        clear hd1 hcd hown1 HIN
        go_wp2_with fail
        go_roundg (l.length + 1 - (p + 1) + 1)
        case measure => have := HG.out; omega
        case rel => exact ⟨p + 1, int_i64 (by omega), by omega, by rw [HE.out]; exact HO1.out, HC1.out, by omega⟩
    · have hp1 : ¬ (p : Int) ≤ (l.length : Int) := by omega
      have hpe : p = l.length + 1 := by omega
      have HP := Lib.hid hpe
      clear hpe
      go_wp2_with fail
      go_ret
      exact ⟨_, rfl, by rw [← HP.out]; exact HO.out, HC.out⟩
end Go.Proofs.YtknmbfkpclacgaaGreatDoor

/- The document's steps: Of: the walk. -/
set_option linter.unusedSimpArgs false
namespace Go.Proofs.YtknmbfkpclacgaaGreatDoor
open Go.RowKit

theorem longN_bd {l : List UInt8} {p n : Nat} (h : longN l p = n) : n ≤ 4 ∧ (0 < n → p + n ≤ l.length) := by
  unfold longN at h
  cases hd : dec (l.drop p) with
  | none => rw [hd] at h; simp only at h; omega
  | some x =>
    rw [hd] at h
    simp only at h
    have := dec_enc _ _ _ hd
    rw [List.length_drop] at this
    omega

set_option maxRecDepth 100000 in
set_option maxHeartbeats 8000000 in
theorem rof_any (A : Option Addr) (cap : Nat) (l : List UInt8) (p : Nat) (w : World) (h : Bs w w.heap.size A l) (hp : p < l.length) :
    Calls Tryz.prog 141 #[.slice A l.length cap, .int .i64 p] w fun e w' => (∃ r n : Int, e = .returned (.agg #[.int .i32 r, .int .i64 n, .bool (longN l p != 0)])) ∧ Chg (fun _ => False) w w' := by
  have hln := h.len
  have hbd := longN_bd (l := l) (p := p) rfl
  generalize hW : w.alloc (.cells #[.int .i32 0, .int .i64 0, .bool false] 117) = W
  have hrs : W.heap[w.heap.size]? = some (.cells #[.int .i32 0, .int .i64 0, .bool false] 117 (0, 0)) := by subst hW; exact heap_alloc_new w _
  have hbl : Below w.heap.size w W := by subst hW; exact (Below.refl _ w).alloc (Nat.le_refl _) _
  have hbW := h.keep hbl
  have hL := long_any A cap l p w.heap.size W hbW (by omega)
  rw [refLong_long] at hL
  obtain ⟨b, o, rfl, hne, hc⟩ := hbW.cells (by omega)
  generalize longN l p = n at *
  have q0 : W.cell? ⟨w.heap.size, 0, none⟩ = some (.int .i32 0) := by simp [World.cell?, hrs]
  have q1 : W.cell? ⟨w.heap.size, 1, none⟩ = some (.int .i64 0) := by simp [World.cell?, hrs]
  have q2 : W.cell? ⟨w.heap.size, 2, none⟩ = some (.bool false) := by simp [World.cell?, hrs]
  have z0 : W.frozen? ⟨w.heap.size, 0, none⟩ = false := by simp [World.frozen?, hrs]
  have z1 : W.frozen? ⟨w.heap.size, 1, none⟩ = false := by simp [World.frozen?, hrs]
  have z2 : W.frozen? ⟨w.heap.size, 2, none⟩ = false := by simp [World.frozen?, hrs]
  have hend : ∀ y0 y1 y2, Chg (fun _ => False) w (((W.setCell ⟨w.heap.size, 0, none⟩ y0).setCell ⟨w.heap.size, 1, none⟩ y1).setCell ⟨w.heap.size, 2, none⟩ y2) := fun y0 y1 y2 => Chg.of_below' (below_three (Nat.le_refl _) hbl y0 y1 y2)
  have HEND := Lib.hid hend
  have HL := Lib.hid hL
  have HC := Lib.hid hc
  have HW := Lib.hid hW
  have c0 := hc p hp
  have hx0 : ∃ x : Int, x = ((pk l p).toNat : Int) ∧ 0 ≤ x ∧ x < 256 := ⟨_, rfl, by omega, by have := (pk l p).toNat_lt; omega⟩
  obtain ⟨x, hx, hx1, hx2⟩ := hx0
  rw [← hx] at c0
  clear hend hL hc hrs hbl hbW hW h hx
  go_enter Tryz.func141, Tryz.ntmps141
  go_wp2_with fail
  rw [HW.out]
  refine HL.out.mono ?_
  rintro e w1 ⟨rfl, rfl⟩
  by_cases hn0 : n = 0
  · have hb : (n != 0) = false := by rw [hn0]; rfl
    have t0 : ((n : Int) == 0) = true := by rw [beq_iff_eq]; omega
    have HB := Lib.hid hb
    clear hn0 hb
    go_wp2_with fail
    (try simp only [Exit.inBlock, Exit.then])
    refine bodyPost_ret (v := .agg #[.int .i32 65533, .int .i64 1, .bool false]) ?_ rfl ?_
    · simp [results, Tryz.results141, go_sem, *]
    · exact ⟨⟨65533, 1, by rw [HB.out]⟩, HEND.out _ _ _⟩
  · have hb : (n != 0) = true := by rw [bne_iff_ne]; exact hn0
    have HB := Lib.hid hb
    have hpn := hbd.2 (by omega)
    have hn4 := hbd.1
    clear hb hbd
    rcases (show n = 1 ∨ n = 2 ∨ n = 3 ∨ n = 4 by omega) with h | h | h | h
    all_goals
      subst h
      go_wp2_with fail
      go_loopg [6, 7] 6 (fun g s6 s7 wr => ∃ (i : Nat) (r : Int), s6 = .int .i64 r ∧ s7 = .int .i64 i ∧ wr = w1 ∧ 0 ≤ r ∧ ((i = 1 ∧ r < 256) ∨ (i = 2 ∧ r < 16384) ∨ (i = 3 ∧ r < 1048576) ∨ (i = 4 ∧ r < 67108864)) ∧ 5 - i ≤ g)
    all_goals first
      | exact ⟨1, _, rfl, rfl, rfl, by omega, by omega, by omega⟩
      | skip
    all_goals
      obtain ⟨i, r, rfl, rfl, rfl, hr0, hri, hg⟩ := hrel
      have hr1 : r < 67108864 := by omega
      have HG := Lib.hid hg
      have HRI := Lib.hid hri
      have HR0 := Lib.hid (And.intro hr0 hr1)
      clear hg
    · by_cases hi : i < 1
      · exfalso; omega
      · have t1 : ¬ (i : Int) < 1 := by omega
        have hr2 : r < 67108864 := hr1
        clear hi hri
        go_wp2_with fail
        (try simp only [Exit.inBlock, Exit.then])
        refine bodyPost_ret (v := .agg #[.int .i32 r, .int .i64 1, .bool true]) ?_ rfl ?_
        · simp [results, Tryz.results141, go_sem, *]
        · exact ⟨⟨r, 1, rfl⟩, HEND.out _ _ _⟩
    · by_cases hi : i < 2
      · have t1 : (i : Int) < 2 := by omega
        have ci := HC.out (p + i) (by omega)
        have hy0 : ∃ y : Int, y = ((pk l (p + i)).toNat : Int) ∧ 0 ≤ y ∧ y < 256 := ⟨_, rfl, by omega, by have := (pk l (p + i)).toNat_lt; omega⟩
        obtain ⟨y, hy, hy1, hy2⟩ := hy0
        rw [← hy] at ci
        clear hy hi hri hr0 hr1
        have hr0 := HR0.out.1
        have hr1 := HR0.out.2
        go_wp2_with fail
        go_roundg (5 - (i + 1))
        case measure => have := HG.out; have := HRI.out; omega
        case rel => exact ⟨i + 1, r * 64 + y % 64, by first | rfl | go_num, int_i64 (by omega), rfl, by omega, by have := HRI.out; omega, by omega⟩
      · have t1 : ¬ (i : Int) < 2 := by omega
        have hr2 : r < 67108864 := hr1
        clear hi hri
        go_wp2_with fail
        (try simp only [Exit.inBlock, Exit.then])
        refine bodyPost_ret (v := .agg #[.int .i32 r, .int .i64 2, .bool true]) ?_ rfl ?_
        · simp [results, Tryz.results141, go_sem, *]
        · exact ⟨⟨r, 2, rfl⟩, HEND.out _ _ _⟩
    · by_cases hi : i < 3
      · have t1 : (i : Int) < 3 := by omega
        have ci := HC.out (p + i) (by omega)
        have hy0 : ∃ y : Int, y = ((pk l (p + i)).toNat : Int) ∧ 0 ≤ y ∧ y < 256 := ⟨_, rfl, by omega, by have := (pk l (p + i)).toNat_lt; omega⟩
        obtain ⟨y, hy, hy1, hy2⟩ := hy0
        rw [← hy] at ci
        clear hy hi hri hr0 hr1
        have hr0 := HR0.out.1
        have hr1 := HR0.out.2
        go_wp2_with fail
        go_roundg (5 - (i + 1))
        case measure => have := HG.out; have := HRI.out; omega
        case rel => exact ⟨i + 1, r * 64 + y % 64, by first | rfl | go_num, int_i64 (by omega), rfl, by omega, by have := HRI.out; omega, by omega⟩
      · have t1 : ¬ (i : Int) < 3 := by omega
        have hr2 : r < 67108864 := hr1
        clear hi hri
        go_wp2_with fail
        (try simp only [Exit.inBlock, Exit.then])
        refine bodyPost_ret (v := .agg #[.int .i32 r, .int .i64 3, .bool true]) ?_ rfl ?_
        · simp [results, Tryz.results141, go_sem, *]
        · exact ⟨⟨r, 3, rfl⟩, HEND.out _ _ _⟩
    · by_cases hi : i < 4
      · have t1 : (i : Int) < 4 := by omega
        have ci := HC.out (p + i) (by omega)
        have hy0 : ∃ y : Int, y = ((pk l (p + i)).toNat : Int) ∧ 0 ≤ y ∧ y < 256 := ⟨_, rfl, by omega, by have := (pk l (p + i)).toNat_lt; omega⟩
        obtain ⟨y, hy, hy1, hy2⟩ := hy0
        rw [← hy] at ci
        clear hy hi hri hr0 hr1
        have hr0 := HR0.out.1
        have hr1 := HR0.out.2
        go_wp2_with fail
        go_roundg (5 - (i + 1))
        case measure => have := HG.out; have := HRI.out; omega
        case rel => exact ⟨i + 1, r * 64 + y % 64, by first | rfl | go_num, int_i64 (by omega), rfl, by omega, by have := HRI.out; omega, by omega⟩
      · have t1 : ¬ (i : Int) < 4 := by omega
        have hr2 : r < 67108864 := hr1
        clear hi hri
        go_wp2_with fail
        (try simp only [Exit.inBlock, Exit.then])
        refine bodyPost_ret (v := .agg #[.int .i32 r, .int .i64 4, .bool true]) ?_ rfl ?_
        · simp [results, Tryz.results141, go_sem, *]
        · exact ⟨⟨r, 4, rfl⟩, HEND.out _ _ _⟩
end Go.Proofs.YtknmbfkpclacgaaGreatDoor

/- The document's steps: Steps, Valid: the walks; Valid is validL. -/
set_option linter.unusedSimpArgs false
namespace Go.Proofs.YtknmbfkpclacgaaGreatDoor
open Go.RowKit

/-- the edges but the end -/
def edgesN (l : List UInt8) : List Nat := (List.range l.length).filter fun q => insideN l q == 0
theorem edgesN_lt {l : List UInt8} {q : Nat} (h : q ∈ edgesN l) : q < l.length := by
  have := (List.mem_filter.1 h).1
  simpa using this
theorem inside_len (l : List UInt8) : insideN l l.length = 0 := by
  refine inside_none (k := 4) (fun k h1 h3 hh => ?_) (.inl (by omega))
  unfold hit wid at hh
  obtain ⟨h5, h6⟩ := hh
  cases hd : dec (l.drop (l.length - k)) with
  | none => rw [hd] at h6; simp only at h6; omega
  | some x =>
    rw [hd] at h6
    simp only at h6
    have := dec_enc _ _ _ hd
    rw [List.length_drop] at this
    omega
theorem edges_end (l : List UInt8) : edgesTo l (l.length + 1) = (edgesN l).map (fun q : Nat => (q : Int)) ++ [(l.length : Int)] := by
  rw [edgesTo_yes (inside_len l)]
  rfl
/-- Valid, by the document: all steps are whole. -/
theorem valid_edges (l : List UInt8) : validL l = (edgesN l).all fun q => longN l q != 0 := by
  have key : ∀ k p, insideN l p = 0 → l.length ≤ p + k → p ≤ l.length → (vld k (l.drop p) = true ↔ ∀ q, p ≤ q → q < l.length → insideN l q = 0 → longN l q ≠ 0) := by
    intro k
    induction k with
    | zero =>
      intro p _ h1 h2
      have hd : l.drop p = [] := List.drop_eq_nil_of_le (by omega)
      rw [hd]
      simp only [vld, List.isEmpty_nil, true_iff]
      intro q h3 h4
      omega
    | succ k ih =>
      intro p h0 h1 h2
      rcases Nat.lt_or_ge p l.length with hp | hp
      · have hne : l.drop p ≠ [] := by
          intro h; have := congrArg List.length h; rw [List.length_drop] at this; simp at this; omega
        have hv : vld (k + 1) (l.drop p) = match dec (l.drop p) with | some (_, n) => vld k ((l.drop p).drop n) | none => false := by
          cases hh : l.drop p with
          | nil => exact absurd hh hne
          | cons a r => rfl
        rw [hv]
        cases hd : dec (l.drop p) with
        | none =>
          simp only [Bool.false_eq_true, false_iff]
          intro h
          exact h p (Nat.le_refl _) hp h0 (by unfold longN; rw [hd])
        | some x =>
          obtain ⟨r, n⟩ := x
          have he := dec_enc _ _ _ hd
          rw [List.length_drop] at he
          simp only [List.drop_drop]
          rw [ih (p + n) (inside_step hd h0) (by omega) (by omega)]
          constructor
          · intro h q h3 h4 h5
            rcases Nat.lt_or_ge q (p + n) with h6 | h6
            · rcases Nat.eq_or_lt_of_le h3 with h7 | h7
              · subst h7
                unfold longN
                rw [hd]
                simp only
                omega
              · exfalso
                refine no_hit h5 (q - p) (by omega) (by omega) ⟨by omega, ?_⟩
                rw [show q - (q - p) = p by omega]
                unfold wid
                rw [hd]
                simp only
                omega
            · exact h q h6 h4 h5
          · intro h q h3 h4 h5
            exact h q (by omega) h4 h5
      · have hd : l.drop p = [] := List.drop_eq_nil_of_le hp
        rw [hd]
        simp only [vld, true_iff]
        intro q h3 h4
        omega
  have h0 := key l.length 0 (by unfold insideN; simp) (by omega) (by omega)
  rw [List.drop_zero] at h0
  rw [Bool.eq_iff_iff]
  unfold validL
  rw [h0, List.all_eq_true]
  constructor
  · intro h q hq
    have h1 := List.mem_filter.1 hq
    rw [bne_iff_ne]
    exact h q (by omega) (edgesN_lt hq) (by simpa using h1.2)
  · intro h q _ h4 h5
    have := h q (List.mem_filter.2 ⟨by simpa using h4, by simpa using h5⟩)
    simpa using this

theorem Tryz.infoStep : (Tryz.prog.info? 117).map (fun i => (i.zero, i.size, i.bytes)) = some (some (.agg #[.int .i32 0, .int .i64 0, .bool false]), 3, 24) := by kernel_rfl

/-- The steps of the first j edges lie in the row. -/
def StepRow (l : List UInt8) (j : Nat) (xs : List Value) : Prop := ∀ i (h : i < (edgesN l).length), i < j → xs[i * 3 + 2]? = some (.bool (longN l (edgesN l)[i] != 0))
theorem StepRow.snoc {l : List UInt8} {j : Nat} {xs : List Value} (h : StepRow l j xs) (hx : xs.length = j * 3) (hj : j < (edgesN l).length) (a b : Value) : StepRow l (j + 1) (xs ++ [a, b, .bool (longN l (edgesN l)[j] != 0)]) := by
  intro i hi hij
  rcases Nat.lt_or_ge i j with h1 | h1
  · rw [List.getElem?_append_left (by omega)]
    exact h i hi h1
  · obtain rfl : i = j := by omega
    rw [List.getElem?_append_right (by omega), hx, show i * 3 + 2 - i * 3 = 2 by omega]
    rfl

set_option maxRecDepth 100000 in
set_option maxHeartbeats 8000000 in
theorem rsteps_any (A : Option Addr) (cap : Nat) (l : List UInt8) (w : World) (h : Bs w w.heap.size A l) (hl : l.length ≤ 1000000000000) :
    Calls Tryz.prog 65 #[.slice A l.length cap] w fun e w' => ∃ v xs, e = .returned v ∧ w'.ownsRow w.heap.size 117 3 v (edgesN l).length xs ∧ StepRow l (edgesN l).length xs ∧ Chg (fun _ => False) w w' := by
  obtain ⟨i0, hi, hz0, hz1, hz2⟩ := info_parts Tryz.infoStep
  have hel : (edgesN l).length ≤ l.length := Nat.le_trans (List.length_filter_le _ _) (by simp)
  have hed := redges_any A cap l w h hl
  rw [edges_end] at hed
  have H := Lib.hid h
  have HI := Lib.hid (And.intro hi (And.intro hz0 (And.intro hz1 hz2)))
  clear h hi hz0 hz1 hz2
  go_enter Tryz.func65, Tryz.ntmps65
  go_wp2_with fail
  refine hed.mono ?_
  rintro e w1 ⟨v, rfl, hown, hc1⟩
  obtain ⟨A2, c2, rfl, hro, _⟩ := own_ro hown
  have hlen : ((edgesN l).map (fun q : Nat => (q : Int)) ++ [(l.length : Int)]).length = (edgesN l).length + 1 := by simp
  rw [hlen]
  have hro' : ∀ j (hj : j < (edgesN l).length), ∃ b o, A2 = some ⟨b, o, none⟩ ∧ b < w1.heap.size ∧ w1.cell? ⟨b, o + j, none⟩ = some (.int .i64 ((edgesN l)[j] : Nat)) := by
    intro j hj
    obtain ⟨b, o, hA, hb, hc⟩ := hro (by rw [ints_length, hlen]; omega)
    refine ⟨b, o, hA, hb, hc j _ ?_⟩
    simp [ints, List.getElem?_append_left, hj]
  have HRO := Lib.hid hro'
  have HC1 := Lib.hid hc1
  clear hro hro' hown hc1 hed hlen
  go_wp2_with fail
  go_loopg [3, 5] (l.length + 3) (fun g s3 s5 wr => ∃ (j : Nat) (xs : List Value), s5 = .int .i64 j ∧ j ≤ (edgesN l).length ∧ wr.ownsRow w1.heap.size 117 3 s3 j xs ∧ StepRow l j xs ∧ Chg (fun _ => False) w1 wr ∧ (edgesN l).length - j + 1 ≤ g)
  case atStart => exact ⟨0, [], rfl, by omega, ⟨rfl, .inl ⟨rfl, rfl⟩⟩, fun i _ h => by omega, Chg.refl _ _, by omega⟩
  case round =>
    obtain ⟨j, xs, rfl, hj, hown, hsr, hch, hg⟩ := hrel
    have HO := Lib.hid hown
    have HS := Lib.hid hsr
    have HC := Lib.hid (HC1.out.trans hch)
    have HX := Lib.hid hch
    have HG := Lib.hid hg
    clear hown hsr hch hg
    by_cases hjn : j < (edgesN l).length
    · obtain ⟨b2, o2, rfl, hb2, he0⟩ := HRO.out j hjn
      have he1 := HX.out.cell he0 id
      have hq := edgesN_lt (List.getElem_mem hjn)
      have hcall := rof_any A cap l (edgesN l)[j] wr ((H.out.keep (HC.out.below (Nat.le_refl _) fun _ h => h.elim)).mono HC.out.size) hq
      have hsn := fun a b => StepRow.snoc HS.out HO.out.1 hjn a b
      have hwc := HC.out.size
      have hwx := HX.out.size
      clear HRO he0
      generalize (edgesN l)[j] = q at *
      generalize hN : (edgesN l).length = N at *
      have HCALL := Lib.hid hcall
      have HSN := Lib.hid hsn
      clear hcall hsn
      go_wp2_with fail
      refine HCALL.out.mono ?_
      rintro e w2 ⟨⟨r, n, rfl⟩, hc2⟩
      have hown2 := own_chg (S := fun _ => False) HO.out hc2 (fun _ _ => id)
      have HO2 := Lib.hid hown2
      have HX2 := Lib.hid (HX.out.trans hc2)
      have hsz2 := hc2.size
      generalize (longN l q != 0) = bb at *
      clear hown2 hc2 HCALL
      go_wp2_with (at_builtin; refine wpList_append_own (w2.alloc (.cells #[.int .i32 r, .int .i64 n, .bool bb] 117)) rfl _ _ 114 rfl w1.heap.size 117 i0 (.agg #[.int .i32 0, .int .i64 0, .bool false]) 3 24 Tryz.underlying114 HI.out.1 HI.out.2.1 HI.out.2.2.1 HI.out.2.2.2 rfl (by decide) _ _ _ rfl (HO2.out.alloc _) ⟨w2.heap.size, 0, none⟩ 1 1 [.int .i32 r, .int .i64 n, .bool bb] rfl ?b1 ?b2 ?c2 ?c3 ?c4 ?c5 ?_)
      case b1 => rfl
      case b2 => exact World.news_of_block (cs := #[.int .i32 r, .int .i64 n, .bool bb]) (t := 117) (fr := (0, 0)) (heap_alloc_new w2 _)
      case c2 => intro u hu; simp only [List.mem_cons, List.not_mem_nil, or_false] at hu; rcases hu with rfl | rfl | rfl <;> rfl
      case c3 => unfold maxLen; omega
      case c4 => omega
      case c5 => have := HX2.out.size; simp; omega
      intro v' w3 hown3 hgrow _
      have hc3 : Chg (fun _ => False) w1 w3 := (HX2.out.alloc _).grown hgrow (fun k hk e => by have := own_ge HO2.out k e.symm; omega)
      have HC3 := Lib.hid hc3
      have HO3 := Lib.hid hown3
      clear hown3 hgrow hc3
      go_wp2_with fail
      go_roundg (N - (j + 1) + 1)
      case measure => have := HG.out; omega
      case rel => exact ⟨j + 1, _, int_i64 (by omega), by omega, HO3.out, HSN.out _ _, HC3.out, by omega⟩
    · have hje : j = (edgesN l).length := by omega
      have HJ := Lib.hid hje
      clear HRO
      generalize hN : (edgesN l).length = N at *
      clear hje
      go_wp2_with fail
      go_ret
      obtain rfl := HJ.out
      exact ⟨_, _, rfl, by rw [hN]; exact own_mono HO.out HC1.out.size, by rw [hN]; exact HS.out, HC.out⟩

theorem valid_yes {l : List UInt8} (h : ∀ j (hj : j < (edgesN l).length), (longN l (edgesN l)[j] != 0) = true) : validL l = true := by
  rw [valid_edges, List.all_eq_true]
  intro q hq
  obtain ⟨j, hj, rfl⟩ := List.getElem_of_mem hq
  exact h j hj
theorem valid_no {l : List UInt8} {j : Nat} (hj : j < (edgesN l).length) (h : (longN l (edgesN l)[j] != 0) = false) : validL l = false := by
  rw [valid_edges, List.all_eq_false]
  exact ⟨_, List.getElem_mem hj, by rw [h]; decide⟩

set_option maxRecDepth 100000 in
set_option maxHeartbeats 8000000 in
theorem rvalid_any (A : Option Addr) (cap : Nat) (l : List UInt8) (w : World) (h : Bs w w.heap.size A l) (hl : l.length ≤ 1000000000000) :
    Calls Tryz.prog 29 #[.slice A l.length cap] w fun e w' => e = .returned (.bool (validL l)) ∧ Chg (fun _ => False) w w' := by
  have hel : (edgesN l).length ≤ l.length := Nat.le_trans (List.length_filter_le _ _) (by simp)
  have hst := rsteps_any A cap l w h hl
  clear h
  go_enter Tryz.func29, Tryz.ntmps29
  go_wp2_with fail
  refine hst.mono ?_
  rintro e w1 ⟨v, xs, rfl, hown, hsr, hc1⟩
  obtain ⟨A2, c2, rfl, hro, _⟩ := own_ro hown
  have hcell : ∀ i (hi : i < (edgesN l).length), ∃ b o, A2 = some ⟨b, o, none⟩ ∧ w1.cell? ⟨b, o + i * 3 + 2, none⟩ = some (.bool (longN l (edgesN l)[i] != 0)) := by
    intro i hi
    obtain ⟨b, o, hA, hb, hc⟩ := hro (by rw [hown.1]; omega)
    exact ⟨b, o, hA, by rw [Nat.add_assoc]; exact hc _ _ (hsr i hi hi)⟩
  have HCL := Lib.hid hcell
  have HC1 := Lib.hid hc1
  clear hcell hro hown hsr hc1 hst
  go_wp2_with fail
  go_loopg [4] (l.length + 3) (fun g s4 wr => ∃ i : Nat, s4 = .int .i64 i ∧ i ≤ (edgesN l).length ∧ wr = w1 ∧ (∀ j (hj : j < (edgesN l).length), j < i → (longN l (edgesN l)[j] != 0) = true) ∧ (edgesN l).length - i + 1 ≤ g)
  case atStart => exact ⟨0, rfl, by omega, rfl, fun j _ h => by omega, by omega⟩
  case round =>
    obtain ⟨i, rfl, hi, rfl, hall, hg⟩ := hrel
    have HA := Lib.hid hall
    have HG := Lib.hid hg
    clear hall hg
    by_cases hin : i < (edgesN l).length
    · obtain ⟨b, o, rfl, hc0⟩ := HCL.out i hin
      cases hb : (longN l (edgesN l)[i] != 0) with
      | false =>
        rw [hb] at hc0
        have HV := Lib.hid (valid_no hin hb)
        clear hb HA HCL
        go_wp2_with fail
        go_ret
        exact ⟨by rw [HV.out]; rfl, HC1.out⟩
      | true =>
        rw [hb] at hc0
        have HA2 := Lib.hid (show ∀ j (hj : j < (edgesN l).length), j < i + 1 → (longN l (edgesN l)[j] != 0) = true from fun j hj h => if h' : j = i then by subst h'; exact hb else HA.out j hj (by omega))
        clear hb HA HCL
        have HIN := Lib.hid hin
        have HEL := Lib.hid hel
        go_wp2_with fail
        go_roundg ((edgesN l).length - (i + 1) + 1)
        case measure => have := HG.out; omega
        case rel => exact ⟨i + 1, int_i64 (by omega), by omega, rfl, HA2.out, by omega⟩
    · have HV := Lib.hid (valid_yes fun j hj => HA.out j hj (by omega))
      have hie : i = (edgesN l).length := by omega
      clear HA HCL
      go_wp2_with fail
      go_ret
      exact ⟨by rw [HV.out]; rfl, HC1.out⟩
end Go.Proofs.YtknmbfkpclacgaaGreatDoor

/- A made row of bytes is read; []byte(s). -/
set_option linter.unusedSimpArgs false
namespace Go.Proofs.YtknmbfkpclacgaaGreatDoor
open Go.RowKit

/-! ### a copy of the bytes -/
theorem own_bs {w : World} {base : Nat} {e : TypeId} {n : Nat} {v : Value} {l : List UInt8} (h : w.ownsRow base e 1 v n (Lib.byteCells l)) (hl : l.length ≤ 140737488355328) : ∃ A c, v = .slice A l.length c ∧ Bs w w.heap.size A l ∧ l.length ≤ c := by
  obtain ⟨A, c, e1, r, hc⟩ := own_ro h
  have hn : n = l.length := by have := h.1; rw [Lib.byteCells_length] at this; omega
  subst hn
  refine ⟨A, c, e1, ⟨hl, fun hp => ?_⟩, hc⟩
  obtain ⟨b, o, hA, hB, hcell⟩ := r (by rw [Lib.byteCells_length]; exact hp)
  refine ⟨b, o, hA, hB, fun j hj => hcell j _ ?_⟩
  simp only [Lib.byteCells, List.getElem?_map, pk, List.getD_eq_getElem?_getD]
  rw [List.getElem?_eq_getElem hj]
  rfl
theorem bs_cells {w : World} {B : Nat} {A : Addr} {l : List UInt8} (h : Bs w B (some A) l) : ∀ q u, (Lib.byteCells l)[q]? = some u → w.cell? (A.add q) = some u := by
  intro q u hu
  have hq : q < l.length := by
    have := (List.getElem?_eq_some_iff.1 hu).1
    rw [Lib.byteCells_length] at this; exact this
  obtain ⟨b, o, hA, hB, hc⟩ := h.cells (by omega)
  obtain rfl := Option.some.inj hA
  rw [addr_add_plain, hc q hq, ← hu]
  simp only [Lib.byteCells, List.getElem?_map, pk, List.getD_eq_getElem?_getD]
  rw [List.getElem?_eq_getElem hq]
  rfl
theorem grown_chg {w w' : World} {r : Option Nat} (h : w.grownBy w' r) (hr : ∀ k, r = some k → w.heap.size ≤ k) : Chg (fun _ => False) w w' :=
  Chg.of_below' ((Below.refl _ w).grown h (Nat.le_refl _) hr)
/-- []byte(s), as Parse is handed it. -/
theorem conv_sb (w : World) (l : List UInt8) (hl : l.length ≤ 140737488355328) : ∃ cc W, (convert 9 22 (.string ⟨l.toArray⟩)).run Tryz.prog w = .ok (.slice (some ⟨w.heap.size, 0, none⟩) l.length cc) W ∧ l.length ≤ cc ∧ Chg (fun _ => False) w W ∧ Bs W W.heap.size (some ⟨w.heap.size, 0, none⟩) l := by
  have hsz : (⟨l.toArray⟩ : ByteArray).size = l.length := by show l.toArray.size = _; simp
  have hcv := run_bytes_of_string (P := Tryz.prog) w 9 22 5 ⟨l.toArray⟩ Tryz.underlying9 Tryz.underlying22 Tryz.underlying5
  rw [hsz] at hcv
  refine ⟨_, _, hcv, grownCap_ge w l.length 0 _, ((Chg.refl _ w).drew).alloc _, hl, fun _ => ⟨w.heap.size, 0, rfl, ?_, fun j hj => ?_⟩⟩
  · rw [World.size_alloc]; show w.heap.size < w.heap.size + 1; omega
  · have h := heap_alloc_new w.drew (.cells (bytesRow ⟨l.toArray⟩ (grownCap w l.length 0 5)) 5 ((bytesRow ⟨l.toArray⟩ (grownCap w l.length 0 5)).size, (bytesRow ⟨l.toArray⟩ (grownCap w l.length 0 5)).size + 1))
    rw [Nat.zero_add, cell_of_row _ w.heap.size j _ _ _ h, bytesRow_at _ _ _ (by simpa using hj)]
    simp [pk, List.getD_eq_getElem?_getD, hj]
end Go.Proofs.YtknmbfkpclacgaaGreatDoor
