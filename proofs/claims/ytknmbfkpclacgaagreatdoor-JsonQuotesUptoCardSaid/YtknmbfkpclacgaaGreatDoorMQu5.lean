import Derived.Test.YtknmbfkpclacgaaGreatDoorMQuRdd
import Derived.Test.YtknmbfkpclacgaaGreatDoorMQuStep
import Derived.Deep.RegionHeld3
import Derived.Deep.AppendLies
import Derived.StillTailTactics
import Derived.IntWalk
import Derived.Deep.DeepCutAuto
import Derived.WalkSpells
import Derived.OwnWalk
import Derived.Lib.AppendStr
import Derived.Lib.AppendIntMem
import Derived.Test.YtknmbfkpclacgaaGreatDoorMQu2
import Derived.Test.YtknmbfkpclacgaaGreatDoorMQu0
/- The JSON reader's method text: a string. -/
set_option linter.unusedSimpArgs false
namespace Go.Proofs.YtknmbfkpclacgaaGreatDoor
open Go.RowKit

theorem Tryz.infoByte : (Tryz.prog.info? 5).map (fun i => (i.zero, i.size, i.bytes)) = some (some (.int .u8 0), 1, 1) := by kernel_rfl

/-- What one owns stays owned where other blocks turn. -/
theorem own_chg {w w' : World} {S : Nat → Prop} {base : Nat} {e : TypeId} {size n : Nat} {v : Value} {xs : List Value} (h : w.ownsRow base e size v n xs) (hc : Chg S w w') (hS : ∀ k, v.ownBlock = some k → ¬ S k) : w'.ownsRow base e size v n xs := by
  refine ⟨h.1, ?_⟩
  rcases h.2 with hn | ⟨g, cap, cur, rfl, hb, hh, r⟩
  · exact .inl hn
  · exact .inr ⟨g, cap, cur, rfl, hb, hc.obj hh (hS g rfl), r⟩

/-! ### Plain: what an escape gives -/
theorem takeJ_ok {l : List UInt8} {i : Nat} {c : UInt8} (h : takeJ l i = .ok c) : i < l.length := by
  unfold takeJ at h; split at h
  · assumption
  · simp at h
theorem fourJ_le (l : List UInt8) (begin : Nat) : ∀ (k i n m : Nat), fourJ l begin k i n = .ok m → i ≤ l.length → i + k ≤ l.length
  | 0, i, n, m, _, hi => hi
  | k + 1, i, n, m, h, hi => by
    simp only [fourJ] at h
    split at h
    · simp at h
    · rename_i ht
      have := takeJ_ok ht
      split at h
      · simp at h
      · have := fourJ_le l begin k _ _ m h (by omega)
        omega
theorem letter_valid {c : UInt8} {x : Nat} (h : letter c = some x) : x < 0x80 := by
  unfold letter at h
  (repeat' split at h) <;> simp at h <;> omega
theorem escapeJ_ok {l : List UInt8} {i r j : Nat} (h : escapeJ l i = .ok (r, j)) : validR r = true ∧ i < j ∧ j ≤ l.length := by
  unfold escapeJ at h
  split at h
  · simp at h
  · rename_i c ht
    have h1 := takeJ_ok ht
    split at h
    · rename_i x hx
      simp only [Except.ok.injEq, Prod.mk.injEq] at h
      have := letter_valid hx
      obtain ⟨rfl, rfl⟩ := h
      refine ⟨?_, by omega, by omega⟩
      simp only [validR, Bool.or_eq_true, decide_eq_true_eq]; omega
    · split at h
      · simp at h
      · split at h
        · simp at h
        · rename_i n hn
          have hl := fourJ_le _ _ _ _ _ _ hn (by omega)
          have hlt : n < 65536 := by simpa using fourJ_lt _ _ _ _ _ _ hn
          split at h
          · simp at h
          · rename_i hd
            split at h
            · rename_i hd2
              simp only [Except.ok.injEq, Prod.mk.injEq] at h
              obtain ⟨rfl, rfl⟩ := h
              refine ⟨?_, by omega, by omega⟩
              simp only [validR, Bool.or_eq_true, Bool.and_eq_true, decide_eq_true_eq]; omega
            · split at h
              · simp at h
              · split at h
                · simp at h
                · rename_i ht6 _
                  split at h
                  · simp at h
                  · rename_i ht7
                    have h7 := takeJ_ok ht7
                    split at h
                    · simp at h
                    · split at h
                      · simp at h
                      · rename_i m hm
                        have hl2 := fourJ_le _ _ _ _ _ _ hm (by omega)
                        split at h
                        · simp at h
                        · simp only [Except.ok.injEq, Prod.mk.injEq] at h
                          obtain ⟨rfl, rfl⟩ := h
                          refine ⟨?_, by omega, by omega⟩
                          simp only [validR, Bool.or_eq_true, Bool.and_eq_true, decide_eq_true_eq]; omega

theorem three_cells {W : World} {b : Nat} {x0 x1 x2 : Value} {t : TypeId} (h : W.heap[b]? = some (.cells #[x0, x1, x2] t (0, 0))) :
    W.cell? ⟨b, 0, none⟩ = some x0 ∧ W.cell? ⟨b, 1, none⟩ = some x1 ∧ W.cell? ⟨b, 2, none⟩ = some x2 ∧ W.frozen? ⟨b, 0, none⟩ = false ∧ W.frozen? ⟨b, 1, none⟩ = false ∧ W.frozen? ⟨b, 2, none⟩ = false := by
  simp [World.cell?, World.frozen?, h]
theorem at_cases {l : List UInt8} {p : Nat} {r n : Int} {b : Bool} {e : Int} (h : atV l p = .tuple #[.agg #[.int .i32 r, .int .i64 n, .bool b], .int .i64 e]) :
    (b = true ∧ insideN l p = 0 ∧ ∃ rn nn : Nat, dec (l.drop p) = some (rn, nn) ∧ r = rn ∧ n = nn) ∨ (b = false ∧ (insideN l p ≠ 0 ∨ dec (l.drop p) = none)) := by
  by_cases hi : insideN l p = 0
  · rw [atV_out hi] at h
    cases hd : dec (l.drop p) with
    | some x =>
      rw [stepV_some (show dec (l.drop p) = some (x.1, x.2) from hd)] at h
      simp only [Value.tuple.injEq, Array.mk.injEq, List.cons.injEq, Value.agg.injEq, Value.int.injEq, Value.bool.injEq, true_and, and_true] at h
      exact .inl ⟨h.1.2.2.symm, hi, x.1, x.2, rfl, h.1.1.symm, h.1.2.1.symm⟩
    | none =>
      rw [stepV_none hd] at h
      simp only [Value.tuple.injEq, Array.mk.injEq, List.cons.injEq, Value.agg.injEq, Value.int.injEq, Value.bool.injEq, true_and, and_true] at h
      exact .inr ⟨h.1.2.2.symm, .inr rfl⟩
  · rw [atV_in hi] at h
    simp only [Value.tuple.injEq, Array.mk.injEq, List.cons.injEq, Value.agg.injEq, Value.int.injEq, Value.bool.injEq, true_and, and_true] at h
    exact .inr ⟨h.1.2.2.symm, .inl hi⟩
theorem addr_add_plain (b o q : Nat) : (⟨b, o, none⟩ : Addr).add q = ⟨b, o + q, none⟩ := by unfold Addr.add; split <;> simp_all
theorem own_conv {P : Program} {src e dst : TypeId} (hs : P.underlying src = some (.slice e)) (he : P.underlying e = some (.int .u8)) (hd : P.underlying dst = some .string) {w : World} {base : Nat} {t : TypeId} {v : Value} {acc : List UInt8}
    (h : w.ownsRow base t 1 v acc.length (Lib.byteCells acc)) : (convert src dst v).run P w = .ok (.string ⟨acc.toArray⟩) w := by
  rcases h.2 with ⟨rfl, h0⟩ | ⟨g, cap, cur, rfl, hb, hh, hr⟩
  · obtain rfl : acc = [] := List.eq_nil_of_length_eq_zero h0
    exact run_convert_bytes_nil w src e hs he 0 0 dst hd
  · refine conv_bytes hs he hd w g 0 acc.length cap acc rfl (fun j hj => ?_)
    have := h.cells (g := g) rfl j (.int .u8 ((pk acc j).toNat : Int)) (by
      simp only [Lib.byteCells, List.getElem?_map, pk, List.getD_eq_getElem?_getD]
      rw [List.getElem?_eq_getElem hj]; rfl)
    rw [Nat.zero_add]; rw [addr_add_plain, Nat.zero_add] at this; exact this
theorem own_ge {w : World} {base : Nat} {e : TypeId} {size n : Nat} {v : Value} {xs : List Value} (h : w.ownsRow base e size v n xs) (k : Nat) (hk : v.ownBlock = some k) : base ≤ k := by
  rcases h.2 with ⟨rfl, _⟩ | ⟨g, cap, cur, rfl, hb, hh, _⟩
  · simp [Value.ownBlock] at hk
  · have : g = k := by simpa [Value.ownBlock] using hk
    subst this
    exact hb
theorem own_lt2 {w : World} {base : Nat} {e : TypeId} {size n : Nat} {v : Value} {xs : List Value} (h : w.ownsRow base e size v n xs) (k : Nat) (hk : v.ownBlock = some k) : k < w.heap.size := by
  rcases h.2 with ⟨rfl, _⟩ | ⟨g, cap, cur, rfl, hb, hh, _⟩
  · simp [Value.ownBlock] at hk
  · have : g = k := by simpa [Value.ownBlock] using hk
    subst this
    exact lt_of_block hh
theorem three_set_cells {W : World} {b : Nat} {x0 x1 x2 : Value} (h0 : W.cell? ⟨b, 0, none⟩ = some x0) (h1 : W.cell? ⟨b, 1, none⟩ = some x1) (h2 : W.cell? ⟨b, 2, none⟩ = some x2) (y0 y1 y2 : Value) :
    (((W.setCell ⟨b, 0, none⟩ y0).setCell ⟨b, 1, none⟩ y1).setCell ⟨b, 2, none⟩ y2).cell? ⟨b, 0, none⟩ = some y0 ∧
    (((W.setCell ⟨b, 0, none⟩ y0).setCell ⟨b, 1, none⟩ y1).setCell ⟨b, 2, none⟩ y2).cell? ⟨b, 1, none⟩ = some y1 ∧
    (((W.setCell ⟨b, 0, none⟩ y0).setCell ⟨b, 1, none⟩ y1).setCell ⟨b, 2, none⟩ y2).cell? ⟨b, 2, none⟩ = some y2 := by
  refine ⟨?_, ?_, ?_⟩
  · rw [World.cell?_setCell_other _ _ _ _ (by simp), World.cell?_setCell_other _ _ _ _ (by simp)]
    exact World.cell?_setCell_same _ _ _ h0
  · rw [World.cell?_setCell_other _ _ _ _ (by simp)]
    exact World.cell?_setCell_same _ _ _ ((World.cell?_setCell_other _ _ _ _ (by simp)).trans h1)
  · exact World.cell?_setCell_same _ _ _ ((World.cell?_setCell_other _ _ _ _ (by simp)).trans ((World.cell?_setCell_other _ _ _ _ (by simp)).trans h2))
theorem heap_new_drewN (w : World) (n : Nat) (o : Obj) : ((w.drewN n).alloc o).heap[w.heap.size]? = some o := heap_alloc_new (w.drewN n) o

def TextPost (l : List UInt8) (i : Nat) (rb : Nat) (bv tv : Value) (dp : Nat) (w : World) (e : Ending) (w' : World) : Prop :=
  match textJ l i with
  | .ok (s, j) => e = .returned (.string ⟨s.toArray⟩) ∧ Rd w' rb bv j dp tv ∧ Chg (· = rb) w w'
  | .error f => NoEnd f.1 f.2 e ∧ Chg (· = rb) w w'

set_option maxRecDepth 100000 in
set_option maxHeartbeats 16000000 in
theorem text_any (rb : Nat) (A : Option Addr) (cap : Nat) (tv : Value) (l : List UInt8) (i dp : Nat) (B : Nat) (w : World) (hst : St w B rb A cap l i dp tv) (hil : i < l.length) (hL : l.length ≤ 268435456)
    (hG : LetOk w B) (hD : BadOk w B) :
    Calls Tryz.prog 110 #[.pointer (some ⟨rb, 0, none⟩)] w (TextPost l i rb (.slice A l.length cap) tv dp w) := by
  obtain ⟨i0, hi0, hz0, hz1, hz2⟩ := info_parts Tryz.infoByte
  have hrl := hst.r.lt
  have hBr := hst.B
  have hcap := hst.c
  have c1 := hst.r.c1
  have f1 := hst.r.f 1
  have hstA : St (w.setCell ⟨rb, 1, none⟩ (.int .i64 ((i : Int) + 1))) B rb A cap l (i + 1) dp tv := hst.to (hst.r.set1 (i + 1)) ((Chg.refl _ _).st _ _)
  have hchA : Chg (· = rb) w (w.setCell ⟨rb, 1, none⟩ (.int .i64 ((i : Int) + 1))) := (Chg.refl _ _).st _ _
  have HA := Lib.hid hstA
  have HCH := Lib.hid hchA
  have HI := Lib.hid (And.intro hi0 (And.intro hz0 (And.intro hz1 hz2)))
  clear hstA hchA hi0 hz0 hz1 hz2
  go_enter Tryz.func110, Tryz.ntmps110
  go_wp2_with fail
  go_loopg [3] (l.length - i + 1) (fun g v wr => ∃ (j k : Nat) (acc : List UInt8), wr.ownsRow w.heap.size 5 1 v acc.length (Lib.byteCells acc) ∧ i < j ∧ j ≤ l.length ∧ l.length + 1 ≤ j + k ∧ acc.length ≤ 4 * j ∧ St wr B rb A cap l j dp tv ∧ Chg (· = rb) w wr ∧ textGo l k j acc = textJ l i ∧ l.length - j + 1 < g + 1)
  case atStart => exact ⟨i + 1, l.length + 1 - i, [], ⟨rfl, .inl ⟨rfl, rfl⟩⟩, by omega, by omega, by omega, by simp, HA.out, HCH.out, rfl, by omega⟩
  case round =>
    obtain ⟨j, k, acc, hown, hj1, hj2, hk, hacc, hstJ, hchJ, htx, hg⟩ := hrel
    obtain ⟨k, rfl⟩ : ∃ m, k = m + 1 := ⟨k - 1, by omega⟩
    have HTX := Lib.hid htx
    clear htx
    have hszJ := hchJ.size
    have c0 := hstJ.r.c0
    have c1 := hstJ.r.c1
    have f1 := hstJ.r.f 1
    have hGJ : LetOk wr B := hG.chg hchJ (by omega) (fun k hk => by omega)
    have hDJ : BadOk wr B := hD.keep (hchJ.below (by omega) (fun k hk => by omega))
    have hln := hstJ.b.len
    by_cases hjl : j < l.length
    · obtain ⟨b, o', rfl, hne, hc⟩ := hstJ.b.cells (by omega)
      have cj := hc j hjl
      have hpr := pk_range l j
      clear hc
      by_cases hq : pk l j = 34
      · have tq : (((pk l j).toNat : Int) == 34) = true := (u8_eq _ 34 (by omega)).2 hq
        have HX : Hid (textGo l (k + 1) j acc = .ok (acc, j + 1)) := by
          show textGo l (k + 1) j acc = _
          rw [textGo, if_pos hjl, if_pos hq]
        have hst2 : ∀ q, St ((wr.drewN q).setCell ⟨rb, 1, none⟩ (.int .i64 ((j : Int) + 1))) B rb (some ⟨b, o', none⟩) cap l (j + 1) dp tv := fun q => (hstJ.drewN q).to ((hstJ.drewN q).r.set1 (j + 1)) ((Chg.refl _ _).st _ _)
        have HST2 := Lib.hid hst2
        have hcv : ∀ q, (convert 22 9 u3).run Tryz.prog ((wr.drewN q).setCell ⟨rb, 1, none⟩ (.int .i64 ((j : Int) + 1))) = .ok (.string ⟨acc.toArray⟩) ((wr.drewN q).setCell ⟨rb, 1, none⟩ (.int .i64 ((j : Int) + 1))) := fun q =>
          own_conv (e := 5) (by kernel_rfl) (by kernel_rfl) (by kernel_rfl) (ownsRow_setCell_other (w := wr.drewN q) hown (a := ⟨rb, 1, none⟩) (fun e => by have := own_ge hown rb e; omega) _)
        clear hq hst2
        go_wp2_with fail
        go_quiet (fail)
        go_wp2_with fail
        go_quiet (fail)
        go_wp2_with fail
        go_ret
        unfold TextPost
        rw [← HTX.out, HX.out]
        exact ⟨rfl, (HST2.out _).r, (hchJ.drewN _).st _ _⟩
      · by_cases hs : pk l j = 92
        · have tq : (((pk l j).toNat : Int) == 34) = false := by rw [← Bool.not_eq_true]; intro h; exact hq ((u8_eq _ 34 (by omega)).1 h)
          have ts : (((pk l j).toNat : Int) == 92) = true := (u8_eq _ 92 (by omega)).2 hs
          have HX0 : Hid (textGo l (k + 1) j acc = match escapeJ l j with
              | .error e => .error e
              | .ok (r, j') => textGo l k j' (acc ++ encN r)) := by
            show textGo l (k + 1) j acc = _
            rw [textGo, if_pos hjl, if_neg hq, if_pos hs]
            rfl
          clear hq hs
          go_wp2_with fail
          go_quiet (fail)
          go_wp2_with fail
          go_quiet (fail)
          go_wp2_with fail
          refine (escape_any rb _ cap tv l j dp B _ (hstJ.drewN _) hjl (hGJ.keep (bl_drewN (Below.refl _ _) _))).mono ?_
          intro e w1 hp
          unfold EscPost at hp
          cases he : escapeJ l j with
          | error f =>
            rw [he] at hp
            obtain ⟨rfl, hch1⟩ := hp
            refine ⟨rfl, ?_⟩
            unfold TextPost
            rw [← HTX.out, HX0.out, he]
            exact ⟨rfl, (hchJ.drewN _).trans hch1⟩
          | ok rj =>
            obtain ⟨r, j'⟩ := rj
            rw [he] at hp
            obtain ⟨rfl, hr1, hch1⟩ := hp
            obtain ⟨hv, hjj, hjl'⟩ := escapeJ_ok he
            have HX : Hid (textGo l (k + 1) j acc = textGo l k j' (acc ++ encN r)) := by
              show textGo l (k + 1) j acc = _
              rw [HX0.out, he]
            have hch1' : Chg (· = rb) w w1 := (hchJ.drewN _).trans hch1
            have hst1 := (hstJ.drewN _).to hr1 hch1
            have hown1 : w1.ownsRow w.heap.size 5 1 u3 acc.length (Lib.byteCells acc) := own_chg (S := (· = rb)) (w := wr.drewN _) hown hch1 (fun q hq e => by have := own_ge hown q hq; omega)
            have henc := encode_encN r hv
            have hlen : (encN r).length ≤ 4 := by
              have := enc_dec r hv []
              have := dec_enc _ _ _ this
              omega
            have hsz1 := hch1'.size
            have hsz2 : (⟨(encN r).toArray⟩ : ByteArray).size = (encN r).length := by simp [ByteArray.size]
            clear he HX0 hch1
            go_wp2_with (at_builtin; refine Lib.wpList_append_own_string _ rfl _ _ 22 9 rfl w.heap.size 5 i0 Tryz.underlying22 Tryz.underlying9 HI.out.1 HI.out.2.1 HI.out.2.2.1 HI.out.2.2.2 _ _ _ rfl hown1 ⟨(encN r).toArray⟩ rfl ?c3 ?c4 ?c5 ?_)
            case c3 => unfold maxLen; omega
            case c4 => omega
            case c5 => omega
            intro v' w2 hown2 hgrow _
            have hrow : ∀ q, u3.ownBlock = some q → w.heap.size ≤ q ∧ q < w1.heap.size := fun q hq => ⟨own_ge hown1 q hq, own_lt2 hown1 q hq⟩
            have hrowRb : some rb ≠ u3.ownBlock := fun e => by have := hrow rb e.symm; omega
            have hlrb : rb < w1.heap.size := hst1.r.lt
            have hch2 : Chg (· = rb) w w2 := hch1'.grown hgrow (fun q hq e => by have := hrow q e.symm; omega)
            have hr2 : Rd w2 rb (.slice (some ⟨b, o', none⟩) l.length cap) j' dp tv := ⟨by rw [hgrow.block rb hlrb hrowRb]; exact hst1.r.h⟩
            have hst2 : St w2 B rb (some ⟨b, o', none⟩) cap l j' dp tv := ⟨hr2, hst1.b.keep ((Below.refl B w1).grown hgrow (by omega) (fun q hq => by have := hrow q hq; omega)), hst1.B, hst1.c⟩
            have HOWN := Lib.hid hown2
            have HST2 := Lib.hid hst2
            have HCH2 := Lib.hid hch2
            clear hown2 hst2 hch2 hgrow hrow hrowRb hst1 hr1 hr2 hown1
            go_wp2_with fail
            go_roundg (l.length - j' + 1)
            case measure => omega
            case rel =>
              refine ⟨j', k, acc ++ encN r, ?_, by omega, by omega, by omega, ?_, HST2.out, HCH2.out, ?_, by omega⟩
              · have h1 := HOWN.out
                rw [Lib.byteCells_append, List.length_append]
                exact h1
              · simp; omega
              · rw [← HTX.out, HX.out]
        · have tq : (((pk l j).toNat : Int) == 34) = false := by rw [← Bool.not_eq_true]; intro h; exact hq ((u8_eq _ 34 (by omega)).1 h)
          have ts : (((pk l j).toNat : Int) == 92) = false := by rw [← Bool.not_eq_true]; intro h; exact hs ((u8_eq _ 92 (by omega)).1 h)
          have HQ := Lib.hid hq
          have HS := Lib.hid hs
          clear hq hs
          go_wp2_with fail
          go_quiet (fail)
          go_wp2_with fail
          go_quiet (fail)
          go_wp2_with fail
          have hBW : B ≤ wr.heap.size := by omega
          have hrlJ : rb < wr.heap.size := by omega
          have hbs : ∀ W, Below B wr W → Bs W B (some ⟨b, o', none⟩) l ∧ BadOk W B := fun W h => ⟨hstJ.b.keep h, hDJ.keep h⟩
          have HBS := Lib.hid hbs
          obtain ⟨r, n, bb, er, hat⟩ := atV_form l j
          have HAT := Lib.hid hat
          clear hbs hat
          have hcallee : ∀ W, Below B wr W → Calls Tryz.prog 176 #[.slice (some ⟨b, o', none⟩) l.length cap, .int .i64 j] W fun e w' => e = .returned (.tuple #[.agg #[.int .i32 r, .int .i64 n, .bool bb], .int .i64 er]) ∧ Below W.heap.size W w' := fun W hW =>
            (At_any _ cap l j hjl hcap _ B (HBS.out _ hW).1 (HBS.out _ hW).2 (Nat.le_trans hBW hW.size)).mono fun e w' ⟨he, hb⟩ => ⟨by rw [he, HAT.out], hb⟩
          have hcA : ∀ k, Calls Tryz.prog 176 #[.slice (some ⟨b, o', none⟩) l.length cap, .int .i64 j] ((wr.drewN k).alloc (.cells #[.int .i32 0, .int .i64 0, .bool false] 117)) fun e w' => e = .returned (.tuple #[.agg #[.int .i32 r, .int .i64 n, .bool bb], .int .i64 er]) ∧ Below wr.heap.size wr w' ∧
              (w'.cell? ⟨wr.heap.size, 0, none⟩ = some (.int .i32 0) ∧ w'.cell? ⟨wr.heap.size, 1, none⟩ = some (.int .i64 0) ∧ w'.cell? ⟨wr.heap.size, 2, none⟩ = some (.bool false) ∧ w'.frozen? ⟨wr.heap.size, 0, none⟩ = false ∧ w'.frozen? ⟨wr.heap.size, 1, none⟩ = false ∧ w'.frozen? ⟨wr.heap.size, 2, none⟩ = false) := fun k =>
            (hcallee _ (Below.alloc (bl_drewN (Below.refl _ _) k) (by simpa using hBW) _)).mono fun e w' ⟨he, hb⟩ =>
              ⟨he, (Below.alloc (bl_drewN (Below.refl _ _) k) (by simp) _).trans (hb.mono (by simp)), three_cells ((hb.block wr.heap.size (by simp)).trans (heap_new_drewN wr k _))⟩
          have hcB : ∀ k, Calls Tryz.prog 176 #[.slice (some ⟨b, o', none⟩) l.length cap, .int .i64 j] (wr.drewN k) fun e w' => e = .returned (.tuple #[.agg #[.int .i32 r, .int .i64 n, .bool bb], .int .i64 er]) ∧ Below wr.heap.size wr w' := fun k =>
            (hcallee _ (bl_drewN (Below.refl _ _) k)).mono fun e w' ⟨he, hb⟩ => ⟨he, (bl_drewN (Below.refl _ _) k).trans hb⟩
          have HCA := Lib.hid hcA
          have HCB := Lib.hid hcB
          clear hcallee hcA hcB
          have ld0 : ∀ k o, ((wr.drewN k).alloc o).cell? ⟨rb, 0, none⟩ = some (.slice (some ⟨b, o', none⟩) l.length cap) := fun k o =>
            (World.cell?_of_block (w := wr) (Below.heap_alloc (wr.drewN k) o rb hrlJ)).trans c0
          have ld1 : ∀ k o, ((wr.drewN k).alloc o).cell? ⟨rb, 1, none⟩ = some (.int .i64 j) := fun k o =>
            (World.cell?_of_block (w := wr) (Below.heap_alloc (wr.drewN k) o rb hrlJ)).trans c1
          go_upto_region 12 with fail
          go_cut [5, 6] (fun s5 _ wx => ∃ g : Nat, s5 = .pointer (some ⟨g, 0, none⟩) ∧ wx.cell? ⟨g, 0, none⟩ = some (.int .i32 r) ∧ wx.cell? ⟨g, 1, none⟩ = some (.int .i64 n) ∧ wx.cell? ⟨g, 2, none⟩ = some (.bool bb) ∧ Below wr.heap.size wr wx ∧ wr.heap.size ≤ g)
          case first =>
            go_region_with
              ((go_at_call 176; first | ((with_reducible refine (HCA.out _).mono ?_); rintro e w2 ⟨rfl, hb2, q0, q1, q2, z0, z1, z2⟩) | ((with_reducible refine (HCB.out _).mono ?_); rintro e w2 ⟨rfl, hb2⟩)))
            all_goals
              go_wp2_with fail
              go_meet
              first
                | exact ⟨wr.heap.size, rfl, (three_set_cells q0 q1 q2 _ _ _).1, (three_set_cells q0 q1 q2 _ _ _).2.1, (three_set_cells q0 q1 q2 _ _ _).2.2, below_three (Nat.le_refl _) hb2 _ _ _, Nat.le_refl _⟩
                | exact ⟨w2.heap.size, rfl, World.cell?_alloc_new w2 _ _ _, World.cell?_alloc_new w2 _ _ _, World.cell?_alloc_new w2 _ _ _, hb2.alloc hb2.size _, hb2.size⟩
          case rest =>
            obtain ⟨g, rfl, x0, x1, x2, hbx, hgx⟩ := hcut
            have hchX : Chg (· = rb) w wc := hchJ.trans (Chg.of_below' hbx)
            have hstX : St wc B rb (some ⟨b, o', none⟩) cap l j dp tv := hstJ.to (hstJ.r.keep (S := fun _ => False) (Same0.of_below hbx) id) (Chg.of_below' hbx)
            have hownX : wc.ownsRow w.heap.size 5 1 u3 acc.length (Lib.byteCells acc) := own_chg (S := fun _ => False) hown (Same0.of_below hbx) (fun _ _ => id)
            clear ld0 ld1 HCA HCB c0 c1 cj
            have c0 := hstX.r.c0
            have c1 := hstX.r.c1
            rcases at_cases HAT.out with ⟨rfl, hin, rn, nn, hdc, rfl, rfl⟩ | ⟨rfl, hor⟩
            · obtain ⟨e1, e2, e3, e4, e5, e6⟩ := dec_enc _ _ _ hdc
              have hnl : j + nn ≤ l.length := by simp at e4; omega
              by_cases hr32 : rn < 32
              · have t1 : decide ((rn : Int) < 32) = true := by simp; omega
                have HX : Hid (textGo l (k + 1) j acc = .error (j, 243)) := by
                  show textGo l (k + 1) j acc = .error (j, 243)
                  rw [textGo, if_pos hjl, if_neg HQ.out, if_neg HS.out, if_neg (by omega), hdc]
                  simp only [if_pos hr32]
                clear hr32 e1 e5 e6 hdc hin
                go_wp2_with fail
                refine (no_any _ _ _ _).mono ?_
                rintro e w9 ⟨rfl, rfl⟩
                refine ⟨rfl, ?_⟩
                unfold TextPost
                rw [← HTX.out, HX.out]
                exact ⟨rfl, hchX⟩
              · have t1 : decide ((rn : Int) < 32) = false := by simp; omega
                have HX : Hid (textGo l (k + 1) j acc = textGo l k (j + nn) (acc ++ (l.drop j).take nn)) := by
                  show textGo l (k + 1) j acc = _
                  rw [textGo, if_pos hjl, if_neg HQ.out, if_neg HS.out, if_neg (by omega), hdc]
                  simp only [if_neg hr32]
                have hbX := hstX.b
                have hcX : ∀ q, q < l.length → wc.cell? ⟨b, o' + q, none⟩ = some (.int .u8 ((pk l q).toNat : Int)) := by
                  obtain ⟨b2, o2, he, _, hc2⟩ := hbX.cells (by omega)
                  obtain ⟨rfl, rfl⟩ : b = b2 ∧ o' = o2 := by simpa using he
                  exact hc2
                have HCX := Lib.hid hcX
                clear hr32 e1 e5 e6 hdc hin hcX
                go_upto_region 15 with fail
                have hw1 : IntKind.i64.wrap ((j : Int) + (nn : Int)) = (j : Int) + (nn : Int) := IntWalk.i64_in _ (by omega)
                have hw2 : 0 ≤ (j : Int) + (nn : Int) := by omega
                have hw3 : ((j : Int) + (nn : Int)).toNat = j + nn := by omega
                have hw4 : ¬ cap = j := by omega
                have hw5 : (j : Int) + (nn : Int) ≤ (cap : Int) := by omega
                have hw6 : j ≤ j + nn := by omega
                refine wp_region_still_tail 17 (by kernel_rfl) (by kernel_rfl) ?_
                simp only [List.take_succ_cons, List.take_zero, List.drop_succ_cons, List.drop_zero]
                change wpStill _ _ wc.drew _ _ _
                repeat still_step
                refine wpStill_nil ?_
                clear hw1 hw2 hw3 hw4 hw5 hw6
                change wpList _ _ _ _ _ wc.drew
                have hnews : (Lib.byteCells ((l.drop j).take nn)).length = nn * 1 := by rw [Lib.byteCells_length]; simp; omega
                have hcells : ∀ q u, (Lib.byteCells ((l.drop j).take nn))[q]? = some u → wc.drew.cell? ((⟨b, o' + j, none⟩ : Addr).add q) = some u := by
                  intro q u hu
                  have hq : q < nn := by
                    have := (List.getElem?_eq_some_iff.1 hu).1
                    rw [Lib.byteCells_length] at this; simp at this; omega
                  rw [addr_add_plain]
                  show wc.cell? _ = _
                  rw [show o' + j + q = o' + (j + q) from by omega, HCX.out (j + q) (by omega), ← hu]
                  simp only [Lib.byteCells, List.getElem?_map, List.getElem?_take, if_pos hq, List.getElem?_drop, pk, List.getD_eq_getElem?_getD]
                  rw [List.getElem?_eq_getElem (show j + q < l.length by omega)]
                  rfl
                refine wpList_append_own wc.drew rfl _ _ 22 rfl w.heap.size 5 i0 (.int .u8 0) 1 1 Tryz.underlying22 HI.out.1 HI.out.2.1 HI.out.2.2.1 HI.out.2.2.2 rfl (by decide) _ _ _ rfl (hownX.drew) ⟨b, o' + j, none⟩ nn (cap - j) (Lib.byteCells ((l.drop j).take nn)) rfl hnews hcells ?c2 ?c3 ?c4 ?c5 ?_
                case c2 => intro u hu; simp only [Lib.byteCells, List.mem_map] at hu; obtain ⟨x, _, rfl⟩ := hu; rfl
                case c3 => unfold maxLen; omega
                case c4 => omega
                case c5 => have := hbx.size; simp; omega
                intro v' w2 hown2 hgrow _
                have hrow : ∀ q, u3.ownBlock = some q → w.heap.size ≤ q ∧ q < wr.heap.size := fun q hq => ⟨own_ge hown q hq, own_lt2 hown q hq⟩
                have hrowRb : some rb ≠ u3.ownBlock := fun e => by have := hrow rb e.symm; omega
                have hrowG : some g ≠ u3.ownBlock := fun e => by have := hrow g e.symm; omega
                have hlg : g < wc.heap.size := World.block_lt_of_cell? wc _ x1
                have hlrb : rb < wc.heap.size := hstX.r.lt
                have hch2 : Chg (· = rb) w w2 := hchX.drew.grown hgrow (fun q hq e => by have := hrow q e.symm; omega)
                have hr2 : Rd w2 rb (.slice (some ⟨b, o', none⟩) l.length cap) j dp tv := ⟨by rw [hgrow.block rb (by simpa using hlrb) hrowRb]; exact hstX.r.h⟩
                have hst2 : St w2 B rb (some ⟨b, o', none⟩) cap l j dp tv := ⟨hr2, hstX.b.keep ((bl_drew (Below.refl B wc)).grown hgrow (by simp; have := hbx.size; omega) (fun q hq => by have := hrow q hq; omega)), hstX.B, hstX.c⟩
                have y1 : w2.cell? ⟨g, 1, none⟩ = some (.int .i64 (nn : Int)) := by rw [hgrow.cell_far ⟨g, 1, none⟩ (by simpa using hlg) hrowG]; exact x1
                have HOWN := Lib.hid hown2
                have HST2 := Lib.hid hst2
                have HCH2 := Lib.hid hch2
                have HHX := Lib.hid hstX
                have HNE := Lib.hid hne
                clear hown2 hst2 hch2 hgrow hrow hrowRb hrowG hnews hcells x0 x1 x2 hbx hgx hchX hownX c0 c1 HCX hlrb hbX hstX hne
                have d1 := hr2.c1
                have z1 := hr2.f 1
                go_upto_region 16 with fail
                have hw1 : IntKind.i64.wrap ((j : Int) + (nn : Int)) = (j : Int) + (nn : Int) := IntWalk.i64_in _ (by omega)
                refine wp_region_still_tail 9 (by kernel_rfl) (by kernel_rfl) ?_
                simp only [List.take_succ_cons, List.take_zero, List.drop_succ_cons, List.drop_zero]
                change wpStill _ _ w2.drew _ _ _
                repeat still_step
                refine wpStill_nil ?_
                change wpList _ _ _ _ _ w2.drew
                clear hw1
                go_wp2_with fail
                go_roundg (l.length - (j + nn) + 1)
                case measure => omega
                case rel =>
                  refine ⟨j + nn, k, acc ++ (l.drop j).take nn, ?_, by omega, by omega, by omega, ?_, ?_, (HCH2.out.st _ _).drew, ?_, by omega⟩
                  · have h1 := ownsRow_setCell_other HOWN.out (a := ⟨rb, 1, none⟩) (fun e => by have := own_ge HOWN.out rb e; omega) (.int .i64 ((j : Int) + (nn : Int)))
                    have e1 : (acc ++ (l.drop j).take nn).length = acc.length + nn := by simp; omega
                    rw [e1, Lib.byteCells_append]
                    exact h1.drew
                  · simp; omega
                  · have h1 := HST2.out.to (HST2.out.r.set1 (j + nn)) ((Chg.refl _ _).st _ _)
                    exact ⟨⟨h1.r.h⟩, ⟨h1.b.len, h1.b.cells⟩, h1.B, h1.c⟩
                  · rw [← HTX.out, HX.out]
            · have HX : Hid (textGo l (k + 1) j acc = .error (j, 243)) := by
                show textGo l (k + 1) j acc = .error (j, 243)
                rw [textGo, if_pos hjl, if_neg HQ.out, if_neg HS.out]
                rcases hor with h | h
                · rw [if_pos (by omega)]
                · split
                  · rfl
                  · rw [h]
              clear hor
              go_wp2_with fail
              refine (no_any _ _ _ _).mono ?_
              rintro e w9 ⟨rfl, rfl⟩
              refine ⟨rfl, ?_⟩
              unfold TextPost
              rw [← HTX.out, HX.out]
              exact ⟨rfl, hchX⟩
    · go_wp2_with fail
      go_quiet (fail)
      go_wp2_with fail
      refine (no_any _ _ _ _).mono ?_
      rintro e w9 ⟨rfl, rfl⟩
      refine ⟨rfl, ?_⟩
      unfold TextPost
      rw [← HTX.out, textGo, if_neg hjl]
      exact ⟨rfl, hchJ.drewN _⟩
end Go.Proofs.YtknmbfkpclacgaaGreatDoor

/- The parsed tree in memory; what a call of the reader's value, list and object does. -/
set_option linter.unusedSimpArgs false
namespace Go.Proofs.YtknmbfkpclacgaaGreatDoor
open Go.RowKit

def ints (ks : List Int) : List Value := ks.map (Value.int .i64)
def strs (ns : List (List UInt8)) : List Value := ns.map fun s => Value.string ⟨s.toArray⟩
theorem ints_length (ks : List Int) : (ints ks).length = ks.length := by simp [ints]
theorem strs_length (ns : List (List UInt8)) : (strs ns).length = ns.length := by simp [strs]

/-- A value's cells read as a value of the parser's function; its lists are rows of its own. -/
structure VR (base : Nat) (w : World) (x : VC) (v : JV) : Prop where
  kind : x.kind = v.kind
  truth : x.truth = v.truth
  n : x.n = v.n
  text : x.text = ⟨v.text.toArray⟩
  kids : w.ownsRow base 3 1 x.kids v.kids.length (ints v.kids)
  names : w.ownsRow base 9 1 x.names v.names.length (strs v.names)
def VRs (base : Nat) (w : World) : List VC → List JV → Prop
  | [], [] => True
  | x :: xs, v :: vs => VR base w x v ∧ VRs base w xs vs
  | _, _ => False
theorem VRs.length {base : Nat} {w : World} : ∀ {xs : List VC} {vs : List JV}, VRs base w xs vs → xs.length = vs.length
  | [], [], _ => rfl
  | _ :: _, _ :: _, h => by simp [VRs.length h.2]
  | [], _ :: _, h => h.elim
  | _ :: _, [], h => h.elim
theorem VRs.snoc {base : Nat} {w : World} : ∀ {xs : List VC} {vs : List JV} {x : VC} {v : JV}, VRs base w xs vs → VR base w x v → VRs base w (xs ++ [x]) (vs ++ [v])
  | [], [], _, _, _, h => ⟨h, trivial⟩
  | _ :: _, _ :: _, _, _, h, k => ⟨h.1, VRs.snoc h.2 k⟩
  | [], _ :: _, _, _, h, _ => h.elim
  | _ :: _, [], _, _, h, _ => h.elim
/-- The blocks of a value's lists. -/
def vb (x : VC) : List Nat := x.kids.ownBlock.toList ++ x.names.ownBlock.toList
def tb (xs : List VC) : List Nat := xs.flatMap vb
theorem tb_append (xs ys : List VC) : tb (xs ++ ys) = tb xs ++ tb ys := by simp [tb, List.flatMap_append]

/-- The type of a block's elements. -/
def ety (w : World) (b : Nat) : Option TypeId := match w.heap[b]? with
  | some (.cells _ t _) => some t
  | _ => none
theorem own_ety {w : World} {base : Nat} {e : TypeId} {size n : Nat} {v : Value} {xs : List Value} (h : w.ownsRow base e size v n xs) {k : Nat} (hk : v.ownBlock = some k) : ety w k = some e := by
  rcases h.2 with ⟨rfl, _⟩ | ⟨g, cap, cur, rfl, hb, hh, _⟩
  · simp [Value.ownBlock] at hk
  · have : g = k := by simpa [Value.ownBlock] using hk
    subst this
    simp [ety, hh]
theorem Rd.ety {w : World} {rb : Nat} {bv : Value} {i dp : Nat} {tv : Value} (h : Rd w rb bv i dp tv) : ety w rb = some 95 := by simp [Go.Proofs.YtknmbfkpclacgaaGreatDoor.ety, h.h]
theorem VR.keep {base : Nat} {w w' : World} {S : Nat → Prop} {x : VC} {v : JV} (h : VR base w x v) (hc : Chg S w w') (hS : ∀ b, S b → ety w b ≠ some 3 ∧ ety w b ≠ some 9) : VR base w' x v :=
  ⟨h.kind, h.truth, h.n, h.text, own_chg h.kids hc (fun k hk hs => (hS k hs).1 (own_ety h.kids hk)), own_chg h.names hc (fun k hk hs => (hS k hs).2 (own_ety h.names hk))⟩
theorem VRs.keep {base : Nat} {w w' : World} {S : Nat → Prop} (hc : Chg S w w') (hS : ∀ b, S b → ety w b ≠ some 3 ∧ ety w b ≠ some 9) : ∀ {xs : List VC} {vs : List JV}, VRs base w xs vs → VRs base w' xs vs
  | [], [], _ => trivial
  | _ :: _, _ :: _, h => ⟨h.1.keep hc hS, VRs.keep hc hS h.2⟩
  | [], _ :: _, h => h.elim
  | _ :: _, [], h => h.elim
theorem VRs.lt {base : Nat} {w : World} : ∀ {xs : List VC} {vs : List JV}, VRs base w xs vs → ∀ b ∈ tb xs, b < w.heap.size ∧ base ≤ b ∧ (ety w b = some 3 ∨ ety w b = some 9)
  | [], [], _, b, hb => by simp [tb] at hb
  | x :: xs, v :: vs, h, b, hb => by
    have hb' : b ∈ vb x ∨ b ∈ tb xs := by simpa [tb] using hb
    rcases hb' with hb' | hb'
    · simp only [vb, List.mem_append, Option.mem_toList] at hb'
      rcases hb' with hb' | hb'
      · exact ⟨own_lt2 h.1.kids b hb', own_ge h.1.kids b hb', .inl (own_ety h.1.kids hb')⟩
      · exact ⟨own_lt2 h.1.names b hb', own_ge h.1.names b hb', .inr (own_ety h.1.names hb')⟩
    · exact VRs.lt h.2 b hb'
  | [], _ :: _, h, _, _ => h.elim
  | _ :: _, [], h, _, _ => h.elim

/-- The tree that has been read so far. -/
structure TR (base : Nat) (w : World) (tv : Value) (xs : List VC) (t : List JV) : Prop where
  own : w.ownsRow base 47 6 tv t.length (flat xs)
  vals : VRs base w xs t
  nodup : (tb xs).Nodup
theorem TR.keep {base : Nat} {w w' : World} {S : Nat → Prop} {tv : Value} {xs : List VC} {t : List JV} (h : TR base w tv xs t) (hc : Chg S w w')
    (hS : ∀ b, S b → ety w b ≠ some 3 ∧ ety w b ≠ some 9) (ht : ∀ b, tv.ownBlock = some b → ¬ S b) : TR base w' tv xs t :=
  ⟨own_chg h.own hc ht, h.vals.keep hc hS, h.nodup⟩
theorem TR.neRb {base : Nat} {w : World} {tv : Value} {xs : List VC} {t : List JV} (h : TR base w tv xs t) {rb : Nat} {bv : Value} {i dp : Nat} {tv' : Value} (hr : Rd w rb bv i dp tv') : tv.ownBlock ≠ some rb := fun e => by
  have h1 := own_ety h.own e
  rw [hr.ety] at h1
  exact absurd (Option.some.inj h1) (by decide)
theorem TR.sp {base : Nat} {w : World} {tv : Value} {xs : List VC} {t : List JV} (h : TR base w tv xs t) {rb : Nat} {bv : Value} {i dp : Nat} {tv' : Value} (hr : Rd w rb bv i dp tv') : ∀ b, SP rb tv b → ety w b ≠ some 3 ∧ ety w b ≠ some 9 := by
  rintro b (rfl | hb)
  · rw [hr.ety]; decide
  · rw [own_ety h.own hb.symm]; decide
theorem TR.rb {base : Nat} {w w' : World} {tv : Value} {xs : List VC} {t : List JV} (h : TR base w tv xs t) {rb : Nat} {bv : Value} {i dp : Nat} {tv' : Value} (hr : Rd w rb bv i dp tv') (hc : Chg (· = rb) w w') : TR base w' tv xs t :=
  h.keep hc (fun b hb => by subst hb; rw [hr.ety]; decide) (fun b hb e => h.neRb hr (e ▸ hb))

/-- What a call that reads a value does. -/
def TPost (res : Except Flt (Nat × Nat × List JV)) (rb base : Nat) (bv tv : Value) (xs : List VC) (dp : Nat) (w : World) (e : Ending) (w' : World) : Prop :=
  match res with
  | .ok (p, j, t') => e = .returned (.int .i64 p) ∧ ∃ tv' xs', Rd w' rb bv j dp tv' ∧ TR base w' tv' (xs ++ xs') t' ∧ Chg (SP rb tv) w w' ∧ (∀ b ∈ tb xs', w.heap.size ≤ b) ∧ (∀ b, tv'.ownBlock = some b → tv.ownBlock = some b ∨ w.heap.size ≤ b)
  | .error f => NoEnd f.1 f.2 e ∧ Chg (fun k => base ≤ k) w w'

/-- The contract of value at so much fuel. -/
def VCon (l : List UInt8) (rb : Nat) (A : Option Addr) (cap B base k : Nat) : Prop :=
  ∀ (i dp : Nat) (t : List JV) (tv : Value) (xs : List VC) (w : World), 2 * (l.length - i) + 2 ≤ k → i ≤ l.length → t.length ≤ i → dp ≤ 64 → St w B rb A cap l i dp tv → TR base w tv xs t → LetOk w B → BadOk w B →
    Calls Tryz.prog 49 #[.pointer (some ⟨rb, 0, none⟩)] w (TPost (valueJ l k i dp t) rb base (.slice A l.length cap) tv xs dp w)

theorem LetOk.base {w w' : World} {B base : Nat} (h : LetOk w B) (hB : B ≤ base) (hb : Below base w w') : LetOk w' B := h.keep (hb.mono hB)
theorem BadOk.base {w w' : World} {B base : Nat} (h : BadOk w B) (hB : B ≤ base) (hb : Below base w w') : BadOk w' B := h.keep (hb.mono hB)
theorem SP.base {base : Nat} {w w' : World} {tv : Value} {xs : List VC} {t : List JV} (h : TR base w tv xs t) {rb : Nat} (hrb : base ≤ rb) (hlt : rb < w.heap.size) (hc : Chg (SP rb tv) w w') : Below base w w' :=
  hc.below (by omega) (by
    rintro k (rfl | hk)
    · exact hrb
    · exact own_ge h.own k hk.symm)
end Go.Proofs.YtknmbfkpclacgaaGreatDoor
