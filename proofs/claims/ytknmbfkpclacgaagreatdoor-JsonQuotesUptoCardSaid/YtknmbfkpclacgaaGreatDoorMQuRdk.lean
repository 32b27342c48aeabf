import Derived.Test.YtknmbfkpclacgaaGreatDoorMQuRdj
import Derived.Deep.CutRange
import Derived.RegionDies
/- The reader's object: the walk. -/
set_option linter.unusedSimpArgs false
namespace Go.Proofs.YtknmbfkpclacgaaGreatDoor
open Go.RowKit

theorem Tryz.infoString : (Tryz.prog.info? 9).map (fun i => (i.zero, i.size, i.bytes)) = some (some (.string ⟨#[]⟩), 1, 16) := by kernel_rfl
theorem ne_test {a b : UInt8} (h : a ≠ b) : (((a.toNat : Int)) != (b.toNat : Int)) = true := by
  simp only [bne_iff_ne, ne_eq]
  intro e
  exact h (UInt8.toNat_inj.1 (by omega))

theorem tb_two {xs : List VC} {kv nv : Value} {a b c d} (h : (tb xs).Nodup) (hk : ∀ b, kv.ownBlock = some b → b ∉ tb xs) (hn : ∀ b, nv.ownBlock = some b → b ∉ tb xs) (hkn : ∀ b, kv.ownBlock = some b → nv.ownBlock ≠ some b) :
    (tb (xs ++ [⟨a, b, c, d, kv, nv⟩])).Nodup := by
  rw [tb_append, List.nodup_append]
  have e : tb [(⟨a, b, c, d, kv, nv⟩ : VC)] = kv.ownBlock.toList ++ nv.ownBlock.toList := by simp [tb, vb]
  refine ⟨h, ?_, ?_⟩
  · rw [e]
    cases hk' : kv.ownBlock <;> cases hn' : nv.ownBlock <;> simp
    rintro rfl
    exact hkn _ hk' hn'
  · intro x hx y hy e'
    subst e'
    rw [e] at hy
    simp only [List.mem_append, Option.mem_toList] at hy
    rcases hy with hy | hy
    · exact hk x hy hx
    · exact hn x hy hx

set_option maxRecDepth 100000 in
set_option maxHeartbeats 16000000 in
theorem object_any (l : List UInt8) (rb : Nat) (A : Option Addr) (cap B base k : Nat) (hrb : base ≤ rb) (hB : B ≤ base) (hL : l.length ≤ 268435456) (IH : ∀ k', k' < k → VCon l rb A cap B base k')
    (i dp : Nat) (t : List JV) (tv : Value) (xs : List VC) (w : World) (hk : 2 * (l.length - (i + 1)) + 3 ≤ k) (hil : i < l.length) (hti : t.length ≤ i) (hdp : dp ≤ 64) (hst : St w B rb A cap l i dp tv) (hT : TR base w tv xs t) (hG : LetOk w B) (hD : BadOk w B) :
    Calls Tryz.prog 107 #[.pointer (some ⟨rb, 0, none⟩)] w (TPost (if dp = 64 then .error (i, 241) else objectJ l k (i + 1) dp t [] []) rb base (.slice A l.length cap) tv xs dp w) := by
  have HIH := Lib.hid IH
  clear IH
  have hrl := hst.r.lt
  by_cases h64 : dp = 64
  · subst h64
    rw [if_pos rfl]
    go_enter Tryz.func107, Tryz.ntmps107
    go_wp2_with fail
    refine (open_no rb _ tv i _ hst.r).mono ?_
    rintro e w1 ⟨rfl, rfl⟩
    exact ⟨rfl, rfl, Chg.refl _ _⟩
  · rw [if_neg h64]
    obtain ⟨i0, hi0, hz0, hz1, hz2⟩ := info_parts Tryz.infoInt
    have HI := Lib.hid (And.intro hi0 (And.intro hz0 (And.intro hz1 hz2)))
    clear hi0 hz0 hz1 hz2
    obtain ⟨i1, hi1, hy0, hy1, hy2⟩ := info_parts Tryz.infoString
    have HIS := Lib.hid (And.intro hi1 (And.intro hy0 (And.intro hy1 hy2)))
    clear hi1 hy0 hy1 hy2
    have hmm := @run_makeMap Tryz.prog
    go_enter Tryz.func107, Tryz.ntmps107
    go_wp2_with fail
    refine (open_yes rb _ tv i dp _ (by omega) (by omega) hst.r).mono ?_
    rintro e w1 ⟨rfl, hr1, hch1⟩
    have hst1 := hst.to hr1 hch1
    have hT1 := hT.rb hst.r hch1
    have hsz1 := hch1.size
    have hrl1 := hr1.lt
    go_wp2_with fail
    have hS1 := hT1.sp hr1
    generalize hW1 : w1.alloc (.cells #[.int .i64 6, .bool false, .int .i64 0, .string ⟨#[]⟩, .slice none 0 0, .slice none 0 0] 47) = W1
    generalize hW0 : W1.alloc (.map #[] 0) = W0
    have hszW : W1.heap.size = w1.heap.size + 1 := by subst hW1; simp
    have hc0 : Chg (fun _ => False) w1 W0 := by subst hW0; subst hW1; exact ((Chg.refl _ _).alloc _).alloc _
    have hst0 : St W0 B rb A cap l (i + 1) (dp + 1) tv := hst1.to (hr1.keep hc0 id) (hc0.mono fun _ _ h => h.elim)
    have hT0 : TR base W0 tv xs t := hT1.keep hc0 (fun _ h => h.elim) (fun _ _ h => h)
    have hl0 : Lv W0 w1.heap.size 6 (.slice none 0 0) (.slice none 0 0) := ⟨by subst hW0; subst hW1; rw [Below.heap_alloc _ _ _ (by simp)]; exact heap_alloc_new w1 _⟩
    have hm0 : SM W0 (w1.heap.size + 1) 0 [] := by rw [← hszW]; subst hW0; exact SM.made W1
    have hch0 : Chg (SP rb tv) w W0 := (hch1.mono fun _ _ h => .inl h).trans (hc0.mono fun _ _ h => h.elim)
    have hoi0 : OI l rb A cap B base dp tv xs w w1.heap.size (w1.heap.size + 1) (i + 1) t [] tv [] [] [] (.slice none 0 0) (.slice none 0 0) W0 :=
      ⟨hst0, by rw [List.append_nil]; exact hT0, hl0, ⟨rfl, .inl ⟨rfl, rfl⟩⟩, ⟨rfl, .inl ⟨rfl, rfl⟩⟩, fun b hb => by simp [Value.ownBlock] at hb, fun b hb => by simp [Value.ownBlock] at hb, hm0, hch0, fun b hb => by simp [tb] at hb, fun b hb => .inl hb,
        fun e => by have := own_lt2 hT1.own _ e; omega, hsz1, by omega, hrl⟩
    have HO0 := Lib.hid hoi0
    clear hW0 hW1 hoi0 hm0 hl0 hst0 hT0 hc0 hch0
    clear hszW W1
    go_loopg [] (l.length - i + 1) (fun g wr => ∃ kc i' t' xs' tv' ks ns kv nv, OI l rb A cap B base dp tv xs w w1.heap.size (w1.heap.size + 1) i' t' xs' tv' ks ns ns kv nv wr ∧ OB l k i kc i' dp t' ks ns (objectJ l k (i + 1) dp t [] []) ∧ l.length - i' + 1 ≤ g)
    case atStart =>
      exact ⟨k, i + 1, t, [], tv, [], [], _, _, HO0.out, ⟨hk, Nat.le_refl _, by omega, by omega, by omega, by simp, rfl, rfl⟩, by omega⟩
    case round =>
      obtain ⟨kc, i', t', xs', tv', ks, ns, kv, nv, hOI, hOB, hg⟩ := hrel
      obtain ⟨kc, rfl⟩ : ∃ m, kc = m + 1 := ⟨kc - 1, by have := hOB.fuel; omega⟩
      have HOB := Lib.hid hOB
      clear hOB
      have hwr := hOI.chg.size
      have hrw := hOI.rbw
      have hlw := hOI.lbw
      have hbw : Below base w wr := hOI.below hT hrb
      by_cases h125 : pk l (skip l i') = 125
      · have HE : Hid (objectJ l k (i + 1) dp t [] [] = .ok (t'.length, skip l i' + 1, t' ++ [jObj ks ns])) := by
          show _ = _
          rw [← HOB.out.eq, objectJ]; simp only [if_pos h125]
        have HOI := Lib.hid hOI
        have H125 := Lib.hid h125
        clear hOI h125
        go_wp2_with fail
        refine (next_yes rb A cap tv' l i' (dp + 1) B 125 _ HOI.out.st.B (by decide) HOI.out.st.r HOI.out.st.b H125.out).mono ?_
        rintro e w2 ⟨rfl, hr2, hch2⟩
        have ho2 := HOI.out.mv hr2 hch2
        have d2 := ho2.st.r.c2
        have f2 := ho2.st.r.f 2
        -- the depth goes back
        have hr3 := ho2.st.r.set2 dp
        have hc3 : Chg (· = rb) w2 (w2.setCell ⟨rb, 2, none⟩ (.int .i64 dp)) := (Chg.refl _ _).st _ _
        have hst3 : St (w2.setCell ⟨rb, 2, none⟩ (.int .i64 dp)) B rb A cap l (skip l i' + 1) dp tv' := ho2.st.to hr3 hc3
        have hT3 := ho2.tr.rb ho2.st.r hc3
        have hl3 := ho2.lv.keep hc3 (by omega)
        have hch3 : Chg (SP rb tv) w (w2.setCell ⟨rb, 2, none⟩ (.int .i64 dp)) := ho2.chg.setCell (fun _ => .inl rfl) _
        obtain ⟨l0, l1, l2, l3, l4, l5⟩ := hl3.cells
        have hown3 := own_chg ho2.kown hc3 (fun b hb e => by have := own_ge ho2.kown b hb; omega)
        have hnwn3 := own_chg ho2.nown hc3 (fun b hb e => by have := own_ge ho2.nown b hb; omega)
        have HX := Lib.hid (And.intro hst3 (And.intro hT3 (And.intro hl3 (And.intro hch3 (And.intro hown3 (And.intro hnwn3 ho2.disj.2.2.2.2.2))))))
        clear ho2 hr2 hch2 hr3 hst3 hT3 hl3 hch3 hown3 hnwn3 hc3
        go_wp2_with fail
        refine (put_tree rb A cap l (skip l i' + 1) dp B base tv' (xs ++ xs') t' ⟨6, false, 0, ⟨#[]⟩, kv, nv⟩ (jObj ks ns) _ HX.out.1 HX.out.2.1 ⟨rfl, rfl, rfl, rfl, own_mono HX.out.2.2.2.2.1 (by omega), own_mono HX.out.2.2.2.2.2.1 (by omega)⟩
          (tb_two HX.out.2.1.nodup HOI.out.knew HOI.out.nnew HX.out.2.2.2.2.2.2) hrb hB (by have := HOB.out.tl; have := HOB.out.hi; omega)).mono ?_
        rintro e w4 ⟨rfl, tv4, hst4, hT4, hch4, htv4⟩
        have HEND : Hid (TPost (objectJ l k (i + 1) dp t [] []) rb base (.slice A l.length cap) tv xs dp w (.returned (.int .i64 t'.length)) w4) := by
          show TPost _ _ _ _ _ _ _ _ _ _
          rw [HE.out]
          refine ⟨rfl, tv4, xs' ++ [⟨6, false, 0, ⟨#[]⟩, kv, nv⟩], hst4.r, by rw [← List.append_assoc]; exact hT4, ?_, ?_, ?_⟩
          · refine HX.out.2.2.2.1.andThen hch4 ?_
            rintro b hb (rfl | hb')
            · exact .inl rfl
            · rcases HOI.out.tvb b hb'.symm with h | h
              · exact .inr h.symm
              · omega
          · intro b hb
            rw [tb_append, List.mem_append] at hb
            rcases hb with hb | hb
            · exact HOI.out.fresh b hb
            · have : kv.ownBlock = some b ∨ nv.ownBlock = some b := by simpa [tb, vb] using hb
              rcases this with h | h
              · exact own_ge HOI.out.kown b h
              · exact own_ge HOI.out.nown b h
          · intro b hb
            have hs3 := HX.out.2.2.2.1.size
            rcases htv4 b hb with h | h
            · exact HOI.out.tvb b h
            · exact .inr (by omega)
        clear hst4 hT4 hch4 htv4
        go_wp2_with fail
        go_ret
        exact HEND.out
      · have HE : Hid (objectJ l k (i + 1) dp t [] [] = if ks ≠ [] ∧ pk l (skip l i') ≠ 44 then .error (skip l i', 240)
            else
              let j := if ks = [] then skip l i' else skip l (skip l i' + 1)
              if pk l j ≠ 34 then .error (j, 240)
              else match textJ l j with
                | .error e => .error e
                | .ok (s, j2) =>
                  if s ∈ ns then .error (j, 244)
                  else
                    let j3 := skip l j2
                    if pk l j3 ≠ 58 then .error (j3, 240)
                    else match valueJ l kc (j3 + 1) (dp + 1) t' with
                      | .error e => .error e
                      | .ok (p, j4, t'') => objectJ l kc j4 dp t'' (ks ++ [(p : Int)]) (ns ++ [s])) := by
          show _ = _
          rw [← HOB.out.eq, objectJ]; simp only [if_neg h125]
          rfl
        obtain ⟨Ak, ck, rfl⟩ := own_form hOI.kown
        have HOI := Lib.hid hOI
        have H125 := Lib.hid h125
        clear hOI h125
        go_wp2_with fail
        refine (next_no rb A cap tv' l i' (dp + 1) B 125 _ HOI.out.st.B HOI.out.st.r HOI.out.st.b H125.out).mono ?_
        rintro e w2 ⟨rfl, hr2, hch2⟩
        have ho2 := HOI.out.mv hr2 hch2
        obtain ⟨l0, l1, l2, l3, l4, l5⟩ := ho2.lv.cells
        have HX := Lib.hid (And.intro ho2 hch2)
        clear hr2 ho2 hch2 l0 l1 l2 l3 l5
        go_upto_if 17 with fail
        go_cut [] from 11 to 59 (fun wx => ¬ (ks ≠ [] ∧ pk l (skip l i') ≠ 44) ∧ ∃ jb, jb = (if ks = [] then skip l i' else skip l (skip l i' + 1)) ∧ OI l rb A cap B base dp tv xs w w1.heap.size (w1.heap.size + 1) jb t' xs' tv' ks ns ns (.slice Ak ks.length ck) nv wx)
        case first =>
          by_cases hks : ks = []
          · subst hks
            go_wp2_with fail
            go_meet
            exact ⟨fun h => h.1 rfl, _, rfl, HX.out.1⟩
          · have h0 : 0 < ks.length := List.length_pos_iff.2 hks
            by_cases h44 : pk l (skip l i') = 44
            · have H44 := Lib.hid h44
              have HKS := Lib.hid hks
              clear h44 hks
              go_wp2_with fail
              refine (want_yes rb A cap tv' l (skip l i') (dp + 1) B 44 _ HX.out.1.st.B (by decide) HX.out.1.st.r HX.out.1.st.b (by rw [skip_skip]; exact H44.out)).mono ?_
              rintro e w3 ⟨rfl, hr3, hch3⟩
              rw [skip_skip] at hr3
              have HR := Lib.hid (HX.out.1.mv hr3 hch3)
              clear hr3 hch3
              go_wp2_with fail
              refine (blanks_any rb A cap tv' l (skip l i' + 1) (dp + 1) B _ HR.out.st.B HR.out.st.r HR.out.st.b).mono ?_
              rintro e w4 ⟨rfl, hr4, hch4⟩
              have HR4 := Lib.hid (HR.out.mv hr4 hch4)
              clear hr4 hch4
              go_wp2_with fail
              go_meet
              exact ⟨fun h => h.2 H44.out, _, (if_neg HKS.out).symm, HR4.out⟩
            · have H44 := Lib.hid h44
              have HKS := Lib.hid hks
              clear h44 hks
              go_wp2_with fail
              refine (want_no rb A cap tv' l (skip l i') (dp + 1) B 44 _ HX.out.1.st.B HX.out.1.st.r HX.out.1.st.b (by rw [skip_skip]; exact H44.out)).mono ?_
              rintro e w3 ⟨rfl, hch3⟩
              refine ⟨rfl, ?_⟩
              rw [HE.out, if_pos ⟨HKS.out, H44.out⟩, skip_skip]
              refine ⟨rfl, ?_⟩
              exact (Chg.of_below (HX.out.1.below hT hrb) (fun _ _ h => h)).trans (hch3.mono fun _ _ h => by omega)
        case rest =>
          obtain ⟨hno, jb, hjb, hoc⟩ := hcut
          have HNO := Lib.hid hno
          clear hno
          have hj2 : i' ≤ jb ∧ jb ≤ l.length := by
            subst hjb
            have h1 := skip_ge l i'
            have h2 := skip_le l i' HOB.out.hi
            split
            · exact ⟨h1, h2⟩
            · rename_i hks
              have h44 : pk l (skip l i') = 44 := Decidable.byContradiction fun h => HNO.out ⟨hks, h⟩
              have h3 := pk_nz (by decide) h44
              have h4 := skip_ge l (skip l i' + 1)
              exact ⟨by omega, skip_le _ _ h3⟩
          have HJB := Lib.hid hjb
          have hj0 := hj2.1
          have hj1 := hj2.2
          have he2 : objectJ l k (i + 1) dp t [] [] = if pk l jb ≠ 34 then .error (jb, 240)
              else match textJ l jb with
                | .error e => .error e
                | .ok (s, j2) =>
                  if s ∈ ns then .error (jb, 244)
                  else if pk l (skip l j2) ≠ 58 then .error (skip l j2, 240)
                    else match valueJ l kc (skip l j2 + 1) (dp + 1) t' with
                      | .error e => .error e
                      | .ok (p, j4, t'') => objectJ l kc j4 dp t'' (ks ++ [(p : Int)]) (ns ++ [s]) := by
            rw [HE.out, if_neg HNO.out]
            simp only [← HJB.out]
          have HE2 := Lib.hid he2
          have HC3 := Lib.hid hoc
          clear hj2 hjb hoc l4 he2 HE HNO
          go_wp2_with fail
          refine (peek_any rb A cap tv' l jb (dp + 1) B _ HC3.out.st.r HC3.out.st.b).mono ?_
          rintro e w4 ⟨rfl, hd4⟩
          have HC4 := Lib.hid (HC3.out.drawn hd4)
          clear hd4
          have c1 := HC4.out.st.r.c1
          by_cases h34 : pk l jb = 34
          case neg =>
            have t34 : (((pk l jb).toNat : Int) != 34) = true := ne_test (b := 34) h34
            have H34 := Lib.hid h34
            clear h34
            go_wp2_with fail
            refine (no_any (some ⟨rb, 0, none⟩) jb 240 _).mono ?_
            rintro e w5 ⟨rfl, rfl⟩
            refine ⟨rfl, ?_⟩
            rw [HE2.out, if_pos H34.out]
            exact ⟨rfl, Chg.of_below (HC4.out.below hT hrb) (fun _ _ h => h)⟩
          case pos =>
            have hjl : jb < l.length := pk_nz (by decide) h34
            have t34 : (((pk l jb).toNat : Int) != 34) = false := by rw [h34]; rfl
            have he3 := HE2.out
            rw [if_neg (fun h => h h34)] at he3
            have hbw4 := HC4.out.below hT hrb
            have htx := text_any rb A cap tv' l jb (dp + 1) B w4 HC4.out.st hjl hL (hG.base hB hbw4) (hD.base hB hbw4)
            have HBW := Lib.hid hbw4
            have HTX := Lib.hid htx
            have HE3 := Lib.hid he3
            clear h34 he3 htx HE2 hbw4
            go_wp2_with fail
            cases ht : textJ l jb with
            | error f =>
              have HT := Lib.hid ht
              clear ht
              refine HTX.out.mono ?_
              intro e w5 h5
              unfold TextPost at h5
              rw [HT.out] at h5
              obtain ⟨rfl, hch5⟩ := h5
              refine ⟨rfl, ?_⟩
              rw [HE3.out, HT.out]
              exact ⟨rfl, (Chg.of_below HBW.out (fun _ _ h => h)).trans (hch5.mono fun _ _ h => by omega)⟩
            | ok r =>
              obtain ⟨s, j2⟩ := r
              have hs := textJ_len ht
              have hj2 := textJ_ok ht
              have he4 := HE3.out
              rw [ht] at he4
              have HE4 := Lib.hid he4
              have HT := Lib.hid ht
              clear ht he4 HE3
              refine HTX.out.mono ?_
              intro e w5 h5
              unfold TextPost at h5
              rw [HT.out] at h5
              obtain ⟨rfl, hr5, hch5⟩ := h5
              have HC5 := Lib.hid (HC4.out.mv hr5 hch5)
              have HS : Hid (s.length ≤ maxLen) := by show _ ≤ _; unfold maxLen; omega
              clear hr5 hch5 hs
              by_cases hin : s ∈ ns
              · have hdec : decide (s ∈ ns) = true := decide_eq_true hin
                have HIN := Lib.hid hin
                clear hin
                go_wp2_with (at_lookup; refine wpList_look_set rfl _ _ rfl (w1.heap.size + 1) ns.length ns s rfl rfl HC5.out.mp HS.out true hdec ?_)
                refine (no_any (some ⟨rb, 0, none⟩) jb 244 _).mono ?_
                rintro e w6 ⟨rfl, rfl⟩
                refine ⟨rfl, ?_⟩
                rw [HE4.out]
                simp only [if_pos HIN.out]
                exact ⟨rfl, Chg.of_below (HC5.out.below hT hrb) (fun _ _ h => h)⟩
              · have hdec : decide (s ∈ ns) = false := decide_eq_false hin
                have he5 := HE4.out
                simp only [if_neg hin] at he5
                have HE5 := Lib.hid he5
                clear hin he5 HE4
                have HNL : Hid (ns.length < maxLen) := by
                  show _ < _
                  have h1 := HOB.out.nl; have h2 := HOB.out.kl; have h3 := HOB.out.hi
                  unfold maxLen; omega
                go_wp2_with (first
                  | (at_lookup; refine wpList_look_set rfl _ _ rfl (w1.heap.size + 1) ns.length ns s rfl rfl HC5.out.mp HS.out false hdec ?_)
                  | (at_mapUpdate; refine wpList_put_set rfl _ _ _ rfl (w1.heap.size + 1) ns.length ns s rfl rfl rfl HC5.out.mp HNL.out HS.out ?_; intro w6 hm6 hg6))
                have HC6 := Lib.hid (HC5.out.mark (ms' := ns ++ [s]) hg6 hT hrb hB hst (by rw [List.length_append]; exact hm6))
                clear hm6 hg6
                by_cases h58 : pk l (skip l j2) = 58
                case neg =>
                  have H58 := Lib.hid h58
                  clear h58
                  refine (want_no rb A cap tv' l j2 (dp + 1) B 58 _ HC6.out.st.B HC6.out.st.r HC6.out.st.b H58.out).mono ?_
                  rintro e w7 ⟨rfl, hch7⟩
                  refine ⟨rfl, ?_⟩
                  rw [HE5.out, if_pos H58.out]
                  exact ⟨rfl, (Chg.of_below (HC6.out.below hT hrb) (fun _ _ h => h)).trans (hch7.mono fun _ _ h => by omega)⟩
                case pos =>
                  have H58 := Lib.hid h58
                  have he6 := HE5.out
                  rw [if_neg (fun h => h h58)] at he6
                  have HE6 := Lib.hid he6
                  have hj3 := pk_nz (by decide) h58
                  clear h58 he6 HE5
                  refine (want_yes rb A cap tv' l j2 (dp + 1) B 58 _ HC6.out.st.B (by decide) HC6.out.st.r HC6.out.st.b H58.out).mono ?_
                  rintro e w7 ⟨rfl, hr7, hch7⟩
                  have HC7 := Lib.hid (HC6.out.mv hr7 hch7)
                  clear hr7 hch7
                  obtain ⟨l0, l1, l2, l3, l4, l5⟩ := HC7.out.lv.cells
                  clear l0 l1 l2 l3 l4
                  have hnown := HC7.out.nown
                  have hl7 := HC7.out.lv.lt
                  have l5A : ∀ o, (w7.alloc o).cell? ⟨w1.heap.size, 5, none⟩ = some nv := fun o => (World.cell?_of_block (Below.heap_alloc w7 o _ hl7)).trans l5
                  have HN : Hid (ns.length ≤ 268435456 ∧ w.heap.size ≤ w7.heap.size ∧ nv.ownBlock ≠ some w1.heap.size ∧ w1.heap.size < w7.heap.size) :=
                    ⟨by have h1 := HOB.out.nl; have h2 := HOB.out.kl; have h3 := HOB.out.hi; omega, HC7.out.chg.size, HC7.out.disj.2.2.2.1, hl7⟩
                  clear hl7
                  go_wp2_with
                   (at_builtin; refine wpList_append_lies _ rfl _ _ 45 rfl w.heap.size 9 i1 _ 1 16 Tryz.underlying45 HIS.out.1 HIS.out.2.1 HIS.out.2.2.1 HIS.out.2.2.2 rfl (by omega) nv ns.length (strs ns) rfl (hnown.alloc _)
                      ⟨w7.heap.size, 0, none⟩ 1 1 [.string ⟨s.toArray⟩] rfl rfl (World.news_of_block (cs := #[.string ⟨s.toArray⟩]) (t := 9) (fr := (0, 0)) (heap_alloc_new w7 _)) (by simp [Value.oneCell'])
                      (by omega) (by have := HN.out.1; unfold maxLen; omega) (by have := HN.out.1; omega) (by rw [World.size_alloc]; have := HN.out.2.1; omega) (w7.heap.size + 1) (by simp) ?_
                    intro gg cap' w8 hown8 hgrow hat hlt
                    have fz8 : w8.frozen? ⟨w1.heap.size, 5, none⟩ = false := (hgrow.frozen_far ⟨w1.heap.size, 5, none⟩ (Nat.lt_of_lt_of_le HN.out.2.2.2 (by rw [World.size_alloc]; exact Nat.le_succ _)) (fun e => HN.out.2.2.1 e.symm)).trans (by rw [World.frozen?_of_block (w := w7) (Below.heap_alloc w7 _ _ HN.out.2.2.2)]; exact HC7.out.lv.fz 5)
                    have cz8 : w8.cell? ⟨w1.heap.size, 5, none⟩ = some nv := (hgrow.cell_far ⟨w1.heap.size, 5, none⟩ (Nat.lt_of_lt_of_le HN.out.2.2.2 (by rw [World.size_alloc]; exact Nat.le_succ _)) (fun e => HN.out.2.2.1 e.symm)).trans (l5A _))
                  have hc8 := HC7.out.name (s := s) hT hrb hB hst hown8 hgrow hat
                  clear hown8 hgrow hat hlt fz8 cz8 l5A l5 hnown
                  generalize (Value.slice (some ⟨gg, 0, none⟩) (ns.length + 1) cap') = nv8 at *
                  generalize w8.setCell ⟨w1.heap.size, 5, none⟩ nv8 = wd at *
                  have HC8 := Lib.hid hc8
                  clear hc8 w8
                  have hcall := HIH.out kc (by have := HOB.out.kle; omega) (skip l j2 + 1) (dp + 1) t' tv' (xs ++ xs') wd.drew (by have := HOB.out.fuel; have := skip_ge l j2; omega) hj3 (by have := HOB.out.tl; have := skip_ge l j2; omega) (by omega)
                    ⟨⟨HC8.out.st.r.h⟩, ⟨HC8.out.st.b.len, HC8.out.st.b.cells⟩, HC8.out.st.B, HC8.out.st.c⟩
                    (HC8.out.tr.keep (S := fun _ => False) (Chg.refl _ _).drew (fun _ h => h.elim) (fun _ _ h => h)) (hG.base hB (bl_drew (HC8.out.below hT hrb))) (hD.base hB (bl_drew (HC8.out.below hT hrb)))
                  have l4c : wd.cell? ⟨w1.heap.size, 4, none⟩ = some (.slice Ak ks.length ck) := HC8.out.lv.cells.2.2.2.2.1
                  cases hv : valueJ l kc (skip l j2 + 1) (dp + 1) t' with
                  | error f =>
                    have HV := Lib.hid hv
                    have hcall2 : Calls Tryz.prog 49 #[.pointer (some ⟨rb, 0, none⟩)] wd.drew fun e w' => e = .panicked [{ v := fltV f.1 f.2, recovered := false }] ∧ Chg (fun k => base ≤ k) wd.drew w' :=
                      hcall.mono fun e w' h => by
                        unfold TPost at h; rw [HV.out] at h; exact h
                    have HCALL2 := Lib.hid hcall2
                    clear hv hcall2 hcall
                    go_region_dies
                    all_goals
                      go_at_call 49
                      refine HCALL2.out.mono ?_
                      rintro e w9 ⟨rfl, hch9⟩
                      refine ⟨rfl, ?_⟩
                      rw [HE6.out, HV.out]
                      exact ⟨rfl, ((Chg.of_below (HC8.out.below hT hrb) (fun _ _ h => h)).drew).trans (hch9.mono fun _ _ h => h)⟩
                  | ok r =>
                    obtain ⟨p, j, t2⟩ := r
                    have HGR := Lib.hid ((grew_all l kc).1 _ _ _ _ _ _ hv)
                    have HV := Lib.hid hv
                    have hcall2 : Calls Tryz.prog 49 #[.pointer (some ⟨rb, 0, none⟩)] wd.drew fun e w' => e = .returned (.int .i64 p) ∧ ∃ t3 xs3, OI l rb A cap B base dp tv xs w w1.heap.size (w1.heap.size + 1) j t2 xs3 t3 ks (ns ++ [s]) (ns ++ [s]) (.slice Ak ks.length ck) nv8 w' := by
                      refine hcall.mono fun e w' h => ?_
                      unfold TPost at h; rw [HV.out] at h
                      obtain ⟨he, tv2, xs2, hr3, hT3, hch3, hxs3, htv3⟩ := h
                      exact ⟨he, _, _, HC8.out.call hT hrb hB hst hr3 hT3 ((Chg.refl (SP rb tv') wd).drew.trans hch3) hxs3 htv3⟩
                    have HCALL2 := Lib.hid hcall2
                    have HKL : Hid (ks.length ≤ 268435456) := by have := HOB.out.kl; have := HOB.out.hi; show _ ≤ _; omega
                    clear hv hcall2 hcall
                    go_region_law
                      ((first
                        | (go_simp; go_at_call 49; refine HCALL2.out.mono ?_; rintro e w3 ⟨rfl, t3, xs3, ho3⟩; have HC9 := Lib.hid ho3; have HD := Lib.hid (And.intro ho3.lv.lt (And.intro ho3.disj.2.1 ho3.chg.size)); have hown3 := ho3.kown; have l43 := ho3.lv.cells.2.2.2.2.1; have l43A : ∀ o, (w3.alloc o).cell? ⟨w1.heap.size, 4, none⟩ = some (.slice Ak ks.length ck) := fun o => (World.cell?_of_block (Below.heap_alloc w3 o _ ho3.lv.lt)).trans l43; clear ho3)
                        | (refine step_append_lies _ (by rfl) _ _ _ (by rfl) w.heap.size 3 i0 _ 1 8 Tryz.underlying44 HI.out.1 HI.out.2.1 HI.out.2.2.1 HI.out.2.2.2 rfl (by omega) (.slice Ak ks.length ck) ks.length (ints ks) (by rfl) (hown3.alloc _)
                            ⟨w3.heap.size, 0, none⟩ 1 1 [.int .i64 p] (by rfl) (by rfl) (World.news_of_block (cs := #[.int .i64 p]) (t := 3) (fr := (0, 0)) (heap_alloc_new w3 _)) (by simp [Value.oneCell'])
                            (by omega) (by have := HKL.out; unfold maxLen; omega) (by have := HKL.out; omega) (by have := HD.out.2.2; rw [World.size_alloc]; omega) (w3.heap.size + 1) (by simp) ?_
                           intro gg cap' w4 hown4 hgrow hat hlt
                           have fz4 : w4.frozen? ⟨w1.heap.size, 4, none⟩ = false := (hgrow.frozen_far ⟨w1.heap.size, 4, none⟩ (Nat.lt_of_lt_of_le HD.out.1 (by rw [World.size_alloc]; exact Nat.le_succ _)) (fun e => HD.out.2.1 e.symm)).trans (by rw [World.frozen?_of_block (w := w3) (Below.heap_alloc w3 _ _ HD.out.1)]; exact HC9.out.lv.fz 4)
                           have cz4 : w4.cell? ⟨w1.heap.size, 4, none⟩ = some (.slice Ak ks.length ck) := (hgrow.cell_far ⟨w1.heap.size, 4, none⟩ (Nat.lt_of_lt_of_le HD.out.1 (by rw [World.size_alloc]; exact Nat.le_succ _)) (fun e => HD.out.2.1 e.symm)).trans (l43A _))))
                    all_goals
                      have hnx := HC9.out.kid hT hrb hB hst hown4 hgrow hat
                      have hob := HOB.out.next (s := s) (by have := skip_ge l j2; omega) HGR.out (by rw [HE6.out, HV.out])
                      have hjj : l.length - j + 1 < l.length - i' + 1 := by have := HGR.out.1; have := HGR.out.2.1; have := skip_ge l j2; omega
                      have HNX := Lib.hid (And.intro hnx hob)
                      clear hnx hob hgrow hown4 fz4 cz4 hat hlt hown3 l43 l43A
                      go_wp2_with fail
                      go_roundg (l.length - j + 1)
                      case measure => omega
                      case rel => exact ⟨kc, j, t2, xs3, t3, ks ++ [(p : Int)], ns ++ [s], _, _, HNX.out.1, HNX.out.2, by omega⟩
end Go.Proofs.YtknmbfkpclacgaaGreatDoor
