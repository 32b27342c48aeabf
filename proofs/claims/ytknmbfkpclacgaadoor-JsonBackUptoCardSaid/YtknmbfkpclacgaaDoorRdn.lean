/- json.Parse: the walk. -/
import Derived.Test.YtknmbfkpclacgaaDoorRdm
set_option linter.unusedSimpArgs false
namespace Go.Proofs.YtknmbfkpclacgaaDoor
open Go.RowKit

theorem VRs.mono {base base' : Nat} (hb : base' ≤ base) {w : World} : ∀ {xs : List VC} {vs : List JV}, VRs base w xs vs → VRs base' w xs vs
  | [], [], _ => trivial
  | _ :: _, _ :: _, h => ⟨⟨h.1.kind, h.1.truth, h.1.n, h.1.text, own_mono h.1.kids hb, own_mono h.1.names hb⟩, VRs.mono hb h.2⟩
  | [], _ :: _, h => h.elim
  | _ :: _, [], h => h.elim
theorem TR.mono {base base' : Nat} {w : World} {tv : Value} {xs : List VC} {t : List JV} (h : TR base w tv xs t) (hb : base' ≤ base) : TR base' w tv xs t := ⟨own_mono h.own hb, h.vals.mono hb, h.nodup⟩
/-- What a call of Parse does. -/
def PPost (l : List UInt8) (w : World) (e : Ending) (w' : World) : Prop :=
  match parseJ l with
  | .ok t => ∃ tv xs, e = .returned (.tuple #[tv, .int .i64 0, .int .i64 0]) ∧ TR w.heap.size w' tv xs t ∧ Chg (fun _ => False) w w'
  | .error f => e = .returned (.tuple #[.slice none 0 0, .int .i64 f.1, .int .i64 f.2]) ∧ Chg (fun _ => False) w w'

set_option maxRecDepth 100000 in
set_option maxHeartbeats 4000000 in
theorem parse_any (A : Option Addr) (cap : Nat) (l : List UInt8) (w : World) (hb : Bs w w.heap.size A l) (hcap : l.length ≤ cap) (hG : LetOk w w.heap.size) (hD : BadOk w w.heap.size) :
    Calls Tryd.prog 9 #[.slice A l.length cap] w (PPost l w) := by
  have hmf : ∀ (fn : Fn) (first cap : Array Value) (w : World), (Instr.makeFunc fn first cap).run Tryd.prog w = .ok (.func fn first cap) w := fun _ _ _ _ => rfl
  by_cases hlen : 268435456 < l.length
  · have hp : parseJ l = .error (268435456, 5) := by unfold parseJ; rw [if_pos hlen]
    have HP := Lib.hid hp
    have hl : (268435456 : Int) < (l.length : Int) := by omega
    clear hlen hp hb hG hD
    generalize hN : l.length = N at *
    generalize hR : PPost l w = R
    go_enter_defers Tryd.func9, Tryd.ntmps9
    go_wp2_with fail
    simp [bodyPostD, Leaves, settle, results, Tryd.results9, go_sem]
    rw [← hR]
    unfold PPost
    rw [HP.out]
    exact ⟨rfl, (((Chg.refl _ w).alloc _).alloc _).alloc _⟩
  · have HL := Lib.hid hlen
    have hl : ¬ (268435456 : Int) < (l.length : Int) := by omega
    clear hlen
    generalize hR : PPost l w = R
    have HR := Lib.hid hR
    clear hR
    go_enter_defers Tryd.func9, Tryd.ntmps9
    go_wp2_with fail
    generalize hW3 : ((w.alloc (.cells #[.slice none 0 0] 27)).alloc (.cells #[.int .i64 0] 3)).alloc (.cells #[.int .i64 0] 23) = W3
    have hs3 : W3.heap.size = w.heap.size + 3 := by rw [← hW3]; simp
    have hc3 : Chg (fun _ => False) w W3 := by rw [← hW3]; exact (((Chg.refl _ w).alloc _).alloc _).alloc _
    have q1 : W3.heap[w.heap.size]? = some (.cells #[.slice none 0 0] 27) := by
      rw [← hW3, Below.heap_alloc _ _ _ (by simp; omega), Below.heap_alloc _ _ _ (by simp)]; exact heap_alloc_new w _
    have q2 : W3.heap[w.heap.size + 1]? = some (.cells #[.int .i64 0] 3) := by
      rw [← hW3, Below.heap_alloc _ _ _ (by simp)]
      have h := heap_alloc_new (w.alloc (.cells #[.slice none 0 0] 27)) (.cells #[.int .i64 0] 3)
      rw [World.size_alloc] at h
      exact h
    have q3 : W3.heap[w.heap.size + 1 + 1]? = some (.cells #[.int .i64 0] 23) := by
      rw [← hW3]
      have h := heap_alloc_new ((w.alloc (.cells #[.slice none 0 0] 27)).alloc (.cells #[.int .i64 0] 3)) (.cells #[.int .i64 0] 23)
      rw [World.size_alloc, World.size_alloc] at h
      exact h
    clear hW3
    have hb3 : Below w.heap.size w W3 := hc3.below (Nat.le_refl _) (fun _ h => h.elim)
    generalize hW4 : W3.alloc (.cells #[.slice A l.length cap, .int .i64 0, .int .i64 0, .slice none 0 0] 54) = W4
    have hc4 : Chg (fun _ => False) W3 W4 := by rw [← hW4]; exact (Chg.refl _ _).alloc _
    have hb4 : Below w.heap.size w W4 := (hc3.trans hc4).below (Nat.le_refl _) (fun _ h => h.elim)
    have hr4 : Rd W4 (w.heap.size + 1 + 1 + 1) (.slice A l.length cap) 0 0 (.slice none 0 0) := ⟨by
      rw [← hW4]
      have h := heap_alloc_new W3 (.cells #[.slice A l.length cap, .int .i64 0, .int .i64 0, .slice none 0 0] 54)
      rw [hs3] at h
      exact h⟩
    have hst4 : St W4 w.heap.size (w.heap.size + 1 + 1 + 1) A cap l 0 0 (.slice none 0 0) := ⟨hr4, hb.keep hb4, by omega, hcap⟩
    have hT4 : TR (w.heap.size + 1 + 1 + 1) W4 (.slice none 0 0) [] [] := ⟨⟨rfl, .inl ⟨rfl, rfl⟩⟩, trivial, by simp [tb]⟩
    have hcall := value_all l (w.heap.size + 1 + 1 + 1) A cap w.heap.size (w.heap.size + 1 + 1 + 1) (Nat.le_refl _) (by omega) (by have := HL.out; omega) (2 * l.length + 3) 0 0 [] (.slice none 0 0) [] W4 (by omega) (by omega) (by simp) (by omega) hst4 hT4 (hG.keep hb4) (hD.keep hb4)
    have HB4 := Lib.hid (And.intro hst4 hb4)
    have hrn := hr4.lt
    clear hW4 hr4 hst4 hT4 hb4 hb3
    cases hv : valueJ l (2 * l.length + 3) 0 0 [] with
    | error f =>
      rw [hv] at hcall
      have hp : parseJ l = .error f := by unfold parseJ; rw [if_neg HL.out, hv]
      have HP := Lib.hid hp
      have HCALL := Lib.hid hcall
      clear hv hp hcall
      refine HCALL.out.mono ?_
      rintro e w5 ⟨rfl, hch5⟩
      have hx : Chg (fun k => w.heap.size + 1 + 1 + 1 ≤ k) W3 w5 := (hc4.mono fun _ _ h => h.elim).trans hch5
      have g1 := hx.obj q1 (by omega)
      have g2 := hx.obj q2 (by omega)
      have g3 := hx.obj q3 (by omega)
      have hcx : Chg (fun _ => False) w w5 := hc3.andThen hx (fun k hk h => by omega)
      have hcat := catch_fault w.heap.size (w.heap.size + 1) (w.heap.size + 1 + 1) f.1 f.2 (.slice none 0 0) 0 0 [] w5 (by simp [World.cell?, g1]) (by simp [World.frozen?, g1]) (by simp [World.cell?, g2]) (by simp [World.frozen?, g2]) (by simp [World.cell?, g3]) (by simp [World.frozen?, g3]) (by omega) (by omega) (by omega)
      have HX := Lib.hid (And.intro hcx hcat)
      clear hx g1 g2 g3 hcx hcat
      refine leaves_cons (f := 18) (args := #[.pointer (some ⟨w.heap.size, 0, none⟩), .pointer (some ⟨w.heap.size + 1, 0, none⟩), .pointer (some ⟨w.heap.size + 1 + 1, 0, none⟩)]) (by simp) (by simp [go_sem]) ?_
      refine HX.out.2.mono ?_
      rintro e u' w9 ⟨rfl, rfl, z1, z2, z3, hch9⟩
      unfold fltV
      simp [Leaves, settle, results, Tryd.results9, go_sem, z1, z2, z3]
      rw [← HR.out]
      unfold PPost
      rw [HP.out]
      exact ⟨rfl, HX.out.1.andThen hch9 (fun k hk h => by omega)⟩
    | ok r =>
      obtain ⟨p, j, t⟩ := r
      rw [hv] at hcall
      have hgr := (grew_all l _).1 _ _ _ _ _ _ hv
      have hp : parseJ l = if skip l j < l.length then .error (skip l j, 240) else .ok t := by unfold parseJ; rw [if_neg HL.out, hv]
      have HP0 := Lib.hid hp
      have HGR := Lib.hid hgr
      have HCALL := Lib.hid hcall
      clear hv hp hcall hgr
      refine HCALL.out.mono ?_
      rintro e w5 ⟨rfl, tv5, xs5, hr5, hT5, hch5, hxs5, htv5⟩
      rw [List.nil_append] at hT5
      have hch5' : Chg (fun k => w.heap.size + 1 + 1 + 1 ≤ k) W4 w5 := hch5.mono fun k _ h => by
        rcases h with rfl | h
        · exact Nat.le_refl _
        · simp [Value.ownBlock] at h
      have hst5 : St w5 w.heap.size (w.heap.size + 1 + 1 + 1) A cap l j 0 tv5 := ⟨hr5, HB4.out.1.b.keep (hch5'.below (by omega) (fun k h => by omega)), by omega, hcap⟩
      have HS5 := Lib.hid (And.intro hst5 (And.intro hT5 hch5'))
      clear hr5 hT5 hch5 hch5' hst5 hxs5 htv5
      go_wp2_with fail
      refine (blanks_any (w.heap.size + 1 + 1 + 1) A cap tv5 l j 0 w.heap.size _ HS5.out.1.B HS5.out.1.r HS5.out.1.b).mono ?_
      rintro e w6 ⟨rfl, hr6, hch6⟩
      have c1 := hr6.c1
      have hT6 := HS5.out.2.1.rb HS5.out.1.r hch6
      have HS6 := Lib.hid (And.intro hr6 (And.intro hT6 (HS5.out.2.2.trans (hch6.mono fun _ _ h => by omega))))
      clear hr6 hT6 hch6
      by_cases hend : skip l j < l.length
      · have hp : parseJ l = .error (skip l j, 240) := by rw [HP0.out, if_pos hend]
        have hlt : ((skip l j : Nat) : Int) < (l.length : Int) := by omega
        have HP := Lib.hid hp
        clear hend hp
        go_wp2_with fail
        refine (no_any (some ⟨w.heap.size + 1 + 1 + 1, 0, none⟩) (skip l j) 240 _).mono ?_
        rintro e w7 ⟨rfl, rfl⟩
        have hx : Chg (fun k => w.heap.size + 1 + 1 + 1 ≤ k) W3 w7 := (hc4.mono fun _ _ h => h.elim).trans HS6.out.2.2
        have g1 := hx.obj q1 (by omega)
        have g2 := hx.obj q2 (by omega)
        have g3 := hx.obj q3 (by omega)
        have hcx : Chg (fun _ => False) w w7 := hc3.andThen hx (fun k hk h => by omega)
        have hcat := catch_fault w.heap.size (w.heap.size + 1) (w.heap.size + 1 + 1) (skip l j) 240 (.slice none 0 0) 0 0 [] w7 (by simp [World.cell?, g1]) (by simp [World.frozen?, g1]) (by simp [World.cell?, g2]) (by simp [World.frozen?, g2]) (by simp [World.cell?, g3]) (by simp [World.frozen?, g3]) (by omega) (by omega) (by omega)
        have HX := Lib.hid (And.intro hcx hcat)
        clear hx g1 g2 g3 hcx hcat
        refine leaves_cons (f := 18) (args := #[.pointer (some ⟨w.heap.size, 0, none⟩), .pointer (some ⟨w.heap.size + 1, 0, none⟩), .pointer (some ⟨w.heap.size + 1 + 1, 0, none⟩)]) (by simp) (by simp [go_sem]) ?_
        refine HX.out.2.mono ?_
        rintro e u' w9 ⟨rfl, rfl, z1, z2, z3, hch9⟩
        unfold fltV
        simp [Leaves, settle, results, Tryd.results9, go_sem, z1, z2, z3]
        rw [← HR.out]
        unfold PPost
        rw [HP.out]
        exact ⟨rfl, HX.out.1.andThen hch9 (fun k hk h => by omega)⟩
      · have hp : parseJ l = .ok t := by rw [HP0.out, if_neg hend]
        have hlt : ¬ ((skip l j : Nat) : Int) < (l.length : Int) := by omega
        have HP := Lib.hid hp
        obtain ⟨At, ct, rfl⟩ := own_form HS6.out.2.1.own
        have c3 := HS6.out.1.c3
        have hx : Chg (fun k => w.heap.size + 1 + 1 + 1 ≤ k) W3 w6 := (hc4.mono fun _ _ h => h.elim).trans HS6.out.2.2
        have g1 := hx.obj q1 (by omega)
        have g2 := hx.obj q2 (by omega)
        have g3 := hx.obj q3 (by omega)
        have a1 : w6.cell? ⟨w.heap.size, 0, none⟩ = some (.slice none 0 0) := by simp [World.cell?, g1]
        have b1 : w6.frozen? ⟨w.heap.size, 0, none⟩ = false := by simp [World.frozen?, g1]
        have a2 : w6.cell? ⟨w.heap.size + 1, 0, none⟩ = some (.int .i64 0) := by simp [World.cell?, g2]
        have b2 : w6.frozen? ⟨w.heap.size + 1, 0, none⟩ = false := by simp [World.frozen?, g2]
        have a3 : w6.cell? ⟨w.heap.size + 1 + 1, 0, none⟩ = some (.int .i64 0) := by simp [World.cell?, g3]
        have b3 : w6.frozen? ⟨w.heap.size + 1 + 1, 0, none⟩ = false := by simp [World.frozen?, g3]
        have HX := Lib.hid hx
        clear hend hp hx g1 g2 g3
        go_wp2_with fail
        refine leaves_cons (f := 18) (args := #[.pointer (some ⟨w.heap.size, 0, none⟩), .pointer (some ⟨w.heap.size + 1, 0, none⟩), .pointer (some ⟨w.heap.size + 1 + 1, 0, none⟩)]) (by simp) (by simp [go_sem]) ?_
        refine (catch_idle ⟨w.heap.size, 0, none⟩ ⟨w.heap.size + 1, 0, none⟩ ⟨w.heap.size + 1 + 1, 0, none⟩ _).mono ?_
        rintro e u' w9 ⟨rfl, rfl, rfl⟩
        have z1 : (((w6.setCell ⟨w.heap.size, 0, none⟩ (.slice At t.length ct)).setCell ⟨w.heap.size + 1, 0, none⟩ (.int .i64 0)).setCell ⟨w.heap.size + 1 + 1, 0, none⟩ (.int .i64 0)).cell? ⟨w.heap.size, 0, none⟩ = some (.slice At t.length ct) := by go_simp
        have z2 : (((w6.setCell ⟨w.heap.size, 0, none⟩ (.slice At t.length ct)).setCell ⟨w.heap.size + 1, 0, none⟩ (.int .i64 0)).setCell ⟨w.heap.size + 1 + 1, 0, none⟩ (.int .i64 0)).cell? ⟨w.heap.size + 1, 0, none⟩ = some (.int .i64 0) := by go_simp
        have z3 : (((w6.setCell ⟨w.heap.size, 0, none⟩ (.slice At t.length ct)).setCell ⟨w.heap.size + 1, 0, none⟩ (.int .i64 0)).setCell ⟨w.heap.size + 1 + 1, 0, none⟩ (.int .i64 0)).cell? ⟨w.heap.size + 1 + 1, 0, none⟩ = some (.int .i64 0) := by go_simp
        have hc9 : Chg (fun b => b = w.heap.size ∨ b = w.heap.size + 1 ∨ b = w.heap.size + 1 + 1) w6 (((w6.setCell ⟨w.heap.size, 0, none⟩ (.slice At t.length ct)).setCell ⟨w.heap.size + 1, 0, none⟩ (.int .i64 0)).setCell ⟨w.heap.size + 1 + 1, 0, none⟩ (.int .i64 0)) :=
          (((Chg.refl _ w6).setCell (p := ⟨w.heap.size, 0, none⟩) (fun _ => .inl rfl) _).setCell (p := ⟨w.heap.size + 1, 0, none⟩) (fun _ => .inr (.inl rfl)) _).setCell (p := ⟨w.heap.size + 1 + 1, 0, none⟩) (fun _ => .inr (.inr rfl)) _
        generalize (((w6.setCell ⟨w.heap.size, 0, none⟩ (.slice At t.length ct)).setCell ⟨w.heap.size + 1, 0, none⟩ (.int .i64 0)).setCell ⟨w.heap.size + 1 + 1, 0, none⟩ (.int .i64 0)) = W9 at *
        simp [Leaves, settle, results, Tryd.results9, go_sem, z1, z2, z3]
        rw [← HR.out]
        unfold PPost
        rw [HP.out]
        have hT9 := HS6.out.2.1.keepB hc9 (fun b hb h => by have := (HS6.out.2.1.vals.lt b hb).2.1; omega) (fun b hb h => by have := own_ge HS6.out.2.1.own b hb; omega)
        refine ⟨_, xs5, rfl, hT9.mono (by omega), ?_⟩
        exact (hc3.andThen HX.out (fun k hk h => by omega)).andThen hc9 (fun k hk h => by omega)
end Go.Proofs.YtknmbfkpclacgaaDoor
