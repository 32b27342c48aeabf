import Derived.Test.YtknmbfkpclacgaaGreatDoorMPa17
import Derived.Test.YtknmbfkpclacgaaGreatDoorMPa18
import Derived.Test.YtknmbfkpclacgaaGreatDoorMPaVo
import Derived.Test.YtknmbfkpclacgaaGreatDoorCards
import Derived.Test.YtknmbfkpclacgaaGreatDoorTie
import Derived.ProofKit
import Derived.LaidMore
import Derived.OpenShut
import Derived.SizedLaws
import Derived.Stop.Joined
import Derived.Carry
/- JsonParses: the law returns true for every row of bytes; no condition: the laid variables are tied to the program's text. -/
set_option linter.unusedSimpArgs false
namespace Go.Proofs.YtknmbfkpclacgaaGreatDoor.jsonParses
open Go.ChangeShapes Go.WideShapes Go.ChangeAt Go.WideMaps Go.WideElems Go.RowKit

theorem laidOut : laidOutB Tryz.prog = true := by kernel_rfl
theorem own : ownKnob Tryz.prog.godebug = none := by kernel_rfl
theorem bytes8 : Tryz.prog.bytesOf 5 = 1 := by kernel_rfl

/-- The door's own heap meets the condition. -/
theorem door_met (os : Os) (args : Array Value) : laidMetH Tryz.prog laidList ((World.doorLaid Tryz.prog 400 os).forCall (fun _ _ => 0) ⟨#[], args, []⟩).memory :=
  laidMetH_of_parts3 (fuel := 8) (laidMet_of_run' 8 (by kernel_rfl) (by kernel_rfl)) (by kernel_rfl) (by kernel_rfl)

/-- The bytes that the law is handed. -/
theorem open_bytes {H : Type} {enc : TypeId × Value → H} {W : World} {base : Nat} {sp : Nat → Bool} {held : Bool} {fuel : Nat} {v : Value} {x : DataW H × List MemPlace} (h : DataW.trod enc Tryz.prog W base sp held fuel 22 [v] = some x)
    (hsz : ∀ elems spare, x.1 = .slice elems spare → elems.length ≤ 140737488355327) :
    ∃ (A : Option Addr) (c : Nat) (l : List UInt8), v = .slice A l.length c ∧ Bs W W.heap.size A l ∧ l.length ≤ c ∧ (A = none → c = 0) ∧ l.length ≤ 140737488355327 := by
  rcases open_ints Tryz.underlying22 Tryz.underlying5 (by kernel_rfl) h with ⟨h1, rfl⟩ | ⟨a, len, cap, zs, h1, hb, hlc, hcm, hzl, rfl, hcell, hwf⟩
  · simp only [List.cons.injEq, and_true] at h1
    subst h1
    exact ⟨none, 0, [], rfl, ⟨by simp, fun hp => by simp at hp⟩, by simp, fun _ => rfl, by simp⟩
  · simp only [List.cons.injEq, and_true] at h1
    subst h1
    have hle : len ≤ zs.length := by rw [hzl]; split <;> omega
    have hs := hsz _ _ rfl
    have htl : (zs.take len).length = len := by rw [List.length_take]; omega
    have hlt : len ≤ 140737488355327 := by
      have : (lits (H := H) .u8 (zs.take len)).length = len := by simp only [lits, List.length_map]; exact htl
      omega
    have hl : ((zs.take len).map fun n => UInt8.ofNat n.toNat).length = len := by rw [List.length_map, htl]
    refine ⟨some a, cap, (zs.take len).map fun n => UInt8.ofNat n.toNat, by rw [hl], ⟨by rw [hl]; omega, fun hp => ?_⟩, by rw [hl]; exact hlc, fun h => (nomatch h), by rw [hl]; exact hlt⟩
    rw [hl] at hp
    have h0 := hcell 0 (by omega)
    have ha := cell_plain h0
    have e0 : a.add 0 = a := by simp [Addr.add]
    rw [e0] at ha
    refine ⟨a.block, a.off, by rw [← ha.1], ha.2, fun j hj => ?_⟩
    rw [hl] at hj
    have hc := hcell j (by omega)
    rw [ha.1, add_at] at hc
    rw [hc]
    have hz : zs.getD j 0 = zs[j]'(by omega) := by simp [List.getD_eq_getElem?_getD, List.getElem?_eq_getElem (show j < zs.length by omega)]
    have hw := hwf _ (List.getElem_mem (show j < zs.length by omega))
    have hp2 : pk ((zs.take len).map fun n => UInt8.ofNat n.toNat) j = UInt8.ofNat (zs[j]'(by omega)).toNat := by
      simp [pk, List.getD_eq_getElem?_getD, List.getElem?_take, hj, List.getElem?_eq_getElem (show j < zs.length by omega)]
    rw [hz, hp2]
    generalize zs[j]'(by omega) = z at hw ⊢
    have hw2 : 0 ≤ z ∧ z ≤ 255 := by simpa [Lit.wf, IntKind.min, IntKind.max, IntKind.signed, IntKind.bits] using hw
    have h8 : ((UInt8.ofNat z.toNat).toNat : Int) = z := by
      have : (UInt8.ofNat z.toNat).toNat = z.toNat % 256 := by simp
      rw [this]
      omega
    rw [h8]

set_option maxRecDepth 100000 in
theorem lifted (os : Os) (started : os.Started) (H : Type) (enc : TypeId × Value → H) :
    ReturnsInHanded {} Tryz.checked os 3 .any (fun w args => (Rows.jsonParsesSpec.pre enc Tryz.prog Tryz.f3 [] false w args ∧ laidMetH Tryz.prog laidList w) ∧ sizedMet enc Tryz.prog Tryz.f3 (OpenSpec.ofChange Rows.jsonParsesSpec) false w args)
      (Rows.jsonParsesSpec.post enc Tryz.prog Tryz.f3 false true false false) := by
  refine returnsInHanded_of_change_and (C := Tryz.checked) (X := fun w _ => laidMetH Tryz.prog laidList w) (fun _ _ _ hh h => h.of_heap hh) own started (by kernel_rfl) Tryz.func3
    (ChangeSpec.witness_shaped (enc := enc) (C := Tryz.checked) (os := os) (X := fun w _ => laidMetH Tryz.prog laidList w) false (World.doorLaid Tryz.prog 400 os) #[.slice none 0 0] 8 rfl (World.shaped_of_RefB (by kernel_rfl) (by kernel_rfl)) (by kernel_rfl) (by kernel_rfl) (by kernel_rfl) (door_met os _)) ?_
  intro W base args ds gs before hval0 hW _ hsz hL _
  have hval : ∀ (j : Nat) t v, Tryz.f3.params[j]? = some t → args[j]? = some v → Value.okWide Tryz.prog W .any base t v := hval0
  have hW' := hW
  obtain ⟨p, q, hA0, hV, rfl, hfz, hnd⟩ := hW
  have hA : DataW.TrodAll enc Tryz.prog W 0 (fun _ => true) true Tryz.f3.params.toList args.toList ds p := hA0
  rw [Tryz.params3] at hA hval hsz
  obtain ⟨v0, d0, rfl, rfl, h0⟩ := trodAll_one hA
  obtain ⟨rfl, rfl⟩ := trodVars_none hV
  have h0k := h0
  obtain ⟨fuel, hf⟩ := h0
  obtain ⟨a0, l0, c0, rfl⟩ := okWide_slice Tryz.underlying22 (hval 0 22 v0 rfl rfl)
  clear hA0 hval0
  simp only [List.append_nil] at hW'
  have hlt : ∀ x ∈ p, x.block < W.heap.size := fun x hx => by simpa using hW'.lt x hx
  obtain ⟨A, c, l, hv, hb, hlc, hnil, hll⟩ := open_bytes (show DataW.trod enc Tryz.prog W 0 (fun _ => true) true fuel 22 [.slice a0 l0 c0] = some (d0, p) from hf) (fun elems spare he => by
    have he' : d0 = .slice elems spare := he
    subst he'
    have := sized_slice hsz (j := 0) (t := 22) (e := 5) rfl rfl Tryz.underlying22
    rw [show Tryz.checked.prog.bytesOf 5 = 1 from bytes8] at this
    unfold reachBytes at this
    omega)
  rw [hv] at h0k hW' ⊢
  refine (parses_walk A c l W hb hlc hnil (gs_of_laid hL) hll).mono fun e W' ⟨he, hg⟩ => ?_
  subst he
  have hbl := hg.below (Nat.le_refl _) (fun _ h => h.elim)
  exact ⟨_, rfl, [d0], [], p, [], p, [], hW', (trodAll_cons_mk (shut_bool Tryz.underlying4 _) trodAll_mk0), trodAll_mk1 (Below.trod laidOut (by kernel_rfl) (of_decide_eq_true (by kernel_rfl)) h0k hbl hlt), rfl, hbl.frame _, fun h => by cases h⟩

theorem an {a b : Bool} (x : a = true) (y : b = true) : (a && b) = true := by rw [x, y]; rfl
theorem f_laid : (laidOutB Tryz.pinned.checked.prog) = true := by kernel_rfl
theorem f_rowed : (mapsRowed Tryz.pinned.checked.prog) = true := by kernel_rfl
theorem f_stops : ((Tryz.pinned.checked.prog.stops == [])) = true := by kernel_rfl
theorem f_knobs : ((Tryz.pinned.checked.prog.stopKnobs == [])) = true := by kernel_rfl
theorem f_inPlace : ((Rows.jsonParsesRow.inPlace == Tryz.pinned.checked.prog.inPlace 3)) = true := by kernel_rfl
theorem f_unf : ((Rows.jsonParsesRow.unfollowed == Tryz.pinned.checked.prog.unfollowed 3)) = true := by kernel_rfl
theorem f_rec : ((Rows.jsonParsesRow.recurses == Tryz.pinned.checked.prog.recurses 3)) = true := by kernel_rfl
theorem f_named : ((Rows.jsonParsesRow.named == Tryz.pinned.checked.prog.varsNamed 3)) = true := by kernel_rfl
theorem f_keys : ((Rows.jsonParsesRow.plainKeys == Tryz.pinned.checked.prog.plainKeys)) = true := by kernel_rfl
theorem f_heard : (Tryz.pinned.checked.prog.stopsHeard) = true := by kernel_rfl
theorem f_enter : (Tryz.pinned.checked.prog.mayEnter) = true := by kernel_rfl
theorem f_lifts : ((Rows.jsonParsesRow.lifted == Tryz.pinned.checked.prog.liftsFinal)) = true := by kernel_rfl
theorem f_make : ((Tryz.pinned.checked.prog.make == some Rows.jsonParsesRow.make)) = true := by kernel_rfl
theorem closed : joinedFacts Tryz.pinned.checked.prog 3 Tryz.f3 Rows.jsonParsesSpec Rows.jsonParsesRow = true := by
  unfold joinedFacts
  exact (an (an (an (an (an (an (an (an (an (an (an (an (an (an (an (an (an (an (an (an (an (an (an (an (an (an (an (an (an (an (an (by kernel_rfl) f_laid) f_rowed) (by kernel_rfl)) (by kernel_rfl)) (by kernel_rfl)) f_stops) (by kernel_rfl)) f_knobs) f_inPlace) f_unf) f_rec) f_named) (by kernel_rfl)) (by kernel_rfl)) (by kernel_rfl)) (by kernel_rfl)) (by kernel_rfl)) (by kernel_rfl)) (by kernel_rfl)) (by kernel_rfl)) (by kernel_rfl)) f_keys) (by kernel_rfl)) f_heard) f_enter) f_lifts) f_make) (by kernel_rfl)) (by kernel_rfl)) (by kernel_rfl)) (by kernel_rfl))

theorem said : Rows.JsonParsesSaid :=
  OpenClaim.holds_of_wide 3 Tryz.f3 rfl rfl rfl rfl rfl rfl rfl ⟨rfl, rfl, rfl, rfl, rfl⟩ rfl rfl rfl rfl rfl (by kernel_rfl) Tryz.func3 closed
    (of_decide_eq_true (by kernel_rfl)) (by unfold Func.isWrapper; first | (rw [if_pos (by decide +kernel)]; kernel_rfl) | (rw [if_neg (by decide +kernel)]; exact ⟨rfl, rfl⟩))
    (fun os started H enc _ => lifted os started H enc)

theorem plain (f : FuncId) (fn : Func) (hf : Tryz.pinned.checked.prog.funcNamed "galley/galleylaw24.JsonParses" = some f) (hfn : Tryz.pinned.checked.prog.funcs[f]? = some fn) :
    true = Tryz.pinned.checked.prog.looks [] ∧ ∀ (j : Nat) t, fn.params[j]? = some t → Tryz.pinned.checked.prog.wantsStandIn t = false := by
  obtain rfl : f = 3 := Option.some.inj ((show Tryz.prog.funcNamed "galley/galleylaw24.JsonParses" = some 3 by kernel_rfl).symm.trans hf) |>.symm
  obtain rfl : fn = Tryz.f3 := (Option.some.inj (Tryz.func3.symm.trans hfn)).symm
  refine ⟨by kernel_rfl, fun j t ht => ?_⟩
  rw [Tryz.params3] at ht
  obtain rfl : t = 22 := by simpa using Array.mem_of_getElem? ht
  exact (show Tryz.prog.wantsStandIn 22 = false by kernel_rfl)

/-- ████ THE STATEMENT ████ -/
theorem proved : Rows.JsonParsesCardSaid :=
  Claim7.holds_tied_plain_at .later [] _ _ _ _ said (fun _ h => by cases h) (by kernel_rfl) (fun _ h => by cases h) jsonParses_row_tie rfl ⟨rfl, rfl⟩ (by kernel_rfl) rfl plain (by kernel_rfl)
#print axioms proved
end Go.Proofs.YtknmbfkpclacgaaGreatDoor.jsonParses
