import Derived.Test.YtknmbfkpclacgaaGreatDoorMQu17
import Derived.Test.YtknmbfkpclacgaaGreatDoorMQu18
import Derived.Test.YtknmbfkpclacgaaGreatDoorMQu21
import Derived.Test.YtknmbfkpclacgaaGreatDoorCards
import Derived.Test.YtknmbfkpclacgaaGreatDoorTie
import Derived.ProofKit
import Derived.LaidMore
import Derived.OpenShut
import Derived.Stop.Joined
import Derived.Deep.DeepHandedRow
import Derived.Deep.DeepWitnessRowRef
import Derived.Carry
/- JsonQuotes: the law returns true for every two strings of bulk at most 1048576 together; the laid variables are tied to the program's text. -/
set_option linter.unusedSimpArgs false
namespace Go.Proofs.YtknmbfkpclacgaaGreatDoor.jsonQuotes
open Go.ChangeShapes Go.WideShapes Go.ChangeAt Go.WideMaps Go.WideElems Go.RowKit

theorem laidOut : laidOutB Tryz.prog = true := by kernel_rfl
theorem own : ownKnob Tryz.prog.godebug = none := by kernel_rfl
theorem door_met (os : Os) (args : Array Value) : laidMetH Tryz.prog laidList ((World.doorLaid Tryz.prog 400 os).forCall (fun _ _ => 0) ⟨#[], args, []⟩).memory :=
  laidMetH_of_parts3 (fuel := 8) (laidMet_of_run' 8 (by kernel_rfl) (by kernel_rfl)) (by kernel_rfl) (by kernel_rfl)
theorem reads (os : Os) {H : Type} (enc : TypeId × Value → H) : ∃ places, DataW.whole enc Tryz.prog ((World.doorLaid Tryz.prog 400 os).forCall (fun _ _ => 0) ⟨#[], #[.string ⟨#[]⟩, .string ⟨#[]⟩], []⟩).memory Tryz.f5.params.toList Rows.jsonQuotesSpec.vars false #[Value.string ⟨#[]⟩, .string ⟨#[]⟩].toList 8 = some ([.lit (.string []), .lit (.string [])], [], places) :=
  ⟨[], by kernel_rfl⟩

set_option maxRecDepth 100000 in
theorem liftedUpto (os : Os) (started : os.Started) (H : Type) (enc : TypeId × Value → H) (F : Stop.Interp) :
    ReturnsInHanded {} Tryz.checked os 5 .any ((Rows.OpenSpec.upto Rows.jsonQuotesSpec).preRow enc Tryz.prog Tryz.f5 Rows.jsonQuotesUptoRow.domain false Rows.jsonQuotesUptoRow.laid) (((Rows.OpenSpec.upto Rows.jsonQuotesSpec).at F).post enc Tryz.prog Tryz.f5 false true false false) := by
  obtain ⟨places, hx⟩ := reads os enc
  refine returnsInHanded_of_row (C := Tryz.checked) (s := Rows.OpenSpec.upto Rows.jsonQuotesSpec) own started (by kernel_rfl) Tryz.func5
    (witness_row_atRef (enc := enc) (C := Tryz.checked) false (World.doorLaid Tryz.prog 400 os) #[.string ⟨#[]⟩, .string ⟨#[]⟩] rfl (by kernel_rfl) (by kernel_rfl) (by kernel_rfl)
      (OpenSpec.preRow_of_cond 8 hx (by kernel_rfl) (fun k hk => by cases hk; kernel_rfl) (by kernel_rfl) (door_met os _))) ?_
  intro W base args ds gs before hval hW _ hcond _ hL _ _
  have hk : Rows.uptoBulkAll (ds ++ gs) ≤ 1048576 := of_decide_eq_true (hcond _ rfl)
  have hW' := hW
  obtain ⟨p, q, hA0, hV, rfl, hfz, hnd⟩ := hW
  have hA : DataW.TrodAll enc Tryz.prog W 0 (fun _ => true) true Tryz.f5.params.toList args.toList ds p := hA0
  have hval' : ∀ (j : Nat) t v, Tryz.f5.params[j]? = some t → args[j]? = some v → Value.okWide Tryz.prog W .any base t v := hval
  rw [Tryz.params5] at hA hval'
  obtain ⟨v0, vs0, d0, ds0, p0, q0, hargs, rfl, rfl, h0, r0⟩ := trodAll_cons hA
  obtain ⟨v1, vs1, d1, ds1, p1, q1, hargs1, rfl, rfl, h1, r1⟩ := trodAll_cons r0
  obtain ⟨rfl, rfl, rfl⟩ := trodAll_nil r1
  subst hargs1
  obtain rfl : args = #[v0, v1] := by cases args; simp_all
  obtain ⟨rfl, rfl⟩ := trodVars_none hV
  obtain ⟨s0, rfl, rfl, rfl, hs0⟩ := Go.ChangeMaps.open_string Tryz.underlying9 (hval' 0 9 v0 rfl rfl) h0
  obtain ⟨s1, rfl, rfl, rfl, hs1⟩ := Go.ChangeMaps.open_string Tryz.underlying9 (hval' 1 9 v1 rfl rfl) h1
  simp only [List.append_nil] at hk hW'
  simp only [Rows.uptoBulkAll, Rows.uptoBulk] at hk
  have e0 : s0 = (⟨s0.data.toList.toArray⟩ : ByteArray) := by simp
  have e1 : s1 = (⟨s1.data.toList.toArray⟩ : ByteArray) := by simp
  have hw := quotes_walk s0.data.toList s1.data.toList W (by omega) (by omega) (gs_of_laid hL)
  rw [← e0, ← e1] at hw
  refine hw.mono fun e W' ⟨he, hg⟩ => ?_
  subst he
  have hb := hg.below (Nat.le_refl _) (fun _ h => h.elim)
  exact ⟨_, rfl, [.lit (.string s0.data.toList), .lit (.string s1.data.toList)], [], [], [], [], [], hW', (trodAll_cons_mk (shut_bool Tryz.underlying4 _) trodAll_mk0),
    trodAll_cons_mk (Go.ChangeMaps.shut_string Tryz.underlying9 hs0) (trodAll_cons_mk (Go.ChangeMaps.shut_string Tryz.underlying9 hs1) trodAll_mk0), rfl, hb.frame _, fun h => by cases h⟩

theorem an {a b : Bool} (x : a = true) (y : b = true) : (a && b) = true := by rw [x, y]; rfl
theorem f_laid : (laidOutB Tryz.pinned.checked.prog) = true := by kernel_rfl
theorem f_rowed : (mapsRowed Tryz.pinned.checked.prog) = true := by kernel_rfl
theorem f_stops : ((Tryz.pinned.checked.prog.stops == [])) = true := by kernel_rfl
theorem f_knobs : ((Tryz.pinned.checked.prog.stopKnobs == [])) = true := by kernel_rfl
theorem f_inPlace : ((Rows.jsonQuotesUptoRow.inPlace == Tryz.pinned.checked.prog.inPlace 5)) = true := by kernel_rfl
theorem f_unf : ((Rows.jsonQuotesUptoRow.unfollowed == Tryz.pinned.checked.prog.unfollowed 5)) = true := by kernel_rfl
theorem f_rec : ((Rows.jsonQuotesUptoRow.recurses == Tryz.pinned.checked.prog.recurses 5)) = true := by kernel_rfl
theorem f_named : ((Rows.jsonQuotesUptoRow.named == Tryz.pinned.checked.prog.varsNamed 5)) = true := by kernel_rfl
theorem f_keys : ((Rows.jsonQuotesUptoRow.plainKeys == Tryz.pinned.checked.prog.plainKeys)) = true := by kernel_rfl
theorem f_heard : (Tryz.pinned.checked.prog.stopsHeard) = true := by kernel_rfl
theorem f_enter : (Tryz.pinned.checked.prog.mayEnter) = true := by kernel_rfl
theorem f_lifts : ((Rows.jsonQuotesUptoRow.lifted == Tryz.pinned.checked.prog.liftsFinal)) = true := by kernel_rfl
theorem f_make : ((Tryz.pinned.checked.prog.make == some Rows.jsonQuotesUptoRow.make)) = true := by kernel_rfl
theorem closed : joinedFacts Tryz.pinned.checked.prog 5 Tryz.f5 (Rows.OpenSpec.upto Rows.jsonQuotesSpec).bare Rows.jsonQuotesUptoRow = true := by
  unfold joinedFacts
  exact (an (an (an (an (an (an (an (an (an (an (an (an (an (an (an (an (an (an (an (an (an (an (an (an (an (an (an (an (an (an (an (by kernel_rfl) f_laid) f_rowed) (by kernel_rfl)) (by kernel_rfl)) (by kernel_rfl)) f_stops) (by kernel_rfl)) f_knobs) f_inPlace) f_unf) f_rec) f_named) (by kernel_rfl)) (by kernel_rfl)) (by kernel_rfl)) (by kernel_rfl)) (by kernel_rfl)) (by kernel_rfl)) (by kernel_rfl)) (by kernel_rfl)) (by kernel_rfl)) f_keys) (by kernel_rfl)) f_heard) f_enter) f_lifts) f_make) (by kernel_rfl)) (by kernel_rfl)) (by kernel_rfl)) (by kernel_rfl))

theorem saidUpto : Rows.JsonQuotesUptoSaid :=
  OpenClaim.holds_of_cond 5 Tryz.f5 rfl rfl rfl rfl rfl rfl rfl ⟨rfl, rfl, rfl, rfl, rfl⟩ rfl rfl rfl rfl rfl (by kernel_rfl) Tryz.func5 closed
    (of_decide_eq_true (by kernel_rfl)) (by unfold Func.isWrapper; first | (rw [if_pos (by decide +kernel)]; kernel_rfl) | (rw [if_neg (by decide +kernel)]; exact ⟨rfl, rfl⟩))
    (fun os started H enc _ F => by rw [OpenClaim.pre_eq_preRow]; exact liftedUpto os started H enc F)

theorem plain (f : FuncId) (fn : Func) (hf : Tryz.pinned.checked.prog.funcNamed "galley/galleylaw24.JsonQuotes" = some f) (hfn : Tryz.pinned.checked.prog.funcs[f]? = some fn) :
    true = Tryz.pinned.checked.prog.looks [] ∧ ∀ (j : Nat) t, fn.params[j]? = some t → Tryz.pinned.checked.prog.wantsStandIn t = false := by
  obtain rfl : f = 5 := Option.some.inj ((show Tryz.prog.funcNamed "galley/galleylaw24.JsonQuotes" = some 5 by kernel_rfl).symm.trans hf) |>.symm
  obtain rfl : fn = Tryz.f5 := (Option.some.inj (Tryz.func5.symm.trans hfn)).symm
  refine ⟨by kernel_rfl, fun j t ht => ?_⟩
  rw [Tryz.params5] at ht
  have h0 := Array.mem_of_getElem? ht
  simp at h0
  subst h0
  exact (show Tryz.prog.wantsStandIn 9 = false by kernel_rfl)

/-- ████ THE STATEMENT ████ -/
theorem proved : Rows.JsonQuotesUptoCardSaid :=
  Claim7.holds_tied_plain_at .later [] _ _ _ _ saidUpto (fun _ h => by cases h) (by kernel_rfl) (fun _ h => by cases h) jsonQuotesUpto_row_tie rfl ⟨rfl, rfl⟩ (by kernel_rfl) rfl plain (by kernel_rfl)
#print axioms proved
end Go.Proofs.YtknmbfkpclacgaaGreatDoor.jsonQuotes
