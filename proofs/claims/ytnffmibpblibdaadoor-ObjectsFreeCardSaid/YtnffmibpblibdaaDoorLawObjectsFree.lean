/-
  The law ObjectsFree: for every input that its guards let in, the call returns true, and each argument reads behind the call as it read before it; its card, tied.
-/
import Derived.Test.YtnffmibpblibdaaDoorGlob
import Derived.Test.YtnffmibpblibdaaDoorCards
import Derived.Test.YtnffmibpblibdaaDoorTie
import Derived.Test.YtnffmibpblibdaaDoorT4
import Derived.ShutString
import Derived.SevenTiedAt
namespace Go.Proofs.YtnffmibpblibdaaDoor.objectsFree
open Go.ChangeShapes Go.WideShapes Go.ChangeAt Go.RowKit Go.Ab
set_option maxRecDepth 100000 in
theorem shs_ok : shOkL cfg [(.sl 56 (.st 54 [(.int .i64), (.int .i64), (.int .i64), (.int .u64)])), .bool] Tryd.f8.params.toList = true := by kernel_rfl
set_option maxRecDepth 100000 in
theorem reads_ok : (Tryd.f8.params.toList).all (fun t => Tryd.prog.readableRec t && decide (t < Tryd.prog.types.size)) = true := by kernel_rfl
set_option maxRecDepth 100000 in
theorem lifted (os : Os) (started : os.Started) (H : Type) (enc : TypeId × Value → H) :
    ReturnsInHanded {} Tryd.checked os 8 .any (fun w args => (Rows.objectsFreeSpec.pre enc Tryd.prog Tryd.f8 [] false w args ∧ laidMetH Tryd.prog laids w) ∧ sizedMet enc Tryd.prog Tryd.f8 (OpenSpec.ofChange Rows.objectsFreeSpec) false w args)
      (Rows.objectsFreeSpec.post enc Tryd.prog Tryd.f8 false true false false) := by
  refine returnsInHanded_of_change_and (C := Tryd.checked) (X := fun w _ => laidMetH Tryd.prog laids w) (fun _ _ _ hh h => h.of_heap hh) own started (by kernel_rfl) Tryd.func8
    (ChangeSpec.witness_shaped (enc := enc) (C := Tryd.checked) (os := os) (X := fun w _ => laidMetH Tryd.prog laids w) false (World.doorLaid Tryd.prog 400 os) #[.slice none 0 0, .bool false] 8 rfl (World.shaped_of_RefB (by kernel_rfl) (by kernel_rfl)) (by kernel_rfl) (by kernel_rfl) (by kernel_rfl) (door_met os _)) ?_
  intro W base args ds gs before hval0 hW _ _ hL _
  have hval : ∀ (j : Nat) t v, Tryd.f8.params.toList[j]? = some t → args.toList[j]? = some v → Value.okWide cfg.P W .any base t v := fun j t v h1 h2 => hval0 j t v (by simpa using h1) (by simpa using h2)
  have hW' := hW
  obtain ⟨p, q, hA0, hV, rfl, hfz, hnd⟩ := hW
  have hA : DataW.TrodAll enc cfg.P W 0 (fun _ => true) true Tryd.f8.params.toList args.toList ds p := hA0
  obtain ⟨rfl, rfl⟩ := trodVars_none hV
  refine (law_calls ctx shs_ok (glob_inv hL) glob_r hA hval (fun hp vs hx h => law_ObjectsFree hp vs hx h)).mono fun e W' ⟨he, bel⟩ => ?_
  subst he
  have hB : DataW.TrodAll enc Tryd.prog W' 0 (fun b => decide (b < W.heap.size)) true Tryd.f8.params.toList args.toList ds p := args_back laidOut bel reads_ok hA
  rw [show Tryd.f8.params.toList = Tryd.f8.params.toList from rfl, Tryd.params8] at hA
  obtain ⟨v0, vs0, d0, ds0, p0, q0, hargs0, rfl, rfl, h0, r0⟩ := trodAll_cons hA
  obtain ⟨v1, vs1, d1, ds1, p1, q1, hargs1, rfl, rfl, h1, r1⟩ := trodAll_cons r0
  obtain ⟨rfl, rfl, rfl⟩ := trodAll_nil r1
  exact ⟨_, rfl, _, _, _, [], _, [], hW', trodAll_mk1 (shut_bool Tryd.underlying4 _), hB, rfl, bel.frame _, fun h => by cases h⟩
theorem over : Rows.objectsFreeRow.holds Tryd.pinned (OpenSpec.ofChange Rows.objectsFreeSpec) :=
  OpenClaim.holds_of_wide 8 Tryd.f8 rfl rfl rfl rfl rfl rfl rfl ⟨rfl, rfl, rfl, rfl, rfl⟩ rfl rfl rfl rfl rfl (by kernel_rfl) Tryd.func8 (by kernel_rfl)
    (of_decide_eq_true (by kernel_rfl)) (by unfold Func.isWrapper; first | (rw [if_pos (by decide +kernel)]; kernel_rfl) | (rw [if_neg (by decide +kernel)]; exact ⟨rfl, rfl⟩))
    (fun os started H enc _ => lifted os started H enc)
end Go.Proofs.YtnffmibpblibdaaDoor.objectsFree
namespace Go.Proofs.YtnffmibpblibdaaDoor
open Go
/-- The tied card, under a short name, for the claim. -/
theorem ObjectsFree_holds : Rows.ObjectsFreeCardSaid :=
  Claim7.holds_tied_plain_at .later [] [.data] true (true, "2e049fc85aaec40680d847ca68047be7a5311b42eb03fdfb40c0c5edd760064d") false
    objectsFree.over (fun _ h => by cases h) (by kernel_rfl) (fun _ h => by cases h) objectsFree_row_tie rfl ⟨rfl, rfl⟩ (by kernel_rfl) rfl
    (fun f fn hf hfn => by
      obtain rfl : f = 8 := Option.some.inj ((show Tryd.prog.funcNamed Rows.objectsFreeRow.func = some 8 by kernel_rfl).symm.trans hf) |>.symm
      obtain rfl : fn = Tryd.f8 := (Option.some.inj (Tryd.func8.symm.trans hfn)).symm
      exact ⟨by kernel_rfl, fun j t ht => by
        have hall : (Tryd.f8.params.toList.all fun u => !Tryd.prog.wantsStandIn u) = true := by kernel_rfl
        have hm : t ∈ Tryd.f8.params.toList := by simpa using Array.mem_of_getElem? ht
        exact (show Tryd.prog.wantsStandIn t = false by simpa using List.all_eq_true.1 hall t hm)⟩)
    (by kernel_rfl)
#print axioms ObjectsFree_holds
end Go.Proofs.YtnffmibpblibdaaDoor
