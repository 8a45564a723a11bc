/-
  The law ReviveRecords: for every input that its guards let in, the call returns true, and each argument reads behind the call as it read before it; its card, tied.
-/
import Derived.Test.YtilcajpldklbiaaDoorGlob
import Derived.Test.YtilcajpldklbiaaDoorCards
import Derived.Test.YtilcajpldklbiaaDoorTie
import Derived.Test.YtilcajpldklbiaaDoorT7
import Derived.ShutString
import Derived.SevenTiedAt
namespace Go.Proofs.YtilcajpldklbiaaDoor.reviveRecords
open Go.ChangeShapes Go.WideShapes Go.ChangeAt Go.RowKit Go.Ab
set_option maxRecDepth 100000 in
theorem shs_ok : iR cfg [(.st 54 [(.int .i64), (.int .i64), (.int .i64), (.int .u64)])] Tryd.f3.params.toList = true := by kernel_rfl
set_option maxRecDepth 100000 in
theorem reads_ok : (Tryd.f3.params.toList).all (fun t => Tryd.prog.readableRec t && decide (t < Tryd.prog.types.size)) = true := by kernel_rfl
set_option maxRecDepth 100000 in
theorem lifted (os : Os) (started : os.Started) (H : Type) (enc : TypeId × Value → H) :
 ReturnsInHanded {} Tryd.checked os 3 .any (fun w args => (Rows.reviveRecordsSpec.pre enc Tryd.prog Tryd.f3 [] false w args ∧ laidMetH Tryd.prog tI w) ∧ sizedMet enc Tryd.prog Tryd.f3 (OpenSpec.ofChange Rows.reviveRecordsSpec) false w args)
  (Rows.reviveRecordsSpec.post enc Tryd.prog Tryd.f3 false true false false) := by
 refine returnsInHanded_of_change_and (C := Tryd.checked) (X := fun w _ => laidMetH Tryd.prog tI w) (fun _ _ _ hh h => h.of_heap hh) own started (by kernel_rfl) Tryd.func3
  (ChangeSpec.witness_shaped (enc := enc) (C := Tryd.checked) (os := os) (X := fun w _ => laidMetH Tryd.prog tI w) false (World.doorLaid Tryd.prog 400 os) #[.agg #[.int .i64 0, .int .i64 0, .int .i64 0, .int .u64 0]] 8 rfl (World.shaped_of_RefB (by kernel_rfl) (by kernel_rfl)) (by kernel_rfl) (by kernel_rfl) (by kernel_rfl) (Gc os _)) ?_
 intro W base args ds gs before hval0 hW _ _ hL _;have hval : ∀ (j : Nat) t v, Tryd.f3.params.toList[j]? = some t → args.toList[j]? = some v → Value.okWide cfg.P W .any base t v := fun j t v h1 h2 => hval0 j t v (by simpa using h1) (by simpa using h2);have hW' := hW;obtain ⟨p, q, hA0, hV, rfl, hfz, hnd⟩ := hW;have hA : DataW.TrodAll enc cfg.P W 0 (fun _ => true) true Tryd.f3.params.toList args.toList ds p := hA0;obtain ⟨rfl, rfl⟩ := trodVars_none hV;refine (law_calls ctx shs_ok (Fb hL) KT hA hval (fun hp vs hx h => law_ReviveRecords hp vs hx h)).mono fun e W' ⟨he, bel⟩ => ?_;subst he;have hB : DataW.TrodAll enc Tryd.prog W' 0 (fun b => decide (b < W.heap.size)) true Tryd.f3.params.toList args.toList ds p := vG Je bel reads_ok hA;rw [show Tryd.f3.params.toList = Tryd.f3.params.toList from rfl, Tryd.params3] at hA
 obtain ⟨v0, vs0, d0, ds0, p0, q0, hargs0, rfl, rfl, h0, r0⟩ := trodAll_cons hA;obtain ⟨rfl, rfl, rfl⟩ := trodAll_nil r0;exact ⟨_, rfl, _, _, _, [], _, [], hW', trodAll_mk1 (shut_bool Tryd.underlying4 _), hB, rfl, bel.frame _, fun h => by cases h⟩
theorem over : Rows.reviveRecordsRow.holds Tryd.pinned (OpenSpec.ofChange Rows.reviveRecordsSpec) :=
 OpenClaim.holds_of_wide 3 Tryd.f3 rfl rfl rfl rfl rfl rfl rfl ⟨rfl, rfl, rfl, rfl, rfl⟩ rfl rfl rfl rfl rfl (by kernel_rfl) Tryd.func3 (by kernel_rfl)
  (of_decide_eq_true (by kernel_rfl)) (by unfold Func.isWrapper; first | (rw [if_pos (by decide +kernel)]; kernel_rfl) | (rw [if_neg (by decide +kernel)]; exact ⟨rfl, rfl⟩))
  (fun os started H enc _ => lifted os started H enc)
end Go.Proofs.YtilcajpldklbiaaDoor.reviveRecords
namespace Go.Proofs.YtilcajpldklbiaaDoor
open Go
theorem ReviveRecords_holds : Rows.ReviveRecordsCardSaid :=
 Claim7.holds_tied_plain_at .later [] [.data] true (true, "ea3b18b00a6fecb8a943f79ccce2bcc5a2337a1b6e0e1c5252fc0c1be734c2a4") false
  reviveRecords.over (fun _ h => by cases h) (by kernel_rfl) (fun _ h => by cases h) reviveRecords_row_tie rfl ⟨rfl, rfl⟩ (by kernel_rfl) rfl
  (fun f fn hf hfn => by
   obtain rfl : f = 3 := Option.some.inj ((show Tryd.prog.funcNamed Rows.reviveRecordsRow.func = some 3 by kernel_rfl).symm.trans hf) |>.symm;obtain rfl : fn = Tryd.f3 := (Option.some.inj (Tryd.func3.symm.trans hfn)).symm;exact ⟨by kernel_rfl, fun j t ht => by
    have hall : (Tryd.f3.params.toList.all fun u => !Tryd.prog.wantsStandIn u) = true := by kernel_rfl
    have hm : t ∈ Tryd.f3.params.toList := by simpa using Array.mem_of_getElem? ht
    exact (show Tryd.prog.wantsStandIn t = false by simpa using List.all_eq_true.1 hall t hm)⟩)
  (by kernel_rfl)
#print axioms ReviveRecords_holds
end Go.Proofs.YtilcajpldklbiaaDoor
