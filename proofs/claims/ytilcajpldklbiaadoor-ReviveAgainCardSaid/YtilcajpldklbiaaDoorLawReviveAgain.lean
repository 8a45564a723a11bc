/-
  The law ReviveAgain: for every input that its guards let in, the call returns true, and each argument reads behind the call as it read before it; its card, tied.
-/
import Derived.Test.YtilcajpldklbiaaDoorGlob
import Derived.Test.YtilcajpldklbiaaDoorCards
import Derived.Test.YtilcajpldklbiaaDoorTie
import Derived.Test.YtilcajpldklbiaaDoorT7
import Derived.ShutString
import Derived.SevenTiedAt
namespace Go.Proofs.YtilcajpldklbiaaDoor.reviveAgain
open Go.ChangeShapes Go.WideShapes Go.ChangeAt Go.RowKit Go.Ab
set_option maxRecDepth 100000 in
theorem shs_ok : jl cfg [(.sl 28 (.st 26 [(.int .i64), (.int .i64), (.arr 24 8 (.int .u64))])), (.sl 52 (.int .u64)), (.st 21 [(.int .i64), (.sl 38 (.int .i64))])] Tryd.f4.params.toList = true := by kernel_rfl
set_option maxRecDepth 100000 in
theorem reads_ok : (Tryd.f4.params.toList).all (fun t => Tryd.prog.readableRec t && decide (t < Tryd.prog.types.size)) = true := by kernel_rfl
set_option maxRecDepth 100000 in
theorem lifted (os : Os) (started : os.Started) (H : Type) (enc : TypeId × Value → H) :
 ReturnsInHanded {} Tryd.checked os 4 .any (fun w args => (Rows.reviveAgainSpec.pre enc Tryd.prog Tryd.f4 [] false w args ∧ laidMetH Tryd.prog uW w) ∧ sizedMet enc Tryd.prog Tryd.f4 (OpenSpec.ofChange Rows.reviveAgainSpec) false w args)
  (Rows.reviveAgainSpec.post enc Tryd.prog Tryd.f4 false true false false) := by
 refine returnsInHanded_of_change_and (C := Tryd.checked) (X := fun w _ => laidMetH Tryd.prog uW w) (fun _ _ _ hh h => h.of_heap hh) own started (by kernel_rfl) Tryd.func4
  (ChangeSpec.witness_shaped (enc := enc) (C := Tryd.checked) (os := os) (X := fun w _ => laidMetH Tryd.prog uW w) false (World.doorLaid Tryd.prog 400 os) #[.slice none 0 0, .slice none 0 0, .agg #[.int .i64 0, .slice none 0 0]] 8 rfl (World.shaped_of_RefB (by kernel_rfl) (by kernel_rfl)) (by kernel_rfl) (by kernel_rfl) (by kernel_rfl) (GQ os _)) ?_
 intro W base args ds gs before hval0 hW _ _ hL _;have hval : ∀ (j : Nat) t v, Tryd.f4.params.toList[j]? = some t → args.toList[j]? = some v → Value.okWide cfg.P W .any base t v := fun j t v h1 h2 => hval0 j t v (by simpa using h1) (by simpa using h2);have hW' := hW;obtain ⟨p, q, hA0, hV, rfl, hfz, hnd⟩ := hW;have hA : DataW.TrodAll enc cfg.P W 0 (fun _ => true) true Tryd.f4.params.toList args.toList ds p := hA0;obtain ⟨rfl, rfl⟩ := trodVars_none hV;refine (law_calls ctx shs_ok (Gh hL) Lx hA hval (fun hp vs hx h => law_ReviveAgain hp vs hx h)).mono fun e W' ⟨he, bel⟩ => ?_;subst he;have hB : DataW.TrodAll enc Tryd.prog W' 0 (fun b => decide (b < W.heap.size)) true Tryd.f4.params.toList args.toList ds p := xy Kk bel reads_ok hA;rw [show Tryd.f4.params.toList = Tryd.f4.params.toList from rfl, Tryd.params4] at hA
 obtain ⟨v0, vs0, d0, ds0, p0, q0, hargs0, rfl, rfl, h0, r0⟩ := trodAll_cons hA;obtain ⟨v1, vs1, d1, ds1, p1, q1, hargs1, rfl, rfl, h1, r1⟩ := trodAll_cons r0;obtain ⟨v2, vs2, d2, ds2, p2, q2, hargs2, rfl, rfl, h2, r2⟩ := trodAll_cons r1;obtain ⟨rfl, rfl, rfl⟩ := trodAll_nil r2;exact ⟨_, rfl, _, _, _, [], _, [], hW', trodAll_mk1 (shut_bool Tryd.underlying4 _), hB, rfl, bel.frame _, fun h => by cases h⟩
theorem over : Rows.reviveAgainRow.holds Tryd.pinned (OpenSpec.ofChange Rows.reviveAgainSpec) :=
 OpenClaim.holds_of_wide 4 Tryd.f4 rfl rfl rfl rfl rfl rfl rfl ⟨rfl, rfl, rfl, rfl, rfl⟩ rfl rfl rfl rfl rfl (by kernel_rfl) Tryd.func4 (by kernel_rfl)
  (of_decide_eq_true (by kernel_rfl)) (by unfold Func.isWrapper; first | (rw [if_pos (by decide +kernel)]; kernel_rfl) | (rw [if_neg (by decide +kernel)]; exact ⟨rfl, rfl⟩))
  (fun os started H enc _ => lifted os started H enc)
end Go.Proofs.YtilcajpldklbiaaDoor.reviveAgain
namespace Go.Proofs.YtilcajpldklbiaaDoor
open Go
theorem ReviveAgain_holds : Rows.ReviveAgainCardSaid :=
 Claim7.holds_tied_plain_at .later [] [.data] true (true, "ea3b18b00a6fecb8a943f79ccce2bcc5a2337a1b6e0e1c5252fc0c1be734c2a4") false
  reviveAgain.over (fun _ h => by cases h) (by kernel_rfl) (fun _ h => by cases h) reviveAgain_row_tie rfl ⟨rfl, rfl⟩ (by kernel_rfl) rfl
  (fun f fn hf hfn => by
   obtain rfl : f = 4 := Option.some.inj ((show Tryd.prog.funcNamed Rows.reviveAgainRow.func = some 4 by kernel_rfl).symm.trans hf) |>.symm;obtain rfl : fn = Tryd.f4 := (Option.some.inj (Tryd.func4.symm.trans hfn)).symm;exact ⟨by kernel_rfl, fun j t ht => by
    have hall : (Tryd.f4.params.toList.all fun u => !Tryd.prog.wantsStandIn u) = true := by kernel_rfl
    have hm : t ∈ Tryd.f4.params.toList := by simpa using Array.mem_of_getElem? ht
    exact (show Tryd.prog.wantsStandIn t = false by simpa using List.all_eq_true.1 hall t hm)⟩)
  (by kernel_rfl)
#print axioms ReviveAgain_holds
end Go.Proofs.YtilcajpldklbiaaDoor
