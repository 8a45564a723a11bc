/-
  The law SnapPower: for every input that its guards let in, the call returns true, and each argument reads behind the call as it read before it; its card, tied.
-/
import Derived.Test.YtmimfopnhmmlbaaGreatDoorGlob
import Derived.Test.YtmimfopnhmmlbaaGreatDoorCards
import Derived.Test.YtmimfopnhmmlbaaGreatDoorTie
import Derived.Test.YtmimfopnhmmlbaaGreatDoorT6
import Derived.ShutString
import Derived.SevenTiedAt
namespace Go.Proofs.YtmimfopnhmmlbaaGreatDoor.snapPower
open Go.ChangeShapes Go.WideShapes Go.ChangeAt Go.RowKit Go.Ab
set_option maxRecDepth 100000 in
theorem shs_ok : jN cfg [(.sl 56 (.st 54 [(.int .i64), (.int .i64), (.int .i64), (.int .u64)])), (.int .i64), (.sl 38 (.int .i64))] Tryz.f5.params.toList = true := by kernel_rfl
set_option maxRecDepth 100000 in
theorem reads_ok : (Tryz.f5.params.toList).all (fun t => Tryz.prog.readableRec t && decide (t < Tryz.prog.types.size)) = true := by kernel_rfl
set_option maxRecDepth 100000 in
theorem lifted (os : Os) (started : os.Started) (H : Type) (enc : TypeId × Value → H) :
 ReturnsInHanded {} Tryz.checked os 5 .any (fun w args => (Rows.snapPowerSpec.pre enc Tryz.prog Tryz.f5 [] false w args ∧ laidMetH Tryz.prog uW w) ∧ sizedMet enc Tryz.prog Tryz.f5 (OpenSpec.ofChange Rows.snapPowerSpec) false w args)
  (Rows.snapPowerSpec.post enc Tryz.prog Tryz.f5 false true false false) := by
 refine returnsInHanded_of_change_and (C := Tryz.checked) (X := fun w _ => laidMetH Tryz.prog uW w) (fun _ _ _ hh h => h.of_heap hh) own started (by kernel_rfl) Tryz.func5
  (ChangeSpec.witness_shaped (enc := enc) (C := Tryz.checked) (os := os) (X := fun w _ => laidMetH Tryz.prog uW w) false (World.doorLaid Tryz.prog 400 os) #[.slice none 0 0, .int .i64 0, .slice none 0 0] 8 rfl (World.shaped_of_RefB (by kernel_rfl) (by kernel_rfl)) (by kernel_rfl) (by kernel_rfl) (by kernel_rfl) (JG os _)) ?_
 intro W base args ds gs before hval0 hW _ _ hL _;have hval : ∀ (j : Nat) t v, Tryz.f5.params.toList[j]? = some t → args.toList[j]? = some v → Value.okWide cfg.P W .any base t v := fun j t v h1 h2 => hval0 j t v (by simpa using h1) (by simpa using h2);have hW' := hW;obtain ⟨p, q, hA0, hV, rfl, hfz, hnd⟩ := hW;have hA : DataW.TrodAll enc cfg.P W 0 (fun _ => true) true Tryz.f5.params.toList args.toList ds p := hA0;obtain ⟨rfl, rfl⟩ := trodVars_none hV;refine (law_calls ctx shs_ok (Ie hL) Oz hA hval (fun hp vs hx h => law_SnapPower hp vs hx h)).mono fun e W' ⟨he, bel⟩ => ?_;subst he;have hB : DataW.TrodAll enc Tryz.prog W' 0 (fun b => decide (b < W.heap.size)) true Tryz.f5.params.toList args.toList ds p := xz KT bel reads_ok hA;rw [show Tryz.f5.params.toList = Tryz.f5.params.toList from rfl, Tryz.params5] at hA
 obtain ⟨v0, vs0, d0, ds0, p0, q0, hargs0, rfl, rfl, h0, r0⟩ := trodAll_cons hA;obtain ⟨v1, vs1, d1, ds1, p1, q1, hargs1, rfl, rfl, h1, r1⟩ := trodAll_cons r0;obtain ⟨v2, vs2, d2, ds2, p2, q2, hargs2, rfl, rfl, h2, r2⟩ := trodAll_cons r1;obtain ⟨rfl, rfl, rfl⟩ := trodAll_nil r2;exact ⟨_, rfl, _, _, _, [], _, [], hW', trodAll_mk1 (shut_bool Tryz.underlying4 _), hB, rfl, bel.frame _, fun h => by cases h⟩
theorem over : Rows.snapPowerRow.holds Tryz.pinned (OpenSpec.ofChange Rows.snapPowerSpec) :=
 OpenClaim.holds_of_wide 5 Tryz.f5 rfl rfl rfl rfl rfl rfl rfl ⟨rfl, rfl, rfl, rfl, rfl⟩ rfl rfl rfl rfl rfl (by kernel_rfl) Tryz.func5 (by kernel_rfl)
  (of_decide_eq_true (by kernel_rfl)) (by unfold Func.isWrapper; first | (rw [if_pos (by decide +kernel)]; kernel_rfl) | (rw [if_neg (by decide +kernel)]; exact ⟨rfl, rfl⟩))
  (fun os started H enc _ => lifted os started H enc)
end Go.Proofs.YtmimfopnhmmlbaaGreatDoor.snapPower
namespace Go.Proofs.YtmimfopnhmmlbaaGreatDoor
open Go
theorem SnapPower_holds : Rows.SnapPowerCardSaid :=
 Claim7.holds_tied_plain_at .later [] [.data] true (true, "b65f09234122422661b74890e0e8ff17d4e9268e780c6edf004a5cda616bc112") false
  snapPower.over (fun _ h => by cases h) (by kernel_rfl) (fun _ h => by cases h) snapPower_row_tie rfl ⟨rfl, rfl⟩ (by kernel_rfl) rfl
  (fun f fn hf hfn => by
   obtain rfl : f = 5 := Option.some.inj ((show Tryz.prog.funcNamed Rows.snapPowerRow.func = some 5 by kernel_rfl).symm.trans hf) |>.symm;obtain rfl : fn = Tryz.f5 := (Option.some.inj (Tryz.func5.symm.trans hfn)).symm;exact ⟨by kernel_rfl, fun j t ht => by
    have hall : (Tryz.f5.params.toList.all fun u => !Tryz.prog.wantsStandIn u) = true := by kernel_rfl
    have hm : t ∈ Tryz.f5.params.toList := by simpa using Array.mem_of_getElem? ht
    exact (show Tryz.prog.wantsStandIn t = false by simpa using List.all_eq_true.1 hall t hm)⟩)
  (by kernel_rfl)
#print axioms SnapPower_holds
end Go.Proofs.YtmimfopnhmmlbaaGreatDoor
