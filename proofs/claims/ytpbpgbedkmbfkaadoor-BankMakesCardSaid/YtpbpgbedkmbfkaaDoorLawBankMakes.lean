/-
  The law BankMakes: for every input that its guards let in, the call returns true, and each argument reads behind the call as it read before it; its card, tied.
-/
import Derived.Test.YtpbpgbedkmbfkaaDoorGlob
import Derived.Test.YtpbpgbedkmbfkaaDoorCards
import Derived.Test.YtpbpgbedkmbfkaaDoorTie
import Derived.Test.YtpbpgbedkmbfkaaDoorT2
import Derived.ShutString
import Derived.SevenTiedAt
namespace Go.Proofs.YtpbpgbedkmbfkaaDoor.bankMakes
open Go.ChangeShapes Go.WideShapes Go.ChangeAt Go.RowKit Go.Ab
set_option maxRecDepth 100000 in
theorem shs_ok : shOkL cfg [(.sl 28 (.st 26 [(.int .i64), (.int .i64), (.arr 24 8 (.int .u64))])), (.int .u64), (.int .i64)] Tryd.f3.params.toList = true := by kernel_rfl
set_option maxRecDepth 100000 in
theorem reads_ok : (Tryd.f3.params.toList).all (fun t => Tryd.prog.readableRec t && decide (t < Tryd.prog.types.size)) = true := by kernel_rfl
set_option maxRecDepth 100000 in
theorem lifted (os : Os) (started : os.Started) (H : Type) (enc : TypeId × Value → H) :
    ReturnsInHanded {} Tryd.checked os 3 .any (fun w args => (Rows.bankMakesSpec.pre enc Tryd.prog Tryd.f3 [] false w args ∧ laidMetH Tryd.prog laids w) ∧ sizedMet enc Tryd.prog Tryd.f3 (OpenSpec.ofChange Rows.bankMakesSpec) false w args)
      (Rows.bankMakesSpec.post enc Tryd.prog Tryd.f3 false true false false) := by
  refine returnsInHanded_of_change_and (C := Tryd.checked) (X := fun w _ => laidMetH Tryd.prog laids w) (fun _ _ _ hh h => h.of_heap hh) own started (by kernel_rfl) Tryd.func3
    (ChangeSpec.witness_shaped (enc := enc) (C := Tryd.checked) (os := os) (X := fun w _ => laidMetH Tryd.prog laids w) false (World.doorLaid Tryd.prog 400 os) #[.slice none 0 0, .int .u64 0, .int .i64 0] 8 rfl (World.shaped_of_RefB (by kernel_rfl) (by kernel_rfl)) (by kernel_rfl) (by kernel_rfl) (by kernel_rfl) (door_met os _)) ?_
  intro W base args ds gs before hval0 hW _ _ hL _
  have hval : ∀ (j : Nat) t v, Tryd.f3.params.toList[j]? = some t → args.toList[j]? = some v → Value.okWide cfg.P W .any base t v := fun j t v h1 h2 => hval0 j t v (by simpa using h1) (by simpa using h2)
  have hW' := hW
  obtain ⟨p, q, hA0, hV, rfl, hfz, hnd⟩ := hW
  have hA : DataW.TrodAll enc cfg.P W 0 (fun _ => true) true Tryd.f3.params.toList args.toList ds p := hA0
  obtain ⟨rfl, rfl⟩ := trodVars_none hV
  refine (law_calls ctx shs_ok (glob_inv hL) glob_r hA hval (fun hp vs hx h => law_BankMakes hp vs hx h)).mono fun e W' ⟨he, bel⟩ => ?_
  subst he
  have hB : DataW.TrodAll enc Tryd.prog W' 0 (fun b => decide (b < W.heap.size)) true Tryd.f3.params.toList args.toList ds p := args_back laidOut bel reads_ok hA
  rw [show Tryd.f3.params.toList = Tryd.f3.params.toList from rfl, Tryd.params3] at hA
  obtain ⟨v0, vs0, d0, ds0, p0, q0, hargs0, rfl, rfl, h0, r0⟩ := trodAll_cons hA
  obtain ⟨v1, vs1, d1, ds1, p1, q1, hargs1, rfl, rfl, h1, r1⟩ := trodAll_cons r0
  obtain ⟨v2, vs2, d2, ds2, p2, q2, hargs2, rfl, rfl, h2, r2⟩ := trodAll_cons r1
  obtain ⟨rfl, rfl, rfl⟩ := trodAll_nil r2
  exact ⟨_, rfl, _, _, _, [], _, [], hW', trodAll_mk1 (shut_bool Tryd.underlying4 _), hB, rfl, bel.frame _, fun h => by cases h⟩
theorem over : Rows.bankMakesRow.holds Tryd.pinned (OpenSpec.ofChange Rows.bankMakesSpec) :=
  OpenClaim.holds_of_wide 3 Tryd.f3 rfl rfl rfl rfl rfl rfl rfl ⟨rfl, rfl, rfl, rfl, rfl⟩ rfl rfl rfl rfl rfl (by kernel_rfl) Tryd.func3 (by kernel_rfl)
    (of_decide_eq_true (by kernel_rfl)) (by unfold Func.isWrapper; first | (rw [if_pos (by decide +kernel)]; kernel_rfl) | (rw [if_neg (by decide +kernel)]; exact ⟨rfl, rfl⟩))
    (fun os started H enc _ => lifted os started H enc)
end Go.Proofs.YtpbpgbedkmbfkaaDoor.bankMakes
namespace Go.Proofs.YtpbpgbedkmbfkaaDoor
open Go
/-- The tied card, under a short name, for the claim. -/
theorem BankMakes_holds : Rows.BankMakesCardSaid :=
  Claim7.holds_tied_plain_at .later [] [.data] true (true, "087a08a6ed48c9f1946500065c175f12d5ee59000456161acbd1d4257905b555") false
    bankMakes.over (fun _ h => by cases h) (by kernel_rfl) (fun _ h => by cases h) bankMakes_row_tie rfl ⟨rfl, rfl⟩ (by kernel_rfl) rfl
    (fun f fn hf hfn => by
      obtain rfl : f = 3 := Option.some.inj ((show Tryd.prog.funcNamed Rows.bankMakesRow.func = some 3 by kernel_rfl).symm.trans hf) |>.symm
      obtain rfl : fn = Tryd.f3 := (Option.some.inj (Tryd.func3.symm.trans hfn)).symm
      exact ⟨by kernel_rfl, fun j t ht => by
        have hall : (Tryd.f3.params.toList.all fun u => !Tryd.prog.wantsStandIn u) = true := by kernel_rfl
        have hm : t ∈ Tryd.f3.params.toList := by simpa using Array.mem_of_getElem? ht
        exact (show Tryd.prog.wantsStandIn t = false by simpa using List.all_eq_true.1 hall t hm)⟩)
    (by kernel_rfl)
#print axioms BankMakes_holds
end Go.Proofs.YtpbpgbedkmbfkaaDoor
