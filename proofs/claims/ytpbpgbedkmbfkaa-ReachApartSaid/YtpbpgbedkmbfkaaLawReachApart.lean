/-
  The law ReachApart: for every input that its guards let in, the call returns true, and each argument reads behind the call as it read before it.
-/
import Derived.Test.YtpbpgbedkmbfkaaRows
import Derived.Test.YtpbpgbedkmbfkaaChk
import Derived.Test.YtpbpgbedkmbfkaaT4
import Derived.ShutString
namespace Go.Proofs.Ytpbpgbedkmbfkaa.reachApart
open Go.ChangeShapes Go.WideShapes Go.ChangeAt Go.RowKit Go.Ab
set_option maxRecDepth 100000 in
theorem shs_ok : shOkL cfg [(.sl 28 (.st 26 [(.int .i64), (.int .i64), (.arr 24 8 (.int .u64))])), (.arr 23 2 (.sl 38 (.int .i64))), (.int .i64)] Try.f4.params.toList = true := by kernel_rfl
set_option maxRecDepth 100000 in
theorem reads_ok : (Try.f4.params.toList).all (fun t => Try.prog.readableRec t && decide (t < Try.prog.types.size)) = true := by kernel_rfl
set_option maxRecDepth 100000 in
theorem lifted (os : Os) (started : os.Started) (H : Type) (enc : TypeId × Value → H) :
    ReturnsInHanded {} Try.checked os 4 .any (Rows.reachApartSpec.pre6 enc Try.prog Try.f4 Rows.reachApartRow.domain false) (Rows.reachApartSpec.post enc Try.prog Try.f4 false true false false) := by
  refine returnsInHanded_of_change_sized (C := Try.checked) own started (by kernel_rfl) Try.func4
    (ChangeSpec.witness6 (enc := enc) (C := Try.checked) false ⟨#[], #[.slice none 0 0, .agg #[.slice none 0 0, .slice none 0 0], .int .i64 0], []⟩ 8 (by kernel_rfl) (by kernel_rfl) (by kernel_rfl) (by kernel_rfl)) ?_
  intro W base args ds gs before hval0 hW hcnd hsz0 _
  have hval : ∀ (j : Nat) t v, Try.f4.params.toList[j]? = some t → args.toList[j]? = some v → Value.okWide cfg.P W .any base t v := fun j t v h1 h2 => hval0 j t v (by simpa using h1) (by simpa using h2)
  have hW' := hW
  obtain ⟨p, q, hA0, hV, rfl, hfz, hnd⟩ := hW
  have hA : DataW.TrodAll enc cfg.P W 0 (fun _ => true) true Try.f4.params.toList args.toList ds p := hA0
  obtain ⟨rfl, rfl⟩ := trodVars_none hV
  refine (law_calls ctx shs_ok (inv_nil _ W) (fun g i t h => by simp [cfg, gls] at h) hA hval (fun hp vs _ h => law_ReachApart hp vs h)).mono fun e W' ⟨he, bel⟩ => ?_
  subst he
  have hB : DataW.TrodAll enc Try.prog W' 0 (fun b => decide (b < W.heap.size)) true Try.f4.params.toList args.toList ds p := args_back laidOut bel reads_ok hA
  rw [show Try.f4.params.toList = Try.f4.params.toList from rfl, Try.params4] at hA
  obtain ⟨v0, vs0, d0, ds0, p0, q0, hargs0, rfl, rfl, h0, r0⟩ := trodAll_cons hA
  obtain ⟨v1, vs1, d1, ds1, p1, q1, hargs1, rfl, rfl, h1, r1⟩ := trodAll_cons r0
  obtain ⟨v2, vs2, d2, ds2, p2, q2, hargs2, rfl, rfl, h2, r2⟩ := trodAll_cons r1
  obtain ⟨rfl, rfl, rfl⟩ := trodAll_nil r2
  exact ⟨_, rfl, _, _, _, [], _, [], hW', trodAll_mk1 (shut_bool Try.underlying4 _), hB, rfl, bel.frame _, fun h => by cases h⟩
theorem over : Rows.reachApartRow.holds Try.pinned (OpenSpec.ofChange Rows.reachApartSpec) :=
  OpenClaim.holds_of_wide 4 Try.f4 rfl rfl rfl rfl rfl rfl rfl ⟨rfl, rfl, rfl, rfl, rfl⟩ rfl rfl rfl rfl rfl (by kernel_rfl) Try.func4 (by kernel_rfl)
    (of_decide_eq_true (by kernel_rfl)) (by unfold Func.isWrapper; first | (rw [if_pos (by decide +kernel)]; kernel_rfl) | (rw [if_neg (by decide +kernel)]; exact ⟨rfl, rfl⟩))
    (fun os started H enc _ => lifted os started H enc)
end Go.Proofs.Ytpbpgbedkmbfkaa.reachApart
namespace Go.Proofs.Ytpbpgbedkmbfkaa
/-- The row, under a short name, for the claim. -/
theorem ReachApart_holds : Rows.ReachApartSaid := reachApart.over
#print axioms ReachApart_holds
end Go.Proofs.Ytpbpgbedkmbfkaa
