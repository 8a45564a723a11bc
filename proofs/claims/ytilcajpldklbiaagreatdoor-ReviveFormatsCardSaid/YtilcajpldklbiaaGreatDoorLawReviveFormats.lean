/-
  The law ReviveFormats: for every input that its guards let in, the call returns true, and each argument reads behind the call as it read before it; its card, tied.
-/
import Derived.Test.YtilcajpldklbiaaGreatDoorGlob
import Derived.Test.YtilcajpldklbiaaGreatDoorCards
import Derived.Test.YtilcajpldklbiaaGreatDoorTie
import Derived.Test.YtilcajpldklbiaaGreatDoorT9
import Derived.ShutString
import Derived.SevenTiedAt
namespace Go.Proofs.YtilcajpldklbiaaGreatDoor.reviveFormats
open Go.ChangeShapes Go.WideShapes Go.ChangeAt Go.RowKit Go.Ab
set_option maxRecDepth 100000 in
theorem shs_ok:oJ cfg [(.arr 22 2 (.int .i64)),(.sl 28 (.st 26 [(.int .i64),(.int .i64),(.arr 24 8 (.int .u64))])),(.st 21 [(.int .i64),(.sl 38 (.int .i64))])] Tryz.f4.params.toList=true:=by kernel_rfl
set_option maxRecDepth 100000 in
theorem reads_ok:(Tryz.f4.params.toList).all (fun t=>Tryz.prog.readableRec t&&decide (t<Tryz.prog.types.size))=true:=by kernel_rfl
set_option maxRecDepth 100000 in
theorem lifted (os:Os) (started:os.Started) (H:Type) (enc:TypeId×Value→H):
 ReturnsInHanded {} Tryz.checked os 4 .any (fun w args=>(Rows.reviveFormatsSpec.pre enc Tryz.prog Tryz.f4 [] false w args∧laidMetH Tryz.prog BD w)∧sizedMet enc Tryz.prog Tryz.f4 (OpenSpec.ofChange Rows.reviveFormatsSpec) false w args)
  (Rows.reviveFormatsSpec.post enc Tryz.prog Tryz.f4 false true false false):=by
 refine returnsInHanded_of_change_and (C:=Tryz.checked) (X:=fun w _=>laidMetH Tryz.prog BD w) (fun _ _ _ hh h=>h.of_heap hh) own started (by kernel_rfl) Tryz.func4
  (ChangeSpec.witness_shaped (enc:=enc) (C:=Tryz.checked) (os:=os) (X:=fun w _=>laidMetH Tryz.prog BD w) false (World.doorLaid Tryz.prog 400 os) #[.agg #[.int .i64 0,.int .i64 0],.slice none 0 0,.agg #[.int .i64 0,.slice none 0 0]] 8 rfl (World.shaped_of_RefB (by kernel_rfl) (by kernel_rfl)) (by kernel_rfl) (by kernel_rfl) (by kernel_rfl) (OU os _)) ?_
 intro W base args ds gs before hval0 hW _ _ hL _;have hval:∀(j:Nat) t v,Tryz.f4.params.toList[j]?=some t→args.toList[j]?=some v→Value.okWide cfg.P W .any base t v:=fun j t v h1 h2=>hval0 j t v (by simpa using h1) (by simpa using h2);have hW':=hW;obtain⟨p,q,hA0,hV,rfl,hfz,hnd⟩:=hW;have hA:DataW.TrodAll enc cfg.P W 0 (fun _=>true) true Tryz.f4.params.toList args.toList ds p:=hA0;obtain⟨rfl,rfl⟩:=trodVars_none hV;refine(law_calls ctx shs_ok (Qj hL) Vg hA hval (fun hp vs hx h=>law_ReviveFormats hp vs hx h)).mono fun e W' ⟨he,bel⟩=> ?_;subst he;have hB:DataW.TrodAll enc Tryz.prog W' 0 (fun b=>decide (b<W.heap.size)) true Tryz.f4.params.toList args.toList ds p:=EI Tk bel reads_ok hA;rw[show Tryz.f4.params.toList=Tryz.f4.params.toList from rfl,Tryz.params4]at hA
 obtain⟨v0,vs0,d0,ds0,p0,q0,hargs0,rfl,rfl,h0,r0⟩:=trodAll_cons hA;obtain⟨v1,vs1,d1,ds1,p1,q1,hargs1,rfl,rfl,h1,r1⟩:=trodAll_cons r0;obtain⟨v2,vs2,d2,ds2,p2,q2,hargs2,rfl,rfl,h2,r2⟩:=trodAll_cons r1;obtain⟨rfl,rfl,rfl⟩:=trodAll_nil r2;exact⟨_,rfl,_,_,_,[],_,[],hW',trodAll_mk1 (shut_bool Tryz.underlying4 _),hB,rfl,bel.frame _,fun h=>by cases h⟩
theorem over:Rows.reviveFormatsRow.holds Tryz.pinned (OpenSpec.ofChange Rows.reviveFormatsSpec):=
 OpenClaim.holds_of_wide 4 Tryz.f4 rfl rfl rfl rfl rfl rfl rfl ⟨rfl,rfl,rfl,rfl,rfl⟩ rfl rfl rfl rfl rfl (by kernel_rfl) Tryz.func4 (by kernel_rfl)
  (of_decide_eq_true (by kernel_rfl)) (by unfold Func.isWrapper;first|(rw[if_pos (by decide+kernel)];kernel_rfl)|(rw[if_neg (by decide+kernel)];exact⟨rfl,rfl⟩))
  (fun os started H enc _=>lifted os started H enc)
end Go.Proofs.YtilcajpldklbiaaGreatDoor.reviveFormats
namespace Go.Proofs.YtilcajpldklbiaaGreatDoor
open Go
theorem ReviveFormats_holds:Rows.ReviveFormatsCardSaid:=
 Claim7.holds_tied_plain_at .later [] [.data] true (true, "68e7c0b8b7c77e7509b6a7735bf964af5fddfdd003ede5c4540f6d6ac766cf43") false
  reviveFormats.over (fun _ h=>by cases h) (by kernel_rfl) (fun _ h=>by cases h) reviveFormats_row_tie rfl ⟨rfl,rfl⟩ (by kernel_rfl) rfl
  (fun f fn hf hfn=>by
   obtain rfl:f=4:=Option.some.inj ((show Tryz.prog.funcNamed Rows.reviveFormatsRow.func=some 4 by kernel_rfl).symm.trans hf)|>.symm;obtain rfl:fn=Tryz.f4:=(Option.some.inj (Tryz.func4.symm.trans hfn)).symm;exact⟨by kernel_rfl,fun j t ht=>by
    have hall:(Tryz.f4.params.toList.all fun u=> !Tryz.prog.wantsStandIn u)=true:=by kernel_rfl
    have hm:t∈Tryz.f4.params.toList:=by simpa using Array.mem_of_getElem? ht
    exact(show Tryz.prog.wantsStandIn t=false by simpa using List.all_eq_true.1 hall t hm)⟩)
  (by kernel_rfl)
#print axioms ReviveFormats_holds
end Go.Proofs.YtilcajpldklbiaaGreatDoor
