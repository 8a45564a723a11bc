/-
  YtilcajpldklbiaaGreatDoorGlob: the listed table lies where the laws look.
-/
import Derived.Test.YtilcajpldklbiaaGreatDoorRows
import Derived.Test.YtilcajpldklbiaaGreatDoorChk
import Derived.Test.YtilcajpldklbiaaGreatDoorAbF
import Derived.ProofKit
import Derived.LaidMore
import Derived.OpenShut
import Derived.Stop.Joined
set_option maxRecDepth 100000
namespace Go.Proofs.YtilcajpldklbiaaGreatDoor
open Go.ChangeShapes Go.WideShapes Go.ChangeAt Go.RowKit Go.Ab
theorem OH : Tryz.prog.globalNamed "math/bits.deBruijn64tab" = some 0 := by kernel_rfl
theorem WO:(Tryz.prog.globals[0]?).map (·.type)=some 195:=by kernel_rfl
def BD : List (String × DataW Unit) := [("math/bits.deBruijn64tab", Rows.laid_math_bits_deBruijn64tab)]
theorem OU (os:Os) (args:Array Value):laidMetH Tryz.prog BD ((World.doorLaid Tryz.prog 400 os).forCall (fun _ _=>0) ⟨#[],args,[]⟩).memory:=
 laidMetH_of_parts3 (fuel:=8) (laidMet_of_run' 8 (by kernel_rfl) (by kernel_rfl)) (by kernel_rfl) (by kernel_rfl)
theorem Qb:(Rows.laid_math_bits_deBruijn64tab:DataW Unit)= .agg (se.map fun x=> .lit (.int .u8 x)):=by kernel_rfl
theorem Qj {W:World}(h:laidMetH Tryz.prog BD W):Inv cfg.T W ⟨[],[(⟨0,0,none⟩,108)]⟩ G:=by
 rw[MakeChecks.laidMetH_plain _ _ _ (by kernel_rfl)]at h;obtain⟨ps,⟨g0,t0,cs0,f0,p0,q0,hg0,ht0,hv0,hd0,_⟩,_⟩:=h;obtain rfl:=Option.some.inj (OH.symm.trans hg0);obtain rfl:=Option.some.inj (WO.symm.trans ht0);rw[Qb]at hd0;have hcs:cs0.toList=se.map (Value.int .u8):=EW Tryz.underlying195 Tryz.underlying5 (by kernel_rfl) (by kernel_rfl) hd0;simp only[World.var?,OH,Option.bind_some]at hv0;split at hv0
 ·rename_i c e fr hheap;cases hv0;refine Inv.push (UA cfg.T W) (ar:=(⟨0,0,none⟩,108)) (b:= .ro ep) ⟨Lb (by kernel_rfl),rfl,_,_,_,_,hheap,Bj (cs:=se.map (Value.int .u8)) (by kernel_rfl),fun i x hx=> ?_,rfl⟩ (by first|rfl|simp)
  rw[←hcs]at hx;rw[Nat.zero_add];simpa using hx
 ·cases hv0
theorem Vg:fb cfg.gl ⟨[],[(⟨0,0,none⟩,108)]⟩:=by intro g i t h;simp only[cfg,gls,List.mem_singleton,Zk]at h;obtain⟨rfl,rfl,rfl⟩:=h;rfl
end Go.Proofs.YtilcajpldklbiaaGreatDoor
