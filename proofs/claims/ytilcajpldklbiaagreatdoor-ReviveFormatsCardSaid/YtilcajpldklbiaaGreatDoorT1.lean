/-
  YtilcajpldklbiaaGreatDoorT1: what functions of the program compute (ReachA, CapsA, CapsB, CapsC, NvmA, FrmA, FrmB, ObjO, ObjA, ObjG, NxtA, DooA, ObjB).
-/
import Derived.Test.YtilcajpldklbiaaGreatDoorCode
import Derived.Test.YtilcajpldklbiaaGreatDoorAbD
import Derived.Test.YtilcajpldklbiaaGreatDoorAbE
import Derived.KernelRfl
import Derived.Laws.Bits64
set_option maxRecDepth 100000
namespace Go.Proofs.YtilcajpldklbiaaGreatDoor
open Go.Ab
structure Cap where
 kind:Int
 rights:Int
 id:Int
 ver:Int
 badge:Int
 deriving DecidableEq
def Cap.v (c:Cap):V:= .agg 40 [.int .i64 c.kind,.int .i64 c.rights,.int .i64 c.id,.int .i64 c.ver,.int .i64 c.badge]
theorem Bx {r:Nat}(h:r<64):2^r<18446744073709551616:=Nat.pow_lt_pow_right (show 1<2 by decide) h
theorem zw {w i:Nat}(hw:w<18446744073709551616) (hi:i≤64) (s:St):rf D lE [.int .u64 w,.int .i64 i] s=some (.int .u64 (w/2^i%2:Nat),s):=by
 have e1:gW .u64 (w:Int) (i:Int)=((w/2^i:Nat):Int):=by rw[uo (w:Int) i hi,Int.natCast_ediv,Int.natCast_pow];rfl
 have e2:iZ .u64 ((w/2^i:Nat):Int) 1=((w/2^i%2:Nat):Int):=by have hlt:w/2^i<18446744073709551616:=Nat.lt_of_le_of_lt (Nat.div_le_self _ _) hw;generalize w/2^i=y at*;have:=yL (y:Int) 1 (by omega) (by omega) (by decide);rw[show(1:Int)=2^1-1 by decide,this];simp
 generalize w/2^i%2=z at*;generalize w/2^i=y at*;have d:¬(i:Int)<0:=by omega
 rw[ab xj rfl];simp only[go_sem,e1,e2,d]
theorem NY {a b:Nat}(h1:1≤b) (h2:a+b≤64) (s:St):rf D mg [.int .i64 a,.int .i64 b] s=some (.bool true,s):=by
 have e:IntKind.i64.wrap ((a:Int)+(b:Int))=((a+b:Nat):Int):=by rw[ae (by omega) (by omega)];omega
 have c1:(0:Int)≤a:=by omega
 have c2:(a:Int)≤63:=by omega
 have c3:(1:Int)≤b:=by omega
 have c4:(b:Int)≤64:=by omega
 have c5:((a+b:Nat):Int)≤64:=by omega
 rw[ab ya rfl];simp only[go_sem,c1,c2,c3,c4,e,c5]
theorem R3 {w a v i:Nat}(hw:w<2^a):w+v%2^i*2^a<2^(a+i):=by have h1:v%2^i<2^i:=Nat.mod_lt _ (Nat.two_pow_pos i);have h2:(v%2^i+1)*2^a≤2^i*2^a:=Nat.mul_le_mul_right _ h1;rw[Nat.pow_add,Nat.mul_comm (2^a)];rw[Nat.add_mul,Nat.one_mul]at h2;omega
theorem MM {w a v i:Nat}:w+v%2^(i+1)*2^a=w+v%2^i*2^a+v/2^i%2*2^(a+i):=by rw[Nat.mod_pow_succ,Nat.add_mul,Nat.pow_add,←Nat.add_assoc];congr 1;rw[Nat.mul_comm (2^i),Nat.mul_assoc,Nat.mul_comm (2^i)]
theorem Df {w a b v:Nat}(hb:1≤b) (hab:a+b≤64) (hw:w<2^a) (hv:v<2^b) (s:St):
 rf D da [.int .u64 w,.int .i64 a,.int .i64 b,.int .u64 v] s=some (.tup [.int .u64 (w+v*2^a:Nat),.int .i64 0],s):=by
 have hw64:w<18446744073709551616:=Nat.lt_trans hw (Bx (by omega));have hv64:v<18446744073709551616:=Nat.lt_of_lt_of_le hv (show 2^b≤2^64 from Nat.pow_le_pow_right (by decide) (by omega))
 have his:=fun s=>NY hb hab s;have loop1:rc D s.loc.length (.loop [0,1,2,3,10] fH) [(0,.int .u64 w),(1,.int .i64 a),(2,.int .i64 b),(3,.int .u64 v),(10,.int .i64 b)] s=
  some (.exit 0,[(0,.int .u64 w),(1,.int .i64 a),(2,.int .i64 b),(3,.int .u64 v),(10,.int .i64 64),(18,.bool false)],s):=by
  refine bC (fun x:Nat=>[(0,.int .u64 w),(1,.int .i64 a),(2,.int .i64 b),(3,.int .u64 v),(10,.int .i64 x)]) (fun _=>s) (fun _=>_) (fun x=>64-x) (fun x=>b≤x∧x≤64) b ?_ ⟨Nat.le_refl _,by omega⟩ rfl rfl;rintro i ⟨h1,h2⟩;by_cases c1:i<64
  ·left;have d1:(i:Int)<64:=by omega
   have d4:IntKind.i64.wrap ((i:Int)+1)=(i:Int)+1:=ae (by omega) (by omega);have hbit:=fun s=>zw hv64 (i:=i) (by omega) s;have hz:v/2^i%2=0:=by rw[Nat.div_eq_of_lt (Nat.lt_of_lt_of_le hv (Nat.pow_le_pow_right (by decide) h1))]
   rw[hz]at hbit;refine⟨i+1,⟨by omega,by omega⟩,by omega,rfl,?_⟩;simp only[go_sem,fH,d1,hbit,d4];rfl
  ·right;have:i=64:=by omega
   subst this;simp only[go_sem,fH]
 have loop2:rc D s.loc.length (.loop [0,1,2,3,11] d9) [(0,.int .u64 w),(1,.int .i64 a),(2,.int .i64 b),(3,.int .u64 v),(11,.int .i64 0)] s=
  some (.exit 2,[(0,.int .u64 (w+v*2^a:Nat)),(1,.int .i64 a),(2,.int .i64 b),(3,.int .u64 v),(11,.int .i64 b),(27,.bool false)],s):=by
  refine bC (fun x:Nat=>[(0,.int .u64 (w+v%2^x*2^a:Nat)),(1,.int .i64 a),(2,.int .i64 b),(3,.int .u64 v),(11,.int .i64 x)]) (fun _=>s) (fun _=>_) (fun x=>b-x) (fun x=>x≤b) 0 ?_ (Nat.zero_le _) (by simp[Nat.mod_one]) rfl;intro i h2;by_cases c1:i<b
  ·left;have d1:(i:Int)<b:=by omega
   have d4:IntKind.i64.wrap ((i:Int)+1)=(i:Int)+1:=ae (by omega) (by omega);have e1:IntKind.i64.wrap ((a:Int)+(i:Int))=((a+i:Nat):Int):=by rw[ae (by omega) (by omega)];omega
   have hlt:=R3 (v:=v) (i:=i) hw;have h64:2^(a+i)<18446744073709551616:=Bx (by omega);have hx64:w+v%2^i*2^a<18446744073709551616:=Nat.lt_trans hlt h64;have hb1:=fun s=>zw hv64 (i:=i) (by omega) s;have hb2:=fun s=>zw hx64 (i:=a+i) (by omega) s;rw[Nat.div_eq_of_lt hlt]at hb2;have hs:=MM (w:=w) (a:=a) (v:=v) (i:=i);have hsh:pZ .u64 1 ((a+i:Nat):Int)=((2^(a+i):Nat):Int):=by rw[tO 1 (a+i) (by omega),Int.one_mul,show(2:Int)^(a+i)=((2^(a+i):Nat):Int) by rw[Int.natCast_pow];rfl];generalize 2^(a+i)=p at*;omega
   have hx:=wE hx64 h64;rw[SS hlt]at hx;refine⟨i+1,by omega,by omega,rfl,?_⟩;simp only[hs];have h2:v/2^i%2<2:=Nat.mod_lt _ (by decide);generalize w+v%2^i*2^a=x at*;generalize v/2^i%2=z at*;generalize 2^(a+i)=p at*;have d3:¬((a+i:Nat):Int)<0:=by omega
   generalize a+i=q at*;by_cases hz:z=1
   ·subst hz;simp only[go_sem,d9,d1,e1,hb1,hb2,d3,hsh,hx,d4];simp only[Nat.one_mul];rfl
   ·have hz0:z=0:=by omega
    subst hz0;simp only[go_sem,d9,d1,e1,hb1,hb2,d4];simp only[Nat.zero_mul,Nat.add_zero];rfl
  ·right;have:i=b:=by omega
   subst this;have d1:¬(i:Int)<i:=by omega
   rw[Nat.mod_eq_of_lt hv];simp only[go_sem,d9,d1]
 generalize w+v*2^a=r at*;rw[ab wc rfl];simp only[go_sem,his,loop1,loop2]
theorem yR {w a b:Nat}(hb:1≤b) (hab:a+b≤64) (hw:w<18446744073709551616) (s:St):
 rf D cT [.int .u64 w,.int .i64 a,.int .i64 b] s=some (.int .u64 (w/2^a%2^b:Nat),s):=by
 have his:=fun s=>NY hb hab s;have loop:rc D s.loc.length (.loop [0,1,2,7,8] eY) [(0,.int .u64 w),(1,.int .i64 a),(2,.int .i64 b),(7,.int .u64 0),(8,.int .i64 0)] s=
  some (.exit 0,[(0,.int .u64 w),(1,.int .i64 a),(2,.int .i64 b),(7,.int .u64 (w/2^a%2^b:Nat)),(8,.int .i64 b),(15,.bool false)],s):=by
  refine bC (fun x:Nat=>[(0,.int .u64 w),(1,.int .i64 a),(2,.int .i64 b),(7,.int .u64 (w/2^a%2^x:Nat)),(8,.int .i64 x)]) (fun _=>s) (fun _=>_) (fun x=>b-x) (fun x=>x≤b) 0 ?_ (Nat.zero_le _) (by simp[Nat.mod_one]) rfl;intro i h2;by_cases c1:i<b
  ·left;have d1:(i:Int)<b:=by omega
   have d4:IntKind.i64.wrap ((i:Int)+1)=(i:Int)+1:=ae (by omega) (by omega);have e1:IntKind.i64.wrap ((a:Int)+(i:Int))=((a+i:Nat):Int):=by rw[ae (by omega) (by omega)];omega
   have hb1:=fun s=>zw hw (i:=a+i) (by omega) s;have hlt:w/2^a%2^i<2^i:=Nat.mod_lt _ (Nat.two_pow_pos i);have h64:2^i<18446744073709551616:=Bx (by omega);have hs:w/2^a%2^(i+1)=w/2^a%2^i+w/2^(a+i)%2*2^i:=by rw[Nat.mod_pow_succ,Nat.div_div_eq_div_mul,←Nat.pow_add,Nat.mul_comm (2^i)]
   refine⟨i+1,by omega,by omega,rfl,?_⟩;simp only[hs];have hz2:w/2^(a+i)%2<2:=Nat.mod_lt _ (by decide);generalize w/2^(a+i)%2=z at*;have hzp:z*2^i<18446744073709551616:=by have:z*2^i≤1*2^i:=Nat.mul_le_mul_right _ (by omega);omega
   have hsh:pZ .u64 (z:Int) (i:Int)=((z*2^i:Nat):Int):=by rw[tO (z:Int) i (by omega),show(2:Int)^i=((2^i:Nat):Int) by rw[Int.natCast_pow];rfl,←Int.natCast_mul];generalize z*2^i=p at*;omega
   have hor:=DE (n:=w/2^a%2^i) (m:=z) i hlt (by omega) hzp;generalize w/2^a%2^i=x at*;have d3:¬(i:Int)<0:=by omega
   generalize z*2^i=p at*;generalize a+i=q at*;simp only[go_sem,eY,d1,e1,hb1,d3,hsh,hor,d4];rfl
  ·right;have:i=b:=by omega
   subst this;have d1:¬(i:Int)<i:=by omega
   simp only[go_sem,eY,d1]
 generalize w/2^a%2^b=r at*;rw[ab vA rfl];simp only[go_sem,his,loop]
def Cap.word (c:Cap):Int:=c.kind+c.rights*16+c.id*256+c.ver*16777216+c.badge*281474976710656
structure Cap.Ok (c:Cap):Prop where
 k:1≤c.kind∧c.kind≤6
 r:0≤c.rights∧c.rights≤15
 i:0≤c.id∧c.id≤48
 v:0≤c.ver∧c.ver≤16777215
 b:0≤c.badge∧c.badge≤65535
 free:(c.kind=5∨c.kind=6)→c.id=0∧c.ver=0
def lnV (l:List Int):V:= .agg 24 (l.map (.int .u64))
def zl:List Int:=List.replicate 8 0
def zfl:V:= .agg 50 (List.replicate 8 (.int .i64 0))
def nlV (now sure since fl:V):V:= .agg 55 [now,sure,since,fl]
def zln:V:= .agg 24 (List.replicate 8 (.int .u64 0))
def U5 (k n:Nat) (off burns:Bool) (left lu:Int):V:= .agg 59 [.sl (.hp k) [] 0 n (some n) 55,.bool off,.bool burns,.int .i64 left,.int .i64 lu]
theorem LM {n:Nat}(h0:64≤n) (h1:n≤1024) (s:St):rf D uL [.int .i64 n] s=
 some (.tup [.ptr (.hp (s.hp.length+1)) [] 59,.int .i64 0],⟨s.loc,s.hp++[.rw (.agg 57 (tab n fun _=>nlV zln zln .nils zfl)),.rw (U5 s.hp.length n false false 0 0)]⟩):=by
 have c1:¬(n:Int)<64:=by omega
 have c2:¬1024<(n:Int):=by omega
 have c3:(0:Int)≤n:=by omega
 have c4:¬(n:Int)<0:=by omega
 have c5:(n:Int)≤4611686018427387904:=by omega
 have hm:(n:Int)≤(cg:Nat):=by unfold cg;omega
 rw[ab Ml rfl,←co];simp only[nlV,zln,zfl,U5];simp only[go_sem,c1,c2,c3,hm,Int.le_refl,Zh]
def rmV (k n k2:Nat) (off:Bool) (left count:Int):V:= .agg 33 [.sl (.hp k) [] 0 n none 24,.sl (.hp k2) [] 0 n (some n) 1,.bool off,.int .i64 left,.int .i64 count]
theorem I9 {n a:Nat}{ls:Nat→List Int}(h0:64≤n) (h1:n≤1024) (s:St) (hs:s.loc[a]?=some (.rw (.agg 58 (tab n fun i=>lnV (ls i))))):rf D mn [.sl (.loc a) [] 0 n (some n) 24] s=
 some (.tup [.ptr (.hp (s.hp.length+3)) [] 33,.int .i64 0],⟨s.loc,s.hp++[.rw (.agg 58 []),.rw (.agg 58 (tab n fun i=>lnV (ls i))),.rw (.agg 53 (tab n fun _=> .nils)),
  .rw (.agg 33 [.sl (.hp (s.hp.length+1)) [] 0 n none 24,.sl (.hp (s.hp.length+2)) [] 0 n (some n) 1,.bool false,.int .i64 (-1),.int .i64 0])]⟩):=by
 have c1:¬(n:Int)<64:=by omega
 have c2:¬1024<(n:Int):=by omega
 have c3:(0:Int)≤n:=by omega
 have hm:(n:Int)≤(cg:Nat):=by unfold cg;omega
 have hl:=iI n fun i=>lnV (ls i);rw[ab yd rfl,←co];have happ:=Pk (base:=s.loc.length) (r:=58) (e:=24) (h:=true) (s:=⟨s.loc,s.hp++[.rw (.agg 58 [])]⟩) (a:= .hp s.hp.length) (p:=[]) (o:=0) (n:=0) (c:=0) (y:= .sl (.loc a) [] 0 n (some n) 24) (old:=[]) (new:=tab n fun i=>lnV (ls i))
  (.inr ⟨_,_,_,_,_,rfl⟩) (by simp[St.elems]) (cR (t:=58) (by simp only[go_sem,hs]) hl.symm) (by intro h;rw[h]at hl;simp at hl;omega) (by simp only[List.length_nil,hl];omega) (by simp only[List.length_nil,hl];unfold cg;omega) rfl
 generalize tab n (fun i=>lnV (ls i))=T at*;simp only[List.nil_append,List.length_nil,Nat.zero_add,hl]at happ;simp only[go_sem]at happ;simp only[go_sem,c1,c2,c3,hm,happ,List.replicate_zero,Int.le_refl,Zh]
def w16 (l:List Nat):List Nat:=l++List.replicate (16-l.length) 0
abbrev cN (n:Nat):V:=V.int .u64 (n:Int)
def frV (f l:Int) (wf wl:List Nat):V:= .agg 80 [.int .i64 f,.int .i64 l,.agg 78 (wf.map cN),.agg 78 (wl.map cN)]
def bit (w:List Nat) (i:Nat):Bool:=(w.getD (i/64) 0).testBit (i%64)
def flip (w:List Nat) (i:Nat):List Nat:=w.set (i/64) ((w.getD (i/64) 0)^^^2^(i%64))
structure OkS (w:List Nat):Prop where
 len:w.length=16
 lt:∀x∈w,x<18446744073709551616
theorem HL {r:Nat}(h:r<64):2^r<18446744073709551616:=Nat.pow_lt_pow_right (show 1<2 by decide) h
theorem OkS.get {w:List Nat}(h:OkS w) {q:Nat}(hq:q<16):w.getD q 0<18446744073709551616:=h.lt _ (wO (by rw[h.len];exact hq) 0)
theorem OkS.flip {w:List Nat}(h:OkS w) {i:Nat}(hi:i<1024):OkS (flip w i):=by
 refine⟨by simp[YtilcajpldklbiaaGreatDoor.flip,h.len],fun x hx=> ?_⟩;rcases List.mem_or_eq_of_mem_set hx with hx|rfl
 ·exact h.lt x hx
 ·exact Nat.xor_lt_two_pow (n:=64) (h.get (by omega)) (HL (by omega))
theorem AN {w:List Nat}(h:OkS w) {i:Nat}(hi:i<1024) (j:Nat):bit (flip w i) j=((bit w j)^^decide (i=j)):=by
 unfold bit YtilcajpldklbiaaGreatDoor.flip;have hlen:=h.len;by_cases hq:i/64=j/64
 ·have e:(w.set (i/64) (w.getD (i/64) 0^^^2^(i%64))).getD (j/64) 0=w.getD (j/64) 0^^^2^(i%64):=by rw[hq,List.getD_eq_getElem?_getD,List.getElem?_set_self (by omega)];rfl
  rw[e,Nat.testBit_xor,Nat.testBit_two_pow];congr 1;apply decide_eq_decide.2;omega
 ·have e:(w.set (i/64) (w.getD (i/64) 0^^^2^(i%64))).getD (j/64) 0=w.getD (j/64) 0:=by rw[List.getD_eq_getElem?_getD,List.getElem?_set_ne hq,List.getD_eq_getElem?_getD]
  have hij:¬i=j:=fun h=>hq (by rw[h]);rw[e];simp[hij]
theorem KT {i:Nat}(hi:i<1024):IntKind.i64.wrap ((i:Int).tdiv 64)=((i/64:Nat):Int):=by rw[show(64:Int)=((64:Nat):Int) by rfl,←Int.ofNat_tdiv];exact ae (by omega) (by omega)
theorem LI {i:Nat}:(i:Int).tmod 64=((i%64:Nat):Int):=by rw[show(64:Int)=((64:Nat):Int) by rfl,←Int.ofNat_tmod]
theorem pb {w r:Nat}(hr:r≤64):gW .u64 (w:Int) (r:Int)=((w/2^r:Nat):Int):=by rw[uo (w:Int) r hr,Int.natCast_ediv,Int.natCast_pow];rfl
theorem JQ {x:Nat}(hx:x<18446744073709551616):iZ .u64 (x:Int) 1=((x%2:Nat):Int):=by have:=yL (x:Int) 1 (by omega) (by omega) (by decide);rw[show(1:Int)=2^1-1 by decide,this];simp
theorem Tz {r:Nat}(hr:r<64):pZ .u64 1 (r:Int)=((2^r:Nat):Int):=by rw[tO 1 r (by omega)];have h:=HL hr;rw[Int.one_mul,show(2:Int)^r=((2^r:Nat):Int) by rw[Int.natCast_pow];rfl];generalize 2^r=p at*;omega
theorem TU (s:St) (a:Nat) (F L X:V) (w:List Nat) (hw:OkS w) (hb:s.hp[a]?=some (.rw (.agg 80 [F,L,.agg 78 (w.map cN),X]))) (i:Nat) (hi:i<1024):
 rf D lC [.ptr (.hp a) [2] 78,.int .i64 i] s=some (.bool (bit w i),s):=by
 have e1:=KT hi;have e2:=LI (i:=i);have hq:i/64<16:=by omega
 have hr:i%64<64:=by omega
 have hg:=am (f:=cN) (l:=w) (i:=i/64) (by rw[hw.len];exact hq) 0;have hlt:=hw.get hq;unfold bit;generalize i/64=q at*;generalize i%64=r at*;generalize w.getD q 0=x at*;have e3:=pb (w:=x) (r:=r) (by omega);have hx2:x/2^r<18446744073709551616:=Nat.lt_of_le_of_lt (Nat.div_le_self _ _) hlt;have e4:=JQ hx2;rw[Nat.testBit_eq_decide_div_mod_eq];generalize x/2^r=y at*;generalize y%2=z at*;have d1:(q:Int)<16:=by omega
 have d2:(0:Int)≤q:=by omega
 have d3:¬(r:Int)<0:=by omega
 rw[ab uh rfl];simp only[go_sem,e1,e2,d1,d2];rw[Zh];simp only[go_sem,hb,hg,e3,e4,d3];have e5:decide ((z:Int)=1)=decide (z=1):=decide_eq_decide.2 (by omega);rw[e5]
theorem Td (s:St) (a:Nat) (F L X:V) (w:List Nat) (hw:OkS w) (hb:s.hp[a]?=some (.rw (.agg 80 [F,L,X,.agg 78 (w.map cN)]))) (i:Nat) (hi:i<1024):
 rf D lC [.ptr (.hp a) [3] 78,.int .i64 i] s=some (.bool (bit w i),s):=by
 have e1:=KT hi;have e2:=LI (i:=i);have hq:i/64<16:=by omega
 have hr:i%64<64:=by omega
 have hg:=am (f:=cN) (l:=w) (i:=i/64) (by rw[hw.len];exact hq) 0;have hlt:=hw.get hq;unfold bit;generalize i/64=q at*;generalize i%64=r at*;generalize w.getD q 0=x at*;have e3:=pb (w:=x) (r:=r) (by omega);have hx2:x/2^r<18446744073709551616:=Nat.lt_of_le_of_lt (Nat.div_le_self _ _) hlt;have e4:=JQ hx2;rw[Nat.testBit_eq_decide_div_mod_eq];generalize x/2^r=y at*;generalize y%2=z at*;have d1:(q:Int)<16:=by omega
 have d2:(0:Int)≤q:=by omega
 have d3:¬(r:Int)<0:=by omega
 rw[ab uh rfl];simp only[go_sem,e1,e2,d1,d2];rw[Zh];simp only[go_sem,hb,hg,e3,e4,d3];have e5:decide ((z:Int)=1)=decide (z=1):=decide_eq_decide.2 (by omega);rw[e5]
theorem By (s:St) (a:Nat) (F L X:V) (w:List Nat) (hw:OkS w) (hb:s.hp[a]?=some (.rw (.agg 80 [F,L,.agg 78 (w.map cN),X]))) (i:Nat) (hi:i<1024):
 rf D nN [.ptr (.hp a) [2] 78,.int .i64 i] s=some (.tup [],⟨s.loc,s.hp.set a (.rw (.agg 80 [F,L,.agg 78 ((flip w i).map cN),X]))⟩):=by
 have e1:=KT hi;have e2:=LI (i:=i);have hq:i/64<16:=by omega
 have hr:i%64<64:=by omega
 have hg:=am (f:=cN) (l:=w) (i:=i/64) (by rw[hw.len];exact hq) 0;have hlt:=hw.get hq;unfold YtilcajpldklbiaaGreatDoor.flip;generalize i/64=q at*;generalize i%64=r at*;generalize w.getD q 0=x at*;have e3:=Tz hr;have e4:=wE hlt (HL hr);rw[List.map_set];generalize x^^^2^r=y at*;generalize 2^r=z at*;have d1:(q:Int)<16:=by omega
 have d2:(0:Int)≤q:=by omega
 have d3:¬(r:Int)<0:=by omega
 rw[ab zY rfl];simp only[go_sem,e1,e2,d1,d2,d3];rw[Zh];simp only[go_sem,hb,hg,e3,e4]
theorem UQ {l:List Nat}(hl:l.length≤16) (h:∀x∈l,x<18446744073709551616):OkS (w16 l):=by
 refine⟨by simp[w16];omega,fun x hx=> ?_⟩;rcases List.mem_append.1 hx with hx|hx
 ·exact h x hx
 ·rw[List.eq_of_mem_replicate hx];decide
theorem zN (i:Nat):bit (w16 []) i=false:=by unfold bit w16;simp only[List.nil_append,List.length_nil,Nat.sub_zero,List.getD_eq_getElem?_getD,List.getElem?_replicate];split<;>exact Nat.zero_testBit _
theorem BG:OkS (w16 []):=UQ (by decide) (by simp)
theorem RZ:(w16 []).map cN=List.replicate 16 (V.int .u64 0):=rfl
def fQ (f l:Int) (wf wl:List Nat) (line:Int):Int:=
 if line<f∨l≤line then-1 else if bit wf line.toNat then 0 else if bit wl line.toNat then 2 else 1
structure Fr (s:St) (a:Nat) (f l:Int) (wf wl:List Nat):Prop where
 blk:s.hp[a]?=some (.rw (frV f l wf wl))
 f0:0≤f
 l1:l≤1024
 okf:OkS wf
 okl:OkS wl
theorem Ps {s:St}{a:Nat}{f l:Int}{wf wl:List Nat}(h:Fr s a f l wf wl) (line:Int):
 rf D kT [.ptr (.hp a) [] 80,.int .i64 line] s=some (.int .i64 (fQ f l wf wl line),s):=by
 have hb:=h.blk;have h0:=h.f0;have h1:=h.l1;unfold fQ;simp only[frV]at hb;by_cases c1:line<f
 ·rw[if_pos (.inl c1),ab kJ rfl];simp only[go_sem,hb,c1]
 ·by_cases c2:l≤line
  ·rw[if_pos (.inr c2),ab kJ rfl];simp only[go_sem,hb,c1,c2]
  ·rw[if_neg (by omega)];obtain⟨i,rfl⟩:∃i:Nat,line=i:=⟨line.toNat,by omega⟩;have e1:=TU s a _ _ _ wf h.okf hb i (by omega);have e2:=Td s a _ _ _ wl h.okl hb i (by omega);rw[Zh,ab kJ rfl];simp only[go_sem,hb,c1,c2,e1];cases bit wf i
   ·simp only[go_sem,e2]
   ·simp only[go_sem]
def inE (st want:Int):Int:=if st=-1 then 1 else if st=want then 0 else 3
theorem RM {s:St}{a:Nat}{f l:Int}{wf wl:List Nat}(h:Fr s a f l wf wl) (line want:Int):
 rf D mH [.ptr (.hp a) [] 80,.int .i64 line,.int .i64 want] s=some (.int .i64 (inE (fQ f l wf wl line) want),s):=by
 have e:=Ps h line;unfold inE;generalize fQ f l wf wl line=t at*;rw[ab yQ rfl];by_cases c1:t=-1
 ·simp only[go_sem,e,c1]
 ·by_cases c2:t=want
  ·subst c2;simp only[go_sem,e,c1]
  ·simp only[go_sem,e,c1,c2]
theorem zB {f l:Int}{wf wl:List Nat}{line:Int}(h:fQ f l wf wl line≠-1):f≤line∧line<l:=by
 unfold fQ at h;split at h
 ·exact absurd rfl h
 ·omega
theorem Cu {s:St}{a:Nat}{f l:Int}{wf wl:List Nat}(h:Fr s a f l wf wl) (line:Int) (ht:fQ f l wf wl line=0):
 rf D ij [.ptr (.hp a) [] 80,.int .i64 line] s=some (.int .i64 0,⟨s.loc,s.hp.set a (.rw (frV f l (flip wf line.toNat) wl))⟩):=by
 have e:=RM h line 0;rw[ht]at e;have hl:=zB (show fQ f l wf wl line≠-1 by rw[ht];decide);have h0:=h.f0;have h1:=h.l1;obtain⟨i,rfl⟩:∃i:Nat,line=i:=⟨line.toNat,by omega⟩;have hb:=h.blk;simp only[frV]at hb⊢;have e1:=By s a _ _ _ wf h.okf hb i (by omega);rw[Zh,ab pV rfl];have hi:inE 0 0=0:=rfl;simp only[go_sem,e,hi,e1]
theorem CO {s:St}{a:Nat}{f l:Int}{wf wl:List Nat}(h:Fr s a f l wf wl) (line:Int) (ht:fQ f l wf wl line≠0):
 rf D ij [.ptr (.hp a) [] 80,.int .i64 line] s=some (.int .i64 (inE (fQ f l wf wl line) 0),s):=by
 have e:=RM h line 0;have hn:¬inE (fQ f l wf wl line) 0=0:=by unfold inE;split<;>simp_all
 rw[ab pV rfl];simp only[go_sem,e,hn]
theorem KH (f l:Int) (h:f<0∨l<f∨1024<l) (s:St):rf D mR [.int .i64 f,.int .i64 l] s=some (.tup [.nilp,.int .i64 1],s):=by
 rw[ab yV rfl];by_cases h1:f<0
 ·simp only[go_sem,h1]
 ·by_cases h2:l<f
  ·simp only[go_sem,h1,h2]
  ·have h3:1024<l:=by omega
   simp only[go_sem,h1,h2,h3]
theorem yo (f l:Int) (h0:0≤f) (h1:f≤l) (h2:l≤1024) (s:St):
 ∃w,OkS w∧(∀j:Nat,j<1024→bit w j=(decide (f≤j)&&decide ((j:Int)<l)))∧
  rf D mR [.int .i64 f,.int .i64 l] s=some (.tup [.ptr (.hp s.hp.length) [] 80,.int .i64 0],⟨s.loc,s.hp++[.rw (frV f l w (w16 []))]⟩):=by
 obtain⟨a,rfl⟩:∃n:Nat,f=n:=⟨f.toNat,by omega⟩;obtain⟨b,rfl⟩:∃n:Nat,l=n:=⟨l.toNat,by omega⟩;have loop:∃r,rc D s.loc.length (.loop [0,6,25,26] mY) [(0,.int .i64 a),(6,.ptr (.hp s.hp.length) [] 80),(25,.int .i64 (b-a:Nat)),(26,.int .i64 0)] ⟨s.loc,s.hp++[.rw (frV a b (w16 []) (w16 []))]⟩=some r∧
  ∃w:List Nat,r=(.exit 0,[(0,.int .i64 a),(6,.ptr (.hp s.hp.length) [] 80),(25,.int .i64 (b-a:Nat)),(26,.int .i64 (b-a:Nat)),(27,.bool false)],⟨s.loc,s.hp++[.rw (frV a b w (w16 []))]⟩)∧
   OkS w∧∀j:Nat,j<1024→bit w j=(decide (a≤j)&&decide (j<b)):=by
  refine o7 (fun x:Nat×List Nat=>[(0,.int .i64 a),(6,.ptr (.hp s.hp.length) [] 80),(25,.int .i64 (b-a:Nat)),(26,.int .i64 x.1)]) (fun x=>⟨s.loc,s.hp++[.rw (frV a b x.2 (w16 []))]⟩) _ (fun x=>b-a-x.1)
   (fun x=>x.1≤b-a∧OkS x.2∧∀j:Nat,j<1024→bit x.2 j=(decide (a≤j)&&decide (j<a+x.1))) (0,w16 []) ?_ ⟨by simp,BG,fun j hj=> ?_⟩ rfl rfl
  ·rintro⟨i,w⟩ ⟨hi,hok,hbit⟩;simp only at hi hok hbit;by_cases c1:i<b-a
   ·left;have d1:(i:Int)<(b-a:Nat):=by omega
    have d4:IntKind.i64.wrap ((i:Int)+1)=(i:Int)+1:=ae (by omega) (by omega);have e1:IntKind.i64.wrap ((a:Int)+(i:Int))=((a+i:Nat):Int):=by rw[ae (by omega) (by omega)];omega
    have r1:=By ⟨s.loc,s.hp++[.rw (.agg 80 [.int .i64 a,.int .i64 b,.agg 78 (w.map cN),.agg 78 ((w16 []).map cN)])]⟩ s.hp.length (.int .i64 a) (.int .i64 b) (.agg 78 ((w16 []).map cN)) w hok (by simp) (a+i) (by omega);simp only[wF,List.set_cons_zero]at r1;refine⟨(i+1,flip w (a+i)),⟨by simp only;omega,hok.flip (by omega),fun j hj=> ?_⟩,by simp only;omega,?_⟩
    ·simp only;rw[AN hok (by omega),hbit j hj];by_cases hij:a+i=j
     ·subst hij;simp
     ·have:decide (j<a+(i+1))=decide (j<a+i):=decide_eq_decide.2 (by omega);simp[hij,this]
    ·simp only[frV];generalize a+i=n at*;simp only[go_sem,mY,d1,d4,e1,r1];rfl
   ·right;have:i=b-a:=by omega
    subst this;refine⟨_,?_,w,rfl,hok,fun j hj=> ?_⟩
    ·have d1:¬((b-a:Nat):Int)<((b-a:Nat):Int):=by omega
     simp only[go_sem,mY,d1]
    ·rw[hbit j hj,show a+(b-a)=b by omega]
  ·simp only;rw[zN];by_cases h1:a≤j
   ·simp
   ·simp[h1]
 obtain⟨_,hl,w,rfl,hok,hbit⟩:=loop;refine⟨w,hok,fun j hj=> ?_,?_⟩
 ·rw[hbit j hj];have e1:decide ((a:Int)≤j)=decide (a≤j):=decide_eq_decide.2 (by omega);have e2:decide ((j:Int)<b)=decide (j<b):=decide_eq_decide.2 (by omega);rw[e1,e2]
 ·have c1:¬(a:Int)<0:=by omega
  have c2:¬(b:Int)<a:=by omega
  have c3:¬1024<(b:Int):=by omega
  have e1:IntKind.i64.wrap ((b:Int)-(a:Int))=((b-a:Nat):Int):=by rw[ae (by omega) (by omega)];omega
  simp only[frV,RZ]at hl⊢;generalize b-a=n at*;rw[ab yV rfl];simp only[go_sem,c1,c2,c3,e1,hl]
def rfV (f:Int) (c n:Nat):V:= .agg 21 [.int .i64 f,.sl (.hp c) [] 0 n (some n) 10]
structure Rf (s:St) (b c:Nat) (f:Int) (S:List Int):Prop where
 rb:s.hp[b]?=some (.rw (rfV f c S.length))
 sb:s.hp[c]?=some (.rw (.agg 38 (S.map (.int .i64))))
 f0:0≤f
 n:f+S.length≤1024
def stS (f:Int) (S:List Int) (line:Int):Int:=if line<f∨(S.length:Int)≤line-f then-1 else S.getD (line-f).toNat 0
theorem zE {c n k:Nat}(h:k<n):eD 10 (.sl (.hp c) [] 0 n (some n) 10) (.int .i64 (k:Int))=some (.ptr (.hp c) [k] 10):=by simp[eD,h]
theorem Of {s:St}{b c:Nat}{f:Int}{S:List Int}(h:Rf s b c f S) (line:Int) (hl:line≤9223372036854775807):
 rf D fC [.ptr (.hp b) [] 21,.int .i64 line] s=some (.int .i64 (stS f S line),s):=by
 have hb:=h.rb;have hc:=h.sb;have h0:=h.f0;have hn:=h.n;unfold stS;simp only[rfV]at hb;by_cases c1:line<f
 ·rw[if_pos (.inl c1),ab fu rfl];simp only[go_sem,hb,c1]
 ·have e1:IntKind.i64.wrap (line-f)=line-f:=ae (by omega) (by omega);by_cases c2:(S.length:Int)≤line-f
  ·rw[if_pos (.inr c2),ab fu rfl];simp only[go_sem,hb,c1,e1,c2]
  ·obtain⟨k,hk⟩:∃k:Nat,line-f=k:=⟨(line-f).toNat,by omega⟩;rw[if_neg (by omega)];rw[hk]at e1 c2⊢;have hkl:k<S.length:=by omega
   have hg:=am (f:=V.int .i64) (l:=S) hkl 0;rw[Zh,ab fu rfl];simp only[go_sem,hb,c1,hk,e1,c2,zE hkl,hc,hg]
theorem Br {s:St}{b c:Nat}{f:Int}{S:List Int}(h:Rf s b c f S) (line:Int) (hl:line≤9223372036854775807) (x y:Int):
 rf D dQ [.ptr (.hp b) [] 21,.int .i64 line,.int .i64 x,.int .i64 y] s=
  if stS f S line<0 then some (.int .i64 1,s)else if stS f S line≠x then some (.int .i64 3,s)else
   some (.int .i64 0,⟨s.loc,s.hp.set c (.rw (.agg 38 ((S.set (line-f).toNat y).map (.int .i64))))⟩):=by
 have e:=Of h line hl;have hb:=h.rb;have hc:=h.sb;have h0:=h.f0;have hn:=h.n;simp only[rfV]at hb;rw[ab rh rfl];by_cases c1:stS f S line<0
 ·rw[if_pos c1];generalize stS f S line=t at*;simp only[go_sem,e,c1]
 ·rw[if_neg c1];by_cases c2:stS f S line=x
  ·have hin:¬(line<f∨(S.length:Int)≤line-f):=fun hh=>by unfold stS at c1;rw[if_pos hh]at c1;exact c1 (by decide)
   obtain⟨k,hk⟩:∃k:Nat,line-f=k:=⟨(line-f).toNat,by omega⟩;have hkl:k<S.length:=by omega
   have hg:=am (f:=V.int .i64) (l:=S) hkl 0;have e1:IntKind.i64.wrap (line-f)=k:=by rw[hk];exact ae (by omega) (by omega)
   rw[if_neg (by simp[c2]),hk,Zh,List.map_set];subst c2;generalize stS f S line=t at*;simp only[go_sem,e,c1,hb,e1,zE hkl,hc,hg]
  ·rw[if_pos c2];generalize stS f S line=t at*;simp only[go_sem,e,c1,c2]
theorem Rq {s:St}{b c:Nat}{f:Int}{S:List Int}(h:Rf s b c f S) (line:Int) (hl:line≤9223372036854775807):
 rf D cw [.ptr (.hp b) [] 21,.int .i64 line] s=rf D dQ [.ptr (.hp b) [] 21,.int .i64 line,.int .i64 0,.int .i64 1] s:=by
 rw[Br h line hl 0 1];have e:=Br h line hl 0 1;rw[ab qK rfl];by_cases c1:stS f S line<0
 ·rw[if_pos c1]at e⊢;simp only[go_sem,e]
 ·rw[if_neg c1]at e⊢;by_cases c2:stS f S line=0
  ·rw[if_neg (by simp[c2])]at e⊢;simp only[go_sem,e]
  ·rw[if_pos c2]at e⊢;simp only[go_sem,e]
theorem EA {B:List Int}{i j:Nat}{v:Int}(hi:i<B.length):(B.set i v).getD j 0=if i=j then v else B.getD j 0:=by
 rw[List.getD_eq_getElem?_getD,List.getD_eq_getElem?_getD,List.getElem?_set];by_cases h:i=j
 ·subst h;simp[hi]
 ·simp[h]
theorem xe {l:List Blk}{a:Nat}{x:Blk}(h:l[a]?=some x):l.set a x=l:=by
 have ha:=(List.getElem?_eq_some_iff.1 h).1;apply List.ext_getElem?;intro j;by_cases e:a=j
 ·subst e;rw[List.getElem?_set_self ha];exact h.symm
 ·rw[List.getElem?_set_ne e]
theorem I0 (f l:Int) (h:f<0∨l<f∨1024<l) (s:St):rf D iq [.int .i64 f,.int .i64 l] s=some (.tup [.nilp,.int .i64 1],s):=by
 rw[ab qc rfl];by_cases h1:f<0
 ·simp only[go_sem,h1]
 ·by_cases h2:l<f
  ·simp only[go_sem,h1,h2]
  ·have h3:1024<l:=by omega
   simp only[go_sem,h1,h2,h3]
theorem KQ (f l:Int) (h0:0≤f) (h1:f≤l) (h2:l≤1024) (s:St):
 rf D iq [.int .i64 f,.int .i64 l] s=some (.tup [.ptr (.hp (s.hp.length+1)) [] 21,.int .i64 0],⟨s.loc,s.hp++[.rw (.agg 38 (List.replicate (l-f).toNat (.int .i64 0))),.rw (rfV f s.hp.length (l-f).toNat)]⟩):=by
 have c1:¬f<0:=by omega
 have c2:¬l<f:=by omega
 have c3:¬1024<l:=by omega
 obtain⟨n,hn⟩:∃n:Nat,l-f=n:=⟨(l-f).toNat,by omega⟩;have e1:IntKind.i64.wrap (l-f)=n:=by rw[hn];exact ae (by omega) (by omega)
 have hm:(n:Int)≤(cg:Nat):=by unfold cg;omega
 have d0:(0:Int)≤n:=by omega
 rw[hn,Zh,ab qc rfl];simp only[rfV];simp only[go_sem,c1,c2,c3,e1,hm,d0,Int.le_refl];rw[Zh]
structure Obj where
 kind:Int
 ver:Int
 l:List Int
def Obj.v (o:Obj):V:= .agg 26 [.int .i64 o.kind,.int .i64 o.ver,.agg 24 (o.l.map (.int .u64))]
theorem Hm {α:Type}{f:α→V}{P:α→Prop}{l:List V}(h:∀x∈l,∃a,x=f a∧P a):∃la:List α,l=la.map f∧∀a∈la,P a:=by
 induction l with
 |nil=>exact⟨[],rfl,by simp⟩
 |cons x l ih=>
  obtain⟨a,rfl,ha⟩:=h x (List.mem_cons_self ..);obtain⟨la,rfl,hl⟩:=ih fun y hy=>h y (List.mem_cons_of_mem _ hy);refine⟨a::la,rfl,fun y hy=> ?_⟩;rcases List.mem_cons.1 hy with rfl|hy
  ·exact ha
  ·exact hl y hy
structure OkO (o:Obj):Prop where
 l8:o.l.length=8
 words:∀x∈o.l,0≤x∧x≤18446744073709551615
theorem VY {hp:List Blk}{v:V}(h:(Sh.st 26 [.int .i64,.int .i64,.arr 24 8 (.int .u64)]).Fits hp v):∃o:Obj,v=o.v∧OkO o∧(-9223372036854775808≤o.kind∧o.kind≤9223372036854775807)∧(-9223372036854775808≤o.ver∧o.ver≤9223372036854775807):=by
 obtain⟨vs,rfl,h⟩:=h;obtain⟨x,y,z,rfl,⟨k,rfl,hk⟩,⟨w,rfl,hw⟩,⟨ws,rfl,hn,hl⟩⟩:=RA h;obtain⟨l,rfl,hl'⟩:=Hm (f:=V.int .u64) (P:=fun x=>0≤x∧x≤18446744073709551615) (fun x hx=>by obtain⟨n,rfl,h1,h2⟩:=hl x hx;exact⟨n,rfl,h1,h2⟩)
 refine⟨⟨k,w,l⟩,rfl,⟨by simpa using hn,hl'⟩,hk,hw⟩
structure Ent where
 kind:Int
 ver:Int
 line:Int
def Ent.v (x:Ent):V:= .agg 42 [.int .i64 x.kind,.int .i64 x.ver,.int .i64 x.line]
def ac (t:Nat→Ent):V:= .agg 48 (tab 49 fun i=>(t i).v)
def aM (d:Nat→Int):V:= .agg 50 (tab 8 fun i=> .int .i64 (d i))
def shV (f:Nat→Bool):V:= .agg 82 (tab 1024 fun j=> .bool (f j))
def an:Ent:=⟨0,0,0⟩
def fT (t:Nat→Ent) (f:Nat→Bool):Nat→Nat→Bool
 |0=>f
 |n+1=>if(t n).kind=0 then fT t f n else upd (fT t f n) (t n).line.toNat true
structure InL (t:Nat→Ent):Prop where
 inn:∀i,i<49→(t i).kind≠0→0≤(t i).line∧(t i).line<1024
theorem OI {s:St}{a:Nat}{x0 x1 x2 x3 x4 x5 x6:V}{f:Nat→Bool}{t:Nat→Ent}(h:s.hp[a]?=some (.rw (.agg 43 [x0,x1,x2,x3,x4,x5,x6,shV f]))) (ht:InL t):
 rf D mf [.ptr (.hp a) [7] 82,ac t] s=some (.tup [],⟨s.loc,s.hp.set a (.rw (.agg 43 [x0,x1,x2,x3,x4,x5,x6,shV (fT t f 49)]))⟩):=by
 have ha:=(List.getElem?_eq_some_iff.1 h).1;have loop:rc D s.loc.length (.loop [0,6,7] eJ) [(0,.ptr (.hp a) [7] 82),(6,ac t),(7,.int .i64 0)] ⟨s.loc++[.rw (ac t)],s.hp⟩=
  some (.exit 0,[(0,.ptr (.hp a) [7] 82),(6,ac t),(7,.int .i64 49),(8,.bool false)],⟨s.loc++[.rw (ac t)],s.hp.set a (.rw (.agg 43 [x0,x1,x2,x3,x4,x5,x6,shV (fT t f 49)]))⟩):=by
  refine bC (fun x:Nat=>[(0,.ptr (.hp a) [7] 82),(6,ac t),(7,.int .i64 x)]) (fun x=>⟨s.loc++[.rw (ac t)],s.hp.set a (.rw (.agg 43 [x0,x1,x2,x3,x4,x5,x6,shV (fT t f x)]))⟩) (fun _=>_) (fun x=>49-x) (fun x=>x≤49) 0 ?_ (by omega) rfl ?_
  ·intro i hi;by_cases c1:i<49
   ·left;have d1:(i:Int)<49:=by omega
    have d2:(0:Int)≤i:=by omega
    have d4:IntKind.i64.wrap ((i:Int)+1)=(i:Int)+1:=ae (by omega) (by omega);have g1:=av (f:=fun i=>(t i).v) c1;have hin:=ht.inn i c1;refine⟨i+1,by omega,by omega,rfl,?_⟩;simp only[ac,Ent.v,fT]at*;generalize tab 49 (fun i=>V.agg 42 [.int .i64 (t i).kind,.int .i64 (t i).ver,.int .i64 (t i).line])=T at*;have hs:∀b,(s.hp.set a b)[a]?=some b:=fun b=>List.getElem?_set_self ha;by_cases hk:(t i).kind=0
    ·simp only[hk,if_true]at g1⊢;generalize fT t f i=f' at*;simp only[go_sem,eJ,d1,d2];rw[Zh];simp only[go_sem,g1,d4];rfl
    ·simp only[hk,if_false]at g1⊢;obtain⟨h1,h2⟩:=hin hk;obtain⟨q,hq⟩:∃q:Nat,(t i).line=q:=⟨(t i).line.toNat,by omega⟩;simp only[hq,Zh]at g1 h1 h2⊢;have e:=dg 1024 (fun j=>V.bool (fT t f i j)) q (.bool true);have hu:tab 1024 (upd (fun j=>V.bool (fT t f i j)) q (.bool true))=tab 1024 (fun j=>V.bool (upd (fT t f i) q true j)):=bp fun j _=>by unfold upd;split<;>rfl
     rw[hu]at e;have hg:=av (f:=fun j=>V.bool (fT t f i j)) (show q<1024 by omega);simp only[shV];rw[←e];generalize tab 1024 (fun j=>V.bool (fT t f i j))=F at*;generalize fT t f i q=y at*;simp only[go_sem,eJ,d1,d2];rw[Zh];simp only[go_sem,g1,hk,h1,h2,hs];rw[Zh];simp only[go_sem,hg,d4,List.set_set];rfl
   ·right;have:i=49:=by omega
    subst this;simp only[ac];simp only[go_sem,eJ]
  ·simp only[fT];rw[xe h]
 simp only[ac]at*;rw[ab yb rfl];simp only[go_sem,loop]
def AO (base mark:Nat→Ent) (marked:Bool):Nat→Bool:=if marked then fT mark (fT base (fun _=>false) 49) 49 else fT base (fun _=>false) 49
structure StF where
 m:Nat
 fr:Nat
 work:Nat→Ent
 base:Nat→Ent
 dir:Nat→Int
 mark:Nat→Ent
 marked:Bool
def StF.v (x:StF) (sh:Nat→Bool):V:= .agg 43 [.ptr (.hp x.m) [] 59,.ptr (.hp x.fr) [] 80,ac x.work,ac x.base,aM x.dir,ac x.mark,.bool x.marked,shV sh]
theorem J9:V.agg 82 (List.replicate 1024 (.bool false))=shV fun _=>false:=by rw[co];rfl
theorem Rs {s:St}{a:Nat}{x:StF}{sh:Nat→Bool}(h:s.hp[a]?=some (.rw (x.v sh))) (hb:InL x.base) (hm:x.marked=true→InL x.mark):
 rf D kc [.ptr (.hp a) [] 43] s=some (.tup [],⟨s.loc,s.hp.set a (.rw (x.v (AO x.base x.mark x.marked)))⟩):=by
 have ha:=(List.getElem?_eq_some_iff.1 h).1;have hs:∀b,(s.hp.set a b)[a]?=some b:=fun b=>List.getElem?_set_self ha;obtain⟨m,fr,work,base,dir,mark,marked⟩:=x;simp only[StF.v]at*;have r1:=fun L=>OI (s:=⟨s.loc++L,s.hp.set a (.rw (.agg 43 [.ptr (.hp m) [] 59,.ptr (.hp fr) [] 80,ac work,ac base,aM dir,ac mark,.bool marked,shV fun _=>false]))⟩) (hs _) hb;have r2:=fun L (h:marked=true)=>OI (s:=⟨s.loc++L,s.hp.set a (.rw (.agg 43 [.ptr (.hp m) [] 59,.ptr (.hp fr) [] 80,ac work,ac base,aM dir,ac mark,.bool marked,shV (fT base (fun _=>false) 49)]))⟩) (hs _) (hm h);have e:=J9;simp only[List.set_set,shV]at r1 r2 h e⊢;have r1:=r1 [];have r2:=r2 [];simp only[List.append_nil]at r1 r2;rw[ab wt rfl];simp only[ac,V.agg.injEq,true_and]at*;cases marked
 ·simp only[AO,Bool.false_eq_true,if_false];generalize tab 1024 (fun j=>V.bool (fT base (fun _=>false) 49 j))=F1 at*;simp only[go_sem,h,e,hs,r1]
 ·have r2:=r2 rfl;simp only[AO,if_true];generalize tab 1024 (fun j=>V.bool (fT base (fun _=>false) 49 j))=F1 at*;simp only[go_sem,h,e,hs,r1,r2]
def gE (t:Nat→Ent) (id:Int):Int:=if id<0∨49≤id then 1 else if(t id.toNat).kind=0 then 30 else 0
theorem Sc {s:St}{a:Nat}{x:StF}{sh:Nat→Bool}(h:s.hp[a]?=some (.rw (x.v sh))) (id:Int):rf D jt [.ptr (.hp a) [] 43,.int .i64 id] s=some (.int .i64 (gE x.work id),s):=by
 obtain⟨m,fr,work,base,dir,mark,marked⟩:=x;simp only[StF.v,ac]at*;unfold gE;rw[ab zd rfl];by_cases c1:id<0
 ·simp only[go_sem,c1]
 ·by_cases c2:49≤id
  ·simp only[go_sem,c1,c2]
  ·obtain⟨i,rfl⟩:∃i:Nat,id=i:=⟨id.toNat,by omega⟩;have g1:=av (f:=fun i=>(work i).v) (show i<49 by omega);simp only[Ent.v]at*;generalize tab 49 (fun i=>V.agg 42 [.int .i64 (work i).kind,.int .i64 (work i).ver,.int .i64 (work i).line])=T at*;have d1:(i:Int)<49:=by omega
   have d2:(0:Int)≤i:=by omega
   rw[if_neg (by omega),Zh];by_cases hk:(work i).kind=0
   ·simp only[hk]at*;simp only[go_sem,c1,c2,h,d1,d2];rw[Zh];simp only[go_sem,g1]
   ·simp only[go_sem,c1,c2,h,d1,d2];rw[Zh];simp only[go_sem,g1,hk]
def Vt (k:Int):Prop:=k=1∨k=2∨k=4
instance (k:Int):Decidable (Vt k):=inferInstanceAs (Decidable (k=1∨k=2∨k=4))
def updE (t:Nat→Ent) (i:Nat) (e:Ent):Nat→Ent:=fun j=>if j=i then e else t j
theorem Pu {t:Nat→Ent}{i:Nat}{e:Ent}:tab 49 (upd (fun j=>(t j).v) i e.v)=tab 49 fun j=>(updE t i e j).v:=by apply bp;intro j _;unfold upd updE;split<;>rfl
theorem Wm {s:St}{a:Nat}{x:StF}{sh:Nat→Bool}(h:s.hp[a]?=some (.rw (x.v sh))) (i:Nat) (hi:i<49) (hl:0≤(x.work i).line∧(x.work i).line<1024):
 rf D iX [.ptr (.hp a) [] 43,.int .i64 i] s=some (.bool (!sh (x.work i).line.toNat),s):=by
 obtain⟨m,fr,work,base,dir,mark,marked⟩:=x;have g1:=av (f:=fun i=>(work i).v) hi;simp only at hl;obtain⟨q,hq⟩:∃q:Nat,(work i).line=q:=⟨(work i).line.toNat,by omega⟩;have g2:=av (n:=1024) (f:=fun j=>V.bool (sh j)) (show q<1024 by omega);have d1:(i:Int)<49:=by omega
 have d2:(0:Int)≤i:=by omega
 have d3:(q:Int)<1024:=by omega
 have d4:(0:Int)≤q:=by omega
 simp only[StF.v,ac,shV,Ent.v]at*;rw[hq]at g1;simp only[hq,Zh];generalize tab 49 (fun i=>V.agg 42 [.int .i64 (work i).kind,.int .i64 (work i).ver,.int .i64 (work i).line])=T at*;generalize tab 1024 (fun j=>V.bool (sh j))=U at*;rw[ab yc rfl];simp only[go_sem,h,d1,d2];rw[Zh];simp only[go_sem,g1,h,d3,d4];rw[Zh];simp only[go_sem,g2]
theorem PQ:∀w:Nat,w≠0→∃k m,w=2^k*(2*m+1):=by
 intro w
 induction w using Nat.strongRecOn with
 |_ w ih=>
  intro h;by_cases h2:w%2=1
  ·exact⟨0,w/2,by omega⟩
  ·obtain⟨k,m,hk⟩:=ih (w/2) (by omega) (by omega);refine⟨k+1,m,?_⟩;rw[Nat.pow_succ,Nat.mul_assoc,Nat.mul_left_comm,←hk];omega
theorem vc {k m j:Nat}:(2^k*(2*m+1)).testBit j=(decide (j=k)||(decide (k<j)&&m.testBit (j-k-1))):=by
 rw[Nat.testBit_two_pow_mul];by_cases h:k≤j
 ·obtain⟨d,rfl⟩:=Nat.exists_eq_add_of_le h;simp only[Nat.le_add_right,decide_true,Bool.true_and,Nat.add_sub_cancel_left];cases d with
  |zero=>simp
  |succ d=>
   rw[Nat.testBit_succ,show(2*m+1)/2=m by omega];simp
 ·have h1:¬j=k:=by omega
  have h2:¬k<j:=by omega
  simp[h,h1,h2]
theorem Sy {k m:Nat}(hw:2^k*(2*m+1)<2^64):(2^k*(2*m+1))&&&(2^64-2^k*(2*m+1))=2^k:=by
 have hpos:0<2^k:=Nat.two_pow_pos k;apply Nat.eq_of_testBit_eq;intro j;have e:2^64-2^k*(2*m+1)=2^64-((2^k*(2*m)+(2^k-1))+1):=by
  have:2^k*(2*m+1)=2^k*(2*m)+2^k:=by rw[Nat.mul_add,Nat.mul_one]
  omega
 have hlt:2^k*(2*m)+(2^k-1)<2^64:=by
  have:2^k*(2*m+1)=2^k*(2*m)+2^k:=by rw[Nat.mul_add,Nat.mul_one]
  omega
 rw[Nat.testBit_and,e,Nat.testBit_two_pow_sub_succ hlt,vc,Nat.testBit_two_pow_mul_add _ (by omega:2^k-1<2^k),Nat.testBit_two_pow];by_cases h1:j=k
 ·subst h1;have hk:j<64:=by
   by_cases h:j<64
   ·exact h
   ·have:=Nat.pow_le_pow_right (show 0<2 by decide) (show 64≤j by omega);have h3:2^j≤2^j*(2*m+1):=Nat.le_mul_of_pos_right _ (by omega);omega
  simp[hk]
 ·by_cases h2:k<j
  ·have h3:¬j<k:=by omega
   have h4:¬k=j:=fun h=>h1 h.symm;obtain⟨d,rfl⟩:=Nat.exists_eq_add_of_lt h2;have e2:k+d+1-k=d+1:=by omega
   simp only[h1,h3,h4,if_false,decide_false,Bool.false_or,h2,decide_true,Bool.true_and,e2,Nat.add_sub_cancel];rw[Nat.testBit_succ,show 2*m/2=m by omega];cases m.testBit d<;>simp
  ·have h4:¬k=j:=fun h=>h1 h.symm;simp[h1,h2,h4]
def Xq (k:Nat):Bool:=decide (se[(2^k*285870213051353865%18446744073709551616)/288230376151711744]?=some (k:Int))
theorem Si:(List.range 64).all Xq=true:=by kernel_rfl
theorem Qo {k:Nat}(hk:k<64):se[(2^k*285870213051353865%18446744073709551616)/288230376151711744]?=some (k:Int):=
 of_decide_eq_true (List.all_eq_true.1 Si k (List.mem_range.2 hk))
structure Low (w k:Nat):Prop where
 lt:k<64
 set:w.testBit k=true
 less:∀j,j<k→w.testBit j=false
theorem XD (w:Nat) (h0:w≠0) (hw:w<18446744073709551616):IntKind.u64.wrap (0-(w:Int))=((18446744073709551616-w:Nat):Int):=by rw[IntKind.wrap_u64];omega
theorem XF (p:Nat):IntKind.u64.wrap ((p:Int)*285870213051353865)=((p*285870213051353865%18446744073709551616:Nat):Int):=by rw[IntKind.wrap_u64];simp
theorem XC (q:Nat):gW .u64 (q:Int) 58=((q/288230376151711744:Nat):Int):=by have:=uo (q:Int) 58 (by decide);rw[show(58:Int)=((58:Nat):Int) by rfl,this];simp
theorem RQ {k m:Nat}(hw:2^k*(2*m+1)<18446744073709551616):k<64:=by
 by_cases h:k<64
 ·exact h
 ·have h1:=Nat.pow_le_pow_right (show 0<2 by decide) (show 64≤k by omega);have h3:2^k≤2^k*(2*m+1):=Nat.le_mul_of_pos_right _ (by omega);have h4:18446744073709551616≤2^k:=h1;exact absurd hw (Nat.not_lt.2 (Nat.le_trans h4 h3))
theorem UK {k m:Nat}(hw:2^k*(2*m+1)<18446744073709551616):Low (2^k*(2*m+1)) k:=by
 refine⟨RQ hw,by rw[vc];simp,fun j hj=> ?_⟩;rw[vc];have h1:¬j=k:=by omega
 have h2:¬k<j:=by omega
 simp[h1,h2]
theorem Xx {k m:Nat}(hw:2^k*(2*m+1)<18446744073709551616):iZ .u64 (2^k*(2*m+1):Nat) ((18446744073709551616-2^k*(2*m+1):Nat):Int)=((2^k:Nat):Int):=by have h:0<2^k*(2*m+1):=Nat.mul_pos (Nat.two_pow_pos k) (by omega);rw[tK hw (by omega)];exact congrArg _ (Sy hw)
theorem Wu {q:Nat}(h:q<18446744073709551616):q/288230376151711744<64:=by omega
theorem W0 (w:Nat) (h0:w≠0) (hw:w<18446744073709551616) (s:St) (hG:s.hp[0]?=some (.ro ep)):
 ∃k,Low w k∧rf D gz [.int .u64 w] s=some (.int .i64 k,s):=by
 obtain⟨k,m,rfl⟩:=PQ w h0;have hk:=RQ hw;refine⟨k,UK hw,?_⟩;have e1:=XD _ h0 hw;have e2:=Xx hw;have ht:=Qo hk;have d3:¬((2^k*(2*m+1):Nat):Int)=0:=by rw[Int.natCast_eq_zero];exact h0
 clear hw h0;generalize 2^k*(2*m+1)=w at*;generalize 2^k=p at*;have e3:=XF p;have hq:p*285870213051353865%18446744073709551616<18446744073709551616:=Nat.mod_lt _ (by decide);generalize p*285870213051353865%18446744073709551616=q at*;have e4:=XC q;have hq64:=Wu hq;generalize q/288230376151711744=r at*;have d1:(r:Int)<64:=by omega
 have d2:(0:Int)≤(r:Int):=by omega
 have hg:(se.map (V.int .u8))[r]?=some (.int .u8 k):=by rw[List.getElem?_map,ht];rfl
 have d4:IntKind.i64.wrap (k:Int)=k:=ae (by omega) (by omega);have hG':s.hp[0]?=some (.ro (.agg 108 (se.map (V.int .u8)))):=hG;generalize 18446744073709551616-w=nw at*;rw[ab rP rfl];simp only[go_sem,d3,e1,e2,e3];simp only[e4];simp only[d1,d2,go_sem];rw[Zh,hG'];simp only[go_sem,hg,d4]
structure KI (w:List Nat) (n:Nat):Prop where
 lt:n<1024
 set:bit w n=true
 less:∀j,j<n→bit w j=false
def RL (w:List Nat):Prop:=∀j,j<1024→bit w j=false
theorem ME {x:Nat}(h:x=0) (i:Nat):x.testBit i=false:=by subst h;exact Nat.zero_testBit i
theorem Rl {s:St}{a:Nat}{f l:Int}{wf wl:List Nat}(h:Fr s a f l wf wl) (hG:s.hp[0]?=some (.ro ep)):
 (∃n,KI wf n∧rf D eN [.ptr (.hp a) [] 80] s=some (.tup [.int .i64 n,.int .i64 0],⟨s.loc,s.hp.set a (.rw (frV f l (flip wf n) wl))⟩))∨
  (RL wf∧rf D eN [.ptr (.hp a) [] 80] s=some (.tup [.int .i64 0,.int .i64 10],s)):=by
 have hb:=h.blk;have hlen:=h.okf.len;simp only[frV]at hb⊢;have loop:∃r,rc D s.loc.length (.loop [0,10,11] dX) [(0,.ptr (.hp a) [] 80),(10,.agg 78 (wf.map cN)),(11,.int .i64 0)] s=some r∧
  ((∃n:Nat,KI wf n∧r=(.ret,[(2,.int .i64 n),(3,.int .i64 0)],⟨s.loc,s.hp.set a (.rw (.agg 80 [.int .i64 f,.int .i64 l,.agg 78 ((flip wf n).map cN),.agg 78 (wl.map cN)]))⟩))∨
   (RL wf∧r=(.exit 0,[(0,.ptr (.hp a) [] 80),(10,.agg 78 (wf.map cN)),(11,.int .i64 16),(12,.bool false)],s))):=by
  refine o7 (fun x:Nat=>[(0,.ptr (.hp a) [] 80),(10,.agg 78 (wf.map cN)),(11,.int .i64 x)]) (fun _=>s) _ (fun x=>16-x)
   (fun x=>x≤16∧∀j,j<64*x→bit wf j=false) 0 ?_ ⟨by omega,fun j hj=>by omega⟩ rfl rfl
  rintro i ⟨hi,hz⟩;by_cases c1:i<16
  ·have d1:(i:Int)<16:=by omega
   have d2:(0:Int)≤i:=by omega
   have d4:IntKind.i64.wrap ((i:Int)+1)=(i:Int)+1:=ae (by omega) (by omega);have hg:=am (f:=cN) (l:=wf) (i:=i) (by omega) 0;have hlt:=h.okf.get c1;by_cases hw:wf.getD i 0=0
   ·left;refine⟨i+1,⟨by omega,fun j hj=> ?_⟩,by omega,?_⟩
    ·by_cases hj2:j<64*i
     ·exact hz j hj2
     ·have e:j/64=i:=by omega
      unfold bit;rw[e];exact ME hw _
    ·rw[hw]at hg;simp only[go_sem,dX,d1,d2];rw[Zh];simp only[go_sem,hg,d4];rfl
   ·right;obtain⟨k,hk,htz⟩:=W0 _ hw hlt s hG;have hk64:=hk.lt;have hfirst:KI wf (64*i+k):=by
     refine⟨by omega,?_,fun j hj=> ?_⟩
     ·unfold bit;rw[show(64*i+k)/64=i by omega,show(64*i+k)%64=k by omega];exact hk.set
     ·by_cases hj2:j<64*i
      ·exact hz j hj2
      ·unfold bit;rw[show j/64=i by omega];exact hk.less _ (by omega)
    have e1:=By s a _ _ _ wf h.okf hb (64*i+k) hfirst.lt;refine⟨_,?_,.inl ⟨64*i+k,hfirst,rfl⟩⟩;have e2:IntKind.i64.wrap (64*(i:Int))=64*(i:Int):=ae (by omega) (by omega);have e3:IntKind.i64.wrap (64*(i:Int)+(k:Int))=((64*i+k:Nat):Int):=by rw[ae (by omega) (by omega)];omega
    have hw':¬((wf.getD i 0:Nat):Int)=0:=by omega
    generalize 64*i+k=n at*;generalize wf.getD i 0=x at*;simp only[go_sem,dX,d1,d2];rw[Zh];simp only[go_sem,hg,hw',htz,e2,e3,e1]
  ·right;have:i=16:=by omega
   subst this;refine⟨_,?_,.inr ⟨fun j hj=>hz j (by omega),rfl⟩⟩;simp only[go_sem,dX]
 obtain⟨r,hl,hr⟩:=loop;rcases hr with⟨n,hn,rfl⟩|⟨hn,rfl⟩
 ·left;refine⟨n,hn,?_⟩;rw[ab pi rfl];simp only[go_sem,hb,hl]
 ·right;refine⟨hn,?_⟩;rw[ab pi rfl];simp only[go_sem,hb,hl]
def cd (f l:Int):List Int→List Nat→Option (List Nat)
 |[],w=>some w
 |x::r,w=>if fQ f l w (w16 []) x=0 then cd f l r (flip w x.toNat)else none
def be (t:Nat→Ent):Nat→Nat→List Int
 |_,0=>[]
 |i,n+1=>if(t i).kind=0 then be t (i+1) n else(t i).line::be t (i+1) n
def iO (d:Nat→Int):Nat→Nat→List Int
 |_,0=>[]
 |i,n+1=>d i::iO d (i+1) n
def dz (t:Nat→Ent) (d:Nat→Int):List Int:=be t 0 49++iO d 0 8
theorem FC {f l:Int}(h0:0≤f) (h1:l≤1024):∀{ls:List Int}{w w':List Nat},cd f l ls w=some w'→∀x∈ls,0≤x∧x<1024
 |[],_,_,_,x,hx=>by cases hx
 |y::r,w,w',h,x,hx=>by
  simp only[cd]at h;split at h
  ·rename_i hz;rcases List.mem_cons.1 hx with rfl|hx
   ·have:=zB (show fQ f l w (w16 []) x≠-1 by rw[hz];decide);omega
   ·exact FC h0 h1 h x hx
  ·cases h
theorem th (t:Nat→Ent):∀(n i k:Nat),i≤k→k<i+n→(t k).kind≠0→(t k).line∈be t i n
 |0,i,k,h1,h2,_=>by omega
 |n+1,i,k,h1,h2,h3=>by
  simp only[be];by_cases e:i=k
  ·subst e;rw[if_neg h3];exact List.mem_cons_self
  ·have:=th t n (i+1) k (by omega) (by omega) h3;split
   ·exact this
   ·exact List.mem_cons_of_mem _ this
theorem Bl {f l:Int}(h0:0≤f) (h1:l≤1024) {w:List Nat}(hw:OkS w) {x:Int}(hx:fQ f l w (w16 []) x=0):OkS (flip w x.toNat):=by have:=zB (show fQ f l w (w16 []) x≠-1 by rw[hx];decide);exact hw.flip (by omega)
theorem Hk {f l:Int}(h0:0≤f) (h1:l≤1024):∀{ls:List Int}{w w':List Nat},OkS w→cd f l ls w=some w'→OkS w'
 |[],_,_,hw,h=>by cases h;exact hw
 |y::r,w,w',hw,h=>by
  simp only[cd]at h;split at h
  ·rename_i hz;exact Hk h0 h1 (Bl h0 h1 hw hz) h
  ·cases h
theorem Mw {st:Int}(h:st≠0):¬inE st 0=0:=by unfold inE;split<;>simp_all
theorem Iv (L0 H:List Blk) (t:Nat→Ent) (d:Nat→Int) (f:Int) (l:Nat) (X:V) (h0:0≤f) (h1:l≤1024) (w0:List Nat) (hw0:OkS w0) (rest:List Int):
 ∃r,rc D L0.length (.loop [7,10,12,34,35] iG) [(7,.ptr (.loc (L0.length+1)) [] 50),(10,.ptr (.hp H.length) [] 80),(12,.ptr (.hp (H.length+1)) [] 43),(34,ac t),(35,.int .i64 0)]
  ⟨L0++[.rw (ac t),.rw (aM d)],H++[.rw (frV f l w0 (w16 [])),.rw X]⟩=some r∧
  ((cd f l (be t 0 49++rest) w0=none∧∃(L':List Blk) (w:List Nat),r=(.ret,[(8,.nilp),(9,.int .i64 21)],⟨L0++L',H++[.rw (frV f l w (w16 [])),.rw X]⟩))∨
   (∃w,OkS w∧cd f l (be t 0 49++rest) w0=cd f l rest w∧r=(.exit 0,[(7,.ptr (.loc (L0.length+1)) [] 50),(10,.ptr (.hp H.length) [] 80),(12,.ptr (.hp (H.length+1)) [] 43),(34,ac t),(35,.int .i64 49),(36,.bool false)],
    ⟨L0++[.rw (ac t),.rw (aM d)],H++[.rw (frV f l w (w16 [])),.rw X]⟩))):=by
 refine o7 (fun x:Nat×List Nat=>[(7,.ptr (.loc (L0.length+1)) [] 50),(10,.ptr (.hp H.length) [] 80),(12,.ptr (.hp (H.length+1)) [] 43),(34,ac t),(35,.int .i64 x.1)])
  (fun x=>⟨L0++[.rw (ac t),.rw (aM d)],H++[.rw (frV f l x.2 (w16 [])),.rw X]⟩) _ (fun x=>49-x.1)
  (fun x=>x.1≤49∧OkS x.2∧cd f l (be t 0 49++rest) w0=cd f l (be t x.1 (49-x.1)++rest) x.2) (0,w0) ?_ ⟨by simp only;omega,hw0,rfl⟩ rfl rfl
 rintro⟨i,w⟩ ⟨hi,hok,htk⟩;simp only at hi hok htk;by_cases c1:i<49
 ·have d1:(i:Int)<49:=by omega
  have d2:(0:Int)≤i:=by omega
  have d5:L0.length+1<L0.length+2:=by omega
  have d4:IntKind.i64.wrap ((i:Int)+1)=(i:Int)+1:=ae (by omega) (by omega);have g1:=av (f:=fun i=>(t i).v) c1;have hl:be t i (49-i)=if(t i).kind=0 then be t (i+1) (49-(i+1))else(t i).line::be t (i+1) (49-(i+1)):=by rw[show 49-i=(49-(i+1))+1 by omega];rfl
  rw[hl]at htk;by_cases hk:(t i).kind=0
  ·left;rw[if_pos hk]at htk;refine⟨(i+1,w),⟨by simp only;omega,hok,htk⟩,by simp only;omega,?_⟩;simp only[ac,Ent.v,aM]at*;simp only[hk]at g1;generalize tab 49 (fun i=>V.agg 42 [.int .i64 (t i).kind,.int .i64 (t i).ver,.int .i64 (t i).line])=T at*;simp only[go_sem,iG,d1,d2];rw[Zh];simp only[go_sem,g1,d4,d5];rfl
  ·rw[if_neg hk,List.cons_append]at htk;simp only[cd]at htk;have hfr:∀L:List Blk,Fr ⟨L,H++[.rw (frV f l w (w16 [])),.rw X]⟩ H.length f l w (w16 []):=fun L=>⟨by simp,h0,by omega,hok,BG⟩;by_cases hst:fQ f l w (w16 []) (t i).line=0
   ·left;rw[if_pos hst]at htk;have r1:=fun L=>Cu (hfr L) (t i).line hst;refine⟨(i+1,flip w (t i).line.toNat),⟨by simp only;omega,Bl h0 (by omega) hok hst,htk⟩,by simp only;omega,?_⟩;simp only[ac,Ent.v,aM]at*;generalize tab 49 (fun i=>V.agg 42 [.int .i64 (t i).kind,.int .i64 (t i).ver,.int .i64 (t i).line])=T at*;simp only[wF,List.set_cons_zero]at r1;simp only[go_sem,iG,d1,d2];rw[Zh];simp only[go_sem,g1,hk,r1,d4,d5];rfl
   ·right;rw[if_neg hst]at htk;have r1:=fun L=>CO (hfr L) (t i).line hst;have hne:=Mw hst;refine⟨_,?_,.inl ⟨htk,[.rw (ac t),.rw (aM d),.rw (t i).v],w,rfl⟩⟩;simp only[ac,Ent.v,aM]at*;generalize tab 49 (fun i=>V.agg 42 [.int .i64 (t i).kind,.int .i64 (t i).ver,.int .i64 (t i).line])=T at*;simp only[go_sem,iG,d1,d2];rw[Zh];simp only[go_sem,g1,hk,r1,hne]
 ·right;have:i=49:=by omega
  subst this;refine⟨_,?_,.inr ⟨w,hok,by rw[htk];rfl,rfl⟩⟩;simp only[ac];simp only[go_sem,iG]
theorem Jc (L0 H:List Blk) (t:Nat→Ent) (d:Nat→Int) (f:Int) (l:Nat) (X:V) (h0:0≤f) (h1:l≤1024) (w0:List Nat) (hw0:OkS w0):
 ∃r,rc D L0.length (.loop [10,12,49,50] kf) [(10,.ptr (.hp H.length) [] 80),(12,.ptr (.hp (H.length+1)) [] 43),(49,aM d),(50,.int .i64 0)]
  ⟨L0++[.rw (ac t),.rw (aM d)],H++[.rw (frV f l w0 (w16 [])),.rw X]⟩=some r∧
  ((cd f l (iO d 0 8) w0=none∧∃(L':List Blk) (w:List Nat),r=(.ret,[(8,.nilp),(9,.int .i64 21)],⟨L0++L',H++[.rw (frV f l w (w16 [])),.rw X]⟩))∨
   (∃w,cd f l (iO d 0 8) w0=some w∧r=(.exit 2,[(10,.ptr (.hp H.length) [] 80),(12,.ptr (.hp (H.length+1)) [] 43),(49,aM d),(50,.int .i64 8),(51,.bool false)],
    ⟨L0++[.rw (ac t),.rw (aM d)],H++[.rw (frV f l w (w16 [])),.rw X]⟩))):=by
 refine o7 (fun x:Nat×List Nat=>[(10,.ptr (.hp H.length) [] 80),(12,.ptr (.hp (H.length+1)) [] 43),(49,aM d),(50,.int .i64 x.1)])
  (fun x=>⟨L0++[.rw (ac t),.rw (aM d)],H++[.rw (frV f l x.2 (w16 [])),.rw X]⟩) _ (fun x=>8-x.1)
  (fun x=>x.1≤8∧OkS x.2∧cd f l (iO d 0 8) w0=cd f l (iO d x.1 (8-x.1)) x.2) (0,w0) ?_ ⟨by simp only;omega,hw0,rfl⟩ rfl rfl
 rintro⟨i,w⟩ ⟨hi,hok,htk⟩;simp only at hi hok htk;by_cases c1:i<8
 ·have d1:(i:Int)<8:=by omega
  have d2:(0:Int)≤i:=by omega
  have d4:IntKind.i64.wrap ((i:Int)+1)=(i:Int)+1:=ae (by omega) (by omega);have g1:=av (f:=fun i=>V.int .i64 (d i)) c1;have hl:iO d i (8-i)=d i::iO d (i+1) (8-(i+1)):=by rw[show 8-i=(8-(i+1))+1 by omega];rfl
  rw[hl]at htk;simp only[cd]at htk;have hfr:∀L:List Blk,Fr ⟨L,H++[.rw (frV f l w (w16 [])),.rw X]⟩ H.length f l w (w16 []):=fun L=>⟨by simp,h0,by omega,hok,BG⟩;by_cases hst:fQ f l w (w16 []) (d i)=0
  ·left;rw[if_pos hst]at htk;have r1:=fun L=>Cu (hfr L) (d i) hst;refine⟨(i+1,flip w (d i).toNat),⟨by simp only;omega,Bl h0 (by omega) hok hst,htk⟩,by simp only;omega,?_⟩;simp only[ac,aM]at*;generalize tab 8 (fun i=>V.int .i64 (d i))=T at*;simp only[wF,List.set_cons_zero]at r1;simp only[go_sem,kf,d1,d2];rw[Zh];simp only[go_sem,g1,r1,d4];rfl
  ·right;rw[if_neg hst]at htk;have r1:=fun L=>CO (hfr L) (d i) hst;have hne:=Mw hst;refine⟨_,?_,.inl ⟨htk,[.rw (ac t),.rw (aM d)],w,rfl⟩⟩;simp only[ac,aM]at*;generalize tab 8 (fun i=>V.int .i64 (d i))=T at*;simp only[go_sem,kf,d1,d2];rw[Zh];simp only[go_sem,g1,r1,hne]
 ·right;have:i=8:=by omega
  subst this;refine⟨_,?_,.inr ⟨w,by rw[htk];rfl,rfl⟩⟩;simp only[aM];simp only[go_sem,kf]
theorem O6 {w w':List Nat}(h:OkS w) (h':OkS w') (hb:∀j,j<1024→bit w j=bit w' j):w=w':=by
 apply List.ext_getElem?;intro q;by_cases hq:q<16
 ·have e:w.getD q 0=w'.getD q 0:=by
   apply Nat.eq_of_testBit_eq;intro k;by_cases hk:k<64
   ·have:=hb (64*q+k) (by omega);unfold bit at this;rw[show(64*q+k)/64=q by omega,show(64*q+k)%64=k by omega]at this;exact this
   ·have h2:2^64≤2^k:=Nat.pow_le_pow_right (by decide) (by omega);rw[Nat.testBit_lt_two_pow (Nat.lt_of_lt_of_le (h.get hq) h2),Nat.testBit_lt_two_pow (Nat.lt_of_lt_of_le (h'.get hq) h2)]
  have hl:=h.len;have hl':=h'.len;rw[List.getD_eq_getElem?_getD,List.getD_eq_getElem?_getD,List.getElem?_eq_getElem (by omega),List.getElem?_eq_getElem (by omega)]at e;rw[List.getElem?_eq_getElem (by omega),List.getElem?_eq_getElem (by omega)];exact congrArg some e
 ·rw[List.getElem?_eq_none (by rw[h.len];omega),List.getElem?_eq_none (by rw[h'.len];omega)]
theorem Dq {m n:Nat}(s:St) (hln:∀L,rf D gC [.ptr (.hp m) [] 59] ⟨s.loc++L,s.hp⟩=some (.int .i64 n,⟨s.loc++L,s.hp⟩)) (f:Int) (h0:0≤f) (h1:f≤n) (h2:n≤1024) (t:Nat→Ent) (d:Nat→Int):
 ∃w0,OkS w0∧(∀j:Nat,j<1024→bit w0 j=(decide (f≤j)&&decide ((j:Int)<n)))∧
  ((cd f n (dz t d) w0=none∧∃more,rf D gj [.ptr (.hp m) [] 59,.int .i64 f,ac t,aM d] s=some (.tup [.nilp,.int .i64 21],⟨s.loc,s.hp++more⟩))∨
   (∃w,OkS w∧cd f n (dz t d) w0=some w∧rf D gj [.ptr (.hp m) [] 59,.int .i64 f,ac t,aM d] s=some (.tup [.ptr (.hp (s.hp.length+1)) [] 43,.int .i64 0],
    ⟨s.loc,s.hp++[.rw (frV f n w (w16 [])),.rw ((⟨m,s.hp.length,t,t,d,fun _=>an,false⟩:StF).v (AO t (fun _=>an) false))]⟩))):=by
 obtain⟨w0,hok0,hbit0,_⟩:=yo f n h0 h1 (by omega) s;have hnew:∀L,rf D mR [.int .i64 f,.int .i64 n] ⟨s.loc++L,s.hp⟩=some (.tup [.ptr (.hp s.hp.length) [] 80,.int .i64 0],⟨s.loc++L,s.hp++[.rw (frV f n w0 (w16 []))]⟩):=by intro L;obtain⟨w1,hok1,hbit1,e⟩:=yo f n h0 h1 (by omega) ⟨s.loc++L,s.hp⟩;rw[O6 hok0 hok1 fun j hj=>by rw[hbit0 j hj,hbit1 j hj]];exact e
 refine⟨w0,hok0,hbit0,?_⟩;obtain⟨r0,e0,q0⟩:=Iv s.loc s.hp t d f n ((⟨m,s.hp.length,t,t,d,fun _=>an,false⟩:StF).v (fun _=>false)) h0 h2 w0 hok0 (iO d 0 8);have z1:V.agg 48 (List.replicate 49 (.agg 42 [.int .i64 0,.int .i64 0,.int .i64 0]))=ac fun _=>an:=by rw[co];rfl
 have z2:=J9;simp only[dz];rcases q0 with⟨hn,L',w,rfl⟩|⟨w,hok,hw,rfl⟩
 ·left;refine⟨hn,[.rw (frV f n w (w16 [])),.rw ((⟨m,s.hp.length,t,t,d,fun _=>an,false⟩:StF).v (fun _=>false))],?_⟩;rw[ab pK rfl];simp only[StF.v,ac,aM,shV]at*;simp only[go_sem,hln,hnew,z1,z2,e0]
 ·obtain⟨r1,e1,q1⟩:=Jc s.loc s.hp t d f n ((⟨m,s.hp.length,t,t,d,fun _=>an,false⟩:StF).v (fun _=>false)) h0 h2 w hok;rw[hw];rcases q1 with⟨hn,L',w',rfl⟩|⟨w',hw',rfl⟩
  ·left;refine⟨hn,[.rw (frV f n w' (w16 [])),.rw ((⟨m,s.hp.length,t,t,d,fun _=>an,false⟩:StF).v (fun _=>false))],?_⟩;rw[ab pK rfl];simp only[StF.v,ac,aM,shV]at*;simp only[go_sem,hln,hnew,z1,z2,e0,e1]
  ·right;have hin:InL t:=⟨fun i hi hk=>FC h0 (by omega) (hw.trans hw') _ (List.mem_append_left _ (th t 49 0 i (by omega) (by omega) hk))⟩;have rs:=fun L=>Rs (s:=⟨s.loc++L,s.hp++[.rw (frV f n w' (w16 [])),.rw ((⟨m,s.hp.length,t,t,d,fun _=>an,false⟩:StF).v (fun _=>false))]⟩) (a:=s.hp.length+1) (x:=⟨m,s.hp.length,t,t,d,fun _=>an,false⟩) (sh:=fun _=>false) (by simp) hin (fun h=>absurd h (by simp));refine⟨w',Hk h0 (by omega) hok hw',hw',?_⟩;rw[ab pK rfl];simp only[StF.v,ac,aM,shV]at*;simp only[go_sem,hln,hnew,z1,z2,e0,e1,rs]
theorem Aa {m n:Nat}(s:St) (hln:∀L,rf D gC [.ptr (.hp m) [] 59] ⟨s.loc++L,s.hp⟩=some (.int .i64 n,⟨s.loc++L,s.hp⟩)) (f:Int) (h:f<0∨(n:Int)<f∨1024<n) (t:Nat→Ent) (d:Nat→Int):
 rf D gj [.ptr (.hp m) [] 59,.int .i64 f,ac t,aM d] s=some (.tup [.nilp,.int .i64 1],s):=by
 have hnew:=fun L=>KH f n (by omega) ⟨s.loc++L,s.hp⟩;rw[ab pK rfl];simp only[ac,aM]at*;simp only[go_sem,hln,hnew]
end Go.Proofs.YtilcajpldklbiaaGreatDoor
