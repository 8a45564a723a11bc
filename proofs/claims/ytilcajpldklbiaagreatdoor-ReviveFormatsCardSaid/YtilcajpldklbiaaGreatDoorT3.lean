/-
  YtilcajpldklbiaaGreatDoorT3: what functions of the program compute (Sh10, SofA, LobA, LobU).
-/
import Derived.Test.YtilcajpldklbiaaGreatDoorClo
import Derived.Test.YtilcajpldklbiaaGreatDoorAbF
import Derived.Test.YtilcajpldklbiaaGreatDoorT1
import Derived.Test.YtilcajpldklbiaaGreatDoorT2
set_option maxRecDepth 100000
namespace Go.Proofs.YtilcajpldklbiaaGreatDoor
open Go.Ab
structure ug (A:AF) (w:List Nat):Prop where
 ok:A.Ok
 two:A.Two
 okw:OkS w
 bits:∀j,j<1024→bit w j=(A.inr j&&decide (A.st j=0))
theorem ug.l2 {A:AF}{w:List Nat}(h:ug A w):∀j,j<1024→bit (w16 []) j=(A.inr j&&decide (A.st j=2)):=fun j _=>by
 rw[zN];have:=h.two j;have:¬A.st j=2:=by omega
 simp[this]
theorem ug.st {A:AF}{w:List Nat}(h:ug A w) (x:Int):fQ A.f A.l w (w16 []) x=A.state x:=Qc h.ok h.bits h.l2 x
theorem ug.put {A:AF}{w:List Nat}(h:ug A w) {x:Int}(hx:A.state x=0):ug (A.put x.toNat 1) (flip w x.toNat):=by have hr:=oA (A:=A) (line:=x) (by omega);have e0:=AY hr.1 hr.2;refine⟨h.ok.put (.inr (.inl rfl)),h.two.put (.inr rfl),h.okw.flip (by have:=h.ok.l1;omega),Ez h.ok h.okw h.bits (pD.2 (by omega)) (by simp;omega)⟩
theorem n8:∀{ls:List Int}{A:AF}{w:List Nat},ug A w→(cd A.f A.l ls w=none∧A.takes ls=none)∨∃w' A',cd A.f A.l ls w=some w'∧A.takes ls=some A'∧ug A' w'
 |[],A,w,h=> .inr ⟨w,A,rfl,rfl,h⟩
 |x::r,A,w,h=>by
  simp only[cd,AF.takes,h.st];by_cases hx:A.state x=0
  ·rw[if_pos hx,if_pos hx];exact n8 (h.put hx)
  ·rw[if_neg hx,if_neg hx];exact .inl ⟨rfl,rfl⟩
theorem RC {f l:Nat}(h:f≤l) (h1:l≤1024) {w:List Nat}(hw:OkS w) (hb:∀j:Nat,j<1024→bit w j=(decide ((f:Int)≤j)&&decide ((j:Int)<l))):ug (af0 f l) w:=
 ⟨Wd h h1,fun _=> .inl rfl,hw,fun j hj=>by
  rw[hb j hj];simp only[AF.inr,af0,decide_true,Bool.and_true];congr 1
  ·exact decide_eq_decide.2 (by omega)
  ·exact decide_eq_decide.2 (by omega)⟩
theorem Ir {M:AM}(hM:M.Ok) {A':AF}{f:Nat}(hf:f≤M.n) {t:Nat→Ent}{d:Nat→Int}(h:(af0 f M.n).takes (dz t d)=some A'):(as0 M A' t d).Ok∧A'.Two:=by
 obtain⟨h1,h2,h3,h4⟩:=pC h;have ht:oK A' t:=⟨fun i hi hk=>by have:=h3 _ (List.mem_append_left _ (th t 49 0 i (by omega) (by omega) hk));rw[h1,h2];exact this⟩
 have two:A'.Two:=fun j=>by rw[h4 j];split;exact .inr rfl;exact .inl rfl
 have hA:A'.Ok:=⟨by rw[h1,h2];exact hf,by rw[h2];exact hM.n1,fun j=>by have:=two j;omega⟩;refine⟨⟨hM,hA,h2,ht,ht,⟨fun _ _ hk=>absurd rfl hk⟩,fun j=>by have:=two j;simp only[as0];omega⟩,two⟩
theorem PU {hp:List Blk}{F:Ft}{m:Nat}{M:AM}(h:aI hp F m M) (hG:hp[0]?=some (.ro ep)) (hz:¬F 0) (from':Int) (t:Nat→Ent) (d:Nat→Int) (L:List Blk):
 ((from'<0∨(M.n:Int)<from')∧rf D gj [.ptr (.hp m) [] 59,.int .i64 from',ac t,aM d] ⟨L,hp⟩=some (.tup [.nilp,.int .i64 1],⟨L,hp⟩))∨
 (0≤from'∧from'≤M.n∧(af0 from'.toNat M.n).takes (dz t d)=none∧∃more,rf D gj [.ptr (.hp m) [] 59,.int .i64 from',ac t,aM d] ⟨L,hp⟩=some (.tup [.nilp,.int .i64 21],⟨L,hp++more⟩))∨
 (0≤from'∧from'≤M.n∧∃A' more,(af0 from'.toNat M.n).takes (dz t d)=some A'∧rf D gj [.ptr (.hp m) [] 59,.int .i64 from',ac t,aM d] ⟨L,hp⟩=some (.tup [.ptr (.hp (hp.length+1)) [] 43,.int .i64 0],⟨L,hp++more⟩)∧
  bX (hp++more) F (hp.length+1) m hp.length (as0 M A' t d)):=by
 have hln:=rK h;by_cases h0:from'<0∨(M.n:Int)<from'
 ·exact .inl ⟨h0,Aa ⟨L,hp⟩ (fun L'=>hln (L++L')) from' (by omega) t d⟩
 ·right;obtain⟨f,rfl⟩:∃f:Nat,from'=f:=⟨from'.toNat,by omega⟩
  rw[Zh];obtain⟨w0,ok0,b0,hh⟩:=Dq ⟨L,hp⟩ (fun L'=>hln (L++L')) f (by omega) (by omega) h.ok.n1 t d;have hB:=RC (f:=f) (l:=M.n) (by omega) h.ok.n1 ok0 b0;rcases hh with⟨hn,more,e⟩|⟨w,hw,hs,e⟩
  ·left;refine⟨by omega,by omega,?_,more,e⟩;rcases n8 (ls:=dz t d) hB with⟨_,q⟩|⟨_,_,q,_⟩
   ·exact q
   ·have:cd f M.n (dz t d) w0=some _:=q;rw[hn]at this;cases this
  ·right;refine⟨by omega,by omega,?_⟩;rcases n8 (ls:=dz t d) hB with⟨q,_⟩|⟨w',A',q,q2,q3⟩
   ·have:cd f M.n (dz t d) w0=none:=q;rw[hs]at this;cases this
   ·have q:cd f M.n (dz t d) w0=some w':=q;rw[hs]at q;cases q;obtain⟨h1,h2,_,_⟩:=pC q2;obtain⟨ok,_⟩:=Ir h.ok (show f≤M.n by omega) q2;refine⟨A',_,q2,e,⟨ok,?_,?_,⟨ok.A,w,w16 [],?_,q3.okw,BG,q3.bits,q3.l2⟩,h.chg (oW hp _ (fun _=>False)) (fun _ h=>h.elim),by omega,fun hf=> ?_,fun hf=> ?_,hz⟩⟩
    ·rw[List.getElem?_append_left (aj hG)];exact hG
    ·simp;rfl
    ·have e1:(A'.f:Int)=f:=by rw[h1];rfl
     have e2:(A'.l:Int)=M.n:=by rw[h2];rfl
     show(hp++_)[hp.length]?=some (.rw (frV A'.f A'.l w (w16 [])));rw[e1,e2];simp
    ·have:=h.inn _ hf;omega
    ·have:=h.inn _ hf;omega
def kd (c n:Int):Int:=(if c<0 then-(c+1)else c)%n
theorem Hi (c:Int) {n:Int}(h:0<n):0≤kd c n∧kd c n<n:=⟨Int.emod_nonneg _ (by omega),Int.emod_lt_of_pos _ h⟩
theorem EE {n:Nat}(h0:64≤n) (h1:n≤1024) (hp L:List Blk):∃more,more.length=2∧rf D uL [.int .i64 n] ⟨L,hp⟩=some (.tup [.ptr (.hp (hp.length+1)) [] 59,.int .i64 0],⟨L,hp++more⟩)∧
 aI (hp++more) (fun j=>j=hp.length∨j=hp.length+1) (hp.length+1) (am0 n fun _=>zl):=by
 refine⟨_,rfl,LM h0 h1 ⟨L,hp⟩,⟨h0,h1,fun _ _=>rfl,fun _ _ d hd=>(by cases hd),Int.le_refl _,fun _ _=>Int.le_refl _,Int.le_refl _,by simp[am0]⟩,fun j hj=> ?_,.inr rfl,hp.length,.inl rfl,by omega,⟨some n,0,?_,.inr rfl,fun h=>by simp[am0]at h⟩,fun _=> .nils,fun _=>0,?_,fun i hi=> .nil⟩
 ·simp;omega
 ·simp;rfl
 ·have e:(tab n fun _=>nlV zln zln .nils zfl)=tab (am0 n fun _=>zl).n fun i=>plV ((am0 n fun _=>zl).S i) ((am0 n fun _=>zl).L i) .nils:=rfl;rw[←e];simp
theorem TG {hp:List Blk}(h:G<+:hp):hp[0]?=some (.ro ep):=by obtain⟨t,rfl⟩:=h;rfl
theorem Ku {hp:List Blk}{v:V}(h:(Sh.int .i64).Fits hp v):∃x:Int,v= .int .i64 x∧-9223372036854775808≤x∧x≤9223372036854775807:=by obtain⟨n,rfl,h1,h2⟩:=h;exact⟨n,rfl,h1,h2⟩
section
variable {hp hp' : List Blk} {F G G' Fm : Ft} {a m fr : Nat} {x : AS}
theorem bX.chg (h:bX hp Fm a m fr x) (hc:Chg hp hp' G G') (ha:fG G (il a fr Fm)) (hg:¬G 0):bX hp' Fm a m fr x:=
 ⟨h.ok,hc.get h.g hg,hc.get h.st fun e=>ha a e (.inl rfl),h.fp.eqv (hc.old fr h.fp.lt fun e=>ha fr e (.inr (.inl rfl))),h.mp.chg hc fun j h1 h2=>ha j h1 (.inr (.inr h2)),h.ne,h.na,h.nf,h.nz⟩
end
end Go.Proofs.YtilcajpldklbiaaGreatDoor
