/-
  YtilcajpldklbiaaGreatDoorT4: what functions of the program compute (ObjC, MemQ, MemR, CloA, MemF, CrcA, RadA, RadB, RegA, MemG, MemH, MemI, MemJ, SupA, SnpA, SnpB, SnpC, SnpD, SnpE, SnpF, RefC, RefD, SnpG, SnpH, SnpI, SnpJ, SnpK).
-/
import Derived.Test.YtilcajpldklbiaaGreatDoorT1
import Derived.Test.YtilcajpldklbiaaGreatDoorT2
import Derived.Test.YtilcajpldklbiaaGreatDoorT3
set_option maxRecDepth 100000
namespace Go.Proofs.YtilcajpldklbiaaGreatDoor
open Go.Ab
structure Apd (L0:List Blk) (X:List Blk) (v:V) (l:List Int):Prop where
 at':(l=[]∧v= .nils)∨(∃Y,X=Y++[.rw (.agg 38 (l.map (.int .i64)))]∧v= .sl (.hp (L0.length+Y.length)) [] 0 l.length none 10)
theorem Apd.push {L0 X:List Blk}{v:V}{l:List Int}(h:Apd L0 X v l) {loc:List Blk}(hl:l.length<1000) (x:Int) {y:V}(hy:y= .nils∨∃a p o n c,y= .sl a p o n c 10) (hyl:St.elems ⟨loc,L0++X⟩ y=some [.int .i64 x]) {base:Nat}:
 ∃X' v',aD base true 38 10 v y ⟨loc,L0++X⟩=some (v',⟨loc,L0++X'⟩)∧Apd L0 X' v' (l++[x]):=by
 rcases h.at' with⟨rfl,rfl⟩|⟨Y,rfl,rfl⟩
 ·refine⟨X++[.rw (.agg 38 [.int .i64 x])],_,?_,⟨.inr ⟨X,rfl,rfl⟩⟩⟩;rw[Hg hy hyl (by simp) (by simp[cg]) rfl];simp only[go_sem]
 ·refine⟨Y++[.dead]++[.rw (.agg 38 ((l++[x]).map (.int .i64)))],_,?_,⟨.inr ⟨Y++[.dead],rfl,rfl⟩⟩⟩;have e1:St.elems ⟨loc,L0++(Y++[.rw (.agg 38 (l.map (.int .i64)))])⟩ (.sl (.hp (L0.length+Y.length)) [] 0 l.length none 10)=some (l.map (.int .i64)):=
   cR (t:=38) (by rw[←List.append_assoc,←List.length_append];simp only[go_sem]) (by simp)
  have e2:St.at ⟨loc,L0++(Y++[.rw (.agg 38 (l.map (.int .i64)))])⟩ (.hp (L0.length+Y.length))=some (.rw (.agg 38 (l.map (.int .i64)))):=by rw[←List.append_assoc,←List.length_append];simp[St.at]
  rw[J4 hy e1 hyl (by simp) (by simp[cg];omega) rfl e2];have e3:(St.set ⟨loc,L0++(Y++[.rw (.agg 38 (l.map (.int .i64)))])⟩ (.hp (L0.length+Y.length)) .dead)=⟨loc,L0++(Y++[.dead])⟩:=by simp only[St.set];rw[←List.append_assoc,←List.length_append,List.set_append_right _ _ (Nat.le_refl _)];simp
  rw[e3];simp only[go_sem];simp
theorem Apd.elems {L0 X:List Blk}{v:V}{l:List Int}(h:Apd L0 X v l) {loc:List Blk}:St.elems ⟨loc,L0++X⟩ v=some (l.map (.int .i64)):=by
 rcases h.at' with⟨rfl,rfl⟩|⟨Y,rfl,rfl⟩
 ·rfl
 ·exact cR (t:=38) (by rw[←List.append_assoc,←List.length_append];simp only[go_sem]) (by simp)
theorem Ay (t:Nat→Ent):∀(n i:Nat),be t i (n+1)=be t i n++if(t (i+n)).kind=0 then[]else[(t (i+n)).line]
 |0,i=>by simp only[be,Nat.add_zero];split<;>rfl
 |n+1,i=>by rw[be,Ay t n (i+1),be,show i+1+n=i+(n+1) by omega];split<;>simp
theorem nh (t:Nat→Ent):∀(n i:Nat),(be t i n).length≤n
 |0,i=>Nat.le_refl _
 |n+1,i=>by
  have:=nh t n (i+1);simp only[be];split
  ·omega
  ·simp only[List.length_cons];omega
theorem yN (t:Nat→Ent) (s:St):∃X v,Apd s.hp X v (be t 0 49)∧rf D jJ [ac t] s=some (v,⟨s.loc,s.hp++X⟩):=by
 have loop:∃r,rc D s.loc.length (.loop [1,3,4] dE) [(1,.ptr (.loc s.loc.length) [] 48),(3,.nils),(4,.int .i64 0)] ⟨s.loc++[.rw (ac t)],s.hp⟩=some r∧
  ∃X v,Apd s.hp X v (be t 0 49)∧r=(.exit 0,[(1,.ptr (.loc s.loc.length) [] 48),(3,v),(4,.int .i64 49),(6,.bool false)],⟨s.loc++[.rw (ac t)],s.hp++X⟩):=by
  refine o7 (fun x:Nat×List Blk×V=>[(1,.ptr (.loc s.loc.length) [] 48),(3,x.2.2),(4,.int .i64 x.1)]) (fun x=>⟨s.loc++[.rw (ac t)],s.hp++x.2.1⟩) _ (fun x=>49-x.1)
   (fun x=>x.1≤49∧Apd s.hp x.2.1 x.2.2 (be t 0 x.1)) (0,[],.nils) ?_ ⟨by simp only;omega,⟨.inl ⟨rfl,rfl⟩⟩⟩ rfl (by simp)
  rintro⟨i,X,v⟩ ⟨hi,ha⟩;simp only at hi ha;by_cases c1:i<49
  ·left;have d1:(i:Int)<49:=by omega
   have d2:(0:Int)≤i:=by omega
   have d4:IntKind.i64.wrap ((i:Int)+1)=(i:Int)+1:=ae (by omega) (by omega);have d5:s.loc.length<s.loc.length+1:=Nat.lt_succ_self _;have g1:=av (f:=fun i=>(t i).v) c1;have hsn:=Ay t i 0;rw[Nat.zero_add]at hsn;have hv:v.locLt (s.loc.length+1)=true:=by rcases ha.at' with⟨_,rfl⟩|⟨Y,_,rfl⟩<;>simp only[go_sem]
   by_cases hk:(t i).kind=0
   ·rw[if_pos hk,List.append_nil]at hsn;refine⟨(i+1,X,v),⟨by simp only;omega,by simp only;rw[hsn];exact ha⟩,by simp only;omega,?_⟩;simp only[ac,Ent.v]at*;simp only[hk]at g1;generalize tab 49 (fun i=>V.agg 42 [.int .i64 (t i).kind,.int .i64 (t i).ver,.int .i64 (t i).line])=T at*;simp only[go_sem,dE,d1,d2];rw[Zh];simp only[go_sem,g1,d4,hv,d5];rfl
   ·rw[if_neg hk]at hsn;have hll:=nh t i 0;obtain⟨X',v',e1,ha'⟩:=ha.push (loc:=s.loc++[.rw (ac t),.rw (.agg 38 [.int .i64 (t i).line])]) (by omega) (t i).line (y:= .sl (.loc (s.loc.length+1)) [] 0 1 (some 1) 10) (.inr ⟨_,_,_,_,_,rfl⟩)
     (cR (t:=38) (by simp only[go_sem]) rfl) (base:=s.loc.length)
    have hv':v'.locLt (s.loc.length+1)=true:=by rcases ha'.at' with⟨_,rfl⟩|⟨Y,_,rfl⟩<;>simp only[go_sem]
    refine⟨(i+1,X',v'),⟨by simp only;omega,by simp only;rw[hsn];exact ha'⟩,by simp only;omega,?_⟩;simp only[ac,Ent.v]at*;generalize tab 49 (fun i=>V.agg 42 [.int .i64 (t i).kind,.int .i64 (t i).ver,.int .i64 (t i).line])=T at*;simp only[go_sem,dE,d1,d2];rw[Zh];simp only[go_sem,g1,hk,d1,d2];rw[Zh];simp only[go_sem,g1,d4,List.replicate,e1,hv',d5];rfl
  ·right;have:i=49:=by omega
   subst this;refine⟨_,?_,X,v,ha,rfl⟩;simp only[go_sem,dE]
 obtain⟨_,hl,X,v,ha,rfl⟩:=loop;refine⟨X,v,ha,?_⟩;have hv:v.locLt s.loc.length=true:=by rcases ha.at' with⟨_,rfl⟩|⟨Y,_,rfl⟩<;>simp only[go_sem]
 simp only[ac]at*;rw[ab uZ rfl];simp only[go_sem,hl,hv]
def coV (f:Nat→Bool):V:= .agg 88 (tab 8 fun c=> .bool (f c))
def Dn.v2 (d:Dn):V:= .agg 90 [.int .i64 d.w,.int .u64 d.v,coV d.cs]
structure aV (hp:List Blk) (F:Ft) (m:Nat) (M:AM):Prop where
 ok:M.Ok
 inn:Inn hp F
 fm:F m
 mb:∃k k2,F k∧F k2∧m≠k∧m≠k2∧k≠k2∧hp[m]?=some (.rw (rmV k M.n k2 M.off M.left M.count))∧hp[k]?=some (.rw (.agg 58 (tab M.n fun i=>lnV (M.S i))))∧
  ∃(sv:Nat→V) (ow:Nat→Nat),hp[k2]?=some (.rw (.agg 53 (tab M.n sv)))∧∀i,i<M.n→SlR hp (fun j=>F j∧j≠m∧j≠k∧j≠k2∧ow j=i) 90 92 (sv i) ((M.L i).map Dn.v2)
theorem aV.eqv {hp hp':List Blk}{F:Ft}{m:Nat}{M:AM}(h:aV hp F m M) (he:Eqv hp hp' F) (hl:hp.length≤hp'.length):aV hp' F m M:=by obtain⟨k,k2,fk,fk2,n1,n2,n3,h1,h2,sv,ow,h4,h5⟩:=h.mb;exact⟨h.ok,fun j hj=>Nat.lt_of_lt_of_le (h.inn j hj) hl,h.fm,k,k2,fk,fk2,n1,n2,n3,by rw[he m h.fm];exact h1,by rw[he k fk];exact h2,sv,ow,by rw[he k2 fk2];exact h4,fun i hi=>(h5 i hi).eqv (fun j hj=>he j hj.1) fun j hj=>hj⟩
theorem aV.chg {hp hp':List Blk}{F G G':Ft}{m:Nat}{M:AM}(h:aV hp F m M) (hc:Chg hp hp' G G') (ha:fG G F):aV hp' F m M:=h.eqv (hc.eqv ha h.inn) hc.le
theorem AH {hp:List Blk}{F:Ft}{m:Nat}{M:AM}(h:aV hp F m M) (i:Int) (L:List Blk):rf D gT [.ptr (.hp m) [] 33,.int .i64 i] ⟨L,hp⟩=some (.bool (decide (0≤i∧i<M.n)),⟨L,hp⟩):=by
 obtain⟨k,k2,fk,fk2,n1,n2,n3,h1,_⟩:=h.mb;simp only[rmV]at h1;rw[ab sI rfl];by_cases c1:0≤i
 ·by_cases c2:i<M.n
  ·simp only[go_sem,c1,c2,h1,and_self,decide_true]
  ·simp only[go_sem,c1,c2,h1,and_false,decide_false,decide_true]
 ·simp only[go_sem,c1,false_and,decide_false]
theorem Jh {x:List Int}{l:List Dn}{n:Nat}(hn:n<l.length):au x (l.take (n+1))=(au x (l.take n)).set l[n].w l[n].v:=by rw[List.take_succ_eq_append_getElem hn,mW];rfl
theorem Eo {hp:List Blk}{F:Ft}{m:Nat}{M:AM}(h:aV hp F m M) (hc:M.count<1000000) {i n:Nat}(hi:i<M.n) (hn:n≤(M.L i).length) (L:List Blk):
 rf D gg [.ptr (.hp m) [] 33,.int .i64 i,.int .i64 n] ⟨L,hp⟩=some (lnV (au (M.S i) ((M.L i).take n)),⟨L,hp⟩):=by
 obtain⟨k,k2,fk,fk2,n1,n2,n3,h1,h2,sv,ow,h4,h5⟩:=h.mb;have hl8:=h.ok.l8 i hi;have hw8:=h.ok.w8 i hi;have g2:=av (f:=fun i=>lnV (M.S i)) hi;have g4:=av (f:=sv) hi;have d1:(i:Int)<M.n:=by omega
 have d0:(0:Int)≤i:=by omega
 have hsl:=h5 i hi;have q2:=md (a:= .hp k2) (e:=1) hi;simp only[rmV,lnV]at*;generalize(tab M.n fun i=>V.agg 24 ((M.S i).map (V.int .u64)))=T1 at*;generalize(tab M.n sv)=T2 at*;have loop:rc D L.length (.loop [0,1,2,6,7,8] du) [(0,.ptr (.hp m) [] 33),(1,.int .i64 i),(2,.int .i64 n),(6,.ptr (.loc L.length) [] 24),(7,.ptr (.loc (L.length+1)) [] 24),(8,.int .i64 0)]
  ⟨L++[.rw (.agg 24 (List.replicate 8 (.int .u64 0))),.rw (.agg 24 ((M.S i).map (V.int .u64)))],hp⟩=
  some (.exit 0,[(0,.ptr (.hp m) [] 33),(1,.int .i64 i),(2,.int .i64 n),(6,.ptr (.loc L.length) [] 24),(7,.ptr (.loc (L.length+1)) [] 24),(8,.int .i64 n),(18,.bool false)],
   ⟨L++[.rw (.agg 24 (List.replicate 8 (.int .u64 0))),.rw (.agg 24 ((au (M.S i) ((M.L i).take n)).map (V.int .u64)))],hp⟩):=by
  refine bC (fun x:Nat=>[(0,.ptr (.hp m) [] 33),(1,.int .i64 i),(2,.int .i64 n),(6,.ptr (.loc L.length) [] 24),(7,.ptr (.loc (L.length+1)) [] 24),(8,.int .i64 x)])
   (fun x=>⟨L++[.rw (.agg 24 (List.replicate 8 (.int .u64 0))),.rw (.agg 24 ((au (M.S i) ((M.L i).take x)).map (V.int .u64)))],hp⟩) (fun _=>_) (fun x=>n-x) (fun x=>x≤n) 0 ?_ (by omega) rfl rfl
  intro x hx;by_cases c1:x<n
  ·left;have c2:(x:Int)<n:=by omega
   have hxl:x<(M.L i).length:=by omega
   have d4:IntKind.i64.wrap ((x:Int)+1)=(x:Int)+1:=ae (by omega) (by have:=h.ok.len i hi;omega);have hg:=am (f:=Dn.v2) hxl ⟨0,0,fun _=>false⟩;have hgd:(M.L i).getD x ⟨0,0,fun _=>false⟩=(M.L i)[x]:=by rw[List.getD_eq_getElem?_getD,List.getElem?_eq_getElem hxl];rfl
   rw[hgd]at hg;have hw:=hw8 _ (List.getElem_mem hxl);have hbl:(au (M.S i) ((M.L i).take x)).length=8:=by rw[pS];exact hl8
   have hrs:=fun L=>hsl.rs L;refine⟨x+1,by omega,by omega,rfl,?_⟩;rw[Jh hxl];generalize au (M.S i) ((M.L i).take x)=Z at*;generalize(M.L i)[x]=d at*;simp only[Dn.v2]at hg;have e1:(0:Int)≤(d.w:Int):=by omega
   have e2:(d.w:Int)<8:=by omega
   have hld:∀L t q,ldv ⟨L,hp⟩ t (elq (sv i) x q t)=V.at q (V.agg 90 [V.int .i64 d.w,V.int .u64 d.v,coV d.cs]):=fun L t q=>(hrs L).ldq hg;have hbm:(Z.map (V.int .u64))[d.w]?=some (.int .u64 (Z.getD d.w 0)):=am (by omega) 0;rw[List.map_set];simp only[go_sem,du,c2,h1,h4,g4,q2,(hrs []).sadq hg,(hrs []).fadq hg,hld,e1,e2];rw[Zh];have z2:L.length<L.length+2:=by omega
   have z3:L.length+1<L.length+2:=by omega
   simp only[go_sem,hbm,d4,z2,z3];rfl
  ·right;have:x=n:=by omega
   subst this;have c2:¬(x:Int)<x:=by omega
   simp only[go_sem,du,c2]
 rw[ab rX rfl];simp only[go_sem,h1,h2,d0,d1];rw[Zh];simp only[go_sem,g2,loop]
theorem lz {hp:List Blk}{F:Ft}{m:Nat}{M:AM}(h:aV hp F m M) (hc:M.count<1000000) (i:Int) (L:List Blk):rf D fU [.ptr (.hp m) [] 33,.int .i64 i] ⟨L,hp⟩=some (.tup [lnV (M.load i).1,.int .i64 (M.load i).2],⟨L,hp⟩):=by
 have his:=fun L=>AH h i L;have e:lnV zl= .agg 24 (List.replicate 8 (.int .u64 0)):=rfl;unfold AM.load;by_cases hi:i<0∨(M.n:Int)≤i
 ·rw[if_pos hi];have hd:decide (0≤i∧i<(M.n:Int))=false:=by simp only[decide_eq_false_iff_not];omega
  simp only[hd]at his;rw[ab ko rfl];simp only[e];simp only[go_sem,his]
 ·rw[if_neg hi];obtain⟨j,rfl⟩:∃j:Nat,i=j:=⟨i.toNat,by omega⟩;have hj:j<M.n:=by omega
  have hd:decide (0≤(j:Int)∧(j:Int)<(M.n:Int))=true:=by simp only[Zi];omega
  simp only[hd]at his;have hh:=fun L=>Eo h hc hj (Nat.le_refl _) L;simp only[List.take_length]at hh;rw[Zh];obtain⟨k,k2,fk,fk2,n1,n2,n3,h1,h2,sv,ow,h4,h5⟩:=h.mb;have g4:=av (f:=sv) hj;have q2:=md (a:= .hp k2) (e:=1) hj;have hl:=(h5 j hj).slen;rw[List.length_map]at hl;simp only[rmV]at h1;generalize(tab M.n sv)=T2 at*;unfold AM.now;rw[ab ko rfl];simp only[e];simp only[lnV]at*;cases ho:M.off
  ·rw[ho]at h1;simp only[go_sem,his,h1,h4,g4,q2,hl,hh,Bool.false_eq_true,if_false]
  ·rw[ho]at h1;have e2:zl.map (V.int .u64)=List.replicate 8 (.int .u64 0):=rfl;simp only[e2,if_true];simp only[go_sem,his,h1]
theorem aV.setm {hp:List Blk}{F:Ft}{m:Nat}{M M':AM}(h:aV hp F m M) (ok:M'.Ok) (hn:M'.n=M.n) (hS:M'.S=M.S) (hL:M'.L=M.L) {k k2:Nat}(hb:hp[m]?=some (.rw (rmV k M.n k2 M.off M.left M.count))):
 aV (hp.set m (.rw (rmV k M.n k2 M'.off M'.left M'.count))) F m M'∧Chg hp (hp.set m (.rw (rmV k M.n k2 M'.off M'.left M'.count))) F F:=by
 obtain⟨k',k2',fk,fk2,n1,n2,n3,h1,h2,sv,ow,h4,h5⟩:=h.mb;rw[hb]at h1;have h1:=Option.some.inj h1;simp only[rmV,Blk.rw.injEq,V.agg.injEq,List.cons.injEq,V.sl.injEq,Loc.hp.injEq,true_and,and_true]at h1;obtain⟨rfl,rfl⟩:=h1;refine⟨⟨ok,h.inn.set,h.fm,k,k2,fk,fk2,n1,n2,n3,?_,?_,sv,ow,?_,fun i hi=> ?_⟩,iH.mono (fun j hj=>by cases hj;exact h.fm) fun _=> .inr⟩
 ·rw[hn,List.getElem?_set_self (aj hb)]
 ·rw[List.getElem?_set_ne n1,hn,hS];exact h2
 ·rw[List.getElem?_set_ne n2,hn];exact h4
 ·rw[hn]at hi;rw[hL];exact(h5 i hi).eqv (fun j hj=>List.getElem?_set_ne (Ne.symm hj.2.1)) fun j hj=>hj
theorem wA {hp:List Blk}{F:Ft}{m:Nat}{M:AM}(h:aV hp F m M) (hc:M.count<1000000) {k k2:Nat}(h1:hp[m]?=some (.rw (rmV k M.n k2 M.off M.left M.count))) (L:List Blk):
 rf D fR [.ptr (.hp m) [] 33] ⟨L,hp⟩=if M.dead then some (.int .i64 4,⟨L,hp.set m (.rw (rmV k M.n k2 M.out.off M.out.left M.out.count))⟩)else some (.int .i64 0,⟨L,hp.set m (.rw (rmV k M.n k2 M.stepped.off M.stepped.left M.stepped.count))⟩):=by
 have ok:=h.ok;have w1:IntKind.i64.wrap (M.left-1)=M.left-1:=ae (by have:=ok.lf;omega) (by have:=ok.lg;omega);have w2:IntKind.i64.wrap (M.count+1)=M.count+1:=ae (by have:=ok.c0;omega) (by omega);have hlt:=aj h1;have hset:∀b,(hp.set m b)[m]?=some b:=fun b=>List.getElem?_set_self hlt;unfold AM.dead AM.out AM.stepped;simp only[rmV]at*;rw[ab qQ rfl];cases ho:M.off
 ·rw[ho]at h1;by_cases c1:M.left=0
  ·simp only[go_sem,h1,c1,Bool.false_or,decide_true,if_true]
  ·by_cases c2:M.left>0
   ·have c3:0<M.left:=c2;simp only[go_sem,h1,c1,c2,c3,w1,w2,hset,Bool.false_or,decide_false,Bool.false_eq_true,if_false,if_true,List.set_set]
   ·have c3:¬0<M.left:=c2;simp only[go_sem,h1,c1,c2,c3,w2,hset,Bool.false_or,decide_false,Bool.false_eq_true,if_false,List.set_set]
 ·rw[ho]at h1;simp only[go_sem,h1,Bool.true_or,if_true]
theorem KS {hp:List Blk}{F:Ft}{m:Nat}{M:AM}(h:aV hp F m M) (n:Int) (hn:n≤9223372036854775807) (L:List Blk):
 ∃hp',rf D fN [.ptr (.hp m) [] 33,.int .i64 n] ⟨L,hp⟩=some (.tup [],⟨L,hp'⟩)∧aV hp' F m (M.fuse n)∧Chg hp hp' F F:=by
 have hM:=h;obtain⟨k,k2,fk,fk2,n1,n2,n3,h1,h2,sv,ow,h4,h5⟩:=h.mb;have ok:=h.ok;have okf:(M.fuse n).Ok:=⟨ok.n0,ok.n1,ok.l8,ok.w8,ok.c0,ok.len,by unfold AM.fuse;simp only;split<;>omega,by unfold AM.fuse;simp only;split<;>omega⟩;obtain⟨g1,g2⟩:=hM.setm (M':=M.fuse n) okf rfl rfl rfl h1;refine⟨_,?_,g1,g2⟩;have e:max n (-1)=(M.fuse n).left:=by unfold AM.fuse;simp only;split<;>omega
 have e2:max (-1) n=(M.fuse n).left:=by rw[←e];omega
 generalize(M.fuse n).left=lf at*;simp only[rmV,AM.fuse]at*;rw[ab rq rfl];simp only[go_sem,h1,e]
theorem DZ {H:List Blk}{e r:Nat}{v:V}{l:List V}(hsh:v= .nils∨∃a p o n c,v= .sl a p o n c e) (hel:∀L,St.elems ⟨L,H++[.rw (.agg r [])]⟩ v=some l) (hl:V.locLts 0 l=true) (hm:l.length≤cg):
 ∃H1 j c,H1.length≤H.length+2∧H.length≤j∧j<H1.length∧(∀i,i<H.length→H1[i]?=H[i]?)∧H.length<H1.length∧
  (∀base L,aD base true r e (.sl (.hp H.length) [] 0 0 (some 0) e) v ⟨L,H++[.rw (.agg r [])]⟩=some (.sl (.hp j) [] 0 l.length c e,⟨L,H1⟩))∧SlR H1 (fun i=>i=j) e r (.sl (.hp j) [] 0 l.length c e) l:=by
 have h0:SlR (H++[.rw (.agg r [])]) (fun i=>i=H.length) e r (.sl (.hp H.length) [] 0 ([]:List V).length (some ([]:List V).length) e) []:= .blk _ _ _ (.inr rfl) rfl (by simp);by_cases hn:l=[]
 ·subst hn;refine⟨H++[.rw (.agg r [])],H.length,some 0,by simp,Nat.le_refl _,by simp,fun i hi=>List.getElem?_append_left hi,by simp,fun base L=> ?_,h0⟩;unfold aD;have e1:St.elems ⟨L,H++[.rw (.agg r [])]⟩ (.sl (.hp H.length) [] 0 0 (some 0) e)=some []:=h0.elems L;have e2:=hel L;have e3:V.slIs e (.sl (.hp H.length) [] 0 0 (some 0) e)=true:=by simp[V.slIs]
  have e4:V.elIs e v=true:=by
   rcases hsh with rfl|⟨_,_,_,_,_,rfl⟩
   ·rfl
   ·simp[V.elIs]
  rw[e1,e2,e3,e4];rfl
 ·have key:∀L,∃hp',(∀base,aD base true r e (.sl (.hp H.length) [] 0 0 (some 0) e) v ⟨L,H++[.rw (.agg r [])]⟩=some (.sl (.hp (H.length+1)) [] 0 l.length none e,⟨L,hp'⟩))∧hp'=H++[.rw (.agg r []),.rw (.agg r l)]:=by intro L;refine⟨_,fun base=> ?_,rfl⟩;have:=zV (base:=base) (h:=true) (r:=r) (e:=e) (x:= .sl (.hp H.length) [] 0 0 (some 0) e) (old:=[]) (new:=l) (s:=⟨L,H++[.rw (.agg r [])]⟩) (.inr ⟨_,_,_,_,_,rfl⟩) hsh (h0.elems L) (hel L) hn (by simpa using hm) (.inr (by simp only[AG,B9,List.nil_append,hl,Bool.or_true]));rw[this];have hp0:0<l.length:=List.length_pos_iff.2 hn;simp only[uN,Option.map_some,List.length_nil,Nat.zero_add,hp0,decide_true,if_true];simp[St.fresh,St.new]
  refine⟨H++[.rw (.agg r []),.rw (.agg r l)],H.length+1,none,by simp,by omega,by simp,fun i hi=>List.getElem?_append_left hi,by simp,fun base L=> ?_,.blk _ _ _ (.inl rfl) rfl (by simp)⟩;obtain⟨hp',g1,rfl⟩:=key L;exact g1 base
theorem OL {H:List Blk}{G:Ft}{e r:Nat}{v:V}{l:List V}(h:SlR H G e r v l) (hl:V.locLts 0 l=true) (hm:l.length≤cg):
 ∃H1 j c,H1.length≤H.length+2∧H.length≤j∧j<H1.length∧(∀i,i<H.length→H1[i]?=H[i]?)∧H.length<H1.length∧
  (∀base L,aD base true r e (.sl (.hp H.length) [] 0 0 (some 0) e) v ⟨L,H++[.rw (.agg r [])]⟩=some (.sl (.hp j) [] 0 l.length c e,⟨L,H1⟩))∧SlR H1 (fun i=>i=j) e r (.sl (.hp j) [] 0 l.length c e) l:=by
 have hv:SlR (H++[.rw (.agg r [])]) (fun i=>G i∧i<H.length) e r v l:=by
  cases h with
  |nil=>exact .nil
  |emp a p o=>exact .emp a p o
  |blk a c l hc hG hb=>exact .blk a c l hc ⟨hG,aj hb⟩ (by rw[List.getElem?_append_left (aj hb)];exact hb)
 exact DZ hv.shape hv.elems hl hm
theorem Lk {l:List Dn}:V.locLts 0 (l.map Dn.v2)=true:=by
 induction l with
 |nil=>rfl
 |cons d l ih=>
  simp only[List.map_cons,V.locLts,ih,Bool.and_true];rfl
theorem ma {hp:List Blk}{F:Ft}{m:Nat}{M:AM}(h:aV hp F m M) (hc:M.count<1000000) (i q v:Int) (L:List Blk):
 ∃hp' F',rf D fB [.ptr (.hp m) [] 33,.int .i64 i,.int .i64 q,.int .u64 v] ⟨L,hp⟩=some (.int .i64 (M.store i q v).2,⟨L,hp'⟩)∧aV hp' F' m (M.store i q v).1∧Chg hp hp' F F':=by
 have hM:=h;have his:=fun L=>AH h i L;have ok:=h.ok;unfold AM.store;by_cases hi:i<0∨(M.n:Int)≤i
 ·rw[if_pos (by omega)];have hd:decide (0≤i∧i<(M.n:Int))=false:=by simp only[decide_eq_false_iff_not];omega
  simp only[hd]at his;refine⟨hp,F,?_,hM,.refl _ _⟩;rw[ab dt rfl];simp only[go_sem,his]
 ·have hd:decide (0≤i∧i<(M.n:Int))=true:=by simp only[Zi];omega
  simp only[hd]at his;by_cases hq:q<0∨8≤q
  ·rw[if_pos (by omega)];refine⟨hp,F,?_,hM,.refl _ _⟩;rw[ab dt rfl];by_cases hq0:q<0
   ·simp only[go_sem,his,hq0]
   ·have hq8:q>7:=by omega
    simp only[go_sem,his,hq0,hq8]
  ·rw[if_neg (by omega)];obtain⟨j,rfl⟩:∃j:Nat,i=j:=⟨i.toNat,by omega⟩;obtain⟨p,rfl⟩:∃p:Nat,q=p:=⟨q.toNat,by omega⟩;simp only[Zh];have d1:¬(p:Int)<0:=by omega
   have d2':¬(p:Int)>7:=by omega
   obtain⟨k,k2,fk,fk2,n1,n2,n3,h1,h2,sv,ow,h4,h5⟩:=h.mb;have hstep:=fun L=>wA (L:=L) hM hc h1;by_cases hdd:M.dead=true
   ·rw[if_pos hdd];simp only[hdd,if_true]at hstep;obtain⟨g1,g2⟩:=hM.setm (M':=M.out) ok.out rfl rfl rfl h1;refine⟨_,F,?_,g1,g2⟩;generalize hp.set m (.rw (rmV k M.n k2 M.out.off M.out.left M.out.count))=H at*;rw[ab dt rfl];simp only[go_sem,his,d1,d2',hstep]
   ·rw[if_neg hdd];rw[Bool.not_eq_true]at hdd;simp only[hdd,Bool.false_eq_true,if_false]at hstep;obtain⟨g1,g2⟩:=hM.setm (M':=M.stepped) ok.stepped rfl rfl rfl h1;have hHl:(hp.set m (.rw (rmV k M.n k2 M.stepped.off M.stepped.left M.stepped.count))).length=hp.length:=by rw[List.length_set]
    generalize hp.set m (.rw (rmV k M.n k2 M.stepped.off M.stepped.left M.stepped.count))=H at*;clear h1 h2 h4 h5 sv ow n1 n2 n3 fk fk2 k k2;obtain⟨k,k2,fk,fk2,n1,n2,n3,h1,h2,sv,ow,h4,h5⟩:=g1.mb;have e1:M.stepped.n=M.n:=rfl;have e2:M.stepped.S=M.S:=rfl;have e3:M.stepped.L=M.L:=rfl;rw[e1]at h1 h4 h5 h2;rw[e2]at h2;rw[e3]at h5;have hj:j<M.n:=by omega
    have hp8:p<8:=by omega
    have hlen:=ok.len j hj;have ml:m<H.length:=aj h1;have kl:k<H.length:=aj h2;have k2l:k2<H.length:=aj h4;let dn:Dn:=Dn.mk0 p v;obtain⟨H1,j1,c1,b1,b2,b3,b4,b5,b6,b7⟩:=OL (h5 j hj) Lk (by simp[cg];omega);have b6:=fun L=>b6 (List.length L) L;have hy:∀L2,St.elems ⟨L2++[.rw (.agg 92 [dn.v2])],H1⟩ (.sl (.loc L2.length) [] 0 1 (some 1) 90)=some [dn.v2]:=fun L2=>cR (t:=92) (by simp[tA,xm,nX]) rfl;obtain⟨H2,r1,r2,r3,r4⟩:=b7.push (base:=L.length) (L++[.rw (.agg 92 [dn.v2])]) (.inr ⟨_,_,_,_,_,rfl⟩) (hy L) (by simp) (by simp[cg];omega) (.inr (by have:=Lk (l:=M.L j++[dn]);rw[List.map_append]at this;exact this))
    let NV:=V.sl (.hp H1.length) [] 0 ((M.L j).map Dn.v2++[dn.v2]).length none 90;have old:∀x,x<H.length→H2[x]?=H[x]?:=fun x hx=>by rw[r4 x (by omega) (by omega),b4 x hx]
    have g4:=av (f:=sv) hj;have q2:=md (a:= .hp k2) (e:=1) hj;have a4:H2[k2]?=some (.rw (.agg 53 (tab M.n sv))):=by rw[old k2 k2l];exact h4
    refine⟨H2.set k2 (.rw (.agg 53 ((tab M.n sv).set j NV))),fun x=>F x∨x=H1.length,?_,⟨ok.pushed hp8,fun x hx=> ?_,.inl h.fm,k,k2,.inl fk,.inl fk2,n1,n2,n3,?_,?_,upd sv j NV,upd ow H1.length j,?_,fun i hi=> ?_⟩,⟨by simp;omega,fun x hx hn=> ?_,fun x hx=> ?_⟩⟩
    ·have b6':=b6 L;have ts:V.tag NV=1:=rfl;have tl:V.locLt 0 NV=true:=rfl;have mj:¬m=H.length:=by omega
     have mj1:¬m=j1:=by omega
     change aD _ _ _ _ _ _ _=some (NV,_)at r1;have hdv:dn.v2= .agg 90 [.int .i64 p,.int .u64 v,.agg 88 (List.replicate 8 (.bool false))]:=rfl;rw[hdv]at r1;clear_value NV;have hsvt:=(h5 j hj).tag;generalize(tab M.n sv)=T2 at*;simp only[rmV]at*;have hA1:(H++[Blk.rw (.agg 92 [])])[m]?=_:=(List.getElem?_append_left ml).trans h1;have hA2:(H++[Blk.rw (.agg 92 [])])[k2]?=_:=(List.getElem?_append_left k2l).trans h4;have hrep:∀X:V,List.replicate 1 X=[X]:=fun _=>rfl;rw[ab dt rfl];simp only[go_sem,hrep,List.replicate_zero,his,d1,d2',hstep,h1,h4,hA1,hA2,g4,q2,mj,mj1,b6',r1,a4,ts,tl,hsvt]
    ·rw[List.length_set,r2];rcases hx with hx|rfl
     ·have:=h.inn x hx;omega
     ·omega
    ·rw[List.getElem?_set_ne (Ne.symm n2),old m ml];exact h1
    ·rw[List.getElem?_set_ne (Ne.symm n3),old k kl];exact h2
    ·rw[dg];exact List.getElem?_set_self (by omega)
    ·have e5:(M.stepped.push j (Dn.mk0 p v)).L i=upd M.L j (M.L j++[Dn.mk0 p v]) i:=rfl;rw[e5];by_cases e:i=j
     ·subst e;rw[al,al,List.map_append];refine .blk _ none _ (.inl rfl) ⟨.inr rfl,by omega,by omega,by omega,al ..⟩ ?_;rw[List.getElem?_set_ne (by omega)];exact r3
     ·rw[aw e,aw e];refine(h5 i hi).eqv (fun x hx=> ?_) fun x hx=>⟨.inl hx.1,hx.2.1,hx.2.2.1,hx.2.2.2.1,?_⟩
      ·have hxl:x<H.length:=by have:=h.inn x hx.1;omega
       rw[List.getElem?_set_ne (Ne.symm hx.2.2.2.1),old x hxl]
      ·rw[aw (by have:=h.inn x hx.1;omega)];exact hx.2.2.2.2
    ·rw[List.getElem?_set_ne (fun e=>hn (by rw[←e];exact fk2)),old x (by omega)];exact g2.old x hx hn
    ·rcases hx with hx|rfl
     ·exact .inl hx
     ·exact .inr (by omega)
theorem SlR.more {hp hp':List Blk}{G G':Ft}{e r:Nat}{v:V}{l:List V}(h:SlR hp G e r v l) (he:∀j,j<hp.length→G j→hp'[j]?=hp[j]?) (hG:∀j,j<hp.length→G j→G' j):SlR hp' G' e r v l:=by
 cases h with
 |nil=>exact .nil
 |emp a p o=>exact .emp a p o
 |blk a c l hc hg hb=>exact .blk a c l hc (hG a (aj hb) hg) (by rw[he a (aj hb) hg];exact hb)
theorem Xy {l:List Dn}:V.locLts 0 (l.map Dn.v1)=true:=by
 induction l with
 |nil=>rfl
 |cons d l ih=>
  simp only[List.map_cons,V.locLts,ih,Bool.and_true];rfl
theorem LG {hp:List Blk}{F:Ft}{m:Nat}{M:AM}(h:aI hp F m M) (n:Int) (hn:n≤9223372036854775807) (L:List Blk):
 ∃hp',rf D nO [.ptr (.hp m) [] 59,.int .i64 n] ⟨L,hp⟩=some (.tup [],⟨L,hp'⟩)∧aI hp' F m (M.fuse n)∧Chg hp hp' F F:=by
 have hM:=h;obtain⟨k,fk,ne,⟨cp,left,h1,h2,h3⟩,sv,ow,h4,h5⟩:=h.mb;have ok:=h.ok;have okf:(M.fuse n).Ok:=⟨ok.n0,ok.n1,ok.l8,ok.w8,ok.c0,ok.len,by unfold AM.fuse;simp only;split<;>omega,by unfold AM.fuse;simp only;split<;>omega⟩;obtain⟨g1,g2⟩:=hM.setm (M':=M.fuse n) (left':=n) okf rfl rfl rfl h1 (by unfold AM.fuse;simp only;split<;>omega);refine⟨_,?_,g1,g2⟩;have hlt:=aj h1;have hset:∀b,(hp.set m b)[m]?=some b:=fun b=>List.getElem?_set_self hlt;have e:decide (0≤(M.fuse n).left)=decide (0≤n):=by apply decide_eq_decide.2;unfold AM.fuse;simp only;split<;>omega
 rw[e];simp only[cv,AM.fuse]at*;rw[ab Ae rfl];by_cases c1:0≤n
 ·have c2:n≥0:=c1;simp only[go_sem,h1,hset,c1,c2,List.set_set,decide_true]
 ·have c2:¬n≥0:=c1;simp only[go_sem,h1,hset,c1,c2,List.set_set,decide_false]
theorem Al {hp:List Blk}{F:Ft}{m:Nat}{M:AM}(h:aI hp F m M) (L:List Blk):rf D mP [.ptr (.hp m) [] 59] ⟨L,hp⟩=some (.int .i64 M.count,⟨L,hp⟩):=by obtain⟨k,fk,ne,⟨cp,left,h1,h2,h3⟩,sv,ow,h4,h5⟩:=h.mb;simp only[cv]at h1;rw[ab yr rfl];simp only[go_sem,h1]
def MV (w:Int) (k:Nat):Int:=IntKind.u8.wrap (gW .u64 w (8*(k:Int)))
def bF (l:List Int) (i k:Nat) (j:Nat):Int:=if j/8<i∨(j/8=i∧j%8<k)then MV (l.getD (j/8) 0) (j%8)else 0
def GT (r:Int):Int:=gA .u32 (gW .u32 r 1) (iZ .u32 3988292384 (IntKind.u32.wrap (0-iZ .u32 r 1)))
def tS:Nat→Int→Int
 |0,r=>r
 |n+1,r=>GT (tS n r)
def lM (r:Int):List Int→Int
 |[]=>r
 |b::l=>lM (tS 8 (gA .u32 r (IntKind.u32.wrap b))) l
theorem Mf (r:Int) (l:List Int) (b:Int):lM r (l++[b])=tS 8 (gA .u32 (lM r l) (IntKind.u32.wrap b)):=by
 induction l generalizing r with
 |nil=>rfl
 |cons a l ih=>exact ih _
theorem OM {l:List Int}(L:List Blk) (hp:List Blk) (i:Nat) (hi:i<8):
 rc D L.length (.loop [2,3,4,5,7,8,12] nk) [(2,.ptr (.loc (L.length+1)) [] 108),(3,.ptr (.loc (L.length+2)) [] 108),(4,.int .i64 i),(5,.int .u64 (l.getD i 0)),(7,lnV l),(8,.int .i64 i),(12,.int .i64 0)] ⟨L++[.rw (lnV l),.rw (.agg 108 (List.replicate 64 (.int .u8 0))),.rw (.agg 108 (tab 64 fun j=> .int .u8 (bF l i 0 j)))],hp⟩=
  some (.exit 2,[(2,.ptr (.loc (L.length+1)) [] 108),(3,.ptr (.loc (L.length+2)) [] 108),(4,.int .i64 i),(5,.int .u64 (l.getD i 0)),(7,lnV l),(8,.int .i64 i),(12,.int .i64 8),(13,.bool false)],⟨L++[.rw (lnV l),.rw (.agg 108 (List.replicate 64 (.int .u8 0))),.rw (.agg 108 (tab 64 fun j=> .int .u8 (bF l i 8 j)))],hp⟩):=by
 refine bC (fun k:Nat=>[(2,.ptr (.loc (L.length+1)) [] 108),(3,.ptr (.loc (L.length+2)) [] 108),(4,.int .i64 i),(5,.int .u64 (l.getD i 0)),(7,lnV l),(8,.int .i64 i),(12,.int .i64 k)]) (fun k=>⟨L++[.rw (lnV l),.rw (.agg 108 (List.replicate 64 (.int .u8 0))),.rw (.agg 108 (tab 64 fun j=> .int .u8 (bF l i k j)))],hp⟩) (fun _=>_) (fun k=>8-k) (fun k=>k≤8) 0 ?_ (by omega) rfl rfl;intro k hk;by_cases c1:k<8
 ·left;have d1:(k:Int)<8:=by omega
  have d4:IntKind.i64.wrap ((k:Int)+1)=(k:Int)+1:=ae (by omega) (by omega);have e1:IntKind.i64.wrap (8*(i:Int))=8*i:=ae (by omega) (by omega);have e2:IntKind.i64.wrap (8*(k:Int))=8*k:=ae (by omega) (by omega);have e3:IntKind.i64.wrap (8*(i:Int)+k)=((8*i+k:Nat):Int):=by rw[ae (by omega) (by omega)];omega
  have e4:¬(8*(k:Int))<0:=by omega
  have e5:((8*i+k:Nat):Int)<64:=by omega
  have e6:(0:Int)≤((8*i+k:Nat):Int):=by omega
  have hup:(tab 64 fun j=>V.int .u8 (bF l i k j)).set (8*i+k) (.int .u8 (IntKind.u8.wrap (gW .u64 (l.getD i 0) (8*(k:Int)))))=tab 64 fun j=>V.int .u8 (bF l i (k+1) j):=by
   rw[dg];apply bp;intro j hj;unfold upd;by_cases e:j=8*i+k
   ·subst e;rw[if_pos rfl];unfold bF;rw[show(8*i+k)/8=i by omega,show(8*i+k)%8=k by omega,if_pos (.inr ⟨rfl,by omega⟩)];rfl
   ·rw[if_neg e];unfold bF;by_cases h:j/8<i∨(j/8=i∧j%8<k)
    ·show V.int .u8 _=V.int .u8 _;rw[if_pos h,if_pos (by omega)]
    ·show V.int .u8 _=V.int .u8 _;rw[if_neg h,if_neg (by omega)]
  have g1:=av (f:=fun j=>V.int .u8 (bF l i k j)) (show 8*i+k<64 by omega);have z3:L.length+1<L.length+3:=by omega
  have z4:L.length+2<L.length+3:=by omega
  refine⟨k+1,by omega,by omega,rfl,?_⟩;rw[←hup];simp only[lnV]at*;generalize(tab 64 fun j=>V.int .u8 (bF l i k j))=T at*;generalize List.replicate 64 (V.int .u8 0)=T0 at*;generalize l.getD i 0=w at*;simp only[go_sem,nk,d1,d4,e1,e2,e3,e4,e5,e6];rw[Zh];simp only[go_sem,g1,d4,z3,z4];rfl
 ·right;have:k=8:=by omega
  subst this;simp only[lnV];simp only[go_sem,nk]
theorem E3 {l:List Int}(hl:l.length=8) (s:St):rf D uF [lnV l] s=some (.agg 108 (tab 64 fun j=> .int .u8 (bF l 8 0 j)),s):=by
 have hb0:(tab 64 fun j=>V.int .u8 (bF l 0 0 j))=List.replicate 64 (.int .u8 0):=by rw[co];apply bp;intro j _;unfold bF;rw[if_neg (by omega)]
 have hstep:∀i,(tab 64 fun j=>V.int .u8 (bF l i 8 j))=tab 64 fun j=>V.int .u8 (bF l (i+1) 0 j):=fun i=>by
  apply bp;intro j _;unfold bF;by_cases h:j/8<i+1
  ·rw[if_pos (by omega),if_pos (.inl h)]
  ·rw[if_neg (by omega),if_neg (by omega)]
 have loop:rc D s.loc.length (.loop [2,3,7,8] mX) [(2,.ptr (.loc (s.loc.length+1)) [] 108),(3,.ptr (.loc (s.loc.length+2)) [] 108),(7,lnV l),(8,.int .i64 0)] ⟨s.loc++[.rw (lnV l),.rw (.agg 108 (List.replicate 64 (.int .u8 0))),.rw (.agg 108 (tab 64 fun j=> .int .u8 (bF l 0 0 j)))],s.hp⟩=
  some (.exit 0,[(2,.ptr (.loc (s.loc.length+1)) [] 108),(3,.ptr (.loc (s.loc.length+2)) [] 108),(7,lnV l),(8,.int .i64 8),(9,.bool false)],⟨s.loc++[.rw (lnV l),.rw (.agg 108 (List.replicate 64 (.int .u8 0))),.rw (.agg 108 (tab 64 fun j=> .int .u8 (bF l 8 0 j)))],s.hp⟩):=by
  refine bC (fun i:Nat=>[(2,.ptr (.loc (s.loc.length+1)) [] 108),(3,.ptr (.loc (s.loc.length+2)) [] 108),(7,lnV l),(8,.int .i64 i)]) (fun i=>⟨s.loc++[.rw (lnV l),.rw (.agg 108 (List.replicate 64 (.int .u8 0))),.rw (.agg 108 (tab 64 fun j=> .int .u8 (bF l i 0 j)))],s.hp⟩) (fun _=>_) (fun i=>8-i) (fun i=>i≤8) 0 ?_ (by omega) rfl rfl;intro i hi;by_cases c1:i<8
  ·left;have d1:(i:Int)<8:=by omega
   have d2:(0:Int)≤i:=by omega
   have d4:IntKind.i64.wrap ((i:Int)+1)=(i:Int)+1:=ae (by omega) (by omega);have hin:=OM (l:=l) s.loc s.hp i c1;have g:=am (f:=V.int .u64) (l:=l) (i:=i) (by omega) 0;have z3:s.loc.length+1<s.loc.length+3:=by omega
   have z4:s.loc.length+2<s.loc.length+3:=by omega
   refine⟨i+1,by omega,by omega,rfl,?_⟩;rw[hstep]at hin;simp only[lnV]at*;generalize(tab 64 fun j=>V.int .u8 (bF l i 0 j))=T at*;generalize(tab 64 fun j=>V.int .u8 (bF l (i+1) 0 j))=T1 at*;generalize List.replicate 64 (V.int .u8 0)=T0 at*;generalize l.getD i 0=w at*;simp only[go_sem,mX,d1,d2,d4,Zh,g,hin,z3,z4];rfl
  ·right;have:i=8:=by omega
   subst this;simp only[lnV];simp only[go_sem,mX]
 rw[hb0]at loop;simp only[lnV]at*;rw[ab Ie rfl];simp only[go_sem,loop]
theorem VL (L hp:List Blk) (v:V) (m i:Int) (r:Int) (base:Nat) (hv:v.locLt L.length=true) (hL:(L.drop base).all (bl L.length)=true):
 rc D base (.loop [5,10,11,12,20] pP) [(5,.int .u32 r),(10,v),(11,.int .i64 m),(12,.int .i64 i),(20,.int .i64 0)] ⟨L,hp⟩=some (.exit 2,[(5,.int .u32 (tS 8 r)),(10,v),(11,.int .i64 m),(12,.int .i64 i),(20,.int .i64 8),(21,.bool false)],⟨L,hp⟩):=by
 refine bC (fun k:Nat=>[(5,.int .u32 (tS k r)),(10,v),(11,.int .i64 m),(12,.int .i64 i),(20,.int .i64 k)]) (fun _=>⟨L,hp⟩) (fun _=>_) (fun k=>8-k) (fun k=>k≤8) 0 ?_ (by omega) rfl rfl;intro k hk;by_cases c1:k<8
 ·left;have d1:(k:Int)<8:=by omega
  have d4:IntKind.i64.wrap ((k:Int)+1)=(k:Int)+1:=ae (by omega) (by omega);have d5:¬(1:Int)<0:=by omega
  refine⟨k+1,by omega,by omega,rfl,?_⟩;rw[show tS (k+1) r=GT (tS k r)from rfl]
  generalize tS k r=q;simp only[GT];simp only[go_sem,pP,d1,d4,d5,hv,hL];rfl
 ·right;have:k=8:=by omega
  subst this;simp only[go_sem,pP]
def fA (r:Int):Int:=gA .u32 (if IntKind.u32.signed then-1 else IntKind.u32.max) r
theorem NN {r:Int}{bs:List Int}{i:Nat}(hi:i<bs.length):lM r (bs.take (i+1))=tS 8 (gA .u32 (lM r (bs.take i)) (IntKind.u32.wrap (bs.getD i 0))):=by rw[List.take_succ_eq_append_getElem hi,Mf,List.getD_eq_getElem?_getD,List.getElem?_eq_getElem hi];rfl
theorem Jd {L hp:List Blk}{v:V}{bs:List Int}(hv:RS ⟨L,hp⟩ 12 v (bs.map (.int .u8))) (hl:bs.length<1000) (r:Int):
 rf D wY [.int .u32 r,v] ⟨L,hp⟩=some (.int .u32 (fA (lM (fA r) bs)),⟨L,hp⟩):=by
 have hsl:V.slen false v=some bs.length:=by
  have:=hv.slen
  rwa [List.length_map]at this
 have hvl:v.locLt L.length=true:=hv.locLt;have loop:rc D L.length (.loop [5,10,11,12] py) [(5,.int .u32 (fA r)),(10,v),(11,.int .i64 bs.length),(12,.int .i64 0)] ⟨L,hp⟩=
  some (.exit 0,[(5,.int .u32 (lM (fA r) bs)),(10,v),(11,.int .i64 bs.length),(12,.int .i64 bs.length),(13,.bool false)],⟨L,hp⟩):=by
  have hend:lM (fA r) (bs.take bs.length)=lM (fA r) bs:=by rw[List.take_length]
  rw[←hend];refine bC (fun i:Nat=>[(5,.int .u32 (lM (fA r) (bs.take i))),(10,v),(11,.int .i64 bs.length),(12,.int .i64 i)]) (fun _=>⟨L,hp⟩) (fun _=>_) (fun i=>bs.length-i) (fun i=>i≤bs.length) 0 ?_ (by omega) rfl rfl;intro i hi;by_cases c1:i<bs.length
  ·left;have d1:(i:Int)<bs.length:=by omega
   have d4:IntKind.i64.wrap ((i:Int)+1)=(i:Int)+1:=ae (by omega) (by omega);have hg:=am (f:=V.int .u8) (l:=bs) (i:=i) c1 0;have hs:=hv.sadq hg (k:= .i64);have hld:ldv ⟨L,hp⟩ 12 (elq v i [] 12)=V.at [] (.int .u8 (bs.getD i 0)):=hv.ldq hg;have hin:=fun q=>VL L hp v bs.length i q L.length hvl (by rw[List.drop_length];rfl);refine⟨i+1,by omega,by omega,rfl,?_⟩;rw[NN c1];generalize lM (fA r) (bs.take i)=q at*;generalize bs.getD i 0=b at*;simp only[go_sem,py,d1,hs,hld];simp only[go_sem,hin,d4,hvl];rfl
  ·right;have:i=bs.length:=by omega
   subst this;have d1:¬(bs.length:Int)<bs.length:=by omega
   simp only[go_sem,py,d1]
 rw[ab LT rfl];simp only[fA]at*;simp only[go_sem,hsl,loop]
theorem LK {L hp:List Blk}{v:V}{bs:List Int}(hv:RS ⟨L,hp⟩ 12 v (bs.map (.int .u8))) (hl:bs.length<1000):rf D yv [v] ⟨L,hp⟩=some (.int .u32 (fA (lM (fA 0) bs)),⟨L,hp⟩):=by have h:=Jd hv hl 0;rw[ab NH rfl];simp only[go_sem,h]
def np (l:List Int):Int:=ior .u64 4294967296 (IntKind.u64.wrap (fA (lM (fA 0) ((List.range 56).map (bF l 8 0)))))
def a7 (l:List Int):List Int:=l.set 7 (np l)
theorem pr (l:List Int):(a7 l).length=l.length:=by unfold a7;rw[List.length_set]
theorem oF {l:List Int}(hl:l.length=8) (s:St):rf D wI [lnV l] s=some (lnV (a7 l),s):=by
 have hb:=fun L=>E3 hl ⟨s.loc++L,s.hp⟩;have hrs:RS ⟨s.loc++[.rw (lnV l),.rw (.agg 24 (List.replicate 8 (.int .u64 0))),.rw (.agg 108 (tab 64 fun j=> .int .u8 (bF l 8 0 j)))],s.hp⟩ 12 (.sl (.loc (s.loc.length+2)) [] 0 56 (some 64) 12) (((List.range 56).map (bF l 8 0)).map (.int .u8)):=by
  refine .inr ⟨.loc (s.loc.length+2),[],0,some 64,by simp,fun c hc=>by cases hc;simp,by simp[V.locLt],.inr ⟨108,tab 64 fun j=> .int .u8 (bF l 8 0 j),?_,fun j x hx=> ?_⟩⟩
  ·simp only[go_sem]
  ·have hj:j<56:=by have:=(List.getElem?_eq_some_iff.1 hx).1;simpa using this
   rw[Nat.zero_add,av (by omega)];simpa[hj]using hx
 have hm:=LK hrs (by simp);have g7:(l.map (V.int .u64))[7]?=some (.int .u64 (l.getD 7 0)):=am (by omega) 0;unfold a7 np;generalize(List.range 56).map (bF l 8 0)=bs at*;have hst:(l.map (V.int .u64)).set 7 (.int .u64 (ior .u64 4294967296 (IntKind.u64.wrap (fA (lM (fA 0) bs)))))=(l.set 7 (ior .u64 4294967296 (IntKind.u64.wrap (fA (lM (fA 0) bs))))).map (.int .u64):=by rw[List.map_set]
 generalize fA (lM (fA 0) bs)=cc at*;simp only[lnV]at*;rw[←hst];generalize(tab 64 fun j=>V.int .u8 (bF l 8 0 j))=T at*;rw[ab Lw rfl];simp only[go_sem,hb];simp only[go_sem,hm,g7]
def win (n a b:Int):Bool:=decide (a≤n)&&decide (n≤b)
theorem Ci (n a b:Int) (s:St):rf D q9 [.int .i64 n,.int .i64 a,.int .i64 b] s=some (.bool (win n a b),s):=by
 unfold win;rw[ab DP rfl];by_cases h1:a≤n
 ·have h1':n≥a:=h1;simp only[go_sem,h1,h1',decide_true]
 ·have h1':¬n≥a:=h1;simp only[go_sem,h1,h1',decide_false]
def cj (e:Ent):Bool:=win e.kind 0 4&&win e.ver 0 16777215&&win e.line 0 1023&& !(decide (e.kind=0)&&decide (e.line≠0))
def nF (e:Ent):Int:=ior .u64 (ior .u64 (IntKind.u64.wrap e.kind) (pZ .u64 (IntKind.u64.wrap e.ver) 4)) (pZ .u64 (IntKind.u64.wrap e.line) 28)
def Dk (e:Ent):Int×Int:=if cj e=true then(nF e,0)else(0,1)
theorem xR (e:Ent) (s:St):rf D tE [e.v] s=some (.tup [.int .u64 (Dk e).1,.int .i64 (Dk e).2],s):=by
 have h:=Ci;have d4:¬(4:Int)<0:=by omega
 have d28:¬(28:Int)<0:=by omega
 obtain⟨k,v,l⟩:=e;unfold Dk cj nF;simp only[Ent.v];rw[ab Hf rfl];generalize hA:win k 0 4=A;generalize hB:win v 0 16777215=B;generalize hC:win l 0 1023=C;cases A
 ·simp only[go_sem,h,hA]
 ·cases B
  ·simp only[go_sem,h,hA,hB]
  ·cases C
   ·simp only[go_sem,h,hA,hB,hC]
   ·by_cases hk:k=0
    ·by_cases hl:l=0
     ·subst hk;subst hl;simp only[go_sem,h,hA,hB,hC,d4,d28,decide_true,decide_false]
     ·subst hk;simp only[go_sem,h,hA,hB,hC,hl,d4,d28,decide_true,decide_false]
    ·simp only[go_sem,h,hA,hB,hC,hk,d4,d28,decide_true,decide_false]
def lfL (t:Nat→Ent) (k i:Nat):List Int:=(List.range 8).map fun j=>if j<i then nF (t (7*k+j))else 0
theorem zC (t:Nat→Ent) (k i:Nat):(lfL t k i).length=8:=by simp[lfL]
theorem R4 {t:Nat→Ent}{k i:Nat}(hi:i<7):(lfL t k i).set i (nF (t (7*k+i)))=lfL t k (i+1):=by
 apply List.ext_getElem?;intro j;unfold lfL;by_cases e:i=j
 ·subst e;rw[List.getElem?_set_self (by simp;omega)];simp[show i<8 by omega]
 ·rw[List.getElem?_set_ne e];simp only[List.getElem?_map];by_cases hj:j<8
  ·simp only[List.getElem?_range hj,Option.map_some];by_cases h:j<i
   ·rw[if_pos h,if_pos (by omega)]
   ·rw[if_neg h,if_neg (by omega)]
  ·rw[List.getElem?_eq_none (by simp;omega)];rfl
theorem PX (t:Nat→Ent) (k:Nat):lfL t k 0=zl:=rfl
def kI (t:Nat→Ent) (k i n:Nat):Bool:=(List.range n).all fun j=>cj (t (7*k+(i+j)))
def bj (t:Nat→Ent) (k:Nat):List Int:=if kI t k 0 7=true then a7 (lfL t k 7)else zl
theorem px (t:Nat→Ent) (k:Nat):(bj t k).length=8:=by
 unfold bj;split
 ·rw[pr,zC]
 ·rfl
theorem Ak (t:Nat→Ent) (k i n:Nat):kI t k i (n+1)=(cj (t (7*k+i))&&kI t k (i+1) n):=by unfold kI;rw[List.range_succ_eq_map,List.all_cons,List.all_map];congr 2;funext j;simp only[Function.comp,Nat.succ_eq_add_one];rw[show i+(j+1)=i+1+j by omega]
theorem EN (t:Nat→Ent) {k:Nat}(hk:k<7) (L hp:List Blk):∀(n i:Nat),i+n=7→∃r,
 rc D L.length (.loop [1,2,4,6,17] kP) [(1,.int .i64 k),(2,.ptr (.loc L.length) [] 48),(4,.ptr (.loc (L.length+1)) [] 24),(6,.ptr (.loc (L.length+2)) [] 24),(17,.int .i64 i)] ⟨L++[.rw (ac t),.rw (lnV zl),.rw (lnV (lfL t k i))],hp⟩=some r∧
 ((kI t k i n=true∧r=(.exit 0,[(1,.int .i64 k),(2,.ptr (.loc L.length) [] 48),(4,.ptr (.loc (L.length+1)) [] 24),(6,.ptr (.loc (L.length+2)) [] 24),(17,.int .i64 7),(18,.bool false)],⟨L++[.rw (ac t),.rw (lnV zl),.rw (lnV (lfL t k 7))],hp⟩))∨
  (kI t k i n=false∧∃X,r=(.ret,[(4,.ptr (.loc (L.length+1)) [] 24),(5,.int .i64 1)],⟨L++[.rw (ac t),.rw (lnV zl),X],hp⟩)))
 |0,i,hi=>by
  have:i=7:=by omega
  subst this;refine⟨_,?_,.inl ⟨rfl,rfl⟩⟩;rw[aa];simp only[ac,lnV];simp only[go_sem,kP]
 |n+1,i,hi=>by
  have d1:(i:Int)<7:=by omega
  have d2:(0:Int)≤i:=by omega
  have d3:(i:Int)<8:=by omega
  have d4:IntKind.i64.wrap ((i:Int)+1)=((i+1:Nat):Int):=ae (by omega) (by omega);have e1:IntKind.i64.wrap (7*(k:Int))=7*k:=ae (by omega) (by omega);have e3:IntKind.i64.wrap (7*(k:Int)+i)=((7*k+i:Nat):Int):=by rw[ae (by omega) (by omega)];omega
  have e5:((7*k+i:Nat):Int)<49:=by omega
  have e6:(0:Int)≤((7*k+i:Nat):Int):=by omega
  have g1:=av (f:=fun j=>(t j).v) (show 7*k+i<49 by omega);have hw:=fun s=>xR (t (7*k+i)) s;have g2:((lfL t k i).map (V.int .u64))[i]?=some (.int .u64 ((lfL t k i).getD i 0)):=am (by rw[zC];omega) 0;rw[Ak];cases hb:cj (t (7*k+i))
  ·refine⟨_,?_,.inr ⟨by rw[Bool.false_and],.rw (lnV (lfL t k i)),rfl⟩⟩;unfold Dk at hw;rw[hb,if_neg (by simp)]at hw;have hz:(zl.map (V.int .u64))=List.replicate 8 (.int .u64 0):=rfl;rw[aa];simp only[ac,lnV,Ent.v,hz]at*;generalize(tab 49 fun j=>V.agg 42 [.int .i64 (t j).kind,.int .i64 (t j).ver,.int .i64 (t j).line])=T at*;generalize 7*k+i=p at*;generalize(lfL t k i).map (V.int .u64)=LF at*;simp only[go_sem,kP,d1,e1,e3,e5,e6,Zh,g1,hw]
  ·obtain⟨r,q1,q2⟩:=EN t hk L hp n (i+1) (by omega);refine⟨r,?_,by rw[Bool.true_and];exact q2⟩;unfold Dk at hw;rw[hb,if_pos rfl]at hw;have hs:((lfL t k i).map (V.int .u64)).set i (.int .u64 (nF (t (7*k+i))))=(lfL t k (i+1)).map (V.int .u64):=by rw[←R4 (by omega),List.map_set]
   have z1:L.length<L.length+3:=by omega
   have z3:L.length+1<L.length+3:=by omega
   have z4:L.length+2<L.length+3:=by omega
   rw[←q1,aa];simp only[ac,lnV,Ent.v]at*;rw[←hs];generalize(tab 49 fun j=>V.agg 42 [.int .i64 (t j).kind,.int .i64 (t j).ver,.int .i64 (t j).line])=T at*;generalize nF (t (7*k+i))=w at*;generalize 7*k+i=p at*;generalize(lfL t k i).map (V.int .u64)=LF at*;generalize(lfL t k i).getD i 0=w0 at*;simp only[go_sem,kP,d1,d2,d3,d4,e1,e3,e5,e6,Zh,g1,g2,hw,z1,z3,z4]
theorem xL (t:Nat→Ent) {k:Nat}(hk:k<7) (s:St):∃e,rf D qb [ac t,.int .i64 k] s=some (.tup [lnV (bj t k),.int .i64 e],s):=by
 obtain⟨r,q1,q2⟩:=EN t hk s.loc s.hp 7 0 rfl;have d1:¬(k:Int)<0:=by omega
 have d2:¬(k:Int)≥7:=by omega
 rw[show((0:Nat):Int)=0 from rfl,PX]at q1
 have hseal:=fun s=>oF (zC t k 7) s;have hz:(zl.map (V.int .u64))=List.replicate 8 (.int .u64 0):=rfl;unfold bj;rcases q2 with⟨c,rfl⟩|⟨c,X,rfl⟩
 ·refine⟨0,?_⟩;rw[c,if_pos rfl];simp only[ac,lnV,hz]at*;rw[ab yM rfl];simp only[go_sem,d1,d2,q1];simp only[go_sem,hseal]
 ·refine⟨1,?_⟩;rw[c,if_neg (by simp)];simp only[ac,lnV,hz]at*;rw[ab yM rfl];simp only[go_sem,d1,d2,q1]
def rlL (d:Nat→Int) (i:Nat):List Int:=(List.range 8).map fun j=>if j<i then ior .u64 4294967296 (IntKind.u64.wrap (d j))else 0
theorem zD (d:Nat→Int) (i:Nat):(rlL d i).length=8:=by simp[rlL]
theorem SC {d:Nat→Int}{i:Nat}(hi:i<7):(rlL d i).set i (ior .u64 4294967296 (IntKind.u64.wrap (d i)))=rlL d (i+1):=by
 apply List.ext_getElem?;intro j;unfold rlL;by_cases e:i=j
 ·subst e;rw[List.getElem?_set_self (by simp;omega)];simp[show i<8 by omega]
 ·rw[List.getElem?_set_ne e];simp only[List.getElem?_map];by_cases hj:j<8
  ·simp only[List.getElem?_range hj,Option.map_some];by_cases h:j<i
   ·rw[if_pos h,if_pos (by omega)]
   ·rw[if_neg h,if_neg (by omega)]
  ·rw[List.getElem?_eq_none (by simp;omega)];rfl
def cZ (d:Nat→Int) (i n:Nat):Bool:=(List.range n).all fun j=>decide (0≤d (i+j))&&decide (d (i+j)<1024)
def aE (d:Nat→Int):List Int:=if cZ d 0 7=true then a7 (rlL d 7)else zl
theorem pk (d:Nat→Int):(aE d).length=8:=by
 unfold aE;split
 ·rw[pr,zD]
 ·rfl
theorem Aq (d:Nat→Int) (i n:Nat):cZ d i (n+1)=((decide (0≤d i)&&decide (d i<1024))&&cZ d (i+1) n):=by unfold cZ;rw[List.range_succ_eq_map,List.all_cons,List.all_map];congr 2;funext j;simp only[Function.comp,Nat.succ_eq_add_one];rw[show i+(j+1)=i+1+j by omega]
def d7V (d:Nat→Int):V:= .agg 60 (tab 7 fun i=> .int .i64 (d i))
theorem EL (d:Nat→Int) (L hp:List Blk) (u:Blk):∀(n i:Nat),i+n=7→∃r,
 rc D L.length (.loop [2,4,7,8] iE) [(2,.ptr (.loc (L.length+1)) [] 24),(4,.ptr (.loc (L.length+2)) [] 24),(7,d7V d),(8,.int .i64 i)] ⟨L++[.rw (d7V d),.rw (lnV zl),.rw (lnV (rlL d i))],hp⟩=some r∧
 ((cZ d i n=true∧r=(.exit 0,[(2,.ptr (.loc (L.length+1)) [] 24),(4,.ptr (.loc (L.length+2)) [] 24),(7,d7V d),(8,.int .i64 7),(9,.bool false)],⟨L++[.rw (d7V d),.rw (lnV zl),.rw (lnV (rlL d 7))],hp⟩))∨
  (cZ d i n=false∧∃X,r=(.ret,[(2,.ptr (.loc (L.length+1)) [] 24),(3,.int .i64 1)],⟨L++[.rw (d7V d),.rw (lnV zl),X],hp⟩)))
 |0,i,hi=>by
  have:i=7:=by omega
  subst this;refine⟨_,?_,.inl ⟨rfl,rfl⟩⟩;rw[aa];simp only[d7V,lnV];simp only[go_sem,iE]
 |n+1,i,hi=>by
  have d1:(i:Int)<7:=by omega
  have d2:(0:Int)≤i:=by omega
  have d3:(i:Int)<8:=by omega
  have d4:IntKind.i64.wrap ((i:Int)+1)=((i+1:Nat):Int):=ae (by omega) (by omega);have g1:=av (f:=fun j=>V.int .i64 (d j)) (show i<7 by omega);have g2:((rlL d i).map (V.int .u64))[i]?=some (.int .u64 ((rlL d i).getD i 0)):=am (by rw[zD];omega) 0;have z1:L.length<L.length+3:=by omega
  have z3:L.length+1<L.length+3:=by omega
  have z4:L.length+2<L.length+3:=by omega
  have hs:((rlL d i).map (V.int .u64)).set i (.int .u64 (ior .u64 4294967296 (IntKind.u64.wrap (d i))))=(rlL d (i+1)).map (V.int .u64):=by rw[←SC (by omega),List.map_set]
  rw[Aq];by_cases h0:d i<0
  ·refine⟨_,?_,.inr ⟨by rw[decide_eq_false (show¬0≤d i by omega)];rfl,.rw (lnV (rlL d i)),rfl⟩⟩;have hz:(zl.map (V.int .u64))=List.replicate 8 (.int .u64 0):=rfl;rw[aa];simp only[d7V,lnV,hz]at*;generalize(tab 7 fun j=>V.int .i64 (d j))=T at*;generalize(rlL d i).map (V.int .u64)=LF at*;simp only[go_sem,iE,d1,d2,Zh,g1,h0]
  ·by_cases h1:d i<1024
   ·obtain⟨r,q1,q2⟩:=EL d L hp u n (i+1) (by omega);refine⟨r,?_,by rw[decide_eq_true (show 0≤d i by omega),decide_eq_true h1];exact q2⟩;have h1':¬d i≥1024:=by omega
    rw[←q1,aa];simp only[d7V,lnV]at*;rw[←hs];generalize(tab 7 fun j=>V.int .i64 (d j))=T at*;generalize(rlL d i).map (V.int .u64)=LF at*;generalize(rlL d i).getD i 0=w0 at*;generalize d i=di at*;simp only[go_sem,iE,d1,d2,d3,d4,Zh,g1,g2,h0,h1',z1,z3,z4]
   ·refine⟨_,?_,.inr ⟨by rw[decide_eq_false h1,Bool.and_false];rfl,.rw (lnV (rlL d i)),rfl⟩⟩;have hz:(zl.map (V.int .u64))=List.replicate 8 (.int .u64 0):=rfl;have h1':d i≥1024:=by omega
    rw[aa];simp only[d7V,lnV,hz]at*;generalize(tab 7 fun j=>V.int .i64 (d j))=T at*;generalize(rlL d i).map (V.int .u64)=LF at*;generalize d i=di at*;simp only[go_sem,iE,d1,d2,Zh,g1,h0,h1']
theorem xz (d:Nat→Int) (s:St):∃e,rf D pJ [d7V d] s=some (.tup [lnV (aE d),.int .i64 e],s):=by
 obtain⟨r,q1,q2⟩:=EL d s.loc s.hp .dead 7 0 rfl;have h0:rlL d 0=zl:=rfl;rw[show((0:Nat):Int)=0 from rfl,h0]at q1
 have hseal:=fun s=>oF (zD d 7) s;have hz:(zl.map (V.int .u64))=List.replicate 8 (.int .u64 0):=rfl;unfold aE;rcases q2 with⟨c,rfl⟩|⟨c,X,rfl⟩
 ·refine⟨0,?_⟩;rw[c,if_pos rfl];simp only[d7V,lnV,hz]at*;rw[ab yK rfl];simp only[go_sem,q1];simp only[go_sem,hseal]
 ·refine⟨1,?_⟩;rw[c,if_neg (by simp)];simp only[d7V,lnV,hz]at*;rw[ab yK rfl];simp only[go_sem,q1]
def WV (a b:Ent):Bool:=decide (a.kind=b.kind)&&(decide (a.ver=b.ver)&&decide (a.line=b.line))
def RK (f g:Nat→Ent):List Nat→Bool
 |[]=>true
 |i::l=>WV (f i) (g i)&&RK f g l
def XW (t u:Nat→Ent) (k:Nat):Bool:= !RK (fun i=>t (7*k+i)) (fun i=>u (7*k+i)) (List.range 7)
def Vr (t u:Nat→Ent):Nat→List Int
 |0=>[]
 |k+1=>if XW t u k=true then Vr t u k++[(k:Int)]else Vr t u k
structure Thr where
 pc:Int
 r0:Int
 r1:Int
 r2:Int
 r3:Int
 sp:Int
 ky:Int
 st:Int
 at':Int
 sl:Int
 fl:Int
def Thr.v (t:Thr):V:= .agg 64 [.int .i64 t.pc,.agg 62 [.int .u64 t.r0,.int .u64 t.r1,.int .u64 t.r2,.int .u64 t.r3],.int .u64 t.sp,.int .u64 t.ky,.int .i64 t.st,.int .i64 t.at',.int .i64 t.sl,.int .i64 t.fl]
theorem Sv {b:Nat}(hb:1≤b) (hb2:b≤64) (hm:18446744073709551615/2^(64-b)=2^b-1) (s:St):rf D uY [.int .i64 b] s=some (.int .u64 (2^b-1:Nat),s):=by
 have e1:IntKind.i64.wrap (64-(b:Int))=((64-b:Nat):Int):=by rw[ae (by omega) (by omega)];omega
 have e2:gW .u64 18446744073709551615 ((64-b:Nat):Int)=((2^b-1:Nat):Int):=by rw[uo 18446744073709551615 (64-b) (by omega),←hm,Int.natCast_ediv,Int.natCast_pow];rfl
 have e3:¬((64-b:Nat):Int)<0:=by omega
 generalize 64-b=q at*;generalize 2^b-1=z at*;rw[ab IQ rfl];simp only[go_sem,e1,e2,e3]
theorem NJ {a b:Nat}(hb:1≤b) (hab:a+b≤64) (s:St):rf D uj [.int .i64 a,.int .i64 b] s=some (.bool true,s):=by
 have e1:IntKind.i64.wrap (64-(a:Int))=64-(a:Int):=ae (by omega) (by omega);have c1:(0:Int)≤a:=by omega
 have c2:(a:Int)<64:=by omega
 have c3:(1:Int)≤b:=by omega
 have c4:(b:Int)≤64-a:=by omega
 rw[ab GH rfl];simp only[go_sem,c1,c2,c3,e1,c4]
theorem Nq {w a b:Nat}(hb:1≤b) (hab:a+b≤64) (hw:w<18446744073709551616) (hm:18446744073709551615/2^(64-b)=2^b-1) (s:St):
 rf D ui [.int .u64 w,.int .i64 a,.int .i64 b] s=some (.int .u64 (w/2^a%2^b:Nat),s):=by
 have h1:=fun s=>NJ hb hab s;have h2:=fun s=>Sv hb (by omega) hm s;have e1:gW .u64 (w:Int) (a:Int)=((w/2^a:Nat):Int):=by rw[uo (w:Int) a (by omega),Int.natCast_ediv,Int.natCast_pow];rfl
 have e2:iZ .u64 ((w/2^a:Nat):Int) ((2^b-1:Nat):Int)=((w/2^a%2^b:Nat):Int):=by have hlt:w/2^a<18446744073709551616:=Nat.lt_of_le_of_lt (Nat.div_le_self _ _) hw;generalize w/2^a=y at*;have:=yL (y:Int) b (by omega) (by omega) (by omega);have hp:=Nat.two_pow_pos b;rw[show((2^b-1:Nat):Int)=2^b-1 by rw[Int.natCast_sub hp,Int.natCast_pow];rfl,this,Int.natCast_emod,Int.natCast_pow];rfl
 have e3:¬(a:Int)<0:=by omega
 generalize w/2^a%2^b=z at*;generalize w/2^a=y at*;generalize 2^b-1=m at*;rw[ab Gr rfl];simp only[go_sem,h1,h2,e1,e2,e3]
def AM.stp (M:AM):AM:=if M.dead then M.out else M.stepped
def AM.stpE (M:AM):Int:=if M.dead then 4 else 0
theorem wN {k n k' n':Nat}{cp cp':Option Nat}{o o' b b':Bool}{l l' c c':Int}(h:cv k n cp o b l c=cv k' n' cp' o' b' l' c'):k=k':=by simp only[cv,V.agg.injEq,List.cons.injEq,V.sl.injEq,Loc.hp.injEq,true_and,and_true]at h;exact h.1.1
theorem Db {hp:List Blk}{F:Ft}{m:Nat}{M:AM}(h:aI hp F m M) (hc:M.count<1000000):
 ∃hp',(∀L,rf D fj [.ptr (.hp m) [] 59] ⟨L,hp⟩=some (.int .i64 M.stpE,⟨L,hp'⟩))∧aI hp' F m M.stp∧Chg hp hp' F F∧
  ∀k n cp o b l c,hp[m]?=some (.rw (cv k n cp o b l c))→∃o' b' l' c',hp'[m]?=some (.rw (cv k n cp o' b' l' c')):=by
 have hM:=h;obtain⟨k,fk,ne,⟨cp,left,h1,h2,h3⟩,sv,ow,h4,h5⟩:=h.mb;have ok:=h.ok;have hc0:=ok.c0;have lf:=ok.lf;have hml:=aj h1;have hstep:=fun L=>Ew (L:=L) h1 hc0 (by omega) (fun hb=>by have hb:=of_decide_eq_true hb;rw[h3 hb];exact hb) (fun hb=>by rw[h3 (of_decide_eq_true hb)];have:=ok.lg;omega);have keep:∀(o2 b2:Bool) (l2 c2:Int),∀k' n' cp' o b l c,hp[m]?=some (.rw (cv k' n' cp' o b l c))→∃o' b' l' c',(hp.set m (.rw (cv k M.n cp o2 b2 l2 c2)))[m]?=some (.rw (cv k' n' cp' o' b' l' c')):=by intro o2 b2 l2 c2 k' n' cp' o b l c hh;rw[h1]at hh;have hh:=Option.some.inj hh;simp only[cv,Blk.rw.injEq,V.agg.injEq,List.cons.injEq,V.sl.injEq,Loc.hp.injEq,true_and,and_true]at hh;obtain⟨⟨rfl,rfl,rfl⟩,_⟩:=hh;exact⟨_,_,_,_,List.getElem?_set_self hml⟩
 unfold AM.stp AM.stpE;by_cases hd:M.dead=true
 ·rw[hd,if_pos rfl,if_pos rfl];have hd':M.off=true∨M.left=0:=by simpa[AM.dead]using hd
  obtain⟨g1,g2⟩:=hM.setm (M':=M.out) ok.out rfl rfl rfl h1 (left':=left) (by simpa[AM.out]using h3);refine⟨_,fun L=> ?_,g1,g2,keep _ _ _ _⟩;rw[hstep L,if_pos]
  ·rfl
  ·rcases hd' with hd'|hd'
   ·exact .inl hd'
   ·exact .inr ⟨by simp[hd'],by rw[h3 (by omega)];exact hd'⟩
 ·have hdf:M.dead=false:=by simpa using hd
  rw[hdf,if_neg (by simp),if_neg (by simp)];have hd':M.off=false∧¬M.left=0:=by simpa[AM.dead]using hd
  have hlv:0≤M.stepped.left→(if decide (0≤M.left)=true then left-1 else left)=M.stepped.left:=by
   intro hh;simp only[AM.stepped,Zi]at hh⊢;split at hh
   ·rw[if_pos (by omega),if_pos (by omega),h3 (by omega)]
   ·omega
  have hbe:decide (0≤M.stepped.left)=decide (0≤M.left):=by apply decide_eq_decide.2;simp only[AM.stepped];split<;>omega
  obtain⟨g1,g2⟩:=hM.setm (M':=M.stepped) ok.stepped rfl rfl rfl h1 hlv;refine⟨_,fun L=> ?_,g1,g2,keep _ _ _ _⟩;rw[hstep L,if_neg,hbe]
  ·rw[show M.stepped.off=M.off from rfl,hd'.1];rfl
  ·rintro(hh|⟨hh,hz⟩)
   ·rw[hd'.1]at hh;cases hh
   ·exact hd'.2 (by rw[←h3 (of_decide_eq_true hh)];exact hz)
def Dn.fl (c:Nat) (d:Dn):Dn:={d with cs:=upd d.cs c true}
theorem CF (c:Nat):∀l:List Dn,flN c (l.map (Dn.fl c))=l.length
 |[]=>rfl
 |d::l=>by
  simp only[List.map_cons,flN,CF c l,List.length_cons];split
  ·rename_i h;simp[Dn.fl,al,h]
  ·rfl
theorem Oy {c c':Nat}(h:c'≠c):∀l:List Dn,flN c' (l.map (Dn.fl c))=flN c' l
 |[]=>rfl
 |d::l=>by
  simp only[List.map_cons,flN,Oy h l];have:(d.fl c).cs c'=d.cs c':=by simp only[Dn.fl];rw[aw h]
  rw[this]
theorem yw (c:Nat):∀(l:List Dn) (x:List Int),au x (l.map (Dn.fl c))=au x l
 |[],_=>rfl
 |_::l,x=>yw c l _
theorem Xr (c:Nat) (l:List Dn):(l.map (Dn.fl c)).map Dn.v1=l.map Dn.v1:=by rw[List.map_map];rfl
def AM.flushed (M:AM) (c i:Nat):AM:={M with L:=upd M.L i ((M.L i).map (Dn.fl c))}
def AM.flush (M:AM) (c i:Int):AM×Int:=if i<0∨(M.n:Int)≤i∨c<0∨8≤c then(M,1)else if M.dead then(M.out,4)else(M.stepped.flushed c.toNat i.toNat,0)
theorem AM.Ok.flushed {M:AM}(h:M.Ok) (c i:Nat):(M.flushed c i).Ok:=by
 refine⟨h.n0,h.n1,h.l8,fun j hj d hd=> ?_,h.c0,fun j hj=> ?_,h.lf,h.lg⟩
 ·simp only[AM.flushed]at hd;by_cases e:j=i
  ·subst e;rw[al]at hd;obtain⟨d',hd',rfl⟩:=List.mem_map.1 hd;exact h.w8 j hj d' hd'
  ·rw[aw e]at hd;exact h.w8 j hj d hd
 ·simp only[AM.flushed];by_cases e:j=i
  ·subst e;rw[al,List.length_map];exact h.len j hj
  ·rw[aw e];exact h.len j hj
theorem AM.now_flushed {M:AM}{c i j:Nat}:(M.flushed c i).now j=M.now j:=by
 unfold AM.now AM.flushed;simp only;by_cases e:j=i
 ·subst e;rw[al,yw]
 ·rw[aw e]
theorem US {c:Nat}(hc:c<8) (l:List Dn):∀T,flV l= .agg 50 T→flV (l.map (Dn.fl c))= .agg 50 (T.set c (.int .i64 l.length)):=by
 intro T hT;unfold flV at hT⊢;cases hT;congr 1;rw[dg];apply bp;intro j _;by_cases e:j=c
 ·subst e;rw[al,CF]
 ·rw[aw e,Oy e]
theorem rJ {hp:List Blk}{F:Ft}{m:Nat}{M:AM}(h:aI hp F m M) (hc:M.count<1000000) (c i:Int) (L:List Blk):
 ∃hp',rf D gD [.ptr (.hp m) [] 59,.int .i64 c,.int .i64 i] ⟨L,hp⟩=some (.int .i64 (M.flush c i).2,⟨L,hp'⟩)∧aI hp' F m (M.flush c i).1∧Chg hp hp' F F:=by
 have hM:=h;obtain⟨k,fk,ne,⟨cp,left,h1,h2,h3⟩,sv0,ow0,h40,h50⟩:=h.mb;have ha:=fun L=>DI (L:=L) h1 i;have ok:=h.ok;unfold AM.flush;by_cases hi:i<0∨(M.n:Int)≤i
 ·rw[if_neg (by omega)]at ha;rw[if_pos (by omega)];refine⟨hp,?_,hM,.refl _ _⟩;rw[ab jw rfl];simp only[go_sem,ha]
 ·rw[if_pos (by omega)]at ha;by_cases hq:c<0∨8≤c
  ·rw[if_pos (by omega)];refine⟨hp,?_,hM,.refl _ _⟩;rw[ab jw rfl];by_cases hq0:c<0
   ·simp only[go_sem,ha,hq0]
   ·have hq8:c≥8:=by omega
    simp only[go_sem,ha,hq0,hq8]
  ·rw[if_neg (by omega)];obtain⟨j,rfl⟩:∃j:Nat,i=j:=⟨i.toNat,by omega⟩;obtain⟨p,rfl⟩:∃p:Nat,c=p:=⟨c.toNat,by omega⟩;simp only[Zh]at ha⊢;have d1:¬(p:Int)<0:=by omega
   have d2:¬(p:Int)≥8:=by omega
   have d3:(p:Int)<8:=by omega
   have d4:(0:Int)≤p:=by omega
   obtain⟨hp1,s1,s2,s3,s4⟩:=Db hM hc;unfold AM.stpE at s1;unfold AM.stp at s2;by_cases hd:M.dead=true
   ·rw[if_pos hd];rw[hd,if_pos rfl]at s1 s2;refine⟨hp1,?_,s2,s3⟩;rw[ab jw rfl];simp only[go_sem,ha,d1,d2,s1]
   ·have hdf:M.dead=false:=by simpa using hd
    rw[if_neg hd];rw[hdf,if_neg (by simp)]at s1 s2;obtain⟨o',b',l',c',s5⟩:=s4 _ _ _ _ _ _ _ h1;have hM1:=s2;obtain⟨k',fk',ne',⟨cp',left',q1,q2,q3⟩,sv,ow,q4,q5⟩:=s2.mb;have hkk:k=k':=wN (Blk.rw.inj (Option.some.inj (s5.symm.trans q1)));subst hkk;have e1:M.stepped.n=M.n:=rfl;have e2:M.stepped.S=M.S:=rfl;have e3:M.stepped.L=M.L:=rfl;rw[e1,e2,e3]at q4;rw[e1,e3]at q5;have hj:j<M.n:=by omega
    have g:=av (f:=fun i=>plV (M.S i) (M.L i) (sv i)) hj;have hsl:=(q5 j hj).slen;rw[List.length_map]at hsl;have gf:=av (f:=fun c=>V.int .i64 (flN c (M.L j):Nat)) (show p<8 by omega);have hfl:=US (show p<8 by omega) (M.L j) _ rfl;have hkl:=aj q4;refine⟨hp1.set k (.rw (.agg 57 ((tab M.n fun i=>plV (M.S i) (M.L i) (sv i)).set j (plV (M.S j) ((M.L j).map (Dn.fl p)) (sv j))))),?_,⟨ok.stepped.flushed p j,hM1.inn.set,hM1.fm,k,fk',ne',⟨cp',left',?_,q2,q3⟩,sv,ow,?_,fun x hx=> ?_⟩,s3.trans (iH.mono (fun x hx=>by cases hx;exact fk') fun _=> .inr)⟩
    ·have hpl:plV (M.S j) ((M.L j).map (Dn.fl p)) (sv j)= .agg 55 [lnV (au (M.S j) (M.L j)),lnV (M.S j),sv j,.agg 50 ((tab 8 fun c=>V.int .i64 (flN c (M.L j):Nat)).set p (.int .i64 (M.L j).length))]:=by simp only[plV,nlV,yw,hfl]
     rw[hpl];have hg0:plV (M.S j) (M.L j) (sv j)= .agg 55 [lnV (au (M.S j) (M.L j)),lnV (M.S j),sv j,.agg 50 (tab 8 fun c=>V.int .i64 (flN c (M.L j):Nat))]:=rfl;rw[hg0]at g;generalize(tab 8 fun c=>V.int .i64 (flN c (M.L j):Nat))=TF at*;generalize(tab M.n fun i=>plV (M.S i) (M.L i) (sv i))=T0 at*;generalize lnV (au (M.S j) (M.L j))=N1 at*;rw[ab jw rfl];simp only[go_sem,ha,d1,d2,d3,d4,s1,q4,g,hsl,Zh,gf]
    ·rw[List.getElem?_set_ne (Ne.symm ne')];exact q1
    ·rw[dg,List.getElem?_set_self hkl];congr 4;funext x;unfold upd AM.flushed;simp only;by_cases e:x=j
     ·subst e;rw[if_pos rfl,al];rfl
     ·rw[if_neg e,aw e];rfl
    ·have e5:((M.stepped.flushed p j).L x).map Dn.v1=(M.L x).map Dn.v1:=by
      unfold AM.flushed;simp only;by_cases e:x=j
      ·subst e;rw[al];exact Xr p _
      ·rw[aw e];rfl
     rw[e5];exact(q5 x hx).eqv (fun y hy=>List.getElem?_set_ne (Ne.symm hy.2.2.1)) fun _ hy=>hy
theorem SlR.sub {e r:Nat}{hp:List Blk}{G:Ft}{v:V}{l:List V}(h:SlR hp G e r v l) {n:Nat}(hn:n≤l.length):∃v1 v2,gU e none (some (.int .i64 (n:Int))) none v=some v1∧gU e (some (.int .i64 (n:Int))) none none v=some v2∧
 (∀hp':List Blk,(∀j,G j→hp'[j]?=hp[j]?)→∀L,RS ⟨L,hp'⟩ e v1 (l.take n)∧RS ⟨L,hp'⟩ e v2 (l.drop n))∧(v2= .nils∨∃a p o n c,v2= .sl a p o n c e):=by
 cases h with
 |nil=>
  have:n=0:=by simpa using hn
  subst this;exact⟨.nils,.nils,rfl,rfl,fun _ _ _=>⟨.inl ⟨rfl,rfl⟩,.inl ⟨rfl,rfl⟩⟩,.inl rfl⟩
 |emp a p o=>
  have:n=0:=by simpa using hn
  subst this;have k1:gU e none (some (.int .i64 ((0:Nat):Int))) none (.sl (.hp a) p o 0 (some 0) e)=some (.sl (.hp a) p o 0 (some 0) e):=by simp[gU,ao,ah,kL,nI]
  have k2:gU e (some (.int .i64 ((0:Nat):Int))) none none (.sl (.hp a) p o 0 (some 0) e)=some (.sl (.hp a) p o 0 (some 0) e):=by simp[gU,ao,ah,kL,nI]
  exact⟨_,_,k1,k2,fun _ _ _=>⟨.inr ⟨_,_,_,_,rfl,fun c hc=>by cases hc;exact Nat.le_refl _,rfl,.inl rfl⟩,.inr ⟨_,_,_,_,rfl,fun c hc=>by cases hc;exact Nat.le_refl _,rfl,.inl rfl⟩⟩,.inr ⟨_,_,_,_,_,rfl⟩⟩
 |blk a c l hc hG hb=>
  have hrd:∀hp':List Blk,(∀j,G j→hp'[j]?=hp[j]?)→hp'[a]?=some (.rw (.agg r l)):=fun hp' he=>by rw[he a hG];exact hb
  have hcd:c.getD l.length=l.length:=by rcases hc with rfl|rfl<;>rfl
  have hlt:(n:Int)≤(l.length:Nat):=by omega
  have key1:gU e none (some (.int .i64 (n:Int))) none (.sl (.hp a) [] 0 l.length c e)=some (.sl (.hp a) [] 0 n (nI false c l.length) e):=by simp only[gU,if_true,ao,aP,kL,Option.isSome_none,Bool.false_eq_true,if_false];rw[if_pos ⟨by omega,by omega⟩];simp[aP,hcd]
  have key2:gU e (some (.int .i64 (n:Int))) none none (.sl (.hp a) [] 0 l.length c e)=some (.sl (.hp a) [] n (l.length-n) (nI false c (l.length-n)) e):=by simp only[gU,if_true,ao,aP,kL,Option.isSome_none,Bool.false_eq_true,if_false];rw[if_pos ⟨by omega,by omega⟩];simp[aP,hcd]
  refine⟨_,_,key1,key2,fun hp' he L=>⟨.inr ⟨.hp a,[],0,_,by rw[List.length_take,Nat.min_eq_left hn],?_,rfl,?_⟩,.inr ⟨.hp a,[],n,_,by rw[List.length_drop],?_,rfl,?_⟩⟩,.inr ⟨_,_,_,_,_,rfl⟩⟩
  ·intro c' hc';rcases hc with rfl|rfl
   ·cases hc'
   ·cases hc';rw[List.length_take];omega
  ·refine .inr ⟨r,l,by rw[qS,hrd hp' he];rfl,fun j x hx=> ?_⟩;rw[List.getElem?_take]at hx;split at hx
   ·rw[Nat.zero_add];exact hx
   ·cases hx
  ·intro c' hc';rcases hc with rfl|rfl
   ·cases hc'
   ·cases hc';rw[List.length_drop];exact Nat.le_refl _
  ·refine .inr ⟨r,l,by rw[qS,hrd hp' he];rfl,fun j x hx=> ?_⟩;rw[List.getElem?_drop]at hx;exact hx
theorem ID {H:List Blk}{v:V}{l:List V}(hsh:v= .nils∨∃a p o n c,v= .sl a p o n c 84) (hel:∀L,RS ⟨L,H⟩ 84 v l) (hl:V.locLts 0 l=true) (hm:l.length≤cg):
 ∃H1 v',H<+:H1∧(∀L,rf D iK [v] ⟨L,H⟩=some (v',⟨L,H1⟩))∧SlR H1 (fun j=>H.length≤j∧j<H1.length) 84 86 v' l:=by
 by_cases hv:v= .nils
 ·subst hv;have:l=[]:=by have:=(hel []).elems;cases this;rfl
  subst this;refine⟨H,.nils,List.prefix_refl _,fun L=> ?_,.nil⟩;rw[ab iP rfl];simp only[go_sem]
 ·obtain⟨a,p,o,n,c',rfl⟩:=hsh.resolve_left hv;have hel1:∀L,St.elems ⟨L,H++[.rw (.agg 86 [])]⟩ (.sl a p o n c' 84)=some l:=fun L=>((hel L).more (s':=⟨L,H++[.rw (.agg 86 [])]⟩) ⟨List.prefix_rfl,List.prefix_append _ _⟩).elems;have h0:SlR (H++[.rw (.agg 86 [])]) (fun i=>i=H.length) 84 86 (.sl (.hp H.length) [] 0 ([]:List V).length (some ([]:List V).length) 84) []:= .blk _ _ _ (.inr rfl) rfl (by simp);by_cases hn:l=[]
  ·subst hn;refine⟨H++[.rw (.agg 86 [])],.sl (.hp H.length) [] 0 0 (some 0) 84,List.prefix_append _ _,fun L=> ?_,.blk H.length (some 0) [] (.inr rfl) ⟨Nat.le_refl _,by simp⟩ (by simp)⟩;have key:∀base,aD base true 86 84 (.sl (.hp H.length) [] 0 0 (some 0) 84) (.sl a p o n c' 84) ⟨L,H++[.rw (.agg 86 [])]⟩=some (.sl (.hp H.length) [] 0 0 (some 0) 84,⟨L,H++[.rw (.agg 86 [])]⟩):=by
    intro base;unfold aD;have e1:St.elems ⟨L,H++[.rw (.agg 86 [])]⟩ (.sl (.hp H.length) [] 0 0 (some 0) 84)=some []:=h0.elems L;have e3:V.slIs 84 (.sl (.hp H.length) [] 0 0 (some 0) 84)=true:=by simp[V.slIs]
    have e4:V.elIs 84 (.sl a p o n c' 84)=true:=by simp[V.elIs]
    rw[e1,hel1 L,e3,e4];rfl
   rw[ab iP rfl];simp only[go_sem,List.replicate_zero,key]
  ·refine⟨H++[.rw (.agg 86 []),.rw (.agg 86 l)],.sl (.hp (H.length+1)) [] 0 l.length none 84,List.prefix_append _ _,fun L=> ?_,.blk _ none _ (.inl rfl) ⟨by omega,by simp⟩ (by simp)⟩;have key:∀base,aD base true 86 84 (.sl (.hp H.length) [] 0 0 (some 0) 84) (.sl a p o n c' 84) ⟨L,H++[.rw (.agg 86 [])]⟩=some (.sl (.hp (H.length+1)) [] 0 l.length none 84,⟨L,H++[.rw (.agg 86 []),.rw (.agg 86 l)]⟩):=by intro base;have:=zV (base:=base) (h:=true) (r:=86) (e:=84) (x:= .sl (.hp H.length) [] 0 0 (some 0) 84) (old:=[]) (new:=l) (s:=⟨L,H++[.rw (.agg 86 [])]⟩) (.inr ⟨_,_,_,_,_,rfl⟩) (.inr ⟨_,_,_,_,_,rfl⟩) (h0.elems L) (hel1 L) hn (by simpa using hm) (.inl rfl);rw[this];have hp0:0<l.length:=List.length_pos_iff.2 hn;simp only[uN,Option.map_some,List.length_nil,Nat.zero_add,hp0,decide_true,if_true];simp[St.fresh,St.new]
   rw[ab iP rfl];simp only[go_sem,List.replicate_zero,key]
theorem GZ (c:Nat):∀(n:Nat) (l:List Dn),flN c (l.drop n)=flN c l-n
 |0,l=>rfl
 |n+1,[]=>by simp[flN]
 |n+1,d::l=>by
  rw[List.drop_succ_cons,GZ c n l];simp only[flN];split
  ·rename_i h;rw[h];split<;>omega
  ·omega
theorem Nh {S:List Int}{l:List Dn}{q:Nat}(h:q<l.length):au S (l.take (q+1))=(au S (l.take q)).set l[q].w l[q].v:=by rw[List.take_succ_eq_append_getElem h,mW];rfl
section
variable {hp : List Blk} {k i N : Nat} {T : List V} {nw fl : V} {S : List Int} {l : List Dn} {sv : V} {G : Ft}
def lnB (k i:Nat) (T:List V) (hp:List Blk) (x:V):List Blk:=hp.set k (.rw (.agg 57 (T.set i x)))
theorem Sz (hk:k<hp.length) (hi:i<T.length) (h8:S.length=8) (hw:∀d∈l,d.w<8) (hG:¬G k) {n:Nat}(hn:n≤l.length) (hl:l.length<1000000) {v1:V}(L:List Blk)
 (hr:∀hp':List Blk,(∀j,G j→hp'[j]?=hp[j]?)→∀L,RS ⟨L,hp'⟩ 84 v1 ((l.map Dn.v1).take n)):
 rc D L.length (.loop [0,1,12,13,14] gI) [(0,.ptr (.hp k) [i] 55),(1,.int .i64 n),(12,v1),(13,.int .i64 n),(14,.int .i64 0)] ⟨L,lnB k i T hp (nlV nw (lnV S) sv fl)⟩=
  some (.exit 0,[(0,.ptr (.hp k) [i] 55),(1,.int .i64 n),(12,v1),(13,.int .i64 n),(14,.int .i64 n),(15,.bool false)],⟨L,lnB k i T hp (nlV nw (lnV (au S (l.take n))) sv fl)⟩):=by
 refine bC (fun q:Nat=>[(0,.ptr (.hp k) [i] 55),(1,.int .i64 n),(12,v1),(13,.int .i64 n),(14,.int .i64 q)]) (fun q=>⟨L,lnB k i T hp (nlV nw (lnV (au S (l.take q))) sv fl)⟩) (fun _=>_) (fun q=>n-q) (fun q=>q≤n) 0 ?_ (by omega) rfl rfl;intro q hq;by_cases c1:q<n
 ·left;have hql:q<l.length:=by omega
  have d1:(q:Int)<n:=by omega
  have d4:IntKind.i64.wrap ((q:Int)+1)=(q:Int)+1:=ae (by omega) (by omega);have hb:(au S (l.take q)).length=8:=by rw[pS];exact h8
  have hwq:=hw _ (List.getElem_mem hql);have hrs:=fun L=>hr (lnB k i T hp (nlV nw (lnV (au S (l.take q))) sv fl)) (fun j hj=>List.getElem?_set_ne (fun e=>hG (by rw[e];exact hj))) L;have hg:((l.map Dn.v1).take n)[q]?=some (l[q].v1):=by rw[List.getElem?_take,if_pos c1,List.getElem?_map,List.getElem?_eq_getElem hql];rfl
  have hsad:=(hrs []).sadq hg (k:= .i64);have hld:∀L t p,ldv ⟨L,lnB k i T hp (nlV nw (lnV (au S (l.take q))) sv fl)⟩ t (elq v1 q p t)=V.at p (l[q].v1):=fun L t p=>(hrs L).ldq hg;have hvl:v1.locLt L.length=true:=(hrs L).locLt;have hset:(lnB k i T hp (nlV nw (lnV (au S (l.take q))) sv fl))[k]?=some (.rw (.agg 57 (T.set i (nlV nw (lnV (au S (l.take q))) sv fl)))):=List.getElem?_set_self hk;have hti:∀x,(T.set i x)[i]?=some x:=fun x=>List.getElem?_set_self hi;refine⟨q+1,by omega,by omega,rfl,?_⟩;rw[Nh hql];generalize au S (l.take q)=su at*;generalize l[q]=d at*;have gw:(su.map (V.int .u64))[d.w]?=some (.int .u64 (su.getD d.w 0)):=am (by omega) 0;have e2:lnB k i T hp (nlV nw (lnV (su.set d.w d.v)) sv fl)=(lnB k i T hp (nlV nw (lnV su) sv fl)).set k (.rw (.agg 57 ((T.set i (nlV nw (lnV su) sv fl)).set i (nlV nw (lnV (su.set d.w d.v)) sv fl)))):=by unfold lnB;rw[List.set_set,List.set_set]
  rw[e2];have w1:(0:Int)≤d.w:=by omega
  have w2:(d.w:Int)<8:=by omega
  simp only[Dn.v1,A0,nlV,lnV,List.map_set]at*;generalize lnB k i T hp (V.agg 55 [nw,.agg 24 (su.map (V.int .u64)),sv,fl])=H at*;simp only[go_sem,gI,d1,hsad,hld];simp only[go_sem,hset,hti,w1,w2,Zh,gw,d4,hvl];rfl
 ·right;have:q=n:=by omega
  subst this;have d1:¬(q:Int)<q:=by omega
  simp only[go_sem,gI,d1]
def flM (l:List Dn) (n q:Nat):V:= .agg 50 (tab 8 fun c=> .int .i64 (if c<q then((flN c l-n:Nat):Int)else(flN c l:Nat)))
theorem SB (hk:k<hp.length) (hi:i<T.length) {n:Nat}(hl:l.length<1000000) (hn:n<1000000) (x1 x2 x3:V) (L:List Blk):
 rc D L.length (.loop [0,1,37] gF) [(0,.ptr (.hp k) [i] 55),(1,.int .i64 n),(37,.int .i64 0)] ⟨L,lnB k i T hp (nlV x1 x2 x3 (flM l n 0))⟩=
  some (.exit 2,[(0,.ptr (.hp k) [i] 55),(1,.int .i64 n),(37,.int .i64 8),(38,.bool false)],⟨L,lnB k i T hp (nlV x1 x2 x3 (flM l n 8))⟩):=by
 have hfl:∀c,flN c l≤l.length:=fun c=>by
  clear hl
  induction l with
  |nil=>exact Nat.le_refl _
  |cons d l ih=>simp only[flN,List.length_cons];split<;>(try split)<;>omega
 refine bC (fun q:Nat=>[(0,.ptr (.hp k) [i] 55),(1,.int .i64 n),(37,.int .i64 q)]) (fun q=>⟨L,lnB k i T hp (nlV x1 x2 x3 (flM l n q))⟩) (fun _=>_) (fun q=>8-q) (fun q=>q≤8) 0 ?_ (by omega) rfl rfl;intro q hq;by_cases c1:q<8
 ·left;have d1:(q:Int)<8:=by omega
  have d2:(0:Int)≤q:=by omega
  have d4:IntKind.i64.wrap ((q:Int)+1)=(q:Int)+1:=ae (by omega) (by omega);have hq2:=hfl q;have d5:IntKind.i64.wrap (((flN q l:Nat):Int)-(n:Int))=((flN q l:Nat):Int)-n:=ae (by omega) (by omega);have hset:(lnB k i T hp (nlV x1 x2 x3 (flM l n q)))[k]?=some (.rw (.agg 57 (T.set i (nlV x1 x2 x3 (flM l n q))))):=List.getElem?_set_self hk;have hti:∀x,(T.set i x)[i]?=some x:=fun x=>List.getElem?_set_self hi;have g:=av (f:=fun c=>V.int .i64 (if c<q then((flN c l-n:Nat):Int)else(flN c l:Nat))) c1
  rw[if_neg (by omega)]at g;have hs:(tab 8 fun c=>V.int .i64 (if c<q then((flN c l-n:Nat):Int)else(flN c l:Nat))).set q (.int .i64 ((flN q l-n:Nat):Int))=tab 8 fun c=>V.int .i64 (if c<q+1 then((flN c l-n:Nat):Int)else(flN c l:Nat)):=by
   rw[dg];apply bp;intro c _;unfold upd;by_cases e:c=q
   ·subst e;rw[if_pos rfl,if_pos (by omega)]
   ·rw[if_neg e];by_cases h:c<q
    ·show V.int .i64 _=V.int .i64 _;rw[if_pos h,if_pos (by omega)]
    ·show V.int .i64 _=V.int .i64 _;rw[if_neg h,if_neg (by omega)]
  have e2:lnB k i T hp (nlV x1 x2 x3 (flM l n (q+1)))=(lnB k i T hp (nlV x1 x2 x3 (flM l n q))).set k (.rw (.agg 57 ((T.set i (nlV x1 x2 x3 (flM l n q))).set i (nlV x1 x2 x3 (flM l n (q+1)))))):=by unfold lnB;rw[List.set_set,List.set_set]
  refine⟨q+1,by omega,by omega,rfl,?_⟩;rw[e2];simp only[flM,nlV]at*;rw[←hs];generalize(tab 8 fun c=>V.int .i64 (if c<q then((flN c l-n:Nat):Int)else(flN c l:Nat)))=TF at*
  generalize lnB k i T hp (V.agg 55 [x1,x2,x3,.agg 50 TF])=H at*;have d7:max (0:Int) (((flN q l:Nat):Int)-n)=((flN q l-n:Nat):Int):=by omega
  simp only[go_sem,gF,d1,d2,Zh,hset,hti,g,d5,d7,d4];rfl
 ·right;have:q=8:=by omega
  subst this;simp only[go_sem,gF]
end
def AM.sureN (M:AM) (i n:Nat):AM:={M with S:=upd M.S i (au (M.S i) ((M.L i).take n)),L:=upd M.L i ((M.L i).drop n)}
theorem AM.now_sure {M:AM}{i n j:Nat}:(M.sureN i n).now j=M.now j:=by
 unfold AM.now AM.sureN;simp only;by_cases e:j=i
 ·subst e;rw[al,al,←mW,List.take_append_drop]
 ·rw[aw e,aw e]
theorem AM.Ok.sureN {M:AM}(h:M.Ok) {i n:Nat}:(M.sureN i n).Ok:=by
 refine⟨h.n0,h.n1,fun j hj=> ?_,fun j hj d hd=> ?_,h.c0,fun j hj=> ?_,h.lf,h.lg⟩
 ·simp only[AM.sureN];by_cases e:j=i
  ·subst e;rw[al,pS];exact h.l8 j hj
  ·rw[aw e];exact h.l8 j hj
 ·simp only[AM.sureN]at hd;by_cases e:j=i
  ·subst e;rw[al]at hd;exact h.w8 j hj d (List.mem_of_mem_drop hd)
  ·rw[aw e]at hd;exact h.w8 j hj d hd
 ·simp only[AM.sureN];by_cases e:j=i
  ·subst e;rw[al,List.length_drop];have:=h.len j hj;omega
  ·rw[aw e];exact h.len j hj
theorem Pd (l:List Dn) (n:Nat):flM l n 0=flV l:=by unfold flM flV;congr 1
theorem Tq (l:List Dn) (n:Nat):flM l n 8=flV (l.drop n):=by unfold flM flV;congr 1;apply bp;intro c hc;rw[if_pos hc,GZ]
theorem PP {n:Nat}{f:Nat→V}{j:Nat}(hj:j<n):(tab n f).set j (f j)=tab n f:=by
 rw[dg];apply bp;intro i _;unfold upd;split
 ·rename_i e;subst e;rfl
 ·rfl
theorem dD {hp:List Blk}{k:Nat}{b:Blk}(h:hp[k]?=some b):hp.set k b=hp:=by
 apply List.ext_getElem?;intro i;by_cases e:k=i
 ·subst e;rw[List.getElem?_set_self (aj h),h]
 ·rw[List.getElem?_set_ne e]
theorem vM {hp:List Blk}{F:Ft}{m:Nat}{M:AM}(h:aI hp F m M) (hc:M.count<1000000) {k nn:Nat}{cp:Option Nat}{o b:Bool}{l c:Int}(hb:hp[m]?=some (.rw (cv k nn cp o b l c))) {j n:Nat}(hj:j<M.n) (hn:n≤(M.L j).length) (L:List Blk):
 ∃hp' F',rf D mB [.ptr (.hp k) [j] 55,.int .i64 n] ⟨L,hp⟩=some (.tup [],⟨L,hp'⟩)∧aI hp' F' m (M.sureN j n)∧Chg hp hp' F F'∧hp'[m]?=hp[m]?:=by
 obtain⟨k',fk,ne,⟨cp',left,h1,h2,h3⟩,sv,ow,h4,h5⟩:=h.mb;have hkk:k=k':=wN (Blk.rw.inj (Option.some.inj (hb.symm.trans h1)));subst hkk;have ok:=h.ok;have hlen:=ok.len j hj;have hkl:=aj h4;have hml:=aj h1;have hTl:(tab M.n fun i=>plV (M.S i) (M.L i) (sv i)).length=M.n:=iI _ _;have hX:hp=lnB k j (tab M.n fun i=>plV (M.S i) (M.L i) (sv i)) hp (plV (M.S j) (M.L j) (sv j)):=by unfold lnB;rw[PP (f:=fun i=>plV (M.S i) (M.L i) (sv i)) hj];exact(dD h4).symm
 obtain⟨v1,v2,s1,s2,s3,s4⟩:=(h5 j hj).sub (n:=n) (by rw[List.length_map];exact hn);have hT:∀x,((tab M.n fun i=>plV (M.S i) (M.L i) (sv i)).set j x)[j]?=some x:=fun x=>List.getElem?_set_self (by rw[hTl];exact hj);have hms:=Sz (T:=tab M.n fun i=>plV (M.S i) (M.L i) (sv i)) (nw:=lnV (au (M.S j) (M.L j))) (fl:=flV (M.L j)) (sv:=sv j) (G:=fun x=>F x∧x≠m∧x≠k∧ow x=j) hkl (by rw[hTl];exact hj) (ok.l8 j hj) (ok.w8 j hj) (fun hh=>hh.2.2.1 rfl) hn (by omega) (v1:=v1) L (fun hp' he L=>(s3 hp' he L).1);have hG1:∀x,F x∧x≠m∧x≠k∧ow x=j→(lnB k j (tab M.n fun i=>plV (M.S i) (M.L i) (sv i)) hp (nlV (lnV (au (M.S j) (M.L j))) (lnV (au (M.S j) ((M.L j).take n))) (sv j) (flV (M.L j))))[x]?=hp[x]?:=fun x hx=>List.getElem?_set_ne (Ne.symm hx.2.2.1);obtain⟨H2,v',p1,p2,p3⟩:=ID (H:=lnB k j (tab M.n fun i=>plV (M.S i) (M.L i) (sv i)) hp (nlV (lnV (au (M.S j) (M.L j))) (lnV (au (M.S j) ((M.L j).take n))) (sv j) (flV (M.L j)))) s4 (fun L=>(s3 _ hG1 L).2) (by rw[←List.map_drop];exact Xy) (by rw[←List.map_drop,List.length_map,List.length_drop];simp[cg];omega);have hl1:(lnB k j (tab M.n fun i=>plV (M.S i) (M.L i) (sv i)) hp (nlV (lnV (au (M.S j) (M.L j))) (lnV (au (M.S j) ((M.L j).take n))) (sv j) (flV (M.L j)))).length=hp.length:=List.length_set ..;have hH1k:(lnB k j (tab M.n fun i=>plV (M.S i) (M.L i) (sv i)) hp (nlV (lnV (au (M.S j) (M.L j))) (lnV (au (M.S j) ((M.L j).take n))) (sv j) (flV (M.L j))))[k]?=_:=List.getElem?_set_self hkl;have hH2k:=eH p1 hH1k;have hH2l:=p1.length_le;have old2:∀x,x<hp.length→x≠k→H2[x]?=hp[x]?:=fun x hx hxk=>by
  have:(lnB k j (tab M.n fun i=>plV (M.S i) (M.L i) (sv i)) hp (nlV (lnV (au (M.S j) (M.L j))) (lnV (au (M.S j) ((M.L j).take n))) (sv j) (flV (M.L j))))[x]?=hp[x]?:=List.getElem?_set_ne (Ne.symm hxk);rw[←this];have hlt:x<(lnB k j (tab M.n fun i=>plV (M.S i) (M.L i) (sv i)) hp (nlV (lnV (au (M.S j) (M.L j))) (lnV (au (M.S j) ((M.L j).take n))) (sv j) (flV (M.L j)))).length:=by rw[hl1];exact hx
  rw[eH p1 (List.getElem?_eq_getElem hlt),List.getElem?_eq_getElem hlt]
 have hfl:=SB (hp:=H2) (k:=k) (i:=j) (T:=tab M.n fun i=>plV (M.S i) (M.L i) (sv i)) (l:=M.L j) (by omega) (by rw[hTl];exact hj) (n:=n) (by omega) (by omega) (lnV (au (M.S j) (M.L j))) (lnV (au (M.S j) ((M.L j).take n))) v' L;rw[Pd,Tq]at hfl;have hst:H2.set k (.rw (.agg 57 (((tab M.n fun i=>plV (M.S i) (M.L i) (sv i)).set j (nlV (lnV (au (M.S j) (M.L j))) (lnV (au (M.S j) ((M.L j).take n))) (sv j) (flV (M.L j)))).set j (nlV (lnV (au (M.S j) (M.L j))) (lnV (au (M.S j) ((M.L j).take n))) v' (flV (M.L j))))))=
  lnB k j (tab M.n fun i=>plV (M.S i) (M.L i) (sv i)) H2 (nlV (lnV (au (M.S j) (M.L j))) (lnV (au (M.S j) ((M.L j).take n))) v' (flV (M.L j))):=by unfold lnB;rw[List.set_set]
 have hfin:(lnB k j (tab M.n fun i=>plV (M.S i) (M.L i) (sv i)) H2 (nlV (lnV (au (M.S j) (M.L j))) (lnV (au (M.S j) ((M.L j).take n))) v' (flV ((M.L j).drop n))))[m]?=hp[m]?:=by unfold lnB;rw[List.getElem?_set_ne (Ne.symm ne)];exact old2 m hml ne
 refine⟨lnB k j (tab M.n fun i=>plV (M.S i) (M.L i) (sv i)) H2 (nlV (lnV (au (M.S j) (M.L j))) (lnV (au (M.S j) ((M.L j).take n))) v' (flV ((M.L j).drop n))),fun x=>F x∨(hp.length≤x∧x<H2.length),?_,⟨ok.sureN,fun x hx=> ?_,.inl h.fm,k,.inl fk,ne,⟨cp',left,hfin.trans h1,h2,h3⟩,upd sv j v',fun x=>if hp.length≤x then j else ow x,?_,fun i hi=> ?_⟩,⟨?_,fun x hx hnx=> ?_,fun x hx=> ?_⟩,hfin⟩
 ·have hX2:lnB k j (tab M.n fun i=>plV (M.S i) (M.L i) (sv i)) hp (nlV (lnV (au (M.S j) (M.L j))) (lnV (M.S j)) (sv j) (flV (M.L j)))=hp:=hX.symm;rw[hX2]at hms;have g:=av (f:=fun i=>plV (M.S i) (M.L i) (sv i)) hj;have g0:plV (M.S j) (M.L j) (sv j)= .agg 55 [lnV (au (M.S j) (M.L j)),lnV (M.S j),sv j,flV (M.L j)]:=rfl;rw[g0]at g;have ts:=p3.tag;have tl:=p3.lt;have hv1:=(s3 hp (fun _ _=>rfl) L).1;have hsl:V.slen false v1=some n:=by
   have:=hv1.slen
   rwa [List.length_take,List.length_map,Nat.min_eq_left hn]at this
  clear hX hX2 p1 p3 hv1 h5;generalize lnB k j (tab M.n fun i=>plV (M.S i) (M.L i) (sv i)) hp (nlV (lnV (au (M.S j) (M.L j))) (lnV (au (M.S j) ((M.L j).take n))) (sv j) (flV (M.L j)))=H1 at*;generalize(lnB k j (tab M.n fun i=>plV (M.S i) (M.L i) (sv i)) H2 (nlV (lnV (au (M.S j) (M.L j))) (lnV (au (M.S j) ((M.L j).take n))) v' (flV (M.L j))))=H3 at*;generalize(lnB k j (tab M.n fun i=>plV (M.S i) (M.L i) (sv i)) H2 (nlV (lnV (au (M.S j) (M.L j))) (lnV (au (M.S j) ((M.L j).take n))) v' (flV ((M.L j).drop n))))=H4 at*;generalize(tab M.n fun i=>plV (M.S i) (M.L i) (sv i))=T0 at*;generalize lnV (au (M.S j) ((M.L j).take n))=w2 at*;generalize lnV (au (M.S j) (M.L j))=w1 at*;generalize flV (M.L j)=w4 at*;simp only[nlV]at*;rw[ab yg rfl];simp only[go_sem,h4,g,s1,hsl,hms];simp only[go_sem,hH1k,hT,s2,p2];simp only[go_sem,hH2k,hT,ts,tl,hst,hfl]
 ·unfold lnB;rw[List.length_set];rcases hx with hx|hx
  ·have:=h.inn x hx;omega
  ·exact hx.2
 ·unfold lnB;rw[List.getElem?_set_self (by omega),dg];congr 3;apply bp;intro i _;unfold upd;by_cases e:i=j
  ·subst e;simp only[if_true];unfold plV AM.sureN;simp only;rw[al,al,←mW,List.take_append_drop]
  ·simp only[e,if_false];unfold AM.sureN;simp only;rw[aw e,aw e]
 ·unfold AM.sureN;simp only;by_cases e:i=j
  ·subst e;rw[al,al,List.map_drop];refine p3.more (fun x h1 h2=> ?_) fun x h1 h2=>⟨.inr ⟨by rw[hl1]at h2;exact h2.1,h1⟩,by omega,by rw[hl1]at h2;omega,if_pos (by rw[hl1]at h2;exact h2.1)⟩;unfold lnB;rw[List.getElem?_set_ne (by rw[hl1]at h2;omega)]
  ·rw[aw e,aw e];refine(h5 i hi).more (fun x h1 h2=> ?_) fun x h1 h2=>⟨.inl h2.1,h2.2.1,h2.2.2.1,(if_neg (by omega)).trans h2.2.2.2⟩;unfold lnB;rw[List.getElem?_set_ne (Ne.symm h2.2.2.1)];exact old2 x h1 h2.2.2.1
 ·unfold lnB;rw[List.length_set];omega
 ·unfold lnB;rw[List.getElem?_set_ne (fun e=>hnx (by rw[←e];exact fk))];exact old2 x hx (fun e=>hnx (by rw[e];exact fk))
 ·rcases hx with hx|hx
  ·exact .inl hx
  ·exact .inr hx.1
def AM.fencedTo (M:AM) (c:Nat):Nat→AM
 |0=>M
 |i+1=>(M.fencedTo c i).sureN i (flN c ((M.fencedTo c i).L i))
theorem Cp {M:AM}{i:Nat}:M.sureN i 0=M:=by
 obtain⟨n,S,L,off,left,count⟩:=M;unfold AM.sureN;simp only[List.take_zero,List.drop_zero,au];congr 1
 ·funext j;unfold upd;split
  ·rename_i e;subst e;rfl
  ·rfl
 ·funext j;unfold upd;split
  ·rename_i e;subst e;rfl
  ·rfl
theorem bJ {M:AM}{c:Nat}:∀i,(M.fencedTo c i).n=M.n∧(M.fencedTo c i).count=M.count∧(M.fencedTo c i).off=M.off∧(M.fencedTo c i).left=M.left
 |0=>⟨rfl,rfl,rfl,rfl⟩
 |i+1=>bJ i
theorem rC {M:AM}(h:M.Ok) {c:Nat}:∀i,(M.fencedTo c i).Ok
 |0=>h
 |i+1=>(rC h i).sureN
theorem tG {M:AM}{c j:Nat}:∀i,(M.fencedTo c i).now j=M.now j
 |0=>rfl
 |i+1=>by simp only[AM.fencedTo];rw[AM.now_sure];exact tG i
def AM.fence (M:AM) (c:Int):AM×Int:=if c<0∨8≤c then(M,1)else if M.dead then(M.out,4)else(M.stepped.fencedTo c.toNat M.n,0)
theorem FM (c:Nat):∀l:List Dn,flN c l≤l.length
 |[]=>Nat.le_refl _
 |d::l=>by have:=FM c l;simp only[flN,List.length_cons];split<;>(try split)<;>omega
theorem wQ {m k cI:Nat}(hcI:cI<8) {M:AM}(hc:M.count<1000000) (hn:M.n≤1024) (L:List Blk):∀(n i:Nat) {hp:List Blk}{F:Ft},i+n=M.n→aI hp F m (M.fencedTo cI i)→
 (∃nn cp o b l c,hp[m]?=some (.rw (cv k nn cp o b l c)))→
 ∃hp' F',rc D L.length (.loop [0,1,23,24] eT) [(0,.ptr (.hp m) [] 59),(1,.int .i64 cI),(23,.int .i64 M.n),(24,.int .i64 i)] ⟨L,hp⟩=
  some (.exit 0,[(0,.ptr (.hp m) [] 59),(1,.int .i64 cI),(23,.int .i64 M.n),(24,.int .i64 M.n),(25,.bool false)],⟨L,hp'⟩)∧aI hp' F' m (M.fencedTo cI M.n)∧Chg hp hp' F F'
 |0,i,hp,F,hi,h,_=>by
  have:i=M.n:=by omega
  subst this;refine⟨hp,F,?_,h,.refl _ _⟩;have d1:¬(M.n:Int)<M.n:=by omega
  rw[aa];simp only[go_sem,eT,d1]
 |n+1,i,hp,F,hi,h,hb=>by
  have hM:=h;obtain⟨nn,cp0,o,b,l,c,hb⟩:=hb;obtain⟨k',fk,ne,⟨cp,left,h1,h2,h3⟩,sv,ow,h4,h5⟩:=h.mb;have hkk:k=k':=wN (Blk.rw.inj (Option.some.inj (hb.symm.trans h1)));subst hkk;have en:=(bJ (M:=M) (c:=cI) i).1;have ec:=(bJ (M:=M) (c:=cI) i).2.1;rw[en]at h4 h1;have hj:i<M.n:=by omega
  have g:=av (f:=fun q=>plV ((M.fencedTo cI i).S q) ((M.fencedTo cI i).L q) (sv q)) hj;have g0:plV ((M.fencedTo cI i).S i) ((M.fencedTo cI i).L i) (sv i)= .agg 55 [lnV (au ((M.fencedTo cI i).S i) ((M.fencedTo cI i).L i)),lnV ((M.fencedTo cI i).S i),sv i,.agg 50 (tab 8 fun c=> .int .i64 (flN c ((M.fencedTo cI i).L i):Nat))]:=rfl;rw[g0]at g;have gf:=av (f:=fun c=>V.int .i64 (flN c ((M.fencedTo cI i).L i):Nat)) hcI;have d1:(i:Int)<M.n:=by omega
  have d2:(cI:Int)<8:=by omega
  have d3:(0:Int)≤cI:=by omega
  have d4:IntKind.i64.wrap ((i:Int)+1)=((i+1:Nat):Int):=ae (by omega) (by omega);have hsad:eD 55 (.sl (.hp k) [] 0 M.n cp 55) (.int .i64 (i:Int))=some (.ptr (.hp k) [i] 55):=by simp[go_sem,hj]
  by_cases hz:flN cI ((M.fencedTo cI i).L i)=0
  ·have e:M.fencedTo cI (i+1)=M.fencedTo cI i:=by simp only[AM.fencedTo];rw[hz,Cp]
   obtain⟨hp',F',r1,r2,r3⟩:=wQ hcI hc hn L n (i+1) (by omega) (by rw[e];exact hM) ⟨_,_,_,_,_,_,hb⟩;refine⟨hp',F',?_,r2,r3⟩;rw[←r1,aa];rw[hz]at gf;have d5:¬((0:Nat):Int)>0:=by omega
   simp only[cv]at h1;generalize(tab 8 fun c=>V.int .i64 (flN c ((M.fencedTo cI i).L i):Nat))=TF at*;generalize(tab M.n fun q=>plV ((M.fencedTo cI i).S q) ((M.fencedTo cI i).L q) (sv q))=T0 at*;simp only[go_sem,eT,d1,h1,hsad,h4,g,d2,d3,Zh,gf,d5,d4]
  ·obtain⟨hp1,F1,s1,s2,s3,s4⟩:=vM hM (by rw[ec];exact hc) hb (j:=i) (n:=flN cI ((M.fencedTo cI i).L i)) (by rw[en];exact hj) (FM _ _) L;obtain⟨hp',F',r1,r2,r3⟩:=wQ hcI hc hn L n (i+1) (by omega) (F:=F1) (hp:=hp1) s2 ⟨_,_,_,_,_,_,s4.trans hb⟩;refine⟨hp',F',?_,r2,s3.trans r3⟩;rw[←r1,aa];have d5:((flN cI ((M.fencedTo cI i).L i):Nat):Int)>0:=by omega
   simp only[cv]at h1;generalize(tab 8 fun c=>V.int .i64 (flN c ((M.fencedTo cI i).L i):Nat))=TF at*;generalize(tab M.n fun q=>plV ((M.fencedTo cI i).S q) ((M.fencedTo cI i).L q) (sv q))=T0 at*;generalize flN cI ((M.fencedTo cI i).L i)=fz at*;simp only[go_sem,eT,d1,h1,hsad,h4,g,d2,d3,Zh,gf,d5,d4,s1]
theorem ry {hp:List Blk}{F:Ft}{m:Nat}{M:AM}(h:aI hp F m M) (hc:M.count+1<1000000) (c:Int) (L:List Blk):
 ∃hp' F',rf D gk [.ptr (.hp m) [] 59,.int .i64 c] ⟨L,hp⟩=some (.int .i64 (M.fence c).2,⟨L,hp'⟩)∧aI hp' F' m (M.fence c).1∧Chg hp hp' F F':=by
 unfold AM.fence;by_cases hq:c<0∨8≤c
 ·rw[if_pos hq];refine⟨hp,F,?_,h,.refl _ _⟩;rw[ab mT rfl];by_cases hq0:c<0
  ·simp only[go_sem,hq0]
  ·have hq8:c≥8:=by omega
   simp only[go_sem,hq0,hq8]
 ·rw[if_neg hq];obtain⟨p,rfl⟩:∃p:Nat,c=p:=⟨c.toNat,by omega⟩;rw[Zh];have d1:¬(p:Int)<0:=by omega
  have d2:¬(p:Int)≥8:=by omega
  obtain⟨hp1,s1,s2,s3,s4⟩:=Db h (by omega);unfold AM.stpE at s1;unfold AM.stp at s2;by_cases hd:M.dead=true
  ·rw[if_pos hd];rw[hd,if_pos rfl]at s1 s2;refine⟨hp1,F,?_,s2,s3⟩;rw[ab mT rfl];simp only[go_sem,d1,d2,s1]
  ·have hdf:M.dead=false:=by simpa using hd
   rw[if_neg hd];rw[hdf,if_neg (by simp)]at s1 s2;have hM1:=s2;obtain⟨k',fk',ne',⟨cp',left',q1,q2,q3⟩,sv,ow,q4,q5⟩:=s2.mb;have hs:M.stepped.count<1000000:=by simp only[AM.stepped];exact hc
   obtain⟨hp',F',r1,r2,r3⟩:=wQ (m:=m) (k:=k') (cI:=p) (by omega) hs hM1.ok.n1 L M.stepped.n 0 (by omega) (hp:=hp1) (F:=F) hM1 ⟨_,_,_,_,_,_,q1⟩;refine⟨hp',F',?_,r2,s3.trans r3⟩;have e1:M.stepped.n=M.n:=rfl;rw[e1]at r1 q1;rw[show((0:Nat):Int)=0 from rfl]at r1
   simp only[cv]at q1;rw[ab mT rfl];simp only[go_sem,d1,d2,s1,q1];simp only[go_sem,r1]
theorem CP (n a b:Int) (s:St):rf D qR [.int .i64 n,.int .i64 a,.int .i64 b] s=some (.bool (win n a b),s):=by
 unfold win;rw[ab Dm rfl];by_cases h1:a≤n
 ·have h1':n≥a:=h1;simp only[go_sem,h1,h1',decide_true]
 ·have h1':¬n≥a:=h1;simp only[go_sem,h1,h1',decide_false]
structure Sup where
 gen:Int
 root:Int
 seq:Int
 cores:Int
def Sup.v (b:Sup):V:= .agg 44 [.int .i64 b.gen,.int .i64 b.root,.int .i64 b.seq,.int .i64 b.cores]
def Sup.ok (b:Sup):Bool:=win b.gen 1 1099511627776&&(win b.root 0 1023&&(win b.seq 0 1099511627776&&win b.cores 1 8))
def ns (b:Sup):List Int:=[1526644958,IntKind.u64.wrap b.gen,IntKind.u64.wrap b.root,IntKind.u64.wrap b.seq,IntKind.u64.wrap b.cores,0,0,0]
def aH (b:Sup):List Int:=if b.ok=true then a7 (ns b)else zl
theorem qT (b:Sup):(aH b).length=8:=by
 unfold aH;split
 ·rw[pr];rfl
 ·rfl
theorem xO (b:Sup) (s:St):rf D tQ [b.v] s=some (.tup [lnV (aH b),.int .i64 (if b.ok=true then 0 else 1)],s):=by
 have h:=CP;have hz:(zl.map (V.int .u64))=List.replicate 8 (.int .u64 0):=rfl;have hrep:List.replicate 8 (V.int .u64 0)=[.int .u64 0,.int .u64 0,.int .u64 0,.int .u64 0,.int .u64 0,.int .u64 0,.int .u64 0,.int .u64 0]:=rfl;have hseal:=fun s=>oF (l:=ns b) rfl s;obtain⟨g,r,q,c⟩:=b;unfold aH Sup.ok;simp only[Sup.v,ns,lnV,List.map_cons,List.map_nil]at*;generalize hA:win g 1 1099511627776=A;generalize hB:win r 0 1023=B;generalize hC:win q 0 1099511627776=C;generalize hE:win c 1 8=E;rw[ab HM rfl];cases A
 ·simp only[go_sem,h,hA,hz]
 ·cases B
  ·simp only[go_sem,h,hA,hB,hz]
  ·cases C
   ·simp only[go_sem,h,hA,hB,hC,hz]
   ·cases E
    ·simp only[go_sem,h,hA,hB,hC,hE,hz]
    ·simp only[go_sem,h,hA,hB,hC,hE];simp only[go_sem,hrep,hseal]
def AM.wrs (M:AM) (slot:Int) (b:Sup):AM×Int:=
 if b.ok=false∨(slot≠0∧slot≠1)then(M,1)else
 if(M.store slot 7 0).2≠0 then M.store slot 7 0 else
 let r:=(M.store slot 7 0).1.layFrom slot (aH b) 0 8
 if r.2≠0 then r else
 if(r.1.flush 0 slot).2≠0 then r.1.flush 0 slot else(r.1.flush 0 slot).1.fence 0
section
variable {m : Nat}
theorem Ib {l:List Int}(hl:l.length=8) {at':Int}{L:List Blk}{base:Nat}(hL:(L.drop base).all (bl L.length)=true):∀(n j:Nat) {hp:List Blk}{Fm:Ft}{M:AM},j+n=8→aI hp Fm m M→M.count+n<1000000→
 ∃hp' Fm' r,rc D base (.loop [0,1,2,37,38] jB) [(0,.ptr (.hp m) [] 59),(1,.int .i64 0),(2,.int .i64 at'),(37,lnV l),(38,.int .i64 j)] ⟨L,hp⟩=some r∧
  aI hp' Fm' m (M.layFrom at' l j n).1∧Chg hp hp' Fm Fm'∧
  (((M.layFrom at' l j n).2=0∧r=(.exit 0,[(0,.ptr (.hp m) [] 59),(1,.int .i64 0),(2,.int .i64 at'),(37,lnV l),(38,.int .i64 8),(39,.bool false)],⟨L,hp'⟩))∨
   ((M.layFrom at' l j n).2≠0∧r=(.ret,[(8,.int .i64 (M.layFrom at' l j n).2)],⟨L,hp'⟩)))
 |0,j,hp,Fm,M,hj,h,_=>by
  have:j=8:=by omega
  subst this;refine⟨hp,Fm,_,?_,h,.refl _ _,.inl ⟨rfl,rfl⟩⟩;rw[aa];simp only[lnV];simp only[go_sem,jB]
 |n+1,j,hp,Fm,M,hj,h,hc=>by
  obtain⟨hp1,Fm1,e1,e2,e3⟩:=iz h (by omega) at' j (l.getD j 0) L;have hcn:=AM.store_count (M:=M) (i:=at') (q:=j) (v:=l.getD j 0);have d1:(j:Int)<8:=by omega
  have d2:(0:Int)≤j:=by omega
  have d4:IntKind.i64.wrap ((j:Int)+1)=((j+1:Nat):Int):=ae (by omega) (by omega);have g:=am (f:=V.int .u64) (l:=l) (i:=j) (by omega) 0;simp only[AM.layFrom];by_cases he:(M.store at' j (l.getD j 0)).2=0
  ·rw[if_neg fun hh=>hh he];obtain⟨hp2,Fm2,r,q1,q2,q3,q4⟩:=Ib hl hL n (j+1) (by omega) e2 (by omega);refine⟨hp2,Fm2,r,?_,q2,e3.trans q3,q4⟩;rw[←q1,aa];rw[he]at e1;simp only[lnV]at*;generalize l.getD j 0=wd at*;simp only[go_sem,jB,d1,d2,Zh,g,e1,d4,hL]
  ·rw[if_pos he];refine⟨hp1,Fm1,_,?_,e2,e3,.inr ⟨he,rfl⟩⟩;rw[aa];simp only[lnV]at*;generalize l.getD j 0=wd at*;simp only[go_sem,jB,d1,d2,Zh,g,e1,he]
theorem bz {M:AM}{c i:Int}:(M.flush c i).1.count≤M.count+1∧(M.flush c i).1.n=M.n:=by
 unfold AM.flush;split
 ·exact⟨by simp only;omega,rfl⟩
 ·split
  ·exact⟨by simp only[AM.out];omega,rfl⟩
  ·exact⟨by simp only[AM.flushed,AM.stepped];omega,rfl⟩
theorem Jk {hp:List Blk}{F:Ft}{M:AM}(h:aI hp F m M) (hc:M.count+12<1000000) (slot:Int) (b:Sup) (L:List Blk):
 ∃hp' F',rf D oG [.ptr (.hp m) [] 59,.int .i64 0,.int .i64 slot,b.v] ⟨L,hp⟩=some (.int .i64 (M.wrs slot b).2,⟨L,hp'⟩)∧aI hp' F' m (M.wrs slot b).1∧Chg hp hp' F F':=by
 have hln:=fun s=>xO b s;have hlen:=qT b;unfold AM.wrs;by_cases hb:b.ok=false
 ·rw[if_pos (.inl hb)];refine⟨hp,F,?_,h,.refl _ _⟩;rw[hb,if_neg (by simp)]at hln;simp only[Sup.v,lnV]at*;rw[ab jd rfl];simp only[go_sem,hln]
 ·have hb':b.ok=true:=by simpa using hb
  rw[hb',if_pos rfl]at hln;by_cases hs:slot≠0∧slot≠1
  ·rw[if_pos (.inr hs)];refine⟨hp,F,?_,h,.refl _ _⟩;have h0:=hs.1;have h1:=hs.2;simp only[Sup.v,lnV]at*;rw[ab jd rfl];simp only[go_sem,hln,h0,h1]
  ·rw[if_neg (by intro hh;rcases hh with hh|hh;exact hb hh;exact hs hh)];obtain⟨hp1,F1,e1,e2,e3⟩:=iz h (by omega) slot 7 0 (L++[.rw b.v,.rw (lnV (aH b))]);have c1:=AM.store_count (M:=M) (i:=slot) (q:=7) (v:=0);have hsl:slot=0∨slot=1:=by omega
   by_cases he1:(M.store slot 7 0).2=0
   ·rw[if_neg (by simp[he1])];obtain⟨hp2,F2,r,q1,q2,q3,q4⟩:=Ib (m:=m) hlen (at':=slot) (L:=L++[.rw b.v,.rw (lnV (aH b))]) (base:=L.length) (by simp only[Sup.v,lnV];simp only[go_sem]) 8 0 rfl e2 (by omega);have c2:=AM.layFrom_count (M:=(M.store slot 7 0).1) (at':=slot) (l:=aH b) (n:=8) (j:=0);simp only;by_cases he2:((M.store slot 7 0).1.layFrom slot (aH b) 0 8).2=0
    ·rw[if_neg (by simp[he2])];rcases q4 with⟨_,rfl⟩|⟨z,_⟩
     ·obtain⟨hp3,r1,r2,r3⟩:=rJ q2 (by omega) 0 slot (L++[.rw b.v,.rw (lnV (aH b))]);have c3:=(bz (M:=((M.store slot 7 0).1.layFrom slot (aH b) 0 8).1) (c:=0) (i:=slot)).1;by_cases he3:(((M.store slot 7 0).1.layFrom slot (aH b) 0 8).1.flush 0 slot).2=0
      ·rw[if_neg (by simp[he3])];obtain⟨hp4,F4,s1,s2,s3⟩:=ry r2 (by omega) 0 (L++[.rw b.v,.rw (lnV (aH b))]);refine⟨hp4,F4,?_,s2,((e3.trans q3).trans r3).trans s3⟩;rw[show((0:Nat):Int)=0 from rfl]at q1
       rw[he1]at e1;rw[he3]at r1;generalize((((M.store slot 7 0).1.layFrom slot (aH b) 0 8).1.flush 0 slot).1.fence 0)=fz at*;generalize aH b=sl at*;simp only[Sup.v,lnV]at*;rw[ab jd rfl];rcases hsl with rfl|rfl
       ·simp only[go_sem,hln,e1];simp only[go_sem,q1,r1,s1]
       ·simp only[go_sem,hln,e1];simp only[go_sem,q1,r1,s1]
      ·rw[if_pos he3];refine⟨hp3,F2,?_,r2,(e3.trans q3).trans r3⟩;rw[show((0:Nat):Int)=0 from rfl]at q1
       rw[he1]at e1;generalize(((M.store slot 7 0).1.layFrom slot (aH b) 0 8).1.flush 0 slot)=fz at*;generalize aH b=sl at*;simp only[Sup.v,lnV]at*;rw[ab jd rfl];rcases hsl with rfl|rfl
       ·simp only[go_sem,hln,e1];simp only[go_sem,q1,r1,he3]
       ·simp only[go_sem,hln,e1];simp only[go_sem,q1,r1,he3]
     ·exact absurd he2 z
    ·rw[if_pos he2];rcases q4 with⟨z,_⟩|⟨_,rfl⟩
     ·exact absurd z he2
     ·refine⟨hp2,F2,?_,q2,e3.trans q3⟩;rw[show((0:Nat):Int)=0 from rfl]at q1
      rw[he1]at e1;generalize((M.store slot 7 0).1.layFrom slot (aH b) 0 8)=fz at*;generalize aH b=sl at*;simp only[Sup.v,lnV]at*;rw[ab jd rfl];rcases hsl with rfl|rfl
      ·simp only[go_sem,hln,e1];simp only[go_sem,q1]
      ·simp only[go_sem,hln,e1];simp only[go_sem,q1]
   ·rw[if_pos he1];refine⟨hp1,F1,?_,e2,e3⟩;generalize(M.store slot 7 0)=fz at*;generalize aH b=sl at*;simp only[Sup.v,lnV]at*;rw[ab jd rfl];rcases hsl with rfl|rfl
    ·simp only[go_sem,hln,e1,he1]
    ·simp only[go_sem,hln,e1,he1]
end
structure AW where
 x:AS
 b:Sup
 slot:Int
 st:List (Nat×Int)
 seq:Int
 tbl:Nat→Ent
 dir:Nat→Int
section
variable {hp hp' : List Blk} {G G' : Ft} {v : V} {l : List (Nat × Int)}
end
section
variable {hp hp' : List Blk} {wk a m fr : Nat} {Fm Fm' Gs Gs' : Ft} {sv sv' : V} {w w' : AW}
end
section
variable {wk a m fr : Nat} {Fm : Ft}
end
section
variable {wk a m fr : Nat} {Fm : Ft}
end
section
variable {hp hp' : List Blk} {wk a m fr : Nat} {Fm Fm' Gs : Ft} {sv : V} {w : AW}
def AW.write (w:AW) (l:List Int) (q:Nat):AW×Int:=
 if(w.x.lay l).2.2≠0 then({w with x:=(w.x.lay l).1},(w.x.lay l).2.2)else
 if((w.x.lay l).1.M.flush 0 (w.x.lay l).2.1).2≠0 then({w with x:={(w.x.lay l).1 with M:=((w.x.lay l).1.M.flush 0 (w.x.lay l).2.1).1}},((w.x.lay l).1.M.flush 0 (w.x.lay l).2.1).2)else
 ({w with x:={(w.x.lay l).1 with M:=((w.x.lay l).1.M.flush 0 (w.x.lay l).2.1).1},dir:=upd w.dir q (w.x.lay l).2.1},0)
end
section
variable {hp hp' : List Blk} {wk a m fr : Nat} {Fm Fm' Gs : Ft} {sv : V} {w : AW}
theorem Xt {M:AM}{s:Int}{b:Sup}:(M.wrs s b).1.n=M.n:=by
 have hf:∀N:AM,(N.fence 0).1.n=N.n:=fun N=>by
  unfold AM.fence;split
  ·rfl
  ·split
   ·rfl
   ·exact(bJ _).1
 unfold AM.wrs;split
 ·rfl
 ·split
  ·exact AM.store_n
  ·simp only;split
   ·rw[AM.layFrom_n,AM.store_n]
   ·split
    ·rw[bz.2,AM.layFrom_n,AM.store_n]
    ·rw[hf,bz.2,AM.layFrom_n,AM.store_n]
def AW.nextB (w:AW):Sup:=⟨w.b.gen+1,w.dir 7,w.seq,w.b.cores⟩
def AW.commit (w:AW):AW×Int:=
 if(w.x.M.wrs (1-w.slot) w.nextB).2≠0 then({w with x:={w.x with M:=(w.x.M.wrs (1-w.slot) w.nextB).1}},(w.x.M.wrs (1-w.slot) w.nextB).2)
 else({w with x:=(AS.commit {w.x with M:=(w.x.M.wrs (1-w.slot) w.nextB).1} w.dir).1,b:=w.nextB,slot:=1-w.slot},0)
end
def AW.doStep (w:AW) (p:Nat×Int):AW×Int:=match p.1 with
 |0=>({w with x:={w.x with M:=(w.x.M.flush 0 p.2).1}},(w.x.M.flush 0 p.2).2)
 |1=>w.write (bj w.tbl p.2.toNat) p.2.toNat
 |2=>w.write (aE w.dir) 7
 |3=>({w with x:={w.x with M:=(w.x.M.fence 0).1}},(w.x.M.fence 0).2)
 |_=>w.commit
def AW.step (w:AW):AW×Bool×Int:=match w.st with
 |[]=>(w,false,3)
 |p::r=>if(w.doStep p).2=0 then({(w.doStep p).1 with st:=r},decide (r=[]),0)else if(w.doStep p).2=10 then({(w.doStep p).1 with x:=(w.doStep p).1.x.abort.1,st:=[]},false,10)else((w.doStep p).1,false,(w.doStep p).2)
section
variable {hp hp' : List Blk} {wk a m fr : Nat} {Fm Fm' Gs : Ft} {sv : V} {w : AW}
end
def zU (r:Int):Int:=if iZ .u32 r 1=1 then gA .u32 (gW .u32 r 1) 3988292384 else gW .u32 r 1
def oH:Nat→Int→Int
 |0,r=>r
 |n+1,r=>zU (oH n r)
def iT (r:Int):List Int→Int
 |[]=>r
 |b::l=>iT (oH 8 (gA .u32 r (IntKind.u32.wrap b))) l
theorem KN (r:Int) (l:List Int) (b:Int):iT r (l++[b])=oH 8 (gA .u32 (iT r l) (IntKind.u32.wrap b)):=by
 induction l generalizing r with
 |nil=>rfl
 |cons a l ih=>exact ih _
theorem LJ {r:Int}{bs:List Int}{i:Nat}(hi:i<bs.length):iT r (bs.take (i+1))=oH 8 (gA .u32 (iT r (bs.take i)) (IntKind.u32.wrap (bs.getD i 0))):=by rw[List.take_succ_eq_append_getElem hi,KN,List.getD_eq_getElem?_getD,List.getElem?_eq_getElem hi];rfl
theorem Sa (L hp:List Blk) (v:V) (i:Int) (r:Int) (base:Nat) (hv:v.locLt L.length=true) (hL:(L.drop base).all (bl L.length)=true):
 rc D base (.loop [0,1,5,6] cG) [(0,.int .u32 r),(1,v),(5,.int .i64 i),(6,.int .i64 0)] ⟨L,hp⟩=some (.exit 2,[(0,.int .u32 (oH 8 r)),(1,v),(5,.int .i64 i),(6,.int .i64 8),(22,.bool false)],⟨L,hp⟩):=by
 refine bC (fun k:Nat=>[(0,.int .u32 (oH k r)),(1,v),(5,.int .i64 i),(6,.int .i64 k)]) (fun _=>⟨L,hp⟩) (fun _=>_) (fun k=>8-k) (fun k=>k≤8) 0 ?_ (by omega) rfl rfl;intro k hk;by_cases c1:k<8
 ·left;have d1:(k:Int)<8:=by omega
  have d4:IntKind.i64.wrap ((k:Int)+1)=(k:Int)+1:=ae (by omega) (by omega);have d5:¬(1:Int)<0:=by omega
  refine⟨k+1,by omega,by omega,rfl,?_⟩;rw[show oH (k+1) r=zU (oH k r)from rfl]
  generalize oH k r=q;unfold zU;by_cases h:iZ .u32 q 1=1
  ·rw[if_pos h];simp only[go_sem,cG,d1,d4,d5,h,hv,hL];rfl
  ·rw[if_neg h];simp only[go_sem,cG,d1,d4,d5,h,hv,hL];rfl
 ·right;have:k=8:=by omega
  subst this;simp only[go_sem,cG]
theorem Jj {L hp:List Blk}{v:V}{bs:List Int}(hv:RS ⟨L,hp⟩ 12 v (bs.map (.int .u8))) (hl:bs.length<1000) (r:Int):
 rf D io [.int .u32 r,v] ⟨L,hp⟩=some (.int .u32 (iT r bs),⟨L,hp⟩):=by
 have hsl:V.slen false v=some bs.length:=by
  have:=hv.slen
  rwa [List.length_map]at this
 have hvl:v.locLt L.length=true:=hv.locLt;have loop:rc D L.length (.loop [0,1,5] eo) [(0,.int .u32 r),(1,v),(5,.int .i64 0)] ⟨L,hp⟩=
  some (.exit 0,[(0,.int .u32 (iT r bs)),(1,v),(5,.int .i64 bs.length),(11,.bool false)],⟨L,hp⟩):=by
  have hend:iT r (bs.take bs.length)=iT r bs:=by rw[List.take_length]
  rw[←hend];refine bC (fun i:Nat=>[(0,.int .u32 (iT r (bs.take i))),(1,v),(5,.int .i64 i)]) (fun _=>⟨L,hp⟩) (fun _=>_) (fun i=>bs.length-i) (fun i=>i≤bs.length) 0 ?_ (by omega) rfl rfl;intro i hi;by_cases c1:i<bs.length
  ·left;have d1:(i:Int)<bs.length:=by omega
   have d4:IntKind.i64.wrap ((i:Int)+1)=(i:Int)+1:=ae (by omega) (by omega);have hg:=am (f:=V.int .u8) (l:=bs) (i:=i) c1 0;have hs:=hv.sadq hg (k:= .i64);have hld:ldv ⟨L,hp⟩ 12 (elq v i [] 12)=V.at [] (.int .u8 (bs.getD i 0)):=hv.ldq hg;have hin:=fun q=>Sa L hp v i q L.length hvl (by rw[List.drop_length];rfl);refine⟨i+1,by omega,by omega,rfl,?_⟩;rw[LJ c1];generalize iT r (bs.take i)=q at*;generalize bs.getD i 0=b at*;simp only[go_sem,eo,hsl,d1,hs,hld];simp only[go_sem,hin,d4,hvl];rfl
  ·right;have:i=bs.length:=by omega
   subst this;have d1:¬(bs.length:Int)<bs.length:=by omega
   simp only[go_sem,eo,hsl,d1]
 rw[ab te rfl];simp only[go_sem,loop]
theorem GV {L hp:List Blk}{v:V}{bs:List Int}(hv:RS ⟨L,hp⟩ 12 v (bs.map (.int .u8))) (hl:bs.length<1000):
 rf D lI [v] ⟨L,hp⟩=some (.int .u32 (fA (iT 4294967295 bs)),⟨L,hp⟩):=by
 have h:=Jj hv hl 4294967295;rw[ab xn rfl];simp only[fA]at*;simp only[go_sem,h]
def eO (l:List Int) (n:Nat) (j:Nat):Int:=if j<n then MV (l.getD (j/8) 0) (j%8)else 0
theorem Dp {l:List Int}(hl:l.length=8) (s:St):rf D jH [lnV l] s=some (.agg 108 (tab 64 fun j=> .int .u8 (eO l 64 j)),s):=by
 have hb0:(tab 64 fun j=>V.int .u8 (eO l 0 j))=List.replicate 64 (.int .u8 0):=by rw[co];apply bp;intro j _;unfold eO;rw[if_neg (by omega)]
 have loop:rc D s.loc.length (.loop [1,2,3,4] eU) [(1,.ptr (.loc s.loc.length) [] 24),(2,.ptr (.loc (s.loc.length+1)) [] 108),(3,.ptr (.loc (s.loc.length+2)) [] 108),(4,.int .i64 0)] ⟨s.loc++[.rw (lnV l),.rw (.agg 108 (List.replicate 64 (.int .u8 0))),.rw (.agg 108 (tab 64 fun j=> .int .u8 (eO l 0 j)))],s.hp⟩=
  some (.exit 0,[(1,.ptr (.loc s.loc.length) [] 24),(2,.ptr (.loc (s.loc.length+1)) [] 108),(3,.ptr (.loc (s.loc.length+2)) [] 108),(4,.int .i64 64),(7,.bool false)],⟨s.loc++[.rw (lnV l),.rw (.agg 108 (List.replicate 64 (.int .u8 0))),.rw (.agg 108 (tab 64 fun j=> .int .u8 (eO l 64 j)))],s.hp⟩):=by
  refine bC (fun i:Nat=>[(1,.ptr (.loc s.loc.length) [] 24),(2,.ptr (.loc (s.loc.length+1)) [] 108),(3,.ptr (.loc (s.loc.length+2)) [] 108),(4,.int .i64 i)]) (fun i=>⟨s.loc++[.rw (lnV l),.rw (.agg 108 (List.replicate 64 (.int .u8 0))),.rw (.agg 108 (tab 64 fun j=> .int .u8 (eO l i j)))],s.hp⟩) (fun _=>_) (fun i=>64-i) (fun i=>i≤64) 0 ?_ (by omega) rfl rfl;intro i hi;by_cases c1:i<64
  ·left;have d1:(i:Int)<64:=by omega
   have d2:(0:Int)≤i:=by omega
   have d4:IntKind.i64.wrap ((i:Int)+1)=(i:Int)+1:=ae (by omega) (by omega);have e1:(i:Int).tdiv 8=((i/8:Nat):Int):=by rw[show(8:Int)=((8:Nat):Int) by rfl,←Int.ofNat_tdiv]
   have e2:(i:Int).tmod 8=((i%8:Nat):Int):=by rw[show(8:Int)=((8:Nat):Int) by rfl,←Int.ofNat_tmod]
   have e3:IntKind.i64.wrap ((i/8:Nat):Int)=((i/8:Nat):Int):=ae (by omega) (by omega);have e5:IntKind.i64.wrap (8*((i%8:Nat):Int))=8*((i%8:Nat):Int):=ae (by omega) (by omega);have e6:¬(8*((i%8:Nat):Int))<0:=by omega
   have e7:((i/8:Nat):Int)<8:=by omega
   have e8:(0:Int)≤((i/8:Nat):Int):=by omega
   have g:=am (f:=V.int .u64) (l:=l) (i:=i/8) (by omega) 0;have g2:=av (f:=fun j=>V.int .u8 (eO l i j)) c1;have hup:(tab 64 fun j=>V.int .u8 (eO l i j)).set i (.int .u8 (IntKind.u8.wrap (gW .u64 (l.getD (i/8) 0) (8*((i%8:Nat):Int)))))=tab 64 fun j=>V.int .u8 (eO l (i+1) j):=by
    rw[dg];apply bp;intro j hj;unfold upd;by_cases e:j=i
    ·subst e;rw[if_pos rfl];unfold eO;rw[if_pos (by omega)];rfl
    ·rw[if_neg e];unfold eO;by_cases h:j<i
     ·show V.int .u8 _=V.int .u8 _;rw[if_pos h,if_pos (by omega)]
     ·show V.int .u8 _=V.int .u8 _;rw[if_neg h,if_neg (by omega)]
   have z1:s.loc.length<s.loc.length+3:=by omega
   have z3:s.loc.length+1<s.loc.length+3:=by omega
   have z4:s.loc.length+2<s.loc.length+3:=by omega
   refine⟨i+1,by omega,by omega,rfl,?_⟩;simp only[lnV]at*;rw[←hup];generalize(tab 64 fun j=>V.int .u8 (eO l i j))=T at*;generalize List.replicate 64 (V.int .u8 0)=T0 at*;generalize l.getD (i/8) 0=w at*;generalize i/8=p at*;generalize i%8=q at*;simp only[go_sem,eU,d1,d2,d4,e1,e2,e3,e5,e6,e7,e8,Zh,g,g2,z1,z3,z4];rfl
  ·right;have:i=64:=by omega
   subst this;simp only[lnV];simp only[go_sem,eU]
 rw[hb0]at loop;simp only[lnV]at*;rw[ab uW rfl];simp only[go_sem,loop]
def zM (l:List Int):List Int:=l.set 7 (ior .u64 (IntKind.u64.wrap (fA (iT 4294967295 ((List.range 56).map (eO l 64))))) 4294967296)
theorem lR {l:List Int}(hl:l.length=8) (s:St):rf D kC [lnV l] s=some (lnV (zM l),s):=by
 have hb:=fun L=>Dp hl ⟨s.loc++L,s.hp⟩;have hrs:RS ⟨s.loc++[.rw (lnV l),.rw (.agg 24 (List.replicate 8 (.int .u64 0))),.rw (.agg 108 (tab 64 fun j=> .int .u8 (eO l 64 j)))],s.hp⟩ 12 (.sl (.loc (s.loc.length+2)) [] 0 56 (some 64) 12) (((List.range 56).map (eO l 64)).map (.int .u8)):=by
  refine .inr ⟨.loc (s.loc.length+2),[],0,some 64,by simp,fun c hc=>by cases hc;simp,by simp[V.locLt],.inr ⟨108,tab 64 fun j=> .int .u8 (eO l 64 j),?_,fun j x hx=> ?_⟩⟩
  ·simp only[go_sem]
  ·have hj:j<56:=by have:=(List.getElem?_eq_some_iff.1 hx).1;simpa using this
   rw[Nat.zero_add,av (by omega)];simpa[hj]using hx
 have hm:=GV hrs (by simp);have g7:(l.map (V.int .u64))[7]?=some (.int .u64 (l.getD 7 0)):=am (by omega) 0;unfold zM;generalize(List.range 56).map (eO l 64)=bs at*;have hst:(l.map (V.int .u64)).set 7 (.int .u64 (ior .u64 (IntKind.u64.wrap (fA (iT 4294967295 bs))) 4294967296))=(l.set 7 (ior .u64 (IntKind.u64.wrap (fA (iT 4294967295 bs))) 4294967296)).map (.int .u64):=by rw[List.map_set]
 generalize fA (iT 4294967295 bs)=cc at*;simp only[lnV]at*;rw[←hst];generalize(tab 64 fun j=>V.int .u8 (eO l 64 j))=T at*;rw[ab vI rfl];simp only[go_sem,hb];simp only[go_sem,hm,g7]
def sq (e:Ent):Int:=((e.kind.toNat+e.ver.toNat*16+e.line.toNat*268435456:Nat):Int)
theorem xG (e:Ent) (s:St):rf D ki [e.v] s=some (.tup [.int .u64 (if cj e=true then sq e else 0),.int .i64 (if cj e=true then 0 else 1)],s):=by
 obtain⟨k,v,l⟩:=e;by_cases h1:k<0
 ·have hb:cj ⟨k,v,l⟩=false:=by unfold cj win;simp only;rw[decide_eq_false (show¬(0:Int)≤k by omega)];rfl
  rw[hb];simp only[Ent.v];rw[ab bK rfl];simp only[go_sem,h1]
 ·by_cases h2:k>4
  ·have hb:cj ⟨k,v,l⟩=false:=by unfold cj win;simp only;rw[decide_eq_false (show¬k≤4 by omega)];simp
   rw[hb];simp only[Ent.v];rw[ab bK rfl];simp only[go_sem,h1,h2]
  ·by_cases h3:v<0
   ·have hb:cj ⟨k,v,l⟩=false:=by unfold cj win;simp only;rw[decide_eq_false (show¬(0:Int)≤v by omega)];simp
    rw[hb];simp only[Ent.v];rw[ab bK rfl];simp only[go_sem,h1,h2,h3]
   ·by_cases h4:v>16777215
    ·have hb:cj ⟨k,v,l⟩=false:=by unfold cj win;simp only;rw[decide_eq_false (show¬v≤16777215 by omega)];simp
     rw[hb];simp only[Ent.v];rw[ab bK rfl];simp only[go_sem,h1,h2,h3,h4]
    ·by_cases h5:l<0
     ·have hb:cj ⟨k,v,l⟩=false:=by unfold cj win;simp only;rw[decide_eq_false (show¬(0:Int)≤l by omega)];simp
      rw[hb];simp only[Ent.v];rw[ab bK rfl];simp only[go_sem,h1,h2,h3,h4,h5]
     ·by_cases h6:l≥1024
      ·have hb:cj ⟨k,v,l⟩=false:=by unfold cj win;simp only;rw[decide_eq_false (show¬l≤1023 by omega)];simp
       rw[hb];simp only[Ent.v];rw[ab bK rfl];simp only[go_sem,h1,h2,h3,h4,h5,h6]
      ·have hw:win k 0 4=true∧win v 0 16777215=true∧win l 0 1023=true:=by unfold win;refine⟨?_,?_,?_⟩<;>(rw[Zj,Zi,Zi];omega)
       by_cases h7:k=0∧l≠0
       ·have hb:cj ⟨k,v,l⟩=false:=by unfold cj;simp only;rw[hw.1,hw.2.1,hw.2.2,h7.1];simp[h7.2]
        rw[hb];obtain⟨rfl,h8⟩:=h7;simp only[Ent.v];rw[ab bK rfl];simp only[go_sem,h3,h4,h5,h6,h8]
       ·have hb:cj ⟨k,v,l⟩=true:=by
         unfold cj;simp only;rw[hw.1,hw.2.1,hw.2.2];simp only[Bool.true_and,Bool.not_eq_true',Bool.and_eq_false_iff,decide_eq_false_iff_not];by_cases hk:k=0
         ·right;intro h;exact h7 ⟨hk,h⟩
         ·left;exact hk
        rw[hb];obtain⟨kn,rfl⟩:∃n:Nat,k=n:=⟨k.toNat,by omega⟩;obtain⟨vn,rfl⟩:∃n:Nat,v=n:=⟨v.toNat,by omega⟩;obtain⟨ln,rfl⟩:∃n:Nat,l=n:=⟨l.toNat,by omega⟩;have u:∀n:Nat,n<16777216→IntKind.u64.wrap (n:Int)=n:=fun n hn=>fL (by omega) (by omega);have w1:=fun s=>Df (w:=0) (a:=0) (b:=4) (v:=kn) (by decide) (by decide) (by decide) (by omega) s;have w2:=fun s=>Df (w:=kn) (a:=4) (b:=24) (v:=vn) (by decide) (by decide) (by omega) (by omega) s;have w3:=fun s=>Df (w:=kn+vn*16) (a:=28) (b:=16) (v:=ln) (by decide) (by decide) (by omega) (by omega) s;have u1:=u kn (by omega);have u2:=u vn (by omega);have u3:=u ln (by omega);have n7:¬((kn:Int)=0∧(ln:Int)≠0):=h7;simp only[if_true,sq,Zh];rw[show(0+kn*2^0:Nat)=kn by omega]at w1;rw[show(kn+vn*2^4:Nat)=kn+vn*16 by omega]at w2;rw[show(kn+vn*16+ln*2^28:Nat)=kn+vn*16+ln*268435456 by omega]at w3;rw[show((0:Nat):Int)=0 from rfl]at w1
        generalize kn+vn*16+ln*268435456=rr at*;generalize kn+vn*16=qq at*;have w1:∀s,rf D da [.int .u64 0,.int .i64 0,.int .i64 4,.int .u64 (kn:Int)] s=some (.tup [.int .u64 (kn:Int),.int .i64 0],s):=w1;have w2:∀s,rf D da [.int .u64 (kn:Int),.int .i64 4,.int .i64 24,.int .u64 (vn:Int)] s=some (.tup [.int .u64 (qq:Int),.int .i64 0],s):=w2;have w3:∀s,rf D da [.int .u64 (qq:Int),.int .i64 28,.int .i64 16,.int .u64 (ln:Int)] s=some (.tup [.int .u64 (rr:Int),.int .i64 0],s):=w3;simp only[Ent.v];rw[ab bK rfl];by_cases hk:(kn:Int)=0
        ·have hl:(ln:Int)=0:=by
          by_cases h:(ln:Int)=0
          ·exact h
          ·exact absurd ⟨hk,h⟩ n7
         rw[hk]at w1 w2 u1⊢;rw[hl]at w3 u3⊢;simp only[go_sem,h3,h4,u1,u2,u3,w1,w2,w3]
        ·simp only[go_sem,h1,h2,h3,h4,h5,h6,hk,u1,u2,u3,w1,w2,w3]
def mC (t:Nat→Ent) (k i:Nat):List Int:=(List.range 8).map fun j=>if j<i then sq (t (7*k+j))else 0
theorem Ik (t:Nat→Ent) (k i:Nat):(mC t k i).length=8:=by simp[mC]
theorem Qr {t:Nat→Ent}{k i:Nat}(hi:i<7):(mC t k i).set i (sq (t (7*k+i)))=mC t k (i+1):=by
 apply List.ext_getElem?;intro j;unfold mC;by_cases e:i=j
 ·subst e;rw[List.getElem?_set_self (by simp;omega)];simp[show i<8 by omega]
 ·rw[List.getElem?_set_ne e];simp only[List.getElem?_map];by_cases hj:j<8
  ·simp only[List.getElem?_range hj,Option.map_some];by_cases h:j<i
   ·rw[if_pos h,if_pos (by omega)]
   ·rw[if_neg h,if_neg (by omega)]
  ·rw[List.getElem?_eq_none (by simp;omega)];rfl
def CY (t:Nat→Ent) (k:Nat):List Int:=if kI t k 0 7=true then zM (mC t k 7)else zl
theorem CE (t:Nat→Ent) {k:Nat}(hk:k<7) (L hp:List Blk):∀(n i:Nat),i+n=7→∃r,
 rc D L.length (.loop [1,2,4,6,7] dY) [(1,.int .i64 k),(2,.ptr (.loc L.length) [] 48),(4,.ptr (.loc (L.length+1)) [] 24),(6,.ptr (.loc (L.length+2)) [] 24),(7,.int .i64 i)] ⟨L++[.rw (ac t),.rw (lnV zl),.rw (lnV (mC t k i))],hp⟩=some r∧
 ((kI t k i n=true∧r=(.exit 0,[(1,.int .i64 k),(2,.ptr (.loc L.length) [] 48),(4,.ptr (.loc (L.length+1)) [] 24),(6,.ptr (.loc (L.length+2)) [] 24),(7,.int .i64 7),(19,.bool false)],⟨L++[.rw (ac t),.rw (lnV zl),.rw (lnV (mC t k 7))],hp⟩))∨
  (kI t k i n=false∧∃X,r=(.ret,[(4,.ptr (.loc (L.length+1)) [] 24),(5,.int .i64 1)],⟨L++[.rw (ac t),.rw (lnV zl),X],hp⟩)))
 |0,i,hi=>by
  have:i=7:=by omega
  subst this;refine⟨_,?_,.inl ⟨rfl,rfl⟩⟩;rw[aa];simp only[ac,lnV];simp only[go_sem,dY]
 |n+1,i,hi=>by
  have d1:(i:Int)<7:=by omega
  have d2:(0:Int)≤i:=by omega
  have d3:(i:Int)<8:=by omega
  have d4:IntKind.i64.wrap ((i:Int)+1)=((i+1:Nat):Int):=ae (by omega) (by omega);have e1:IntKind.i64.wrap (7*(k:Int))=7*k:=ae (by omega) (by omega);have e3:IntKind.i64.wrap (7*(k:Int)+i)=((7*k+i:Nat):Int):=by rw[ae (by omega) (by omega)];omega
  have e5:((7*k+i:Nat):Int)<49:=by omega
  have e6:(0:Int)≤((7*k+i:Nat):Int):=by omega
  have g1:=av (f:=fun j=>(t j).v) (show 7*k+i<49 by omega);have hw:=fun s=>xG (t (7*k+i)) s;have g2:((mC t k i).map (V.int .u64))[i]?=some (.int .u64 ((mC t k i).getD i 0)):=am (by rw[Ik];omega) 0;have z1:L.length<L.length+3:=by omega
  have z3:L.length+1<L.length+3:=by omega
  have z4:L.length+2<L.length+3:=by omega
  rw[Ak];cases hb:cj (t (7*k+i))
  ·refine⟨_,?_,.inr ⟨by rw[Bool.false_and],.rw (lnV (mC t k i)),rfl⟩⟩;rw[hb]at hw;simp only[Bool.false_eq_true,if_false]at hw;have hz:(zl.map (V.int .u64))=List.replicate 8 (.int .u64 0):=rfl;rw[aa];simp only[ac,lnV,Ent.v,hz]at*;generalize(tab 49 fun j=>V.agg 42 [.int .i64 (t j).kind,.int .i64 (t j).ver,.int .i64 (t j).line])=T at*;generalize 7*k+i=p at*;generalize(mC t k i).map (V.int .u64)=LF at*;simp only[go_sem,dY,d1,e1,e3,e5,e6,Zh,g1,hw]
  ·obtain⟨r,q1,q2⟩:=CE t hk L hp n (i+1) (by omega);refine⟨r,?_,by rw[Bool.true_and];exact q2⟩;rw[hb]at hw;simp only[if_true]at hw;have hs:((mC t k i).map (V.int .u64)).set i (.int .u64 (sq (t (7*k+i))))=(mC t k (i+1)).map (V.int .u64):=by rw[←Qr (by omega),List.map_set]
   rw[←q1,aa];simp only[ac,lnV,Ent.v]at*;rw[←hs];generalize(tab 49 fun j=>V.agg 42 [.int .i64 (t j).kind,.int .i64 (t j).ver,.int .i64 (t j).line])=T at*;generalize sq (t (7*k+i))=w at*;generalize 7*k+i=p at*;generalize(mC t k i).map (V.int .u64)=LF at*;generalize(mC t k i).getD i 0=w0 at*;simp only[go_sem,dY,d1,d2,d3,d4,e1,e3,e5,e6,Zh,g1,g2,hw,z1,z3,z4]
theorem Ff (t:Nat→Ent) {k:Nat}(hk:k<7) (s:St):rf D gH [ac t,.int .i64 k] s=some (.tup [lnV (CY t k),.int .i64 (if kI t k 0 7=true then 0 else 1)],s):=by
 obtain⟨r,q1,q2⟩:=CE t hk s.loc s.hp 7 0 rfl;have d1:¬(k:Int)<0:=by omega
 have d2:¬(k:Int)≥7:=by omega
 have h0:mC t k 0=zl:=rfl;rw[show((0:Nat):Int)=0 from rfl,h0]at q1
 have hseal:=fun s=>lR (Ik t k 7) s;have hz:(zl.map (V.int .u64))=List.replicate 8 (.int .u64 0):=rfl;unfold CY;rcases q2 with⟨c,rfl⟩|⟨c,X,rfl⟩
 ·rw[c,if_pos rfl,if_pos rfl];simp only[ac,lnV,hz]at*;rw[ab pd rfl];simp only[go_sem,d1,d2,q1];simp only[go_sem,hseal]
 ·rw[c,if_neg (by simp),if_neg (by simp)];simp only[ac,lnV,hz]at*;rw[ab pd rfl];simp only[go_sem,d1,d2,q1]
def kU (d:Nat→Int) (i:Nat):List Int:=(List.range 8).map fun j=>if j<i then ior .u64 (IntKind.u64.wrap (d j)) 4294967296 else 0
theorem Gj (d:Nat→Int) (i:Nat):(kU d i).length=8:=by simp[kU]
theorem Pc {d:Nat→Int}{i:Nat}(hi:i<7):(kU d i).set i (ior .u64 (IntKind.u64.wrap (d i)) 4294967296)=kU d (i+1):=by
 apply List.ext_getElem?;intro j;unfold kU;by_cases e:i=j
 ·subst e;rw[List.getElem?_set_self (by simp;omega)];simp[show i<8 by omega]
 ·rw[List.getElem?_set_ne e];simp only[List.getElem?_map];by_cases hj:j<8
  ·simp only[List.getElem?_range hj,Option.map_some];by_cases h:j<i
   ·rw[if_pos h,if_pos (by omega)]
   ·rw[if_neg h,if_neg (by omega)]
  ·rw[List.getElem?_eq_none (by simp;omega)];rfl
def Cs (d:Nat→Int):List Int:=if cZ d 0 7=true then zM (kU d 7)else zl
theorem Cy (d:Nat→Int) (L hp:List Blk):∀(n i:Nat),i+n=7→∃r,
 rc D L.length (.loop [1,2,4,5] cJ) [(1,.ptr (.loc L.length) [] 60),(2,.ptr (.loc (L.length+1)) [] 24),(4,.ptr (.loc (L.length+2)) [] 24),(5,.int .i64 i)] ⟨L++[.rw (d7V d),.rw (lnV zl),.rw (lnV (kU d i))],hp⟩=some r∧
 ((cZ d i n=true∧r=(.exit 0,[(1,.ptr (.loc L.length) [] 60),(2,.ptr (.loc (L.length+1)) [] 24),(4,.ptr (.loc (L.length+2)) [] 24),(5,.int .i64 7),(8,.bool false)],⟨L++[.rw (d7V d),.rw (lnV zl),.rw (lnV (kU d 7))],hp⟩))∨
  (cZ d i n=false∧∃X,r=(.ret,[(2,.ptr (.loc (L.length+1)) [] 24),(3,.int .i64 1)],⟨L++[.rw (d7V d),.rw (lnV zl),X],hp⟩)))
 |0,i,hi=>by
  have:i=7:=by omega
  subst this;refine⟨_,?_,.inl ⟨rfl,rfl⟩⟩;rw[aa];simp only[d7V,lnV];simp only[go_sem,cJ]
 |n+1,i,hi=>by
  have d1:(i:Int)<7:=by omega
  have d2:(0:Int)≤i:=by omega
  have d3:(i:Int)<8:=by omega
  have d4:IntKind.i64.wrap ((i:Int)+1)=((i+1:Nat):Int):=ae (by omega) (by omega);have g1:=av (f:=fun j=>V.int .i64 (d j)) (show i<7 by omega);have g2:((kU d i).map (V.int .u64))[i]?=some (.int .u64 ((kU d i).getD i 0)):=am (by rw[Gj];omega) 0;have z1:L.length<L.length+3:=by omega
  have z3:L.length+1<L.length+3:=by omega
  have z4:L.length+2<L.length+3:=by omega
  have hs:((kU d i).map (V.int .u64)).set i (.int .u64 (ior .u64 (IntKind.u64.wrap (d i)) 4294967296))=(kU d (i+1)).map (V.int .u64):=by rw[←Pc (by omega),List.map_set]
  rw[Aq];by_cases h0:d i<0
  ·refine⟨_,?_,.inr ⟨by rw[decide_eq_false (show¬0≤d i by omega)];rfl,.rw (lnV (kU d i)),rfl⟩⟩;have hz:(zl.map (V.int .u64))=List.replicate 8 (.int .u64 0):=rfl;rw[aa];simp only[d7V,lnV,hz]at*;generalize(tab 7 fun j=>V.int .i64 (d j))=T at*;generalize(kU d i).map (V.int .u64)=LF at*;simp only[go_sem,cJ,d1,d2,Zh,g1,h0]
  ·by_cases h1:d i<1024
   ·obtain⟨r,q1,q2⟩:=Cy d L hp n (i+1) (by omega);refine⟨r,?_,by rw[decide_eq_true (show 0≤d i by omega),decide_eq_true h1];exact q2⟩;have h1':¬d i≥1024:=by omega
    rw[←q1,aa];simp only[d7V,lnV]at*;rw[←hs];generalize(tab 7 fun j=>V.int .i64 (d j))=T at*;generalize(kU d i).map (V.int .u64)=LF at*;generalize(kU d i).getD i 0=w0 at*;generalize d i=di at*;simp only[go_sem,cJ,d1,d2,d3,d4,Zh,g1,g2,h0,h1',z1,z3,z4]
   ·refine⟨_,?_,.inr ⟨by rw[decide_eq_false h1,Bool.and_false];rfl,.rw (lnV (kU d i)),rfl⟩⟩;have hz:(zl.map (V.int .u64))=List.replicate 8 (.int .u64 0):=rfl;have h1':d i≥1024:=by omega
    rw[aa];simp only[d7V,lnV,hz]at*;generalize(tab 7 fun j=>V.int .i64 (d j))=T at*;generalize(kU d i).map (V.int .u64)=LF at*;generalize d i=di at*;simp only[go_sem,cJ,d1,d2,Zh,g1,h0,h1']
theorem xE (d:Nat→Int) (s:St):rf D gJ [d7V d] s=some (.tup [lnV (Cs d),.int .i64 (if cZ d 0 7=true then 0 else 1)],s):=by
 obtain⟨r,q1,q2⟩:=Cy d s.loc s.hp 7 0 rfl;have h0:kU d 0=zl:=rfl;rw[show((0:Nat):Int)=0 from rfl,h0]at q1
 have hseal:=fun s=>lR (Gj d 7) s;have hz:(zl.map (V.int .u64))=List.replicate 8 (.int .u64 0):=rfl;unfold Cs;rcases q2 with⟨c,rfl⟩|⟨c,X,rfl⟩
 ·rw[c,if_pos rfl,if_pos rfl];simp only[d7V,lnV,hz]at*;rw[ab po rfl];simp only[go_sem,q1];simp only[go_sem,hseal]
 ·rw[c,if_neg (by simp),if_neg (by simp)];simp only[d7V,lnV,hz]at*;rw[ab po rfl];simp only[go_sem,q1]
structure Cll where
 kind:Int
 id:Int
 word:Int
 v:Int
structure Cll.Ok (o:Cll):Prop where
 k:-9223372036854775808≤o.kind∧o.kind≤9223372036854775807
 i:-9223372036854775808≤o.id∧o.id≤9223372036854775807
 w:-9223372036854775808≤o.word∧o.word≤9223372036854775807
 u:0≤o.v∧o.v≤18446744073709551615
section
variable {M : AM}
theorem jv (h:M.On):M.stepped.On:=⟨h.off,by unfold AM.stepped;simp only;rw[if_neg (by rw[h.left];decide)];exact h.left⟩
theorem wX (h:M.On) {i:Int}(h0:0≤i) (h1:i<M.n):M.flush 0 i=(M.stepped.flushed 0 i.toNat,0)∧(M.stepped.flushed 0 i.toNat).On∧∀j,(M.stepped.flushed 0 i.toNat).now j=M.now j:=by refine⟨?_,⟨(jv h).off,(jv h).left⟩,fun j=>AM.now_flushed⟩;unfold AM.flush;rw[if_neg (by omega),if_neg (by rw[h.dead];decide)];rfl
theorem Bs (h:M.On):M.fence 0=(M.stepped.fencedTo 0 M.n,0)∧(M.stepped.fencedTo 0 M.n).On∧∀j,(M.stepped.fencedTo 0 M.n).now j=M.now j:=by obtain⟨_,_,e3,e4⟩:=bJ (M:=M.stepped) (c:=0) M.n;refine⟨?_,⟨e3.trans (jv h).off,e4.trans (jv h).left⟩,fun j=>tG M.n⟩;unfold AM.fence;rw[if_neg (by omega),if_neg (by rw[h.dead];decide)];rfl
theorem BB (h:M.Ok):(M.stepped.fencedTo 0 M.n).Ok∧(M.stepped.fencedTo 0 M.n).n=M.n∧(M.stepped.fencedTo 0 M.n).count=M.count+1:=by obtain⟨e1,e2,_,_⟩:=bJ (M:=M.stepped) (c:=0) M.n;exact⟨rC h.stepped _,e1,e2⟩
theorem UV (ok:M.Ok) (h:M.On) {s:Nat}(hs:s=0∨s=1) {b:Sup}(hb:b.ok=true):
 (M.wrs s b).2=0∧(M.wrs s b).1.Ok∧(M.wrs s b).1.On∧(M.wrs s b).1.n=M.n∧(M.wrs s b).1.count≤M.count+12∧∀j,j≠s→(M.wrs s b).1.now j=M.now j:=by
 have hn:=ok.n0;obtain⟨e1,e2,e3⟩:=uC h (i:=s) (q:=7) (by omega) (by decide) 0;have e1:(M.store (s:Int) 7 0).2=0:=e1;have e2:(M.store (s:Int) 7 0).1.On:=e2;have e3:∀j,(M.store (s:Int) 7 0).1.now j=if j=s then(M.now j).set 7 0 else M.now j:=e3
 have n1:(M.store (s:Int) 7 0).1.n=M.n:=AM.store_n;have c1:(M.store (s:Int) 7 0).1.count≤M.count+1:=AM.store_count;have o1:(M.store (s:Int) 7 0).1.Ok:=ok.store;obtain⟨f1,f2,f3⟩:=Oz o1 e2 (at':=s) (qT b) (by omega);have n2:((M.store (s:Int) 7 0).1.layFrom s (aH b) 0 8).1.n=_:=AM.layFrom_n;have c2:=AM.layFrom_count (M:=(M.store (s:Int) 7 0).1) (at':=s) (l:=aH b) (n:=8) (j:=0);have o2:((M.store (s:Int) 7 0).1.layFrom s (aH b) 0 8).1.Ok:=o1.layFrom;unfold AM.wrs;rw[if_neg (by rw[hb];simp;omega),if_neg (fun hh=>hh e1)];simp only;rw[if_neg (fun hh=>hh f1)];obtain⟨g1,g2,g3⟩:=wX f2 (i:=(s:Int)) (by omega) (by rw[n2,n1];omega);rw[g1,if_neg (by simp)];simp only;have o3:(AM.stepped ((M.store (s:Int) 7 0).1.layFrom s (aH b) 0 8).1|>.flushed 0 (s:Int).toNat).Ok:=o2.stepped.flushed _ _;obtain⟨k1,k2,k3⟩:=Bs g2;obtain⟨o4,n4,c4⟩:=BB o3;rw[k1];refine⟨rfl,o4,k2,?_,?_,fun j hj=> ?_⟩
 ·rw[n4];exact n2.trans n1
 ·rw[c4];have:((AM.stepped ((M.store (s:Int) 7 0).1.layFrom s (aH b) 0 8).1).flushed 0 (s:Int).toNat).count=((M.store (s:Int) 7 0).1.layFrom s (aH b) 0 8).1.count+1:=rfl;omega
 ·simp only;rw[k3,g3,f3,if_neg hj,e3,if_neg hj]
end
structure RB (n:Nat) (p:Nat×Int):Prop where
 k:p.1≤3
 l:p.1=0→0≤p.2∧p.2<n
 f:p.1=1→0≤p.2∧p.2<7
def wrN (p:Nat×Int):Nat:=if p.1=1∨p.1=2 then 1 else 0
structure Mid (x0:AS) (b:Sup) (sl seq:Int) (w:AW):Prop where
 inv:Inv w.x
 on:w.x.M.On
 base:w.x.base=x0.base
 mark:w.x.mark=x0.work
 is:w.x.is=true
 dir:w.x.dir=x0.dir
 n:w.x.M.n=x0.M.n
 f:w.x.A.f=10
 now:∀j:Nat,w.x.sh j=true→w.x.M.now j=x0.M.now j
 tbl:w.tbl=x0.work
 b:w.b=b
 sl:w.slot=sl
 seq:w.seq=seq
 d7:0≤w.dir 7∧w.dir 7≤1023
 st:∃S,w.st=S++[(4,0)]∧∀p∈S,RB x0.M.n p
theorem Ly {x0:AS}{b:Sup}{sl seq:Int}{w:AW}(h:Mid x0 b sl seq w) {l:List Int}(hl:l.length=8) {q:Nat}(hq:q<8):
 (w.x.A.left=0∧w.write l q=(w,10))∨∃k M,w.x.A.f≤k∧k<w.x.A.l∧w.x.A.st k=0∧w.write l q=({w with x:={w.x with M:=M,A:=w.x.A.put k 1},dir:=upd w.dir q (k:Int)},0)∧
  M.Ok∧M.On∧M.n=w.x.M.n∧M.count≤w.x.M.count+9∧∀i,M.now i=if i=k then l else w.x.M.now i:=by
 rcases GF h.inv.ok h.on hl with⟨e1,e2⟩|⟨k,M,h1,h2,h3,e,h4,h5,h6,h7⟩
 ·left;refine⟨e1,?_⟩;unfold AW.write;rw[e2,if_pos (by simp)]
 ·right;have hc:=AS.lay_count (x:=w.x) l;rw[e]at hc;have hln:=h.inv.ok.l;obtain⟨g1,g2,g3⟩:=wX h5 (i:=(k:Int)) (by omega) (by omega);refine⟨k,(M.stepped.flushed 0 (k:Int).toNat),h1,h2,h3,?_,h4.stepped.flushed _ _,g2,h6,?_,fun i=>by rw[g3,h7]⟩
  ·unfold AW.write;rw[e];simp only[ne_eq,not_true_eq_false,if_false,g1]
  ·have:(M.stepped.flushed 0 (k:Int).toNat).count=M.count+1:=rfl;simp only at hc;omega
theorem Mid.step {x0:AS}{b:Sup}{sl seq:Int}{w:AW}(h:Mid x0 b sl seq w) {p:Nat×Int}{r:List (Nat×Int)}(hw:w.st=p::r) (hr:r≠[]):
 (∃w',w.step=(w',false,0)∧Mid x0 b sl seq w'∧w'.st=r∧w'.x.work=w.x.work∧w'.x.A.left+wrN p=w.x.A.left∧w'.x.M.count≤w.x.M.count+12∧∀j,w.x.A.st j=1→w'.x.M.now j=w.x.M.now j)∨
 (w.x.A.left=0∧wrN p=1∧w.step=({w with x:=w.x.abort.1,st:=[]},false,10)):=by
 obtain⟨S,e1,e2⟩:=h.st;obtain⟨S',rfl⟩:∃S',S=p::S':=by
  cases S with
  |nil=>
   rw[e1]at hw;simp only[List.nil_append,List.cons.injEq]at hw;exact absurd hw.2.symm hr
  |cons p' S'=>
   rw[e1]at hw;simp only[List.cons_append,List.cons.injEq]at hw;rw[hw.1];exact⟨S',rfl⟩
 have er:r=S'++[(4,0)]:=by rw[e1]at hw;simp only[List.cons_append,List.cons.injEq]at hw;exact hw.2.symm
 have hp:=e2 p List.mem_cons_self;have hS:∀q∈S',RB x0.M.n q:=fun q hq=>e2 q (List.mem_cons_of_mem _ hq);have hd:decide (r=[])=false:=decide_eq_false hr;have ok:=h.inv.ok;have memo:∀M:AM,M.Ok→M.On→M.n=w.x.M.n→M.count≤w.x.M.count+12→(∀j,M.now j=w.x.M.now j)→w.doStep p=({w with x:={w.x with M:=M}},0)→wrN p=0→
  ∃w',w.step=(w',false,0)∧Mid x0 b sl seq w'∧w'.st=r∧w'.x.work=w.x.work∧w'.x.A.left+wrN p=w.x.A.left∧w'.x.M.count≤w.x.M.count+12∧∀j,w.x.A.st j=1→w'.x.M.now j=w.x.M.now j:=by
  intro M h1 h2 h3 h4 h5 h6 h7;refine⟨{w with x:={w.x with M:=M},st:=r},?_,⟨h.inv.withM h1 h3,h2,h.base,h.mark,h.is,h.dir,h3.trans h.n,h.f,fun j hj=> ?_,h.tbl,h.b,h.sl,h.seq,h.d7,S',er,hS⟩,rfl,rfl,?_,h4,fun j _=>h5 j⟩
  ·unfold AW.step;rw[hw];simp only[h6,hd,if_true]
  ·simp only;rw[h5];exact h.now j hj
  ·rw[h7];rfl
 have wrt:∀(l:List Int) (q:Nat),l.length=8→q<8→w.doStep p=w.write l q→wrN p=1→
  (∃w',w.step=(w',false,0)∧Mid x0 b sl seq w'∧w'.st=r∧w'.x.work=w.x.work∧w'.x.A.left+wrN p=w.x.A.left∧w'.x.M.count≤w.x.M.count+12∧∀j,w.x.A.st j=1→w'.x.M.now j=w.x.M.now j)∨
  (w.x.A.left=0∧wrN p=1∧w.step=({w with x:=w.x.abort.1,st:=[]},false,10)):=by
  intro l q hl hq h6 h7;rcases Ly h hl hq with⟨g1,g2⟩|⟨k,M,k1,k2,k3,k4,k5,k6,k7,k8,k9⟩
  ·right;refine⟨g1,h7,?_⟩;unfold AW.step;rw[hw];simp only[h6,g2];rw[if_neg (by decide),if_pos trivial]
  ·left;have hlp:=AF.left_put (A:=w.x.A) (k:=k) (x:=1) k1 k2;rw[if_pos k3,if_neg (by decide)]at hlp;have hiv:Inv {w.x with M:=M,A:=w.x.A.put k 1}:=(h.inv.taken k3).withM k5 k7;have hne:∀j,w.x.A.st j=1→j≠k:=fun j hj e=>by rw[e,k3]at hj;cases hj
   refine⟨{w with x:={w.x with M:=M,A:=w.x.A.put k 1},dir:=upd w.dir q (k:Int),st:=r},?_,⟨hiv,k6,h.base,h.mark,h.is,h.dir,k7.trans h.n,h.f,fun j hj=> ?_,h.tbl,h.b,h.sl,h.seq,?_,S',er,hS⟩,rfl,rfl,?_,?_,fun j hj=> ?_⟩
   ·unfold AW.step;rw[hw];simp only[h6,k4,hd,if_true]
   ·have hj:w.x.sh j=true:=hj;simp only;rw[k9,if_neg (hne j (h.inv.s1 j hj))];exact h.now j hj
   ·have:=h.inv.ok.A.l1;simp only[upd];split
    ·omega
    ·exact h.d7
   ·simp only;omega
   ·simp only;omega
   ·simp only;rw[k9,if_neg (hne j hj)]
 obtain⟨c,n⟩:=p;have hk:=hp.k;simp only at hk
 match c,hp,memo,wrt with
 |0,hp,memo,_=>
  left;have:=hp.l rfl;obtain⟨g1,g2,g3⟩:=wX h.on (i:=n) this.1 (by rw[h.n];exact this.2);exact memo _ (ok.M.stepped.flushed _ _) g2 rfl (by show w.x.M.count+1≤_;omega) g3 (by unfold AW.doStep;simp only[g1]) rfl
 |1,hp,_,wrt=>
  have:=hp.f rfl;simp only at this;exact wrt _ n.toNat (px _ _) (by omega) rfl rfl
 |2,_,_,wrt=>exact wrt _ 7 (pk _) (by decide) rfl rfl
 |3,_,memo,_=>
  left;obtain⟨g1,g2,g3⟩:=Bs h.on;obtain⟨o1,o2,o3⟩:=BB ok.M;exact memo _ o1 g2 o2 (by omega) g3 (by unfold AW.doStep;simp only[g1]) rfl
end Go.Proofs.YtilcajpldklbiaaGreatDoor
