/-
  YtilcajpldklbiaaGreatDoorT9: what functions of the program compute (SrtA, SrtB, SrtC, SrtD, SrtE, FvQ, FvR).
-/
import Derived.Test.YtilcajpldklbiaaGreatDoorT6
import Derived.Test.YtilcajpldklbiaaGreatDoorT8
import Derived.Test.YtilcajpldklbiaaGreatDoorT7
import Derived.Test.YtilcajpldklbiaaGreatDoorT5
set_option maxRecDepth 100000
namespace Go.Proofs.YtilcajpldklbiaaGreatDoor
open Go.Ab
def byS (k:Int) (l:List Rec):List Rec:=l.filter fun r=>decide (r.seq=k)
theorem me {k:Int}{a b:List Rec}:byS k (a++b)=byS k a++byS k b:=List.filter_append _ _
theorem qZ {k:Int}{l:List Rec}(h:∀x∈l,x.seq≠k):byS k l=[]:=by unfold byS;rw[List.filter_eq_nil_iff];intro x hx;simpa using h x hx
theorem ng {k:Int}{l:List Rec}{x:Rec}:x∈byS k l↔x∈l∧x.seq=k:=by unfold byS;rw[List.mem_filter,Zi]
structure Mg (l C:List Rec):Prop where
 srt:Srt C
 fl:∀k,byS k C=byS k l
theorem Mg.mem {l C:List Rec}(h:Mg l C) {x:Rec}:x∈C↔x∈l:=by
 have:=ng (k:=x.seq) (l:=C) (x:=x);have h2:=ng (k:=x.seq) (l:=l) (x:=x);rw[h.fl]at this;rw[this]at h2;constructor
 ·exact fun hx=>(h2.1 ⟨hx,rfl⟩).1
 ·exact fun hx=>(h2.2 ⟨hx,rfl⟩).1
theorem FU:∀{C C':List Rec},Srt C→Srt C'→(∀k,byS k C=byS k C')→C=C'
 |[],C',_,_,h=>by
  cases C' with
  |nil=>rfl
  |cons y C'=>
   have:=h y.seq;have hy:y∈byS y.seq (y::C'):=ng.2 ⟨List.mem_cons_self,rfl⟩;rw[←this]at hy;cases hy
 |x::C,C',h1,h2,h=>by
  cases C' with
  |nil=>
   have hx:x∈byS x.seq (x::C):=ng.2 ⟨List.mem_cons_self,rfl⟩;rw[h x.seq]at hx;cases hx
  |cons y C'=>
   obtain⟨a1,a2⟩:=List.pairwise_cons.1 h1;obtain⟨b1,b2⟩:=List.pairwise_cons.1 h2;have hx:x∈byS x.seq (y::C'):=by rw[←h];exact ng.2 ⟨List.mem_cons_self,rfl⟩
   have hy:y∈byS y.seq (x::C):=by rw[h];exact ng.2 ⟨List.mem_cons_self,rfl⟩
   have e1:x.seq≤y.seq:=by
    rcases List.mem_cons.1 (ng.1 hy).1 with e|e
    ·rw[e];exact Int.le_refl _
    ·exact a1 y e
   have e2:y.seq≤x.seq:=by
    rcases List.mem_cons.1 (ng.1 hx).1 with e|e
    ·rw[e];exact Int.le_refl _
    ·exact b1 x e
   have e3:y.seq=x.seq:=by omega
   have hh:=h x.seq;unfold byS at hh;rw[List.filter_cons_of_pos (by simp),List.filter_cons_of_pos (by simp[e3])]at hh;have exy:x=y:=(List.cons.inj hh).1;subst exy;rw[FU a2 b2 fun k=> ?_];have hk:=h k;unfold byS at hk⊢;by_cases c:x.seq=k
   ·rw[List.filter_cons_of_pos (by simp[c]),List.filter_cons_of_pos (by simp[c])]at hk;exact(List.cons.inj hk).2
   ·rw[List.filter_cons_of_neg (by simp[c]),List.filter_cons_of_neg (by simp[c])]at hk;exact hk
theorem Gl {k:Int}{r:Rec}:∀{s:List Rec},Srt s→byS k (fO r s)=byS k s++byS k [r]
 |[],_=>rfl
 |x::s,h=>by
  obtain⟨h1,h2⟩:=List.pairwise_cons.1 h;simp only[fO];by_cases c:x.seq≤r.seq
  ·rw[if_pos c];have:=Gl (k:=k) (r:=r) h2;rw[show x::fO r s=[x]++fO r s from rfl,me,this,←List.append_assoc,←me]
   rfl
  ·rw[if_neg c,show r::x::s=[r]++(x::s)from rfl,me]
   by_cases e:r.seq=k
   ·have:byS k (x::s)=[]:=qZ fun y hy=>by
     rcases List.mem_cons.1 hy with rfl|hy
     ·omega
     ·have:=h1 y hy;omega
    rw[this,List.append_nil];rfl
   ·have:byS k [r]=[]:=qZ fun y hy=>by rw[List.mem_singleton.1 hy];exact e
    rw[this,List.append_nil];rfl
theorem Cz {k:Int}:∀(u:List Rec) {s:List Rec},Srt s→byS k (mS s u)=byS k s++byS k u
 |[],s,_=>by rw[show byS k []=[]from rfl,List.append_nil];rfl
 |r::u,s,h=>by show byS k (mS (fO r s) u)=_;rw[Cz u (tZ h),Gl h,List.append_assoc,←me];rfl
theorem AI (l:List Rec):Mg l (bD l):=⟨uK l,fun k=>by unfold bD;rw[Cz l .nil];rfl⟩
theorem Mg.eq_sortR {l C:List Rec}(h:Mg l C):C=bD l:=FU h.srt (uK l) fun k=>by rw[h.fl,(AI l).fl]
theorem UH {A1 A2 B1 B2 C1 C2:List Rec}(hA:Srt (A1++A2)) (hB:Srt (B1++B2)) (h1:∀x∈A1,∀y∈B2,x.seq≤y.seq) (h2:∀x∈B1,∀y∈A2,x.seq<y.seq) (m1:Mg (A1++B1) C1) (m2:Mg (A2++B2) C2):Mg ((A1++A2)++(B1++B2)) (C1++C2):=by
 obtain⟨_,_,a⟩:=List.pairwise_append.1 hA;obtain⟨_,_,b⟩:=List.pairwise_append.1 hB;refine⟨List.pairwise_append.2 ⟨m1.srt,m2.srt,fun x hx y hy=> ?_⟩,fun k=> ?_⟩
 ·rcases List.mem_append.1 (m1.mem.1 hx)with hx|hx<;>rcases List.mem_append.1 (m2.mem.1 hy)with hy|hy
  ·exact a x hx y hy
  ·exact h1 x hx y hy
  ·exact Int.le_of_lt (h2 x hx y hy)
  ·exact b x hx y hy
 ·rw[me,m1.fl,m2.fl];simp only[me,List.append_assoc];congr 1;rw[←List.append_assoc,←List.append_assoc];congr 1;by_cases e:byS k B1=[]
  ·rw[e,List.append_nil];rfl
  ·have:byS k A2=[]:=qZ fun y hy e'=>by obtain⟨x,hx⟩:=List.exists_mem_of_ne_nil _ e;obtain⟨hx1,hx2⟩:=ng.1 hx;have:=h2 x hx1 y hy;omega
   rw[this,List.append_nil];rfl
theorem J3 {A:List Rec}(h:Srt A):Mg A A:=⟨h,fun _=>rfl⟩
theorem V9 {A B:List Rec}{x:Rec}(hB:Srt (A++B)) (h1:∀y∈A,y.seq<x.seq) (h2:∀y∈B,x.seq≤y.seq):Mg (x::(A++B)) (A++x::B):=by
 obtain⟨a,b,c⟩:=List.pairwise_append.1 hB;refine⟨List.pairwise_append.2 ⟨a,List.pairwise_cons.2 ⟨h2,b⟩,fun y hy z hz=> ?_⟩,fun k=> ?_⟩
 ·rcases List.mem_cons.1 hz with rfl|hz
  ·exact Int.le_of_lt (h1 y hy)
  ·exact c y hy z hz
 ·rw[show x::(A++B)=[x]++(A++B)from rfl,show x::B=[x]++B from rfl]
  simp only[me];rw[←List.append_assoc,←List.append_assoc];congr 1;by_cases e:x.seq=k
  ·have:byS k A=[]:=qZ fun y hy e'=>by have:=h1 y hy;omega
   rw[this,List.append_nil];rfl
  ·have:byS k [x]=[]:=qZ fun y hy=>by rw[List.mem_singleton.1 hy];exact e
   rw[this,List.append_nil];rfl
theorem SE {A B:List Rec}{x:Rec}(hA:Srt (A++B)) (h1:∀y∈A,y.seq≤x.seq) (h2:∀y∈B,x.seq<y.seq):Mg (A++B++[x]) (A++x::B):=by
 obtain⟨a,b,c⟩:=List.pairwise_append.1 hA;refine⟨List.pairwise_append.2 ⟨a,List.pairwise_cons.2 ⟨fun y hy=>Int.le_of_lt (h2 y hy),b⟩,fun y hy z hz=> ?_⟩,fun k=> ?_⟩
 ·rcases List.mem_cons.1 hz with rfl|hz
  ·exact h1 y hy
  ·exact c y hy z hz
 ·rw[show x::B=[x]++B from rfl]
  simp only[me,List.append_assoc];congr 1;by_cases e:x.seq=k
  ·have:byS k B=[]:=qZ fun y hy e'=>by have:=h2 y hy;omega
   rw[this,List.append_nil];rfl
  ·have:byS k [x]=[]:=qZ fun y hy=>by rw[List.mem_singleton.1 hy];exact e
   rw[this,List.append_nil];rfl
def bsK (f:Nat→Bool):Nat→Nat→Nat→Nat
 |0,i,_=>i
 |n+1,i,j=>if i<j then(if f ((i+j)/2)=true then bsK f n ((i+j)/2+1) j else bsK f n i ((i+j)/2))else i
theorem ul {f:Nat→Bool}:∀(n i j:Nat),i≤j→j-i≤n→i≤bsK f n i j∧bsK f n i j≤j∧(bsK f n i j=i∨f (bsK f n i j-1)=true)∧(bsK f n i j=j∨f (bsK f n i j)=false)
 |0,i,j,h1,h2=>⟨Nat.le_refl _,h1,.inl rfl,.inl (by simp only[bsK];omega)⟩
 |n+1,i,j,h1,h2=>by
  unfold bsK;by_cases c:i<j
  ·rw[if_pos c];by_cases hf:f ((i+j)/2)=true
   ·rw[if_pos hf];obtain⟨a,b,d,e⟩:=ul (f:=f) n ((i+j)/2+1) j (by omega) (by omega);refine⟨by omega,b,.inr ?_,e⟩;rcases d with d|d
    ·rw[d,Nat.add_sub_cancel];exact hf
    ·exact d
   ·rw[if_neg hf];obtain⟨a,b,d,e⟩:=ul (f:=f) n i ((i+j)/2) (by omega) (by omega);refine⟨a,by omega,d,.inr ?_⟩;rcases e with e|e
    ·rw[e];simpa using hf
    ·exact e
  ·rw[if_neg c];exact⟨Nat.le_refl _,h1,.inl rfl,.inl (by omega)⟩
def sw2 (l:List Rec) (p q:Nat):List Rec:=(l.set p (ak l q)).set q (ak l p)
theorem zT (l:List Rec) (p q:Nat):(sw2 l p q).length=l.length:=by simp[sw2]
def swR:List Rec→Nat→Nat→Nat→List Rec
 |l,_,_,0=>l
 |l,p,q,n+1=>swR (sw2 l p q) (p+1) (q+1) n
theorem Kb {P M S:List Rec}{x y:Rec}:sw2 (P++x::(M++y::S)) P.length (P.length+1+M.length)=P++y::(M++x::S):=by
 have e1:ak (P++x::(M++y::S)) P.length=x:=iR rfl;have e2:ak (P++x::(M++y::S)) (P.length+1+M.length)=y:=by
  have:P++x::(M++y::S)=(P++x::M)++y::S:=by simp
  rw[this];exact iR (by simp;omega)
 unfold sw2;rw[e1,e2,List.set_append_right _ _ (Nat.le_refl _),Nat.sub_self,List.set_cons_zero,List.set_append_right _ _ (by omega),show P.length+1+M.length-P.length=M.length+1 by omega,List.set_cons_succ,List.set_append_right _ _ (Nat.le_refl _),Nat.sub_self,List.set_cons_zero]
theorem zA:∀(X Y:List Rec) {P Q S:List Rec},X.length=Y.length→swR (P++(X++(Q++(Y++S)))) P.length (P.length+X.length+Q.length) X.length=P++(Y++(Q++(X++S)))
 |[],[],P,Q,S,_=>rfl
 |x::X,y::Y,P,Q,S,h=>by
  have hl:X.length=Y.length:=by simpa using h
  have h1:sw2 (P++(x::X++(Q++(y::Y++S)))) P.length (P.length+(x::X).length+Q.length)=(P++[y])++(X++((Q++[x])++(Y++S))):=by have:=Kb (P:=P) (M:=X++Q) (S:=Y++S) (x:=x) (y:=y);simp only[List.length_append,List.append_assoc,List.cons_append,List.length_cons,List.nil_append]at this⊢;rw[show P.length+(X.length+1)+Q.length=P.length+1+(X.length+Q.length) by omega,this]
  show swR (sw2 (P++(x::X++(Q++(y::Y++S)))) P.length (P.length+(x::X).length+Q.length)) (P.length+1) (P.length+(x::X).length+Q.length+1) X.length=_;have ih:=zA X Y (P:=P++[y]) (Q:=Q++[x]) (S:=S) hl;rw[h1,show P.length+(x::X).length+Q.length+1=(P++[y]).length+X.length+(Q++[x]).length by simp only[List.length_append,List.length_cons,List.length_nil];omega,show P.length+1=(P++[y]).length by simp,ih];simp
theorem Dat.set {hp:List Blk}{q:Nat}{l l':List Rec}(h:Dat hp q l):Dat (hp.set q (.rw (.agg 56 (l'.map Rec.v)))) q l':=⟨List.getElem?_set_self (aj h.get)⟩
theorem Ka {l:List Rec}{p q:Nat}:(sw2 l p q).map Rec.v=((l.map Rec.v).set p (ak l q).v).set q (ak l p).v:=by unfold sw2;rw[List.map_set,List.map_set]
section
variable {q : Nat} {c : Option Nat}
theorem Ep (L:List Blk) {a b m:Nat}:∀(n i:Nat) {hp:List Blk}{l:List Rec},i+n=m→a+m≤l.length→b+m≤l.length→l.length≤1000→Dat hp q l→
 rc D L.length (.loop [0,1,2,3,10] bI) [(0,bu q l.length c),(1,.int .i64 a),(2,.int .i64 b),(3,.int .i64 m),(10,.int .i64 i)] ⟨L,hp⟩=
  some (.exit 0,[(0,bu q l.length c),(1,.int .i64 a),(2,.int .i64 b),(3,.int .i64 m),(10,.int .i64 m),(13,.bool false)],⟨L,hp.set q (.rw (.agg 56 ((swR l (a+i) (b+i) n).map Rec.v)))⟩)
 |0,i,hp,l,hi,ha,hb,hl,hd=>by
  have:i=m:=by omega
  subst this;have hset:=dD hd.get;have d1:¬(i:Int)<i:=by omega
  rw[aa];simp only[swR];rw[hset];simp only[go_sem,bI,d1]
 |n+1,i,hp,l,hi,ha,hb,hl,hd=>by
  have hql:=aj hd.get;have d1:(i:Int)<m:=by omega
  have d4:IntKind.i64.wrap ((i:Int)+1)=((i+1:Nat):Int):=ae (by omega) (by omega);have w1:IntKind.i64.wrap ((a:Int)+i)=((a+i:Nat):Int):=by rw[ae (by omega) (by omega)];omega
  have w2:IntKind.i64.wrap ((b:Int)+i)=((b+i:Nat):Int):=by rw[ae (by omega) (by omega)];omega
  have s1:eD 54 (bu q l.length c) (.int .i64 ((a+i:Nat):Int))=_:=je (by omega);have s2:eD 54 (bu q l.length c) (.int .i64 ((b+i:Nat):Int))=_:=je (by omega);have g1:(l.map Rec.v)[a+i]?=some (ak l (a+i)).v:=am (by omega) bW;have g2:(l.map Rec.v)[b+i]?=some (ak l (b+i)).v:=am (by omega) bW;have hgt:=hd.get;have ih:=Ep L (a:=a) (b:=b) (m:=m) n (i+1) (hp:=hp.set q (.rw (.agg 56 ((sw2 l (a+i) (b+i)).map Rec.v)))) (l:=sw2 l (a+i) (b+i)) (by omega) (by rw[zT];exact ha) (by rw[zT];exact hb) (by rw[zT];exact hl) hd.set;rw[List.set_set,zT,Ka]at ih;rw[swR,show a+i+1=a+(i+1) by omega,show b+i+1=b+(i+1) by omega,←ih,aa];clear ih hd;generalize hx:ak l (a+i)=x at*;generalize hy:ak l (b+i)=y at*;generalize l.map Rec.v=T at*;have hg3:∀(X:Blk),(hp.set q X)[q]?=some X:=fun X=>List.getElem?_set_self hql;have g5:∃z,(T.set (a+i) y.v)[b+i]?=some z:=by
   by_cases e:a+i=b+i
   ·rw[e,List.getElem?_set_self ((List.getElem?_eq_some_iff.1 g2).1)];exact⟨_,rfl⟩
   ·rw[List.getElem?_set_ne e];exact⟨_,g2⟩
  obtain⟨z,g5⟩:=g5;simp only[Rec.v]at*;simp only[go_sem,bI,d1,w1,w2,s1,s2,hgt,g1,g2,hg3,g5,List.set_set,d4]
theorem Bh {hp:List Blk}{l:List Rec}{a b m:Nat}(hd:Dat hp q l) (ha:a+m≤l.length) (hb:b+m≤l.length) (hl:l.length≤1000) (L:List Blk):
 rf D dA [bu q l.length c,.int .i64 a,.int .i64 b,.int .i64 m,.fn aq []] ⟨L,hp⟩=some (.tup [],⟨L,hp.set q (.rw (.agg 56 ((swR l a b m).map Rec.v)))⟩):=by
 have h:=Ep (c:=c) L (a:=a) (b:=b) m 0 (by omega) ha hb hl hd;rw[show((0:Nat):Int)=0 from rfl,Nat.add_zero,Nat.add_zero]at h
 rw[ab mQ rfl];clear hd;simp only[go_sem,h]
theorem AP (L:List Blk):∀(N:Nat) {P A B S:List Rec}{hp:List Blk},A.length+B.length≤N→A≠[]→B≠[]→(P++(A++(B++S))).length≤1000→Dat hp q (P++(A++(B++S)))→
 ∃P' A' B' S',A'.length=B'.length∧P++(B++(A++S))=P'++(B'++(A'++S'))∧P'.length+A'.length=P.length+A.length∧(P'++(A'++(B'++S'))).length=(P++(A++(B++S))).length∧
 rc D L.length (.loop [0,2,4,10,11] bw) [(0,bu q (P++(A++(B++S))).length c),(2,.int .i64 (P.length+A.length:Nat)),(4,.fn aq []),(10,.int .i64 A.length),(11,.int .i64 B.length)] ⟨L,hp⟩=
  some (.exit 0,[(0,bu q (P++(A++(B++S))).length c),(2,.int .i64 (P.length+A.length:Nat)),(4,.fn aq []),(10,.int .i64 A'.length),(11,.int .i64 A'.length),(20,.bool false)],⟨L,hp.set q (.rw (.agg 56 ((P'++(A'++(B'++S'))).map Rec.v)))⟩)
 |0,P,A,B,S,hp,h,ha,_,_,_=>absurd (List.length_eq_zero_iff.1 (by omega)) ha
 |N+1,P,A,B,S,hp,h,ha,hb,hl,hd=>by
  have la:0<A.length:=List.length_pos_iff.2 ha;have lb:0<B.length:=List.length_pos_iff.2 hb;have hlen:(P++(A++(B++S))).length=P.length+A.length+B.length+S.length:=by simp only[List.length_append];omega
  by_cases e:A.length=B.length
  ·refine⟨P,A,B,S,e,rfl,rfl,rfl,?_⟩;have d1:(A.length:Int)=B.length:=by omega
   have hset:=dD hd.get;rw[hset,aa];generalize(P++(A++(B++S))).length=n at*;generalize P.length+A.length=z at*;rw[e];simp only[go_sem,bw]
  ·have d1:¬(A.length:Int)=B.length:=by omega
   by_cases g:A.length>B.length
   ·-- the left one is longer
    obtain⟨A1,A2,rfl,hA1⟩:∃A1 A2,A=A1++A2∧A1.length=B.length:=⟨A.take B.length,A.drop B.length,(List.take_append_drop _ _).symm,by rw[List.length_take];omega⟩;have hA2:A2≠[]:=fun e2=>by subst e2;simp at g;omega
    have lA:(A1++A2).length=A1.length+A2.length:=List.length_append;have hsw:=Bh (c:=c) (a:=P.length) (b:=P.length+A1.length+A2.length) (m:=A1.length) hd (by omega) (by omega) hl L;have hmid:=zA A1 B (P:=P) (Q:=A2) (S:=S) hA1;rw[show P++(A1++A2++(B++S))=P++(A1++(A2++(B++S))) by simp]at hsw hd hl hlen;rw[hmid]at hsw;have hd2:=hd.set (l':=P++(B++(A2++(A1++S))));rw[show P++(B++(A2++(A1++S)))=(P++B)++(A2++(A1++S)) by simp]at hd2 hsw;have hl2:((P++B)++(A2++(A1++S))).length=(P++(A1++(A2++(B++S)))).length:=by simp only[List.length_append];omega
    obtain⟨P',A',B',S',q1,q2,q3,q4,q5⟩:=AP L N (P:=P++B) (A:=A2) (B:=A1) (S:=S) (by omega) hA2 (fun e2=>by subst e2;simp at hA1;omega) (by rw[hl2];exact hl) hd2;rw[List.set_set]at q5;rw[hl2]at q4 q5;have e3:(P++B).length+A2.length=P.length+(A1++A2).length:=by simp only[List.length_append];omega
    rw[show P++(A1++A2++(B++S))=P++(A1++(A2++(B++S))) by simp];refine⟨P',A',B',S',q1,?_,by omega,q4,?_⟩
    ·rw[←q2];simp
    ·rw[e3]at q5;rw[←q5,aa];have w1:IntKind.i64.wrap (((P.length+(A1++A2).length:Nat):Int)-((A1++A2).length:Nat))=(P.length:Int):=by rw[ae (by omega) (by omega)];omega
     have w2:IntKind.i64.wrap (((A1++A2).length:Int)-(B.length:Int))=(A2.length:Int):=by rw[ae (by omega) (by omega)];omega
     have d2:((A1++A2).length:Int)>B.length:=by omega
     rw[show P.length+A1.length+A2.length=P.length+(A1++A2).length by omega]at hsw;rw[hA1]at hsw⊢;clear q1 q2 q3 q4 q5 hd hd2 hmid;generalize(P++(A1++(A2++(B++S)))).length=n at*;generalize P.length+(A1++A2).length=z at*;generalize(A1++A2).length=za at*;simp only[go_sem,bw,d1,d2,w1,w2,hsw]
   ·obtain⟨B1,B2,rfl,hB2⟩:∃B1 B2,B=B1++B2∧B2.length=A.length:=⟨B.take (B.length-A.length),B.drop (B.length-A.length),(List.take_append_drop _ _).symm,by rw[List.length_drop];omega⟩;have hB1:B1≠[]:=fun e2=>by subst e2;simp at e;omega
    have lB:(B1++B2).length=B1.length+B2.length:=List.length_append;have hsw:=Bh (c:=c) (a:=P.length) (b:=P.length+A.length+B1.length) (m:=A.length) hd (by omega) (by omega) hl L;have hmid:=zA A B2 (P:=P) (Q:=B1) (S:=S) hB2.symm;rw[show P++(A++(B1++B2++S))=P++(A++(B1++(B2++S))) by simp]at hsw hd hl hlen;rw[hmid]at hsw;have hd2:=hd.set (l':=P++(B2++(B1++(A++S))));have hl2:(P++(B2++(B1++(A++S)))).length=(P++(A++(B1++(B2++S)))).length:=by simp only[List.length_append];omega
    obtain⟨P',A',B',S',q1,q2,q3,q4,q5⟩:=AP L N (P:=P) (A:=B2) (B:=B1) (S:=A++S) (by omega) (fun e2=>by subst e2;simp at hB2;omega) hB1 (by rw[hl2];exact hl) hd2;rw[List.set_set]at q5;rw[hl2]at q4 q5;rw[show P++(A++(B1++B2++S))=P++(A++(B1++(B2++S))) by simp];refine⟨P',A',B',S',q1,?_,by omega,q4,?_⟩
    ·rw[←q2];simp
    ·rw[hB2]at q5;rw[←q5,aa];have w1:IntKind.i64.wrap (((P.length+A.length:Nat):Int)-(A.length:Nat))=(P.length:Int):=by rw[ae (by omega) (by omega)];omega
     have w2:IntKind.i64.wrap (((B1++B2).length:Int)-(A.length:Int))=(B1.length:Int):=by rw[ae (by omega) (by omega)];omega
     have w3:IntKind.i64.wrap (((P.length+A.length:Nat):Int)+((B1++B2).length:Nat))=((P.length+A.length+(B1++B2).length:Nat):Int):=by rw[ae (by omega) (by omega)];omega
     have w4:IntKind.i64.wrap (((P.length+A.length+(B1++B2).length:Nat):Int)-(A.length:Nat))=((P.length+A.length+B1.length:Nat):Int):=by rw[ae (by omega) (by omega)];omega
     have d2:¬(A.length:Int)>(B1++B2).length:=by omega
     clear q1 q2 q3 q4 q5 hd hd2 hmid;generalize(P++(A++(B1++(B2++S)))).length=n at*;generalize P.length+A.length+(B1++B2).length=z2 at*;generalize P.length+A.length+B1.length=z3 at*;generalize P.length+A.length=z at*;generalize(B1++B2).length=zb at*;simp only[go_sem,bw,d1,d2,w1,w2,w3,w4,hsw]
theorem Vn {P A B S:List Rec}{hp:List Blk}(ha:A≠[]) (hb:B≠[]) (hl:(P++(A++(B++S))).length≤1000) (hd:Dat hp q (P++(A++(B++S)))) (L:List Blk):
 rf D bG [bu q (P++(A++(B++S))).length c,.int .i64 P.length,.int .i64 (P.length+A.length:Nat),.int .i64 (P.length+A.length+B.length:Nat),.fn aq []] ⟨L,hp⟩=some (.tup [],⟨L,hp.set q (.rw (.agg 56 ((P++(B++(A++S))).map Rec.v)))⟩):=by
 have hlen:(P++(A++(B++S))).length=P.length+A.length+B.length+S.length:=by simp only[List.length_append];omega
 obtain⟨P',A',B',S',q1,q2,q3,q4,q5⟩:=AP (c:=c) L (A.length+B.length) (Nat.le_refl _) ha hb hl hd;have hd2:=hd.set (l':=P'++(A'++(B'++S')));have hl':(P'++(A'++(B'++S'))).length=P'.length+A'.length+B'.length+S'.length:=by simp only[List.length_append];omega
 have hsw:=Bh (c:=c) (a:=P'.length) (b:=P'.length+A'.length) (m:=A'.length) hd2 (by omega) (by omega) (by rw[q4];exact hl) L;have hmid:=zA A' B' (P:=P') (Q:=[]) (S:=S') q1;rw[List.length_nil,Nat.add_zero,List.nil_append,List.nil_append]at hmid;rw[hmid,←q2,List.set_set,q4]at hsw;have w1:IntKind.i64.wrap (((P.length+A.length:Nat):Int)-(P.length:Nat))=(A.length:Int):=by rw[ae (by omega) (by omega)];omega
 have w2:IntKind.i64.wrap (((P.length+A.length+B.length:Nat):Int)-((P.length+A.length:Nat):Int))=(B.length:Int):=by rw[ae (by omega) (by omega)];omega
 have w3:IntKind.i64.wrap (((P.length+A.length:Nat):Int)-(A'.length:Nat))=(P'.length:Int):=by rw[ae (by omega) (by omega)];omega
 rw[q3]at hsw;clear hd hd2 hmid q1 q2 q3 q4;generalize(P++(A++(B++S))).length=n at*;generalize P.length+A.length+B.length=z2 at*;generalize P.length+A.length=z at*;rw[ab n6 rfl];simp only[go_sem,w1,w2,q5,w3,hsw]
end
theorem rB {B T P:List Rec}{v:Int}(hB:Srt B) (h:B=[]∨(ak (P++(B++T)) (P.length+B.length-1)).seq≤v):∀y∈B,y.seq≤v:=by
 intro y hy;rcases h with rfl|h
 ·cases hy
 ·have hne:B≠[]:=fun e=>by rw[e]at hy;cases hy
  obtain⟨B',z,rfl⟩:∃B' z,B=B'++[z]:=⟨B.dropLast,B.getLast hne,(List.dropLast_concat_getLast hne).symm⟩;have e1:ak (P++(B'++[z]++T)) (P.length+(B'++[z]).length-1)=z:=by rw[show P++(B'++[z]++T)=(P++B')++z::T by simp];exact iR (by simp<;>omega)
  rw[e1]at h;rcases List.mem_append.1 hy with hy|hy
  ·have:=(List.pairwise_append.1 hB).2.2 y hy z (by simp);omega
  ·rw[List.mem_singleton.1 hy];exact h
theorem pT {B T P:List Rec}{v:Int}(hB:Srt B) (h:B=[]∨v≤(ak (P++(B++T)) P.length).seq):∀y∈B,v≤y.seq:=by
 intro y hy;cases B with
 |nil=>cases hy
 |cons z B'=>
  have h:=h.resolve_left (by simp);have e1:ak (P++(z::B'++T)) P.length=z:=iR rfl;rw[e1]at h;rcases List.mem_cons.1 hy with rfl|hy
  ·exact h
  ·have:=(List.pairwise_cons.1 hB).1 y hy;omega
theorem Cr {i j:Nat}(h:i+j≤2000):IntKind.i64.wrap ((i:Int)+j)=((i+j:Nat):Int)∧IntKind.u64.wrap ((i+j:Nat):Int)=((i+j:Nat):Int)∧gW .u64 ((i+j:Nat):Int) 1=(((i+j)/2:Nat):Int)∧IntKind.i64.wrap (((i+j)/2:Nat):Int)=(((i+j)/2:Nat):Int):=by
 refine⟨by rw[ae (by omega) (by omega)];omega,fL (by omega) (by omega),?_,ae (by omega) (by omega)⟩;unfold gW;rw[show((2:Int)^(min (1:Int).toNat IntKind.u64.bits))=2 from rfl,Int.fdiv_eq_ediv_of_nonneg _ (by decide)]
 omega
section
variable {q : Nat} {c : Option Nat} {hp : List Blk} {l : List Rec}
theorem Bp (hd:Dat hp q l) (hl:l.length≤1000) {a:Nat}(ha:a<l.length) (L:List Blk):∀(n i j:Nat),i≤j→j-i≤n→j≤l.length→
 rc D L.length (.loop [0,1,4,10,11] aX) [(0,bu q l.length c),(1,.int .i64 a),(4,.fn aq []),(10,.int .i64 i),(11,.int .i64 j)] ⟨L,hp⟩=
  some (.exit 0,[(0,bu q l.length c),(1,.int .i64 a),(4,.fn aq []),(10,.int .i64 (bsK (fun h=>decide ((ak l h).seq<(ak l a).seq)) n i j:Nat)),(11,.int .i64 (bsK (fun h=>decide ((ak l h).seq<(ak l a).seq)) n i j:Nat)),(33,.bool false)],⟨L,hp⟩)
 |0,i,j,h1,h2,h3=>by
  have:i=j:=by omega
  subst this;have d1:¬(i:Int)<i:=by omega
  rw[aa];simp only[bsK];simp only[go_sem,aX,d1]
 |n+1,i,j,h1,h2,h3=>by
  unfold bsK;by_cases hij:i<j
  ·have d1:(i:Int)<j:=by omega
   obtain⟨w1,w2,w3,w4⟩:=Cr (i:=i) (j:=j) (by omega);have hh:(i+j)/2<l.length:=by omega
   have g1:(l.map Rec.v)[(i+j)/2]?=some (ak l ((i+j)/2)).v:=am hh bW;have g2:(l.map Rec.v)[a]?=some (ak l a).v:=am ha bW;have s1:eD 54 (bu q l.length c) (.int .i64 (((i+j)/2:Nat):Int))=_:=je hh;have s2:eD 54 (bu q l.length c) (.int .i64 ((a:Nat):Int))=_:=je ha;have hc:=fun s=>xr (ak l ((i+j)/2)) (ak l a) s;have hgt:=hd.get;have hkk:jI (ak l ((i+j)/2)).seq (ak l a).seq<0↔(ak l ((i+j)/2)).seq<(ak l a).seq:=um;have w5:IntKind.i64.wrap ((((i+j)/2:Nat):Int)+1)=(((i+j)/2+1:Nat):Int):=by rw[ae (by omega) (by omega)];omega
   have ih1:=Bp hd hl ha L n ((i+j)/2+1) j (by omega) (by omega) h3;have ih2:=Bp hd hl ha L n i ((i+j)/2) (by omega) (by omega) (by omega);rw[if_pos hij];generalize hF:(fun h=>decide ((ak l h).seq<(ak l a).seq))=f at*;by_cases hs:(ak l ((i+j)/2)).seq<(ak l a).seq
   ·rw[decide_eq_true hs,if_pos rfl,←ih1,aa];have hk:=hkk.2 hs;clear ih1 ih2 hs hkk hd hF;generalize jI (ak l ((i+j)/2)).seq (ak l a).seq=k at*;generalize ak l ((i+j)/2)=x at*;generalize ak l a=y at*;generalize l.map Rec.v=T at*;generalize(i+j)/2=h at*;simp only[Rec.v]at*;simp only[go_sem,aX,d1,w1,w2,w3,w4,s1,s2,hgt,g1,g2,hc,hk,w5]
   ·rw[decide_eq_false hs,if_neg (by simp),←ih2,aa];have hk:¬jI (ak l ((i+j)/2)).seq (ak l a).seq<0:=fun e=>hs (hkk.1 e);clear ih1 ih2 hs hkk hd hF;generalize jI (ak l ((i+j)/2)).seq (ak l a).seq=k at*;generalize ak l ((i+j)/2)=x at*;generalize ak l a=y at*;generalize l.map Rec.v=T at*;generalize(i+j)/2=h at*;simp only[Rec.v]at*;simp only[go_sem,aX,d1,w1,w2,w3,w4,s1,s2,hgt,g1,g2,hc,hk]
  ·rw[if_neg hij];have:i=j:=by omega
   subst this;have d1:¬(i:Int)<i:=by omega
   rw[aa];simp only[go_sem,aX,d1]
theorem AV (hd:Dat hp q l) (hl:l.length≤1000) {m:Nat}(hm:m<l.length) (L:List Blk):∀(n i j:Nat),i≤j→j-i≤n→j≤l.length→
 rc D L.length (.loop [0,2,4,14,15] aW) [(0,bu q l.length c),(2,.int .i64 m),(4,.fn aq []),(14,.int .i64 i),(15,.int .i64 j)] ⟨L,hp⟩=
  some (.exit 4,[(0,bu q l.length c),(2,.int .i64 m),(4,.fn aq []),(14,.int .i64 (bsK (fun h=> !decide ((ak l m).seq<(ak l h).seq)) n i j:Nat)),(15,.int .i64 (bsK (fun h=> !decide ((ak l m).seq<(ak l h).seq)) n i j:Nat)),(85,.bool false)],⟨L,hp⟩)
 |0,i,j,h1,h2,h3=>by
  have:i=j:=by omega
  subst this;have d1:¬(i:Int)<i:=by omega
  rw[aa];simp only[bsK];simp only[go_sem,aW,d1]
 |n+1,i,j,h1,h2,h3=>by
  unfold bsK;by_cases hij:i<j
  ·have d1:(i:Int)<j:=by omega
   obtain⟨w1,w2,w3,w4⟩:=Cr (i:=i) (j:=j) (by omega);have hh:(i+j)/2<l.length:=by omega
   have g1:(l.map Rec.v)[(i+j)/2]?=some (ak l ((i+j)/2)).v:=am hh bW;have g2:(l.map Rec.v)[m]?=some (ak l m).v:=am hm bW;have s1:eD 54 (bu q l.length c) (.int .i64 (((i+j)/2:Nat):Int))=_:=je hh;have s2:eD 54 (bu q l.length c) (.int .i64 ((m:Nat):Int))=_:=je hm;have hc:=fun s=>xr (ak l m) (ak l ((i+j)/2)) s;have hgt:=hd.get;have hkk:jI (ak l m).seq (ak l ((i+j)/2)).seq<0↔(ak l m).seq<(ak l ((i+j)/2)).seq:=um;have w5:IntKind.i64.wrap ((((i+j)/2:Nat):Int)+1)=(((i+j)/2+1:Nat):Int):=by rw[ae (by omega) (by omega)];omega
   have ih1:=AV hd hl hm L n ((i+j)/2+1) j (by omega) (by omega) h3;have ih2:=AV hd hl hm L n i ((i+j)/2) (by omega) (by omega) (by omega);rw[if_pos hij];generalize hF:(fun h=> !decide ((ak l m).seq<(ak l h).seq))=f at*;by_cases hs:(ak l m).seq<(ak l ((i+j)/2)).seq
   ·rw[decide_eq_true hs,if_neg (by simp),←ih2,aa];have hk:=hkk.2 hs;clear ih1 ih2 hs hkk hd hF;generalize jI (ak l m).seq (ak l ((i+j)/2)).seq=k at*;generalize ak l ((i+j)/2)=x at*;generalize ak l m=y at*;generalize l.map Rec.v=T at*;generalize(i+j)/2=h at*;simp only[Rec.v]at*;simp only[go_sem,aW,d1,w1,w2,w3,w4,s1,s2,hgt,g1,g2,hc,hk]
   ·rw[decide_eq_false hs,if_pos (by simp),←ih1,aa];have hk:¬jI (ak l m).seq (ak l ((i+j)/2)).seq<0:=fun e=>hs (hkk.1 e);clear ih1 ih2 hs hkk hd hF;generalize jI (ak l m).seq (ak l ((i+j)/2)).seq=k at*;generalize ak l ((i+j)/2)=x at*;generalize ak l m=y at*;generalize l.map Rec.v=T at*;generalize(i+j)/2=h at*;simp only[Rec.v]at*;simp only[go_sem,aW,d1,w1,w2,w3,w4,s1,s2,hgt,g1,g2,hc,hk,w5]
  ·rw[if_neg hij];have:i=j:=by omega
   subst this;have d1:¬(i:Int)<i:=by omega
   rw[aa];simp only[go_sem,aW,d1]
theorem Bq (hd:Dat hp q l) (hl:l.length≤1000) {a m b mid n0 p:Nat}(L:List Blk):∀(n i j:Nat),i≤j→j-i≤n→j≤l.length→(∀h,i≤h→h<j→h≤p∧p-h<l.length)→
 rc D L.length (.loop [0,1,2,3,4,18,19,20,21,22] aL) [(0,bu q l.length c),(1,.int .i64 a),(2,.int .i64 m),(3,.int .i64 b),(4,.fn aq []),(18,.int .i64 mid),(19,.int .i64 n0),(20,.int .i64 i),(21,.int .i64 j),(22,.int .i64 p)] ⟨L,hp⟩=
  some (.exit 8,[(0,bu q l.length c),(1,.int .i64 a),(2,.int .i64 m),(3,.int .i64 b),(4,.fn aq []),(18,.int .i64 mid),(19,.int .i64 n0),(20,.int .i64 (bsK (fun h=> !decide ((ak l (p-h)).seq<(ak l h).seq)) n i j:Nat)),(21,.int .i64 (bsK (fun h=> !decide ((ak l (p-h)).seq<(ak l h).seq)) n i j:Nat)),(22,.int .i64 p),(151,.bool false)],⟨L,hp⟩)
 |0,i,j,h1,h2,h3,_=>by
  have:i=j:=by omega
  subst this;have d1:¬(i:Int)<i:=by omega
  rw[aa];simp only[bsK];simp only[go_sem,aL,d1]
 |n+1,i,j,h1,h2,h3,h4=>by
  unfold bsK;by_cases hij:i<j
  ·have d1:(i:Int)<j:=by omega
   obtain⟨w1,w2,w3,w4⟩:=Cr (i:=i) (j:=j) (by omega);have hh:(i+j)/2<l.length:=by omega
   obtain⟨hp1,hp2⟩:=h4 ((i+j)/2) (by omega) (by omega);have g1:(l.map Rec.v)[(i+j)/2]?=some (ak l ((i+j)/2)).v:=am hh bW;have g2:(l.map Rec.v)[p-(i+j)/2]?=some (ak l (p-(i+j)/2)).v:=am hp2 bW;have s1:eD 54 (bu q l.length c) (.int .i64 (((i+j)/2:Nat):Int))=_:=je hh;have s2:eD 54 (bu q l.length c) (.int .i64 ((p-(i+j)/2:Nat):Int))=_:=je hp2;have w6:IntKind.i64.wrap ((p:Int)-(((i+j)/2:Nat):Int))=((p-(i+j)/2:Nat):Int):=by rw[ae (by omega) (by omega)];omega
   have hc:=fun s=>xr (ak l (p-(i+j)/2)) (ak l ((i+j)/2)) s;have hgt:=hd.get;have hkk:jI (ak l (p-(i+j)/2)).seq (ak l ((i+j)/2)).seq<0↔(ak l (p-(i+j)/2)).seq<(ak l ((i+j)/2)).seq:=um;have w5:IntKind.i64.wrap ((((i+j)/2:Nat):Int)+1)=(((i+j)/2+1:Nat):Int):=by rw[ae (by omega) (by omega)];omega
   have ih1:=Bq hd hl (a:=a) (m:=m) (b:=b) (mid:=mid) (n0:=n0) (p:=p) L n ((i+j)/2+1) j (by omega) (by omega) h3 fun h x y=>h4 h (by omega) y;have ih2:=Bq hd hl (a:=a) (m:=m) (b:=b) (mid:=mid) (n0:=n0) (p:=p) L n i ((i+j)/2) (by omega) (by omega) (by omega) fun h x y=>h4 h x (by omega);rw[if_pos hij];generalize hF:(fun h=> !decide ((ak l (p-h)).seq<(ak l h).seq))=f at*;by_cases hs:(ak l (p-(i+j)/2)).seq<(ak l ((i+j)/2)).seq
   ·rw[decide_eq_true hs,if_neg (by simp),←ih2,aa];have hk:=hkk.2 hs;clear ih1 ih2 hs hkk hd hF;generalize jI (ak l (p-(i+j)/2)).seq (ak l ((i+j)/2)).seq=k at*;generalize ak l ((i+j)/2)=x at*;generalize ak l (p-(i+j)/2)=y at*;generalize l.map Rec.v=T at*;generalize p-(i+j)/2=h2 at*;generalize(i+j)/2=h at*;simp only[Rec.v]at*;simp only[go_sem,aL,d1,w1,w2,w3,w4,w6,s1,s2,hgt,g1,g2,hc,hk]
   ·rw[decide_eq_false hs,if_pos (by simp),←ih1,aa];have hk:¬jI (ak l (p-(i+j)/2)).seq (ak l ((i+j)/2)).seq<0:=fun e=>hs (hkk.1 e);clear ih1 ih2 hs hkk hd hF;generalize jI (ak l (p-(i+j)/2)).seq (ak l ((i+j)/2)).seq=k at*;generalize ak l ((i+j)/2)=x at*;generalize ak l (p-(i+j)/2)=y at*;generalize l.map Rec.v=T at*;generalize p-(i+j)/2=h2 at*;generalize(i+j)/2=h at*;simp only[Rec.v]at*;simp only[go_sem,aL,d1,w1,w2,w3,w4,w6,s1,s2,hgt,g1,g2,hc,hk,w5]
  ·rw[if_neg hij];have:i=j:=by omega
   subst this;have d1:¬(i:Int)<i:=by omega
   rw[aa];simp only[go_sem,aL,d1]
end
section
variable {q : Nat} {c : Option Nat}
theorem JW (L:List Blk) {x:Rec}:∀(A:List Rec) {P S:List Rec}{hp:List Blk},(P++x::(A++S)).length≤1000→Dat hp q (P++x::(A++S))→
 rc D L.length (.loop [0,10,13] bQ) [(0,bu q (P++x::(A++S)).length c),(10,.int .i64 (P.length+A.length+1:Nat)),(13,.int .i64 P.length)] ⟨L,hp⟩=
  some (.exit 2,[(0,bu q (P++x::(A++S)).length c),(10,.int .i64 (P.length+A.length+1:Nat)),(13,.int .i64 (P.length+A.length:Nat)),(58,.bool false)],⟨L,hp.set q (.rw (.agg 56 ((P++(A++x::S)).map Rec.v)))⟩)
 |[],P,S,hp,hl,hd=>by
  have hset:=dD hd.get;have hlen:(P++x::([]++S)).length=P.length+1+S.length:=by simp<;>omega
  have w1:IntKind.i64.wrap (((P.length+1:Nat):Int)-1)=(P.length:Int):=by rw[ae (by omega) (by omega)];omega
  simp only[List.nil_append]at*;rw[hset,aa];generalize(P++x::S).length=n at*;rw[List.length_nil,Nat.add_zero];generalize P.length=p at*;have d1:¬(p:Int)<p:=by omega
  simp only[go_sem,bQ,w1,d1]
 |y::A,P,S,hp,hl,hd=>by
  have hql:=aj hd.get;have hlen:(P++x::(y::A++S)).length=P.length+A.length+2+S.length:=by simp<;>omega
  have hsw:sw2 (P++x::(y::A++S)) P.length (P.length+1)=(P++[y])++x::(A++S):=by have:=Kb (P:=P) (M:=[]) (S:=A++S) (x:=x) (y:=y);rw[List.length_nil,Nat.add_zero,List.nil_append,List.nil_append]at this;rw[show P++x::(y::A++S)=P++x::y::(A++S)from rfl,this];simp
  have hd2:=hd.set (l':=(P++[y])++x::(A++S));have hl2:((P++[y])++x::(A++S)).length=(P++x::(y::A++S)).length:=by simp<;>omega
  have ih:=JW L (x:=x) A (P:=P++[y]) (S:=S) (by rw[hl2];exact hl) hd2;rw[List.set_set,hl2,show(P++[y]).length+A.length+1=P.length+(y::A).length+1 by simp<;>omega,show(P++[y]).length+A.length=P.length+(y::A).length by simp<;>omega,show(P++[y])++(A++x::S)=P++(y::A++x::S) by simp,show(P++[y]).length=P.length+1 by simp,←hsw,Ka]at ih;rw[←ih,aa];have hp0:P.length<(P++x::(y::A++S)).length:=by omega
  have hp1:P.length+1<(P++x::(y::A++S)).length:=by omega
  have s1:eD 54 (bu q (P++x::(y::A++S)).length c) (.int .i64 (P.length:Int))=_:=je hp0;have s2:eD 54 (bu q (P++x::(y::A++S)).length c) (.int .i64 ((P.length+1:Nat):Int))=_:=je hp1;have g1:((P++x::(y::A++S)).map Rec.v)[P.length]?=some (ak (P++x::(y::A++S)) P.length).v:=am hp0 bW;have g2:((P++x::(y::A++S)).map Rec.v)[P.length+1]?=some (ak (P++x::(y::A++S)) (P.length+1)).v:=am hp1 bW;have hgt:=hd.get;have w1:IntKind.i64.wrap (((P.length+(y::A).length+1:Nat):Int)-1)=((P.length+(y::A).length:Nat):Int):=by rw[ae (by simp<;>omega) (by simp<;>omega)];omega
  have w2:IntKind.i64.wrap ((P.length:Int)+1)=((P.length+1:Nat):Int):=by rw[ae (by omega) (by omega)];omega
  have d1:(P.length:Int)<((P.length+(y::A).length:Nat):Int):=by simp<;>omega
  clear ih hd hd2 hsw hl2 hl hlen;generalize ak (P++x::(y::A++S)) P.length=r1 at*;generalize ak (P++x::(y::A++S)) (P.length+1)=r2 at*;generalize(P++x::(y::A++S)).map Rec.v=T at*;generalize(P++x::(y::A++S)).length=n at*;generalize P.length+(y::A).length=z at*;generalize P.length=p at*;have hg3:∀(X:Blk),(hp.set q X)[q]?=some X:=fun X=>List.getElem?_set_self hql;have g5:∀w,(T.set p w)[p+1]?=some r2.v:=fun w=>by rw[List.getElem?_set_ne (by omega)];exact g2
  simp only[Rec.v]at*;simp only[go_sem,bQ,w1,w2,d1,s1,s2,hgt,g1,g2,hg3,g5,List.set_set]
theorem Kh (L:List Blk) {x:Rec}:∀(n:Nat) {A P S:List Rec}{hp:List Blk},A.length=n→(P++(A++x::S)).length≤1000→Dat hp q (P++(A++x::S))→
 rc D L.length (.loop [0,14,17] bP) [(0,bu q (P++(A++x::S)).length c),(14,.int .i64 P.length),(17,.int .i64 (P.length+n:Nat))] ⟨L,hp⟩=
  some (.exit 6,[(0,bu q (P++(A++x::S)).length c),(14,.int .i64 P.length),(17,.int .i64 P.length),(110,.bool false)],⟨L,hp.set q (.rw (.agg 56 ((P++x::(A++S)).map Rec.v)))⟩)
 |0,A,P,S,hp,hA,hl,hd=>by
  have:A=[]:=List.length_eq_zero_iff.1 hA;subst this;have hset:=dD hd.get;simp only[List.nil_append,Nat.add_zero]at*;rw[hset,aa];generalize(P++x::S).length=n at*;generalize P.length=p at*;have d1:¬(p:Int)>p:=by omega
  simp only[go_sem,bP,d1]
 |n+1,A,P,S,hp,hA,hl,hd=>by
  obtain⟨A',y,rfl⟩:∃A' y,A=A'++[y]:=⟨A.dropLast,A.getLast (fun e=>by rw[e]at hA;cases hA),(List.dropLast_concat_getLast _).symm⟩;have hn:A'.length=n:=by simpa using hA
  have hql:=aj hd.get;have hsw:swp (P++(A'++[y]++x::S)) (P.length+n+1)=P++(A'++x::y::S):=by have:=JM (p:=P++A') (t:=S) (x:=y) (y:=x) (j:=P.length+n) (by simp<;>omega);rw[show P++(A'++[y]++x::S)=(P++A')++y::x::S by simp,this];simp
  have hd2:=hd.set (l':=P++(A'++x::y::S));have hl2:(P++(A'++x::y::S)).length=(P++(A'++[y]++x::S)).length:=by simp
  have hlen:(P++(A'++[y]++x::S)).length=P.length+n+2+S.length:=by simp<;>omega
  have ih:=Kh L (x:=x) n (A:=A') (P:=P) (S:=y::S) hn (by rw[hl2];exact hl) hd2;have hm:(swp (P++(A'++[y]++x::S)) (P.length+n+1)).map Rec.v=(((P++(A'++[y]++x::S)).map Rec.v).set (P.length+n+1) (ak (P++(A'++[y]++x::S)) (P.length+n)).v).set (P.length+n) (ak (P++(A'++[y]++x::S)) (P.length+n+1)).v:=by unfold swp;rw[List.map_set,List.map_set];rfl
  rw[List.set_set,hl2,←hsw,hm,show P++x::(A'++y::S)=P++x::(A'++[y]++S) by simp]at ih;rw[←ih,aa];have hp0:P.length+n<(P++(A'++[y]++x::S)).length:=by omega
  have hp1:P.length+n+1<(P++(A'++[y]++x::S)).length:=by omega
  have s1:eD 54 (bu q (P++(A'++[y]++x::S)).length c) (.int .i64 ((P.length+n:Nat):Int))=_:=je hp0;have s2:eD 54 (bu q (P++(A'++[y]++x::S)).length c) (.int .i64 ((P.length+n+1:Nat):Int))=_:=je hp1;have g1:((P++(A'++[y]++x::S)).map Rec.v)[P.length+n]?=some (ak (P++(A'++[y]++x::S)) (P.length+n)).v:=am hp0 bW;have g2:((P++(A'++[y]++x::S)).map Rec.v)[P.length+n+1]?=some (ak (P++(A'++[y]++x::S)) (P.length+n+1)).v:=am hp1 bW;have hgt:=hd.get;have w1:IntKind.i64.wrap (((P.length+n+1:Nat):Int)-1)=((P.length+n:Nat):Int):=by rw[ae (by omega) (by omega)];omega
  have d1:((P.length+n+1:Nat):Int)>(P.length:Int):=by omega
  rw[show P.length+(n+1)=P.length+n+1 from rfl]
  clear ih hd hd2 hsw hl2 hl hlen hm;generalize ak (P++(A'++[y]++x::S)) (P.length+n)=r1 at*;generalize ak (P++(A'++[y]++x::S)) (P.length+n+1)=r2 at*;generalize(P++(A'++[y]++x::S)).map Rec.v=T at*;generalize(P++(A'++[y]++x::S)).length=nn at*;generalize P.length+n=z at*;generalize P.length=p at*;have hg3:∀(X:Blk),(hp.set q X)[q]?=some X:=fun X=>List.getElem?_set_self hql;have g5:∀w,(T.set (z+1) w)[z]?=some r1.v:=fun w=>by rw[List.getElem?_set_ne (by omega)];exact g1
  simp only[Rec.v]at*;simp only[go_sem,bP,w1,d1,s1,s2,hgt,g1,g2,hg3,g5,List.set_set]
end
section
variable {q : Nat} {c : Option Nat}
theorem SA {P B S:List Rec}{x:Rec}{hp:List Blk}(hB:Srt B) (hb:B≠[]) (hl:(P++([x]++(B++S))).length≤1000) (hd:Dat hp q (P++([x]++(B++S)))) (L:List Blk):
 ∃C,Mg ([x]++B) C∧C.length=1+B.length∧rf D az [bu q (P++([x]++(B++S))).length c,.int .i64 P.length,.int .i64 (P.length+1:Nat),.int .i64 (P.length+1+B.length:Nat),.fn aq []] ⟨L,hp⟩=some (.tup [],⟨L,hp.set q (.rw (.agg 56 ((P++(C++S)).map Rec.v)))⟩):=by
 have hlen:(P++([x]++(B++S))).length=P.length+1+B.length+S.length:=by simp<;>omega
 have e1:ak (P++([x]++(B++S))) P.length=x:=iR rfl;have hbs:=Bp (c:=c) hd hl (a:=P.length) (by omega) L B.length (P.length+1) (P.length+1+B.length) (by omega) (by omega) (by omega);rw[e1]at hbs;obtain⟨b1,b2,b3,b4⟩:=ul (f:=fun h=>decide ((ak (P++([x]++(B++S))) h).seq<x.seq)) B.length (P.length+1) (P.length+1+B.length) (by omega) (by omega);generalize bsK (fun h=>decide ((ak (P++([x]++(B++S))) h).seq<x.seq)) B.length (P.length+1) (P.length+1+B.length)=k at*;obtain⟨B1,B2,rfl,hB1⟩:∃B1 B2,B=B1++B2∧B1.length=k-(P.length+1):=⟨B.take (k-(P.length+1)),B.drop (k-(P.length+1)),(List.take_append_drop _ _).symm,by rw[List.length_take];omega⟩;have lB:(B1++B2).length=B1.length+B2.length:=List.length_append;obtain⟨s1,s2,_⟩:=List.pairwise_append.1 hB;have h1:∀y∈B1,y.seq<x.seq:=by
  have:=rB (B:=B1) (P:=P++[x]) (T:=B2++S) (v:=x.seq-1) s1 (by
   rcases b3 with b3|b3
   ·left;exact List.length_eq_zero_iff.1 (by omega)
   ·by_cases e0:B1=[]
    ·exact .inl e0
    ·have:=List.length_pos_iff.2 e0;right;rw[Zi]at b3;rw[show(P++[x])++(B1++(B2++S))=P++([x]++(B1++B2++S)) by simp,show(P++[x]).length+B1.length-1=k-1 by simp<;>omega];omega)
  exact fun y hy=>by have:=this y hy;omega
 have h2:∀y∈B2,x.seq≤y.seq:=pT (B:=B2) (P:=P++[x]++B1) (T:=S) s2 (by
  rcases b4 with b4|b4
  ·left;exact List.length_eq_zero_iff.1 (by omega)
  ·right;rw[decide_eq_false_iff_not]at b4;rw[show(P++[x]++B1)++(B2++S)=P++([x]++(B1++B2++S)) by simp,show(P++[x]++B1).length=k by simp<;>omega];omega)
 refine⟨B1++x::B2,V9 hB h1 h2,by simp<;>omega,?_⟩;rw[show P++([x]++(B1++B2++S))=P++x::(B1++(B2++S)) by simp]at*;have hup:=JW (c:=c) L (x:=x) B1 (P:=P) (S:=B2++S) hl hd;rw[show P.length+B1.length+1=k by omega]at hup;rw[show P++(B1++x::B2++S)=P++(B1++x::(B2++S)) by simp];clear hd hl hlen e1 b1 b2 b3 b4 h1 h2 lB;have w1:IntKind.i64.wrap (((P.length+1:Nat):Int)-P.length)=1:=by rw[ae (by omega) (by omega)];omega
 generalize(P++x::(B1++(B2++S))).length=n at*;generalize P.length+1+(B1++B2).length=z at*;generalize P.length+B1.length=z1 at*;generalize P.length+1=z2 at*;rw[ab dM rfl];simp only[go_sem,w1,hbs,hup]
theorem Un {P A S:List Rec}{x:Rec}{hp:List Blk}(hA:Srt A) (ha:2≤A.length) (hl:(P++(A++([x]++S))).length≤1000) (hd:Dat hp q (P++(A++([x]++S)))) (L:List Blk):
 ∃C,Mg (A++[x]) C∧C.length=A.length+1∧rf D az [bu q (P++(A++([x]++S))).length c,.int .i64 P.length,.int .i64 (P.length+A.length:Nat),.int .i64 (P.length+A.length+1:Nat),.fn aq []] ⟨L,hp⟩=some (.tup [],⟨L,hp.set q (.rw (.agg 56 ((P++(C++S)).map Rec.v)))⟩):=by
 have hlen:(P++(A++([x]++S))).length=P.length+A.length+1+S.length:=by simp<;>omega
 have e1:ak (P++(A++([x]++S))) (P.length+A.length)=x:=by rw[show P++(A++([x]++S))=(P++A)++x::S by simp];exact iR (by simp)
 have hbs:=AV (c:=c) hd hl (m:=P.length+A.length) (by omega) L A.length P.length (P.length+A.length) (by omega) (by omega) (by omega);rw[e1]at hbs;obtain⟨b1,b2,b3,b4⟩:=ul (f:=fun h=> !decide (x.seq<(ak (P++(A++([x]++S))) h).seq)) A.length P.length (P.length+A.length) (by omega) (by omega);generalize bsK (fun h=> !decide (x.seq<(ak (P++(A++([x]++S))) h).seq)) A.length P.length (P.length+A.length)=k at*;obtain⟨A1,A2,rfl,hA1⟩:∃A1 A2,A=A1++A2∧A1.length=k-P.length:=⟨A.take (k-P.length),A.drop (k-P.length),(List.take_append_drop _ _).symm,by rw[List.length_take];omega⟩;have lA:(A1++A2).length=A1.length+A2.length:=List.length_append;obtain⟨s1,s2,_⟩:=List.pairwise_append.1 hA;have h1:∀y∈A1,y.seq≤x.seq:=rB (B:=A1) (P:=P) (T:=A2++([x]++S)) s1 (by
  rcases b3 with b3|b3
  ·left;exact List.length_eq_zero_iff.1 (by omega)
  ·by_cases e0:A1=[]
   ·exact .inl e0
   ·have:=List.length_pos_iff.2 e0;right;rw[Bool.not_eq_true',decide_eq_false_iff_not]at b3;rw[show P++(A1++(A2++([x]++S)))=P++(A1++A2++([x]++S)) by simp,show P.length+A1.length-1=k-1 by omega];omega)
 have h2:∀y∈A2,x.seq<y.seq:=by
  have:=pT (B:=A2) (P:=P++A1) (T:=[x]++S) (v:=x.seq+1) s2 (by
   rcases b4 with b4|b4
   ·left;exact List.length_eq_zero_iff.1 (by omega)
   ·right;rw[Bool.not_eq_false',Zi]at b4;rw[show(P++A1)++(A2++([x]++S))=P++(A1++A2++([x]++S)) by simp,show(P++A1).length=k by simp<;>omega];omega)
  exact fun y hy=>by have:=this y hy;omega
 refine⟨A1++x::A2,SE hA h1 h2,by simp<;>omega,?_⟩;rw[show P++(A1++A2++([x]++S))=(P++A1)++(A2++x::S) by simp]at*;have hdn:=Kh (c:=c) L (x:=x) A2.length (A:=A2) (P:=P++A1) (S:=S) rfl hl hd;rw[show(P++A1).length=k by simp<;>omega,show k+A2.length=P.length+(A1++A2).length by omega]at hdn;rw[show P++(A1++x::A2++S)=(P++A1)++x::(A2++S) by simp];have w1:IntKind.i64.wrap (((P.length+(A1++A2).length:Nat):Int)-P.length)=((A1++A2).length:Int):=by rw[ae (by omega) (by omega)];omega
 have w2:IntKind.i64.wrap (((P.length+(A1++A2).length+1:Nat):Int)-((P.length+(A1++A2).length:Nat):Int))=1:=by rw[ae (by omega) (by omega)];omega
 have d1:¬((A1++A2).length:Int)=1:=by omega
 clear hd hl hlen e1 b1 b2 b3 b4 h1 h2 lA ha;generalize(P++A1++(A2++x::S)).length=n at*;generalize P.length+(A1++A2).length+1=z at*;generalize P.length+(A1++A2).length=z1 at*;generalize(A1++A2).length=z2 at*;rw[ab dM rfl];simp only[go_sem,w1,w2,d1,hbs,hdn]
theorem AD {p a b mid st0 r0 st:Nat}(hmid:mid=(p+(p+a+b))/2) (hst0:st0=if mid<p+a then mid+(p+a)-(p+a+b)else p) (hr0:r0=if mid<p+a then mid else p+a):
 st0≤r0∧p≤st0∧(st0≤st→st≤r0→st≤p+a∧st≤mid∧mid-st≤b∧(st=st0→st=p∨mid-st=b)∧(st=r0→st=p+a∨st=mid)):=by
 by_cases c:mid<p+a
 ·rw[if_pos c]at hst0 hr0;omega
 ·rw[if_neg c]at hst0 hr0;omega
theorem TD {P A B S:List Rec}(hA:Srt A) (hB:Srt B) {mid st0 r0 n:Nat}(hmid:mid=(P.length+(P.length+A.length+B.length))/2)
 (hst0:st0=if mid<P.length+A.length then mid+(P.length+A.length)-(P.length+A.length+B.length)else P.length) (hr0:r0=if mid<P.length+A.length then mid else P.length+A.length) (hn:r0-st0≤n):
 ∃A1 A2 B1 B2,A=A1++A2∧B=B1++B2∧bsK (fun h=> !decide ((ak (P++(A++(B++S))) (mid+(P.length+A.length)-1-h)).seq<(ak (P++(A++(B++S))) h).seq)) n st0 r0=P.length+A1.length∧mid=P.length+A1.length+B1.length∧
  (∀x∈A1,∀y∈B2,x.seq≤y.seq)∧∀x∈B1,∀y∈A2,x.seq<y.seq:=by
 have hsr:=(AD (st:=0) hmid hst0 hr0).1;have hps:=(AD (st:=0) hmid hst0 hr0).2.1;obtain⟨e1,e2,e3,e4⟩:=ul (f:=fun h=> !decide ((ak (P++(A++(B++S))) (mid+(P.length+A.length)-1-h)).seq<(ak (P++(A++(B++S))) h).seq)) n st0 r0 hsr hn;generalize bsK (fun h=> !decide ((ak (P++(A++(B++S))) (mid+(P.length+A.length)-1-h)).seq<(ak (P++(A++(B++S))) h).seq)) n st0 r0=st at*;obtain⟨n1,n2,n3,n4,n5⟩:=(AD (st:=st) hmid hst0 hr0).2.2 e1 e2;clear hmid hst0 hr0 hsr hn e2;obtain⟨A1,A2,rfl,hA1⟩:∃A1 A2,A=A1++A2∧A1.length=st-P.length:=⟨A.take (st-P.length),A.drop (st-P.length),(List.take_append_drop _ _).symm,by rw[List.length_take];omega⟩;obtain⟨B1,B2,rfl,hB1⟩:∃B1 B2,B=B1++B2∧B1.length=mid-st:=⟨B.take (mid-st),B.drop (mid-st),(List.take_append_drop _ _).symm,by rw[List.length_take];omega⟩;have lA:(A1++A2).length=A1.length+A2.length:=List.length_append;have lB:(B1++B2).length=B1.length+B2.length:=List.length_append;obtain⟨sA1,sA2,_⟩:=List.pairwise_append.1 hA;obtain⟨sB1,sB2,_⟩:=List.pairwise_append.1 hB;have k1:0<A1.length→0<B2.length→¬st=st0:=fun h1 h2 e=>by rcases n4 e with k|k<;>omega
 have k2:0<B1.length→0<A2.length→¬st=r0:=fun h1 h2 e=>by rcases n5 e with k|k<;>omega
 have k3:st=P.length+A1.length:=by omega
 have k4:mid=st+B1.length:=by omega
 clear n1 n2 n3 n4 n5 hA1 hB1 e1 hps lB;have q1:(P++A1).length=P.length+A1.length:=List.length_append;have q2:(P++A1++A2).length=P.length+A1.length+A2.length:=by rw[List.length_append,q1]
 have q3:(P++A1++A2++B1).length=P.length+A1.length+A2.length+B1.length:=by rw[List.length_append,q2]
 have z0:P++(A1++A2++(B1++B2++S))=P++(A1++(A2++(B1++(B2++S)))):=by simp
 have z1:P++A1++A2++B1++(B2++S)=P++(A1++(A2++(B1++(B2++S)))):=by simp
 have z2:P++A1++A2++(B1++(B2++S))=P++(A1++(A2++(B1++(B2++S)))):=by simp
 have z3:P++A1++(A2++(B1++(B2++S)))=P++(A1++(A2++(B1++(B2++S)))):=by simp
 rw[z0]at e3 e4;refine⟨A1,A2,B1,B2,rfl,rfl,k3,by omega,fun x hx y hy=> ?_,fun x hx y hy=> ?_⟩
 ·have p1:=List.length_pos_iff.2 (List.ne_nil_of_mem hx);have p2:=List.length_pos_iff.2 (List.ne_nil_of_mem hy);have e3:=e3.resolve_left (k1 p1 p2);rw[Bool.not_eq_true',decide_eq_false_iff_not,show mid+(P.length+(A1++A2).length)-1-(st-1)=(P++A1++A2++B1).length by omega]at e3;have f1:=rB (B:=A1) (P:=P) (T:=A2++(B1++(B2++S))) sA1 (.inr (Int.le_refl _)) x hx;have f2:=pT (B:=B2) (P:=P++A1++A2++B1) (T:=S) sB2 (.inr (Int.le_refl _)) y hy;rw[←k3]at f1;rw[z1]at f2;exact Int.le_trans f1 (Int.le_trans (Int.not_lt.1 e3) f2)
 ·have p1:=List.length_pos_iff.2 (List.ne_nil_of_mem hx);have p2:=List.length_pos_iff.2 (List.ne_nil_of_mem hy);have e4:=e4.resolve_left (k2 p1 p2);rw[Bool.not_eq_false',Zi,show mid+(P.length+(A1++A2).length)-1-st=(P++A1++A2).length+B1.length-1 by omega,show st=(P++A1).length by omega]at e4;have f1:=rB (B:=B1) (P:=P++A1++A2) (T:=B2++S) sB1 (.inr (Int.le_refl _)) x hx;have f2:=pT (B:=A2) (P:=P++A1) (T:=B1++(B2++S)) sA2 (.inr (Int.le_refl _)) y hy;rw[z2]at f1;rw[z3]at f2;exact Int.lt_of_le_of_lt f1 (Int.lt_of_lt_of_le e4 f2)
def Fw (q:Nat) (c:Option Nat) (L:List Blk) (N:Nat):Prop:=∀{P A B S:List Rec}{hp:List Blk},A.length+B.length≤N→A≠[]→B≠[]→Srt A→Srt B→(P++(A++(B++S))).length≤1000→Dat hp q (P++(A++(B++S)))→
 ∃C,Mg (A++B) C∧C.length=A.length+B.length∧rf D az [bu q (P++(A++(B++S))).length c,.int .i64 P.length,.int .i64 (P.length+A.length:Nat),.int .i64 (P.length+A.length+B.length:Nat),.fn aq []] ⟨L,hp⟩=some (.tup [],⟨L,hp.set q (.rw (.agg 56 ((P++(C++S)).map Rec.v)))⟩)
theorem Mn {A B:List Rec}(h:¬(0<A.length∧0<B.length)):A=[]∨B=[]:=by
 rcases Nat.eq_zero_or_pos A.length with k|k
 ·exact .inl (List.length_eq_zero_iff.1 k)
 ·exact .inr (List.length_eq_zero_iff.1 (by omega))
theorem Gd {L:List Blk}{N:Nat}(H:Fw q c L N) {P A B S:List Rec}{hp:List Blk}(hN:A.length+B.length≤N) (hA:Srt A) (hB:Srt B) (hl:(P++(A++(B++S))).length≤1000) (hd:Dat hp q (P++(A++(B++S)))):
 ∃C hp2,Mg (A++B) C∧C.length=A.length+B.length∧Dat hp2 q (P++(C++S))∧(∀X,hp2.set q X=hp.set q X)∧((0<A.length∧0<B.length∧rf D az [bu q (P++(A++(B++S))).length c,.int .i64 P.length,.int .i64 (P.length+A.length:Nat),.int .i64 (P.length+A.length+B.length:Nat),.fn aq []] ⟨L,hp⟩=some (.tup [],⟨L,hp2⟩))∨(¬(0<A.length∧0<B.length)∧hp2=hp)):=by
 by_cases k1:0<A.length∧0<B.length
 ·obtain⟨C,x1,x2,x3⟩:=H hN (List.length_pos_iff.1 k1.1) (List.length_pos_iff.1 k1.2) hA hB hl hd;exact⟨C,_,x1,x2,hd.set,fun X=>List.set_set ..,.inl ⟨k1.1,k1.2,x3⟩⟩
 ·refine⟨A++B,hp,?_,List.length_append,by rw[List.append_assoc];exact hd,fun _=>rfl,.inr ⟨k1,rfl⟩⟩;rcases Mn k1 with rfl|rfl
  ·exact J3 hB
  ·rw[List.append_nil];exact J3 hA
theorem Tn {L:List Blk}{P A B S:List Rec}{hp:List Blk}(hl:(P++(A++(B++S))).length≤1000) (hd:Dat hp q (P++(A++(B++S)))):
 ∃hp2,Dat hp2 q (P++(B++(A++S)))∧(∀X,hp2.set q X=hp.set q X)∧((0<A.length∧0<B.length∧rf D bG [bu q (P++(A++(B++S))).length c,.int .i64 P.length,.int .i64 (P.length+A.length:Nat),.int .i64 (P.length+A.length+B.length:Nat),.fn aq []] ⟨L,hp⟩=some (.tup [],⟨L,hp2⟩))∨(¬(0<A.length∧0<B.length)∧hp2=hp)):=by
 by_cases k1:0<A.length∧0<B.length
 ·exact⟨_,hd.set,fun X=>List.set_set ..,.inl ⟨k1.1,k1.2,Vn (List.length_pos_iff.1 k1.1) (List.length_pos_iff.1 k1.2) hl hd L⟩⟩
 ·refine⟨hp,?_,fun _=>rfl,.inr ⟨k1,rfl⟩⟩;rcases Mn k1 with rfl|rfl
  ·exact hd
  ·exact hd
end
theorem QY {p a b a1 a2 b1 b2 mid st0 r0:Nat}(hl:p+a+b≤1000) (lA:a=a1+a2) (lB:b=b1+b2) (hmd:mid=p+a1+b1) (hst0:st0=if mid<p+a then mid+(p+a)-(p+a+b)else p) (hr0:r0=if mid<p+a then mid else p+a) (hm:2*mid≤2*p+a+b∧2*p+a+b≤2*mid+1) (ha:0<a):
 IntKind.i64.wrap (((p+a:Nat):Int)-p)=(a:Int)∧IntKind.i64.wrap (((p+a+b:Nat):Int)-((p+a:Nat):Int))=(b:Int)∧IntKind.i64.wrap ((mid:Int)+((p+a:Nat):Int))=((mid+(p+a):Nat):Int)∧
 IntKind.i64.wrap (((mid+(p+a):Nat):Int)-1)=((mid+(p+a)-1:Nat):Int)∧IntKind.i64.wrap (((mid+(p+a):Nat):Int)-((p+a1:Nat):Int))=((mid+a2:Nat):Int)∧
 ((mid<p+a∧IntKind.i64.wrap (((mid+(p+a):Nat):Int)-((p+a+b:Nat):Int))=(st0:Int)∧r0=mid)∨(¬mid<p+a∧st0=p∧r0=p+a)):=by
 refine⟨by rw[ae (by omega) (by omega)];omega,by rw[ae (by omega) (by omega)];omega,by rw[ae (by omega) (by omega)];omega,by rw[ae (by omega) (by omega)];omega,by rw[ae (by omega) (by omega)];omega,?_⟩;by_cases c:mid<p+a
 ·rw[if_pos c]at hst0 hr0;exact .inl ⟨c,by rw[ae (by omega) (by omega)];omega,hr0⟩
 ·rw[if_neg c]at hst0 hr0;exact .inr ⟨c,hst0,hr0⟩
theorem Mv {p a b a1 a2 b1 b2 mid:Nat}(lA:a=a1+a2) (lB:b=b1+b2) (hmd:mid=p+a1+b1) (hm:2*mid≤2*p+a+b∧2*p+a+b≤2*mid+1) (ha:2≤a) (hb:2≤b):
 a1+b1<a+b∧a2+b2<a+b∧p+a1+a2=p+a∧p+a+b1=mid+a2∧mid+a2+b2=p+a+b∧(0<a1∨0<a2)∧(0<b1∨0<b2)∧
 ((((p+a1:Nat):Int)<((p+a:Nat):Int))↔0<a2)∧((((p+a:Nat):Int)<((mid+a2:Nat):Int))↔0<b1)∧(((p:Int)<((p+a1:Nat):Int))↔0<a1)∧((((p+a1:Nat):Int)<(mid:Int))↔0<b1)∧
 (((mid:Int)<((mid+a2:Nat):Int))↔0<a2)∧((((mid+a2:Nat):Int)<((p+a+b:Nat):Int))↔0<b2)∧((((p+a:Nat):Int)>(mid:Int))↔mid<p+a)∧¬(a:Int)=1∧¬(b:Int)=1:=by
 refine⟨by omega,by omega,by omega,by omega,by omega,by omega,by omega,by omega,by omega,by omega,by omega,by omega,by omega,by omega,by omega,by omega⟩
section
variable {q : Nat} {c : Option Nat}
theorem Rh {L hp hp1 hp2 hp3:List Blk}{n a b p m e x1 x2 x3 st0 r0 s em:Nat}{mid n1 n2 n3 n4:Nat}(w1:IntKind.i64.wrap ((p:Int)+(e:Int))=(x3:Int)) (w2:IntKind.u64.wrap (x3:Int)=(x3:Int)) (w3:gW .u64 (x3:Int) 1=(mid:Int)) (w4:IntKind.i64.wrap (mid:Int)=(mid:Int))
 (v1:IntKind.i64.wrap ((m:Int)-p)=(a:Int)) (v2:IntKind.i64.wrap ((e:Int)-(m:Int))=(b:Int)) (v3:IntKind.i64.wrap ((mid:Int)+(m:Int))=(x2:Int)) (v4:IntKind.i64.wrap ((x2:Int)-1)=(x1:Int)) (v5:IntKind.i64.wrap ((x2:Int)-(s:Int))=(em:Int))
 (v6:(mid<m∧IntKind.i64.wrap ((x2:Int)-(e:Int))=(st0:Int)∧r0=mid)∨(¬mid<m∧st0=p∧r0=m))
 (hbs:rc D L.length (.loop [0,1,2,3,4,18,19,20,21,22] aL) [(0,bu q n c),(1,.int .i64 p),(2,.int .i64 m),(3,.int .i64 e),(4,.fn aq []),(18,.int .i64 mid),(19,.int .i64 x2),(20,.int .i64 st0),(21,.int .i64 r0),(22,.int .i64 x1)] ⟨L,hp⟩=
  some (.exit 8,[(0,bu q n c),(1,.int .i64 p),(2,.int .i64 m),(3,.int .i64 e),(4,.fn aq []),(18,.int .i64 mid),(19,.int .i64 x2),(20,.int .i64 s),(21,.int .i64 s),(22,.int .i64 x1),(151,.bool false)],⟨L,hp⟩))
 (hs0:(0<n2∧0<n3∧rf D bG [bu q n c,.int .i64 s,.int .i64 m,.int .i64 em,.fn aq []] ⟨L,hp⟩=some (.tup [],⟨L,hp1⟩))∨(¬(0<n2∧0<n3)∧hp1=hp))
 (hs1:(0<n1∧0<n3∧rf D az [bu q n c,.int .i64 p,.int .i64 s,.int .i64 mid,.fn aq []] ⟨L,hp1⟩=some (.tup [],⟨L,hp2⟩))∨(¬(0<n1∧0<n3)∧hp2=hp1))
 (hs2:(0<n2∧0<n4∧rf D az [bu q n c,.int .i64 mid,.int .i64 em,.int .i64 e,.fn aq []] ⟨L,hp2⟩=some (.tup [],⟨L,hp3⟩))∨(¬(0<n2∧0<n4)∧hp3=hp2))
 (ka:0<n1∨0<n2) (kb:0<n3∨0<n4) (f1:((s:Int)<m)↔0<n2) (f2:((m:Int)<em)↔0<n3) (f3:((p:Int)<s)↔0<n1) (f4:((s:Int)<mid)↔0<n3) (f5:((mid:Int)<em)↔0<n2) (f6:((em:Int)<e)↔0<n4) (f7:((m:Int)>mid)↔mid<m) (y1:¬(a:Int)=1) (y2:¬(b:Int)=1):
 rf D az [bu q n c,.int .i64 p,.int .i64 m,.int .i64 e,.fn aq []] ⟨L,hp⟩=some (.tup [],⟨L,hp3⟩):=by
 by_cases k2:0<n2<;>by_cases k3:0<n3<;>by_cases k1:0<n1<;>by_cases k4:0<n4
 all_goals first
  |exact absurd (ka.resolve_left k1) k2
  |exact absurd (kb.resolve_left k3) k4
  |skip
 all_goals simp only[k1,k2,k3,k4,iff_true,iff_false,true_and,and_true,false_and,and_false,false_or,or_false,not_true,not_false_iff]at f1 f2 f3 f4 f5 f6 hs0 hs1 hs2
 all_goals try subst hs2
 all_goals try subst hs1
 all_goals try subst hs0
 all_goals clear ka kb k1 k2 k3 k4
 all_goals rcases v6 with⟨c7,v6,rfl⟩|⟨c7,rfl,rfl⟩
 all_goals rw[ab dM rfl]
 all_goals simp only[c7,iff_true,iff_false]at f7
 all_goals simp only[go_sem, *]
theorem T8 {p a b mid st0 r0 N:Nat}(hmid:mid=(p+(p+a+b))/2) (hst0:st0=if mid<p+a then mid+(p+a)-(p+a+b)else p) (hr0:r0=if mid<p+a then mid else p+a) (hN:p+a+b≤N) (ha:0<a):
 st0≤r0∧r0≤N∧(∀h,st0≤h→h<r0→h≤mid+(p+a)-1∧mid+(p+a)-1-h<N)∧(2*mid≤2*p+a+b∧2*p+a+b≤2*mid+1):=by
 by_cases c:mid<p+a
 ·rw[if_pos c]at hst0 hr0;exact⟨by omega,by omega,fun h x y=>by omega,by omega⟩
 ·rw[if_neg c]at hst0 hr0;exact⟨by omega,by omega,fun h x y=>by omega,by omega⟩
theorem So {P A B S:List Rec}:(P++(B++(A++S))).length=(P++(A++(B++S))).length:=by simp only[List.length_append];omega
theorem Sk {P C S:List Rec}{A B:List Rec}(h:C.length=A.length+B.length):(P++(C++S)).length=(P++(A++(B++S))).length:=by simp only[List.length_append];omega
theorem PL {L:List Blk}{N:Nat}(H:Fw q c L N):Fw q c L (N+1):=by
 intro P A B S hp h ha hb hA hB hl hd;have la:0<A.length:=List.length_pos_iff.2 ha;have lb:0<B.length:=List.length_pos_iff.2 hb;by_cases a1:A.length=1
 ·obtain⟨x,rfl⟩:=List.length_eq_one_iff.1 a1;obtain⟨C,c1,c2,c3⟩:=SA (c:=c) hB hb hl hd L;exact⟨C,c1,c2,c3⟩
 by_cases b1:B.length=1
 ·obtain⟨x,rfl⟩:=List.length_eq_one_iff.1 b1;obtain⟨C,c1,c2,c3⟩:=Un (c:=c) hA (by omega) hl hd L;exact⟨C,c1,c2,c3⟩
 have hlen:P.length+A.length+B.length≤(P++(A++(B++S))).length:=by simp only[List.length_append];omega
 have hl2:P.length+A.length+B.length≤1000:=Nat.le_trans hlen hl;obtain⟨w1,w2,w3,w4⟩:=Cr (i:=P.length) (j:=P.length+A.length+B.length) (by omega);have a2:2≤A.length:=by omega
 have b2:2≤B.length:=by omega
 clear a1 b1 lb;obtain⟨mid,hmid⟩:∃mid,mid=(P.length+(P.length+A.length+B.length))/2:=⟨_,rfl⟩;rw[←hmid]at w3 w4;obtain⟨st0,hst0⟩:∃x,x=if mid<P.length+A.length then mid+(P.length+A.length)-(P.length+A.length+B.length)else P.length:=⟨_,rfl⟩
 obtain⟨r0,hr0⟩:∃x,x=if mid<P.length+A.length then mid else P.length+A.length:=⟨_,rfl⟩
 obtain⟨n0,n1,n2,n3⟩:=T8 hmid hst0 hr0 hlen la;have hbs:=Bq (c:=c) hd hl (a:=P.length) (m:=P.length+A.length) (b:=P.length+A.length+B.length) (mid:=mid) (n0:=mid+(P.length+A.length)) (p:=mid+(P.length+A.length)-1) L (r0-st0) st0 r0 n0 (Nat.le_refl _) n1 n2;obtain⟨A1,A2,B1,B2,rfl,rfl,hst,hmd,hle,hlt⟩:=TD (S:=S) hA hB hmid hst0 hr0 (Nat.le_refl _);rw[hst]at hbs;clear hst hmid n0 n1 n2;have lA:(A1++A2).length=A1.length+A2.length:=List.length_append;have lB:(B1++B2).length=B1.length+B2.length:=List.length_append;obtain⟨sA1,sA2,_⟩:=List.pairwise_append.1 hA;obtain⟨sB1,sB2,_⟩:=List.pairwise_append.1 hB;obtain⟨v1,v2,v3,v4,v5,v6⟩:=QY hl2 lA lB hmd hst0 hr0 n3 la;obtain⟨u1,u2,u3,u4,u5,ka,kb,f1,f2,f3,f4,f5,f6,f7,y1,y2⟩:=Mv (p:=P.length) lA lB hmd n3 a2 b2;clear hst0 hr0 n3;have z0:P++(A1++A2++(B1++B2++S))=P++A1++(A2++(B1++(B2++S))):=by simp
 have z1:P++A1++(B1++(A2++(B2++S)))=P++(A1++(B1++(A2++(B2++S)))):=by simp
 rw[z0]at hl hd hbs⊢;obtain⟨hp1,hd1,h1s,hs0⟩:=Tn (c:=c) (L:=L) hl hd;have l1:=So (P:=P++A1) (A:=A2) (B:=B1) (S:=B2++S);rw[z1]at hd1 l1;obtain⟨C1,hp2,m1,m1l,hd2,h2s,hs1⟩:=Gd H (Nat.le_of_lt_succ (Nat.lt_of_lt_of_le u1 h)) sA1 sB1 (by rw[l1];exact hl) hd1;have l2:=(Sk (P:=P) (S:=A2++(B2++S)) m1l).trans l1;rw[show P++(C1++(A2++(B2++S)))=P++C1++(A2++(B2++S)) by simp]at hd2 l2;obtain⟨C2,hp3,m2,m2l,hd3,h3s,hs2⟩:=Gd H (Nat.le_of_lt_succ (Nat.lt_of_lt_of_le u2 h)) sA2 sB2 (by rw[l2];exact hl) hd2;refine⟨C1++C2,UH hA hB hle hlt m1 m2,by rw[List.length_append,m1l,m2l,lA,lB];exact Nat.add_add_add_comm _ _ _ _,?_⟩;have hfin:hp.set q (.rw (.agg 56 ((P++(C1++C2++S)).map Rec.v)))=hp3:=by rw[←h1s,←h2s,←h3s,show P++(C1++C2++S)=P++C1++(C2++S) by simp];exact dD hd3.get
 rw[hfin];rw[l1]at hs1;rw[l2]at hs2;have p1:(P++A1).length=P.length+A1.length:=List.length_append;have p2:(P++C1).length=mid:=by rw[List.length_append,m1l,hmd,Nat.add_assoc]
 rw[p1,u3,u4]at hs0;rw[←hmd]at hs1;rw[p2,u5]at hs2;exact Rh w1 w2 w3 w4 v1 v2 v3 v4 v5 v6 hbs hs0 hs1 hs2 ka kb f1 f2 f3 f4 f5 f6 f7 y1 y2
theorem RW (L:List Blk):∀N,Fw q c L N
 |0=>fun h ha _ _ _ _ _=>absurd (List.length_eq_zero_iff.1 (by omega)) ha
 |N+1=>PL (RW L N)
theorem At {P U S:List Rec}{hp:List Blk}(hl:(P++(U++S)).length≤1000) (hd:Dat hp q (P++(U++S))) (L:List Blk):
 ∃hp',rf D aS [bu q (P++(U++S)).length c,.int .i64 P.length,.int .i64 (P.length+U.length:Nat),.fn aq []] ⟨L,hp⟩=some (.tup [],⟨L,hp'⟩)∧Dat hp' q (P++(bD U++S))∧∀X,hp'.set q X=hp.set q X:=by
 have hlen:(P++(U++S)).length=P.length+U.length+S.length:=by simp<;>omega
 cases U with
 |nil=>exact⟨hp,IJ (by simp) (by omega) L,hd,fun _=>rfl⟩
 |cons x u=>
  have h:=BO (c:=c) (a:=P.length) (n:=P.length+(x::u).length) (by omega) (by simp) hl hd L;have hs:=xd (a:=P.length) (p:=P) rfl u [x] S (List.pairwise_singleton _ _);rw[show P.length+(x::u).length-(P.length+1)=u.length by simp<;>omega,show P++(x::u++S)=P++([x]++(u++S))from rfl,show P.length+1=P.length+[x].length from rfl,hs]at h
  exact⟨_,h,hd.set,fun X=>List.set_set ..⟩
theorem IM {n:Nat}(h:n<40):oV n:= @fun q c hp l L hl h0 hd=>by
 by_cases h20:n<20
 ·exact ra h20 L hl h0 hd
 ·obtain⟨P,U,rfl,hP⟩:∃P U,l=P++U∧P.length=20:=⟨l.take 20,l.drop 20,(List.take_append_drop _ _).symm,by rw[List.length_take];omega⟩;have hlen:(P++U).length=20+U.length:=by rw[List.length_append,hP]
  obtain⟨hp1,e1,d1,s1⟩:=At (c:=c) (P:=[]) (U:=P) (S:=U) (by rw[List.nil_append];omega) hd L;have l1:([]++(bD P++U)).length=(P++U).length:=by simp[dH]
  rw[List.nil_append]at d1 l1 e1;obtain⟨hp2,e2,d2,s2⟩:=At (c:=c) (P:=bD P) (U:=U) (S:=[]) (by rw[List.append_nil,l1];omega) (by rw[List.append_nil];exact d1) L;rw[List.append_nil,l1,dH,hP]at e2;rw[List.append_nil]at d2;simp only[List.length_nil,Nat.zero_add,hP]at e1;have hlt:(bD P++bD U).length=(P++U).length:=by simp[dH]
  have hfin:∀C,Mg (bD P++bD U) C→C=bD (P++U):=fun C m=>Mg.eq_sortR ⟨m.srt,fun k=>by rw[m.fl,me,(AI P).fl,(AI U).fl,me]⟩;have key:∃hp3,((0<U.length∧rf D az [bu q (P++U).length c,.int .i64 0,.int .i64 20,.int .i64 (20+U.length:Nat),.fn aq []] ⟨L,hp2⟩=some (.tup [],⟨L,hp3⟩))∨(U.length=0∧hp3=hp2))∧hp3=hp.set q (.rw (.agg 56 ((bD (P++U)).map Rec.v))):=by
   by_cases hU:U.length=0
   ·refine⟨hp2,.inr ⟨hU,rfl⟩,?_⟩;have:U=[]:=List.length_eq_zero_iff.1 hU;subst this;rw[←s1,←s2,List.append_nil];have:bD ([]:List Rec)=[]:=rfl;rw[this,List.append_nil]at d2;exact(dD d2.get).symm
   ·obtain⟨C,m1,_,m3⟩:=RW (q:=q) (c:=c) L (bD P++bD U).length (P:=[]) (A:=bD P) (B:=bD U) (S:=[]) (hp:=hp2) (by rw[List.length_append];exact Nat.le_refl _) (fun e=>by have:=dH P;rw[e]at this;simp at this;omega) (fun e=>by have:=dH U;rw[e]at this;simp at this;omega) (uK P) (uK U) (by rw[List.nil_append,List.append_nil,hlt];omega) (by rw[List.nil_append,List.append_nil];exact d2);rw[List.nil_append,List.append_nil,hlt,dH,dH,hP,List.length_nil,Nat.zero_add,List.nil_append,List.append_nil,hfin C m1,show((20:Nat):Int)=20 from rfl,show((0:Nat):Int)=0 from rfl]at m3
    exact⟨_,.inl ⟨by omega,m3⟩,by rw[s2,s1]⟩
  obtain⟨hp3,k1,rfl⟩:=key;have hU20:U.length<20:=by omega
  rw[hlen]at e1 e2 k1⊢;have i20:((20:Nat):Int)=20:=rfl;have i0:((0:Nat):Int)=0:=rfl;have w40:IntKind.i64.wrap 40=40:=rfl;have w20:IntKind.i64.wrap 20=20:=rfl;rw[i20]at e1 e2;rw[i0]at e1;have c1:(20:Int)≤((20+U.length:Nat):Int):=by omega
  have c2:¬(40:Int)≤((20+U.length:Nat):Int):=by omega
  have c3:¬(40:Int)<((20+U.length:Nat):Int):=by omega
  have h1:rf D bH [bu q (20+U.length) c,.int .i64 (20+U.length:Nat),.fn aq []] ⟨L,hp⟩=some (.tup [],⟨L,hp.set q (.rw (.agg 56 ((bD (P++U)).map Rec.v)))⟩):=by
   rw[ab eF rfl];simp only[go_sem];rw[aa];simp only[go_sem,bv,w40,c1,e1];rw[aa];simp only[go_sem,bv,w40,c2,e2];rw[aa];rcases k1 with⟨k0,k1⟩|⟨k0,k1⟩
   ·have c4:(20:Int)<((20+U.length:Nat):Int):=by omega
    simp only[go_sem,bd,w40,w20,c4];rw[aa];simp only[go_sem,gM,w40,w20,c2,c4,k1];rw[aa];simp only[go_sem,bd,w40,w20,c3]
   ·have c4:¬(20:Int)<((20+U.length:Nat):Int):=by omega
    simp only[go_sem,bd,w40,w20,c4,k1]
  clear hd;rw[ab eg rfl];simp only[go_sem,h1]
end
theorem O8 (o:Obj):veq o.v o.v=some true:=by have:=vS (k:= .u64) (A:=o.l) (B:=o.l) rfl;obtain⟨k,v,l⟩:=o;simp only[Obj.v,decide_true]at*;simp only[Ju,EU,Jr,FG,if_true,decide_true,aP,this]
section
variable {a m fr a2 m2 fr2 c2 : Nat} {hp : List Blk} {Fm Fm2 : Ft} {x : AS}
theorem Om (W:bX hp Fm a m fr x) (V2:dS hp Fm2 a2 m2 fr2 c2 x) (hc:x.M.count<1000000) (b:Sup) (slot next:Int) (X Y:Blk) (hX:∀n,bl n X=true) (hY:∀n,bl n Y=true) (L:List Blk):
 rc D L.length (.loop [2,3,7] fK) [(2,.ptr (.loc L.length) [] 41),(3,.ptr (.loc (L.length+1)) [] 41),(7,.int .i64 0)] ⟨L++[.rw (iS (.ptr (.hp a) [] 43) b.v slot next),.rw (iS (.ptr (.hp a2) [] 31) b.v slot next),X,Y],hp⟩=
  some (.exit 0,[(2,.ptr (.loc L.length) [] 41),(3,.ptr (.loc (L.length+1)) [] 41),(7,.int .i64 49),(89,.bool false)],⟨L++[.rw (iS (.ptr (.hp a) [] 43) b.v slot next),.rw (iS (.ptr (.hp a2) [] 31) b.v slot next),X,Y],hp⟩):=by
 refine bC (fun i:Nat=>[(2,.ptr (.loc L.length) [] 41),(3,.ptr (.loc (L.length+1)) [] 41),(7,.int .i64 i)]) (fun _=>⟨L++[.rw (iS (.ptr (.hp a) [] 43) b.v slot next),.rw (iS (.ptr (.hp a2) [] 31) b.v slot next),X,Y],hp⟩) (fun _=>_) (fun i=>49-i) (fun i=>i≤49) 0 ?_ (by omega) rfl rfl
 intro i hi;by_cases c1:i<49
 ·left;have d1:(i:Int)<49:=by omega
  have d4:IntKind.i64.wrap ((i:Int)+1)=((i+1:Nat):Int):=ae (by omega) (by omega);have g1:=fun L=>zc W (i:Int) L;have g2:=fun L=>Oo V2 hc (i:Int) L;have hv:=O8 (x.get i).1;have ht:(x.get i).1.v.tag=26:=rfl;generalize x.get (i:Int)=r at*;obtain⟨o,e⟩:=r;refine⟨i+1,by omega,by omega,rfl,?_⟩;simp only at g1 g2 hv ht;generalize o.v=O at*;have z0:L.length<L.length+4:=by omega
  have z1:L.length+1<L.length+4:=by omega
  have hb:∀n,V.locLt n b.v=true:=fun n=>by cases b;rfl
  generalize b.v=B at*;simp only[iS]at*;simp only[go_sem,fK,d1,g1,g2,ht,hv,d4,hX,hY,z0,z1,hb]
 ·right;have:i=49:=by omega
  subst this;simp only[iS];simp only[go_sem,fK]
theorem Mc (W:bX hp Fm a m fr x) (V2:dS hp Fm2 a2 m2 fr2 c2 x) (hc:x.M.count<1000000) (b:Sup) (slot next:Int) (L:List Blk):
 rf D eL [iS (.ptr (.hp a) [] 43) b.v slot next,iS (.ptr (.hp a2) [] 31) b.v slot next] ⟨L,hp⟩=some (.bool true,⟨L,hp⟩):=by
 have h1:=fun L=>KY W L;have h2:=fun L=>IV W L;have h3:=fun L=>Lr W L;have h4:=fun L=>B5 V2.fq L;have hst:=V2.st;have hl:=Om W V2 hc b slot next (.rw (ac x.base)) (.rw (aM x.dir)) (fun n=>by simp only[bl,fV]) (fun n=>by simp only[bl,Dj]) L
 have q1:=Gb x.base;have q2:=Gb x.work;have q3:=Pe x.dir;have q4:V.flats (tab 49 fun i=>(x.work i).v)=true:=uq fun v hv=>by obtain⟨j,_,rfl⟩:=List.mem_map.1 hv;rfl
 clear W V2;obtain⟨bg,br,bq,bc⟩:=b;simp only[iS,Sup.v,ac,aM,AS.r,jM.v,Ent.v]at*;rw[ab ph rfl];simp only[go_sem,h1,h2,h3,h4,hst,q1,q2,q3,q4,hl]
theorem CI (L:List Blk):rf D eL [bm,bm] ⟨L,hp⟩=some (.bool true,⟨L,hp⟩):=by have hn0:bm= .agg 41 [.nilp,.agg 44 [.int .i64 0,.int .i64 0,.int .i64 0,.int .i64 0],.int .i64 0,.int .i64 0]:=rfl;rw[hn0,ab ph rfl];simp only[go_sem]
end
theorem VU {hp:List Blk}{v:V}{l:List V}(h:RS ⟨[],hp⟩ 26 v l):∃v',RS ⟨[],hp⟩ 26 v' (l.take 60)∧v'.locLt 0=true∧∀s,rf D lF [v] s=some (v',s):=by
 have hs:=h.slen;by_cases c:60<l.length
 ·obtain⟨v',h1,h2,h3⟩:=h.take (n:=60) (by omega) (k:= .i64);rw[show((60:Nat):Int)=60 from rfl]at h1
  have d1:(l.length:Int)>60:=by omega
  have hv:v'.locLt 0=true:=h2.locLt;refine⟨v',h2,hv,fun s=> ?_⟩;have hv:=bE (Nat.zero_le s.loc.length) hv;rw[ab qj rfl];simp only[go_sem,hs,d1,h1,hv]
 ·have d1:¬(l.length:Int)>60:=by omega
  have hv:v.locLt 0=true:=h.locLt;refine⟨v,by rw[List.take_of_length_le (by omega)];exact h,hv,fun s=> ?_⟩;have hv:=bE (Nat.zero_le s.loc.length) hv;rw[ab qj rfl];simp only[go_sem,hs,d1,hv]
theorem Q7 {hp:List Blk}{r:Nat}{v:V}(h:(Sh.sl r (.int .i64)).Fits hp v):∃ks:List Int,(∀k∈ks,-9223372036854775808≤k∧k≤9223372036854775807)∧v.locLt 0=true∧RS ⟨[],hp⟩ 10 v (ks.map (.int .i64))∧∀{hp':List Blk}{F:Ft},hp<+:hp'→ru hp.length F→lG hp' F v ks:=by
 rcases h with rfl|⟨i,l,c,rfl,h1,h2,h3,h4⟩
 ·exact⟨[],by simp,rfl,.inl ⟨rfl,rfl⟩,fun _ _=> .nil⟩
 ·obtain⟨ks,rfl,hk⟩:=Hm (f:=V.int .i64) (fun x hx=>Ku (h4 x hx));refine⟨ks,hk,rfl,.inr ⟨.hp i,[],0,some c,rfl,fun k hk=>(by cases hk;exact h1),by simp[V.locLt],?_⟩,fun{hp' F} hpre hab=> ?_⟩
  ·rcases h3 with h3|h3
   ·exact .inl h3
   ·exact .inr ⟨r,ks.map (.int .i64),by simp only[qS,h3,Ld,nX],fun j x hx=>by rw[Nat.zero_add];exact hx⟩
  have:=lG.sl (hp:=hp') (F:=F) i 0 c r (ks.map (V.int .i64)) ks (by simpa using h1) ?_ (by simp) (fun j hj=> ?_)
  ·rw[List.length_map];exact this
  ·rcases h3 with h3|h3
   ·exact .inl (List.map_eq_nil_iff.1 h3)
   ·refine .inr ⟨eH hpre h3,fun hF=> ?_⟩;have:=hab i hF;have:=aj h3;omega
  ·rw[Nat.zero_add,List.getElem?_map,List.getD_eq_getElem?_getD,List.getElem?_eq_getElem hj];rfl
theorem WR {M:AM}{b:Sup}{slot:Int}{A:AF}(h:M.bt=(some (b,slot,A),0)):b.ok=true:=by
 unfold AM.bt at h;split at h
 ·cases h
 ·split at h
  ·cases h
  ·rename_i c;simp only at h;split at h
   ·cases h
   ·split at h
    ·cases h
    ·split at h
     ·cases h
     ·cases h;exact Ds (by simpa using c)
theorem HO {M:AM}{b:Sup}{A:AF}(h:b.ok=true):(M.booted b A).1.M.count≤M.count+256:=by
 have h1:=sW (q:=b.seq) (t:=ldT M (M.now b.root.toNat)) (M.recs b) (x:=M.st0 b A);have h2:(M.recs b).length≤32:=by have:=(uT h).2.2.2;have:=qa M (4*b.cores.toNat) 2;unfold AM.recs;rw[dH];omega
 have h3:(M.st0 b A).M=M:=rfl;rw[h3]at h1;unfold AM.booted;omega
theorem W8 {m m2:Nat}{F F2:Ft}{M:AM}{hp:List Blk}(h:aI hp F m M) (h2:aV hp F2 m2 M) (ap:fG F F2) (hG:hp[0]?=some (.ro ep)) (hz:¬F 0) (hz2:¬F2 0) (rg:M.Rg) (hc:M.count+400<1000000) (L:List Blk):
 ∃hp1 hp2 I1 I2 e F' F2' M',rf D gV [.ptr (.hp m) [] 59] ⟨L,hp⟩=some (.tup [I1,.int .i64 e],⟨L,hp1⟩)∧rf D dm [.ptr (.hp m2) [] 33] ⟨L++[.rw I1],hp1⟩=some (.tup [I2,.int .i64 e],⟨L++[.rw I1],hp2⟩)∧
  aI hp2 F' m M'∧aV hp2 F2' m2 M'∧(∀L,rf D eL [I1,I2] ⟨L,hp2⟩=some (.bool true,⟨L,hp2⟩))∧I1.tag=41∧I2.tag=41∧(∀n,V.locLt n I1=true)∧(∀n,V.locLt n I2=true)∧(M'=M∨∃b slot A,M.bt=(some (b,slot,A),0)∧e=(M.booted b A).2):=by
 have hS:∀n,n≤32→(M.off=false→(bb M 2 (4*(a9 (M.now 0) (M.now 1)).1.cores.toNat)).length=n)→oV n:=fun n hn _=>IM (by omega);rcases DT h hG hz rg.rn hS hc L with⟨e0,X,e1⟩|⟨b,slot,A,hp1,Fm1,a,fr,e0,W,g1,e1⟩
 ·have h2':aV (hp++X) F2 m2 M:=h2.chg (oW hp X fun _=>False) fun _ h=>h.elim;have hn0:∀n,V.locLt n bm=true:=fun n=>rfl;rcases xA h2' rg.rn hc (L++[.rw bm])with⟨_,hp2,G2,e2,g2⟩|⟨_,_,_,_,_,_,_,_,q,_⟩
  ·refine⟨_,hp2,bm,bm,_,F,F2,M,e1,e2,(h.snoc X).chg g2 fun _ h=>h.elim,h2'.chg g2 fun _ h=>h.elim,fun L=>CI L,rfl,rfl,hn0,hn0,.inl rfl⟩
  ·rw[q]at e0;cases e0
 ·have hm2:aV hp1 F2 m2 M:=h2.chg g1 ap;have hbv:∀n,V.locLt n b.v=true:=fun n=>by cases b;rfl
  have hn0:∀n,V.locLt n bm=true:=fun n=>rfl;have hi0:∀n p t k,V.locLt n (iS (.ptr (.hp p) [] t) b.v slot k)=true:=fun n p t k=>by have:=hbv n;simp only[iS];simp only[go_sem,this]
  have apW:fG F2 (il a fr Fm1):=(g1.apart ap h2.inn).symm;have key:∀I1:V,∃hp2 Fm2 a2 fr2 c2,bX hp2 Fm1 a m fr (M.booted b A).1∧dS hp2 Fm2 a2 m2 fr2 c2 (M.booted b A).1∧rf D dm [.ptr (.hp m2) [] 33] ⟨L++[.rw I1],hp1⟩=some (if(M.booted b A).2=0 then .tup [iS (.ptr (.hp a2) [] 31) b.v slot (fI b.seq (M.recs b)+1),.int .i64 0]else .tup [bm,.int .i64 (M.booted b A).2],⟨L++[.rw I1],hp2⟩):=fun I1=>by
   rcases xA hm2 rg.rn hc (L++[.rw I1])with⟨q,_⟩|⟨b',slot',A',hp2,Fm2,a2,fr2,c2,q,V2,g2,e2⟩
   ·rw[e0]at q;cases q
   ·rw[e0]at q;cases q;exact⟨hp2,Fm2,a2,fr2,c2,bX.chg W g2 apW hz2,V2,e2⟩
  have hcn:=HO (M:=M) (A:=A) (WR e0);by_cases c:(M.booted b A).2=0
  ·rw[if_pos c]at e1;obtain⟨hp2,Fm2,a2,fr2,c2,W2,V2,e2⟩:=key (iS (.ptr (.hp a) [] 43) b.v slot (fI b.seq (M.recs b)+1));rw[if_pos c]at e2;exact⟨hp1,hp2,_,_,0,Fm1,Fm2,_,e1,e2,W2.mp,V2.mq,fun L=>Mc W2 V2 (by omega) b slot _ L,rfl,rfl,fun n=>hi0 n _ _ _,fun n=>hi0 n _ _ _,.inr ⟨b,slot,A,e0,c.symm⟩⟩
  ·rw[if_neg c]at e1;obtain⟨hp2,Fm2,a2,fr2,c2,W2,V2,e2⟩:=key bm;rw[if_neg c]at e2;exact⟨hp1,hp2,_,_,_,Fm1,Fm2,_,e1,e2,W2.mp,V2.mq,fun L=>CI L,rfl,rfl,hn0,hn0,.inr ⟨b,slot,A,e0,rfl⟩⟩
theorem law_ReviveFormats:∀hp vs,G<+:hp→Sh.FitsL hp [(.arr 22 2 (.int .i64)),(.sl 28 (.st 26 [(.int .i64),(.int .i64),(.arr 24 8 (.int .u64))])),(.st 21 [(.int .i64),(.sl 38 (.int .i64))])] vs→∃s',rf D fd vs ⟨[],hp⟩=some (.bool true,s'):=by
 intro hp vs hpre hf;obtain⟨xv,lv,pv,rfl,hx,hl,hpw⟩:=RA hf;obtain⟨xs,rfl,hx2,hxs⟩:=hx;obtain⟨a0,b0,rfl⟩:∃a b,xs=[a,b]:=by
  match xs,hx2 with
  |[a,b],_=>exact⟨a,b,rfl⟩
 obtain⟨x0,rfl,x00,x01⟩:=Ku (hxs a0 (by simp));obtain⟨x1,rfl,x10,x11⟩:=Ku (hxs b0 (by simp));obtain⟨ps,rfl,hps⟩:=hpw;obtain⟨at',kv,rfl,hat,hk⟩:=Ru hps;obtain⟨c1,rfl,hc0,hc1⟩:=Ku hat;obtain⟨l0,hrsl,hlt,hlen,hfit⟩:=LQ hl;obtain⟨l,rfl,hlo⟩:=Hm (f:=Obj.v) (fun x hx=>UF (hfit x hx));obtain⟨ks,hks,hkv,hkr,hK⟩:=Q7 hk;have hG:=TG hpre;let X:Blk:= .rw (.agg 22 [.int .i64 x0,.int .i64 x1]);let P:Blk:= .rw (.agg 21 [.int .i64 c1,kv]);obtain⟨h0,e0,p0⟩:=Kw [X,P] hG;have hkr0:=Hi x0 (n:=64) (by decide);obtain⟨n,hn⟩:∃n:Nat,64+kd x0 64=n:=⟨(64+kd x0 64).toNat,by omega⟩;have w0:IntKind.i64.wrap (64+kd x0 64)=(n:Int):=by rw[hn];exact ae (by omega) (by omega)
 have hkd:=fun s=>Ev x0 64 x00 x01 (by decide) s;have hkr1:=Hi x1 (n:=8) (by decide);have hkd1:=fun s=>Ev x1 8 x10 x11 (by decide) s;have w1:IntKind.i64.wrap (1+kd x1 8)=1+kd x1 8:=ae (by omega) (by omega);have hF1:=fun s=>qU (c:=1+kd x1 8) (by omega) s;have hF2:=fun s=>sG (c:=1+kd x1 8) (by omega) s;obtain⟨X0,hx0,e1,m0⟩:=EE (n:=n) (by omega) (by omega) h0 [X,P];obtain⟨X1,hx1,e2,q0⟩:=MN (n:=n) (by omega) (by omega) (h0++X0) [X,P];have m0:=m0.snoc X1;have hl0:=p0.length_le;have lx:(h0++X0).length=h0.length+2:=by rw[List.length_append,hx0]
 rw[lx]at e2 q0;have p2:hp<+:h0++X0++X1:=p0.trans ((List.prefix_append _ _).trans (List.prefix_append _ _));have ap0:fG (fun j=>j=h0.length∨j=h0.length+1) (fun j=>j=h0.length+2+1∨j=h0.length+2+2∨j=h0.length+2+3):=fun j h1 h2=>by omega
 have ab0:ru hp.length (fun j=>j=h0.length∨j=h0.length+1):=fun j hj=>by omega
 have bb0:ru hp.length (fun j=>j=h0.length+2+1∨j=h0.length+2+2∨j=h0.length+2+3):=fun j hj=>by omega
 generalize h0++X0++X1=h2 at*;generalize h0.length+2+3=m2 at*;generalize hF0:(fun j=>j=h0.length∨j=h0.length+1)=F0 at*;generalize hQ0:(fun j=>j=h0.length+2+1∨j=h0.length+2+2∨j=m2)=Q0 at*;generalize h0.length+1=m at*;clear hF0 hQ0;obtain⟨h3,e3,m3,g3⟩:=LG m0 c1 hc1 [X,P];have q3:=q0.chg g3 ap0;obtain⟨p3,ab3⟩:=g3.pre p2 ab0;obtain⟨h4,e4,q4,g4⟩:=KS q3 c1 hc1 [X,P];have m4:=m3.chg g4 ap0.symm;obtain⟨p4,bb4⟩:=g4.pre p3 bb0;have rg4:((am0 n fun _=>zl).fuse c1).Rg:=(HJ n).fuse c1;have k4:((am0 n fun _=>zl).fuse c1).count=0:=rfl;generalize(am0 n fun _=>zl).fuse c1=M4 at*;obtain⟨lw,hrw,hlw,hfew⟩:=VU hrsl;rw[←List.map_take]at hrw;have h8:∀o∈l.take 60,o.l.length=8:=fun o ho=>(hlo o (List.mem_of_mem_take ho)).l8;have hw8:∀o∈l.take 60,∀x∈o.l,W64 x:=fun o ho=>(hlo o (List.mem_of_mem_take ho)).w;have h60:(l.take 60).length≤60:=by rw[List.length_take];omega
 obtain⟨h5,F5,e5,m5,g5⟩:=D4 (m:=m) (L:=[]) (lv:=lw) hlw (l:=l.take 60) (fun X hp' F' hg=>hrw.more ⟨List.nil_prefix,(hg.pre p4 ab3).1⟩) h8 (by omega) x1 m4 (by omega);have q5:=q4.chg g5 ap0;have ap5:=g5.apart ap0 q4.inn;obtain⟨p5,ab5⟩:=g5.pre p4 ab3;obtain⟨h6,Q6,e6,q6,g6⟩:=BF hrw h8 (by omega) x1 q5 (by omega) p5 bb4 [X,P];have m6:=m5.chg g6 ap5.symm;have ap6:=(g6.apart ap5.symm m5.inn).symm;obtain⟨p6,bb6⟩:=g6.pre p5 bb4;obtain⟨r1,r2,r3⟩:=Ry rg4 x1 (l:=l.take 60) hw8;generalize M4.fmt x1 (l.take 60)=s6 at*;obtain⟨M6,er⟩:=s6;simp only at e5 e6 m6 q6 r1 r2 r3;have hst6:=fun L=>Al m6 L;obtain⟨_,_,_,_,_,_,_,hq6,_⟩:=q6.mb;obtain⟨h7,F7,e7,m7,g7⟩:=Iw m6 (by omega) (hK p6 ab5) hks [X,P];have q7:=q6.chg g7 ap6;have ap7:=g7.apart ap6 q6.inn;obtain⟨p7,ab7⟩:=g7.pre p6 ab5;obtain⟨h8',Q8,e8,q8,g8⟩:=Iy q7 (by omega) hkr hks p7 bb6 [X,P];have m8:=m7.chg g8 ap7.symm;have ap8:=(g8.apart ap7.symm m7.inn).symm;obtain⟨p8,bb8⟩:=g8.pre p7 bb6;have rg8:=AM.Rg.crash r1 ks;have c8:(M6.crash ks).count=M6.count:=(wS M6.n 0 (M:=M6) (ks:=ks)).2;have hp0:0<hp.length:=aj hG;obtain⟨h9,h10,I1,I2,e,F9,Q9,M9,e9,e10,m10,q10,e11,t1,t2,l1,l2,_⟩:=W8 m8 q8 ap8 (eH p8 hG) (fun h=>by have:=ab7 0 h;omega) (fun h=>by have:=bb8 0 h;omega) rg8 (by omega) [X,P];have hst10:=fun L=>Al m10 L;obtain⟨_,_,_,_,_,_,_,hq10,_⟩:=q10.mb;simp only[rmV]at hq6 hq10;have hkv0:∀n,kv.locLt n=true:=fun n=>bE (Nat.zero_le n) hkv;have hlv0:∀n,lv.locLt n=true:=fun n=>bE (Nat.zero_le n) hlt;clear m0 q0 m3 q3 m4 q4 m5 q5 m6 q6 m7 q7 m8 q8 m10 q10 g3 g4 g5 g6 g7 g8;refine⟨⟨[],h10⟩,?_⟩;simp only[X,P]at*;rw[ab qv rfl];simp only[go_sem,e0,hkd,w0,e1,e2,e3,e4];simp only[go_sem,hlt,hlw,hfew,e5,e6,hst6,hq6,r2,implies_true,true_implies,false_implies];simp only[List.cons_append,List.nil_append]at e10;simp only[go_sem,e7,e8,e9,t1,l1,e10,t2,l2,e11,hkd1,w1,hF1,hF2,hst10,hq10]
end Go.Proofs.YtilcajpldklbiaaGreatDoor
