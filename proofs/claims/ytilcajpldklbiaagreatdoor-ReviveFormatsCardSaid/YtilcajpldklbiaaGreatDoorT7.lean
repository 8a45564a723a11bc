/-
  YtilcajpldklbiaaGreatDoorT7: what functions of the program compute (RevL, RevM, RevN, RevO, RevP, RevQ, RevR, RevS, RevT, RevU, RevV, RevW, RevX, RevY).
-/
import Derived.Test.YtilcajpldklbiaaGreatDoorT6
set_option maxRecDepth 100000
namespace Go.Proofs.YtilcajpldklbiaaGreatDoor
open Go.Ab
structure FmI (N:Nat) (M:AM) (v:Nat→List Int):Prop where
 on:M.On
 ok:M.Ok
 n:M.n=N
 fl:∀j,j<N→Fl M j
 now:∀j,M.now j=v j
def FmS (N:Nat) (s:AM×Int) (v:Nat→List Int):Prop:=s.2=0∧FmI N s.1 v
theorem FmI.congr {N:Nat}{M:AM}{v w:Nat→List Int}(h:FmI N M v) (e:∀j,v j=w j):FmI N M w:=⟨h.on,h.ok,h.n,h.fl,fun j=>(h.now j).trans (e j)⟩
theorem Ph {M:AM}(ok:M.Ok) (i:Int):(M.flush 0 i).1.Ok:=by
 unfold AM.flush;split
 ·exact ok
 ·split
  ·exact ok.out
  ·exact ok.stepped.flushed _ _
theorem FmI.flush {N:Nat}{M:AM}{v:Nat→List Int}{i:Nat}(on:M.On) (ok:M.Ok) (n:M.n=N) (fl:∀j,j<N→j≠i→Fl M j) (now:∀j,M.now j=v j) (hi:i<N):FmS N (M.flush 0 i) v:=by
 obtain⟨e1,e2,e3⟩:=wX on (i:=(i:Int)) (by omega) (by omega);have hok:=Ph ok (i:Int);rcases uO (M:=M) (i:=i) (by omega)with⟨q1,q2,q3,q4⟩|⟨q1,q2⟩
 ·refine⟨q1,by rw[e1];exact e2,hok,(bz (M:=M) (c:=0) (i:=i)).2.trans n,fun j hj=> ?_,fun j=>(q4 j).trans (now j)⟩;by_cases e:j=i
  ·subst e;exact q3
  ·exact Gf (fl j hj e)
 ·rw[e1]at q1;cases q1
theorem FmS.go {N:Nat}{s:AM×Int}{v w:Nat→List Int}{f:AM→AM×Int}(h:FmS N s v) (hf:FmI N s.1 v→FmS N (f s.1) w):FmS N (AM.go s f) w:=by rw[jD h.1];exact hf h.2
theorem FmI.put8 {N:Nat}{M:AM}{v:Nat→List Int}(h:FmI N M v) {at':Nat}{l:List Int}(ha:at'<N) (hl:l.length=8):FmS N (M.put8 at' l) (upd v at' l):=by
 obtain⟨e1,e2,e3⟩:=tf hl 8 0 h.on (by rw[h.n];exact ha) rfl (M.now at') (h.ok.now8 (by rw[h.n];exact ha)) (by simp[tB]);have hok:(M.layFrom at' l 0 8).1.Ok:=h.ok.layFrom;have hn:(M.layFrom at' l 0 8).1.n=M.n:=AM.layFrom_n;unfold AM.put8;rw[if_neg (by rw[e1];simp)];refine FmI.flush e2 hok (hn.trans h.n) (fun j hj hne=> ?_) (fun j=> ?_) ha
 ·exact(ni (by rw[Zh];exact hne) 8 0 M).fl (h.fl j hj)
 ·rw[e3 j,h.now j];unfold upd;rfl
theorem FmS.put {N:Nat}{s:AM×Int}{v:Nat→List Int}(h:FmS N s v) {at':Nat}{l:List Int}(ha:at'<N) (hl:l.length=8):FmS N (AM.go s fun M=>M.put8 at' l) (upd v at' l):=
 h.go (f:=fun M=>M.put8 at' l) fun hi=>hi.put8 ha hl
theorem FmI.empty {N:Nat}{M:AM}{v:Nat→List Int}(h:FmI N M v) {i:Nat}(hi:i<N):FmS N (AM.go (M.store i 7 0) fun M=>M.flush 0 i) (upd v i ((v i).set 7 0)):=by
 obtain⟨e1,e2,e3⟩:=uC h.on (i:=i) (q:=7) (by rw[h.n];exact hi) (by decide) 0;have e1:(M.store (i:Int) 7 0).2=0:=e1;have e2:(M.store (i:Int) 7 0).1.On:=e2;rw[jD e1];refine FmI.flush e2 h.ok.store (AM.store_n.trans h.n) (fun j hj hne=> ?_) (fun j=> ?_) hi
 ·exact(rk (by rw[Zh];exact hne)).fl (h.fl j hj)
 ·have:=e3 j;rw[show(M.store (i:Int) 7 0).1.now j=_ from this,h.now j]
  unfold upd;split
  ·rename_i e;subst e;rfl
  ·rfl
theorem FmI.fence {N:Nat}{M:AM}{v:Nat→List Int}(h:FmI N M v):FmS N (M.fence 0) v∧∀j,j<N→Sur (M.fence 0).1 j:=by
 obtain⟨e1,e2,e3⟩:=Bs h.on;obtain⟨f1,f2,f3⟩:=BB h.ok;rcases yJ (M:=M)with⟨q1,q2,q3,q4⟩|⟨q1,_⟩
 ·have hs:∀j,j<N→Sur (M.fence 0).1 j:=fun j hj=>q3 j (by rw[h.n];exact hj) (h.fl j hj);exact⟨⟨q1,by rw[e1];exact e2,by rw[e1];exact f1,by rw[e1];exact f2.trans h.n,fun j hj=>(hs j hj).fl,fun j=>(q4 j).trans (h.now j)⟩,hs⟩
 ·rw[e1]at q1;cases q1
theorem JS {N:Nat}:∀(n i:Nat) {s:AM×Int},i+n≤N→FmS N s (fun _=>zl)→FmS N (AM.wipe s i n) fun _=>zl
 |0,_,_,_,h=>h
 |n+1,i,s,hn,h=>by rw[AM.wipe];refine JS n (i+1) (by omega) ?_;have he:=h.2.empty (i:=i) (by omega);rw[jD h.1];exact⟨he.1,he.2.congr fun j=>by unfold upd;split<;>rfl⟩
structure ObS (at0 i at':Nat) (t:Nat→Ent) (v:Nat→List Int) (l0:List Obj):Prop where
 cnt:at'=at0+bT (l0.take i)
 kv:∀j,j<i→(t j).kind=(l0.getD j noO).kind∧(t j).ver=(l0.getD j noO).ver
 z:∀j,j<i→(l0.getD j noO).kind=0→(t j).line=0
 ln:∀j,j<i→(l0.getD j noO).kind≠0→∃q:Nat,(t j).line=q∧at0≤q∧q<at'∧v q=(l0.getD j noO).l
 no:∀j,i≤j→t j=an
 di:∀j k,j<i→k<i→j≠k→(l0.getD j noO).kind≠0→(l0.getD k noO).kind≠0→(t j).line≠(t k).line
 em:∀q,q<at0∨at'≤q→v q=zl
theorem xo:∀a b:List Obj,bT (a++b)=bT a+bT b
 |[],b=>by simp[bT]
 |o::a,b=>by simp only[List.cons_append,bT,xo a b];omega
theorem BT {l:List Obj}{i:Nat}(h:i<l.length):l.take (i+1)=l.take i++[l.getD i noO]:=by rw[List.take_add_one,List.getElem?_eq_getElem h,List.getD_eq_getElem?_getD,List.getElem?_eq_getElem h];rfl
theorem Dr {N at0:Nat}{l0:List Obj}(h8:∀o∈l0,o.l.length=8) (hN:at0+bT l0≤N):∀(n i:Nat) {s:AM×Int}{at':Nat}{t:Nat→Ent}{v:Nat→List Int},i+n=l0.length→FmS N s v→ObS at0 i at' t v l0→
 ∃v',FmS N (cF s at' t i (l0.drop i)).1 v'∧ObS at0 l0.length (cF s at' t i (l0.drop i)).2.1 (cF s at' t i (l0.drop i)).2.2 v' l0
 |0,i,s,at',t,v,hi,h,ho=>by
  have:i=l0.length:=by omega
  subst this;rw[List.drop_length];exact⟨v,h,ho⟩
 |n+1,i,s,at',t,v,hi,h,ho=>by
  have hil:i<l0.length:=by omega
  have hdrop:l0.drop i=l0.getD i noO::l0.drop (i+1):=by rw[List.getD_eq_getElem?_getD,List.getElem?_eq_getElem hil];exact List.drop_eq_getElem_cons hil
  have hmem:l0.getD i noO∈l0:=by rw[List.getD_eq_getElem?_getD,List.getElem?_eq_getElem hil];exact List.getElem_mem hil
  have hcn:at'+bT (l0.drop i)=at0+bT l0:=by have:=xo (l0.take i) (l0.drop i);rw[List.take_append_drop]at this;have:=ho.cnt;omega
  rw[hdrop]at hcn⊢;simp only[cF,bT]at hcn⊢;by_cases hk:(l0.getD i noO).kind=0
  ·rw[if_pos hk];refine Dr h8 hN n (i+1) (by omega) h ⟨?_,fun j hj=> ?_,fun j hj hz=> ?_,fun j hj hz=> ?_,fun j hj=> ?_,fun j k hj hk2 hne h1 h2=> ?_,ho.em⟩
   ·rw[BT hil,xo,ho.cnt];simp only[bT,hk,if_true];omega
   ·by_cases e:j=i
    ·subst e;rw[kX];exact⟨rfl,rfl⟩
    ·rw[fS e];exact ho.kv j (by omega)
   ·by_cases e:j=i
    ·subst e;rw[kX]
    ·rw[fS e];exact ho.z j (by omega) hz
   ·by_cases e:j=i
    ·subst e;exact absurd hk hz
    ·rw[fS e];exact ho.ln j (by omega) hz
   ·rw[fS (by omega)];exact ho.no j (by omega)
   ·have e1:j≠i:=fun e=>by subst e;exact h1 hk
    have e2:k≠i:=fun e=>by subst e;exact h2 hk
    rw[fS e1,fS e2];exact ho.di j k (by omega) (by omega) hne h1 h2
  ·rw[if_neg hk]at hcn⊢;have hput:=h.put (at':=at') (l:=(l0.getD i noO).l) (by omega) (h8 _ hmem);refine Dr h8 hN n (i+1) (by omega) hput ⟨?_,fun j hj=> ?_,fun j hj hz=> ?_,fun j hj hz=> ?_,fun j hj=> ?_,fun j k hj hk2 hne h1 h2=> ?_,fun q hq=> ?_⟩
   ·rw[BT hil,xo,ho.cnt];simp only[bT,hk,if_false];omega
   ·by_cases e:j=i
    ·subst e;rw[kX];exact⟨rfl,rfl⟩
    ·rw[fS e];exact ho.kv j (by omega)
   ·by_cases e:j=i
    ·subst e;exact absurd hz hk
    ·rw[fS e];exact ho.z j (by omega) hz
   ·by_cases e:j=i
    ·subst e;rw[kX];exact⟨at',rfl,by have:=ho.cnt;omega,by omega,al⟩
    ·rw[fS e];obtain⟨q,q1,q2,q3,q4⟩:=ho.ln j (by omega) hz;exact⟨q,q1,q2,by omega,by rw[aw (by omega)];exact q4⟩
   ·rw[fS (by omega)];exact ho.no j (by omega)
   ·by_cases e1:j=i
    ·subst e1;rw[kX,fS (Ne.symm hne)];obtain⟨q,q1,q2,q3,q4⟩:=ho.ln k (by omega) h2;rw[q1];simp only;omega
    ·by_cases e2:k=i
     ·subst e2;rw[kX,fS hne];obtain⟨q,q1,q2,q3,q4⟩:=ho.ln j (by omega) h1;rw[q1];simp only;omega
     ·rw[fS e1,fS e2];exact ho.di j k (by omega) (by omega) hne h1 h2
   ·have:=ho.cnt;rw[aw (by omega)];exact ho.em q (by omega)
theorem JB {N a0:Nat}(t:Nat→Ent) (hN:a0+7≤N):∀(n k:Nat) {s:AM×Int}{at':Nat}{v:Nat→List Int},k+n=7→at'=a0+k→FmS N s v→∃v',FmS N (fF t s at' k n) v'∧(∀j,k≤j→j<7→v' (a0+j)=bj t j)∧∀q,q<a0+k∨a0+7≤q→v' q=v q
 |0,k,s,at',v,hk,hat,h=>⟨v,h,fun j h1 h2=>by omega,fun _ _=>rfl⟩
 |n+1,k,s,at',v,hk,hat,h=>by
  subst hat;have hput:=h.put (at':=a0+k) (l:=bj t k) (by omega) (px t k);obtain⟨v',q1,q2,q3⟩:=JB t hN n (k+1) (at':=a0+k+1) (by omega) (by omega) hput;refine⟨v',q1,fun j h1 h2=> ?_,fun q hq=> ?_⟩
  ·by_cases e:j=k
   ·subst e;rw[q3 _ (by omega)];exact al
   ·exact q2 j (by omega) h2
  ·rw[q3 q (by omega)];exact aw (by omega)
def Ln (c:Nat) (t:Nat→Ent) (d:Nat→Int) (j:Nat):Prop:=j<2+4*c∨aT t j=true∨ux d j=true
structure Im (c:Nat) (M:AM) (b:Sup) (t:Nat→Ent) (d:Nat→Int) (ct:Nat→List Int):Prop where
 ok:M.Ok
 c1:1≤c∧c≤8
 bk:b.ok=true
 bc:b.cores=c
 s0:M.S 0=aH b
 s1:eI (M.S 1)=false
 sur:∀j,Ln c t d j→Sur M j
 lay:AX (2+4*c) M.n M t d
 rt:d 7=b.root
 ct:∀i,i<49→(t i).kind≠0→∀q:Nat,(t i).line=q→M.S q=ct i
theorem Im.sm {c:Nat}{M M':AM}{b:Sup}{t:Nat→Ent}{d:Nat→Int}{ct:Nat→List Int}(h:Im c M b t d ct) (ok:M'.Ok) (hn:M'.n=M.n) (hs:∀j,Ln c t d j→Sm M M' j):Im c M' b t d ct:=by
 refine⟨ok,h.c1,h.bk,h.bc,(hs 0 (.inl (by omega))).S.trans h.s0,by rw[(hs 1 (.inl (by have:=h.c1;omega))).S];exact h.s1,fun j hj=>(hs j hj).sur (h.sur j hj),?_,h.rt,fun i hi hk q hq=> ?_⟩
 ·rw[hn];refine⟨fun k hk=> ?_,h.lay.dj,fun k hk=> ?_,?_,fun i hi hk=> ?_,h.lay.g⟩
  ·obtain⟨q,q1,q2,q3,q4,q5⟩:=h.lay.dl k hk;have hl:Ln c t d q:= .inr (.inr (fY.2 ⟨k,hk,q1⟩));exact⟨q,q1,q2,q3,(hs q hl).sur q4,q5⟩
  ·obtain⟨q,q1,q2,q3,q4,q5⟩:=h.lay.dl k (by omega);have hl:Ln c t d q:= .inr (.inr (fY.2 ⟨k,by omega,q1⟩));have:=h.lay.lf k hk;rw[q1,Zh]at this⊢;rw[(hs q hl).S];exact this
  ·obtain⟨q,q1,q2,q3,q4,q5⟩:=h.lay.dl 7 (by omega);have hl:Ln c t d q:= .inr (.inr (fY.2 ⟨7,by omega,q1⟩));have:=h.lay.rt;rw[q1,Zh]at this⊢;rw[(hs q hl).S];exact this
  ·obtain⟨q,q1,q2,q3,q4⟩:=h.lay.ln i hi hk;have hl:Ln c t d q:= .inr (.inl (bx.2 ⟨i,hi,hk,q1⟩));exact⟨q,q1,q2,q3,(hs q hl).sur q4⟩
 ·rw[(hs q (.inr (.inl (bx.2 ⟨i,hi,hk,hq⟩)))).S];exact h.ct i hi hk q hq
theorem Wh {N c:Nat}(hN:64≤N) (hN1:N≤1024) {l:List Obj}(hok:l.all oOk=true) (h8:∀o∈l,o.l.length=8) (h49:l.length≤49) (hc:1≤c∧c≤8) (hsz:2+4*c+bT l+8≤N):
 ((am0 N fun _=>zl).fmt c l).2=0∧((am0 N fun _=>zl).fmt c l).1.On∧((am0 N fun _=>zl).fmt c l).1.n=N∧∃b t d ct,Im c ((am0 N fun _=>zl).fmt c l).1 b t d ct∧b.gen=1∧b.seq=0∧
  (∀j,2≤j→j<2+4*c→((am0 N fun _=>zl).fmt c l).1.S j=zl)∧
  (∀j,j<l.length→(t j).kind=(l.getD j noO).kind∧(t j).ver=(l.getD j noO).ver∧((l.getD j noO).kind≠0→ct j=(l.getD j noO).l))∧∀j,l.length≤j→t j=an:=by
 have ok0:(am0 N fun _=>zl).Ok:=⟨hN,hN1,fun _ _=>rfl,fun _ _ d hd=>(by cases hd),Int.le_refl _,fun _ _=>Int.le_refl _,Int.le_refl _,by simp[am0]⟩;have h0:FmS N (am0 N fun _=>zl,0) fun _=>zl:=⟨rfl,⟨rfl,rfl⟩,ok0,rfl,fun j _=>rfl,fun _=>rfl⟩;unfold AM.fmt;rw[if_neg (by rw[hok];simp;omega)];simp only[Zh];rw[if_neg (by show¬N<2+4*c+bT l+8;omega)];unfold yq;simp only;have h1:=JS (2+4*c) 0 (by omega) h0;have h2:FmS N (AM.go (AM.wipe (am0 N fun _=>zl,0) 0 (2+4*c)) fun M=>M.fence 0) fun _=>zl:=h1.go (f:=fun M=>M.fence 0) fun hi=>hi.fence.1;obtain⟨v3,h3,o3⟩:=Dr (N:=N) (at0:=2+4*c) h8 (by omega) l.length 0 (s:=AM.go (AM.wipe (am0 N fun _=>zl,0) 0 (2+4*c)) fun M=>M.fence 0) (at':=2+4*c) (t:=fun _=>an) (v:=fun _=>zl) (by omega) h2
  ⟨rfl,fun j hj=>absurd hj (Nat.not_lt_zero j),fun j hj=>absurd hj (Nat.not_lt_zero j),fun j hj=>absurd hj (Nat.not_lt_zero j),fun _ _=>rfl,fun j _ hj=>absurd hj (Nat.not_lt_zero j),fun _ _=>rfl⟩
 rw[List.drop_zero]at h3 o3;generalize cF _ (2+4*c) (fun _=>an) 0 l=r at*;obtain⟨s3,a3,t⟩:=r;simp only at h3 o3⊢;have ha3:a3=2+4*c+bT l:=by have:=o3.cnt;rwa [List.take_length]at this
 obtain⟨v4,h4,l4,e4⟩:=JB (N:=N) (a0:=a3) t (by omega) 7 0 (at':=a3) (by omega) (by omega) h3;have h5:=h4.put (at':=a3+7) (l:=aE fun j=>(a3:Int)+j) (by omega) (pk _);generalize fF t s3 a3 0 7=s4 at*;generalize(AM.go s4 fun M=>M.put8 (a3+7:Nat) (aE fun j=>(a3:Int)+j))=s5 at*;have h6:=h5.2.fence;rw[jD h5.1];obtain⟨h6,su6⟩:=h6;have hS6:∀j,j<N→(s5.1.fence 0).1.S j=upd v4 (a3+7) (aE fun j=>(a3:Int)+j) j:=fun j hj=>by rw[←(su6 j hj).now];exact h6.2.now j
 generalize(s5.1.fence 0)=s6 at*;rw[jD h6.1];have hbk:(⟨1,(a3+7:Nat),0,c⟩:Sup).ok=true:=by unfold Sup.ok win;simp only[Zj,Zi];omega
 obtain⟨g1,g2⟩:=Se h6.2.ok (s:=0) (.inl rfl) (su6 0 (by omega)) hbk;obtain⟨k1,k2,k3,k4,k5,k6⟩:=UV h6.2.ok h6.2.on (s:=0) (.inl rfl) hbk;have hn7:(s6.1.wrs 0 ⟨1,(a3+7:Nat),0,c⟩).1.n=N:=k4.trans h6.2.n;have k1:(s6.1.wrs 0 ⟨1,(a3+7:Nat),0,c⟩).2=0:=k1;have k2:(s6.1.wrs 0 ⟨1,(a3+7:Nat),0,c⟩).1.Ok:=k2;have k3:(s6.1.wrs 0 ⟨1,(a3+7:Nat),0,c⟩).1.On:=k3;rcases g2 with⟨q1,q2,q3,q4⟩|⟨q1,_⟩
 ·have q3:Sur (s6.1.wrs 0 ⟨1,(a3+7:Nat),0,c⟩).1 0:=q3;have q4:(s6.1.wrs 0 ⟨1,(a3+7:Nat),0,c⟩).1.now 0=aH ⟨1,(a3+7:Nat),0,c⟩:=q4;have g1:∀j,j≠0→Sur s6.1 j→Sm s6.1 (s6.1.wrs 0 ⟨1,(a3+7:Nat),0,c⟩).1 j:=g1;generalize(s6.1.wrs 0 ⟨1,(a3+7:Nat),0,c⟩)=s7 at*;have sur7:∀j,j<N→Sur s7.1 j:=fun j hj=>by
   by_cases e:j=0
   ·subst e;exact q3
   ·exact(g1 j e (su6 j hj)).sur (su6 j hj)
  have hS7:∀j,j<N→j≠0→s7.1.S j=upd v4 (a3+7) (aE fun j=>(a3:Int)+j) j:=fun j hj hne=>by rw[(g1 j hne (su6 j hj)).S];exact hS6 j hj
  have hline:∀j,j<l.length→(l.getD j noO).kind≠0→∃q:Nat,(t j).line=q∧2+4*c≤q∧q<a3∧s7.1.S q=(l.getD j noO).l:=fun j hj hk=>by obtain⟨q,q1,q2,q3,q4⟩:=o3.ln j hj hk;refine⟨q,q1,q2,q3,?_⟩;rw[hS7 q (by omega) (by omega),aw (by omega),e4 q (by omega)];exact q4
  have hkin:∀j,(t j).kind≠0→j<l.length∧(l.getD j noO).kind≠0:=fun j hk=>by
   by_cases e:j<l.length
   ·exact⟨e,by rw[←(o3.kv j e).1];exact hk⟩
   ·rw[o3.no j (by omega)]at hk;exact absurd rfl hk
  have hoO:∀j,j<l.length→oOk (l.getD j noO)=true:=fun j hj=>by rw[List.getD_eq_getElem?_getD,List.getElem?_eq_getElem hj];exact(List.all_eq_true.1 hok) _ (List.getElem_mem hj)
  have hnl:∀q:Nat,a3≤q→aT t q=false:=fun q hq=>by
   cases e:aT t q
   ·rfl
   ·obtain⟨i,i1,i2,i3⟩:=bx.1 e;obtain⟨j1,j2⟩:=hkin i i2;obtain⟨q',r1,r2,r3,_⟩:=hline i j1 j2;omega
  have hTg:vh t:=by
   refine⟨fun i hi=> ?_,fun i j hi hj hne h1 h2=> ?_⟩
   ·by_cases e:i<l.length
    ·have hk:=o3.kv i e;obtain⟨a1,a2,a3'⟩:=Dh.1 (hoO i e);refine xt.2 ⟨by rw[hk.1];exact a1,by rw[hk.2];exact a2,?_,fun hz=>o3.z i e (by rw[←hk.1];exact hz)⟩;by_cases hz:(l.getD i noO).kind=0
     ·rw[o3.z i e hz];omega
     ·obtain⟨q,r1,r2,r3,_⟩:=hline i e hz;omega
    ·rw[o3.no i (by omega)];exact xt.2 ⟨by decide,by decide,by decide,fun _=>rfl⟩
   ·exact o3.di i j (hkin i h1).1 (hkin j h2).1 hne (hkin i h1).2 (hkin j h2).2
  let d:Nat→Int:=fun k=>(a3:Int)+k;have hd:∀k:Nat,d k=((a3+k:Nat):Int):=fun k=>by show(a3:Int)+k=_;omega
  refine⟨k1,k3,hn7,⟨1,(a3+7:Nat),0,c⟩,t,d,fun j=>(l.getD j noO).l,⟨k2,hc,hbk,rfl,by rw[←q3.now];exact q4,?_,fun j hj=>sur7 j ?_,⟨fun k hk=> ?_,fun a b ha hb hne=> ?_,fun k hk=> ?_,?_,fun i hi hk=> ?_,hTg⟩,?_,fun i hi hk q hq=> ?_⟩,rfl,rfl,fun j h1 h2=> ?_,fun j hj=>⟨(o3.kv j hj).1,(o3.kv j hj).2,fun _=>rfl⟩,o3.no⟩
  ·rw[hS7 1 (by omega) (by decide),aw (by omega),e4 1 (by omega),o3.em 1 (by omega)];exact JX rfl
  ·rcases hj with hj|hj|hj
   ·omega
   ·obtain⟨i,i1,i2,i3⟩:=bx.1 hj;obtain⟨j1,j2⟩:=hkin i i2;obtain⟨q',r1,r2,r3,_⟩:=hline i j1 j2;omega
   ·obtain⟨k,hk,e⟩:=fY.1 hj;rw[hd k]at e;omega
  ·exact⟨a3+k,hd k,by omega,by rw[hn7];omega,sur7 _ (by omega),hnl _ (by omega)⟩
  ·show(a3:Int)+a≠(a3:Int)+b;omega
  ·rw[hd k,Zh,hS7 _ (by omega) (by omega),aw (by omega)];exact l4 k (Nat.zero_le _) hk
  ·rw[hd 7,Zh,hS7 _ (by omega) (by omega)];exact al
  ·obtain⟨j1,j2⟩:=hkin i hk;obtain⟨q',r1,r2,r3,_⟩:=hline i j1 j2;exact⟨q',r1,r2,by rw[hn7];omega,sur7 _ (by omega)⟩
  ·exact hd 7
  ·obtain⟨j1,j2⟩:=hkin i hk;obtain⟨q',r1,r2,r3,r4⟩:=hline i j1 j2;have:q=q':=by omega
   subst this;exact r4
  ·rw[hS7 j (by omega) (by omega),aw (by omega),e4 j (by omega)];exact o3.em j (by omega)
 ·have:(s6.1.wrs 0 ⟨1,(a3+7:Nat),0,c⟩).2=4:=q1;rw[k1]at this;cases this
theorem qn {t:Nat→Ent}{x:Int}:∀(n i:Nat),x∈be t i n→∃k,i≤k∧k<i+n∧(t k).kind≠0∧(t k).line=x
 |0,_,h=>by cases h
 |n+1,i,h=>by
  simp only[be]at h;split at h
  ·obtain⟨k,h1,h2,h3⟩:=qn n (i+1) h;exact⟨k,by omega,by omega,h3⟩
  ·rename_i hk;rcases List.mem_cons.1 h with rfl|h
   ·exact⟨i,Nat.le_refl _,by omega,hk,rfl⟩
   ·obtain⟨k,h1,h2,h3⟩:=qn n (i+1) h;exact⟨k,by omega,by omega,h3⟩
theorem tR {t:Nat→Ent}(h:∀i j,i<49→j<49→i≠j→(t i).kind≠0→(t j).kind≠0→(t i).line≠(t j).line):∀(n i:Nat),i+n≤49→(be t i n).Nodup
 |0,_,_=>List.nodup_nil
 |n+1,i,hi=>by
  simp only[be];split
  ·exact tR h n (i+1) (by omega)
  ·rename_i hk;refine List.nodup_cons.2 ⟨fun hm=> ?_,tR h n (i+1) (by omega)⟩;obtain⟨k,h1,h2,h3,h4⟩:=qn n (i+1) hm;exact h i k (by omega) (by omega) (by omega) hk h3 h4.symm
theorem wL {d:Nat→Int}{x:Int}:∀(n i:Nat),x∈iO d i n→∃k,i≤k∧k<i+n∧d k=x
 |0,_,h=>by cases h
 |n+1,i,h=>by
  rcases List.mem_cons.1 h with rfl|h
  ·exact⟨i,Nat.le_refl _,by omega,rfl⟩
  ·obtain⟨k,h1,h2,h3⟩:=wL n (i+1) h;exact⟨k,by omega,by omega,h3⟩
theorem HS {d:Nat→Int}:∀(n i k:Nat),i≤k→k<i+n→d k∈iO d i n
 |0,i,k,h1,h2=>by omega
 |n+1,i,k,h1,h2=>by
  simp only[iO];by_cases e:k=i
  ·subst e;exact List.mem_cons_self
  ·exact List.mem_cons_of_mem _ (HS n (i+1) k (by omega) (by omega))
theorem CG {d:Nat→Int}(h:∀i j,i<8→j<8→i≠j→d i≠d j):∀(n i:Nat),i+n≤8→(iO d i n).Nodup
 |0,_,_=>List.nodup_nil
 |n+1,i,hi=>by refine List.nodup_cons.2 ⟨fun hm=> ?_,CG h n (i+1) (by omega)⟩;obtain⟨k,h1,h2,h3⟩:=wL n (i+1) hm;exact h i k (by omega) (by omega) (by omega) h3.symm
theorem CX:∀{ls:List Int}{A A':AF},A.takes ls=some A'→A.left≤A'.left+ls.length
 |[],A,A',h=>by cases h;exact Nat.le_refl _
 |x::r,A,A',h=>by
  simp only[AF.takes]at h;split at h
  ·rename_i h0;have hr:=oA (A:=A) (line:=x) (by omega);have ih:=CX h;have hl:A.left≤(A.put x.toNat 1).left+1:=by unfold AF.left;have:=AF.cnt_put (A:=A) (k:=x.toNat) (x:=1) (n:=A.l-A.f) (i:=A.f) (by omega) (by omega);have e:(A.put x.toNat 1).cnt (A.put x.toNat 1).f ((A.put x.toNat 1).l-(A.put x.toNat 1).f)=(A.put x.toNat 1).cnt A.f (A.l-A.f):=rfl;rw[e];simp only[show¬(1:Int)=0 by decide,if_false]at this;split at this<;>omega
   rw[List.length_cons];omega
  ·cases h
theorem JE (f l:Nat):∀n i,(af0 f l).cnt i n=n
 |0,_=>rfl
 |n+1,i=>by
  simp only[AF.cnt,JE f l n];show(if(0:Int)=0 then 1 else 0)+n=n+1
  rw[if_pos rfl];omega
structure BtS (c:Nat) (M:AM) (b:Sup) (t:Nat→Ent) (d:Nat→Int) (A:AF):Prop where
 inv:Inv (M.st0 b A)
 w:∀i,i<49→(M.st0 b A).work i=t i
 ld:∀i,i<49→ldT M (M.now b.root.toNat) i=t i
 f:A.f=2+4*c
 l:A.l=M.n
 kp:∀j,Ln c t d j→Kp (M.st0 b A) j
 left:M.n≤A.left+(2+4*c)+57
theorem Im.boot {c:Nat}{M:AM}{b:Sup}{t:Nat→Ent}{d:Nat→Int}{ct:Nat→List Int}(h:Im c M b t d ct) (off:M.off=false):∃A,M.bt=(some (b,0,A),0)∧BtS c M b t d A:=by
 have hc:=h.c1;have sur0:=h.sur 0 (.inl (by omega));have sur1:=h.sur 1 (.inl (by omega));have n0:M.now 0=aH b:=sur0.now.trans h.s0;have n1:eI (M.now 1)=false:=by rw[sur1.now];exact h.s1
 have hbest:a9 (M.now 0) (M.now 1)=(b,0,true):=by obtain⟨h1,h2⟩:=Et h.bk;rw[n0];unfold a9 bst;simp only[n1,Bool.false_eq_true,false_and,if_false,h1,h2,true_and,true_or,if_true]
 have hb:=uT h.bk;have hfc:(2:Int)+4*b.cores=((2+4*c:Nat):Int):=by rw[h.bc];omega
 obtain⟨l1,l2,l3⟩:=h.lay.loads h.ok;rw[h.rt]at l1 l2;obtain⟨q7,hq7,hq7a,hq7b,_⟩:=h.lay.dl 7 (by decide);have hdk:∀k,k<8→d8 (M.now b.root.toNat) b.root k=d k:=fun k hk=>by
  unfold d8;split
  ·rename_i hk7;have hrange:∀j,j<7→0≤d j∧d j<1024:=fun j hj=>by obtain⟨q,q1,q2,q3,_⟩:=h.lay.dl j (by omega);have:=h.ok.n1;omega
   obtain⟨_,r2⟩:=CH (d:=d) hrange;have hroot:M.now b.root.toNat=aE d:=by rw[←h.rt,hq7,Zh];have s7:Sur M q7:=h.sur q7 (.inr (.inr (fY.2 ⟨7,by decide,hq7⟩)));rw[s7.now];have:=h.lay.rt;rw[hq7,Zh]at this;exact this
   rw[hroot,r2 k hk7]
  ·have:k=7:=by omega
   subst this;exact h.rt.symm
 have hall:∀x,x∈dz (ldT M (M.now b.root.toNat)) (d8 (M.now b.root.toNat) b.root)↔(∃i,i<49∧(t i).kind≠0∧(t i).line=x)∨∃k,k<8∧d k=x:=fun x=>by
  unfold dz;rw[List.mem_append];constructor
  ·rintro(hx|hx)
   ·obtain⟨k,h1,h2,h3,h4⟩:=qn 49 0 hx;rw[l2 k (by omega)]at h3 h4;exact .inl ⟨k,by omega,h3,h4⟩
   ·obtain⟨k,h1,h2,h3⟩:=wL 8 0 hx;exact .inr ⟨k,by omega,by rw[←hdk k (by omega)];exact h3⟩
  ·rintro(⟨i,i1,i2,i3⟩|⟨k,k1,k2⟩)
   ·left;rw[←i3,←l2 i i1];exact th _ 49 0 i (by omega) (by omega) (by rw[l2 i i1];exact i2)
   ·right;rw[←k2,←hdk k k1];exact HS 8 0 k (by omega) (by omega)
 have hinx:∀x,x∈dz (ldT M (M.now b.root.toNat)) (d8 (M.now b.root.toNat) b.root)→∃q:Nat,x=q∧2+4*c≤q∧q<M.n:=fun x hx=>by
  rcases(hall x).1 hx with⟨i,i1,i2,i3⟩|⟨k,k1,k2⟩
  ·obtain⟨q,q1,q2,q3,_⟩:=h.lay.ln i i1 i2;exact⟨q,by omega,q2,q3⟩
  ·obtain⟨q,q1,q2,q3,_⟩:=h.lay.dl k k1;exact⟨q,by omega,q2,q3⟩
 have hnd:(dz (ldT M (M.now b.root.toNat)) (d8 (M.now b.root.toNat) b.root)).Nodup:=by
  unfold dz;refine List.nodup_append.2 ⟨tR (fun i j hi hj hne h1 h2=> ?_) 49 0 (by omega),CG (fun i j hi hj hne=> ?_) 8 0 (by omega),fun x hx y hy e=> ?_⟩
  ·rw[l2 i hi]at h1⊢;rw[l2 j hj]at h2⊢;exact h.lay.g.j i j hi hj hne h1 h2
  ·rw[hdk i hi,hdk j hj];exact h.lay.dj i j hi hj hne
  ·subst e;obtain⟨i,i1,i2,i3,i4⟩:=qn 49 0 hx;obtain⟨k,k1,k2,k3⟩:=wL 8 0 hy;rw[l2 i (by omega)]at i3 i4;rw[hdk k (by omega)]at k3;obtain⟨q,q1,q2,q3,q4,q5⟩:=h.lay.dl k (by omega);have:=bx.2 ⟨i,by omega,i3,show(t i).line=(q:Int) by omega⟩;rw[q5]at this;cases this
 obtain⟨A,hA⟩:=FP (A:=af0 (2+4*c) M.n) hnd fun x hx=>by obtain⟨q,q1,q2,q3⟩:=hinx x hx;unfold AF.state af0;rw[if_neg (by simp only;omega)]
 have hfn:2+4*c≤M.n:=by have:=h.ok.n0;omega
 obtain⟨ok0,two⟩:=Ir h.ok (f:=2+4*c) hfn hA;obtain⟨t1,t2,t3,t4⟩:=pC hA;have t1:A.f=2+4*c:=t1;have t2:A.l=M.n:=t2;have hst:M.st0 b A=as0 M A (ldT M (M.now b.root.toNat)) (d8 (M.now b.root.toNat) b.root):=rfl;have hnm:∀j:Nat,aT (ldT M (M.now b.root.toNat)) j=aT t j:=fun j=>by
  apply Bool.eq_iff_iff.2;rw[bx,bx];constructor
  ·rintro⟨i,i1,i2,i3⟩;rw[l2 i i1]at i2 i3;exact⟨i,i1,i2,i3⟩
  ·rintro⟨i,i1,i2,i3⟩;exact⟨i,i1,by rw[l2 i i1];exact i2,by rw[l2 i i1];exact i3⟩
 have hst1:∀j:Nat,aT t j=true∨ux d j=true→A.st j=1:=fun j hj=>by
  rw[t4 j,if_pos ((hall j).2 ?_)];rcases hj with hj|hj
  ·obtain⟨i,i1,i2,i3⟩:=bx.1 hj;exact .inl ⟨i,i1,i2,i3⟩
  ·obtain⟨k,k1,k2⟩:=fY.1 hj;exact .inr ⟨k,k1,k2⟩
 have hsh:∀j:Nat,(as0 M A (ldT M (M.now b.root.toNat)) (d8 (M.now b.root.toNat) b.root)).sh j=aT t j:=fun j=>by rw[BZ ok0,←hnm j];simp[as0]
 refine⟨A,?_,?_⟩
 ·unfold AM.bt;rw[if_neg (by rw[off];simp),hbest,if_neg (by simp)];simp only;rw[hfc,if_neg (by omega),l1,if_neg (by simp),Zh,hA]
 ·refine⟨?_,fun i hi=>l2 i hi,l2,t1,t2,fun j hj=> ?_,?_⟩
  ·rw[hst];refine⟨ok0,fun i hi=> ?_,fun j hj=> ?_,fun j hj=> ?_,fun i j hi hj hne hk1 hk2 hl=> ?_⟩
   ·show 0≤(ldT M (M.now b.root.toNat) i).ver∧(ldT M (M.now b.root.toNat) i).ver≤16777215;rw[l2 i hi];exact(xt.1 (h.lay.g.e i hi)).2.1
   ·have hj:aT (ldT M (M.now b.root.toNat)) j=true:=hj;rw[hnm]at hj;exact hst1 j (.inl hj)
   ·rw[hsh]at hj;exact hst1 j (.inl hj)
   ·have hk1:(ldT M (M.now b.root.toNat) i).kind≠0:=hk1;have hk2:(ldT M (M.now b.root.toNat) j).kind≠0:=hk2;have hl:(ldT M (M.now b.root.toNat) i).line=(ldT M (M.now b.root.toNat) j).line:=hl;rw[l2 i hi]at hk1 hl;rw[l2 j hj]at hk2 hl;exact absurd hl (h.lay.g.j i j hi hj hne hk1 hk2)
  ·rw[hst];rcases hj with hj|hj|hj
   ·exact⟨.inl (by show j<A.f;omega)⟩
   ·exact⟨.inr ⟨hst1 j (.inl hj),.inl (by rw[hsh];exact hj)⟩⟩
   ·refine⟨.inr ⟨hst1 j (.inr hj),.inr ?_⟩⟩;show aT (ldT M (M.now b.root.toNat)) j=false;rw[hnm];obtain⟨k,k1,k2⟩:=fY.1 hj;obtain⟨q,q1,_,_,_,q5⟩:=h.lay.dl k k1;have:q=j:=by omega
    subst this;exact q5
  ·have hl:=CX hA;have h2:(af0 (2+4*c) M.n).left=M.n-(2+4*c):=JE _ _ _ _;have h3:(dz (ldT M (M.now b.root.toNat)) (d8 (M.now b.root.toNat) b.root)).length≤57:=by unfold dz;rw[List.length_append];have:=nh (ldT M (M.now b.root.toNat)) 49 0;have h8:(iO (d8 (M.now b.root.toNat) b.root) 0 8).length=8:=rfl;omega
   omega
theorem Kp.mono {x y:AS}{j:Nat}(h:Kp x j) (hf:y.A.f=x.A.f) (hs:y.sh=x.sh) (h1:x.A.st j=1→y.A.st j=1) (h2:x.A.st j=1→aT x.work j=false→aT y.work j=false):Kp y j:=by
 rcases h.k with h|⟨h,h3⟩
 ·exact⟨.inl (by rw[hf];exact h)⟩
 ·refine⟨.inr ⟨h1 h,?_⟩⟩;rw[hs];exact h3.imp id (h2 h)
theorem Tm {x:AS}(h:Inv x) {id word v:Int}(he:(x.set id word v).2=0):Inv (x.set id word v).1∧∀j,Kp x j→Kp (x.set id word v).1 j:=by
 unfold AS.set at he⊢;split at he
 ·cases he
 ·rename_i hid;rw[if_neg hid];split at he
  ·cases he
  ·rename_i hk;rw[if_neg hk];split at he
   ·rename_i ho;rw[if_pos ho];exact⟨h.withM h.ok.M.store AM.store_n,fun j hj=>hj.mono rfl rfl (fun h=>h) fun _ h=>h⟩
   ·rename_i ho;rw[if_neg ho];split at he
    ·cases he
    ·rename_i hl;rw[if_neg hl];split at he
     ·rename_i hld;exact absurd he hld
     ·rename_i hld;rw[if_neg hld];have hi:id.toNat<49:=by omega
      generalize hL:((x.M.load (x.work id.toNat).line).1.set word.toNat v)=l at*;cases hf:x.A.first with
      |none=>exact absurd (AF.left_zero.2 hf) hl
      |some k=>
       obtain⟨f1,f2,f3,_⟩:=qL (show x.A.firstFrom x.A.f (x.A.l-x.A.f)=some k from hf)
       have ha:x.A.alloc=(x.A.put k 1,(k:Int),0):=by unfold AF.alloc;rw[hf]
       have hlay:x.lay l=({x with A:=x.A.put k 1,M:=(x.M.layFrom k l 0 8).1},(if(x.M.layFrom k l 0 8).2≠0 then 0 else(k:Int)),(x.M.layFrom k l 0 8).2):=by unfold AS.lay;rw[ha];rfl
       simp only[hlay]at he⊢;by_cases hz:(x.M.layFrom k l 0 8).2=0
       ·simp only[hz,ne_eq,not_true_eq_false,if_false];have hkr:x.A.f≤k∧k<x.A.l:=by omega
        have hsl:=h.setLine (i:=id.toNat) (k:=k) (e:=(x.work id.toNat).at k) f3 hkr rfl (h.v _ hi) (M:=(x.M.layFrom k l 0 8).1) h.ok.M.layFrom AM.layFrom_n;refine⟨hsl.1,fun j hj=>hj.mono rfl rfl (fun h1=> ?_) fun h1 hn=> ?_⟩
        ·show upd x.A.st k 1 j=1;unfold upd;split
         ·rfl
         ·exact h1
        ·refine LH hn fun _ e=> ?_;have e:(k:Int)=j:=e;have:k=j:=by omega
         subst this;rw[f3]at h1;cases h1
       ·rw[if_pos hz]at he;exact absurd he hz
theorem DR {q:Int}{t:Nat→Ent}:∀(rs:List Rec) {x:AS}{j:Nat},Inv x→Kp x j→Sm x.M (cU q t x rs).1.M j
 |[],x,j,_,_=> .refl _ _
 |r::rs,x,j,h,hj=>by
  unfold cU;split
  ·exact DR rs h hj
  ·split
   ·exact Nz h hj
   ·rename_i he;have he:(x.set r.id r.word r.val).2=0:=by simpa using he
    obtain⟨h1,h2⟩:=Tm h he;exact(Nz h hj).trans (DR rs h1 (h2 j hj))
theorem HW {q:Int}{t:Nat→Ent}:∀(rs:List Rec) {x:AS},(cU q t x rs).1.M.n=x.M.n
 |[],x=>rfl
 |r::rs,x=>by
  unfold cU;split
  ·exact HW rs
  ·split
   ·exact RO _ _ _
   ·rw[HW rs];exact RO _ _ _
def ub (q:Int) (t:Nat→Ent) (i:Nat):List Int→List Rec→List Int
 |l,[]=>l
 |l,r::rs=>if r.seq≤q∨(t r.id.toNat).kind≠1∨r.id.toNat≠i then ub q t i l rs else ub q t i (l.set r.word.toNat r.val) rs
theorem PR {x y:AS}{i w:Nat}{v:Int}(hS:Fv x y i w v) (ho:x.own i=true∨x.own i=false) (hl:x.A.Ok):x.A.left≤y.A.left+1:=by
 rcases ho with ho|ho
 ·rw[(hS.same ho).1];omega
 ·obtain⟨k,k1,k2,k3,k4,k5⟩:=hS.more ho;rw[k5];unfold AF.left;have:=AF.cnt_put (A:=x.A) (k:=k) (x:=1) (n:=x.A.l-x.A.f) (i:=x.A.f) (by omega) (by omega);have e:(x.A.put k 1).cnt (x.A.put k 1).f ((x.A.put k 1).l-(x.A.put k 1).f)=(x.A.put k 1).cnt x.A.f (x.A.l-x.A.f):=rfl;rw[e];simp only[show¬(1:Int)=0 by decide,if_false]at this;split at this<;>omega
theorem Dl {q:Int}{t:Nat→Ent}:∀(rs:List Rec) {x:AS},Inv x→x.M.On→(∀r∈rs,r.ok=true)→(∀i,i<49→(x.work i).kind=(t i).kind)→rs.length≤x.A.left→
 (cU q t x rs).2=0∧Inv (cU q t x rs).1∧(cU q t x rs).1.M.On∧(∀i,i<49→((cU q t x rs).1.work i).kind=(x.work i).kind∧((cU q t x rs).1.work i).ver=(x.work i).ver)∧
  ∀i,i<49→(x.work i).kind≠0→(cU q t x rs).1.M.now ((cU q t x rs).1.work i).line.toNat=ub q t i (x.M.now (x.work i).line.toNat) rs
 |[],x,h,on,_,_,_=>⟨rfl,h,on,fun _ _=>⟨rfl,rfl⟩,fun _ _ _=>rfl⟩
 |r::rs,x,h,on,hok,hk,hl=>by
  have hr:=Rec.ok_iff.1 (hok r List.mem_cons_self);have hok':∀r∈rs,r.ok=true:=fun a ha=>hok a (List.mem_cons_of_mem _ ha);rw[List.length_cons]at hl;unfold cU;by_cases c:r.seq≤q∨(t r.id.toNat).kind≠1
  ·rw[if_pos c];obtain⟨g1,g2,g3,g4,g5⟩:=Dl rs h on hok' hk (by omega);refine⟨g1,g2,g3,g4,fun i hi hki=> ?_⟩;rw[g5 i hi hki];simp only[ub];rw[if_pos (c.imp id .inl)]
  ·rw[if_neg c];obtain⟨c1,c2⟩:=not_or.1 c;obtain⟨idn,hid⟩:∃k:Nat,r.id=k:=⟨r.id.toNat,by omega⟩;obtain⟨w,hw⟩:∃k:Nat,r.word=k:=⟨r.word.toNat,by omega⟩;have hi49:idn<49:=by omega
   have hkn:(x.work idn).kind≠0:=by
    rw[hk idn hi49];rw[hid,Zh]at c2;have:(t idn).kind=1:=by simpa using c2
    omega
   rw[hid,hw];rcases PT h on hi49 hkn (show w<8 by omega) r.val with⟨_,z,_⟩|⟨y,e,hS⟩
   ·omega
   ·rw[e,if_neg (by simp)];have hwk:∀i,(y.work i).kind=(x.work i).kind∧(y.work i).ver=(x.work i).ver:=fun i=>by
     by_cases e:i=idn
     ·subst e;exact hS.kv
     ·rw[hS.others i e];exact⟨rfl,rfl⟩
    have hlf:=PR hS (by cases x.own idn<;>simp) h.ok.A;obtain⟨g1,g2,g3,g4,g5⟩:=Dl rs (x:=y) hS.inv hS.on hok' (fun i hi=>(hwk i).1.trans (hk i hi)) (by omega);refine⟨g1,g2,g3,fun i hi=>⟨(g4 i hi).1.trans (hwk i).1,(g4 i hi).2.trans (hwk i).2⟩,fun i hi hki=> ?_⟩;rw[g5 i hi (by rw[(hwk i).1];exact hki)];simp only[ub];by_cases ei:i=idn
    ·subst ei;rw[if_neg (by rw[hid,Zh]at c2⊢;simp only[not_or];exact⟨c1,c2,fun h=>h rfl⟩),hS.now,hw,Zh]
    ·rw[if_pos (.inr (.inr (by rw[hid,Zh];exact Ne.symm ei))),hS.others i ei];congr 1;obtain⟨p,hp,hp1,_,hp3⟩:=h.ln hi hki;rw[hp,Zh];refine hS.rest p fun e2=> ?_;cases ho:x.own idn with
     |true=>
      rw[(hS.same ho).2]at e2;obtain⟨p2,hp2,_⟩:=h.ln hi49 hkn;have:=h.di idn i hi49 hi (Ne.symm ei) hkn hki (by rw[hp2]at e2;rw[hp2,hp];omega);rw[ho]at this;cases this
     |false=>
      obtain⟨k,k1,k2,k3,k4,_⟩:=hS.more ho;rw[k4,Zh]at e2;subst e2;rw[k3]at hp3;cases hp3
theorem Rc {M:AM}(ok:M.Ok) (on:M.On) {core a:Nat}(hc:core<8) (ha:a<M.n) {l:List Int}(hl:l.length=8):
 ∃M',(M.store a 7 0).2=0∧((M.store a 7 0).1.layFrom a l 0 8).2=0∧(((M.store a 7 0).1.layFrom a l 0 8).1.flush core a).2=0∧(((M.store a 7 0).1.layFrom a l 0 8).1.flush core a).1.fence core=(M',0)∧
  M'.Ok∧M'.On∧M'.n=M.n∧Sur M' a∧M'.S a=l∧(∀j,j≠a→Sur M j→Sm M M' j)∧M'.count≤M.count+11:=by
 obtain⟨e1,e2,e3⟩:=uC on (i:=a) (q:=7) ha (by decide) 0;have e1:(M.store (a:Int) 7 0).2=0:=e1;have e2:(M.store (a:Int) 7 0).1.On:=e2;have n1:(M.store (a:Int) 7 0).1.n=M.n:=AM.store_n;have ok1:(M.store (a:Int) 7 0).1.Ok:=ok.store;have s1:∀j,j≠a→Sm M (M.store (a:Int) 7 0).1 j:=fun j hj=>rk (by rw[Zh];exact hj);have c1:=AM.store_count (M:=M) (i:=(a:Int)) (q:=7) (v:=0);generalize(M.store (a:Int) 7 0)=r1 at*;obtain⟨f1,f2,f3⟩:=tf hl 8 0 e2 (by rw[n1];exact ha) rfl (r1.1.now a) (ok1.now8 (by rw[n1];exact ha)) (by simp[tB]);have n2:(r1.1.layFrom (a:Int) l 0 8).1.n=r1.1.n:=AM.layFrom_n;have ok2:(r1.1.layFrom (a:Int) l 0 8).1.Ok:=ok1.layFrom;have s2:∀j,j≠a→Sm r1.1 (r1.1.layFrom (a:Int) l 0 8).1 j:=fun j hj=>ni (by rw[Zh];exact hj) 8 0 r1.1;have c2:=AM.layFrom_count (M:=r1.1) (at':=(a:Int)) (l:=l) (n:=8) (j:=0);generalize(r1.1.layFrom (a:Int) l 0 8)=r2 at*;have hfl:r2.1.flush core a=(r2.1.stepped.flushed core a,0):=by unfold AM.flush;rw[if_neg (by omega),if_neg (by rw[f2.dead];decide)];rfl
 have on3:(r2.1.stepped.flushed core a).On:=⟨(jv f2).off,(jv f2).left⟩;have ok3:(r2.1.stepped.flushed core a).Ok:=ok2.stepped.flushed _ _;have n3:(r2.1.stepped.flushed core a).n=r2.1.n:=rfl;have s3:∀j,j≠a→Sm r2.1 (r2.1.stepped.flushed core a) j:=fun j hj=>⟨by simp only[AM.flushed];rw[aw hj];rfl,rfl⟩;have fl3:flN core ((r2.1.stepped.flushed core a).L a)=((r2.1.stepped.flushed core a).L a).length:=by unfold AM.flushed;simp only[al,CF,List.length_map]
 have now3:(r2.1.stepped.flushed core a).now a=l:=by rw[AM.now_flushed];have:=f3 a;rw[if_pos rfl]at this;exact this
 have c3:(r2.1.stepped.flushed core a).count=r2.1.count+1:=rfl;rw[hfl];generalize(r2.1.stepped.flushed core a)=M3 at*;have hfe:M3.fence core=(M3.stepped.fencedTo core M3.n,0):=by unfold AM.fence;rw[if_neg (by omega),if_neg (by rw[on3.dead];decide)];rfl
 obtain⟨g1,g2,g3,g4⟩:=bJ (M:=M3.stepped) (c:=core) M3.n;obtain⟨h1,h2⟩:=rH (M:=M3.stepped) (c:=core) (j:=a) M3.n (by omega);have hLs:M3.stepped.L a=M3.L a:=rfl;have hSs:M3.stepped.S a=M3.S a:=rfl;rw[hLs,fl3,List.drop_length]at h1;rw[hLs,fl3,List.take_length,hSs]at h2;refine⟨_,e1,f1,rfl,hfe,rC ok3.stepped _,⟨g3.trans (jv on3).off,g4.trans (jv on3).left⟩,g1.trans (by show M3.n=_;omega),h1,h2.trans now3,fun j hj hs=> ?_,?_⟩
 ·have t1:=(s1 j hj).trans ((s2 j hj).trans (s3 j hj));have t2:Sur M3.stepped j:=t1.sur hs;exact t1.trans (Sm.trans (M':=M3.stepped) ⟨rfl,rfl⟩ (CC t2))
 ·rw[g2];show M3.count+1≤_;omega
theorem Im.add {c:Nat}{M:AM}{b:Sup}{t:Nat→Ent}{d:Nat→Int}{ct:Nat→List Int}(h:Im c M b t d ct) (on:M.On) {core:Nat}(hcore:core<c) (seq:Int) {r:Rec}(hr:r.ok=true) (hf:eC M seq (2+4*core) 4≠0):
 (M.addRec core seq r).2=0∧(M.addRec core seq r).1.On∧Im c (M.addRec core seq r).1 b t d ct∧(M.addRec core seq r).1.n=M.n∧(M.addRec core seq r).1.count≤M.count+11∧
  ∀j,2≤j→j<2+4*c→(M.addRec core seq r).1.now j=if j=eC M seq (2+4*core) 4 then bY r else M.now j:=by
 have hc:=h.c1;have ha:=(EG M seq 4 (2+4*core)).resolve_left hf;generalize hat:eC M seq (2+4*core) 4=a at*;have han:a<M.n:=by have:=h.ok.n0;omega
 obtain⟨M',e1,e2,e3,e4,ok,on',hn,su,hS,hsm,hcn⟩:=Rc h.ok on (core:=core) (a:=a) (by omega) han (wy r);have hadd:M.addRec core seq r=(M',0):=by unfold AM.addRec;simp only;rw[hat,if_neg hf,if_neg (by rw[hr];simp),if_neg (by rw[e1];simp),if_neg (by rw[e2];simp),if_neg (by rw[e3];simp),e4]
 rw[hadd];have hla:Ln c t d a:= .inl (by omega);have hne:∀q:Nat,2+4*c≤q→q≠a:=fun q hq=>by omega
 refine⟨rfl,on',?_,hn,hcn,fun j h1 h2=> ?_⟩
 ·have sm:∀j,j≠a→Ln c t d j→Sm M M' j:=fun j hj hl=>hsm j hj (h.sur j hl);refine⟨ok,h.c1,h.bk,h.bc,(sm 0 (by omega) (.inl (by omega))).S.trans h.s0,by rw[(sm 1 (by omega) (.inl (by omega))).S];exact h.s1,fun j hj=> ?_,?_,h.rt,fun i hi hk q hq=> ?_⟩
  ·by_cases e:j=a
   ·subst e;exact su
   ·exact(sm j e hj).sur (h.sur j hj)
  ·rw[hn];exact h.lay.sm fun j hj hs=>hsm j (hne j hj) hs
  ·obtain⟨q',q1,q2,q3,q4⟩:=h.lay.ln i hi hk;have:q'=q:=by omega
   subst this;rw[(hsm q' (hne q' q2) q4).S];exact h.ct i hi hk q' hq
 ·by_cases e:j=a
  ·subst e;rw[if_pos rfl,su.now,hS]
  ·rw[if_neg e];exact(hsm j e (h.sur j (.inl h2))).now
theorem NT {r:Rec}(h:r.ok=true) (hv:0≤r.val∧r.val<18446744073709551616):jf (bY r)=true∧cM (bY r)=r:=by
 have hr:=Rec.ok_iff.1 h;have hL:bY r=a7 (rL r):=by unfold bY;rw[if_pos h]
 have hw:∀x:Int,0≤x→x≤1099511627776→IntKind.i64.wrap (IntKind.u64.wrap x)=x:=fun x h0 h1=>by have e:IntKind.u64.wrap x=x:=fL (by omega) (by omega);rw[e];exact ae (by omega) (by omega)
 have hg:cM (bY r)=r:=by unfold cM;rw[hL,gv (by decide),gv (by decide),gv (by decide),gv (by decide)];obtain⟨q,i,w,v⟩:=r;simp only[rL,List.getD_cons_succ,List.getD_cons_zero]at hr⊢;rw[hw q (by omega) (by omega),hw i (by omega) (by omega),hw w (by omega) (by omega)]
 refine⟨?_,hg⟩;unfold jf;rw[hg,h];simp
def W64 (x:Int):Prop:=0≤x∧x<18446744073709551616
structure AM.Rg (M:AM):Prop where
 s:∀j,∀x∈M.S j,W64 x
 l:∀j,∀d∈M.L j,W64 d.v
theorem Eb {x:List Int}{l:List Dn}(hx:∀y∈x,W64 y) (hl:∀d∈l,W64 d.v):∀y∈au x l,W64 y:=by
 induction l generalizing x with
 |nil=>exact hx
 |cons d l ih=>
  intro y hy;refine ih (x:=x.set d.w d.v) (fun z hz=> ?_) (fun e he=>hl e (List.mem_cons_of_mem _ he)) y hy;rcases List.mem_or_eq_of_mem_set hz with h|h
  ·exact hx z h
  ·rw[h];exact hl d List.mem_cons_self
theorem AM.Rg.rn {M:AM}(h:M.Rg):M.Rn:=fun j=>Eb (h.s j) (h.l j)
theorem AM.Rg.store {M:AM}(h:M.Rg) {i q v:Int}(hv:W64 v):(M.store i q v).1.Rg:=by
 unfold AM.store;split
 ·exact h
 ·split
  ·exact⟨h.s,h.l⟩
  ·refine⟨h.s,fun j d hd=> ?_⟩;simp only[AM.push]at hd;by_cases e:j=i.toNat
   ·subst e;rw[al]at hd;rcases List.mem_append.1 hd with hd|hd
    ·exact h.l _ d hd
    ·rw[List.mem_singleton.1 hd];exact hv
   ·rw[aw e]at hd;exact h.l j d hd
theorem AM.Rg.layFrom {at':Int}{l:List Int}(hl:∀x∈l,W64 x):∀(n j:Nat) {M:AM},M.Rg→(M.layFrom at' l j n).1.Rg
 |0,_,_,h=>h
 |n+1,j,M,h=>by
  have hv:W64 (l.getD j 0):=by
   rw[List.getD_eq_getElem?_getD];cases e:l[j]? with
   |none=>exact⟨by decide,by decide⟩
   |some x=>exact hl x (List.mem_of_getElem? e)
  simp only[AM.layFrom];split
  ·exact h.store hv
  ·exact AM.Rg.layFrom hl n (j+1) (h.store hv)
theorem AM.Rg.flush {M:AM}(h:M.Rg) {c i:Int}:(M.flush c i).1.Rg:=by
 unfold AM.flush;split
 ·exact h
 ·split
  ·exact⟨h.s,h.l⟩
  ·refine⟨h.s,fun j d hd=> ?_⟩;simp only[AM.flushed,AM.stepped]at hd;by_cases e:j=i.toNat
   ·subst e;rw[al]at hd;obtain⟨d',h1,rfl⟩:=List.mem_map.1 hd;exact h.l _ d' h1
   ·rw[aw e]at hd;exact h.l j d hd
theorem AM.Rg.sureN {M:AM}(h:M.Rg) {i n:Nat}:(M.sureN i n).Rg:=by
 refine⟨fun j x hx=> ?_,fun j d hd=> ?_⟩
 ·simp only[AM.sureN]at hx;by_cases e:j=i
  ·subst e;rw[al]at hx;exact Eb (h.s j) (fun d hd=>h.l j d (List.mem_of_mem_take hd)) x hx
  ·rw[aw e]at hx;exact h.s j x hx
 ·simp only[AM.sureN]at hd;by_cases e:j=i
  ·subst e;rw[al]at hd;exact h.l j d (List.mem_of_mem_drop hd)
  ·rw[aw e]at hd;exact h.l j d hd
theorem AM.Rg.fencedTo {c:Nat}:∀i {M:AM},M.Rg→(M.fencedTo c i).Rg
 |0,_,h=>h
 |i+1,_,h=>(AM.Rg.fencedTo i h).sureN
theorem AM.Rg.fence {M:AM}(h:M.Rg) {c:Int}:(M.fence c).1.Rg:=by
 unfold AM.fence;split
 ·exact h
 ·split
  ·exact⟨h.s,h.l⟩
  ·exact AM.Rg.fencedTo (M:=M.stepped) _ ⟨h.s,h.l⟩
theorem AM.Rg.wrs {M:AM}(h:M.Rg) {s:Int}{b:Sup}(hb:∀x∈aH b,W64 x):(M.wrs s b).1.Rg:=by
 have h0:W64 0:=⟨by decide,by decide⟩;unfold AM.wrs;split
 ·exact h
 ·split
  ·exact h.store h0
  ·simp only;split
   ·exact AM.Rg.layFrom hb 8 0 (h.store h0)
   ·split
    ·exact(AM.Rg.layFrom hb 8 0 (h.store h0)).flush
    ·exact(AM.Rg.layFrom hb 8 0 (h.store h0)).flush.fence
theorem AM.Rg.crashN {n:Nat}:∀i {M:AM}{ks:List Int},M.Rg→(M.crashN ks i n).Rg:=by
 induction n with
 |zero=>intro i M ks h;exact h
 |succ n ih=>
  intro i M ks h;unfold AM.crashN;split
  ·exact ih _ h
  ·refine ih _ ?_;have h1:=h.sureN (i:=i) (n:=((nxK ks).1%(((M.L i).length:Int)+1)).toNat);refine⟨h1.s,fun j d hd=> ?_⟩;simp only[AM.cleared]at hd;by_cases e:j=i
   ·subst e;rw[al]at hd;cases hd
   ·rw[aw e]at hd;exact h1.l j d hd
theorem AM.Rg.crash {M:AM}(h:M.Rg) (ks:List Int):(M.crash ks).Rg:=by have:=AM.Rg.crashN (n:=M.n) (ks:=ks) 0 h;exact⟨this.s,this.l⟩
theorem AM.Rg.fuse {M:AM}(h:M.Rg) (k:Int):(M.fuse k).Rg:=⟨h.s,h.l⟩
theorem AM.Rg.put8 {M:AM}(h:M.Rg) {at':Int}{l:List Int}(hl:∀x∈l,W64 x):(M.put8 at' l).1.Rg:=by
 unfold AM.put8;split
 ·exact AM.Rg.layFrom hl 8 0 h
 ·exact(AM.Rg.layFrom hl 8 0 h).flush
theorem XA {s:AM×Int}{f:AM→AM×Int}(h:s.1.Rg) (hf:s.1.Rg→(f s.1).1.Rg):(AM.go s f).1.Rg:=by
 unfold AM.go;split
 ·exact hf h
 ·exact h
theorem rZ (x:Int):W64 (IntKind.u64.wrap x):=by obtain⟨n,h1,h2⟩:=J8 x;rw[h1];exact⟨by omega,by omega⟩
theorem RU (a b:Int):W64 (ior .u64 a b):=by unfold ior;exact rZ _
theorem zQ {l:List Int}(h:∀x∈l,W64 x):∀x∈a7 l,W64 x:=fun x hx=>by
 rcases List.mem_or_eq_of_mem_set hx with hx|hx
 ·exact h x hx
 ·rw[hx];have:=vk l;exact⟨by omega,by omega⟩
theorem wW:∀x∈zl,W64 x:=fun x hx=>by
 have:x=0:=List.eq_of_mem_replicate (n:=8) (show x∈List.replicate 8 (0:Int)from hx)
 rw[this];exact⟨by decide,by decide⟩
theorem VX (b:Sup):∀x∈aH b,W64 x:=by
 unfold aH;split
 ·refine zQ fun x hx=> ?_;unfold ns at hx;simp only[List.mem_cons,List.not_mem_nil,or_false]at hx;rcases hx with rfl|rfl|rfl|rfl|rfl|rfl|rfl|rfl
  ·exact⟨by decide,by decide⟩
  ·exact rZ _
  ·exact rZ _
  ·exact rZ _
  ·exact rZ _
  ·exact⟨by decide,by decide⟩
  ·exact⟨by decide,by decide⟩
  ·exact⟨by decide,by decide⟩
 ·exact wW
theorem VQ {r:Rec}(hv:W64 r.val):∀x∈bY r,W64 x:=by
 unfold bY;split
 ·refine zQ fun x hx=> ?_;unfold rL at hx;simp only[List.mem_cons,List.not_mem_nil,or_false]at hx;rcases hx with rfl|rfl|rfl|rfl|rfl|rfl|rfl|rfl
  ·exact⟨by decide,by decide⟩
  ·exact rZ _
  ·exact rZ _
  ·exact rZ _
  ·exact hv
  ·exact⟨by decide,by decide⟩
  ·exact⟨by decide,by decide⟩
  ·exact⟨by decide,by decide⟩
 ·exact wW
theorem Uv (t:Nat→Ent) (k:Nat):∀x∈bj t k,W64 x:=by
 unfold bj;split
 ·refine zQ fun x hx=> ?_;unfold lfL at hx;obtain⟨j,_,rfl⟩:=List.mem_map.1 hx;split
  ·unfold nF;exact RU _ _
  ·exact⟨by decide,by decide⟩
 ·exact wW
theorem Tj (d:Nat→Int):∀x∈aE d,W64 x:=by
 unfold aE;split
 ·refine zQ fun x hx=> ?_;unfold rlL at hx;obtain⟨j,_,rfl⟩:=List.mem_map.1 hx;split
  ·exact RU _ _
  ·exact⟨by decide,by decide⟩
 ·exact wW
theorem Dy {M:AM}{c:Int}:(M.fence c).1.count≤M.count+1:=by
 unfold AM.fence;split
 ·simp only;omega
 ·split
  ·simp only[AM.out];omega
  ·simp only;rw[(bJ _).2.1];simp only[AM.stepped];omega
theorem Xm {M:AM}{s:Int}{b:Sup}:(M.wrs s b).1.count≤M.count+11:=by
 have h1:=AM.store_count (M:=M) (i:=s) (q:=7) (v:=0);have h2:=AM.layFrom_count (M:=(M.store s 7 0).1) (at':=s) (l:=aH b) (n:=8) (j:=0);have h3:=(bz (M:=((M.store s 7 0).1.layFrom s (aH b) 0 8).1) (c:=0) (i:=s)).1;have h4:=Dy (M:=(((M.store s 7 0).1.layFrom s (aH b) 0 8).1.flush 0 s).1) (c:=0);unfold AM.wrs;simp only;split
 ·simp only;omega
 ·split
  ·omega
  ·split
   ·omega
   ·split<;>omega
structure FmR (N:Nat) (k:Int) (s:AM×Int):Prop where
 rg:s.1.Rg
 n:s.1.n=N
 c:s.1.count≤k
theorem FmR.go {N:Nat}{k:Int}{s:AM×Int}{f:AM→AM×Int}{m:Nat}(h:FmR N k s) (h1:s.1.Rg→(f s.1).1.Rg) (h2:(f s.1).1.n=s.1.n) (h3:(f s.1).1.count≤s.1.count+m):FmR N (k+m) (AM.go s f):=by
 have hc:=jN (s:=s) (f:=f) (k:=m) h3;have:=h.c;refine⟨XA h.rg h1,?_,by omega⟩;unfold AM.go;split
 ·exact h2.trans h.n
 ·exact h.n
theorem FmR.put {N:Nat}{k:Int}{s:AM×Int}(h:FmR N k s) {at':Int}{l:List Int}(hl:∀x∈l,W64 x):FmR N (k+(9:Nat)) (AM.go s fun M=>M.put8 at' l):=
 h.go (f:=fun M=>M.put8 at' l) (fun h=>h.put8 hl) (by
  simp only[AM.put8];split
  ·exact AM.layFrom_n
  ·exact bz.2.trans AM.layFrom_n) (by have:=lq (M:=s.1) (at':=at') (l:=l);omega)
theorem Ot {N:Nat}:∀(n i:Nat) {k:Int}{s:AM×Int},FmR N k s→FmR N (k+2*n) (AM.wipe s i n)
 |0,i,k,s,h=>⟨h.rg,h.n,by have:=h.c;simp only[AM.wipe];omega⟩
 |n+1,i,k,s,h=>by rw[AM.wipe];have h1:=h.go (f:=fun M=>M.store i 7 0) (m:=1) (fun h=>h.store ⟨by decide,by decide⟩) AM.store_n (by have:=AM.store_count (M:=s.1) (i:=(i:Int)) (q:=7) (v:=0);omega);have h2:=h1.go (f:=fun M=>M.flush 0 i) (m:=1) (fun h=>h.flush) bz.2 (by have:=(bz (M:=(AM.go s fun M=>M.store i 7 0).1) (c:=0) (i:=(i:Int))).1;omega);have h3:=Ot n (i+1) h2;exact⟨h3.rg,h3.n,by have:=h3.c;omega⟩
theorem Hu {N:Nat}:∀(l:List Obj) {k:Int}{s:AM×Int}{a:Nat}{t:Nat→Ent}{i:Nat},(∀o∈l,∀x∈o.l,W64 x)→FmR N k s→FmR N (k+9*l.length) (cF s a t i l).1
 |[],k,s,a,t,i,_,h=>⟨h.rg,h.n,by have:=h.c;simp only[cF,List.length_nil];omega⟩
 |o::l,k,s,a,t,i,hl,h=>by
  have hl':=fun o' ho=>hl o' (List.mem_cons_of_mem _ ho);simp only[cF];split
  ·have h3:=Hu l (a:=a) (t:=updE t i ⟨o.kind,o.ver,0⟩) (i:=i+1) hl' h;exact⟨h3.rg,h3.n,by have:=h3.c;rw[List.length_cons];omega⟩
  ·have h3:=Hu l (a:=a+1) (t:=updE t i ⟨o.kind,o.ver,a⟩) (i:=i+1) hl' (h.put (at':=a) (l:=o.l) (hl o List.mem_cons_self));exact⟨h3.rg,h3.n,by have:=h3.c;rw[List.length_cons];omega⟩
theorem Nk {N:Nat}(t:Nat→Ent):∀(n k':Nat) {k:Int}{s:AM×Int}{a:Nat},FmR N k s→FmR N (k+9*n) (fF t s a k' n)
 |0,k',k,s,a,h=>⟨h.rg,h.n,by have:=h.c;simp only[fF];omega⟩
 |n+1,k',k,s,a,h=>by simp only[fF];have h3:=Nk t n (k'+1) (a:=a+1) (h.put (at':=a) (l:=bj t k') (Uv t k'));exact⟨h3.rg,h3.n,by have:=h3.c;omega⟩
theorem Ry {M:AM}(h:M.Rg) (cores:Int) {l:List Obj}(hl:∀o∈l,∀x∈o.l,W64 x):(M.fmt cores l).1.Rg∧(M.fmt cores l).1.n=M.n∧(M.fmt cores l).1.count≤M.count+700:=by
 unfold AM.fmt;split
 ·exact⟨h,rfl,by simp only;omega⟩
 ·rename_i hc;split
  ·exact⟨h,rfl,by simp only;omega⟩
  ·have h0:FmR M.n M.count (M,0):=⟨h,rfl,Int.le_refl _⟩;have hc2:l.length≤49∧cores≤8:=by simp only[not_or]at hc;omega
   unfold yq;simp only;have h1:=Ot (2+4*cores.toNat) 0 h0;have h2:=h1.go (f:=fun M=>M.fence 0) (m:=1) (fun h=>h.fence) (by
    simp only[AM.fence];split
    ·rfl
    ·split
     ·rfl
     ·exact(bJ _).1) (by have:=Dy (M:=(AM.wipe (M,0) 0 (2+4*cores.toNat)).1) (c:=0);omega)
   have h3:=Hu l (a:=2+4*cores.toNat) (t:=fun _=>an) (i:=0) hl h2;generalize cF _ (2+4*cores.toNat) (fun _=>an) 0 l=r at*;obtain⟨s3,a3,t⟩:=r;simp only at h3⊢;have h4:=Nk t 7 0 (a:=a3) h3;have h5:=h4.put (at':=(a3+7:Nat)) (l:=aE fun j=>(a3:Int)+j) (Tj _);have h6:=h5.go (f:=fun M=>M.fence 0) (m:=1) (fun h=>h.fence) (by
    simp only[AM.fence];split
    ·rfl
    ·split
     ·rfl
     ·exact(bJ _).1) (by have:=Dy (M:=(AM.go (fF t s3 a3 0 7) fun M=>M.put8 (a3+7:Nat) (aE fun j=>(a3:Int)+j)).1) (c:=0);omega)
   have h7:=h6.go (f:=fun M=>M.wrs 0 ⟨1,(a3+7:Nat),0,cores⟩) (m:=11) (fun h=>h.wrs (VX _)) Xt (by have:=Xm (M:=(AM.go (AM.go (fF t s3 a3 0 7) fun M=>M.put8 (a3+7:Nat) (aE fun j=>(a3:Int)+j)) fun M=>M.fence 0).1) (s:=0) (b:=⟨1,(a3+7:Nat),0,cores⟩);omega);exact⟨h7.rg,h7.n,by have:=h7.c;omega⟩
theorem sW {q:Int}{t:Nat→Ent}:∀(rs:List Rec) {x:AS},(cU q t x rs).1.M.count≤x.M.count+8*rs.length
 |[],x=>by simp only[cU,List.length_nil];omega
 |r::rs,x=>by
  have h1:=AS.set_count (x:=x) r.id r.word r.val;have h2:=sW (q:=q) (t:=t) rs (x:=x);have h3:=sW (q:=q) (t:=t) rs (x:=(x.set r.id r.word r.val).1);rw[List.length_cons];unfold cU;split
  ·omega
  ·split
   ·omega
   ·omega
theorem VP {M:AM}(h:M.Rg) (i:Int):∀x∈(M.load i).1,W64 x:=by
 unfold AM.load;split
 ·exact wW
 ·split
  ·exact wW
  ·exact h.rn _
theorem MD {x:AS}(h:x.M.Rg) {id word v:Int}(hv:W64 v):(x.set id word v).1.M.Rg:=by
 have hl:∀l:List Int,(∀y∈l,W64 y)→(x.lay l).1.M.Rg:=fun l hl=>by
  unfold AS.lay;split
  ·exact h
  ·exact AM.Rg.layFrom hl 8 0 h
 have hs:∀y∈(x.M.load (x.work id.toNat).line).1.set word.toNat v,W64 y:=fun y hy=>by
  rcases List.mem_or_eq_of_mem_set hy with hy|hy
  ·exact VP h _ y hy
  ·rw[hy];exact hv
 unfold AS.set;split
 ·exact h
 ·split
  ·exact h
  ·split
   ·exact h.store hv
   ·split
    ·exact h
    ·split
     ·exact h
     ·simp only;split
      ·exact hl _ hs
      ·exact hl _ hs
theorem Dx {q:Int}{t:Nat→Ent}:∀(rs:List Rec) {x:AS},x.M.Rg→(∀r∈rs,W64 r.val)→(cU q t x rs).1.M.Rg
 |[],_,h,_=>h
 |r::rs,x,h,hv=>by
  have hv':∀a∈rs,W64 a.val:=fun a ha=>hv a (List.mem_cons_of_mem _ ha);unfold cU;split
  ·exact Dx rs h hv'
  ·split
   ·exact MD h (hv r List.mem_cons_self)
   ·exact Dx rs (MD h (hv r List.mem_cons_self)) hv'
theorem Nx {M:AM}(h:M.Rg):∀n i,∀r∈bb M i n,W64 r.val
 |0,_,r,hr=>by cases hr
 |n+1,i,r,hr=>by
  unfold bb at hr;rcases List.mem_append.1 hr with hr|hr
  ·split at hr
   ·rw[List.mem_singleton.1 hr];show W64 ((M.now i).getD 4 0);rw[List.getD_eq_getElem?_getD];cases e:(M.now i)[4]? with
    |none=>exact⟨by decide,by decide⟩
    |some x=>exact h.rn i x (List.mem_of_getElem? e)
   ·cases hr
  ·exact Nx h n (i+1) r hr
def Fj (t:Nat→Ent) (ct:Nat→List Int) (i:Nat):Obj×Int:=if(t i).kind=0 then(⟨0,0,zl⟩,30)else(⟨(t i).kind,(t i).ver,ct i⟩,0)
theorem LZ {x:AS}(h:Inv x) (on:x.M.On) {t:Nat→Ent}{ct:Nat→List Int}{i:Nat}(hi:i<49) (hk:(x.work i).kind=(t i).kind∧(x.work i).ver=(t i).ver) (hc:(t i).kind≠0→x.M.now (x.work i).line.toNat=ct i):x.get i=Fj t ct i:=by
 unfold AS.get Fj gE;rw[Zh];by_cases hz:(t i).kind=0
 ·rw[if_pos hz,if_neg (show¬((i:Int)<0∨49≤(i:Int)) by omega),if_pos (hk.1.trans hz),if_pos (by decide)]
 ·have hz':(x.work i).kind≠0:=by rw[hk.1];exact hz
  obtain⟨q,hq,_,hq2,_⟩:=h.ln hi hz';rw[if_neg hz,if_neg (show¬((i:Int)<0∨49≤(i:Int)) by omega),if_neg hz',if_neg (by decide),hq,JL on hq2,if_neg (by show¬(0:Int)≠0;decide)];have:=hc hz;rw[hq,Zh]at this;rw[this,hk.1,hk.2]
section
variable {c m : Nat} {M : AM} {b : Sup} {t : Nat → Ent} {d : Nat → Int} {ct : Nat → List Int} {hp : List Blk} {F : Ft}
theorem Im.recs (h:Im c M b t d ct):M.recs b=bD (bb M 2 (4*c)):=by unfold AM.recs;rw[h.bc,Zh]
theorem Im.stable (h:Im c M b t d ct) (off:M.off=false) (hl:(bb M 2 (4*c)).length<20):∀n,n≤32→(M.off=false→(bb M 2 (4*(a9 (M.now 0) (M.now 1)).1.cores.toNat)).length=n)→oV n:=fun n _ hh=>by
 have hc:=h.c1;have sur0:=h.sur 0 (.inl (by omega));have sur1:=h.sur 1 (.inl (by omega));have n0:M.now 0=aH b:=sur0.now.trans h.s0;have n1:eI (M.now 1)=false:=by rw[sur1.now];exact h.s1
 have hbest:a9 (M.now 0) (M.now 1)=(b,0,true):=by obtain⟨h1,h2⟩:=Et h.bk;rw[n0];unfold a9 bst;simp only[n1,Bool.false_eq_true,false_and,if_false,h1,h2,true_and,true_or,if_true]
 have:=hh off;rw[hbest]at this;simp only at this;rw[h.bc,Zh]at this;exact @ra n (by omega)
theorem Im.booted (h:Im c M b t d ct) {A:AF}(hB:BtS c M b t d A) (rg:M.Rg) (ok':(M.booted b A).1.M.Ok):Im c (M.booted b A).1.M b t d ct∧(M.booted b A).1.M.n=M.n∧(M.booted b A).1.M.Rg∧(M.booted b A).1.M.count≤M.count+8*(4*c)∧∀j,j<2+4*c→(M.booted b A).1.M.now j=M.now j:=by
 have hsm:∀j,Ln c t d j→Sm M (M.booted b A).1.M j:=fun j hj=>DR (M.recs b) hB.inv (hB.kp j hj);have hn:(M.booted b A).1.M.n=M.n:=HW (M.recs b);refine⟨h.sm ok' hn hsm,hn,Dx (M.recs b) rg ?_,?_,fun j hj=>(hsm j (.inl hj)).now⟩
 ·rw[h.recs];exact fun r hr=>Nx rg _ _ r (mM.1 hr)
 ·have h1:=sW (q:=b.seq) (t:=ldT M (M.now b.root.toNat)) (M.recs b) (x:=M.st0 b A);have h2:(M.recs b).length≤4*c:=by rw[h.recs,dH];exact qa M _ _
  have h3:(M.st0 b A).M.count=M.count:=rfl;unfold AM.booted;omega
theorem Jm (h:aI hp F m M) (im:Im c M b t d ct) (on:M.On) (hG:hp[0]?=some (.ro ep)) (hz:¬F 0) (rg:M.Rg) (hl:(bb M 2 (4*c)).length<20) (hleft:2+4*c+57+(bb M 2 (4*c)).length≤M.n) (hc:M.count+400<1000000) (L:List Blk):
 ∃hp' Fm' a fr x',rf D gV [.ptr (.hp m) [] 59] ⟨L,hp⟩=some (.tup [iS (.ptr (.hp a) [] 43) b.v 0 (fI b.seq (bD (bb M 2 (4*c)))+1),.int .i64 0],⟨L,hp'⟩)∧bX hp' Fm' a m fr x'∧Chg hp hp' F (il a fr Fm')∧
  x'.M.On∧Im c x'.M b t d ct∧x'.M.n=M.n∧x'.M.Rg∧x'.M.count≤M.count+8*(4*c)∧(∀j,j<2+4*c→x'.M.now j=M.now j)∧Inv x'∧(∀i,i<49→(x'.work i).kind=(t i).kind∧(x'.work i).ver=(t i).ver)∧
  (∀i,i<49→(t i).kind≠0→x'.M.now (x'.work i).line.toNat=ub b.seq t i (ct i) (bD (bb M 2 (4*c))))∧(bb M 2 (4*c)=[]→∀i,i<49→x'.work i=t i):=by
 obtain⟨A,hbt,hB⟩:=im.boot on.off;rcases DT h hG hz rg.rn (im.stable on.off hl) hc L with⟨e,_⟩|⟨b',slot,A',hp',Fm',a,fr,e,hW,hch,hr⟩
 ·rw[hbt]at e;cases e
 ·rw[hbt]at e;simp only[Zk,Zg,and_true]at e;obtain⟨rfl,rfl,rfl⟩:=e;obtain⟨i1,i2,i3,i4,i5⟩:=im.booted hB rg hW.mp.ok;have hlr:(M.recs b).length=(bb M 2 (4*c)).length:=by rw[im.recs,dH]
  have hla:=hB.left;have hAl:(M.st0 b A).A.left=A.left:=rfl;obtain⟨g1,g2,g3,g4,g5⟩:=Dl (q:=b.seq) (t:=ldT M (M.now b.root.toNat)) (M.recs b) hB.inv (show(M.st0 b A).M.On from on) (fun r hr=>by rw[im.recs]at hr;exact qV M _ _ r (mM.1 hr)) (fun i hi=>rfl) (by omega)
  have g1:(M.booted b A).2=0:=g1;have hbo:cU b.seq (ldT M (M.now b.root.toNat)) (M.st0 b A) (M.recs b)=M.booted b A:=rfl;rw[hbo]at g2 g3 g4 g5;rw[if_pos g1,im.recs]at hr;have hap:∀(rs:List Rec),(∀r∈rs,r.ok=true)→∀i l,ub b.seq (ldT M (M.now b.root.toNat)) i l rs=ub b.seq t i l rs:=by
   intro rs
   induction rs with
   |nil=>intro _ i l;rfl
   |cons r rs ih=>
    intro hok i l;have hr:=Rec.ok_iff.1 (hok r List.mem_cons_self);have ih:=ih fun a ha=>hok a (List.mem_cons_of_mem _ ha);simp only[ub];rw[hB.ld r.id.toNat (by omega),ih,ih]
  refine⟨hp',Fm',a,fr,(M.booted b A).1,hr,hW,hch,g3,i1,i2,i3,i4,i5,g2,fun i hi=> ?_,fun i hi hk=> ?_,fun he i hi=> ?_⟩
  ·obtain⟨k1,k2⟩:=g4 i hi;rw[k1,k2,hB.w i hi];exact⟨rfl,rfl⟩
  ·have hw:=hB.w i hi;rw[g5 i hi (by rw[hw];exact hk),hw];obtain⟨p,hp,p1,p2,p3⟩:=im.lay.ln i hi hk;rw[hp,Zh];have hM0:(M.st0 b A).M.now p=ct i:=by show M.now p=ct i;rw[p3.now];exact im.ct i hi hk p hp
   rw[hM0,im.recs];exact hap _ (fun r hr=>qV M _ _ r (mM.1 hr)) i (ct i)
  ·have:(M.booted b A).1=M.st0 b A:=by unfold AM.booted;rw[im.recs,he];rfl
   rw[this];exact hB.w i hi
end
theorem Wr {LL hp:List Blk}{i r e:Nat}{l:List V}(h:LL[i]?=some (.rw (.agg r l))) (X:List Blk):RS ⟨LL++X,hp⟩ e (.sl (.loc i) [] 0 l.length (some l.length) e) l:=by
 have hi:=aj h;refine .inr ⟨.loc i,[],0,some l.length,rfl,fun c hc=>by cases hc;exact Nat.le_refl _,?_,.inr ⟨r,l,?_,fun j x hx=>by rw[Nat.zero_add];exact hx⟩⟩
 ·simp only[V.locLt,Zi,List.length_append];omega
 ·have h2:(LL++X)[i]?=some (.rw (.agg r l)):=by rw[List.getElem?_append_left hi];exact h
  simp only[St.read,St.at,h2,V.at]
theorem GP:jf zl=false:=by
 unfold jf;have:(cM zl).ok=false:=by decide
 rw[this];rfl
theorem yO {M:AM}:∀n i,(∀j,i≤j→j<i+n→M.now j=zl)→bb M i n=[]
 |0,_,_=>rfl
 |n+1,i,h=>by unfold bb;rw[h i (Nat.le_refl _) (by omega),GP,if_neg (by simp),yO n (i+1) fun j h1 h2=>h j (by omega) (by omega)];rfl
theorem HJ (n:Nat):(am0 n fun _=>zl).Rg:=⟨fun _=>wW,fun _ d hd=>by cases hd⟩
theorem Mm {hp:List Blk}{F:Ft}{m n:Nat}(h:aI hp F m (am0 n fun _=>zl)) (hG:hp[0]?=some (.ro ep)) (hz:¬F 0) (L:List Blk):
 ∃X,rf D gV [.ptr (.hp m) [] 59] ⟨L,hp⟩=some (.tup [bm,.int .i64 20],⟨L,hp++X⟩):=by
 have hbest:a9 zl zl=(dI,0,false):=by have:eI zl=false:=JX rfl;unfold a9 bst;simp only[this,Bool.false_eq_true,false_and,if_false]
 have hbt:(am0 n fun _=>zl).bt=(none,20):=by
  unfold AM.bt;rw[if_neg (show¬((am0 n fun _=>zl).off=true)from fun h=>by cases h)]
  show(if(a9 zl zl).2.2=false then((none:Option (Sup×Int×AF)),(20:Int))else _)=_
  rw[hbest,if_pos rfl]
 rcases DT h hG hz (HJ n).rn (fun k _ hk=>by
  have h2:=hk rfl;have h3:a9 ((am0 n fun _=>zl).now 0) ((am0 n fun _=>zl).now 1)=(dI,0,false):=hbest;rw[h3]at h2;have h4:k=0:=by rw[←h2];rfl
  subst h4;exact @ra 0 (by omega)) (by show(0:Int)+400<1000000;decide) L with⟨_,X,e⟩|⟨b,slot,A,_,_,_,_,e,_⟩
 ·rw[hbt]at e;exact⟨X,e⟩
 ·rw[hbt]at e;cases e
def rF:Obj:=⟨1,0,[1,2,0,0,0,0,0,0]⟩
theorem Kw {hp:List Blk}(L:List Blk) (hG:hp[0]?=some (.ro ep)):∃hp',rf D jG [] ⟨L,hp⟩=some (.bool true,⟨L,hp'⟩)∧hp<+:hp':=by
 have hG0:0<hp.length:=aj hG;obtain⟨X0,hx0,e0,m0⟩:=EE (n:=64) (by omega) (by omega) hp L;rw[show((64:Nat):Int)=64 from rfl]at e0
 have hz0:¬(fun j=>j=hp.length∨j=hp.length+1) 0:=by simp only;omega
 have hG1:(hp++X0)[0]?=some (.ro ep):=by rw[List.getElem?_append_left hG0];exact hG
 have ab0:ru hp.length fun j=>j=hp.length∨j=hp.length+1:=fun j hj=>by rcases hj with rfl|rfl<;>omega
 generalize hm:hp.length+1=m at*;obtain⟨X1,e1⟩:=Mm m0 hG1 hz0 L;have m1:=m0.snoc X1;have hG2:(hp++X0++X1)[0]?=some (.ro ep):=by rw[List.getElem?_append_left (aj hG1)];exact hG1
 have pre1:hp<+:hp++X0++X1:=by rw[List.append_assoc];exact List.prefix_append _ _
 generalize hp++X0++X1=h1 at*;let K:List Blk:=L++[.rw bm,.rw (.agg 28 [rF.v])];have hrs:∀(X hp':List Blk) (F':Ft),Chg h1 hp' (fun j=>j=hp.length∨j=m) F'→RS ⟨K++X,hp'⟩ 26 (.sl (.loc (L.length+1)) [] 0 1 (some 1) 26) ([rF].map Obj.v):=fun X hp' F' _=>
  Wr (l:=[rF.v]) (r:=28) (by simp[K]) X
 obtain⟨h2,F2,e2,m2,g2⟩:=D4 (m:=m) (L:=K) (lv:= .sl (.loc (L.length+1)) [] 0 1 (some 1) 26) (by simp[K,V.locLt]) (l:=[rF]) hrs (fun o ho=>by rw[List.mem_singleton.1 ho];rfl) (by simp) 1 m1 (by show(0:Int)+2000<1000000;decide);obtain⟨p2,b2⟩:=g2.pre pre1 ab0;have hfm:=Wh (N:=64) (c:=1) (by omega) (by omega) (l:=[rF]) (by decide) (fun o ho=>by rw[List.mem_singleton.1 ho];rfl) (by simp) (by omega) (by decide);rw[show((1:Nat):Int)=1 from rfl]at hfm
 obtain⟨k1,k2,k3,b,t,d,ct,im,kg,kq,klog,kobj,kno⟩:=hfm;obtain⟨r1,r2,r3⟩:=Ry (HJ 64) 1 (l:=[rF]) (fun o ho x hx=>by
  rw[List.mem_singleton.1 ho]at hx;have:x=1∨x=2∨x=0:=by simp only[rF,List.mem_cons,List.not_mem_nil,or_false]at hx;omega
  rcases this with rfl|rfl|rfl<;>exact⟨by decide,by decide⟩)
 rw[show(am0 64 fun _=>zl).count=0 from rfl]at r3
 rw[k1]at e2;generalize((am0 64 fun _=>zl).fmt 1 [rF]).1=M2 at*;have hz2:¬F2 0:=fun h=>by have:=b2 0 h;omega
 have hG3:h2[0]?=some (.ro ep):=eH p2 hG;obtain⟨t0,t0',t0c⟩:=kobj 0 (by decide);have tk:(t 0).kind=1:=t0;have tc:ct 0=[1,2,0,0,0,0,0,0]:=t0c (by decide);have now2:∀j,2≤j→j<6→M2.now j=zl:=fun j h1 h2=>by rw[(im.sur j (.inl (by omega))).now,klog j h1 (by omega)]
 have rec2:bb M2 2 4=[]:=yO 4 2 fun j h1 h2=>now2 j h1 (by omega);obtain⟨h3,F3,a,fr,xa,e3,W3,g3,on3,im3,n3,rg3,c3,now3,inv3,kv3,ct3,same3⟩:=Jm m2 im k2 hG3 hz2 r1 (by rw[show 4*1=4 from rfl,rec2];decide) (by rw[show 4*1=4 from rfl,rec2];simp only[List.length_nil];omega) (by omega) K
 rw[show 4*1=4 from rfl,rec2]at e3
 obtain⟨p3,b3⟩:=g3.pre p2 b2;have now3':∀j,2≤j→j<6→xa.M.now j=zl:=fun j h1 h2=>(now3 j (by omega)).trans (now2 j h1 h2);let r:Rec:=⟨1,0,3,9⟩;have hfree:eC xa.M 0 2 4=2:=by unfold eC;rw[now3' 2 (by omega) (by omega),if_pos (.inl GP)]
 let K4:List Blk:=K++[.rw (iS (.ptr (.hp a) [] 43) b.v 0 1)];obtain⟨h4,F4,e4,m4,g4⟩:=DU W3.mp (by omega) on3.off (core:=0) (by omega) (by omega) 0 r K4;obtain⟨q1,q2,q3,q4,q5,q6⟩:=im3.add on3 (core:=0) (by omega) 0 (r:=r) (by decide) (by rw[show 2+4*0=2 from rfl,hfree];decide)
 rw[show 2+4*0=2 from rfl,hfree]at q6
 have W4:=W3.setM m4 g4 q4;rw[q1]at e4;have rg4:(xa.M.addRec 0 0 r).1.Rg:=by
  have hv:∀x∈bY r,W64 x:=VQ ⟨by decide,by decide⟩;unfold AM.addRec;simp only;split
  ·exact rg3
  ·split
   ·exact rg3
   ·split
    ·exact rg3.store ⟨by decide,by decide⟩
    ·split
     ·exact AM.Rg.layFrom hv 8 0 (rg3.store ⟨by decide,by decide⟩)
     ·split
      ·exact(AM.Rg.layFrom hv 8 0 (rg3.store ⟨by decide,by decide⟩)).flush
      ·exact(AM.Rg.layFrom hv 8 0 (rg3.store ⟨by decide,by decide⟩)).flush.fence
 generalize(xa.M.addRec 0 0 r).1=M4 at*;obtain⟨rr1,rr2⟩:=NT (r:=r) (by decide) ⟨by decide,by decide⟩;have rec4:bb M4 2 4=[r]:=by
  have e2:M4.now 2=bY r:=by rw[q6 2 (by omega) (by omega),if_pos rfl]
  have e3:∀j,3≤j→j<3+3→M4.now j=zl:=fun j h1 h2=>by rw[q6 j (by omega) (by omega),if_neg (by omega)];exact now3' j (by omega) (by omega)
  show(if jf (M4.now 2)=true then[cM (M4.now 2)]else[])++bb M4 3 3=_
  rw[e2,rr1,if_pos rfl,rr2,yO 3 3 e3];rfl
 obtain⟨h5,F5,a2,fr2,xb,e5,W5,g5,on5,im5,n5,rg5,c5,now5,inv5,kv5,ct5,_⟩:=Jm m4 q3 q2 W4.g W4.nz rg4 (by rw[show 4*1=4 from rfl,rec4];decide) (by rw[show 4*1=4 from rfl,rec4];simp only[List.length_singleton];omega) (by omega) K4
 rw[show 4*1=4 from rfl,rec4]at e5 ct5
 have g5':Chg h4 h5 F4 F5:=g5.mono (fun _ h=>h) fun j hj=> .inl (.inr (.inr hj));have W6:=W4.setM W5.mp g5' n5;have wa:xa.work 0=t 0:=same3 (by rw[show 4*1=4 from rfl,rec2]) 0 (by decide)
 have ga:AS.get {xa with M:=xb.M} (0:Nat)=(rF,0):=by
  have:=LZ (x:={xa with M:=xb.M}) (inv3.withM W5.mp.ok (n5.trans q4)) on5 (t:=t) (ct:=ct) (i:=0) (by decide) (by rw[show({xa with M:=xb.M}:AS).work 0=t 0 from wa];exact⟨rfl,rfl⟩) (fun hk=>by show xb.M.now (xa.work 0).line.toNat=_;rw[wa];obtain⟨p,hp,p1,p2,p3⟩:=im5.lay.ln 0 (by decide) hk;rw[hp,Zh,p3.now];exact im5.ct 0 (by decide) hk p hp)
  rw[this];unfold Fj;rw[if_neg (by rw[tk];decide),tc,tk,t0'];rfl
 have gb:xb.get (0:Nat)=(⟨1,0,[1,2,0,9,0,0,0,0]⟩,0):=by
  have:=LZ inv5 on5 (t:=t) (ct:=fun _=>[1,2,0,9,0,0,0,0]) (i:=0) (by decide) (kv5 0 (by decide)) (fun hk=>by
   rw[ct5 0 (by decide) hk,tc,kq];show ub 0 t 0 [1,2,0,0,0,0,0,0] [r]=_;simp only[ub];rw[if_neg (by
    rw[show r.id.toNat=0 from rfl,tk]
    decide)]
   rfl)
  rw[this];unfold Fj;rw[if_neg (by rw[tk];decide),tk,t0'];rfl
 have eA:=fun L=>zc W6 ((0:Nat):Int) L;have eB:=fun L=>zc W5 ((0:Nat):Int) L;rw[ga]at eA;rw[gb]at eB;rw[show((0:Nat):Int)=0 from rfl]at eA eB e4
 obtain⟨p4,b4⟩:=g4.pre p3 (fun j hj=>b3 j (.inr (.inr hj)));obtain⟨p5,b5⟩:=g5.pre p4 b4;refine⟨h5,?_,p5⟩;have kl1:fI b.seq (bD ([]:List Rec))+1=1:=by rw[kq];rfl
 have kl2:fI b.seq (bD [r])+1=2:=by rw[kq];rfl
 rw[kl1]at e3;rw[kl2]at e5;clear W3 W4 W5 W6 m0 m1 m2 m4 im im3 im5 ct3 ct5 hfree q6 q3 rg3 rg4 rg5 ga gb rec2 rec4 hrs;obtain⟨bg,br,bq,bc⟩:=b;simp only[K4,K,r,Rec.v,rF,Obj.v,Sup.v,iS,bm,dI,List.map_cons,List.map_nil,List.cons_append,List.append_assoc,List.nil_append]at*;have hr8:List.replicate 8 (V.int .u64 0)=[.int .u64 0,.int .u64 0,.int .u64 0,.int .u64 0,.int .u64 0,.int .u64 0,.int .u64 0,.int .u64 0]:=rfl;have hr1:∀X:V,List.replicate 1 X=[X]:=fun _=>rfl;rw[ab u6 rfl];simp only[go_sem,e0,e1,hr8,hr1];simp only[go_sem,e2];simp only[go_sem,e3];simp only[go_sem,e4,e5];simp only[go_sem,eA,eB,hr8]
def o3 (k:Int):Obj:=⟨k,0,zl⟩
theorem Ev (c n:Int) (h0:-9223372036854775808≤c) (h1:c≤9223372036854775807) (hn:0<n) (s:St):rf D kK [.int .i64 c,.int .i64 n] s=some (.int .i64 (kd c n),s):=by
 have hn0:¬n=0:=by omega
 unfold kd;rw[ab vT rfl];by_cases hc:c<0
 ·have w1:IntKind.i64.wrap (c+1)=c+1:=ae (by omega) (by omega);have w2:IntKind.i64.wrap (0-(c+1))=-(c+1):=by rw[ae (by omega) (by omega)];omega
  have w3:(-(c+1)).tmod n=(-(c+1))%n:=Int.tmod_eq_emod_of_nonneg (by omega);simp only[go_sem,hc,w1,w2,hn0,w3]
 ·have w3:c.tmod n=c%n:=Int.tmod_eq_emod_of_nonneg (by omega);simp only[go_sem,hc,hn0,w3]
structure Obj.Ok (o:Obj):Prop where
 k:-9223372036854775808≤o.kind∧o.kind≤9223372036854775807
 v:-9223372036854775808≤o.ver∧o.ver≤9223372036854775807
 l8:o.l.length=8
 w:∀x∈o.l,W64 x
def LS1 (hp:List Blk) (G:Ft) (e r:Nat) (v:V) (l:List V):Prop:=(v= .sl (.loc 1) [] 0 0 (some 0) e∧l=[])∨SlR hp G e r v l
section
variable {m : Nat}
end
def lg (rc:Nat→Rec) (k j:Nat):List Int:=if j=2∧1≤k then bY (rc 0)else if j=6∧2≤k then bY (rc 1)else if j=3∧3≤k then bY (rc 2)else if j=7∧4≤k then bY (rc 3)else zl
section
variable {v : List Int} {M : AM} {k : Nat}
end
section
variable {m : Nat}
end
theorem UF {hp:List Blk}{v:V}(h:(Sh.st 26 [.int .i64,.int .i64,.arr 24 8 (.int .u64)]).Fits hp v):∃o:Obj,v=o.v∧o.Ok:=by obtain⟨o,rfl,h1,h2,h3⟩:=VY h;exact⟨o,rfl,⟨h2,h3,h1.l8,fun x hx=>by have:=h1.words x hx;unfold W64;omega⟩⟩
theorem LS1.elems {hp:List Blk}{G:Ft}{e r:Nat}{v:V}{l:List V}(h:LS1 hp G e r v l) (L:List Blk):St.elems ⟨L,hp⟩ v=some l:=by
 rcases h with⟨rfl,rfl⟩|h
 ·rfl
 ·exact h.elems L
end Go.Proofs.YtilcajpldklbiaaGreatDoor
