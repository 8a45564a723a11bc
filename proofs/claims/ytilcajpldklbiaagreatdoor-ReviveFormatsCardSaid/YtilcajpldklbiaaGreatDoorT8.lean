/-
  YtilcajpldklbiaaGreatDoorT8: what functions of the program compute (FvA, FvB, FvC, FvD, FvE, FvF, FvG, FvH, FvI, FvJ, FvK, FvL, FvM, FvN, FvO, FvP).
-/
import Derived.Test.YtilcajpldklbiaaGreatDoorT7
import Derived.Test.YtilcajpldklbiaaGreatDoorT5
set_option maxRecDepth 100000
namespace Go.Proofs.YtilcajpldklbiaaGreatDoor
open Go.Ab
theorem Rd {hp:List Blk}{F:Ft}{m:Nat}{M:AM}(h:aV hp F m M) {j:Nat}(hj:j<M.n) {k k2:Nat}{o:Bool}{l c:Int}(hb:hp[m]?=some (.rw (rmV k M.n k2 o l c))):
 ∃T y,hp[k2]?=some (.rw (.agg 53 T))∧T.length=M.n∧T[j]?=some y∧y.tag=1∧m≠k2∧aV (hp.set k2 (.rw (.agg 53 (T.set j .nils)))) F m (M.cleared j)∧Chg hp (hp.set k2 (.rw (.agg 53 (T.set j .nils)))) F F∧F k2:=by
 obtain⟨k',k2',fk,fk2,n1,n2,n3,h1,h2,sv,ow,h4,h5⟩:=h.mb;have:k=k'∧k2=k2':=by have:=Blk.rw.inj (Option.some.inj (hb.symm.trans h1));simp only[rmV]at this;simp at this;exact⟨this.1,this.2.1⟩
 obtain⟨rfl,rfl⟩:=this;have hkl:=aj h4;refine⟨tab M.n sv,sv j,h4,iI _ _,av hj,(h5 j hj).tag,n2,⟨h.ok.cleared j,h.inn.set,h.fm,k,k2,fk,fk2,n1,n2,n3,?_,?_,upd sv j .nils,ow,?_,fun x hx=> ?_⟩,iH.mono (fun x hx=>by cases hx;exact fk2) fun _=> .inr,fk2⟩
 ·rw[List.getElem?_set_ne (Ne.symm n2)];exact h1
 ·rw[List.getElem?_set_ne (Ne.symm n3)];exact h2
 ·rw[dg,List.getElem?_set_self hkl];rfl
 ·have hx':x<M.n:=hx;unfold AM.cleared;simp only;by_cases e:x=j
  ·subst e;rw[al,al];exact .nil
  ·rw[aw e,aw e];exact(h5 x hx').eqv (fun y hy=>List.getElem?_set_ne (Ne.symm hy.2.2.2.1)) fun _ h=>h
theorem vD {m:Nat}(L:List Blk) {H:List Blk}{v:V}{ks:List Int}(hrs:RS ⟨[],H⟩ 10 v (ks.map (.int .i64))) (hr:∀k∈ks,-9223372036854775808≤k∧k≤9223372036854775807) {nL:Nat}:∀(n i q:Nat) {M:AM}{hp:List Blk}{F:Ft},i+n=M.n→M.n=nL→q≤i→M.count<1000000→aV hp F m M→H<+:hp→ru H.length F→
 ∃hp' F',∃q':Nat,rc D L.length (.loop [0,1,4,5] a8) [(0,.ptr (.hp m) [] 33),(1,v),(4,.int .i64 q),(5,.int .i64 i)] ⟨L,hp⟩=
  some (.exit 0,[(0,.ptr (.hp m) [] 33),(1,v),(4,.int .i64 q'),(5,.int .i64 nL),(13,.bool false)],⟨L,hp'⟩)∧aV hp' F' m (M.crashN (ks.drop q) i n)∧Chg hp hp' F F'
 |0,i,q,M,hp,F,hi,hn,hq,hc,h,hpre,hab=>by
  have:i=nL:=by omega
  subst this;refine⟨hp,F,q,?_,h,.refl _ _⟩;obtain⟨k,k2,fk,fk2,n1,n2,n3,h1,h2,_⟩:=h.mb;have d1:¬(i:Int)<i:=by omega
  rw[hn]at h1;simp only[rmV]at h1;rw[aa];simp only[go_sem,a8,d1,h1]
 |n+1,i,q,M,hp,F,hi,hn,hq,hc,h,hpre,hab=>by
  have hM:=h;have vlt:∀n,V.locLt n v=true:=fun n=>bE (Nat.zero_le _) hrs.locLt;obtain⟨k,k2,fk,fk2,n1,n2,n3,h1,h2,sv,ow,h4,h5⟩:=h.mb;have hj:i<M.n:=by omega
  have g4:=av (f:=sv) hj;have q2:=md (a:= .hp k2) (e:=1) hj;have d1:(i:Int)<M.n:=by omega
  have hn1:=h.ok.n1;have d4:IntKind.i64.wrap ((i:Int)+1)=((i+1:Nat):Int):=ae (by omega) (by omega);have hsl:=(h5 i hj).slen;rw[List.length_map]at hsl;have hsvt:=(h5 i hj).tag;have hlen:=h.ok.len i hj;subst hn;unfold AM.crashN;by_cases hz:M.L i=[]
  ·rw[if_pos hz];obtain⟨hp',F',q',r1,r2,r3⟩:=vD L hrs hr n (i+1) q (by omega) rfl (by omega) hc hM hpre hab;refine⟨hp',F',q',?_,r2,r3⟩;rw[←r1,aa];have d5:(((M.L i).length:Nat):Int)=0:=by rw[hz];rfl
   simp only[rmV]at h1;generalize(tab M.n sv)=T0 at*;generalize(M.L i).length=fz at*;simp only[go_sem,a8,d1,h1,q2,h4,g4,hsl,d5,d4,vlt]
  ·rw[if_neg hz];have hrd:∀k∈ks.drop q,-9223372036854775808≤k∧k≤9223372036854775807:=fun k hk=>hr k (List.mem_of_mem_drop hk);obtain⟨k0,k1,_⟩:=Em hrd;have hdr:(nxK (ks.drop q)).2=ks.drop (q+1):=by
    by_cases c:q<ks.length
    ·rw[List.drop_eq_getElem_cons c];rfl
    ·rw[List.drop_eq_nil_of_le (by omega),List.drop_eq_nil_of_le (by omega)];rfl
   rw[hdr];have hpos:0<(M.L i).length:=List.length_pos_iff.2 hz;have hq0:=Int.emod_nonneg (nxK (ks.drop q)).1 (show(((M.L i).length:Nat):Int)+1≠0 by omega);have hq1:=Int.emod_lt_of_pos (nxK (ks.drop q)).1 (show 0<(((M.L i).length:Nat):Int)+1 by omega);have w3:((nxK (ks.drop q)).1).tmod (((M.L i).length:Int)+1)=(((nxK (ks.drop q)).1%(((M.L i).length:Int)+1)).toNat:Nat):=by rw[Int.tmod_eq_emod_of_nonneg k0];omega
   generalize hQ:((nxK (ks.drop q)).1%(((M.L i).length:Int)+1)).toNat=Q at*;obtain⟨hp1,F1,s1,s2,s3⟩:=Ca hM hc (j:=i) (n:=Q) hj (by omega) L;obtain⟨k',k2',fk',fk2',n1',n2',n3',h1b,_⟩:=s2.mb;have h1b':=h1b;obtain⟨T,y,t1,t2,t3,t4,t5,t6,t7,t8⟩:=Rd s2 (j:=i) hj h1b;obtain⟨p1,b1⟩:=s3.pre hpre hab;obtain⟨p2,b2⟩:=t7.pre p1 b1;obtain⟨hp',F',q',r1,r2,r3⟩:=vD L hrs hr n (i+1) (q+1) (nL:=M.n) (M:=(M.sureN i Q).cleared i) (by show i+1+n=M.n;omega) rfl (by omega) hc t6 p2 b2;refine⟨hp',F',q',?_,r2,(s3.trans t7).trans r3⟩;rw[←r1,aa];have d5:¬(((M.L i).length:Nat):Int)=0:=by omega
   have d6:IntKind.i64.wrap (((M.L i).length:Int)+1)=((M.L i).length:Int)+1:=ae (by omega) (by omega);have d7:¬((M.L i).length:Int)+1=0:=by omega
   have d8:IntKind.i64.wrap ((q:Int)+1)=((q+1:Nat):Int):=ae (by omega) (by omega);have q3:=md (a:= .hp k2') (e:=1) (n:=M.n) hj;have hrs1:RS ⟨L,hp⟩ 10 v (ks.map (.int .i64)):=hrs.more ⟨List.nil_prefix,hpre⟩;have hs:=hrs1.slen;rw[List.length_map]at hs;clear r1 r2 r3 t6 t7 s2 s3 hQ h5;have en:(M.sureN i Q).n=M.n:=rfl;simp only[rmV]at h1 h1b;rw[en]at h1b;generalize(tab M.n sv)=T0 at*;generalize(M.L i).length=fz at*;generalize(M.sureN i Q).off=o1 at*;generalize(M.sureN i Q).left=l1 at*;generalize(M.sureN i Q).count=c1 at*;by_cases cq:q<ks.length
   ·have hg:=am (f:=V.int .i64) (l:=ks) (i:=q) cq 0;have hld:ldv ⟨L,hp⟩ 10 (elq v q [] 10)=V.at [] (.int .i64 (ks.getD q 0)):=hrs1.ldq hg;have hsad:=hrs1.sadq hg (k:= .i64);have c1:(q:Int)<ks.length:=by omega
    have hkr:=hr _ (wO cq 0);have hnx:(nxK (ks.drop q)).1=if ks.getD q 0<0 then-(ks.getD q 0+1)else ks.getD q 0:=by rw[List.drop_eq_getElem_cons cq,List.getD_eq_getElem?_getD,List.getElem?_eq_getElem cq];rfl
    rw[hnx]at w3;generalize ks.getD q 0=kk at*;by_cases ck:kk<0
    ·rw[if_pos ck]at w3;have w1:IntKind.i64.wrap (kk+1)=kk+1:=ae (by omega) (by omega);have w2:IntKind.i64.wrap (0-(kk+1))=-(kk+1):=by rw[ae (by omega) (by omega)];omega
     simp only[go_sem,a8,d1,h1,q2,h4,g4,hsl,d5,hs,c1,hsad,hld,ck,w1,w2,d6,d7,w3,s1,h1b,q3,t1,t3,t4,d8,d4,vlt]
    ·rw[if_neg ck]at w3;simp only[go_sem,a8,d1,h1,q2,h4,g4,hsl,d5,hs,c1,hsad,hld,ck,d6,d7,w3,s1,h1b,q3,t1,t3,t4,d8,d4,vlt]
   ·have c1:¬(q:Int)<ks.length:=by omega
    have hnx:(nxK (ks.drop q)).1=0:=by rw[List.drop_eq_nil_of_le (by omega)];rfl
    rw[hnx]at w3;simp only[go_sem,a8,d1,h1,q2,h4,g4,hsl,d5,hs,c1,d6,d7,w3,s1,h1b,q3,t1,t3,t4,d8,d4,vlt]
theorem Iy {hp:List Blk}{F:Ft}{m:Nat}{M:AM}(h:aV hp F m M) (hc:M.count<1000000) {H:List Blk}{v:V}{ks:List Int}(hrs:RS ⟨[],H⟩ 10 v (ks.map (.int .i64))) (hr:∀k∈ks,-9223372036854775808≤k∧k≤9223372036854775807) (hpre:H<+:hp) (hab:ru H.length F) (L:List Blk):
 ∃hp' F',rf D fE [.ptr (.hp m) [] 33,v] ⟨L,hp⟩=some (.tup [],⟨L,hp'⟩)∧aV hp' F' m (M.crash ks)∧Chg hp hp' F F':=by
 obtain⟨hp1,F1,q1,r1,r2,r3⟩:=vD L hrs hr M.n 0 0 (by omega) rfl (Nat.le_refl _) hc h hpre hab;rw[List.drop_zero]at r2;obtain⟨k,k2,fk,fk2,n1,n2,n3,h1,h2,_⟩:=r2.mb;have ok:=r2.ok;have hcr:M.crash ks={M.crashN ks 0 M.n with off:=false,left:=-1}:=rfl;generalize hN:M.crashN ks 0 M.n=N at*;obtain⟨g1,g2⟩:=r2.setm (M':=M.crash ks) (by rw[hcr];exact⟨ok.n0,ok.n1,ok.l8,ok.w8,ok.c0,ok.len,by show(-1:Int)≤-1;decide,by show(-1:Int)≤9223372036854775807;decide⟩) (by rw[hcr]) (by rw[hcr]) (by rw[hcr]) h1;refine⟨_,F1,?_,g1,r3.trans g2⟩;have hml:=aj h1;have hkx:∀x,(hp1.set m x)[m]?=some x:=fun x=>List.getElem?_set_self hml;rw[hcr];simp only[rmV]at h1⊢;rw[show((0:Nat):Int)=0 from rfl]at r1
 rw[ab qx rfl];simp only[go_sem,r1,h1,hkx,List.set_set]
theorem Bw:∀(n i:Nat) {s:AM×Int},s.2≠0→AM.wipe s i n=s
 |0,_,_,_=>rfl
 |n+1,i,s,h=>by rw[AM.wipe,cD (by rw[cD h];exact h),cD h];exact Bw n (i+1) h
theorem tI:∀(l:List Obj) {s:AM×Int}{a:Nat}{t:Nat→Ent}{i:Nat},s.2≠0→(cF s a t i l).1=s
 |[],_,_,_,_,_=>rfl
 |o::r,s,a,t,i,h=>by
  simp only[cF];split
  ·exact tI r h
  ·rw[cD h];exact tI r h
theorem uz {t:Nat→Ent}:∀(n k a:Nat) {s:AM×Int},s.2≠0→fF t s a k n=s
 |0,_,_,_,_=>rfl
 |n+1,k,a,s,h=>by rw[fF,cD h];exact uz n (k+1) (a+1) h
section
variable {m : Nat}
theorem yH {L hp:List Blk}{mv lv:V}(hmv:∀n,mv.locLt n=true) (cores:Int) {l:List Obj}(hlt:lv.locLt L.length=true) (hrs:RS ⟨L,hp⟩ 26 lv (l.map Obj.v)) (h8:∀o∈l,o.l.length=8) (hmax:l.length<1000000000):∀(n i:Nat) {k:Nat},i+n=l.length→k≤i→
 rc D L.length (.loop [0,1,2,7,8] aU) [(0,mv),(1,.int .i64 cores),(2,lv),(7,.int .i64 k),(8,.int .i64 i)] ⟨L,hp⟩=some
  (if(l.drop i).all oOk=true then(.exit 0,[(0,mv),(1,.int .i64 cores),(2,lv),(7,.int .i64 (k+bT (l.drop i):Nat)),(8,.int .i64 l.length),(35,.bool false)],⟨L,hp⟩)else(.ret,[(6,.int .i64 1)],⟨L,hp⟩))
 |0,i,k,hi,hk=>by
  have:i=l.length:=by omega
  subst this;have d1:¬(l.length:Int)<l.length:=by omega
  have hs:=hrs.slen;rw[List.length_map]at hs;rw[List.drop_length,aa];simp only[bT,Nat.add_zero,List.all_nil,if_true];simp only[go_sem,aU,d1,hs]
 |n+1,i,k,hi,hk=>by
  have hil:i<l.length:=by omega
  have hs:=hrs.slen;rw[List.length_map]at hs;have d1:(i:Int)<l.length:=by omega
  have d4:IntKind.i64.wrap ((i:Int)+1)=((i+1:Nat):Int):=ae (by omega) (by omega);have d5:IntKind.i64.wrap ((k:Int)+1)=((k+1:Nat):Int):=ae (by omega) (by omega);have hg:=am (f:=Obj.v) (l:=l) (i:=i) hil noO;have hld0:ldv ⟨L,hp⟩ 10 (elq lv i [0] 10)=V.at [0] (l.getD i noO).v:=hrs.ldq hg;have hld1:ldv ⟨L,hp⟩ 10 (elq lv i [1] 10)=V.at [1] (l.getD i noO).v:=hrs.ldq hg;have hld2:ldv ⟨L,hp⟩ 24 (elq lv i [2] 24)=V.at [2] (l.getD i noO).v:=hrs.ldq hg;have hf0:mi 26 0 10 (elq lv i [] 26)=some (elq lv i [0] 10):=hrs.fadq hg;have hf1:mi 26 1 10 (elq lv i [] 26)=some (elq lv i [1] 10):=hrs.fadq hg;have hf2:mi 26 2 24 (elq lv i [] 26)=some (elq lv i [2] 24):=hrs.fadq hg;have hsad:=hrs.sadq hg (k:= .i64);have hdrop:l.drop i=l.getD i noO::l.drop (i+1):=by rw[List.getD_eq_getElem?_getD,List.getElem?_eq_getElem hil];exact List.drop_eq_getElem_cons hil
  have hok:=Dh (o:=l.getD i noO);have hl8:(l.getD i noO).l.length=8:=h8 _ (by rw[List.getD_eq_getElem?_getD,List.getElem?_eq_getElem hil];exact List.getElem_mem hil);rw[hdrop,List.all_cons];simp only[bT];generalize hO:l.getD i noO=o at*;have hve:=vS (k:= .u64) (A:=o.l) (B:=zl) (by rw[hl8];rfl);have hzz:zl.map (V.int .u64)=List.replicate 8 (.int .u64 0):=rfl;rw[hzz]at hve;obtain⟨kd,vr,ln⟩:=o;simp only[Obj.v]at*;by_cases hv:oOk ⟨kd,vr,ln⟩=true
  ·obtain⟨h1,h2,h3⟩:=hok.1 hv;have a1:¬kd<0:=by omega
   have a2:¬kd>4:=by omega
   have a3:¬vr<0:=by omega
   have a4:¬vr>16777215:=by omega
   rw[hv,Bool.true_and];by_cases hk0:kd=0
   ·have hz:decide (ln=zl)=true:=decide_eq_true (h3 hk0);rw[hz]at hve;have q1:=yH hmv cores hlt hrs h8 hmax n (i+1) (k:=k) (by omega) (by omega);rw[if_pos hk0,Nat.zero_add,←q1,aa];clear q1 hok hO hdrop hg hrs h3 hz hv;subst hk0;simp only[go_sem,aU,d1,hs,hsad,hf0,hf1,hf2,hld0,hld1,hld2,a3,a4,hve,d4,hlt,hmv]
   ·have q1:=yH hmv cores hlt hrs h8 hmax n (i+1) (k:=k+1) (by omega) (by omega);rw[if_neg hk0,←Nat.add_assoc,←q1,aa];clear q1 hok hO hdrop hg hrs h3 hv;simp only[go_sem,aU,d1,hs,hsad,hf0,hf1,hf2,hld0,hld1,hld2,a1,a2,a3,a4,hk0,d4,d5,hlt,hmv]
  ·have hv':oOk ⟨kd,vr,ln⟩=false:=by simpa using hv
   rw[hv',Bool.false_and,if_neg (by simp)];rw[aa];clear hO hdrop hg hrs;by_cases a1:kd<0
   ·simp only[go_sem,aU,d1,hs,hsad,hf0,hf1,hf2,hld0,hld1,hld2,a1]
   ·by_cases a2:kd>4
    ·simp only[go_sem,aU,d1,hs,hsad,hf0,hf1,hf2,hld0,hld1,hld2,a1,a2]
    ·by_cases a3:vr<0
     ·simp only[go_sem,aU,d1,hs,hsad,hf0,hf1,hf2,hld0,hld1,hld2,a1,a2,a3]
     ·by_cases a4:vr>16777215
      ·simp only[go_sem,aU,d1,hs,hsad,hf0,hf1,hf2,hld0,hld1,hld2,a1,a2,a3,a4]
      ·have hk0:kd=0:=by
        by_cases e:kd=0
        ·exact e
        ·exact absurd (hok.2 ⟨by omega,by omega,fun h=>absurd h e⟩) hv
       have hz:decide (ln=zl)=false:=decide_eq_false fun e=>hv (hok.2 ⟨by omega,by omega,fun _=>e⟩);rw[hz]at hve;subst hk0;simp only[go_sem,aU,d1,hs,hsad,hf0,hf1,hf2,hld0,hld1,hld2,a3,a4,hve]
theorem ES {l:List Int}(hl:l.length=8) {at':Int}{L:List Blk}:∀(n j:Nat) {hp:List Blk}{Fm:Ft}{M:AM},j+n=8→aV hp Fm m M→M.count+n<1000000→
 ∃hp' Fm',rc D L.length (.loop [0,1,5,7] eE) [(0,.ptr (.hp m) [] 33),(1,.int .i64 at'),(5,.ptr (.loc L.length) [] 24),(7,.int .i64 j)] ⟨L++[.rw (lnV l)],hp⟩=
  some (if(M.layFrom at' l j n).2=0 then(.exit 0,[(0,.ptr (.hp m) [] 33),(1,.int .i64 at'),(5,.ptr (.loc L.length) [] 24),(7,.int .i64 8),(10,.bool false)],⟨L++[.rw (lnV l)],hp'⟩)else(.ret,[(6,.int .i64 (M.layFrom at' l j n).2)],⟨L++[.rw (lnV l)],hp'⟩))∧
  aV hp' Fm' m (M.layFrom at' l j n).1∧Chg hp hp' Fm Fm'
 |0,j,hp,Fm,M,hj,h,_=>by
  have:j=8:=by omega
  subst this;refine⟨hp,Fm,?_,h,.refl _ _⟩;rw[aa];simp only[lnV,AM.layFrom,if_true];simp only[go_sem,eE]
 |n+1,j,hp,Fm,M,hj,h,hc=>by
  obtain⟨hp1,Fm1,e1,e2,e3⟩:=ma h (by omega) at' j (l.getD j 0) (L++[.rw (lnV l)]);have hcn:=AM.store_count (M:=M) (i:=at') (q:=j) (v:=l.getD j 0);have d1:(j:Int)<8:=by omega
  have d2:(0:Int)≤j:=by omega
  have d4:IntKind.i64.wrap ((j:Int)+1)=((j+1:Nat):Int):=ae (by omega) (by omega);have g:=am (f:=V.int .u64) (l:=l) (i:=j) (by omega) 0;by_cases he:(M.store at' j (l.getD j 0)).2=0
  ·have hl1:M.layFrom at' l j (n+1)=(M.store at' j (l.getD j 0)).1.layFrom at' l (j+1) n:=by rw[AM.layFrom,if_neg fun hh=>hh he]
   rw[hl1];obtain⟨hp2,Fm2,q1,q2,q3⟩:=ES hl n (j+1) (by omega) e2 (by omega);refine⟨hp2,Fm2,?_,q2,e3.trans q3⟩;rw[←q1,aa];rw[he]at e1;simp only[lnV]at*;generalize l.getD j 0=wd at*;have z3:L.length<L.length+1:=by omega
   simp only[go_sem,eE,d1,d2,Zh,g,e1,d4,z3]
  ·have hl1:M.layFrom at' l j (n+1)=M.store at' j (l.getD j 0):=by rw[AM.layFrom,if_pos he]
   rw[hl1];refine⟨hp1,Fm1,?_,e2,e3⟩;rw[aa,if_neg he];simp only[lnV]at*;generalize l.getD j 0=wd at*;simp only[go_sem,eE,d1,d2,Zh,g,e1,he]
theorem tC {l:List Int}(hl:l.length=8) (at':Int) {hp:List Blk}{F:Ft}{M:AM}(h:aV hp F m M) (hc:M.count+10<1000000) (L:List Blk):
 ∃hp' F',rf D lH [.ptr (.hp m) [] 33,.int .i64 at',lnV l] ⟨L,hp⟩=some (.int .i64 (M.put8 at' l).2,⟨L,hp'⟩)∧aV hp' F' m (M.put8 at' l).1∧Chg hp hp' F F':=by
 obtain⟨hp1,F1,e1,m1,g1⟩:=ES hl (at':=at') (L:=L) 8 0 (by omega) h (by omega);have hcn:=AM.layFrom_count (M:=M) (at':=at') (l:=l) (n:=8) (j:=0);rw[show((0:Nat):Int)=0 from rfl]at e1
 unfold AM.put8;generalize M.layFrom at' l 0 8=s at*;by_cases he:s.2=0
 ·rw[if_neg fun hh=>hh he];rw[if_pos he]at e1;obtain⟨hp2,e2,m2,g2⟩:=vu m1 (by omega) 0 at' (L++[.rw (lnV l)]);refine⟨hp2,F1,?_,m2,g1.trans g2⟩;rw[ab qu rfl];simp only[lnV]at*;simp only[go_sem,e1,e2]
 ·rw[if_pos he];rw[if_neg he]at e1;refine⟨hp1,F1,?_,m1,g1⟩;rw[ab qu rfl];simp only[lnV]at*;simp only[go_sem,e1]
theorem Cf {L:List Blk}{lv:V}(hlv:∀n,lv.locLt n=true) (cores:Int) {at0:Nat}(ha:at0≤1000):∀(n i:Nat) {hp:List Blk}{F:Ft}{M:AM},i+n=at0→aV hp F m M→M.count+2*n<1000000→
 ∃hp' F',rc D L.length (.loop [0,1,2,9,10] ce) [(0,.ptr (.hp m) [] 33),(1,.int .i64 cores),(2,lv),(9,.int .i64 at0),(10,.int .i64 i)] ⟨L,hp⟩=
  some (if(AM.wipe (M,0) i n).2=0 then(.exit 2,[(0,.ptr (.hp m) [] 33),(1,.int .i64 cores),(2,lv),(9,.int .i64 at0),(10,.int .i64 at0),(107,.bool false)],⟨L,hp'⟩)else(.ret,[(6,.int .i64 (AM.wipe (M,0) i n).2)],⟨L,hp'⟩))∧
  aV hp' F' m (AM.wipe (M,0) i n).1∧Chg hp hp' F F'
 |0,i,hp,F,M,hi,h,hc=>by
  have:i=at0:=by omega
  subst this;refine⟨hp,F,?_,h,.refl _ _⟩;have d1:¬(i:Int)<i:=by omega
  rw[AM.wipe,aa,if_pos rfl];simp only[go_sem,ce,d1]
 |n+1,i,hp,F,M,hi,h,hc=>by
  have d1:(i:Int)<at0:=by omega
  have d4:IntKind.i64.wrap ((i:Int)+1)=((i+1:Nat):Int):=ae (by omega) (by omega);obtain⟨hp1,F1,e1,m1,g1⟩:=ma h (by omega) i 7 0 L;have hcn:=AM.store_count (M:=M) (i:=(i:Int)) (q:=7) (v:=0);rw[AM.wipe,jD (s:=(M,0)) rfl];simp only;generalize M.store i 7 0=s1 at*;by_cases h1:s1.2=0
  ·obtain⟨hp2,e2,m2,g2⟩:=vu m1 (by omega) 0 i L;have hcf:=(bz (M:=s1.1) (c:=0) (i:=(i:Int))).1;rw[jD h1];generalize s1.1.flush 0 i=s2 at*;by_cases h2:s2.2=0
   ·obtain⟨hp3,F3,e3,m3,g3⟩:=Cf hlv cores ha n (i+1) (M:=s2.1) (by omega) m2 (by omega);have hs2:(s2.1,(0:Int))=s2:=by rw[←h2]
    rw[hs2]at e3 m3;refine⟨hp3,F3,?_,m3,(g1.trans g2).trans g3⟩;rw[←e3,aa];rw[h1]at e1;rw[h2]at e2;simp only[go_sem,ce,d1,e1,e2,d4,hlv]
   ·rw[Bw n (i+1) h2];refine⟨hp2,F1,?_,m2,g1.trans g2⟩;rw[aa,if_neg h2];rw[h1]at e1;simp only[go_sem,ce,d1,e1,e2,h2]
  ·rw[cD h1,Bw n (i+1) h1];refine⟨hp1,F1,?_,m1,g1⟩;rw[aa,if_neg h1];simp only[go_sem,ce,d1,e1,h1]
end
section
variable {m : Nat}
theorem yC {L:List Blk}{H:List Blk}{lv:V}{l:List Obj}(hrs:RS ⟨[],H⟩ 26 lv (l.map Obj.v)) (h8:∀o∈l,o.l.length=8) (h49:l.length≤49) (cores:Int):
 ∀(n i:Nat) {at':Nat}{t:Nat→Ent}{hp:List Blk}{F:Ft}{M:AM},i+n=l.length→at'+n≤2000→aV hp F m M→M.count+10*n+10<1000000→H<+:hp→ru H.length F→
 ∃hp' F' X,rc D L.length (.loop [0,1,2,9,13,14] ca) [(0,.ptr (.hp m) [] 33),(1,.int .i64 cores),(2,lv),(9,.int .i64 at'),(13,.ptr (.loc L.length) [] 48),(14,.int .i64 i)] ⟨L++[.rw (ac t)],hp⟩=
  some (if(cF (M,0) at' t i (l.drop i)).1.2=0 then(.exit 4,[(0,.ptr (.hp m) [] 33),(1,.int .i64 cores),(2,lv),(9,.int .i64 (cF (M,0) at' t i (l.drop i)).2.1),(13,.ptr (.loc L.length) [] 48),(14,.int .i64 l.length),(130,.bool false)],
   ⟨L++[.rw (ac (cF (M,0) at' t i (l.drop i)).2.2)],hp'⟩)else(.ret,[(6,.int .i64 (cF (M,0) at' t i (l.drop i)).1.2)],⟨L++[X],hp'⟩))∧
  aV hp' F' m (cF (M,0) at' t i (l.drop i)).1.1∧Chg hp hp' F F'∧(cF (M,0) at' t i (l.drop i)).1.1.count≤M.count+9*n
 |0,i,at',t,hp,F,M,hi,hat,h,hc,hpre,hab=>by
  have:i=l.length:=by omega
  subst this;rw[List.drop_length];have hs:=hrs.slen;rw[List.length_map]at hs;refine⟨hp,F,.dead,?_,h,.refl _ _,by simp only[cF];omega⟩;have d1:¬(l.length:Int)<l.length:=by omega
  rw[aa];simp only[cF,if_true];simp only[go_sem,ca,d1,hs]
 |n+1,i,at',t,hp,F,M,hi,hat,h,hc,hpre,hab=>by
  have hil:i<l.length:=by omega
  have hs:=hrs.slen;rw[List.length_map]at hs;have d1:(i:Int)<l.length:=by omega
  have d0:(0:Int)≤i:=by omega
  have d49:(i:Int)<49:=by omega
  have d4:IntKind.i64.wrap ((i:Int)+1)=((i+1:Nat):Int):=ae (by omega) (by omega);have d5:IntKind.i64.wrap ((at':Int)+1)=((at'+1:Nat):Int):=ae (by omega) (by omega);have hg:=am (f:=Obj.v) (l:=l) (i:=i) hil noO;have hlv:∀n,lv.locLt n=true:=fun n=>bE (Nat.zero_le _) hrs.locLt;have hrsX:∀X,RS ⟨L++X,hp⟩ 26 lv (l.map Obj.v):=fun X=>hrs.more ⟨List.nil_prefix,hpre⟩;have hld0:∀X,ldv ⟨L++X,hp⟩ 10 (elq lv i [0] 10)=V.at [0] (l.getD i noO).v:=fun X=>(hrsX X).ldq hg;have hld1:∀X,ldv ⟨L++X,hp⟩ 10 (elq lv i [1] 10)=V.at [1] (l.getD i noO).v:=fun X=>(hrsX X).ldq hg;have hld2:∀X,ldv ⟨L++X,hp⟩ 24 (elq lv i [2] 24)=V.at [2] (l.getD i noO).v:=fun X=>(hrsX X).ldq hg;have hf0:mi 26 0 10 (elq lv i [] 26)=some (elq lv i [0] 10):=(hrsX []).fadq hg;have hf1:mi 26 1 10 (elq lv i [] 26)=some (elq lv i [1] 10):=(hrsX []).fadq hg;have hf2:mi 26 2 24 (elq lv i [] 26)=some (elq lv i [2] 24):=(hrsX []).fadq hg;have hsad:=(hrsX []).sadq hg (k:= .i64);have hdrop:l.drop i=l.getD i noO::l.drop (i+1):=by rw[List.getD_eq_getElem?_getD,List.getElem?_eq_getElem hil];exact List.drop_eq_getElem_cons hil
  have hl8:(l.getD i noO).l.length=8:=h8 _ (by rw[List.getD_eq_getElem?_getD,List.getElem?_eq_getElem hil];exact List.getElem_mem hil);rw[hdrop];generalize hO:l.getD i noO=o at*;have z0:L.length<L.length+1:=by omega
  have hT:=iI 49 fun i=>(t i).v;have hTs:∀e:Ent,(tab 49 fun i=>(t i).v).set i e.v=tab 49 fun j=>(updE t i e j).v:=fun e=>by rw[dg];apply bp;intro j _;unfold upd updE;split<;>rfl
  by_cases hk0:o.kind=0
  ·have hfo:cF (M,0) at' t i (o::l.drop (i+1))=cF (M,0) at' (updE t i ⟨o.kind,o.ver,0⟩) (i+1) (l.drop (i+1)):=by simp only[cF];rw[if_pos hk0]
   rw[hfo];obtain⟨hp2,F2,X,q1,q2,q3,q4⟩:=yC hrs h8 h49 cores n (i+1) (at':=at') (t:=updE t i ⟨o.kind,o.ver,0⟩) (by omega) (by omega) h (by omega) hpre hab;refine⟨hp2,F2,X,?_,q2,q3,by omega⟩;rw[←q1,aa];clear q1 q2 q3 q4;have hTs0:=hTs ⟨o.kind,o.ver,0⟩;obtain⟨kd,vr,ln⟩:=o;simp only at hk0;subst hk0;simp only[ac,Obj.v,Ent.v]at*;rw[←hTs0];generalize(tab 49 fun i=>V.agg 42 [V.int .i64 (t i).kind,V.int .i64 (t i).ver,V.int .i64 (t i).line])=T at*;obtain⟨y,hTy⟩:∃y,T[i]?=some y:=⟨_,List.getElem?_eq_getElem (by omega)⟩;simp only[go_sem,ca,d1,hs,hsad,hf0,hf1,hld0,hld1];simp only[go_sem,d0,d49,Zh,hTy,hsad,hf0,hld0,d4,z0,hlv]
  ·have hfo:cF (M,0) at' t i (o::l.drop (i+1))=cF (M.put8 at' o.l) (at'+1) (updE t i ⟨o.kind,o.ver,at'⟩) (i+1) (l.drop (i+1)):=by simp only[cF];rw[if_neg hk0,jD (s:=(M,0)) rfl]
   rw[hfo];obtain⟨hp1,F1,e1,m1,g1⟩:=tC hl8 at' h (by omega) (L++[.rw (ac (updE t i ⟨o.kind,o.ver,at'⟩))]);obtain⟨p1,b1⟩:=g1.pre hpre hab;have hcn:=lq (M:=M) (at':=at') (l:=o.l);generalize M.put8 at' o.l=s1 at*;have hTs0:=hTs ⟨o.kind,o.ver,at'⟩;by_cases h1:s1.2=0
   ·obtain⟨hp2,F2,X,q1,q2,q3,q4⟩:=yC hrs h8 h49 cores n (i+1) (at':=at'+1) (t:=updE t i ⟨o.kind,o.ver,at'⟩) (M:=s1.1) (by omega) (by omega) m1 (by omega) p1 b1;have hs1:(s1.1,(0:Int))=s1:=by rw[←h1]
    rw[hs1]at q1 q2 q4;refine⟨hp2,F2,X,?_,q2,g1.trans q3,by omega⟩;rw[←q1,aa];rw[h1]at e1;clear q1 q2 q3 q4;obtain⟨kd,vr,ln⟩:=o;simp only at hk0;simp only[ac,Obj.v,Ent.v,lnV]at*;rw[←hTs0]at e1⊢;generalize(tab 49 fun i=>V.agg 42 [V.int .i64 (t i).kind,V.int .i64 (t i).ver,V.int .i64 (t i).line])=T at*;obtain⟨y,hTy⟩:∃y,T[i]?=some y:=⟨_,List.getElem?_eq_getElem (by omega)⟩;have hTi:∀x,(T.set i x)[i]?=some x:=fun x=>List.getElem?_set_self (by omega);simp only[go_sem,ca,d1,hs,hsad,hf0,hf1,hld0,hld1];simp only[go_sem,d0,d49,Zh,hTy,hsad,hf0,hf2,hld0,hld2,hk0,hTi,List.set_set,e1,d4,d5,z0,hlv]
   ·have hfe:=tI (l.drop (i+1)) (s:=s1) (a:=at'+1) (t:=updE t i ⟨o.kind,o.ver,at'⟩) (i:=i+1) h1;rw[hfe];refine⟨hp1,F1,.rw (ac (updE t i ⟨o.kind,o.ver,at'⟩)),?_,m1,g1,by omega⟩;rw[aa,if_neg h1];obtain⟨kd,vr,ln⟩:=o;simp only at hk0;simp only[ac,Obj.v,Ent.v,lnV]at*;rw[←hTs0]at e1⊢;generalize(tab 49 fun i=>V.agg 42 [V.int .i64 (t i).kind,V.int .i64 (t i).ver,V.int .i64 (t i).line])=T at*;obtain⟨y,hTy⟩:∃y,T[i]?=some y:=⟨_,List.getElem?_eq_getElem (by omega)⟩;have hTi:∀x,(T.set i x)[i]?=some x:=fun x=>List.getElem?_set_self (by omega);simp only[go_sem,ca,d1,hs,hsad,hf0,hf1,hld0,hld1];simp only[go_sem,d0,d49,Zh,hTy,hsad,hf0,hf2,hld0,hld2,hk0,hTi,List.set_set,e1,h1]
theorem Ap {L:List Blk}(cores:Int) (t:Nat→Ent) {a0:Nat}(ha0:a0≤2000):∀(n k:Nat) {at':Nat}{hp:List Blk}{F:Ft}{M:AM},k+n=7→at'=a0+k→aV hp F m M→M.count+10*n+10<1000000→
 ∃hp' F' X,rc D L.length (.loop [0,1,9,13,15,16] cX) [(0,.ptr (.hp m) [] 33),(1,.int .i64 cores),(9,.int .i64 at'),(13,.ptr (.loc L.length) [] 48),(15,.ptr (.loc (L.length+1)) [] 60),(16,.int .i64 k)] ⟨L++[.rw (ac t),.rw (d7V (aG (fun j=>(a0:Int)+j) k))],hp⟩=
  some (if(fF t (M,0) at' k n).2=0 then(.exit 6,[(0,.ptr (.hp m) [] 33),(1,.int .i64 cores),(9,.int .i64 (a0+7:Nat)),(13,.ptr (.loc L.length) [] 48),(15,.ptr (.loc (L.length+1)) [] 60),(16,.int .i64 7),(171,.bool false)],
   ⟨L++[.rw (ac t),.rw (d7V (aG (fun j=>(a0:Int)+j) 7))],hp'⟩)else(.ret,[(6,.int .i64 (fF t (M,0) at' k n).2)],⟨L++X,hp'⟩))∧
  aV hp' F' m (fF t (M,0) at' k n).1∧Chg hp hp' F F'∧(fF t (M,0) at' k n).1.count≤M.count+9*n
 |0,k,at',hp,F,M,hi,hat,h,hc=>by
  have:k=7:=by omega
  subst this;subst hat;refine⟨hp,F,[],?_,h,.refl _ _,by simp only[fF];omega⟩;rw[aa];simp only[fF,if_true,d7V];simp only[go_sem,cX]
 |n+1,k,at',hp,F,M,hi,hat,h,hc=>by
  have hk7:k<7:=by omega
  have d1:(k:Int)<7:=by omega
  have d2:(0:Int)≤k:=by omega
  have d4:IntKind.i64.wrap ((k:Int)+1)=((k+1:Nat):Int):=ae (by omega) (by omega);have d5:IntKind.i64.wrap ((at':Int)+1)=((at'+1:Nat):Int):=ae (by omega) (by omega);have z0:L.length<L.length+2:=by omega
  have z1:L.length+1<L.length+2:=by omega
  obtain⟨le,hLf⟩:∃e:St→Int,∀s,rf D gH [ac t,.int .i64 k] s=some (.tup [lnV (bj t k),.int .i64 (e s)],s):=by refine⟨fun _=>_,fun s=>by rw[Ff t hk7 s,PS]⟩
  let X:List Blk:=[.rw (ac t),.rw (d7V (aG (fun j=>(a0:Int)+j) k)),.rw (lnV (bj t k))];obtain⟨hp1,F1,e1,m1,g1⟩:=tC (px t k) at' h (by omega) (L++X);have hcn:=lq (M:=M) (at':=at') (l:=bj t k);have hfl:fF t (M,0) at' k (n+1)=fF t (M.put8 at' (bj t k)) (at'+1) (k+1) n:=by rw[fF,jD (s:=(M,0)) rfl]
  rw[hfl];generalize M.put8 at' (bj t k)=s1 at*;have hu:=uk (f:=fun j=>(a0:Int)+j) (n:=7) (i:=k);have gt:=av (f:=fun j=>V.int .i64 (aG (fun j=>(a0:Int)+j) k j)) hk7;have hcb:(a0:Int)+(k:Int)=(at':Int):=by omega
  have tz:(lnV (bj t k)).tag=24:=rfl;have vz:∀b,V.locLt b (lnV (bj t k))=true:=fun b=>jq;have vt:∀b,V.locLt b (ac t)=true:=fun b=>fV;by_cases h1:s1.2=0
  ·obtain⟨hp2,F2,Y,q1,q2,q3,q4⟩:=Ap cores t ha0 n (k+1) (at':=at'+1) (M:=s1.1) (by omega) (by omega) m1 (by omega);have hs1:(s1.1,(0:Int))=s1:=by rw[←h1]
   rw[hs1]at q1 q2 q4;refine⟨hp2,F2,Y,?_,q2,g1.trans q3,by omega⟩;rw[←q1,aa];rw[h1]at e1;clear q1 q2 q3 q4 h m1;simp only[X,d7V]at*;rw[←hu,hcb];clear hu;generalize lnV (bj t k)=Y at*;generalize ac t=TT at*;generalize tab 7 (fun j=>V.int .i64 (aG (fun j=>(a0:Int)+j) k j))=T at*;simp only[go_sem,cX,d1,hLf,tz,vz];simp only[go_sem,d1,d2,d4,d5,Zh,gt,z0,z1,e1,vt]
  ·have hfe:=uz (t:=t) n (k+1) (at'+1) (s:=s1) h1;rw[hfe];refine⟨hp1,F1,X,?_,m1,g1,by omega⟩;rw[aa,if_neg h1];simp only[X,d7V]at*;clear hu;generalize lnV (bj t k)=Y at*;generalize ac t=TT at*;generalize tab 7 (fun j=>V.int .i64 (aG (fun j=>(a0:Int)+j) k j))=T at*;simp only[go_sem,cX,d1,hLf,tz,vz];simp only[go_sem,d2,Zh,gt,e1,h1]
end
section
variable {m : Nat}
theorem CZ:∀(n i:Nat) {s:AM×Int},(AM.wipe s i n).1.count≤s.1.count+2*n
 |0,_,s=>by simp only[AM.wipe];omega
 |n+1,i,s=>by have c1:(AM.go s fun M=>M.store i 7 0).1.count≤s.1.count+(1:Nat):=jN (by have:=AM.store_count (M:=s.1) (i:=(i:Int)) (q:=7) (v:=0);omega);have c2:(AM.go (AM.go s fun M=>M.store i 7 0) fun M=>M.flush 0 i).1.count≤(AM.go s fun M=>M.store i 7 0).1.count+(1:Nat):=jN (by have:=(bz (M:=(AM.go s fun M=>M.store i 7 0).1) (c:=0) (i:=(i:Int))).1;omega);have c3:=CZ n (i+1) (s:=AM.go (AM.go s fun M=>M.store i 7 0) fun M=>M.flush 0 i);rw[AM.wipe];omega
theorem Au {M:AM}{c:Int}:(M.fence c).1.count≤M.count+1:=by
 unfold AM.fence;split
 ·simp only;omega
 ·split
  ·simp only[AM.out];omega
  ·simp only;rw[(bJ _).2.1];simp only[AM.stepped];omega
theorem BF {H:List Blk}{lv:V}{l:List Obj}(hrs:RS ⟨[],H⟩ 26 lv (l.map Obj.v)) (h8:∀o∈l,o.l.length=8) (hmax:l.length<1000000000) (cores:Int) {hp:List Blk}{F:Ft}{M:AM}(h:aV hp F m M) (hc:M.count+2000<1000000) (hpre:H<+:hp) (hab:ru H.length F) (L:List Blk):
 ∃hp' F',rf D i6 [.ptr (.hp m) [] 33,.int .i64 cores,lv] ⟨L,hp⟩=some (.int .i64 (M.fmt cores l).2,⟨L,hp'⟩)∧aV hp' F' m (M.fmt cores l).1∧Chg hp hp' F F':=by
 have hlv:∀n,lv.locLt n=true:=fun n=>bE (Nat.zero_le _) hrs.locLt;have hrsL:RS ⟨L,hp⟩ 26 lv (l.map Obj.v):=hrs.more ⟨List.nil_prefix,hpre⟩;have hck:=yH (L:=L) (hp:=hp) (mv:= .ptr (.hp m) [] 33) (fun _=>rfl) cores (hlv _) hrsL h8 hmax l.length 0 (k:=0) (by omega) (Nat.le_refl _);rw[List.drop_zero,Nat.zero_add,show((0:Nat):Int)=0 from rfl]at hck
 have hsl:=hrsL.slen;rw[List.length_map]at hsl;unfold AM.fmt;by_cases c0:l.all oOk=false∨49<l.length∨cores<1∨8<cores
 ·rw[if_pos c0];refine⟨hp,F,?_,h,.refl _ _⟩;by_cases b3:cores<1
  ·rw[ab aK rfl];simp only[go_sem,b3]
  ·by_cases b4:cores>8
   ·rw[ab aK rfl];simp only[go_sem,b3,b4]
   ·by_cases b5:(l.length:Int)>49
    ·rw[ab aK rfl];simp only[go_sem,b3,b4,b5,hsl]
    ·have b1:¬l.all oOk=true:=by
      rcases c0 with c|c|c|c
      ·rw[c];simp
      ·omega
      ·omega
      ·omega
     rw[if_neg b1]at hck;rw[ab aK rfl];simp only[go_sem,b3,b4,b5,hsl,hck]
 ·rw[if_neg c0];have b1:l.all oOk=true:=by
   cases e:l.all oOk
   ·exact absurd (.inl e) c0
   ·rfl
  have b2:l.length≤49:=by have:=fun e=>c0 (.inr (.inl e));omega
  have b3:¬cores<1:=fun e=>c0 (.inr (.inr (.inl e)));have b4:¬cores>8:=fun e=>c0 (.inr (.inr (.inr e)));have b5:¬(l.length:Int)>49:=by omega
  rw[if_pos b1]at hck;obtain⟨cn,rfl⟩:∃cn:Nat,cores=cn:=⟨cores.toNat,by omega⟩;rw[Zh];have hFr:=fun s=>sG (c:=cn) (by omega) s;rw[show(2:Int)+4*(cn:Int)=((2+4*cn:Nat):Int) by omega]at hFr;have hcl:=DH l;have w1:IntKind.i64.wrap (((2+4*cn:Nat):Int)+(bT l:Int))=((2+4*cn+bT l:Nat):Int):=by rw[ae (by omega) (by omega)];omega
  have w2:IntKind.i64.wrap (((2+4*cn+bT l:Nat):Int)+8)=((2+4*cn+bT l+8:Nat):Int):=by rw[ae (by omega) (by omega)];omega
  obtain⟨k,k2,fk,fk2,n1,n2,n3,hm,hk,_⟩:=h.mb;simp only[rmV]at hm;by_cases c1:M.n<2+4*cn+bT l+8
  ·rw[if_pos c1];refine⟨hp,F,?_,h,.refl _ _⟩;have d1:(M.n:Int)<((2+4*cn+bT l+8:Nat):Int):=by omega
   rw[ab aK rfl];simp only[go_sem,b3,b4,b5,hsl,hck];simp only[go_sem,hFr,hm,w1,w2,d1]
  ·rw[if_neg c1];have d1:¬(M.n:Int)<((2+4*cn+bT l+8:Nat):Int):=by omega
   generalize hat:2+4*cn=at0 at*;have hhead:∀{X:Option (V×St)},True→True:=fun _=>trivial;obtain⟨hp1,F1,e1,m1,g1⟩:=Cf (m:=m) (L:=L) hlv cn (at0:=at0) (by omega) at0 0 (by omega) h (by omega);rw[show((0:Nat):Int)=0 from rfl]at e1
   obtain⟨p1,b1'⟩:=g1.pre hpre hab;have k1:(AM.wipe (M,0) 0 at0).1.count≤M.count+2*at0:=CZ at0 0;unfold yq;simp only;generalize AM.wipe (M,0) 0 at0=s1 at*;by_cases z1:s1.2=0
   ·rw[if_pos z1]at e1;obtain⟨hp2,F2,e2,m2,g2⟩:=vf m1 (by omega) 0 L;obtain⟨p2,b2'⟩:=g2.pre p1 b1';have k2':=Au (M:=s1.1) (c:=0);rw[jD z1];generalize s1.1.fence 0=s2 at*;by_cases z2:s2.2=0
    ·rw[z2]at e2;have hs2:s2=(s2.1,(0:Int)):=by rw[←z2]
     obtain⟨hp3,F3,X3,e3,m3,g3,k3⟩:=yC (m:=m) (L:=L) hrs h8 b2 cn l.length 0 (at':=at0) (t:=fun _=>an) (M:=s2.1) (by omega) (by omega) m2 (by omega) p2 b2';rw[←hs2]at e3 m3 k3;rw[show((0:Nat):Int)=0 from rfl,List.drop_zero]at e3
     rw[List.drop_zero]at m3 k3;have hat3:=zH l s2 at0 (fun _=>an) 0;generalize cF s2 at0 (fun _=>an) 0 l=r3 at*;obtain⟨s3,a3,t3⟩:=r3;simp only at e3 m3 k3 hat3⊢;have z48:V.agg 48 (List.replicate 49 (.agg 42 [.int .i64 0,.int .i64 0,.int .i64 0]))=ac fun _=>an:=by rw[co];rfl
     have t48:(ac fun _=>an).tag=48:=rfl;have z60:V.agg 60 (List.replicate 7 (.int .i64 0))=d7V (aG (fun j=>(a3:Int)+j) 0):=tw.symm;have t60:(d7V (aG (fun j=>(a3:Int)+j) 0)).tag=60:=rfl;by_cases z3:s3.2=0
     ·rw[if_pos z3]at e3;have hs3:s3=(s3.1,(0:Int)):=by rw[←z3]
      obtain⟨hp4,F4,X4,e4,m4,g4,k4⟩:=Ap (m:=m) (L:=L) cn t3 (a0:=a3) (by omega) 7 0 (at':=a3) (M:=s3.1) (by omega) (by omega) m3 (by omega);rw[←hs3]at e4 m4 k4;rw[show((0:Nat):Int)=0 from rfl]at e4
      generalize fF t3 s3 a3 0 7=s4 at*;by_cases z4:s4.2=0
      ·rw[if_pos z4]at e4;rw[jD z4];obtain⟨re,hRt⟩:∃e:St→Int,∀s,rf D gJ [d7V (aG (fun j=>(a3:Int)+j) 7)] s=some (.tup [lnV (aE fun j=>(a3:Int)+j),.int .i64 (e s)],s):=
        ⟨fun _=>_,fun s=>by rw[xE,←HF,EP]⟩
       have hrl:=pk fun j=>(a3:Int)+j;obtain⟨hp5,F5,e5,m5,g5⟩:=tC hrl ((a3+7:Nat):Int) m4 (by omega) (L++[.rw (ac t3),.rw (d7V (aG (fun j=>(a3:Int)+j) 7)),.rw (lnV (aE fun j=>(a3:Int)+j))]);have k5:=lq (M:=s4.1) (at':=((a3+7:Nat):Int)) (l:=aE fun j=>(a3:Int)+j);generalize s4.1.put8 ((a3+7:Nat):Int) (aE fun j=>(a3:Int)+j)=s5 at*;have ty:(lnV (aE fun j=>(a3:Int)+j)).tag=24:=rfl;have tl:∀b,V.locLt b (lnV (aE fun j=>(a3:Int)+j))=true:=fun b=>jq;generalize lnV (aE fun j=>(a3:Int)+j)=Rt at*;by_cases z5:s5.2=0
       ·rw[z5]at e5;obtain⟨hp6,F6,e6,m6,g6⟩:=vf m5 (by omega) 0 (L++[.rw (ac t3),.rw (d7V (aG (fun j=>(a3:Int)+j) 7)),.rw Rt]);have k6:=Au (M:=s5.1) (c:=0);rw[jD z5];generalize s5.1.fence 0=s6 at*;by_cases z6:s6.2=0
        ·rw[z6]at e6;rw[jD z6];obtain⟨hp7,F7,e7,m7,g7⟩:=Iu m6 (by omega) 0 ⟨1,(a3+7:Nat),0,cn⟩ (L++[.rw (ac t3),.rw (d7V (aG (fun j=>(a3:Int)+j) 7)),.rw Rt]);refine⟨hp7,F7,?_,m7,((((g1.trans g2).trans g3).trans g4).trans g5).trans (g6.trans g7)⟩;generalize s6.1.wrs 0 ⟨1,(a3+7:Nat),0,cn⟩=s7 at*;simp only[Sup.v]at e7;rw[ab aK rfl];simp only[go_sem,b3,b4,b5,hsl,hck];simp only[go_sem,hFr,hm,w1,w2,d1];simp only[go_sem,e1,e2,z48,t48];simp only[go_sem,e3,z60,t60];simp only[go_sem,e4,hRt,ty,tl,e5,e6,e7]
        ·rw[cD z6];refine⟨hp6,F6,?_,m6,((((g1.trans g2).trans g3).trans g4).trans g5).trans g6⟩;rw[ab aK rfl];simp only[go_sem,b3,b4,b5,hsl,hck];simp only[go_sem,hFr,hm,w1,w2,d1];simp only[go_sem,e1,e2,z48,t48];simp only[go_sem,e3,z60,t60];simp only[go_sem,e4,hRt,ty,tl,e5,e6,z6]
       ·rw[cD z5,cD z5];refine⟨hp5,F5,?_,m5,(((g1.trans g2).trans g3).trans g4).trans g5⟩;rw[ab aK rfl];simp only[go_sem,b3,b4,b5,hsl,hck];simp only[go_sem,hFr,hm,w1,w2,d1];simp only[go_sem,e1,e2,z48,t48];simp only[go_sem,e3,z60,t60];simp only[go_sem,e4,hRt,ty,tl,e5,z5]
      ·rw[if_neg z4]at e4;rw[cD z4,cD z4,cD z4];refine⟨hp4,F4,?_,m4,((g1.trans g2).trans g3).trans g4⟩;rw[ab aK rfl];simp only[go_sem,b3,b4,b5,hsl,hck];simp only[go_sem,hFr,hm,w1,w2,d1];simp only[go_sem,e1,e2,z48,t48];simp only[go_sem,e3,z60,t60];simp only[go_sem,e4]
     ·rw[if_neg z3]at e3;rw[uz 7 0 a3 z3,cD z3,cD z3,cD z3];refine⟨hp3,F3,?_,m3,(g1.trans g2).trans g3⟩;rw[ab aK rfl];simp only[go_sem,b3,b4,b5,hsl,hck];simp only[go_sem,hFr,hm,w1,w2,d1];simp only[go_sem,e1,e2,z48,t48];simp only[go_sem,e3]
    ·have hf:=tI l (s:=s2) (a:=at0) (t:=fun _=>an) (i:=0) z2;rw[hf,uz 7 0 _ z2,cD z2,cD z2,cD z2];refine⟨hp2,F2,?_,m2,g1.trans g2⟩;rw[ab aK rfl];simp only[go_sem,b3,b4,b5,hsl,hck];simp only[go_sem,hFr,hm,w1,w2,d1];simp only[go_sem,e1,e2,z2]
   ·rw[if_neg z1]at e1;have hf:=tI l (s:=s1) (a:=at0) (t:=fun _=>an) (i:=0) z1;rw[cD z1,hf,uz 7 0 _ z1,cD z1,cD z1,cD z1];refine⟨hp1,F1,?_,m1,g1⟩;rw[ab aK rfl];simp only[go_sem,b3,b4,b5,hsl,hck];simp only[go_sem,hFr,hm,w1,w2,d1];simp only[go_sem,e1]
end
theorem IW {w:Nat}(hw:w<18446744073709551616) (s:St):rf D iU [.int .u64 w] s=some (.tup [if oI w=true then(c6 w).v else an.v,.bool (oI w)],s):=by
 have f1:=fun s=>yR (w:=w) (a:=0) (b:=4) (by decide) (by decide) hw s;have f2:=fun s=>yR (w:=w) (a:=4) (b:=24) (by decide) (by decide) hw s;have f3:=fun s=>yR (w:=w) (a:=28) (b:=16) (by decide) (by decide) hw s;simp only[show w/2^0%2^4=w%16 by omega,show w/2^4%2^24=w/16%16777216 by omega,show w/2^28%2^16=w/268435456%65536 by omega]at f1 f2 f3;rw[show((0:Nat):Int)=0 from rfl,show((4:Nat):Int)=4 from rfl]at f1
 rw[show((4:Nat):Int)=4 from rfl,show((24:Nat):Int)=24 from rfl]at f2
 rw[show((28:Nat):Int)=28 from rfl,show((16:Nat):Int)=16 from rfl]at f3
 have w1:IntKind.i64.wrap ((w%16:Nat):Int)=(w%16:Nat):=ae (by omega) (by omega);have w2:IntKind.i64.wrap ((w/16%16777216:Nat):Int)=(w/16%16777216:Nat):=ae (by omega) (by omega);have w3:IntKind.i64.wrap ((w/268435456%65536:Nat):Int)=(w/268435456%65536:Nat):=ae (by omega) (by omega);have hI:oI w=(cj (c6 w)&&decide (sq (c6 w)=w)):=by
  unfold oI;cases hb:cj (c6 w)with
  |false=>rw[Bool.false_and,Bool.false_and]
  |true=>rw[JJ hb]
 rw[hI];have key:∀k v l:Int,c6 w=⟨k,v,l⟩→(∀s,rf D cT [.int .u64 w,.int .i64 0,.int .i64 4] s=some (.int .u64 k,s))→(∀s,rf D cT [.int .u64 w,.int .i64 4,.int .i64 24] s=some (.int .u64 v,s))→
  (∀s,rf D cT [.int .u64 w,.int .i64 28,.int .i64 16] s=some (.int .u64 l,s))→IntKind.i64.wrap k=k→IntKind.i64.wrap v=v→IntKind.i64.wrap l=l→
  rf D iU [.int .u64 w] s=some (.tup [if(cj (c6 w)&&decide (sq (c6 w)=w))=true then(c6 w).v else an.v,.bool (cj (c6 w)&&decide (sq (c6 w)=w))],s):=by
  intro k v l he f1 f2 f3 w1 w2 w3;have hW:=fun s=>xG (c6 w) s;rw[he]at hW⊢;cases hb:cj ⟨k,v,l⟩with
  |false=>
   rw[hb]at hW;simp only[Bool.false_eq_true,if_false,Bool.false_and,Ent.v,an]at hW⊢;rw[ab qC rfl];simp only[go_sem,f1,f2,f3,w1,w2,w3,hW]
  |true=>
   rw[hb]at hW;simp only[if_true,Bool.true_and,Ent.v,an]at hW⊢;generalize sq ⟨k,v,l⟩=z at*;rw[ab qC rfl];by_cases hzw:z=(w:Int)
   ·simp only[go_sem,f1,f2,f3,w1,w2,w3,hW,hzw]
   ·simp only[go_sem,f1,f2,f3,w1,w2,w3,hW,hzw]
 exact key _ _ _ rfl f1 f2 f3 w1 w2 w3
theorem Gw {y:Nat}(hy:y<4294967296):y^^^4294967296=4294967296+y∧4294967296|||y=4294967296+y:=by
 have h2:4294967296|||y=4294967296+y:=by
  have:=Nat.two_pow_add_eq_or_of_lt (i:=32) (b:=y) (by omega) 1;rw[show(2:Nat)^32*1=4294967296 from rfl]at this
  exact this.symm
 refine⟨?_,h2⟩;rw[←h2];apply Nat.eq_of_testBit_eq;intro i;rw[Nat.testBit_xor,Nat.testBit_or];have h32:(4294967296:Nat)=2^32:=rfl;rw[h32,Nat.testBit_two_pow];by_cases hi:32=i
 ·subst hi;have:y.testBit 32=false:=Nat.testBit_lt_two_pow (by omega);simp[this]
 ·simp[hi]
theorem Jx {w:Int}(hw:W64 w):(gA .u64 w 4294967296<1024↔(w%4294967296<1024∧ior .u64 4294967296 (w%4294967296)=w))∧(gA .u64 w 4294967296<1024→gA .u64 w 4294967296=w%4294967296):=by
 obtain⟨n,rfl⟩:∃n:Nat,w=n:=⟨w.toNat,by have:=hw.1;omega⟩;have hn:n<18446744073709551616:=by have:=hw.2;omega
 have e1:=wE (n:=n) (m:=4294967296) hn (by decide);rw[show((4294967296:Nat):Int)=4294967296 from rfl]at e1
 obtain⟨x,hx⟩:∃x:Nat,x=n%4294967296:=⟨_,rfl⟩;have hxi:(n:Int)%4294967296=(x:Int):=by omega
 have hxl:x<4294967296:=by omega
 have e2:=tq (n:=4294967296) (m:=x) (by decide) (by omega);rw[show((4294967296:Nat):Int)=4294967296 from rfl,(Gw hxl).2]at e2
 rw[e1,hxi,e2];have inv:(n^^^4294967296)^^^4294967296=n:=by rw[Nat.xor_assoc,Nat.xor_self,Nat.xor_zero]
 have key:n^^^4294967296<1024→n^^^4294967296=x∧4294967296+x=n:=fun h=>by have:=(Gw (y:=n^^^4294967296) (by omega)).1;rw[inv]at this;omega
 refine⟨⟨fun h=> ?_,fun⟨h1,h2⟩=> ?_⟩,fun h=> ?_⟩
 ·have:=key (by omega);omega
 ·have h3:n=x^^^4294967296:=by rw[(Gw hxl).1];omega
  rw[h3,Nat.xor_assoc,Nat.xor_self,Nat.xor_zero];omega
 ·have:=key (by omega);omega
def cV (l:List Int) (j:Nat):Int:=l.getD j 0%4294967296
theorem Cd {l:List Int}(hw:∀x∈l,W64 x) (j:Nat):W64 (l.getD j 0):=by
 by_cases hj:j<l.length
 ·exact hw _ (wO hj 0)
 ·rw[List.getD_eq_getElem?_getD,List.getElem?_eq_none (by omega)];exact⟨by decide,by decide⟩
theorem NG {l:List Int}(hl:l.length=8) (hw:∀x∈l,W64 x):eG l=(cZ (aG (cV l) 7) 0 7&&decide (aE (aG (cV l) 7)=l))∧(eG l=true→∀j,j<7→af l j=aG (cV l) 7 j):=by
 have hup:∀j,j<7→aG (cV l) 7 j=cV l j:=fun j hj=>if_pos hj;have hro:cZ (aG (cV l) 7) 0 7=true↔∀j,j<7→cV l j<1024:=by
  unfold cZ;simp only[List.all_eq_true,List.mem_range,Zj,Zi,Nat.zero_add];constructor
  ·intro h j hj;have:=(h j hj).2
   rwa [hup j hj]at this
  ·intro h j hj;rw[hup j hj];exact⟨Int.emod_nonneg _ (by decide),h j hj⟩
 have hrd:tV l 0 7=true↔∀j,j<7→rdv l j<1024:=by unfold tV;simp only[List.all_eq_true,List.mem_range,Zi,Nat.zero_add]
 have hwd:=fun j=>Jx (Cd hw j);have hrl:cZ (aG (cV l) 7) 0 7=true→(aE (aG (cV l) 7)=l↔(l=a7 l∧∀j,j<7→ior .u64 4294967296 (cV l j)=l.getD j 0)):=fun h=>by
  unfold aE;rw[if_pos h];have hw64:∀j,j<7→IntKind.u64.wrap (aG (cV l) 7 j)=cV l j:=fun j hj=>by rw[hup j hj];have:=(hro.1 h) j hj;exact fL (Int.emod_nonneg _ (by decide)) (by omega)
  have hg:∀j,j<7→(rlL (aG (cV l) 7) 7).getD j 0=ior .u64 4294967296 (cV l j):=fun j hj=>by rw[No hj,hw64 j hj]
  have hlen:=zD (aG (cV l) 7) 7;constructor
  ·intro e;refine⟨?_,fun j hj=> ?_⟩
   ·rw[←e,yn]
   ·rw[←hg j hj,←gv (by omega:j≠7),e]
  ·rintro⟨e1,e2⟩;have hs:rlL (aG (cV l) 7) 7=l.set 7 0:=by
    have gd:∀(L:List Int) j,j<L.length→L[j]?=some (L.getD j 0):=fun L j h=>by rw[List.getD_eq_getElem?_getD,List.getElem?_eq_getElem h];rfl
    apply List.ext_getElem?;intro j;by_cases hj:j<7
    ·rw[List.getElem?_set_ne (by omega),gd _ j (by omega),gd l j (by omega),hg j hj,e2 j hj]
    ·by_cases hj7:j=7
     ·subst hj7;rw[List.getElem?_set_self (by omega)];unfold rlL;rw[List.getElem?_map,List.getElem?_range (by omega)];rfl
     ·rw[List.getElem?_eq_none (by omega),List.getElem?_eq_none (by rw[List.length_set];omega)]
   rw[hs];unfold a7;rw[EJ,List.set_set];exact e1.symm
 have hiff:eG l=true↔(cZ (aG (cV l) 7) 0 7=true∧aE (aG (cV l) 7)=l):=by
  unfold eG;rw[Zj,Zi];constructor
  ·rintro⟨h1,h2⟩;have h3:=hrd.1 h2;have h4:cZ (aG (cV l) 7) 0 7=true:=hro.2 fun j hj=>((hwd j).1.1 (h3 j hj)).1;exact⟨h4,(hrl h4).2 ⟨h1,fun j hj=>((hwd j).1.1 (h3 j hj)).2⟩⟩
  ·rintro⟨h1,h2⟩;obtain⟨h3,h4⟩:=(hrl h1).1 h2;exact⟨h3,hrd.2 fun j hj=>(hwd j).1.2 ⟨(hro.1 h1) j hj,h4 j hj⟩⟩
 refine⟨?_,fun h j hj=> ?_⟩
 ·apply Bool.eq_iff_iff.2;rw[hiff,Zj,Zi]
 ·unfold af;rw[if_pos h,hup j hj];have h2:tV l 0 7=true:=by unfold eG at h;rw[Zj]at h;exact h.2
  have h3:=(hwd j).2 (hrd.1 h2 j hj);show IntKind.i64.wrap (gA .u64 (l.getD j 0) 4294967296)=l.getD j 0%4294967296;rw[h3];exact ae (by omega) (by omega)
theorem FY {l:List Int}(hl:l.length=8) (hw:∀x∈l,W64 x) (L hp:List Blk) (Z:Blk) (hZ:∀n,bl n Z=true):
 rc D L.length (.loop [1,2,4,5] eh) [(1,.ptr (.loc L.length) [] 24),(2,.ptr (.loc (L.length+1)) [] 60),(4,.ptr (.loc (L.length+2)) [] 60),(5,.int .i64 0)] ⟨L++[.rw (lnV l),Z,.rw (d7V (aG (cV l) 0))],hp⟩=
  some (.exit 0,[(1,.ptr (.loc L.length) [] 24),(2,.ptr (.loc (L.length+1)) [] 60),(4,.ptr (.loc (L.length+2)) [] 60),(5,.int .i64 7),(10,.bool false)],⟨L++[.rw (lnV l),Z,.rw (d7V (aG (cV l) 7))],hp⟩):=by
 refine bC (fun i:Nat=>[(1,.ptr (.loc L.length) [] 24),(2,.ptr (.loc (L.length+1)) [] 60),(4,.ptr (.loc (L.length+2)) [] 60),(5,.int .i64 i)]) (fun i=>⟨L++[.rw (lnV l),Z,.rw (d7V (aG (cV l) i))],hp⟩) (fun _=>_) (fun i=>7-i) (fun i=>i≤7) 0 ?_ (by omega) rfl rfl;intro i hi;by_cases c1:i<7
 ·left;have d1:(i:Int)<7:=by omega
  have d8:(i:Int)<8:=by omega
  have d0:(0:Int)≤i:=by omega
  have d4:IntKind.i64.wrap ((i:Int)+1)=((i+1:Nat):Int):=ae (by omega) (by omega);have g:=am (f:=V.int .u64) (l:=l) (i:=i) (by omega) 0;have hx:=Cd hw i;have hm:(l.getD i 0).tmod 4294967296=cV l i:=Int.tmod_eq_emod_of_nonneg hx.1;have hb0:=Int.emod_nonneg (l.getD i 0) (show(4294967296:Int)≠0 by decide);have hb1:=Int.emod_lt_of_pos (l.getD i 0) (show(0:Int)<4294967296 by decide);have w1:IntKind.i64.wrap (cV l i)=cV l i:=ae (by unfold cV;omega) (by unfold cV;omega);have hu:=uk (f:=cV l) (n:=7) (i:=i);have gt:=av (f:=fun j=>V.int .i64 (aG (cV l) i j)) c1;refine⟨i+1,by omega,by omega,rfl,?_⟩;have z0:L.length<L.length+3:=by omega
  have z1:L.length+1<L.length+3:=by omega
  have z2:L.length+2<L.length+3:=by omega
  simp only[d7V,lnV]at*;rw[←hu];clear hu hb0 hb1 hx;generalize cV l i=y at*;generalize l.getD i 0=x at*;generalize tab 7 (fun j=>V.int .i64 (aG (cV l) i j))=T at*;simp only[go_sem,eh,d1,d8,d0,Zh,g,hm,w1,gt,d4,z0,z1,z2,hZ]
 ·right;have:i=7:=by omega
  subst this;simp only[d7V,lnV];simp only[go_sem,eh]
theorem sL {l:List Int}(hl:l.length=8) (hw:∀x∈l,W64 x) (s:St):rf D it [lnV l] s=some (.tup [d7V (af l),.bool (eG l)],s):=by
 obtain⟨h1,h2⟩:=NG hl hw;have hlp:=FY hl hw s.loc s.hp (.rw (.agg 60 (List.replicate 7 (.int .i64 0)))) (fun n=>rfl);rw[tw]at hlp;have hR:=fun s=>xE (aG (cV l) 7) s;rw[←HF]at hR;have hlen:=pk (aG (cV l) 7);have hve:=us (a:=aE (aG (cV l) 7)) (b:=l) (by rw[hlen,hl]);have hD:d7V (af l)=if eG l=true then d7V (aG (cV l) 7)else .agg 60 (List.replicate 7 (.int .i64 0)):=by
  split
  ·rename_i h;unfold d7V;rw[bp fun j hj=>by rw[h2 h j hj]]
  ·rename_i h;unfold d7V af;rw[bp (g:=fun _=>V.int .i64 0) fun j hj=>by rw[if_neg h],co]
 rw[hD,h1];clear hD h1 h2;cases hk:cZ (aG (cV l) 7) 0 7 with
 |false=>
  rw[hk]at hR;simp only[Bool.false_and,Bool.false_eq_true,if_false]at hR⊢;simp only[d7V,lnV]at*;rw[ab iu rfl];simp only[go_sem,hlp,hR]
 |true=>
  rw[hk]at hR;simp only[Bool.true_and,if_true]at hR⊢;cases hq:decide (aE (aG (cV l) 7)=l)with
  |false=>
   rw[hq]at hve;simp only[Bool.false_eq_true,if_false];simp only[d7V,lnV]at*;rw[ab iu rfl];simp only[go_sem,hlp,hR,hve]
  |true=>
   rw[hq]at hve;simp only[if_true];simp only[d7V,lnV]at*;rw[ab iu rfl];simp only[go_sem,hlp,hR,hve]
theorem yB {l:List Int}(hl:l.length=8) (hw:∀x∈l,W64 x) (L hp:List Blk):∀(n i:Nat),i+n=7→∃r,
 rc D L.length (.loop [1,2,4,5] bo) [(1,.ptr (.loc L.length) [] 24),(2,.ptr (.loc (L.length+1)) [] 94),(4,.ptr (.loc (L.length+2)) [] 94),(5,.int .i64 i)] ⟨L++[.rw (lnV l),.rw (lvV (lvE l 0)),.rw (lvV (lvE l i))],hp⟩=some r∧
 (((n=0∨l=a7 l)∧u9 l i n=true∧r=(.exit 0,[(1,.ptr (.loc L.length) [] 24),(2,.ptr (.loc (L.length+1)) [] 94),(4,.ptr (.loc (L.length+2)) [] 94),(5,.int .i64 7),(10,.bool false)],⟨L++[.rw (lnV l),.rw (lvV (lvE l 0)),.rw (lvV (lvE l 7))],hp⟩))∨
  (¬((n=0∨l=a7 l)∧u9 l i n=true)∧∃X,r=(.ret,[(2,.ptr (.loc (L.length+1)) [] 94),(3,.bool false)],⟨L++[.rw (lnV l),.rw (lvV (lvE l 0))]++X,hp⟩)))
 |0,i,hi=>by
  have:i=7:=by omega
  subst this;refine⟨_,?_,.inl ⟨.inl rfl,rfl,rfl⟩⟩;rw[aa];simp only[lvV,lnV];simp only[go_sem,bo]
 |n+1,i,hi=>by
  have d1:(i:Int)<7:=by omega
  have d2:(0:Int)≤i:=by omega
  have d3:(i:Int)<8:=by omega
  have d4:IntKind.i64.wrap ((i:Int)+1)=((i+1:Nat):Int):=ae (by omega) (by omega);have g1:=av (f:=fun j=>(lvE l i j).v) (show i<7 by omega);have g2:(l.map (V.int .u64))[i]?=some (.int .u64 (l.getD i 0)):=am (by omega) 0;have hwi:=Cd hw i;have he:=fun s=>IW (w:=(l.getD i 0).toNat) (by have:=hwi.2;omega) s;rw[show(((l.getD i 0).toNat:Nat):Int)=l.getD i 0 by have:=hwi.1;omega]at he;have hg:=fun s=>E1 hl s;have z1:L.length<L.length+3:=by omega
  have z3:L.length+1<L.length+3:=by omega
  have z4:L.length+2<L.length+3:=by omega
  have hs:=J6 (l:=l) (i:=i);have hz0:lvV (lvE l 0)= .agg 94 (List.replicate 7 (.agg 42 [.int .i64 0,.int .i64 0,.int .i64 0])):=rp;rw[ET];have hb:oI (l.getD i 0).toNat=rdl l i:=rfl;rw[hb]at he;by_cases hgood:l=a7 l
  ·rw[decide_eq_true hgood]at hg;cases hc:rdl l i with
   |true=>
    obtain⟨r,q1,q2⟩:=yB hl hw L hp n (i+1) (by omega);refine⟨r,?_,?_⟩
    ·rw[hc,if_pos rfl,show c6 (l.getD i 0).toNat=sD (l.getD i 0)from rfl]at he
     rw[←q1,aa];clear q1 q2 hgood;simp only[lvV,lnV]at*;rw[←hs];generalize hE:sD (l.getD i 0)=E at*;generalize hE0:lvE l i i=E0 at*;obtain⟨a1,a2,a3⟩:=E;obtain⟨b1,b2,b3⟩:=E0;generalize(tab 7 fun j=>(lvE l i j).v)=T at*;generalize(tab 7 fun j=>(lvE l 0 j).v)=T0 at*;generalize l.getD i 0=w0 at*;simp only[Ent.v]at*;simp only[go_sem,bo,d1,d2,d3,d4,Zh,g1,g2,he,hg,z1,z3,z4]
    ·rw[Bool.true_and];rcases q2 with⟨a,b,c⟩|⟨a,c⟩
     ·exact .inl ⟨.inr hgood,b,c⟩
     ·exact .inr ⟨fun⟨_,h2⟩=>a ⟨.inr hgood,h2⟩,c⟩
   |false=>
    rw[hc,if_neg (by simp)]at he;refine⟨_,?_,.inr ⟨fun h=>(by have:=h.2;rw[Bool.false_and]at this;cases this),[.rw (lvV (lvE l i)),.rw an.v],rfl⟩⟩;rw[aa];clear hgood;simp only[hz0];simp only[lvV,lnV]at*;generalize hE0:lvE l i i=E0 at*;obtain⟨b1,b2,b3⟩:=E0;generalize(tab 7 fun j=>(lvE l i j).v)=T at*;generalize l.getD i 0=w0 at*;simp only[Ent.v,an]at*;simp only[go_sem,bo,d1,d2,d3,Zh,g2,he]
  ·rw[decide_eq_false hgood]at hg;refine⟨_,?_,.inr ⟨fun h=>h.1.elim (fun h=>by cases h) hgood,[.rw (lvV (lvE l i)),.rw (if rdl l i=true then(c6 (l.getD i 0).toNat).v else an.v)],rfl⟩⟩
   rw[aa];clear hgood;simp only[hz0];simp only[lvV,lnV]at*;generalize(tab 7 fun j=>(lvE l i j).v)=T at*;cases hc:rdl l i with
   |true=>
    rw[hc,if_pos rfl]at he;rw[if_pos rfl];generalize c6 (l.getD i 0).toNat=E at*;obtain⟨b1,b2,b3⟩:=E;generalize l.getD i 0=w0 at*;simp only[Ent.v,an]at*;simp only[go_sem,bo,d1,d2,d3,Zh,g2,he,hg]
   |false=>
    rw[hc,if_neg (by simp)]at he;rw[if_neg (by simp)];generalize l.getD i 0=w0 at*;simp only[Ent.v,an]at*;simp only[go_sem,bo,d1,d2,d3,Zh,g2,he]
theorem sN {l:List Int}(hl:l.length=8) (hw:∀x∈l,W64 x) (s:St):rf D ie [lnV l] s=some (.tup [lvV (bV l),.bool (ef l)],s):=by
 obtain⟨r,q1,q2⟩:=yB hl hw s.loc s.hp 7 0 rfl;have hfin:lvV (lvE l 7)=lvV (fun j=>sD (l.getD j 0)):=by unfold lvV;congr 1
 have hzero:lvV (lvE l 0)=lvV (fun _=>an):=by unfold lvV;congr 1
 rw[show((0:Nat):Int)=0 from rfl]at q1
 rw[show lvV (bV l)=if ef l=true then lvV (fun j=>sD (l.getD j 0))else lvV (fun _=>an) by unfold lvV bV;split<;>rfl]
 have hI:ef l=true↔((7=0∨l=a7 l)∧u9 l 0 7=true):=by
  unfold ef;rw[Zj,Zi];constructor
  ·exact fun⟨a,b⟩=>⟨.inr a,b⟩
  ·rintro⟨a,b⟩;exact⟨a.elim (fun h=>by cases h) id,b⟩
 rcases q2 with⟨a,b,rfl⟩|⟨a,X,rfl⟩
 ·rw[hI.2 ⟨a,b⟩,if_pos rfl,←hfin];rw[rp]at q1;simp only[lnV,lvV]at*;rw[ab mE rfl];simp only[go_sem,q1]
 ·have:ef l=false:=by
   cases e:ef l
   ·rfl
   ·exact absurd (hI.1 e) a
  rw[this,if_neg (by simp),←hzero];rw[rp]at*;simp only[lnV]at*;rw[ab mE rfl];simp only[go_sem,q1]
def oY (n:Nat) (fr:Int):List Int→List Int→Bool
 |_,[]=>true
 |ks,x::r=>onc n fr ks x&&oY n fr (ks++[x]) r
def InR (n:Nat) (fr x:Int):Prop:=fr≤x∧0≤x∧x<n
theorem SN {n:Nat}{fr:Int}{ks:List Int}{x:Int}:onc n fr ks x=true↔InR n fr x∧x∉ks:=by
 unfold onc InR;simp only[Zj,Zi,Bool.not_eq_true',decide_eq_false_iff_not];constructor
 ·rintro⟨a,b,c,d⟩;exact⟨⟨a,b,c⟩,d⟩
 ·rintro⟨⟨a,b,c⟩,d⟩;exact⟨a,b,c,d⟩
theorem Be {n:Nat}{fr:Int}:∀(l ks:List Int),ks.Nodup→(oY n fr ks l=true↔(∀x∈l,InR n fr x)∧(ks++l).Nodup)
 |[],ks,h=>by simp[oY,h]
 |x::r,ks,h=>by
  rw[oY,Zj,SN];constructor
  ·rintro⟨⟨h1,h2⟩,h3⟩;have hn:(ks++[x]).Nodup:=by rw[List.nodup_append];exact⟨h,by simp,fun a ha b hb e=>by rw[List.mem_singleton.1 hb]at e;exact h2 (e▸ha)⟩
   obtain⟨h4,h5⟩:=(Be r (ks++[x]) hn).1 h3;rw[List.append_assoc]at h5;exact⟨fun y hy=>(List.mem_cons.1 hy).elim (fun e=>e▸h1) fun hy=>h4 y hy,h5⟩
  ·rintro⟨h1,h2⟩;have h2':((ks++[x])++r).Nodup:=by rw[List.append_assoc];exact h2
   have hn:(ks++[x]).Nodup:=(List.nodup_append.1 h2').1;refine⟨⟨h1 x List.mem_cons_self,fun hx=> ?_⟩,(Be r (ks++[x]) hn).2 ⟨fun y hy=>h1 y (List.mem_cons_of_mem _ hy),h2'⟩⟩;exact(List.nodup_append.1 hn).2.2 x hx x (by simp) rfl
theorem GI {n:Nat}{fr:Int}:∀(a b ks:List Int),oY n fr ks (a++b)=(oY n fr ks a&&oY n fr (ks++a) b)
 |[],b,ks=>by simp[oY]
 |x::a,b,ks=>by rw[List.cons_append,oY,oY,GI a b,Bool.and_assoc,List.append_assoc];rfl
def sF (l:List Int):Nat→Nat→List Int
 |_,0=>[]
 |k,n+1=>af l k::sF l (k+1) n
def mt (t:Nat→Ent):Nat→Nat→List Int
 |_,0=>[]
 |i,n+1=>if(t i).kind=0 then mt t (i+1) n else(t i).line::mt t (i+1) n
def qi (M:AM) (l:List Int):Nat→Nat→Bool
 |_,0=>true
 |k,n+1=>ef (M.now (af l k).toNat)&&qi M l (k+1) n
theorem JU {l:List Int}:∀(n k:Nat) (ks:List Int),nM l ks k n=ks++sF l k n
 |0,_,ks=>by simp[nM,sF]
 |n+1,k,ks=>by rw[nM,sF,JU n,List.append_assoc];rfl
theorem FR {M:AM}{fr:Int}{l:List Int}:∀(n k:Nat) (ks:List Int),sR M fr l ks k n=(oY M.n fr ks (sF l k n)&&qi M l k n)
 |0,_,_=>rfl
 |n+1,k,ks=>by rw[sR,sF,oY,qi,FR n];cases onc M.n fr ks (af l k)<;>cases ef (M.now (af l k).toNat)<;>simp
theorem BA {n':Nat}{fr:Int}{t:Nat→Ent}:∀(n i:Nat) (ks:List Int),qf n' fr t ks i n=oY n' fr ks (mt t i n)
 |0,_,_=>rfl
 |n+1,i,ks=>by
  rw[qf,mt];split
  ·exact BA n (i+1) ks
  ·rw[oY,BA n]
def GC (l:List Int) (t:Nat→Ent) (root:Int):List Int:=root::(sF l 0 7++mt t 0 49)
theorem Pi {M:AM}{fr root:Int}:mK M fr root=true↔eG (M.now root.toNat)=true∧qi M (M.now root.toNat) 0 7=true∧(∀x∈GC (M.now root.toNat) (ldT M (M.now root.toNat)) root,InR M.n fr x)∧(GC (M.now root.toNat) (ldT M (M.now root.toNat)) root).Nodup:=by
 have h:=Be (n:=M.n) (fr:=fr) (GC (M.now root.toNat) (ldT M (M.now root.toNat)) root) [] List.nodup_nil;rw[List.nil_append]at h;rw[←h];unfold mK GC;rw[oY,List.nil_append,GI,FR,BA,JU];simp only[Zj];constructor
 ·rintro⟨a,b,⟨c,d⟩,e⟩;exact⟨b,d,a,c,e⟩
 ·rintro⟨b,d,a,c,e⟩;exact⟨a,b,⟨c,d⟩,e⟩
def mw (l:List Int) (t:Nat→Ent):Nat→List Int
 |0=>[]
 |k+1=>mw l t k++(af l k::mt t (7*k) 7)
theorem D6 {l:List Int}:∀(n k:Nat),sF l k (n+1)=sF l k n++[af l (k+n)]
 |0,k=>rfl
 |n+1,k=>by rw[sF,D6 n (k+1),sF,show k+1+n=k+(n+1) by omega];rfl
theorem AL {t:Nat→Ent}:∀(a i b:Nat),mt t i (a+b)=mt t i a++mt t (i+a) b
 |0,i,b=>by rw[Nat.zero_add,mt,Nat.add_zero];rfl
 |a+1,i,b=>by rw[show a+1+b=(a+b)+1 by omega,mt,mt,AL a (i+1) b,show i+1+a=i+(a+1) by omega];split<;>rfl
theorem FE {l:List Int}{t:Nat→Ent}:∀k,(mw l t k).Perm (sF l 0 k++mt t 0 (7*k))
 |0=> .refl _
 |k+1=>by rw[mw,D6,Nat.zero_add,show 7*(k+1)=7*k+7 by omega,AL,Nat.zero_add];refine((FE k).append_right _).trans ?_;rw[List.append_assoc,List.append_assoc];refine List.Perm.append_left _ ?_;exact List.perm_middle
theorem Rj {M:AM}{fr root:Int}:mK M fr root=true↔eG (M.now root.toNat)=true∧qi M (M.now root.toNat) 0 7=true∧(∀x∈root::mw (M.now root.toNat) (ldT M (M.now root.toNat)) 7,InR M.n fr x)∧(root::mw (M.now root.toNat) (ldT M (M.now root.toNat)) 7).Nodup:=by
 have hp:(root::mw (M.now root.toNat) (ldT M (M.now root.toNat)) 7).Perm (GC (M.now root.toNat) (ldT M (M.now root.toNat)) root):=(FE 7).cons root;rw[Pi,hp.nodup_iff];constructor
 ·rintro⟨a,b,c,d⟩;exact⟨a,b,fun x hx=>c x (hp.mem_iff.1 hx),d⟩
 ·rintro⟨a,b,c,d⟩;exact⟨a,b,fun x hx=>c x (hp.mem_iff.2 hx),d⟩
def amg (nm:List Int) (x:Int) (k:Nat):Bool:=decide (x∈nm.take k)
theorem PA {nm:List Int}{x:Int}{k:Nat}(hk:k<nm.length):amg nm x (k+1)=(amg nm x k||decide (nm.getD k 0=x)):=by
 unfold amg;rw[List.take_succ_eq_append_getElem hk,List.getD_eq_getElem?_getD,List.getElem?_eq_getElem hk];apply Bool.eq_iff_iff.2;simp only[List.mem_append,List.mem_singleton,Bool.or_eq_true,Zi,Option.getD_some];constructor
 ·rintro(h|h)
  ·exact .inl h
  ·exact .inr h.symm
 ·rintro(h|h)
  ·exact .inl h
  ·exact .inr h.symm
section
variable {n0 m : Nat} {L hp : List Blk} {v : V} {nm : List Int} {fr : Int} {a b c d e : Nat}
theorem Pa (hrs:RS ⟨L,hp⟩ 10 v (nm.map (.int .i64))) (hvl:v.locLt L.length=true) (hL:(L.drop n0).all (bl L.length)=true) (ha:a<L.length) (hb:b<L.length) (hc:c<L.length) (hd:d<L.length) (he:e<L.length) (hmx:nm.length<1000) {i:Nat}(hi:i<nm.length) (B:Bool):
 rc D n0 (.loop [0,1,6,7,9,10,11,14,20,21,22] ea) [(0,.ptr (.hp m) [] 33),(1,.int .i64 fr),(6,.ptr (.loc a) [] 48),(7,.ptr (.loc b) [] 60),(9,.ptr (.loc c) [] 48),(10,.ptr (.loc d) [] 60),(11,v),(14,.ptr (.loc e) [] 60),(20,.int .i64 i),(21,.bool B),(22,.int .i64 0)] ⟨L,hp⟩=
  some (.exit 6,[(0,.ptr (.hp m) [] 33),(1,.int .i64 fr),(6,.ptr (.loc a) [] 48),(7,.ptr (.loc b) [] 60),(9,.ptr (.loc c) [] 48),(10,.ptr (.loc d) [] 60),(11,v),(14,.ptr (.loc e) [] 60),(20,.int .i64 i),(21,.bool (B||amg nm (nm.getD i 0) i)),(22,.int .i64 i),(133,.bool false)],⟨L,hp⟩):=by
 refine bC (fun k:Nat=>[(0,.ptr (.hp m) [] 33),(1,.int .i64 fr),(6,.ptr (.loc a) [] 48),(7,.ptr (.loc b) [] 60),(9,.ptr (.loc c) [] 48),(10,.ptr (.loc d) [] 60),(11,v),(14,.ptr (.loc e) [] 60),(20,.int .i64 i),(21,.bool (B||amg nm (nm.getD i 0) k)),(22,.int .i64 k)]) (fun _=>⟨L,hp⟩) (fun _=>_) (fun k=>i-k) (fun k=>k≤i) 0 ?_ (by omega) (by simp[amg]) rfl;intro k hk;by_cases c1:k<i
 ·left;have d1:(k:Int)<i:=by omega
  have d4:IntKind.i64.wrap ((k:Int)+1)=((k+1:Nat):Int):=ae (by omega) (by omega);have hg:=am (f:=V.int .i64) (l:=nm) (i:=k) (by omega) 0;have hg2:=am (f:=V.int .i64) (l:=nm) (i:=i) hi 0;have hld:ldv ⟨L,hp⟩ 10 (elq v k [] 10)=V.at [] (.int .i64 (nm.getD k 0)):=hrs.ldq hg;have hld2:ldv ⟨L,hp⟩ 10 (elq v i [] 10)=V.at [] (.int .i64 (nm.getD i 0)):=hrs.ldq hg2;have hsad:=hrs.sadq hg (k:= .i64);have hsad2:=hrs.sadq hg2 (k:= .i64);refine⟨k+1,by omega,by omega,rfl,?_⟩;rw[PA (by omega)];generalize amg nm (nm.getD i 0) k=Q at*;cases hBQ:(B||Q)with
  |true=>
   rw[←Bool.or_assoc,hBQ,Bool.true_or];simp only[go_sem,ea,d1,d4,hvl,hL,ha,hb,hc,hd,he,hsad,hsad2,hld,hld2]
  |false=>
   rw[←Bool.or_assoc,hBQ,Bool.false_or];simp only[go_sem,ea,d1,hsad,hsad2,hld,hld2,d4,hvl,hL,ha,hb,hc,hd,he]
 ·right;have:k=i:=by omega
  subst this;have d1:¬(k:Int)<k:=by omega
  simp only[go_sem,ea,d1]
def Qw (n:Nat) (fr:Int) (nm:List Int) (i:Nat):Bool:=(decide (nm.getD i 0<fr)||decide ((n:Int)≤nm.getD i 0))||amg nm (nm.getD i 0) i
def xq (n:Nat) (fr:Int) (nm:List Int):Nat→Nat→Bool
 |_,0=>false
 |i,k+1=>Qw n fr nm i||xq n fr nm (i+1) k
theorem If {F:Ft}{M:AM}(h:aV hp F m M) (hrs:RS ⟨L,hp⟩ 10 v (nm.map (.int .i64))) (hvl:v.locLt L.length=true) (hL:(L.drop n0).all (bl L.length)=true) (ha:a<L.length) (hb:b<L.length) (hc:c<L.length) (hd:d<L.length) (he:e<L.length) (hmx:nm.length<1000)
 (hA:L[a]?=some (.rw (ac fun _=>an))) (hB:L[b]?=some (.rw (d7V fun _=>0))) (hD:L[d]?=some (.rw (d7V fun _=>0))) (hab:a≠b) (had:a≠d):∀(n i:Nat),i+n=nm.length→
 rc D n0 (.loop [0,1,6,7,9,10,11,14,20] bR) [(0,.ptr (.hp m) [] 33),(1,.int .i64 fr),(6,.ptr (.loc a) [] 48),(7,.ptr (.loc b) [] 60),(9,.ptr (.loc c) [] 48),(10,.ptr (.loc d) [] 60),(11,v),(14,.ptr (.loc e) [] 60),(20,.int .i64 i)] ⟨L,hp⟩=some
  (if xq M.n fr nm i n=true then(.ret,[(6,.ptr (.loc a) [] 48),(7,.ptr (.loc b) [] 60),(8,.int .i64 21)],⟨L,hp⟩)else(.exit 4,[(0,.ptr (.hp m) [] 33),(1,.int .i64 fr),(6,.ptr (.loc a) [] 48),(7,.ptr (.loc b) [] 60),(9,.ptr (.loc c) [] 48),(10,.ptr (.loc d) [] 60),(11,v),(14,.ptr (.loc e) [] 60),(20,.int .i64 nm.length),(110,.bool false)],⟨L,hp⟩))
 |0,i,hi=>by
  have:i=nm.length:=by omega
  subst this;have hs:=hrs.slen;rw[List.length_map]at hs;have d1:¬(nm.length:Int)<nm.length:=by omega
  rw[aa];simp only[xq,Bool.false_eq_true,if_false];simp only[go_sem,bR,d1,hs]
 |n+1,i,hi=>by
  have hil:i<nm.length:=by omega
  have hs:=hrs.slen;rw[List.length_map]at hs;have hin:=fun B=>Pa (m:=m) (fr:=fr) hrs hvl hL ha hb hc hd he hmx hil B;have d1:(i:Int)<nm.length:=by omega
  have d4:IntKind.i64.wrap ((i:Int)+1)=((i+1:Nat):Int):=ae (by omega) (by omega);have hg:=am (f:=V.int .i64) (l:=nm) (i:=i) hil 0;have hld:ldv ⟨L,hp⟩ 10 (elq v i [] 10)=V.at [] (.int .i64 (nm.getD i 0)):=hrs.ldq hg;have hsad:=hrs.sadq hg (k:= .i64);obtain⟨k,k2,fk,fk2,n1,n2,n3,hm,_⟩:=h.mb;simp only[rmV]at hm;have ih:=If h hrs hvl hL ha hb hc hd he hmx hA hB hD hab had n (i+1) (by omega);have hz:(ac fun _=>an)= .agg 48 (List.replicate 49 (.agg 42 [.int .i64 0,.int .i64 0,.int .i64 0])):=by unfold ac;rw[co];rfl
  have hz7:(d7V fun _=>(0:Int))= .agg 60 (List.replicate 7 (.int .i64 0)):=by unfold d7V;rw[co]
  have sA:=dD hA;have sB:=dD hB;have hbad:xq M.n fr nm i (n+1)=(((decide (nm.getD i 0<fr)||decide ((M.n:Int)≤nm.getD i 0))||amg nm (nm.getD i 0) i)||xq M.n fr nm (i+1) n):=rfl;rw[hbad];clear hbad;generalize nm.getD i 0=x at*;generalize amg nm x i=Q at*;rw[hz]at hA sA;rw[hz7]at hB sB hD;have hda:¬d=a:=Ne.symm had;by_cases b1:x<fr
  ·rw[decide_eq_true b1,Bool.true_or,Bool.true_or,Bool.true_or,if_pos rfl,aa];simp only[go_sem,bR,d1,hs,hsad,hld,b1,hin,hD,hda,hA,hB,sA,sB]
  ·by_cases b2:(M.n:Int)≤x
   ·rw[decide_eq_true b2,Bool.or_true,Bool.true_or,Bool.true_or,if_pos rfl,aa];simp only[go_sem,bR,d1,hs,hsad,hld,b1,b2,hm,hin,hD,hda,hA,hB,sA,sB]
   ·rw[decide_eq_false b1,decide_eq_false b2,Bool.or_false,Bool.false_or];cases Q with
    |true=>
     rw[Bool.true_or,if_pos rfl,aa];simp only[go_sem,bR,d1,hs,hsad,hld,b1,b2,hm,hin,hD,hda,hA,hB,sA,sB]
     |false=>
     rw[Bool.false_or,←ih,aa];simp only[go_sem,bR,d1,hs,hsad,hld,b1,b2,hm,hin,d4,hvl,hL,ha,hb,hc,hd,he]
end
theorem AR {n:Nat}{fr:Int}{nm:List Int}:∀(k i:Nat),i+k=nm.length→(nm.take i).Nodup→(∀x∈nm.take i,fr≤x∧x<n)→(xq n fr nm i k=false↔(∀x∈nm,fr≤x∧x<n)∧nm.Nodup)
 |0,i,hi,h1,h2=>by rw[List.take_of_length_le (by omega)]at h1 h2;exact⟨fun _=>⟨h2,h1⟩,fun _=>rfl⟩
 |k+1,i,hi,h1,h2=>by
  have hil:i<nm.length:=by omega
  have hg:nm.getD i 0=nm[i]:=by rw[List.getD_eq_getElem?_getD,List.getElem?_eq_getElem hil];rfl
  have ht:nm.take (i+1)=nm.take i++[nm[i]]:=List.take_succ_eq_append_getElem hil;have hb:Qw n fr nm i=false↔((fr≤nm[i]∧nm[i]<n)∧nm[i]∉nm.take i):=by
   unfold Qw amg;rw[hg];simp only[Bool.or_eq_false_iff,decide_eq_false_iff_not];constructor
   ·rintro⟨⟨a,b⟩,c⟩;exact⟨⟨by omega,by omega⟩,c⟩
   ·rintro⟨⟨a,b⟩,c⟩;exact⟨⟨by omega,by omega⟩,c⟩
  rw[xq,Bool.or_eq_false_iff,hb];constructor
  ·rintro⟨⟨a,c⟩,d⟩;refine(AR k (i+1) (by omega) ?_ ?_).1 d
   ·rw[ht,List.nodup_append];exact⟨h1,by simp,fun x hx y hy e=>by rw[List.mem_singleton.1 hy]at e;exact c (e▸hx)⟩
   ·intro x hx;rw[ht]at hx;rcases List.mem_append.1 hx with hx|hx
    ·exact h2 x hx
    ·rw[List.mem_singleton.1 hx];exact a
  ·rintro⟨a,d⟩;have h1':(nm.take (i+1)).Nodup:=d.sublist (List.take_sublist _ _);have h2':∀x∈nm.take (i+1),fr≤x∧x<n:=fun x hx=>a x (List.mem_of_mem_take hx);refine⟨⟨a _ (List.getElem_mem hil),?_⟩,(AR k (i+1) (by omega) h1' h2').2 ⟨a,d⟩⟩;rw[ht,List.nodup_append]at h1';exact fun hx=>h1'.2.2 _ hx _ (by simp) rfl
def NmS (L hp:List Blk) (G:Ft) (p:Nat) (v:V) (nm:List Int):Prop:=(v= .sl (.loc p) [] 0 1 (some 1) 10∧L[p]?=some (.rw (.agg 38 (nm.map (.int .i64))))∧nm.length=1)∨SlR hp G 10 38 v (nm.map (.int .i64))
theorem NmS.push {L hp:List Blk}{G:Ft}{p:Nat}{v:V}{nm:List Int}(h:NmS L hp G p v nm) (X:List Blk) {base:Nat}{y:V}{x:Int}(hy:y= .nils∨∃a p o n c,y= .sl a p o n c 10) (h2:St.elems ⟨L++X,hp⟩ y=some [.int .i64 x]) (hm:nm.length<1000):
 ∃hp' v',aD base true 38 10 v y ⟨L++X,hp⟩=some (v',⟨L++X,hp'⟩)∧SlR hp' (.one hp.length) 10 38 v' ((nm++[x]).map (.int .i64))∧Chg hp hp' G (.one hp.length)∧hp'.length=hp.length+1:=by
 rcases h with⟨rfl,h3,h4⟩|h
 ·have hp1:(L++X)[p]?=some (.rw (.agg 38 (nm.map (.int .i64)))):=by rw[List.getElem?_append_left (aj h3)];exact h3
  have hel:St.elems ⟨L++X,hp⟩ (.sl (.loc p) [] 0 1 (some 1) 10)=some (nm.map (.int .i64)):=cR (t:=38) (by simp only[St.read,St.at,hp1,V.at]) (by rw[List.length_map,h4]);have:=zV (base:=base) (h:=true) (r:=38) (s:=⟨L++X,hp⟩) (x:= .sl (.loc p) [] 0 1 (some 1) 10) (.inr ⟨_,_,_,_,_,rfl⟩) hy hel h2 (by simp) (by simp[h4,cg]) (.inl rfl);refine⟨hp++[.rw (.agg 38 ((nm++[x]).map (.int .i64)))],.sl (.hp hp.length) [] 0 ((nm++[x]).map (V.int .i64)).length none 10,?_,SlR.blk (G:=Ft.one hp.length) hp.length none _ (.inl rfl) rfl List.getElem?_concat_length,⟨by simp,fun j hj _=>List.getElem?_append_left hj,fun j hj=> .inr (by rw[hj];exact Nat.le_refl _)⟩,by simp⟩;rw[this];simp only[uN,Option.map_some,List.length_map,h4,List.length_singleton,show(1:Nat)<1+1 by decide,decide_true,if_true];simp[St.fresh,St.new,h4]
 ·obtain⟨hp',e1,e2,e3,e4⟩:=h.push (base:=base) (L++X) hy h2 (by simp) (by rw[List.length_map];simp[cg];omega) (.inl rfl);refine⟨hp',_,e1,?_,⟨by omega,e4,fun j hj=> .inr (by rw[hj];exact Nat.le_refl _)⟩,e2⟩;rw[List.map_append];exact .blk _ none _ (.inl rfl) rfl e3
def pQ (f:Nat→Ent):Nat→List Int
 |0=>[]
 |i+1=>pQ f i++(if(f i).kind=0 then[]else[(f i).line])
def mr (t:Nat→Ent) (k:Nat) (f:Nat→Ent) (i:Nat) (j:Nat):Ent:=if 7*k≤j∧j<7*k+i then f (j-7*k)else t j
theorem Np {t:Nat→Ent}{k:Nat}{f:Nat→Ent}{i:Nat}:updE (mr t k f i) (7*k+i) (f i)=mr t k f (i+1):=by
 funext j;unfold updE mr;by_cases e:j=7*k+i
 ·subst e;rw[if_pos rfl,if_pos (by omega)];congr 1;omega
 ·rw[if_neg e];by_cases h:7*k≤j∧j<7*k+i
  ·rw[if_pos h,if_pos (by omega)]
  ·rw[if_neg h,if_neg (by omega)]
theorem RX {P:Blk→Bool}{L:List Blk}{c:Nat}{y:Blk}(h:L.all P=true) (hy:P y=true):(L.set c y).all P=true:=by
 rw[List.all_eq_true]at h⊢;intro x hx;rcases List.mem_or_eq_of_mem_set hx with hx|hx
 ·exact h x hx
 ·rw[hx];exact hy
theorem Pf {P:Blk→Bool}{L:List Blk}{n c:Nat}{y:Blk}(h:(L.drop n).all P=true) (hy:P y=true):((L.set c y).drop n).all P=true:=by
 rw[List.drop_set];split
 ·exact h
 ·exact RX h hy
theorem NmS.set {L hp:List Blk}{G:Ft}{p c:Nat}{v:V}{nm:List Int}(h:NmS L hp G p v nm) (hpc:c≠p) (y:Blk):NmS (L.set c y) hp G p v nm:=by
 rcases h with⟨h1,h2,h3⟩|h
 ·exact .inl ⟨h1,by rw[List.getElem?_set_ne hpc];exact h2,h3⟩
 ·exact .inr h
theorem NmS.ltb {L hp:List Blk}{G:Ft}{p:Nat}{v:V}{nm:List Int}(h:NmS L hp G p v nm):v.locLt L.length=true:=by
 rcases h with⟨rfl,h2,_⟩|h
 ·simp only[V.locLt,Zi];exact aj h2
 ·exact h.ltb
theorem Bk {n0 m:Nat}{L:List Blk}{a b c d e q xi p:Nat}{fr:Int}{t f:Nat→Ent}{k:Nat}(hk:k<7) (hL:(L.drop n0).all (bl L.length)=true) (ha:a<L.length) (hb:b<L.length) (hc:c<L.length) (hd:d<L.length) (he:e<L.length) (hq:q<L.length) (hx:L[xi]?=some (.rw (lvV f))) (hcx:c≠xi) (hcp:c≠p) (nm:List Int) (hmx:nm.length<900):
 ∀(n i:Nat) {hp:List Blk}{G:Ft}{v:V},i+n=7→NmS L hp G p v (nm++pQ f i)→Inn hp G→
 ∃hp' G' v',rc D n0 (.loop [0,1,6,7,9,10,11,12,14,16,17,19] dW) [(0,.ptr (.hp m) [] 33),(1,.int .i64 fr),(6,.ptr (.loc a) [] 48),(7,.ptr (.loc b) [] 60),(9,.ptr (.loc c) [] 48),(10,.ptr (.loc d) [] 60),(11,v),(12,.ptr (.loc q) [] 24),(14,.ptr (.loc e) [] 60),(16,.int .i64 k),(17,.ptr (.loc xi) [] 94),(19,.int .i64 i)] ⟨L.set c (.rw (ac (mr t k f i))),hp⟩=
  some (.exit 2,[(0,.ptr (.hp m) [] 33),(1,.int .i64 fr),(6,.ptr (.loc a) [] 48),(7,.ptr (.loc b) [] 60),(9,.ptr (.loc c) [] 48),(10,.ptr (.loc d) [] 60),(11,v'),(12,.ptr (.loc q) [] 24),(14,.ptr (.loc e) [] 60),(16,.int .i64 k),(17,.ptr (.loc xi) [] 94),(19,.int .i64 7),(84,.bool false)],⟨L.set c (.rw (ac (mr t k f 7))),hp'⟩)∧
  NmS L hp' G' p v' (nm++pQ f 7)∧Inn hp' G'∧Chg hp hp' G G'
 |0,i,hp,G,v,hi,h,hin=>by
  have:i=7:=by omega
  subst this;refine⟨hp,G,v,?_,h,hin,.refl _ _⟩;rw[aa];simp only[go_sem,dW]
 |n+1,i,hp,G,v,hi,h,hin=>by
  have hi7:i<7:=by omega
  have d1:(i:Int)<7:=by omega
  have d0:(0:Int)≤i:=by omega
  have d4:IntKind.i64.wrap ((i:Int)+1)=((i+1:Nat):Int):=ae (by omega) (by omega);have w1:IntKind.i64.wrap (7*(k:Int))=((7*k:Nat):Int):=by rw[ae (by omega) (by omega)];omega
  have w2:IntKind.i64.wrap (((7*k:Nat):Int)+i)=((7*k+i:Nat):Int):=by rw[ae (by omega) (by omega)];omega
  have d49:((7*k+i:Nat):Int)<49:=by omega
  have d40:(0:Int)≤((7*k+i:Nat):Int):=by omega
  have gx:=av (f:=fun j=>(f j).v) hi7;have hT:=iI 49 fun j=>(mr t k f i j).v;have hTs:(tab 49 fun j=>(mr t k f i j).v).set (7*k+i) (f i).v=tab 49 fun j=>(mr t k f (i+1) j).v:=by rw[dg];apply bp;intro j _;rw[←Np];unfold upd updE;split<;>rfl
  have hvl:=h.ltb;have hcL:∀y,(L.set c y)[c]?=some y:=fun y=>List.getElem?_set_self hc;have hxL:∀y,(L.set c y)[xi]?=some (.rw (lvV f)):=fun y=>by rw[List.getElem?_set_ne hcx];exact hx
  have hlen:∀y,(L.set c y).length=L.length:=fun y=>List.length_set;have hxi:=aj hx;have hall:((L.set c (.rw (ac (mr t k f (i+1))))).drop n0).all (bl L.length)=true:=Pf hL (by have:=fV (n:=L.length) (f:=mr t k f (i+1));simp only[go_sem,this]);have htk:∀y,(L.set c y).take L.length=L.set c y:=fun y=>List.take_of_length_le (by rw[hlen];exact Nat.le_refl _);have htk2:∀y Z,(L.set c y++[Z]).take L.length=L.set c y:=fun y Z=>List.take_left' (hlen y);by_cases hk0:(f i).kind=0
  ·have hN:pQ f (i+1)=pQ f i:=by simp only[pQ];rw[if_pos hk0,List.append_nil]
   obtain⟨hp2,G2,v2,q1,q2⟩:=Bk hk hL ha hb hc hd he hq hx hcx hcp nm hmx n (i+1) (hp:=hp) (G:=G) (v:=v) (by omega) (by rw[hN];exact h) hin;refine⟨hp2,G2,v2,?_,q2⟩;rw[←q1,aa];clear q1 q2;simp only[ac,lvV]at*;rw[←hTs]at hall⊢;generalize(tab 49 fun j=>(mr t k f i j).v)=T at*;generalize(tab 7 fun j=>(f j).v)=TX at*;obtain⟨y,hTy⟩:∃y,T[7*k+i]?=some y:=⟨_,List.getElem?_eq_getElem (by omega)⟩;generalize f i=E at*;obtain⟨ek,ev,el⟩:=E;simp only at hk0;subst hk0;simp only[Ent.v]at*;simp only[go_sem,dW,d1,w1,w2,d0,Zh,hxL,gx,d49,d40,hcL,hTy,List.set_set,hlen,d4,hvl,hall,ha,hb,hc,hd,he,hq,hxi,htk]
  ·have hN:pQ f (i+1)=pQ f i++[(f i).line]:=by simp only[pQ];rw[if_neg hk0]
   have hadl:∀i,(pQ f i).length≤i:=by
    intro i
    induction i with
    |zero=>exact Nat.le_refl _
    |succ i ih=>
     simp only[pQ,List.length_append];split
     ·simp only[List.length_nil];omega
     ·simp only[List.length_singleton];omega
   have hlq:=hadl i;obtain⟨hp1,v1,e1,e2,e3,e4⟩:=(h.set hcp (.rw (ac (mr t k f (i+1))))).push [.rw (.agg 38 [.int .i64 (f i).line])] (base:=n0) (y:= .sl (.loc L.length) [] 0 1 (some 1) 10) (x:=(f i).line) (.inr ⟨_,_,_,_,_,rfl⟩)
    (cR (t:=38) (by
     have:((L.set c (.rw (ac (mr t k f (i+1)))))++[.rw (.agg 38 [.int .i64 (f i).line])])[L.length]?=some (.rw (.agg 38 [.int .i64 (f i).line])):=by rw[←hlen (.rw (ac (mr t k f (i+1))))];exact List.getElem?_concat_length
     simp only[St.read,St.at,this,V.at]) rfl) (by rw[List.length_append];omega)
   rw[List.append_assoc,←hN]at e2;obtain⟨hp2,G2,v2,q1,q2,q3,q4⟩:=Bk hk hL ha hb hc hd he hq hx hcx hcp nm hmx n (i+1) (hp:=hp1) (G:= .one hp.length) (v:=v1) (by omega) (.inr e2) (fun j hj=>by cases hj;omega);refine⟨hp2,G2,v2,?_,q2,q3,e3.trans q4⟩;rw[←q1,aa];clear q1 q2 q3 q4;have hvl1:∀n,v1.locLt n=true:=fun n=>e2.ltb;have ht1:v1.tag=1:=e2.tag;simp only[ac,lvV]at*;rw[←hTs]at hall e1⊢;generalize(tab 49 fun j=>(mr t k f i j).v)=T at*;generalize(tab 7 fun j=>(f j).v)=TX at*;obtain⟨y,hTy⟩:∃y,T[7*k+i]?=some y:=⟨_,List.getElem?_eq_getElem (by omega)⟩;generalize f i=E at*;obtain⟨ek,ev,el⟩:=E;simp only at hk0 e1;simp only[Ent.v]at*;have hr1:∀X:V,List.replicate 1 X=[X]:=fun _=>rfl;simp only[go_sem,dW,d1,w1,w2,d0,Zh,hxL,gx,d49,d40,hcL,hTy,List.set_set,hlen,hk0,hr1,e1,d4,hvl1,hall,ha,hb,hc,hd,he,hq,hxi,htk2]
def tU (M:AM) (l:List Int):Nat→Nat→Bool
 |_,0=>true
 |k,n+1=>((decide (0≤af l k)&&decide (af l k<M.n))&&ef (M.now (af l k).toNat))&&tU M l (k+1) n
theorem FH {t f:Nat→Ent}{i0:Nat}:∀i,(∀j,j<i→t (i0+j)=f j)→pQ f i=mt t i0 i
 |0,_=>rfl
 |i+1,h=>by rw[AL i i0 1,pQ,FH i fun j hj=>h j (by omega)];simp only[mt];rw[h i (by omega)]
theorem Pl {M:AM}{l:List Int}{k j:Nat}(hj:j<7):ldT M l (7*k+j)=bV (M.now (af l k).toNat) j:=by unfold ldT;rw[show(7*k+j)/7=k by omega,show(7*k+j)%7=j by omega]
theorem HP {t:Nat→Ent}:∀(n i:Nat),(mt t i n).length≤n
 |0,_=>Nat.le_refl _
 |n+1,i=>by
  have:=HP (t:=t) n (i+1);rw[mt];split
  ·omega
  ·rw[List.length_cons];omega
theorem wM {l:List Int}{t:Nat→Ent}:∀k,(mw l t k).length≤8*k
 |0=>Nat.le_refl _
 |k+1=>by have:=wM (l:=l) (t:=t) k;have:=HP (t:=t) 7 (7*k);rw[mw,List.length_append,List.length_cons];omega
theorem Qk {M:AM}{l:List Int}{k:Nat}:mr (ldU M l k) k (bV (M.now (af l k).toNat)) 7=ldU M l (k+1):=by rw[←Io];rfl
theorem Mi {n:Nat}{f:Nat→Ent}:V.locLt n (lvV f)=true:=by simp only[lvV,V.locLt,Bool.or_eq_true];right;rw[fZ];intro x hx;obtain⟨j,_,rfl⟩:=List.mem_map.1 hx;rfl
theorem Oj {t:Nat→Ent}{k:Nat}{f:Nat→Ent}:mr t k f 0=t:=by funext j;unfold mr;rw[if_neg (by omega)]
section
variable {m : Nat} {F : Ft} {M : AM}
abbrev ldL (L:List Blk) (t:Nat→Ent) (root:Int) (X:List Int) (D:Nat→Int):List Blk:=L++[.rw (ac fun _=>an),.rw (d7V fun _=>0),.rw (ac t),.rw (d7V fun _=>0),.rw (.agg 38 [.int .i64 root]),.rw (lnV X),.rw (d7V D)]
abbrev ldE (L:List Blk) (m:Nat) (fr:Int) (v:V) (k:Int):Env:=[(0,.ptr (.hp m) [] 33),(1,.int .i64 fr),(6,.ptr (.loc L.length) [] 48),(7,.ptr (.loc (L.length+1)) [] 60),(9,.ptr (.loc (L.length+2)) [] 48),(10,.ptr (.loc (L.length+3)) [] 60),(11,v),(12,.ptr (.loc (L.length+5)) [] 24),(14,.ptr (.loc (L.length+6)) [] 60),(16,.int .i64 k)]
abbrev ldM (L:List Blk) (y:Blk) (root:Int) (X:List Int) (D:Nat→Int) (r:Int) (f:Nat→Ent):List Blk:=L++[.rw (ac fun _=>an),.rw (d7V fun _=>0),y,.rw (d7V fun _=>0),.rw (.agg 38 [.int .i64 root]),.rw (lnV X),.rw (d7V D),.rw (.agg 38 [.int .i64 r]),.rw (lvV f)]
theorem EM {L:List Blk}{fr root:Int}{l:List Int}(hon:M.off=false) (hR:M.Rn) (hc:M.count<1000000):∀(n k:Nat) {hp:List Blk}{G F:Ft}{v:V}{X:List Int},k+n=7→aV hp F m M→NmS (ldL L (ldU M l k) root X (af l)) hp G (L.length+4) v (root::mw l (ldT M l) k)→Inn hp G→fG G F→
 ∃hp' G' v' X' Y,rc D L.length (.loop [0,1,6,7,9,10,11,12,14,16] cK) (ldE L m fr v k) ⟨ldL L (ldU M l k) root X (af l),hp⟩=
  some (if tU M l k n=true then(.exit 0,ldE L m fr v' 7++[(53,.bool false)],⟨ldL L (ldU M l 7) root X' (af l),hp'⟩)
   else(.ret,[(6,.ptr (.loc L.length) [] 48),(7,.ptr (.loc (L.length+1)) [] 60),(8,.int .i64 21)],⟨L++([.rw (ac fun _=>an),.rw (d7V fun _=>0)]++Y),hp'⟩))∧
  (tU M l k n=true→NmS (ldL L (ldU M l 7) root X' (af l)) hp' G' (L.length+4) v' (root::mw l (ldT M l) 7))∧Inn hp' G'∧Chg hp hp' G G'
 |0,k,hp,G,F,v,X,hi,h,hN,hin,ha=>by
  have:k=7:=by omega
  subst this;refine⟨hp,G,v,X,[],?_,fun _=>hN,hin,.refl _ _⟩;rw[aa];simp only[tU,if_true];simp only[go_sem,cK]
 |n+1,k,hp,G,F,v,X,hi,h,hN,hin,ha=>by
  have hk7:k<7:=by omega
  have d1:(k:Int)<7:=by omega
  have d0:(0:Int)≤k:=by omega
  have d4:IntKind.i64.wrap ((k:Int)+1)=((k+1:Nat):Int):=ae (by omega) (by omega);have gr:=av (f:=fun j=>V.int .i64 (af l j)) hk7;have hnl:=wM (l:=l) (t:=ldT M l) k;have hvl:=hN.ltb;have hlen:∀a b c,(ldL L a root b c).length=L.length+7:=fun _ _ _=>by simp
  have hnmR:mw l (ldT M l) (k+1)=mw l (ldT M l) k++(af l k::mt (ldT M l) (7*k) 7):=rfl;have hpe:=Qk (M:=M) (l:=l) (k:=k);have hle:M.load (af l k)=if af l k<0∨(M.n:Int)≤af l k then(zl,1)else(M.now (af l k).toNat,0):=by unfold AM.load;rw[hon];rfl
  have hll:tU M l k (n+1)=(((decide (0≤af l k)&&decide (af l k<M.n))&&ef (M.now (af l k).toNat))&&tU M l (k+1) n):=rfl;have hAo:∀j,j<7→ldT M l (7*k+j)=bV (M.now (af l k).toNat) j:=fun j hj=>Pl hj;have hadd:=FH (t:=ldT M l) (f:=bV (M.now (af l k).toNat)) (i0:=7*k) 7 hAo;have hnow8:(0≤af l k∧af l k<M.n)→(M.now (af l k).toNat).length=8:=fun hh=>h.ok.now8 (by omega);have hnoww:=hR (af l k).toNat;obtain⟨hp1,v1,e1,e2,e3,e4⟩:=hN.push [.rw (.agg 38 [.int .i64 (af l k)])] (base:=L.length) (y:= .sl (.loc (L.length+7)) [] 0 1 (some 1) 10) (x:=af l k) (.inr ⟨_,_,_,_,_,rfl⟩)
   (cR (t:=38) (by
    have:(ldL L (ldU M l k) root X (af l)++[.rw (.agg 38 [.int .i64 (af l k)])])[L.length+7]?=some (.rw (.agg 38 [.int .i64 (af l k)])):=by rw[←hlen (ldU M l k) X (af l)];exact List.getElem?_concat_length
    simp only[St.read,St.at,this,V.at]) rfl) (by rw[List.length_cons];omega)
  have hM1:aV hp1 F m M:=h.chg e3 ha;have ha1:fG (Ft.one hp.length) F:=fun j hj hf=>by have:=h.inn j hf;cases hj;omega
  have hLd:=fun L=>lz hM1 hc (af l k) L;have hv1:∀n,v1.locLt n=true:=fun n=>e2.ltb;have hr1:∀X:V,List.replicate 1 X=[X]:=fun _=>rfl;have z48:V.agg 48 (List.replicate 49 (.agg 42 [.int .i64 0,.int .i64 0,.int .i64 0]))=ac fun _=>an:=by rw[co];rfl
  have t48:(ac fun _=>an).tag=48:=rfl;have vt:∀b f,V.locLt b (ac f)=true:=fun b f=>fV;have vd:∀b f,V.locLt b (d7V f)=true:=fun b f=>sd;have vln:∀b f,V.locLt b (lnV f)=true:=fun b f=>jq;have hin1:Inn hp1 (Ft.one hp.length):=fun j hj=>by cases hj;omega
  have z1:L.length+1<L.length+7:=by omega
  have z2:L.length+2<L.length+7:=by omega
  have z3:L.length+3<L.length+7:=by omega
  have z5:L.length+5<L.length+7:=by omega
  have z6:L.length+6<L.length+7:=by omega
  have z0:L.length<L.length+7:=by omega
  have zz:¬L.length+3=L.length:=by omega
  have tlv:∀f,(lvV f).tag=94:=fun f=>rfl;have tln:∀f,(lnV f).tag=24:=fun f=>rfl;by_cases hr0:0≤af l k∧af l k<M.n
  ·have hld:M.load (af l k)=(M.now (af l k).toNat,0):=by rw[hle,if_neg (by omega)]
   simp only[hld]at hLd;have hRL:=fun s=>sN (hnow8 hr0) hnoww s;have hlr:(decide (0≤af l k)&&decide (af l k<M.n))=true:=by simp only[Zj,Zi];exact hr0
   rw[hlr,Bool.true_and]at hll;cases hlf:ef (M.now (af l k).toNat)with
   |true=>
    rw[hlf,Bool.true_and]at hll;rw[hlf]at hRL;have hset:∀y z,(ldM L y root (M.now (af l k).toNat) (af l) (af l k) (bV (M.now (af l k).toNat))).set (L.length+2) z=ldM L z root (M.now (af l k).toNat) (af l) (af l k) (bV (M.now (af l k).toNat)):=fun y z=>by unfold ldM;rw[List.set_append_right _ _ (by omega),Nat.add_sub_cancel_left];rfl
    obtain⟨hp2,G2,v2,q1,q2,q3,q4⟩:=Bk (n0:=L.length) (m:=m) (L:=ldM L (.rw (ac (ldU M l k))) root (M.now (af l k).toNat) (af l) (af l k) (bV (M.now (af l k).toNat)))
     (a:=L.length) (b:=L.length+1) (c:=L.length+2) (d:=L.length+3) (e:=L.length+6) (q:=L.length+5) (xi:=L.length+8) (p:=L.length+4) (fr:=fr) (t:=ldU M l k) (f:=bV (M.now (af l k).toNat)) (k:=k) hk7
     (by unfold ldM;rw[List.drop_left];simp only[List.all_cons,List.all_nil,bl,vt,vd,vln,Mi,Bool.and_true,Bool.true_and];rfl)
     (by simp) (by simp) (by simp) (by simp) (by simp) (by simp) (by unfold ldM;rw[List.getElem?_append_right (by omega),Nat.add_sub_cancel_left];rfl) (by omega) (by omega) (root::mw l (ldT M l) k++[af l k]) (by rw[List.length_append,List.length_cons,List.length_singleton];omega) 7 0 (hp:=hp1) (G:=Ft.one hp.length) (v:=v1) (by omega)
     (.inr (by simpa[pQ]using e2)) hin1
    rw[hset,hset,Oj,hpe,show((0:Nat):Int)=0 from rfl]at q1
    rw[hadd]at q2;have hN2:NmS (ldL L (ldU M l (k+1)) root (M.now (af l k).toNat) (af l)) hp2 G2 (L.length+4) v2 (root::mw l (ldT M l) (k+1)):=by
     rcases q2 with⟨_,_,g⟩|g
     ·simp at g
     ·refine .inr ?_;rw[hnmR];simpa using g
    have hM2:aV hp2 F m M:=hM1.chg q4 ha1;obtain⟨hp3,G3,v3,X3,Y3,r1,r2,r3,r4⟩:=EM (L:=L) (fr:=fr) hon hR hc n (k+1) (by omega) hM2 hN2 q3 (q4.apart ha1 hM1.inn);have hv2:∀n,L.length+4<n→v2.locLt n=true:=fun n hn=>by
     rcases hN2 with⟨_,_,g⟩|g
     ·have:=wM (l:=l) (t:=ldT M l) k;rw[hnmR]at g;simp at g
     ·exact g.ltb
    have hv3:=hv2 (L.length+7) (by omega);refine⟨hp3,G3,v3,X3,Y3,?_,fun hh=>r2 (by rw[←hll];exact hh),r3,e3.trans (q4.trans r4)⟩;rw[hll,←r1,aa];clear r1 r2 r3 r4 q2 q3 q4 hN hN2 e2 hset;simp only[ldL,ldE,ldM]at*;generalize hY:lvV (bV (M.now (af l k).toNat))=LV at*;have tl2:LV.tag=94:=by rw[←hY];rfl
    have vl2:∀n,V.locLt n LV=true:=fun n=>by rw[←hY];exact Mi
    clear hY;generalize hY:lnV (M.now (af l k).toNat)=LN at*;have tn2:LN.tag=24:=by rw[←hY];rfl
    have vn2:∀n,V.locLt n LN=true:=fun n=>by rw[←hY];exact jq
    simp only[d7V,List.append_assoc,List.cons_append,List.nil_append]at*;simp only[go_sem,cK,d1,d0,Zh,gr,hr1,e1,hLd,tn2,hRL,tl2,q1,d4,hv3,vn2,vt,z0,z1,z2,z3,z5,z6]
   |false=>
    rw[hlf,Bool.false_and]at hll;rw[hlf]at hRL;refine⟨hp1,Ft.one hp.length,v1,[],[.rw (ac (ldU M l k)),.rw (d7V fun _=>0),.rw (.agg 38 [.int .i64 root]),.rw (lnV (M.now (af l k).toNat)),.rw (d7V (af l)),.rw (.agg 38 [.int .i64 (af l k)]),.rw (lvV (bV (M.now (af l k).toNat)))],?_,fun hh=>(by rw[hll]at hh;cases hh),hin1,e3⟩;rw[hll,aa,if_neg (by decide)];clear hN e2;simp only[ldL,ldE,ldM]at*;generalize hY:lvV (bV (M.now (af l k).toNat))=LV at*;have tl2:LV.tag=94:=by rw[←hY];rfl
    clear hY;generalize hY:lnV (M.now (af l k).toNat)=LN at*;have tn2:LN.tag=24:=by rw[←hY];rfl
    clear hY;simp only[d7V,List.append_assoc,List.cons_append,List.nil_append]at*;rw[←z48]at*;simp only[go_sem,cK,d1,d0,Zh,gr,hr1,e1,hLd,tn2,hRL,tl2,zz]
  ·have hld:M.load (af l k)=(zl,1):=by rw[hle,if_pos (by omega)]
   simp only[hld]at hLd;have hlr:(decide (0≤af l k)&&decide (af l k<M.n))=false:=by
    cases e:(decide (0≤af l k)&&decide (af l k<M.n))
    ·rfl
    ·simp only[Zj,Zi]at e;exact absurd e hr0
   rw[hlr,Bool.false_and,Bool.false_and]at hll;have hRL:=fun s=>sN (l:=zl) rfl (fun x hx=>wW x hx) s;generalize ef zl=B at*;refine⟨hp1,Ft.one hp.length,v1,[],[.rw (ac (ldU M l k)),.rw (d7V fun _=>0),.rw (.agg 38 [.int .i64 root]),.rw (lnV zl),.rw (d7V (af l)),.rw (.agg 38 [.int .i64 (af l k)]),.rw (lvV (bV zl))],?_,fun hh=>(by rw[hll]at hh;cases hh),hin1,e3⟩;rw[hll,aa,if_neg (by decide)];clear hN e2;simp only[ldL,ldE,ldM]at*;generalize hY:lvV (bV zl)=LV at*;have tl2:LV.tag=94:=by rw[←hY];rfl
   clear hY;generalize hY:lnV zl=LN at*;have tn2:LN.tag=24:=by rw[←hY];rfl
   clear hY;simp only[d7V,List.append_assoc,List.cons_append,List.nil_append]at*;rw[←z48]at*;simp only[go_sem,cK,d1,d0,Zh,gr,hr1,e1,hLd,tn2,hRL,tl2,zz]
end
theorem GG {M:AM}{l:List Int}:∀(n k:Nat),tU M l k n=true→qi M l k n=true
 |0,_,_=>rfl
 |n+1,k,h=>by simp only[tU,Zj]at h;simp only[qi,Zj];exact⟨h.1.2,GG n (k+1) h.2⟩
theorem JO {M:AM}{l:List Int}:∀(n k:Nat),qi M l k n=true→(∀j,k≤j→j<k+n→0≤af l j∧af l j<M.n)→tU M l k n=true
 |0,_,_,_=>rfl
 |n+1,k,h,hr=>by simp only[qi,Zj]at h;simp only[tU,Zj,Zi];exact⟨⟨hr k (Nat.le_refl _) (by omega),h.1⟩,JO n (k+1) h.2 fun j a b=>hr j (by omega) (by omega)⟩
theorem Co {l:List Int}{t:Nat→Ent}:∀(n j:Nat),j<n→af l j∈mw l t n
 |n+1,j,h=>by
  rw[mw,List.mem_append];by_cases e:j=n
  ·subst e;exact .inr List.mem_cons_self
  ·exact .inl (Co n j (by omega))
theorem NmS.rs {L hp:List Blk}{G:Ft}{p:Nat}{v:V}{nm:List Int}(h:NmS L hp G p v nm):RS ⟨L,hp⟩ 10 v (nm.map (.int .i64)):=by
 rcases h with⟨rfl,h2,h3⟩|h
 ·exact RS.at_loc h2 (by rw[List.length_map,h3]) (fun c hc=>by cases hc;exact Nat.le_refl _)
 ·exact h.rs L
section
variable {m : Nat} {F : Ft} {M : AM} {hp : List Blk}
theorem Fg (h:aV hp F m M) (hR:M.Rn) (hc:M.count<1000000) (fr root:Int) (hfr:0≤fr) (L:List Blk):∃hp' G',
 rf D kH [.ptr (.hp m) [] 33,.int .i64 fr,.int .i64 root] ⟨L,hp⟩=
  some (if M.off=true then .tup [ac fun _=>an,d7V fun _=>0,.int .i64 4]else if mK M fr root=true then .tup [ac (ldT M (M.now root.toNat)),d7V (af (M.now root.toNat)),.int .i64 0]else .tup [ac fun _=>an,d7V fun _=>0,.int .i64 21],⟨L,hp'⟩)∧Chg hp hp' (fun _=>False) G':=by
 have hz:(ac fun _=>an)= .agg 48 (List.replicate 49 (.agg 42 [.int .i64 0,.int .i64 0,.int .i64 0])):=by unfold ac;rw[co];rfl
 have hz7:(d7V fun _=>(0:Int))= .agg 60 (List.replicate 7 (.int .i64 0)):=by unfold d7V;rw[co]
 have zz:¬L.length+3=L.length:=by omega
 have zy:¬L.length+6=L.length:=by omega
 have hr1:∀X:V,List.replicate 1 X=[X]:=fun _=>rfl;obtain⟨k,k2,fk,fk2,n1,n2,n3,h1,h2,_⟩:=h.mb;simp only[rmV]at h1;cases ho:M.off with
 |true=>
  refine⟨hp,_,?_,.refl _ _⟩;rw[ho]at h1;rw[if_pos rfl,hz,hz7,ab dh rfl];simp only[go_sem,h1,zz]
 |false=>
  rw[ho]at h1;rw[if_neg (by simp)];have hdoc:=Rj (M:=M) (fr:=fr) (root:=root);have hLd:=fun L=>lz h hc root L;have hle:M.load root=if root<0∨(M.n:Int)≤root then(zl,1)else(M.now root.toNat,0):=by unfold AM.load;rw[ho];rfl
  by_cases hr0:0≤root∧root<M.n
  ·rw[if_neg (by omega)]at hle;simp only[hle]at hLd;have hRR:=fun s=>sL (h.ok.now8 (show root.toNat<M.n by omega)) (hR root.toNat) s;generalize hl:M.now root.toNat=l at*;cases c1:eG l with
   |false=>
    rw[c1]at hRR;have hno:¬mK M fr root=true:=fun e=>by have:=(hdoc.1 e).1;rw[c1]at this;cases this
    rw[if_neg hno];refine⟨hp,_,?_,.refl _ _⟩;have tD:(d7V (af l)).tag=60:=rfl;generalize d7V (af l)=DV at*;have tL:(lnV l).tag=24:=rfl;generalize lnV l=LV at*;rw[hz,hz7,ab dh rfl];simp only[go_sem,h1,hr1,hLd,tL,hRR,tD,zz]
   |true=>
    rw[c1]at hRR;have hN0:NmS (ldL L (ldU M l 0) root l (af l)) hp (fun _=>False) (L.length+4) (.sl (.loc (L.length+4)) [] 0 1 (some 1) 10) (root::mw l (ldT M l) 0):=
     .inl ⟨rfl,by unfold ldL;rw[List.getElem?_append_right (by omega),Nat.add_sub_cancel_left];rfl,rfl⟩
    obtain⟨hp1,G1,v1,X1,Y1,e1,e2,e3,e4⟩:=EM (L:=L) (fr:=fr) ho hR hc 7 0 (by omega) h hN0 (fun _ h=>h.elim) (fun _ h=>h.elim);rw[show((0:Nat):Int)=0 from rfl]at e1
    have hU0:ac (ldU M l 0)=ac fun _=>an:=rfl;have hU7:ac (ldU M l 7)=ac (ldT M l):=by
     have:(tab 49 fun i=>(ldU M l 7 i).v)=tab 49 fun i=>(ldT M l i).v:=bp fun j hj=>by unfold ldU;rw[if_pos (by omega)]
     unfold ac;rw[this]
    cases c2:tU M l 0 7 with
    |false=>
     have hno:¬mK M fr root=true:=fun e=>by
      obtain⟨_,a,b,_⟩:=hdoc.1 e;have:=JO 7 0 a fun j _ hj=>by have:=b (af l j) (List.mem_cons_of_mem _ (Co 7 j (by omega)));exact⟨this.2.1,this.2.2⟩
      rw[c2]at this;cases this
     rw[if_neg hno];rw[c2,if_neg (by simp)]at e1;refine⟨hp1,G1,?_,e4⟩;have tD:(d7V (af l)).tag=60:=rfl;have tL:(lnV l).tag=24:=rfl;have g0:(L++([Blk.rw (ac fun _=>an),.rw (d7V fun _=>0)]++Y1))[L.length]?=some (.rw (ac fun _=>an)):=by rw[List.getElem?_append_right (Nat.le_refl _),Nat.sub_self];rfl
     have g1:(L++([Blk.rw (ac fun _=>an),.rw (d7V fun _=>0)]++Y1))[L.length+1]?=some (.rw (d7V fun _=>0)):=by rw[List.getElem?_append_right (by omega),Nat.add_sub_cancel_left];rfl
     have g2:(L++([Blk.rw (ac fun _=>an),.rw (d7V fun _=>0)]++Y1)).take L.length=L:=List.take_left' rfl;have g3:L.length≤(L++([Blk.rw (ac fun _=>an),.rw (d7V fun _=>0)]++Y1)).length:=by rw[List.length_append];omega
     generalize(L++([Blk.rw (ac fun _=>an),.rw (d7V fun _=>0)]++Y1))=LL at*;simp only[ldL,ldE]at*;rw[hU0]at e1;generalize d7V (af l)=DV at*;generalize lnV l=LV at*;rw[hz,hz7]at*;rw[ab dh rfl];simp only[go_sem,h1,hr1,hLd,tL,hRR,tD,zz,e1,g0,g1,g2,g3]
    |true=>
     rw[c2,if_pos rfl]at e1;have e2:=e2 c2;have hMq:aV hp1 F m M:=h.chg e4 (fun _ h=>h.elim);have hlenN:=wM (l:=l) (t:=ldT M l) 7;generalize hnm:root::mw l (ldT M l) 7=nm at*;have hnl:nm.length<1000:=by rw[←hnm,List.length_cons];omega
     have hgA:(ldL L (ldU M l 7) root X1 (af l))[L.length]?=some (.rw (ac fun _=>an)):=by unfold ldL;rw[List.getElem?_append_right (Nat.le_refl _),Nat.sub_self];rfl
     have hgB:(ldL L (ldU M l 7) root X1 (af l))[L.length+1]?=some (.rw (d7V fun _=>0)):=by unfold ldL;rw[List.getElem?_append_right (by omega),Nat.add_sub_cancel_left];rfl
     have hgD:(ldL L (ldU M l 7) root X1 (af l))[L.length+3]?=some (.rw (d7V fun _=>0)):=by unfold ldL;rw[List.getElem?_append_right (by omega),Nat.add_sub_cancel_left];rfl
     have hno:=If (n0:=L.length) (fr:=fr) (a:=L.length) (b:=L.length+1) (c:=L.length+2) (d:=L.length+3) (e:=L.length+6) hMq e2.rs e2.ltb
      (by unfold ldL;rw[List.drop_left];simp only[List.all_cons,List.all_nil,bl,fV,sd,jq,Bool.and_true,Bool.true_and];rfl)
      (by simp) (by simp) (by simp) (by simp) (by simp) hnl hgA hgB hgD (by omega) (by omega) nm.length 0 (by omega)
     rw[show((0:Nat):Int)=0 from rfl]at hno
     have hvl:V.locLt (L.length+7) v1=true:=by have:=e2.ltb;simpa using this
     have hbi:=AR (n:=M.n) (fr:=fr) (nm:=nm) nm.length 0 (by omega) List.nodup_nil (fun x hx=>by cases hx);have hok:mK M fr root=true↔xq M.n fr nm 0 nm.length=false:=by
      rw[hdoc,hbi];constructor
      ·rintro⟨_,_,b,c⟩;exact⟨fun x hx=>⟨(b x hx).1,(b x hx).2.2⟩,c⟩
      ·rintro⟨b,c⟩;exact⟨c1,GG 7 0 c2,fun x hx=>⟨(b x hx).1,by have:=(b x hx).1;omega,(b x hx).2⟩,c⟩
     clear hdoc hbi;refine⟨hp1,G1,?_,e4⟩;have tD:(d7V (af l)).tag=60:=rfl;have tL:(lnV l).tag=24:=rfl;have tT:(ac (ldT M l)).tag=48:=rfl;have lD:∀n,V.locLt n (d7V (af l))=true:=fun n=>sd;have lT:∀n,V.locLt n (ac (ldT M l))=true:=fun n=>fV;have oD:(d7V (af l)).ok=true:=rfl;have oT:(ac (ldT M l)).ok=true:=rfl;simp only[ldL,ldE]at*;rw[hU0,hU7]at e1;rw[hU7]at hno;generalize d7V (af l)=DV at*;generalize lnV l=LV at*;generalize lnV X1=XV at*;cases hb:xq M.n fr nm 0 nm.length with
     |true=>
      rw[hb]at hok hno;rw[if_neg (fun e=>by have:=hok.1 e;cases this)];rw[if_pos rfl]at hno;generalize ac (ldT M l)=TV at*;rw[hz,hz7]at*;rw[ab dh rfl];simp only[go_sem,h1,hr1,hLd,tL,hRR,tD,zz,e1,hno]
      done
     |false=>
      rw[hb]at hok hno;rw[if_pos (hok.2 rfl)];rw[if_neg (by simp)]at hno;generalize ac (ldT M l)=TV at*;rw[hz,hz7]at*;rw[ab dh rfl];simp only[go_sem,h1,hr1,hLd,tL,hRR,tD,zz,zy,e1,hno,tT,lD,lT,oD,oT]
      done
  ·rw[if_pos (by omega)]at hle;simp only[hle]at hLd;have hno:¬mK M fr root=true:=fun e=>by have:=(hdoc.1 e).2.2.1 root List.mem_cons_self;exact hr0 ⟨this.2.1,this.2.2⟩
   rw[if_neg hno];have hRR:=fun s=>sL (l:=zl) rfl (fun x hx=>wW x hx) s;refine⟨hp,_,?_,.refl _ _⟩;have tD:(d7V (af zl)).tag=60:=rfl;generalize d7V (af zl)=DV at*;generalize eG zl=B at*;have tL:(lnV zl).tag=24:=rfl;generalize lnV zl=LV at*;rw[hz,hz7,ab dh rfl];simp only[go_sem,h1,hr1,hLd,tL,hRR,tD,zz]
end
section
variable {hp : List Blk} {G : Ft} {e r : Nat} {v : V} {l : List V}
theorem SlR.app (h:SlR hp G e r v l) (hin:Inn hp G) {base:Nat}{y:V}{new:List V}(L:List Blk) (hy:y= .nils∨∃a p o n c,y= .sl a p o n c e) (h2:St.elems ⟨L,hp⟩ y=some new) (hm:l.length+new.length≤cg)
 (he:e%2=0∨V.locLts 0 (l++new)=true):
 ∃hp' v' G',aD base true r e v y ⟨L,hp⟩=some (v',⟨L,hp'⟩)∧SlR hp' G' e r v' (l++new)∧Chg hp hp' G G'∧Inn hp' G':=by
 by_cases hn:new=[]
 ·subst hn;refine⟨hp,v,G,?_,by rw[List.append_nil];exact h,.refl _ _,hin⟩;unfold aD;rw[we h.shape,vL hy,h.elems L,h2];rfl
 ·obtain⟨hp',e1,e2,e3,e4⟩:=h.push (base:=base) L hy h2 hn hm he;refine⟨hp',_,.one hp.length,e1,.blk _ none _ (.inl rfl) rfl e3,⟨by omega,e4,fun j hj=> .inr (by rw[hj];exact Nat.le_refl _)⟩,fun j hj=>by cases hj;omega⟩
theorem HH {s:St}(h:RS s e v l):v= .nils∨∃a p o n c,v= .sl a p o n c e:=by
 rcases h with⟨rfl,_⟩|⟨a,p,off,c,rfl,_⟩
 ·exact .inl rfl
 ·exact .inr ⟨_,_,_,_,_,rfl⟩
theorem Sj {s:St}(h:RS s e v l) {n:Nat}(hn:n≤l.length) {k:IntKind}:∃v',gU e (some (.int k (n:Int))) none none v=some v'∧RS s e v' (l.drop n):=by
 rcases h with⟨rfl,rfl⟩|⟨a,p,off,cp,rfl,hc,hlt,h⟩
 ·have:n=0:=by simpa using hn
  subst this;exact⟨.nils,by simp[gU,ao,aP],.inl ⟨rfl,rfl⟩⟩
 ·have hl:(l.drop n).length=l.length-n:=by simp
  refine⟨.sl a p (off+n) (l.length-n) (nI false cp (cp.getD l.length-n)) e,?_,.inr ⟨a,p,off+n,_,by rw[hl],?_,?_,?_⟩⟩
  ·simp only[gU,if_true,ao,aP,kL,Option.isSome_none,Bool.false_eq_true,if_false];rw[if_pos ⟨by omega,by omega⟩];simp[aP]
  ·intro c hk;rw[hl];cases cp with
   |none=>simp[nI]at hk
   |some c'=>
    have:=hc c' rfl;simp only[nI,Option.isSome_some,Bool.or_true,if_true,Zg,Option.getD_some]at hk;omega
  ·cases a
   ·simpa[V.locLt]using hlt
   ·simp[V.locLt]
  ·rcases h with h|⟨r,L,h1,h2⟩
   ·left;simp[h]
   ·right;refine⟨r,L,h1,fun j x hx=> ?_⟩;rw[List.getElem?_drop]at hx;have:=h2 _ _ hx
    rwa [←Nat.add_assoc]at this
end
def oP (l:List Rec) (s:Int):Nat→Nat
 |0=>0
 |k+1=>if s<(ak l k).seq then oP l s k else k+1
theorem Dw {l:List Rec}{s:Int}:∀k,oP l s k≤k
 |0=>Nat.le_refl _
 |k+1=>by have:=Dw (l:=l) (s:=s) k;rw[oP];split<;>omega
theorem BI {l l':List Rec}{s:Int}:∀k,(∀j,j<k→ak l j=ak l' j)→oP l s k=oP l' s k
 |0,_=>rfl
 |k+1,h=>by rw[oP,oP,h k (by omega),BI k fun j hj=>h j (by omega)]
theorem PY {l t:List Rec}{j:Nat}(h:j<l.length):ak (l++t) j=ak l j:=by unfold ak;rw[List.getD_eq_getElem?_getD,List.getD_eq_getElem?_getD,List.getElem?_append_left h]
theorem Gg {r:Rec}:∀(n:Nat) (l:List Rec),l.length=n→Srt l→l.take (oP l r.seq l.length)++r::l.drop (oP l r.seq l.length)=fO r l
 |0,l,hl,_=>by have:l=[]:=List.length_eq_zero_iff.1 hl;subst this;rfl
 |n+1,l,hl,hs=>by
  obtain⟨l',x,rfl⟩:∃l' x,l=l'++[x]:=⟨l.dropLast,l.getLast (by intro e;rw[e]at hl;cases hl),(List.dropLast_concat_getLast _).symm⟩;have hn:l'.length=n:=by simpa using hl
  have hx:ak (l'++[x]) l'.length=x:=iR rfl;have hs':=List.pairwise_append.1 hs;rw[hl,oP,←hn,hx];by_cases c:r.seq<x.seq
  ·rw[if_pos c,zn c,BI (l':=l') l'.length fun j hj=>PY hj,←Gg n l' hn hs'.1];have:=Dw (l:=l') (s:=r.seq) l'.length;rw[List.take_append_of_le_length this,List.drop_append_of_le_length this,List.append_assoc];rfl
  ·rw[if_neg c,AT _ fun y hy=> ?_,List.take_of_length_le (by simp),List.drop_of_length_le (by simp)];rcases List.mem_append.1 hy with hy|hy
   ·have:=hs'.2.2 y hy x (by simp);omega
   ·rw[List.mem_singleton.1 hy];omega
section
variable {m : Nat} {F : Ft} {M : AM}
theorem B6 {L hp:List Blk}{cores i:Int}{v:V}{l:List Rec}(X:Blk) (hX:∀n,bl n X=true) (r:Rec) (hrs:∀L,RS ⟨L,hp⟩ 54 v (l.map Rec.v)) (hvl:∀n,v.locLt n=true) (hmx:l.length<1000):∀k,k≤l.length→
 rc D L.length (.loop [0,1,6,7,10,12] dZ) [(0,.ptr (.hp m) [] 33),(1,.int .i64 cores),(6,v),(7,.int .i64 i),(10,.ptr (.loc (L.length+1)) [] 54),(12,.int .i64 k)] ⟨L++[X,.rw r.v],hp⟩=
  some (.exit 2,[(0,.ptr (.hp m) [] 33),(1,.int .i64 cores),(6,v),(7,.int .i64 i),(10,.ptr (.loc (L.length+1)) [] 54),(12,.int .i64 (oP l r.seq k)),(57,.bool false)],⟨L++[X,.rw r.v],hp⟩)
 |0,_=>by rw[aa];simp only[oP];simp only[go_sem,dZ]
 |k+1,hk=>by
  have hkl:k<l.length:=by omega
  have d1:((k+1:Nat):Int)>0:=by omega
  have d1':¬((k+1:Nat):Int)≤0:=by omega
  have d2:IntKind.i64.wrap (((k+1:Nat):Int)-1)=(k:Int):=by rw[ae (by omega) (by omega)];omega
  have hg:=am (f:=Rec.v) (l:=l) (i:=k) hkl bW;have hld:∀X,ldv ⟨X,hp⟩ 10 (elq v k [0] 10)=V.at [0] (l.getD k bW).v:=fun X=>(hrs X).ldq hg;have hsad:=(hrs []).sadq hg (k:= .i64);have hf0:mi 54 0 10 (elq v k [] 54)=some (elq v k [0] 10):=(hrs []).fadq hg;have ih:=B6 (L:=L) (cores:=cores) (i:=i) X hX r hrs hvl hmx k (by omega);have z0:L.length+1<L.length+2:=by omega
  rw[oP];show _=some (_,[_,_,_,_,_,(12,V.int .i64 ((if r.seq<(l.getD k bW).seq then oP l r.seq k else k+1:Nat):Int)),_],_)
  generalize l.getD k bW=o at*;obtain⟨os,oi,ow,ov⟩:=o;obtain⟨rs,ri,rw',rv⟩:=r;simp only[Rec.v]at*;by_cases c:rs<os
  ·have c':os>rs:=c;rw[if_pos c,←ih,aa];clear ih;simp only[go_sem,dZ,d1,d1',d2,hsad,hf0,hld,c,c',hvl,hX,z0]
  ·have c':¬os>rs:=c;rw[if_neg c,aa];clear ih;simp only[go_sem,dZ,d1,d1',d2,hsad,hf0,hld,c,c',hvl,hX,z0]
theorem wP (hoff:M.off=false) (hc:M.count<1000000) {cores:Nat}(h8:cores≤8) (hto:2+4*cores≤M.n) (L:List Blk):∀(n i:Nat) {hp:List Blk}{G F:Ft}{v:V}{l:List Rec},i+n=2+4*cores→aV hp F m M→SlR hp G 54 56 v (l.map Rec.v)→Srt l→l.length+n≤1000→fG G F→Inn hp G→
 ∃hp' G' v',rc D L.length (.loop [0,1,6,7] ed) [(0,.ptr (.hp m) [] 33),(1,.int .i64 cores),(6,v),(7,.int .i64 i)] ⟨L,hp⟩=
  some (.exit 0,[(0,.ptr (.hp m) [] 33),(1,.int .i64 cores),(6,v'),(7,.int .i64 (2+4*cores:Nat)),(24,.bool false)],⟨L,hp'⟩)∧SlR hp' G' 54 56 v' ((mS l (bb M i n)).map Rec.v)∧Chg hp hp' G G'∧Inn hp' G'
 |0,i,hp,G,F,v,l,hi,h,hs,_,hl,ha,hn=>by
  have:i=2+4*cores:=by omega
  subst this;refine⟨hp,G,v,?_,hs,.refl _ _,hn⟩;have w1:IntKind.i64.wrap (4*(cores:Int))=((4*cores:Nat):Int):=by rw[ae (by omega) (by omega)];omega
  have w2:IntKind.i64.wrap (2+((4*cores:Nat):Int))=((2+4*cores:Nat):Int):=by rw[ae (by omega) (by omega)];omega
  rw[aa];generalize 2+4*cores=z at*;have d1:¬(z:Int)<z:=by omega
  simp only[go_sem,ed,w1,w2,d1]
 |n+1,i,hp,G,F,v,l,hi,h,hs,hsr,hl,ha,hn=>by
  have hin:i<M.n:=by omega
  have w1:IntKind.i64.wrap (4*(cores:Int))=((4*cores:Nat):Int):=by rw[ae (by omega) (by omega)];omega
  have w2:IntKind.i64.wrap (2+((4*cores:Nat):Int))=((2+4*cores:Nat):Int):=by rw[ae (by omega) (by omega)];omega
  have d1:(i:Int)<((2+4*cores:Nat):Int):=by omega
  have hn1:=h.ok.n1;have d4:IntKind.i64.wrap ((i:Int)+1)=((i+1:Nat):Int):=ae (by omega) (by omega);have hld:M.load (i:Int)=(M.now i,0):=by unfold AM.load;rw[if_neg (by omega),if_neg (by rw[hoff];simp),Zh]
  have hL:=fun L=>lz h hc (i:Int) L;simp only[hld]at hL;have hR:=fun s=>Fi (h.ok.now8 hin) s;have hvl:∀n,v.locLt n=true:=fun n=>hs.ltb;have hslen:=hs.slen;rw[List.length_map]at hslen;have tn:(lnV (M.now i)).tag=24:=rfl;cases hrc:jf (M.now i)with
  |false=>
   obtain⟨hp',G',v',q1,q2⟩:=wP hoff hc h8 hto L n (i+1) (l:=l) (by omega) h hs hsr (by omega) ha hn;refine⟨hp',G',v',?_,by rw[bb,hrc,if_neg (by simp),List.nil_append];exact q2⟩;rw[←q1,aa];rw[hrc]at hR;simp only[Bool.false_eq_true,if_false]at hR;have tr:bW.v.tag=54:=rfl;generalize bW.v=RV at*;generalize lnV (M.now i)=LN at*;clear q1 q2;simp only[go_sem,ed,w1,w2,d1,hL,tn,hR,tr,d4,hvl]
  |true=>
   rw[hrc]at hR;simp only[if_true]at hR;have hRI:bb M i (n+1)=cM (M.now i)::bb M (i+1) n:=by rw[bb,hrc,if_pos rfl];rfl
   generalize cM (M.now i)=rr at*;have hkl:=Dw (l:=l) (s:=rr.seq) l.length;have hins:=Gg (r:=rr) _ l rfl hsr;have hlm:∀k,(l.map Rec.v).take k=(l.take k).map Rec.v:=fun k=>by rw[List.map_take]
   have hinn:=B6 (m:=m) (L:=L) (hp:=hp) (cores:=cores) (i:=i) (.rw (lnV (M.now i))) (fun n=>by simp only[bl,jq]) rr (fun X=>hs.rs X) hvl (by omega) l.length (Nat.le_refl _);generalize oP l rr.seq l.length=k at*;have hp0:Chg hp (hp++[.rw (.agg 56 [])]) (fun _=>False) (fun _=>False):=oW _ _ _;have hs0:SlR (hp++[.rw (.agg 56 [])]) G 54 56 v (l.map Rec.v):=hs.eqv (hp0.eqv (fun _ h=>h.elim) hn) fun _ h=>h;obtain⟨v1,a1,a2,a3⟩:=(hs0.rs (L++[.rw (lnV (M.now i)),.rw rr.v])).take (n:=k) (by rw[List.length_map];exact hkl) (k:= .i64);obtain⟨hp1,v2,G2,b1,b2,b3,b4⟩:=(SlR.emp (hp:=hp++[.rw (.agg 56 [])]) (G:=fun _=>False) (e:=54) (r:=56) hp.length [] 0).app (fun _ h=>h.elim) (base:=L.length) (L++[.rw (lnV (M.now i)),.rw rr.v]) (HH a2) a2.elems (by rw[List.length_take,List.length_map];simp[cg];omega) (.inl rfl);rw[List.nil_append]at b2;obtain⟨hp2,v3,G3,c1,c2,c3,c4⟩:=b2.app b4 (base:=L.length) (y:= .sl (.loc (L.length+2)) [] 0 1 (some 1) 54) (new:=[rr.v]) (L++[.rw (lnV (M.now i)),.rw rr.v,.rw (.agg 56 [rr.v])]) (.inr ⟨_,_,_,_,_,rfl⟩)
    (cR (t:=56) (by
     have:(L++[.rw (lnV (M.now i)),.rw rr.v,.rw (.agg 56 [rr.v])])[L.length+2]?=some (.rw (.agg 56 [rr.v])):=by rw[List.getElem?_append_right (by omega),Nat.add_sub_cancel_left];rfl
     simp only[St.read,St.at,this,V.at]) rfl) (by rw[List.length_take,List.length_map];simp[cg];omega) (.inl rfl)
   have hc2:Chg hp hp2 (fun _=>False) G3:=hp0.trans (b3.trans c3);have hs2:SlR hp2 G 54 56 v (l.map Rec.v):=hs.eqv (hc2.eqv (fun _ h=>h.elim) hn) fun _ h=>h;obtain⟨v4,e1,e2⟩:=Sj (hs2.rs (L++[.rw (lnV (M.now i)),.rw rr.v,.rw (.agg 56 [rr.v])])) (n:=k) (by rw[List.length_map];exact hkl) (k:= .i64);obtain⟨hp3,v5,G4,g1,g2,g3,g4⟩:=c2.app c4 (base:=L.length) (y:=v4) (new:=(l.map Rec.v).drop k) (L++[.rw (lnV (M.now i)),.rw rr.v,.rw (.agg 56 [rr.v])]) (HH e2) e2.elems (by rw[List.length_append,List.length_take,List.length_drop,List.length_map];simp[cg];omega) (.inl rfl);have hc3:Chg hp hp3 (fun _=>False) G4:=hc2.trans g3;have hg2:SlR hp3 G4 54 56 v5 ((fO rr l).map Rec.v):=by
    rw[←hins];have:(l.take k++rr::l.drop k).map Rec.v=(l.map Rec.v).take k++[rr.v]++(l.map Rec.v).drop k:=by rw[List.map_append,List.map_cons,List.map_take,List.map_drop,List.append_assoc];rfl
    rw[this];exact g2
   have hv5:∀n,v5.locLt n=true:=fun n=>hg2.ltb;obtain⟨hp',G',v',q1,q2,q3,q4⟩:=wP hoff hc h8 hto L n (i+1) (v:=v5) (l:=fO rr l) (by omega) (h.chg hc3 fun _ h=>h.elim) hg2 (tZ hsr) (by rw[wH];omega) (hc3.apart (fun _ h=>h.elim) h.inn) g4;refine⟨hp',G',v',?_,by rw[hRI];exact q2,(hc3.mono (fun _ h=>h.elim) fun _ h=> .inl h).trans q3,q4⟩;rw[←q1,aa];clear q1 q2 q3 q4 hg2 g2 g3 g4 e2 c2 c3 c4 b2 b3 b4 a2 hs0 hs2 hins;have tr:rr.v.tag=54:=rfl;have lr:∀n,V.locLt n rr.v=true:=fun n=>rfl;generalize lnV (M.now i)=LN at*;have hr0:∀X:V,List.replicate 0 X=[]:=fun _=>rfl;have hr1:∀X:V,List.replicate 1 X=[X]:=fun _=>rfl;have or:rr.v.ok=true:=rfl;simp only[go_sem,ed,w1,w2,d1,hL,tn,hR,tr,hslen,hinn,a1,hr0,hr1,b1,or,c1,e1,g1,d4,hv5]
   done
theorem Fe {hp:List Blk}{F:Ft}(h:aV hp F m M) (hoff:M.off=false) (hc:M.count<1000000) {cores:Nat}(h1:1≤cores) (h8:cores≤8) (hto:2+4*cores≤M.n) (L:List Blk):
 ∃hp' G v,rf D kA [.ptr (.hp m) [] 33,.int .i64 cores] ⟨L,hp⟩=some (.tup [v,.int .i64 0],⟨L,hp'⟩)∧SlR hp' G 54 56 v ((bD (bb M 2 (4*cores))).map Rec.v)∧Chg hp hp' (fun _=>False) G∧Inn hp' G:=by
 have d1:¬(cores:Int)<1:=by omega
 have d2:¬(cores:Int)>8:=by omega
 obtain⟨hp',G',v',q1,q2,q3,q4⟩:=wP hoff hc h8 hto L (4*cores) 2 (by omega) h (SlR.nil (G:=fun _=>False)) (l:=[]) .nil (by simp;omega) (fun _ h=>h.elim) (fun _ h=>h.elim);rw[show((2:Nat):Int)=2 from rfl]at q1
 refine⟨hp',G',v',?_,q2,q3,q4⟩;have hv:∀n,v'.locLt n=true:=fun n=>q2.ltb;have ho:=q2.ok;rw[ab vX rfl];simp only[go_sem,d1,d2,q1,hv,ho]
end
section
variable {m a fr c : Nat}
theorem xu {b:Sup}{t:Nat→Ent}{rs:List Rec}(hok:∀r∈rs,r.ok=true) (h100:rs.length≤100) (slot:Int) (rv:V) (L:List Blk) (D7 D8:Blk) (hD7:∀n,bl n D7=true) (hD8:∀n,bl n D8=true):
 ∀(n i:Nat) {hp:List Blk}{Fm G:Ft}{x:AS}{last:Int},i+n=rs.length→dS hp Fm a m fr c x→SlR hp G 54 56 rv (rs.map Rec.v)→fG (f8 a fr c Fm) G→Inn hp G→x.M.count+10*n+10<1000000→0≤last∧last≤1099511627776→
 ∃hp' Fm' r,rc D L.length (.loop [2,4,5,6,9,13,14,15,16] bS) [(2,.ptr (.loc L.length) [] 41),(4,.ptr (.loc (L.length+1)) [] 41),(5,.ptr (.loc (L.length+2)) [] 44),(6,.int .i64 slot),(9,.ptr (.loc (L.length+3)) [] 48),(13,.ptr (.hp a) [] 31),(14,rv),(15,.int .i64 last),(16,.int .i64 i)] ⟨L++[.rw bm,.rw bm,.rw b.v,.rw (ac t),D7,D8],hp⟩=some r∧
  dS hp' Fm' a m fr c (cU b.seq t x (rs.drop i)).1∧Chg hp hp' (f8 a fr c Fm) (f8 a fr c Fm')∧(cU b.seq t x (rs.drop i)).1.M.count≤x.M.count+9*n∧
  (((cU b.seq t x (rs.drop i)).2=0∧r=(.exit 2,[(2,.ptr (.loc L.length) [] 41),(4,.ptr (.loc (L.length+1)) [] 41),(5,.ptr (.loc (L.length+2)) [] 44),(6,.int .i64 slot),(9,.ptr (.loc (L.length+3)) [] 48),(13,.ptr (.hp a) [] 31),(14,rv),(15,.int .i64 (fI last (rs.drop i))),(16,.int .i64 rs.length),(92,.bool false)],⟨L++[.rw bm,.rw bm,.rw b.v,.rw (ac t),D7,D8],hp'⟩))∨
   ((cU b.seq t x (rs.drop i)).2≠0∧∃X,r=(.ret,[(2,.ptr (.loc L.length) [] 41),(3,.int .i64 (cU b.seq t x (rs.drop i)).2)],⟨L++ .rw bm::X,hp'⟩)))
 |0,i,hp,Fm,G,x,last,hi,h,hs,ha,hg,hc,hla=>by
  have:i=rs.length:=by omega
  subst this;rw[List.drop_length];refine⟨hp,Fm,_,?_,h,.refl _ _,by simp only[cU];omega,.inl ⟨rfl,rfl⟩⟩;have d1:¬(rs.length:Int)<rs.length:=by omega
  have hsl:=hs.slen;rw[List.length_map]at hsl;simp only[fI];rw[aa];simp only[go_sem,bS,hsl,d1]
 |n+1,i,hp,Fm,G,x,last,hi,h,hs,ha,hg,hc,hla=>by
  have hil:i<rs.length:=by omega
  have d1:(i:Int)<rs.length:=by omega
  have d4:IntKind.i64.wrap ((i:Int)+1)=((i+1:Nat):Int):=ae (by omega) (by omega);have hsl:=hs.slen;rw[List.length_map]at hsl;have hgm:=am (f:=Rec.v) (l:=rs) (i:=i) hil bW;have hld0:∀X,ldv ⟨X,hp⟩ 10 (elq rv i [0] 10)=V.at [0] (rs.getD i bW).v:=fun X=>(hs.rs X).ldq hgm;have hld1:∀X,ldv ⟨X,hp⟩ 10 (elq rv i [1] 10)=V.at [1] (rs.getD i bW).v:=fun X=>(hs.rs X).ldq hgm;have hld2:∀X,ldv ⟨X,hp⟩ 10 (elq rv i [2] 10)=V.at [2] (rs.getD i bW).v:=fun X=>(hs.rs X).ldq hgm;have hld3:∀X,ldv ⟨X,hp⟩ 18 (elq rv i [3] 18)=V.at [3] (rs.getD i bW).v:=fun X=>(hs.rs X).ldq hgm;have hf0:mi 54 0 10 (elq rv i [] 54)=some (elq rv i [0] 10):=(hs.rs []).fadq hgm;have hf1:mi 54 1 10 (elq rv i [] 54)=some (elq rv i [1] 10):=(hs.rs []).fadq hgm;have hf2:mi 54 2 10 (elq rv i [] 54)=some (elq rv i [2] 10):=(hs.rs []).fadq hgm;have hf3:mi 54 3 18 (elq rv i [] 54)=some (elq rv i [3] 18):=(hs.rs []).fadq hgm;have hsad:=(hs.rs []).sadq hgm (k:= .i64);have hdrop:rs.drop i=rs.getD i bW::rs.drop (i+1):=by rw[List.getD_eq_getElem?_getD,List.getElem?_eq_getElem hil];exact List.drop_eq_getElem_cons hil
  have hro:=hok (rs.getD i bW) (by rw[List.getD_eq_getElem?_getD,List.getElem?_eq_getElem hil];exact List.getElem_mem hil);have hr:=Rec.ok_iff.1 hro;have hlv1:∀k,V.locLt k rv=true:=fun k=>hs.ltb;have z0:L.length<L.length+6:=by omega
  have z1:L.length+1<L.length+6:=by omega
  have z2:L.length+2<L.length+6:=by omega
  have z3:L.length+3<L.length+6:=by omega
  rw[hdrop];simp only[cU,fI];generalize rs.getD i bW=rr at*;obtain⟨q,id,wd,vl⟩:=rr;simp only at hr;simp only;obtain⟨idn,rfl⟩:∃k:Nat,id=k:=⟨id.toNat,by omega⟩;rw[Zh];have i1:(0:Int)≤idn:=by omega
  have i2:(idn:Int)<49:=by omega
  have gt:=av (f:=fun j=>(t j).v) (show idn<49 by omega);have hbv:bm= .agg 41 [.nilp,.agg 44 [.int .i64 0,.int .i64 0,.int .i64 0,.int .i64 0],.int .i64 0,.int .i64 0]:=rfl;by_cases cc:q≤b.seq∨(t idn).kind≠1
  ·rw[if_pos cc];obtain⟨hp',Fm',r,q1,q2,q3,q4,q5⟩:=xu hok h100 slot rv L D7 D8 hD7 hD8 n (i+1) (last:=max last q) (by omega) h hs ha hg (by omega) (by omega);refine⟨hp',Fm',r,?_,q2,q3,by omega,q5⟩;rw[←q1,aa];clear q1 q2 q3 q4 q5 hdrop hgm hs h;simp only[Rec.v,Sup.v,ac,Ent.v]at*;rw[hbv];generalize tab 49 (fun j=>V.agg 42 [.int .i64 (t j).kind,.int .i64 (t j).ver,.int .i64 (t j).line])=T at*;by_cases c1:q≤b.seq
   ·have c1':¬q>b.seq:=by omega
    simp only[go_sem,bS,d1,hsl,hsad,hf0,hld0,c1,c1',d4,hlv1,z0,z1,z2,z3,hD7,hD8]
   ·have c2:=cc.resolve_left c1;have c1':q>b.seq:=by omega
    simp only[go_sem,bS,d1,hsl,hsad,hf0,hf1,hld0,hld1,c1,c1',i1,i2];rw[Zh];simp only[go_sem,gt,c2,d4,hlv1,z0,z1,z2,z3,hD7,hD8]
  ·rw[if_neg cc];have c1:¬q≤b.seq:=fun e=>cc (.inl e);have c1':q>b.seq:=by omega
   have c2:(t idn).kind=1:=by
    by_cases e:(t idn).kind=1
    ·exact e
    ·exact absurd (.inr e) cc
   obtain⟨hp1,F1,e1,e2,e3⟩:=Mx h (by omega) idn wd vl (L++[.rw bm,.rw bm,.rw b.v,.rw (ac t),D7,D8]);have cs:=AS.set_count (x:=x) idn wd vl;by_cases he:(x.set idn wd vl).2=0
   ·rw[if_neg (by rw[he];simp)];obtain⟨hp',Fm',r,q1,q2,q3,q4,q5⟩:=xu hok h100 slot rv L D7 D8 hD7 hD8 n (i+1) (last:=max last q) (x:=(x.set idn wd vl).1) (by omega) e2 (hs.eqv (e3.eqv ha hg) fun _ h=>h) (e3.apart ha hg) (hg.more e3) (by omega) (by omega);refine⟨hp',Fm',r,?_,q2,e3.trans q3,by omega,q5⟩;rw[←q1,aa];rw[he]at e1;clear q1 q2 q3 q4 q5 hdrop hgm hs h e2 e3;simp only[Rec.v,Sup.v,ac,Ent.v]at*;rw[hbv]at*;generalize tab 49 (fun j=>V.agg 42 [.int .i64 (t j).kind,.int .i64 (t j).ver,.int .i64 (t j).line])=T at*;simp only[go_sem,bS,d1,hsl,hsad,hf0,hf1,hf2,hf3,hld0,hld1,hld2,hld3,c1,c1',i1,i2];rw[Zh];simp only[go_sem,gt,c2,hsad,hf1,hf2,hf3,hld1,hld2,hld3,e1,d4,hlv1,z0,z1,z2,z3,hD7,hD8]
   ·rw[if_pos he];refine⟨hp1,F1,_,?_,e2,e3,by omega,.inr ⟨he,[.rw bm,.rw b.v,.rw (ac t),D7,D8],rfl⟩⟩;rw[aa];clear hdrop hgm hs h e2 e3;simp only[Rec.v,Sup.v,ac,Ent.v]at*;rw[hbv]at*;generalize tab 49 (fun j=>V.agg 42 [.int .i64 (t j).kind,.int .i64 (t j).ver,.int .i64 (t j).line])=T at*;simp only[go_sem,bS,d1,hsl,hsad,hf0,hf1,hf2,hf3,hld0,hld1,hld2,hld3,c1,c1',i1,i2];rw[Zh];simp only[go_sem,gt,c2,hsad,hf1,hf2,hf3,hld1,hld2,hld3,e1,he]
end
theorem IA (l:List Int) (j:Nat):(bV l j).line≤65536:=by
 unfold bV;split
 ·show(((l.getD j 0).toNat/268435456%65536:Nat):Int)≤65536;omega
 ·decide
theorem NA {l:List Int}(hw:∀x∈l,W64 x) {k:Nat}(hk:k<7):af l k≤4294967296:=by
 unfold af;split
 ·rename_i h;have h2:tV l 0 7=true:=by unfold eG at h;rw[Zj]at h;exact h.2
  have h3:rdv l k<1024:=by have:=(List.all_eq_true.1 h2) k (List.mem_range.2 hk);simpa using this
  have h4:=(Jx (Cd hw k)).2 h3;show IntKind.i64.wrap (rdv l k)≤_;unfold rdv at h3⊢;rw[h4]at h3⊢;rw[ae (by have:=Int.emod_nonneg (l.getD k 0) (show(4294967296:Int)≠0 by decide);omega) (by omega)];omega
 ·omega
section
variable {m : Nat} {F : Ft} {M : AM} {hp : List Blk}
theorem Lc {m:Nat}(L hp:List Blk) (X0 X1 X2 X3:Blk) (h0:∀n,bl n X0=true) (h1:∀n,bl n X1=true) (h2:∀n,bl n X2=true) (h3:∀n,bl n X3=true) (slot fr:Int) (d:Nat→Int):
 rc D L.length (.loop [0,2,4,5,6,8,9,10,11,12] fJ) [(0,.ptr (.hp m) [] 33),(2,.ptr (.loc L.length) [] 41),(4,.ptr (.loc (L.length+1)) [] 41),(5,.ptr (.loc (L.length+2)) [] 44),(6,.int .i64 slot),(8,.int .i64 fr),(9,.ptr (.loc (L.length+3)) [] 48),(10,.ptr (.loc (L.length+4)) [] 60),(11,.ptr (.loc (L.length+5)) [] 50),(12,.int .i64 0)] ⟨L++[X0,X1,X2,X3,.rw (d7V d),.rw (aM (aG d 0))],hp⟩=
  some (.exit 0,[(0,.ptr (.hp m) [] 33),(2,.ptr (.loc L.length) [] 41),(4,.ptr (.loc (L.length+1)) [] 41),(5,.ptr (.loc (L.length+2)) [] 44),(6,.int .i64 slot),(8,.int .i64 fr),(9,.ptr (.loc (L.length+3)) [] 48),(10,.ptr (.loc (L.length+4)) [] 60),(11,.ptr (.loc (L.length+5)) [] 50),(12,.int .i64 7),(54,.bool false)],⟨L++[X0,X1,X2,X3,.rw (d7V d),.rw (aM (aG d 7))],hp⟩):=by
 refine bC (fun i:Nat=>[(0,.ptr (.hp m) [] 33),(2,.ptr (.loc L.length) [] 41),(4,.ptr (.loc (L.length+1)) [] 41),(5,.ptr (.loc (L.length+2)) [] 44),(6,.int .i64 slot),(8,.int .i64 fr),(9,.ptr (.loc (L.length+3)) [] 48),(10,.ptr (.loc (L.length+4)) [] 60),(11,.ptr (.loc (L.length+5)) [] 50),(12,.int .i64 i)]) (fun i=>⟨L++[X0,X1,X2,X3,.rw (d7V d),.rw (aM (aG d i))],hp⟩) (fun _=>_) (fun i=>7-i) (fun i=>i≤7) 0 ?_ (by omega) rfl rfl;intro i hi;by_cases c1:i<7
 ·left;have dd1:(i:Int)<7:=by omega
  have d8:(i:Int)<8:=by omega
  have d0:(0:Int)≤i:=by omega
  have d4:IntKind.i64.wrap ((i:Int)+1)=((i+1:Nat):Int):=ae (by omega) (by omega);have g:=av (f:=fun j=>V.int .i64 (d j)) c1;have hu:=uk (f:=d) (n:=8) (i:=i);have gt:=av (f:=fun j=>V.int .i64 (aG d i j)) (show i<8 by omega);refine⟨i+1,by omega,by omega,rfl,?_⟩;have z0:L.length<L.length+6:=by omega
  have z1:L.length+1<L.length+6:=by omega
  have z2:L.length+2<L.length+6:=by omega
  have z3:L.length+3<L.length+6:=by omega
  have z4:L.length+4<L.length+6:=by omega
  have z5:L.length+5<L.length+6:=by omega
  simp only[d7V,aM]at*;rw[←hu];clear hu;generalize tab 8 (fun j=>V.int .i64 (aG d i j))=T at*;simp only[go_sem,fJ,dd1,d8,d0,Zh,g,gt,d4,z0,z1,z2,z3,z4,z5,h0,h1,h2,h3]
 ·right;have:i=7:=by omega
  subst this;simp only[d7V,aM];simp only[go_sem,fJ]
theorem xA (h:aV hp F m M) (hR:M.Rn) (hc:M.count+400<1000000) (L:List Blk):
 (M.bt.1=none∧∃hp' G',rf D dm [.ptr (.hp m) [] 33] ⟨L,hp⟩=some (.tup [bm,.int .i64 M.bt.2],⟨L,hp'⟩)∧Chg hp hp' (fun _=>False) G')∨
 ∃b slot A hp' Fm' a fr c,M.bt=(some (b,slot,A),0)∧dS hp' Fm' a m fr c (M.booted b A).1∧Chg hp hp' F (f8 a fr c Fm')∧
  rf D dm [.ptr (.hp m) [] 33] ⟨L,hp⟩=some (if(M.booted b A).2=0 then .tup [iS (.ptr (.hp a) [] 31) b.v slot (fI b.seq (M.recs b)+1),.int .i64 0]else .tup [bm,.int .i64 (M.booted b A).2],⟨L,hp'⟩):=by
 have hF:=fun L=>EX h (by omega) L;have hn0:bm= .agg 41 [.nilp,.agg 44 [.int .i64 0,.int .i64 0,.int .i64 0,.int .i64 0],.int .i64 0,.int .i64 0]:=rfl;obtain⟨k,k2,fk,fk2,n1,n2,n3,h1,h2,_⟩:=h.mb;simp only[rmV]at h1;unfold AM.bt;by_cases c0:M.off=true
 ·rw[if_pos c0];left;refine⟨rfl,hp,fun _=>False,?_,.refl _ _⟩;rw[c0,if_pos rfl]at hF;rw[hn0];simp only[Sup.v,dI]at hF;rw[ab dk rfl];simp only[go_sem,hF]
 ·rw[if_neg c0];rw[if_neg c0]at hF;have hoff:M.off=false:=by simpa using c0
  by_cases c1:(a9 (M.now 0) (M.now 1)).2.2=false
  ·rw[if_pos c1];left;refine⟨rfl,hp,fun _=>False,?_,.refl _ _⟩;rw[if_neg (by rw[c1];simp)]at hF;rw[hn0];simp only[Sup.v,dI]at hF;rw[ab dk rfl];simp only[go_sem,hF]
  ·rw[if_neg c1];have c1':(a9 (M.now 0) (M.now 1)).2.2=true:=by simpa using c1
   rw[if_pos c1']at hF;have hbk:=Ds c1';have hbr:=uT hbk;generalize hbest:a9 (M.now 0) (M.now 1)=z at*;obtain⟨b,slot,okb⟩:=z;simp only at hF hbk hbr;simp only;obtain⟨cn,hcn⟩:∃k:Nat,b.cores=k:=⟨b.cores.toNat,by omega⟩;have hFr:=fun s=>sG (c:=cn) (by omega) s;have hfr:(2:Int)+4*b.cores=((2+4*cn:Nat):Int):=by omega
   rw[show(2:Int)+4*(cn:Int)=((2+4*cn:Nat):Int) by omega]at hFr;rw[hfr];by_cases c2:(M.n:Int)<((2+4*cn:Nat):Int)
   ·rw[if_pos c2];left;refine⟨rfl,hp,fun _=>False,?_,.refl _ _⟩;rw[hn0];obtain⟨bg,br,bq,bc⟩:=b;simp only[Sup.v]at*;subst hcn;have c2':((2+4*cn:Nat):Int)>M.n:=c2;rw[ab dk rfl];simp only[go_sem,hF,hFr,h1,c2,c2']
   ·rw[if_neg c2];have c2':¬((2+4*cn:Nat):Int)>M.n:=c2;obtain⟨hp1,G1,hLd,g1⟩:=Fg h hR (by omega) (2+4*cn:Nat) b.root (by omega) (L++[.rw bm,.rw bm,.rw b.v]);rw[if_neg c0]at hLd;by_cases c3:mK M (2+4*cn:Nat) b.root=false
    ·rw[if_pos c3];rw[c3,if_neg (by simp)]at hLd;left;refine⟨rfl,hp1,G1,?_,g1⟩;have y1:(ac fun _=>an).tag=48:=rfl;have y2:(d7V fun _=>(0:Int)).tag=60:=rfl;generalize(ac fun _=>an)=T0 at*;generalize(d7V fun _=>(0:Int))=D0 at*;rw[hn0]at*;obtain⟨bg,br,bq,bc⟩:=b;simp only[Sup.v]at*;subst hcn;rw[ab dk rfl];simp only[go_sem,hF,hFr,h1,c2,c2',hLd,y1,y2]
    ·rw[if_neg c3];have c3':mK M (2+4*cn:Nat) b.root=true:=by simpa using c3
     rw[if_pos c3']at hLd;rw[Zh];have hM1:aV hp1 F m M:=h.chg g1 fun _ h=>h.elim;obtain⟨_,_,_,_,_,_,_,hm1,_⟩:=hM1.mb;have hI:InI (dz (ldT M (M.now b.root.toNat)) (d8 (M.now b.root.toNat) b.root)):=U6 (fun i _=>by have:=IA (M.now (af (M.now b.root.toNat) (i/7)).toNat) (i%7);show(bV _ _).line≤_;omega) fun i _=>by
      unfold d8;split
      ·have:=NA (hR b.root.toNat) ‹i<7›;omega
      ·omega
     generalize ht:ldT M (M.now b.root.toNat)=t at*;have hOf:=O5 (L++[.rw bm,.rw bm,.rw b.v,.rw (ac t),.rw (d7V (af (M.now b.root.toNat))),.rw (aM (d8 (M.now b.root.toNat) b.root))]) h.ok.n1 hm1 (2+4*cn:Nat) t (d8 (M.now b.root.toNat) b.root) hI;rw[Zh]at hOf;have hcp:=Lc (m:=m) L hp1 (.rw bm) (.rw bm) (.rw b.v) (.rw (ac t)) (fun n=>rfl) (fun n=>rfl) (fun n=>rfl) (fun n=>by simp only[bl,fV]) slot (2+4*cn:Nat) (af (M.now b.root.toNat));have hdz:∀f,aM (aG f 0)= .agg 50 (List.replicate 8 (.int .i64 0)):=fun f=>by unfold aM;rw[co];congr 1
     have g7:(tab 8 fun j=>V.int .i64 (aG (af (M.now b.root.toNat)) 7 j))[7]?=some (.int .i64 (aG (af (M.now b.root.toNat)) 7 7)):=av (by omega);have s7:(tab 8 fun j=>V.int .i64 (aG (af (M.now b.root.toNat)) 7 j)).set 7 (.int .i64 b.root)=tab 8 fun j=>V.int .i64 (d8 (M.now b.root.toNat) b.root j):=rfl;have y1:(ac t).tag=48:=rfl;have y2:(d7V (af (M.now b.root.toNat))).tag=60:=rfl;have y3:∀n,V.locLt n (ac t)=true:=fun n=>fV;have y4:∀n,V.locLt n (d7V (af (M.now b.root.toNat)))=true:=fun n=>sd;rw[hdz]at hcp;rcases hOf with⟨q,_⟩|⟨_,_,q,X2,e⟩|⟨_,_,A,X2,a,q,e,T1,T2,T3⟩
     ·exfalso;omega
     ·have q:(af0 (2+4*cn) M.n).takes (dz t (d8 (M.now b.root.toNat) b.root))=none:=q;rw[q];left;refine⟨rfl,hp1++X2,G1,?_,g1.trans (oW hp1 X2 G1)⟩;rw[hn0]at*;obtain⟨bg,br,bq,bc⟩:=b;simp only[Sup.v,d7V,aM]at*;subst hcn;generalize hTT:ac t=TT at*;rw[ab dk rfl];simp only[go_sem,hF,hFr,h1,c2,c2',hLd,y1,y2,hcp];simp only[go_sem,g7,s7,e]
      done
     ·have q:(af0 (2+4*cn) M.n).takes (dz t (d8 (M.now b.root.toNat) b.root))=some A:=q;rw[q];right;have hle2:2+4*cn≤M.n:=by omega
      have hM2:aV (hp1++X2) F m M:=hM1.chg (oW hp1 X2 fun _=>False) fun _ h=>h.elim;have hFa:∀j,hp1.length≤j→¬F j:=fun j hj hf=>by have:=hM1.inn j hf;omega
      have D0:dS (hp1++X2) F a m (hp1.length+1) hp1.length (M.st0 b A):=by
       have:M.st0 b A=as0 M A t (d8 (M.now b.root.toNat) b.root):=by unfold AM.st0;rw[ht]
       rw[this];exact⟨(Ir hM1.ok hle2 q).1,T1,T2,hM2,⟨by omega,by omega⟩,⟨hFa _ (by omega),hFa _ (by omega),hFa _ (by omega)⟩⟩
      have hlen:(bb M 2 (4*cn)).length≤32:=Nat.le_trans (qa M _ _) (by omega);have hcn2:b.cores.toNat=cn:=by omega
      obtain⟨hp3,G3,v3,e3,s3,g3,hinn⟩:=Fe hM2 hoff (by omega) (cores:=cn) (by omega) (by omega) hle2 (L++[.rw bm,.rw bm,.rw b.v,.rw (ac t),.rw (d7V (af (M.now b.root.toNat))),.rw (aM (d8 (M.now b.root.toNat) b.root))]);have hW3:dS hp3 F a m (hp1.length+1) hp1.length (M.st0 b A):=D0.chg g3 (fun _ h=>h.elim);have hrs:M.recs b=bD (bb M 2 (4*cn)):=by unfold AM.recs;rw[hcn2]
      have s3':SlR hp3 G3 54 56 v3 ((M.recs b).map Rec.v):=by rw[hrs];exact s3
      have hG3:∀j,G3 j→(hp1++X2).length≤j:=fun j hj=>(g3.new j hj).resolve_left fun h=>h;have hap:fG (f8 a (hp1.length+1) hp1.length F) G3:=fun j h1 h2=>by have h3:=hG3 j h2;have h4:=D0.inn j h1;omega
      obtain⟨hp4,F4,r,q1,q2,q3,q4,q5⟩:=xu (b:=b) (t:=t) (rs:=M.recs b) (by intro r hr;rw[hrs]at hr;exact qV M _ _ r (mM.1 hr)) (by rw[hrs,dH];omega) slot v3 L (.rw (d7V (af (M.now b.root.toNat)))) (.rw (aM (d8 (M.now b.root.toNat) b.root))) y4 (fun n=>Dj (n:=n) (d:=d8 (M.now b.root.toNat) b.root)) (M.recs b).length 0 (last:=b.seq) (by omega) hW3 s3' hap hinn (by rw[hrs,dH];have:(M.st0 b A).M=M:=rfl;rw[this];omega) hbr.2.2.1
      rw[List.drop_zero]at q2 q4 q5;rw[show((0:Nat):Int)=0 from rfl]at q1
      have hbt:cU b.seq t (M.st0 b A) (M.recs b)=M.booted b A:=by unfold AM.booted;rw[ht]
      rw[hbt]at q2 q4 q5;have hgg:Chg hp hp4 F (f8 a (hp1.length+1) hp1.length F4):=by
       have c1:Chg hp (hp1++X2) F (f8 a (hp1.length+1) hp1.length F):=by
        have hl1:=g1.le;refine⟨by rw[List.length_append];omega,fun j hj _=>by rw[List.getElem?_append_left (by omega)];exact g1.old j hj (fun h=>h),fun j hj=> ?_⟩;rcases hj with rfl|rfl|rfl|hj
        ·right;omega
        ·right;omega
        ·right;omega
        ·exact .inl hj
       have c2:Chg (hp1++X2) hp3 (f8 a (hp1.length+1) hp1.length F) (f8 a (hp1.length+1) hp1.length F):=g3.mono (fun _ h=>h.elim) fun _ h=> .inr h;exact(c1.trans c2).trans q3
      refine⟨b,slot,A,hp4,F4,a,_,_,rfl,q2,hgg,?_⟩;have hsl:V.slen false v3=some (M.recs b).length:=by
       have:=s3'.slen
       rwa [List.length_map]at this
      have hrsok:∀r∈M.recs b,r.ok=true:=fun r hr=>by rw[hrs]at hr;exact qV M _ _ r (mM.1 hr)
      have hla:=u7 (M.recs b) (s:=b.seq) hrsok hbr.2.2.1;have w9:IntKind.i64.wrap (fI b.seq (M.recs b)+1)=fI b.seq (M.recs b)+1:=ae (by omega) (by omega);have v3o:=s3.ok;have v3t:=s3.tag;have v3l:∀n,V.locLt n v3=true:=fun n=>s3.ltb;clear q2 q3 q4 D0 T1 T2 hW3 s3 s3' g3 hinn hap hG3 hgg hrsok hM1 hM2 h g1;generalize hp1++X2=H2 at*;obtain⟨bg,br,bq,bc⟩:=b;simp only[Sup.v,d7V,aM]at*;subst hcn;rw[hn0]at*;generalize hTT:ac t=TT at*;generalize(M.recs ⟨bg,br,bq,cn⟩)=rs at*;generalize fI bq rs=la at*;generalize M.booted ⟨bg,br,bq,cn⟩ A=bt at*;rw[ab dk rfl];simp only[go_sem,hF,hFr,h1,c2,c2',hLd,y1,y2,hcp];simp only[go_sem,g7,s7,e];rcases q5 with⟨z,rfl⟩|⟨z,X,rfl⟩
      ·rw[if_pos z];simp only[go_sem,e3,hsl];simp only[go_sem,q1,iS,w9];rw[if_pos z]
      ·rw[if_neg z];simp only[go_sem,e3,hsl];simp only[go_sem,q1];rw[if_neg z]
end
end Go.Proofs.YtilcajpldklbiaaGreatDoor
