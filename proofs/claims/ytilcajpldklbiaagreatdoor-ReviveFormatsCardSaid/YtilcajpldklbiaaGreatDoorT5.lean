/-
  YtilcajpldklbiaaGreatDoorT5: what functions of the program compute (CrcB, RadC, DurA, LodA, LodB, LodC, SupB, MemC, DurB, DurC, DurD, DurE, DurF, DurG, DurH, DurI, ObjD, FraQ, SofB, StoN, ObjE, LobH, MemN, StoD, StoE, StoF, StoG, StoH, RefE, MemT, MemU, RefF).
-/
import Derived.Test.YtilcajpldklbiaaGreatDoorT4
import Derived.Test.YtilcajpldklbiaaGreatDoorT2
import Derived.Test.YtilcajpldklbiaaGreatDoorT3
import Derived.Test.YtilcajpldklbiaaGreatDoorT1
set_option maxRecDepth 100000
namespace Go.Proofs.YtilcajpldklbiaaGreatDoor
open Go.Ab
theorem vS {k:IntKind}:∀{A B:List Int},A.length=B.length→dL (A.map (.int k)) (B.map (.int k))=some (decide (A=B))
 |[],[],_=>by simp[dL]
 |a::A,b::B,h=>by
  have ih:=vS (k:=k) (A:=A) (B:=B) (by simpa using h);simp only[List.map_cons,dL,veq,if_true,ih];by_cases hab:a=b
  ·subst hab;simp
  ·simp[hab]
 |[],_::_,h=>by simp at h
 |_::_,[],h=>by simp at h
theorem us {a b:List Int}(h:a.length=b.length):veq (.agg 24 (a.map (.int .u64))) (.agg 24 (b.map (.int .u64)))=some (decide (a=b)):=by
 have:=vS (k:= .u64) h;show(if 24=24 then dL _ _ else none)=_
 rw[if_pos rfl];exact this
theorem An {l:List Int}(hl:l.length=8) (s:St):rf D wJ [lnV l] s=some (.bool (decide (l=a7 l)),s):=by have hs:=fun s=>oF hl s;have he:=us (a:=l) (b:=a7 l) (by rw[pr]);simp only[lnV]at*;generalize a7 l=Z at*;rw[ab Lh rfl];simp only[go_sem,hs,he]
def c6 (w:Nat):Ent:=⟨(w%16:Nat),(w/16%16777216:Nat),(w/268435456%65536:Nat)⟩
def oI (w:Nat):Bool:=cj (c6 w)&&decide (nF (c6 w)=w)
theorem uV {a b:Nat}(hb:1≤b) (hab:a+b≤63) (hm:18446744073709551615/2^(64-b)=2^b-1) (hb2:b≤40) {L hp:List Blk}{w:Nat}(h7:w<18446744073709551616) (X:List Blk):
 rf D j9 [.int .i64 a,.int .i64 b,.ptr (.loc L.length) [] 18] ⟨L++ .rw (.int .u64 w)::X,hp⟩=some (.int .i64 (w/2^a%2^b:Nat),⟨L++ .rw (.int .u64 w)::X,hp⟩):=by
 have hf:=fun s=>Nq (w:=w) hb (show a+b≤64 by omega) h7 hm s;have hlt:w/2^a%2^b<2^40:=Nat.lt_of_lt_of_le (Nat.mod_lt _ (Nat.two_pow_pos b)) (Nat.pow_le_pow_right (by decide) hb2);have e1:IntKind.i64.wrap ((w/2^a%2^b:Nat):Int)=(w/2^a%2^b:Nat):=ae (by omega) (by omega);generalize w/2^a%2^b=z at*;have hrd:(L++ .rw (.int .u64 w)::X)[L.length]?=some (.rw (.int .u64 w)):=by rw[List.getElem?_append_right (Nat.le_refl _),Nat.sub_self];rfl
 generalize L++ .rw (.int .u64 w)::X=L2 at*;rw[ab Hb rfl];simp only[go_sem,hrd,hf,e1]
theorem IP {w:Nat}(hw:w<18446744073709551616) (s:St):rf D sZ [.int .u64 w] s=some (.tup [if oI w=true then(c6 w).v else an.v,.bool (oI w)],s):=by
 have f1:=fun X=>uV (a:=0) (b:=4) (by decide) (by decide) (by decide) (by decide) (L:=s.loc) (hp:=s.hp) hw X;have f2:=fun X=>uV (a:=4) (b:=24) (by decide) (by decide) (by decide) (by decide) (L:=s.loc) (hp:=s.hp) hw X;have f3:=fun X=>uV (a:=28) (b:=16) (by decide) (by decide) (by decide) (by decide) (L:=s.loc) (hp:=s.hp) hw X;simp only[show w/2^0%2^4=w%16 by omega,show w/2^4%2^24=w/16%16777216 by omega,show w/2^28%2^16=w/268435456%65536 by omega]at f1 f2 f3;unfold oI;have key:∀k v l:Int,c6 w=⟨k,v,l⟩→(∀X,rf D j9 [.int .i64 0,.int .i64 4,.ptr (.loc s.loc.length) [] 18] ⟨s.loc++ .rw (.int .u64 w)::X,s.hp⟩=some (.int .i64 k,⟨s.loc++ .rw (.int .u64 w)::X,s.hp⟩))→
  (∀X,rf D j9 [.int .i64 4,.int .i64 24,.ptr (.loc s.loc.length) [] 18] ⟨s.loc++ .rw (.int .u64 w)::X,s.hp⟩=some (.int .i64 v,⟨s.loc++ .rw (.int .u64 w)::X,s.hp⟩))→
  (∀X,rf D j9 [.int .i64 28,.int .i64 16,.ptr (.loc s.loc.length) [] 18] ⟨s.loc++ .rw (.int .u64 w)::X,s.hp⟩=some (.int .i64 l,⟨s.loc++ .rw (.int .u64 w)::X,s.hp⟩))→
  rf D sZ [.int .u64 w] s=some (.tup [if(cj (c6 w)&&decide (nF (c6 w)=w))=true then(c6 w).v else an.v,.bool (cj (c6 w)&&decide (nF (c6 w)=w))],s):=by
  intro k v l he f1 f2 f3;have hW:=fun s=>xR (c6 w) s;unfold Dk at hW;rw[he]at hW⊢;cases hb:cj ⟨k,v,l⟩with
  |false=>
   rw[hb]at hW;simp only[Bool.false_eq_true,if_false,Bool.false_and,Ent.v,an]at hW⊢;rw[ab BH rfl];simp only[go_sem,f1,f2,f3,hW]
  |true=>
   rw[hb]at hW;simp only[if_true,Bool.true_and,Ent.v,an]at hW⊢;generalize nF ⟨k,v,l⟩=z at*;rw[ab BH rfl];by_cases hzw:z=(w:Int)
   ·simp only[go_sem,f1,f2,f3,hW,hzw]
   ·simp only[go_sem,f1,f2,f3,hW,hzw]
 exact key _ _ _ rfl f1 f2 f3
def rdv (l:List Int) (j:Nat):Int:=gA .u64 (l.getD j 0) 4294967296
def rdN (l:List Int) (j:Nat):Int:=IntKind.i64.wrap (rdv l j)
def tV (l:List Int) (i n:Nat):Bool:=(List.range n).all fun j=>decide (rdv l (i+j)<1024)
theorem Ni (l:List Int) (i n:Nat):tV l i (n+1)=(decide (rdv l i<1024)&&tV l (i+1) n):=by
 have e:(fun j=>decide (rdv l (i+j)<1024))∘Nat.succ=fun j=>decide (rdv l (i+1+j)<1024):=by funext j;show decide (rdv l (i+(j+1))<1024)=_;rw[show i+(j+1)=i+1+j by omega]
 unfold tV;rw[List.range_succ_eq_map,List.all_cons,List.all_map,e];rfl
def aG (f:Nat→Int) (i j:Nat):Int:=if j<i then f j else 0
theorem uk {f:Nat→Int}{n i:Nat}:(tab n fun j=>V.int .i64 (aG f i j)).set i (.int .i64 (f i))=tab n fun j=> .int .i64 (aG f (i+1) j):=by
 rw[dg];apply bp;intro j _;unfold upd aG;by_cases e:j=i
 ·subst e;rw[if_pos rfl,if_pos (by omega)]
 ·rw[if_neg e];show V.int _ _=V.int _ _;by_cases h:j<i
  ·rw[if_pos h,if_pos (by omega)]
  ·rw[if_neg h,if_neg (by omega)]
theorem tw {f:Nat→Int}:d7V (aG f 0)= .agg 60 (List.replicate 7 (.int .i64 0)):=by unfold d7V;rw[co];congr 1
theorem Am {l:List Int}(hl:l.length=8) (L hp:List Blk):∀(n i:Nat),i+n=7→∃r,
 rc D L.length (.loop [1,2,4,11] gh) [(1,.ptr (.loc L.length) [] 24),(2,.ptr (.loc (L.length+1)) [] 60),(4,.ptr (.loc (L.length+2)) [] 60),(11,.int .i64 i)] ⟨L++[.rw (lnV l),.rw (d7V (aG (rdN l) 0)),.rw (d7V (aG (rdN l) i))],hp⟩=some r∧
 ((tV l i n=true∧r=(.exit 0,[(1,.ptr (.loc L.length) [] 24),(2,.ptr (.loc (L.length+1)) [] 60),(4,.ptr (.loc (L.length+2)) [] 60),(11,.int .i64 7),(12,.bool false)],⟨L++[.rw (lnV l),.rw (d7V (aG (rdN l) 0)),.rw (d7V (aG (rdN l) 7))],hp⟩))∨
  (tV l i n=false∧∃X,r=(.ret,[(2,.ptr (.loc (L.length+1)) [] 60),(3,.bool false)],⟨L++[.rw (lnV l),.rw (d7V (aG (rdN l) 0)),X],hp⟩)))
 |0,i,hi=>by
  have:i=7:=by omega
  subst this;refine⟨_,?_,.inl ⟨rfl,rfl⟩⟩;rw[aa];simp only[d7V,lnV];simp only[go_sem,gh]
 |n+1,i,hi=>by
  have d1:(i:Int)<7:=by omega
  have d2:(0:Int)≤i:=by omega
  have d3:(i:Int)<8:=by omega
  have d4:IntKind.i64.wrap ((i:Int)+1)=((i+1:Nat):Int):=ae (by omega) (by omega);have g1:=av (f:=fun j=>V.int .i64 (aG (rdN l) i j)) (show i<7 by omega);have g2:(l.map (V.int .u64))[i]?=some (.int .u64 (l.getD i 0)):=am (by omega) 0;have z1:L.length<L.length+3:=by omega
  have z3:L.length+1<L.length+3:=by omega
  have z4:L.length+2<L.length+3:=by omega
  have hs:=uk (f:=rdN l) (n:=7) (i:=i);have hr:gA .u64 (l.getD i 0) 4294967296=rdv l i:=rfl;have hN:rdN l i=IntKind.i64.wrap (rdv l i):=rfl;rw[Ni];by_cases h1:rdv l i<1024
  ·obtain⟨r,q1,q2⟩:=Am hl L hp n (i+1) (by omega);refine⟨r,?_,by rw[decide_eq_true h1];exact q2⟩;have h1':¬rdv l i≥1024:=by omega
   rw[←q1,aa];simp only[d7V,lnV]at*;rw[←hs,hN];generalize(tab 7 fun j=>V.int .i64 (aG (rdN l) i j))=T at*;generalize(tab 7 fun j=>V.int .i64 (aG (rdN l) 0 j))=T0 at*;generalize l.getD i 0=w0 at*;generalize rdv l i=x at*;simp only[go_sem,gh,d1,d2,d3,d4,Zh,g1,g2,hr,h1',z1,z3,z4]
  ·refine⟨_,?_,.inr ⟨by rw[decide_eq_false h1];rfl,.rw (d7V (aG (rdN l) i)),rfl⟩⟩;have h1':rdv l i≥1024:=by omega
   rw[aa];simp only[d7V,lnV]at*;generalize(tab 7 fun j=>V.int .i64 (aG (rdN l) i j))=T at*;generalize(tab 7 fun j=>V.int .i64 (aG (rdN l) 0 j))=T0 at*;generalize l.getD i 0=w0 at*;generalize rdv l i=x at*;simp only[go_sem,gh,d1,d2,d3,Zh,g2,hr,h1',z1,z3,z4]
def eG (l:List Int):Bool:=decide (l=a7 l)&&tV l 0 7
def af (l:List Int) (j:Nat):Int:=if eG l=true then rdN l j else 0
theorem IZ {l:List Int}(hl:l.length=8) (s:St):rf D oX [lnV l] s=some (.tup [d7V (af l),.bool (eG l)],s):=by
 have hg:=fun s=>An hl s;have hfin:d7V (aG (rdN l) 7)=d7V (rdN l):=by unfold d7V;congr 1
 have hzero:d7V (aG (rdN l) 0)=d7V (fun _=>0):=by unfold d7V;congr 1
 obtain⟨r,q1,q2⟩:=Am hl s.loc s.hp 7 0 rfl;rw[show((0:Nat):Int)=0 from rfl]at q1
 rw[show d7V (af l)=if eG l=true then d7V (rdN l)else d7V (fun _=>0) by unfold d7V af;split<;>rfl]
 unfold eG;by_cases c0:l=a7 l
 ·rw[decide_eq_true c0]at hg⊢;rw[Bool.true_and];rcases q2 with⟨c,rfl⟩|⟨c,X,rfl⟩
  ·rw[c,if_pos rfl,←hfin];rw[tw]at q1;simp only[lnV]at*;have hz:(d7V fun _=>(0:Int))= .agg 60 (List.replicate 7 (.int .i64 0)):=by unfold d7V;rw[co]
   simp only[d7V]at*;rw[ab oN rfl];simp only[go_sem,hg,q1]
  ·rw[c,if_neg (by simp),←hzero];rw[tw]at*;simp only[lnV]at*;rw[ab oN rfl];simp only[go_sem,hg,q1]
 ·rw[decide_eq_false c0]at hg⊢;rw[Bool.false_and,if_neg (by simp),←hzero,tw];simp only[lnV]at*;rw[ab oN rfl];simp only[go_sem,hg]
def sD (w:Int):Ent:=c6 w.toNat
def rdl (l:List Int) (j:Nat):Bool:=oI (l.getD j 0).toNat
def u9 (l:List Int) (i n:Nat):Bool:=(List.range n).all fun j=>rdl l (i+j)
theorem ET (l:List Int) (i n:Nat):u9 l i (n+1)=(rdl l i&&u9 l (i+1) n):=by
 have e:(fun j=>rdl l (i+j))∘Nat.succ=fun j=>rdl l (i+1+j):=by funext j;show rdl l (i+(j+1))=_;rw[show i+(j+1)=i+1+j by omega]
 unfold u9;rw[List.range_succ_eq_map,List.all_cons,List.all_map,e];rfl
def lvE (l:List Int) (i j:Nat):Ent:=if j<i then sD (l.getD j 0)else an
def lvV (f:Nat→Ent):V:= .agg 94 (tab 7 fun j=>(f j).v)
theorem J6 {l:List Int}{i:Nat}:(tab 7 fun j=>(lvE l i j).v).set i (sD (l.getD i 0)).v=tab 7 fun j=>(lvE l (i+1) j).v:=by
 rw[dg];apply bp;intro j _;unfold upd lvE;by_cases e:j=i
 ·subst e;rw[if_pos rfl,if_pos (by omega)]
 ·rw[if_neg e];show Ent.v _=Ent.v _;by_cases h:j<i
  ·rw[if_pos h,if_pos (by omega)]
  ·rw[if_neg h,if_neg (by omega)]
theorem rp {l:List Int}:lvV (lvE l 0)= .agg 94 (List.replicate 7 (.agg 42 [.int .i64 0,.int .i64 0,.int .i64 0])):=by unfold lvV;rw[co];congr 1
theorem Ah {l:List Int}(hl:l.length=8) (hw:∀x∈l,0≤x∧x<18446744073709551616) (L hp:List Blk):∀(n i:Nat),i+n=7→∃r,
 rc D L.length (.loop [1,2,4,10] gn) [(1,.ptr (.loc L.length) [] 24),(2,.ptr (.loc (L.length+1)) [] 94),(4,.ptr (.loc (L.length+2)) [] 94),(10,.int .i64 i)] ⟨L++[.rw (lnV l),.rw (lvV (lvE l 0)),.rw (lvV (lvE l i))],hp⟩=some r∧
 ((u9 l i n=true∧r=(.exit 0,[(1,.ptr (.loc L.length) [] 24),(2,.ptr (.loc (L.length+1)) [] 94),(4,.ptr (.loc (L.length+2)) [] 94),(10,.int .i64 7),(11,.bool false)],⟨L++[.rw (lnV l),.rw (lvV (lvE l 0)),.rw (lvV (lvE l 7))],hp⟩))∨
  (u9 l i n=false∧∃X,r=(.ret,[(2,.ptr (.loc (L.length+1)) [] 94),(3,.bool false)],⟨L++[.rw (lnV l),.rw (lvV (lvE l 0)),X],hp⟩)))
 |0,i,hi=>by
  have:i=7:=by omega
  subst this;refine⟨_,?_,.inl ⟨rfl,rfl⟩⟩;rw[aa];simp only[lvV,lnV];simp only[go_sem,gn]
 |n+1,i,hi=>by
  have d1:(i:Int)<7:=by omega
  have d2:(0:Int)≤i:=by omega
  have d3:(i:Int)<8:=by omega
  have d4:IntKind.i64.wrap ((i:Int)+1)=((i+1:Nat):Int):=ae (by omega) (by omega);have g1:=av (f:=fun j=>(lvE l i j).v) (show i<7 by omega);have g2:(l.map (V.int .u64))[i]?=some (.int .u64 (l.getD i 0)):=am (by omega) 0;have hwi:=hw (l.getD i 0) (by rw[List.getD_eq_getElem?_getD,List.getElem?_eq_getElem (by omega)];exact List.getElem_mem _);have he:=fun s=>IP (w:=(l.getD i 0).toNat) (by omega) s;rw[show(((l.getD i 0).toNat:Nat):Int)=l.getD i 0 by omega]at he;have z1:L.length<L.length+3:=by omega
  have z3:L.length+1<L.length+3:=by omega
  have z4:L.length+2<L.length+3:=by omega
  have hs:=J6 (l:=l) (i:=i);rw[ET];have hb:oI (l.getD i 0).toNat=rdl l i:=rfl;rw[hb]at he;cases hc:rdl l i with
  |true=>
   obtain⟨r,q1,q2⟩:=Ah hl hw L hp n (i+1) (by omega);refine⟨r,?_,by rw[Bool.true_and];exact q2⟩;rw[hc,if_pos rfl,show c6 (l.getD i 0).toNat=sD (l.getD i 0)from rfl]at he
   rw[←q1,aa];simp only[lvV,lnV]at*;rw[←hs];generalize hE:sD (l.getD i 0)=E at*;generalize hE0:lvE l i i=E0 at*;obtain⟨a1,a2,a3⟩:=E;obtain⟨b1,b2,b3⟩:=E0;generalize(tab 7 fun j=>(lvE l i j).v)=T at*;generalize(tab 7 fun j=>(lvE l 0 j).v)=T0 at*;generalize l.getD i 0=w0 at*;simp only[Ent.v]at*;simp only[go_sem,gn,d1,d2,d3,d4,Zh,g1,g2,he,z1,z3,z4]
  |false=>
   rw[hc,if_neg (by simp)]at he;refine⟨_,?_,.inr ⟨by rw[Bool.false_and],.rw (.agg 94 ((tab 7 fun j=>(lvE l i j).v).set i an.v)),rfl⟩⟩;rw[aa];simp only[lvV,lnV]at*;generalize hE0:lvE l i i=E0 at*;obtain⟨b1,b2,b3⟩:=E0;generalize(tab 7 fun j=>(lvE l i j).v)=T at*;generalize(tab 7 fun j=>(lvE l 0 j).v)=T0 at*;generalize l.getD i 0=w0 at*;simp only[Ent.v,an]at*;simp only[go_sem,gn,d1,d2,d3,d4,Zh,g1,g2,he,z1,z3,z4]
def ef (l:List Int):Bool:=decide (l=a7 l)&&u9 l 0 7
def bV (l:List Int) (j:Nat):Ent:=if ef l=true then sD (l.getD j 0)else an
theorem IG {l:List Int}(hl:l.length=8) (hw:∀x∈l,0≤x∧x<18446744073709551616) (s:St):rf D oO [lnV l] s=some (.tup [lvV (bV l),.bool (ef l)],s):=by
 have hg:=fun s=>An hl s;have hfin:lvV (lvE l 7)=lvV (fun j=>sD (l.getD j 0)):=by unfold lvV;congr 1
 have hzero:lvV (lvE l 0)=lvV (fun _=>an):=by unfold lvV;congr 1
 obtain⟨r,q1,q2⟩:=Ah hl hw s.loc s.hp 7 0 rfl;rw[show((0:Nat):Int)=0 from rfl]at q1
 rw[show lvV (bV l)=if ef l=true then lvV (fun j=>sD (l.getD j 0))else lvV (fun _=>an) by unfold lvV bV;split<;>rfl]
 unfold ef;by_cases c0:l=a7 l
 ·rw[decide_eq_true c0]at hg⊢;rw[Bool.true_and];rcases q2 with⟨c,rfl⟩|⟨c,X,rfl⟩
  ·rw[c,if_pos rfl,←hfin];rw[rp]at q1;simp only[lnV]at*;have hz:lvV (fun _=>an)= .agg 94 (List.replicate 7 (.agg 42 [.int .i64 0,.int .i64 0,.int .i64 0])):=by rw[←hzero,rp]
   simp only[lvV]at*;rw[ab oS rfl];simp only[go_sem,hg,q1]
  ·rw[c,if_neg (by simp),←hzero];rw[rp]at*;simp only[lnV]at*;rw[ab oS rfl];simp only[go_sem,hg,q1]
 ·rw[decide_eq_false c0]at hg⊢;rw[Bool.false_and,if_neg (by simp),←hzero,rp];simp only[lnV]at*;rw[ab oS rfl];simp only[go_sem,hg]
structure Sm (M M':AM) (j:Nat):Prop where
 L:M'.L j=M.L j
 S:M'.S j=M.S j
theorem Sm.refl (M:AM) (j:Nat):Sm M M j:=⟨rfl,rfl⟩
theorem Sm.trans {M M' M'':AM}{j:Nat}(h:Sm M M' j) (h':Sm M' M'' j):Sm M M'' j:=⟨h'.L.trans h.L,h'.S.trans h.S⟩
theorem Sm.now {M M':AM}{j:Nat}(h:Sm M M' j):M'.now j=M.now j:=by unfold AM.now;rw[h.L,h.S]
def Sur (M:AM) (j:Nat):Prop:=M.L j=[]
def Fl (M:AM) (j:Nat):Prop:=flN 0 (M.L j)=(M.L j).length
theorem Sur.fl {M:AM}{j:Nat}(h:Sur M j):Fl M j:=by unfold Fl;rw[h];rfl
theorem Sur.now {M:AM}{j:Nat}(h:Sur M j):M.now j=M.S j:=by unfold AM.now;rw[h];rfl
theorem Sm.sur {M M':AM}{j:Nat}(h:Sm M M' j) (hs:Sur M j):Sur M' j:=h.L.trans hs
theorem Sm.fl {M M':AM}{j:Nat}(h:Sm M M' j) (hs:Fl M j):Fl M' j:=by unfold Fl;rw[h.L];exact hs
theorem CD {M:AM}{j:Nat}:Sm M M.out j:=⟨rfl,rfl⟩
theorem rk {M:AM}{i q v:Int}{j:Nat}(h:j≠i.toNat):Sm M (M.store i q v).1 j:=by
 unfold AM.store;split
 ·exact .refl _ _
 ·split
  ·exact CD
  ·exact⟨by simp only[AM.push,AM.stepped];exact aw h,rfl⟩
theorem ni {at':Int}{l:List Int}{j:Nat}(h:j≠at'.toNat):∀(n i:Nat) (M:AM),Sm M (M.layFrom at' l i n).1 j
 |0,_,M=> .refl M j
 |n+1,i,M=>by
  unfold AM.layFrom;split
  ·exact rk h
  ·exact(rk h).trans (ni h n (i+1) _)
theorem FT {M:AM}{c i:Int}{j:Nat}(h:j≠i.toNat):Sm M (M.flush c i).1 j:=by
 unfold AM.flush;split
 ·exact .refl _ _
 ·split
  ·exact CD
  ·exact⟨by simp only[AM.flushed,AM.stepped];exact aw h,rfl⟩
theorem HZ {M:AM}{i n j:Nat}(h:j≠i):Sm M (M.sureN i n) j:=⟨by simp only[AM.sureN];exact aw h,by simp only[AM.sureN];exact aw h⟩
theorem vj {M:AM}{c j:Nat}:∀i,i≤j→Sm M (M.fencedTo c i) j
 |0,_=> .refl M j
 |i+1,h=>(vj i (by omega)).trans (HZ (by omega))
theorem rH {M:AM}{c j:Nat}:∀i,j<i→(M.fencedTo c i).L j=(M.L j).drop (flN c (M.L j))∧(M.fencedTo c i).S j=au (M.S j) ((M.L j).take (flN c (M.L j)))
 |0,h=>by omega
 |i+1,h=>by
  by_cases e:j=i
  ·subst e;have hs:=vj (M:=M) (c:=c) (j:=j) j (Nat.le_refl _);simp only[AM.fencedTo,AM.sureN,al,hs.L,hs.S,and_self]
  ·have:=rH (M:=M) (c:=c) i (show j<i by omega);have h2:=HZ (M:=M.fencedTo c i) (n:=flN c ((M.fencedTo c i).L i)) e;exact⟨h2.L.trans this.1,h2.S.trans this.2⟩
theorem CC {M:AM}{c i j:Nat}(h:Sur M j):Sm M (M.fencedTo c i) j:=by
 by_cases hj:j<i
 ·have:=rH (M:=M) (c:=c) i hj;have e:M.L j=[]:=h;rw[e]at this;exact⟨by rw[e];exact this.1,this.2⟩
 ·exact vj i (by omega)
theorem Mr {M:AM}{i j:Nat}(h:Fl M j) (hj:j<i):Sur (M.fencedTo 0 i) j:=by
 have:=(rH (M:=M) (c:=0) i hj).1;rw[show flN 0 (M.L j)=(M.L j).length from h,List.drop_length]at this
 exact this
theorem Bg {M:AM}{c:Int}{j:Nat}(h:Sur M j):Sm M (M.fence c).1 j:=by
 unfold AM.fence;split
 ·exact .refl _ _
 ·split
  ·exact CD
  ·have h2:Sur M.stepped j:=h;exact Sm.trans (M':=M.stepped) ⟨rfl,rfl⟩ (CC h2)
theorem BQ {M:AM}{i:Nat}:Fl (M.flushed 0 i) i:=by unfold Fl AM.flushed;simp only[al,CF,List.length_map]
structure Kp (x:AS) (j:Nat):Prop where
 k:j<x.A.f∨(x.A.st j=1∧(x.sh j=true∨aT x.work j=false))
theorem Nw {x:AS}(h:x.A.Ok) {l:List Int}{j:Nat}(hj:j<x.A.f∨x.A.st j=1):Sm x.M (x.lay l).1.M j:=by
 unfold AS.lay;split
 ·exact .refl _ _
 ·cases hf:x.A.first with
  |none=>
   rename_i hne;have ha:x.A.alloc=(x.A,0,10):=by unfold AF.alloc;rw[hf]
   rw[ha]at hne;simp at hne
  |some k=>
   obtain⟨h1,h2,h3,_⟩:=nc h hf;have ha:x.A.alloc=(x.A.put k 1,(k:Int),0):=by unfold AF.alloc;rw[hf]
   rw[ha];simp only;refine ni ?_ 8 0 x.M;rw[Zh];rintro rfl;rcases hj with hj|hj
   ·omega
   ·rw[h3]at hj;cases hj
theorem Kp.one {x:AS}{j:Nat}(h:Kp x j):j<x.A.f∨x.A.st j=1:=h.k.imp id fun h=>h.1
theorem Nz {x:AS}(h:Inv x) {id word v:Int}{j:Nat}(hj:Kp x j):Sm x.M (x.set id word v).1.M j:=by
 unfold AS.set;split
 ·exact .refl _ _
 ·rename_i hid;split
  ·exact .refl _ _
  ·rename_i hk;split
   ·rename_i ho;refine rk (fun e=> ?_);have hi:id.toNat<49:=by omega
    obtain⟨q,hq,h1,_,_⟩:=h.ln hi hk;rw[hq,Zh]at e;unfold AS.own at ho;rw[hq,Zh,←e,Bool.not_eq_true']at ho;rcases hj.k with hj|⟨_,hj⟩
    ·omega
    ·rw[ho,bx.2 ⟨id.toNat,hi,hk,by rw[e];exact hq⟩]at hj;rcases hj with hj|hj<;>cases hj
   ·split
    ·exact .refl _ _
    ·split
     ·exact .refl _ _
     ·simp only;split
      ·exact Nw h.ok.A hj.one
      ·exact Nw h.ok.A hj.one
theorem Stp.kp {x y:AS}(h:Stp x y) {j:Nat}(hj:Kp x j):Kp y j:=by
 have hsh:=Tr h.base h.mark h.is;rcases hj.k with hj|⟨h1,h2⟩
 ·exact⟨.inl (by rw[h.fl.1];exact hj)⟩
 ·by_cases hs:x.sh j=true
  ·exact⟨.inr ⟨h.sh j hs,.inl (by rw[hsh];exact hs)⟩⟩
  ·obtain⟨g1,g2⟩:=h.st j h1 (h2.resolve_left hs);exact⟨.inr ⟨g1,.inr g2⟩⟩
def onc (n:Nat) (from':Int) (ks:List Int) (line:Int):Bool:=decide (from'≤line)&&(decide (0≤line)&&(decide (line<n)&& !decide (line∈ks)))
theorem Du {hp:List Blk}{F:Ft}{m:Nat}{M:AM}(h:aI hp F m M) {i:Nat}{ks:List Int}(hk:hp[i]?=some (.mp ks)) (fr line:Int) {L:List Blk}{p:Nat}(hp':L[p]?=some (.rw (.agg 73 [.ptr (.hp m) [] 59,.int .i64 fr,.mp (some i)]))):
 rf D mh [.ptr (.loc p) [] 73,.int .i64 line] ⟨L,hp⟩=some (.bool (onc M.n fr ks line),⟨L,if onc M.n fr ks line=true then hp.set i (.mp (ks++[line]))else hp⟩):=by
 have hl:=rK h;unfold onc;rw[ab yf rfl];by_cases c1:line<fr
 ·rw[decide_eq_false (show¬fr≤line by omega)];simp only[go_sem,hp',c1]
 ·rw[decide_eq_true (show fr≤line by omega)];by_cases c2:line<0
  ·rw[decide_eq_false (show¬0≤line by omega)];simp only[go_sem,hp',c1,c2]
  ·rw[decide_eq_true (show 0≤line by omega)];by_cases c3:line≥M.n
   ·rw[decide_eq_false (show¬line<(M.n:Int) by omega)];simp only[go_sem,hp',c1,c2,c3,hl]
   ·rw[decide_eq_true (show line<(M.n:Int) by omega)];by_cases c4:line∈ks
    ·rw[decide_eq_true c4];simp only[go_sem,hp',c1,c2,c3,hl,hk,c4]
    ·rw[decide_eq_false c4];simp only[go_sem,hp',c1,c2,c3,hl,hk,c4]
theorem KG {f g:Nat→V}{k:Nat}(hk:k<7):(tab 49 f).take (7*k)++(tab 7 g).take 7++(tab 49 f).drop (7*k+7)=tab 49 fun j=>if 7*k≤j∧j<7*k+7 then g (j-7*k)else f j:=by
 have hl:∀(n:Nat) (h:Nat→V),(tab n h).length=n:=fun n h=>by simp[tab]
 apply List.ext_getElem?;intro j;by_cases h49:j<49
 ·rw[av h49];by_cases h1:j<7*k
  ·rw[List.append_assoc,List.getElem?_append_left (by rw[List.length_take,hl];omega),List.getElem?_take,if_pos h1,av h49,if_neg (by omega)]
  ·rw[List.append_assoc,List.getElem?_append_right (by rw[List.length_take,hl];omega),List.length_take,hl,show min (7*k) 49=7*k by omega];by_cases h2:j<7*k+7
   ·rw[List.getElem?_append_left (by rw[List.length_take,hl];omega),List.getElem?_take,if_pos (by omega),av (by omega),if_pos (by omega)]
   ·rw[List.getElem?_append_right (by rw[List.length_take,hl];omega),List.length_take,hl,List.getElem?_drop,show 7*k+7+(j-7*k-min 7 7)=j by omega,av h49,if_neg (by omega)]
 ·rw[List.getElem?_eq_none (by simp[hl];omega),List.getElem?_eq_none (by rw[hl];omega)]
theorem J2 {n:Nat}{f:Nat→Ent}:V.locLts 0 (tab n fun j=>(f j).v)=true:=by rw[fZ];intro x hx;obtain⟨j,_,rfl⟩:=List.mem_map.1 hx;rfl
theorem fV {n:Nat}{f:Nat→Ent}:V.locLt n (ac f)=true:=by have:=J2 (n:=49) (f:=f);rw[fZ]at this;simp only[ac,V.locLt,Bool.or_eq_true];right;rw[fZ];exact fun x hx=>bE (Nat.zero_le _) (this x hx)
theorem sd {n:Nat}{f:Nat→Int}:V.locLt n (d7V f)=true:=by simp only[d7V,V.locLt,Bool.or_eq_true];right;rw[fZ];intro x hx;obtain⟨j,_,rfl⟩:=List.mem_map.1 hx;rfl
theorem jq {n:Nat}{l:List Int}:V.locLt n (lnV l)=true:=by simp only[lnV,V.locLt,Bool.or_eq_true];right;rw[fZ];intro x hx;obtain⟨j,_,rfl⟩:=List.mem_map.1 hx;rfl
theorem Ox {base:Nat}{L hp:List Blk}{a b:Nat}{f g:Nat→Ent}{k:Nat}(hk:k<7) (ha:L[a]?=some (.rw (ac f))) (hb:L[b]?=some (.rw (lvV g))):
 iw base 42 (.sl (.loc a) [] (7*k) (49-7*k) (some (49-7*k)) 42) (.sl (.loc b) [] 0 7 (some 7) 42) ⟨L,hp⟩=
  some (.int .i64 7,⟨L.set a (.rw (ac fun j=>if 7*k≤j∧j<7*k+7 then g (j-7*k)else f j)),hp⟩):=by
 have hl:∀(n:Nat) (h:Nat→V),(tab n h).length=n:=fun n h=>by simp[tab]
 have hs:=KG (f:=fun j=>(f j).v) (g:=fun j=>(g j).v) hk;have he:(fun j=>if 7*k≤j∧j<7*k+7 then(g (j-7*k)).v else(f j).v)=fun j=>Ent.v (if 7*k≤j∧j<7*k+7 then g (j-7*k)else f j):=by funext j;split<;>rfl
 have hlt:=J2 (n:=49) (f:=fun j=>if 7*k≤j∧j<7*k+7 then g (j-7*k)else f j)
 rw[he]at hs;have hy:St.elems ⟨L,hp⟩ (.sl (.loc b) [] 0 7 (some 7) 42)=some (tab 7 fun j=>(g j).v):=by simp only[St.elems,St.read,St.at,hb,lvV,V.at,hl];rw[if_neg (by omega),if_pos (by omega),List.drop_zero,List.take_of_length_le (by rw[hl];omega)]
 have hr:(⟨L,hp⟩:St).read (.loc a) []=some (ac f):=by simp only[St.read,St.at,ha,V.at]
 have hm:min 7 (49-7*k)=7:=by omega
 unfold iw;simp only[V.slIs,V.elIs,beq_self_eq_true,Bool.and_self,if_true,hy,hl,hm,hr,ac];rw[if_neg (show¬(7:Nat)=0 by decide),if_pos (show 7*k+(49-7*k)≤49 by omega),hs];simp only[St.write,St.at,ha,ac,fM,V.locLt,hlt,V.setAt,Bool.or_true,Bool.true_or,if_true];rfl
def ldT (M:AM) (l:List Int) (i:Nat):Ent:=bV (M.now (af l (i/7)).toNat) (i%7)
def ldU (M:AM) (l:List Int) (k i:Nat):Ent:=if i<7*k then ldT M l i else an
theorem Io {M:AM}{l:List Int}{k:Nat}:(fun j=>if 7*k≤j∧j<7*k+7 then bV (M.now (af l k).toNat) (j-7*k)else ldU M l k j)=ldU M l (k+1):=by
 funext j;unfold ldU;by_cases h:7*k≤j∧j<7*k+7
 ·rw[if_pos h,if_pos (by omega)];unfold ldT;rw[show j/7=k by omega,show j%7=j-7*k by omega]
 ·rw[if_neg h];by_cases h2:j<7*k
  ·rw[if_pos h2,if_pos (by omega)]
  ·rw[if_neg h2,if_neg (by omega)]
def sR (M:AM) (fr:Int) (l:List Int):List Int→Nat→Nat→Bool
 |_,_,0=>true
 |ks,k,n+1=>onc M.n fr ks (af l k)&&(ef (M.now (af l k).toNat)&&sR M fr l (ks++[af l k]) (k+1) n)
def nM (l:List Int):List Int→Nat→Nat→List Int
 |ks,_,0=>ks
 |ks,k,n+1=>nM l (ks++[af l k]) (k+1) n
def qf (n':Nat) (fr:Int) (t:Nat→Ent):List Int→Nat→Nat→Bool
 |_,_,0=>true
 |ks,i,n+1=>if(t i).kind=0 then qf n' fr t ks (i+1) n else onc n' fr ks (t i).line&&qf n' fr t (ks++[(t i).line]) (i+1) n
theorem xg {hp:List Blk}{x y:Blk}:(hp++[x]).set hp.length y=hp++[y]:=by rw[List.set_append_right _ _ (Nat.le_refl _),Nat.sub_self];rfl
theorem aI.snoc {hp:List Blk}{F:Ft}{m:Nat}{M:AM}(h:aI hp F m M) (X:List Blk):aI (hp++X) F m M:=
 h.eqv (fun j hj=>List.getElem?_append_left (h.inn j hj)) (by simp)
def gQ (m:Nat) (fr:Int) (i:Nat):V:= .agg 73 [.ptr (.hp m) [] 59,.int .i64 fr,.mp (some i)]
theorem JN {hp:List Blk}{F:Ft}{m:Nat}{M:AM}(h:aI hp F m M) (hon:M.off=false) (fr:Int) {l:List Int}(hw:∀k,k<7→∀x∈M.now (af l k).toNat,0≤x∧x<18446744073709551616) (L:List Blk):∀(n k:Nat) (ks:List Int) (X:List Int),k+n=7→∃r,
 rc D L.length (.loop [0,6,7,9,10,11,13,52,53] iD) [(0,.ptr (.hp m) [] 59),(6,.ptr (.loc L.length) [] 48),(7,.ptr (.loc (L.length+1)) [] 60),(9,.ptr (.loc (L.length+2)) [] 48),(10,.ptr (.loc (L.length+3)) [] 73),(11,.ptr (.loc (L.length+4)) [] 24),(13,.ptr (.loc (L.length+5)) [] 60),(52,d7V (af l)),(53,.int .i64 k)]
  ⟨L++[.rw (ac fun _=>an),.rw (d7V fun _=>0),.rw (ac (ldU M l k)),.rw (gQ m fr hp.length),.rw (lnV X),.rw (d7V (af l))],hp++[.mp ks]⟩=some r∧
 ((sR M fr l ks k n=true∧∃X',r=(.exit 0,[(0,.ptr (.hp m) [] 59),(6,.ptr (.loc L.length) [] 48),(7,.ptr (.loc (L.length+1)) [] 60),(9,.ptr (.loc (L.length+2)) [] 48),(10,.ptr (.loc (L.length+3)) [] 73),(11,.ptr (.loc (L.length+4)) [] 24),(13,.ptr (.loc (L.length+5)) [] 60),(52,d7V (af l)),(53,.int .i64 7),(54,.bool false)],
  ⟨L++[.rw (ac fun _=>an),.rw (d7V fun _=>0),.rw (ac (ldU M l 7)),.rw (gQ m fr hp.length),.rw (lnV X'),.rw (d7V (af l))],hp++[.mp (nM l ks k n)]⟩))∨
  (sR M fr l ks k n=false∧∃Y Z,r=(.ret,[(6,.ptr (.loc L.length) [] 48),(7,.ptr (.loc (L.length+1)) [] 60),(8,.int .i64 21)],⟨L++ .rw (ac fun _=>an):: .rw (d7V fun _=>0)::Y,hp++[Z]⟩)))
 |0,k,ks,X,hk=>by
  have:k=7:=by omega
  subst this;refine⟨_,?_,.inl ⟨rfl,X,rfl⟩⟩;rw[aa];simp only[d7V];simp only[go_sem,iD];rfl
 |n+1,k,ks,X,hk=>by
  have d1:(k:Int)<7:=by omega
  have d2:(0:Int)≤k:=by omega
  have d4:IntKind.i64.wrap ((k:Int)+1)=((k+1:Nat):Int):=ae (by omega) (by omega);have d5:IntKind.i64.wrap (7*(k:Int))=((7*k:Nat):Int):=by rw[ae (by omega) (by omega)];omega
  have d6:((7*k:Nat):Int)≤49:=by omega
  have d7:(0:Int)≤((7*k:Nat):Int):=by omega
  have g1:=av (f:=fun j=>V.int .i64 (af l j)) (show k<7 by omega);have h1:=h.snoc [.mp ks];have hlast:(hp++[Blk.mp ks])[hp.length]?=some (.mp ks):=by simp
  have hO:=fun(L:List Blk) (p:Nat) hp'=>Du h1 hlast fr (af l k) (L:=L) (p:=p) hp';rw[xg]at hO;simp only[sR,nM];have lp:∀R:List Blk,(L++[.rw (ac fun _=>an),.rw (d7V fun _=>0),.rw (ac (ldU M l k)),.rw (gQ m fr hp.length),.rw (lnV X),.rw (d7V (af l))]++R)[L.length+3]?=some (.rw (gQ m fr hp.length)):=fun R=>by rw[List.append_assoc,List.getElem?_append_right (by omega),show L.length+3-L.length=3 by omega];rfl
  have hO1:=hO _ _ (lp []);rw[List.append_nil]at hO1;have zz:¬L.length+1=L.length:=by omega
  have z0:L.length<L.length+6:=by omega
  have z1:L.length+1<L.length+6:=by omega
  have z2:L.length+2<L.length+6:=by omega
  have z3:L.length+3<L.length+6:=by omega
  have z4:L.length+4<L.length+6:=by omega
  have z5:L.length+5<L.length+6:=by omega
  cases c1:onc M.n fr ks (af l k)with
  |false=>
   refine⟨_,?_,.inr ⟨by rw[Bool.false_and],[.rw (ac (ldU M l k)),.rw (gQ m fr hp.length),.rw (lnV X),.rw (d7V (af l))],.mp ks,rfl⟩⟩;rw[c1]at hO1;simp only[Bool.false_eq_true,if_false]at hO1;rw[aa];generalize gQ m fr hp.length=V1 at*;generalize ac (ldU M l k)=V2 at*;simp only[d7V]at*;generalize(tab 7 fun j=>V.int .i64 (af l j))=T at*;generalize af l k=line at*;simp only[ac]at*;simp only[go_sem,iD,d1,d2,Zh,g1,hO1,zz,z0,z1,z2,z3,z4,z5]
  |true=>
   rw[c1]at hO1;simp only[if_true]at hO1;have hr:0≤af l k∧af l k<M.n:=by unfold onc at c1;simp only[Zj,Zi]at c1;exact⟨c1.2.1,c1.2.2.1⟩
   have hld:M.load (af l k)=(M.now (af l k).toNat,0):=by unfold AM.load;rw[if_neg (by omega),if_neg (by simp[hon])]
   have hL:=fun L=>jr (h.snoc [.mp (ks++[af l k])]) (af l k) L;simp only[hld]at hL;have h8:=h.ok.now8 (show(af l k).toNat<M.n by omega);have hRL:=fun s=>IG h8 (hw k (by omega)) s;cases c2:ef (M.now (af l k).toNat)with
   |false=>
    refine⟨_,?_,.inr ⟨rfl,[.rw (ac (ldU M l k)),.rw (gQ m fr hp.length),.rw (lnV (M.now (af l k).toNat)),.rw (d7V (af l)),.rw (lvV (bV (M.now (af l k).toNat)))],.mp (ks++[af l k]),rfl⟩⟩;rw[c2]at hRL;rw[aa];generalize gQ m fr hp.length=V1 at*;generalize ac (ldU M l k)=V2 at*;simp only[d7V,lnV]at*;generalize(tab 7 fun j=>V.int .i64 (af l j))=T at*;generalize M.now (af l k).toNat=ll at*;generalize af l k=line at*;simp only[ac,lvV]at*;simp only[go_sem,iD,d1,d2,Zh,g1,hO1,hL,hRL,zz,z0,z1,z2,z3,z4,z5]
   |true=>
    obtain⟨r,q1,q2⟩:=JN h hon fr hw L n (k+1) (ks++[af l k]) (M.now (af l k).toNat) (by omega);refine⟨r,?_,by rw[Bool.true_and,Bool.true_and];exact q2⟩;rw[c2]at hRL;have hcp:=Ox (base:=L.length) (hp:=hp++[.mp (ks++[af l k])]) (f:=ldU M l k) (g:=bV (M.now (af l k).toNat)) (k:=k) (by omega) (a:=L.length+2) (b:=L.length+6)
     (L:=L++[.rw (ac fun _=>an),.rw (d7V fun _=>0),.rw (ac (ldU M l k)),.rw (gQ m fr hp.length),.rw (lnV (M.now (af l k).toNat)),.rw (d7V (af l)),.rw (lvV (bV (M.now (af l k).toNat)))])
     (by rw[List.getElem?_append_right (by omega),show L.length+2-L.length=2 by omega];rfl) (by rw[List.getElem?_append_right (by omega),show L.length+6-L.length=6 by omega];rfl)
    rw[Io,List.set_append_right _ _ (by omega),show L.length+2-L.length=2 by omega]at hcp;simp only[List.set_cons_succ,List.set_cons_zero]at hcp;have z6:L.length+6<L.length+7:=by omega
    have v1:V.locLt (L.length+6) (gQ m fr hp.length)=true:=rfl;have v3:V.locLt (L.length+6) (ac (ldU M l (k+1)))=true:=fV;rw[←q1,aa];generalize gQ m fr hp.length=V1 at*;generalize ac (ldU M l (k+1))=V3 at*;simp only[d7V,lnV]at*;generalize(tab 7 fun j=>V.int .i64 (af l j))=T at*;generalize M.now (af l k).toNat=ll at*;generalize af l k=line at*;generalize ac (ldU M l k)=V2 at*;simp only[ac,lvV]at*;simp only[go_sem,iD,d1,d2,d4,d5,d6,d7,Zh,g1,hO1,hL,hRL,hcp,zz,z0,z1,z2,z3,z4,z5,z6,v1,v3]
def GS (t:Nat→Ent):List Int→Nat→Nat→List Int
 |ks,_,0=>ks
 |ks,i,n+1=>GS t (if(t i).kind=0 then ks else ks++[(t i).line]) (i+1) n
theorem DJ {hp:List Blk}{F:Ft}{m:Nat}{M:AM}(h:aI hp F m M) (fr:Int) (t:Nat→Ent) (d:Nat→Int) (X:List Int) (L:List Blk):∀(n i:Nat) (ks:List Int),i+n=49→∃r,
 rc D L.length (.loop [6,7,9,10,13,84,85] iC) [(6,.ptr (.loc L.length) [] 48),(7,.ptr (.loc (L.length+1)) [] 60),(9,.ptr (.loc (L.length+2)) [] 48),(10,.ptr (.loc (L.length+3)) [] 73),(13,.ptr (.loc (L.length+5)) [] 60),(84,ac t),(85,.int .i64 i)]
  ⟨L++[.rw (ac fun _=>an),.rw (d7V fun _=>0),.rw (ac t),.rw (gQ m fr hp.length),.rw (lnV X),.rw (d7V d)],hp++[.mp ks]⟩=some r∧
 ((qf M.n fr t ks i n=true∧r=(.exit 2,[(6,.ptr (.loc L.length) [] 48),(7,.ptr (.loc (L.length+1)) [] 60),(9,.ptr (.loc (L.length+2)) [] 48),(10,.ptr (.loc (L.length+3)) [] 73),(13,.ptr (.loc (L.length+5)) [] 60),(84,ac t),(85,.int .i64 49),(86,.bool false)],
  ⟨L++[.rw (ac fun _=>an),.rw (d7V fun _=>0),.rw (ac t),.rw (gQ m fr hp.length),.rw (lnV X),.rw (d7V d)],hp++[.mp (GS t ks i n)]⟩))∨
  (qf M.n fr t ks i n=false∧∃Y Z,r=(.ret,[(6,.ptr (.loc L.length) [] 48),(7,.ptr (.loc (L.length+1)) [] 60),(8,.int .i64 21)],⟨L++ .rw (ac fun _=>an):: .rw (d7V fun _=>0)::Y,hp++[Z]⟩)))
 |0,i,ks,hi=>by
  have:i=49:=by omega
  subst this;refine⟨_,?_,.inl ⟨rfl,rfl⟩⟩;rw[aa];generalize ac t=T at*;simp only[go_sem,iC];rfl
 |n+1,i,ks,hi=>by
  have d1:(i:Int)<49:=by omega
  have d2:(0:Int)≤i:=by omega
  have d4:IntKind.i64.wrap ((i:Int)+1)=((i+1:Nat):Int):=ae (by omega) (by omega);have g1:=av (f:=fun j=>(t j).v) (show i<49 by omega);have h1:=h.snoc [.mp ks];have hlast:(hp++[Blk.mp ks])[hp.length]?=some (.mp ks):=by simp
  have hO:=Du h1 hlast fr (t i).line (L:=L++[.rw (ac fun _=>an),.rw (d7V fun _=>0),.rw (ac t),.rw (gQ m fr hp.length),.rw (lnV X),.rw (d7V d),.rw (t i).v]) (p:=L.length+3)
   (by rw[List.getElem?_append_right (by omega),show L.length+3-L.length=3 by omega];rfl)
  rw[xg]at hO;have zz:¬L.length+1=L.length:=by omega
  have z0:L.length<L.length+6:=by omega
  have z1:L.length+1<L.length+6:=by omega
  have z2:L.length+2<L.length+6:=by omega
  have z3:L.length+3<L.length+6:=by omega
  have z4:L.length+4<L.length+6:=by omega
  have z5:L.length+5<L.length+6:=by omega
  have v1:V.locLt (L.length+6) (gQ m fr hp.length)=true:=rfl;have v3:V.locLt (L.length+6) (ac t)=true:=fV;have v0:V.locLt (L.length+6) (ac fun _=>an)=true:=fV;have v4:=fun f=>sd (n:=L.length+6) (f:=f);have v5:=fun l=>jq (n:=L.length+6) (l:=l);simp only[qf,GS];by_cases ck:(t i).kind=0
  ·rw[if_pos ck,if_pos ck];obtain⟨r,q1,q2⟩:=DJ h fr t d X L n (i+1) ks (by omega);refine⟨r,?_,q2⟩;rw[←q1,aa];clear q1 q2 hO;generalize gQ m fr hp.length=V1 at*;generalize(ac fun _=>an)=V0 at*;simp only[ac]at*;generalize(tab 49 fun j=>(t j).v)=T at*;generalize t i=E at*;obtain⟨a1,a2,a3⟩:=E;simp only[Ent.v]at*;subst ck;simp only[go_sem,iC,d1,d2,d4,Zh,g1,zz,z0,z1,z2,z3,z4,z5,v0,v1,v3,v4,v5]
  ·rw[if_neg ck,if_neg ck];cases c1:onc M.n fr ks (t i).line with
   |false=>
    refine⟨_,?_,.inr ⟨rfl,[.rw (ac t),.rw (gQ m fr hp.length),.rw (lnV X),.rw (d7V d),.rw (t i).v],.mp ks,rfl⟩⟩;rw[c1]at hO;simp only[Bool.false_eq_true,if_false]at hO;rw[aa];generalize gQ m fr hp.length=V1 at*;simp only[ac]at*;generalize(tab 49 fun j=>(t j).v)=T at*;generalize t i=E at*;obtain⟨a1,a2,a3⟩:=E;simp only[Ent.v,d7V]at*;simp only[go_sem,iC,d1,d2,d4,Zh,g1,ck,hO,zz,z0,z1,z2,z3,z4,z5,v1]
   |true=>
    obtain⟨r,q1,q2⟩:=DJ h fr t d X L n (i+1) (ks++[(t i).line]) (by omega);refine⟨r,?_,by rw[Bool.true_and];exact q2⟩;rw[c1]at hO;simp only[if_true]at hO;rw[←q1,aa];clear q1 q2;generalize gQ m fr hp.length=V1 at*;generalize(ac fun _=>an)=V0 at*;simp only[ac]at*;generalize(tab 49 fun j=>(t j).v)=T at*;generalize t i=E at*;obtain⟨a1,a2,a3⟩:=E;simp only[Ent.v]at*;simp only[go_sem,iC,d1,d2,d4,Zh,g1,ck,hO,zz,z0,z1,z2,z3,z4,z5,v0,v1,v3,v4,v5]
theorem Ra {hp:List Blk}{F:Ft}{m:Nat}{M:AM}(h:aI hp F m M) (L:List Blk):rf D pO [.ptr (.hp m) [] 59] ⟨L,hp⟩=some (.bool (!M.off),⟨L,hp⟩):=by obtain⟨k,fk,ne,⟨cp,left,h1,h2,h3⟩,sv,ow,h4,h5⟩:=h.mb;simp only[cv]at h1;rw[ab C7 rfl];simp only[go_sem,h1]
def mK (M:AM) (fr root:Int):Bool:=onc M.n fr [] root&&(eG (M.now root.toNat)&&(sR M fr (M.now root.toNat) [root] 0 7&&qf M.n fr (ldT M (M.now root.toNat)) (nM (M.now root.toNat) [root] 0 7) 0 49))
theorem E8 {hp:List Blk}{F:Ft}{m:Nat}{M:AM}(h:aI hp F m M) (fr root:Int) (hw:M.off=false→onc M.n fr [] root=true→∀k,k<7→∀x∈M.now (af (M.now root.toNat) k).toNat,0≤x∧x<18446744073709551616) (L:List Blk):∃X,
 rf D tH [.ptr (.hp m) [] 59,.int .i64 fr,.int .i64 root] ⟨L,hp⟩=
  some (if M.off=true then .tup [ac fun _=>an,d7V fun _=>0,.int .i64 4]else if mK M fr root=true then .tup [ac (ldT M (M.now root.toNat)),d7V (af (M.now root.toNat)),.int .i64 0]else .tup [ac fun _=>an,d7V fun _=>0,.int .i64 21],⟨L,hp++X⟩):=by
 have hon:=Ra h;have hz:(ac fun _=>an)= .agg 48 (List.replicate 49 (.agg 42 [.int .i64 0,.int .i64 0,.int .i64 0])):=by unfold ac;rw[co];rfl
 have hz7:(d7V fun _=>(0:Int))= .agg 60 (List.replicate 7 (.int .i64 0)):=by unfold d7V;rw[co]
 have hzl:List.replicate 8 (V.int .u64 0)=zl.map (V.int .u64):=rfl;have zz:¬L.length+1=L.length:=by omega
 have zy:¬L.length+5=L.length:=by omega
 cases ho:M.off with
 |true=>
  refine⟨[],?_⟩;rw[ho]at hon;rw[if_pos rfl,List.append_nil,hz,hz7,ab kz rfl];simp only[go_sem,hon,zz]
 |false=>
  rw[ho]at hon;rw[if_neg (by simp)];have hlast:∀X,(hp++[Blk.mp X])[hp.length]?=some (.mp X):=fun X=>by simp
  have hO:=Du (h.snoc [.mp []]) (hlast []) fr root (L:=L++[.rw (ac fun _=>an),.rw (d7V fun _=>0),.rw (ac fun _=>an),.rw (gQ m fr hp.length)]) (p:=L.length+3)
   (by rw[List.getElem?_append_right (by omega),show L.length+3-L.length=3 by omega];rfl)
  rw[xg,List.nil_append]at hO;unfold mK;cases c1:onc M.n fr [] root with
  |false=>
   refine⟨[.mp []],?_⟩;rw[c1]at hO;simp only[Bool.false_eq_true,if_false]at hO;rw[Bool.false_and,if_neg (by simp)];simp only[gQ]at hO;rw[hz,hz7]at*;rw[ab kz rfl];simp only[go_sem,hon,hO,zz]
  |true=>
   rw[c1]at hO;simp only[if_true]at hO;have hr:0≤root∧root<M.n:=by unfold onc at c1;simp only[Zj,Zi]at c1;exact⟨c1.2.1,c1.2.2.1⟩
   have hld:M.load root=(M.now root.toNat,0):=by unfold AM.load;rw[if_neg (by omega),if_neg (by simp[ho])]
   have hL:=fun L=>jr (h.snoc [.mp [root]]) root L;simp only[hld]at hL;have h8:=h.ok.now8 (show root.toNat<M.n by omega);have hRR:=fun s=>IZ h8 s;replace hw:=hw ho c1;generalize M.now root.toNat=l at*;cases c2:eG l with
   |false=>
    refine⟨[.mp [root]],?_⟩;rw[c2]at hRR;rw[Bool.false_and,Bool.and_false,if_neg (by simp)];simp only[gQ,lnV,hz,hz7]at*;simp only[d7V]at hRR;rw[ab kz rfl];simp only[go_sem,hon,hO,hL,hRR,zz]
   |true=>
    rw[c2]at hRR;obtain⟨r,q1,q2⟩:=JN h ho fr hw L 7 0 [root] l rfl;have hU0:ac (ldU M l 0)=ac fun _=>an:=rfl;have hU7:ac (ldU M l 7)=ac (ldT M l):=by
     have:(tab 49 fun i=>(ldU M l 7 i).v)=tab 49 fun i=>(ldT M l i).v:=bp fun j hj=>by unfold ldU;rw[if_pos (by omega)]
     unfold ac;rw[this]
    rw[hU0,show((0:Nat):Int)=0 from rfl]at q1
    rcases q2 with⟨c3,X',rfl⟩|⟨c3,Y,Z,rfl⟩
    ·rw[hU7]at q1;obtain⟨r2,p1,p2⟩:=DJ h fr (ldT M l) (af l) X' L 49 0 (nM l [root] 0 7) rfl;rw[show((0:Nat):Int)=0 from rfl]at p1
     rcases p2 with⟨c4,rfl⟩|⟨c4,Y,Z,rfl⟩
     ·refine⟨[.mp (GS (ldT M l) (nM l [root] 0 7) 0 49)],?_⟩;rw[c3,c4,if_pos (show(true&&(true&&(true&&true)))=true from rfl)]
      generalize nM l [root] 0 7=K at*;generalize GS (ldT M l) K 0 49=K2 at*;generalize ldT M l=t at*;generalize af l=d at*;have t1:(d7V d).tag=60:=rfl;have t2:(ac t).tag=48:=rfl;have t3:(d7V d).ok=true:=rfl;have t4:(ac t).ok=true:=rfl;have t5:V.locLt L.length (d7V d)=true:=sd;have t6:V.locLt L.length (ac t)=true:=fV;generalize hT:ac t=T at*;generalize hDd:d7V d=Dd at*;simp only[gQ,lnV,hz,hz7]at*;rw[ab kz rfl];simp only[go_sem,hon,hO,hL,hRR,zz,zy,q1,p1,t1,t2,t3,t4,t5,t6]
     ·refine⟨[Z],?_⟩;rw[c3,c4,if_neg (show¬(true&&(true&&(true&&false)))=true by simp)];generalize nM l [root] 0 7=K at*;generalize ldT M l=t at*;generalize af l=d at*;have e0:(L++Blk.rw (ac fun _=>an)::Blk.rw (d7V fun _=>0)::Y)[L.length]?=some (.rw (ac fun _=>an)):=by rw[List.getElem?_append_right (Nat.le_refl _),Nat.sub_self];rfl
      have e1:(L++Blk.rw (ac fun _=>an)::Blk.rw (d7V fun _=>0)::Y)[L.length+1]?=some (.rw (d7V fun _=>0)):=by rw[List.getElem?_append_right (by omega),show L.length+1-L.length=1 by omega];rfl
      have e2:(L++Blk.rw (ac fun _=>an)::Blk.rw (d7V fun _=>0)::Y).take L.length=L:=by rw[List.take_left'];rfl
      have e3:L.length≤(L++Blk.rw (ac fun _=>an)::Blk.rw (d7V fun _=>0)::Y).length:=by rw[List.length_append];omega
      generalize(L++Blk.rw (ac fun _=>an)::Blk.rw (d7V fun _=>0)::Y)=LL at*;simp only[gQ,lnV,hz,hz7]at*;have t1:(d7V d).tag=60:=rfl;have t2:(ac t).tag=48:=rfl;generalize hT:ac t=T at*;generalize hDd:d7V d=Dd at*;rw[ab kz rfl];simp only[go_sem,hon,hO,hL,hRR,zz,q1,p1,e0,e1,e2,e3,t1,t2]
    ·refine⟨[Z],?_⟩;rw[c3,if_neg (show¬(true&&(true&&(false&&qf M.n fr (ldT M l) (nM l [root] 0 7) 0 49)))=true by simp)];generalize af l=d at*;have e0:(L++Blk.rw (ac fun _=>an)::Blk.rw (d7V fun _=>0)::Y)[L.length]?=some (.rw (ac fun _=>an)):=by rw[List.getElem?_append_right (Nat.le_refl _),Nat.sub_self];rfl
     have e1:(L++Blk.rw (ac fun _=>an)::Blk.rw (d7V fun _=>0)::Y)[L.length+1]?=some (.rw (d7V fun _=>0)):=by rw[List.getElem?_append_right (by omega),show L.length+1-L.length=1 by omega];rfl
     have e2:(L++Blk.rw (ac fun _=>an)::Blk.rw (d7V fun _=>0)::Y).take L.length=L:=by rw[List.take_left'];rfl
     have e3:L.length≤(L++Blk.rw (ac fun _=>an)::Blk.rw (d7V fun _=>0)::Y).length:=by rw[List.length_append];omega
     generalize(L++Blk.rw (ac fun _=>an)::Blk.rw (d7V fun _=>0)::Y)=LL at*;simp only[gQ,lnV,hz,hz7]at*;have t1:(d7V d).tag=60:=rfl;generalize hDd:d7V d=Dd at*;rw[ab kz rfl];simp only[go_sem,hon,hO,hL,hRR,zz,q1,e0,e1,e2,e3,t1]
def dI:Sup:=⟨0,0,0,0⟩
def c9 (l:List Int):Sup:=⟨IntKind.i64.wrap (l.getD 1 0),IntKind.i64.wrap (l.getD 2 0),IntKind.i64.wrap (l.getD 3 0),IntKind.i64.wrap (l.getD 4 0)⟩
def eI (l:List Int):Bool:=(c9 l).ok&&decide (aH (c9 l)=l)
theorem Fa {l:List Int}(hl:l.length=8) (s:St):rf D tW [lnV l] s=some (.tup [(if eI l=true then c9 l else dI).v,.bool (eI l)],s):=by
 have hL:=fun s=>xO (c9 l) s;have g1:(l.map (V.int .u64))[1]?=some (.int .u64 (l.getD 1 0)):=am (by omega) 0;have g2:(l.map (V.int .u64))[2]?=some (.int .u64 (l.getD 2 0)):=am (by omega) 0;have g3:(l.map (V.int .u64))[3]?=some (.int .u64 (l.getD 3 0)):=am (by omega) 0;have g4:(l.map (V.int .u64))[4]?=some (.int .u64 (l.getD 4 0)):=am (by omega) 0;have he:=us (a:=aH (c9 l)) (b:=l) (by rw[qT,hl]);unfold eI;unfold c9 at*;generalize hs:(⟨IntKind.i64.wrap (l.getD 1 0),IntKind.i64.wrap (l.getD 2 0),IntKind.i64.wrap (l.getD 3 0),IntKind.i64.wrap (l.getD 4 0)⟩:Sup)=b at*;have hv:b.v= .agg 44 [.int .i64 (IntKind.i64.wrap (l.getD 1 0)),.int .i64 (IntKind.i64.wrap (l.getD 2 0)),.int .i64 (IntKind.i64.wrap (l.getD 3 0)),.int .i64 (IntKind.i64.wrap (l.getD 4 0))]:=by rw[←hs];rfl
 have hz:dI.v= .agg 44 [.int .i64 0,.int .i64 0,.int .i64 0,.int .i64 0]:=rfl;rw[hv]at hL;cases hb:b.ok with
 |false=>
  rw[hb]at hL;rw[Bool.false_and,if_neg (by simp),hz];simp only[Bool.false_eq_true,if_false,lnV]at*;generalize aH b=z at*;rw[ab uv rfl];simp only[go_sem,g1,g2,g3,g4,hL]
 |true=>
  rw[hb]at hL;rw[Bool.true_and];simp only[if_true,lnV]at*;generalize aH b=z at*;by_cases hz2:z=l
  ·rw[decide_eq_true hz2]at he⊢;rw[if_pos rfl,hv];rw[ab uv rfl];simp only[go_sem,g1,g2,g3,g4,hL,he]
  ·rw[decide_eq_false hz2]at he⊢;rw[if_neg (by simp),hz];rw[ab uv rfl];simp only[go_sem,g1,g2,g3,g4,hL,he]
def bst (x:List Int) (i:Int) (s:Sup×Int×Bool):Sup×Int×Bool:=if eI x=true∧(s.2.2=false∨s.1.gen<(c9 x).gen)then(c9 x,i,true)else s
def a9 (a b:List Int):Sup×Int×Bool:=bst b 1 (bst a 0 (dI,0,false))
theorem Cw {a b x:List Int}{i:Nat}(hi:i<2) (hx:x.length=8) (hg:[lnV a,lnV b][i]?=some (lnV x)) (L hp:List Blk) (z:Sup×Int×Bool):
 rc D L.length (.loop [4,5,6,13,14] dP) [(4,.ptr (.loc (L.length+2)) [] 44),(5,.int .i64 z.2.1),(6,.bool z.2.2),(13,.agg 110 [lnV a,lnV b]),(14,.int .i64 i)] ⟨L++[.rw (lnV a),.rw (lnV b),.rw z.1.v],hp⟩=
 rc D L.length (.loop [4,5,6,13,14] dP) [(4,.ptr (.loc (L.length+2)) [] 44),(5,.int .i64 (bst x i z).2.1),(6,.bool (bst x i z).2.2),(13,.agg 110 [lnV a,lnV b]),(14,.int .i64 (i+1:Nat))] ⟨L++[.rw (lnV a),.rw (lnV b),.rw (bst x i z).1.v],hp⟩:=by
 have hR:=fun s=>Fa hx s;obtain⟨⟨g,r,q,c⟩,sl,ok⟩:=z;have d1:(i:Int)<2:=by omega
 have d2:(0:Int)≤i:=by omega
 have d4:IntKind.i64.wrap ((i:Int)+1)=((i+1:Nat):Int):=ae (by omega) (by omega);have z0:L.length<L.length+3:=by omega
 have z1:L.length+1<L.length+3:=by omega
 have z2:L.length+2<L.length+3:=by omega
 have va:V.locLt (L.length+3) (lnV a)=true:=jq;have vb:V.locLt (L.length+3) (lnV b)=true:=jq;have hz:dI.v= .agg 44 [.int .i64 0,.int .i64 0,.int .i64 0,.int .i64 0]:=rfl;have tx:(lnV x).tag=24:=rfl
 conv=>lhs;rw[aa]
 unfold bst;simp only;cases hs:eI x with
 |false=>
  rw[hs]at hR;simp only[Bool.false_eq_true,if_false,false_and,Sup.v,dI]at hR⊢;generalize lnV x=X at*;generalize lnV a=A at*;generalize lnV b=B at*;simp only[go_sem,dP,d1,d2,d4,Zh,hg,tx,hR,va,vb,z0,z1,z2]
 |true=>
  rw[hs]at hR;generalize c9 x=y at*;obtain⟨g1,r1,q1,c1⟩:=y;simp only[if_true,true_and,Sup.v]at hR⊢;generalize lnV x=X at*;generalize lnV a=A at*;generalize lnV b=B at*;cases ok with
  |false=>
   simp only[true_or,if_true];simp only[go_sem,dP,d1,d2,d4,Zh,hg,tx,hR,va,vb,z0,z1,z2]
  |true=>
   by_cases hgt:g<g1
   ·have hgt':g1>g:=hgt;simp only[hgt,or_true,if_true];simp only[go_sem,dP,d1,d2,d4,Zh,hg,tx,hR,va,vb,z0,z1,z2,hgt,hgt']
   ·have hgt':¬g1>g:=hgt;simp only[hgt,or_false,Bool.true_eq_false,if_false];simp only[go_sem,dP,d1,d2,d4,Zh,hg,tx,hR,va,vb,z0,z1,z2,hgt,hgt']
theorem E4 {a b:List Int}(ha:a.length=8) (hb:b.length=8) (s:St):rf D uc [lnV a,lnV b] s=some (.tup [(a9 a b).1.v,.int .i64 (a9 a b).2.1,.bool (a9 a b).2.2],s):=by
 have r0:=Cw (a:=a) (b:=b) (i:=0) (by decide) ha rfl s.loc s.hp (dI,0,false);have r1:=Cw (a:=a) (b:=b) (i:=1) (by decide) hb rfl s.loc s.hp (bst a 0 (dI,0,false));have e:bst b 1 (bst a 0 (dI,0,false))=a9 a b:=rfl;simp only[Int.natCast_zero,Int.natCast_one]at r0 r1;rw[show((0+1:Nat):Int)=1 from rfl]at r0
 rw[show((1+1:Nat):Int)=2 from rfl]at r1
 rw[r1,e]at r0;generalize a9 a b=z at*;obtain⟨⟨g,r,q,c⟩,sl,ok⟩:=z;have z2:s.loc.length+2<s.loc.length+3:=by omega
 have ta:(lnV a).tag=24:=rfl;have tb:(lnV b).tag=24:=rfl;have oa:(lnV a).ok=true:=rfl;have ob:(lnV b).ok=true:=rfl;have hlast:rc D s.loc.length (.loop [4,5,6,13,14] dP) [(4,.ptr (.loc (s.loc.length+2)) [] 44),(5,.int .i64 sl),(6,.bool ok),(13,.agg 110 [lnV a,lnV b]),(14,.int .i64 2)] ⟨s.loc++[.rw (lnV a),.rw (lnV b),.rw (Sup.v ⟨g,r,q,c⟩)],s.hp⟩=
  some (.exit 0,[(4,.ptr (.loc (s.loc.length+2)) [] 44),(5,.int .i64 sl),(6,.bool ok),(13,.agg 110 [lnV a,lnV b]),(14,.int .i64 2),(15,.bool false)],⟨s.loc++[.rw (lnV a),.rw (lnV b),.rw (Sup.v ⟨g,r,q,c⟩)],s.hp⟩):=by
  rw[aa];generalize lnV a=A at*;generalize lnV b=B at*;simp only[go_sem,dP]
 rw[hlast]at r0;simp only[dI,Sup.v]at*;generalize lnV a=A at*;generalize lnV b=B at*;rw[ab Hc rfl];have hrep:List.replicate 2 (V.agg 24 (List.replicate 8 (V.int .u64 0)))=[.agg 24 (List.replicate 8 (.int .u64 0)),.agg 24 (List.replicate 8 (.int .u64 0))]:=rfl;simp only[go_sem,r0,ta,tb,oa,ob];simp only[hrep,List.set_cons_zero,List.set_cons_succ,List.getElem?_cons_zero,List.getElem?_cons_succ,V.tag,beq_self_eq_true,if_true];simp only[go_sem,r0]
theorem E2 {hp:List Blk}{F:Ft}{m:Nat}{M:AM}(h:aI hp F m M) (L:List Blk):rf D uA [.ptr (.hp m) [] 59] ⟨L,hp⟩=
 some (if M.off=true then .tup [dI.v,.int .i64 0,.int .i64 4]else if(a9 (M.now 0) (M.now 1)).2.2=true then .tup [(a9 (M.now 0) (M.now 1)).1.v,.int .i64 (a9 (M.now 0) (M.now 1)).2.1,.int .i64 0]else .tup [dI.v,.int .i64 0,.int .i64 20],⟨L,hp⟩):=by
 have hL0:=fun L=>jr h 0 L;have hL1:=fun L=>jr h 1 L;have hn:=h.ok.n0;have hz:dI.v= .agg 44 [.int .i64 0,.int .i64 0,.int .i64 0,.int .i64 0]:=rfl;have hzl:lnV zl= .agg 24 (List.replicate 8 (.int .u64 0)):=rfl;unfold AM.load at hL0 hL1;rw[if_neg (by omega)]at hL0 hL1;cases ho:M.off with
 |true=>
  rw[ho]at hL0;simp only[if_true,hzl]at hL0;rw[if_pos rfl,hz,ab tX rfl];simp only[go_sem,hL0]
 |false=>
  rw[ho]at hL0 hL1;simp only[Bool.false_eq_true,if_false]at hL0 hL1;rw[if_neg (by simp)];have e0:(0:Int).toNat=0:=rfl;have e1:(1:Int).toNat=1:=rfl;rw[e0]at hL0;rw[e1]at hL1;have hB:=fun s=>E4 (h.ok.now8 (show 0<M.n by omega)) (h.ok.now8 (show 1<M.n by omega)) s;have ta:(lnV (M.now 0)).tag=24:=rfl;have tb:(lnV (M.now 1)).tag=24:=rfl;generalize a9 (M.now 0) (M.now 1)=z at*;generalize lnV (M.now 0)=A at*;generalize lnV (M.now 1)=B at*;obtain⟨⟨g,r,q,c⟩,sl,ok⟩:=z;rw[hz];simp only[Sup.v]at*;cases ok with
  |true=>
   rw[if_pos rfl,ab tX rfl];simp only[go_sem,hL0,hL1,hB,ta,tb]
  |false=>
   rw[if_neg (by simp),ab tX rfl];simp only[go_sem,hL0,hL1,hB,ta,tb]
def nxK:List Int→Int×List Int
 |[]=>(0,[])
 |k::r=>(if k<0 then-(k+1)else k,r)
inductive lG (hp:List Blk) (F:Ft):V→List Int→Prop where
 |nil:lG hp F .nils []
 |sl (a o c r:Nat) (all:List V) (ks:List Int) (hc:ks.length≤c) (hb:ks=[]∨(hp[a]?=some (.ro (.agg r all))∧¬F a)) (ho:o+ks.length≤all.length) (hk:∀j,j<ks.length→all[o+j]?=some (.int .i64 (ks.getD j 0))):
  lG hp F (.sl (.hp a) [] o ks.length (some c) 10) ks
theorem lG.chg {hp hp':List Blk}{F F':Ft}{v:V}{ks:List Int}(h:lG hp F v ks) (hc:Chg hp hp' F F'):lG hp' F' v ks:=by
 cases h with
 |nil=>exact .nil
 |sl a o c r all ks hl hb ho hk=>
  refine .sl a o c r all ks hl (hb.imp id fun⟨h1,h2⟩=>⟨hc.get h1 h2,fun h3=> ?_⟩) ho hk;rcases hc.new a h3 with h4|h4
  ·exact h2 h4
  ·have:=aj h1;omega
theorem lG.lt {hp:List Blk}{F:Ft}{v:V}{ks:List Int}(h:lG hp F v ks):V.locLt 0 v=true:=by cases h<;>rfl
theorem lG.tag {hp:List Blk}{F:Ft}{v:V}{ks:List Int}(h:lG hp F v ks):v.tag=1:=by cases h<;>rfl
theorem Ue {L hp:List Blk}{p:Nat}{F:Ft}{v:V}{ks:List Int}(h:lG hp F v ks) (hr:∀k∈ks,-9223372036854775808≤k∧k≤9223372036854775807) (hp':L[p]?=some (.rw v)):
 ∃v',rf D eZ [.ptr (.loc p) [] 1] ⟨L,hp⟩=some (.int .i64 (nxK ks).1,⟨L.set p (.rw v'),hp⟩)∧lG hp F v' (nxK ks).2:=by
 cases h with
 |nil=>
  refine⟨.nils,?_,.nil⟩;rw[dD hp',ab lJ rfl];simp only[nxK];simp only[go_sem,hp']
 |sl a o c r all ks hc hb ho hk=>
  cases ks with
  |nil=>
   refine⟨_,?_,.sl a o c r all [] hc hb ho hk⟩;rw[dD hp',ab lJ rfl];simp only[nxK,List.length_nil]at*;simp only[go_sem,hp']
  |cons k ks=>
   obtain⟨hb',hna⟩:=hb.resolve_left (by simp);simp only[List.length_cons]at*;have g0:=hk 0 (by omega);rw[Nat.add_zero,List.getD_cons_zero]at g0;have hkr:=hr k List.mem_cons_self;have d0:¬((ks.length+1:Nat):Int)=0:=by omega
   have d1:(0:Int)<((ks.length+1:Nat):Int):=by omega
   have d2:(1:Int)≤((ks.length+1:Nat):Int):=by omega
   have d3:((ks.length+1:Nat):Int)≤((c:Nat):Int):=by omega
   have hlt:=aj hp';have hsad:eD 10 (.sl (.hp a) [] o (ks.length+1) (some c) 10) (.int .i64 0)=some (.ptr (.hp a) [o] 10):=by simp[go_sem]
   have hslc:gU 10 (some (.int .i64 1)) none none (.sl (.hp a) [] o (ks.length+1) (some c) 10)=some (.sl (.hp a) [] (o+1) ks.length (some (c-1)) 10):=by simp only[gU,if_true,ao,aP,kL,Option.isSome_none,Bool.false_eq_true,if_false];rw[if_pos ⟨by omega,by omega⟩];simp[aP,nI]
   refine⟨.sl (.hp a) [] (o+1) ks.length (some (c-1)) 10,?_,.sl a (o+1) (c-1) r all ks (by omega) (.inr ⟨hb',hna⟩) (by omega) fun j hj=> ?_⟩
   ·rw[ab lJ rfl];simp only[nxK];by_cases hk0:k<0
    ·have w1:IntKind.i64.wrap (k+1)=k+1:=ae (by omega) (by omega);have w2:IntKind.i64.wrap (0-(k+1))=-(k+1):=by rw[ae (by omega) (by omega)];omega
     rw[if_pos hk0];simp only[go_sem,hp',d0,hsad,hb',g0,hslc,hk0,w1,w2,hlt];rw[if_pos (by rw[List.length_set];exact Nat.le_refl _),List.take_of_length_le (by rw[List.length_set];exact Nat.le_refl _)]
    ·rw[if_neg hk0];simp only[go_sem,hp',d0,hsad,hb',g0,hslc,hk0,hlt];rw[if_pos (by rw[List.length_set];exact Nat.le_refl _),List.take_of_length_le (by rw[List.length_set];exact Nat.le_refl _)]
   ·have:=hk (j+1) (by omega);rw[List.getD_cons_succ]at this;rw[←this];congr 1;omega
def AM.cleared (M:AM) (j:Nat):AM:={M with L:=upd M.L j []}
theorem AM.Ok.cleared {M:AM}(h:M.Ok) (j:Nat):(M.cleared j).Ok:=by
 refine⟨h.n0,h.n1,h.l8,fun i hi d hd=> ?_,h.c0,fun i hi=> ?_,h.lf,h.lg⟩
 ·simp only[AM.cleared]at hd;by_cases e:i=j
  ·subst e;rw[al]at hd;cases hd
  ·rw[aw e]at hd;exact h.w8 i hi d hd
 ·simp only[AM.cleared];by_cases e:i=j
  ·subst e;rw[al];exact h.c0
  ·rw[aw e];exact h.len i hi
def nlz (S:List Int):V:=nlV (lnV S) (lnV S) .nils (.agg 50 (List.replicate 8 (.int .i64 0)))
theorem VF {S:List Int}:plV S [] .nils=nlz S:=by unfold plV nlz flV;rw[co];rfl
theorem Pt {hp:List Blk}{F:Ft}{m:Nat}{M:AM}(h:aI hp F m M) {k nn:Nat}{cp:Option Nat}{o b:Bool}{l c:Int}(hb:hp[m]?=some (.rw (cv k nn cp o b l c))) {j:Nat}(hj:j<M.n):
 ∃T y1 y3 y4,hp[k]?=some (.rw (.agg 57 T))∧T.length=M.n∧T[j]?=some (.agg 55 [y1,lnV (M.S j),y3,y4])∧y1.tag=24∧y3.tag=1∧y4.tag=50∧
  aI (hp.set k (.rw (.agg 57 (T.set j (nlz (M.S j)))))) F m (M.cleared j)∧Chg hp (hp.set k (.rw (.agg 57 (T.set j (nlz (M.S j)))))) F F∧(hp.set k (.rw (.agg 57 (T.set j (nlz (M.S j))))))[m]?=hp[m]?:=by
 obtain⟨k',fk,ne,⟨cp',left,h1,h2,h3⟩,sv,ow,h4,h5⟩:=h.mb;have hkk:k=k':=wN (Blk.rw.inj (Option.some.inj (hb.symm.trans h1)));subst hkk;have hkl:=aj h4;have hm:(hp.set k (.rw (.agg 57 ((tab M.n fun i=>plV (M.S i) (M.L i) (sv i)).set j (nlz (M.S j))))))[m]?=hp[m]?:=List.getElem?_set_ne (Ne.symm ne);refine⟨_,lnV (au (M.S j) (M.L j)),sv j,flV (M.L j),h4,iI _ _,av (f:=fun i=>plV (M.S i) (M.L i) (sv i)) hj,rfl,(h5 j hj).tag,rfl,⟨h.ok.cleared j,h.inn.set,h.fm,k,fk,ne,⟨cp',left,hm.trans h1,h2,h3⟩,upd sv j .nils,ow,?_,fun x hx=> ?_⟩,iH.mono (fun x hx=>by cases hx;exact fk) fun _=> .inr,hm⟩
 ·rw[dg,List.getElem?_set_self hkl];have:(upd (fun i=>plV (M.S i) (M.L i) (sv i)) j (nlz (M.S j)))=fun i=>plV ((M.cleared j).S i) ((M.cleared j).L i) (upd sv j .nils i):=by
   funext x;unfold upd AM.cleared;simp only;by_cases e:x=j
   ·subst e;rw[if_pos rfl,al,if_pos rfl,VF]
   ·rw[if_neg e,aw e,if_neg e]
  rw[this];rfl
 ·have hx':x<M.n:=hx;unfold AM.cleared;simp only;by_cases e:x=j
  ·subst e;rw[al,al];exact .nil
  ·rw[aw e,aw e];exact(h5 x hx').eqv (fun y hy=>List.getElem?_set_ne (Ne.symm hy.2.2.1)) fun _ h=>h
def AM.crashN:AM→List Int→Nat→Nat→AM
 |M,_,_,0=>M
 |M,ks,i,n+1=>if M.L i=[]then M.crashN ks (i+1) n else((M.sureN i ((nxK ks).1%(((M.L i).length:Int)+1)).toNat).cleared i).crashN (nxK ks).2 (i+1) n
def AM.crash (M:AM) (ks:List Int):AM:={M.crashN ks 0 M.n with off:=false,left:=-1}
theorem Em {ks:List Int}(hr:∀k∈ks,-9223372036854775808≤k∧k≤9223372036854775807):0≤(nxK ks).1∧(nxK ks).1≤9223372036854775807∧∀k∈(nxK ks).2,-9223372036854775808≤k∧k≤9223372036854775807:=by
 cases ks with
 |nil=>exact⟨by decide,by decide,hr⟩
 |cons k r=>
  have:=hr k List.mem_cons_self;refine⟨?_,?_,fun x hx=>hr x (List.mem_cons_of_mem _ hx)⟩
  ·simp only[nxK];split<;>omega
  ·simp only[nxK];split<;>omega
theorem wT {m:Nat}(L:List Blk) {nL:Nat}:∀(n i:Nat) {M:AM}{hp:List Blk}{F:Ft}{v:V}{ks:List Int},i+n=M.n→M.n=nL→M.count<1000000→aI hp F m M→lG hp F v ks→(∀k∈ks,-9223372036854775808≤k∧k≤9223372036854775807)→
 ∃hp' F' v',rc D L.length (.loop [0,4,13,14] eV) [(0,.ptr (.hp m) [] 59),(4,.fn eZ [.ptr (.loc L.length) [] 1]),(13,.int .i64 nL),(14,.int .i64 i)] ⟨L++[.rw v],hp⟩=
  some (.exit 0,[(0,.ptr (.hp m) [] 59),(4,.fn eZ [.ptr (.loc L.length) [] 1]),(13,.int .i64 nL),(14,.int .i64 nL),(15,.bool false)],⟨L++[.rw v'],hp'⟩)∧aI hp' F' m (M.crashN ks i n)∧Chg hp hp' F F'
 |0,i,M,hp,F,v,ks,hi,hn,hc,h,hK,hr=>by
  have:i=nL:=by omega
  subst this;refine⟨hp,F,v,?_,h,.refl _ _⟩;have d1:¬(i:Int)<i:=by omega
  rw[aa];simp only[go_sem,eV,d1]
 |n+1,i,M,hp,F,v,ks,hi,hn,hc,h,hK,hr=>by
  have hM:=h;obtain⟨k,fk,ne,⟨cp,left,h1,h2,h3⟩,sv,ow,h4,h5⟩:=h.mb;have hj:i<M.n:=by omega
  have g:=av (f:=fun q=>plV (M.S q) (M.L q) (sv q)) hj;have g0:plV (M.S i) (M.L i) (sv i)= .agg 55 [lnV (au (M.S i) (M.L i)),lnV (M.S i),sv i,flV (M.L i)]:=rfl;rw[g0]at g;have d1:(i:Int)<M.n:=by omega
  have d0:(0:Int)≤i:=by omega
  have d4:IntKind.i64.wrap ((i:Int)+1)=((i+1:Nat):Int):=ae (by omega) (by have:=h.ok.n1;omega);have hsl:=(h5 i hj).slen;rw[List.length_map]at hsl;have hlen:=h.ok.len i hj;have hsad:eD 55 (.sl (.hp k) [] 0 M.n cp 55) (.int .i64 (i:Int))=some (.ptr (.hp k) [i] 55):=by simp[go_sem,hj]
  subst hn;have z0:L.length<L.length+1:=by omega
  have vlt:V.locLt (L.length+1) v=true:=bE (Nat.zero_le _) hK.lt;unfold AM.crashN;by_cases hz:M.L i=[]
  ·rw[if_pos hz];obtain⟨hp',F',v',r1,r2,r3⟩:=wT L n (i+1) (by omega) rfl hc hM hK hr;refine⟨hp',F',v',?_,r2,r3⟩;rw[←r1,aa];have d5:¬(((M.L i).length:Nat):Int)>0:=by rw[hz];simp
   simp only[cv]at h1;generalize(tab M.n fun q=>plV (M.S q) (M.L q) (sv q))=T0 at*;generalize(M.L i).length=fz at*;simp only[go_sem,eV,d1,h1,hsad,h4,g,Zh,hsl,d5,d4,z0,vlt]
  ·rw[if_neg hz];obtain⟨k0,k1,k2⟩:=Em hr;obtain⟨v',c1,c2⟩:=Ue (L:=L++[.rw v]) (p:=L.length) hK hr (by simp);rw[xg]at c1;have hpos:0<(M.L i).length:=List.length_pos_iff.2 hz;have hq0:=Int.emod_nonneg (nxK ks).1 (show(((M.L i).length:Nat):Int)+1≠0 by omega);have hq1:=Int.emod_lt_of_pos (nxK ks).1 (show 0<(((M.L i).length:Nat):Int)+1 by omega);have w3:((nxK ks).1).tmod (((M.L i).length:Int)+1)=(((nxK ks).1%(((M.L i).length:Int)+1)).toNat:Nat):=by rw[Int.tmod_eq_emod_of_nonneg k0];omega
   generalize hQ:((nxK ks).1%(((M.L i).length:Int)+1)).toNat=Q at*;obtain⟨hp1,F1,s1,s2,s3,s4⟩:=vM hM hc h1 (j:=i) (n:=Q) hj (by omega) (L++[.rw v']);obtain⟨T,y1,y3,y4,t1,t2,t3,t4,t5,t6,t7,t8,t9⟩:=Pt s2 (s4.trans h1) (j:=i) hj;obtain⟨hp',F',v2,r1,r2,r3⟩:=wT L n (i+1) (nL:=M.n) (M:=(M.sureN i Q).cleared i) (by show i+1+n=M.n;omega) rfl hc t7 ((c2.chg s3).chg t8) k2;refine⟨hp',F',v2,?_,r2,(s3.trans t8).trans r3⟩;rw[←r1,aa];have vlt':V.locLt (L.length+1) v'=true:=bE (Nat.zero_le _) c2.lt;have d5:(((M.L i).length:Nat):Int)>0:=by omega
   have d6:IntKind.i64.wrap (((M.L i).length:Int)+1)=((M.L i).length:Int)+1:=ae (by omega) (by omega);have d7:¬((M.L i).length:Int)+1=0:=by omega
   have hTx:∀x,(T.set i x)[i]?=some x:=fun x=>List.getElem?_set_self (by rw[t2];exact hj);have hkl:=aj t1;have hkx:∀x,(hp1.set k x)[k]?=some x:=fun x=>List.getElem?_set_self hkl;simp only[cv,nlz,nlV]at h1⊢;clear r1 r2 r3 t7 t8 t9 s2 s3 hQ;generalize(tab M.n fun q=>plV (M.S q) (M.L q) (sv q))=T0 at*;generalize(M.L i).length=fz at*;generalize(nxK ks).1=K at*;have zt:(lnV ((M.sureN i Q).S i)).tag=24:=rfl;have zl0:V.locLt 0 (lnV ((M.sureN i Q).S i))=true:=jq;generalize lnV ((M.sureN i Q).S i)=Z at*;simp only[go_sem,eV,d1,h1,hsad,h4,g,hsl,d5,d4,c1,d6,d7,w3,s1,t1,t3,hkx,hTx,z0,vlt',zt,zl0,t4,t5,t6,List.set_set]
theorem wS:∀(n i:Nat) {M:AM}{ks:List Int},(M.crashN ks i n).n=M.n∧(M.crashN ks i n).count=M.count
 |0,_,_,_=>⟨rfl,rfl⟩
 |n+1,i,M,ks=>by
  unfold AM.crashN;split
  ·exact wS n (i+1)
  ·exact wS n (i+1)
theorem Iw {hp:List Blk}{F:Ft}{m:Nat}{M:AM}(h:aI hp F m M) (hc:M.count<1000000) {v:V}{ks:List Int}(hK:lG hp F v ks) (hr:∀k∈ks,-9223372036854775808≤k∧k≤9223372036854775807) (L:List Blk):
 ∃hp' F',rf D mJ [.ptr (.hp m) [] 59,v] ⟨L,hp⟩=some (.tup [],⟨L,hp'⟩)∧aI hp' F' m (M.crash ks)∧Chg hp hp' F F':=by
 obtain⟨hp1,F1,v1,r1,r2,r3⟩:=wT L M.n 0 (by omega) rfl hc h hK hr;obtain⟨k,fk,ne,⟨cp,left,h1,h2,h3⟩,_⟩:=h.mb;have n1:=(wS M.n 0 (M:=M) (ks:=ks)).1;have hM1:=r2;obtain⟨k',fk',ne',⟨cp',left',q1,q2,q3⟩,sv,ow,q4,q5⟩:=r2.mb;generalize hN:M.crashN ks 0 M.n=N at*;have hml:=aj q1;refine⟨hp1.set m (.rw (cv k' N.n cp' false false left' N.count)),F1,?_,?_,r3.trans (iH.mono (fun x hx=>by cases hx;exact r2.fm) fun _=> .inr)⟩
 ·have hvo:v.ok=true:=by cases hK<;>rfl
  have vt:=hK.tag;simp only[cv]at h1 q1⊢;rw[show((0:Nat):Int)=0 from rfl]at r1
  rw[ab zo rfl];have hkx:∀x,(hp1.set m x)[m]?=some x:=fun x=>List.getElem?_set_self hml;simp only[go_sem,h1,r1,q1,hvo,vt,hkx,List.set_set]
 ·have ok:=r2.ok;unfold AM.crash;rw[hN];refine⟨⟨ok.n0,ok.n1,ok.l8,ok.w8,ok.c0,ok.len,by show(-1:Int)≤-1;decide,by show(-1:Int)≤9223372036854775807;decide⟩,r2.inn.set,r2.fm,k',fk',ne',⟨cp',left',List.getElem?_set_self hml,q2,fun h=>absurd h (by show¬(0:Int)≤-1;decide)⟩,sv,ow,?_,fun x hx=> ?_⟩
  ·rw[List.getElem?_set_ne ne'];exact q4
  ·exact(q5 x hx).eqv (fun y hy=>List.getElem?_set_ne (Ne.symm hy.2.1)) fun _ h=>h
theorem MP {M:AM}{i q:Nat}(hi:i<M.n) (hq:q<8) (v:Int):((M.store i q v).2=0∧(M.store i q v).1.off=M.off∧(M.store i q v).1.now i=(M.now i).set q v)∨((M.store i q v).2=4∧(M.store i q v).1.off=true):=by
 unfold AM.store;rw[if_neg (by omega)];split
 ·exact .inr ⟨rfl,rfl⟩
 ·refine .inl ⟨rfl,rfl,?_⟩;simp only[HR,Zh,Dn.mk0];rfl
theorem As {at':Nat}{l:List Int}(hl:l.length=8):∀(n j:Nat) {M:AM},at'<M.n→j+n=8→∀o:List Int,o.length=8→M.now at'=tB l o j→
 ((M.layFrom at' l j n).2=0∧(M.layFrom at' l j n).1.off=M.off∧(M.layFrom at' l j n).1.now at'=l)∨((M.layFrom at' l j n).2=4∧(M.layFrom at' l j n).1.off=true)
 |0,j,M,_,hj,o,ho,hm=>by
  left;refine⟨rfl,rfl,?_⟩;have:j=8:=by omega
  subst this;show M.now at'=l;rw[hm];unfold tB;rw[List.take_of_length_le (by omega),List.drop_eq_nil_iff.2 (by omega),List.append_nil]
 |n+1,j,M,hi,hj,o,ho,hm=>by
  have hs:=MP hi (show j<8 by omega) (l.getD j 0);have hn:(M.store at' j (l.getD j 0)).1.n=M.n:=AM.store_n;unfold AM.layFrom;rcases hs with⟨h1,h2,h3⟩|⟨h1,h2⟩
  ·rw[if_neg (by rw[h1];simp)];have:=As hl n (j+1) (M:=(M.store at' j (l.getD j 0)).1) (by rw[hn];exact hi) (by omega) o ho (by rw[h3,hm];exact Ga hl ho (by omega));rw[h2]at this;exact this
  ·rw[if_pos (by rw[h1];decide)];exact .inr ⟨h1,h2⟩
theorem J5 {M:AM}(hok:M.Ok) {at':Nat}{l:List Int}(hl:l.length=8) (hi:at'<M.n):
 ((M.layFrom at' l 0 8).2=0∧(M.layFrom at' l 0 8).1.off=M.off∧(M.layFrom at' l 0 8).1.now at'=l)∨((M.layFrom at' l 0 8).2=4∧(M.layFrom at' l 0 8).1.off=true):=
 As hl 8 0 hi rfl (M.now at') (hok.now8 hi) (by simp[tB])
theorem uO {M:AM}{i:Nat}(hi:i<M.n):((M.flush 0 i).2=0∧(M.flush 0 i).1.off=M.off∧Fl (M.flush 0 i).1 i∧∀j,(M.flush 0 i).1.now j=M.now j)∨((M.flush 0 i).2=4∧(M.flush 0 i).1.off=true):=by
 unfold AM.flush;rw[if_neg (by omega)];split
 ·exact .inr ⟨rfl,rfl⟩
 ·refine .inl ⟨rfl,rfl,?_,fun j=> ?_⟩
  ·rw[Zh];exact BQ
  ·exact AM.now_flushed
theorem yJ {M:AM}:((M.fence 0).2=0∧(M.fence 0).1.off=M.off∧(∀j,j<M.n→Fl M j→Sur (M.fence 0).1 j)∧∀j,(M.fence 0).1.now j=M.now j)∨((M.fence 0).2=4∧(M.fence 0).1.off=true):=by
 unfold AM.fence;rw[if_neg (by omega)];split
 ·exact .inr ⟨rfl,rfl⟩
 ·refine .inl ⟨rfl,?_,fun j hj hf=> ?_,fun j=> ?_⟩
  ·exact(bJ (M:=M.stepped) (c:=0) M.n).2.2.1
  ·have h2:Fl M.stepped j:=hf;exact Mr h2 hj
  ·exact tG M.n
theorem Ef {M:AM}{c i:Int}{j:Nat}(h:Sur M j):Sm M (M.flush c i).1 j:=by
 unfold AM.flush;split
 ·exact .refl _ _
 ·split
  ·exact CD
  ·refine⟨?_,rfl⟩;simp only[AM.flushed,AM.stepped];by_cases e:j=i.toNat
   ·subst e;rw[al];have e2:M.L i.toNat=[]:=h;rw[e2];rfl
   ·exact aw e
theorem Gf {M:AM}{i:Nat}{j:Nat}(h:Fl M j):Fl (M.flush 0 i).1 j:=by
 unfold AM.flush;split
 ·exact h
 ·split
  ·exact h
  ·by_cases e:j=i
   ·subst e;show Fl (M.stepped.flushed 0 (j:Int).toNat) j;rw[Zh];exact BQ
   ·unfold Fl at*;simp only[AM.flushed,AM.stepped,Zh];show flN 0 (upd M.L i _ j)=(upd M.L i _ j).length;rw[aw e];exact h
theorem MT {w:AW}(h:Inv w.x) {l:List Int}(hl:l.length=8) (q:Nat):
 (w.x.A.left=0∧w.write l q=(w,10))∨∃k M,w.x.A.f≤k∧k<w.x.A.l∧w.x.A.st k=0∧M.Ok∧M.n=w.x.M.n∧(∀j,j≠k→Sm w.x.M M j)∧
  ((w.write l q=({w with x:={w.x with M:=M,A:=w.x.A.put k 1},dir:=upd w.dir q (k:Int)},0)∧M.off=w.x.M.off∧M.now k=l∧Fl M k)∨
   (w.write l q=({w with x:={w.x with M:=M,A:=w.x.A.put k 1}},4)∧M.off=true)):=by
 cases hf:w.x.A.first with
 |none=>
  left;have ha:w.x.A.alloc=(w.x.A,0,10):=by unfold AF.alloc;rw[hf]
  refine⟨AF.left_zero.2 hf,?_⟩;have:w.x.lay l=(w.x,0,10):=by unfold AS.lay;rw[ha,if_pos (by simp)]
  unfold AW.write;rw[this,if_pos (by simp)]
 |some k=>
  right;obtain⟨h1,h2,h3,_⟩:=nc h.ok.A hf;have ha:w.x.A.alloc=(w.x.A.put k 1,(k:Int),0):=by unfold AF.alloc;rw[hf]
  have hkn:k<w.x.M.n:=by rw[←h.ok.l];exact h2
  have hlo:=J5 h.ok.M hl hkn;have hok:(w.x.M.layFrom k l 0 8).1.Ok:=h.ok.M.layFrom;have hn:(w.x.M.layFrom k l 0 8).1.n=w.x.M.n:=AM.layFrom_n;have hsm:∀j,j≠k→Sm w.x.M (w.x.M.layFrom k l 0 8).1 j:=fun j hj=>ni (by rw[Zh];exact hj) 8 0 _;rcases hlo with⟨g1,g2,g3⟩|⟨g1,g2⟩
  ·have hlay:w.x.lay l=({w.x with A:=w.x.A.put k 1,M:=(w.x.M.layFrom k l 0 8).1},(k:Int),0):=by unfold AS.lay;rw[ha,if_neg (by simp)];simp only[g1];rw[if_neg (by simp)]
   have hfo:=uO (M:=(w.x.M.layFrom k l 0 8).1) (i:=k) (by rw[hn];exact hkn);have hfk:((w.x.M.layFrom k l 0 8).1.flush 0 k).1.Ok:=by
    unfold AM.flush;split
    ·exact hok
    ·split
     ·exact hok.out
     ·exact hok.stepped.flushed _ _
   refine⟨k,((w.x.M.layFrom k l 0 8).1.flush 0 k).1,h1,h2,h3,hfk,bz.2.trans hn,fun j hj=>(hsm j hj).trans (FT (by rw[Zh];exact hj)),?_⟩;rcases hfo with⟨f1,f2,f3,f4⟩|⟨f1,f2⟩
   ·left;refine⟨?_,f2.trans g2,by rw[f4];exact g3,f3⟩;unfold AW.write;rw[hlay];simp only[f1];rw[if_neg (by simp),if_neg (by simp)]
   ·right;refine⟨?_,f2⟩;unfold AW.write;rw[hlay];simp only[f1];rw[if_neg (by simp),if_pos (by decide)]
  ·have hlay:w.x.lay l=({w.x with A:=w.x.A.put k 1,M:=(w.x.M.layFrom k l 0 8).1},0,4):=by unfold AS.lay;rw[ha,if_neg (by simp)];simp only[g1];rw[if_pos (by decide)]
   refine⟨k,(w.x.M.layFrom k l 0 8).1,h1,h2,h3,hok,hn,hsm,.inr ⟨?_,g2⟩⟩;unfold AW.write;rw[hlay];simp only;rw[if_pos (by decide)]
def AK (x:AS) (v:Int):Prop:=∃q:Nat,v=q∧10≤q∧q<x.M.n∧x.A.st q=1∧aT x.work q=false∧aT x.base q=false∧aT x.mark q=false
structure Ck (x0:AS) (G:List (Nat×Int)) (w:AW):Prop where
 inv:Inv w.x
 f:w.x.A.f=10
 base:w.x.base=x0.base
 mark:w.x.mark=x0.work
 is:w.x.is=true
 dir:w.x.dir=x0.dir
 n:w.x.M.n=x0.M.n
 tbl:w.tbl=x0.work
 d0:∀k,k<8→AK w.x (w.x.dir k)
 d1:∀k,k<8→AK w.x (w.dir k)
 dj:∀k l,k<8→l<8→k≠l→w.dir k≠w.dir l
 safe:∀j:Nat,(j<10∨aT x0.base j=true∨ux x0.dir j=true)→Sur w.x.M j∧w.x.M.S j=x0.M.S j
 lin:∀j:Nat,aT x0.work j=true→w.x.M.now j=x0.M.now j∧(aT x0.base j=true∨((0:Nat),(j:Int))∈w.st∨Fl w.x.M j)
 lf:∀k:Nat,k<7→((1:Nat),(k:Int))∈w.st∨(w.x.M.now (w.dir k).toNat=bj x0.work k∧Fl w.x.M (w.dir k).toNat)
 rt:((2:Nat),(0:Int))∈w.st∨(w.x.M.now (w.dir 7).toNat=aE w.dir∧Fl w.x.M (w.dir 7).toNat)
 fe:((3:Nat),(0:Int))∈w.st∨((∀j:Nat,aT x0.work j=true→Sur w.x.M j)∧∀k,k<8→Sur w.x.M (w.dir k).toNat)
 suf:w.st<:+G++[(2,0),(3,0),(4,0)]
 g:∀p∈G,(p.1=0∧∃q:Nat,p.2=q∧q<x0.M.n)∨(p.1=1∧∃k:Nat,p.2=k∧k<7)
theorem Ij {p:Nat×Int}{r:List (Nat×Int)}:∀{G:List (Nat×Int)},p::r<:+G++[(2,0),(3,0),(4,0)]→
 (p∈G∧[(2,0),(3,0),(4,0)]<:+r)∨(p=(2,0)∧r=[(3,0),(4,0)])∨(p=(3,0)∧r=[(4,0)])∨(p=(4,0)∧r=[])
 |[],h=>by
  right;rw[List.nil_append]at h;rcases List.suffix_cons_iff.1 h with h|h
  ·simp only[List.cons.injEq]at h;exact .inl h
  ·rcases List.suffix_cons_iff.1 h with h|h
   ·simp only[List.cons.injEq]at h;exact .inr (.inl h)
   ·rcases List.suffix_cons_iff.1 h with h|h
    ·simp only[List.cons.injEq]at h;exact .inr (.inr h)
    ·exact absurd (List.suffix_nil.1 h) (by simp)
 |g::G,h=>by
  rw[List.cons_append]at h;rcases List.suffix_cons_iff.1 h with h|h
  ·simp only[List.cons.injEq]at h;rw[h.1,h.2];exact .inl ⟨List.mem_cons_self,List.suffix_append _ _⟩
  ·rcases Ij h with⟨h1,h2⟩|h
   ·exact .inl ⟨List.mem_cons_of_mem _ h1,h2⟩
   ·exact .inr h
section
variable {x0 : AS} {G : List (Nat × Int)} {w : AW}
def Old (x0:AS) (j:Nat):Prop:=j<10∨aT x0.base j=true∨ux x0.dir j=true
theorem fY {d:Nat→Int}{j:Nat}:ux d j=true↔∃k,k<8∧d k=j:=by unfold ux;simp only[List.any_eq_true,List.mem_range,Zi]
theorem Ck.kpB (h:Ck x0 G w) {j:Nat}(hj:aT x0.base j=true∨aT x0.work j=true):Kp w.x j:=by
 have hs:w.x.sh j=true:=by rw[BZ h.inv.ok,h.base,h.mark,h.is];rcases hj with hj|hj<;>simp[hj]
 exact⟨.inr ⟨h.inv.s1 j hs,.inl hs⟩⟩
theorem AK.kp {x:AS}{v:Int}(h:AK x v):Kp x v.toNat:=by obtain⟨q,rfl,_,_,h1,h2,_⟩:=h;rw[Zh];exact⟨.inr ⟨h1,.inr h2⟩⟩
theorem Ck.kpO (h:Ck x0 G w) {j:Nat}(hj:Old x0 j):Kp w.x j:=by
 rcases hj with hj|hj|hj
 ·exact⟨.inl (by rw[h.f];exact hj)⟩
 ·exact h.kpB (.inl hj)
 ·obtain⟨k,hk,e⟩:=fY.1 hj;have:=(h.d0 k hk).kp;rw[h.dir,e,Zh]at this;exact this
theorem Nr {d:Nat→Int}{v:Int}:aE (upd d 7 v)=aE d:=by
 have e:∀j,j<7→upd d 7 v j=d j:=fun j hj=>aw (by omega);unfold aE cZ rlL;have h1:((List.range 7).all fun j=>decide (0≤upd d 7 v (0+j))&&decide (upd d 7 v (0+j)<1024))=(List.range 7).all fun j=>decide (0≤d (0+j))&&decide (d (0+j)<1024):=by
  apply Bool.eq_iff_iff.2;simp only[List.all_eq_true,List.mem_range];constructor
  ·intro hh j hj;have:=hh j hj;rw[e (0+j) (by omega)]at this;exact this
  ·intro hh j hj;rw[e (0+j) (by omega)];exact hh j hj
 have h2:((List.range 8).map fun j=>if j<7 then ior .u64 4294967296 (IntKind.u64.wrap (upd d 7 v j))else 0)=(List.range 8).map fun j=>if j<7 then ior .u64 4294967296 (IntKind.u64.wrap (d j))else 0:=by
  apply List.map_congr_left;intro j _;split
  ·rename_i hj;rw[e j hj]
  ·rfl
 rw[h1,h2]
def Off (x0:AS) (w w':AW):Prop:=w'.x.M.off=true∧w'.st=w.st∧w'.x.M.Ok∧w'.x.M.n=w.x.M.n∧∀j,Old x0 j→Sur w'.x.M j∧w'.x.M.S j=x0.M.S j
structure Did (w w':AW) (p:Nat×Int) (r:List (Nat×Int)):Prop where
 st:w'.st=r
 work:w'.x.work=w.x.work
 off:w'.x.M.off=w.x.M.off
 b:w'.b=w.b
 slot:w'.slot=w.slot
 seq:w'.seq=w.seq
 left:w'.x.A.left+wrN p=w.x.A.left
theorem O7 {p:Nat×Int}{r l:List (Nat×Int)}(h:p::r<:+l):r<:+l:=(List.suffix_cons p r).trans h
theorem Ck.step (h:Ck x0 G w) {p:Nat×Int}{r:List (Nat×Int)}(hw:w.st=p::r) (hr:r≠[]):
 (∃w',w.step=(w',false,0)∧Ck x0 G w'∧Did w w' p r)∨(w.x.A.left=0∧wrN p=1)∨(∃w',w.step=(w',false,4)∧Off x0 w w'):=by
 have hd:decide (r=[])=false:=decide_eq_false hr;have hsuf:=h.suf;rw[hw]at hsuf;have hst:=O7 hsuf;have mem:∀q:Nat×Int,q∈w.st→q≠p→q∈r:=fun q hq hne=>by
  rw[hw]at hq;rcases List.mem_cons.1 hq with e|e
  ·exact absurd e hne
  ·exact e
 have ok:=h.inv.ok;have memo:∀M:AM,M.Ok→M.n=w.x.M.n→M.off=w.x.M.off→(∀j,M.now j=w.x.M.now j)→(∀j,Sur w.x.M j→Sm w.x.M M j)→(∀j,j<w.x.M.n→Fl w.x.M j→Fl M j)→w.doStep p=({w with x:={w.x with M:=M}},0)→wrN p=0→
  (∀q:Nat,p=(0,(q:Int))→Fl M q)→p.1≠1→p.1≠2→(p=(3,0)→(∀j:Nat,aT x0.work j=true→Sur M j)∧∀k,k<8→Sur M (w.dir k).toNat)→
  (∃w',w.step=(w',false,0)∧Ck x0 G w'∧Did w w' p r):=by
  intro M m1 m2 m3 m4 m5 m6 m7 m8 m9 m10 m11 m12;refine⟨{w with x:={w.x with M:=M},st:=r},?_,⟨h.inv.withM m1 m2,h.f,h.base,h.mark,h.is,h.dir,m2.trans h.n,h.tbl,fun k hk=> ?_,fun k hk=> ?_,h.dj,fun j hj=> ?_,fun j hj=> ?_,fun k hk=> ?_,?_,?_,hst,h.g⟩,⟨rfl,rfl,m3,rfl,rfl,rfl,by rw[m8];rfl⟩⟩
  ·unfold AW.step;rw[hw];simp only[m7,hd,if_true]
  ·obtain⟨q,e1,e2,e3,e4⟩:=h.d0 k hk;exact⟨q,e1,e2,by rw[m2];exact e3,e4⟩
  ·obtain⟨q,e1,e2,e3,e4⟩:=h.d1 k hk;exact⟨q,e1,e2,by rw[m2];exact e3,e4⟩
  ·have s:=m5 j (h.safe j hj).1;exact⟨s.sur (h.safe j hj).1,s.S.trans (h.safe j hj).2⟩
  ·obtain⟨e1,e2⟩:=h.lin j hj;have hjn:j<w.x.M.n:=by obtain⟨i,i1,i2,i3⟩:=bx.1 hj;have:=ok.k.inn i i1 (by rw[h.mark];exact i2);rw[h.mark,i3]at this;have hl:=ok.l;omega
   refine⟨(m4 j).trans e1,?_⟩;rcases e2 with e2|e2|e2
   ·exact .inl e2
   ·by_cases e:((0:Nat),(j:Int))=p
    ·exact .inr (.inr (m9 j e.symm))
    ·exact .inr (.inl (mem _ e2 e))
   ·exact .inr (.inr (m6 j hjn e2))
  ·rcases h.lf k hk with e|e
   ·exact .inl (mem _ e fun e2=>m10 (by rw[←e2]))
   ·obtain⟨q,q1,_,q3,_⟩:=h.d1 k (by omega);exact .inr ⟨(m4 _).trans e.1,m6 _ (by rw[q1,Zh];exact q3) e.2⟩
  ·rcases h.rt with e|e
   ·exact .inl (mem _ e fun e2=>m11 (by rw[←e2]))
   ·obtain⟨q,q1,_,q3,_⟩:=h.d1 7 (by omega);exact .inr ⟨(m4 _).trans e.1,m6 _ (by rw[q1,Zh];exact q3) e.2⟩
  ·rcases h.fe with e|e
   ·by_cases e2:((3:Nat),(0:Int))=p
    ·exact .inr (m12 e2.symm)
    ·exact .inl (mem _ e e2)
   ·exact .inr ⟨fun j hj=>(m5 j (e.1 j hj)).sur (e.1 j hj),fun k hk=>(m5 _ (e.2 k hk)).sur (e.2 k hk)⟩
 have off4:∀(M:AM) (A:AF),M.off=true→M.Ok→M.n=w.x.M.n→(∀j,Old x0 j→Sm w.x.M M j)→w.doStep p=({w with x:={w.x with M:=M,A:=A}},4)→∃w',w.step=(w',false,4)∧Off x0 w w':=by
  intro M A m1 m2 m3 m4 m5;refine⟨{w with x:={w.x with M:=M,A:=A}},?_,m1,rfl,m2,m3,fun j hj=> ?_⟩
  ·unfold AW.step;rw[hw];simp only[m5];rw[if_neg (by decide),if_neg (by decide),←hw]
  ·have s:=m4 j hj;exact⟨s.sur (h.safe j hj).1,s.S.trans (h.safe j hj).2⟩
 have wrt:∀(l:List Int) (q:Nat),l.length=8→q<8→w.doStep p=w.write l q→wrN p=1→((3:Nat),(0:Int))∈r→((q<7∧p=(1,(q:Int))∧l=bj x0.work q∧((2:Nat),(0:Int))∈r)∨(q=7∧p=(2,0)∧l=aE w.dir))→
  (∃w',w.step=(w',false,0)∧Ck x0 G w'∧Did w w' p r)∨(w.x.A.left=0∧wrN p=1)∨(∃w',w.step=(w',false,4)∧Off x0 w w'):=by
  intro l q hl hq h6 h7 h3 hpq;rcases MT h.inv hl q with⟨g1,_⟩|⟨k,M,k1,k2,k3,m1,m2,m3,hres⟩
  ·exact .inr (.inl ⟨g1,h7⟩)
  ·have hk10:10≤k:=by rw[←h.f];exact k1
   have hkp:∀j,Kp w.x j→j≠k:=fun j hj e=>by
    subst e;rcases hj.one with e|e
    ·omega
    ·rw[k3]at e;cases e
   rcases hres with⟨e1,e2,e3,e4⟩|⟨e1,e2⟩
   ·left;have hp0:p.1≠0:=by rcases hpq with⟨_,e,_⟩|⟨_,e,_⟩<;>rw[e]<;>simp
    have hiv:Inv {w.x with M:=M,A:=w.x.A.put k 1}:=(h.inv.taken k3).withM m1 m2;have hlp:=AF.left_put (A:=w.x.A) (k:=k) (x:=1) k1 k2;rw[if_pos k3,if_neg (by decide)]at hlp;have hnw:∀t,(aT t k=true→w.x.A.st k=1)→aT t k=false:=fun t ht=>by
     cases e:aT t k
     ·rfl
     ·have:=ht e;rw[k3]at this;cases this
    have hsh:=fun(j:Nat) (e:aT w.x.base j=true∨aT w.x.mark j=true)=>h.inv.s1 j (by rw[BZ ok,h.is];rcases e with e|e<;>simp[e]);have hold:∀v,AK w.x v→AK {w.x with M:=M,A:=w.x.A.put k 1} v:=by rintro v ⟨a,a1,a2,a3,a4,a5⟩;refine⟨a,a1,a2,by simp only;rw[m2];exact a3,?_,a5⟩;simp only[AF.put];rw[aw (fun e=>by rw[e,k3]at a4;cases a4)];exact a4
    have hnewL:AK {w.x with M:=M,A:=w.x.A.put k 1} (k:Int):=by refine⟨k,rfl,hk10,by simp only;rw[m2,←ok.l];exact k2,by simp only[AF.put];exact al,hnw _ fun e=>h.inv.w1 k e,hnw _ fun e=>hsh k (.inl e),hnw _ fun e=>hsh k (.inr e)⟩
    have hdne:∀i,i<8→w.dir i≠(k:Int):=fun i hi e=>by
     obtain⟨a,a1,_,_,a4,_⟩:=h.d1 i hi;have:a=k:=by rw[a1]at e;omega
     rw[this,k3]at a4;cases a4
    refine⟨{w with x:={w.x with M:=M,A:=w.x.A.put k 1},dir:=upd w.dir q (k:Int),st:=r},?_,⟨hiv,h.f,h.base,h.mark,h.is,h.dir,m2.trans h.n,h.tbl,fun i hi=>hold _ (h.d0 i hi),fun i hi=> ?_,fun i j hi hj hne=> ?_,fun j hj=> ?_,fun j hj=> ?_,fun i hi=> ?_,?_,.inl h3,hst,h.g⟩,⟨rfl,rfl,e2,rfl,rfl,rfl,?_⟩⟩
    ·unfold AW.step;rw[hw];simp only[h6,e1,hd,if_true]
    ·simp only[upd];split
     ·exact hnewL
     ·exact hold _ (h.d1 i hi)
    ·simp only[upd];split
     ·rename_i e5;rw[if_neg (by omega)];exact fun e=>hdne j hj e.symm
     ·split
      ·exact hdne i hi
      ·exact h.dj i j hi hj hne
    ·have s:=m3 j (hkp j (h.kpO hj));exact⟨s.sur (h.safe j hj).1,s.S.trans (h.safe j hj).2⟩
    ·have s:=m3 j (hkp j (h.kpB (.inr hj)));refine⟨s.now.trans (h.lin j hj).1,(h.lin j hj).2.imp id fun e=>e.imp (fun e=>mem _ e fun e2=>hp0 (by rw[←e2])) s.fl⟩
    ·simp only;by_cases hiq:i=q
     ·subst hiq;right;rw[al,Zh];rcases hpq with⟨_,_,e,_⟩|⟨e,_⟩
      ·exact⟨e3.trans e,e4⟩
      ·omega
     ·rw[aw hiq];rcases h.lf i hi with e|e
      ·left;refine mem _ e fun e2=> ?_;rcases hpq with⟨_,e5,_⟩|⟨_,e5,_⟩
       ·rw[e5]at e2;simp only[Zk,true_and]at e2;omega
       ·rw[e5]at e2;simp at e2
      ·have s:=m3 _ (hkp _ (h.d1 i (by omega)).kp);exact .inr ⟨s.now.trans e.1,s.fl e.2⟩
    ·rcases hpq with⟨_,_,_,e⟩|⟨e,_,e5⟩
     ·exact .inl e
     ·right;subst e;simp only;rw[al,Zh,Nr];exact⟨e3.trans e5,e4⟩
    ·rw[h7];simp only;omega
   ·exact .inr (.inr (off4 M _ e2 m1 m2 (fun j hj=>m3 j (hkp j (h.kpO hj))) (by rw[h6];exact e1)))
 have surO:∀j,Old x0 j→Sur w.x.M j:=fun j hj=>(h.safe j hj).1;rcases Ij hsuf with⟨hpG,h234⟩|⟨rfl,rfl⟩|⟨rfl,rfl⟩|⟨_,e⟩
 ·have h2:((2:Nat),(0:Int))∈r:=h234.subset (by simp);have h3:((3:Nat),(0:Int))∈r:=h234.subset (by simp);rcases h.g p hpG with⟨p1,q,p2,p3⟩|⟨p1,k,p2,p3⟩
  ·have hp:p=(0,(q:Int)):=by rw[←p1,←p2]
   have hqn:q<w.x.M.n:=by rw[h.n];exact p3
   have hdo:w.doStep p=({w with x:={w.x with M:=(w.x.M.flush 0 q).1}},(w.x.M.flush 0 q).2):=by rw[hp];rfl
   have hfk:(w.x.M.flush 0 q).1.Ok:=by
    unfold AM.flush;split
    ·exact ok.M
    ·split
     ·exact ok.M.out
     ·exact ok.M.stepped.flushed _ _
   rcases uO hqn with⟨f1,f2,f3,f4⟩|⟨f1,f2⟩
   ·left;refine memo _ hfk bz.2 f2 f4 (fun j hj=>Ef hj) (fun j _ hj=>Gf hj) (by rw[hdo,f1]) (by rw[hp];rfl) (fun q' e=> ?_) (by rw[hp];simp) (by rw[hp];simp) (fun e=>by rw[hp]at e;simp at e);rw[hp]at e;simp only[Zk,true_and]at e;have:q'=q:=by omega
    rw[this];exact f3
   ·exact .inr (.inr (off4 _ w.x.A f2 hfk bz.2 (fun j hj=>Ef (surO j hj)) (by rw[hdo,f1])))
  ·have hp:p=(1,(k:Int)):=by rw[←p1,←p2]
   exact wrt (bj x0.work k) k (px _ _) (by omega) (by rw[hp,←h.tbl];rfl) (by rw[hp];rfl) h3 (.inl ⟨p3,hp,rfl,h2⟩)
 ·exact wrt (aE w.dir) 7 (pk _) (by decide) rfl rfl (by simp) (.inr ⟨rfl,rfl,rfl⟩)
 ·have hdo:w.doStep (3,0)=({w with x:={w.x with M:=(w.x.M.fence 0).1}},(w.x.M.fence 0).2):=rfl;have hfk:(w.x.M.fence 0).1.Ok∧(w.x.M.fence 0).1.n=w.x.M.n:=by
   unfold AM.fence;split
   ·exact⟨ok.M,rfl⟩
   ·split
    ·exact⟨ok.M.out,rfl⟩
    ·exact⟨rC ok.M.stepped _,(bJ (M:=w.x.M.stepped) (c:=0) _).1⟩
  rcases yJ (M:=w.x.M)with⟨f1,f2,f3,f4⟩|⟨f1,f2⟩
  ·left;refine memo _ hfk.1 hfk.2 f2 f4 (fun j hj=>Bg hj) (fun j hj hf=>(f3 j hj hf).fl) (by rw[hdo,f1]) rfl (fun q e=>by simp at e) (by decide) (by decide) (fun _=>⟨fun j hj=> ?_,fun k hk=> ?_⟩)
   ·have hjn:j<w.x.M.n:=by obtain⟨i,i1,i2,i3⟩:=bx.1 hj;have:=ok.k.inn i i1 (by rw[h.mark];exact i2);rw[h.mark,i3]at this;have hl:=ok.l;omega
    rcases(h.lin j hj).2 with e|e|e
    ·exact f3 j hjn (surO j (.inr (.inl e))).fl
    ·rw[hw]at e;simp at e
    ·exact f3 j hjn e
   ·obtain⟨q,q1,_,q3,_⟩:=h.d1 k hk;rw[q1,Zh];by_cases hk7:k=7
    ·subst hk7;rcases h.rt with e|e
     ·rw[hw]at e;simp at e
     ·rw[q1,Zh]at e;exact f3 q q3 e.2
    ·rcases h.lf k (by omega)with e|e
     ·rw[hw]at e;simp at e
     ·rw[q1,Zh]at e;exact f3 q q3 e.2
  ·exact .inr (.inr (off4 _ w.x.A f2 hfk.1 hfk.2 (fun j hj=>Bg (surO j hj)) (by rw[hdo,f1])))
 ·exact absurd e hr
end
structure vh (t:Nat→Ent):Prop where
 e:∀i,i<49→cj (t i)=true
 j:∀i j,i<49→j<49→i≠j→(t i).kind≠0→(t j).kind≠0→(t i).line≠(t j).line
theorem xt {e:Ent}:cj e=true↔(0≤e.kind∧e.kind≤4)∧(0≤e.ver∧e.ver≤16777215)∧(0≤e.line∧e.line≤1023)∧(e.kind=0→e.line=0):=by unfold cj win;simp only[Zj,Zi,Bool.not_eq_true',Bool.and_eq_false_iff,decide_eq_false_iff_not];omega
theorem vh.upd {t:Nat→Ent}(h:vh t) {i:Nat}{e:Ent}(he:cj e=true) (hn:e.kind≠0→∀j,j<49→j≠i→(t j).kind≠0→(t j).line≠e.line):vh (updE t i e):=by
 refine⟨fun j hj=> ?_,fun a b ha hb hne h1 h2=> ?_⟩
 ·unfold updE;split
  ·exact he
  ·exact h.e j hj
 ·unfold updE at*;by_cases e1:a=i
  ·rw[if_pos e1]at h1⊢;have e2:b≠i:=by omega
   rw[if_neg e2]at h2⊢;exact fun e=>hn h1 b hb e2 h2 e.symm
  ·rw[if_neg e1]at h1⊢;by_cases e2:b=i
   ·rw[if_pos e2]at h2⊢;exact hn h2 a ha e1 h1
   ·rw[if_neg e2]at h2⊢;exact h.j a b ha hb hne h1 h2
structure Img (x:AS):Prop where
 inv:Inv x
 f:x.A.f=10
 is:x.is=false
 dl:∀k,k<8→∃q:Nat,x.dir k=q∧10≤q∧q<x.M.n∧x.A.st q=1∧aT x.work q=false∧aT x.base q=false
 dj:∀k l,k<8→l<8→k≠l→x.dir k≠x.dir l
 sur:∀j,Old x j→Sur x.M j
 lf:∀k,k<7→x.M.S (x.dir k).toNat=bj x.base k
 rt:x.M.S (x.dir 7).toNat=aE x.dir
 gb:vh x.base
 gw:vh x.work
theorem Img.kp {x:AS}(h:Img x) {j:Nat}(hj:Old x j):Kp x j:=by
 rcases hj with hj|hj|hj
 ·exact⟨.inl (by rw[h.f];exact hj)⟩
 ·have hs:x.sh j=true:=by rw[BZ h.inv.ok,hj,Bool.true_or]
  exact⟨.inr ⟨h.inv.s1 j hs,.inl hs⟩⟩
 ·obtain⟨k,hk,e⟩:=fY.1 hj;obtain⟨q,q1,_,_,q4,q5,_⟩:=h.dl k hk;have:q=j:=by omega
  subst this;exact⟨.inr ⟨q4,.inr q5⟩⟩
def K0 (l:List Int):List (Nat×Int):=(7,0)::(List.range 8).map fun j=>(j,l.getD j 0)
theorem Uu (l:List Int) {j:Nat}(hj:j<8):(K0 l)[j+1]?=some (j,l.getD j 0):=by simp[K0,hj]
def Dn.wv (d:Dn):Nat×Int:=(d.w,d.v)
def sk (M:AM) (s:Nat) (s0 l:List Int) (m:Nat):Prop:=(M.L s).map Dn.wv=(K0 l).take m∧M.S s=s0
theorem CJ {M:AM}{s:Nat}{s0 l:List Int}{m:Nat}(h:sk M s s0 l m) {q:Nat}{v:Int}(hs:s<M.n) (hq:q<8) (hm:(K0 l)[m]?=some (q,v)):
 ((M.store s q v).2=0∧(M.store s q v).1.off=M.off∧sk (M.store s q v).1 s s0 l (m+1))∨((M.store s q v).2=4∧(M.store s q v).1.off=true∧sk (M.store s q v).1 s s0 l m):=by
 unfold AM.store;rw[if_neg (by omega)];split
 ·exact .inr ⟨rfl,rfl,h⟩
 ·refine .inl ⟨rfl,rfl,?_,h.2⟩;simp only[AM.push,AM.stepped,Zh,al,List.map_append,List.map_cons,List.map_nil];rw[h.1];have hlt:=(List.getElem?_eq_some_iff.1 hm).1;rw[List.take_succ_eq_append_getElem hlt,(List.getElem?_eq_some_iff.1 hm).2];rfl
theorem GK {s:Nat}{s0 l:List Int}:∀(n j:Nat) {M:AM},s<M.n→j+n=8→sk M s s0 l (j+1)→
 ((M.layFrom s l j n).2=0∧(M.layFrom s l j n).1.off=M.off∧sk (M.layFrom s l j n).1 s s0 l 9)∨((M.layFrom s l j n).2=4∧(M.layFrom s l j n).1.off=true∧∃m,1≤m∧m≤9∧sk (M.layFrom s l j n).1 s s0 l m)
 |0,j,M,hs,hj,h=>by
  have:j=8:=by omega
  subst this;exact .inl ⟨rfl,rfl,h⟩
 |n+1,j,M,hs,hj,h=>by
  have hn:(M.store s j (l.getD j 0)).1.n=M.n:=AM.store_n;unfold AM.layFrom;rcases CJ h hs (show j<8 by omega) (Uu l (by omega))with⟨h1,h2,h3⟩|⟨h1,h2,h3⟩
  ·rw[if_neg (by rw[h1];simp)];have:=GK n (j+1) (M:=(M.store s j (l.getD j 0)).1) (by rw[hn];exact hs) (by omega) h3;rw[h2]at this;exact this
  ·rw[if_pos (by rw[h1];decide)];exact .inr ⟨h1,h2,j+1,by omega,by omega,h3⟩
theorem Ks {M:AM}{s:Nat}{s0 l:List Int}{m:Nat}(h:sk M s s0 l m) (i:Int):sk (M.flush 0 i).1 s s0 l m:=by
 unfold AM.flush;split
 ·exact h
 ·split
  ·exact h
  ·refine⟨?_,h.2⟩;simp only[AM.flushed,AM.stepped];by_cases e:s=i.toNat
   ·rw[←e,al,List.map_map];exact h.1
   ·rw[aw e];exact h.1
theorem Se {M:AM}(ok:M.Ok) {s:Nat}(hs:s=0∨s=1) (hsur:Sur M s) {b:Sup}(hb:b.ok=true):
 (∀j,j≠s→Sur M j→Sm M (M.wrs s b).1 j)∧(((M.wrs s b).2=0∧(M.wrs s b).1.off=M.off∧Sur (M.wrs s b).1 s∧(M.wrs s b).1.now s=aH b)∨
  ((M.wrs s b).2=4∧(M.wrs s b).1.off=true∧∃m,m≤9∧sk (M.wrs s b).1 s (M.S s) (aH b) m)):=by
 have hn:=ok.n0;have hsn:s<M.n:=by omega
 have h0:sk M s (M.S s) (aH b) 0:=⟨by rw[show M.L s=[]from hsur];rfl,rfl⟩
 have hl8:=qT b;have hsc:¬(b.ok=false∨((s:Int)≠0∧(s:Int)≠1)):=by rw[hb];simp;omega
 have s1:∀j,j≠s→Sm M (M.store s 7 0).1 j:=fun j hj=>rk (by rw[Zh];exact hj);have n1:(M.store s 7 0).1.n=M.n:=AM.store_n;have hst:=CJ h0 hsn (show 7<8 by decide) (v:=0) rfl;unfold AM.wrs;rw[if_neg hsc];have hst':((M.store s 7 0).2=0∧(M.store s 7 0).1.off=M.off∧sk (M.store s 7 0).1 s (M.S s) (aH b) 1)∨((M.store s 7 0).2=4∧(M.store s 7 0).1.off=true∧sk (M.store s 7 0).1 s (M.S s) (aH b) 0):=hst;rcases hst' with⟨g1,g2,g3⟩|⟨g1,g2,g3⟩
 ·rw[if_neg (by rw[g1];simp)];have ok1:(M.store s 7 0).1.Ok:=ok.store;generalize(M.store s 7 0).1=M1 at*;have hsn1:s<M1.n:=by rw[n1];exact hsn
  have s2:∀j,j≠s→Sm M1 (M1.layFrom s (aH b) 0 8).1 j:=fun j hj=>ni (by rw[Zh];exact hj) 8 0 _;have n2:(M1.layFrom s (aH b) 0 8).1.n=M1.n:=AM.layFrom_n;have ok2:(M1.layFrom s (aH b) 0 8).1.Ok:=ok1.layFrom;have hlw:=J5 ok1 hl8 hsn1;simp only;rcases GK 8 0 hsn1 rfl g3 with⟨f1,f2,f3⟩|⟨f1,f2,m,_,m9,f3⟩
  ·rw[if_neg (by rw[f1];simp)];have hnow:(M1.layFrom s (aH b) 0 8).1.now s=aH b:=by
    rcases hlw with⟨_,_,e⟩|⟨e,_⟩
    ·exact e
    ·rw[f1]at e;cases e
   generalize(M1.layFrom s (aH b) 0 8).1=M2 at*;have hsn2:s<M2.n:=by rw[n2];exact hsn1
   have s3:∀j,j≠s→Sm M2 (M2.flush 0 s).1 j:=fun j hj=>FT (by rw[Zh];exact hj);have hf:=Ks f3 (s:Int);rcases uO hsn2 with⟨e1,e2,e3,e4⟩|⟨e1,e2⟩
   ·rw[if_neg (by rw[e1];simp)];have n3:(M2.flush 0 s).1.n=M2.n:=bz.2;generalize(M2.flush 0 s).1=M3 at*;refine⟨fun j hj hsj=> ?_,?_⟩
    ·have a:=(s1 j hj).trans ((s2 j hj).trans (s3 j hj));exact a.trans (Bg (a.sur hsj))
    ·rcases yJ (M:=M3)with⟨d1,d2,d3,d4⟩|⟨d1,d2⟩
     ·left;exact⟨d1,d2.trans (e2.trans (f2.trans g2)),d3 s (by rw[n3];exact hsn2) e3,by rw[d4,e4];exact hnow⟩
     ·right;refine⟨d1,d2,9,Nat.le_refl _,?_⟩;unfold AM.fence at d1⊢;rw[if_neg (by omega)]at d1⊢;split at d1
      ·rename_i hdd;rw[if_pos hdd];exact hf
      ·cases d1
   ·rw[if_pos (by rw[e1];decide)];exact⟨fun j hj _=>(s1 j hj).trans ((s2 j hj).trans (s3 j hj)),.inr ⟨e1,e2,9,Nat.le_refl _,hf⟩⟩
  ·rw[if_pos (by rw[f1];decide)];exact⟨fun j hj _=>(s1 j hj).trans (s2 j hj),.inr ⟨f1,f2,m,m9,f3⟩⟩
 ·rw[if_pos (by rw[g1];decide)];exact⟨fun j hj _=>s1 j hj,.inr ⟨g1,g2,0,by omega,g3⟩⟩
structure AX (f n:Nat) (M:AM) (t:Nat→Ent) (d:Nat→Int):Prop where
 dl:∀k,k<8→∃q:Nat,d k=q∧f≤q∧q<n∧Sur M q∧aT t q=false
 dj:∀k l,k<8→l<8→k≠l→d k≠d l
 lf:∀k,k<7→M.S (d k).toNat=bj t k
 rt:M.S (d 7).toNat=aE d
 ln:∀i,i<49→(t i).kind≠0→∃q:Nat,(t i).line=q∧f≤q∧q<n∧Sur M q
 g:vh t
abbrev Lay:=AX 10
theorem AX.sm {f n:Nat}{M M':AM}{t:Nat→Ent}{d:Nat→Int}(h:AX f n M t d) (hs:∀j,f≤j→Sur M j→Sm M M' j):AX f n M' t d:=by
 refine⟨fun k hk=> ?_,h.dj,fun k hk=> ?_,?_,fun i hi hk=> ?_,h.g⟩
 ·obtain⟨q,q1,q2,q3,q4,q5⟩:=h.dl k hk;exact⟨q,q1,q2,q3,(hs q q2 q4).sur q4,q5⟩
 ·obtain⟨q,q1,q2,q3,q4,q5⟩:=h.dl k (by omega);have:=h.lf k hk;rw[q1,Zh]at this⊢;rw[(hs q q2 q4).S];exact this
 ·obtain⟨q,q1,q2,q3,q4,q5⟩:=h.dl 7 (by omega);have:=h.rt;rw[q1,Zh]at this⊢;rw[(hs q q2 q4).S];exact this
 ·obtain⟨q,q1,q2,q3,q4⟩:=h.ln i hi hk;exact⟨q,q1,q2,q3,(hs q q2 q4).sur q4⟩
theorem Img.lay {x:AS}(h:Img x):Lay x.M.n x.M x.base x.dir:=by
 refine⟨fun k hk=> ?_,h.dj,h.lf,h.rt,fun i hi hk=> ?_,h.gb⟩
 ·obtain⟨q,q1,q2,q3,q4,q5,q6⟩:=h.dl k hk;exact⟨q,q1,q2,q3,h.sur q (.inr (.inr (fY.2 ⟨k,hk,q1⟩))),q6⟩
 ·have:=h.inv.ok.b.inn i hi hk;have hf:=h.f;have hl:=h.inv.ok.l;refine⟨(x.base i).line.toNat,by omega,by omega,by omega,h.sur _ (.inr (.inl (bx.2 ⟨i,hi,hk,by omega⟩)))⟩
section
variable {x0 : AS} {G : List (Nat × Int)} {w : AW}
theorem Ck.lay (h:Ck x0 G w) (hw:w.st=[(4,0)]) (hg:vh x0.work):Lay w.x.M.n w.x.M x0.work w.dir:=by
 obtain⟨f1,f2⟩:(∀j:Nat,aT x0.work j=true→Sur w.x.M j)∧∀k,k<8→Sur w.x.M (w.dir k).toNat:=by
  rcases h.fe with e|e
  ·rw[hw]at e;simp at e
  ·exact e
 refine⟨fun k hk=> ?_,h.dj,fun k hk=> ?_,?_,fun i hi hk=> ?_,hg⟩
 ·obtain⟨q,q1,q2,q3,q4,q5,q6,q7⟩:=h.d1 k hk;have:=f2 k hk;rw[q1,Zh]at this;exact⟨q,q1,q2,q3,this,by rw[←h.mark];exact q7⟩
 ·rcases h.lf k hk with e|e
  ·rw[hw]at e;simp at e
  ·rw[←(f2 k (by omega)).now];exact e.1
 ·rcases h.rt with e|e
  ·rw[hw]at e;simp at e
  ·rw[←(f2 7 (by omega)).now];exact e.1
 ·have:=h.inv.ok.k.inn i hi (by rw[h.mark];exact hk);rw[h.mark]at this;have hf:=h.f;have hl:=h.inv.ok.l;refine⟨(x0.work i).line.toNat,by omega,by omega,by omega,f1 _ (bx.2 ⟨i,hi,hk,by omega⟩)⟩
end
theorem J8 (c:Int):∃x:Nat,IntKind.u64.wrap c=x∧x<18446744073709551616:=by
 have h0:0≤IntKind.u64.wrap c∧IntKind.u64.wrap c<18446744073709551616:=by
  unfold IntKind.wrap;simp only[IntKind.signed,IntKind.bits,Bool.false_and,Bool.false_eq_true,if_false];constructor
  ·exact Int.emod_nonneg _ (by decide)
  ·exact Int.emod_lt_of_pos _ (by decide)
 exact⟨(IntKind.u64.wrap c).toNat,by omega,by omega⟩
theorem vk (l:List Int):4294967296≤np l∧np l<18446744073709551616:=by
 unfold np;obtain⟨x,hx,hlt⟩:=J8 (fA (lM (fA 0) ((List.range 56).map (bF l 8 0))));rw[hx];have:=tq (n:=4294967296) (m:=x) (by decide) hlt;rw[show((4294967296:Nat):Int)=4294967296 from rfl]at this
 rw[this];have h1:4294967296≤4294967296|||x:=Nat.left_le_or;have h2:4294967296|||x<2^64:=Nat.or_lt_two_pow (by decide) hlt;omega
theorem EJ {l:List Int}{v:Int}:np (l.set 7 v)=np l:=by
 have:(List.range 56).map (bF (l.set 7 v) 8 0)=(List.range 56).map (bF l 8 0):=by
  apply List.map_congr_left;intro j hj;rw[List.mem_range]at hj;unfold bF;have:(l.set 7 v).getD (j/8) 0=l.getD (j/8) 0:=by rw[List.getD_eq_getElem?_getD,List.getD_eq_getElem?_getD,List.getElem?_set_ne (by omega)]
  rw[this]
 unfold np;rw[this]
theorem yn (l:List Int):a7 (a7 l)=a7 l:=by
 have:np (a7 l)=np l:=by unfold a7;exact EJ
 show(a7 l).set 7 (np (a7 l))=a7 l;rw[this];unfold a7;rw[List.set_set]
theorem gv {l:List Int}{j:Nat}(hj:j≠7):(a7 l).getD j 0=l.getD j 0:=by unfold a7;rw[List.getD_eq_getElem?_getD,List.getD_eq_getElem?_getD,List.getElem?_set_ne (Ne.symm hj)]
theorem Aw {l:List Int}(hl:l.length=8):(a7 l).getD 7 0=np l:=by unfold a7;rw[List.getD_eq_getElem?_getD,List.getElem?_set_self (by omega)];rfl
theorem Nf {d:Int}(h0:0≤d) (h1:d<1024):gA .u64 (ior .u64 4294967296 (IntKind.u64.wrap d)) 4294967296=d:=by
 obtain⟨n,rfl⟩:∃n:Nat,d=n:=⟨d.toNat,by omega⟩;have hn:n<1024:=by omega
 rw[fL (by omega) (by omega)];have e1:=tq (n:=4294967296) (m:=n) (by decide) (by omega);rw[show((4294967296:Nat):Int)=4294967296 from rfl]at e1
 have hlt:4294967296|||n<2^64:=Nat.or_lt_two_pow (by decide) (by omega);have e2:=wE (n:=4294967296|||n) (m:=4294967296) hlt (by decide);rw[show((4294967296:Nat):Int)=4294967296 from rfl]at e2
 rw[e1,e2];congr 1;apply Nat.eq_of_testBit_eq;intro i;rw[Nat.testBit_xor,Nat.testBit_or];have h32:(4294967296:Nat)=2^32:=rfl;rw[h32,Nat.testBit_two_pow];by_cases hi:32=i
 ·subst hi;have:n.testBit 32=false:=Nat.testBit_lt_two_pow (by omega);simp[this]
 ·simp[hi]
theorem No {d:Nat→Int}{j:Nat}(hj:j<7):(rlL d 7).getD j 0=ior .u64 4294967296 (IntKind.u64.wrap (d j)):=by unfold rlL;rw[List.getD_eq_getElem?_getD,List.getElem?_map,List.getElem?_range (by omega)];simp[hj]
theorem CH {d:Nat→Int}(h:∀j,j<7→0≤d j∧d j<1024):eG (aE d)=true∧∀j,j<7→af (aE d) j=d j:=by
 have hok:cZ d 0 7=true:=by unfold cZ;simp only[List.all_eq_true,List.mem_range,Zj,Zi];intro j hj;rw[Nat.zero_add];exact h j hj
 have hr:aE d=a7 (rlL d 7):=by unfold aE;rw[if_pos hok]
 have hv:∀j,j<7→rdv (aE d) j=d j:=fun j hj=>by unfold rdv;rw[hr,gv (by omega),No hj];exact Nf (h j hj).1 (h j hj).2
 have his:eG (aE d)=true:=by unfold eG;rw[hr,yn,decide_eq_true rfl,Bool.true_and,←hr];unfold tV;simp only[List.all_eq_true,List.mem_range,Zi];intro j hj;rw[Nat.zero_add,hv j hj];exact(h j hj).2
 refine⟨his,fun j hj=> ?_⟩;unfold af rdN;rw[if_pos his,hv j hj];have:=h j hj;exact ae (by omega) (by omega)
theorem Q2 {e:Ent}(h:cj e=true):∃w:Nat,nF e=w∧w<2^44∧c6 w=e:=by
 obtain⟨h1,h2,h3,h4⟩:=xt.1 h;obtain⟨k,v,l⟩:=e;simp only at h1 h2 h3 h4;obtain⟨k,rfl⟩:∃n:Nat,k=n:=⟨k.toNat,by omega⟩;obtain⟨v,rfl⟩:∃n:Nat,v=n:=⟨v.toNat,by omega⟩;obtain⟨l,rfl⟩:∃n:Nat,l=n:=⟨l.toNat,by omega⟩;have s1:pZ .u64 (v:Int) 4=((v*2^4:Nat):Int):=by
  unfold pZ;rw[show(2:Int)^(min (4:Int).toNat IntKind.u64.bits)=16 from rfl,fL (by omega) (by omega)]
  omega
 have s2:pZ .u64 (l:Int) 28=((l*2^28:Nat):Int):=by
  unfold pZ;rw[show(2:Int)^(min (28:Int).toNat IntKind.u64.bits)=268435456 from rfl,fL (by omega) (by omega)]
  omega
 have o1:=DE (n:=k) (m:=v) 4 (by omega) (by omega) (by omega);have o2:=DE (n:=k+v*2^4) (m:=l) 28 (by omega) (by omega) (by omega);refine⟨k+v*2^4+l*2^28,?_,by omega,?_⟩
 ·unfold nF;simp only;rw[fL (by omega) (by omega),fL (by omega) (by omega),fL (by omega) (by omega),s1,s2,o1,o2]
 ·unfold c6;rw[show(k+v*2^4+l*2^28)%16=k by omega,show(k+v*2^4+l*2^28)/16%16777216=v by omega,show(k+v*2^4+l*2^28)/268435456%65536=l by omega]
theorem UY {t:Nat→Ent}{k j:Nat}(hj:j<7):(lfL t k 7).getD j 0=nF (t (7*k+j)):=by unfold lfL;rw[List.getD_eq_getElem?_getD,List.getElem?_map,List.getElem?_range (by omega)];simp[hj]
theorem Lo {t:Nat→Ent}{k:Nat}(h:∀j,j<7→cj (t (7*k+j))=true):ef (bj t k)=true∧(∀j,j<7→bV (bj t k) j=t (7*k+j))∧∀x∈bj t k,0≤x∧x<18446744073709551616:=by
 have hok:kI t k 0 7=true:=by unfold kI;simp only[List.all_eq_true,List.mem_range];intro j hj;rw[Nat.zero_add];exact h j hj
 have hr:bj t k=a7 (lfL t k 7):=by unfold bj;rw[if_pos hok]
 have hl8:=zC t k 7;have hg:∀j,j<7→∃w:Nat,(bj t k).getD j 0=w∧w<2^44∧c6 w=t (7*k+j)∧oI w=true:=fun j hj=>by obtain⟨w,w1,w2,w3⟩:=Q2 (h j hj);refine⟨w,by rw[hr,gv (by omega),UY hj];exact w1,w2,w3,?_⟩;unfold oI;rw[w3,h j hj,w1];simp
 have his:ef (bj t k)=true:=by unfold ef;rw[hr,yn,decide_eq_true rfl,Bool.true_and,←hr];unfold u9 rdl;simp only[List.all_eq_true,List.mem_range];intro j hj;rw[Nat.zero_add];obtain⟨w,w1,_,_,w4⟩:=hg j hj;rw[w1,Zh];exact w4
 refine⟨his,fun j hj=> ?_,fun x hx=> ?_⟩
 ·obtain⟨w,w1,_,w3,_⟩:=hg j hj;unfold bV sD;rw[if_pos his,w1,Zh];exact w3
 ·obtain⟨j,hj,rfl⟩:=List.mem_iff_getElem.1 hx;have hj8:j<8:=by rw[px]at hj;exact hj
  have e:(bj t k)[j]=(bj t k).getD j 0:=by rw[List.getD_eq_getElem?_getD,List.getElem?_eq_getElem hj];rfl
  rw[e];by_cases h7:j=7
  ·subst h7;rw[hr,Aw hl8];have:=vk (lfL t k 7);omega
  ·obtain⟨w,w1,w2,_⟩:=hg j (by omega);rw[w1];omega
theorem Et {b:Sup}(h:b.ok=true):eI (aH b)=true∧c9 (aH b)=b:=by
 have h':=h;unfold Sup.ok win at h';simp only[Zj,Zi]at h';have hr:aH b=a7 (ns b):=by unfold aH;rw[if_pos h]
 have e:c9 (aH b)=b:=by unfold c9;rw[hr,gv (by decide),gv (by decide),gv (by decide),gv (by decide)];obtain⟨g,r,q,c⟩:=b;simp only at h';have e1:(ns ⟨g,r,q,c⟩).getD 1 0=IntKind.u64.wrap g:=rfl;have e2:(ns ⟨g,r,q,c⟩).getD 2 0=IntKind.u64.wrap r:=rfl;have e3:(ns ⟨g,r,q,c⟩).getD 3 0=IntKind.u64.wrap q:=rfl;have e4:(ns ⟨g,r,q,c⟩).getD 4 0=IntKind.u64.wrap c:=rfl;rw[e1,e2,e3,e4,fL (by omega) (by omega),fL (by omega) (by omega),fL (by omega) (by omega),fL (by omega) (by omega),ae (by omega) (by omega),ae (by omega) (by omega),ae (by omega) (by omega),ae (by omega) (by omega)]
 refine⟨?_,e⟩;unfold eI;rw[e,h];simp
theorem JX {l:List Int}(h:l.getD 7 0=0):eI l=false:=by
 cases hs:eI l with
 |false=>rfl
 |true=>
  unfold eI at hs;rw[Zj,Zi]at hs;obtain⟨h1,h2⟩:=hs;have hr:aH (c9 l)=a7 (ns (c9 l)):=by unfold aH;rw[if_pos h1]
  rw[hr]at h2;rw[←h2,Aw rfl]at h;have:=vk (ns (c9 l));omega
theorem M5 {f:Nat}{M:AM}{l:List Int}{d:Nat→Int}(hd:∀k,k<7→af l k=d k) (h1:∀k,k<7→∃q:Nat,d k=q∧f≤q∧q<M.n) (hj:∀k l,k<8→l<8→k≠l→d k≠d l) (hl:∀k,k<7→ef (M.now (d k).toNat)=true):
 ∀(n k:Nat) (ks:List Int),k+n=7→(∀x∈ks,x=d 7∨∃i,i<k∧x=d i)→sR M f l ks k n=true∧∀x∈nM l ks k n,x=d 7∨∃i,i<7∧x=d i
 |0,k,ks,hk,h=>⟨rfl,fun x hx=>(h x hx).imp id fun⟨i,i1,i2⟩=>⟨i,by omega,i2⟩⟩
 |n+1,k,ks,hk,h=>by
  have hk7:k<7:=by omega
  obtain⟨q,q1,q2,q3⟩:=h1 k hk7;have hnot:d k∉ks:=fun hm=>by
   rcases h _ hm with e|⟨i,i1,i2⟩
   ·exact hj k 7 (by omega) (by omega) (by omega) e
   ·exact hj k i (by omega) (by omega) (by omega) i2
  have ho:onc M.n f ks (d k)=true:=by unfold onc;simp only[Zj,Zi,Bool.not_eq_true',decide_eq_false_iff_not];exact⟨by omega,by omega,by omega,hnot⟩
  obtain⟨r1,r2⟩:=M5 hd h1 hj hl n (k+1) (ks++[d k]) (by omega) fun x hx=>by
   rcases List.mem_append.1 hx with e|e
   ·exact(h x e).imp id fun⟨i,i1,i2⟩=>⟨i,by omega,i2⟩
   ·exact .inr ⟨k,by omega,List.mem_singleton.1 e⟩
  unfold sR nM;rw[hd k hk7,ho,hl k hk7,r1];exact⟨rfl,r2⟩
theorem Hp {f n':Nat}{t:Nat→Ent}(hg:vh t) (h1:∀i,i<49→(t i).kind≠0→∃q:Nat,(t i).line=q∧f≤q∧q<n') (hd:List Int) (hno:∀i,i<49→(t i).kind≠0→(t i).line∉hd):
 ∀(n i:Nat) (ks:List Int),i+n=49→(∀x∈ks,x∈hd∨∃j,j<i∧(t j).kind≠0∧x=(t j).line)→qf n' f t ks i n=true
 |0,i,ks,hi,h=>rfl
 |n+1,i,ks,hi,h=>by
  unfold qf;by_cases hk:(t i).kind=0
  ·rw[if_pos hk];exact Hp hg h1 hd hno n (i+1) ks (by omega) fun x hx=>(h x hx).imp id fun⟨j,j1,j2⟩=>⟨j,by omega,j2⟩
  ·rw[if_neg hk];obtain⟨q,q1,q2,q3⟩:=h1 i (by omega) hk;have hnot:(t i).line∉ks:=fun hm=>by
    rcases h _ hm with e|⟨j,j1,j2,j3⟩
    ·exact hno i (by omega) hk e
    ·exact hg.j i j (by omega) (by omega) (by omega) hk j2 j3
   have ho:onc n' f ks (t i).line=true:=by unfold onc;simp only[Zj,Zi,Bool.not_eq_true',decide_eq_false_iff_not];exact⟨by omega,by omega,by omega,hnot⟩
   rw[ho,Bool.true_and];exact Hp hg h1 hd hno n (i+1) (ks++[(t i).line]) (by omega) fun x hx=>by
    rcases List.mem_append.1 hx with e|e
    ·exact(h x e).imp id fun⟨j,j1,j2⟩=>⟨j,by omega,j2⟩
    ·exact .inr ⟨i,by omega,hk,List.mem_singleton.1 e⟩
theorem AX.loads {f:Nat}{M:AM}{t:Nat→Ent}{d:Nat→Int}(h:AX f M.n M t d) (ok:M.Ok):mK M f (d 7)=true∧(∀i,i<49→ldT M (M.now (d 7).toNat) i=t i)∧
 ∀k,k<7→∀x∈M.now (af (M.now (d 7).toNat) k).toNat,0≤x∧x<18446744073709551616:=by
 have hn:=ok.n1;have hrange:∀k,k<8→0≤d k∧d k<1024:=fun k hk=>by obtain⟨q,q1,q2,q3,_⟩:=h.dl k hk;omega
 have hnow:∀k,k<8→M.now (d k).toNat=M.S (d k).toNat:=fun k hk=>by obtain⟨q,q1,_,_,q4,_⟩:=h.dl k hk;rw[q1,Zh];exact q4.now
 have hroot:M.now (d 7).toNat=aE d:=by rw[hnow 7 (by decide)];exact h.rt
 have hleaf:∀k,k<7→M.now (d k).toNat=bj t k:=fun k hk=>by rw[hnow k (by omega)];exact h.lf k hk
 obtain⟨r1,r2⟩:=CH (d:=d) fun j hj=>hrange j (by omega);have lr:=fun k (hk:k<7)=>Lo (t:=t) (k:=k) fun j hj=>h.g.e (7*k+j) (by omega);rw[hroot];have hT:∀i,i<49→ldT M (aE d) i=t i:=fun i hi=>by unfold ldT;rw[r2 (i/7) (by omega),hleaf (i/7) (by omega),(lr (i/7) (by omega)).2.1 (i%7) (by omega)];rw[show 7*(i/7)+i%7=i by omega]
 refine⟨?_,hT,fun k hk x hx=> ?_⟩
 ·obtain⟨q,q1,q2,q3,_⟩:=h.dl 7 (by decide);have ho:onc M.n f [] (d 7)=true:=by unfold onc;simp only[Zj,Zi,Bool.not_eq_true',decide_eq_false_iff_not];exact⟨by omega,by omega,by omega,by simp⟩
  obtain⟨l1,l2⟩:=M5 (f:=f) (M:=M) (l:=aE d) (d:=d) r2 (fun k hk=>by obtain⟨q,q1,q2,q3,_⟩:=h.dl k (by omega);exact⟨q,q1,q2,q3⟩) h.dj (fun k hk=>by rw[hleaf k hk];exact(lr k hk).1) 7 0 [d 7] rfl fun x hx=> .inl (List.mem_singleton.1 hx)
  have hkk:∀i,i<49→(ldT M (aE d) i).kind=(t i).kind∧(ldT M (aE d) i).line=(t i).line:=fun i hi=>by rw[hT i hi];exact⟨rfl,rfl⟩
  have hG:vh (ldT M (aE d)):=⟨fun i hi=>by rw[hT i hi];exact h.g.e i hi,fun i j hi hj hne h1 h2=>by rw[hT i hi]at h1⊢;rw[hT j hj]at h2⊢;exact h.g.j i j hi hj hne h1 h2⟩
  have hobj:=Hp (f:=f) (n':=M.n) hG (fun i hi hk=>by
   rw[hT i hi]at hk⊢;obtain⟨q,q1,q2,q3,_⟩:=h.ln i hi hk;exact⟨q,q1,q2,q3⟩) (nM (aE d) [d 7] 0 7) (fun i hi hk hm=>by
   rw[hT i hi]at hk hm;have hdk:∃k,k<8∧(t i).line=d k:=by
    rcases l2 _ hm with e|⟨k,k1,k2⟩
    ·exact⟨7,by decide,e⟩
    ·exact⟨k,by omega,k2⟩
   obtain⟨k,k1,k2⟩:=hdk;obtain⟨q,q1,_,_,_,q5⟩:=h.dl k k1;have:=bx.2 ⟨i,hi,hk,k2.trans q1⟩;rw[q5]at this;cases this) 49 0 (nM (aE d) [d 7] 0 7) rfl fun x hx=> .inl hx
  unfold mK;rw[hroot,ho,r1,l1,hobj];rfl
 ·rw[r2 k hk,hleaf k hk]at hx;exact(lr k hk).2.2 x hx
structure pI (f:Int) (n:Nat) (w:List Nat) (S:List Int):Prop where
 len:(S.length:Int)=n-f
 ok:OkS w
 eq:∀k:Nat,k<S.length→S.getD k 0=if bit w (f.toNat+k)then 0 else 1
theorem pI.st {f:Int}{n:Nat}{w:List Nat}{S:List Int}(h:pI f n w S) (h0:0≤f) (x:Int):stS f S x=fQ f n w (w16 []) x:=by
 have hl:=h.len;unfold stS fQ;by_cases c1:x<f
 ·rw[if_pos (.inl c1),if_pos (.inl c1)]
 ·by_cases c2:(n:Int)≤x
  ·rw[if_pos (.inr (by omega)),if_pos (.inr c2)]
  ·rw[if_neg (by omega),if_neg (by omega),h.eq _ (by omega),zN];have:f.toNat+(x-f).toNat=x.toNat:=by omega
   rw[this];simp
theorem pI.take {f:Int}{n:Nat}{w:List Nat}{S:List Int}(h:pI f n w S) (h0:0≤f) (h1:n≤1024) {x:Int}(hx:fQ f n w (w16 []) x=0):pI f n (flip w x.toNat) (S.set (x-f).toNat 1):=by
 have hl:=h.len;have hr:=zB (show fQ f n w (w16 []) x≠-1 by rw[hx];decide);have hb:bit w x.toNat=true:=by
  unfold fQ at hx;rw[if_neg (by omega),zN]at hx;split at hx
  ·assumption
  ·simp at hx
 refine⟨by rw[List.length_set];exact hl,h.ok.flip (by omega),fun k hk=> ?_⟩;rw[List.length_set]at hk;rw[EA (by omega),AN h.ok (by omega)];by_cases e:(x-f).toNat=k
 ·have:x.toNat=f.toNat+k:=by omega
  rw[if_pos e,←this,hb];simp
 ·have:¬x.toNat=f.toNat+k:=by omega
  rw[if_neg e,h.eq k hk];simp[this]
structure InI (ls:List Int):Prop where
 lt:∀x∈ls,x≤9223372036854775807
theorem Yc (d:Nat→Int):tab 8 (fun i=>V.int .i64 (d i))=(iO d 0 8).map (.int .i64):=rfl
theorem Kv (L H:List Blk) (P6 P7 P0 v12:V) (b c:Nat) (f:Int) (n:Nat) (ls:List Int) (h0:0≤f) (h1:n≤1024) (w0:List Nat) (S0:List Int) (hA:pI f n w0 S0) (base:Nat)
 (hH:Rf ⟨L,H⟩ b c f S0) (hv:∀k,k<ls.length→eD 10 v12 (.int .i64 (k:Int))=some (elp v12 k)∧(∀H',ldv ⟨L,H'⟩ 10 (elp v12 k)=some (.int .i64 (ls.getD k 0)))) (hsl:V.slen false v12=some ls.length) (hls:InI ls)
 (hll:ls.length<1000) (hs6:kB base L.length [(0,P0),(6,P6),(7,P7),(10,.ptr (.hp b) [] 21),(12,v12),(13,.int .i64 0)] ⟨L,[]⟩=true):
 ∃r,rc D base (.loop [0,6,7,10,12,13] eQ) [(0,P0),(6,P6),(7,P7),(10,.ptr (.hp b) [] 21),(12,v12),(13,.int .i64 0)] ⟨L,H⟩=some r∧
  ((cd f n ls w0=none∧∃S':List Int,r=(.ret,[(8,.nilp),(9,.int .i64 21)],⟨L,H.set c (.rw (.agg 38 (S'.map (.int .i64))))⟩))∨
   (∃(w:List Nat) (S':List Int),cd f n ls w0=some w∧pI f n w S'∧r=(.exit 0,[(0,P0),(6,P6),(7,P7),(10,.ptr (.hp b) [] 21),(12,v12),(13,.int .i64 ls.length),(33,.bool false)],⟨L,H.set c (.rw (.agg 38 (S'.map (.int .i64))))⟩))):=by
 have hc:=(List.getElem?_eq_some_iff.1 hH.sb).1;have hlen0:=hA.len;refine o7 (fun x:Nat×List Nat×List Int=>[(0,P0),(6,P6),(7,P7),(10,.ptr (.hp b) [] 21),(12,v12),(13,.int .i64 x.1)]) (fun x=>⟨L,H.set c (.rw (.agg 38 (x.2.2.map (.int .i64))))⟩) _ (fun x=>ls.length-x.1)
  (fun x=>x.1≤ls.length∧pI f n x.2.1 x.2.2∧cd f n ls w0=cd f n (ls.drop x.1) x.2.1) (0,w0,S0) ?_ ⟨by simp only;omega,hA,rfl⟩ rfl (by simp only;rw[xe hH.sb])
 rintro⟨i,w,S⟩ ⟨hi,hal,htk⟩;simp only at hi hal htk;have hbc:b≠c:=by intro e;subst e;have:=hH.rb.symm.trans hH.sb;simp[rfV]at this
 have hlen:=hal.len;have hR:Rf ⟨L,H.set c (.rw (.agg 38 (S.map (.int .i64))))⟩ b c f S:=⟨by rw[List.getElem?_set_ne (Ne.symm hbc)];have:=hH.rb;rw[show S.length=S0.length by omega];exact this,List.getElem?_set_self hc,h0,by omega⟩;simp only[kB,List.all_cons,List.all_nil,Bool.and_true,Zj,Zi]at hs6;obtain⟨⟨_,g1,g2,g3,_,g5,_⟩,g7⟩:=hs6;rw[List.take_length]at g7;by_cases c1:i<ls.length
 ·obtain⟨q1,q2⟩:=hv i c1;have d1:(i:Int)<ls.length:=by omega
  have d4:IntKind.i64.wrap ((i:Int)+1)=(i:Int)+1:=ae (by omega) (by omega);have hx:ls.drop i=ls.getD i 0::ls.drop (i+1):=by rw[List.getD_eq_getElem?_getD,List.getElem?_eq_getElem c1,Option.getD_some];exact List.drop_eq_getElem_cons c1
  rw[hx]at htk;simp only[cd]at htk;have hxi:=hls.lt _ (wO c1 0);generalize ls.getD i 0=x at*;have hst:=hal.st h0 x;have r1:=Rq hR x hxi;rw[Br hR x hxi 0 1,hst]at r1;by_cases hz:fQ f n w (w16 []) x=0
  ·left;rw[if_pos hz]at htk;rw[hz]at r1;simp only[show¬((0:Int)<0) by decide,if_false,ne_eq,not_true_eq_false,List.set_set]at r1;refine⟨(i+1,flip w x.toNat,S.set (x-f).toNat 1),⟨by simp only;omega,hal.take h0 h1 hz,htk⟩,by simp only;omega,?_⟩;simp only;generalize S.set (x-f).toNat 1=S2 at*;simp only[go_sem,eQ,hsl,d1,q1,q2,r1,d4,g1,g2,g3,g5,g7];rfl
  ·right;rw[if_neg hz]at htk;have hr:rf D cw [.ptr (.hp b) [] 21,.int .i64 x] ⟨L,H.set c (.rw (.agg 38 (S.map (.int .i64))))⟩=some (.int .i64 1,⟨L,H.set c (.rw (.agg 38 (S.map (.int .i64))))⟩)∨
    rf D cw [.ptr (.hp b) [] 21,.int .i64 x] ⟨L,H.set c (.rw (.agg 38 (S.map (.int .i64))))⟩=some (.int .i64 3,⟨L,H.set c (.rw (.agg 38 (S.map (.int .i64))))⟩):=by
    rw[r1];by_cases hn:fQ f n w (w16 []) x<0
    ·left;rw[if_pos hn]
    ·right;rw[if_neg hn,if_pos hz]
   refine⟨_,?_,.inl ⟨htk,S,rfl⟩⟩;rcases hr with hr|hr<;>simp only[go_sem,eQ,hsl,d1,q1,q2,hr]
 ·right;have:i=ls.length:=by omega
  subst this;have d1:¬((ls.length:Nat):Int)<ls.length:=by omega
  refine⟨_,?_,.inr ⟨w,S,by rw[htk,List.drop_length];rfl,hal,rfl⟩⟩;simp only[go_sem,eQ,hsl,d1]
structure jM where
 m:Nat
 fr:Nat
 work:Nat→Ent
 base:Nat→Ent
 dir:Nat→Int
 mark:Nat→Ent
 marked:Bool
def jM.v (x:jM):V:= .agg 31 [.ptr (.hp x.m) [] 33,.ptr (.hp x.fr) [] 21,ac x.work,ac x.base,aM x.dir,ac x.mark,.bool x.marked]
theorem Bc (d:Nat→Int):(iO d 0 8).length=8:=rfl
theorem Di {ls:List Int}{k:Nat}(h:k<ls.length):(ls.map (V.int .i64))[k]?=some (.int .i64 (ls.getD k 0)):=am h 0
theorem Tx (L0 H:List Blk) (t d:V) (dd:Nat→Int) (hd:d=aM dd) {X:List Blk}{v:V}{l1:List Int}(h:Apd H X v l1) (hl1:l1.length≤49) {base:Nat}:
 ∃X',X'.length=X.length∧aD base false 38 10 v (.sl (.loc (L0.length+1)) [] 0 8 (some 8) 10) ⟨L0++[.rw t,.rw d],H++X⟩=
  some (.sl (.loc (L0.length+2)) [] 0 (l1++iO dd 0 8).length none 10,⟨L0++[.rw t,.rw d,.rw (.agg 38 ((l1++iO dd 0 8).map (.int .i64)))],H++X'⟩):=by
 subst hd;have hy:St.elems ⟨L0++[.rw t,.rw (aM dd)],H++X⟩ (.sl (.loc (L0.length+1)) [] 0 8 (some 8) 10)=some ((iO dd 0 8).map (.int .i64)):=
  cR (t:=50) (by simp only[go_sem,aM,Yc]) rfl
 have hne:(iO dd 0 8).map (V.int .i64)≠[]:=by intro h;cases h
 have hx:=h.elems (loc:=L0++[.rw t,.rw (aM dd)]);rcases h.at' with⟨rfl,rfl⟩|⟨Y,rfl,rfl⟩
 ·refine⟨X,rfl,?_⟩;rw[Hg (.inr ⟨_,_,_,_,_,rfl⟩) hy hne (by simp[Bc,cg]) rfl];simp only[go_sem];simp
 ·refine⟨Y++[.dead],by simp,?_⟩;have e2:St.at ⟨L0++[.rw t,.rw (aM dd)],H++(Y++[.rw (.agg 38 (l1.map (.int .i64)))])⟩ (.hp (H.length+Y.length))=some (.rw (.agg 38 (l1.map (.int .i64)))):=by rw[←List.append_assoc,←List.length_append];simp[St.at]
  rw[J4 (.inr ⟨_,_,_,_,_,rfl⟩) hx hy hne (by simp[Bc,cg];omega) rfl e2];have e3:(St.set ⟨L0++[.rw t,.rw (aM dd)],H++(Y++[.rw (.agg 38 (l1.map (.int .i64)))])⟩ (.hp (H.length+Y.length)) .dead)=⟨L0++[.rw t,.rw (aM dd)],H++(Y++[.dead])⟩:=by simp only[St.set];rw[←List.append_assoc,←List.length_append,List.set_append_right _ _ (Nat.le_refl _)];simp
  rw[e3];simp only[go_sem];simp
theorem U9 {f:Int}{n:Nat}{w0:List Nat}(h0:0≤f) (h1:f≤n) (h2:n≤1024) (hok:OkS w0) (hbit:∀j:Nat,j<1024→bit w0 j=(decide (f≤j)&&decide ((j:Int)<n))):pI f n w0 (List.replicate (n-f).toNat 0):=by refine⟨by rw[List.length_replicate];omega,hok,fun k hk=> ?_⟩;rw[List.length_replicate]at hk;rw[hbit _ (by omega)];have e1:decide (f≤((f.toNat+k:Nat):Int))=true:=decide_eq_true (by omega);have e2:decide (((f.toNat+k:Nat):Int)<n)=true:=decide_eq_true (by omega);rw[e1,e2];simp[List.getD_eq_getElem?_getD,hk]
theorem II {m k k2 n:Nat}{off:Bool}{left count:Int}(s:St) (hm:s.hp[m]?=some (.rw (rmV k n k2 off left count))) (f:Int) (h0:0≤f) (h1:f≤n) (h2:n≤1024) (t:Nat→Ent) (d:Nat→Int) (hI:InI (dz t d))
 (w0:List Nat) (hok0:OkS w0) (hbit0:∀j:Nat,j<1024→bit w0 j=(decide (f≤j)&&decide ((j:Int)<n))):
 (cd f n (dz t d) w0=none∧∃more,rf D ch [.ptr (.hp m) [] 33,.int .i64 f,ac t,aM d] s=some (.tup [.nilp,.int .i64 21],⟨s.loc,s.hp++more⟩))∨
 (∃(w:List Nat) (S:List Int) (X:List Blk),cd f n (dz t d) w0=some w∧pI f n w S∧rf D ch [.ptr (.hp m) [] 33,.int .i64 f,ac t,aM d] s=some (.tup [.ptr (.hp (s.hp.length+2+X.length)) [] 31,.int .i64 0],
  ⟨s.loc,s.hp++([.rw (.agg 38 (S.map (.int .i64))),.rw (rfV f s.hp.length S.length)]++X++[.rw (jM.v ⟨m,s.hp.length+1,t,t,d,fun _=>an,false⟩)])⟩)):=by
 have hA:=U9 h0 h1 h2 hok0 hbit0;have hnew:=fun L=>KQ f n h0 h1 (by omega) ⟨s.loc++L,s.hp⟩;have hrl:(List.replicate ((n:Int)-f).toNat (V.int .i64 0))=(List.replicate ((n:Int)-f).toNat (0:Int)).map (.int .i64):=by rw[List.map_replicate]
 rw[hrl]at hnew;have hlr:(List.replicate ((n:Int)-f).toNat (0:Int)).length=((n:Int)-f).toNat:=List.length_replicate;generalize List.replicate ((n:Int)-f).toNat (0:Int)=S0 at*;rw[←hlr]at hnew;obtain⟨X,v,hap,hlines⟩:=yN t ⟨s.loc++[.rw (ac t),.rw (aM d)],s.hp++[.rw (.agg 38 (S0.map (.int .i64))),.rw (rfV f s.hp.length S0.length)]⟩;simp only at hap hlines;have hll:=nh t 49 0;obtain⟨X',hX',happ⟩:=Tx (base:=s.loc.length) s.loc _ (ac t) (aM d) d rfl hap hll;have hal:(be t 0 49++iO d 0 8).length≤57:=by rw[List.length_append,Bc];omega
 simp only[dz]at hI⊢;generalize hls:be t 0 49++iO d 0 8=ls at*;obtain⟨r,e,q⟩:=Kv (s.loc++[.rw (ac t),.rw (aM d),.rw (.agg 38 (ls.map (.int .i64)))]) (s.hp++[.rw (.agg 38 (S0.map (.int .i64))),.rw (rfV f s.hp.length S0.length)]++X')
  (.ptr (.loc s.loc.length) [] 48) (.ptr (.loc (s.loc.length+1)) [] 50) (.ptr (.hp m) [] 33) (.sl (.loc (s.loc.length+2)) [] 0 ls.length none 10) (s.hp.length+1) s.hp.length f n ls h0 h2 w0 S0 hA s.loc.length
  ⟨by simp,by simp,h0,by have:=hA.len;omega⟩
  (fun k hk=>⟨by simp[eD,elp,hk],fun H'=>by simp only[elp,go_sem,Nat.zero_add,Di hk]⟩) rfl hI (by omega) (by simp only[ac,aM];simp only[go_sem];simp)
 have z1:V.agg 48 (List.replicate 49 (.agg 42 [.int .i64 0,.int .i64 0,.int .i64 0]))=ac fun _=>an:=by rw[co];rfl
 have hset:∀b:Blk,(s.hp++[Blk.rw (.agg 38 (S0.map (.int .i64))),Blk.rw (rfV f s.hp.length S0.length)]++X').set s.hp.length b=s.hp++([b,Blk.rw (rfV f s.hp.length S0.length)]++X'):=by intro b;rw[List.append_assoc,List.set_append_right _ _ (Nat.le_refl _)];simp
 rcases q with⟨hn,S',rfl⟩|⟨w,S',hw,hal',rfl⟩
 ·left;refine⟨hn,[.rw (.agg 38 (S'.map (.int .i64))),.rw (rfV f s.hp.length S0.length)]++X',?_⟩;rw[hset]at e;rw[ab mA rfl];simp only[rmV,ac,aM,rfV]at*;simp only[go_sem]at*;simp only[go_sem,hm,hnew,hlines,happ,e]
 ·right;have hSS:S'.length=S0.length:=by have:=hal'.len;have:=hA.len;omega
  refine⟨w,S',X',hw,hal',?_⟩;rw[hset]at e;rw[ab mA rfl,hSS];simp only[rmV,ac,aM,rfV,jM.v]at*;simp only[go_sem]at*;simp only[go_sem,hm,hnew,hlines,happ,z1,e];rw[show s.hp.length+(X'.length+1+1)=s.hp.length+2+X'.length by omega]
structure FrQ (hp:List Blk) (b c:Nat) (A:AF):Prop where
 ok:A.Ok
 ne:b≠c
 row:∃S:List Int,hp[b]?=some (.rw (rfV A.f c S.length))∧hp[c]?=some (.rw (.agg 38 (S.map (.int .i64))))∧S.length=A.l-A.f∧∀k,k<S.length→S.getD k 0=A.st (A.f+k)
def FtQ (b c:Nat):Ft:=fun j=>j=b∨j=c
theorem FrQ.eqv {hp hp':List Blk}{b c:Nat}{A:AF}(h:FrQ hp b c A) (he:Eqv hp hp' (FtQ b c)):FrQ hp' b c A:=by obtain⟨S,h1,h2,h3⟩:=h.row;exact⟨h.ok,h.ne,S,by rw[he b (.inl rfl)];exact h1,by rw[he c (.inr rfl)];exact h2,h3⟩
theorem FrQ.inn {hp:List Blk}{b c:Nat}{A:AF}(h:FrQ hp b c A):Inn hp (FtQ b c):=by
 obtain⟨S,h1,h2,h3⟩:=h.row;rintro j (rfl|rfl)
 ·exact aj h1
 ·exact aj h2
theorem FrQ.rf {hp:List Blk}{b c:Nat}{A:AF}(h:FrQ hp b c A):∃S:List Int,(∀L,Rf ⟨L,hp⟩ b c A.f S)∧S.length=A.l-A.f∧(∀k,k<S.length→S.getD k 0=A.st (A.f+k))∧∀line,stS A.f S line=A.state line:=by
 obtain⟨S,h1,h2,h3,h4⟩:=h.row;have hl:=h.ok.l1;have hfl:=h.ok.fl;refine⟨S,fun L=>⟨h1,h2,by omega,by omega⟩,h3,h4,fun line=> ?_⟩;unfold stS AF.state;by_cases c1:line<A.f∨(A.l:Int)≤line
 ·rw[if_pos (by omega),if_pos c1]
 ·rw[if_neg (by omega),if_neg c1,h4 _ (by omega)];congr 1;omega
theorem FrQ.set {hp:List Blk}{b c:Nat}{A:AF}(h:FrQ hp b c A) {S:List Int}(h1:∀L,Rf ⟨L,hp⟩ b c A.f S) (h3:S.length=A.l-A.f) (h4:∀k,k<S.length→S.getD k 0=A.st (A.f+k)) {k:Nat}(hk:k<S.length) {y:Int}(hy:y=0∨y=1∨y=2):
 FrQ (hp.set c (.rw (.agg 38 ((S.set k y).map (.int .i64))))) b c (A.put (A.f+k) y)∧Chg hp (hp.set c (.rw (.agg 38 ((S.set k y).map (.int .i64))))) (FtQ b c) (FtQ b c):=by
 have hb:=(h1 []).rb;have hc:=(h1 []).sb;refine⟨⟨h.ok.put hy,h.ne,S.set k y,?_,List.getElem?_set_self (aj hc),by rw[List.length_set];exact h3,fun j hj=> ?_⟩,iH.mono (fun _ h=> .inr h) fun _=> .inr⟩
 ·rw[List.getElem?_set_ne (Ne.symm h.ne),List.length_set];exact hb
 ·rw[List.length_set]at hj;rw[EA hk];simp only[AF.put];by_cases e:k=j
  ·subst e;rw[if_pos rfl,al]
  ·rw[if_neg e,aw (by omega)];exact h4 j hj
theorem N3 {A:AF}{S:List Int}(h4:∀k,k<S.length→S.getD k 0=A.st (A.f+k)):∀n,n≤S.length→nz S n=A.cnt A.f n
 |0,_=>rfl
 |n+1,hn=>by
  have key:∀m i,A.cnt i (m+1)=A.cnt i m+if A.st (i+m)=0 then 1 else 0:=by
   intro m
   induction m with
   |zero=>intro i;simp[AF.cnt]
   |succ m ih=>
    intro i;rw[AF.cnt,ih (i+1),AF.cnt,show i+1+m=i+(m+1) by omega];omega
  rw[key,nz,N3 h4 n (by omega),h4 n (by omega)]
theorem B5 {hp:List Blk}{b c:Nat}{A:AF}(h:FrQ hp b c A) (L:List Blk):rf D dK [.ptr (.hp b) [] 21] ⟨L,hp⟩=some (.int .i64 A.left,⟨L,hp⟩):=by obtain⟨S,h1,h2,h3,_⟩:=h.rf;rw[QD (h1 L),N3 h3 _ (Nat.le_refl _),h2];rfl
theorem yY {A:AF}:∀{n i k:Nat},i≤k→k<i+n→A.st k=0→(∀j,i≤j→j<k→A.st j≠0)→A.firstFrom i n=some k
 |0,i,k,h1,h2,_,_=>by omega
 |n+1,i,k,h1,h2,h3,h4=>by
  simp only[AF.firstFrom];by_cases e:i=k
  ·subst e;rw[if_pos h3]
  ·rw[if_neg (h4 i (Nat.le_refl _) (by omega))];exact yY (by omega) (by omega) h3 fun j hj=>h4 j (by omega)
theorem y9 {A:AF}:∀{n i:Nat},(∀j,i≤j→j<i+n→A.st j≠0)→A.firstFrom i n=none
 |0,i,_=>rfl
 |n+1,i,h=>by simp only[AF.firstFrom];rw[if_neg (h i (Nat.le_refl _) (by omega))];exact y9 fun j hj hj2=>h j (by omega) (by omega)
theorem IT {hp:List Blk}{b c:Nat}{A:AF}(h:FrQ hp b c A) (L:List Blk):
 ∃hp',rf D cf [.ptr (.hp b) [] 21] ⟨L,hp⟩=some (.tup [.int .i64 A.alloc.2.1,.int .i64 A.alloc.2.2],⟨L,hp'⟩)∧FrQ hp' b c A.alloc.1∧Chg hp hp' (FtQ b c) (FtQ b c):=by
 obtain⟨S,h1,h2,h3,_⟩:=h.rf;have hfl:=h.ok.fl;rcases Oi (h1 L)with⟨k,g1,g2,g3,e⟩|⟨g,e⟩
 ·have hf:A.first=some (A.f+k):=yY (by omega) (by omega) (by rw[←h3 k g1];exact g2) fun j j1 j2=>by have:=g3 (j-A.f) (by omega);rw[h3 _ (by omega),show A.f+(j-A.f)=j by omega]at this;exact this
  have ha:A.alloc=(A.put (A.f+k) 1,((A.f+k:Nat):Int),0):=by unfold AF.alloc;rw[hf]
  rw[ha];obtain⟨q1,q2⟩:=h.set h1 h2 h3 g1 (.inr (.inl rfl));refine⟨_,?_,q1,q2⟩;rw[e];simp
 ·have hf:A.first=none:=y9 fun j j1 j2=>by have:=g (j-A.f) (by omega);rw[h3 _ (by omega),show A.f+(j-A.f)=j by omega]at this;exact this
  have ha:A.alloc=(A,0,10):=by unfold AF.alloc;rw[hf]
  rw[ha];exact⟨hp,e,h,.refl _ _⟩
def AS.r (x:AS) (m fr:Nat):jM:=⟨m,fr,x.work,x.base,x.dir,x.mark,x.is⟩
theorem CL {m k k2 n:Nat}{off:Bool}{left count:Int}(s:St) (hm:s.hp[m]?=some (.rw (rmV k n k2 off left count))) (f:Int) (h:f<0∨(n:Int)<f∨1024<n) (t:Nat→Ent) (d:Nat→Int):
 rf D ch [.ptr (.hp m) [] 33,.int .i64 f,ac t,aM d] s=some (.tup [.nilp,.int .i64 1],s):=by
 have hnew:=fun L=>I0 f n (by omega) ⟨s.loc++L,s.hp⟩;rw[ab mA rfl];simp only[rmV,ac,aM]at*;simp only[go_sem,hm,hnew]
theorem PW {f n:Nat}(hf:f≤n) (hn:n≤1024) {w:List Nat}{S:List Int}(h:pI f n w S) {A:AF}(hA:ug A w) (h1:A.f=f) (h2:A.l=n):S.length=A.l-A.f∧∀k,k<S.length→S.getD k 0=A.st (A.f+k):=by
 have hl:=h.len;have hl':S.length=A.l-A.f:=by rw[h1,h2];omega
 refine⟨hl',fun k hk=> ?_⟩;rw[h.eq k hk,h1,Zh];rw[hA.bits _ (by omega)];have hr:A.inr (f+k)=true:=pD.2 (by omega);rw[hr,Bool.true_and];rcases hA.two (f+k)with e|e<;>simp[e]
theorem O5 {m k k2 n:Nat}{off:Bool}{left count:Int}{hp:List Blk}(L:List Blk) (hn:n≤1024) (hm:hp[m]?=some (.rw (rmV k n k2 off left count))) (from':Int) (t:Nat→Ent) (d:Nat→Int) (hI:InI (dz t d)):
 ((from'<0∨(n:Int)<from')∧rf D ch [.ptr (.hp m) [] 33,.int .i64 from',ac t,aM d] ⟨L,hp⟩=some (.tup [.nilp,.int .i64 1],⟨L,hp⟩))∨
 (0≤from'∧from'≤n∧(af0 from'.toNat n).takes (dz t d)=none∧∃more,rf D ch [.ptr (.hp m) [] 33,.int .i64 from',ac t,aM d] ⟨L,hp⟩=some (.tup [.nilp,.int .i64 21],⟨L,hp++more⟩))∨
 (0≤from'∧from'≤n∧∃A' more b,(af0 from'.toNat n).takes (dz t d)=some A'∧rf D ch [.ptr (.hp m) [] 33,.int .i64 from',ac t,aM d] ⟨L,hp⟩=some (.tup [.ptr (.hp b) [] 31,.int .i64 0],⟨L,hp++more⟩)∧
  (hp++more)[b]?=some (.rw (jM.v ⟨m,hp.length+1,t,t,d,fun _=>an,false⟩))∧FrQ (hp++more) (hp.length+1) hp.length A'∧hp.length+1<b):=by
 by_cases h0:from'<0∨(n:Int)<from'
 ·exact .inl ⟨h0,CL ⟨L,hp⟩ hm from' (by omega) t d⟩
 ·right;obtain⟨f,rfl⟩:∃f:Nat,from'=f:=⟨from'.toNat,by omega⟩
  rw[Zh];obtain⟨w0,ok0,b0,_⟩:=yo f n (by omega) (by omega) (by omega) ⟨L,hp⟩;have hB:=RC (f:=f) (l:=n) (by omega) hn ok0 b0;rcases II ⟨L,hp⟩ hm f (by omega) (by omega) hn t d hI w0 ok0 b0 with⟨hs,more,e⟩|⟨w,S,X,hs,hal,e⟩
  ·left;refine⟨by omega,by omega,?_,more,e⟩;rcases n8 (ls:=dz t d) hB with⟨_,q⟩|⟨_,_,q,_⟩
   ·exact q
   ·have:cd f n (dz t d) w0=some _:=q;rw[hs]at this;cases this
  ·right;refine⟨by omega,by omega,?_⟩;rcases n8 (ls:=dz t d) hB with⟨q,_⟩|⟨w',A',q,q2,q3⟩
   ·have:cd f n (dz t d) w0=none:=q;rw[hs]at this;cases this
   ·have q:cd f n (dz t d) w0=some w':=q;rw[hs]at q;cases q;obtain⟨h1,h2,_,_⟩:=pC q2;have h1:A'.f=f:=h1;have h2:A'.l=n:=h2;obtain⟨g1,g2⟩:=PW (show f≤n by omega) hn hal q3 h1 h2;refine⟨A',_,_,q2,e,?_,⟨q3.ok,by omega,S,?_,?_,g1,g2⟩,by simp only;omega⟩
    ·simp only;rw[show hp.length+2+X.length=hp.length+(2+X.length) by omega,zO];rw[List.getElem?_append_right (by simp;omega)];simp[show 2+X.length-(X.length+1+1)=0 by omega]
    ·rw[zO,h1];simp
    ·rw[Ih];simp
theorem yZ:∀{l:List V},(∀v∈l,veq v v=some true)→dL l l=some true
 |[],_=>rfl
 |v::l,h=>by simp only[dL,h v List.mem_cons_self];exact yZ fun w hw=>h w (List.mem_cons_of_mem _ hw)
theorem Gb (t:Nat→Ent):dL (tab 49 fun i=>(t i).v) (tab 49 fun i=>(t i).v)=some true:=yZ fun v hv=>by obtain⟨i,_,rfl⟩:=List.mem_map.1 hv;simp[Ent.v,veq,dL]
theorem Pe (d:Nat→Int):dL (tab 8 fun i=> .int .i64 (d i)) (tab 8 fun i=> .int .i64 (d i))=some true:=yZ fun v hv=>by obtain⟨i,_,rfl⟩:=List.mem_map.1 hv;simp[veq]
theorem uq:∀{l:List V},(∀v∈l,v.flat=true)→V.flats l=true
 |[],_=>by simp[V.flats]
 |v::l,h=>by simp only[V.flats,h v List.mem_cons_self,uq fun w hw=>h w (List.mem_cons_of_mem _ hw),Bool.and_self]
theorem T6 {s:St}{a:Nat}{x:jM}(h:s.hp[a]?=some (.rw x.v)) (id:Int):rf D eR [.ptr (.hp a) [] 31,.int .i64 id] s=some (.int .i64 (gE x.work id),s):=by
 obtain⟨m,fr,work,base,dir,mark,marked⟩:=x;simp only[jM.v,ac]at*;unfold gE;rw[ab sP rfl];by_cases c1:id<0
 ·simp only[go_sem,c1]
 ·by_cases c2:49≤id
  ·simp only[go_sem,c1,c2]
  ·obtain⟨i,rfl⟩:∃i:Nat,id=i:=⟨id.toNat,by omega⟩;have g1:=av (f:=fun i=>(work i).v) (show i<49 by omega);simp only[Ent.v]at*;generalize tab 49 (fun i=>V.agg 42 [.int .i64 (work i).kind,.int .i64 (work i).ver,.int .i64 (work i).line])=T at*;have d1:(i:Int)<49:=by omega
   have d2:(0:Int)≤i:=by omega
   rw[if_neg (by omega),Zh];by_cases hk:(work i).kind=0
   ·simp only[hk]at*;simp only[go_sem,c1,c2,h,d1,d2];rw[Zh];simp only[go_sem,g1]
   ·simp only[go_sem,c1,c2,h,d1,d2];rw[Zh];simp only[go_sem,g1,hk]
theorem U6 {t:Nat→Ent}{d:Nat→Int}(ht:∀i,i<49→(t i).line≤9223372036854775807) (hd:∀i,i<8→d i≤9223372036854775807):InI (dz t d):=by
 have key:∀(n i:Nat),i+n=49→∀x∈be t i n,x≤9223372036854775807:=by
  intro n
  induction n with
  |zero=>intro i _ x hx;cases hx
  |succ n ih=>
   intro i hin x hx;simp only[be]at hx;split at hx
   ·exact ih (i+1) (by omega) x hx
   ·rcases List.mem_cons.1 hx with rfl|hx
    ·exact ht i (by omega)
    ·exact ih (i+1) (by omega) x hx
 refine⟨fun x hx=> ?_⟩;rcases List.mem_append.1 hx with hx|hx
 ·exact key 49 0 rfl x hx
 ·have:x=d 0∨x=d 1∨x=d 2∨x=d 3∨x=d 4∨x=d 5∨x=d 6∨x=d 7:=by simpa[iO]using hx
  rcases this with rfl|rfl|rfl|rfl|rfl|rfl|rfl|rfl<;>exact hd _ (by decide)
theorem Gv {n:Nat}(h0:64≤n) (h1:n≤1024) (s:St):rf D ig [.int .i64 n] s=
 some (.tup [.ptr (.hp (s.hp.length+3)) [] 33,.int .i64 0],⟨s.loc,s.hp++[.rw (.agg 58 []),.rw (.agg 58 (tab n fun _=>lnV zl)),.rw (.agg 53 (tab n fun _=> .nils)),.rw (rmV (s.hp.length+1) n (s.hp.length+2) false (-1) 0)]⟩):=by
 have c1:¬(n:Int)<64:=by omega
 have c2:¬1024<(n:Int):=by omega
 have c3:(0:Int)≤n:=by omega
 have hm:(n:Int)≤(cg:Nat):=by unfold cg;omega
 have h:=fun L=>I9 (a:=s.loc.length) (ls:=fun _=>zl) h0 h1 ⟨s.loc++[.rw (.agg 58 (tab n fun _=>lnV zl))]++L,s.hp⟩ (by simp);have h:=h [];have e:List.replicate n (V.agg 24 (List.replicate 8 (.int .u64 0)))=tab n fun _=>lnV zl:=by rw[co];rfl
 simp only[List.append_nil]at h;rw[ab xc rfl];simp only[go_sem,c1,c2,c3,hm,Int.le_refl,Zh,e,h];rfl
theorem MN {n:Nat}(h0:64≤n) (h1:n≤1024) (hp L:List Blk):∃more,more.length=4∧rf D ig [.int .i64 n] ⟨L,hp⟩=some (.tup [.ptr (.hp (hp.length+3)) [] 33,.int .i64 0],⟨L,hp++more⟩)∧
 aV (hp++more) (fun j=>j=hp.length+1∨j=hp.length+2∨j=hp.length+3) (hp.length+3) (am0 n fun _=>zl):=by
 refine⟨_,rfl,Gv h0 h1 ⟨L,hp⟩,⟨h0,h1,fun _ _=>rfl,fun _ _ d hd=>(by cases hd),Int.le_refl _,fun _ _=>Int.le_refl _,Int.le_refl _,by simp[am0]⟩,fun j hj=> ?_,.inr (.inr rfl),hp.length+1,hp.length+2,.inl rfl,.inr (.inl rfl),by omega,by omega,by omega,?_,?_,fun _=> .nils,fun _=>0,?_,fun i hi=> .nil⟩
 ·simp;omega
 ·rw[List.getElem?_append_right (by omega),show hp.length+3-hp.length=3 by omega];rfl
 ·rw[List.getElem?_append_right (by omega),show hp.length+1-hp.length=1 by omega];rfl
 ·rw[List.getElem?_append_right (by omega),show hp.length+2-hp.length=2 by omega];rfl
structure dS (hp:List Blk) (Fm:Ft) (b m fr c:Nat) (x:AS):Prop where
 ok:x.Ok
 st:hp[b]?=some (.rw ((x.r m fr).v))
 fq:FrQ hp fr c x.A
 mq:aV hp Fm m x.M
 nb:b≠fr∧b≠c
 nm:¬Fm b∧¬Fm fr∧¬Fm c
def f8 (b fr c:Nat) (Fm:Ft):Ft:=fun j=>j=b∨j=fr∨j=c∨Fm j
theorem dS.inn {hp:List Blk}{Fm:Ft}{b m fr c:Nat}{x:AS}(h:dS hp Fm b m fr c x):Inn hp (f8 b fr c Fm):=fun j hj=>by
 rcases hj with rfl|rfl|rfl|hj
 ·exact aj h.st
 ·exact h.fq.inn _ (.inl rfl)
 ·exact h.fq.inn _ (.inr rfl)
 ·exact h.mq.inn j hj
theorem dS.chg {hp hp':List Blk}{Fm G G':Ft}{b m fr c:Nat}{x:AS}(h:dS hp Fm b m fr c x) (hc:Chg hp hp' G G') (ha:fG G (f8 b fr c Fm)):dS hp' Fm b m fr c x:=
 ⟨h.ok,hc.get h.st fun e=>ha b e (.inl rfl),h.fq.eqv (hc.eqv (fun j h1 h2=>ha j h1 (by
  rcases h2 with rfl|rfl
  ·exact .inr (.inl rfl)
  ·exact .inr (.inr (.inl rfl)))) h.fq.inn),h.mq.chg hc fun j h1 h2=>ha j h1 (.inr (.inr (.inr h2))),h.nb,h.nm⟩
theorem QA {hp L:List Blk}{v:V}{ls:List Int}(hrs:RS ⟨L,hp⟩ 10 v (ls.map (V.int .i64))) (hl:ls.length<1000) (n:Int):rf D iV [v,.int .i64 n] ⟨L,hp⟩=some (.bool (decide (n∈ls)),⟨L,hp⟩):=by
 have loop:∃r,rc D L.length (.loop [0,1,5] eK) [(0,v),(1,.int .i64 n),(5,.int .i64 0)] ⟨L,hp⟩=some r∧
  ((n∈ls∧r=(.ret,[(4,.bool true)],⟨L,hp⟩))∨(n∉ls∧r=(.exit 0,[(0,v),(1,.int .i64 n),(5,.int .i64 ls.length),(9,.bool false)],⟨L,hp⟩))):=by
  have hsl:V.slen false v=some ls.length:=by
   have:=hrs.slen
   rwa [List.length_map]at this
  refine o7 (fun x:Nat=>[(0,v),(1,.int .i64 n),(5,.int .i64 x)]) (fun _=>⟨L,hp⟩) _ (fun x=>ls.length-x) (fun x=>x≤ls.length∧n∉ls.take x) 0 ?_ ⟨by omega,by simp⟩ rfl rfl;rintro x ⟨hx,hn⟩;by_cases c1:x<ls.length
  ·have c2:(x:Int)<ls.length:=by omega
   have d4:IntKind.i64.wrap ((x:Int)+1)=(x:Int)+1:=ae (by omega) (by omega);have hg:(ls.map (V.int .i64))[x]?=some (.int .i64 ls[x]):=by rw[List.getElem?_map,List.getElem?_eq_getElem c1];rfl
   have hld:∀t q,ldv ⟨L,hp⟩ t (elq v x q t)=V.at q (.int .i64 ls[x]):=fun t q=>hrs.ldq hg;by_cases he:ls[x]=n
   ·right;refine⟨_,?_,.inl ⟨by rw[←he];exact List.getElem_mem c1,rfl⟩⟩;simp only[go_sem,eK,hsl,c2,hrs.sadq hg,hld,he]
   ·left;refine⟨x+1,⟨by omega,?_⟩,by omega,?_⟩
    ·rw[List.take_succ_eq_append_getElem c1,List.mem_append,List.mem_singleton];rintro(h|h)
     ·exact hn h
     ·exact he h.symm
    ·have hv:v.locLt L.length=true:=hrs.locLt;simp only[go_sem,eK,hsl,c2,hrs.sadq hg,hld,he,d4,hv];rfl
  ·right;have:x=ls.length:=by omega
   subst this;have c2:¬(ls.length:Int)<ls.length:=by omega
   rw[List.take_length]at hn;refine⟨_,?_,.inr ⟨hn,rfl⟩⟩;simp only[go_sem,eK,hsl,c2]
 obtain⟨r,hr,h|h⟩:=loop
 ·obtain⟨h1,rfl⟩:=h;rw[ab qA rfl];simp only[go_sem,hr,h1,decide_true]
 ·obtain⟨h1,rfl⟩:=h;rw[ab qA rfl];simp only[go_sem,hr,h1,decide_false]
theorem JP {hp:List Blk}{v:V}{ls:List Int}(hrs:∀L,RS ⟨L,hp⟩ 10 v (ls.map (V.int .i64))) (hl:ls.length<1000) (n:Int) (L:List Blk):rf D iV [v,.int .i64 n] ⟨L,hp⟩=some (.bool (decide (n∈ls)),⟨L,hp⟩):=QA (hrs L) hl n
theorem Apd.rs {L0 X:List Blk}{v:V}{l:List Int}(h:Apd L0 X v l) (loc:List Blk):RS ⟨loc,L0++X⟩ 10 v (l.map (.int .i64)):=by
 rcases h.at' with⟨rfl,rfl⟩|⟨Y,rfl,rfl⟩
 ·exact .inl ⟨rfl,rfl⟩
 ·refine .inr ⟨_,_,_,_,by rw[List.length_map],(by intro c' hc';cases hc'),rfl,.inr ⟨38,l.map (.int .i64),?_,fun j x hx=>by rw[Nat.zero_add];exact hx⟩⟩;rw[←List.append_assoc,←List.length_append];simp only[go_sem]
theorem CW {t:Nat→Ent}{n:Int}:∀(m i:Nat),n∈be t i m↔∃j,i≤j∧j<i+m∧(t j).kind≠0∧(t j).line=n
 |0,i=>by simp only[be,List.not_mem_nil,false_iff];rintro⟨j,h1,h2,_⟩;omega
 |m+1,i=>by
  simp only[be];have ih:=CW (t:=t) (n:=n) m (i+1);split
  ·rename_i hk;rw[ih];constructor
   ·rintro⟨j,h1,h2,h3⟩;exact⟨j,by omega,by omega,h3⟩
   ·rintro⟨j,h1,h2,h3,h4⟩;rcases Nat.lt_or_ge i j with h|h
    ·exact⟨j,by omega,by omega,h3,h4⟩
    ·have:j=i:=by omega
     subst this;exact absurd hk h3
  ·rename_i hk;rw[List.mem_cons,ih];constructor
   ·rintro(h|⟨j,h1,h2,h3⟩)
    ·exact⟨i,Nat.le_refl _,by omega,hk,h.symm⟩
    ·exact⟨j,by omega,by omega,h3⟩
   ·rintro⟨j,h1,h2,h3,h4⟩;rcases Nat.lt_or_ge i j with h|h
    ·exact .inr ⟨j,by omega,by omega,h3,h4⟩
    ·have:j=i:=by omega
     subst this;exact .inl h4.symm
theorem D9 {t:Nat→Ent}(ht:InL t) {n:Int}(hn:0≤n) {f:Nat→Bool}:fT t f 49 n.toNat=(f n.toNat||decide (n∈be t 0 49)):=by
 rw[xh ht 49 (Nat.le_refl _)];congr 1;apply Bool.eq_iff_iff.2;simp only[List.any_eq_true,List.mem_range,Zj,Zi,CW];constructor
 ·rintro⟨i,h1,h2,h3⟩;have:=ht.inn i h1 h2;exact⟨i,by omega,by omega,h2,by omega⟩
 ·rintro⟨i,h1,h2,h3,h4⟩;exact⟨i,by omega,h3,by rw[h4];omega⟩
theorem NQ {hp:List Blk}{Fm:Ft}{b m fr c:Nat}{x:AS}(h:dS hp Fm b m fr c x) {i:Nat}(hi:i<49) (hk:(x.work i).kind≠0) (L:List Blk):
 ∃X,rf D gY [.ptr (.hp b) [] 31,.int .i64 i] ⟨L,hp⟩=some (.bool (x.own i),⟨L,hp++X⟩):=by
 have ok:=h.ok;have hb:=ok.b.inL ok.A;have hm:=ok.k.inL ok.A;have hw:=(ok.w.inL ok.A).inn i hi hk;have hst:=h.st;obtain⟨X,v,a1,e1⟩:=yN x.base ⟨L,hp⟩;have i1:=fun L=>JP (fun L=>a1.rs L) (by have:=nh x.base 49 0;omega) (x.work i).line L;obtain⟨X2,v2,a2,e2⟩:=yN x.mark ⟨L,hp++X⟩;have i2:=fun L=>JP (fun L=>a2.rs L) (by have:=nh x.mark 49 0;omega) (x.work i).line L;have g1:=av (f:=fun i=>(x.work i).v) hi;have d1:(i:Int)<49:=by omega
 have d0:(0:Int)≤i:=by omega
 have hst2:(hp++X)[b]?=some (.rw ((x.r m fr).v)):=(List.getElem?_append_left (aj hst)).trans hst;unfold AS.own AS.sh AO;have q1:fT x.base (fun _=>false) 49 (x.work i).line.toNat=decide ((x.work i).line∈be x.base 0 49):=by rw[D9 hb hw.1,Bool.false_or]
 have q2:fT x.mark (fT x.base (fun _=>false) 49) 49 (x.work i).line.toNat=(decide ((x.work i).line∈be x.base 0 49)||decide ((x.work i).line∈be x.mark 0 49)):=by rw[D9 hm hw.1,q1]
 simp only[AS.r,jM.v]at*;generalize hB:decide ((x.work i).line∈be x.base 0 49)=B at*;generalize hK:decide ((x.work i).line∈be x.mark 0 49)=K at*;simp only[ac,Ent.v]at*;generalize(tab 49 fun i=>V.agg 42 [.int .i64 (x.work i).kind,.int .i64 (x.work i).ver,.int .i64 (x.work i).line])=T at*;generalize(tab 49 fun i=>V.agg 42 [.int .i64 (x.base i).kind,.int .i64 (x.base i).ver,.int .i64 (x.base i).line])=TB at*;generalize(tab 49 fun i=>V.agg 42 [.int .i64 (x.mark i).kind,.int .i64 (x.mark i).ver,.int .i64 (x.mark i).line])=TK at*;rw[ab sn rfl];cases his:x.is
 ·rw[his]at hst hst2;refine⟨X,?_⟩;simp only[Bool.false_eq_true,if_false,q1];simp only[go_sem,hst,d0,d1];rw[Zh];cases B<;>simp only[go_sem,g1,e1,i1,hst,hst2]
 ·rw[his]at hst hst2;simp only[if_true,q2];cases B
  ·refine⟨X++X2,?_⟩;simp only[List.append_assoc]at i2;simp only[go_sem,hst,d0,d1];rw[Zh];cases K<;>simp only[go_sem,g1,e1,i1,hst,hst2,e2,i2]
  ·refine⟨X,?_⟩;simp only[go_sem,hst,d0,d1];rw[Zh];simp only[go_sem,g1,e1,i1,hst,hst2]
theorem O4 {hp:List Blk}{Fm:Ft}{b m fr c:Nat}{x:AS}(h:dS hp Fm b m fr c x) (id:Int) (L:List Blk):rf D eR [.ptr (.hp b) [] 31,.int .i64 id] ⟨L,hp⟩=some (.int .i64 (gE x.work id),⟨L,hp⟩):=T6 (s:=⟨L,hp⟩) h.st id
theorem Oo {hp:List Blk}{Fm:Ft}{b m fr c:Nat}{x:AS}(h:dS hp Fm b m fr c x) (hc:x.M.count<1000000) (id:Int) (L:List Blk):rf D gX [.ptr (.hp b) [] 31,.int .i64 id] ⟨L,hp⟩=some (.tup [(x.get id).1.v,.int .i64 (x.get id).2],⟨L,hp⟩):=by
 have his:=fun L=>O4 h id L;have hst:=h.st;unfold AS.get;by_cases he:gE x.work id=0
 ·rw[if_neg (by simp[he])];obtain⟨h1,h2,h3⟩:=RG he;obtain⟨i,rfl⟩:∃i:Nat,id=i:=⟨id.toNat,by omega⟩;rw[Zh]at*;have hld:=fun L=>lz h.mq hc (x.work i).line L;have g1:=av (f:=fun i=>(x.work i).v) (show i<49 by omega);have d1:(i:Int)<49:=by omega
  have d2:(0:Int)≤i:=by omega
  rw[he]at his;have e:zl.map (V.int .u64)=List.replicate 8 (.int .u64 0):=rfl;simp only[AS.r,jM.v,ac,Ent.v,lnV,Obj.v]at*;generalize tab 49 (fun i=>V.agg 42 [.int .i64 (x.work i).kind,.int .i64 (x.work i).ver,.int .i64 (x.work i).line])=W at*;generalize x.M.load (x.work i).line=ld at*;rw[ab lV rfl];by_cases hl:ld.2=0
  ·rw[if_neg (by simp[hl])];rw[hl]at hld;simp only[go_sem,his,hst,d1,d2];rw[Zh];simp only[go_sem,g1,hst,hld,d1,d2];rw[Zh];simp only[go_sem,g1,hst]
  ·rw[if_pos hl];simp only[e];simp only[go_sem,his,hst,d1,d2];rw[Zh];simp only[go_sem,g1,hst,hld,hl]
 ·rw[if_pos he];have e:zl.map (V.int .u64)=List.replicate 8 (.int .u64 0):=rfl;simp only[Obj.v,lnV,e];rw[ab lV rfl];simp only[go_sem,his,he]
section
variable {hp hp' : List Blk} {Fm : Ft} {b m fr c : Nat} {x : AS}
theorem dS.setM (h:dS hp Fm b m fr c x) {M:AM}{Fm':Ft}(hm:aV hp' Fm' m M) (hc:Chg hp hp' Fm Fm') (hn:M.n=x.M.n):dS hp' Fm' b m fr c {x with M:=M}:=by
 have lb:b<hp.length:=aj h.st;have lf:fr<hp.length:=h.fq.inn _ (.inl rfl);have lc:c<hp.length:=h.fq.inn _ (.inr rfl);refine⟨h.ok.with hm.ok hn h.ok.A h.ok.s2 rfl rfl,hc.get h.st h.nm.1,h.fq.eqv fun j hj=> ?_,hm,h.nb,fun e=> ?_,fun e=> ?_,fun e=> ?_⟩
 ·rcases hj with rfl|rfl
  ·exact hc.old _ lf h.nm.2.1
  ·exact hc.old _ lc h.nm.2.2
 ·rcases hc.new b e with e|e
  ·exact h.nm.1 e
  ·omega
 ·rcases hc.new fr e with e|e
  ·exact h.nm.2.1 e
  ·omega
 ·rcases hc.new c e with e|e
  ·exact h.nm.2.2 e
  ·omega
theorem Wt {Fm':Ft}(hc:Chg hp hp' Fm Fm'):Chg hp hp' (f8 b fr c Fm) (f8 b fr c Fm'):=
 hc.mono (fun j h=> .inr (.inr (.inr h))) fun j h=>by
  rcases h with h|h|h|h
  ·exact .inr (.inl h)
  ·exact .inr (.inr (.inl h))
  ·exact .inr (.inr (.inr (.inl h)))
  ·exact .inl h
theorem dS.setA (h:dS hp Fm b m fr c x) {A:AF}(hf:FrQ hp' fr c A) (hc:Chg hp hp' (FtQ fr c) (FtQ fr c)) (hs:∀j,A.st j≠2) (h1:A.f=x.A.f) (h2:A.l=x.A.l):dS hp' Fm b m fr c {x with A:=A}:=
 ⟨h.ok.with h.ok.M rfl hf.ok hs h1 h2,hc.get h.st (fun e=>by
  rcases e with e|e
  ·exact h.nb.1 e
  ·exact h.nb.2 e),hf,h.mq.chg hc fun j h1 h2=>by
   rcases h1 with rfl|rfl
   ·exact h.nm.2.1 h2
   ·exact h.nm.2.2 h2,h.nb,h.nm⟩
theorem RT (hc:Chg hp hp' (FtQ fr c) (FtQ fr c)):Chg hp hp' (f8 b fr c Fm) (f8 b fr c Fm):=hc.mono (fun j h=>by
 rcases h with h|h
 ·exact .inr (.inl h)
 ·exact .inr (.inr (.inl h))) fun _ h=> .inr h
theorem dS.setB (h:dS hp Fm b m fr c x) {y:AS}(hy:y.Ok) (hM:y.M=x.M) (hA:y.A=x.A):dS (hp.set b (.rw ((y.r m fr).v))) Fm b m fr c y:=
 ⟨hy,List.getElem?_set_self (aj h.st),by rw[hA];exact h.fq.eqv fun j hj=>List.getElem?_set_ne (by
  rcases hj with rfl|rfl
  ·exact h.nb.1
  ·exact h.nb.2),by rw[hM];exact h.mq.chg (iH (a:=b)) fun j h1 h2=>h.nm.1 (by cases h1;exact h2),h.nb,h.nm⟩
theorem Xp {k:Blk}:Chg hp (hp.set b k) (f8 b fr c Fm) (f8 b fr c Fm):=iH.mono (fun _ h=> .inl h) fun _ h=> .inr h
theorem dS.more (h:dS hp Fm b m fr c x) (X:List Blk):dS (hp++X) Fm b m fr c x:=h.chg (oW hp X fun _=>False) fun _ h=>h.elim
theorem ED {l:List Int}(hl:l.length=8) {at':Int}(L:List Blk):∀(n j:Nat) {hp:List Blk}{Fm:Ft}{x:AS},j+n=8→dS hp Fm b m fr c x→x.M.count+n<1000000→
 ∃hp' Fm' r,rc D L.length (.loop [0,3,6,8] cB) [(0,.ptr (.hp b) [] 31),(3,.ptr (.loc L.length) [] 24),(6,.int .i64 at'),(8,.int .i64 j)] ⟨L++[.rw (lnV l)],hp⟩=some r∧
  dS hp' Fm' b m fr c {x with M:=(x.M.layFrom at' l j n).1}∧Chg hp hp' Fm Fm'∧
  (((x.M.layFrom at' l j n).2=0∧r=(.exit 0,[(0,.ptr (.hp b) [] 31),(3,.ptr (.loc L.length) [] 24),(6,.int .i64 at'),(8,.int .i64 8),(21,.bool false)],⟨L++[.rw (lnV l)],hp'⟩))∨
   ((x.M.layFrom at' l j n).2≠0∧r=(.ret,[(4,.int .i64 0),(5,.int .i64 (x.M.layFrom at' l j n).2)],⟨L++[.rw (lnV l)],hp'⟩)))
 |0,j,hp,Fm,x,hj,h,_=>by
  have:j=8:=by omega
  subst this;refine⟨hp,Fm,_,?_,h,.refl _ _,.inl ⟨rfl,rfl⟩⟩;rw[aa];simp only[lnV];simp only[go_sem,cB]
 |n+1,j,hp,Fm,x,hj,h,hc=>by
  obtain⟨hp1,Fm1,e1,e2,e3⟩:=ma h.mq (by omega) at' j (l.getD j 0) (L++[.rw (lnV l)]);have h1:=h.setM e2 e3 AM.store_n;have hcn:=AM.store_count (M:=x.M) (i:=at') (q:=j) (v:=l.getD j 0);have d1:(j:Int)<8:=by omega
  have d2:(0:Int)≤j:=by omega
  have d4:IntKind.i64.wrap ((j:Int)+1)=((j+1:Nat):Int):=ae (by omega) (by omega);have g:=am (f:=V.int .u64) (l:=l) (i:=j) (by omega) 0;have hst:=h.st;simp only[AM.layFrom];by_cases he:(x.M.store at' j (l.getD j 0)).2=0
  ·rw[if_neg fun hh=>hh he];obtain⟨hp2,Fm2,r,q1,q2,q3,q4⟩:=ED hl L n (j+1) (by omega) h1 (by simp only;omega);refine⟨hp2,Fm2,r,?_,q2,e3.trans q3,q4⟩;rw[←q1,aa];rw[he]at e1;simp only[AS.r,jM.v,lnV]at*;generalize l.getD j 0=wd at*;simp only[go_sem,cB,d1,d2,Zh,g,hst,e1,d4,show L.length<L.length+1 from Nat.lt_succ_self _]
  ·rw[if_pos he];refine⟨hp1,Fm1,_,?_,h1,e3,.inr ⟨he,rfl⟩⟩;rw[aa];simp only[AS.r,jM.v,lnV]at*;generalize l.getD j 0=wd at*;simp only[go_sem,cB,d1,d2,Zh,g,hst,e1,he]
theorem NW (h:dS hp Fm b m fr c x) (hc:x.M.count+8<1000000) {l:List Int}(hl:l.length=8) (L:List Blk):
 ∃hp' Fm',rf D gS [.ptr (.hp b) [] 31,lnV l] ⟨L,hp⟩=some (.tup [.int .i64 (x.lay l).2.1,.int .i64 (x.lay l).2.2],⟨L,hp'⟩)∧dS hp' Fm' b m fr c (x.lay l).1∧Chg hp hp' (f8 b fr c Fm) (f8 b fr c Fm'):=by
 obtain⟨hp1,e1,e2,e3⟩:=IT h.fq (L++[.rw (lnV l)]);have h1:=h.setA e2 e3 (Cm h.ok.s2) jF.1 jF.2;have hs:=h.st;unfold AS.lay;by_cases he:x.A.alloc.2.2=0
 ·rw[if_neg (by simp[he])];obtain⟨hp2,Fm2,r,q1,q2,q3,q4⟩:=ED (b:=b) (m:=m) (fr:=fr) (c:=c) hl (at':=x.A.alloc.2.1) L 8 0 rfl h1 (by simp only;omega);simp only at q1 q2 q4⊢;rw[show((0:Nat):Int)=0 from rfl]at q1
  refine⟨hp2,Fm2,?_,q2,(RT e3).trans (Wt q3)⟩;rw[he]at e1;generalize x.M.layFrom x.A.alloc.2.1 l 0 8=lf at*;generalize x.A.alloc.2.1=at' at*;simp only[AS.r,jM.v,lnV]at*;rw[ab lY rfl];rcases q4 with⟨z,rfl⟩|⟨z,rfl⟩
  ·rw[z,if_neg (by simp)];simp only[go_sem,hs,e1];simp only[go_sem,q1]
  ·rw[if_pos z];simp only[go_sem,hs,e1];simp only[go_sem,q1]
 ·rw[if_pos he];have hn:x.A.alloc=(x.A,0,10):=by
   unfold AF.alloc at he⊢;split
   ·rename_i hq;rw[hq]at he;exact absurd rfl he
   ·rfl
  rw[hn]at h1 e1;refine⟨hp1,Fm,?_,h1,RT e3⟩;rw[hn];simp only[AS.r,jM.v,lnV]at*;rw[ab lY rfl];simp only[go_sem,hs,e1]
end
section
variable {hp hp' : List Blk} {Fm : Ft} {b m fr c : Nat} {x : AS}
theorem FO (X:List Blk) {F:Ft}:Chg hp (hp++X) F F:=(oW hp X fun _=>False).mono (fun _ h=>h.elim) fun _ h=> .inr h
theorem Mx (h:dS hp Fm b m fr c x) (hc:x.M.count+8<1000000) (id word v:Int) (L:List Blk):
 ∃hp' Fm',rf D gZ [.ptr (.hp b) [] 31,.int .i64 id,.int .i64 word,.int .u64 v] ⟨L,hp⟩=some (.int .i64 (x.set id word v).2,⟨L,hp'⟩)∧dS hp' Fm' b m fr c (x.set id word v).1∧Chg hp hp' (f8 b fr c Fm) (f8 b fr c Fm'):=by
 have hst:=h.st;have hok:=(h.ok.set id word v);unfold AS.set at hok⊢;by_cases c0:id<0∨49≤id∨word<0∨8≤word
 ·rw[if_pos c0];refine⟨hp,Fm,?_,h,.refl _ _⟩;rw[ab bA rfl];by_cases c1:id<0
  ·simp only[go_sem,c1]
  ·by_cases c2:49≤id
   ·simp only[go_sem,c1,c2]
   ·by_cases c3:word<0
    ·simp only[go_sem,c1,c2,c3]
    ·have c4:word>7:=by omega
     simp only[go_sem,c1,c2,c3,c4]
 ·rw[if_neg c0]at hok⊢;have w1:¬word<0:=by omega
  have w2:¬word>7:=by omega
  obtain⟨i,rfl⟩:∃i:Nat,id=i:=⟨id.toNat,by omega⟩;rw[Zh]at*;have hi:i<49:=by omega
  have w0:¬(i:Int)<0:=by omega
  have w00:¬(49:Int)≤i:=by omega
  have g1:=av (f:=fun i=>(x.work i).v) hi;have d1:(i:Int)<49:=by omega
  have d2:(0:Int)≤i:=by omega
  by_cases hk:(x.work i).kind=0
  ·rw[if_pos hk];refine⟨hp,Fm,?_,h,.refl _ _⟩;simp only[AS.r,jM.v,ac,Ent.v]at*;generalize tab 49 (fun i=>V.agg 42 [.int .i64 (x.work i).kind,.int .i64 (x.work i).ver,.int .i64 (x.work i).line])=T at*;simp only[hk]at g1;rw[ab bA rfl];simp only[go_sem,w0,w00,w1,w2,hst,d1,d2];rw[Zh];simp only[go_sem,g1]
  ·rw[if_neg hk]at hok⊢;obtain⟨X,hown⟩:=NQ h hi hk L;have h':=h.more X;have hst':=h'.st;by_cases ho:x.own i=true
   ·rw[if_pos ho];obtain⟨hp1,Fm1,e1,e2,e3⟩:=ma h'.mq (by omega) (x.work i).line word v L;refine⟨hp1,Fm1,?_,h'.setM e2 e3 AM.store_n,(FO X).trans (Wt e3)⟩;rw[ho]at hown;generalize x.M.store (x.work i).line word v=sr at*;simp only[AS.r,jM.v,ac,Ent.v]at*;generalize tab 49 (fun i=>V.agg 42 [.int .i64 (x.work i).kind,.int .i64 (x.work i).ver,.int .i64 (x.work i).line])=T at*;rw[ab bA rfl];simp only[go_sem,w0,w00,w1,w2,hst,d1,d2];rw[Zh];simp only[go_sem,g1,hk,hown,hst',d1,d2];rw[Zh];simp only[go_sem,g1,hst',e1]
   ·rw[if_neg ho]at hok⊢;have ho':x.own i=false:=by simpa using ho
    have hleft:=fun L=>B5 h'.fq L;rw[ho']at hown;by_cases hl0:x.A.left=0
    ·rw[if_pos hl0];refine⟨hp++X,Fm,?_,h',FO X⟩;rw[hl0]at hleft;simp only[AS.r,jM.v,ac,Ent.v]at*;generalize tab 49 (fun i=>V.agg 42 [.int .i64 (x.work i).kind,.int .i64 (x.work i).ver,.int .i64 (x.work i).line])=T at*;rw[ab bA rfl];simp only[go_sem,w0,w00,w1,w2,hst,d1,d2];rw[Zh];simp only[go_sem,g1,hk,hown,hst',hleft]
    ·rw[if_neg hl0]at hok⊢;have hl0':¬((x.A.left:Nat):Int)=0:=by omega
     have hld:=fun L=>lz h'.mq (by omega) (x.work i).line L;by_cases hle:(x.M.load (x.work i).line).2≠0
     ·rw[if_pos hle];refine⟨hp++X,Fm,?_,h',FO X⟩;generalize x.M.load (x.work i).line=ld at*;simp only[AS.r,jM.v,ac,Ent.v,lnV]at*;generalize tab 49 (fun i=>V.agg 42 [.int .i64 (x.work i).kind,.int .i64 (x.work i).ver,.int .i64 (x.work i).line])=T at*;rw[ab bA rfl];simp only[go_sem,w0,w00,w1,w2,hst,d1,d2];rw[Zh];simp only[go_sem,g1,hk,hown,hst',hleft,hl0',d1,d2];rw[Zh];simp only[go_sem,g1,hst',hld,hle]
     ·rw[if_neg hle]at hok⊢;have hle':(x.M.load (x.work i).line).2=0:=by simpa using hle
      have hl8:(x.M.load (x.work i).line).1.length=8:=by
       unfold AM.load at hle'⊢;split
       ·rfl
       ·rename_i hh;split
        ·rfl
        ·exact h.ok.M.now8 (by omega)
      obtain⟨w,rfl⟩:∃w:Nat,word=w:=⟨word.toNat,by omega⟩;rw[Zh]at*;have w3:(w:Int)<8:=by omega
      have w4:(0:Int)≤w:=by omega
      have gw:=am (f:=V.int .u64) (l:=(x.M.load (x.work i).line).1) (i:=w) (by omega) 0;obtain⟨hp1,Fm1,e1,e2,e3⟩:=NW h' hc (l:=(x.M.load (x.work i).line).1.set w v) (by simpa using hl8) (L++[.rw (lnV ((x.M.load (x.work i).line).1.set w v))]);rw[hle']at hld;have hst1:=e2.st;have hw:=AS.lay_work (x:=x) ((x.M.load (x.work i).line).1.set w v);simp only at hok⊢;by_cases hre:(x.lay ((x.M.load (x.work i).line).1.set w v)).2.2≠0
      ·rw[if_pos hre];refine⟨hp1,Fm1,?_,e2,(FO X).trans e3⟩;clear hok;generalize x.lay ((x.M.load (x.work i).line).1.set w v)=lr at*;generalize x.M.load (x.work i).line=ld at*;simp only[AS.r,jM.v,ac,Ent.v,lnV,List.map_set]at*;generalize tab 49 (fun i=>V.agg 42 [.int .i64 (x.work i).kind,.int .i64 (x.work i).ver,.int .i64 (x.work i).line])=T at*;rw[ab bA rfl];simp only[go_sem,w0,w00,w1,w2,hst,d1,d2];rw[Zh];simp only[go_sem,g1,hk,hown,hst',hleft,hl0',d1,d2];rw[Zh];simp only[go_sem,g1,hst',hld,w3,w4,gw];simp only[go_sem,Zh,gw,e1,hre]
      ·rw[if_neg hre]at hok⊢;have hre':(x.lay ((x.M.load (x.work i).line).1.set w v)).2.2=0:=by simpa using hre
       have e4:=e2.setB hok rfl rfl;refine⟨_,Fm1,?_,e4,((FO X).trans e3).trans Xp⟩;rw[hre']at e1;have hup:=tM (t:=x.work) (i:=i) (e:=(x.work i).at (x.lay ((x.M.load (x.work i).line).1.set w v)).2.1);simp only[AS.r,hw.1]at hst1⊢;clear hok e4 e2;generalize x.lay ((x.M.load (x.work i).line).1.set w v)=lr at*;generalize x.M.load (x.work i).line=ld at*;simp only[AS.r,jM.v,ac]at hst hst' hst1⊢;rw[←hup];simp only[Ent.at,Ent.v,lnV,List.map_set]at*;generalize tab 49 (fun i=>V.agg 42 [.int .i64 (x.work i).kind,.int .i64 (x.work i).ver,.int .i64 (x.work i).line])=T at*;rw[ab bA rfl];simp only[go_sem,w0,w00,w1,w2,hst,d1,d2];rw[Zh];simp only[go_sem,g1,hk,hown,hst',hleft,hl0',d1,d2];rw[Zh];simp only[go_sem,g1,hst',hld,w3,w4,gw];simp only[go_sem,Zh,gw,e1,hst1,g1,d1,d2]
end
theorem zK {n:Nat}(h:n<4294967296):(BitVec.ofInt IntKind.u32.bits (n:Int)).toNat=n:=by rw[BitVec.ofInt_natCast,BitVec.toNat_ofNat];exact Nat.mod_eq_of_lt (by simp only[IntKind.bits];omega)
theorem WF {n m:Nat}(hn:n<4294967296) (hm:m<4294967296):iZ .u32 n m=((n&&&m:Nat):Int):=by unfold iZ Ab.bits;show IntKind.u32.wrap (((BitVec.ofInt IntKind.u32.bits (n:Int))&&&(BitVec.ofInt IntKind.u32.bits (m:Int))).toNat:Int)=_;rw[BitVec.toNat_and,zK hn,zK hm];have:n&&&m≤n:=Nat.and_le_left;exact IntWalk.u32_in _ (by omega)
theorem Wi {n m:Nat}(hn:n<4294967296) (hm:m<4294967296):gA .u32 n m=((n^^^m:Nat):Int):=by unfold gA Ab.bits;show IntKind.u32.wrap (((BitVec.ofInt IntKind.u32.bits (n:Int))^^^(BitVec.ofInt IntKind.u32.bits (m:Int))).toNat:Int)=_;rw[BitVec.toNat_xor,zK hn,zK hm];have:n^^^m<2^32:=Nat.xor_lt_two_pow hn hm;exact IntWalk.u32_in _ (by omega)
theorem UX {n:Nat}:gW .u32 n 1=((n/2:Nat):Int):=by unfold gW;show(n:Int).fdiv (2^1)=_;rw[Int.fdiv_eq_ediv_of_nonneg _ (by decide)];omega
def yu (r:Int):Prop:=0≤r∧r≤4294967295
theorem Ws (x:Int):yu (IntKind.u32.wrap x):=by unfold yu;rw[IntKind.wrap_u32];omega
theorem Ng (a b:Int):yu (gA .u32 a b):=by unfold gA Ab.bits;exact Ws _
theorem SI {r:Int}(h:yu r):GT r=zU r∧yu (zU r):=by
 obtain⟨n,rfl⟩:∃n:Nat,r=n:=⟨r.toNat,by have:=h.1;omega⟩;have hn:n<4294967296:=by have:=h.2;omega
 have e1:iZ .u32 (n:Int) 1=((n%2:Nat):Int):=by have:=WF hn (show 1<4294967296 by decide);rw[Nat.and_one_is_mod]at this;exact this
 unfold GT zU;rw[e1,UX];rcases Nat.mod_two_eq_zero_or_one n with e|e
 ·rw[e,if_neg (by decide)];have e2:iZ .u32 3988292384 (IntKind.u32.wrap (0-((0:Nat):Int)))=((0:Nat):Int):=by decide
  rw[e2,Wi (by omega) (by decide),Nat.xor_zero];exact⟨rfl,by constructor<;>omega⟩
 ·rw[e,if_pos (by decide)];have e2:iZ .u32 3988292384 (IntKind.u32.wrap (0-((1:Nat):Int)))=3988292384:=by decide
  rw[e2];exact⟨rfl,Ng _ _⟩
theorem JA:∀(k:Nat) {r:Int},yu r→tS k r=oH k r∧yu (oH k r)
 |0,_,h=>⟨rfl,h⟩
 |k+1,r,h=>by obtain⟨h1,h2⟩:=JA k h;simp only[tS,oH];rw[h1];exact SI h2
theorem Kr:∀(l:List Int) {r:Int},yu r→lM r l=iT r l
 |[],_,_=>rfl
 |b::l,r,_=>by simp only[lM,iT];obtain⟨h1,h2⟩:=JA 8 (r:=gA .u32 r (IntKind.u32.wrap b)) (Ng _ _);rw[h1];exact Kr l h2
theorem HC {k:IntKind}(a b:Int):ior k a b=ior k b a:=by unfold ior Ab.bits;show k.wrap ((BitVec.ofInt k.bits a|||BitVec.ofInt k.bits b).toNat:Int)=k.wrap ((BitVec.ofInt k.bits b|||BitVec.ofInt k.bits a).toNat:Int);rw[BitVec.or_comm]
theorem tF (l:List Int):a7 l=zM l:=by
 unfold a7 zM np;have e:(List.range 56).map (bF l 8 0)=(List.range 56).map (eO l 64):=by apply List.map_congr_left;intro j hj;have:=List.mem_range.1 hj;unfold bF eO;rw[if_pos (by omega),if_pos (by omega)]
 have e2:fA 0=4294967295:=by decide
 rw[e,e2,Kr _ (by constructor<;>decide),HC]
theorem MJ {a b i:Nat}(h:b<2^i):b|||a*2^i=b+a*2^i:=by have:=Nat.two_pow_add_eq_or_of_lt h a;rw[Nat.mul_comm a,Nat.or_comm,←this,Nat.add_comm]
theorem JJ {e:Ent}(h:cj e=true):nF e=sq e:=by
 obtain⟨k,v,l⟩:=e;simp only[cj,win,Zj,Zi]at h;obtain⟨⟨⟨⟨k0,k1⟩,v0,v1⟩,l0,l1⟩,_⟩:=h;obtain⟨k,rfl⟩:∃n:Nat,k=n:=⟨k.toNat,by omega⟩;obtain⟨v,rfl⟩:∃n:Nat,v=n:=⟨v.toNat,by omega⟩;obtain⟨l,rfl⟩:∃n:Nat,l=n:=⟨l.toNat,by omega⟩;simp only[nF,sq,Zh];rw[fL (by omega) (by omega),fL (by omega) (by omega),fL (by omega) (by omega)];have s1:pZ .u64 (v:Int) 4=((v*16:Nat):Int):=by
  have:=tO (v:Int) 4 (by decide);rw[show((4:Nat):Int)=4 from rfl]at this
  rw[this];omega
 have s2:pZ .u64 (l:Int) 28=((l*268435456:Nat):Int):=by
  have:=tO (l:Int) 28 (by decide);rw[show((28:Nat):Int)=28 from rfl]at this
  rw[this];omega
 rw[s1,s2,tq (by omega) (by omega)];have o1:k|||v*16=k+v*16:=MJ (i:=4) (by omega);rw[o1,tq (by omega) (by omega)];have o2:(k+v*16)|||l*268435456=k+v*16+l*268435456:=MJ (i:=28) (by omega);rw[o2]
theorem PS (t:Nat→Ent) (k:Nat):bj t k=CY t k:=by
 unfold bj CY;by_cases h:kI t k 0 7=true
 ·rw[if_pos h,if_pos h,tF];congr 1;unfold lfL mC;apply List.map_congr_left;intro j _;by_cases hj:j<7
  ·rw[if_pos hj,if_pos hj];have:=List.all_eq_true.1 h j (List.mem_range.2 hj);rw[Nat.zero_add]at this;exact JJ this
  ·rw[if_neg hj,if_neg hj]
 ·rw[if_neg h,if_neg h]
theorem HF (d:Nat→Int):aE d=Cs d:=by
 unfold aE Cs;by_cases h:cZ d 0 7=true
 ·rw[if_pos h,if_pos h,tF];congr 1;unfold rlL kU;apply List.map_congr_left;intro j _;by_cases hj:j<7
  ·rw[if_pos hj,if_pos hj,HC]
  ·rw[if_neg hj,if_neg hj]
 ·rw[if_neg h,if_neg h]
theorem xJ (b:Sup) (s:St):rf D kV [b.v] s=some (.tup [lnV (aH b),.int .i64 (if b.ok=true then 0 else 1)],s):=by
 have hz:(zl.map (V.int .u64))=List.replicate 8 (.int .u64 0):=rfl;have hrep:List.replicate 8 (V.int .u64 0)=[.int .u64 0,.int .u64 0,.int .u64 0,.int .u64 0,.int .u64 0,.int .u64 0,.int .u64 0,.int .u64 0]:=rfl;have hseal:=fun s=>lR (l:=ns b) rfl s;rw[←tF]at hseal;have hok:b.ok=true↔¬b.gen<1∧¬b.gen>1099511627776∧¬b.root<0∧¬b.root≥1024∧¬b.seq<0∧¬b.seq>1099511627776∧¬b.cores<1∧¬b.cores>8:=by unfold Sup.ok win;simp only[Zj,Zi];omega
 obtain⟨g,r,q,c⟩:=b;unfold aH;simp only at hok;by_cases h:(⟨g,r,q,c⟩:Sup).ok=true
 ·rw[if_pos h,if_pos h];obtain⟨h1,h2,h3,h4,h5,h6,h7,h8⟩:=hok.1 h;simp only[Sup.v,ns,lnV,List.map_cons,List.map_nil]at*;rw[ab pg rfl];simp only[go_sem,h1,h2,h3,h4,h5,h6,h7,h8];simp only[go_sem,hrep,hseal]
 ·rw[if_neg h,if_neg h];have hno:=fun x=>h (hok.2 x);simp only[Sup.v,lnV,hz]at*;rw[ab pg rfl];by_cases h1:g<1
  ·simp only[go_sem,h1]
  by_cases h2:g>1099511627776
  ·simp only[go_sem,h1,h2]
  by_cases h3:r<0
  ·simp only[go_sem,h1,h2,h3]
  by_cases h4:r≥1024
  ·simp only[go_sem,h1,h2,h3,h4]
  by_cases h5:q<0
  ·simp only[go_sem,h1,h2,h3,h4,h5]
  by_cases h6:q>1099511627776
  ·simp only[go_sem,h1,h2,h3,h4,h5,h6]
  by_cases h7:c<1
  ·simp only[go_sem,h1,h2,h3,h4,h5,h6,h7]
  by_cases h8:c>8
  ·simp only[go_sem,h1,h2,h3,h4,h5,h6,h7,h8]
  exact absurd ⟨h1,h2,h3,h4,h5,h6,h7,h8⟩ hno
def flX (c:Nat) (l:List Dn) (x:Nat):List Dn:=(l.take x).map (Dn.fl c)++l.drop x
theorem S5 {c:Nat}{l:List Dn}{x:Nat}(h:x<l.length):(flX c l x)[x]?=some l[x]:=by unfold flX;rw[List.getElem?_append_right (by simp;omega)];simp[Nat.min_eq_left (Nat.le_of_lt h)]
theorem Uc {c:Nat}{l:List Dn}{x:Nat}(h:x<l.length):(flX c l x).set x (l[x].fl c)=flX c l (x+1):=by
 unfold flX;rw[List.set_append_right _ _ (by simp;omega),List.take_succ_eq_append_getElem h,List.map_append,List.append_assoc];congr 1;have e:x-((l.take x).map (Dn.fl c)).length=0:=by simp;omega
 rw[e,List.drop_eq_getElem_cons h];rfl
theorem Sb {c:Nat}{l:List Dn}:flX c l l.length=l.map (Dn.fl c):=by simp[flX]
theorem OP {c:Nat}{l:List Dn}:flX c l 0=l:=by simp[flX]
theorem R6 {cs:Nat→Bool}{p:Nat}:(tab 8 fun c=>V.bool (cs c)).set p (.bool true)=tab 8 fun c=> .bool (upd cs p true c):=by rw[dg];apply bp;intro i _;unfold upd;split<;>rfl
theorem vu {hp:List Blk}{F:Ft}{m:Nat}{M:AM}(h:aV hp F m M) (hc:M.count<1000000) (c i:Int) (L:List Blk):
 ∃hp',rf D fD [.ptr (.hp m) [] 33,.int .i64 c,.int .i64 i] ⟨L,hp⟩=some (.int .i64 (M.flush c i).2,⟨L,hp'⟩)∧aV hp' F m (M.flush c i).1∧Chg hp hp' F F:=by
 have hM:=h;have his:=fun L=>AH h i L;have ok:=h.ok;unfold AM.flush;by_cases hcr:c<0∨8≤c
 ·rw[if_pos (by omega)];refine⟨hp,?_,hM,.refl _ _⟩;rw[ab dq rfl];by_cases hc0:c<0
  ·simp only[go_sem,hc0]
  ·have hc8:c>7:=by omega
   simp only[go_sem,hc0,hc8]
 ·have d1:¬c<0:=by omega
  have d2:¬c>7:=by omega
  by_cases hi:i<0∨(M.n:Int)≤i
  ·rw[if_pos (by omega)];have hd:decide (0≤i∧i<(M.n:Int))=false:=by simp only[decide_eq_false_iff_not];omega
   simp only[hd]at his;refine⟨hp,?_,hM,.refl _ _⟩;rw[ab dq rfl];simp only[go_sem,d1,d2,his]
  ·rw[if_neg (by omega)];have hd:decide (0≤i∧i<(M.n:Int))=true:=by simp only[Zi];omega
   simp only[hd]at his;obtain⟨j,rfl⟩:∃j:Nat,i=j:=⟨i.toNat,by omega⟩;obtain⟨p,rfl⟩:∃p:Nat,c=p:=⟨c.toNat,by omega⟩;simp only[Zh];obtain⟨k,k2,fk,fk2,n1,n2,n3,h1,h2,sv,ow,h4,h5⟩:=h.mb;have hstep:=fun L=>wA (L:=L) hM hc h1;by_cases hdd:M.dead=true
   ·rw[if_pos hdd];simp only[hdd,if_true]at hstep;obtain⟨g1,g2⟩:=hM.setm (M':=M.out) ok.out rfl rfl rfl h1;refine⟨_,?_,g1,g2⟩;generalize hp.set m (.rw (rmV k M.n k2 M.out.off M.out.left M.out.count))=H at*;rw[ab dq rfl];simp only[go_sem,his,d1,d2,hstep]
   ·rw[if_neg hdd];rw[Bool.not_eq_true]at hdd;simp only[hdd,Bool.false_eq_true,if_false]at hstep;obtain⟨g1,g2⟩:=hM.setm (M':=M.stepped) ok.stepped rfl rfl rfl h1;generalize hp.set m (.rw (rmV k M.n k2 M.stepped.off M.stepped.left M.stepped.count))=H at*;clear h1 h2 h4 h5 sv ow n1 n2 n3 fk fk2 k k2;obtain⟨k,k2,fk,fk2,n1,n2,n3,h1,h2,sv,ow,h4,h5⟩:=g1.mb;have e1:M.stepped.n=M.n:=rfl;have e2:M.stepped.S=M.S:=rfl;have e3:M.stepped.L=M.L:=rfl;rw[e1]at h1 h4 h5 h2;rw[e2]at h2;rw[e3]at h5;have hj:j<M.n:=by omega
    have hp8:p<8:=by omega
    have hlen:=ok.len j hj;have dj:(j:Int)<M.n:=by omega
    have dj0:(0:Int)≤j:=by omega
    have dp:(p:Int)<8:=by omega
    have dp0:(0:Int)≤p:=by omega
    have g4:=av (f:=sv) hj;have q2:=md (a:= .hp k2) (e:=1) hj;have hsl:=(h5 j hj).slen;rw[List.length_map]at hsl;have key:∃hp',rc D L.length (.loop [0,1,2,7,8] bO) [(0,.ptr (.hp m) [] 33),(1,.int .i64 p),(2,.int .i64 j),(7,.int .i64 0),(8,.int .i64 0)] ⟨L,H⟩=
     some (.exit 0,[(0,.ptr (.hp m) [] 33),(1,.int .i64 p),(2,.int .i64 j),(7,.int .i64 0),(8,.int .i64 (M.L j).length),(34,.bool false)],⟨L,hp'⟩)∧
     SlR hp' (fun q=>F q∧q≠m∧q≠k∧q≠k2∧ow q=j) 90 92 (sv j) (((M.L j).map (Dn.fl p)).map Dn.v2)∧hp'.length=H.length∧∀q,¬(F q∧q≠m∧q≠k∧q≠k2∧ow q=j)→hp'[q]?=H[q]?:=by
     by_cases hz:M.L j=[]
     ·refine⟨H,?_,by rw[hz];have:=h5 j hj;rw[hz]at this;exact this,rfl,fun _ _=>rfl⟩;rw[hz]at hsl;rw[hz,aa];simp only[rmV]at h1;generalize(tab M.n sv)=T2 at*;simp only[go_sem,bO,h1,h4,g4,q2,hsl]
     ·obtain⟨a,cp,hsv,hcp,hG,hb⟩:∃a cp,sv j= .sl (.hp a) [] 0 (M.L j).length cp 90∧(cp=none∨cp=some (M.L j).length)∧(F a∧a≠m∧a≠k∧a≠k2∧ow a=j)∧H[a]?=some (.rw (.agg 92 ((M.L j).map Dn.v2))):=by
       have:=h5 j hj;generalize hv:sv j=v at*;generalize hl:(M.L j).map Dn.v2=l at*;cases this with
       |nil=>exact absurd (List.map_eq_nil_iff.1 hl) hz
       |emp=>exact absurd (List.map_eq_nil_iff.1 hl) hz
       |blk a cp l hcp hG hb=>
        have el:l.length=(M.L j).length:=by rw[←hl,List.length_map]
        rw[el]at hcp⊢;exact⟨a,cp,rfl,hcp,hG,hb⟩
      obtain⟨G1,G2,G3,G4,G5⟩:=hG;have hal:=aj hb;refine⟨H.set a (.rw (.agg 92 (((M.L j).map (Dn.fl p)).map Dn.v2))),?_,?_,List.length_set ..,fun q hq=>List.getElem?_set_ne fun e=>hq (by rw[←e];exact⟨G1,G2,G3,G4,G5⟩)⟩
      ·rw[←Sb];refine bC (fun x:Nat=>[(0,.ptr (.hp m) [] 33),(1,.int .i64 p),(2,.int .i64 j),(7,.int .i64 0),(8,.int .i64 x)]) (fun x=>⟨L,H.set a (.rw (.agg 92 ((flX p (M.L j) x).map Dn.v2)))⟩) (fun _=>_) (fun x=>(M.L j).length-x) (fun x=>x≤(M.L j).length) 0 ?_ (by omega) rfl (by rw[OP,dD hb]);intro x hx;have hm1:∀b,(H.set a b)[m]?=H[m]?:=fun b=>List.getElem?_set_ne G2;have hk1:∀b,(H.set a b)[k2]?=H[k2]?:=fun b=>List.getElem?_set_ne G4;by_cases c1:x<(M.L j).length
       ·left;have c2:(x:Int)<(M.L j).length:=by omega
        have c3:(0:Int)≤x:=by omega
        have d4:IntKind.i64.wrap ((x:Int)+1)=(x:Int)+1:=ae (by omega) (by omega);have hg:((flX p (M.L j) x).map Dn.v2)[x]?=some ((M.L j)[x].v2):=by rw[List.getElem?_map,S5 c1];rfl
        have hs:=congrArg (List.map Dn.v2) (Uc (c:=p) c1);rw[List.map_set]at hs;refine⟨x+1,by omega,by omega,rfl,?_⟩;rw[←hs];have hset:∀b,(H.set a b)[a]?=some b:=fun b=>List.getElem?_set_self hal;generalize(flX p (M.L j) x).map Dn.v2=TL at*;generalize(M.L j)[x]=d at*;have hv:d.v2= .agg 90 [.int .i64 d.w,.int .u64 d.v,.agg 88 (tab 8 fun c=> .bool (d.cs c))]:=rfl;have hv2:(d.fl p).v2= .agg 90 [.int .i64 d.w,.int .u64 d.v,.agg 88 ((tab 8 fun c=>V.bool (d.cs c)).set p (.bool true))]:=by rw[R6];rfl
        rw[hv]at hg;rw[hv2];have gc:=av (f:=fun c=>V.bool (d.cs c)) hp8;generalize(tab 8 fun c=>V.bool (d.cs c))=TC at*;simp only[rmV]at h1;generalize(tab M.n sv)=T2 at*;simp only[go_sem,bO,c2,hm1,hk1,h1,h4,g4,q2,hsv,c3,dp,dp0,hset,Zh,hg,gc,d4,List.set_set];rfl
       ·right;have:x=(M.L j).length:=by omega
        subst this;have c2:¬((M.L j).length:Int)<(M.L j).length:=by omega
        simp only[rmV]at h1;generalize(tab M.n sv)=T2 at*;simp only[go_sem,bO,c2,hm1,hk1,h1,h4,g4,q2,hsv]
      ·have el:(((M.L j).map (Dn.fl p)).map Dn.v2).length=(M.L j).length:=by simp
       rw[hsv,←el];exact .blk a cp _ (by rw[el];exact hcp) ⟨G1,G2,G3,G4,G5⟩ (List.getElem?_set_self hal)
    obtain⟨hp',r1,r2,r3,r4⟩:=key;refine⟨hp',?_,⟨ok.stepped.flushed p j,fun q hq=>by rw[r3];exact g1.inn q hq,g1.fm,k,k2,fk,fk2,n1,n2,n3,?_,?_,sv,ow,?_,fun x hx=> ?_⟩,g2.trans ⟨by omega,fun q hq hn=>r4 q fun hh=>hn hh.1,fun q hq=> .inl hq⟩⟩
    ·rw[ab dq rfl];simp only[go_sem,his,d1,d2,hstep];simp only[go_sem,r1]
    ·rw[r4 m fun hh=>hh.2.1 rfl];exact h1
    ·rw[r4 k fun hh=>hh.2.2.1 rfl];exact h2
    ·rw[r4 k2 fun hh=>hh.2.2.2.1 rfl];exact h4
    ·have e5:(M.stepped.flushed p j).L x=upd M.L j ((M.L j).map (Dn.fl p)) x:=rfl;rw[e5];by_cases e:x=j
     ·subst e;rw[al];exact r2
     ·rw[aw e];exact(h5 x hx).eqv (fun q hq=>r4 q fun hh=>e (hq.2.2.2.2.symm.trans hh.2.2.2.2)) fun q hq=>hq
theorem VV {l:List Dn}{n:Nat}:V.locLts 0 ((l.drop n).map Dn.v2)=true:=Lk
theorem Ca {hp:List Blk}{F:Ft}{m:Nat}{M:AM}(h:aV hp F m M) (hc:M.count<1000000) {j n:Nat}(hj:j<M.n) (hn:n≤(M.L j).length) (L:List Blk):
 ∃hp' F',rf D fP [.ptr (.hp m) [] 33,.int .i64 j,.int .i64 n] ⟨L,hp⟩=some (.tup [],⟨L,hp'⟩)∧aV hp' F' m (M.sureN j n)∧Chg hp hp' F F':=by
 have ok:=h.ok;have hh:=fun L=>Eo h hc hj hn L;obtain⟨k,k2,fk,fk2,n1,n2,n3,h1,h2,sv,ow,h4,h5⟩:=h.mb;have ml:m<hp.length:=aj h1;have kl:k<hp.length:=aj h2;have k2l:k2<hp.length:=aj h4;have g2:=av (f:=fun i=>lnV (M.S i)) hj;have g4:=av (f:=sv) hj;have q1:=md (a:= .hp k) (e:=24) hj;have q2:=md (a:= .hp k2) (e:=1) hj;obtain⟨H,hH⟩:∃H,H=hp.set k (.rw (.agg 58 ((tab M.n fun i=>lnV (M.S i)).set j (lnV (au (M.S j) ((M.L j).take n)))))):=⟨_,rfl⟩;have Hl:H.length=hp.length:=by rw[hH,List.length_set]
 have He:∀q,q≠k→H[q]?=hp[q]?:=fun q hq=>by rw[hH];exact List.getElem?_set_ne (Ne.symm hq)
 have hm1:H[m]?=hp[m]?:=He m n1;have hk1:H[k2]?=hp[k2]?:=He k2 (Ne.symm n3);obtain⟨v1,v2,_,e2,rs,sh⟩:=(h5 j hj).sub (n:=n) (by rw[List.length_map];exact hn);have hrs:∀L,St.elems ⟨L,H++[.rw (.agg 92 [])]⟩ v2=some (((M.L j).drop n).map Dn.v2):=fun L=>by
  have:=(rs (H++[.rw (.agg 92 [])]) (fun q hq=>by have:=h.inn q hq.1;rw[List.getElem?_append_left (by omega)];exact He q hq.2.2.1) L).2.elems
  rw[List.map_drop];exact this
 have hlen:=ok.len j hj;obtain⟨H1,j1,c1,b1,b2,b3,b4,b5,b6,b7⟩:=DZ (e:=90) (r:=92) (H:=H) sh hrs VV (by simp[cg];omega);have b6:=fun L=>b6 (List.length L) L;let NV:=V.sl (.hp j1) [] 0 (((M.L j).drop n).map Dn.v2).length c1 90;have old:∀x,x<H.length→H1[x]?=H[x]?:=b4;have a4:H1[k2]?=some (.rw (.agg 53 (tab M.n sv))):=by rw[old k2 (by omega),hk1];exact h4
 refine⟨H1.set k2 (.rw (.agg 53 ((tab M.n sv).set j NV))),fun x=>F x∨x=j1,?_,⟨ok.sureN,fun x hx=> ?_,.inl h.fm,k,k2,.inl fk,.inl fk2,n1,n2,n3,?_,?_,upd sv j NV,upd ow j1 j,?_,fun i hi=> ?_⟩,⟨by simp;omega,fun x hx hnF=> ?_,fun x hx=> ?_⟩⟩
 ·have b6':=b6 L;have ts:V.tag NV=1:=rfl;have tl:V.locLt 0 NV=true:=rfl;have mj:¬m=H.length:=by omega
  change∀L:List Blk,aD _ _ _ _ _ _ _=some (NV,_)at b6;have b6':=b6 L;clear_value NV;have hsvt:=(h5 j hj).tag;have dj:(j:Int)<M.n:=by omega
  have dj0:(0:Int)≤j:=by omega
  have lv:∀X,lnV X= .agg 24 (X.map (V.int .u64)):=fun _=>rfl;have hkl:∀b,(hp.set k b)[m]?=hp[m]?:=fun b=>List.getElem?_set_ne (Ne.symm n1);generalize(tab M.n sv)=T2 at*;generalize au (M.S j) ((M.L j).take n)=NB at*;rw[lv]at hH;rw[lv]at hh;have g2':(tab M.n fun i=>lnV (M.S i))[j]?=some (.agg 24 ((M.S j).map (V.int .u64))):=g2;generalize(tab M.n fun i=>lnV (M.S i))=T1 at*;simp only[rmV]at*;have hA1:H[m]?=_:=hm1.trans h1;have hA2:H[k2]?=_:=hk1.trans h4;have hB1:(H++[Blk.rw (.agg 92 [])])[m]?=_:=(List.getElem?_append_left (by omega)).trans hA1;have hB2:(H++[Blk.rw (.agg 92 [])])[k2]?=_:=(List.getElem?_append_left (by omega)).trans hA2;have h20:(hp[k]?)=some (.rw (.agg 58 T1)):=h2;have w1:eD 90 v2 (.int .i64 0)=eD 90 v2 (.int .i64 0):=rfl;rw[ab qP rfl];simp only[go_sem,List.replicate_zero,h1,h20,g2',q1,hh,dj,dj0,Zh];rw[←hH];simp only[go_sem,List.replicate_zero,hA1,hA2,hB1,hB2,g4,q2,e2,mj,b6',a4,ts,tl,hsvt]
 ·rw[List.length_set];rcases hx with hx|rfl
  ·have:=h.inn x hx;omega
  ·omega
 ·rw[List.getElem?_set_ne (Ne.symm n2),old m (by omega),hm1];exact h1
 ·rw[List.getElem?_set_ne (Ne.symm n3),old k (by omega),hH,List.getElem?_set_self kl,dg];congr 4;funext x;unfold upd AM.sureN;simp only;by_cases e:x=j
  ·subst e;rw[if_pos rfl,al]
  ·rw[if_neg e,aw e]
 ·rw[dg];exact List.getElem?_set_self (by omega)
 ·have e5:(M.sureN j n).L i=upd M.L j ((M.L j).drop n) i:=rfl;rw[e5];by_cases e:i=j
  ·subst e;rw[al,al];refine b7.eqv (fun q hq=> ?_) fun q hq=>⟨.inr hq,by omega,by omega,by omega,by rw[hq];exact al ..⟩;rw[List.getElem?_set_ne (by omega)]
  ·rw[aw e,aw e];refine(h5 i hi).eqv (fun x hx=> ?_) fun x hx=>⟨.inl hx.1,hx.2.1,hx.2.2.1,hx.2.2.2.1,?_⟩
   ·have hxl:=h.inn x hx.1;rw[List.getElem?_set_ne (Ne.symm hx.2.2.2.1),old x (by omega),He x hx.2.2.1]
   ·rw[aw (by have:=h.inn x hx.1;omega)];exact hx.2.2.2.2
 ·rw[List.getElem?_set_ne (fun e=>hnF (by rw[←e];exact fk2)),old x (by omega),He x fun e=>hnF (by rw[e];exact fk)]
 ·rcases hx with hx|rfl
  ·exact .inl hx
  ·exact .inr (by omega)
theorem Gq (c:Nat) (d:Dn):∀l:List Dn,flN c (l++[d])=if d.cs c=true then l.length+1 else flN c l
 |[]=>by simp[flN]
 |a::l=>by
  simp only[List.cons_append,flN,Gq c d l,List.length_cons];by_cases h:d.cs c=true
  ·simp[h]
  ·simp[h]
theorem PM {c:Nat}{l:List Dn}{x:Nat}(h:x<l.length):flN c (l.take (x+1))=if l[x].cs c=true then x+1 else flN c (l.take x):=by rw[List.take_succ_eq_append_getElem h,Gq];simp[Nat.min_eq_left (Nat.le_of_lt h)]
theorem P5 {hp:List Blk}{F:Ft}{m:Nat}{M:AM}(h:aV hp F m M) (hc:M.count<1000000) {cI j:Nat}(hcI:cI<8) (hj:j<M.n) (L:List Blk):
 rc D L.length (.loop [0,1,6,7,8] bN) [(0,.ptr (.hp m) [] 33),(1,.int .i64 cI),(6,.int .i64 j),(7,.int .i64 0),(8,.int .i64 0)] ⟨L,hp⟩=
  some (.exit 2,[(0,.ptr (.hp m) [] 33),(1,.int .i64 cI),(6,.int .i64 j),(7,.int .i64 (flN cI (M.L j):Nat)),(8,.int .i64 (M.L j).length),(38,.bool false)],⟨L,hp⟩):=by
 have ok:=h.ok;obtain⟨k,k2,fk,fk2,n1,n2,n3,h1,h2,sv,ow,h4,h5⟩:=h.mb;have g4:=av (f:=sv) hj;have q2:=md (a:= .hp k2) (e:=1) hj;have hsl:=(h5 j hj).slen;rw[List.length_map]at hsl;have hlen:=ok.len j hj;have dp:(cI:Int)<8:=by omega
 have dp0:(0:Int)≤cI:=by omega
 have hfin:flN cI (M.L j)=flN cI ((M.L j).take (M.L j).length):=by rw[List.take_length]
 rw[hfin];refine bC (fun x:Nat=>[(0,.ptr (.hp m) [] 33),(1,.int .i64 cI),(6,.int .i64 j),(7,.int .i64 (flN cI ((M.L j).take x):Nat)),(8,.int .i64 x)]) (fun _=>⟨L,hp⟩) (fun _=>_) (fun x=>(M.L j).length-x) (fun x=>x≤(M.L j).length) 0 ?_ (by omega) rfl rfl;intro x hx;simp only[rmV]at h1;generalize(tab M.n sv)=T2 at*;by_cases c1:x<(M.L j).length
 ·left;have c2:(x:Int)<(M.L j).length:=by omega
  have d4:IntKind.i64.wrap ((x:Int)+1)=(x:Int)+1:=ae (by omega) (by omega);have hg:=am (f:=Dn.v2) c1 ⟨0,0,fun _=>false⟩;have hgd:(M.L j).getD x ⟨0,0,fun _=>false⟩=(M.L j)[x]:=by rw[List.getD_eq_getElem?_getD,List.getElem?_eq_getElem c1];rfl
  rw[hgd]at hg;have hrs:=fun L=>(h5 j hj).rs L;have hst:=PM (c:=cI) c1;refine⟨x+1,by omega,by omega,rfl,?_⟩;simp only;rw[hst];generalize(M.L j)[x]=d at*;have hv:d.v2= .agg 90 [.int .i64 d.w,.int .u64 d.v,.agg 88 (tab 8 fun c=> .bool (d.cs c))]:=rfl;rw[hv]at hg;have gc:=av (f:=fun c=>V.bool (d.cs c)) hcI;generalize(tab 8 fun c=>V.bool (d.cs c))=TC at*;have hld:∀L t q,ldv ⟨L,hp⟩ t (elq (sv j) x q t)=V.at q (V.agg 90 [V.int .i64 d.w,V.int .u64 d.v,.agg 88 TC]):=fun L t q=>(hrs L).ldq hg;generalize flN cI ((M.L j).take x)=nn at*;by_cases hb:d.cs cI=true
  ·rw[hb]at gc;rw[if_pos hb];simp only[go_sem,bN,c2,h1,h4,g4,q2,hsl,(hrs []).sadq hg,(hrs []).fadq hg,(hrs []).iadq hg,hld,dp,dp0,Zh,gc,d4];rfl
  ·rw[if_neg hb];rw[Bool.not_eq_true]at hb;rw[hb]at gc;simp only[go_sem,bN,c2,h1,h4,g4,q2,hsl,(hrs []).sadq hg,(hrs []).fadq hg,(hrs []).iadq hg,hld,dp,dp0,Zh,gc,d4];rfl
 ·right;have:x=(M.L j).length:=by omega
  subst this;have c2:¬((M.L j).length:Int)<(M.L j).length:=by omega
  simp only[go_sem,bN,c2,h1,h4,g4,q2,hsl]
theorem vp {m:Nat}{cI:Nat}(hcI:cI<8) {M:AM}(hc:M.count<1000000) (hn:M.n≤1024) (L:List Blk):∀(n i:Nat) {hp:List Blk}{F:Ft},i+n=M.n→aV hp F m (M.fencedTo cI i)→
 ∃hp' F',rc D L.length (.loop [0,1,6] bM) [(0,.ptr (.hp m) [] 33),(1,.int .i64 cI),(6,.int .i64 i)] ⟨L,hp⟩=
  some (.exit 0,[(0,.ptr (.hp m) [] 33),(1,.int .i64 cI),(6,.int .i64 M.n),(26,.bool false)],⟨L,hp'⟩)∧aV hp' F' m (M.fencedTo cI M.n)∧Chg hp hp' F F'
 |0,i,hp,F,hi,h=>by
  have:i=M.n:=by omega
  subst this;refine⟨hp,F,?_,h,.refl _ _⟩;obtain⟨k,k2,fk,fk2,n1,n2,n3,h1,h2,_⟩:=h.mb;have d1:¬(M.n:Int)<M.n:=by omega
  rw[(bJ _).1]at h1;simp only[rmV]at h1;rw[aa];simp only[go_sem,bM,d1,h1]
 |n+1,i,hp,F,hi,h=>by
  have hM:=h;obtain⟨k,k2,fk,fk2,n1,n2,n3,h1,h2,_⟩:=h.mb;have en:=(bJ (M:=M) (c:=cI) i).1;have ec:=(bJ (M:=M) (c:=cI) i).2.1;rw[en]at h1;have hj:i<M.n:=by omega
  have hin:=P5 hM (by rw[ec];exact hc) hcI (by rw[en];exact hj) (j:=i);have d1:(i:Int)<M.n:=by omega
  have d4:IntKind.i64.wrap ((i:Int)+1)=((i+1:Nat):Int):=ae (by omega) (by omega);simp only[rmV]at h1;by_cases hz:flN cI ((M.fencedTo cI i).L i)=0
  ·have e:M.fencedTo cI (i+1)=M.fencedTo cI i:=by simp only[AM.fencedTo];rw[hz,Cp]
   obtain⟨hp',F',r1,r2,r3⟩:=vp hcI hc hn L n (i+1) (by omega) (by rw[e];exact hM);refine⟨hp',F',?_,r2,r3⟩;rw[←r1,aa];rw[hz]at hin;have d5:¬((0:Nat):Int)>0:=by omega
   simp only[go_sem,bM,d1,h1,hin,d5,d4]
  ·obtain⟨hp1,F1,s1,s2,s3⟩:=Ca hM (by rw[ec];exact hc) (j:=i) (n:=flN cI ((M.fencedTo cI i).L i)) (by rw[en];exact hj) (FM _ _) L;obtain⟨hp',F',r1,r2,r3⟩:=vp hcI hc hn L n (i+1) (by omega) (F:=F1) (hp:=hp1) s2;refine⟨hp',F',?_,r2,s3.trans r3⟩;rw[←r1,aa];have d5:((flN cI ((M.fencedTo cI i).L i):Nat):Int)>0:=by omega
   generalize flN cI ((M.fencedTo cI i).L i)=fz at*;simp only[go_sem,bM,d1,h1,hin,d5,d4,s1]
theorem vf {hp:List Blk}{F:Ft}{m:Nat}{M:AM}(h:aV hp F m M) (hc:M.count+1<1000000) (c:Int) (L:List Blk):
 ∃hp' F',rf D fv [.ptr (.hp m) [] 33,.int .i64 c] ⟨L,hp⟩=some (.int .i64 (M.fence c).2,⟨L,hp'⟩)∧aV hp' F' m (M.fence c).1∧Chg hp hp' F F':=by
 have hM:=h;have ok:=h.ok;unfold AM.fence;by_cases hq:c<0∨8≤c
 ·rw[if_pos hq];refine⟨hp,F,?_,h,.refl _ _⟩;rw[ab fw rfl];by_cases hq0:c<0
  ·simp only[go_sem,hq0]
  ·have hq8:c>7:=by omega
   simp only[go_sem,hq0,hq8]
 ·rw[if_neg hq];obtain⟨p,rfl⟩:∃p:Nat,c=p:=⟨c.toNat,by omega⟩;rw[Zh];have d1:¬(p:Int)<0:=by omega
  have d2:¬(p:Int)>7:=by omega
  obtain⟨k,k2,fk,fk2,n1,n2,n3,h1,h2,_⟩:=h.mb;have hstep:=fun L=>wA (L:=L) hM (by omega) h1;by_cases hdd:M.dead=true
  ·rw[if_pos hdd];simp only[hdd,if_true]at hstep;obtain⟨g1,g2⟩:=hM.setm (M':=M.out) ok.out rfl rfl rfl h1;refine⟨_,F,?_,g1,g2⟩;generalize hp.set m (.rw (rmV k M.n k2 M.out.off M.out.left M.out.count))=H at*;rw[ab fw rfl];simp only[go_sem,d1,d2,hstep]
  ·rw[if_neg hdd];rw[Bool.not_eq_true]at hdd;simp only[hdd,Bool.false_eq_true,if_false]at hstep;obtain⟨g1,g2⟩:=hM.setm (M':=M.stepped) ok.stepped rfl rfl rfl h1;generalize hp.set m (.rw (rmV k M.n k2 M.stepped.off M.stepped.left M.stepped.count))=H at*;obtain⟨hp',F',r1,r2,r3⟩:=vp (m:=m) (cI:=p) (by omega) (M:=M.stepped) (by simp only[AM.stepped];exact hc) g1.ok.n1 L M.stepped.n 0 (by omega) (hp:=H) (F:=F) g1;refine⟨hp',F',?_,r2,g2.trans r3⟩;rw[show((0:Nat):Int)=0 from rfl]at r1
   rw[ab fw rfl];simp only[go_sem,d1,d2,hstep];simp only[go_sem,r1]
section
variable {m : Nat}
theorem En {l:List Int}(hl:l.length=8) {at':Int}{L:List Blk}{v:V}(hv:∀n,v.locLt n=true):∀(n j:Nat) {hp:List Blk}{Fm:Ft}{M:AM},j+n=8→aV hp Fm m M→M.count+n<1000000→
 ∃hp' Fm' r,rc D L.length (.loop [0,1,2,9,11] dG) [(0,.ptr (.hp m) [] 33),(1,.int .i64 0),(2,.int .i64 at'),(9,.ptr (.loc (L.length+1)) [] 24),(11,.int .i64 j)] ⟨L++[.rw v,.rw (lnV l)],hp⟩=some r∧
  aV hp' Fm' m (M.layFrom at' l j n).1∧Chg hp hp' Fm Fm'∧
  (((M.layFrom at' l j n).2=0∧r=(.exit 0,[(0,.ptr (.hp m) [] 33),(1,.int .i64 0),(2,.int .i64 at'),(9,.ptr (.loc (L.length+1)) [] 24),(11,.int .i64 8),(34,.bool false)],⟨L++[.rw v,.rw (lnV l)],hp'⟩))∨
   ((M.layFrom at' l j n).2≠0∧r=(.ret,[(8,.int .i64 (M.layFrom at' l j n).2)],⟨L++[.rw v,.rw (lnV l)],hp'⟩)))
 |0,j,hp,Fm,M,hj,h,_=>by
  have:j=8:=by omega
  subst this;refine⟨hp,Fm,_,?_,h,.refl _ _,.inl ⟨rfl,rfl⟩⟩;rw[aa];simp only[lnV];simp only[go_sem,dG]
 |n+1,j,hp,Fm,M,hj,h,hc=>by
  obtain⟨hp1,Fm1,e1,e2,e3⟩:=ma h (by omega) at' j (l.getD j 0) (L++[.rw v,.rw (lnV l)]);have hcn:=AM.store_count (M:=M) (i:=at') (q:=j) (v:=l.getD j 0);have d1:(j:Int)<8:=by omega
  have d2:(0:Int)≤j:=by omega
  have d4:IntKind.i64.wrap ((j:Int)+1)=((j+1:Nat):Int):=ae (by omega) (by omega);have g:=am (f:=V.int .u64) (l:=l) (i:=j) (by omega) 0;have z3:L.length+1<L.length+2:=by omega
  simp only[AM.layFrom];by_cases he:(M.store at' j (l.getD j 0)).2=0
  ·rw[if_neg fun hh=>hh he];obtain⟨hp2,Fm2,r,q1,q2,q3,q4⟩:=En hl hv n (j+1) (by omega) e2 (by omega);refine⟨hp2,Fm2,r,?_,q2,e3.trans q3,q4⟩;rw[←q1,aa];rw[he]at e1;simp only[lnV]at*;generalize l.getD j 0=wd at*;simp only[go_sem,dG,d1,d2,Zh,g,e1,d4,z3,hv]
  ·rw[if_pos he];refine⟨hp1,Fm1,_,?_,e2,e3,.inr ⟨he,rfl⟩⟩;rw[aa];simp only[lnV]at*;generalize l.getD j 0=wd at*;simp only[go_sem,dG,d1,d2,Zh,g,e1,he]
theorem Iu {hp:List Blk}{F:Ft}{M:AM}(h:aV hp F m M) (hc:M.count+12<1000000) (slot:Int) (b:Sup) (L:List Blk):
 ∃hp' F',rf D jO [.ptr (.hp m) [] 33,.int .i64 0,.int .i64 slot,b.v] ⟨L,hp⟩=some (.int .i64 (M.wrs slot b).2,⟨L,hp'⟩)∧aV hp' F' m (M.wrs slot b).1∧Chg hp hp' F F':=by
 have hln:=fun s=>xJ b s;have hlen:=qT b;unfold AM.wrs;by_cases hb:b.ok=false
 ·rw[if_pos (.inl hb)];refine⟨hp,F,?_,h,.refl _ _⟩;rw[hb,if_neg (by simp)]at hln;simp only[Sup.v,lnV]at*;rw[ab cS rfl];by_cases h0:slot<0
  ·simp only[go_sem,hln,h0]
  ·by_cases h1:slot>1
   ·simp only[go_sem,hln,h0,h1]
   ·simp only[go_sem,hln,h0,h1]
 ·have hb':b.ok=true:=by simpa using hb
  rw[hb',if_pos rfl]at hln;by_cases hs:slot≠0∧slot≠1
  ·rw[if_pos (.inr hs)];refine⟨hp,F,?_,h,.refl _ _⟩;simp only[Sup.v,lnV]at*;rw[ab cS rfl];by_cases h0:slot<0
   ·simp only[go_sem,hln,h0]
   ·have h1:slot>1:=by omega
    simp only[go_sem,hln,h0,h1]
  ·rw[if_neg (by intro hh;rcases hh with hh|hh;exact hb hh;exact hs hh)];have h0:¬slot<0:=by omega
   have h1:¬slot>1:=by omega
   obtain⟨hp1,F1,e1,e2,e3⟩:=ma h (by omega) slot 7 0 (L++[.rw b.v,.rw (lnV (aH b))]);have c1:=AM.store_count (M:=M) (i:=slot) (q:=7) (v:=0);by_cases he1:(M.store slot 7 0).2=0
   ·rw[if_neg (by simp[he1])];obtain⟨hp2,F2,r,q1,q2,q3,q4⟩:=En (m:=m) hlen (at':=slot) (L:=L) (v:=b.v) (fun n=>by simp only[Sup.v];simp only[go_sem]) 8 0 rfl e2 (by omega);have c2:=AM.layFrom_count (M:=(M.store slot 7 0).1) (at':=slot) (l:=aH b) (n:=8) (j:=0);rw[show((0:Nat):Int)=0 from rfl]at q1
    rw[he1]at e1;simp only;by_cases he2:((M.store slot 7 0).1.layFrom slot (aH b) 0 8).2=0
    ·rw[if_neg (by simp[he2])];rcases q4 with⟨_,rfl⟩|⟨z,_⟩
     ·obtain⟨hp3,r1,r2,r3⟩:=vu q2 (by omega) 0 slot (L++[.rw b.v,.rw (lnV (aH b))]);have c3:=(bz (M:=((M.store slot 7 0).1.layFrom slot (aH b) 0 8).1) (c:=0) (i:=slot)).1;by_cases he3:(((M.store slot 7 0).1.layFrom slot (aH b) 0 8).1.flush 0 slot).2=0
      ·rw[if_neg (by simp[he3])];obtain⟨hp4,F4,s1,s2,s3⟩:=vf r2 (by omega) 0 (L++[.rw b.v,.rw (lnV (aH b))]);refine⟨hp4,F4,?_,s2,((e3.trans q3).trans r3).trans s3⟩;rw[he3]at r1;generalize((((M.store slot 7 0).1.layFrom slot (aH b) 0 8).1.flush 0 slot).1.fence 0)=fz at*;generalize aH b=sl at*;simp only[Sup.v,lnV]at*;rw[ab cS rfl];simp only[go_sem,hln,h0,h1,e1];simp only[go_sem,q1,r1,s1]
      ·rw[if_pos he3];refine⟨hp3,F2,?_,r2,(e3.trans q3).trans r3⟩;generalize(((M.store slot 7 0).1.layFrom slot (aH b) 0 8).1.flush 0 slot)=fz at*;generalize aH b=sl at*;simp only[Sup.v,lnV]at*;rw[ab cS rfl];simp only[go_sem,hln,h0,h1,e1];simp only[go_sem,q1,r1,he3]
     ·exact absurd he2 z
    ·rw[if_pos he2];rcases q4 with⟨z,_⟩|⟨_,rfl⟩
     ·exact absurd z he2
     ·refine⟨hp2,F2,?_,q2,e3.trans q3⟩;generalize((M.store slot 7 0).1.layFrom slot (aH b) 0 8)=fz at*;generalize aH b=sl at*;simp only[Sup.v,lnV]at*;rw[ab cS rfl];simp only[go_sem,hln,h0,h1,e1];simp only[go_sem,q1]
   ·rw[if_pos he1];refine⟨hp1,F1,?_,e2,e3⟩;generalize(M.store slot 7 0)=fz at*;generalize aH b=sl at*;simp only[Sup.v,lnV]at*;rw[ab cS rfl];simp only[go_sem,hln,h0,h1,e1,he1]
end
end Go.Proofs.YtilcajpldklbiaaGreatDoor
