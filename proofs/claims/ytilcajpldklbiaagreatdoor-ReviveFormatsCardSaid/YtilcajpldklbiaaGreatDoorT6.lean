/-
  YtilcajpldklbiaaGreatDoorT6: what functions of the program compute (RevA, RevB, RevC, RevD, RevE, RevF, RevG, RevH, RevI, RevJ, RevK).
-/
import Derived.Test.YtilcajpldklbiaaGreatDoorT5
set_option maxRecDepth 100000
namespace Go.Proofs.YtilcajpldklbiaaGreatDoor
open Go.Ab
structure Rec where
 seq:Int
 id:Int
 word:Int
 val:Int
def Rec.v (r:Rec):V:= .agg 54 [.int .i64 r.seq,.int .i64 r.id,.int .i64 r.word,.int .u64 r.val]
def Rec.ok (r:Rec):Bool:=win r.seq 1 1099511627776&&(win r.id 0 48&&win r.word 0 7)
def bW:Rec:=⟨0,0,0,0⟩
theorem Rec.ok_iff {r:Rec}:r.ok=true↔(1≤r.seq∧r.seq≤1099511627776)∧(0≤r.id∧r.id≤48)∧0≤r.word∧r.word≤7:=by unfold Rec.ok win;simp only[Zj,Zi]
def rL (r:Rec):List Int:=[274726912,IntKind.u64.wrap r.seq,IntKind.u64.wrap r.id,IntKind.u64.wrap r.word,r.val,0,0,0]
def bY (r:Rec):List Int:=if r.ok=true then a7 (rL r)else zl
theorem wy (r:Rec):(bY r).length=8:=by
 unfold bY;split
 ·rw[pr];rfl
 ·rfl
theorem zp (r:Rec) (s:St):rf D ve [r.v] s=some (.tup [lnV (bY r),.int .i64 (if r.ok=true then 0 else 1)],s):=by
 have hs:=fun s=>oF (l:=rL r) rfl s;have hz:lnV zl= .agg 24 (List.replicate 8 (.int .u64 0)):=rfl;have hok:=Rec.ok_iff (r:=r);unfold bY;have hl:lnV (rL r)= .agg 24 [.int .u64 274726912,.int .u64 (IntKind.u64.wrap r.seq),.int .u64 (IntKind.u64.wrap r.id),.int .u64 (IntKind.u64.wrap r.word),.int .u64 r.val,.int .u64 0,.int .u64 0,.int .u64 0]:=rfl;rw[hl]at hs;obtain⟨q,i,w,v⟩:=r;simp only[Rec.v]at*;by_cases h:Rec.ok ⟨q,i,w,v⟩=true
 ·rw[if_pos h,if_pos h];have h2:=hok.1 h;have a1:¬q<1:=by omega
  have a2:¬q>1099511627776:=by omega
  have a3:¬i<0:=by omega
  have a4:¬i≥49:=by omega
  have a5:¬w<0:=by omega
  have a6:¬w≥8:=by omega
  generalize a7 (rL ⟨q,i,w,v⟩)=Z at*;have tz:(lnV Z).tag=24:=rfl;have oz:(lnV Z).ok=true:=rfl;have vz:V.locLt s.loc.length (lnV Z)=true:=jq;generalize lnV Z=Y at*;have hrep:List.replicate 8 (V.int .u64 0)=[.int .u64 0,.int .u64 0,.int .u64 0,.int .u64 0,.int .u64 0,.int .u64 0,.int .u64 0,.int .u64 0]:=rfl;rw[ab jP rfl];simp only[go_sem,a1,a2,a3,a4,a5,a6,hs,tz,oz,vz,hrep]
 ·rw[if_neg h,if_neg h,hz];clear hs hl;by_cases a1:q<1
  ·rw[ab jP rfl];simp only[go_sem,a1]
  ·by_cases a2:q>1099511627776
   ·rw[ab jP rfl];simp only[go_sem,a1,a2]
   ·by_cases a3:i<0
    ·rw[ab jP rfl];simp only[go_sem,a1,a2,a3]
    ·by_cases a4:i≥49
     ·rw[ab jP rfl];simp only[go_sem,a1,a2,a3,a4]
     ·by_cases a5:w<0
      ·rw[ab jP rfl];simp only[go_sem,a1,a2,a3,a4,a5]
      ·by_cases a6:w≥8
       ·rw[ab jP rfl];simp only[go_sem,a1,a2,a3,a4,a5,a6]
       ·exact absurd (hok.2 (by omega)) h
theorem Fb (r:Rec) (s:St):rf D kO [r.v] s=some (.tup [lnV (bY r),.int .i64 (if r.ok=true then 0 else 1)],s):=by
 have hs:=fun s=>lR (l:=rL r) rfl s;have hz:lnV zl= .agg 24 (List.replicate 8 (.int .u64 0)):=rfl;have hok:=Rec.ok_iff (r:=r);rw[←tF]at hs;unfold bY;have hl:lnV (rL r)= .agg 24 [.int .u64 274726912,.int .u64 (IntKind.u64.wrap r.seq),.int .u64 (IntKind.u64.wrap r.id),.int .u64 (IntKind.u64.wrap r.word),.int .u64 r.val,.int .u64 0,.int .u64 0,.int .u64 0]:=rfl;rw[hl]at hs;obtain⟨q,i,w,v⟩:=r;simp only[Rec.v]at*;by_cases h:Rec.ok ⟨q,i,w,v⟩=true
 ·rw[if_pos h,if_pos h];have h2:=hok.1 h;have a1:¬q<1:=by omega
  have a2:¬q>1099511627776:=by omega
  have a3:¬i<0:=by omega
  have a4:¬i≥49:=by omega
  have a5:¬w<0:=by omega
  have a6:¬w>7:=by omega
  generalize a7 (rL ⟨q,i,w,v⟩)=Z at*;have tz:(lnV Z).tag=24:=rfl;have oz:(lnV Z).ok=true:=rfl;have vz:V.locLt s.loc.length (lnV Z)=true:=jq;generalize lnV Z=Y at*;have hrep:List.replicate 8 (V.int .u64 0)=[.int .u64 0,.int .u64 0,.int .u64 0,.int .u64 0,.int .u64 0,.int .u64 0,.int .u64 0,.int .u64 0]:=rfl;rw[ab cm rfl];simp only[go_sem,a1,a2,a3,a4,a5,a6,hs,tz,oz,vz,hrep]
 ·rw[if_neg h,if_neg h,hz];clear hs hl;by_cases a1:q<1
  ·rw[ab cm rfl];simp only[go_sem,a1]
  ·by_cases a2:q>1099511627776
   ·rw[ab cm rfl];simp only[go_sem,a1,a2]
   ·by_cases a3:i<0
    ·rw[ab cm rfl];simp only[go_sem,a1,a2,a3]
    ·by_cases a4:i≥49
     ·rw[ab cm rfl];simp only[go_sem,a1,a2,a3,a4]
     ·by_cases a5:w<0
      ·rw[ab cm rfl];simp only[go_sem,a1,a2,a3,a4,a5]
      ·by_cases a6:w>7
       ·rw[ab cm rfl];simp only[go_sem,a1,a2,a3,a4,a5,a6]
       ·exact absurd (hok.2 (by omega)) h
def cM (l:List Int):Rec:=⟨IntKind.i64.wrap (l.getD 1 0),IntKind.i64.wrap (l.getD 2 0),IntKind.i64.wrap (l.getD 3 0),l.getD 4 0⟩
def jf (l:List Int):Bool:=(cM l).ok&&decide (bY (cM l)=l)
theorem yx {l:List Int}(hl:l.length=8) (s:St):rf D vo [lnV l] s=some (.tup [(if jf l=true then cM l else bW).v,.bool (jf l)],s):=by
 have hL:=fun s=>zp (cM l) s;have g1:(l.map (V.int .u64))[1]?=some (.int .u64 (l.getD 1 0)):=am (by omega) 0;have g2:(l.map (V.int .u64))[2]?=some (.int .u64 (l.getD 2 0)):=am (by omega) 0;have g3:(l.map (V.int .u64))[3]?=some (.int .u64 (l.getD 3 0)):=am (by omega) 0;have g4:(l.map (V.int .u64))[4]?=some (.int .u64 (l.getD 4 0)):=am (by omega) 0;have he:=us (a:=bY (cM l)) (b:=l) (by rw[wy,hl]);have hv:(cM l).v= .agg 54 [.int .i64 (IntKind.i64.wrap (l.getD 1 0)),.int .i64 (IntKind.i64.wrap (l.getD 2 0)),.int .i64 (IntKind.i64.wrap (l.getD 3 0)),.int .u64 (l.getD 4 0)]:=rfl;have hz:bW.v= .agg 54 [.int .i64 0,.int .i64 0,.int .i64 0,.int .u64 0]:=rfl;unfold jf;generalize cM l=b at*;rw[hv]at hL;cases hb:b.ok with
 |false=>
  rw[hb]at hL;rw[Bool.false_and,if_neg (by simp),hz];simp only[Bool.false_eq_true,if_false,lnV]at*;generalize bY b=z at*;rw[ab vq rfl];simp only[go_sem,g1,g2,g3,g4,hL]
 |true=>
  rw[hb]at hL;rw[Bool.true_and];simp only[if_true,lnV]at*;generalize bY b=z at*;by_cases hz2:z=l
  ·rw[decide_eq_true hz2]at he⊢;rw[if_pos rfl,hv];rw[ab vq rfl];simp only[go_sem,g1,g2,g3,g4,hL,he]
  ·rw[decide_eq_false hz2]at he⊢;rw[if_neg (by simp),hz];rw[ab vq rfl];simp only[go_sem,g1,g2,g3,g4,hL,he]
theorem Fi {l:List Int}(hl:l.length=8) (s:St):rf D kj [lnV l] s=some (.tup [(if jf l=true then cM l else bW).v,.bool (jf l)],s):=by
 have hL:=fun s=>Fb (cM l) s;have g1:(l.map (V.int .u64))[1]?=some (.int .u64 (l.getD 1 0)):=am (by omega) 0;have g2:(l.map (V.int .u64))[2]?=some (.int .u64 (l.getD 2 0)):=am (by omega) 0;have g3:(l.map (V.int .u64))[3]?=some (.int .u64 (l.getD 3 0)):=am (by omega) 0;have g4:(l.map (V.int .u64))[4]?=some (.int .u64 (l.getD 4 0)):=am (by omega) 0;have he:=us (a:=bY (cM l)) (b:=l) (by rw[wy,hl]);have hv:(cM l).v= .agg 54 [.int .i64 (IntKind.i64.wrap (l.getD 1 0)),.int .i64 (IntKind.i64.wrap (l.getD 2 0)),.int .i64 (IntKind.i64.wrap (l.getD 3 0)),.int .u64 (l.getD 4 0)]:=rfl;have hz:bW.v= .agg 54 [.int .i64 0,.int .i64 0,.int .i64 0,.int .u64 0]:=rfl;unfold jf;generalize cM l=b at*;rw[hv]at hL;cases hb:b.ok with
 |false=>
  rw[hb]at hL;rw[Bool.false_and,if_neg (by simp),hz];simp only[Bool.false_eq_true,if_false,lnV]at*;generalize bY b=z at*;rw[ab kw rfl];simp only[go_sem,g1,g2,g3,g4,hL]
 |true=>
  rw[hb]at hL;rw[Bool.true_and];simp only[if_true,lnV]at*;generalize bY b=z at*;by_cases hz2:z=l
  ·rw[decide_eq_true hz2]at he⊢;rw[if_pos rfl,hv];rw[ab kw rfl];simp only[go_sem,g1,g2,g3,g4,hL,he]
  ·rw[decide_eq_false hz2]at he⊢;rw[if_neg (by simp),hz];rw[ab kw rfl];simp only[go_sem,g1,g2,g3,g4,hL,he]
theorem lW {c n:Int}(h0:0≤c∧c≤1000) (h1:0≤n∧n≤1000) (s:St):rf D tY [.int .i64 c,.int .i64 n] s=some (.int .i64 (2+4*c+n),s):=by have w1:IntKind.i64.wrap (4*c)=4*c:=ae (by omega) (by omega);have w2:IntKind.i64.wrap (2+4*c)=2+4*c:=ae (by omega) (by omega);have w3:IntKind.i64.wrap (2+4*c+n)=2+4*c+n:=ae (by omega) (by omega);rw[ab HY rfl];simp only[go_sem,w1,w2,w3]
theorem qU {c:Int}(h0:0≤c∧c≤1000) (s:St):rf D so [.int .i64 c] s=some (.int .i64 (2+4*c),s):=by have h:=fun s=>lW (n:=0) h0 (by omega) s;rw[Int.add_zero]at h;rw[ab Fh rfl];simp only[go_sem,h]
theorem sG {c:Int}(h0:0≤c∧c≤1000) (s:St):rf D kW [.int .i64 c] s=some (.int .i64 (2+4*c),s):=by have w1:IntKind.i64.wrap (4*c)=4*c:=ae (by omega) (by omega);have w2:IntKind.i64.wrap (2+4*c)=2+4*c:=ae (by omega) (by omega);rw[ab wg rfl];simp only[go_sem,w1,w2]
theorem xD {l:List Int}(hl:l.length=8) (s:St):rf D kR [lnV l] s=some (.tup [(if eI l=true then c9 l else dI).v,.bool (eI l)],s):=by
 have hL:=fun s=>xJ (c9 l) s;have g1:(l.map (V.int .u64))[1]?=some (.int .u64 (l.getD 1 0)):=am (by omega) 0;have g2:(l.map (V.int .u64))[2]?=some (.int .u64 (l.getD 2 0)):=am (by omega) 0;have g3:(l.map (V.int .u64))[3]?=some (.int .u64 (l.getD 3 0)):=am (by omega) 0;have g4:(l.map (V.int .u64))[4]?=some (.int .u64 (l.getD 4 0)):=am (by omega) 0;have he:=us (a:=aH (c9 l)) (b:=l) (by rw[qT,hl]);have hv:(c9 l).v= .agg 44 [.int .i64 (IntKind.i64.wrap (l.getD 1 0)),.int .i64 (IntKind.i64.wrap (l.getD 2 0)),.int .i64 (IntKind.i64.wrap (l.getD 3 0)),.int .i64 (IntKind.i64.wrap (l.getD 4 0))]:=rfl;have hz:dI.v= .agg 44 [.int .i64 0,.int .i64 0,.int .i64 0,.int .i64 0]:=rfl;unfold eI;generalize c9 l=b at*;rw[hv]at hL;cases hb:b.ok with
 |false=>
  rw[hb]at hL;rw[Bool.false_and,if_neg (by simp),hz];simp only[Bool.false_eq_true,if_false,lnV]at*;generalize aH b=z at*;rw[ab kQ rfl];simp only[go_sem,g1,g2,g3,g4,hL]
 |true=>
  rw[hb]at hL;rw[Bool.true_and];simp only[if_true,lnV]at*;generalize aH b=z at*;by_cases hz2:z=l
  ·rw[decide_eq_true hz2]at he⊢;rw[if_pos rfl,hv];rw[ab kQ rfl];simp only[go_sem,g1,g2,g3,g4,hL,he]
  ·rw[decide_eq_false hz2]at he⊢;rw[if_neg (by simp),hz];rw[ab kQ rfl];simp only[go_sem,g1,g2,g3,g4,hL,he]
theorem E5 {a b:List Int}(ha:a.length=8) (hb:b.length=8) (s:St):rf D kS [lnV a,lnV b] s=some (.tup [(a9 a b).1.v,.int .i64 (a9 a b).2.1,.bool (a9 a b).2.2],s):=by
 have h1:=fun s=>xD ha s;have h2:=fun s=>xD hb s;have hz:dI.v= .agg 44 [.int .i64 0,.int .i64 0,.int .i64 0,.int .i64 0]:=rfl;unfold a9 bst;generalize c9 a=x at*;generalize c9 b=y at*;obtain⟨x1,x2,x3,x4⟩:=x;obtain⟨y1,y2,y3,y4⟩:=y;generalize eI a=p at*;generalize eI b=q at*;simp only[lnV,Sup.v,dI]at*;cases p with
 |false=>
  cases q with
  |false=>
   simp only[Bool.false_eq_true,if_false,false_and]at*;rw[ab eP rfl];simp only[go_sem,h1,h2]
  |true=>
   simp only[Bool.false_eq_true,if_false,false_and,if_true,true_and,true_or]at*;rw[ab eP rfl];simp only[go_sem,h1,h2]
 |true=>
  cases q with
  |false=>
   simp only[Bool.false_eq_true,if_false,false_and,if_true,true_and,true_or]at*;rw[ab eP rfl];simp only[go_sem,h1,h2]
  |true=>
   simp only[if_true,true_and,true_or,Bool.true_eq_false,false_or]at*;by_cases hg:x1<y1
   ·have hg':y1>x1:=hg;simp only[hg,if_true];rw[ab eP rfl];simp only[go_sem,h1,h2,hg,hg']
   ·have hg':¬y1>x1:=hg;simp only[hg,if_false];rw[ab eP rfl];simp only[go_sem,h1,h2,hg,hg']
theorem EX {hp:List Blk}{F:Ft}{m:Nat}{M:AM}(h:aV hp F m M) (hc:M.count<1000000) (L:List Blk):rf D kh [.ptr (.hp m) [] 33] ⟨L,hp⟩=
 some (if M.off=true then .tup [dI.v,.int .i64 0,.int .i64 4]else if(a9 (M.now 0) (M.now 1)).2.2=true then .tup [(a9 (M.now 0) (M.now 1)).1.v,.int .i64 (a9 (M.now 0) (M.now 1)).2.1,.int .i64 0]else .tup [dI.v,.int .i64 0,.int .i64 20],⟨L,hp⟩):=by
 have hL0:=fun L=>lz h hc 0 L;have hL1:=fun L=>lz h hc 1 L;have hn:=h.ok.n0;have hz:dI.v= .agg 44 [.int .i64 0,.int .i64 0,.int .i64 0,.int .i64 0]:=rfl;have hzl:lnV zl= .agg 24 (List.replicate 8 (.int .u64 0)):=rfl;unfold AM.load at hL0 hL1;rw[if_neg (by omega)]at hL0 hL1;cases ho:M.off with
 |true=>
  rw[ho]at hL0;simp only[if_true,hzl]at hL0;rw[if_pos rfl,hz,ab kD rfl];simp only[go_sem,hL0]
 |false=>
  rw[ho]at hL0 hL1;simp only[Bool.false_eq_true,if_false]at hL0 hL1;rw[if_neg (by simp)];have e0:(0:Int).toNat=0:=rfl;have e1:(1:Int).toNat=1:=rfl;rw[e0]at hL0;rw[e1]at hL1;have hB:=fun s=>E5 (h.ok.now8 (show 0<M.n by omega)) (h.ok.now8 (show 1<M.n by omega)) s;have ta:(lnV (M.now 0)).tag=24:=rfl;have tb:(lnV (M.now 1)).tag=24:=rfl;generalize a9 (M.now 0) (M.now 1)=z at*;generalize lnV (M.now 0)=A at*;generalize lnV (M.now 1)=B at*;obtain⟨⟨g,r,q,c⟩,sl,ok⟩:=z;rw[hz];simp only[Sup.v]at*;cases ok with
  |true=>
   rw[if_pos rfl,ab kD rfl];simp only[go_sem,hL0,hL1,hB,ta,tb]
  |false=>
   rw[if_neg (by simp),ab kD rfl];simp only[go_sem,hL0,hL1,hB,ta,tb]
theorem E1 {l:List Int}(hl:l.length=8) (s:St):rf D kG [lnV l] s=some (.bool (decide (l=a7 l)),s):=by
 have hs:=fun s=>lR hl s;rw[←tF]at hs;have he:=us (a:=a7 l) (b:=l) (by rw[pr]);rw[show decide (a7 l=l)=decide (l=a7 l)from decide_eq_decide.2 ⟨Eq.symm,Eq.symm⟩]at he
 simp only[lnV]at*;generalize a7 l=Z at*;rw[ab wj rfl];simp only[go_sem,hs,he]
def bb (M:AM):Nat→Nat→List Rec
 |_,0=>[]
 |i,n+1=>(if jf (M.now i)=true then[cM (M.now i)]else[])++bb M (i+1) n
theorem qa (M:AM):∀n i,(bb M i n).length≤n
 |0,_=>Nat.le_refl _
 |n+1,i=>by
  have:=qa M n (i+1);unfold bb;split
  ·simp only[List.length_append,List.length_singleton];omega
  ·simp only[List.nil_append];omega
theorem qV (M:AM):∀n i,∀r∈bb M i n,r.ok=true
 |0,_,r,h=>by cases h
 |n+1,i,r,h=>by
  unfold bb at h;rcases List.mem_append.1 h with h|h
  ·split at h
   ·rename_i hr;rw[List.mem_singleton.1 h];unfold jf at hr;rw[Zj]at hr;exact hr.1
   ·cases h
  ·exact qV M n (i+1) r h
theorem QO {LL hp:List Blk}{p:Nat}{G:Ft}{v:V}{l:List Rec}(hr:LL[p]?=some (.rw v)) (h:SlR hp G 54 56 v (l.map Rec.v)) (hl:l.length≤1000) (r:Rec) (i:Int):
 ∃v' hp',rf D gR [.int .i64 i,r.v,.bool true,.ptr (.loc p) [] 1] ⟨LL,hp⟩=some (.bool true,⟨LL.set p (.rw v'),hp'⟩)∧SlR hp' (.one hp.length) 54 56 v' ((l++[r]).map Rec.v)∧Chg hp hp' G (.one hp.length)∧hp'.length=hp.length+1:=by
 have hpl:=aj hr;obtain⟨H2,r1,r2,r3,r4⟩:=h.push (base:=LL.length) (y:= .sl (.loc (LL.length+1)) [] 0 1 (some 1) 54) (new:=[r.v]) (LL++[.rw r.v,.rw (.agg 56 [r.v])]) (.inr ⟨_,_,_,_,_,rfl⟩) (cR (t:=56) (by simp[tA,xm,nX]) rfl) (by simp) (by simp[cg];omega) (.inl rfl);refine⟨.sl (.hp hp.length) [] 0 (List.map Rec.v l++[r.v]).length none 54,H2,?_,?_,⟨by omega,fun j hj hn=>r4 j hj hn,fun j hj=> .inr (by cases hj;exact Nat.le_refl _)⟩,r2⟩
 ·have z1:LL.length<LL.length+2:=by omega
  have z0:p<LL.length+2:=by omega
  have hr2:∀X,(LL++X)[p]?=some (.rw v):=fun X=>by rw[List.getElem?_append_left hpl];exact hr
  have hs2:∀X b,(LL++X).set p b=LL.set p b++X:=fun X b=>List.set_append_left _ _ hpl;have hvo:=h.ok;have hvt:=h.tag;generalize hNV:V.sl (.hp hp.length) [] 0 (List.map Rec.v l++[r.v]).length none 54=NV at*;have nt:NV.tag=1:=by rw[←hNV];rfl
  have nl:V.locLt 0 NV=true:=by rw[←hNV];rfl
  have hrep:∀X:V,List.replicate 1 X=[X]:=fun _=>rfl;simp only[Rec.v]at*;rw[ab xV rfl];simp only[go_sem,hrep,hr2,r1,hs2,nt,nl];rw[if_pos (by simp),List.take_left' (by simp)]
 ·rw[List.map_append];exact .blk _ none _ (.inl rfl) rfl r3
theorem Qh {LL hp:List Blk}{p:Nat}(r:Rec) (i:Int):rf D gR [.int .i64 i,r.v,.bool false,.ptr (.loc p) [] 1] ⟨LL,hp⟩=some (.bool true,⟨LL,hp⟩):=by simp only[Rec.v];rw[ab xV rfl];simp only[go_sem]
section
variable {m : Nat} {M : AM} {F : Ft}
theorem yj (hoff:M.off=false) {to:Nat}(hto:to≤M.n) (L:List Blk):∀(n i:Nat) {hp:List Blk}{G:Ft}{v:V}{l:List Rec},i+n=to→aI hp F m M→SlR hp G 54 56 v (l.map Rec.v)→l.length+n≤1000→fG G F→Inn hp G→
 ∃hp' G' v',rc D (L.length+1) (.loop [0,2,3,9] dJ) [(0,.ptr (.hp m) [] 59),(2,.int .i64 to),(3,.fn gR [.ptr (.loc L.length) [] 1]),(9,.int .i64 i)] ⟨L++[.rw v],hp⟩=
  some (.exit 0,[(0,.ptr (.hp m) [] 59),(2,.int .i64 to),(3,.fn gR [.ptr (.loc L.length) [] 1]),(9,.int .i64 to),(17,.bool false)],⟨L++[.rw v'],hp'⟩)∧SlR hp' G' 54 56 v' ((l++bb M i n).map Rec.v)∧Chg hp hp' G G'∧fG G' F∧Inn hp' G'
 |0,i,hp,G,v,l,hi,h,hs,hl,ha,hn=>by
  have:i=to:=by omega
  subst this;refine⟨hp,G,v,?_,by rw[bb,List.append_nil];exact hs,.refl _ _,ha,hn⟩;have d1:¬(i:Int)<i:=by omega
  rw[aa];simp only[go_sem,dJ,d1]
 |n+1,i,hp,G,v,l,hi,h,hs,hl,ha,hn=>by
  have hin:i<M.n:=by omega
  have d1:(i:Int)<to:=by omega
  have d4:IntKind.i64.wrap ((i:Int)+1)=((i+1:Nat):Int):=ae (by have:=h.ok.n1;omega) (by have:=h.ok.n1;omega);have hld:M.load (i:Int)=(M.now i,0):=by unfold AM.load;rw[if_neg (by omega),if_neg (by rw[hoff];simp),Zh]
  have hL:=fun L=>jr h (i:Int) L;simp only[hld]at hL;have hR:=fun s=>yx (h.ok.now8 hin) s;have z1:L.length<L.length+1:=by omega
  have z2:L.length<L.length+3:=by omega
  have z3:L.length+1<L.length+3:=by omega
  have z4:L.length+2<L.length+3:=by omega
  have hdr:∀b:Blk,List.drop (L.length+1) (L++[b])=[]:=fun b=>by simp
  cases hrc:jf (M.now i)with
  |false=>
   obtain⟨hp',G',v',q1,q2⟩:=yj hoff hto L n (i+1) (l:=l) (by omega) h hs (by omega) ha hn;refine⟨hp',G',v',?_,by rw[bb,hrc,if_neg (by simp),List.nil_append];exact q2⟩;rw[←q1,aa];rw[hrc]at hR;have h0:=fun X=>Qh (LL:=X) (hp:=hp) (p:=L.length) bW i;simp only[Bool.false_eq_true,if_false,Rec.v,bW,lnV]at*;generalize M.now i=ln at*;clear q1 q2;simp only[go_sem,dJ,d1,hL,hR,h0,d4,z1,hdr]
  |true=>
   obtain⟨v1,hp1,s1,s2,s3,s4⟩:=QO (LL:=L++[.rw v,.rw (lnV (M.now i)),.rw (cM (M.now i)).v]) (p:=L.length) (by simp) hs (by omega) (cM (M.now i)) i;have hM1:=h.chg s3 ha;have ha1:=s3.apart ha h.inn;obtain⟨hp',G',v',q1,q2,q3,q4⟩:=yj hoff hto L n (i+1) (v:=v1) (l:=l++[cM (M.now i)]) (by omega) hM1 s2 (by simp;omega) ha1 (fun j hj=>by cases hj;omega);refine⟨hp',G',v',?_,by rw[bb,hrc,if_pos rfl,←List.append_assoc];exact q2,s3.trans q3,q4⟩;rw[←q1,aa];rw[hrc]at hR;have hset:∀(a b c d:Blk),(L++[a,b,c]).set L.length d=L++[d,b,c]:=fun a b c d=>by simp
   rw[hset]at s1;simp only[if_true,Rec.v,lnV]at*;clear q1 q2 q3 q4 s2 s3 s4 hM1 ha1;generalize cM (M.now i)=rr at*;generalize M.now i=ln at*;simp only[go_sem,dJ,d1,hL,hR,s1,d4,z1,hdr]
end
def eC (M:AM) (seq:Int):Nat→Nat→Nat
 |_,0=>0
 |i,n+1=>if jf (M.now i)=false∨(cM (M.now i)).seq≤seq then i else eC M seq (i+1) n
theorem EG (M:AM) (seq:Int):∀n i,eC M seq i n=0∨(i≤eC M seq i n∧eC M seq i n<i+n)
 |0,_=> .inl rfl
 |n+1,i=>by
  unfold eC;split
  ·right;omega
  ·rcases EG M seq n (i+1)with h|h
   ·exact .inl h
   ·right;omega
theorem QB {LL hp:List Blk}{p q:Nat}{seq:Int}(hp1:LL[p]?=some (.rw (.int .i64 seq))) (hq:LL[q]?=some (.rw (.int .i64 0))) (r:Rec) (is:Bool) {i:Nat}(hi:0<i):
 rf D ja [.int .i64 i,r.v,.bool is,.ptr (.loc p) [] 10,.ptr (.loc q) [] 10] ⟨LL,hp⟩=
  some (.bool (!(!is||decide (r.seq≤seq))),⟨if(!is||decide (r.seq≤seq))=true then LL.set q (.rw (.int .i64 i))else LL,hp⟩):=by
 have hpl:=aj hp1;have hql:=aj hq;have h1:∀X,(LL++X)[p]?=some (.rw (.int .i64 seq)):=fun X=>by rw[List.getElem?_append_left hpl];exact hp1
 have h2:∀X,(LL++X)[q]?=some (.rw (.int .i64 0)):=fun X=>by rw[List.getElem?_append_left hql];exact hq
 have h3:∀X b,(LL++X).set q b=LL.set q b++X:=fun X b=>List.set_append_left _ _ hql;have h4:∀X b,(LL.set q b++X)[q]?=some b:=fun X b=>by rw[List.getElem?_append_left (by simpa using hql)];exact List.getElem?_set_self hql
 have h5:∀(X:List Blk) b,List.take LL.length (LL.set q b++X)=LL.set q b:=fun X b=>List.take_left' (by simp);have d1:¬(i:Int)=0:=by omega
 simp only[Rec.v];cases is with
 |false=>
  simp only[Bool.not_false,Bool.true_or,if_true,Bool.not_true];rw[ab sC rfl];simp only[go_sem,h1,h2,h3,h4,h5,d1];rw[if_pos (by simp)]
 |true=>
  simp only[Bool.not_true,Bool.false_or];by_cases hs:r.seq≤seq
  ·rw[decide_eq_true hs];simp only[if_true,Bool.not_true];rw[ab sC rfl];simp only[go_sem,h1,h2,h3,h4,h5,d1,hs];rw[if_pos (by simp)]
  ·rw[decide_eq_false hs];simp only[Bool.false_eq_true,if_false,Bool.not_false];rw[ab sC rfl];simp only[go_sem,h1,h2,hs]
section
variable {m : Nat} {M : AM} {F : Ft}
theorem EO (hoff:M.off=false) {to:Nat}(hto:to≤M.n) (L:List Blk) {hp:List Blk}(h:aI hp F m M) (seq:Int):∀(n i:Nat),i+n=to→0<i→
 ∃r,rc D (L.length+2) (.loop [0,2,3,9] dJ) [(0,.ptr (.hp m) [] 59),(2,.int .i64 to),(3,.fn ja [.ptr (.loc L.length) [] 10,.ptr (.loc (L.length+1)) [] 10]),(9,.int .i64 i)] ⟨L++[.rw (.int .i64 seq),.rw (.int .i64 0)],hp⟩=some r∧
  ((eC M seq i n=0∧r=(.exit 0,[(0,.ptr (.hp m) [] 59),(2,.int .i64 to),(3,.fn ja [.ptr (.loc L.length) [] 10,.ptr (.loc (L.length+1)) [] 10]),(9,.int .i64 to),(17,.bool false)],⟨L++[.rw (.int .i64 seq),.rw (.int .i64 0)],hp⟩))∨
   (eC M seq i n≠0∧∃a b,r=(.ret,[(8,.int .i64 0)],⟨L++[.rw (.int .i64 seq),.rw (.int .i64 (eC M seq i n)),a,b],hp⟩)))
 |0,i,hi,h0=>by
  have:i=to:=by omega
  subst this;refine⟨_,?_,.inl ⟨rfl,rfl⟩⟩;have d1:¬(i:Int)<i:=by omega
  rw[aa];simp only[go_sem,dJ,d1]
 |n+1,i,hi,h0=>by
  have hin:i<M.n:=by omega
  have d1:(i:Int)<to:=by omega
  have d4:IntKind.i64.wrap ((i:Int)+1)=((i+1:Nat):Int):=ae (by have:=h.ok.n1;omega) (by have:=h.ok.n1;omega);have hld:M.load (i:Int)=(M.now i,0):=by unfold AM.load;rw[if_neg (by omega),if_neg (by rw[hoff];simp),Zh]
  have hL:=fun L=>jr h (i:Int) L;simp only[hld]at hL;have hR:=fun s=>yx (h.ok.now8 hin) s;have z1:L.length<L.length+2:=by omega
  have z2:L.length+1<L.length+2:=by omega
  have hdr:∀a b:Blk,List.drop (L.length+2) (L++[a,b])=[]:=fun a b=>by simp
  have hF:=fun(r:Rec) is=>QB (LL:=L++[.rw (.int .i64 seq),.rw (.int .i64 0),.rw (lnV (M.now i)),.rw r.v]) (hp:=hp) (p:=L.length) (q:=L.length+1) (seq:=seq) (by simp) (by simp) r is h0;have hset:∀(a b c d e:Blk),(L++[a,b,c,d]).set (L.length+1) e=L++[a,e,c,d]:=fun a b c d e=>by simp
  simp only[hset]at hF;unfold eC;cases hrc:jf (M.now i)with
  |false=>
   rw[if_pos (.inl rfl)];refine⟨_,?_,.inr ⟨by omega,.rw (lnV (M.now i)),.rw bW.v,rfl⟩⟩;have hF0:=hF bW false;simp only[Bool.not_false,Bool.true_or,if_true,Bool.not_true]at hF0;rw[hrc]at hR;rw[aa];simp only[Bool.false_eq_true,if_false,Rec.v,bW,lnV]at*;clear hF;generalize M.now i=ln at*;simp only[go_sem,dJ,d1,hL,hR,hF0,z1,z2,hdr]
  |true=>
   rw[hrc]at hR;by_cases hs:(cM (M.now i)).seq≤seq
   ·rw[if_pos (.inr hs)];refine⟨_,?_,.inr ⟨by omega,.rw (lnV (M.now i)),.rw (cM (M.now i)).v,rfl⟩⟩;have hF0:=hF (cM (M.now i)) true;simp only[Bool.not_true,Bool.false_or,decide_eq_true hs,if_true]at hF0;rw[aa];simp only[if_true,Rec.v,lnV]at*;clear hF hs;generalize cM (M.now i)=rr at*;generalize M.now i=ln at*;simp only[go_sem,dJ,d1,hL,hR,hF0,z1,z2,hdr]
   ·rw[if_neg (by simp only[Bool.true_eq_false,false_or];exact hs)];obtain⟨r,q1,q2⟩:=EO hoff hto L h seq n (i+1) (by omega) (by omega);refine⟨r,?_,q2⟩;have hF0:=hF (cM (M.now i)) true;simp only[Bool.not_true,Bool.false_or,decide_eq_false hs,Bool.false_eq_true,if_false,Bool.not_false]at hF0;rw[←q1,aa];simp only[if_true,Rec.v,lnV]at*;clear hF hs q1 q2;generalize cM (M.now i)=rr at*;generalize M.now i=ln at*;simp only[go_sem,dJ,d1,hL,hR,hF0,d4,z1,z2,hdr]
theorem Gm {hp:List Blk}(h:aI hp F m M) (hoff:M.off=false) {core:Nat}(hc:core<8) (hn:6+4*core≤M.n) (seq:Int) (L:List Blk):
 rf D vB [.ptr (.hp m) [] 59,.int .i64 core,.int .i64 seq] ⟨L,hp⟩=some (.tup [.int .i64 (eC M seq (2+4*core) 4),.int .i64 (if eC M seq (2+4*core) 4=0 then 11 else 0)],⟨L,hp⟩):=by
 obtain⟨r,q1,q2⟩:=EO hoff (to:=6+4*core) hn L h seq 4 (2+4*core) (by omega) (by omega);have p1:=fun s=>lW (c:=core) (n:=0) (by omega) (by omega) s;have p2:=fun s=>lW (c:=core+1) (n:=0) (by omega) (by omega) s;rw[show(2:Int)+4*(core:Int)+0=((2+4*core:Nat):Int) by omega]at p1;rw[show(2:Int)+4*((core:Int)+1)+0=((6+4*core:Nat):Int) by omega]at p2;have w1:IntKind.i64.wrap ((core:Int)+1)=core+1:=ae (by omega) (by omega);have d1:¬(core:Int)<0:=by omega
 have d2:¬(core:Int)≥8:=by omega
 have hE:rf D rM [.ptr (.hp m) [] 59,.int .i64 (2+4*core:Nat),.int .i64 (6+4*core:Nat),.fn ja [.ptr (.loc L.length) [] 10,.ptr (.loc (L.length+1)) [] 10]] ⟨L++[.rw (.int .i64 seq),.rw (.int .i64 0)],hp⟩=
  some (.int .i64 0,⟨L++[.rw (.int .i64 seq),.rw (.int .i64 (eC M seq (2+4*core) 4))],hp⟩):=by
  have hl:(L++[Blk.rw (.int .i64 seq),Blk.rw (.int .i64 0)]).length=L.length+2:=by simp
  rw[ab Aj rfl];rcases q2 with⟨c,rfl⟩|⟨c,a,b,rfl⟩
  ·rw[c];simp only[go_sem,q1]
  ·generalize eC M seq (2+4*core) 4=fz at*;simp only[go_sem,q1]
 generalize eC M seq (2+4*core) 4=fz at*;rw[ab IE rfl];by_cases hz:fz=0
 ·subst hz;simp only[go_sem,d1,d2,p1,w1,p2,hE]
 ·have hz':¬(fz:Int)=0:=by omega
  rw[if_neg hz];simp only[go_sem,d1,d2,p1,w1,p2,hE,hz']
theorem Gk {l:List Int}(hl:l.length=8) {at' core:Int}{L:List Blk}{base:Nat}(hL:(L.drop base).all (bl L.length)=true):∀(n j:Nat) {hp:List Blk}{Fm:Ft}{M:AM},j+n=8→aI hp Fm m M→M.count+n<1000000→
 ∃hp' Fm' r,rc D base (.loop [0,1,9,41,42] jn) [(0,.ptr (.hp m) [] 59),(1,.int .i64 core),(9,.int .i64 at'),(41,lnV l),(42,.int .i64 j)] ⟨L,hp⟩=some r∧
  aI hp' Fm' m (M.layFrom at' l j n).1∧Chg hp hp' Fm Fm'∧
  (((M.layFrom at' l j n).2=0∧r=(.exit 0,[(0,.ptr (.hp m) [] 59),(1,.int .i64 core),(9,.int .i64 at'),(41,lnV l),(42,.int .i64 8),(43,.bool false)],⟨L,hp'⟩))∨
   ((M.layFrom at' l j n).2≠0∧r=(.ret,[(8,.int .i64 (M.layFrom at' l j n).2)],⟨L,hp'⟩)))
 |0,j,hp,Fm,M,hj,h,_=>by
  have:j=8:=by omega
  subst this;refine⟨hp,Fm,_,?_,h,.refl _ _,.inl ⟨rfl,rfl⟩⟩;rw[aa];simp only[lnV];simp only[go_sem,jn]
 |n+1,j,hp,Fm,M,hj,h,hc=>by
  obtain⟨hp1,Fm1,e1,e2,e3⟩:=iz h (by omega) at' j (l.getD j 0) L;have hcn:=AM.store_count (M:=M) (i:=at') (q:=j) (v:=l.getD j 0);have d1:(j:Int)<8:=by omega
  have d2:(0:Int)≤j:=by omega
  have d4:IntKind.i64.wrap ((j:Int)+1)=((j+1:Nat):Int):=ae (by omega) (by omega);have g:=am (f:=V.int .u64) (l:=l) (i:=j) (by omega) 0;simp only[AM.layFrom];by_cases he:(M.store at' j (l.getD j 0)).2=0
  ·rw[if_neg fun hh=>hh he];obtain⟨hp2,Fm2,r,q1,q2,q3,q4⟩:=Gk hl hL n (j+1) (by omega) e2 (by omega);refine⟨hp2,Fm2,r,?_,q2,e3.trans q3,q4⟩;rw[←q1,aa];rw[he]at e1;simp only[lnV]at*;generalize l.getD j 0=wd at*;simp only[go_sem,jn,d1,d2,Zh,g,e1,d4,hL]
  ·rw[if_pos he];refine⟨hp1,Fm1,_,?_,e2,e3,.inr ⟨he,rfl⟩⟩;rw[aa];simp only[lnV]at*;generalize l.getD j 0=wd at*;simp only[go_sem,jn,d1,d2,Zh,g,e1,he]
end
def AM.addRec (M:AM) (core:Nat) (seq:Int) (r:Rec):AM×Int:=
 let at':Nat:=eC M seq (2+4*core) 4
 if at'=0 then(M,11)else if r.ok=false then(M,1)else
 if(M.store at' 7 0).2≠0 then M.store at' 7 0 else
 let q:=(M.store at' 7 0).1.layFrom at' (bY r) 0 8
 if q.2≠0 then q else if(q.1.flush core at').2≠0 then q.1.flush core at' else(q.1.flush core at').1.fence core
section
variable {m : Nat} {M : AM} {F : Ft}
theorem DU {hp:List Blk}(h:aI hp F m M) (hc:M.count+12<1000000) (hoff:M.off=false) {core:Nat}(hc8:core<8) (hn:6+4*core≤M.n) (seq:Int) (r:Rec) (L:List Blk):
 ∃hp' F',rf D sj [.ptr (.hp m) [] 59,.int .i64 core,.int .i64 seq,r.v] ⟨L,hp⟩=some (.int .i64 (M.addRec core seq r).2,⟨L,hp'⟩)∧aI hp' F' m (M.addRec core seq r).1∧Chg hp hp' F F':=by
 have hln:=fun s=>zp r s;have hlen:=wy r;have hfr:=fun L=>Gm h hoff hc8 hn seq L;unfold AM.addRec;simp only;generalize eC M seq (2+4*core) 4=at' at*;by_cases ha:at'=0
 ·rw[if_pos ha]at hfr⊢;refine⟨hp,F,?_,h,.refl _ _⟩;subst ha;simp only[Rec.v];rw[ab jc rfl];simp only[go_sem,hfr]
 ·rw[if_neg ha]at hfr⊢;by_cases hb:r.ok=false
  ·rw[if_pos hb];refine⟨hp,F,?_,h,.refl _ _⟩;rw[hb,if_neg (by simp)]at hln;simp only[Rec.v,lnV]at*;rw[ab jc rfl];simp only[go_sem,hfr,hln]
  ·have hb':r.ok=true:=by simpa using hb
   rw[hb',if_pos rfl]at hln;rw[if_neg hb];obtain⟨hp1,F1,e1,e2,e3⟩:=iz h (by omega) at' 7 0 (L++[.rw r.v,.rw (lnV (bY r))]);have c1:=AM.store_count (M:=M) (i:=at') (q:=7) (v:=0);by_cases he1:(M.store at' 7 0).2=0
   ·rw[if_neg (by simp[he1])];obtain⟨hp2,F2,rr,q1,q2,q3,q4⟩:=Gk (m:=m) hlen (at':=at') (core:=core) (L:=L++[.rw r.v,.rw (lnV (bY r))]) (base:=L.length) (by simp only[Rec.v,lnV];simp only[go_sem]) 8 0 rfl e2 (by omega);have c2:=AM.layFrom_count (M:=(M.store at' 7 0).1) (at':=at') (l:=bY r) (n:=8) (j:=0);rw[show((0:Nat):Int)=0 from rfl]at q1
    by_cases he2:((M.store at' 7 0).1.layFrom at' (bY r) 0 8).2=0
    ·rw[if_neg (by simp[he2])];rcases q4 with⟨_,rfl⟩|⟨z,_⟩
     ·obtain⟨hp3,r1,r2,r3⟩:=rJ q2 (by omega) core at' (L++[.rw r.v,.rw (lnV (bY r))]);have c3:=(bz (M:=((M.store at' 7 0).1.layFrom at' (bY r) 0 8).1) (c:=core) (i:=at')).1;by_cases he3:(((M.store at' 7 0).1.layFrom at' (bY r) 0 8).1.flush core at').2=0
      ·rw[if_neg (by simp[he3])];obtain⟨hp4,F4,s1,s2,s3⟩:=ry r2 (by omega) core (L++[.rw r.v,.rw (lnV (bY r))]);refine⟨hp4,F4,?_,s2,((e3.trans q3).trans r3).trans s3⟩;rw[he1]at e1;rw[he3]at r1;generalize((((M.store at' 7 0).1.layFrom at' (bY r) 0 8).1.flush core at').1.fence core)=fz at*;generalize bY r=sl at*;simp only[Rec.v,lnV]at*;rw[ab jc rfl];simp only[go_sem,hfr,hln,e1];simp only[go_sem,q1,r1,s1]
      ·rw[if_pos he3];refine⟨hp3,F2,?_,r2,(e3.trans q3).trans r3⟩;rw[he1]at e1;generalize(((M.store at' 7 0).1.layFrom at' (bY r) 0 8).1.flush core at')=fz at*;generalize bY r=sl at*;simp only[Rec.v,lnV]at*;rw[ab jc rfl];simp only[go_sem,hfr,hln,e1];simp only[go_sem,q1,r1,he3]
     ·exact absurd he2 z
    ·rw[if_pos he2];rcases q4 with⟨z,_⟩|⟨_,rfl⟩
     ·exact absurd z he2
     ·refine⟨hp2,F2,?_,q2,e3.trans q3⟩;rw[he1]at e1;generalize((M.store at' 7 0).1.layFrom at' (bY r) 0 8)=fz at*;generalize bY r=sl at*;simp only[Rec.v,lnV]at*;rw[ab jc rfl];simp only[go_sem,hfr,hln,e1];simp only[go_sem,q1]
   ·rw[if_pos he1];refine⟨hp1,F1,?_,e2,e3⟩;generalize(M.store at' 7 0)=fz at*;generalize bY r=sl at*;simp only[Rec.v,lnV]at*;rw[ab jc rfl];simp only[go_sem,hfr,hln,e1,he1]
end
theorem Bz (n:Int) (s:St):rf D pH [.int .i64 n] s=some (.bool false,s):=by rw[ab BL rfl];simp only[go_sem]
def jI (a b:Int):Int:=if a<b then-1 else if a>b then 1 else 0
theorem Vo (a b:Int) (s:St):rf D nE [.int .i64 a,.int .i64 b] s=some (.int .i64 (jI a b),s):=by
 unfold jI;by_cases h1:a<b
 ·rw[if_pos h1,ab nH rfl];simp only[go_sem,Bz,h1]
 ·by_cases h2:a>b
  ·rw[if_neg h1,if_pos h2,ab nH rfl];simp only[go_sem,Bz,h1,h2]
  ·rw[if_neg h1,if_neg h2,ab nH rfl];simp only[go_sem,Bz,h1,h2]
theorem xr (x y:Rec) (s:St):rf D aq [x.v,y.v] s=some (.int .i64 (jI x.seq y.seq),s):=by simp only[Rec.v];rw[ab EV rfl];simp only[go_sem,Vo]
theorem um {a b:Int}:jI a b<0↔a<b:=by
 unfold jI;split
 ·constructor<;>intro<;>omega
 ·split<;>constructor<;>intro<;>omega
def ak (l:List Rec) (i:Nat):Rec:=l.getD i bW
def swp (l:List Rec) (j:Nat):List Rec:=(l.set j (ak l (j-1))).set (j-1) (ak l j)
theorem zI (l:List Rec) (j:Nat):(swp l j).length=l.length:=by simp[swp]
def o0 (a:Nat):List Rec→Nat→List Rec
 |l,0=>l
 |l,j+1=>if a<j+1∧(ak l (j+1)).seq<(ak l j).seq then o0 a (swp l (j+1)) j else l
theorem wZ (a:Nat):∀j l,(o0 a l j).length=l.length
 |0,_=>rfl
 |j+1,l=>by
  unfold o0;split
  ·rw[wZ a j,zI]
  ·rfl
structure Dat (hp:List Blk) (q:Nat) (l:List Rec):Prop where
 get:hp[q]?=some (.rw (.agg 56 (l.map Rec.v)))
abbrev bu (q n:Nat) (c:Option Nat):V:= .sl (.hp q) [] 0 n c 54
theorem je {q n j:Nat}{c:Option Nat}(h:j<n):eD 54 (bu q n c) (.int .i64 (j:Int))=some (.ptr (.hp q) [j] 54):=md h
theorem Ec {q a i b:Nat}{c:Option Nat}(L:List Blk):∀(j:Nat) {hp:List Blk}{l:List Rec},j≤i→i<l.length→l.length≤1000→Dat hp q l→
 ∃j':Nat,rc D L.length (.loop [0,1,2,3,8,9] aO) [(0,bu q l.length c),(1,.int .i64 a),(2,.int .i64 b),(3,.fn aq []),(8,.int .i64 i),(9,.int .i64 j)] ⟨L,hp⟩=
  some (.exit 2,[(0,bu q l.length c),(1,.int .i64 a),(2,.int .i64 b),(3,.fn aq []),(8,.int .i64 i),(9,.int .i64 j'),(34,.bool false)],⟨L,hp.set q (.rw (.agg 56 ((o0 a l j).map Rec.v)))⟩)
 |0,hp,l,hj,hi,hl,hd=>by
  refine⟨0,?_⟩;have hset:=dD hd.get;have d1:¬(a:Int)<0:=by omega
  rw[aa];simp only[o0];rw[hset];simp only[go_sem,aO,d1]
 |j+1,hp,l,hj,hi,hl,hd=>by
  have hset:=dD hd.get;have hql:=aj hd.get;have d5:IntKind.i64.wrap (((j+1:Nat):Int)-1)=(j:Int):=by rw[ae (by omega) (by omega)];omega
  have b1:((j+1:Nat):Int)<l.length:=by omega
  have b2:(0:Int)≤((j+1:Nat):Int):=by omega
  have b3:(j:Int)<l.length:=by omega
  have b4:(0:Int)≤(j:Int):=by omega
  have g1:(l.map Rec.v)[j+1]?=some (ak l (j+1)).v:=am (by omega) bW;have g2:(l.map Rec.v)[j]?=some (ak l j).v:=am (by omega) bW;have hc:=fun s=>xr (ak l (j+1)) (ak l j) s;have hgt:=hd.get;unfold o0;by_cases ha:a<j+1
  ·have d1:(a:Int)<((j+1:Nat):Int):=by omega
   by_cases hs:(ak l (j+1)).seq<(ak l j).seq
   ·rw[if_pos ⟨ha,hs⟩];have hd2:Dat (hp.set q (.rw (.agg 56 ((swp l (j+1)).map Rec.v)))) q (swp l (j+1)):=⟨List.getElem?_set_self hql⟩;obtain⟨j',q1⟩:=Ec (a:=a) (i:=i) L (c:=c) (b:=b) j (hp:=hp.set q (.rw (.agg 56 ((swp l (j+1)).map Rec.v)))) (l:=swp l (j+1)) (by omega) (by rw[zI];exact hi) (by rw[zI];exact hl) hd2;rw[List.set_set,zI]at q1;refine⟨j',?_⟩;rw[←q1,aa];have hm:(swp l (j+1)).map Rec.v=((l.map Rec.v).set (j+1) (ak l j).v).set j (ak l (j+1)).v:=by unfold swp;rw[List.map_set,List.map_set];rfl
    rw[hm];have hk:jI (ak l (j+1)).seq (ak l j).seq<0:=um.2 hs;clear q1 hd2 hm hs;generalize jI (ak l (j+1)).seq (ak l j).seq=k at*;generalize hx:ak l (j+1)=x at*;generalize hy:ak l j=y at*;generalize l.map Rec.v=T at*;have hg3:∀(X:Blk),(hp.set q X)[q]?=some X:=fun X=>List.getElem?_set_self hql;have g5:∀w,(T.set (j+1) w)[j]?=some y.v:=fun w=>by rw[List.getElem?_set_ne (show j+1≠j by omega)];exact g2
    simp only[Rec.v]at*;simp only[go_sem,aO,d1,b1,b2,b3,b4,d5,Zh,hgt,g1,g2,hc,hk,hg3,g5,List.set_set]
   ·rw[if_neg (fun h=>hs h.2)];refine⟨j+1,?_⟩;rw[hset,aa];have hk:¬jI (ak l (j+1)).seq (ak l j).seq<0:=fun h=>hs (um.1 h);clear hs;generalize jI (ak l (j+1)).seq (ak l j).seq=k at*;generalize hx:ak l (j+1)=x at*;generalize hy:ak l j=y at*;generalize l.map Rec.v=T at*;simp only[Rec.v]at*;simp only[go_sem,aO,d1,b1,b2,b3,b4,d5,Zh,hgt,g1,g2,hc,hk]
  ·rw[if_neg (fun h=>ha h.1)];refine⟨j+1,?_⟩;have d1:¬(a:Int)<((j+1:Nat):Int):=by omega
   rw[hset,aa];simp only[go_sem,aO,d1]
def uM (a:Nat):List Rec→Nat→Nat→List Rec
 |l,_,0=>l
 |l,i,n+1=>uM a (o0 a l i) (i+1) n
theorem EC {q a b:Nat}{c:Option Nat}(L:List Blk):∀(n i:Nat) {hp:List Blk}{l:List Rec},i+n=b→b≤l.length→l.length≤1000→Dat hp q l→
 rc D L.length (.loop [0,1,2,3,8] aN) [(0,bu q l.length c),(1,.int .i64 a),(2,.int .i64 b),(3,.fn aq []),(8,.int .i64 i)] ⟨L,hp⟩=
  some (.exit 0,[(0,bu q l.length c),(1,.int .i64 a),(2,.int .i64 b),(3,.fn aq []),(8,.int .i64 b),(14,.bool false)],⟨L,hp.set q (.rw (.agg 56 ((uM a l i n).map Rec.v)))⟩)
 |0,i,hp,l,hi,hb,hl,hd=>by
  have:i=b:=by omega
  subst this;have hset:=dD hd.get;have d1:¬(i:Int)<i:=by omega
  rw[aa];simp only[uM];rw[hset];simp only[go_sem,aN,d1]
 |n+1,i,hp,l,hi,hb,hl,hd=>by
  have hql:=aj hd.get;have d1:(i:Int)<b:=by omega
  have d4:IntKind.i64.wrap ((i:Int)+1)=((i+1:Nat):Int):=ae (by omega) (by omega);obtain⟨j',q1⟩:=Ec (a:=a) (i:=i) L (c:=c) (b:=b) i (hp:=hp) (l:=l) (Nat.le_refl _) (by omega) hl hd;have hd2:Dat (hp.set q (.rw (.agg 56 ((o0 a l i).map Rec.v)))) q (o0 a l i):=⟨List.getElem?_set_self hql⟩;have ih:=EC (q:=q) (a:=a) (b:=b) (c:=c) L n (i+1) (l:=o0 a l i) (by omega) (by rw[wZ];exact hb) (by rw[wZ];exact hl) hd2;rw[wZ,List.set_set]at ih;rw[uM,←ih,aa];clear ih hd2 hd;simp only[go_sem,aN,d1,q1,d4]
theorem BO {q a n:Nat}{c:Option Nat}{hp:List Blk}{l:List Rec}(hb:n≤l.length) (ha:a+1≤n) (hl:l.length≤1000) (hd:Dat hp q l) (L:List Blk):
 rf D aS [bu q l.length c,.int .i64 a,.int .i64 n,.fn aq []] ⟨L,hp⟩=some (.tup [],⟨L,hp.set q (.rw (.agg 56 ((uM a l (a+1) (n-(a+1))).map Rec.v)))⟩):=by
 have d4:IntKind.i64.wrap ((a:Int)+1)=((a+1:Nat):Int):=ae (by omega) (by omega);have h:=EC (q:=q) (a:=a) (b:=n) (c:=c) L (n-(a+1)) (a+1) (by omega) hb hl hd;rw[ab cO rfl];clear hd;simp only[go_sem,d4,h]
theorem IJ {q a n:Nat}{c:Option Nat}{hp:List Blk}{k:Nat}(ha:n≤a+1) (hl:a≤1000) (L:List Blk):
 rf D aS [bu q k c,.int .i64 a,.int .i64 n,.fn aq []] ⟨L,hp⟩=some (.tup [],⟨L,hp⟩):=by
 have d4:IntKind.i64.wrap ((a:Int)+1)=((a+1:Nat):Int):=ae (by omega) (by omega);have d1:¬((a+1:Nat):Int)<n:=by omega
 rw[ab cO rfl];simp only[go_sem,d4];rw[aa];simp only[go_sem,aN,d1]
def fO (r:Rec):List Rec→List Rec
 |[]=>[r]
 |x::t=>if x.seq≤r.seq then x::fO r t else r::x::t
def mS (s u:List Rec):List Rec:=u.foldl (fun acc r=>fO r acc) s
def bD (l:List Rec):List Rec:=mS [] l
abbrev Srt (l:List Rec):Prop:=l.Pairwise fun a b=>a.seq≤b.seq
theorem zn {r x:Rec}(h:r.seq<x.seq):∀s,fO r (s++[x])=fO r s++[x]
 |[]=>by
  show(if x.seq≤r.seq then _ else _)=_
  rw[if_neg (by omega)];rfl
 |y::s=>by
  simp only[List.cons_append,fO];split
  ·rw[zn h s];rfl
  ·rfl
theorem AT {r:Rec}:∀s:List Rec,(∀x∈s,x.seq≤r.seq)→fO r s=s++[r]
 |[],_=>rfl
 |x::s,h=>by simp only[fO,List.cons_append];rw[if_pos (h x List.mem_cons_self),AT s fun y hy=>h y (List.mem_cons_of_mem _ hy)]
theorem wH (r:Rec):∀s,(fO r s).length=s.length+1
 |[]=>rfl
 |x::s=>by
  simp only[fO];split
  ·simp[wH r s]
  ·rfl
theorem Ba {r x:Rec}:∀{s:List Rec},x∈fO r s↔x=r∨x∈s
 |[]=>by simp[fO]
 |y::s=>by
  simp only[fO];split
  ·rw[List.mem_cons,Ba (s:=s),List.mem_cons];constructor
   ·rintro(h|h|h)
    ·exact .inr (.inl h)
    ·exact .inl h
    ·exact .inr (.inr h)
   ·rintro(h|h|h)
    ·exact .inr (.inl h)
    ·exact .inl h
    ·exact .inr (.inr h)
  ·simp[List.mem_cons]
theorem tZ {r:Rec}:∀{s:List Rec},Srt s→Srt (fO r s)
 |[],_=>by simp[fO,Srt]
 |y::s,h=>by
  obtain⟨h1,h2⟩:=List.pairwise_cons.1 h;simp only[fO];split
  ·rename_i hy;refine List.pairwise_cons.2 ⟨fun x hx=> ?_,tZ h2⟩;rcases Ba.1 hx with rfl|hx
   ·exact hy
   ·exact h1 x hx
  ·rename_i hy;refine List.pairwise_cons.2 ⟨fun x hx=> ?_,h⟩;rcases List.mem_cons.1 hx with rfl|hx
   ·omega
   ·have:=h1 x hx;omega
theorem CT:∀(u:List Rec) {s:List Rec},Srt s→Srt (mS s u)
 |[],_,h=>h
 |r::u,_,h=>CT u (tZ h)
theorem uK (l:List Rec):Srt (bD l):=CT l .nil
theorem CS:∀(u s:List Rec),(mS s u).length=s.length+u.length
 |[],s=>rfl
 |r::u,s=>by show(mS (fO r s) u).length=_;rw[CS u,wH];simp;omega
theorem dH (l:List Rec):(bD l).length=l.length:=by unfold bD;rw[CS];simp
theorem BC {x:Rec}:∀{u s:List Rec},x∈mS s u↔x∈s∨x∈u
 |[],s=>by simp[mS]
 |r::u,s=>by
  show x∈mS (fO r s) u↔_;rw[BC (u:=u),Ba,List.mem_cons];constructor
  ·rintro((h|h)|h)
   ·exact .inr (.inl h)
   ·exact .inl h
   ·exact .inr (.inr h)
  ·rintro(h|h|h)
   ·exact .inl (.inr h)
   ·exact .inl (.inl h)
   ·exact .inr h
theorem mM {x:Rec}{l:List Rec}:x∈bD l↔x∈l:=by unfold bD;rw[BC];simp
theorem iR {p t:List Rec}{x:Rec}{j:Nat}(h:j=p.length):ak (p++x::t) j=x:=by subst h;unfold ak;rw[List.getD_eq_getElem?_getD,List.getElem?_append_right (Nat.le_refl _),Nat.sub_self];rfl
theorem JM {p t:List Rec}{x y:Rec}{j:Nat}(h:j=p.length):swp (p++x::y::t) (j+1)=p++y::x::t:=by
 subst h;have h1:ak (p++x::y::t) p.length=x:=iR rfl;have h2:ak (p++x::y::t) (p.length+1)=y:=by have:=iR (p:=p++[x]) (t:=t) (x:=y) (j:=p.length+1) (by simp);rw[List.append_assoc]at this;exact this
 unfold swp;rw[Nat.add_sub_cancel,h1,h2];rw[List.set_append_right _ _ (by omega),show p.length+1-p.length=1 by omega];rw[List.set_append_right _ _ (Nat.le_refl _),Nat.sub_self];rfl
theorem Hj {a:Nat}{r:Rec}{p:List Rec}(hp:p.length=a):∀(k:Nat) (s t:List Rec),s.length=k→Srt s→o0 a (p++(s++r::t)) (a+k)=p++(fO r s++t)
 |0,s,t,hk,hs=>by
  have:s=[]:=List.length_eq_zero_iff.1 hk;subst this;cases a with
  |zero=>rfl
  |succ a=>
   show o0 (a+1) _ (a+1)=_;unfold o0;rw[if_neg (fun h=>by omega)];rfl
 |k+1,s,t,hk,hs=>by
  obtain⟨s',x,rfl⟩:∃s' x,s=s'++[x]:=⟨s.dropLast,s.getLast (fun e=>by rw[e]at hk;cases hk),(List.dropLast_concat_getLast _).symm⟩;have hk':s'.length=k:=by simpa using hk
  have hpl:(p++s').length=a+k:=by rw[List.length_append];omega
  have e:p++(s'++[x]++r::t)=(p++s')++x::r::t:=by simp
  have h1:ak (p++(s'++[x]++r::t)) (a+k)=x:=by rw[e];exact iR hpl.symm
  have h2:ak (p++(s'++[x]++r::t)) (a+k+1)=r:=by rw[e];have:=iR (p:=p++s'++[x]) (t:=t) (x:=r) (j:=a+k+1) (by rw[List.length_append,hpl];rfl);rw[List.append_assoc]at this;exact this
  show o0 a _ (a+k+1)=_;unfold o0;rw[h1,h2];obtain⟨hs1,_,hs2⟩:=List.pairwise_append.1 hs;by_cases c:r.seq<x.seq
  ·rw[if_pos ⟨by omega,c⟩,e,JM hpl.symm,zn c];have:=Hj (r:=r) hp k s' (x::t) hk' hs1;rw[List.append_assoc]at*;rw[List.append_assoc];exact this
  ·rw[if_neg (fun h=>c h.2)];rw[AT (s'++[x]) fun y hy=>by
    rcases List.mem_append.1 hy with hy|hy
    ·have:=hs2 y hy x List.mem_cons_self;omega
    ·rw[List.mem_singleton.1 hy];omega]
   simp
theorem xd {a:Nat}{p:List Rec}(hp:p.length=a):∀(u s t:List Rec),Srt s→uM a (p++(s++(u++t))) (a+s.length) u.length=p++(mS s u++t)
 |[],s,t,hs=>rfl
 |r::u,s,t,hs=>by
  rw[List.length_cons,uM];have h1:=Hj (a:=a) (r:=r) hp s.length s (u++t) rfl hs;rw[show(r::u)++t=r::(u++t)from rfl,h1]
  have h2:=xd hp u (fO r s) t (tZ hs);rw[wH]at h2;exact h2
theorem M8 {l:List Rec}(hl:l≠[]):uM 0 l 1 (l.length-1)=bD l:=by obtain⟨r,u,rfl⟩:=List.exists_cons_of_ne_nil hl;have:=xd (a:=0) (p:=[]) rfl u [r] [] (List.pairwise_singleton _ _);simp only[List.append_nil,List.nil_append,List.length_singleton,Nat.zero_add]at this;exact this
section
variable {q : Nat} {c : Option Nat} {hp : List Blk} {l : List Rec}
theorem EZ {v:V}(hv:V.slen false v=some 0) (L:List Blk):rf D bh [v,.fn aq []] ⟨L,hp⟩=some (.tup [],⟨L,hp⟩):=by
 have h0:rf D aS [v,.int .i64 0,.int .i64 0,.fn aq []] ⟨L,hp⟩=some (.tup [],⟨L,hp⟩):=by have w1:IntKind.i64.wrap 1=1:=rfl;rw[ab cO rfl];simp only[go_sem,w1];rw[aa];simp only[go_sem,aN]
 have h1:rf D bH [v,.int .i64 0,.fn aq []] ⟨L,hp⟩=some (.tup [],⟨L,hp⟩):=by rw[ab eF rfl];simp only[go_sem];rw[aa];simp only[go_sem,bv,h0];rw[aa];simp only[go_sem,bd]
 rw[ab eg rfl];simp only[go_sem,hv,h1]
theorem Cj (hn:l.length<20) (h0:l≠[]) (hd:Dat hp q l) (L:List Blk):
 rf D bh [bu q l.length c,.fn aq []] ⟨L,hp⟩=some (.tup [],⟨L,hp.set q (.rw (.agg 56 ((bD l).map Rec.v)))⟩):=by
 have hl0:1≤l.length:=List.length_pos_iff.2 h0;have hi:=BO (a:=0) (n:=l.length) (c:=c) (Nat.le_refl _) (by omega) (by omega) hd L;rw[Nat.zero_add,M8 h0,show((0:Nat):Int)=0 from rfl]at hi
 have d1:¬(20:Int)≤l.length:=by omega
 have d2:¬(20:Int)<l.length:=by omega
 have h1:rf D bH [bu q l.length c,.int .i64 l.length,.fn aq []] ⟨L,hp⟩=some (.tup [],⟨L,hp.set q (.rw (.agg 56 ((bD l).map Rec.v)))⟩):=by clear hd;rw[ab eF rfl];simp only[go_sem];rw[aa];simp only[go_sem,bv,d1,hi];rw[aa];simp only[go_sem,bd,d2]
 clear hd;rw[ab eg rfl];simp only[go_sem,h1]
def oV (n:Nat):Prop:=∀{q:Nat}{c:Option Nat}{hp:List Blk}{l:List Rec}(L:List Blk),l.length=n→l≠[]→Dat hp q l→
 rf D bh [bu q l.length c,.fn aq []] ⟨L,hp⟩=some (.tup [],⟨L,hp.set q (.rw (.agg 56 ((bD l).map Rec.v)))⟩)
theorem ra {n:Nat}(h:n<20):oV n:=fun L hl h0 hd=>Cj (by omega) h0 hd L
theorem R9 {G:Ft}{v:V}(h:SlR hp G 54 56 v (l.map Rec.v)) (hS:oV l.length) (L:List Blk):
 ∃hp',rf D bh [v,.fn aq []] ⟨L,hp⟩=some (.tup [],⟨L,hp'⟩)∧SlR hp' G 54 56 v ((bD l).map Rec.v)∧Chg hp hp' G G:=by
 by_cases h0:l=[]
 ·subst h0;exact⟨hp,EZ h.slen L,h,.refl _ _⟩
 ·generalize hT:l.map Rec.v=T at h;cases h with
  |nil=>exact absurd (List.map_eq_nil_iff.1 hT) h0
  |emp a p o=>exact absurd (List.map_eq_nil_iff.1 hT) h0
  |blk a c T hc hG hb=>
   subst hT;have hd:Dat hp a l:=⟨hb⟩;have hql:=aj hb;have hs:=hS (c:=c) L rfl h0 hd;refine⟨hp.set a (.rw (.agg 56 ((bD l).map Rec.v))),?_,?_,(iH (a:=a)).mono (fun j hj=>by cases hj;exact hG) fun _ h=> .inr h⟩
   ·rw[List.length_map];exact hs
   ·have hl:(l.map Rec.v).length=((bD l).map Rec.v).length:=by rw[List.length_map,List.length_map,dH]
    rw[hl]at hc⊢;exact .blk a c _ hc hG (List.getElem?_set_self hql)
theorem G8 {m:Nat}{M:AM}{F:Ft}(h:aI hp F m M) (hoff:M.off=false) {cores:Nat}(h1:1≤cores) (h8:cores≤8) (hn:2+4*cores≤M.n) (hS:oV (bb M 2 (4*cores)).length) (L:List Blk):
 ∃hp' G v,rf D vw [.ptr (.hp m) [] 59,.int .i64 cores] ⟨L,hp⟩=some (.tup [v,.int .i64 0],⟨L,hp'⟩)∧SlR hp' G 54 56 v ((bD (bb M 2 (4*cores))).map Rec.v)∧Chg hp hp' (fun _=>False) G∧Inn hp' G:=by
 have d1:¬(cores:Int)<1:=by omega
 have d2:¬(cores:Int)>8:=by omega
 have p1:=fun s=>lW (c:=0) (n:=0) (by omega) (by omega) s;have p2:=fun s=>lW (c:=cores) (n:=0) (by omega) (by omega) s;rw[show(2:Int)+4*0+0=2 from rfl]at p1
 rw[show(2:Int)+4*(cores:Int)+0=((2+4*cores:Nat):Int) by omega]at p2;obtain⟨hp1,G1,v1,q1,q2,q3,q4,q5⟩:=yj hoff (to:=2+4*cores) hn L (4*cores) 2 (v:= .nils) (l:=[]) (by omega) h (SlR.nil (G:=fun _=>False)) (by simp;omega) (fun _ h=>h.elim) (fun _ h=>h.elim);rw[List.nil_append]at q2;rw[show((2:Nat):Int)=2 from rfl]at q1
 obtain⟨hp2,r1,r2,r3⟩:=R9 q2 hS (L++[.rw v1]);refine⟨hp2,G1,v1,?_,r2,q3.trans r3,q5.more r3⟩;have hE:rf D rM [.ptr (.hp m) [] 59,.int .i64 2,.int .i64 (2+4*cores:Nat),.fn gR [.ptr (.loc L.length) [] 1]] ⟨L++[.rw .nils],hp⟩=some (.int .i64 0,⟨L++[.rw v1],hp1⟩):=by rw[ab Aj rfl];simp only[go_sem,q1]
 have v1t:=q2.tag;have v1l:∀b,V.locLt b v1=true:=fun b=>q2.ltb;have v1o:=q2.ok;rw[ab IY rfl];simp only[go_sem,d1,d2,p1,p2,hE,r1,v1t,v1l,v1o]
end
def AM.go (s:AM×Int) (f:AM→AM×Int):AM×Int:=if s.2=0 then f s.1 else s
theorem cD {s:AM×Int}{f:AM→AM×Int}(h:s.2≠0):AM.go s f=s:=if_neg h
theorem jD {s:AM×Int}{f:AM→AM×Int}(h:s.2=0):AM.go s f=f s.1:=if_pos h
def AM.put8 (M:AM) (at':Int) (l:List Int):AM×Int:=if(M.layFrom at' l 0 8).2≠0 then M.layFrom at' l 0 8 else(M.layFrom at' l 0 8).1.flush 0 at'
def mD (at':Int) (l:List Int):AM×Int→Nat→Nat→AM×Int
 |s,_,0=>s
 |s,j,n+1=>mD at' l (AM.go s fun M=>M.store at' j (l.getD j 0)) (j+1) n
theorem yG {at':Int}{l:List Int}:∀(n j:Nat) {s:AM×Int},s.2≠0→mD at' l s j n=s
 |0,_,_,_=>rfl
 |n+1,j,s,h=>by rw[mD,cD h,yG n (j+1) h]
theorem Fx {at':Int}{l:List Int}:∀(n j:Nat) {s:AM×Int},s.2=0→mD at' l s j n=s.1.layFrom at' l j n
 |0,_,s,h=>by show s=(s.1,0);rw[←h]
 |n+1,j,s,h=>by
  rw[mD,jD h,AM.layFrom];by_cases c:(s.1.store at' j (l.getD j 0)).2=0
  ·rw[if_neg fun hh=>hh c,Fx n (j+1) c]
  ·rw[if_pos c,yG n (j+1) c]
theorem NC (s:AM×Int) (at':Int) (l:List Int):AM.go (mD at' l s 0 8) (fun M=>M.flush 0 at')=AM.go s fun M=>M.put8 at' l:=by
 by_cases h:s.2=0
 ·rw[Fx 8 0 h,jD h];unfold AM.put8;by_cases c:(s.1.layFrom at' l 0 8).2=0
  ·rw[jD c,if_neg fun hh=>hh c]
  ·rw[cD c,if_pos c]
 ·rw[yG 8 0 h,cD h,cD h]
abbrev wtV (m:Nat) (at' e:Int):V:= .agg 67 [.ptr (.hp m) [] 59,.int .i64 at',.int .i64 e]
section
variable {m : Nat} {F : Ft}
theorem qN {K hp:List Blk}{p:Nat}{at':Int}{s:AM×Int}(hw:K[p]?=some (.rw (wtV m at' s.2))) (h:aI hp F m s.1) {f:Nat}{caps:List V}(g:AM→AM×Int)
 (hf:s.2=0→∃hp' F',rf D f caps ⟨K,hp⟩=some (.int .i64 (g s.1).2,⟨K,hp'⟩)∧aI hp' F' m (g s.1).1∧Chg hp hp' F F'):
 ∃hp' F',rf D lP [.ptr (.loc p) [] 67,.fn f caps] ⟨K,hp⟩=some (.tup [],⟨K.set p (.rw (wtV m at' (AM.go s g).2)),hp'⟩)∧aI hp' F' m (AM.go s g).1∧Chg hp hp' F F':=by
 by_cases he:s.2=0
 ·obtain⟨hp',F',e1,e2,e3⟩:=hf he;rw[jD he];refine⟨hp',F',?_,e2,e3⟩;rw[he]at hw;have hkl:=aj hw;generalize(g s.1).2=e at*;rw[ab qk rfl];simp only[go_sem,hw,e1];rw[if_pos (by simp),List.take_of_length_le (by simp)]
 ·rw[cD he];refine⟨hp,F,?_,h,.refl _ _⟩;rw[dD hw,ab qk rfl];simp only[go_sem,hw,he]
theorem Ug {K hp hp':List Blk}{p:Nat}{at' e:Int}(hw:K[p]?=some (.rw (wtV m at' e))) (ln:V) (i v x r:Int)
 (hS:rf D gp [.ptr (.hp m) [] 59,.int .i64 x,.int .i64 i,.int .u64 v] ⟨K++[.rw (.ptr (.loc p) [] 67),.rw ln,.rw (.int .i64 x),.rw (.int .i64 i),.rw (.int .u64 v)],hp⟩=some (.int .i64 r,⟨K++[.rw (.ptr (.loc p) [] 67),.rw ln,.rw (.int .i64 x),.rw (.int .i64 i),.rw (.int .u64 v)],hp'⟩)):
 rf D gN [.ptr (.loc K.length) [] 1,.ptr (.loc (K.length+2)) [] 10,.ptr (.loc (K.length+3)) [] 10,.ptr (.loc (K.length+4)) [] 18] ⟨K++[.rw (.ptr (.loc p) [] 67),.rw ln,.rw (.int .i64 x),.rw (.int .i64 i),.rw (.int .u64 v)],hp⟩=
  some (.int .i64 r,⟨K++[.rw (.ptr (.loc p) [] 67),.rw ln,.rw (.int .i64 x),.rw (.int .i64 i),.rw (.int .u64 v)],hp'⟩):=by
 have hpl:=aj hw;have hg:∀X,(K++X)[p]?=some (.rw (wtV m at' e)):=fun X=>by rw[List.getElem?_append_left hpl];exact hw
 rw[ab vY rfl];simp only[go_sem,hg,hS]
theorem Tv {K hp hp':List Blk}{p:Nat}{at' e:Int}(hw:K[p]?=some (.rw (wtV m at' e))) (ln:V) (x r:Int)
 (hS:rf D gD [.ptr (.hp m) [] 59,.int .i64 0,.int .i64 x] ⟨K++[.rw (.ptr (.loc p) [] 67),.rw ln,.rw (.int .i64 x)],hp⟩=some (.int .i64 r,⟨K++[.rw (.ptr (.loc p) [] 67),.rw ln,.rw (.int .i64 x)],hp'⟩)):
 rf D gO [.ptr (.loc K.length) [] 1,.ptr (.loc (K.length+2)) [] 10] ⟨K++[.rw (.ptr (.loc p) [] 67),.rw ln,.rw (.int .i64 x)],hp⟩=
  some (.int .i64 r,⟨K++[.rw (.ptr (.loc p) [] 67),.rw ln,.rw (.int .i64 x)],hp'⟩):=by
 have hpl:=aj hw;have hg:∀X,(K++X)[p]?=some (.rw (wtV m at' e)):=fun X=>by rw[List.getElem?_append_left hpl];exact hw
 rw[ab vG rfl];simp only[go_sem,hg,hS]
theorem Gz {p:Nat}{at':Int}{l:List Int}(hl:l.length=8) {nK:Nat}:∀(n j:Nat) {K hp:List Blk}{F:Ft}{s:AM×Int},j+n=8→K.length=nK→K[p]?=some (.rw (wtV m at' s.2))→aI hp F m s.1→s.1.count+n<1000000→
 ∃hp' F',rc D nK (.loop [2,5,12,13] gG) [(2,.ptr (.loc nK) [] 1),(5,.ptr (.loc (nK+2)) [] 10),(12,lnV l),(13,.int .i64 j)] ⟨K++[.rw (.ptr (.loc p) [] 67),.rw (lnV l),.rw (.int .i64 at')],hp⟩=
  some (.exit 0,[(2,.ptr (.loc nK) [] 1),(5,.ptr (.loc (nK+2)) [] 10),(12,lnV l),(13,.int .i64 8),(14,.bool false)],⟨K.set p (.rw (wtV m at' (mD at' l s j n).2))++[.rw (.ptr (.loc p) [] 67),.rw (lnV l),.rw (.int .i64 at')],hp'⟩)∧
  aI hp' F' m (mD at' l s j n).1∧Chg hp hp' F F'
 |0,j,K,hp,F,s,hj,hk,hw,h,hc=>by
  have:j=8:=by omega
  subst this;subst hk;refine⟨hp,F,?_,h,.refl _ _⟩;rw[mD,dD hw,aa];simp only[lnV];simp only[go_sem,gG]
 |n+1,j,K,hp,F,s,hj,hk,hw,h,hc=>by
  subst hk;have hpl:=aj hw;let X:List Blk:=[.rw (.ptr (.loc p) [] 67),.rw (lnV l),.rw (.int .i64 at'),.rw (.int .i64 j),.rw (.int .u64 (l.getD j 0))];obtain⟨hp1,F1,e1,e2,e3⟩:=qN (K:=K++X) (p:=p) (at':=at') (s:=s) (by rw[List.getElem?_append_left hpl];exact hw) h (f:=gN) (caps:=[.ptr (.loc K.length) [] 1,.ptr (.loc (K.length+2)) [] 10,.ptr (.loc (K.length+3)) [] 10,.ptr (.loc (K.length+4)) [] 18]) (fun M=>M.store at' j (l.getD j 0)) (fun _=>by obtain⟨hp',F',q1,q2,q3⟩:=iz h (by omega) at' j (l.getD j 0) (K++X);exact⟨hp',F',Ug hw (lnV l) j (l.getD j 0) at' _ q1,q2,q3⟩)
  have hcn:(AM.go s fun M=>M.store at' j (l.getD j 0)).1.count≤s.1.count+1:=by
   unfold AM.go;split
   ·exact AM.store_count
   ·omega
  rw[mD];generalize(AM.go s fun M=>M.store at' j (l.getD j 0))=s1 at*;rw[List.set_append_left _ _ hpl]at e1;generalize hK1:K.set p (.rw (wtV m at' s1.2))=K1 at*;have hl1:K1.length=K.length:=by rw[←hK1,List.length_set]
  obtain⟨hp2,F2,q1,q2,q3⟩:=Gz hl n (j+1) (K:=K1) (s:=s1) (by omega) hl1 (by rw[←hK1];exact List.getElem?_set_self hpl) e2 (by omega);refine⟨hp2,F2,?_,q2,e3.trans q3⟩;rw[←hK1,List.set_set]at q1;rw[←q1,aa,hK1];have d1:(j:Int)<8:=by omega
  have d2:(0:Int)≤j:=by omega
  have d4:IntKind.i64.wrap ((j:Int)+1)=((j+1:Nat):Int):=ae (by omega) (by omega);have g:=am (f:=V.int .u64) (l:=l) (i:=j) (by omega) 0;clear q1 q2 q3 hK1 e2;simp only[X,lnV]at*;generalize l.getD j 0=wd at*;simp only[go_sem,gG,d1,d2,Zh,g,e1,d4];rw[←hl1];have z1:p<K1.length+3:=by omega
  have z2:K1.length<K1.length+3:=by omega
  have z3:K1.length+2<K1.length+3:=by omega
  simp only[go_sem,z1,z2,z3]
theorem DK {p:Nat}{at':Int}(ha:0≤at'∧at'≤100000) {l:List Int}(hl:l.length=8) {K hp:List Blk}{s:AM×Int}(hw:K[p]?=some (.rw (wtV m at' s.2))) (h:aI hp F m s.1) (hc:s.1.count+10<1000000):
 ∃hp' F',rf D mz [.ptr (.loc p) [] 67,lnV l] ⟨K,hp⟩=some (.int .i64 at',⟨K.set p (.rw (wtV m (at'+1) (AM.go s fun M=>M.put8 at' l).2)),hp'⟩)∧
  aI hp' F' m (AM.go s fun M=>M.put8 at' l).1∧Chg hp hp' F F':=by
 have hpl:=aj hw;obtain⟨hp1,F1,e1,e2,e3⟩:=Gz (at':=at') hl 8 0 rfl rfl hw h (by omega);rw[show((0:Nat):Int)=0 from rfl]at e1
 have hcn:∀(n j:Nat) (s:AM×Int),(mD at' l s j n).1.count≤s.1.count+n:=by
  intro n
  induction n with
  |zero=>intro j s;simp only[mD];omega
  |succ n ih=>
   intro j s;rw[mD];have h1:(AM.go s fun M=>M.store at' j (l.getD j 0)).1.count≤s.1.count+1:=by
    unfold AM.go;split
    ·exact AM.store_count
    ·omega
   have h2:=ih (j+1) (AM.go s fun M=>M.store at' j (l.getD j 0));omega
 have hcn:=hcn 8 0 s;rw[←NC];generalize mD at' l s 0 8=s1 at*;generalize hK1:K.set p (.rw (wtV m at' s1.2))=K1 at*;have hl1:K1.length=K.length:=by rw[←hK1,List.length_set]
 have hw1:K1[p]?=some (.rw (wtV m at' s1.2)):=by rw[←hK1];exact List.getElem?_set_self hpl
 let X:List Blk:=[.rw (.ptr (.loc p) [] 67),.rw (lnV l),.rw (.int .i64 at')];obtain⟨hp2,F2,q1,q2,q3⟩:=qN (K:=K1++X) (p:=p) (at':=at') (s:=s1) (by rw[List.getElem?_append_left (by omega)];exact hw1) e2 (f:=gO) (caps:=[.ptr (.loc K1.length) [] 1,.ptr (.loc (K1.length+2)) [] 10]) (fun M=>M.flush 0 at') (fun _=>by obtain⟨hp',q1,q2,q3⟩:=rJ e2 (by omega) 0 at' (K1++X);exact⟨hp',F1,Tv hw1 (lnV l) at' _ q1,q2,q3⟩)
 generalize(AM.go s1 fun M=>M.flush 0 at')=s2 at*;refine⟨hp2,F2,?_,q2,e3.trans q3⟩;rw[List.set_append_left _ _ (by omega)]at q1;have w1:IntKind.i64.wrap (at'+1)=at'+1:=ae (by omega) (by omega);have hgw:∀X,(K++X)[p]?=some (.rw (wtV m at' s.2)):=fun X=>by rw[List.getElem?_append_left hpl];exact hw
 have hK2:K1.set p (.rw (wtV m at' s2.2))=K.set p (.rw (wtV m at' s2.2)):=by rw[←hK1,List.set_set]
 rw[hl1,hK2]at q1;have hfin:K.set p (.rw (wtV m (at'+1) s2.2))=(K.set p (.rw (wtV m at' s2.2))).set p (.rw (wtV m (at'+1) s2.2)):=by rw[List.set_set]
 have hl2:(K.set p (.rw (wtV m at' s2.2))).length=K.length:=by rw[List.length_set]
 have hg2:∀X,(K.set p (.rw (wtV m at' s2.2))++X)[p]?=some (.rw (wtV m at' s2.2)):=fun X=>by rw[List.getElem?_append_left (by simpa using hpl)];exact List.getElem?_set_self hpl
 rw[hfin];generalize K.set p (.rw (wtV m at' s2.2))=K2 at*;have hs2:∀X b,(K2++X).set p b=K2.set p b++X:=fun X b=>List.set_append_left _ _ (by omega);have r0:∀a b c:Blk,(K1++[a,b,c])[K.length]?=some a:=fun a b c=>by rw[←hl1];simp
 have r1:∀a b c:Blk,(K2++[a,b,c])[K.length]?=some a:=fun a b c=>by rw[←hl2];simp
 have r2:∀(x a b c:Blk),(K2.set p x++[a,b,c])[K.length+2]?=some c:=fun x a b c=>by rw[←hl2,←List.length_set (as:=K2) (i:=p) (a:=x)];simp
 have r3:∀(x a b c:Blk),List.take K.length (K2.set p x++[a,b,c])=K2.set p x:=fun x a b c=>List.take_left' (by rw[List.length_set,hl2]);clear e2 q2 hw h;simp only[X,lnV]at*;rw[ab ye rfl];simp only[go_sem,hgw,e1];simp only[go_sem,r0,r1,q1,hg2,hs2,w1,r2,r3];rw[if_pos (by rw[List.length_set,hl2];omega)]
end
def oOk (o:Obj):Bool:=(decide (0≤o.kind)&&decide (o.kind≤4))&&((decide (0≤o.ver)&&decide (o.ver≤16777215))&& !(decide (o.kind=0)&& !decide (o.l=zl)))
def bT:List Obj→Nat
 |[]=>0
 |o::r=>(if o.kind=0 then 0 else 1)+bT r
theorem DH:∀l,bT l≤l.length
 |[]=>Nat.le_refl _
 |o::r=>by have:=DH r;simp only[bT,List.length_cons];split<;>omega
def noO:Obj:=⟨0,0,zl⟩
theorem Dh {o:Obj}:oOk o=true↔(0≤o.kind∧o.kind≤4)∧(0≤o.ver∧o.ver≤16777215)∧(o.kind=0→o.l=zl):=by
 unfold oOk;simp only[Zj,Zi,Bool.not_eq_true',Bool.and_eq_false_iff,decide_eq_false_iff_not];constructor
 ·rintro⟨h1,h2,h3⟩;refine⟨h1,h2,fun hk=> ?_⟩;rcases h3 with h3|h3
  ·exact absurd hk h3
  ·simpa using h3
 ·rintro⟨h1,h2,h3⟩;refine⟨h1,h2,?_⟩;by_cases hk:o.kind=0
  ·right;simp[h3 hk]
  ·exact .inl hk
theorem Bu {L hp:List Blk}{lv:V}{l:List Obj}(hlt:lv.locLt L.length=true) (hrs:RS ⟨L,hp⟩ 26 lv (l.map Obj.v)) (h8:∀o∈l,o.l.length=8) (hmax:l.length<1000000000):∀(n i:Nat) {k:Nat},i+n=l.length→k≤i→
 ∃r,rc D L.length (.loop [0,4,7,8,9] bZ) [(0,lv),(4,.int .i64 k),(7,lv),(8,.int .i64 l.length),(9,.int .i64 i)] ⟨L,hp⟩=some r∧
  (((l.drop i).all oOk=true∧r=(.exit 0,[(0,lv),(4,.int .i64 (k+bT (l.drop i):Nat)),(7,lv),(8,.int .i64 l.length),(9,.int .i64 l.length),(10,.bool false)],⟨L,hp⟩))∨
   ((l.drop i).all oOk=false∧∃X,r=(.ret,[(2,.int .i64 0),(3,.bool false)],⟨L++[X],hp⟩)))
 |0,i,k,hi,hk=>by
  have:i=l.length:=by omega
  subst this;refine⟨_,?_,.inl ⟨by rw[List.drop_length];rfl,rfl⟩⟩;have d1:¬(l.length:Int)<l.length:=by omega
  rw[List.drop_length,aa];simp only[bT,Nat.add_zero];simp only[go_sem,bZ,d1]
 |n+1,i,k,hi,hk=>by
  have hil:i<l.length:=by omega
  have d1:(i:Int)<l.length:=by omega
  have d4:IntKind.i64.wrap ((i:Int)+1)=((i+1:Nat):Int):=ae (by omega) (by omega);have d5:IntKind.i64.wrap ((k:Int)+1)=((k+1:Nat):Int):=ae (by omega) (by omega);have hg:=am (f:=Obj.v) (l:=l) (i:=i) hil noO;have hld:ldv ⟨L,hp⟩ 26 (elq lv i [] 26)=V.at [] (l.getD i noO).v:=hrs.ldq hg;have hsad:=hrs.sadq hg (k:= .i64);have hdrop:l.drop i=l.getD i noO::l.drop (i+1):=by rw[List.getD_eq_getElem?_getD,List.getElem?_eq_getElem hil];exact List.drop_eq_getElem_cons hil
  have hok:=Dh (o:=l.getD i noO);have hl8:(l.getD i noO).l.length=8:=h8 _ (by rw[List.getD_eq_getElem?_getD,List.getElem?_eq_getElem hil];exact List.getElem_mem hil);rw[hdrop,List.all_cons];simp only[bT];generalize hO:l.getD i noO=o at*;have hve:=vS (k:= .u64) (A:=o.l) (B:=zl) (by rw[hl8];rfl);have hzz:zl.map (V.int .u64)=List.replicate 8 (.int .u64 0):=rfl;rw[hzz]at hve;obtain⟨kd,vr,ln⟩:=o;simp only[Obj.v]at*;by_cases hv:oOk ⟨kd,vr,ln⟩=true
  ·obtain⟨h1,h2,h3⟩:=hok.1 hv;have a1:¬kd<0:=by omega
   have a2:¬kd>4:=by omega
   have a3:¬vr<0:=by omega
   have a4:¬vr>16777215:=by omega
   rw[hv,Bool.true_and];by_cases hk0:kd=0
   ·have hz:decide (ln=zl)=true:=decide_eq_true (h3 hk0);rw[hz]at hve;obtain⟨r,q1,q2⟩:=Bu hlt hrs h8 hmax n (i+1) (k:=k) (by omega) (by omega);refine⟨r,?_,?_⟩
    ·rw[←q1,aa];clear q1 q2 hok hO hdrop hg hrs h3 hz hv;subst hk0;simp only[go_sem,bZ,d1,hsad,hld,a3,a4,hve,d4,hlt]
    ·rw[if_pos hk0,Nat.zero_add];exact q2
   ·obtain⟨r,q1,q2⟩:=Bu hlt hrs h8 hmax n (i+1) (k:=k+1) (by omega) (by omega);refine⟨r,?_,?_⟩
    ·rw[←q1,aa];clear q1 q2 hok hO hdrop hg hrs h3 hv;simp only[go_sem,bZ,d1,hsad,hld,a1,a2,a3,a4,hk0,d4,d5,hlt]
    ·rw[if_neg hk0,←Nat.add_assoc];exact q2
  ·have hv':oOk ⟨kd,vr,ln⟩=false:=by simpa using hv
   rw[hv',Bool.false_and];refine⟨_,?_,.inr ⟨rfl,.rw (.agg 26 [.int .i64 kd,.int .i64 vr,.agg 24 (ln.map (.int .u64))]),rfl⟩⟩;rw[aa];clear hO hdrop hg hrs;by_cases a1:kd<0
   ·simp only[go_sem,bZ,d1,hsad,hld,a1]
   ·by_cases a2:kd>4
    ·simp only[go_sem,bZ,d1,hsad,hld,a1,a2]
    ·by_cases a3:vr<0
     ·simp only[go_sem,bZ,d1,hsad,hld,a1,a2,a3]
     ·by_cases a4:vr>16777215
      ·simp only[go_sem,bZ,d1,hsad,hld,a1,a2,a3,a4]
      ·have hk0:kd=0:=by
        by_cases e:kd=0
        ·exact e
        ·exact absurd (hok.2 ⟨by omega,by omega,fun h=>absurd h e⟩) hv
       have hz:decide (ln=zl)=false:=decide_eq_false fun e=>hv (hok.2 ⟨by omega,by omega,fun _=>e⟩);rw[hz]at hve;subst hk0;simp only[go_sem,bZ,d1,hsad,hld,a3,a4,hve]
theorem PB {L hp:List Blk}{lv:V}{l:List Obj}(hlt:lv.locLt L.length=true) (hrs:RS ⟨L,hp⟩ 26 lv (l.map Obj.v)) (h8:∀o∈l,o.l.length=8) (hmax:l.length<1000000000):
 rf D qY [lv] ⟨L,hp⟩=some (if l.all oOk=true then .tup [.int .i64 (bT l),.bool (decide (l.length≤49))]else .tup [.int .i64 0,.bool false],⟨L,hp⟩):=by
 have hsl:V.slen false lv=some l.length:=by
  have:=hrs.slen
  rwa [List.length_map]at this
 obtain⟨r,q1,q2⟩:=Bu hlt hrs h8 hmax l.length 0 (k:=0) (by omega) (Nat.le_refl _);rw[show((0:Nat):Int)=0 from rfl]at q1
 rw[List.drop_zero]at q2;rw[ab DG rfl];rcases q2 with⟨c,rfl⟩|⟨c,X,rfl⟩
 ·rw[c,if_pos rfl];rw[Nat.zero_add]at q1;generalize bT l=z at*;by_cases hl:l.length≤49
  ·have d1:(l.length:Int)≤49:=by omega
   rw[decide_eq_true hl];simp only[go_sem,hsl,q1,d1]
  ·have d1:¬(l.length:Int)≤49:=by omega
   rw[decide_eq_false hl];simp only[go_sem,hsl,q1,d1]
 ·rw[c,if_neg (by simp)];simp only[go_sem,hsl,q1]
def AM.wipe:AM×Int→Nat→Nat→AM×Int
 |s,_,0=>s
 |s,i,n+1=>AM.wipe (AM.go (AM.go s fun M=>M.store i 7 0) fun M=>M.flush 0 i) (i+1) n
def cF:AM×Int→Nat→(Nat→Ent)→Nat→List Obj→(AM×Int)×Nat×(Nat→Ent)
 |s,at',t,_,[]=>(s,at',t)
 |s,at',t,i,o::r=>if o.kind=0 then cF s at' (updE t i ⟨o.kind,o.ver,0⟩) (i+1) r else cF (AM.go s fun M=>M.put8 at' o.l) (at'+1) (updE t i ⟨o.kind,o.ver,at'⟩) (i+1) r
def fF (t:Nat→Ent):AM×Int→Nat→Nat→Nat→AM×Int
 |s,_,_,0=>s
 |s,at',k,n+1=>fF t (AM.go s fun M=>M.put8 at' (bj t k)) (at'+1) (k+1) n
theorem lq {M:AM}{at':Int}{l:List Int}:(M.put8 at' l).1.count≤M.count+9:=by have h1:=AM.layFrom_count (M:=M) (at':=at') (l:=l) (n:=8) (j:=0);have h2:=(bz (M:=(M.layFrom at' l 0 8).1) (c:=0) (i:=at')).1;unfold AM.put8;split<;>omega
theorem jN {s:AM×Int}{f:AM→AM×Int}{k:Nat}(h:(f s.1).1.count≤s.1.count+k):(AM.go s f).1.count≤s.1.count+k:=by
 unfold AM.go;split
 ·exact h
 ·exact Int.le_add_of_nonneg_right (Int.natCast_nonneg k)
theorem Th {m:Nat}{K hp hp':List Blk}{a b:Nat}{i r:Int}(h1:K[a]?=some (.rw (.ptr (.hp m) [] 59))) (h2:K[b]?=some (.rw (.int .i64 i)))
 (hS:rf D gp [.ptr (.hp m) [] 59,.int .i64 i,.int .i64 7,.int .u64 0] ⟨K,hp⟩=some (.int .i64 r,⟨K,hp'⟩)):rf D j0 [.ptr (.loc a) [] 1,.ptr (.loc b) [] 10] ⟨K,hp⟩=some (.int .i64 r,⟨K,hp'⟩):=by
 rw[ab Af rfl];simp only[go_sem,h1,h2,hS]
theorem S8 {m:Nat}{K hp hp':List Blk}{a b:Nat}{i r:Int}(h1:K[a]?=some (.rw (.ptr (.hp m) [] 59))) (h2:K[b]?=some (.rw (.int .i64 i)))
 (hS:rf D gD [.ptr (.hp m) [] 59,.int .i64 0,.int .i64 i] ⟨K,hp⟩=some (.int .i64 r,⟨K,hp'⟩)):rf D j7 [.ptr (.loc a) [] 1,.ptr (.loc b) [] 10] ⟨K,hp⟩=some (.int .i64 r,⟨K,hp'⟩):=by
 rw[ab zX rfl];simp only[go_sem,h1,h2,hS]
theorem R2 {m:Nat}{K hp hp':List Blk}{a:Nat}{r:Int}(h1:K[a]?=some (.rw (.ptr (.hp m) [] 59)))
 (hS:rf D gk [.ptr (.hp m) [] 59,.int .i64 0] ⟨K,hp⟩=some (.int .i64 r,⟨K,hp'⟩)):rf D j6 [.ptr (.loc a) [] 1] ⟨K,hp⟩=some (.int .i64 r,⟨K,hp'⟩):=by
 rw[ab z8 rfl];simp only[go_sem,h1,hS]
theorem SG {m:Nat}{K hp hp':List Blk}{a:Nat}{r:Int}(h1:K[a]?=some (.rw (.ptr (.hp m) [] 59)))
 (hS:rf D gk [.ptr (.hp m) [] 59,.int .i64 0] ⟨K,hp⟩=some (.int .i64 r,⟨K,hp'⟩)):rf D j5 [.ptr (.loc a) [] 1] ⟨K,hp⟩=some (.int .i64 r,⟨K,hp'⟩):=by
 rw[ab Ad rfl];simp only[go_sem,h1,hS]
theorem Sr {m:Nat}{K hp hp':List Blk}{a b c:Nat}{root cores r:Int}(h1:K[a]?=some (.rw (.ptr (.hp m) [] 59))) (h2:K[b]?=some (.rw (.int .i64 root))) (h3:K[c]?=some (.rw (.int .i64 cores)))
 (hS:rf D oG [.ptr (.hp m) [] 59,.int .i64 0,.int .i64 0,(⟨1,root,0,cores⟩:Sup).v] ⟨K,hp⟩=some (.int .i64 r,⟨K,hp'⟩)):rf D j4 [.ptr (.loc a) [] 1,.ptr (.loc b) [] 10,.ptr (.loc c) [] 10] ⟨K,hp⟩=some (.int .i64 r,⟨K,hp'⟩):=by
 simp only[Sup.v]at hS;rw[ab Ac rfl];simp only[go_sem,h1,h2,h3,hS]
section
variable {m : Nat}
theorem D2 {L:List Blk}{lv:V}(hlv:lv.locLt L.length=true) (cores:Int) {at0:Nat}(ha:at0≤1000):∀(n i:Nat) {hp:List Blk}{F:Ft}{s:AM×Int},i+n=at0→aI hp F m s.1→s.1.count+2*n<1000000→
 ∃hp' F',rc D L.length (.loop [2,3,4,9,55,56] jZ) [(2,lv),(3,.ptr (.loc L.length) [] 1),(4,.ptr (.loc (L.length+1)) [] 10),(9,.ptr (.loc (L.length+2)) [] 67),(55,.int .i64 at0),(56,.int .i64 i)] ⟨L++[.rw (.ptr (.hp m) [] 59),.rw (.int .i64 cores),.rw (wtV m at0 s.2)],hp⟩=
  some (.exit 0,[(2,lv),(3,.ptr (.loc L.length) [] 1),(4,.ptr (.loc (L.length+1)) [] 10),(9,.ptr (.loc (L.length+2)) [] 67),(55,.int .i64 at0),(56,.int .i64 at0),(57,.bool false)],⟨L++[.rw (.ptr (.hp m) [] 59),.rw (.int .i64 cores),.rw (wtV m at0 (AM.wipe s i n).2)],hp'⟩)∧
  aI hp' F' m (AM.wipe s i n).1∧Chg hp hp' F F'∧(AM.wipe s i n).1.count≤s.1.count+2*n
 |0,i,hp,F,s,hi,h,hc=>by
  have:i=at0:=by omega
  subst this;refine⟨hp,F,?_,h,.refl _ _,by simp only[AM.wipe];omega⟩;have d1:¬(i:Int)<i:=by omega
  rw[AM.wipe,aa];simp only[go_sem,jZ,d1]
 |n+1,i,hp,F,s,hi,h,hc=>by
  have d1:(i:Int)<at0:=by omega
  have d4:IntKind.i64.wrap ((i:Int)+1)=((i+1:Nat):Int):=ae (by omega) (by omega);have hlv1:∀k,V.locLt (L.length+k) lv=true:=fun k=>bE (Nat.le_add_right _ _) hlv;have c1:(AM.go s fun M=>M.store i 7 0).1.count≤s.1.count+(1:Nat):=jN (by have:=AM.store_count (M:=s.1) (i:=(i:Int)) (q:=7) (v:=0);omega);have c2:(AM.go (AM.go s fun M=>M.store i 7 0) fun M=>M.flush 0 i).1.count≤(AM.go s fun M=>M.store i 7 0).1.count+(1:Nat):=jN (by have:=(bz (M:=(AM.go s fun M=>M.store i 7 0).1) (c:=0) (i:=(i:Int))).1;omega);obtain⟨hp1,F1,e1,e2,e3⟩:=qN (m:=m) (K:=L++[.rw (.ptr (.hp m) [] 59),.rw (.int .i64 cores),.rw (wtV m at0 s.2),.rw (.int .i64 i)]) (p:=L.length+2) (at':=at0) (s:=s) (by simp) h (f:=j0) (caps:=[.ptr (.loc L.length) [] 1,.ptr (.loc (L.length+3)) [] 10]) (fun M=>M.store i 7 0) (fun _=>by obtain⟨hp',F',q1,q2,q3⟩:=iz h (by omega) i 7 0 (L++[.rw (.ptr (.hp m) [] 59),.rw (.int .i64 cores),.rw (wtV m at0 s.2),.rw (.int .i64 i)]);exact⟨hp',F',Th (m:=m) (i:=i) (by simp) (by simp) q1,q2,q3⟩)
  rw[AM.wipe];generalize(AM.go s fun M=>M.store i 7 0)=s1 at*;obtain⟨hp2,F2,f1,f2,f3⟩:=qN (m:=m) (K:=L++[.rw (.ptr (.hp m) [] 59),.rw (.int .i64 cores),.rw (wtV m at0 s1.2),.rw (.int .i64 i)]) (p:=L.length+2) (at':=at0) (s:=s1) (by simp) e2 (f:=j7) (caps:=[.ptr (.loc L.length) [] 1,.ptr (.loc (L.length+3)) [] 10]) (fun M=>M.flush 0 i) (fun _=>by obtain⟨hp',q1,q2,q3⟩:=rJ e2 (by omega) 0 i (L++[.rw (.ptr (.hp m) [] 59),.rw (.int .i64 cores),.rw (wtV m at0 s1.2),.rw (.int .i64 i)]);exact⟨hp',F1,S8 (m:=m) (i:=i) (by simp) (by simp) q1,q2,q3⟩)
  generalize(AM.go s1 fun M=>M.flush 0 i)=s2 at*;obtain⟨hp3,F3,q1,q2,q3,q4⟩:=D2 hlv cores ha n (i+1) (s:=s2) (by omega) f2 (by omega);have hset:∀(a b c d e:Blk),(L++[a,b,c,d]).set (L.length+2) e=L++[a,b,e,d]:=fun a b c d e=>by simp
  rw[hset]at e1 f1;refine⟨hp3,F3,?_,q2,(e3.trans f3).trans q3,by omega⟩;rw[←q1,aa];have z0:L.length<L.length+3:=by omega
  have z1:L.length+1<L.length+3:=by omega
  have z2:L.length+2<L.length+3:=by omega
  clear q1 q2 q3 q4 e2 f2;simp only[go_sem,jZ,d1,e1,f1,d4,hlv,hlv1,z0,z1,z2]
theorem Bd {L:List Blk}{lv:V}(hlv:lv.locLt L.length=true) {l:List Obj}{hp0:List Blk}{F0:Ft}(hrs:∀(X hp':List Blk) (F':Ft),Chg hp0 hp' F0 F'→RS ⟨L++X,hp'⟩ 26 lv (l.map Obj.v)) (h8:∀o∈l,o.l.length=8) (h49:l.length≤49) (cores:Int):
 ∀(n i:Nat) {at':Nat}{t:Nat→Ent}{hp:List Blk}{F:Ft}{s:AM×Int},i+n=l.length→at'+n≤2000→aI hp F m s.1→s.1.count+10*n+10<1000000→Chg hp0 hp F0 F→
 ∃hp' F',rc D L.length (.loop [3,4,9,11,69,70,71] hJ) [(3,.ptr (.loc L.length) [] 1),(4,.ptr (.loc (L.length+1)) [] 10),(9,.ptr (.loc (L.length+2)) [] 67),(11,.ptr (.loc (L.length+3)) [] 48),(69,lv),(70,.int .i64 l.length),(71,.int .i64 i)] ⟨L++[.rw (.ptr (.hp m) [] 59),.rw (.int .i64 cores),.rw (wtV m at' s.2),.rw (ac t)],hp⟩=
  some (.exit 2,[(3,.ptr (.loc L.length) [] 1),(4,.ptr (.loc (L.length+1)) [] 10),(9,.ptr (.loc (L.length+2)) [] 67),(11,.ptr (.loc (L.length+3)) [] 48),(69,lv),(70,.int .i64 l.length),(71,.int .i64 l.length),(72,.bool false)],
   ⟨L++[.rw (.ptr (.hp m) [] 59),.rw (.int .i64 cores),.rw (wtV m (cF s at' t i (l.drop i)).2.1 (cF s at' t i (l.drop i)).1.2),.rw (ac (cF s at' t i (l.drop i)).2.2)],hp'⟩)∧
  aI hp' F' m (cF s at' t i (l.drop i)).1.1∧Chg hp0 hp' F0 F'∧(cF s at' t i (l.drop i)).1.1.count≤s.1.count+9*n
 |0,i,at',t,hp,F,s,hi,hat,h,hc,hch=>by
  have:i=l.length:=by omega
  subst this;refine⟨hp,F,?_,by rw[List.drop_length];exact h,hch,by rw[List.drop_length];simp only[cF];omega⟩;have d1:¬(l.length:Int)<l.length:=by omega
  rw[List.drop_length];simp only[cF];rw[aa];simp only[go_sem,hJ,d1]
 |n+1,i,at',t,hp,F,s,hi,hat,h,hc,hch=>by
  have hil:i<l.length:=by omega
  have hi49:i<49:=by omega
  have d1:(i:Int)<l.length:=by omega
  have d2:(0:Int)≤i:=by omega
  have d3:(i:Int)<49:=by omega
  have d4:IntKind.i64.wrap ((i:Int)+1)=((i+1:Nat):Int):=ae (by omega) (by omega);have hg:=am (f:=Obj.v) (l:=l) (i:=i) hil noO;have hld:∀X,ldv ⟨L++X,hp⟩ 26 (elq lv i [] 26)=V.at [] (l.getD i noO).v:=fun X=>(hrs X hp F hch).ldq hg;have hsad:=(hrs [] hp F hch).sadq hg (k:= .i64);have hdrop:l.drop i=l.getD i noO::l.drop (i+1):=by rw[List.getD_eq_getElem?_getD,List.getElem?_eq_getElem hil];exact List.drop_eq_getElem_cons hil
  have hl8:(l.getD i noO).l.length=8:=h8 _ (by rw[List.getD_eq_getElem?_getD,List.getElem?_eq_getElem hil];exact List.getElem_mem hil);have hlv1:∀k,V.locLt (L.length+k) lv=true:=fun k=>bE (Nat.le_add_right _ _) hlv;have z0:L.length<L.length+4:=by omega
  have z1:L.length+1<L.length+4:=by omega
  have z2:L.length+2<L.length+4:=by omega
  have z3:L.length+3<L.length+4:=by omega
  have gt:=av (f:=fun j=>(t j).v) hi49;rw[hdrop];simp only[cF];generalize l.getD i noO=o at*;obtain⟨kd,vr,ln⟩:=o;simp only[Obj.v]at*;by_cases hk:kd=0
  ·rw[if_pos hk];obtain⟨hp2,F2,q1,q2,q3,q4⟩:=Bd hlv hrs h8 h49 cores n (i+1) (at':=at') (t:=updE t i ⟨kd,vr,0⟩) (by omega) (by omega) h (by omega) hch;refine⟨hp2,F2,?_,q2,q3,by omega⟩;rw[←q1,aa];have hu:=tM (t:=t) (i:=i) (e:=⟨kd,vr,0⟩);simp only[ac];rw[←hu];clear q1 q2 q3 q4 hu hdrop hg hrs;simp only[Ent.v]at*;generalize tab 49 (fun j=>V.agg 42 [.int .i64 (t j).kind,.int .i64 (t j).ver,.int .i64 (t j).line])=T at*;simp only[go_sem,hJ,d1,hsad,hld];simp only[go_sem,d2,d3,d4,Zh,gt,hk,z0,z1,z2,z3,hlv1]
  ·rw[if_neg hk];let X:List Blk:=[.rw (.ptr (.hp m) [] 59),.rw (.int .i64 cores),.rw (wtV m at' s.2),.rw (ac (updE t i ⟨kd,vr,0⟩)),.rw (.agg 26 [.int .i64 kd,.int .i64 vr,.agg 24 (ln.map (.int .u64))])];obtain⟨hp1,F1,e1,e2,e3⟩:=DK (m:=m) (p:=L.length+2) (at':=at') (by omega) hl8 (K:=L++X) (s:=s) (by simp[X]) h (by omega);have c1:(AM.go s fun M=>M.put8 at' ln).1.count≤s.1.count+(9:Nat):=jN (by have:=lq (M:=s.1) (at':=at') (l:=ln);omega);generalize(AM.go s fun M=>M.put8 at' ln)=s1 at*;obtain⟨hp2,F2,q1,q2,q3,q4⟩:=Bd hlv hrs h8 h49 cores n (i+1) (at':=at'+1) (t:=updE t i ⟨kd,vr,at'⟩) (s:=s1) (by omega) (by omega) e2 (by omega) (hch.trans e3);refine⟨hp2,F2,?_,q2,q3,by omega⟩;have hset:∀(a b c d e f:Blk),(L++[a,b,c,d,e]).set (L.length+2) f=L++[a,b,f,d,e]:=fun a b c d e f=>by simp
   simp only[X]at e1;rw[hset]at e1;rw[←q1,aa];have hu:=tM (t:=t) (i:=i) (e:=⟨kd,vr,0⟩);have hu2:(tab 49 fun j=>(updE t i ⟨kd,vr,0⟩ j).v).set i (Ent.v ⟨kd,vr,at'⟩)=tab 49 fun j=>(updE t i ⟨kd,vr,at'⟩ j).v:=by rw[←hu,List.set_set];exact tM
   have gt2:=av (f:=fun j=>(updE t i ⟨kd,vr,0⟩ j).v) hi49;rw[kX]at gt2;have hca:((at'+1:Nat):Int)=(at':Int)+1:=by omega
   simp only[ac]at*;rw[←hu2,hca];clear q1 q2 q3 q4 hu2 hdrop hg hrs e2 e3 hch h;rw[←hu]at e1 gt2⊢;clear hu;simp only[Ent.v,lnV]at*;generalize tab 49 (fun j=>V.agg 42 [.int .i64 (t j).kind,.int .i64 (t j).ver,.int .i64 (t j).line])=T at*;simp only[go_sem,hJ,d1,hsad,hld];simp only[go_sem,d2,d3,d4,Zh,gt,hk,z0,z1,z2,z3,hlv1,e1,gt2]
theorem B7 {L:List Blk}(cores:Int) (t:Nat→Ent) {a0:Nat}(ha0:a0≤2000):∀(n k:Nat) {at':Nat}{hp:List Blk}{F:Ft}{s:AM×Int},k+n=7→at'=a0+k→aI hp F m s.1→s.1.count+10*n+10<1000000→
 ∃hp' F',rc D L.length (.loop [3,4,9,11,14,94] jY) [(3,.ptr (.loc L.length) [] 1),(4,.ptr (.loc (L.length+1)) [] 10),(9,.ptr (.loc (L.length+2)) [] 67),(11,.ptr (.loc (L.length+3)) [] 48),(14,.ptr (.loc (L.length+4)) [] 60),(94,.int .i64 k)]
  ⟨L++[.rw (.ptr (.hp m) [] 59),.rw (.int .i64 cores),.rw (wtV m at' s.2),.rw (ac t),.rw (d7V (aG (fun j=>(a0:Int)+j) k))],hp⟩=
  some (.exit 4,[(3,.ptr (.loc L.length) [] 1),(4,.ptr (.loc (L.length+1)) [] 10),(9,.ptr (.loc (L.length+2)) [] 67),(11,.ptr (.loc (L.length+3)) [] 48),(14,.ptr (.loc (L.length+4)) [] 60),(94,.int .i64 7),(95,.bool false)],
   ⟨L++[.rw (.ptr (.hp m) [] 59),.rw (.int .i64 cores),.rw (wtV m (a0+7:Nat) (fF t s at' k n).2),.rw (ac t),.rw (d7V (aG (fun j=>(a0:Int)+j) 7))],hp'⟩)∧
  aI hp' F' m (fF t s at' k n).1∧Chg hp hp' F F'∧(fF t s at' k n).1.count≤s.1.count+9*n
 |0,k,at',hp,F,s,hi,hat,h,hc=>by
  have:k=7:=by omega
  subst this;subst hat;refine⟨hp,F,?_,h,.refl _ _,by simp only[fF];omega⟩;simp only[fF];rw[aa];simp only[go_sem,jY]
 |n+1,k,at',hp,F,s,hi,hat,h,hc=>by
  have hk7:k<7:=by omega
  have d1:(k:Int)<7:=by omega
  have d2:(0:Int)≤k:=by omega
  have d4:IntKind.i64.wrap ((k:Int)+1)=((k+1:Nat):Int):=ae (by omega) (by omega);have z0:L.length<L.length+5:=by omega
  have z1:L.length+1<L.length+5:=by omega
  have z2:L.length+2<L.length+5:=by omega
  have z3:L.length+3<L.length+5:=by omega
  have z4:L.length+4<L.length+5:=by omega
  obtain⟨le,hLf⟩:∃e:St→Int,∀s,rf D qb [ac t,.int .i64 k] s=some (.tup [lnV (bj t k),.int .i64 (e s)],s):=by refine⟨fun s=>Classical.choose (xL t hk7 s),fun s=>Classical.choose_spec (xL t hk7 s)⟩
  let X:List Blk:=[.rw (.ptr (.hp m) [] 59),.rw (.int .i64 cores),.rw (wtV m at' s.2),.rw (ac t),.rw (d7V (aG (fun j=>(a0:Int)+j) k)),.rw (lnV (bj t k))];obtain⟨hp1,F1,e1,e2,e3⟩:=DK (m:=m) (p:=L.length+2) (at':=at') (by omega) (px t k) (K:=L++X) (s:=s) (by simp[X]) h (by omega);have c1:(AM.go s fun M=>M.put8 at' (bj t k)).1.count≤s.1.count+(9:Nat):=jN (by have:=lq (M:=s.1) (at':=at') (l:=bj t k);omega);simp only[fF];generalize(AM.go s fun M=>M.put8 at' (bj t k))=s1 at*;obtain⟨hp2,F2,q1,q2,q3,q4⟩:=B7 cores t ha0 n (k+1) (at':=at'+1) (s:=s1) (by omega) (by omega) e2 (by omega);refine⟨hp2,F2,?_,q2,e3.trans q3,by omega⟩;have hset:∀(a b c d e f g:Blk),(L++[a,b,c,d,e,f]).set (L.length+2) g=L++[a,b,g,d,e,f]:=fun a b c d e f g=>by simp
  simp only[X]at e1;rw[hset]at e1;rw[←q1,aa];have hu:=uk (f:=fun j=>(a0:Int)+j) (n:=7) (i:=k);have gt:=av (f:=fun j=>V.int .i64 (aG (fun j=>(a0:Int)+j) k j)) hk7;have hca:((at'+1:Nat):Int)=(at':Int)+1:=by omega
  have hcb:(a0:Int)+(k:Int)=(at':Int):=by omega
  have tz:(lnV (bj t k)).tag=24:=rfl;have vz:∀b,V.locLt b (lnV (bj t k))=true:=fun b=>jq;have vt:∀b,V.locLt b (ac t)=true:=fun b=>fV;have tt:(ac t).tag=48:=rfl;rw[hca];clear q1 q2 q3 q4 e2 e3 h;simp only[d7V]at*;rw[←hu,hcb];clear hu;generalize lnV (bj t k)=Y at*;generalize ac t=TT at*;generalize tab 7 (fun j=>V.int .i64 (aG (fun j=>(a0:Int)+j) k j))=T at*;simp only[go_sem,jY,d1,hLf,tz,vz];simp only[go_sem,d2,d4,Zh,gt,z0,z1,z2,z3,z4,e1,vt]
end
def yq (M:AM) (cores:Int) (at0:Nat) (l:List Obj):AM×Int:=
 let s2:=AM.go (AM.wipe (M,0) 0 at0) fun M=>M.fence 0;let r:=cF s2 at0 (fun _=>an) 0 l;let s4:=fF r.2.2 r.1 r.2.1 0 7;let s5:=AM.go s4 fun M=>M.put8 (r.2.1+7:Nat) (aE fun j=>(r.2.1:Int)+j);let s6:=AM.go s5 fun M=>M.fence 0
 AM.go s6 fun M=>M.wrs 0 ⟨1,(r.2.1+7:Nat),0,cores⟩
def AM.fmt (M:AM) (cores:Int) (l:List Obj):AM×Int:=
 if l.all oOk=false∨49<l.length∨cores<1∨8<cores then(M,1)
 else if M.n<2+4*cores.toNat+bT l+8 then(M,10)
 else yq M cores (2+4*cores.toNat) l
theorem zH:∀(l:List Obj) (s:AM×Int) (a:Nat) (t:Nat→Ent) (i:Nat),(cF s a t i l).2.1=a+bT l
 |[],_,_,_,_=>rfl
 |o::r,s,a,t,i=>by
  simp only[cF,bT];split
  ·rw[zH r,Nat.zero_add]
  ·rw[zH r];omega
theorem EP {a:Int}:aE (aG (fun j=>a+j) 7)=aE fun j=>a+j:=by
 have e:∀j,j<7→aG (fun j=>a+j) 7 j=a+j:=fun j hj=>if_pos hj;have h1:cZ (aG (fun j=>a+j) 7) 0 7=cZ (fun j=>a+j) 0 7:=by
  unfold cZ;apply Bool.eq_iff_iff.2;simp only[List.all_eq_true,List.mem_range];constructor
  ·intro hh j hj;have:=hh j hj;rw[e (0+j) (by omega)]at this;exact this
  ·intro hh j hj;rw[e (0+j) (by omega)];exact hh j hj
 have h2:rlL (aG (fun j=>a+j) 7) 7=rlL (fun j=>a+j) 7:=by
  unfold rlL;apply List.map_congr_left;intro j _;split
  ·rename_i hj;rw[e j hj]
  ·rfl
 unfold aE;rw[h1,h2]
section
variable {m : Nat}
theorem D4 {L:List Blk}{lv:V}(hlv:lv.locLt L.length=true) {l:List Obj}{hp:List Blk}{F:Ft}{M:AM}(hrs:∀(X hp':List Blk) (F':Ft),Chg hp hp' F F'→RS ⟨L++X,hp'⟩ 26 lv (l.map Obj.v)) (h8:∀o∈l,o.l.length=8) (hmax:l.length<1000000000) (cores:Int) (h:aI hp F m M) (hc:M.count+2000<1000000):
 ∃hp' F',rf D pU [.ptr (.hp m) [] 59,.int .i64 cores,lv] ⟨L,hp⟩=some (.int .i64 (M.fmt cores l).2,⟨L,hp'⟩)∧aI hp' F' m (M.fmt cores l).1∧Chg hp hp' F F':=by
 have hlv1:∀k,V.locLt (L.length+k) lv=true:=fun k=>bE (Nat.le_add_right _ _) hlv;have hck:=PB (L:=L++[.rw (.ptr (.hp m) [] 59),.rw (.int .i64 cores)]) (by rw[List.length_append];exact hlv1 _) (hrs _ hp F (.refl _ _)) h8 hmax;have hsl:V.slen false lv=some l.length:=by
  have:=(hrs [] hp F (.refl _ _)).slen
  rwa [List.length_map]at this
 unfold AM.fmt;by_cases c0:l.all oOk=false∨49<l.length∨cores<1∨8<cores
 ·rw[if_pos c0];refine⟨hp,F,?_,h,.refl _ _⟩;clear hrs;by_cases b1:l.all oOk=true
  ·rw[if_pos b1]at hck;by_cases b2:l.length≤49
   ·rw[decide_eq_true b2]at hck;by_cases b3:cores<1
    ·rw[ab gK rfl];simp only[go_sem,hck,b3]
    ·have b4:cores>8:=by
      rcases c0 with c|c|c|c
      ·rw[b1]at c;cases c
      ·omega
      ·omega
      ·exact c
     rw[ab gK rfl];simp only[go_sem,hck,b3,b4]
   ·rw[decide_eq_false b2]at hck;rw[ab gK rfl];simp only[go_sem,hck]
  ·rw[if_neg b1]at hck;rw[ab gK rfl];simp only[go_sem,hck]
 ·rw[if_neg c0];have b1:l.all oOk=true:=by
   cases e:l.all oOk
   ·exact absurd (.inl e) c0
   ·rfl
  have b2:l.length≤49:=by have:=fun e=>c0 (.inr (.inl e));omega
  have b3:¬cores<1:=fun e=>c0 (.inr (.inr (.inl e)));have b4:¬cores>8:=fun e=>c0 (.inr (.inr (.inr e)));rw[if_pos b1,decide_eq_true b2]at hck;obtain⟨cn,rfl⟩:∃cn:Nat,cores=cn:=⟨cores.toNat,by omega⟩;rw[Zh];have hFr:=fun s=>qU (c:=cn) (by omega) s;rw[show(2:Int)+4*(cn:Int)=((2+4*cn:Nat):Int) by omega]at hFr;have hLn:=fun L=>rK h L;have hcl:=DH l;have w1:IntKind.i64.wrap (((2+4*cn:Nat):Int)+(bT l:Int))=((2+4*cn+bT l:Nat):Int):=by rw[ae (by omega) (by omega)];omega
  have w2:IntKind.i64.wrap (((2+4*cn+bT l:Nat):Int)+7)=((2+4*cn+bT l+7:Nat):Int):=by rw[ae (by omega) (by omega)];omega
  have w3:IntKind.i64.wrap (((2+4*cn+bT l+7:Nat):Int)+1)=((2+4*cn+bT l+8:Nat):Int):=by rw[ae (by omega) (by omega)];omega
  by_cases c1:M.n<2+4*cn+bT l+8
  ·rw[if_pos c1];refine⟨hp,F,?_,h,.refl _ _⟩;clear hrs;have d1:(M.n:Int)<((2+4*cn+bT l+8:Nat):Int):=by omega
   rw[ab gK rfl];simp only[go_sem,hck,b3,b4];simp only[go_sem,hFr,hLn,w1,w2,w3,d1]
  ·rw[if_neg c1];have d1:¬(M.n:Int)<((2+4*cn+bT l+8:Nat):Int):=by omega
   generalize hat:2+4*cn=at0 at*;obtain⟨hp1,F1,e1,m1,g1,k1⟩:=D2 (m:=m) (L:=L) hlv cn (at0:=at0) (by omega) at0 0 (s:=(M,0)) (by omega) h (by show M.count+_<_;omega);rw[show((0:Nat):Int)=0 from rfl]at e1
   unfold yq;simp only;have k1':(AM.wipe (M,0) 0 at0).1.count≤M.count+2*at0:=k1;clear k1;generalize hs1:AM.wipe (M,0) 0 at0=s1 at*;obtain⟨hp2,F2,e2,m2,g2⟩:=qN (m:=m) (K:=L++[.rw (.ptr (.hp m) [] 59),.rw (.int .i64 cn),.rw (wtV m at0 s1.2)]) (p:=L.length+2) (at':=at0) (s:=s1) (by simp) m1 (f:=j6) (caps:=[.ptr (.loc L.length) [] 1]) (fun M=>M.fence 0) (fun _=>by obtain⟨hp',F',q1,q2,q3⟩:=ry m1 (by omega) 0 (L++[.rw (.ptr (.hp m) [] 59),.rw (.int .i64 cn),.rw (wtV m at0 s1.2)]);exact⟨hp',F',R2 (m:=m) (by simp) q1,q2,q3⟩)
   have k2:(AM.go s1 fun M=>M.fence 0).1.count≤s1.1.count+(1:Nat):=jN (by
    unfold AM.fence;split
    ·simp only;omega
    ·split
     ·simp only[AM.out];omega
     ·simp only;rw[(bJ _).2.1];simp only[AM.stepped];omega)
   generalize(AM.go s1 fun M=>M.fence 0)=s2 at*;obtain⟨hp3,F3,e3,m3,g3,k3⟩:=Bd (m:=m) (L:=L) hlv hrs h8 b2 cn l.length 0 (at':=at0) (t:=fun _=>an) (s:=s2) (by omega) (by omega) m2 (by omega) (g1.trans g2);rw[show((0:Nat):Int)=0 from rfl]at e3
   rw[List.drop_zero]at e3 m3 k3;have hat3:=zH l s2 at0 (fun _=>an) 0;generalize cF s2 at0 (fun _=>an) 0 l=r3 at*;obtain⟨s3,a3,t3⟩:=r3;simp only at e3 m3 k3 hat3;simp only;obtain⟨hp4,F4,e4,m4,g4,k4⟩:=B7 (m:=m) (L:=L) cn t3 (a0:=a3) (by omega) 7 0 (at':=a3) (s:=s3) (by omega) (by omega) m3 (by omega);rw[show((0:Nat):Int)=0 from rfl]at e4
   generalize fF t3 s3 a3 0 7=s4 at*;obtain⟨re,hRt⟩:∃e:St→Int,∀s,rf D pJ [d7V (aG (fun j=>(a3:Int)+j) 7)] s=some (.tup [lnV (aE (aG (fun j=>(a3:Int)+j) 7)),.int .i64 (e s)],s):=
    ⟨fun s=>Classical.choose (xz _ s),fun s=>Classical.choose_spec (xz _ s)⟩
   rw[EP]at hRt;let Y:List Blk:=[.rw (ac t3),.rw (d7V (aG (fun j=>(a3:Int)+j) 7)),.rw (lnV (aE fun j=>(a3:Int)+j))];obtain⟨hp5,F5,e5,m5,g5⟩:=DK (m:=m) (p:=L.length+2) (at':=(a3+7:Nat)) (by omega) (pk fun j=>(a3:Int)+j) (K:=L++([.rw (.ptr (.hp m) [] 59),.rw (.int .i64 cn),.rw (wtV m (a3+7:Nat) s4.2)]++Y)) (s:=s4) (by simp) m4 (by omega);have k5:(AM.go s4 fun M=>M.put8 (a3+7:Nat) (aE fun j=>(a3:Int)+j)).1.count≤s4.1.count+(9:Nat):=jN (by have:=lq (M:=s4.1) (at':=(a3+7:Nat)) (l:=aE fun j=>(a3:Int)+j);omega);generalize(AM.go s4 fun M=>M.put8 (a3+7:Nat) (aE fun j=>(a3:Int)+j))=s5 at*;have hca:((a3+7:Nat):Int)+1=((a3+8:Nat):Int):=by omega
   rw[hca]at e5;obtain⟨hp6,F6,e6,m6,g6⟩:=qN (m:=m) (K:=L++([.rw (.ptr (.hp m) [] 59),.rw (.int .i64 cn),.rw (wtV m (a3+8:Nat) s5.2)]++(Y++[.rw (.int .i64 (a3+7:Nat))]))) (p:=L.length+2) (at':=(a3+8:Nat)) (s:=s5) (by simp) m5 (f:=j5) (caps:=[.ptr (.loc L.length) [] 1]) (fun M=>M.fence 0) (fun _=>by obtain⟨hp',F',q1,q2,q3⟩:=ry m5 (by omega) 0 (L++([.rw (.ptr (.hp m) [] 59),.rw (.int .i64 cn),.rw (wtV m (a3+8:Nat) s5.2)]++(Y++[.rw (.int .i64 (a3+7:Nat))])));exact⟨hp',F',SG (m:=m) (by simp) q1,q2,q3⟩)
   have k6:(AM.go s5 fun M=>M.fence 0).1.count≤s5.1.count+(1:Nat):=jN (by
    unfold AM.fence;split
    ·simp only;omega
    ·split
     ·simp only[AM.out];omega
     ·simp only;rw[(bJ _).2.1];simp only[AM.stepped];omega)
   generalize(AM.go s5 fun M=>M.fence 0)=s6 at*;obtain⟨hp7,F7,e7,m7,g7⟩:=qN (m:=m) (K:=L++([.rw (.ptr (.hp m) [] 59),.rw (.int .i64 cn),.rw (wtV m (a3+8:Nat) s6.2)]++(Y++[.rw (.int .i64 (a3+7:Nat))]))) (p:=L.length+2) (at':=(a3+8:Nat)) (s:=s6) (by simp) m6 (f:=j4) (caps:=[.ptr (.loc L.length) [] 1,.ptr (.loc (L.length+6)) [] 10,.ptr (.loc (L.length+1)) [] 10]) (fun M=>M.wrs 0 ⟨1,(a3+7:Nat),0,cn⟩) (fun _=>by obtain⟨hp',F',q1,q2,q3⟩:=Jk m6 (by omega) 0 ⟨1,(a3+7:Nat),0,cn⟩ (L++([.rw (.ptr (.hp m) [] 59),.rw (.int .i64 cn),.rw (wtV m (a3+8:Nat) s6.2)]++(Y++[.rw (.int .i64 (a3+7:Nat))])));exact⟨hp',F',Sr (m:=m) (root:=(a3+7:Nat)) (cores:=cn) (by simp) (by simp[Y]) (by simp) q1,q2,q3⟩)
   refine⟨hp7,F7,?_,m7,((((g3.trans g4).trans g5).trans g6).trans g7)⟩;generalize(AM.go s6 fun M=>M.wrs 0 ⟨1,(a3+7:Nat),0,cn⟩)=s7 at*;have hset:∀(a b c d:Blk) (Z:List Blk),(L++([a,b,c]++Z)).set (L.length+2) d=L++([a,b,d]++Z):=fun a b c d Z=>by simp
   have hset2:∀(a b c d:Blk),(L++[a,b,c]).set (L.length+2) d=L++[a,b,d]:=fun a b c d=>by simp
   rw[hset]at e5 e6 e7;rw[hset2]at e2;have ty:(lnV (aE fun j=>(a3:Int)+j)).tag=24:=rfl;have tl:∀b,V.locLt b (lnV (aE fun j=>(a3:Int)+j))=true:=fun b=>jq;have z48:V.agg 48 (List.replicate 49 (.agg 42 [.int .i64 0,.int .i64 0,.int .i64 0]))=ac fun _=>an:=by rw[co];rfl
   have z60:V.agg 60 (List.replicate 7 (.int .i64 0))=d7V (aG (fun j=>(a3:Int)+j) 0):=tw.symm;have t48:(ac fun _=>an).tag=48:=rfl;have t60:(d7V (aG (fun j=>(a3:Int)+j) 0)).tag=60:=rfl;have t48':∀t,(ac t).tag=48:=fun _=>rfl;have t60':(d7V (aG (fun j=>(a3:Int)+j) 7)).tag=60:=rfl;simp only[Y,List.cons_append,List.nil_append]at e5 e6 e7;clear hrs m1 m2 m3 m4 m5 m6 m7 g1 g2 g3 g4 g5 g6 g7 hs1;generalize lnV (aE fun j=>(a3:Int)+j)=Rt at*;rw[ab gK rfl];simp only[go_sem,hck,b3,b4];simp only[go_sem,hFr,hLn,w1,w2,w3,d1];simp only[go_sem,e1];simp only[go_sem,e2,hsl,z48,t48];simp only[go_sem,e3,z60,t60];simp only[go_sem,e4,hRt,ty,tl];simp only[go_sem,e5];simp only[go_sem,e6];simp only[go_sem,e7]
end
def cU (q:Int) (t:Nat→Ent):AS→List Rec→AS×Int
 |x,[]=>(x,0)
 |x,r::l=>if r.seq≤q∨(t r.id.toNat).kind≠1 then cU q t x l else if(x.set r.id r.word r.val).2≠0 then x.set r.id r.word r.val else cU q t (x.set r.id r.word r.val).1 l
def fI (s:Int):List Rec→Int
 |[]=>s
 |r::l=>fI (max s r.seq) l
theorem RO {x:AS}(id word v:Int):(x.set id word v).1.M.n=x.M.n:=by
 unfold AS.set;have hl:∀l,(x.lay l).1.M.n=x.M.n:=fun l=>by
  unfold AS.lay;split
  ·rfl
  ·exact AM.layFrom_n
 split
 ·rfl
 ·split
  ·rfl
  ·split
   ·exact AM.store_n
   ·split
    ·rfl
    ·split
     ·rfl
     ·simp only;split<;>exact hl _
def iS (p b:V) (slot next:Int):V:= .agg 41 [p,b,.int .i64 slot,.int .i64 next]
def bm:V:=iS .nilp dI.v 0 0
section
variable {m a fr : Nat}
theorem yS {b:Sup}{t:Nat→Ent}{rs:List Rec}(hok:∀r∈rs,r.ok=true) (h100:rs.length≤100) (slot:Int) (rv:V) (L:List Blk) (D7 D8:Blk) (hD7:∀n,bl n D7=true) (hD8:∀n,bl n D8=true):
 ∀(n i:Nat) {hp:List Blk}{Fm G:Ft}{x:AS}{last:Int},i+n=rs.length→bX hp Fm a m fr x→SlR hp G 54 56 rv (rs.map Rec.v)→fG (il a fr Fm) G→Inn hp G→x.M.count+10*n+10<1000000→0≤last∧last≤1099511627776→
 ∃hp' Fm' r,rc D L.length (.loop [2,4,5,8,11,13,78,79,80] eW) [(2,.ptr (.loc L.length) [] 41),(4,.ptr (.loc (L.length+1)) [] 44),(5,.int .i64 slot),(8,.ptr (.loc (L.length+2)) [] 48),(11,.ptr (.hp a) [] 43),(13,.int .i64 last),(78,rv),(79,.int .i64 rs.length),(80,.int .i64 i)] ⟨L++[.rw bm,.rw b.v,.rw (ac t),D7,D8],hp⟩=some r∧
  bX hp' Fm' a m fr (cU b.seq t x (rs.drop i)).1∧Chg hp hp' (il a fr Fm) (il a fr Fm')∧(cU b.seq t x (rs.drop i)).1.M.count≤x.M.count+9*n∧
  (((cU b.seq t x (rs.drop i)).2=0∧r=(.exit 0,[(2,.ptr (.loc L.length) [] 41),(4,.ptr (.loc (L.length+1)) [] 44),(5,.int .i64 slot),(8,.ptr (.loc (L.length+2)) [] 48),(11,.ptr (.hp a) [] 43),(13,.int .i64 (fI last (rs.drop i))),(78,rv),(79,.int .i64 rs.length),(80,.int .i64 rs.length),(81,.bool false)],⟨L++[.rw bm,.rw b.v,.rw (ac t),D7,D8],hp'⟩))∨
   ((cU b.seq t x (rs.drop i)).2≠0∧∃X,r=(.ret,[(2,.ptr (.loc L.length) [] 41),(3,.int .i64 (cU b.seq t x (rs.drop i)).2)],⟨L++ .rw bm::X,hp'⟩)))
 |0,i,hp,Fm,G,x,last,hi,h,hs,ha,hg,hc,hla=>by
  have:i=rs.length:=by omega
  subst this;rw[List.drop_length];refine⟨hp,Fm,_,?_,h,.refl _ _,by simp only[cU];omega,.inl ⟨rfl,rfl⟩⟩;have d1:¬(rs.length:Int)<rs.length:=by omega
  simp only[fI];rw[aa];simp only[go_sem,eW,d1]
 |n+1,i,hp,Fm,G,x,last,hi,h,hs,ha,hg,hc,hla=>by
  have hil:i<rs.length:=by omega
  have d1:(i:Int)<rs.length:=by omega
  have d4:IntKind.i64.wrap ((i:Int)+1)=((i+1:Nat):Int):=ae (by omega) (by omega);have hgm:=am (f:=Rec.v) (l:=rs) (i:=i) hil bW;have hld:∀X,ldv ⟨X,hp⟩ 54 (elq rv i [] 54)=V.at [] (rs.getD i bW).v:=fun X=>(hs.rs X).ldq hgm;have hsad:=(hs.rs []).sadq hgm (k:= .i64);have hdrop:rs.drop i=rs.getD i bW::rs.drop (i+1):=by rw[List.getD_eq_getElem?_getD,List.getElem?_eq_getElem hil];exact List.drop_eq_getElem_cons hil
  have hro:=hok (rs.getD i bW) (by rw[List.getD_eq_getElem?_getD,List.getElem?_eq_getElem hil];exact List.getElem_mem hil);have hr:=Rec.ok_iff.1 hro;have hlv1:∀k,V.locLt k rv=true:=fun k=>hs.ltb;have z0:L.length<L.length+5:=by omega
  have z1:L.length+1<L.length+5:=by omega
  have z2:L.length+2<L.length+5:=by omega
  rw[hdrop];simp only[cU,fI];generalize rs.getD i bW=rr at*;obtain⟨q,id,wd,vl⟩:=rr;simp only at hr;simp only;obtain⟨idn,rfl⟩:∃k:Nat,id=k:=⟨id.toNat,by omega⟩;rw[Zh];have i1:(0:Int)≤idn:=by omega
  have i2:(idn:Int)<49:=by omega
  have gt:=av (f:=fun j=>(t j).v) (show idn<49 by omega);have hbv:bm= .agg 41 [.nilp,.agg 44 [.int .i64 0,.int .i64 0,.int .i64 0,.int .i64 0],.int .i64 0,.int .i64 0]:=rfl;have hmx:max last q=if last<q then q else last:=by rw[Int.max_def];split<;>split<;>omega
  by_cases c:q≤b.seq∨(t idn).kind≠1
  ·rw[if_pos c];obtain⟨hp',Fm',r,q1,q2,q3,q4,q5⟩:=yS hok h100 slot rv L D7 D8 hD7 hD8 n (i+1) (last:=max last q) (by omega) h hs ha hg (by omega) (by omega);refine⟨hp',Fm',r,?_,q2,q3,by omega,q5⟩;rw[←q1,aa];clear q1 q2 q3 q4 q5 hdrop hgm hs h;simp only[Rec.v,Sup.v,ac,Ent.v]at*;rw[hbv];generalize tab 49 (fun j=>V.agg 42 [.int .i64 (t j).kind,.int .i64 (t j).ver,.int .i64 (t j).line])=T at*;by_cases c1:q≤b.seq
   ·simp only[go_sem,eW,d1,hsad,hld,c1,d4,hlv1,z0,z1,z2,hD7,hD8]
   ·have c2:=c.resolve_left c1;simp only[go_sem,eW,d1,hsad,hld,c1,i1,i2];rw[Zh];simp only[go_sem,gt,c2,d4,hlv1,z0,z1,z2,hD7,hD8]
  ·rw[if_neg c];have c1:¬q≤b.seq:=fun e=>c (.inl e);have c2:(t idn).kind=1:=by
    by_cases e:(t idn).kind=1
    ·exact e
    ·exact absurd (.inr e) c
   obtain⟨hp1,F1,e1,e2,e3⟩:=OJ h (by omega) idn wd vl (L++[.rw bm,.rw b.v,.rw (ac t),D7,D8,.rw (Rec.v ⟨q,idn,wd,vl⟩)]);have cs:=AS.set_count (x:=x) idn wd vl;by_cases he:(x.set idn wd vl).2=0
   ·rw[if_neg (by rw[he];simp)];obtain⟨hp',Fm',r,q1,q2,q3,q4,q5⟩:=yS hok h100 slot rv L D7 D8 hD7 hD8 n (i+1) (last:=max last q) (x:=(x.set idn wd vl).1) (by omega) e2 (hs.eqv (e3.eqv ha hg) fun _ h=>h) (e3.apart ha hg) (hg.more e3) (by omega) (by omega);refine⟨hp',Fm',r,?_,q2,e3.trans q3,by omega,q5⟩;rw[←q1,aa];rw[he]at e1;clear q1 q2 q3 q4 q5 hdrop hgm hs h e2 e3;simp only[Rec.v,Sup.v,ac,Ent.v]at*;rw[hbv]at*;generalize tab 49 (fun j=>V.agg 42 [.int .i64 (t j).kind,.int .i64 (t j).ver,.int .i64 (t j).line])=T at*;simp only[go_sem,eW,d1,hsad,hld,c1,i1,i2];rw[Zh];simp only[go_sem,gt,c2,e1,d4,hlv1,z0,z1,z2,hD7,hD8]
   ·rw[if_pos he];refine⟨hp1,F1,_,?_,e2,e3,by omega,.inr ⟨he,[.rw b.v,.rw (ac t),D7,D8,.rw (Rec.v ⟨q,idn,wd,vl⟩)],rfl⟩⟩;rw[aa];clear hdrop hgm hs h e2 e3;simp only[Rec.v,Sup.v,ac,Ent.v]at*;rw[hbv]at*;generalize tab 49 (fun j=>V.agg 42 [.int .i64 (t j).kind,.int .i64 (t j).ver,.int .i64 (t j).line])=T at*;simp only[go_sem,eW,d1,hsad,hld,c1,i1,i2];rw[Zh];simp only[go_sem,gt,c2,e1,he]
end
def AM.Rn (M:AM):Prop:=∀j,∀x∈M.now j,0≤x∧x<18446744073709551616
def d8 (l:List Int) (root:Int) (k:Nat):Int:=if k<7 then af l k else root
def AM.bt (M:AM):Option (Sup×Int×AF)×Int:=
 if M.off=true then(none,4)else
 if(a9 (M.now 0) (M.now 1)).2.2=false then(none,20)else
 let b:=(a9 (M.now 0) (M.now 1)).1
 if(M.n:Int)<2+4*b.cores then(none,21)else
 if mK M (2+4*b.cores) b.root=false then(none,21)else
 match(af0 (2+4*b.cores).toNat M.n).takes (dz (ldT M (M.now b.root.toNat)) (d8 (M.now b.root.toNat) b.root))with
 |none=>(none,21)
 |some A=>(some (b,(a9 (M.now 0) (M.now 1)).2.1,A),0)
def AM.st0 (M:AM) (b:Sup) (A:AF):AS:=as0 M A (ldT M (M.now b.root.toNat)) (d8 (M.now b.root.toNat) b.root)
def AM.recs (M:AM) (b:Sup):List Rec:=bD (bb M 2 (4*b.cores.toNat))
def AM.booted (M:AM) (b:Sup) (A:AF):AS×Int:=cU b.seq (ldT M (M.now b.root.toNat)) (M.st0 b A) (M.recs b)
theorem Ds {a c:List Int}(h:(a9 a c).2.2=true):(a9 a c).1.ok=true:=by
 have h0:∀l,eI l=true→(c9 l).ok=true:=fun l hl=>by unfold eI at hl;rw[Zj]at hl;exact hl.1
 unfold a9 bst at*;by_cases c1:eI c=true∧((if eI a=true∧((dI,(0:Int),false).2.2=false∨(dI,(0:Int),false).1.gen<(c9 a).gen)then(c9 a,(0:Int),true)else(dI,0,false)).2.2=false∨(if eI a=true∧((dI,(0:Int),false).2.2=false∨(dI,(0:Int),false).1.gen<(c9 a).gen)then(c9 a,(0:Int),true)else(dI,0,false)).1.gen<(c9 c).gen)
 ·rw[if_pos c1];exact h0 c c1.1
 ·rw[if_neg c1]at h⊢;by_cases c2:eI a=true∧((dI,(0:Int),false).2.2=false∨(dI,(0:Int),false).1.gen<(c9 a).gen)
  ·rw[if_pos c2];exact h0 a c2.1
  ·rw[if_neg c2]at h;cases h
theorem uT {b:Sup}(h:b.ok=true):(1≤b.gen∧b.gen≤1099511627776)∧(0≤b.root∧b.root≤1023)∧(0≤b.seq∧b.seq≤1099511627776)∧1≤b.cores∧b.cores≤8:=by unfold Sup.ok win at h;simp only[Zj,Zi]at h;exact h
theorem u7:∀(l:List Rec) {s:Int},(∀r∈l,r.ok=true)→0≤s∧s≤1099511627776→0≤fI s l∧fI s l≤1099511627776
 |[],_,_,h=>h
 |r::l,s,hl,h=>by have:=Rec.ok_iff.1 (hl r List.mem_cons_self);exact u7 l (fun x hx=>hl x (List.mem_cons_of_mem _ hx)) (by omega)
theorem Dj {n:Nat}{d:Nat→Int}:V.locLt n (aM d)=true:=by rw[aM,B9];rfl
theorem FV {base:Nat}{L hp:List Blk}{a b:Nat}{d:Nat→Int}(ha:L[a]?=some (.rw (.agg 50 (List.replicate 8 (.int .i64 0))))) (hb:L[b]?=some (.rw (d7V d))):
 iw base 10 (.sl (.loc a) [] 0 8 (some 8) 10) (.sl (.loc b) [] 0 7 (some 7) 10) ⟨L,hp⟩=some (.int .i64 7,⟨L.set a (.rw (.agg 50 ((tab 7 fun i=>V.int .i64 (d i))++[.int .i64 0]))),hp⟩):=by
 have hl:(tab 7 fun i=>V.int .i64 (d i)).length=7:=by simp[tab]
 have hy:St.elems ⟨L,hp⟩ (.sl (.loc b) [] 0 7 (some 7) 10)=some (tab 7 fun i=>V.int .i64 (d i)):=by simp only[St.elems,St.read,St.at,hb,d7V,V.at,hl];rw[if_neg (by omega),if_pos (by omega),List.drop_zero,List.take_of_length_le (by rw[hl];omega)]
 have hr:(⟨L,hp⟩:St).read (.loc a) []=some (.agg 50 (List.replicate 8 (.int .i64 0))):=by simp only[St.read,St.at,ha,V.at]
 have ht:List.take 7 (tab 7 fun i=>V.int .i64 (d i))=tab 7 fun i=>V.int .i64 (d i):=List.take_of_length_le (by rw[hl];omega);have hm:min 7 8=7:=by decide
 unfold iw;simp only[V.slIs,V.elIs,beq_self_eq_true,Bool.and_self,if_true,hy,hl,hm,hr,ht];rw[if_neg (show¬(7:Nat)=0 by decide),if_pos (by simp)];simp only[St.write,St.at,ha,fM,V.locLt,V.setAt];rfl
section
variable {m : Nat} {F : Ft} {M : AM} {hp : List Blk}
theorem DT (h:aI hp F m M) (hG:hp[0]?=some (.ro ep)) (hz:¬F 0) (hR:M.Rn) (hS:∀n,n≤32→(M.off=false→(bb M 2 (4*(a9 (M.now 0) (M.now 1)).1.cores.toNat)).length=n)→oV n) (hc:M.count+400<1000000) (L:List Blk):
 (M.bt.1=none∧∃X,rf D gV [.ptr (.hp m) [] 59] ⟨L,hp⟩=some (.tup [bm,.int .i64 M.bt.2],⟨L,hp++X⟩))∨
 ∃b slot A hp' Fm' a fr,M.bt=(some (b,slot,A),0)∧bX hp' Fm' a m fr (M.booted b A).1∧Chg hp hp' F (il a fr Fm')∧
  rf D gV [.ptr (.hp m) [] 59] ⟨L,hp⟩=some (if(M.booted b A).2=0 then .tup [iS (.ptr (.hp a) [] 43) b.v slot (fI b.seq (M.recs b)+1),.int .i64 0]else .tup [bm,.int .i64 (M.booted b A).2],⟨L,hp'⟩):=by
 have hF:=fun L=>E2 h L;have hn0:bm= .agg 41 [.nilp,.agg 44 [.int .i64 0,.int .i64 0,.int .i64 0,.int .i64 0],.int .i64 0,.int .i64 0]:=rfl;unfold AM.bt;by_cases c0:M.off=true
 ·rw[if_pos c0];left;refine⟨rfl,[],?_⟩;rw[c0,if_pos rfl]at hF;rw[List.append_nil,hn0];simp only[Sup.v,dI]at hF;rw[ab jb rfl];simp only[go_sem,hF]
 ·rw[if_neg c0];rw[if_neg c0]at hF;have hoff:M.off=false:=by simpa using c0
  by_cases c1:(a9 (M.now 0) (M.now 1)).2.2=false
  ·rw[if_pos c1];left;refine⟨rfl,[],?_⟩;rw[if_neg (by rw[c1];simp)]at hF;rw[List.append_nil,hn0];simp only[Sup.v,dI]at hF;rw[ab jb rfl];simp only[go_sem,hF]
  ·rw[if_neg c1];have c1':(a9 (M.now 0) (M.now 1)).2.2=true:=by simpa using c1
   rw[if_pos c1']at hF;have hbk:=Ds c1';have hbr:=uT hbk;generalize hbest:a9 (M.now 0) (M.now 1)=z at*;obtain⟨b,slot,okb⟩:=z;simp only at hF hbk hbr hS;simp only;obtain⟨cn,hcn⟩:∃k:Nat,b.cores=k:=⟨b.cores.toNat,by omega⟩;have hFr:=fun s=>qU (c:=cn) (by omega) s;have hLn:=fun L=>rK h L;have hfr:(2:Int)+4*b.cores=((2+4*cn:Nat):Int):=by omega
   rw[show(2:Int)+4*(cn:Int)=((2+4*cn:Nat):Int) by omega]at hFr;rw[hfr];by_cases c2:(M.n:Int)<((2+4*cn:Nat):Int)
   ·rw[if_pos c2];left;refine⟨rfl,[],?_⟩;rw[List.append_nil,hn0];obtain⟨bg,br,bq,bc⟩:=b;simp only[Sup.v]at*;subst hcn;have c2':((2+4*cn:Nat):Int)>M.n:=c2;rw[ab jb rfl];simp only[go_sem,hF,hFr,hLn,c2]
   ·rw[if_neg c2];have c2':¬((2+4*cn:Nat):Int)>M.n:=c2;obtain⟨X1,hLd⟩:=E8 h (2+4*cn:Nat) b.root (fun _ _ k _ x hx=>hR _ x hx) (L++[.rw bm,.rw b.v]);rw[if_neg c0]at hLd;by_cases c3:mK M (2+4*cn:Nat) b.root=false
    ·rw[if_pos c3];rw[c3,if_neg (by simp)]at hLd;left;refine⟨rfl,X1,?_⟩;have y1:(ac fun _=>an).tag=48:=rfl;have y2:(d7V fun _=>(0:Int)).tag=60:=rfl;have y3:∀n,V.locLt n (ac fun _=>an)=true:=fun n=>fV;have y4:∀n,V.locLt n (d7V fun _=>(0:Int))=true:=fun n=>sd;generalize(ac fun _=>an)=T0 at*;generalize(d7V fun _=>(0:Int))=D0 at*;rw[hn0]at*;obtain⟨bg,br,bq,bc⟩:=b;simp only[Sup.v]at*;subst hcn;rw[ab jb rfl];simp only[go_sem,hF,hFr,hLn,c2',hLd,y1,y2,y3,y4]
    ·rw[if_neg c3];have c3':mK M (2+4*cn:Nat) b.root=true:=by simpa using c3
     rw[if_pos c3']at hLd;rw[Zh];have h1:=h.snoc X1;have hG1:(hp++X1)[0]?=some (.ro ep):=by rw[List.getElem?_append_left (aj hG)];exact hG
     generalize ht:ldT M (M.now b.root.toNat)=t at*;have hdir:aM (d8 (M.now b.root.toNat) b.root)= .agg 50 ((tab 7 fun i=>V.int .i64 (af (M.now b.root.toNat) i))++[.int .i64 b.root]):=rfl;have hOf:=PU h1 hG1 hz (2+4*cn:Nat) t (d8 (M.now b.root.toNat) b.root) (L++[.rw bm,.rw b.v,.rw (ac t),.rw (d7V (af (M.now b.root.toNat))),.rw (aM (d8 (M.now b.root.toNat) b.root))]);rw[Zh]at hOf;have y1:(ac t).tag=48:=rfl;have y2:(d7V (af (M.now b.root.toNat))).tag=60:=rfl;have y3:∀n,V.locLt n (ac t)=true:=fun n=>fV;have y4:∀n,V.locLt n (d7V (af (M.now b.root.toNat)))=true:=fun n=>sd;rcases hOf with⟨q,_⟩|⟨_,_,q,X2,e⟩|⟨_,_,A,X2,q,e,W⟩
     ·exfalso;omega
     ·rw[q];left;refine⟨rfl,X1++X2,?_⟩;rw[hn0]at*;rw[hdir]at e;obtain⟨bg,br,bq,bc⟩:=b;simp only[Sup.v,d7V]at*;subst hcn;generalize hTT:ac t=TT at*;rw[ab jb rfl];have hcp:=FV (base:=L.length) (L:=L++[.rw (.agg 41 [.nilp,.agg 44 [.int .i64 0,.int .i64 0,.int .i64 0,.int .i64 0],.int .i64 0,.int .i64 0]),.rw (.agg 44 [.int .i64 bg,.int .i64 br,.int .i64 bq,.int .i64 cn]),.rw TT,.rw (d7V (af (M.now br.toNat))),.rw (.agg 50 (List.replicate 8 (.int .i64 0)))]) (hp:=hp++X1) (a:=L.length+4) (b:=L.length+3) (d:=af (M.now br.toNat)) (by simp) (by simp);simp only[d7V]at hcp;have hsp:∀(a b c d e f:Blk),(L++[a,b,c,d,e]).set (L.length+4) f=L++[a,b,c,d,f]:=fun a b c d e f=>by simp
      rw[hsp]at hcp;have g7:((tab 7 fun i=>V.int .i64 (af (M.now br.toNat) i))++[V.int .i64 0])[7]?=some (.int .i64 0):=rfl;have s7:((tab 7 fun i=>V.int .i64 (af (M.now br.toNat) i))++[V.int .i64 0]).set 7 (.int .i64 br)=(tab 7 fun i=>V.int .i64 (af (M.now br.toNat) i))++[V.int .i64 br]:=rfl;simp only[go_sem,hF,hFr,hLn,c2',hLd,y1,y2,y3,y4,hcp];simp only[go_sem,g7,s7,e]
     ·rw[q];right;have hlen:(bb M 2 (4*cn)).length≤32:=Nat.le_trans (qa M _ _) (by omega);have hcn2:b.cores.toNat=cn:=by omega
      rw[hcn2]at hS;obtain⟨hp3,G3,v3,e3,s3,g3,hinn⟩:=G8 W.mp hoff (cores:=cn) (by omega) (by omega) (by show 2+4*cn≤M.n;omega) (hS _ hlen fun _=>rfl) (L++[.rw bm,.rw b.v,.rw (ac t),.rw (d7V (af (M.now b.root.toNat))),.rw (aM (d8 (M.now b.root.toNat) b.root))]);have hW3:bX hp3 F ((hp++X1).length+1) m (hp++X1).length (M.st0 b A):=by
       have:M.st0 b A=as0 M A t (d8 (M.now b.root.toNat) b.root):=by unfold AM.st0;rw[ht]
       rw[this];exact W.chg g3 (fun _ h=>h.elim) fun h=>h
      have hrs:M.recs b=bD (bb M 2 (4*cn)):=by unfold AM.recs;rw[hcn2]
      have s3':SlR hp3 G3 54 56 v3 ((M.recs b).map Rec.v):=by rw[hrs];exact s3
      have hG3:∀j,G3 j→(hp++X1++X2).length≤j:=fun j hj=>(g3.new j hj).resolve_left fun h=>h;have hap:fG (il ((hp++X1).length+1) (hp++X1).length F) G3:=fun j h1 h2=>by have h3:=hG3 j h2;have h4:=W.inn j h1;omega
      obtain⟨hp4,F4,r,q1,q2,q3,q4,q5⟩:=yS (b:=b) (t:=t) (rs:=M.recs b) (by intro r hr;rw[hrs]at hr;exact qV M _ _ r (mM.1 hr)) (by rw[hrs,dH];omega) slot v3 L (.rw (d7V (af (M.now b.root.toNat)))) (.rw (aM (d8 (M.now b.root.toNat) b.root))) y4 (fun n=>Dj (n:=n) (d:=d8 (M.now b.root.toNat) b.root)) (M.recs b).length 0 (last:=b.seq) (by omega) hW3 s3' hap hinn (by rw[hrs,dH];have:(M.st0 b A).M=M:=rfl;rw[this];omega) hbr.2.2.1
      rw[List.drop_zero]at q2 q4 q5;rw[show((0:Nat):Int)=0 from rfl]at q1
      have hbt:cU b.seq t (M.st0 b A) (M.recs b)=M.booted b A:=by unfold AM.booted;rw[ht]
      rw[hbt]at q2 q4 q5;have hgg:Chg hp hp4 F (il ((hp++X1).length+1) (hp++X1).length F4):=by
       have c1:Chg hp (hp++X1++X2) F (il ((hp++X1).length+1) (hp++X1).length F):=by
        rw[List.append_assoc];refine⟨by simp,fun j hj _=>List.getElem?_append_left hj,fun j hj=> ?_⟩;rcases hj with rfl|rfl|hj
        ·right;simp only[List.length_append];omega
        ·right;simp only[List.length_append];omega
        ·exact .inl hj
       have c2:Chg (hp++X1++X2) hp3 (il ((hp++X1).length+1) (hp++X1).length F) (il ((hp++X1).length+1) (hp++X1).length F):=g3.mono (fun _ h=>h.elim) fun _ h=> .inr h;exact(c1.trans c2).trans q3
      refine⟨b,slot,A,hp4,F4,_,_,rfl,q2,hgg,?_⟩;have hsl:V.slen false v3=some (M.recs b).length:=by
       have:=s3'.slen
       rwa [List.length_map]at this
      have hrsok:∀r∈M.recs b,r.ok=true:=fun r hr=>by rw[hrs]at hr;exact qV M _ _ r (mM.1 hr)
      have hla:=u7 (M.recs b) (s:=b.seq) hrsok hbr.2.2.1;have w9:IntKind.i64.wrap (fI b.seq (M.recs b)+1)=fI b.seq (M.recs b)+1:=ae (by omega) (by omega);have v3o:=s3.ok;have v3t:=s3.tag;have v3l:∀n,V.locLt n v3=true:=fun n=>s3.ltb;clear q2 q3 q4 W hW3 s3 s3' g3 hinn hap hG3 hgg hrsok;rw[hdir]at e e3 q1;clear h1 hG1;generalize hp++X1=H1 at*;generalize H1++X2=H2 at*;obtain⟨bg,br,bq,bc⟩:=b;simp only[Sup.v,d7V]at*;subst hcn;rw[hn0]at*;generalize hTT:ac t=TT at*;have hcp:=FV (base:=L.length) (L:=L++[.rw (.agg 41 [.nilp,.agg 44 [.int .i64 0,.int .i64 0,.int .i64 0,.int .i64 0],.int .i64 0,.int .i64 0]),.rw (.agg 44 [.int .i64 bg,.int .i64 br,.int .i64 bq,.int .i64 cn]),.rw TT,.rw (d7V (af (M.now br.toNat))),.rw (.agg 50 (List.replicate 8 (.int .i64 0)))]) (hp:=H1) (a:=L.length+4) (b:=L.length+3) (d:=af (M.now br.toNat)) (by simp) (by simp);simp only[d7V]at hcp;have hsp:∀(a b c d e f:Blk),(L++[a,b,c,d,e]).set (L.length+4) f=L++[a,b,c,d,f]:=fun a b c d e f=>by simp
      rw[hsp]at hcp;have g7:((tab 7 fun i=>V.int .i64 (af (M.now br.toNat) i))++[V.int .i64 0])[7]?=some (.int .i64 0):=rfl;have s7:((tab 7 fun i=>V.int .i64 (af (M.now br.toNat) i))++[V.int .i64 0]).set 7 (.int .i64 br)=(tab 7 fun i=>V.int .i64 (af (M.now br.toNat) i))++[V.int .i64 br]:=rfl;generalize(M.recs ⟨bg,br,bq,cn⟩)=rs at*;generalize fI bq rs=la at*;generalize M.booted ⟨bg,br,bq,cn⟩ A=bt at*;rw[ab jb rfl];simp only[go_sem,hF,hFr,hLn,c2',hLd,y1,y2,y3,y4,hcp];simp only[go_sem,g7,s7,e];rcases q5 with⟨z,rfl⟩|⟨z,X,rfl⟩
      ·rw[if_pos z];simp only[go_sem,e3,hsl];simp only[go_sem,q1,iS,w9];rw[if_pos z]
      ·rw[if_neg z];simp only[go_sem,e3,hsl];simp only[go_sem,q1];rw[if_neg z]
end
end Go.Proofs.YtilcajpldklbiaaGreatDoor
