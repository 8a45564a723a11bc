/-
  YtilcajpldklbiaaGreatDoorT2: what functions of the program compute (Foot, AbsA, SlrA, MemP, MemS, AbsB, AbsC, FrmC, FraP, StoP, StoS, StoU, StoV, StoR, AbsD, AbsE, AbsF, AbsH).
-/
import Derived.Test.YtilcajpldklbiaaGreatDoorCode
import Derived.Test.YtilcajpldklbiaaGreatDoorAbE
import Derived.Test.YtilcajpldklbiaaGreatDoorT1
set_option maxRecDepth 100000
namespace Go.Proofs.YtilcajpldklbiaaGreatDoor
open Go.Ab
abbrev Ft:=Nat→Prop
def Ft.one (a:Nat):Ft:=fun j=>j=a
def Inn (hp:List Blk) (F:Ft):Prop:=∀j,F j→j<hp.length
def fG (F G:Ft):Prop:=∀j,F j→G j→False
structure Chg (hp hp':List Blk) (F F':Ft):Prop where
 le:hp.length≤hp'.length
 old:∀j,j<hp.length→¬F j→hp'[j]?=hp[j]?
 new:∀j,F' j→F j∨hp.length≤j
theorem Chg.refl (hp:List Blk) (F:Ft):Chg hp hp F F:=⟨Nat.le_refl _,fun _ _ _=>rfl,fun _ h=> .inl h⟩
theorem Chg.trans {hp hp1 hp2:List Blk}{F F1 F2:Ft}(h:Chg hp hp1 F F1) (h':Chg hp1 hp2 F1 F2):Chg hp hp2 F F2:=by
 refine⟨Nat.le_trans h.le h'.le,fun j hj hn=> ?_,fun j hj=> ?_⟩
 ·rw[h'.old j (Nat.lt_of_lt_of_le hj h.le) (fun h1=> ?_),h.old j hj hn];rcases h.new j h1 with h2|h2
  ·exact hn h2
  ·omega
 ·rcases h'.new j hj with h1|h1
  ·exact h.new j h1
  ·exact .inr (Nat.le_trans h.le h1)
theorem Chg.mono {hp hp':List Blk}{F F' G G':Ft}(h:Chg hp hp' F F') (h1:∀j,F j→G j) (h2:∀j,G' j→F' j∨G j):Chg hp hp' G G':=
 ⟨h.le,fun j hj hn=>h.old j hj (fun hf=>hn (h1 j hf)),fun j hj=>(h2 j hj).elim (fun hf=>(h.new j hf).imp_left (h1 j)) .inl⟩
theorem Chg.apart {hp hp':List Blk}{F F' G:Ft}(h:Chg hp hp' F F') (ha:fG F G) (hi:Inn hp G):fG F' G:=fun j h1 h2=>by
 rcases h.new j h1 with h3|h3
 ·exact ha j h3 h2
 ·have:=hi j h2;omega
theorem fG.symm {F G:Ft}(h:fG F G):fG G F:=fun j h1 h2=>h j h2 h1
theorem Inn.more {hp hp':List Blk}{F F' G:Ft}(hi:Inn hp G) (h:Chg hp hp' F F'):Inn hp' G:=fun j hj=>Nat.lt_of_lt_of_le (hi j hj) h.le
def Eqv (hp hp':List Blk) (G:Ft):Prop:=∀j,G j→hp'[j]?=hp[j]?
theorem Chg.eqv {hp hp':List Blk}{F F' G:Ft}(h:Chg hp hp' F F') (ha:fG F G) (hi:Inn hp G):Eqv hp hp' G:=fun j hj=>h.old j (hi j hj) fun hf=>ha j hf hj
theorem Chg.get {hp hp':List Blk}{F F':Ft}(h:Chg hp hp' F F') {j:Nat}{b:Blk}(hj:hp[j]?=some b) (hn:¬F j):hp'[j]?=some b:=by rw[h.old j (List.getElem?_eq_some_iff.1 hj).1 hn,hj]
theorem iH {hp:List Blk}{a:Nat}{b:Blk}:Chg hp (hp.set a b) (Ft.one a) (Ft.one a):=
 ⟨by simp,fun j _ hn=>List.getElem?_set_ne fun e=>hn e.symm,fun _ h=> .inl h⟩
theorem oW (hp X:List Blk) (F:Ft):Chg hp (hp++X) F F:=
 ⟨by simp,fun j hj _=>List.getElem?_append_left hj,fun _ h=> .inl h⟩
theorem Inn.set {hp:List Blk}{F:Ft}(h:Inn hp F) {a:Nat}{b:Blk}:Inn (hp.set a b) F:=fun j hj=>by rw[List.length_set];exact h j hj
def ru (N:Nat) (F:Ft):Prop:=∀j,F j→N≤j
theorem Chg.pre {H hp hp':List Blk}{F F':Ft}(h:Chg hp hp' F F') (hp0:H<+:hp) (ha:ru H.length F):H<+:hp'∧ru H.length F':=by
 have hl:=hp0.length_le;refine⟨?_,fun j hj=> ?_⟩
 ·rw[List.prefix_iff_eq_take];apply List.ext_getElem?;intro j;by_cases hj:j<H.length
  ·rw[List.getElem?_take,if_pos hj,h.old j (by omega) fun hf=>by have:=ha j hf;omega];exact(eH hp0 (List.getElem?_eq_getElem hj)▸List.getElem?_eq_getElem hj)
  ·rw[List.getElem?_eq_none (by omega),List.getElem?_take,if_neg hj]
 ·rcases h.new j hj with h1|h1
  ·exact ha j h1
  ·omega
theorem aj {hp:List Blk}{j:Nat}{b:Blk}(h:hp[j]?=some b):j<hp.length:=(List.getElem?_eq_some_iff.1 h).1
structure Dn where
 w:Nat
 v:Int
 cs:Nat→Bool
def Dn.mk0 (w:Nat) (v:Int):Dn:=⟨w,v,fun _=>false⟩
structure AM where
 n:Nat
 S:Nat→List Int
 L:Nat→List Dn
 off:Bool
 left:Int
 count:Int
def au:List Int→List Dn→List Int
 |x,[]=>x
 |x,d::l=>au (x.set d.w d.v) l
def AM.now (M:AM) (i:Nat):List Int:=au (M.S i) (M.L i)
theorem mW (x:List Int) (l l':List Dn):au x (l++l')=au (au x l) l':=by
 induction l generalizing x with
 |nil=>rfl
 |cons d l ih=>exact ih _
theorem pS (x:List Int) (l:List Dn):(au x l).length=x.length:=by
 induction l generalizing x with
 |nil=>rfl
 |cons d l ih=>simp[au,ih]
def flN (c:Nat):List Dn→Nat
 |[]=>0
 |d::r=>if flN c r=0 then(if d.cs c then 1 else 0)else flN c r+1
structure AM.Ok (M:AM):Prop where
 n0:64≤M.n
 n1:M.n≤1024
 l8:∀i,i<M.n→(M.S i).length=8
 w8:∀i,i<M.n→∀d∈M.L i,d.w<8
 c0:0≤M.count
 len:∀i,i<M.n→(M.L i).length≤M.count
 lf:-1≤M.left
 lg:M.left≤9223372036854775807
theorem AM.Ok.now8 {M:AM}(h:M.Ok) {i:Nat}(hi:i<M.n):(M.now i).length=8:=by unfold AM.now;rw[pS];exact h.l8 i hi
def AM.dead (M:AM):Bool:=M.off||decide (M.left=0)
def AM.stepped (M:AM):AM:={M with left:=if 0<M.left then M.left-1 else M.left,count:=M.count+1}
def AM.out (M:AM):AM:={M with off:=true}
def AM.load (M:AM) (i:Int):List Int×Int:=if i<0∨(M.n:Int)≤i then(zl,1)else if M.off then(zl,4)else(M.now i.toNat,0)
def AM.push (M:AM) (i:Nat) (d:Dn):AM:={M with L:=upd M.L i (M.L i++[d])}
def AM.store (M:AM) (i q v:Int):AM×Int:=
 if i<0∨(M.n:Int)≤i∨q<0∨8≤q then(M,1)else if M.dead then(M.out,4)else(M.stepped.push i.toNat (Dn.mk0 q.toNat v),0)
def AM.fuse (M:AM) (k:Int):AM:={M with left:=if k<0 then-1 else k}
def am0 (n:Nat) (S:Nat→List Int):AM:=⟨n,S,fun _=>[],false,-1,0⟩
structure AF where
 f:Nat
 l:Nat
 st:Nat→Int
def AF.inr (A:AF) (j:Nat):Bool:=decide (A.f≤j)&&decide (j<A.l)
structure AF.Ok (A:AF):Prop where
 fl:A.f≤A.l
 l1:A.l≤1024
 s3:∀j,A.st j=0∨A.st j=1∨A.st j=2
def AF.state (A:AF) (line:Int):Int:=if line<A.f∨(A.l:Int)≤line then-1 else A.st line.toNat
def AF.put (A:AF) (j:Nat) (x:Int):AF:={A with st:=upd A.st j x}
theorem oA {A:AF}{line:Int}(h:¬A.state line<0):(A.f:Int)≤line∧line<A.l:=by
 unfold AF.state at h;split at h
 ·omega
 ·omega
theorem AY {A:AF}{line:Int}(h1:(A.f:Int)≤line) (h2:line<A.l):A.state line=A.st line.toNat:=by unfold AF.state;rw[if_neg (by omega)]
def AF.firstFrom (A:AF):Nat→Nat→Option Nat
 |_,0=>none
 |i,n+1=>if A.st i=0 then some i else A.firstFrom (i+1) n
def AF.first (A:AF):Option Nat:=A.firstFrom A.f (A.l-A.f)
def AF.alloc (A:AF):AF×Int×Int:=match A.first with|some i=>(A.put i 1,i,0)|none=>(A,0,10)
def AF.cnt (A:AF):Nat→Nat→Nat
 |_,0=>0
 |i,n+1=>(if A.st i=0 then 1 else 0)+A.cnt (i+1) n
def AF.left (A:AF):Nat:=A.cnt A.f (A.l-A.f)
theorem qL {A:AF}:∀{n i k:Nat},A.firstFrom i n=some k→i≤k∧k<i+n∧A.st k=0∧∀j,i≤j→j<k→A.st j≠0
 |0,i,k,h=>by cases h
 |n+1,i,k,h=>by
  simp only[AF.firstFrom]at h;split at h
  ·rename_i h0;cases h;exact⟨Nat.le_refl _,by omega,h0,fun j h1 h2=>by omega⟩
  ·rename_i h0;obtain⟨h1,h2,h3,h4⟩:=qL h;refine⟨by omega,by omega,h3,fun j hj1 hj2=> ?_⟩;by_cases e:j=i
   ·subst e;exact h0
   ·exact h4 j (by omega) hj2
theorem ww {A:AF}:∀{n i:Nat},A.firstFrom i n=none→∀j,i≤j→j<i+n→A.st j≠0
 |0,i,_,j,h1,h2=>by omega
 |n+1,i,h,j,h1,h2=>by
  simp only[AF.firstFrom]at h;split at h
  ·cases h
  ·rename_i h0;by_cases e:j=i
   ·subst e;exact h0
   ·exact ww h j (by omega) (by omega)
theorem nc {A:AF}(hA:A.Ok) {k:Nat}(h:A.first=some k):A.f≤k∧k<A.l∧A.st k=0∧∀j,A.f≤j→j<k→A.st j≠0:=by obtain⟨h1,h2,h3,h4⟩:=qL h;have:=hA.fl;exact⟨h1,by omega,h3,h4⟩
theorem KZ {A:AF}(hA:A.Ok) (h:A.first=none):∀j,A.f≤j→j<A.l→A.st j≠0:=fun j h1 h2=>by have:=hA.fl;exact ww h j h1 (by omega)
theorem AF.cnt_zero {A:AF}:∀{n i:Nat},A.cnt i n=0↔A.firstFrom i n=none
 |0,i=>by simp[AF.cnt,AF.firstFrom]
 |n+1,i=>by
  simp only[AF.cnt,AF.firstFrom];by_cases h:A.st i=0
  ·simp[h]
  ·simp only[h,if_false,Nat.zero_add];exact AF.cnt_zero
theorem AF.left_zero {A:AF}:A.left=0↔A.first=none:=AF.cnt_zero
theorem AF.cnt_congr {A B:AF}:∀{n i:Nat},(∀j,i≤j→j<i+n→(A.st j=0↔B.st j=0))→A.cnt i n=B.cnt i n
 |0,_,_=>rfl
 |n+1,i,h=>by
  simp only[AF.cnt];rw[AF.cnt_congr (A:=A) (B:=B) fun j h1 h2=>h j (by omega) (by omega)];by_cases e:A.st i=0
  ·rw[if_pos e,if_pos ((h i (Nat.le_refl _) (by omega)).1 e)]
  ·rw[if_neg e,if_neg fun e'=>e ((h i (Nat.le_refl _) (by omega)).2 e')]
theorem AF.cnt_put {A:AF}{k:Nat}{x:Int}:∀{n i:Nat},i≤k→k<i+n→(A.put k x).cnt i n+(if A.st k=0 then 1 else 0)=A.cnt i n+(if x=0 then 1 else 0)
 |0,i,h1,h2=>by omega
 |n+1,i,h1,h2=>by
  simp only[AF.cnt];by_cases e:i=k
  ·subst e;have:(A.put i x).cnt (i+1) n=A.cnt (i+1) n:=AF.cnt_congr fun j h3 h4=>by simp only[AF.put];rw[aw (by omega)]
   rw[this];have e2:(A.put i x).st i=x:=al;rw[e2];omega
  ·have ih:=AF.cnt_put (A:=A) (k:=k) (x:=x) (n:=n) (i:=i+1) (by omega) (by omega);have e2:(A.put k x).st i=A.st i:=aw e;rw[e2];omega
theorem AF.left_put {A:AF}{k:Nat}{x:Int}(h1:A.f≤k) (h2:k<A.l):(A.put k x).left+(if A.st k=0 then 1 else 0)=A.left+(if x=0 then 1 else 0):=
 AF.cnt_put (A:=A) (k:=k) (x:=x) (n:=A.l-A.f) (i:=A.f) h1 (by omega)
theorem AF.Ok.put {A:AF}(h:A.Ok) {k:Nat}{x:Int}(hx:x=0∨x=1∨x=2):(A.put k x).Ok:=⟨h.fl,h.l1,fun j=>by
 simp only[AF.put];by_cases e:j=k
 ·subst e;rw[al];exact hx
 ·rw[aw e];exact h.s3 j⟩
theorem AF.Ok.alloc {A:AF}(h:A.Ok):A.alloc.1.Ok:=by
 unfold AF.alloc;split
 ·exact h.put (.inr (.inl rfl))
 ·exact h
inductive SlR (hp:List Blk) (G:Ft) (e r:Nat):V→List V→Prop where
 |nil:SlR hp G e r .nils []
 |emp (a:Nat) (p:List Nat) (o:Nat):SlR hp G e r (.sl (.hp a) p o 0 (some 0) e) []
 |blk (a:Nat) (c:Option Nat) (l:List V) (hc:c=none∨c=some l.length) (hG:G a) (hb:hp[a]?=some (.rw (.agg r l))):SlR hp G e r (.sl (.hp a) [] 0 l.length c e) l
section
variable {hp hp' : List Blk} {G G' : Ft} {e r : Nat} {v : V} {l : List V}
theorem SlR.eqv (h:SlR hp G e r v l) (he:Eqv hp hp' G) (hG:∀j,G j→G' j):SlR hp' G' e r v l:=by
 cases h with
 |nil=>exact .nil
 |emp a p o=>exact .emp a p o
 |blk a c l hc hg hb=>exact .blk a c l hc (hG a hg) (by rw[he a hg];exact hb)
theorem SlR.slen (h:SlR hp G e r v l):V.slen false v=some l.length:=by cases h<;>rfl
theorem SlR.lt (h:SlR hp G e r v l):V.locLt 0 v=true:=by cases h<;>rfl
theorem SlR.ltb (h:SlR hp G e r v l) {b:Nat}:V.locLt b v=true:=bE (Nat.zero_le b) h.lt
theorem SlR.ok (h:SlR hp G e r v l):v.ok=true:=by cases h<;>rfl
theorem SlR.tag (h:SlR hp G e r v l):v.tag=1:=by cases h<;>rfl
theorem SlR.shape (h:SlR hp G e r v l):v= .nils∨∃a p o n c,v= .sl a p o n c e:=by
 cases h with
 |nil=>exact .inl rfl
 |emp a p o=>exact .inr ⟨_,_,_,_,_,rfl⟩
 |blk a c l hc hg hb=>exact .inr ⟨_,_,_,_,_,rfl⟩
theorem SlR.elems (h:SlR hp G e r v l) (L:List Blk):St.elems ⟨L,hp⟩ v=some l:=by
 cases h with
 |nil=>rfl
 |emp a p o=>rfl
 |blk a c l hc hg hb=>exact cR (t:=r) (by simp only[qS,hb,xm,nX]) rfl
theorem SlR.rs (h:SlR hp G e r v l) (L:List Blk):RS ⟨L,hp⟩ e v l:=by
 cases h with
 |nil=>exact .inl ⟨rfl,rfl⟩
 |emp a p o=>exact .inr ⟨_,_,_,_,rfl,fun c hc=>by cases hc;exact Nat.le_refl _,rfl,.inl rfl⟩
 |blk a c l hc hg hb=>
  refine .inr ⟨_,_,_,_,rfl,fun c' hc'=> ?_,rfl,.inr ⟨r,l,by simp only[qS,hb,xm,nX],fun j x hx=>by rw[Nat.zero_add];exact hx⟩⟩;rcases hc with rfl|rfl
  ·cases hc'
  ·cases hc';exact Nat.le_refl _
def uN (h:Bool) (r e:Nat) (old new:List V) (s:St):V→Option (V×St)
 | .nils=>some (.sl (s.fresh h) [] 0 (old.length+new.length) none e,s.new h (.agg r (old++new)))
 | .sl a path _ _ cap _=>
  if(cap.map fun c=>decide (c<old.length+new.length))=some true then some (.sl (s.fresh h) [] 0 (old.length+new.length) none e,s.new h (.agg r (old++new)))
  else if path=[]then
   match s.at a with
   |some (.rw _)=>some (.sl ((s.set a .dead).fresh h) [] 0 (old.length+new.length) none e,(s.set a .dead).new h (.agg r (old++new)))
   |_=>none
  else none
 |_=>none
theorem zV {base:Nat}{h:Bool}{x y:V}{old new:List V}{s:St}(hx:x= .nils∨∃a p o n c,x= .sl a p o n c e) (hy:y= .nils∨∃a p o n c,y= .sl a p o n c e) (h1:s.elems x=some old) (h2:s.elems y=some new)
 (hn:new≠[]) (hm:old.length+new.length≤cg) (he:e%2=0∨bi h (.agg 1 (old++new))=true):
 aD base h r e x y s=uN h r e old new s x:=by
 have h0:¬new.length=0:=by rw[List.length_eq_zero_iff];exact hn
 unfold aD;rw[we hx,vL hy,h1,h2];simp only[Bool.and_self,if_true,h0,if_false];rw[if_pos ⟨hm,by simpa using he⟩];unfold uN;cases x<;>rfl
theorem SlR.push (h:SlR hp G e r v l) {base:Nat}{y:V}{new:List V}(L:List Blk) (hy:y= .nils∨∃a p o n c,y= .sl a p o n c e) (h2:St.elems ⟨L,hp⟩ y=some new) (hn:new≠[]) (hm:l.length+new.length≤cg)
 (he:e%2=0∨V.locLts 0 (l++new)=true):
 ∃hp',aD base true r e v y ⟨L,hp⟩=some (.sl (.hp hp.length) [] 0 (l++new).length none e,⟨L,hp'⟩)∧hp'.length=hp.length+1∧hp'[hp.length]?=some (.rw (.agg r (l++new)))∧(∀j,j<hp.length→¬G j→hp'[j]?=hp[j]?):=by
 have he':e%2=0∨bi true (.agg 1 (l++new))=true:=he.imp_right fun h=>by simp only[AG,B9,h,Bool.or_true]
 rw[zV h.shape hy (h.elems L) h2 hn hm he',List.length_append];cases h with
 |nil=>exact⟨hp++[.rw (.agg r ([]++new))],rfl,by simp,by simp,fun j hj _=>List.getElem?_append_left hj⟩
 |emp a p o=>
  have:(0:Nat)<new.length:=List.length_pos_iff.2 hn;refine⟨hp++[.rw (.agg r ([]++new))],?_,by simp,by simp,fun j hj _=>List.getElem?_append_left hj⟩;simp only[uN,Option.map_some,List.length_nil,Nat.zero_add,this,decide_true,if_true];rfl
 |blk a c l hc hg hb=>
  have:(0:Nat)<new.length:=List.length_pos_iff.2 hn;rcases hc with rfl|rfl
  ·refine⟨hp.set a .dead++[.rw (.agg r (l++new))],?_,by simp,by simp,fun j hj hj'=> ?_⟩
   ·have hat:(⟨L,hp⟩:St).at (.hp a)=some (.rw (.agg r l)):=hb;simp only[uN,Option.map_none,hat];simp[St.set,St.fresh,St.new]
   ·rw[List.getElem?_append_left (by simpa using hj),List.getElem?_set_ne fun e=>hj' (by rw[←e];exact hg)]
  ·refine⟨hp++[.rw (.agg r (l++new))],?_,by simp,by simp,fun j hj _=>List.getElem?_append_left hj⟩;simp only[uN,Option.map_some,show l.length<l.length+new.length by omega,decide_true,if_true];rfl
end
def cv (k n:Nat) (cp:Option Nat) (off burns:Bool) (left lu:Int):V:= .agg 59 [.sl (.hp k) [] 0 n cp 55,.bool off,.bool burns,.int .i64 left,.int .i64 lu]
def A0 (q:Nat) (v:Int):V:= .agg 84 [.int .i64 q,.int .u64 v]
def Dn.v1 (d:Dn):V:=A0 d.w d.v
def flV (l:List Dn):V:= .agg 50 (tab 8 fun c=> .int .i64 (flN c l:Nat))
def plV (S:List Int) (l:List Dn) (sv:V):V:=nlV (lnV (au S l)) (lnV S) sv (flV l)
structure aI (hp:List Blk) (F:Ft) (m:Nat) (M:AM):Prop where
 ok:M.Ok
 inn:Inn hp F
 fm:F m
 mb:∃k,F k∧m≠k∧(∃cp left,hp[m]?=some (.rw (cv k M.n cp M.off (decide (0≤M.left)) left M.count))∧(cp=none∨cp=some M.n)∧(0≤M.left→left=M.left))∧
  ∃(sv:Nat→V) (ow:Nat→Nat),hp[k]?=some (.rw (.agg 57 (tab M.n fun i=>plV (M.S i) (M.L i) (sv i))))∧∀i,i<M.n→SlR hp (fun j=>F j∧j≠m∧j≠k∧ow j=i) 84 86 (sv i) ((M.L i).map Dn.v1)
theorem aI.eqv {hp hp':List Blk}{F:Ft}{m:Nat}{M:AM}(h:aI hp F m M) (he:Eqv hp hp' F) (hl:hp.length≤hp'.length):aI hp' F m M:=by obtain⟨k,fk,ne,⟨cp,left,h1,h2,h3⟩,sv,ow,h4,h5⟩:=h.mb;exact⟨h.ok,fun j hj=>Nat.lt_of_lt_of_le (h.inn j hj) hl,h.fm,k,fk,ne,⟨cp,left,by rw[he m h.fm];exact h1,h2,h3⟩,sv,ow,by rw[he k fk];exact h4,fun i hi=>(h5 i hi).eqv (fun j hj=>he j hj.1) fun j hj=>hj⟩
theorem aI.chg {hp hp':List Blk}{F G G':Ft}{m:Nat}{M:AM}(h:aI hp F m M) (hc:Chg hp hp' G G') (ha:fG G F):aI hp' F m M:=h.eqv (hc.eqv ha h.inn) hc.le
theorem IH (c:Nat) (l:List Dn) (w:Nat) (v:Int):flN c (l++[Dn.mk0 w v])=flN c l:=by
 induction l with
 |nil=>rfl
 |cons d l ih=>simp only[List.cons_append,flN,ih]
theorem rK {hp:List Blk}{F:Ft}{m:Nat}{M:AM}(h:aI hp F m M) (L:List Blk):rf D gC [.ptr (.hp m) [] 59] ⟨L,hp⟩=some (.int .i64 M.n,⟨L,hp⟩):=by obtain⟨k,fk,ne,⟨cp,left,h1,h2,h3⟩,sv,ow,h4,h5⟩:=h.mb;simp only[cv]at h1;rw[ab yD rfl];simp only[go_sem,h1]
theorem DI {hp L:List Blk}{k n m:Nat}{cp:Option Nat}{off burns:Bool}{left lu:Int}(hs:hp[m]?=some (.rw (cv k n cp off burns left lu))) (i:Int):rf D pR [.ptr (.hp m) [] 59,.int .i64 i] ⟨L,hp⟩=
 some (if 0≤i∧i<n then .ptr (.hp k) [i.toNat] 55 else .nilp,⟨L,hp⟩):=by
 simp only[cv]at hs;rw[ab Da rfl];by_cases h1:i<0
 ·rw[if_neg (by omega)];simp only[go_sem,h1]
 ·by_cases h2:(n:Int)≤i
  ·rw[if_neg (by omega)];simp only[go_sem,h1,h2,hs]
  ·obtain⟨j,rfl⟩:∃j:Nat,i=j:=⟨i.toNat,by omega⟩;rw[if_pos (by omega)];have d2:(j:Int)<n:=by omega
   have d3:(0:Int)≤j:=by omega
   rw[Zh];simp only[go_sem,h1,h2,hs,d2,d3];simp
theorem jr {hp:List Blk}{F:Ft}{m:Nat}{M:AM}(h:aI hp F m M) (i:Int) (L:List Blk):rf D nC [.ptr (.hp m) [] 59,.int .i64 i] ⟨L,hp⟩=some (.tup [lnV (M.load i).1,.int .i64 (M.load i).2],⟨L,hp⟩):=by
 obtain⟨k,fk,ne,⟨cp,left,h1,h2,h3⟩,sv,ow,h4,h5⟩:=h.mb;have ha:=fun L=>DI (L:=L) h1 i;unfold AM.load;simp only[cv]at h1;by_cases hi:i<0∨(M.n:Int)≤i
 ·rw[if_neg (by omega)]at ha;rw[if_pos hi,ab sO rfl];have e:lnV zl= .agg 24 (List.replicate 8 (.int .u64 0)):=rfl;simp only[e];simp only[go_sem,ha]
 ·rw[if_pos (by omega)]at ha;rw[if_neg hi];obtain⟨j,rfl⟩:∃j:Nat,i=j:=⟨i.toNat,by omega⟩;simp only[Zh]at ha⊢;have g:=av (f:=fun i=>plV (M.S i) (M.L i) (sv i)) (show j<M.n by omega);unfold AM.now;simp only[plV,nlV,lnV]at*;generalize(tab M.n fun i=>V.agg 55 [V.agg 24 ((au (M.S i) (M.L i)).map (V.int .u64)),V.agg 24 ((M.S i).map (V.int .u64)),sv i,flV (M.L i)])=T at*;rw[ab sO rfl];cases ho:M.off
  ·rw[ho]at h1;simp only[go_sem,ha,h1,h4,g]
  ·rw[ho]at h1;have e:zl.map (V.int .u64)=List.replicate 8 (.int .u64 0):=rfl;simp only[e,if_true];simp only[go_sem,ha,h1]
theorem Ew {hp:List Blk}{k n m:Nat}{cp:Option Nat}{off burns:Bool}{left lu:Int}(hs:hp[m]?=some (.rw (cv k n cp off burns left lu))) (L:List Blk) (h0:0≤lu) (h1:lu<1000000000) (h2:burns=true→0≤left) (h3:burns=true→left<9223372036854775808):
 rf D fj [.ptr (.hp m) [] 59] ⟨L,hp⟩=if off=true∨(burns=true∧left=0)then some (.int .i64 4,⟨L,hp.set m (.rw (cv k n cp true burns left lu))⟩)else
  some (.int .i64 0,⟨L,hp.set m (.rw (cv k n cp false burns (if burns=true then left-1 else left) (lu+1)))⟩):=by
 have hm:=aj hs;have hset:∀b,(hp.set m b)[m]?=some b:=fun b=>List.getElem?_set_self hm;have w1:IntKind.i64.wrap (lu+1)=lu+1:=ae (by omega) (by omega);simp only[cv]at hs⊢;rw[ab z9 rfl];cases burns
 ·cases off
  ·simp only[go_sem,hs,w1]
  ·simp only[go_sem,hs];rw[xe hs]
 ·have h2:=h2 rfl;have h3:=h3 rfl;by_cases hz:left=0
  ·subst hz;simp only[go_sem,hs,hset,or_true]
  ·have w2:IntKind.i64.wrap (left-1)=left-1:=ae (by omega) (by omega);cases off
   ·simp only[go_sem,hs,hz,hset,w1,w2,List.set_set]
   ·simp only[go_sem,hs,hz];rw[xe hs]
theorem AM.Ok.out {M:AM}(h:M.Ok):M.out.Ok:=⟨h.n0,h.n1,h.l8,h.w8,h.c0,h.len,h.lf,h.lg⟩
theorem AM.Ok.stepped {M:AM}(h:M.Ok):M.stepped.Ok:=⟨h.n0,h.n1,h.l8,h.w8,by have:=h.c0;simp only[AM.stepped];omega,fun i hi=>by have:=h.len i hi;simp only[AM.stepped];omega,by have:=h.lf;simp only[AM.stepped];split<;>omega,by have:=h.lg;simp only[AM.stepped];split<;>omega⟩
theorem AM.Ok.pushed {M:AM}(h:M.Ok) {i:Nat}{d:Dn}(hd:d.w<8):(M.stepped.push i d).Ok:=by
 refine⟨h.n0,h.n1,h.l8,fun j hj=> ?_,by have:=h.c0;simp only[AM.push,AM.stepped];omega,fun j hj=> ?_,by have:=h.lf;simp only[AM.push,AM.stepped];split<;>omega,by have:=h.lg;simp only[AM.push,AM.stepped];split<;>omega⟩
 ·simp only[AM.push,AM.stepped];by_cases e:j=i
  ·subst e;rw[al];intro x hx;rcases List.mem_append.1 hx with hx|hx
   ·exact h.w8 j hj x hx
   ·rw[List.mem_singleton.1 hx];exact hd
  ·rw[aw e];exact h.w8 j hj
 ·have:=h.len j hj;simp only[AM.push,AM.stepped];by_cases e:j=i
  ·subst e;rw[al,List.length_append];simp only[List.length_cons,List.length_nil];omega
  ·rw[aw e];omega
theorem AM.Ok.store {M:AM}(h:M.Ok) {i q v:Int}:(M.store i q v).1.Ok:=by
 unfold AM.store;split
 ·exact h
 ·split
  ·exact h.out
  ·exact h.pushed (by simp only[Dn.mk0];omega)
theorem AM.store_n {M:AM}{i q v:Int}:(M.store i q v).1.n=M.n:=by unfold AM.store;split<;>(try split)<;>rfl
theorem AM.store_count {M:AM}{i q v:Int}:(M.store i q v).1.count≤M.count+1:=by unfold AM.store;split<;>(try split)<;>simp only[AM.out,AM.push,AM.stepped]<;>omega
theorem aI.setm {hp:List Blk}{F:Ft}{m:Nat}{M M':AM}(h:aI hp F m M) (ok:M'.Ok) (hn:M'.n=M.n) (hS:M'.S=M.S) (hL:M'.L=M.L) {k:Nat}{cp:Option Nat}{left left':Int}{o b:Bool}{c:Int}(hb:hp[m]?=some (.rw (cv k M.n cp o b left c))) (hl:0≤M'.left→left'=M'.left):
 aI (hp.set m (.rw (cv k M.n cp M'.off (decide (0≤M'.left)) left' M'.count))) F m M'∧Chg hp (hp.set m (.rw (cv k M.n cp M'.off (decide (0≤M'.left)) left' M'.count))) F F:=by
 obtain⟨k',fk,ne,⟨cp',left1,h1,h2,h3⟩,sv,ow,h4,h5⟩:=h.mb;rw[hb]at h1;have h1:=Option.some.inj h1;simp only[cv,Blk.rw.injEq,V.agg.injEq,List.cons.injEq,V.sl.injEq,Loc.hp.injEq,true_and,and_true]at h1;obtain⟨⟨rfl,rfl⟩,_⟩:=h1;refine⟨⟨ok,h.inn.set,h.fm,k,fk,ne,⟨cp,left',?_,by rw[hn];exact h2,hl⟩,sv,ow,?_,fun i hi=> ?_⟩,iH.mono (fun j hj=>by cases hj;exact h.fm) fun _=> .inr⟩
 ·rw[hn,List.getElem?_set_self (aj hb)]
 ·rw[List.getElem?_set_ne ne,hn,hS,hL];exact h4
 ·rw[hn]at hi;rw[hL];exact(h5 i hi).eqv (fun j hj=>List.getElem?_set_ne (Ne.symm hj.2.1)) fun j hj=>hj
theorem iz {hp:List Blk}{F:Ft}{m:Nat}{M:AM}(h:aI hp F m M) (hc:M.count<1000000) (i q v:Int) (L:List Blk):
 ∃hp' F',rf D gp [.ptr (.hp m) [] 59,.int .i64 i,.int .i64 q,.int .u64 v] ⟨L,hp⟩=some (.int .i64 (M.store i q v).2,⟨L,hp'⟩)∧aI hp' F' m (M.store i q v).1∧Chg hp hp' F F':=by
 have hM:=h;obtain⟨k,fk,ne,⟨cp,left,h1,h2,h3⟩,sv,ow,h4,h5⟩:=h.mb;have ha:=fun L=>DI (L:=L) h1 i;have ok:=h.ok;have hc0:=ok.c0;unfold AM.store;by_cases hi:i<0∨(M.n:Int)≤i
 ·rw[if_neg (by omega)]at ha;rw[if_pos (by omega)];refine⟨hp,F,?_,hM,.refl _ _⟩;rw[ab jA rfl];simp only[go_sem,ha]
 ·rw[if_pos (by omega)]at ha;by_cases hq:q<0∨8≤q
  ·rw[if_pos (by omega)];refine⟨hp,F,?_,hM,.refl _ _⟩;rw[ab jA rfl];by_cases hq0:q<0
   ·simp only[go_sem,ha,hq0]
   ·have hq8:8≤q:=by omega
    simp only[go_sem,ha,hq0,hq8]
  ·rw[if_neg (by omega)];obtain⟨j,rfl⟩:∃j:Nat,i=j:=⟨i.toNat,by omega⟩;obtain⟨p,rfl⟩:∃p:Nat,q=p:=⟨q.toNat,by omega⟩;simp only[Zh]at ha⊢;have d1:¬(p:Int)<0:=by omega
   have d2:¬(8:Int)≤p:=by omega
   have d3:(p:Int)<8:=by omega
   have d4:(0:Int)≤p:=by omega
   have lf:=ok.lf;have hstep:=fun L=>Ew (L:=L) h1 hc0 (by omega) (fun hb=>by have hb:=of_decide_eq_true hb;rw[h3 hb];exact hb);by_cases hd:M.dead=true
   ·rw[if_pos hd];have hd':M.off=true∨M.left=0:=by simpa[AM.dead]using hd
    obtain⟨g1,g2⟩:=hM.setm (M':=M.out) ok.out rfl rfl rfl h1 (left':=left) (by simpa[AM.out]using h3);refine⟨_,F,?_,g1,g2⟩;have hst:∀L,rf D fj [.ptr (.hp m) [] 59] ⟨L,hp⟩=some (.int .i64 4,⟨L,hp.set m (.rw (cv k M.n cp M.out.off (decide (0≤M.out.left)) left M.out.count))⟩):=fun L=>by
     rw[hstep L (fun hb=>by rw[h3 (of_decide_eq_true hb)];have:=ok.lg;omega),if_pos]
     ·rfl
     ·rcases hd' with hd'|hd'
      ·exact .inl hd'
      ·exact .inr ⟨by simp[hd'],by rw[h3 (by omega)];exact hd'⟩
    generalize hp.set m (.rw (cv k M.n cp M.out.off (decide (0≤M.out.left)) left M.out.count))=H at*;rw[ab jA rfl];simp only[go_sem,ha,d1,d2,hst]
   ·rw[if_neg hd];have hd':M.off=false∧¬M.left=0:=by simpa[AM.dead]using hd
    have hlv:0≤M.stepped.left→(if decide (0≤M.left)=true then left-1 else left)=M.stepped.left:=by
     intro hh;simp only[AM.stepped,Zi]at hh⊢;split at hh
     ·rw[if_pos (by omega),if_pos (by omega),h3 (by omega)]
     ·omega
    have hbe:decide (0≤M.stepped.left)=decide (0≤M.left):=by apply decide_eq_decide.2;simp only[AM.stepped];split<;>omega
    obtain⟨g1,g2⟩:=hM.setm (M':=M.stepped) ok.stepped rfl rfl rfl h1 hlv;have hst:∀L,rf D fj [.ptr (.hp m) [] 59] ⟨L,hp⟩=some (.int .i64 0,⟨L,hp.set m (.rw (cv k M.n cp M.stepped.off (decide (0≤M.stepped.left)) (if decide (0≤M.left)=true then left-1 else left) M.stepped.count))⟩):=fun L=>by
     rw[hstep L (fun hb=>by rw[h3 (of_decide_eq_true hb)];have:=ok.lg;omega),if_neg,hbe]
     ·rw[show M.stepped.off=M.off from rfl,hd'.1];rfl
     ·rintro(hh|⟨hh,hz⟩)
      ·rw[hd'.1]at hh;cases hh
      ·exact hd'.2 (by rw[←h3 (of_decide_eq_true hh)];exact hz)
    have hm1:(hp.set m (.rw (cv k M.n cp M.stepped.off (decide (0≤M.stepped.left)) (if decide (0≤M.left)=true then left-1 else left) M.stepped.count)))[m]?=_:=List.getElem?_set_self (aj h1)
    generalize hH:hp.set m (.rw (cv k M.n cp M.stepped.off (decide (0≤M.stepped.left)) (if decide (0≤M.left)=true then left-1 else left) M.stepped.count))=H at*
    have hHl:H.length=hp.length:=by rw[←hH,List.length_set]
    clear hH h4 h5 sv ow;obtain⟨k',fk',ne',⟨cp',left',q1,q2,q3⟩,sv,ow,q4,q5⟩:=g1.mb;rw[q1]at hm1;have hm1:=Option.some.inj hm1;simp only[cv,Blk.rw.injEq,V.agg.injEq,List.cons.injEq,V.sl.injEq,Loc.hp.injEq,true_and,and_true]at hm1;obtain⟨⟨hkk,_⟩,_⟩:=hm1;subst hkk;have e1:M.stepped.n=M.n:=rfl;have e2:M.stepped.S=M.S:=rfl;have e3:M.stepped.L=M.L:=rfl;rw[e1,e2,e3]at q4;rw[e1,e3]at q5;have hj:j<M.n:=by omega
    have hp8:p<8:=by omega
    have g:=av (f:=fun i=>plV (M.S i) (M.L i) (sv i)) hj;have h8:=ok.l8 j hj;have gq:((au (M.S j) (M.L j)).map (V.int .u64))[p]?=some (.int .u64 ((au (M.S j) (M.L j)).getD p 0)):=am (by rw[pS];omega) 0;have hlen:=ok.len j hj;let T1:=(tab M.n fun i=>plV (M.S i) (M.L i) (sv i)).set j (nlV (lnV ((au (M.S j) (M.L j)).set p v)) (lnV (M.S j)) (sv j) (flV (M.L j)));let h2':=H.set k' (.rw (.agg 57 T1));have hs2:SlR h2' (fun x=>F x∧x≠m∧x≠k'∧ow x=j) 84 86 (sv j) ((M.L j).map Dn.v1):=(q5 j hj).eqv (fun x hx=>List.getElem?_set_ne (Ne.symm hx.2.2.1)) fun _ hx=>hx;have hy:∀L2,St.elems ⟨L2++[.rw (.agg 86 [A0 p v])],h2'⟩ (.sl (.loc L2.length) [] 0 1 (some 1) 84)=some [A0 p v]:=fun L2=>cR (t:=86) (by simp[tA,xm,nX]) rfl;obtain⟨h3',r1,r2,r3,r4⟩:=hs2.push (base:=L.length) (L++[.rw (.agg 86 [A0 p v])]) (.inr ⟨_,_,_,_,_,rfl⟩) (hy L) (by simp) (by simp[cg];omega) (.inl rfl);have l2:h2'.length=hp.length:=by simp[h2',hHl]
    let NV:=V.sl (.hp h2'.length) [] 0 ((M.L j).map Dn.v1++[A0 p v]).length none 84;let T2:=T1.set j (nlV (lnV ((au (M.S j) (M.L j)).set p v)) (lnV (M.S j)) NV (flV (M.L j)));have hT2:T2=tab M.n fun i=>plV (M.S i) (upd M.L j (M.L j++[Dn.mk0 p v]) i) (upd sv j NV i):=by
     show((tab M.n _).set j _).set j _=_;rw[List.set_set,dg];apply bp;intro i _;by_cases e:i=j
     ·subst e;rw[al,al,al];simp only[plV,mW,au,Dn.mk0];have:flV (M.L i++[⟨p,v,fun _=>false⟩])=flV (M.L i):=by unfold flV;congr 1;apply bp;intro c _;rw[show(⟨p,v,fun _=>false⟩:Dn)=Dn.mk0 p v from rfl,IH]
      rw[this]
     ·rw[aw e,aw e,aw e]
    have hkl:k'<H.length:=aj q4;have hml:m<H.length:=aj q1;have a2:h2'[k']?=some (.rw (.agg 57 T1)):=List.getElem?_set_self hkl;have a3:h3'[k']?=some (.rw (.agg 57 T1)):=by rw[r4 k' (by omega) (fun hx=>hx.2.2.1 rfl)];exact a2
    have t1:T1[j]?=some (nlV (lnV ((au (M.S j) (M.L j)).set p v)) (lnV (M.S j)) (sv j) (flV (M.L j))):=List.getElem?_set_self (by rw[iI];exact hj);have old:∀x,x<hp.length→x≠k'→¬(F x∧x≠m∧x≠k'∧ow x=j)→(h3'.set k' (.rw (.agg 57 T2)))[x]?=H[x]?:=fun x hx hxk hxj=>by rw[List.getElem?_set_ne (Ne.symm hxk),r4 x (by omega) hxj];exact List.getElem?_set_ne (Ne.symm hxk)
    refine⟨h3'.set k' (.rw (.agg 57 T2)),fun x=>F x∨x=hp.length,?_,⟨ok.pushed hp8,fun x hx=> ?_,.inl h.fm,k',.inl fk',ne',⟨cp',left',?_,q2,q3⟩,upd sv j NV,upd ow hp.length j,?_,fun i hi=> ?_⟩,⟨by simp;omega,fun x hx hn=> ?_,fun x hx=> ?_⟩⟩
    ·have b2:H.set k' (.rw (.agg 57 ((tab M.n fun i=>plV (M.S i) (M.L i) (sv i)).set j (nlV (lnV ((au (M.S j) (M.L j)).set p v)) (lnV (M.S j)) (sv j) (flV (M.L j))))))=h2':=rfl;have b3:T1.set j (nlV (lnV ((au (M.S j) (M.L j)).set p v)) (lnV (M.S j)) NV (flV (M.L j)))=T2:=rfl;have ts:V.tag NV=1:=rfl;have tl:V.locLt 0 NV=true:=rfl;change aD _ _ _ _ _ _ _=some (NV,_)at r1;clear_value h2' T1 T2 NV;generalize(tab M.n fun i=>plV (M.S i) (M.L i) (sv i))=T0 at*;have hsv:=(q5 j hj).tag;simp only[plV,nlV,lnV,A0,List.map_set]at*;rw[ab jA rfl];simp only[go_sem,List.replicate,ha,hst,d1,d2,d3,d4,Zh,q4,g,gq,b2];simp only[go_sem,List.replicate,a2,t1,r1,a3,ts,tl,b3]
    ·rw[List.length_set,r2];rcases hx with hx|rfl
     ·have:=h.inn x hx;omega
     ·omega
    ·have e4:(M.stepped.push j (Dn.mk0 p v)).n=M.n:=rfl;have:H[m]?=_:=q1;rw[old m (by omega) ne' (fun hx=>hx.2.1 rfl)];exact q1
    ·rw[hT2];exact List.getElem?_set_self (by omega)
    ·have e5:(M.stepped.push j (Dn.mk0 p v)).L i=upd M.L j (M.L j++[Dn.mk0 p v]) i:=rfl;rw[e5];by_cases e:i=j
     ·subst e;rw[al,al,List.map_append];refine .blk _ none _ (.inl rfl) ⟨.inr l2,?_,?_,?_⟩ ?_
      ·rw[l2];omega
      ·rw[l2];omega
      ·rw[l2,al]
      ·rw[List.getElem?_set_ne (by omega)];exact r3
     ·rw[aw e,aw e];refine(q5 i hi).eqv (fun x hx=> ?_) fun x hx=>⟨.inl hx.1,hx.2.1,hx.2.2.1,?_⟩
      ·exact old x (by have:=h.inn x hx.1;omega) hx.2.2.1 fun hx2=>e (hx.2.2.2.symm.trans hx2.2.2.2)
      ·rw[aw (by have:=h.inn x hx.1;omega)];exact hx.2.2.2
    ·rw[old x hx (fun e=>hn (by rw[e];exact fk')) fun h9=>hn h9.1];exact g2.old x hx hn
    ·rcases hx with hx|rfl
     ·exact .inl hx
     ·exact .inr (Nat.le_refl _)
structure AS where
 M:AM
 A:AF
 work:Nat→Ent
 base:Nat→Ent
 dir:Nat→Int
 mark:Nat→Ent
 is:Bool
def as0 (M:AM) (A:AF) (t:Nat→Ent) (d:Nat→Int):AS:=⟨M,A,t,t,d,fun _=>an,false⟩
def AS.sh (x:AS):Nat→Bool:=AO x.base x.mark x.is
def AS.own (x:AS) (i:Nat):Bool:= !x.sh (x.work i).line.toNat
structure oK (A:AF) (t:Nat→Ent):Prop where
 inn:∀i,i<49→(t i).kind≠0→(A.f:Int)≤(t i).line∧(t i).line<A.l
structure AS.Ok (x:AS):Prop where
 M:x.M.Ok
 A:x.A.Ok
 l:x.A.l=x.M.n
 w:oK x.A x.work
 b:oK x.A x.base
 k:oK x.A x.mark
 s2:∀j,x.A.st j≠2
theorem oK.inL {A:AF}{t:Nat→Ent}(h:oK A t) (hA:A.Ok):InL t:=⟨fun i hi hk=>by have:=h.inn i hi hk;have:=hA.l1;omega⟩
def AM.layFrom (M:AM) (at':Int) (l:List Int):Nat→Nat→AM×Int
 |_,0=>(M,0)
 |j,n+1=>if(M.store at' j (l.getD j 0)).2≠0 then M.store at' j (l.getD j 0)else(M.store at' j (l.getD j 0)).1.layFrom at' l (j+1) n
def AS.lay (x:AS) (l:List Int):AS×Int×Int:=
 if x.A.alloc.2.2≠0 then(x,0,x.A.alloc.2.2)else
  ({x with A:=x.A.alloc.1,M:=(x.M.layFrom x.A.alloc.2.1 l 0 8).1},if(x.M.layFrom x.A.alloc.2.1 l 0 8).2≠0 then 0 else x.A.alloc.2.1,(x.M.layFrom x.A.alloc.2.1 l 0 8).2)
def Ent.at (e:Ent) (l:Int):Ent:=⟨e.kind,e.ver,l⟩
def AS.set (x:AS) (id word v:Int):AS×Int:=
 if id<0∨49≤id∨word<0∨8≤word then(x,1)
 else if(x.work id.toNat).kind=0 then(x,30)
 else if x.own id.toNat then({x with M:=(x.M.store (x.work id.toNat).line word v).1},(x.M.store (x.work id.toNat).line word v).2)
 else if x.A.left=0 then(x,10)
 else if(x.M.load (x.work id.toNat).line).2≠0 then(x,(x.M.load (x.work id.toNat).line).2)
 else
  let r:=x.lay ((x.M.load (x.work id.toNat).line).1.set word.toNat v)
  if r.2.2≠0 then(r.1,r.2.2)else({r.1 with work:=updE x.work id.toNat ((x.work id.toNat).at r.2.1)},0)
def aT (t:Nat→Ent) (j:Nat):Bool:=(List.range 49).any fun i=>decide ((t i).kind≠0)&&decide ((t i).line=j)
def ux (d:Nat→Int) (j:Nat):Bool:=(List.range 8).any fun i=>decide (d i=j)
def AS.freed (x:AS):AS:={x with A:={x.A with st:=fun j=>if x.A.inr j&& !(aT x.base j||aT x.work j||ux x.dir j)&&decide (x.A.st j=1)then 0 else x.A.st j}}
def AS.commit (x:AS) (d:Nat→Int):AS×Int:=if x.is then({x with base:=x.mark,dir:=d,is:=false:AS}.freed,0)else(x,3)
def AS.abort (x:AS):AS×Int:=if x.is then({x with is:=false:AS}.freed,0)else(x,3)
def AS.get (x:AS) (id:Int):Obj×Int:=
 if gE x.work id≠0 then(⟨0,0,zl⟩,gE x.work id)
 else if(x.M.load (x.work id.toNat).line).2≠0 then(⟨0,0,zl⟩,(x.M.load (x.work id.toNat).line).2)
 else(⟨(x.work id.toNat).kind,(x.work id.toNat).ver,(x.M.load (x.work id.toNat).line).1⟩,0)
def AS.take (x:AS):AS×Int×Int:=({x with A:=x.A.alloc.1},x.A.alloc.2.1,x.A.alloc.2.2)
theorem AM.Ok.layFrom {at':Int}{l:List Int}:∀{n j:Nat}{M:AM},M.Ok→(M.layFrom at' l j n).1.Ok
 |0,_,_,h=>h
 |n+1,j,M,h=>by
  simp only[AM.layFrom];split
  ·exact h.store
  ·exact AM.Ok.layFrom h.store
theorem AM.layFrom_n {at':Int}{l:List Int}:∀{n j:Nat}{M:AM},(M.layFrom at' l j n).1.n=M.n
 |0,_,_=>rfl
 |n+1,j,M=>by
  simp only[AM.layFrom];split
  ·exact AM.store_n
  ·rw[AM.layFrom_n,AM.store_n]
theorem AM.layFrom_count {at':Int}{l:List Int}:∀{n j:Nat}{M:AM},(M.layFrom at' l j n).1.count≤M.count+n
 |0,_,_=>by simp[AM.layFrom]
 |n+1,j,M=>by
  have h1:=AM.store_count (M:=M) (i:=at') (q:=j) (v:=l.getD j 0);simp only[AM.layFrom];split
  ·omega
  ·have:=AM.layFrom_count (at':=at') (l:=l) (n:=n) (j:=j+1) (M:=(M.store at' j (l.getD j 0)).1);omega
theorem oK.of {A B:AF}{t:Nat→Ent}(h:oK A t) (hf:B.f=A.f) (hl:B.l=A.l):oK B t:=⟨fun i hi hk=>by rw[hf,hl];exact h.inn i hi hk⟩
theorem jF {A:AF}:A.alloc.1.f=A.f∧A.alloc.1.l=A.l:=by unfold AF.alloc;split<;>exact⟨rfl,rfl⟩
theorem Ix {A:AF}(hA:A.Ok) (h:A.alloc.2.2=0):(A.f:Int)≤A.alloc.2.1∧A.alloc.2.1<A.l:=by
 unfold AF.alloc at h⊢;split at h
 ·rename_i i hi;have:=nc hA hi;simp only;omega
 ·cases h
theorem oK.updE {A:AF}{t:Nat→Ent}(h:oK A t) {i:Nat}{e:Ent}(he:e.kind≠0→(A.f:Int)≤e.line∧e.line<A.l):oK A (updE t i e):=⟨fun j hj hk=>by
 unfold YtilcajpldklbiaaGreatDoor.updE at hk⊢;split at hk
 ·rename_i e;rw[if_pos e];exact he hk
 ·rename_i e;rw[if_neg e];exact h.inn j hj hk⟩
theorem XZ {t:Nat→Ent}(h:∀i,i<49→0≤(t i).ver∧(t i).ver≤16777215) {i:Nat}{e:Ent}(he:0≤e.ver∧e.ver≤16777215):∀j,j<49→0≤(updE t i e j).ver∧(updE t i e j).ver≤16777215:=fun j hj=>by
 unfold updE;split
 ·exact he
 ·exact h j hj
theorem O3 {A:AF}(h:∀j,A.st j≠2) {k:Nat}{x:Int}(hx:x≠2):∀j,(A.put k x).st j≠2:=fun j=>by
 simp only[AF.put];by_cases e:j=k
 ·subst e;rw[al];exact hx
 ·rw[aw e];exact h j
theorem Cm {A:AF}(h:∀j,A.st j≠2):∀j,A.alloc.1.st j≠2:=by
 unfold AF.alloc;split
 ·exact O3 h (by decide)
 ·exact h
theorem AS.Ok.with {x:AS}(h:x.Ok) {M:AM}{A:AF}(hM:M.Ok) (hn:M.n=x.M.n) (hA:A.Ok) (hs:∀j,A.st j≠2) (hf:A.f=x.A.f) (hl:A.l=x.A.l):AS.Ok {x with M:=M,A:=A}:=
 ⟨hM,hA,by simp only;rw[hl,hn];exact h.l,h.w.of hf hl,h.b.of hf hl,h.k.of hf hl,hs⟩
theorem AS.Ok.lay {x:AS}(h:x.Ok) (l:List Int):(x.lay l).1.Ok:=by
 unfold AS.lay;split
 ·exact h
 ·exact h.with h.M.layFrom AM.layFrom_n h.A.alloc (Cm h.s2) jF.1 jF.2
theorem AS.lay_work {x:AS}(l:List Int):(x.lay l).1.work=x.work∧(x.lay l).1.base=x.base∧(x.lay l).1.mark=x.mark∧(x.lay l).1.is=x.is∧(x.lay l).1.dir=x.dir∧(x.lay l).1.A.f=x.A.f∧(x.lay l).1.A.l=x.A.l:=by
 unfold AS.lay;split
 ·exact⟨rfl,rfl,rfl,rfl,rfl,rfl,rfl⟩
 ·exact⟨rfl,rfl,rfl,rfl,rfl,jF.1,jF.2⟩
theorem AS.lay_range {x:AS}(h:x.Ok) {l:List Int}(he:(x.lay l).2.2=0):(x.A.f:Int)≤(x.lay l).2.1∧(x.lay l).2.1<x.A.l:=by
 unfold AS.lay at he⊢;split at he
 ·rename_i h1;exact absurd he h1
 ·rename_i h1;rw[if_neg h1];simp only at he⊢;rw[if_neg (by rw[he];simp)];exact Ix h.A (by simpa using h1)
theorem AS.lay_count {x:AS}(l:List Int):(x.lay l).1.M.count≤x.M.count+8:=by
 unfold AS.lay;split
 ·simp only;omega
 ·exact AM.layFrom_count
theorem AS.Ok.table {x:AS}(h:x.Ok) {w:Nat→Ent}(hw:w=x.work) {i:Nat}{e:Ent}(he:e.kind≠0→(x.A.f:Int)≤e.line∧e.line<x.A.l):AS.Ok {x with work:=updE w i e}:=hw▸
 ⟨h.M,h.A,h.l,h.w.updE he,h.b,h.k,h.s2⟩
theorem AS.Ok.set {x:AS}(h:x.Ok) (id word v:Int):(x.set id word v).1.Ok:=by
 unfold AS.set;split
 ·exact h
 ·rename_i h0;split
  ·exact h
  ·split
   ·exact h.with h.M.store AM.store_n h.A h.s2 rfl rfl
   ·split
    ·exact h
    ·split
     ·exact h
     ·have hl:=h.lay ((x.M.load (x.work id.toNat).line).1.set word.toNat v);simp only;split
      ·exact hl
      ·rename_i h6;refine hl.table (AS.lay_work _).1.symm (fun _=> ?_);have:=AS.lay_range h (by simpa using h6);rw[(AS.lay_work _).2.2.2.2.2.1,(AS.lay_work _).2.2.2.2.2.2];exact this
theorem AS.set_count {x:AS}(id word v:Int):(x.set id word v).1.M.count≤x.M.count+8:=by
 unfold AS.set;split
 ·simp only;omega
 ·split
  ·simp only;omega
  ·split
   ·have:=AM.store_count (M:=x.M) (i:=(x.work id.toNat).line) (q:=word) (v:=v);simp only;omega
   ·split
    ·simp only;omega
    ·split
     ·simp only;omega
     ·have hl:=AS.lay_count (x:=x) ((x.M.load (x.work id.toNat).line).1.set word.toNat v);simp only;split
      ·exact hl
      ·exact hl
theorem RG {t:Nat→Ent}{id:Int}(h:gE t id=0):0≤id∧id<49∧(t id.toNat).kind≠0:=by
 unfold gE at h;split at h
 ·cases h
 ·split at h
  ·cases h
  ·rename_i h1 h2;exact⟨by omega,by omega,h2⟩
theorem AS.Ok.freed {x:AS}(h:x.Ok):x.freed.Ok:=by
 unfold AS.freed;refine h.with h.M rfl ⟨h.A.fl,h.A.l1,fun j=> ?_⟩ (fun j=> ?_) rfl rfl
 ·have:=h.A.s3 j;simp only;split<;>omega
 ·have:=h.s2 j;simp only;split<;>omega
theorem AS.Ok.commit {x:AS}(h:x.Ok) (d:Nat→Int):(x.commit d).1.Ok:=by
 unfold AS.commit;split
 ·exact AS.Ok.freed ⟨h.M,h.A,h.l,h.w,h.k,h.k,h.s2⟩
 ·exact h
theorem AS.Ok.abort {x:AS}(h:x.Ok):x.abort.1.Ok:=by
 unfold AS.abort;split
 ·exact AS.Ok.freed ⟨h.M,h.A,h.l,h.w,h.b,h.k,h.s2⟩
 ·exact h
theorem AS.Ok.take {x:AS}(h:x.Ok):x.take.1.Ok:=h.with h.M rfl h.A.alloc (Cm h.s2) jF.1 jF.2
def pc:Nat→Nat→Nat
 |0,_=>0
 |n+1,w=>w%2+pc n (w/2)
theorem rW {a b x m:Nat}(ha:a<256) (hb:b<256):(a+256*x)&&&(b+256*m)=(a&&&b)+256*(x&&&m):=by
 have hab:a&&&b<256:=Nat.lt_of_le_of_lt Nat.and_le_left ha;apply Nat.eq_of_testBit_eq;intro j;have e:∀{c y:Nat},c<256→(c+256*y).testBit j=if j<8 then c.testBit j else y.testBit (j-8):=fun{c y} hc=>by rw[Nat.add_comm];exact Nat.testBit_two_pow_mul_add (i:=8) y hc j
 rw[Nat.testBit_and,e ha,e hb,e hab];split<;>simp[Nat.testBit_and]
def val:List Nat→Nat
 |[]=>0
 |b::l=>b+256*val l
def rep (c:Nat):Nat→Nat
 |0=>0
 |n+1=>c+256*rep c n
def s1 (b:Nat):Nat:=(b/2&&&85)+(b&&&85)
def s2 (b:Nat):Nat:=(b/4&&&51)+(b&&&51)
def s3 (b:Nat):Nat:=(b/16+b)&&&15
theorem wh {p:Nat→Bool}(h:(List.range 256).all p=true) {b:Nat}(hb:b<256):p b=true:=List.all_eq_true.1 h b (List.mem_range.2 hb)
theorem m1 {b t:Nat}(hb:b<256) (ht:t<2):(b/2+128*t)&&&85=b/2&&&85:=by
 have h:(List.range 256).all (fun b=>(List.range 2).all fun t=>((b/2+128*t)&&&85)==(b/2&&&85))=true:=by decide+kernel
 have:=wh h hb;simpa using List.all_eq_true.1 this t (List.mem_range.2 ht)
theorem m2 {b t:Nat}(hb:b<256) (ht:t<4):(b/4+64*t)&&&51=b/4&&&51:=by
 have h:(List.range 256).all (fun b=>(List.range 4).all fun t=>((b/4+64*t)&&&51)==(b/4&&&51))=true:=by decide+kernel
 have:=wh h hb;simpa using List.all_eq_true.1 this t (List.mem_range.2 ht)
def nib (b:Nat):Bool:=decide (b%16≤4)&&decide (b/16≤4)
theorem XB {b:Nat}(hb:b<256):nib (s2 (s1 b))=true:=by
 have h:(List.range 256).all (fun b=>nib (s2 (s1 b)))=true:=by decide+kernel
 exact wh h hb
theorem Xv {b:Nat}(hb:b<256):s1 b<256:=by
 have h:(List.range 256).all (fun b=>decide (s1 b<256))=true:=by decide+kernel
 simpa using wh h hb
theorem XM {b:Nat}(hb:b<256):s3 (s2 (s1 b))=pc 8 b:=by
 have h:(List.range 256).all (fun b=>s3 (s2 (s1 b))==pc 8 b)=true:=by decide+kernel
 simpa using wh h hb
theorem m3 {b t:Nat}(hb:nib b=true) (ht:t≤4):(b/16+b+16*t)<256∧(b/16+b+16*t)&&&15=s3 b:=by
 have h:(List.range 256).all (fun b=> !nib b||(List.range 5).all fun t=>decide ((b/16+b+16*t)<256)&&((b/16+b+16*t)&&&15)==s3 b)=true:=by decide+kernel
 have hb':=hb;simp only[nib,Zj,Zi]at hb';have:=wh h (b:=b) (by omega);simp only[hb,Bool.not_true,Bool.false_or]at this;simpa using List.all_eq_true.1 this t (List.mem_range.2 (by omega))
theorem S1:∀{l:List Nat},(∀b∈l,b<256)→((val l/2)&&&rep 85 l.length)+(val l&&&rep 85 l.length)=val (l.map s1)
 |[],_=>rfl
 |b::l,h=>by have hb:=h b (List.mem_cons_self ..);have ih:=S1 (l:=l) fun x hx=>h x (List.mem_cons_of_mem _ hx);simp only[val,rep,List.length_cons,List.map_cons];rw[show(b+256*val l)/2=(b/2+128*(val l%2))+256*(val l/2) by omega,rW (by omega) (by decide),rW hb (by decide),m1 hb (by omega),←ih];unfold s1;omega
theorem S2:∀{l:List Nat},(∀b∈l,b<256)→((val l/4)&&&rep 51 l.length)+(val l&&&rep 51 l.length)=val (l.map s2)
 |[],_=>rfl
 |b::l,h=>by have hb:=h b (List.mem_cons_self ..);have ih:=S2 (l:=l) fun x hx=>h x (List.mem_cons_of_mem _ hx);simp only[val,rep,List.length_cons,List.map_cons];rw[show(b+256*val l)/4=(b/4+64*(val l%4))+256*(val l/4) by omega,rW (by omega) (by decide),rW hb (by decide),m2 hb (by omega),←ih];unfold s2;omega
theorem SV:∀{l:List Nat},(∀b∈l,nib b=true)→val l%16≤4
 |[],_=>by decide
 |b::l,h=>by have hb:=h b (List.mem_cons_self ..);simp only[nib,Zj,Zi]at hb;simp only[val];omega
theorem S3:∀{l:List Nat},(∀b∈l,nib b=true)→((val l/16)+val l)&&&rep 15 l.length=val (l.map s3)
 |[],_=>rfl
 |b::l,h=>by have hb:=h b (List.mem_cons_self ..);have hl:=fun x hx=>h x (List.mem_cons_of_mem _ hx);have ih:=S3 (l:=l) hl;obtain⟨g1,g2⟩:=m3 hb (SV hl);simp only[val,rep,List.length_cons,List.map_cons];rw[show(b+256*val l)/16+(b+256*val l)=(b/16+b+16*(val l%16))+256*(val l/16+val l) by omega,rW g1 (by decide),g2,ih]
theorem Gu:∀(n m w:Nat),pc (n+m) w=pc n w+pc m (w/2^n)
 |0,m,w=>by simp[pc]
 |n+1,m,w=>by rw[show n+1+m=(n+m)+1 by omega];simp only[pc];rw[Gu n m (w/2),Nat.div_div_eq_div_mul,Nat.pow_succ,Nat.mul_comm 2,Nat.add_assoc]
theorem MX:∀(n w:Nat),pc n (w%2^n)=pc n w
 |0,w=>rfl
 |n+1,w=>by simp only[pc];rw[show w%2^(n+1)%2=w%2 by rw[Nat.pow_succ];exact Nat.mod_mod_of_dvd _ (Nat.dvd_mul_left 2 _)];rw[show w%2^(n+1)/2=(w/2)%2^n by rw[Nat.pow_succ,Nat.mul_comm,Nat.mod_mul_right_div_self],MX n]
def bytes:Nat→Nat→List Nat
 |0,_=>[]
 |n+1,w=>w%256::bytes n (w/256)
theorem EH:∀n w,(bytes n w).length=n
 |0,_=>rfl
 |n+1,w=>by simp only[bytes,List.length_cons,EH n]
theorem Hn:∀n w,∀b∈bytes n w,b<256
 |0,_,b,h=>by cases h
 |n+1,w,b,h=>by
  rcases List.mem_cons.1 h with rfl|h
  ·omega
  ·exact Hn n _ b h
theorem Ed:∀n w,w<256^n→val (bytes n w)=w
 |0,w,h=>by simp only[bytes,val];omega
 |n+1,w,h=>by
  have:w/256<256^n:=by rw[Nat.pow_succ]at h;omega
  simp only[bytes,val,Ed n _ this];omega
theorem Eg:∀n w,((bytes n w).map (pc 8)).sum=pc (8*n) w
 |0,_=>rfl
 |n+1,w=>by rw[show 8*(n+1)=8+8*n by omega,Gu];simp only[bytes,List.map_cons,List.sum_cons,Eg n];rw[show(256:Nat)=2^8 by decide,MX]
theorem Fk:∀n w,pc n w≤n
 |0,_=>Nat.le_refl _
 |n+1,w=>by have:=Fk n (w/2);simp only[pc];omega
theorem lu {w:Nat}(hw:w<18446744073709551616):∃y:List Nat,y.length=8∧(∀b∈y,b≤8)∧y.sum=pc 64 w∧
 val y=((((w/2&&&6148914691236517205)+(w&&&6148914691236517205))/4&&&3689348814741910323)+(((w/2&&&6148914691236517205)+(w&&&6148914691236517205))&&&3689348814741910323))/16+
  ((((w/2&&&6148914691236517205)+(w&&&6148914691236517205))/4&&&3689348814741910323)+(((w/2&&&6148914691236517205)+(w&&&6148914691236517205))&&&3689348814741910323))&&&1085102592571150095:=by
 have hl:=Hn 8 w;have hn:=EH 8 w;have hv:=Ed 8 w hw;have hs:=Eg 8 w;generalize bytes 8 w=l at*;refine⟨l.map (pc 8),by simpa using hn,fun b hb=> ?_,hs,?_⟩
 ·obtain⟨x,_,rfl⟩:=List.mem_map.1 hb;exact Fk 8 x
 ·have h1:∀b∈l.map s1,b<256:=fun b hb=>by obtain⟨x,hx,rfl⟩:=List.mem_map.1 hb;exact Xv (hl x hx)
  have h2:∀b∈(l.map s1).map s2,nib b=true:=fun b hb=>by obtain⟨x,hx,rfl⟩:=List.mem_map.1 hb;obtain⟨z,hz,rfl⟩:=List.mem_map.1 hx;exact XB (hl z hz)
  have a1:=S1 hl;have a2:=S2 h1;have a3:=S3 h2;simp only[List.length_map,hn]at a1 a2 a3;rw[hv,show rep 85 8=6148914691236517205 by decide]at a1;rw[←a1,show rep 51 8=3689348814741910323 by decide]at a2;rw[←a2,show rep 15 8=1085102592571150095 by decide]at a3;rw[a3,List.map_map,List.map_map];refine congrArg val (List.map_congr_left fun b hb=> ?_);exact(XM (hl b hb)).symm
theorem WW {y0 A1:Nat}(h:y0≤8):(y0+256*A1)/256=A1:=by omega
theorem Xb {y0 y1 y2 A2 A3:Nat}(h0:y0≤8) (h1:y1≤8) (h2:y2≤8):(y0+256*y1+65536*A2+(y1+256*y2+65536*A3))/65536=A2+A3:=by omega
theorem W7 {y0 y1 y2 y3 y4 y5 y6 A4 A5 A6 A7:Nat}(h0:y0≤8) (h1:y1≤8) (h2:y2≤8) (h3:y3≤8) (h4:y4≤8) (h5:y5≤8) (h6:y6≤8):
 ((y0+256*y1+65536*y2+16777216*y3+4294967296*A4)+(y1+256*y2+65536*y3+16777216*y4+4294967296*A5)+(y2+256*y3+65536*y4+16777216*y5+4294967296*A6)+(y3+256*y4+65536*y5+16777216*y6+4294967296*A7))/4294967296=A4+A5+A6+A7:=by
 have e:(y0+256*y1+65536*y2+16777216*y3+4294967296*A4)+(y1+256*y2+65536*y3+16777216*y4+4294967296*A5)+(y2+256*y3+65536*y4+16777216*y5+4294967296*A6)+(y3+256*y4+65536*y5+16777216*y6+4294967296*A7)=
  (y0+y1+y2+y3+256*(y1+y2+y3+y4)+65536*(y2+y3+y4+y5)+16777216*(y3+y4+y5+y6))+4294967296*(A4+A5+A6+A7):=by omega
 rw[e,Nat.add_mul_div_left _ _ (by decide),Nat.div_eq_of_lt (by omega),Nat.zero_add]
theorem WZ {y:List Nat}(h8:y.length=8) (hy:∀b∈y,b≤8):∃x4 x5 x6:Nat,x4=val y+val y/256∧x5=x4+x4/65536∧x6=x5+x5/4294967296∧x6%128=y.sum∧x6<9223372036854775808:=by
 match y,h8,hy with
 |[y0,y1,y2,y3,y4,y5,y6,y7],_,hy=>
  have h0:=hy y0 (by simp);have h1:=hy y1 (by simp);have h2:=hy y2 (by simp);have h3:=hy y3 (by simp);have h4:=hy y4 (by simp);have h5:=hy y5 (by simp);have h6:=hy y6 (by simp);have h7:=hy y7 (by simp);obtain⟨A6,a6⟩:∃A,A=y6+256*y7:=⟨_,rfl⟩;obtain⟨A5,a5⟩:∃A,A=y5+256*A6:=⟨_,rfl⟩;obtain⟨A4,a4⟩:∃A,A=y4+256*A5:=⟨_,rfl⟩;obtain⟨A3,a3⟩:∃A,A=y3+256*A4:=⟨_,rfl⟩;obtain⟨A2,a2⟩:∃A,A=y2+256*A3:=⟨_,rfl⟩;obtain⟨A1,a1⟩:∃A,A=y1+256*A2:=⟨_,rfl⟩;have e0:val [y0,y1,y2,y3,y4,y5,y6,y7]=y0+256*A1:=by simp only[val,Nat.mul_zero,Nat.add_zero];rw[a1,a2,a3,a4,a5,a6]
  have e4:=WW (A1:=A1) h0;have e5:(y0+256*A1+A1)/65536=A2+A3:=by rw[←Xb (A2:=A2) (A3:=A3) h0 h1 h2];congr 1;omega
  have e6:(y0+256*A1+A1+(A2+A3))/4294967296=A4+A5+A6+y7:=by rw[←W7 (A4:=A4) (A5:=A5) (A6:=A6) (A7:=y7) h0 h1 h2 h3 h4 h5 h6];congr 1;omega
  refine⟨y0+256*A1+A1,y0+256*A1+A1+(A2+A3),y0+256*A1+A1+(A2+A3)+(A4+A5+A6+y7),?_,?_,?_,?_,?_⟩
  ·rw[e0,e4]
  ·rw[e5]
  ·rw[e6]
  ·simp only[List.sum_cons,List.sum_nil];omega
  ·omega
theorem TJ {n:Nat}(hn:n<9223372036854775808):iZ .i64 (n:Int) 127=((n%128:Nat):Int):=by
 unfold iZ Go.Ab.bits;show IntKind.i64.wrap (((BitVec.ofInt IntKind.i64.bits (n:Int))&&&(BitVec.ofInt IntKind.i64.bits 127)).toNat:Int)=_;have e1:(BitVec.ofInt IntKind.i64.bits (n:Int)).toNat=n:=by rw[BitVec.ofInt_natCast,BitVec.toNat_ofNat];exact Nat.mod_eq_of_lt (by simp only[IntKind.bits];omega)
 rw[BitVec.toNat_and,e1,show(BitVec.ofInt IntKind.i64.bits 127).toNat=2^7-1 by decide,Nat.and_two_pow_sub_one_eq_mod];exact ae (by omega) (by omega)
theorem T4 {w:Nat}(hw:w<18446744073709551616) (s:St):rf D i9 [.int .u64 w] s=some (.int .i64 (pc 64 w:Nat),s):=by
 obtain⟨y,h8,hy,hsum,hval⟩:=lu hw;obtain⟨x4,x5,x6,e4,e5,e6,hmod,hlt⟩:=WZ h8 hy;have r1:∀{x:Nat},gW .u64 (x:Int) 1=((x/2:Nat):Int):=fun{x}=>by have:=pb (w:=x) (r:=1) (by omega);simpa using this
 have r2:∀{x:Nat},gW .u64 (x:Int) 2=((x/4:Nat):Int):=fun{x}=>by have:=pb (w:=x) (r:=2) (by omega);simpa using this
 have r3:∀{x:Nat},gW .u64 (x:Int) 4=((x/16:Nat):Int):=fun{x}=>by have:=pb (w:=x) (r:=4) (by omega);simpa using this
 have r4:∀{x:Nat},gW .u64 (x:Int) 8=((x/256:Nat):Int):=fun{x}=>by have:=pb (w:=x) (r:=8) (by omega);simpa using this
 have r5:∀{x:Nat},gW .u64 (x:Int) 16=((x/65536:Nat):Int):=fun{x}=>by have:=pb (w:=x) (r:=16) (by omega);simpa using this
 have r6:∀{x:Nat},gW .u64 (x:Int) 32=((x/4294967296:Nat):Int):=fun{x}=>by have:=pb (w:=x) (r:=32) (by omega);simpa using this
 have add:∀{a b:Nat},a+b<18446744073709551616→IntKind.u64.wrap ((a:Int)+(b:Int))=((a+b:Nat):Int):=fun{a b} h=>by rw[fL (by omega) (by omega)];omega
 have k1:∀{x:Nat},x<18446744073709551616→iZ .u64 (x:Int) 6148914691236517205=((x&&&6148914691236517205:Nat):Int):=fun{x} h=>tK h (by decide);have k2:∀{x:Nat},x<18446744073709551616→iZ .u64 (x:Int) 3689348814741910323=((x&&&3689348814741910323:Nat):Int):=fun{x} h=>tK h (by decide);have k3:∀{x:Nat},x<18446744073709551616→iZ .u64 (x:Int) 1085102592571150095=((x&&&1085102592571150095:Nat):Int):=fun{x} h=>tK h (by decide);have b1:(w/2&&&6148914691236517205)≤6148914691236517205:=Nat.and_le_right;have b2:(w&&&6148914691236517205)≤6148914691236517205:=Nat.and_le_right;rw[ab uG rfl];simp only[go_sem];rw[r1,k1 (show w/2<18446744073709551616 by omega),k1 hw,add (by omega)];have c1:(w/2&&&6148914691236517205)+(w&&&6148914691236517205)<18446744073709551616:=by omega
 generalize(w/2&&&6148914691236517205)+(w&&&6148914691236517205)=x1 at*;have b3:(x1/4&&&3689348814741910323)≤3689348814741910323:=Nat.and_le_right;have b4:(x1&&&3689348814741910323)≤3689348814741910323:=Nat.and_le_right;rw[r2,k2 (show x1/4<18446744073709551616 by omega),k2 c1,add (by omega)];have c2:(x1/4&&&3689348814741910323)+(x1&&&3689348814741910323)≤7378697629483820646:=by omega
 generalize(x1/4&&&3689348814741910323)+(x1&&&3689348814741910323)=x2 at*;have b5:(x2/16+x2&&&1085102592571150095)≤1085102592571150095:=Nat.and_le_right;rw[r3,add (by omega),k3 (by omega),←hval];rw[←hval]at b5;generalize val y=X at*;rw[r4,add (by omega),←e4,r5,add (by omega),←e5,r6,add (by omega),←e6,ae (by omega) (by omega),TJ hlt,hmod,hsum]
def yW (w:List Nat):Nat→Nat
 |0=>0
 |n+1=>yW w n+pc 64 (w.getD n 0)
def nb (w:List Nat):Nat→Nat
 |0=>0
 |n+1=>nb w n+if bit w n then 1 else 0
theorem Tu (k x:Nat):pc (k+1) x=pc k x+if x.testBit k then 1 else 0:=by
 rw[Gu k 1,Nat.testBit_eq_decide_div_mod_eq];simp only[pc,Nat.add_zero];by_cases h:x/2^k%2=1
 ·simp[h]
 ·have:x/2^k%2=0:=by omega
  simp[this]
theorem Ke (w:List Nat) (q:Nat):∀k,k≤64→nb w (64*q+k)=nb w (64*q)+pc k (w.getD q 0)
 |0,_=>by simp[pc]
 |k+1,hk=>by
  have ih:=Ke w q k (by omega);rw[←Nat.add_assoc,Tu];simp only[nb];rw[ih];have:bit w (64*q+k)=(w.getD q 0).testBit k:=by unfold bit;rw[show(64*q+k)/64=q by omega,show(64*q+k)%64=k by omega]
  rw[this,Nat.add_assoc]
theorem Nl (w:List Nat):∀q,nb w (64*q)=yW w q
 |0=>rfl
 |q+1=>by rw[show 64*(q+1)=64*q+64 by omega,Ke w q 64 (Nat.le_refl _),Nl w q];rfl
theorem Mo (w:List Nat):∀q,yW w q≤64*q
 |0=>Nat.le_refl _
 |q+1=>by have:=Mo w q;have:=Fk 64 (w.getD q 0);simp only[yW];omega
theorem R0 {s:St}{a:Nat}{f l:Int}{wf wl:List Nat}(h:Fr s a f l wf wl):
 rf D iy [.ptr (.hp a) [] 80] s=some (.int .i64 (nb wf 1024:Nat),s):=by
 have hb:=h.blk;have hlen:=h.okf.len;rw[show(1024:Nat)=64*16 by rfl,Nl];simp only[frV]at hb⊢;have loop:rc D s.loc.length (.loop [3,9,10] fX) [(3,.int .i64 0),(9,.agg 78 (wf.map cN)),(10,.int .i64 0)] s=
  some (.exit 0,[(3,.int .i64 (yW wf 16:Nat)),(9,.agg 78 (wf.map cN)),(10,.int .i64 16),(11,.bool false)],s):=by
  refine bC (fun x:Nat=>[(3,.int .i64 (yW wf x:Nat)),(9,.agg 78 (wf.map cN)),(10,.int .i64 x)]) (fun _=>s) (fun _=>_) (fun x=>16-x) (fun x=>x≤16) 0 ?_ (by omega) rfl rfl;intro i hi;by_cases c1:i<16
  ·left;have d1:(i:Int)<16:=by omega
   have d2:(0:Int)≤i:=by omega
   have d4:IntKind.i64.wrap ((i:Int)+1)=(i:Int)+1:=ae (by omega) (by omega);have hg:=am (f:=cN) (l:=wf) (i:=i) (by omega) 0;have h1:=fun s=>T4 (h.okf.get c1) s;have hle:=Mo wf i;have hle2:=Fk 64 (wf.getD i 0);refine⟨i+1,by omega,by omega,rfl,?_⟩;simp only[yW];generalize wf.getD i 0=x at*;generalize pc 64 x=y at*;generalize yW wf i=n at*;have d5:IntKind.i64.wrap ((n:Int)+(y:Int))=((n+y:Nat):Int):=by rw[ae (by omega) (by omega)];omega
   simp only[go_sem,fX,d1,d2];rw[Zh];simp only[go_sem,hg,h1,d4,d5];rfl
  ·right;have:i=16:=by omega
   subst this;simp only[go_sem,fX]
 rw[ab wU rfl];simp only[go_sem,hb,loop]
theorem Oi {s:St}{b c:Nat}{f:Int}{S:List Int}(h:Rf s b c f S):
 (∃k:Nat,k<S.length∧S.getD k 0=0∧(∀j,j<k→S.getD j 0≠0)∧rf D cf [.ptr (.hp b) [] 21] s=some (.tup [.int .i64 (f+k),.int .i64 0],⟨s.loc,s.hp.set c (.rw (.agg 38 ((S.set k 1).map (.int .i64))))⟩))∨
  ((∀j,j<S.length→S.getD j 0≠0)∧rf D cf [.ptr (.hp b) [] 21] s=some (.tup [.int .i64 0,.int .i64 10],s)):=by
 have hb:=h.rb;have hc:=h.sb;have h0:=h.f0;have hn:=h.n;simp only[rfV]at hb;have hbc:b≠c:=fun e=>by subst e;rw[hb]at hc;simp at hc
 have hsb:∀x,(s.hp.set c x)[b]?=s.hp[b]?:=fun x=>List.getElem?_set_ne (Ne.symm hbc);have loop:∃r,rc D s.loc.length (.loop [0,4] bL) [(0,.ptr (.hp b) [] 21),(4,.int .i64 0)] s=some r∧
  ((∃k:Nat,k<S.length∧S.getD k 0=0∧(∀j,j<k→S.getD j 0≠0)∧r=(.ret,[(2,.int .i64 (f+k)),(3,.int .i64 0)],⟨s.loc,s.hp.set c (.rw (.agg 38 ((S.set k 1).map (.int .i64))))⟩))∨
   ((∀j,j<S.length→S.getD j 0≠0)∧r=(.exit 0,[(0,.ptr (.hp b) [] 21),(4,.int .i64 (S.length:Nat)),(11,.bool false)],s))):=by
  refine o7 (fun x:Nat=>[(0,.ptr (.hp b) [] 21),(4,.int .i64 x)]) (fun _=>s) _ (fun x=>S.length-x) (fun x=>x≤S.length∧∀j,j<x→S.getD j 0≠0) 0 ?_ ⟨by omega,fun j hj=>by omega⟩ rfl rfl;rintro i ⟨hi,hz⟩;by_cases c1:i<S.length
  ·have d1:(i:Int)<(S.length:Nat):=by omega
   have d4:IntKind.i64.wrap ((i:Int)+1)=(i:Int)+1:=ae (by omega) (by omega);have d5:IntKind.i64.wrap (f+(i:Int))=f+i:=ae (by omega) (by omega);have hg:=am (f:=V.int .i64) (l:=S) c1 0;by_cases hx:S.getD i 0=0
   ·right;refine⟨_,?_,.inl ⟨i,c1,hx,hz,rfl⟩⟩;rw[hx]at hg;rw[List.map_set];simp only[go_sem,bL,hb,d1,zE c1,hc,hg,hsb,d5]
   ·left;refine⟨i+1,⟨by omega,fun j hj=> ?_⟩,by omega,?_⟩
    ·by_cases hji:j=i
     ·subst hji;exact hx
     ·exact hz j (by omega)
    ·generalize S.getD i 0=x at*;simp only[go_sem,bL,hb,d1,zE c1,hc,hg,hx,d4];rfl
  ·right;have:i=S.length:=by omega
   subst this;refine⟨_,?_,.inr ⟨hz,rfl⟩⟩;have d1:¬((S.length:Nat):Int)<(S.length:Nat):=by omega
   simp only[go_sem,bL,hb,d1]
 obtain⟨r,hl,hr⟩:=loop;rcases hr with⟨k,h1,h2,h3,rfl⟩|⟨h1,rfl⟩
 ·left;refine⟨k,h1,h2,h3,?_⟩;rw[ab jX rfl];simp only[go_sem,hl]
 ·right;refine⟨h1,?_⟩;rw[ab jX rfl];simp only[go_sem,hl]
def nz (S:List Int):Nat→Nat
 |0=>0
 |n+1=>nz S n+if S.getD n 0=0 then 1 else 0
theorem Rv (S:List Int):∀n,nz S n≤n
 |0=>Nat.le_refl _
 |n+1=>by have:=Rv S n;simp only[nz];split<;>omega
theorem QD {s:St}{b c:Nat}{f:Int}{S:List Int}(h:Rf s b c f S):rf D dK [.ptr (.hp b) [] 21] s=some (.int .i64 (nz S S.length:Nat),s):=by
 have hb:=h.rb;have hc:=h.sb;have h0:=h.f0;have hn:=h.n;simp only[rfV]at hb;have loop:rc D s.loc.length (.loop [0,3,4] bU) [(0,.ptr (.hp b) [] 21),(3,.int .i64 0),(4,.int .i64 0)] s=
  some (.exit 0,[(0,.ptr (.hp b) [] 21),(3,.int .i64 (nz S S.length:Nat)),(4,.int .i64 (S.length:Nat)),(11,.bool false)],s):=by
  refine bC (fun x:Nat=>[(0,.ptr (.hp b) [] 21),(3,.int .i64 (nz S x:Nat)),(4,.int .i64 x)]) (fun _=>s) (fun _=>_) (fun x=>S.length-x) (fun x=>x≤S.length) 0 ?_ (by omega) rfl rfl;intro i hi;by_cases c1:i<S.length
  ·left;have d1:(i:Int)<(S.length:Nat):=by omega
   have d4:IntKind.i64.wrap ((i:Int)+1)=(i:Int)+1:=ae (by omega) (by omega);have hg:=am (f:=V.int .i64) (l:=S) c1 0;have hle:=Rv S i;refine⟨i+1,by omega,by omega,rfl,?_⟩;simp only[nz];generalize S.getD i 0=x at*;generalize nz S i=n at*;by_cases hx:x=0
   ·have d5:IntKind.i64.wrap ((n:Int)+1)=((n+1:Nat):Int):=by rw[ae (by omega) (by omega)];omega
    rw[if_pos hx];simp only[go_sem,bU,hb,d1,zE c1,hc,hg,hx,d4,d5];rfl
   ·rw[if_neg hx,Nat.add_zero];simp only[go_sem,bU,hb,d1,zE c1,hc,hg,hx,d4];rfl
  ·right;have:i=S.length:=by omega
   subst this;have d1:¬((S.length:Nat):Int)<(S.length:Nat):=by omega
   simp only[go_sem,bU,hb,d1]
 rw[ab rl rfl];simp only[go_sem,loop]
structure FrP (hp:List Blk) (a:Nat) (A:AF):Prop where
 ok:A.Ok
 blk:∃wf wl,hp[a]?=some (.rw (frV A.f A.l wf wl))∧OkS wf∧OkS wl∧(∀j,j<1024→bit wf j=(A.inr j&&decide (A.st j=0)))∧(∀j,j<1024→bit wl j=(A.inr j&&decide (A.st j=2)))
theorem FrP.eqv {hp hp':List Blk}{a:Nat}{A:AF}(h:FrP hp a A) (he:hp'[a]?=hp[a]?):FrP hp' a A:=by obtain⟨wf,wl,h1,h2⟩:=h.blk;exact⟨h.ok,wf,wl,by rw[he];exact h1,h2⟩
theorem FrP.lt {hp:List Blk}{a:Nat}{A:AF}(h:FrP hp a A):a<hp.length:=by obtain⟨wf,wl,h1,h2⟩:=h.blk;exact aj h1
theorem pD {A:AF}{j:Nat}:A.inr j=true↔A.f≤j∧j<A.l:=by simp[AF.inr]
theorem Qc {A:AF}(hA:A.Ok) {wf wl:List Nat}(h1:∀j,j<1024→bit wf j=(A.inr j&&decide (A.st j=0))) (h2:∀j,j<1024→bit wl j=(A.inr j&&decide (A.st j=2))) (line:Int):fQ A.f A.l wf wl line=A.state line:=by
 unfold fQ AF.state;have:=hA.l1;by_cases c:line<A.f∨(A.l:Int)≤line
 ·rw[if_pos c,if_pos c]
 ·rw[if_neg c,if_neg c];have hr:A.inr line.toNat=true:=pD.2 (by omega);rw[h1 _ (by omega),h2 _ (by omega),hr];have:=hA.s3 line.toNat;by_cases e0:A.st line.toNat=0
  ·simp[e0]
  ·by_cases e2:A.st line.toNat=2
   ·simp[e2]
   ·simp[e0,e2];omega
theorem FrP.fr {hp:List Blk}{a:Nat}{A:AF}(h:FrP hp a A):∃wf wl,(∀L,Fr ⟨L,hp⟩ a A.f A.l wf wl)∧(∀j,j<1024→bit wf j=(A.inr j&&decide (A.st j=0)))∧(∀j,j<1024→bit wl j=(A.inr j&&decide (A.st j=2))):=by obtain⟨wf,wl,h1,h2,h3,h4,h5⟩:=h.blk;exact⟨wf,wl,fun L=>⟨h1,by omega,by have:=h.ok.l1;omega,h2,h3⟩,h4,h5⟩
theorem Ez {A:AF}(hA:A.Ok) {w:List Nat}(hw:OkS w) {c:Int}(h:∀j,j<1024→bit w j=(A.inr j&&decide (A.st j=c))) {k:Nat}(hk:A.inr k=true) {x:Int}(hx:(A.st k=c)≠(x=c)):
 ∀j,j<1024→bit (flip w k) j=((A.put k x).inr j&&decide ((A.put k x).st j=c)):=by
 intro j hj;have hk':=pD.1 hk;have:=hA.l1;rw[AN hw (by omega),h j hj];have e:(A.put k x).inr j=A.inr j:=rfl;rw[e];by_cases ej:k=j
 ·subst ej;rw[hk];have e2:(A.put k x).st k=x:=al;rw[e2];by_cases c1:A.st k=c
  ·have c2:¬x=c:=fun c2=>hx (by simp[c1,c2]);simp[c1,c2]
  ·have c2:x=c:=by
    by_cases c2:x=c
    ·exact c2
    ·exact absurd (by simp[c1,c2]) hx
   simp[c1,c2]
 ·have e2:(A.put k x).st j=A.st j:=aw fun e=>ej e.symm;rw[e2];simp[ej]
theorem Me {A:AF}{w:List Nat}{c:Int}(h:∀j,j<1024→bit w j=(A.inr j&&decide (A.st j=c))) {k:Nat}{x:Int}(hx:(A.st k=c)=(x=c)):
 ∀j,j<1024→bit w j=((A.put k x).inr j&&decide ((A.put k x).st j=c)):=by
 intro j hj;rw[h j hj];have e:(A.put k x).inr j=A.inr j:=rfl;rw[e];by_cases ej:j=k
 ·subst ej;have e2:(A.put j x).st j=x:=al;rw[e2,decide_eq_decide.2 (iff_of_eq hx)]
 ·have e2:(A.put k x).st j=A.st j:=aw ej;rw[e2]
theorem IS {hp:List Blk}{a:Nat}{A:AF}(h:FrP hp a A) (hG:hp[0]?=some (.ro ep)) (L:List Blk):
 ∃hp',rf D eN [.ptr (.hp a) [] 80] ⟨L,hp⟩=some (.tup [.int .i64 A.alloc.2.1,.int .i64 A.alloc.2.2],⟨L,hp'⟩)∧FrP hp' a A.alloc.1∧Chg hp hp' (.one a) (.one a):=by
 obtain⟨wf,wl,h1,h2,h3⟩:=h.fr;unfold AF.alloc;rcases Rl (h1 L) hG with⟨n,hf,e⟩|⟨hf,e⟩
 ·have hn:=h2 n hf.lt;rw[hf.set]at hn;have hn:=hn.symm;rw[Zj,pD,Zi]at hn;have:A.first=some n:=by
   cases hq:A.first with
   |none=>exact absurd hn.2 (KZ h.ok hq n hn.1.1 hn.1.2)
   |some q=>
    obtain⟨g1,g2,g3,g4⟩:=nc h.ok hq;congr 1;have hq1:¬q<n:=fun hlt=>by have:=hf.less q hlt;have hlt2:=hf.lt;rw[h2 q (by omega)]at this;simp[pD.2 ⟨g1,g2⟩,g3]at this
    have hq2:¬n<q:=fun hlt=>g4 n hn.1.1 hlt hn.2;omega
  rw[this];refine⟨_,e,⟨h.ok.put (.inr (.inl rfl)),_,_,List.getElem?_set_self h.lt,(h1 L).okf.flip hf.lt,(h1 L).okl,Ez h.ok (h1 L).okf h2 (pD.2 hn.1) (by simp[hn.2]),Me h3 (by simp[hn.2])⟩,iH⟩
 ·have:A.first=none:=by
   cases hq:A.first with
   |none=>rfl
   |some q=>
    obtain⟨g1,g2,g3,g4⟩:=nc h.ok hq;have:=hf q (by have:=h.ok.l1;omega);rw[h2 q (by have:=h.ok.l1;omega)]at this;simp[pD.2 ⟨g1,g2⟩,g3]at this
  rw[this];exact⟨hp,e,h,.refl _ _⟩
theorem MR {w:List Nat}:∀n,(∀j,j<n→bit w j=false)→nb w n=0
 |0,_=>rfl
 |n+1,h=>by simp only[nb];rw[MR n fun j hj=>h j (by omega),h n (by omega)];rfl
theorem Jt {A:AF}{w:List Nat}:∀(n i:Nat),(∀j,i≤j→j<i+n→bit w j=decide (A.st j=0))→nb w (i+n)=nb w i+A.cnt i n
 |0,i,_=>rfl
 |n+1,i,h=>by have e:=Jt (A:=A) (w:=w) n (i+1) fun j h1 h2=>h j (by omega) (by omega);rw[show i+(n+1)=i+1+n by omega,e];simp only[nb,AF.cnt,h i (Nat.le_refl _) (by omega),Zi];omega
theorem Jq {w:List Nat}{i:Nat}:∀n,(∀j,i≤j→j<i+n→bit w j=false)→nb w (i+n)=nb w i
 |0,_=>rfl
 |n+1,h=>by rw[show i+(n+1)=(i+n)+1 by omega];simp only[nb];rw[Jq n fun j h1 h2=>h j h1 (by omega),h (i+n) (by omega) (by omega)];rfl
theorem BR {hp:List Blk}{a:Nat}{A:AF}(h:FrP hp a A) (L:List Blk):rf D iy [.ptr (.hp a) [] 80] ⟨L,hp⟩=some (.int .i64 (A.left:Nat),⟨L,hp⟩):=by
 obtain⟨wf,wl,h1,h2,h3⟩:=h.fr;have hl:=h.ok.l1;have hfl:=h.ok.fl;rw[R0 (h1 L)];have e:nb wf 1024=A.left:=by
  have e1:=MR (w:=wf) A.f fun j hj=>by
   rw[h2 j (by omega)];have:A.inr j=false:=by simp[AF.inr];omega
   rw[this];rfl
  have e2:=Jt (A:=A) (w:=wf) (A.l-A.f) A.f fun j g1 g2=>by rw[h2 j (by omega),pD.2 ⟨g1,by omega⟩];rfl
  have e3:=Jq (w:=wf) (i:=A.l) (1024-A.l) fun j g1 g2=>by
   rw[h2 j (by omega)];have:A.inr j=false:=by simp[AF.inr];omega
   rw[this];rfl
  rw[show A.l+(1024-A.l)=1024 by omega]at e3;rw[show A.f+(A.l-A.f)=A.l by omega]at e2;unfold AF.left;omega
 rw[e]
def AS.f (x:AS) (m fr:Nat):StF:=⟨m,fr,x.work,x.base,x.dir,x.mark,x.is⟩
structure bX (hp:List Blk) (Fm:Ft) (a m fr:Nat) (x:AS):Prop where
 ok:x.Ok
 g:hp[0]?=some (.ro ep)
 st:hp[a]?=some (.rw ((x.f m fr).v x.sh))
 fp:FrP hp fr x.A
 mp:aI hp Fm m x.M
 ne:a≠fr
 na:¬Fm a
 nf:¬Fm fr
 nz:¬Fm 0
def il (a fr:Nat) (Fm:Ft):Ft:=fun j=>j=a∨j=fr∨Fm j
def Dt (hp:List Blk) (F:Ft) (a m:Nat) (x:AS):Prop:=∃fr Fm,bX hp Fm a m fr x∧F=il a fr Fm
section
variable {hp hp' : List Blk} {F G G' Fm : Ft} {a m fr : Nat} {x : AS}
theorem bX.inn (h:bX hp Fm a m fr x):Inn hp (il a fr Fm):=fun j hj=>by
 rcases hj with rfl|rfl|hj
 ·exact aj h.st
 ·exact h.fp.lt
 ·exact h.mp.inn j hj
theorem bX.a0 (h:bX hp Fm a m fr x):a≠0:=by intro e;have:=h.st;rw[e,h.g]at this;cases this
theorem bX.f0 (h:bX hp Fm a m fr x):fr≠0:=by intro e;obtain⟨wf,wl,h1,_⟩:=h.fp.blk;rw[e,h.g]at h1;cases h1
theorem Dt.inn (h:Dt hp F a m x):Inn hp F:=by obtain⟨fr,Fm,h,rfl⟩:=h;exact h.inn
theorem Dt.ok (h:Dt hp F a m x):x.Ok:=by obtain⟨fr,Fm,h,rfl⟩:=h;exact h.ok
theorem Dt.g (h:Dt hp F a m x):hp[0]?=some (.ro ep):=by obtain⟨fr,Fm,h,rfl⟩:=h;exact h.g
theorem bX.setM (h:bX hp Fm a m fr x) {M:AM}{Fm':Ft}(hm:aI hp' Fm' m M) (hc:Chg hp hp' Fm Fm') (hn:M.n=x.M.n):bX hp' Fm' a m fr {x with M:=M}:=by
 have ha:a<hp.length:=aj h.st;refine⟨h.ok.with hm.ok hn h.ok.A h.ok.s2 rfl rfl,hc.get h.g h.nz,hc.get h.st h.na,h.fp.eqv (hc.old fr h.fp.lt h.nf),hm,h.ne,fun e=> ?_,fun e=> ?_,fun e=> ?_⟩
 ·rcases hc.new a e with e|e
  ·exact h.na e
  ·omega
 ·rcases hc.new fr e with e|e
  ·exact h.nf e
  ·have:=h.fp.lt;omega
 ·rcases hc.new 0 e with e|e
  ·exact h.nz e
  ·omega
theorem WA {Fm':Ft}(hc:Chg hp hp' Fm Fm'):Chg hp hp' (il a fr Fm) (il a fr Fm'):=
 hc.mono (fun j h=> .inr (.inr h)) fun j h=>by
  rcases h with h|h|h
  ·exact .inr (.inl h)
  ·exact .inr (.inr (.inl h))
  ·exact .inl h
theorem bX.setA (h:bX hp Fm a m fr x) {A:AF}(hf:FrP hp' fr A) (hc:Chg hp hp' (.one fr) (.one fr)) (hs:∀j,A.st j≠2) (h1:A.f=x.A.f) (h2:A.l=x.A.l):bX hp' Fm a m fr {x with A:=A}:=
 ⟨h.ok.with h.ok.M rfl hf.ok hs h1 h2,hc.get h.g fun e=>h.f0 e.symm,hc.get h.st h.ne,hf,h.mp.chg hc fun j h1 h2=>h.nf (by cases h1;exact h2),h.ne,h.na,h.nf,h.nz⟩
theorem RH (hc:Chg hp hp' (.one fr) (.one fr)):Chg hp hp' (il a fr Fm) (il a fr Fm):=hc.mono (fun j h=> .inr (.inl h)) fun _ h=> .inr h
theorem bX.setB (h:bX hp Fm a m fr x) {y:AS}(hy:y.Ok) (hM:y.M=x.M) (hA:y.A=x.A):bX (hp.set a (.rw ((y.f m fr).v y.sh))) Fm a m fr y:=
 ⟨hy,by rw[List.getElem?_set_ne h.a0];exact h.g,List.getElem?_set_self (aj h.st),by rw[hA];exact h.fp.eqv (List.getElem?_set_ne h.ne),by rw[hM];exact h.mp.chg (iH (a:=a)) fun j h1 h2=>h.na (by cases h1;exact h2),h.ne,h.na,h.nf,h.nz⟩
theorem WU {b:Blk}:Chg hp (hp.set a b) (il a fr Fm) (il a fr Fm):=iH.mono (fun j h=> .inl h) fun _ h=> .inr h
theorem Hq (h:bX hp Fm a m fr x) (id:Int) (L:List Blk):rf D jt [.ptr (.hp a) [] 43,.int .i64 id] ⟨L,hp⟩=some (.int .i64 (gE x.work id),⟨L,hp⟩):=Sc (s:=⟨L,hp⟩) h.st id
theorem bX.line (h:bX hp Fm a m fr x) {i:Nat}(hi:i<49) (hk:(x.work i).kind≠0):0≤(x.work i).line∧(x.work i).line<1024:=by have:=h.ok.w.inn i hi hk;have:=h.ok.A.l1;omega
theorem MF (h:bX hp Fm a m fr x) {i:Nat}(hi:i<49) (hk:(x.work i).kind≠0) (L:List Blk):rf D iX [.ptr (.hp a) [] 43,.int .i64 i] ⟨L,hp⟩=some (.bool (x.own i),⟨L,hp⟩):=
 Wm (s:=⟨L,hp⟩) h.st i hi (h.line hi hk)
theorem Lr (h:bX hp Fm a m fr x) (L:List Blk):rf D lN [.ptr (.hp a) [] 43] ⟨L,hp⟩=some (.int .i64 x.A.left,⟨L,hp⟩):=by have hl:=BR h.fp;have hs:=h.st;simp only[AS.f,StF.v]at hs;rw[ab xf rfl];simp only[go_sem,hs,hl]
theorem IV (h:bX hp Fm a m fr x) (L:List Blk):rf D kE [.ptr (.hp a) [] 43] ⟨L,hp⟩=some (ac x.work,⟨L,hp⟩):=by have hs:=h.st;simp only[AS.f,StF.v,ac]at hs⊢;rw[ab wb rfl];simp only[go_sem,hs]
theorem KY (h:bX hp Fm a m fr x) (L:List Blk):rf D lK [.ptr (.hp a) [] 43] ⟨L,hp⟩=some (.tup [ac x.base,aM x.dir],⟨L,hp⟩):=by have hs:=h.st;simp only[AS.f,StF.v,ac,aM]at hs⊢;rw[ab xp rfl];simp only[go_sem,hs]
theorem zc (h:bX hp Fm a m fr x) (id:Int) (L:List Blk):rf D mm [.ptr (.hp a) [] 43,.int .i64 id] ⟨L,hp⟩=some (.tup [(x.get id).1.v,.int .i64 (x.get id).2],⟨L,hp⟩):=by
 have his:=Hq h id;have hst:=h.st;unfold AS.get;by_cases he:gE x.work id=0
 ·rw[if_neg (by simp[he])];obtain⟨h1,h2,h3⟩:=RG he;obtain⟨i,rfl⟩:∃i:Nat,id=i:=⟨id.toNat,by omega⟩;rw[Zh]at*;have hld:=jr h.mp (x.work i).line;have g1:=av (f:=fun i=>(x.work i).v) (show i<49 by omega);have d1:(i:Int)<49:=by omega
  have d2:(0:Int)≤i:=by omega
  rw[he]at his;have e:zl.map (V.int .u64)=List.replicate 8 (.int .u64 0):=rfl;simp only[AS.f,StF.v,ac,Ent.v,lnV,Obj.v]at*;generalize tab 49 (fun i=>V.agg 42 [.int .i64 (x.work i).kind,.int .i64 (x.work i).ver,.int .i64 (x.work i).line])=W at*;generalize x.M.load (x.work i).line=ld at*;rw[ab qD rfl];by_cases hl:ld.2=0
  ·rw[if_neg (by simp[hl])];rw[hl]at hld;simp only[go_sem,his,hst,d1,d2];rw[Zh];simp only[go_sem,g1,hst,hld]
  ·rw[if_pos hl];simp only[e];simp only[go_sem,his,hst,d1,d2];rw[Zh];simp only[go_sem,g1,hst,hld,hl]
 ·rw[if_pos he];have e:(Obj.mk 0 0 zl).v= .agg 26 [.int .i64 0,.int .i64 0,.agg 24 (List.replicate 8 (.int .u64 0))]:=rfl;rw[e];generalize gE x.work id=ee at*;rw[ab qD rfl];simp only[go_sem,his,he]
theorem GJ {l:List Int}(hl:l.length=8) {at':Int}(L:List Blk):∀(n j:Nat) {hp:List Blk}{Fm:Ft}{x:AS},j+n=8→bX hp Fm a m fr x→x.M.count+n<1000000→
 ∃hp' Fm' r,rc D L.length (.loop [0,6,22,23] eM) [(0,.ptr (.hp a) [] 43),(6,.int .i64 at'),(22,lnV l),(23,.int .i64 j)] ⟨L++[.rw (lnV l)],hp⟩=some r∧
  bX hp' Fm' a m fr {x with M:=(x.M.layFrom at' l j n).1}∧Chg hp hp' Fm Fm'∧
  (((x.M.layFrom at' l j n).2=0∧r=(.exit 0,[(0,.ptr (.hp a) [] 43),(6,.int .i64 at'),(22,lnV l),(23,.int .i64 8),(24,.bool false)],⟨L++[.rw (lnV l)],hp'⟩))∨
   ((x.M.layFrom at' l j n).2≠0∧r=(.ret,[(4,.int .i64 0),(5,.int .i64 (x.M.layFrom at' l j n).2)],⟨L++[.rw (lnV l)],hp'⟩)))
 |0,j,hp,Fm,x,hj,h,_=>by
  have:j=8:=by omega
  subst this;refine⟨hp,Fm,_,?_,h,.refl _ _,.inl ⟨rfl,rfl⟩⟩;rw[aa];simp only[lnV];simp only[go_sem,eM]
 |n+1,j,hp,Fm,x,hj,h,hc=>by
  obtain⟨hp1,Fm1,e1,e2,e3⟩:=iz h.mp (by omega) at' j (l.getD j 0) (L++[.rw (lnV l)]);have h1:=h.setM e2 e3 AM.store_n;have hcn:=AM.store_count (M:=x.M) (i:=at') (q:=j) (v:=l.getD j 0);have d1:(j:Int)<8:=by omega
  have d2:(0:Int)≤j:=by omega
  have d4:IntKind.i64.wrap ((j:Int)+1)=((j+1:Nat):Int):=ae (by omega) (by omega);have g:=am (f:=V.int .u64) (l:=l) (i:=j) (by omega) 0;have hst:=h.st;simp only[AM.layFrom];have m1:∀z,V.locLt z (lnV l)=true:=fun _=>rfl;by_cases he:(x.M.store at' j (l.getD j 0)).2=0
  ·rw[if_neg fun hh=>hh he];obtain⟨hp2,Fm2,r,q1,q2,q3,q4⟩:=GJ hl L n (j+1) (by omega) h1 (by simp only;omega);refine⟨hp2,Fm2,r,?_,q2,e3.trans q3,q4⟩;rw[←q1,aa];rw[he]at e1;simp only[AS.f,StF.v,lnV]at*;generalize l.getD j 0=wd at*;simp only[go_sem,eM,d1,d2,Zh,g,hst,e1,d4]
  ·rw[if_pos he];refine⟨hp1,Fm1,_,?_,h1,e3,.inr ⟨he,rfl⟩⟩;rw[aa];simp only[AS.f,StF.v,lnV]at*;generalize l.getD j 0=wd at*;simp only[go_sem,eM,d1,d2,Zh,g,hst,e1,he]
theorem NI (h:bX hp Fm a m fr x) (hc:x.M.count+8<1000000) {l:List Int}(hl:l.length=8) (L:List Blk):
 ∃hp' Fm',rf D mu [.ptr (.hp a) [] 43,lnV l] ⟨L,hp⟩=some (.tup [.int .i64 (x.lay l).2.1,.int .i64 (x.lay l).2.2],⟨L,hp'⟩)∧bX hp' Fm' a m fr (x.lay l).1∧Chg hp hp' (il a fr Fm) (il a fr Fm'):=by
 obtain⟨hp1,e1,e2,e3⟩:=IS h.fp h.g (L++[.rw (lnV l)]);have h1:=h.setA e2 e3 (Cm h.ok.s2) jF.1 jF.2;have hs:=h.st;unfold AS.lay;by_cases he:x.A.alloc.2.2=0
 ·rw[if_neg (by simp[he])];obtain⟨hp2,Fm2,r,q1,q2,q3,q4⟩:=GJ (a:=a) (m:=m) (fr:=fr) hl (at':=x.A.alloc.2.1) L 8 0 rfl h1 (by simp only;omega);simp only at q1 q2 q4⊢;rw[show((0:Nat):Int)=0 from rfl]at q1
  refine⟨hp2,Fm2,?_,q2,(RH e3).trans (WA q3)⟩;rw[he]at e1;generalize x.M.layFrom x.A.alloc.2.1 l 0 8=lf at*;generalize x.A.alloc.2.1=at' at*;simp only[AS.f,StF.v,lnV]at*;rw[ab qz rfl];rcases q4 with⟨z,rfl⟩|⟨z,rfl⟩
  ·rw[z,if_neg (by simp)];simp only[go_sem,hs,e1];simp only[go_sem,q1]
  ·rw[if_pos z];simp only[go_sem,hs,e1];simp only[go_sem,q1]
 ·rw[if_pos he];have hn:x.A.alloc=(x.A,0,10):=by
   unfold AF.alloc at he⊢;split
   ·rename_i hq;rw[hq]at he;exact absurd rfl he
   ·rfl
  rw[hn]at h1 e1;refine⟨hp1,Fm,?_,h1,RH e3⟩;rw[hn];simp only[AS.f,StF.v,lnV]at*;rw[ab qz rfl];simp only[go_sem,hs,e1]
end
section
variable {hp hp' : List Blk} {F G G' Fm : Ft} {a m fr : Nat} {x : AS}
theorem tM {t:Nat→Ent}{i:Nat}{e:Ent}:(tab 49 fun j=>(t j).v).set i e.v=tab 49 fun j=>(updE t i e j).v:=by rw[dg,Pu]
theorem OJ (h:bX hp Fm a m fr x) (hc:x.M.count+8<1000000) (id word v:Int) (L:List Blk):
 ∃hp' Fm',rf D mo [.ptr (.hp a) [] 43,.int .i64 id,.int .i64 word,.int .u64 v] ⟨L,hp⟩=some (.int .i64 (x.set id word v).2,⟨L,hp'⟩)∧bX hp' Fm' a m fr (x.set id word v).1∧Chg hp hp' (il a fr Fm) (il a fr Fm'):=by
 have his:=Hq h id;have hst:=h.st;have hok:=(h.ok.set id word v);unfold AS.set at hok⊢;by_cases c0:id<0∨49≤id∨word<0∨8≤word
 ·rw[if_pos c0];refine⟨hp,Fm,?_,h,.refl _ _⟩;rw[ab cW rfl];by_cases c1:gE x.work id=1
  ·rw[c1]at his;simp only[go_sem,his]
  ·have c2:word<0∨8≤word:=by
    unfold gE at c1;by_cases c3:id<0∨49≤id
    ·rw[if_pos c3]at c1;exact absurd rfl c1
    ·omega
   generalize gE x.work id=ee at*;by_cases c3:word<0
   ·simp only[go_sem,his,c1,c3]
   ·have c4:8≤word:=by omega
    simp only[go_sem,his,c1,c3,c4]
 ·rw[if_neg c0]at hok⊢;have w1:¬word<0:=by omega
  have w2:¬8≤word:=by omega
  obtain⟨i,rfl⟩:∃i:Nat,id=i:=⟨id.toNat,by omega⟩;rw[Zh]at*;have hi:i<49:=by omega
  by_cases hk:(x.work i).kind=0
  ·rw[if_pos hk];refine⟨hp,Fm,?_,h,.refl _ _⟩;have e:gE x.work i=30:=by unfold gE;rw[if_neg (by omega),Zh,if_pos hk]
   rw[e]at his;rw[ab cW rfl];simp only[go_sem,his,w1,w2]
  ·rw[if_neg hk]at hok⊢;have e:gE x.work i=0:=by unfold gE;rw[if_neg (by omega),Zh,if_neg hk]
   rw[e]at his;have hown:=MF h hi hk;have g1:=av (f:=fun i=>(x.work i).v) hi;have d1:(i:Int)<49:=by omega
   have d2:(0:Int)≤i:=by omega
   by_cases ho:x.own i=true
   ·rw[if_pos ho];obtain⟨hp1,Fm1,e1,e2,e3⟩:=iz h.mp (by omega) (x.work i).line word v L;refine⟨hp1,Fm1,?_,h.setM e2 e3 AM.store_n,WA e3⟩;rw[ho]at hown;generalize x.M.store (x.work i).line word v=sr at*;simp only[AS.f,StF.v,ac,Ent.v]at*;generalize tab 49 (fun i=>V.agg 42 [.int .i64 (x.work i).kind,.int .i64 (x.work i).ver,.int .i64 (x.work i).line])=T at*;rw[ab cW rfl];simp only[go_sem,his,w1,w2,hown,hst,d1,d2];rw[Zh];simp only[go_sem,g1,hst,e1]
   ·rw[if_neg ho]at hok⊢;have ho':x.own i=false:=by simpa using ho
    have hleft:=BR h.fp;rw[ho']at hown;by_cases hl0:x.A.left=0
    ·rw[if_pos hl0];refine⟨hp,Fm,?_,h,.refl _ _⟩;rw[hl0]at hleft;simp only[AS.f,StF.v]at*;rw[ab cW rfl];simp only[go_sem,his,w1,w2,hown,hst,hleft]
    ·rw[if_neg hl0]at hok⊢;have hl0':¬((x.A.left:Nat):Int)=0:=by omega
     have hld:=jr h.mp (x.work i).line;by_cases hle:(x.M.load (x.work i).line).2≠0
     ·rw[if_pos hle];refine⟨hp,Fm,?_,h,.refl _ _⟩;generalize x.M.load (x.work i).line=ld at*;simp only[AS.f,StF.v,ac,Ent.v,lnV]at*;generalize tab 49 (fun i=>V.agg 42 [.int .i64 (x.work i).kind,.int .i64 (x.work i).ver,.int .i64 (x.work i).line])=T at*;rw[ab cW rfl];simp only[go_sem,his,w1,w2,hown,hst,hleft,hl0',d1,d2];rw[Zh];simp only[go_sem,g1,hst,hld,hle]
     ·rw[if_neg hle]at hok⊢;have hle':(x.M.load (x.work i).line).2=0:=by simpa using hle
      have hl8:(x.M.load (x.work i).line).1.length=8:=by
       unfold AM.load at hle'⊢;split
       ·rfl
       ·rename_i hh;split
        ·rfl
        ·exact h.ok.M.now8 (by omega)
      obtain⟨w,rfl⟩:∃w:Nat,word=w:=⟨word.toNat,by omega⟩;rw[Zh]at*;have w3:(w:Int)<8:=by omega
      have w4:(0:Int)≤w:=by omega
      have gw:=am (f:=V.int .u64) (l:=(x.M.load (x.work i).line).1) (i:=w) (by omega) 0;obtain⟨hp1,Fm1,e1,e2,e3⟩:=NI h hc (l:=(x.M.load (x.work i).line).1.set w v) (by simpa using hl8) (L++[.rw (lnV ((x.M.load (x.work i).line).1.set w v))]);rw[hle']at hld;have hst1:=e2.st;have hw:=AS.lay_work (x:=x) ((x.M.load (x.work i).line).1.set w v);simp only at hok⊢;by_cases hre:(x.lay ((x.M.load (x.work i).line).1.set w v)).2.2≠0
      ·rw[if_pos hre];refine⟨hp1,Fm1,?_,e2,e3⟩;clear hok;generalize x.lay ((x.M.load (x.work i).line).1.set w v)=lr at*;generalize x.M.load (x.work i).line=ld at*;simp only[AS.f,StF.v,ac,Ent.v,lnV,List.map_set]at*;generalize tab 49 (fun i=>V.agg 42 [.int .i64 (x.work i).kind,.int .i64 (x.work i).ver,.int .i64 (x.work i).line])=T at*;rw[ab cW rfl];simp only[go_sem,his,w1,w2,hown,hst,hleft,hl0',d1,d2];rw[Zh];simp only[go_sem,g1,hst,hld,w3,w4,gw];simp only[go_sem,Zh,gw,e1,hre]
      ·rw[if_neg hre]at hok⊢;have hre':(x.lay ((x.M.load (x.work i).line).1.set w v)).2.2=0:=by simpa using hre
       have e4:=e2.setB hok rfl rfl;refine⟨_,Fm1,?_,e4,e3.trans WU⟩;rw[hre']at e1;have hsh:AS.sh {(x.lay ((x.M.load (x.work i).line).1.set w v)).1 with work:=updE x.work i ((x.work i).at (x.lay ((x.M.load (x.work i).line).1.set w v)).2.1)}=(x.lay ((x.M.load (x.work i).line).1.set w v)).1.sh:=rfl;have hup:=tM (t:=x.work) (i:=i) (e:=(x.work i).at (x.lay ((x.M.load (x.work i).line).1.set w v)).2.1);simp only[AS.f,hsh,hw.1]at hst1⊢;clear hok e4 e2;generalize(x.lay ((x.M.load (x.work i).line).1.set w v)).1.sh=sh' at*;generalize x.lay ((x.M.load (x.work i).line).1.set w v)=lr at*;generalize x.M.load (x.work i).line=ld at*;simp only[StF.v,ac]at hst hst1⊢;rw[←hup];simp only[Ent.at,Ent.v,lnV,List.map_set,AS.f]at*;generalize tab 49 (fun i=>V.agg 42 [.int .i64 (x.work i).kind,.int .i64 (x.work i).ver,.int .i64 (x.work i).line])=T at*;rw[ab cW rfl];simp only[go_sem,his,w1,w2,hown,hst,hleft,hl0',d1,d2];rw[Zh];simp only[go_sem,g1,hst,hld,w3,w4,gw];simp only[go_sem,Zh,gw,e1,hst1,g1,d1,d2]
end
section
variable {hp hp' : List Blk} {F G G' Fm : Ft} {a m fr : Nat} {x : AS}
theorem xh {t:Nat→Ent}{f:Nat→Bool}(ht:InL t) {j:Nat}:∀n,n≤49→(fT t f n j=(f j||(List.range n).any fun i=>decide ((t i).kind≠0)&&decide ((t i).line=j)))
 |0,_=>by simp[fT]
 |n+1,hn=>by
  have ih:=xh (f:=f) ht (j:=j) n (by omega);simp only[fT,List.range_succ,List.any_append,List.any_cons,List.any_nil,Bool.or_false];by_cases hk:(t n).kind=0
  ·rw[if_pos hk,ih];simp[hk]
  ·rw[if_neg hk];have:=ht.inn n (by omega) hk;by_cases e:j=(t n).line.toNat
   ·subst e;rw[al];have:((t n).line.toNat:Int)=(t n).line:=by omega
    simp[hk,this]
   ·rw[aw e,ih];have:¬(t n).line=j:=by omega
    simp[this]
end
section
variable {hp hp' : List Blk} {F G G' Fm : Ft} {a m fr : Nat} {x : AS}
end
section
variable {hp hp' : List Blk} {F G G' Fm : Ft} {a m fr : Nat} {x : AS}
end
structure AM.On (M:AM):Prop where
 off:M.off=false
 left:M.left=-1
theorem AM.On.dead {M:AM}(h:M.On):M.dead=false:=by unfold AM.dead;rw[h.off,h.left];rfl
theorem HR {M:AM}{i j:Nat}{d:Dn}:(M.push i d).now j=if j=i then(M.now j).set d.w d.v else M.now j:=by
 unfold AM.now AM.push;simp only;by_cases e:j=i
 ·subst e;rw[al,if_pos rfl,mW];rfl
 ·rw[aw e,if_neg e]
theorem uC {M:AM}(h:M.On) {i q:Nat}(hi:i<M.n) (hq:q<8) (v:Int):(M.store i q v).2=0∧(M.store i q v).1.On∧∀j,(M.store i q v).1.now j=if j=i then(M.now j).set q v else M.now j:=by
 unfold AM.store;rw[if_neg (by omega),if_neg (by rw[h.dead];simp)];refine⟨rfl,⟨h.off,?_⟩,fun j=> ?_⟩
 ·simp only[AM.push,AM.stepped];rw[if_neg (by rw[h.left];decide)];exact h.left
 ·simp only[HR,Zh,Dn.mk0];rfl
theorem JL {M:AM}(h:M.On) {i:Nat}(hi:i<M.n):M.load i=(M.now i,0):=by unfold AM.load;rw[if_neg (by omega),if_neg (by rw[h.off];simp),Zh]
def tB (l o:List Int) (j:Nat):List Int:=l.take j++o.drop j
theorem Ga {l o:List Int}(hl:l.length=8) (ho:o.length=8) {j:Nat}(hj:j<8):(tB l o j).set j (l.getD j 0)=tB l o (j+1):=by
 unfold tB;apply List.ext_getElem?;intro i;rw[List.getElem?_set];by_cases hi:j=i
 ·subst hi;rw[if_pos rfl,if_pos (by simp;omega)];rw[List.getElem?_append_left (by simp;omega),List.getElem?_take,if_pos (by omega)];simp[List.getD_eq_getElem?_getD,show j<l.length by omega]
 ·rw[if_neg hi];by_cases h:i<j
  ·rw[List.getElem?_append_left (by simp;omega),List.getElem?_append_left (by simp;omega),List.getElem?_take,List.getElem?_take,if_pos h,if_pos (by omega)]
  ·rw[List.getElem?_append_right (by simp;omega),List.getElem?_append_right (by simp;omega),List.getElem?_drop,List.getElem?_drop];simp only[List.length_take];congr 1;omega
theorem tf {at':Nat}{l:List Int}(hl:l.length=8):∀(n j:Nat) {M:AM},M.On→at'<M.n→j+n=8→∀o:List Int,o.length=8→M.now at'=tB l o j→
 (M.layFrom at' l j n).2=0∧(M.layFrom at' l j n).1.On∧∀i,(M.layFrom at' l j n).1.now i=if i=at' then l else M.now i
 |0,j,M,h,hi,hj,o,ho,hm=>by
  have:j=8:=by omega
  subst this;refine⟨rfl,h,fun i=> ?_⟩;show M.now i=_;by_cases e:i=at'
  ·subst e;rw[if_pos rfl,hm];unfold tB;rw[List.take_of_length_le (by omega),List.drop_of_length_le (by omega),List.append_nil]
  ·rw[if_neg e]
 |n+1,j,M,h,hi,hj,o,ho,hm=>by
  obtain⟨e1,e2,e3⟩:=uC h hi (show j<8 by omega) (l.getD j 0);simp only[AM.layFrom];rw[if_neg fun hh=>hh e1];obtain⟨q1,q2,q3⟩:=tf hl n (j+1) e2 (by rw[AM.store_n];exact hi) (by omega) o ho (by rw[e3,if_pos rfl,hm,Ga hl ho (by omega)]);refine⟨q1,q2,fun i=> ?_⟩;rw[q3];by_cases e:i=at'
  ·rw[if_pos e,if_pos e]
  ·rw[if_neg e,if_neg e,e3,if_neg e]
theorem Oz {M:AM}(hok:M.Ok) (h:M.On) {at':Nat}{l:List Int}(hl:l.length=8) (hi:at'<M.n):(M.layFrom at' l 0 8).2=0∧(M.layFrom at' l 0 8).1.On∧∀i,(M.layFrom at' l 0 8).1.now i=if i=at' then l else M.now i:=
 tf hl 8 0 h hi rfl (M.now at') (hok.now8 hi) (by unfold tB;simp)
def AF.takes (A:AF):List Int→Option AF
 |[]=>some A
 |x::r=>if A.state x=0 then(A.put x.toNat 1).takes r else none
def af0 (f l:Nat):AF:=⟨f,l,fun _=>0⟩
theorem Wd {f l:Nat}(h:f≤l) (h1:l≤1024):(af0 f l).Ok:=⟨h,h1,fun _=> .inl rfl⟩
def AF.Two (A:AF):Prop:=∀j,A.st j=0∨A.st j=1
theorem AF.Two.put {A:AF}(h:A.Two) {k:Nat}{x:Int}(hx:x=0∨x=1):(A.put k x).Two:=fun j=>by
 simp only[AF.put];by_cases e:j=k
 ·subst e;rw[al];exact hx
 ·rw[aw e];exact h j
theorem pC:∀{ls:List Int}{A A':AF},A.takes ls=some A'→A'.f=A.f∧A'.l=A.l∧(∀x∈ls,(A.f:Int)≤x∧x<A.l)∧∀j,A'.st j=if(j:Int)∈ls then 1 else A.st j
 |[],A,A',h=>by cases h;exact⟨rfl,rfl,by simp,by simp⟩
 |x::r,A,A',h=>by
  simp only[AF.takes]at h;split at h
  ·rename_i h0;have hr:=oA (A:=A) (line:=x) (by omega);obtain⟨h1,h2,h3,h4⟩:=pC h;refine⟨h1,h2,fun y hy=> ?_,fun j=> ?_⟩
   ·rcases List.mem_cons.1 hy with rfl|hy
    ·exact hr
    ·exact h3 y hy
   ·rw[h4 j];by_cases e:(j:Int)∈r
    ·simp[e]
    ·rw[if_neg e];simp only[AF.put];by_cases e2:j=x.toNat
     ·have e3:(j:Int)=x:=by omega
      rw[if_pos (by rw[e3];exact List.mem_cons_self)];subst e2;rw[al]
     ·have e3:¬(j:Int)=x:=by omega
      rw[aw e2,if_neg (by simp[e,e3])]
  ·cases h
theorem FP:∀{ls:List Int}{A:AF},ls.Nodup→(∀x∈ls,A.state x=0)→∃A',A.takes ls=some A'
 |[],A,_,_=>⟨A,rfl⟩
 |x::r,A,hn,h=>by obtain⟨hn1,hn2⟩:=List.nodup_cons.1 hn;have h0:=h x List.mem_cons_self;simp only[AF.takes];rw[if_pos h0];refine FP hn2 fun y hy=> ?_;have hr:=oA (A:=A) (line:=x) (by omega);have hy0:=h y (List.mem_cons_of_mem _ hy);have hry:=oA (A:=A) (line:=y) (by omega);have e:y≠x:=fun e=>hn1 (e▸hy);rw[AY (A:=A.put x.toNat 1) hry.1 hry.2];simp only[AF.put];rw[aw (by omega),←AY hry.1 hry.2];exact hy0
theorem bx {t:Nat→Ent}{j:Nat}:aT t j=true↔∃i,i<49∧(t i).kind≠0∧(t i).line=j:=by
 unfold aT;rw[List.any_eq_true];constructor
 ·rintro⟨i,hi,h⟩;rw[Zj,Zi,Zi]at h;exact⟨i,List.mem_range.1 hi,h.1,h.2⟩
 ·rintro⟨i,hi,h1,h2⟩;exact⟨i,List.mem_range.2 hi,by rw[Zj,Zi,Zi];exact⟨h1,h2⟩⟩
theorem BZ {x:AS}(h:x.Ok) {j:Nat}:x.sh j=(aT x.base j||(x.is&&aT x.mark j)):=by
 unfold AS.sh AO aT;have hb:=xh (f:=fun _=>false) (h.b.inL h.A) (j:=j) 49 (Nat.le_refl _);cases x.is
 ·simp only[Bool.false_eq_true,if_false,hb];simp
 ·simp only[if_true];rw[xh (h.k.inL h.A) 49 (Nat.le_refl _),hb];simp
structure Inv (x:AS):Prop where
 ok:x.Ok
 v:∀i,i<49→0≤(x.work i).ver∧(x.work i).ver≤16777215
 w1:∀j:Nat,aT x.work j=true→x.A.st j=1
 s1:∀j:Nat,x.sh j=true→x.A.st j=1
 di:∀i j,i<49→j<49→i≠j→(x.work i).kind≠0→(x.work j).kind≠0→(x.work i).line=(x.work j).line→x.own i=false
theorem Inv.ln {x:AS}(h:Inv x) {i:Nat}(hi:i<49) (hk:(x.work i).kind≠0):∃q:Nat,(x.work i).line=q∧x.A.f≤q∧q<x.M.n∧x.A.st q=1:=by have h1:=h.ok.w.inn i hi hk;have h2:=h.ok.l;obtain⟨q,hq⟩:∃q:Nat,(x.work i).line=q:=⟨(x.work i).line.toNat,by omega⟩;exact⟨q,hq,by omega,by omega,h.w1 q (bx.2 ⟨i,hi,hk,hq⟩)⟩
theorem Inv.withM {x:AS}(h:Inv x) {M:AM}(hM:M.Ok) (hn:M.n=x.M.n):Inv {x with M:=M}:=
 ⟨h.ok.with hM hn h.ok.A h.ok.s2 rfl rfl,h.v,h.w1,h.s1,h.di⟩
theorem Inv.setLine {x:AS}(h:Inv x) {i k:Nat}{e:Ent}(hk0:x.A.st k=0) (hkr:x.A.f≤k∧k<x.A.l) (he:e.line=k) (hv:0≤e.ver∧e.ver≤16777215) {M:AM}(hM:M.Ok) (hn:M.n=x.M.n):
 Inv {x with M:=M,A:=x.A.put k 1,work:=updE x.work i e}∧AS.own {x with M:=M,A:=x.A.put k 1,work:=updE x.work i e} i=true:=by
 have h0:=h.ok.with (M:=M) (A:=x.A.put k 1) hM hn (h.ok.A.put (.inr (.inl rfl))) (O3 h.ok.s2 (by decide)) rfl rfl;have hstk:∀j:Nat,x.A.st j=1→(x.A.put k 1).st j=1:=fun j hj=>by
  simp only[AF.put];by_cases e:j=k
  ·subst e;rw[al]
  ·rw[aw e];exact hj
 have hsk:x.sh k=false:=by
  cases hs:x.sh k
  ·rfl
  ·have:=h.s1 k hs;omega
 have hno:∀j,j<49→(x.work j).kind≠0→(x.work j).line≠k:=fun j hj hkj e=>by have:=h.w1 k (bx.2 ⟨j,hj,hkj,e⟩);omega
 refine⟨⟨h0.table (w:=x.work) rfl (i:=i) (e:=e) (fun _=>by rw[he];exact⟨by simp only[AF.put];omega,by simp only[AF.put];omega⟩),XZ h.v hv,fun j hj=> ?_,fun j hj=>hstk j (h.s1 j hj),fun i1 j1 hi1 hj1 hne hk1 hk2 heq=> ?_⟩,?_⟩
 ·obtain⟨i1,hi1,hk1,hl1⟩:=bx.1 hj;simp only[updE]at hk1 hl1;split at hk1
  ·rename_i e1;rw[if_pos e1,he]at hl1;have:j=k:=by omega
   subst this;exact al
  ·rename_i e1;rw[if_neg e1]at hl1;exact hstk j (h.w1 j (bx.2 ⟨i1,hi1,hk1,hl1⟩))
 ·simp only[updE]at hk1 hk2 heq;have e9:∀i2,i2≠i→AS.own {x with M:=M,A:=x.A.put k 1,work:=updE x.work i e} i2=x.own i2:=fun i2 h2=>by show(!x.sh (updE x.work i e i2).line.toNat)=_;unfold updE;rw[if_neg h2];rfl
  by_cases e1:i1=i
  ·subst e1;rw[if_pos rfl,if_neg (Ne.symm hne),he]at heq;rw[if_neg (Ne.symm hne)]at hk2;exact absurd heq.symm (hno j1 hj1 hk2)
  ·rw[if_neg e1]at hk1 heq;by_cases e2:j1=i
   ·subst e2;rw[if_pos rfl,he]at heq;exact absurd heq (hno i1 hi1 hk1)
   ·rw[if_neg e2]at hk2 heq;rw[e9 i1 e1];exact h.di i1 j1 hi1 hj1 hne hk1 hk2 heq
 ·show(!x.sh (updE x.work i e i).line.toNat)=_;unfold updE;rw[if_pos rfl,he,Zh,hsk];rfl
theorem GF {x:AS}(h:x.Ok) (on:x.M.On) {l:List Int}(hl:l.length=8):(x.A.left=0∧x.lay l=(x,0,10))∨
 ∃k M,x.A.f≤k∧k<x.A.l∧x.A.st k=0∧x.lay l=({x with M:=M,A:=x.A.put k 1},(k:Int),0)∧M.Ok∧M.On∧M.n=x.M.n∧∀i,M.now i=if i=k then l else x.M.now i:=by
 cases hf:x.A.first with
 |none=>
  left;have ha:x.A.alloc=(x.A,0,10):=by unfold AF.alloc;rw[hf]
  refine⟨AF.left_zero.2 hf,?_⟩;unfold AS.lay;rw[ha,if_pos (by simp)]
 |some k=>
  right;obtain⟨h1,h2,h3,_⟩:=nc h.A hf;have ha:x.A.alloc=(x.A.put k 1,(k:Int),0):=by unfold AF.alloc;rw[hf]
  obtain⟨q1,q2,q3⟩:=Oz h.M on (at':=k) hl (by rw[←h.l];exact h2);refine⟨k,(x.M.layFrom k l 0 8).1,h1,h2,h3,?_,h.M.layFrom,q2,AM.layFrom_n,q3⟩;unfold AS.lay;rw[ha,if_neg (by simp)];simp only[q1,ne_eq,not_true_eq_false,if_false]
structure Fv (x y:AS) (i:Nat) (w:Nat) (v:Int):Prop where
 inv:Inv y
 on:y.M.On
 own:y.own i=true
 base:y.base=x.base
 mark:y.mark=x.mark
 is:y.is=x.is
 dir:y.dir=x.dir
 n:y.M.n=x.M.n
 fl:y.A.f=x.A.f∧y.A.l=x.A.l
 others:∀j,j≠i→y.work j=x.work j
 kv:(y.work i).kind=(x.work i).kind∧(y.work i).ver=(x.work i).ver
 now:y.M.now (y.work i).line.toNat=(x.M.now (x.work i).line.toNat).set w v
 rest:∀j,j≠(y.work i).line.toNat→y.M.now j=x.M.now j
 same:x.own i=true→y.A=x.A∧y.work=x.work
 more:x.own i=false→∃k,x.A.f≤k∧k<x.A.l∧x.A.st k=0∧(y.work i).line=k∧y.A=x.A.put k 1
theorem PT {x:AS}(h:Inv x) (on:x.M.On) {i w:Nat}(hi:i<49) (hk:(x.work i).kind≠0) (hw:w<8) (v:Int):
 (x.own i=false∧x.A.left=0∧x.set i w v=(x,10))∨∃y,x.set i w v=(y,0)∧Fv x y i w v:=by
 obtain⟨q,hq,hq1,hq2,hq3⟩:=h.ln hi hk;have hx:x.set i w v=if x.own i then({x with M:=(x.M.store (x.work i).line w v).1},(x.M.store (x.work i).line w v).2)
  else if x.A.left=0 then(x,10)
  else if(x.M.load (x.work i).line).2≠0 then(x,(x.M.load (x.work i).line).2)
  else if(x.lay ((x.M.load (x.work i).line).1.set w v)).2.2≠0 then((x.lay ((x.M.load (x.work i).line).1.set w v)).1,(x.lay ((x.M.load (x.work i).line).1.set w v)).2.2)
   else({(x.lay ((x.M.load (x.work i).line).1.set w v)).1 with work:=updE x.work i ((x.work i).at (x.lay ((x.M.load (x.work i).line).1.set w v)).2.1)},0):=by
  unfold AS.set;rw[if_neg (by omega),Zh,if_neg hk,Zh]
 rw[hx];by_cases ho:x.own i=true
 ·right;rw[if_pos ho,hq];obtain⟨e1,e2,e3⟩:=uC on hq2 hw v;refine⟨{x with M:=(x.M.store q w v).1},by rw[e1],⟨h.withM h.ok.M.store AM.store_n,e2,ho,rfl,rfl,rfl,rfl,AM.store_n,⟨rfl,rfl⟩,fun _ _=>rfl,⟨rfl,rfl⟩,?_,fun j hj=> ?_,fun _=>⟨rfl,rfl⟩,fun h9=> ?_⟩⟩
  ·simp only[hq,Zh];rw[e3,if_pos rfl]
  ·simp only[hq,Zh]at hj;simp only;rw[e3,if_neg hj]
  ·rw[ho]at h9;cases h9
 ·have ho':x.own i=false:=by simpa using ho
  rw[if_neg ho,hq,JL on hq2];simp only[ne_eq,not_true_eq_false,if_false];by_cases hl:x.A.left=0
  ·left;rw[if_pos hl];exact⟨ho',hl,rfl⟩
  ·right;rw[if_neg hl];rcases GF h.ok on (l:=(x.M.now q).set w v) (by simpa using h.ok.M.now8 hq2)with⟨e,_⟩|⟨k,M,h1,h2,h3,e,h4,h5,h6,h7⟩
   ·exact absurd e hl
   ·rw[e];simp only[not_true_eq_false,if_false];obtain⟨g1,g2⟩:=h.setLine (i:=i) (e:=(x.work i).at k) h3 ⟨h1,h2⟩ rfl (h.v i hi) h4 h6;have e9:updE x.work i ((x.work i).at k) i=(x.work i).at k:=if_pos rfl;refine⟨_,rfl,⟨g1,h5,g2,rfl,rfl,rfl,rfl,h6,⟨rfl,rfl⟩,fun j hj=>if_neg hj,?_,?_,fun j hj=> ?_,fun h9=> ?_,fun _=>⟨k,h1,h2,h3,?_,rfl⟩⟩⟩
    ·simp only[e9];exact⟨rfl,rfl⟩
    ·simp only[e9];simp only[Ent.at,Zh];rw[h7,if_pos rfl,hq,Zh]
    ·simp only[e9]at hj;simp only[Ent.at,Zh]at hj;simp only;rw[h7,if_neg hj]
    ·exact absurd h9 ho
    ·simp only[e9];rfl
theorem Fv.left {x y:AS}{i w:Nat}{v:Int}(h:Fv x y i w v) (ho:x.own i=false):y.A.left+1=x.A.left:=by obtain⟨k,h1,h2,h3,_,h4⟩:=h.more ho;have:=AF.left_put (A:=x.A) (k:=k) (x:=1) h1 h2;rw[h4];rw[if_pos h3,if_neg (by decide)]at this;omega
theorem kX {t:Nat→Ent}{i:Nat}{e:Ent}:updE t i e i=e:=if_pos rfl
theorem fS {t:Nat→Ent}{i j:Nat}{e:Ent}(h:j≠i):updE t i e j=t j:=if_neg h
structure N0 (x y:AS) (k:Int) (n q:Nat):Prop where
 inv:Inv y
 on:y.M.On
 own:y.own n=true
 base:y.base=x.base
 mark:y.mark=x.mark
 is:y.is=x.is
 dir:y.dir=x.dir
 nn:y.M.n=x.M.n
 work:y.work=updE x.work n ⟨k,(x.work n).ver,q⟩
 q0:x.A.f≤q∧q<x.A.l∧x.A.st q=0
 A:y.A=x.A.put q 1
 now:∀j,y.M.now j=if j=q then zl else x.M.now j
theorem N0.left {x y:AS}{k:Int}{n q:Nat}(h:N0 x y k n q):y.A.left+1=x.A.left:=by have:=AF.left_put (A:=x.A) (k:=q) (x:=1) h.q0.1 h.q0.2.1;rw[h.A];rw[if_pos h.q0.2.2,if_neg (by decide)]at this;omega
theorem Inv.taken {x:AS}(h:Inv x) {k:Nat}(hk:x.A.st k=0):Inv {x with A:=x.A.put k 1}:=by
 have hst:∀j:Nat,x.A.st j=1→(x.A.put k 1).st j=1:=fun j hj=>by
  simp only[AF.put];by_cases e:j=k
  ·subst e;rw[al]
  ·rw[aw e];exact hj
 exact⟨h.ok.with h.ok.M rfl (h.ok.A.put (.inr (.inl rfl))) (O3 h.ok.s2 (by decide)) rfl rfl,h.v,fun j hj=>hst j (h.w1 j hj),fun j hj=>hst j (h.s1 j hj),h.di⟩
structure Stp (x y:AS):Prop where
 inv:Inv y
 on:y.M.On
 base:y.base=x.base
 mark:y.mark=x.mark
 is:y.is=x.is
 dir:y.dir=x.dir
 n:y.M.n=x.M.n
 fl:y.A.f=x.A.f∧y.A.l=x.A.l
 now:∀j:Nat,x.sh j=true→y.M.now j=x.M.now j
 cnt:y.M.count≤x.M.count+8
 st:∀j:Nat,x.A.st j=1→aT x.work j=false→y.A.st j=1∧aT y.work j=false
 sh:∀j:Nat,x.sh j=true→y.A.st j=1
theorem Stp.refl {x:AS}(h:Inv x) (on:x.M.On):Stp x x:=⟨h,on,rfl,rfl,rfl,rfl,rfl,⟨rfl,rfl⟩,fun _ _=>rfl,by omega,fun _ h1 h2=>⟨h1,h2⟩,h.s1⟩
theorem Tr {x y:AS}(hb:y.base=x.base) (hm:y.mark=x.mark) (hi:y.is=x.is):y.sh=x.sh:=by unfold AS.sh;rw[hb,hm,hi]
theorem LH {t:Nat→Ent}{i:Nat}{e:Ent}{j:Nat}(h:aT t j=false) (he:e.kind≠0→e.line≠j):aT (updE t i e) j=false:=by
 cases hn:aT (updE t i e) j
 ·rfl
 ·obtain⟨i',h1,h2,h3⟩:=bx.1 hn;by_cases e1:i'=i
  ·subst e1;rw[kX]at h2 h3;exact absurd h3 (he h2)
  ·rw[fS e1]at h2 h3;rw[bx.2 ⟨i',h1,h2,h3⟩]at h;cases h
end Go.Proofs.YtilcajpldklbiaaGreatDoor
