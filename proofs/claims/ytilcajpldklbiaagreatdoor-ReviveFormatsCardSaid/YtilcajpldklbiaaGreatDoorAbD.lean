/-
  YtilcajpldklbiaaGreatDoorAbD: an abstract semantics of the program's code, and that what it tells holds of the program (part D).
-/
import Derived.Test.YtilcajpldklbiaaGreatDoorAbC
import Derived.LoopN
import Derived.Scope
import Derived.ScopeJumps
import Derived.ProofKit
import Derived.SizedLaws
set_option maxRecDepth 100000
namespace Go.Ab
def V.clos (g:Nat):V→Bool
 | .ptr (.hp i) _ _=>decide (i<g)
 |v=>v.flat
def Opd.clos (g:Nat):Opd→Bool
 | .t _=>true
 | .k v=>v.clos g
def zOf:Op'→Option V
 | .alloc _ z=>some z
 | .mksl _ _ _ z _ _=>some z
 | .bld z _=>some z
 | .bsl _ _ _ z _ _=>some z
 |_=>none
def Op'.clos (g:Nat) (o:Op'):Bool:=(ag o).all (Opd.clos g)&&(match zOf o with|some z=>z.flat|none=>true)
end Go.Ab
namespace Go.Ab.Sw
open Go.Ab
structure Swp where
 h:Bool
 i:Nat
def sw (i j:Nat):Nat:=if j=i then i+1 else if j=i+1 then i else j
theorem wG (i j:Nat):sw i (sw i j)=j:=by
 unfold sw;by_cases h1:j=i
 ·subst h1;simp
 ·by_cases h2:j=i+1
  ·subst h2;simp
  ·simp[h1,h2]
theorem WX {i n j:Nat}(hi:i+1<n):sw i j<n↔j<n:=by
 unfold sw;by_cases h1:j=i
 ·subst h1;simp;omega
 ·by_cases h2:j=i+1
  ·subst h2;simp;omega
  ·simp[h1,h2]
def Swp.a (F:Swp):Loc→Loc
 | .loc j=>if F.h then .loc j else .loc (sw F.i j)
 | .hp j=>if F.h then .hp (sw F.i j)else .hp j
def Swp.j (F:Swp) (i:Nat):Nat:=if F.h then sw F.i i else i
theorem xk {F:Swp}{i:Nat}:F.a (.hp i)= .hp (F.j i):=by simp only[Swp.a,Swp.j];split<;>rfl
mutual
def Swp.v (F:Swp):V→V
 | .mp (some i)=> .mp (some (F.j i))
 | .ptr a p t=> .ptr (F.a a) p t
 | .sl a p o l c e=> .sl (F.a a) p o l c e
 | .fn f caps=> .fn f (F.vs caps)
 | .agg t l=> .agg t (F.vs l)
 | .tup l=> .tup (F.vs l)
 |v=>v
def Swp.vs (F:Swp):List V→List V
 |[]=>[]
 |v::l=>F.v v::F.vs l
end
def Swp.b (F:Swp):Blk→Blk
 | .dead=> .dead
 | .ro v=> .ro (F.v v)
 | .rw v=> .rw (F.v v)
 | .mp l=> .mp l
def swl {α:Type}(i:Nat) (l:List α):List α:=match l[i]?,l[i+1]? with
 |some x,some y=>(l.set i y).set (i+1) x
 |_,_=>l
theorem mc {α:Type}(i:Nat) (l:List α):(swl i l).length=l.length:=by unfold swl;split<;>simp
theorem qW {α:Type}{i:Nat}{l:List α}(hi:l.length≤i):swl i l=l:=by unfold swl;rw[List.getElem?_eq_none hi]
theorem gL {α:Type}{i:Nat}{l:List α}(hi:i+1≠l.length) (j:Nat):(swl i l)[sw i j]?=l[j]?:=by
 by_cases hin:i+1<l.length
 ·unfold swl;rw[List.getElem?_eq_getElem (show i<l.length by omega),List.getElem?_eq_getElem hin];simp only;unfold sw;by_cases h1:j=i
  ·subst h1;rw[if_pos rfl,List.getElem?_set_self (by simpa using hin),List.getElem?_eq_getElem (by omega)]
  ·rw[if_neg h1];by_cases h2:j=i+1
   ·subst h2;rw[if_pos rfl,List.getElem?_set_ne (by omega),List.getElem?_set_self (by omega),List.getElem?_eq_getElem hin]
   ·rw[if_neg h2,List.getElem?_set_ne (by omega),List.getElem?_set_ne (by omega)]
 ·rw[qW (by omega)];unfold sw;by_cases h1:j=i
  ·subst h1;rw[if_pos rfl,List.getElem?_eq_none (by omega),List.getElem?_eq_none (by omega)]
  ·rw[if_neg h1];by_cases h2:j=i+1
   ·subst h2;rw[if_pos rfl,List.getElem?_eq_none (by omega),List.getElem?_eq_none (by omega)]
   ·rw[if_neg h2]
theorem Dg {α:Type}{i:Nat}{l m:List α}(hi:i+1≠l.length) (h:∀j,m[sw i j]?=l[j]?):m=swl i l:=by apply List.ext_getElem?;intro j;have:=h (sw i j);rw[wG]at this;rw[this,←gL hi (sw i j),wG]
theorem JR {α:Type}{i:Nat}{l:List α}(hi:i+1≠l.length):swl i (swl i l)=l:=by symm;apply Dg (by rw[mc];exact hi);intro j;have:=gL hi (sw i j);rw[wG]at this;exact this.symm
theorem J7 {α:Type}{i:Nat}{l:List α}(hi:i+1≠l.length) (j:Nat) (x:α):swl i (l.set j x)=(swl i l).set (sw i j) x:=by
 symm;apply Dg (by simpa using hi);intro k;by_cases e:j=k
 ·subst e;by_cases hj:j<l.length
  ·have hg:=gL hi j;rw[List.getElem?_eq_getElem hj]at hg;rw[List.getElem?_set_self (List.getElem?_eq_some_iff.1 hg).1,List.getElem?_set_self hj]
  ·have hg:(swl i l)[sw i j]?=none:=by rw[gL hi j];exact List.getElem?_eq_none (by omega)
   rw[List.getElem?_eq_none (by rw[List.length_set];exact List.getElem?_eq_none_iff.1 hg),List.getElem?_eq_none (by simp;omega)]
 ·rw[List.getElem?_set_ne (by intro h;apply e;have:=congrArg (sw i) h;rwa [wG,wG]at this),gL hi,List.getElem?_set_ne e]
theorem Do {α:Type}{i:Nat}{l:List α}{x:α}(hi:i+1≠l.length) (hi2:i≠l.length):swl i (l++[x])=swl i l++[x]:=by
 by_cases hin:i+1<l.length
 ·symm;apply Dg (by simp;omega);intro k;by_cases hk:k<l.length
  ·rw[List.getElem?_append_left (by rw[mc];exact(WX hin).2 hk),gL hi,List.getElem?_append_left hk]
  ·have e:sw i k=k:=by unfold sw;rw[if_neg (by omega),if_neg (by omega)]
   rw[e,List.getElem?_append_right (by rw[mc];omega),List.getElem?_append_right (by omega),mc]
 ·rw[qW (l:=l) (by omega),qW (l:=l++[x]) (by rw[List.length_append,List.length_singleton];omega)]
theorem JF {α β:Type}(f:α→β) (i:Nat) (l:List α):(swl i l).map f=swl i (l.map f):=by
 unfold swl;rw[List.getElem?_map,List.getElem?_map];cases l[i]? with
 |none=>rfl
 |some x=>
  cases l[i+1]? with
  |none=>rfl
  |some y=>simp
def Swp.s (F:Swp) (s:St):St:=if F.h then⟨s.loc.map F.b,(swl F.i s.hp).map F.b⟩else⟨(swl F.i s.loc).map F.b,s.hp.map F.b⟩
def Swp.e (F:Swp) (ρ:Env):Env:=ρ.map fun p=>(p.1,F.v p.2)
def Swp.n (F:Swp) (s:St):Nat:=if F.h then s.hp.length else s.loc.length
def Swp.In (F:Swp) (s:St):Prop:=F.i+1≠F.n s
structure Swp.Ok (F:Swp) (base:Nat):Prop where
 lo:F.h=false→base≤F.i
section
variable {F : Swp}
theorem aY:∀(l:List V),F.vs l=l.map F.v
 |[]=>by simp[Swp.vs]
 |v::l=>by simp[Swp.vs,aY l]
theorem Lm (ρ:Env):F.e ρ=ρ.map fun p=>(p.1,F.v p.2):=rfl
mutual
theorem ib:∀{v:V},v.flat=true→F.v v=v
 | .ptr _ _ _,h=>by simp[V.flat]at h
 | .sl _ _ _ _ _ _,h=>by simp[V.flat]at h
 | .fn f caps,h=>by simp only[V.flat]at h;simp only[Swp.v,kN h]
 | .agg t l,h=>by simp only[V.flat]at h;simp only[Swp.v,kN h]
 | .tup l,h=>by simp only[V.flat]at h;simp only[Swp.v,kN h]
 | .mp (some _),h=>by simp[V.flat]at h
 | .mp none,_=>by simp[Swp.v]
 | .dead,_| .bool _,_| .int _ _,_| .str _,_| .nilp,_| .nils,_| .nilf,_=>by simp[Swp.v]
theorem kN:∀{l:List V},V.flats l=true→F.vs l=l
 |[],_=>by simp[Swp.vs]
 |v::l,h=>by simp only[V.flats,Zj]at h;simp only[Swp.vs,ib h.1,kN h.2]
end
theorem HA {v:V}(h:v.clos 0=true):F.v v=v:=by
 unfold V.clos at h;split at h
 ·simp only[Zi]at h;omega
 ·exact ib h
mutual
theorem iQ:∀(v:V),(F.v v).locLt 0=v.locLt 0
 | .ptr (.loc i) _ _=>by simp only[Swp.v,Swp.a];split<;>simp[V.locLt]
 | .ptr (.hp i) _ _=>by simp only[Swp.v,Swp.a];split<;>simp[V.locLt]
 | .sl (.loc i) _ _ _ _ _=>by simp only[Swp.v,Swp.a];split<;>simp[V.locLt]
 | .sl (.hp i) _ _ _ _ _=>by simp only[Swp.v,Swp.a];split<;>simp[V.locLt]
 | .fn f caps=>by simp only[Swp.v,V.locLt,jz caps]
 | .agg t l=>by simp only[Swp.v,V.locLt,jz l]
 | .tup l=>by simp only[Swp.v,V.locLt,jz l]
 | .mp (some _)| .mp none=>by simp[Swp.v,V.locLt]
 | .dead| .bool _| .int _ _| .str _| .nilp| .nils| .nilf=>by simp[Swp.v,V.locLt]
theorem jz:∀(l:List V),V.locLts 0 (F.vs l)=V.locLts 0 l
 |[]=>by simp[Swp.vs,V.locLts]
 |v::l=>by simp only[Swp.vs,V.locLts,iQ v,jz l]
end
theorem rj {o:Option Nat}:F.v (.mp o)= .mp (o.map F.j):=by cases o<;>simp[Swp.v]
theorem iv (v:V):(F.v v).tag=v.tag:=by
 cases v with
 |mp o=>rw[rj];rfl
 |_=>rfl
theorem FK (v:V):(F.v v).ok=v.ok:=by
 cases v with
 |mp o=>rw[rj];rfl
 |_=>rfl
theorem uD {h:Bool}(v:V):bi h (F.v v)=bi h v:=by simp only[bi,iQ]
theorem uJ:∀(ρ:Env) (t:Nat),get (F.e ρ) t=F.v (get ρ t)
 |[],_=>rfl
 |(k,v)::r,t=>by
  simp only[Lm,List.map_cons,get];split
  ·rfl
  ·exact uJ r t
theorem ai {ρ:Env}{x:Opd}(h:x.clos 0=true):x.ev (F.e ρ)=F.v (x.ev ρ):=by
 cases x with
 |t n=>exact uJ ρ n
 |k v=>exact(HA h).symm
theorem Bt:∀{p:List Nat}{v u:V},V.at p v=some u→V.at p (F.v v)=some (F.v u)
 |[],v,u,h=>by simp only[V.at,Zg]at h⊢;rw[h]
 |i::p,v,u,h=>by
  cases v with
  |agg t l=>
   simp only[V.at]at h;cases hy:l[i]? with
   |none=>rw[hy]at h;cases h
   |some y=>
    rw[hy]at h;simp only[Swp.v,V.at,aY,List.getElem?_map,hy,Option.map_some];exact Bt h
  |_=>cases h
theorem vJ:∀{p:List Nat}{x v u:V},V.setAt p x v=some u→V.setAt p (F.v x) (F.v v)=some (F.v u)
 |[],x,v,u,h=>by simp only[V.setAt,Zg]at h⊢;rw[h]
 |i::p,x,v,u,h=>by
  cases v with
  |agg t l=>
   simp only[V.setAt]at h;cases hy:l[i]? with
   |none=>rw[hy]at h;cases h
   |some y=>
    rw[hy]at h;simp only at h;cases hq:V.setAt p x y with
    |none=>rw[hq]at h;cases h
    |some y'=>
     rw[hq]at h;simp only[Zg]at h;subst h;simp only[Swp.v,V.setAt,aY,List.getElem?_map,hy,Option.map_some,vJ hq,List.map_set]
  |_=>cases h
theorem wK {s:St}(hs:F.In s) {a:Loc}{b:Blk}(h:s.at a=some b):(F.s s).at (F.a a)=some (F.b b):=by
 unfold Swp.In Swp.n at hs;obtain⟨hh,i⟩:=F;cases hh with
 |true=>
  simp only[if_true]at hs;cases a with
  |loc j=>simp only[St.at]at h;simp only[Swp.a,Swp.s,if_true,St.at,List.getElem?_map,h];rfl
  |hp j=>simp only[St.at]at h;simp only[Swp.a,Swp.s,if_true,St.at,List.getElem?_map,gL hs,h];rfl
 |false=>
  simp only[Bool.false_eq_true,if_false]at hs;cases a with
  |loc j=>simp only[St.at]at h;simp only[Swp.a,Swp.s,Bool.false_eq_true,if_false,St.at,List.getElem?_map,gL hs,h];rfl
  |hp j=>simp only[St.at]at h;simp only[Swp.a,Swp.s,Bool.false_eq_true,if_false,St.at,List.getElem?_map,h];rfl
theorem iM {s:St}(hs:F.In s) {a:Loc}{p:List Nat}{u:V}(h:s.read a p=some u):(F.s s).read (F.a a) p=some (F.v u):=by
 unfold St.read at h⊢;cases hb:s.at a with
 |none=>rw[hb]at h;cases h
 |some b=>
  rw[hb]at h;rw[wK hs hb];cases b with
  |dead=>cases h
  |mp v=>cases h
  |ro v=>exact Bt h
  |rw v=>exact Bt h
theorem wx {s:St}(hs:F.In s) {a:Loc}(b:Blk):F.s (s.set a b)=(F.s s).set (F.a a) (F.b b)∧F.In (s.set a b):=by
 unfold Swp.In Swp.n at hs⊢;obtain⟨hh,i⟩:=F;cases hh with
 |true=>
  simp only[if_true]at hs⊢;cases a with
  |loc j=>exact⟨by simp[St.set,Swp.s,Swp.a,List.map_set],by simpa[St.set]using hs⟩
  |hp j=>exact⟨by simp[St.set,Swp.s,Swp.a,J7 hs,List.map_set],by simpa[St.set]using hs⟩
 |false=>
  simp only[Bool.false_eq_true,if_false]at hs⊢;cases a with
  |loc j=>exact⟨by simp[St.set,Swp.s,Swp.a,J7 hs,List.map_set],by simpa[St.set]using hs⟩
  |hp j=>exact⟨by simp[St.set,Swp.s,Swp.a,List.map_set],by simpa[St.set]using hs⟩
theorem rm {base:Nat}(hF:F.Ok base) {s s':St}(hs:F.In s) {a:Loc}{p:List Nat}{x:V}(h:s.write base a p x=some s'):(F.s s).write base (F.a a) p (F.v x)=some (F.s s')∧F.In s':=by
 unfold St.write at h⊢;cases hb:s.at a with
 |none=>rw[hb]at h;cases h
 |some b=>
  rw[hb]at h;rw[wK hs hb];cases b with
  |dead=>cases h
  |mp v=>cases h
  |ro v=>cases h
  |rw v=>
   simp only at h;by_cases hm:fM base a x=true
   ·rw[if_pos hm]at h;have hm':fM base (F.a a) (F.v x)=true:=by
     have hlo:=hF.lo;cases a with
     |loc j=>
      simp only[Swp.a];split
      ·simp only[fM,iQ]at hm⊢;exact hm
      ·rename_i hh;have:=hlo (by simpa using hh);simp only[fM,iQ,Bool.or_eq_true,Zi]at hm⊢;rcases hm with hm|hm
       ·exact .inl hm
       ·right;unfold sw;split
        ·omega
        ·split<;>omega
     |hp j=>
      have h0:x.locLt 0=true:=hm;simp only[Swp.a];split<;>(simp only[fM,iQ];exact h0)
    cases hq:V.setAt p x v with
    |none=>rw[hq]at h;cases h
    |some v'=>
     rw[hq]at h;simp only[Zg]at h;subst h;obtain⟨g1,g2⟩:=wx (a:=a) hs (.rw v');refine⟨?_,g2⟩;simp only[Swp.b,if_pos hm',vJ hq];rw[g1];rfl
   ·rw[if_neg hm]at h;cases h
theorem pW {s:St}(hs:F.In s) (h:Bool) (v:V) (hI:F.In (s.new h v)):F.s (s.new h v)=(F.s s).new h (F.v v)∧(F.s s).fresh h=F.a (s.fresh h)∧F.In (s.new h v):=by
 have hI':=hI;unfold Swp.In Swp.n at hs hI;obtain⟨hh,i⟩:=F;cases hh with
 |true=>
  simp only[if_true]at hs hI;cases h with
  |false=>exact⟨by simp[St.new,Swp.s,Swp.b],by simp[St.fresh,Swp.s,Swp.a],hI'⟩
  |true=>
   have h2:i≠s.hp.length:=by simpa[St.new]using hI
   refine⟨by simp[St.new,Swp.s,Swp.b,Do hs h2],?_,hI'⟩;simp only[St.fresh,Swp.s,Swp.a,if_true,List.length_map,mc];congr 1;unfold sw;rw[if_neg (by omega),if_neg (by omega)]
 |false=>
  simp only[Bool.false_eq_true,if_false]at hs hI;cases h with
  |true=>exact⟨by simp[St.new,Swp.s,Swp.b],by simp[St.fresh,Swp.s,Swp.a],hI'⟩
  |false=>
   have h2:i≠s.loc.length:=by simpa[St.new]using hI
   refine⟨by simp[St.new,Swp.s,Swp.b,Do hs h2],?_,hI'⟩;simp only[St.fresh,Swp.s,Swp.a,Bool.false_eq_true,if_false,List.length_map,mc];congr 1;unfold sw;rw[if_neg (by omega),if_neg (by omega)]
end
variable {F : Swp}
mutual
theorem BX:∀{x y:V}{b:Bool},veq x y=some b→veq (F.v x) (F.v y)=some b
 | .bool _,y,b,h=>by cases y<;>simp[veq,Swp.v]at h⊢;exact h
 | .int _ _,y,b,h=>by cases y<;>simp[veq,Swp.v]at h⊢;exact h
 | .str _,y,b,h=>by cases y<;>simp[veq,Swp.v]at h⊢;exact h
 | .agg t l,y,b,h=>by
  cases y with
  |agg t' l'=>
   simp only[veq,Swp.v]at h⊢;split at h
   ·rename_i ht;rw[if_pos ht];exact y8 h
   ·cases h
  |_=>simp[veq]at h
 | .dead,y,b,h| .ptr _ _ _,y,b,h| .sl _ _ _ _ _ _,y,b,h| .fn _ _,y,b,h| .tup _,y,b,h| .nilp,y,b,h| .nils,y,b,h| .nilf,y,b,h=>by cases y<;>simp[veq]at h
theorem y8:∀{x y:List V}{b:Bool},dL x y=some b→dL (F.vs x) (F.vs y)=some b
 |[],y,b,h=>by cases y<;>simp[dL,Swp.vs]at h⊢;exact h
 |v::l,y,b,h=>by
  cases y with
  |nil=>simp[dL]at h
  |cons v' l'=>
   simp only[dL,Swp.vs]at h⊢;cases hv:veq v v' with
   |none=>rw[hv]at h;cases h
   |some q=>
    rw[hv]at h;rw[BX hv];cases q with
    |true=>exact y8 h
    |false=>exact h
end
theorem AQ {t:Nat}{x y:V}(h1:t≠1) (h3:t≠3) (h5:t≠5):ew t x y=if x.tag=t∧y.tag=t then veq x y else none:=by
 unfold ew;split<;>first|rfl|(exact absurd rfl h1)|(exact absurd rfl h3)|(exact absurd rfl h5)
theorem FJ {t:Nat}{x y:V}{b:Bool}(h:ew t x y=some b):ew t (F.v x) (F.v y)=some b:=by
 by_cases h1:t=1
 ·subst h1;simp only[ew]at h⊢;split at h<;>simp_all [Swp.v]
 ·by_cases h3:t=3
  ·subst h3;simp only[ew]at h⊢;split at h<;>simp_all [Swp.v]
  ·by_cases h5:t=5
   ·subst h5;simp only[ew]at h⊢;split at h<;>simp_all [Swp.v]
   ·rw[AQ h1 h3 h5]at h⊢;rw[iv,iv];split at h
    ·rename_i ht;rw[if_pos ht];exact BX h
    ·cases h
theorem FN {o:BinOp}{x y v:V}(h:mO o x y=some v):mO o (F.v x) (F.v y)=some v∧F.v v=v:=by
 unfold mO at h;split at h
 ·rename_i k a k' b;refine⟨h,?_⟩;split at h
  ·unfold shf at h;split at h
   ·cases h
   ·split at h<;>cases h<;>rfl
  ·split at h
   ·unfold DD at h;split at h<;>(first|(cases h;rfl)|(split at h<;>cases h;rfl)|cases h)
   ·cases h
 ·refine⟨h,?_⟩;unfold DM at h;split at h<;>(first|(cases h;rfl)|(split at h<;>cases h;rfl)|cases h)
 ·cases h
theorem KJ {o:UnOp}{x v:V}(h:vun o x=some v):vun o (F.v x)=some v∧F.v v=v:=by
 unfold vun at h;split at h<;>(first|(cases h;exact⟨rfl,rfl⟩)|cases h)
theorem FA {s:St}(hs:F.In s) {n u:Nat}{a:Loc}{q:List Nat}{l:List V}(h:s.part n u a q=some l):(F.s s).part n u (F.a a) q=some (l.map F.v):=by
 unfold St.part at h⊢;cases hr:s.read a q.dropLast with
 |none=>rw[hr]at h;cases h
 |some v=>
  rw[hr]at h;rw[iM hs hr];cases v with
  |agg t L=>
   simp only at h;simp only[Swp.v,aY,List.length_map];split at h
   ·rename_i hh;rw[if_pos hh];simp only[Zg]at h;subst h;rw[List.map_take,List.map_drop]
   ·cases h
  |_=>cases h
theorem mZ {s:St}(hs:F.In s) {v:V}{l:List V}(h:s.elems v=some l):(F.s s).elems (F.v v)=some (l.map F.v):=by
 unfold St.elems at h;split at h
 ·simp only[Zg]at h;subst h;rfl
 ·rename_i a p off len c e;simp only[Swp.v,St.elems];by_cases hz:len=0
  ·rw[if_pos hz]at h⊢;simp only[Zg]at h;subst h;rfl
  ·rw[if_neg hz]at h⊢;cases hr:s.read a p with
   |none=>rw[hr]at h;cases h
   |some u=>
    rw[hr]at h;rw[iM hs hr];cases u with
    |agg t L=>
     simp only at h;simp only[Swp.v,aY,List.length_map];split at h
     ·rename_i hh;rw[if_pos hh];simp only[Zg]at h;subst h;rw[List.map_take,List.map_drop]
     ·cases h
    |_=>cases h
 ·simp only[Zg]at h;subst h;simp only[Swp.v,St.elems,List.map_map];rfl
 ·cases h
theorem ze {e:Nat}(v:V):(F.v v).slIs e=v.slIs e:=by
 cases v with
 |mp o=>rw[rj];rfl
 |_=>rfl
theorem yF {e:Nat}(v:V):(F.v v).elIs e=v.elIs e:=by
 cases v with
 |mp o=>rw[rj];rfl
 |_=>rfl
theorem F8 {q:Bool}{v:V}{n:Nat}(h:V.slen q v=some n):V.slen q (F.v v)=some n:=by
 unfold V.slen at h;split at h<;>(first|exact h|cases h)
theorem cA {y d n:Nat}{x:Option V}(h:ao y x d=some n):ao y (x.map F.v) d=some n:=by
 unfold ao at h;split at h
 ·exact h
 ·exact h
 ·cases h
theorem jp:∀{ps:List (Nat×V)}{l l':List V},bf l ps=some l'→bf (l.map F.v) (ps.map fun p=>(p.1,F.v p.2))=some (l'.map F.v)
 |[],l,l',h=>by simp only[bf,Zg]at h;subst h;rfl
 |(i,x)::r,l,l',h=>by
  simp only[bf]at h;simp only[List.map_cons,bf,List.getElem?_map];cases hy:l[i]? with
  |none=>rw[hy]at h;cases h
  |some y=>
   rw[hy]at h;simp only[Option.map_some,FK,iv]at h⊢;split at h
   ·rename_i hc;rw[if_pos hc];have:=jp h;rw[List.map_set]at this;exact this
   ·cases h
theorem Gp {mx:Bool}{x y v:V}(h:nJ mx x y=some v):nJ mx (F.v x) (F.v y)=some v∧F.v v=v:=by
 unfold nJ at h;split at h
 ·refine⟨h,?_⟩;split at h
  ·cases h;rfl
  ·cases h
 ·cases h
theorem qo {h:Bool}{l:List V}:bi h (.agg 1 (l.map F.v))=bi h (.agg 1 l):=by rw[←aY];exact uD (F:=F) (.agg 1 l)
theorem sf {base:Nat}{h:Bool}{r e:Nat}{x y v:V}{s s':St}(hs:F.In s) (hI:F.In s') (hv:aD base h r e x y s=some (v,s')):
 aD (base) h r e (F.v x) (F.v y) (F.s s)=some (F.v v,F.s s')∧F.In s':=by
 unfold aD at hv⊢;rw[ze,yF];by_cases hc:(x.slIs e&&y.elIs e)=true
 ·rw[if_pos hc]at hv⊢;cases hx:s.elems x with
  |none=>rw[hx]at hv;cases hv
  |some old=>
   cases hy:s.elems y with
   |none=>rw[hx,hy]at hv;cases hv
   |some new=>
    rw[hx,hy]at hv;rw[mZ hs hx,mZ hs hy];simp only[List.length_map]at hv⊢;by_cases h0:new.length=0
    ·rw[if_pos h0]at hv⊢;simp only[Zg,Zk]at hv;obtain⟨rfl,rfl⟩:=hv;exact⟨rfl,hs⟩
    ·rw[if_neg h0]at hv⊢;rw[←List.map_append,qo];by_cases hm:old.length+new.length≤cg∧(e%2=0∨bi h (.agg 1 (old++new))=true)
     ·rw[if_pos hm]at hv⊢;have key:∀s1:St,F.In s1→some (V.sl (s1.fresh h) [] 0 (old.length+new.length) none e,s1.new h (.agg r (old++new)))=some (v,s')→
       some (V.sl ((F.s s1).fresh h) [] 0 (old.length+new.length) none e,(F.s s1).new h (.agg r ((old++new).map F.v)))=some (F.v v,F.s s')∧F.In s':=by
       intro s1 h1 hh;simp only[Zg,Zk]at hh;obtain⟨rfl,rfl⟩:=hh;obtain⟨k1,k2,k3⟩:=pW h1 h (.agg r (old++new)) hI;refine⟨?_,k3⟩;rw[k1,k2];simp only[Swp.v,aY]
      cases x with
      |nils=>exact key s hs hv
      |sl a p o l c e'=>
       simp only[Swp.v]at hv⊢;split at hv
       ·rename_i hk;rw[if_pos hk];exact key s hs hv
       ·rename_i hk;rw[if_neg hk];by_cases hp:p=[]
        ·rw[if_pos hp]at hv⊢;cases ha:s.at a with
         |none=>rw[ha]at hv;cases hv
         |some b=>
          rw[ha]at hv;rw[wK hs ha];cases b with
          |rw u=>
           obtain⟨g1,g2⟩:=wx (a:=a) hs .dead;have:=key _ g2 hv;rw[g1]at this;exact this
          |_=>cases hv
        ·rw[if_neg hp]at hv;cases hv
      |_=>cases hv
     ·rw[if_neg hm]at hv;cases hv
 ·rw[if_neg hc]at hv;cases hv
theorem Dz {base:Nat}(hF:F.Ok base) {e:Nat}{x y v:V}{s s':St}(hs:F.In s) (hv:iw base e x y s=some (v,s')):
 iw (base) e (F.v x) (F.v y) (F.s s)=some (F.v v,F.s s')∧F.In s':=by
 unfold iw at hv⊢;rw[ze,yF];by_cases hc:(x.slIs e&&y.elIs e)=true
 ·rw[if_pos hc]at hv⊢;cases hy:s.elems y with
  |none=>rw[hy]at hv;cases hv
  |some ys=>
   rw[hy]at hv;rw[mZ hs hy];simp only at hv⊢;cases x with
   |nils=>
    simp only[Zg,Zk]at hv;obtain⟨rfl,rfl⟩:=hv;exact⟨rfl,hs⟩
   |sl a p o l c e'=>
    simp only[Swp.v,List.length_map]at hv⊢;by_cases h0:min ys.length l=0
    ·rw[if_pos h0]at hv⊢;simp only[Zg,Zk]at hv;obtain⟨rfl,rfl⟩:=hv;exact⟨rfl,hs⟩
    ·rw[if_neg h0]at hv⊢;cases hr:s.read a p with
     |none=>rw[hr]at hv;cases hv
     |some u=>
      rw[hr]at hv;rw[iM hs hr];cases u with
      |agg t L=>
       simp only at hv;simp only[Swp.v,aY,List.length_map];by_cases hb:o+l≤L.length
       ·rw[if_pos hb]at hv⊢;cases hw:s.write base a p (.agg t (L.take o++ys.take (min ys.length l)++L.drop (o+min ys.length l)))with
        |none=>rw[hw]at hv;cases hv
        |some s1=>
         rw[hw]at hv;simp only[Zg,Zk]at hv;obtain⟨rfl,rfl⟩:=hv;obtain⟨g1,g2⟩:=rm hF hs hw;simp only[Swp.v,aY,List.map_append,List.map_take,List.map_drop]at g1;rw[g1];exact⟨rfl,g2⟩
       ·rw[if_neg hb]at hv;cases hv
      |_=>cases hv
   |_=>cases hv
 ·rw[if_neg hc]at hv;cases hv
theorem KR {ρ:Env}{xs:List Opd}(h:∀x∈xs,x.clos 0=true):xs.map (Opd.ev (F.e ρ))=(xs.map (Opd.ev ρ)).map F.v:=by rw[List.map_map];exact List.map_congr_left fun x hx=>ai (h x hx)
theorem gi {ρ:Env}{x:Option Opd}(h:∀y∈oL x,y.clos 0=true):x.map (Opd.ev (F.e ρ))=(x.map (Opd.ev ρ)).map F.v:=by
 cases x with
 |none=>rfl
 |some y=>simp only[Option.map_some];rw[ai (h y (by simp[oL]))]
theorem a_a (c:Loc):F.a (F.a c)=c:=by cases hF:F.h<;>cases c<;>simp[Swp.a,hF,wG]
theorem zv {a b:Loc}(h:F.a a=F.a b):a=b:=by rw[←a_a (F:=F) a,h,a_a]
theorem DX {x y:V}(h:mG x y=true):mG (F.v x) (F.v y)=true:=by
 cases x with
 |ptr a q t=>
  cases y with
  |ptr b r u=>
   simp only[mG,Zi]at h;simp only[Swp.v,mG,Zi];rw[h]
  |_=>cases h
 |_=>cases h
theorem DS {x y:V}(h:iW x y=true):iW (F.v x) (F.v y)=true:=by
 cases x with
 |ptr a p t=>cases y with
  |sl b q o l c u=>
   simp only[iW,Zi]at h;simp only[Swp.v,iW,Zi];exact fun e=>h (zv e)
  |nils=>rfl
  |_=>cases h
 |_=>cases h
theorem DW {x y:V}(h:ii x y=true):ii (F.v x) (F.v y)=true:=by
 cases x with
 |ptr a p t=>cases y with
  |ptr b q u=>
   simp only[ii,Zi]at h;simp only[Swp.v,ii,Zi];exact fun e=>h (zv e)
  |_=>cases h
 |_=>cases h
theorem yz {s:St}(hs:F.In s) {v:V}{i:Nat}{l:List Int}(h:s.mpAt v=some (i,l)):(F.s s).mpAt (F.v v)=some (F.j i,l):=by
 unfold St.mpAt at h;split at h
 ·rename_i j;split at h
  ·rename_i h1;simp only[Zg,Zk]at h;obtain⟨rfl,rfl⟩:=h;have:=wK hs (a:= .hp j) h1;rw[xk]at this;simp only[Swp.v,St.mpAt];rw[show(F.s s).hp[F.j j]?=some (.mp _)from this]
  ·cases h
 ·cases h
theorem LU {s:St}(hs:F.In s) (hI:F.In ⟨s.loc,s.hp++[.mp []]⟩):F.s ⟨s.loc,s.hp++[.mp []]⟩=⟨(F.s s).loc,(F.s s).hp++[.mp []]⟩∧(F.s s).hp.length=F.j s.hp.length:=by
 unfold Swp.In Swp.n at hs hI;obtain⟨hh,i⟩:=F;cases hh with
 |true=>
  simp only[if_true]at hs hI;have h2:i≠s.hp.length:=by simpa using hI
  refine⟨by simp[Swp.s,Swp.b,Do hs h2],?_⟩;simp only[Swp.s,Swp.j,if_true,List.length_map,mc];unfold sw;rw[if_neg (by omega),if_neg (by omega)]
 |false=>exact⟨by simp[Swp.s,Swp.b],by simp[Swp.s,Swp.j]⟩
theorem Iq {s:St}(hs:F.In s) {x k v:V}(h:my x k s=some v):my (F.v x) (F.v k) (F.s s)=some (F.v v):=by
 unfold my at h;split at h
 ·rename_i i l n hm;simp only[Zg]at h;subst h;simp only[my,yz hs hm,Swp.v]
 ·cases h
theorem GW {s s':St}(hs:F.In s) {x k y:V}(h:i7 x k y s=some s'):i7 (F.v x) (F.v k) (F.v y) (F.s s)=some (F.s s')∧F.In s':=by
 unfold i7 at h;split at h
 ·rename_i i l n hm;simp only[Zg]at h;subst h;obtain⟨g1,g2⟩:=wx (a:= .hp i) hs (.mp (if n∈l then l else l++[n]))
  refine⟨?_,g2⟩;simp only[i7,yz hs hm,Swp.v];have:=g1;rw[xk]at this;simp only[St.set,Swp.b]at this;rw[this]
 ·cases h
section ops
variable {base : Nat} (hF : F.Ok base) {ρ : Env} {s s' : St} {v : V} (hs : F.In s)
include hF hs
theorem Mj (hI:F.In s') {o:Op'}(hc:o.clos 0=true) (h:evOp base ρ s o=some (v,s')):evOp (base) (F.e ρ) (F.s s) o=some (F.v v,F.s s')∧F.In s':=by
 simp only[Op'.clos,Zj,List.all_eq_true]at hc;obtain⟨ho,hz⟩:=hc;have fin:∀{u:V}{a:Option (V×St)},some (u,s)=some (v,s')→a=some (F.v u,F.s s)→a=some (F.v v,F.s s')∧F.In s':=by intro u a h1 h2;simp only[Zg,Zk]at h1;obtain⟨rfl,rfl⟩:=h1;exact⟨h2,hs⟩
 cases o with
 |mv x=>
  simp only[evOp]at h⊢;exact fin h (by rw[ai (ho x (by simp[ag]))])
 |pick x y z=>
  simp only[evOp]at h⊢;rw[ai (ho x (by simp[ag])),ai (ho y (by simp[ag])),ai (ho z (by simp[ag]))];cases hx:x.ev ρ with
  |bool t=>rw[hx]at h;simp only[Swp.v]at h⊢;exact fin h (by cases t<;>rfl)
  |_=>rw[hx]at h;cases h
 |alloc hh z=>
  simp only[zOf]at hz;simp only[evOp,Zg,Zk]at h⊢;obtain⟨rfl,rfl⟩:=h;obtain⟨g1,g2,g3⟩:=pW hs hh z hI;rw[g1,g2,ib hz];exact⟨⟨rfl,rfl⟩,g3⟩
 |box hh x=>
  simp only[evOp]at h⊢;rw[ai (ho x (by simp[ag])),FK,uD,iv];split at h
  ·rename_i hk;rw[if_pos hk];simp only[Zg,Zk]at h⊢;obtain⟨rfl,rfl⟩:=h;obtain⟨g1,g2,g3⟩:=pW hs hh (x.ev ρ) hI;rw[g1,g2];exact⟨⟨rfl,rfl⟩,g3⟩
  ·cases h
 |ld t p=>
  simp only[evOp]at h⊢;rw[ai (ho p (by simp[ag]))];cases hx:p.ev ρ with
  |ptr a q t'=>
   rw[hx]at h;simp only[Swp.v]at h⊢;split at h
   ·rename_i ht;rw[if_pos ht];cases hr:s.read a q with
    |none=>rw[hr]at h;cases h
    |some u=>rw[hr]at h;rw[iM hs hr];exact fin h rfl
   ·cases h
  |_=>rw[hx]at h;cases h
 |st t p x=>
  simp only[evOp]at h⊢;rw[ai (ho p (by simp[ag])),ai (ho x (by simp[ag])),iv];cases hx:p.ev ρ with
  |ptr a q t'=>
   rw[hx]at h;simp only[Swp.v]at h⊢;split at h
   ·rename_i ht;rw[if_pos ht];cases hr:s.write base a q (x.ev ρ)with
    |none=>rw[hr]at h;cases h
    |some s1=>
     rw[hr]at h;obtain⟨g1,g2⟩:=rm hF hs hr;rw[g1];simp only[Zg,Zk]at h⊢;obtain⟨rfl,rfl⟩:=h;exact⟨⟨rfl,rfl⟩,g2⟩
   ·cases h
  |_=>rw[hx]at h;cases h
 |nilc x=>
  simp only[evOp]at h⊢;rw[ai (ho x (by simp[ag]))];cases hx:x.ev ρ with
  |ptr a q t'=>rw[hx]at h;simp only[Swp.v]at h⊢;exact fin h rfl
  |fn f l=>rw[hx]at h;simp only[Swp.v]at h⊢;exact fin h rfl
  |_=>rw[hx]at h;cases h
 |bin o x y=>
  simp only[evOp]at h⊢;rw[ai (ho x (by simp[ag])),ai (ho y (by simp[ag]))];cases hx:mO o (x.ev ρ) (y.ev ρ)with
  |none=>rw[hx]at h;cases h
  |some u=>
   rw[hx]at h;obtain⟨g1,g2⟩:=FN (F:=F) hx;rw[g1];exact fin h (by rw[g2])
 |eq neg t x y=>
  simp only[evOp]at h⊢;rw[ai (ho x (by simp[ag])),ai (ho y (by simp[ag]))];cases hx:ew t (x.ev ρ) (y.ev ρ)with
  |none=>rw[hx]at h;cases h
  |some u=>
   rw[hx]at h;rw[FJ hx];exact fin h rfl
 |un o x=>
  simp only[evOp]at h⊢;rw[ai (ho x (by simp[ag]))];cases hx:vun o (x.ev ρ)with
  |none=>rw[hx]at h;cases h
  |some u=>
   rw[hx]at h;obtain⟨g1,g2⟩:=KJ (F:=F) hx;rw[g1];exact fin h (by rw[g2])
 |conv k x=>
  simp only[evOp]at h⊢;rw[ai (ho x (by simp[ag]))];cases hx:x.ev ρ with
  |int k' n=>rw[hx]at h;simp only[Swp.v]at h⊢;exact fin h rfl
  |_=>rw[hx]at h;cases h
 |mkfn f caps=>
  simp only[evOp]at h⊢;rw[KR (fun x hx=>ho x (by simpa[ag]using hx))];have ht:((caps.map (Opd.ev ρ)).map F.v).all (fun v=>v.tag==1)=(caps.map (Opd.ev ρ)).all (fun v=>v.tag==1):=by rw[List.all_map];congr 1;funext u;simp only[Function.comp,iv]
  rw[ht];split at h
  ·rename_i hk;rw[if_pos hk];exact fin h (by simp only[Swp.v,aY])
  ·cases h
 |mksl hh r e z n m=>
  simp only[zOf]at hz;simp only[evOp]at h⊢;rw[ai (ho n (by simp[ag])),ai (ho m (by simp[ag]))];cases hx:n.ev ρ with
  |int k l=>
   cases hy:m.ev ρ with
   |int k' l'=>
    rw[hx,hy]at h;simp only[Swp.v]at h⊢;split at h
    ·rename_i hk;rw[if_pos hk];simp only[Zg,Zk]at h⊢;obtain⟨rfl,rfl⟩:=h;obtain⟨g1,g2,g3⟩:=pW hs hh (.agg r (List.replicate l.toNat z)) hI;rw[g1,g2];refine⟨⟨rfl,?_⟩,g3⟩;simp only[Swp.v,aY,List.map_replicate,ib hz]
    ·cases h
   |_=>rw[hx,hy]at h;cases h
  |_=>rw[hx]at h;cases h
 |slc e x lo hi mx=>
  simp only[evOp]at h⊢;rw[ai (ho x (by simp[ag])),gi (x:=lo) (fun y hy=>ho y (by simp[ag,hy])),gi (x:=hi) (fun y hy=>ho y (by simp[ag,hy])),gi (x:=mx) (fun y hy=>ho y (by simp[ag,hy]))];cases hx:x.ev ρ with
  |sl a p off len cap e'=>
   rw[hx]at h;simp only[Swp.v]at h⊢;split at h
   ·rename_i he;rw[if_pos he];cases h1:ao (cap.getD len) (mx.map (Opd.ev ρ)) (cap.getD len)with
    |none=>rw[h1]at h;cases h
    |some m1=>
     rw[h1]at h;rw[cA h1];simp only at h⊢;cases h2:ao (kL mx.isSome m1 len) (hi.map (Opd.ev ρ)) len with
     |none=>rw[h2]at h;cases h
     |some h1'=>
      rw[h2]at h;rw[cA h2];simp only at h⊢;cases h3:ao h1' (lo.map (Opd.ev ρ)) 0 with
      |none=>rw[h3]at h;cases h
      |some l1=>
       rw[h3]at h;rw[cA h3];exact fin h rfl
   ·cases h
  |nils=>
   rw[hx]at h;simp only[Swp.v]at h⊢;cases h1:ao 0 (mx.map (Opd.ev ρ)) 0 with
   |none=>rw[h1]at h;cases h
   |some m1=>
    cases h2:ao 0 (hi.map (Opd.ev ρ)) 0 with
    |none=>rw[h1,h2]at h;cases h
    |some m2=>
     cases h3:ao 0 (lo.map (Opd.ev ρ)) 0 with
     |none=>rw[h1,h2,h3]at h;cases h
     |some m3=>
      rw[h1,h2,h3]at h;rw[cA h1,cA h2,cA h3];exact fin h rfl
  |_=>rw[hx]at h;cases h
 |slstr x lo hi=>
  simp only[evOp]at h⊢;rw[ai (ho x (by simp[ag])),gi (x:=lo) (fun y hy=>ho y (by simp[ag,hy])),gi (x:=hi) (fun y hy=>ho y (by simp[ag,hy]))];cases hx:x.ev ρ with
  |str b=>
   rw[hx]at h;simp only[Swp.v]at h⊢;cases h2:ao b.size (hi.map (Opd.ev ρ)) b.size with
   |none=>rw[h2]at h;cases h
   |some h1'=>
    rw[h2]at h;rw[cA h2];simp only at h⊢;cases h3:ao h1' (lo.map (Opd.ev ρ)) 0 with
    |none=>rw[h3]at h;cases h
    |some l1=>
     rw[h3]at h;rw[cA h3];exact fin h rfl
  |_=>rw[hx]at h;cases h
 |slarr t n e x lo hi mx=>
  simp only[evOp]at h⊢;rw[ai (ho x (by simp[ag])),gi (x:=lo) (fun y hy=>ho y (by simp[ag,hy])),gi (x:=hi) (fun y hy=>ho y (by simp[ag,hy])),gi (x:=mx) (fun y hy=>ho y (by simp[ag,hy]))];cases hx:x.ev ρ with
  |ptr a p t'=>
   rw[hx]at h;simp only[Swp.v]at h⊢;split at h
   ·rename_i he;have he':t'=t∧((F.s s).read (F.a a) p).isSome=true:=by refine⟨he.1,?_⟩;obtain⟨u,hu⟩:=Option.isSome_iff_exists.1 he.2;rw[iM hs hu];rfl
    rw[if_pos he'];cases h1:ao n (mx.map (Opd.ev ρ)) n with
    |none=>rw[h1]at h;cases h
    |some m1=>
     rw[h1]at h;rw[cA h1];simp only at h⊢;cases h2:ao m1 (hi.map (Opd.ev ρ)) n with
     |none=>rw[h2]at h;cases h
     |some h1'=>
      rw[h2]at h;rw[cA h2];simp only at h⊢;cases h3:ao h1' (lo.map (Opd.ev ρ)) 0 with
      |none=>rw[h3]at h;cases h
      |some l1=>
       rw[h3]at h;rw[cA h3];exact fin h rfl
   ·cases h
  |_=>rw[hx]at h;cases h
 |fad t f c x=>
  simp only[evOp]at h⊢;rw[ai (ho x (by simp[ag]))];cases hx:x.ev ρ with
  |ptr a q t'=>
   rw[hx]at h;simp only[Swp.v]at h⊢;split at h
   ·rename_i ht;rw[if_pos ht];exact fin h rfl
   ·cases h
  |_=>rw[hx]at h;cases h
 |iad t n e x i=>
  simp only[evOp]at h⊢;rw[ai (ho x (by simp[ag])),ai (ho i (by simp[ag]))];cases hx:x.ev ρ with
  |ptr a q t'=>
   cases hy:i.ev ρ with
   |int k j=>
    rw[hx,hy]at h;simp only[Swp.v]at h⊢;split at h
    ·rename_i ht;rw[if_pos ht];exact fin h rfl
    ·cases h
   |_=>rw[hx,hy]at h;cases h
  |_=>rw[hx]at h;cases h
 |sad e x i=>
  simp only[evOp]at h⊢;rw[ai (ho x (by simp[ag])),ai (ho i (by simp[ag]))];cases hx:x.ev ρ with
  |sl a q off len cap e'=>
   cases hy:i.ev ρ with
   |int k j=>
    rw[hx,hy]at h;simp only[Swp.v]at h⊢;split at h
    ·rename_i ht;rw[if_pos ht];exact fin h rfl
    ·cases h
   |_=>rw[hx,hy]at h;cases h
  |_=>rw[hx]at h;cases h
 |s2a n e x=>
  simp only[evOp]at h⊢;rw[ai (ho x (by simp[ag]))];cases hx:x.ev ρ with
  |sl a q off len cap e'=>
   rw[hx]at h;simp only[Swp.v]at h⊢;split at h
   ·rename_i ht;rw[if_pos ht];exact fin h rfl
   ·cases h
  |_=>rw[hx]at h;cases h
 |ldr t n e u p=>
  simp only[evOp]at h⊢;rw[ai (ho p (by simp[ag]))];cases hx:p.ev ρ with
  |ptr a q e'=>
   rw[hx]at h;simp only[Swp.v]at h⊢;split at h
   ·rename_i ht;rw[if_pos ht];cases hr:s.part n u a q with
    |none=>rw[hr]at h;cases h
    |some l=>rw[hr]at h;rw[FA hs hr];exact fin h (by simp only[Swp.v,aY])
   ·cases h
  |_=>rw[hx]at h;cases h
 |fld t f x=>
  simp only[evOp]at h⊢;rw[ai (ho x (by simp[ag]))];cases hx:x.ev ρ with
  |agg t' l=>
   rw[hx]at h;simp only[Swp.v]at h⊢;split at h
   ·rename_i ht;rw[if_pos ht,aY,List.getElem?_map];cases hl:l[f]? with
    |none=>rw[hl]at h;cases h
    |some u=>rw[hl]at h;exact fin h rfl
   ·cases h
  |_=>rw[hx]at h;cases h
 |idx t n x i=>
  simp only[evOp]at h⊢;rw[ai (ho x (by simp[ag])),ai (ho i (by simp[ag]))];cases hx:x.ev ρ with
  |agg t' l=>
   cases hy:i.ev ρ with
   |int k j=>
    rw[hx,hy]at h;simp only[Swp.v]at h⊢;split at h
    ·rename_i ht;rw[if_pos ht,aY,List.getElem?_map];cases hl:l[j.toNat]? with
     |none=>rw[hl]at h;cases h
     |some u=>rw[hl]at h;exact fin h rfl
    ·cases h
   |_=>rw[hx,hy]at h;cases h
  |_=>rw[hx]at h;cases h
 |sidx x i=>
  simp only[evOp]at h⊢;rw[ai (ho x (by simp[ag])),ai (ho i (by simp[ag]))];cases hx:x.ev ρ with
  |str b=>
   cases hy:i.ev ρ with
   |int k j=>
    rw[hx,hy]at h;simp only[Swp.v]at h⊢;split at h
    ·rename_i ht;rw[if_pos ht];cases hl:b[j.toNat]? with
     |none=>rw[hl]at h;cases h
     |some u=>rw[hl]at h;exact fin h rfl
    ·cases h
   |_=>rw[hx,hy]at h;cases h
  |_=>rw[hx]at h;cases h
 |ext x i=>
  simp only[evOp]at h⊢;rw[ai (ho x (by simp[ag]))];cases hx:x.ev ρ with
  |tup l=>
   rw[hx]at h;simp only[Swp.v]at h⊢;rw[aY,List.getElem?_map];cases hl:l[i]? with
   |none=>rw[hl]at h;cases h
   |some u=>rw[hl]at h;exact fin h rfl
  |_=>rw[hx]at h;cases h
 |lenk n=>simp only[evOp]at h⊢;exact fin h rfl
 |len q x=>
  simp only[evOp]at h⊢;rw[ai (ho x (by simp[ag]))];cases hx:V.slen q (x.ev ρ)with
  |none=>rw[hx]at h;cases h
  |some n=>rw[hx]at h;rw[F8 hx];exact fin h rfl
 |app hh r e x y=>
  simp only[evOp]at h⊢;rw[ai (ho x (by simp[ag])),ai (ho y (by simp[ag]))];exact sf hs hI h
 |bld z ps=>
  simp only[zOf]at hz;simp only[evOp]at h⊢;cases z with
  |agg t l=>
   simp only at h⊢;have e1:ps.map (fun p=>(p.1,p.2.ev (F.e ρ)))=(ps.map fun p=>(p.1,p.2.ev ρ)).map fun p=>(p.1,F.v p.2):=by rw[List.map_map];exact List.map_congr_left fun p hp=>by simp only[Function.comp];rw[ai (ho p.2 (by simp only[ag];exact List.mem_map.2 ⟨p,hp,rfl⟩))]
   rw[e1];cases hx:bf l (ps.map fun p=>(p.1,p.2.ev ρ))with
   |none=>rw[hx]at h;cases h
   |some l'=>
    rw[hx]at h;have:=jp (F:=F) hx;simp only[V.flat]at hz;rw[←aY l,kN hz]at this;rw[this];exact fin h (by simp only[Swp.v,aY])
  |_=>cases h
 |bsl hh r e z n ps=>
  simp only[zOf]at hz;simp only[evOp]at h⊢;have e1:ps.map (fun p=>(p.1,p.2.ev (F.e ρ)))=(ps.map fun p=>(p.1,p.2.ev ρ)).map fun p=>(p.1,F.v p.2):=by rw[List.map_map];exact List.map_congr_left fun p hp=>by simp only[Function.comp];rw[ai (ho p.2 (by simp only[ag];exact List.mem_map.2 ⟨p,hp,rfl⟩))]
  rw[e1];cases hx:bf (List.replicate n z) (ps.map fun p=>(p.1,p.2.ev ρ))with
  |none=>rw[hx]at h;cases h
  |some l'=>
   rw[hx]at h;have:=jp (F:=F) hx;rw[List.map_replicate,ib hz]at this;rw[this];simp only[qo]at h⊢;split at h
   ·rename_i hk;rw[if_pos hk];simp only[Zg,Zk]at h⊢;obtain⟨rfl,rfl⟩:=h;obtain⟨g1,g2,g3⟩:=pW hs hh (.agg r l') hI;rw[g1,g2];refine⟨⟨rfl,?_⟩,g3⟩;simp only[Swp.v,aY]
   ·cases h
 |cpy e x y=>
  simp only[evOp]at h⊢;rw[ai (ho x (by simp[ag])),ai (ho y (by simp[ag]))];exact Dz hF hs h
 |mnx mx x y=>
  simp only[evOp]at h⊢;rw[ai (ho x (by simp[ag])),ai (ho y (by simp[ag]))];cases hx:nJ mx (x.ev ρ) (y.ev ρ)with
  |none=>rw[hx]at h;cases h
  |some u=>
   rw[hx]at h;obtain⟨g1,g2⟩:=Gp (F:=F) hx;rw[g1];exact fin h (by rw[g2])
 |lda t p r=>
  simp only[evOp]at h⊢;rw[ai (ho p (by simp[ag])),ai (ho r (by simp[ag]))];split at h
  ·rename_i hle;rw[if_pos (DX hle)];cases hx:p.ev ρ with
   |ptr a q t'=>
    rw[hx]at h;simp only[Swp.v]at h⊢;split at h
    ·rename_i ht;rw[if_pos ht];cases hr:s.read a q with
     |none=>rw[hr]at h;cases h
     |some u=>rw[hr]at h;rw[iM hs hr];exact fin h rfl
    ·cases h
   |_=>rw[hx]at h;cases h
  ·cases h
 |call f l=>cases h
 |pcall f l=>cases h
 |sta t p x l=>
  simp only[evOp]at h⊢;split at h
  ·rename_i hall;have hall':(l.all fun y=>ii (y.ev (F.e ρ)) (p.ev (F.e ρ)))=true:=by rw[List.all_eq_true]at hall⊢;intro y hy;rw[ai (ho p (by simp[ag])),ai (ho y (by simp[ag,hy]))];exact DW (hall y hy)
   rw[if_pos hall'];rw[ai (ho p (by simp[ag])),ai (ho x (by simp[ag])),iv];cases hx:p.ev ρ with
   |ptr a q t'=>
    rw[hx]at h;simp only[Swp.v]at h⊢;split at h
    ·rename_i ht;rw[if_pos ht];cases hr:s.write base a q (x.ev ρ)with
     |none=>rw[hr]at h;cases h
     |some s1=>
      rw[hr]at h;obtain⟨g1,g2⟩:=rm hF hs hr;rw[g1];simp only[Zg,Zk]at h⊢;obtain⟨rfl,rfl⟩:=h;exact⟨⟨rfl,rfl⟩,g2⟩
    ·cases h
   |_=>rw[hx]at h;cases h
  ·cases h
 |callw f l w=>cases h
 |callk b f l=>cases h
 |appa hh r e x y l=>
  simp only[evOp]at h⊢;split at h
  ·rename_i hall;have hall':(l.all fun z=>iW (z.ev (F.e ρ)) (x.ev (F.e ρ)))=true:=by rw[List.all_eq_true]at hall⊢;intro z hz;rw[ai (ho x (by simp[ag])),ai (ho z (by simp[ag,hz]))];exact DS (hall z hz)
   rw[if_pos hall',ai (ho x (by simp[ag])),ai (ho y (by simp[ag]))];exact sf hs hI h
  ·cases h
 |ldl t p=>
  simp only[evOp]at h⊢;rw[ai (ho p (by simp[ag]))];cases hx:p.ev ρ with
  |ptr a q t'=>
   cases a with
   |loc i=>
    rw[hx]at h;simp only at h;split at h
    ·rename_i ht;cases hr:s.read (.loc i) q with
     |none=>rw[hr]at h;cases h
     |some u=>
      rw[hr]at h;have g:=iM hs hr;obtain⟨j,hj⟩:∃j,F.a (.loc i)= .loc j:=by simp only[Swp.a];split<;>exact⟨_,rfl⟩
      rw[hj]at g;simp only[Swp.v,hj];rw[if_pos ht,g];exact fin h rfl
    ·cases h
   |hp i=>rw[hx]at h;cases h
  |_=>rw[hx]at h;cases h
 |mkm=>
  simp only[evOp,Zg,Zk]at h⊢;obtain⟨rfl,rfl⟩:=h;obtain⟨g1,g2⟩:=LU hs hI;rw[g1,g2];exact⟨⟨by simp[Swp.v],rfl⟩,hI⟩
 |mlk x k=>
  simp only[evOp]at h⊢;rw[ai (ho x (by simp[ag])),ai (ho k (by simp[ag]))];cases hx:my (x.ev ρ) (k.ev ρ) s with
  |none=>rw[hx]at h;cases h
  |some u=>rw[hx]at h;rw[Iq hs hx];exact fin h rfl
 |mup x k y=>
  simp only[evOp]at h⊢;rw[ai (ho x (by simp[ag])),ai (ho k (by simp[ag])),ai (ho y (by simp[ag]))];cases hx:i7 (x.ev ρ) (k.ev ρ) (y.ev ρ) s with
  |none=>rw[hx]at h;cases h
  |some s1=>
   rw[hx]at h;obtain⟨g1,g2⟩:=GW hs hx;rw[g1];simp only[Zg,Zk]at h⊢;obtain⟨rfl,rfl⟩:=h;exact⟨⟨rfl,rfl⟩,g2⟩
end ops
variable {F : Swp} {T : Tab}
def Swp.B (F:Swp) (B:BM):BM:=if F.h then⟨B.loc,swl F.i B.hp⟩else⟨swl F.i B.loc,B.hp⟩
def Swp.InB (F:Swp) (B:BM):Prop:=F.i+1≠if F.h then B.hp.length else B.loc.length
theorem Ic {B:BM}(hB:F.InB B) (a:Loc):(F.B B).at (F.a a)=B.at a:=by
 unfold Swp.InB at hB;obtain⟨hh,i⟩:=F;cases hh with
 |true=>
  simp only[if_true]at hB;cases a with
  |loc j=>simp[Swp.B,Swp.a,BM.at]
  |hp j=>simp[Swp.B,Swp.a,BM.at,gL hB]
 |false=>
  simp only[Bool.false_eq_true,if_false]at hB;cases a with
  |loc j=>simp[Swp.B,Swp.a,BM.at,gL hB]
  |hp j=>simp[Swp.B,Swp.a,BM.at]
theorem KC {t:Nat}{l l':List V}(h:l.map V.tag=l'.map V.tag) (ha:cQ T t l):cQ T t l':=by
 have hl:l.length=l'.length:=by simpa using congrArg List.length h
 have key:∀e,(∀x∈l,x.tag=e)→∀x∈l',x.tag=e:=by
  intro e he x hx;have:x.tag∈l.map V.tag:=by rw[h];exact List.mem_map_of_mem hx
  obtain⟨y,hy,e2⟩:=List.mem_map.1 this;rw[←e2];exact he y hy
 unfold cQ at*;split at ha
 ·rw[←h];exact ha
 ·exact⟨hl▸ha.1,key _ ha.2⟩
 ·exact key _ ha
 ·exact ha
theorem Vb (l:List V):(F.vs l).map V.tag=l.map V.tag:=by rw[aY,List.map_map];exact List.map_congr_left fun x _=>iv x
mutual
theorem KP:∀{v:V},v.wf T→(F.v v).wf T
 | .fn f caps,_=>by simp only[Swp.v,V.wf]
 | .agg t l,h=>by simp only[Swp.v,V.wf]at h⊢;exact⟨KC (Vb l).symm h.1,Lg h.2⟩
 | .tup l,h=>by simp only[V.wf]at h
 | .ptr _ _ _,_=>by simp only[Swp.v,V.wf]
 | .sl _ _ _ _ _ _,_=>by simp only[Swp.v,V.wf]
 | .dead,h=>by simp only[V.wf]at h
 | .mp _,_=>by simp only[rj,V.wf]
 | .bool _,_| .int _ _,_| .str _,_| .nilp,_| .nils,_| .nilf,_=>by simp only[Swp.v,V.wf]
theorem Lg:∀{l:List V},V.wfs T l→V.wfs T (F.vs l)
 |[],_=>by simp only[Swp.vs,V.wfs]
 |v::l,h=>by simp only[Swp.vs,V.wfs]at h⊢;exact⟨KP h.1,Lg h.2⟩
end
mutual
theorem Kx {B:BM}(hB:F.InB B):∀{v:V}{cs:List Value},CR T B v cs→CR T (F.B B) (F.v v) cs
 | .dead,_,hc=>by simp[CR]at hc
 | .tup _,_,hc=>by simp[CR]at hc
 | .bool _,_,hc=>by simpa only[CR,Swp.v]using hc
 | .int _ _,_,hc=>by simpa only[CR,Swp.v]using hc
 | .str _,_,hc=>by simpa only[CR,Swp.v]using hc
 | .nilp,_,hc=>by simpa only[CR,Swp.v]using hc
 | .nils,_,hc=>by simpa only[CR,Swp.v]using hc
 | .nilf,_,hc=>by simpa only[CR,Swp.v]using hc
 | .mp none,_,hc=>by simpa only[CR,Swp.v]using hc
 | .mp (some _),_,hc=>by simp only[CR,Swp.v]at hc⊢;obtain⟨ad,h1,h2⟩:=hc;exact⟨ad,by rw[←xk,Ic hB];exact h1,h2⟩
 | .ptr _ _ _,_,hc=>by simp only[CR,Swp.v]at hc⊢;obtain⟨ad,r,o,h1,h2,h3⟩:=hc;exact⟨ad,r,o,by rw[Ic hB];exact h1,h2,h3⟩
 | .sl _ _ _ _ _ _,_,hc=>by simp only[CR,Swp.v]at hc⊢;obtain⟨ad,r,o,u,c',ad',h1,h2⟩:=hc;exact⟨ad,r,o,u,c',ad',by rw[Ic hB];exact h1,h2⟩
 | .fn _ l,_,hc=>by simp only[CR,Swp.v]at hc⊢;obtain⟨vs,h1,h2,h3,h4⟩:=hc;refine⟨vs,Lq hB h1,Lg h2,fun v hv=> ?_,h4⟩;rw[aY,List.mem_map]at hv;obtain⟨u,hu,rfl⟩:=hv;rw[iv];exact h3 u hu
 | .agg _ l,_,hc=>by simp only[CR,Swp.v]at hc⊢;exact Lq hB hc
theorem Lq {B:BM}(hB:F.InB B):∀{l:List V}{cs:List Value},CRs T B l cs→CRs T (F.B B) (F.vs l) cs
 |[],_,hc=>by simpa only[CRs,Swp.vs]using hc
 |v::l,_,hc=>by simp only[CRs,Swp.vs]at hc⊢;obtain⟨a,b,h1,h2,h3⟩:=hc;exact⟨a,b,h1,Kx hB h2,Lq hB h3⟩
end
theorem Tg (v:V):eX (F.v v)=eX v:=by
 cases v with
 |mp o=>rw[rj];rfl
 |_=>rfl
theorem Lz {B:BM}(hB:F.InB B) {v:V}{x:Value}(h:VR1 T B v x):VR1 T (F.B B) (F.v v) x:=⟨KP h.1,Kx hB h.2.1,by rw[Tg];exact h.2.2⟩
theorem BP {B:BM}(hB:F.InB B):∀{l:List V}{m:List Value},ez (VR1 T B) l m→ez (VR1 T (F.B B)) (F.vs l) m
 |[],[],_=>trivial
 |_::_,_::_,h=>⟨Lz hB h.1,BP hB h.2⟩
 |[],_::_,h=>h.elim
 |_::_,[],h=>h.elim
theorem XN {B:BM}(hB:F.InB B) {v:V}{x:Value}(h:VR T B v x):VR T (F.B B) (F.v v) x:=by
 cases v with
 |dead=>trivial
 |tup l=>
  simp only[VR,Swp.v]at h⊢;obtain⟨xs,h1,h2⟩:=h;exact⟨xs,h1,BP hB h2⟩
 |mp o=>have:=Lz hB h;rw[rj]at this⊢;exact this
 |_=>exact Lz hB h
theorem XT {B:BM}(hB:F.InB B) {ρ:Env}{tmps:Array Value}(h:ER T B ρ tmps):ER T (F.B B) (F.e ρ) tmps:=fun n=>by rw[uJ];exact XN hB (h n)
theorem Mq {B0:Nat}{B:BM}{s:St}{w:World}(h:SR T B0 B s w) (hs:F.In s):F.InB B:=by unfold Swp.In Swp.n at hs;unfold Swp.InB;rw[h.lenL,h.lenH];exact hs
theorem U2 {s:St}(hs:F.In s) (a:Loc):(F.s s).at (F.a a)=(s.at a).map F.b:=by
 unfold Swp.In Swp.n at hs;obtain⟨hh,i⟩:=F;cases hh with
 |true=>
  simp only[if_true]at hs;cases a with
  |loc j=>simp[Swp.s,Swp.a,St.at]
  |hp j=>simp[Swp.s,Swp.a,St.at,gL hs]
 |false=>
  simp only[Bool.false_eq_true,if_false]at hs;cases a with
  |loc j=>simp[Swp.s,Swp.a,St.at,gL hs]
  |hp j=>simp[Swp.s,Swp.a,St.at]
theorem Li (b:Blk):(F.b b).mut=b.mut:=by cases b<;>rfl
theorem Qi (b:Blk):bl 0 (F.b b)=bl 0 b:=by cases b<;>simp only[Swp.b,bl,iQ]
theorem XP {B0:Nat}{B:BM}{s:St}{w:World}(h:SR T B0 B s w) (hs:F.In s):SR T B0 (F.B B) (F.s s) w:=by
 have hB:=Mq h hs;have get:∀{a b ar},(F.s s).at a=some b→(F.B B).at a=some ar→∃b0,s.at (F.a a)=some b0∧b=F.b b0∧B.at (F.a a)=some ar:=by
  intro a b ar h1 h2;have e1:=U2 hs (F.a a);have e2:=Ic hB (F.a a);rw[a_a]at e1 e2;rw[e1]at h1;rw[e2]at h2;cases hb:s.at (F.a a)with
  |none=>rw[hb]at h1;cases h1
  |some b0=>rw[hb]at h1;cases h1;exact⟨b0,rfl,rfl,h2⟩
 refine⟨?_,?_,?_,?_,?_,?_⟩
 ·have:=h.lenL;unfold Swp.B Swp.s;split<;>simp[mc,this]
 ·have:=h.lenH;unfold Swp.B Swp.s;split<;>simp[mc,this]
 ·intro a b ar h1 h2;obtain⟨b0,g1,rfl,g2⟩:=get h1 h2;have hb:=h.blk _ _ _ g1 g2;cases b0 with
  |dead=>trivial
  |ro v=>
   obtain⟨k1,k2,c,e,fr,cs,k3,k4,k5⟩:=hb;exact⟨KP k1,by rw[iv];exact k2,c,e,fr,cs,k3,Kx hB k4,k5⟩
  |rw v=>
   obtain⟨k1,k2,c,e,cs,k3,k4,k5⟩:=hb;exact⟨KP k1,by rw[iv];exact k2,c,e,cs,k3,Kx hB k4,k5⟩
  |mp l=>exact hb
 ·intro a a' ar ar' v b' h1 hm h2 h3 h4 h5 h6;obtain⟨b0,g1,e1,g2⟩:=get h1 h2;obtain⟨b1,g3,e3,g4⟩:=get h3 h5;rw[e1,Li]at hm;refine h.sepM _ _ _ _ _ b1 g1 hm g2 g3 (fun e=>h4 (by rw[e3,e];rfl)) g4 fun e=>h6 (zv e)
 ·intro a v ar h1 hm h2;obtain⟨b0,g1,e1,g2⟩:=get h1 h2;rw[e1,Li]at hm;exact h.ownM _ _ _ g1 hm g2
 ·intro i b hb;have:∃(j:Nat) (b0:Blk),s.hp[j]?=some b0∧b=F.b b0:=by
   unfold Swp.s at hb;split at hb
   ·rename_i hh;unfold Swp.In Swp.n at hs;rw[if_pos hh]at hs;simp only[List.getElem?_map]at hb;have:=gL hs (sw F.i i);rw[wG]at this;rw[this]at hb;cases hx:s.hp[sw F.i i]? with
    |none=>rw[hx]at hb;cases hb
    |some b0=>rw[hx]at hb;cases hb;exact⟨_,b0,hx,rfl⟩
   ·simp only[List.getElem?_map]at hb;cases hx:s.hp[i]? with
    |none=>rw[hx]at hb;cases hb
    |some b0=>rw[hx]at hb;cases hb;exact⟨_,b0,hx,rfl⟩
  obtain⟨j,b0,h1,rfl⟩:=this;rw[Qi];exact h.hpv j b0 h1
theorem Xd {B:BM}{s:St}(hs:F.In s) (hB:F.InB B) {k:Nat}(h:Own (F.B B) (F.s s) k):Own B s k:=by
 obtain⟨a,v,ar,h1,hm,h2,h3⟩:=h;have e1:=U2 hs (F.a a);have e2:=Ic hB (F.a a);rw[a_a]at e1 e2;rw[e1]at h1;rw[e2]at h2;cases hb:s.at (F.a a)with
 |none=>rw[hb]at h1;cases h1
 |some b0=>
  rw[hb]at h1;simp only[Option.map_some,Zg]at h1;rw[←h1,Li]at hm;exact⟨_,_,ar,hb,hm,h2,h3⟩
theorem CB {α:Type}{i:Nat}{l m:List α}(h:l<+:m) (hi:l.length≤i):l<+:swl i m:=by
 unfold swl;split
 ·obtain⟨r,rfl⟩:=h;rw[List.set_append_right _ _ hi,List.set_append_right _ _ (by omega)];exact List.prefix_append _ _
 ·exact h
mutual
theorem EK {b:Nat}(hb:F.h=true∨b≤F.i):∀(v:V),(F.v v).locLt b=v.locLt b
 | .ptr (.loc i) _ _=>by
  simp only[Swp.v,Swp.a];split
  ·rfl
  ·rename_i hh;have hb:=hb.resolve_left hh;simp only[V.locLt];apply decide_eq_decide.2;unfold sw;split
   ·omega
   ·split<;>omega
 | .ptr (.hp i) _ _=>by simp only[Swp.v,Swp.a];split<;>simp[V.locLt]
 | .sl (.loc i) _ _ _ _ _=>by
  simp only[Swp.v,Swp.a];split
  ·rfl
  ·rename_i hh;have hb:=hb.resolve_left hh;simp only[V.locLt];apply decide_eq_decide.2;unfold sw;split
   ·omega
   ·split<;>omega
 | .sl (.hp i) _ _ _ _ _=>by simp only[Swp.v,Swp.a];split<;>simp[V.locLt]
 | .fn f caps=>by simp only[Swp.v,V.locLt,sQ hb caps]
 | .agg t l=>by simp only[Swp.v,V.locLt,sQ hb l]
 | .tup l=>by simp only[Swp.v,V.locLt,sQ hb l]
 | .mp _=>by simp[rj,V.locLt]
 | .dead| .bool _| .int _ _| .str _| .nilp| .nils| .nilf=>by simp[Swp.v,V.locLt]
theorem sQ {b:Nat}(hb:F.h=true∨b≤F.i):∀(l:List V),V.locLts b (F.vs l)=V.locLts b l
 |[]=>by simp[Swp.vs,V.locLts]
 |v::l=>by simp only[Swp.vs,V.locLts,EK hb v,sQ hb l]
end
theorem OE {b:Nat}(hb:F.h=true∨b≤F.i) (x:Blk):bl b (F.b x)=bl b x:=by cases x<;>simp only[Swp.b,bl,EK hb]
theorem Xz {b:Nat}(hb:F.h=true∨b≤F.i) {s:St}(hs:F.In s) (h:Lvl b s):Lvl b (F.s s):=by
 intro i x hi hx;have:∃x0,s.loc[i]?=some x0∧x=F.b x0:=by
  unfold Swp.s at hx;split at hx
  ·simp only[List.getElem?_map]at hx;cases hy:s.loc[i]? with
   |none=>rw[hy]at hx;cases hx
   |some x0=>rw[hy]at hx;cases hx;exact⟨x0,rfl,rfl⟩
  ·rename_i hh;have hb:=hb.resolve_left hh;unfold Swp.In Swp.n at hs;rw[if_neg hh]at hs;simp only[List.getElem?_map]at hx;have:=gL hs i;have e:sw F.i i=i:=by unfold sw;rw[if_neg (by omega),if_neg (by omega)]
   rw[e]at this;rw[this]at hx;cases hy:s.loc[i]? with
   |none=>rw[hy]at hx;cases hx
   |some x0=>rw[hy]at hx;cases hx;exact⟨x0,rfl,rfl⟩
 obtain⟨x0,h1,rfl⟩:=this;rw[OE hb];exact h i x0 hi h1
theorem Xo {c:Cfg}{B0 base nt:Nat}{B B':BM}{ρ':Env}{s s':St}{a a':Act}{w w':World}(hS:SR c.T B0 B s w) (hbase:base≤s.loc.length) (h:Aft c B0 base B s w a nt ρ' s' B' a' w') (hs:F.In s') (hn:F.n s≤F.i):
 Aft c B0 base B s w a nt (F.e ρ') (F.s s') (F.B B') a' w':=by
 have hB:=Mq h.st.sr hs;refine⟨h.df,XT hB h.er,⟨XP h.st.sr hs,?_,h.st.frm,?_,?_⟩,h.nt⟩
 ·have e:=h.st.ext;have l1:=hS.lenL;have l2:=hS.lenH;unfold Swp.n at hn;unfold Swp.B;split
  ·rename_i hh;rw[if_pos hh]at hn;exact⟨e.loc,CB e.hp (by rw[l2];exact hn)⟩
  ·rename_i hh;rw[if_neg hh]at hn;exact⟨CB e.loc (by rw[l1];exact hn),e.hp⟩
 ·intro k hk ho;exact h.st.sub k hk (Xd hs hB ho)
 ·intro b hb hl;refine Xz ?_ hs (h.st.lvl b hb hl);unfold Swp.n at hn;by_cases hh:F.h=true
  ·exact .inl hh
  ·rw[if_neg hh]at hn;exact .inr (by omega)
variable {F : Swp} {T : Tab}
theorem RY {s:St}{h:Bool}{z:V}:s.loc.length≤(s.new h z).loc.length∧s.hp.length≤(s.new h z).hp.length:=by cases h<;>simp[St.new]
theorem set_len {s:St}{a:Loc}{b:Blk}:(s.set a b).loc.length=s.loc.length∧(s.set a b).hp.length=s.hp.length:=by cases a<;>simp[St.set]
theorem Nn {base:Nat}{s s':St}{a:Loc}{p:List Nat}{x:V}(h:s.write base a p x=some s'):s'.loc.length=s.loc.length∧s'.hp.length=s.hp.length:=by
 unfold St.write at h;split at h
 ·split at h
  ·split at h
   ·simp only[Zg]at h;subst h;exact set_len
   ·cases h
  ·cases h
 ·cases h
def Le (s s':St):Prop:=s.loc.length≤s'.loc.length∧s.hp.length≤s'.hp.length
theorem Le.refl (s:St):Le s s:=⟨Nat.le_refl _,Nat.le_refl _⟩
theorem Le.trans {s s' s'':St}(h:Le s s') (h':Le s' s''):Le s s'':=⟨Nat.le_trans h.1 h'.1,Nat.le_trans h.2 h'.2⟩
theorem Le.n {s s':St}(h:Le s s'):F.n s≤F.n s':=by
 unfold Swp.n;split
 ·exact h.2
 ·exact h.1
theorem GO {base:Nat}{s s':St}{a:Loc}{p:List Nat}{x:V}(h:s.write base a p x=some s'):Le s s':=by have:=Nn h;exact⟨by omega,by omega⟩
theorem Vz {s:St}{a:Loc}{b:Blk}:Le s (s.set a b):=⟨by rw[set_len.1];exact Nat.le_refl _,by rw[set_len.2];exact Nat.le_refl _⟩
theorem FL {s:St}{h:Bool}{z:V}:Le s (s.new h z):=RY
theorem Ar {base:Nat}{h:Bool}{r e:Nat}{x y v:V}{s s':St}(hv:aD base h r e x y s=some (v,s')):Le s s':=by
 unfold aD at hv
 repeat' split at hv
 all_goals first
  |(simp only[Zg,Zk]at hv;rw[←hv.2];first|exact .refl _|exact FL|exact Vz.trans FL)
  |cases hv
theorem Ou {base e:Nat}{x y v:V}{s s':St}(hv:iw base e x y s=some (v,s')):Le s s':=by
 unfold iw at hv
 repeat' split at hv
 all_goals first
  |(simp only[Zg,Zk]at hv;rw[←hv.2];first|exact .refl _|(apply GO;assumption))
  |cases hv
theorem WB {s:St}:Le s ⟨s.loc,s.hp++[.mp []]⟩:=⟨Nat.le_refl _,by simp⟩
theorem Tp {x k y:V}{s s':St}(h:i7 x k y s=some s'):Le s s':=by
 unfold i7 at h;split at h
 ·simp only[Zg]at h;rw[←h];exact⟨Nat.le_refl _,by simp⟩
 ·cases h
theorem HN {base:Nat}{ρ:Env}{s s':St}{v:V}{o:Op'}(h:evOp base ρ s o=some (v,s')):Le s s':=by
 cases o with
 |app hh r e x y=>exact Ar (base:=base) h
 |appa hh r e x y l=>
  simp only[evOp]at h;split at h
  ·exact Ar (base:=base) h
  ·cases h
 |cpy e x y=>exact Ou (base:=base) h
 |_=>
  simp only[evOp]at h
  repeat' split at h
  all_goals first
   |(simp only[Zg,Zk]at h;rw[←h.2];first|exact .refl _|exact FL|exact WB|(apply GO;assumption)|(apply Tp;assumption))
   |cases h
def Cl (ρ:Env) (s:St):Prop:=∀F:Swp,F.n s≤F.i→(∀t,F.v (get ρ t)=get ρ t)∧F.s s=s
mutual
theorem Hs {B:BM}(hi:∀a x,B.at a=some x→F.a a=a):∀{v:V}{cs:List Value},CR T B v cs→F.v v=v
 | .dead,_,_| .bool _,_,_| .int _ _,_,_| .str _,_,_| .nilp,_,_| .nils,_,_| .nilf,_,_=>by simp only[Swp.v]
 | .tup _,_,hc=>by simp[CR]at hc
 | .mp none,_,_=>by simp only[Swp.v]
 | .mp (some _),_,hc=>by simp only[CR]at hc;obtain⟨ad,h1,_⟩:=hc;have:=hi _ _ h1;rw[xk]at this;simp only[Swp.v,Loc.hp.inj this]
 | .ptr _ _ _,_,hc=>by simp only[CR]at hc;obtain⟨ad,r,o,h1,_⟩:=hc;simp only[Swp.v,hi _ _ h1]
 | .sl _ _ _ _ _ _,_,hc=>by simp only[CR]at hc;obtain⟨ad,r,o,u,c',ad',h1,_⟩:=hc;simp only[Swp.v,hi _ _ h1]
 | .fn _ l,_,hc=>by simp only[CR]at hc;obtain⟨vs,h1,_⟩:=hc;simp only[Swp.v,Lu hi h1]
 | .agg _ l,_,hc=>by simp only[CR]at hc;simp only[Swp.v,Lu hi hc]
theorem Lu {B:BM}(hi:∀a x,B.at a=some x→F.a a=a):∀{l:List V}{cs:List Value},CRs T B l cs→F.vs l=l
 |[],_,_=>by simp only[Swp.vs]
 |v::l,_,hc=>by simp only[CRs]at hc;obtain⟨a,b,_,h2,h3⟩:=hc;simp only[Swp.vs,Hs hi h2,Lu hi h3]
end
theorem JT {B:BM}(hi:∀a x,B.at a=some x→F.a a=a):∀{l:List V}{m:List Value},ez (VR1 T B) l m→F.vs l=l
 |[],[],_=>by simp only[Swp.vs]
 |v::l,_::_,h=>by simp only[Swp.vs,Hs hi h.1.2.1,JT hi h.2]
 |[],_::_,h=>h.elim
 |_::_,[],h=>h.elim
theorem Xu {B:BM}(hi:∀a x,B.at a=some x→F.a a=a) {v:V}{x:Value}(h:VR T B v x):F.v v=v:=by
 cases v with
 |dead=>simp only[Swp.v]
 |tup l=>
  obtain⟨xs,_,h2⟩:=h;simp only[Swp.v,JT hi h2]
 |_=>exact Hs hi h.2.1
theorem Oq {i j:Nat}(h:j<i):sw i j=j:=by unfold sw;rw[if_neg (by omega),if_neg (by omega)]
theorem iA {l:List Blk}{j:Nat}:l[j]?.isSome=true↔j<l.length:=by
 by_cases h:j<l.length
 ·simp[List.getElem?_eq_getElem h,h]
 ·simp[List.getElem?_eq_none (show l.length≤j by omega),h]
theorem Rz {s:St}(hn:F.n s≤F.i) {a:Loc}(h:(s.at a).isSome=true):F.a a=a:=by
 unfold Swp.n at hn;cases a with
 |loc j=>
  simp only[St.at,iA]at h;simp only[Swp.a];split
  ·rfl
  ·rename_i hh;rw[if_neg hh]at hn;rw[Oq (by omega)]
 |hp j=>
  simp only[St.at,iA]at h;simp only[Swp.a];split
  ·rename_i hh;rw[if_pos hh]at hn;rw[Oq (by omega)]
  ·rfl
theorem map_id {l:List Blk}(h:∀(i:Nat) (b:Blk),l[i]?=some b→F.b b=b):l.map F.b=l:=by
 apply List.ext_getElem?;intro i;rw[List.getElem?_map];cases hx:l[i]? with
 |none=>rfl
 |some b=>rw[Option.map_some,h i b hx]
theorem XX {s:St}(hn:F.n s≤F.i) (h:∀a b,s.at a=some b→F.b b=b):F.s s=s:=by
 have h1:s.loc.map F.b=s.loc:=map_id fun i b hb=>h (.loc i) b hb;have h2:s.hp.map F.b=s.hp:=map_id fun i b hb=>h (.hp i) b hb;unfold Swp.n at hn;unfold Swp.s;split
 ·rename_i hh;rw[if_pos hh]at hn;rw[qW hn,h1,h2]
 ·rename_i hh;rw[if_neg hh]at hn;rw[qW hn,h1,h2]
theorem cl_of {B0:Nat}{B:BM}{ρ:Env}{s:St}{tmps:Array Value}{w:World}(he:ER T B ρ tmps) (hs:SR T B0 B s w):Cl ρ s:=by
 intro F hn;have hi:∀a x,B.at a=some x→F.a a=a:=by
  intro a x hx;refine Rz hn ?_;cases a with
  |loc j=>
   have:=(List.getElem?_eq_some_iff.1 (show B.loc[j]?=some x from hx)).1
   simp only[St.at,iA];rw[←hs.lenL];exact this
  |hp j=>
   have:=(List.getElem?_eq_some_iff.1 (show B.hp[j]?=some x from hx)).1
   simp only[St.at,iA];rw[←hs.lenH];exact this
 refine⟨fun t=>Xu hi (he t),XX hn fun a b hb=> ?_⟩;have hBa:∃ar,B.at a=some ar:=by
  cases a with
  |loc j=>
   have:=(List.getElem?_eq_some_iff.1 (show s.loc[j]?=some b from hb)).1
   exact⟨B.loc[j]'(by rw[hs.lenL];exact this),List.getElem?_eq_getElem _⟩
  |hp j=>
   have:=(List.getElem?_eq_some_iff.1 (show s.hp[j]?=some b from hb)).1
   exact⟨B.hp[j]'(by rw[hs.lenH];exact this),List.getElem?_eq_getElem _⟩
 obtain⟨ar,har⟩:=hBa;have hk:=hs.blk a b ar hb har;cases b with
 |dead=>rfl
 |ro v=>obtain⟨_,_,c,e,fr,cs,_,h4,_⟩:=hk;simp only[Swp.b,Hs hi h4]
 |rw v=>obtain⟨_,_,c,e,cs,_,h4,_⟩:=hk;simp only[Swp.b,Hs hi h4]
 |mp l=>rfl
def eqB (o:Op):Bool:=(match o.op with| .call .. | .pcall .. | .callw .. | .callk .. =>false|_=>true)&&o.op.clos 0
theorem FS {rec:cL→St→Option Res}{base:Nat}{ρ:Env}{s:St}{o:Op}(h:eqB o=true):ax rec base ρ s o.op=evOp base ρ s o.op:=by
 simp only[eqB,Zj]at h;cases ho:o.op with
 |call _ _=>rw[ho]at h;cases h.1
 |pcall _ _=>rw[ho]at h;cases h.1
 |callw _ _ _=>rw[ho]at h;cases h.1
 |callk _ _ _=>rw[ho]at h;cases h.1
 |_=>rfl
section eqs
variable {rec : cL → St → Option Res} {base : Nat}
theorem S4 {g:Option (Nat×Bool)}{ρ ρ':Env}(hρ:∀t,F.v (get ρ t)=get ρ' t) {b:Bool}(h:aZ g ρ=some b):aZ g ρ'=some b:=by
 cases g with
 |none=>exact h
 |some x=>
  obtain⟨t,wn⟩:=x;simp only[aZ]at h⊢;rw[←hρ t];cases hx:get ρ t with
  |tup l=>
   rw[hx]at h;cases l with
   |nil=>simpa only[Swp.v,Swp.vs]using h
   |cons a l=>cases h
  |bool c=>rw[hx]at h;simpa only[Swp.v]using h
  |_=>rw[hx]at h;cases h
theorem CM {ρ ρ':Env}(hρ:∀t,F.v (get ρ t)=get ρ' t):bB (F.e ρ) ρ':=fun t=>by rw[uJ];exact hρ t
theorem BK {ρ ρ':Env}(hρ:∀t,F.v (get ρ t)=get ρ' t) (d:Option Nat) (v:V):∀t,F.v (get (put d v ρ) t)=get (put d (F.v v) ρ') t:=by
 intro t;cases d with
 |none=>exact hρ t
 |some k=>
  simp only[put,get];split
  ·rfl
  ·exact hρ t
theorem N2 {o:Op}(ho:eqB o=true) (hF:F.Ok base) {x y x':Env×St}(hx:F.In x.2) (hy:F.In y.2) (hρ:∀t,F.v (get x.1 t)=get x'.1 t) (hs:F.s x.2=x'.2) (h:aF rec base o x=some y):
 ∃y',aF rec base o x'=some y'∧(∀t,F.v (get y.1 t)=get y'.1 t)∧F.s y.2=y'.2:=by
 obtain⟨ρ,s⟩:=x;obtain⟨ρ',s'⟩:=x';simp only at hρ hs hx;subst hs;unfold aF aB at*;simp only at h⊢;cases hg:aZ o.guard ρ with
 |none=>rw[hg]at h;cases h
 |some b=>
  rw[hg]at h;rw[S4 hρ hg];cases b with
  |false=>
   simp only[Zg]at h⊢;subst h;refine⟨_,rfl,?_,rfl⟩;have:=BK hρ o.dst (.tup []);simpa only[Swp.v,Swp.vs]using this
  |true=>
   simp only at h⊢;rw[FS ho]at h;rw[FS ho];cases hr:evOp base ρ s o.op with
   |none=>rw[hr]at h;cases h
   |some q=>
    obtain⟨v,s1⟩:=q;rw[hr]at h;simp only[Zg]at h;subst h;simp only[eqB,Zj]at ho;have e:=(Mj hF hx hy ho.2 hr).1;rw[(CM hρ).evOp]at e;rw[e];exact⟨_,rfl,BK hρ o.dst v,rfl⟩
theorem DF {o:Op}(ho:eqB o=true) {x y:Env×St}(h:aF rec base o x=some y):Le x.2 y.2:=by
 unfold aF aB at h;cases hg:aZ o.guard x.1 with
 |none=>rw[hg]at h;cases h
 |some b=>
  rw[hg]at h;cases b with
  |false=>
   simp only[Zg]at h;subst h;exact .refl _
  |true=>
   simp only at h;rw[FS ho]at h;cases hr:evOp base x.1 x.2 o.op with
   |none=>rw[hr]at h;cases h
   |some q=>
    rw[hr]at h;simp only[Zg]at h;subst h;exact HN hr
theorem LB (hF:F.Ok base):∀{l:List Op},(∀o∈l,eqB o=true)→∀{x y x':Env×St},F.i+1<F.n x.2→(∀t,F.v (get x.1 t)=get x'.1 t)→F.s x.2=x'.2→evl rec base l x=some y→
 ∃y',evl rec base l x'=some y'∧(∀t,F.v (get y.1 t)=get y'.1 t)∧F.s y.2=y'.2∧F.i+1<F.n y.2
 |[],_,x,y,x',hx,hρ,hs,h=>by simp only[evl,Zg]at h;subst h;exact⟨x',rfl,hρ,hs,hx⟩
 |o::l,ho,x,y,x',hx,hρ,hs,h=>by
  simp only[evl]at h⊢;cases hq:aF rec base o x with
  |none=>rw[hq]at h;cases h
  |some q=>
   rw[hq]at h;have hle:F.n x.2≤F.n q.2:=(DF (ho o List.mem_cons_self) hq).n;obtain⟨q',e1,e2,e3⟩:=N2 (ho o List.mem_cons_self) hF (show F.In x.2 by unfold Swp.In;omega) (show F.In q.2 by unfold Swp.In;omega) hρ hs hq;rw[e1];exact LB hF (fun o ho'=>ho o (List.mem_cons_of_mem _ ho')) (by omega) e2 e3 h
theorem Su {o:Op}(ho:eqB o=true) {x y:Env×St}(hb:base≤x.2.loc.length) (hc:Cl x.1 x.2) (h:aF rec base o x=some y):Cl y.1 y.2:=by intro F hn;have hle:=DF ho h;have hnx:F.n x.2≤F.i:=Nat.le_trans hle.n hn;obtain⟨h1,h2⟩:=hc F hnx;have hF:F.Ok base:=⟨fun hh=>by unfold Swp.n at hnx;rw[hh]at hnx;simp only[Bool.false_eq_true,if_false]at hnx;omega⟩;obtain⟨y',e1,e2,e3⟩:=N2 ho hF (show F.In x.2 by unfold Swp.In;omega) (show F.In y.2 by unfold Swp.In;omega) h1 h2 h;rw[h]at e1;cases e1;exact⟨e2,e3⟩
theorem C8 {o:Op}(hc:cls o.op=2) {x y:Env×St}(h:aF rec base o x=some y):∃v,v.flat=true∧y=(put o.dst v x.1,x.2):=by
 unfold aF aB at h;cases hg:aZ o.guard x.1 with
 |none=>rw[hg]at h;cases h
 |some b=>
  rw[hg]at h;cases b with
  |false=>
   simp only[Zg]at h;exact⟨.tup [],rfl,h.symm⟩
  |true=>
   simp only at h;cases ho:o.op with
   |pcall f args=>
    rw[ho]at h;simp only[ax]at h;split at h
    ·rename_i q hq;simp only[Zg]at h;split at hq
     ·split at hq
      ·split at hq
       ·split at hq
        ·rename_i hfl;simp only[Zg]at hq;subst hq;exact⟨_,hfl.2,h.symm⟩
        ·cases hq
       ·cases hq
      ·cases hq
     ·cases hq
    ·cases h
   |_=>rw[ho]at hc;cases hc
def aheadB (o:Op):Bool:=eqB o||decide (cls o.op=2)
theorem Bb {o:Op}(ho:aheadB o=true) {x y:Env×St}(h:aF rec base o x=some y):Le x.2 y.2:=by
 simp only[aheadB,Bool.or_eq_true,Zi]at ho;rcases ho with ho|ho
 ·exact DF ho h
 ·obtain⟨v,_,rfl⟩:=C8 ho h;exact .refl _
theorem ON {o:Op}(ho:aheadB o=true) {x y:Env×St}(hb:base≤x.2.loc.length) (hc:Cl x.1 x.2) (h:aF rec base o x=some y):Cl y.1 y.2:=by
 simp only[aheadB,Bool.or_eq_true,Zi]at ho;rcases ho with ho|ho
 ·exact Su ho hb hc h
 ·obtain⟨v,hv,rfl⟩:=C8 ho h;intro F hn;obtain⟨h1,h2⟩:=hc F hn;refine⟨fun t=> ?_,h2⟩;cases hd:o.dst with
  |none=>exact h1 t
  |some d=>
   simp only[put,get];split
   ·exact ib hv
   ·exact h1 t
end eqs
variable {F : Swp}
def si:Op'→Option Bool
 | .alloc h _| .box h _| .bsl h .. | .mksl h .. =>some h
 |_=>none
def A8:Op'→Option Bool
 | .alloc h _| .box h _| .bsl h .. | .mksl h .. | .app h .. | .appa h .. =>some h
 |_=>none
def ke:Option Loc→St→St
 |none,s=>s
 |some a,s=>s.set a .dead
theorem xl (d:Option Loc) (s:St) (h:Bool):(ke d s).fresh h=s.fresh h:=by
 cases d with
 |none=>rfl
 |some a=>cases a<;>cases h<;>simp[ke,St.set,St.fresh]
structure OY (base:Nat) (ρ:Env) (o:Op') (h:Bool) (s:St) (v:V) (s':St) (d:Option Loc) (f:Loc→V) (z:V):Prop where
 there:∀a,d=some a→(s.at a).isSome=true
 veq:v=f (s.fresh h)
 seq:s'=(ke d s).new h z
 more:∀h2 z2,evOp base ρ (s.new h2 z2) o=some (f ((s.new h2 z2).fresh h),(ke d (s.new h2 z2)).new h z)
 ren:∀(F:Swp) l,F.v (f l)=f (F.a l)
 zeq:o.clos 0=true→∀F:Swp,F.In s→F.s s=s→(∀t,F.v (get ρ t)=get ρ t)→F.v z=z
theorem li {base:Nat}{ρ:Env}{s s':St}{v:V}{o:Op'}{h:Bool}(hk:si o=some h) (he:evOp base ρ s o=some (v,s')):
 ∃f z,OY base ρ o h s v s' none f z∧∀s2,evOp base ρ s2 o=some (f (s2.fresh h),s2.new h z):=by
 cases o with
 |alloc h' z=>
  simp only[si,Zg]at hk;subst hk;simp only[evOp,Zg,Zk]at he;obtain⟨rfl,rfl⟩:=he;refine⟨fun l=> .ptr l [] z.tag,z,⟨(fun _ hd=>by cases hd),rfl,rfl,fun _ _=>rfl,fun _ _=>rfl,fun hc F _ _ _=> ?_⟩,fun _=>rfl⟩;simp only[Op'.clos,zOf,Zj]at hc;exact ib hc.2
 |box h' x=>
  simp only[si,Zg]at hk;subst hk;simp only[evOp]at he;split at he
  ·rename_i hok;simp only[Zg,Zk]at he;obtain⟨rfl,rfl⟩:=he;have key:∀s2:St,evOp base ρ s2 (.box h' x)=some (.ptr (s2.fresh h') [] (x.ev ρ).tag,s2.new h' (x.ev ρ)):=fun s2=>by simp only[evOp];rw[if_pos hok]
   refine⟨fun l=> .ptr l [] (x.ev ρ).tag,x.ev ρ,⟨(fun _ hd=>by cases hd),rfl,rfl,fun _ _=>key _,fun _ _=>rfl,fun hc F _ _ hρ=> ?_⟩,key⟩;simp only[Op'.clos,Zj,List.all_eq_true]at hc;have:=ai (F:=F) (ρ:=ρ) (hc.1 x (by simp[ag]));rw[←this,(CM hρ).ev]
  ·cases he
 |bsl h' r e z n ps=>
  simp only[si,Zg]at hk;subst hk;simp only[evOp]at he;split at he
  ·rename_i l' hl;split at he
   ·rename_i hm;simp only[Zg,Zk]at he;obtain⟨rfl,rfl⟩:=he;have key:∀s2:St,evOp base ρ s2 (.bsl h' r e z n ps)=some (.sl (s2.fresh h') [] 0 n (some n) e,s2.new h' (.agg r l')):=fun s2=>by simp only[evOp,hl];rw[if_pos hm]
    refine⟨fun l=> .sl l [] 0 n (some n) e,.agg r l',⟨(fun _ hd=>by cases hd),rfl,rfl,fun _ _=>key _,fun _ _=>rfl,fun hc F _ _ hρ=> ?_⟩,key⟩;simp only[Op'.clos,zOf,Zj,List.all_eq_true]at hc;have:=jp (F:=F) hl;rw[List.map_replicate,ib hc.2,List.map_map]at this;have e:(ps.map ((fun p=>(p.1,F.v p.2))∘fun p=>(p.1,p.2.ev ρ)))=ps.map fun p=>(p.1,p.2.ev ρ):=by apply List.map_congr_left;intro p hp;simp only[Function.comp,Zk,true_and];have:=ai (F:=F) (ρ:=ρ) (hc.1 p.2 (by simp only[ag];exact List.mem_map_of_mem hp));rw[←this,(CM hρ).ev]
    rw[e,hl,Zg]at this;simp only[Swp.v,aY,←this]
   ·cases he
  ·cases he
 |mksl h' r e z n c=>
  simp only[si,Zg]at hk;subst hk;simp only[evOp]at he;split at he
  ·rename_i k a k2 b hn hcp;split at he
   ·rename_i hm;simp only[Zg,Zk]at he;obtain⟨rfl,rfl⟩:=he;have key:∀s2:St,evOp base ρ s2 (.mksl h' r e z n c)=some (.sl (s2.fresh h') [] 0 a.toNat (some b.toNat) e,s2.new h' (.agg r (List.replicate a.toNat z))):=fun s2=>by simp only[evOp,hn,hcp];rw[if_pos hm]
    refine⟨fun l=> .sl l [] 0 a.toNat (some b.toNat) e,.agg r (List.replicate a.toNat z),⟨(fun _ hd=>by cases hd),rfl,rfl,fun _ _=>key _,fun _ _=>rfl,fun hc F _ _ _=> ?_⟩,key⟩;simp only[Op'.clos,zOf,Zj]at hc;simp only[Swp.v,aY,List.map_replicate,ib hc.2]
   ·cases he
  ·cases he
 |_=>cases hk
theorem kZ {s:St}{h:Bool}{z v:V}{l:List V}(he:s.elems v=some l):(s.new h z).elems v=some l:=by
 unfold St.elems at he⊢;split at he
 ·exact he
 ·split at he
  ·rename_i hl;rw[if_pos hl];exact he
  ·rename_i hl;rw[if_neg hl];split at he
   ·rename_i hr;rw[HX hr];exact he
   ·cases he
 ·exact he
 ·cases he
theorem yU {s:St}{h:Bool}{z:V}{a:Loc}{b:Blk}(hb:s.at a=some b):(s.new h z).at a=some b:=by
 cases a with
 |loc i=>cases h<;>simp only[St.new,St.at,Bool.false_eq_true,if_false,if_true]at hb⊢<;>first|exact hb|(rw[List.getElem?_append_left (List.getElem?_eq_some_iff.1 hb).1];exact hb)
 |hp i=>cases h<;>simp only[St.new,St.at,Bool.false_eq_true,if_false,if_true]at hb⊢<;>first|exact hb|(rw[List.getElem?_append_left (List.getElem?_eq_some_iff.1 hb).1];exact hb)
theorem Gn {base:Nat}{ρ:Env}{s s':St}{v:V}{h:Bool}{r e:Nat}{x y:Opd}(he:evOp base ρ s (.app h r e x y)=some (v,s')):
 (s'=s∧∀h2 z2,evOp base ρ (s.new h2 z2) (.app h r e x y)=some (v,s.new h2 z2))∨∃d f z,OY base ρ (.app h r e x y) h s v s' d f z:=by
 simp only[evOp]at he;unfold aD at he;split at he
 ·rename_i hc;split at he
  ·rename_i old new ho hn;have zf:(Op'.app h r e x y).clos 0=true→∀F:Swp,F.In s→F.s s=s→(∀t,F.v (get ρ t)=get ρ t)→F.v (.agg r (old++new))= .agg r (old++new):=by intro hcl F hI hs hρ;simp only[Op'.clos,Zj,List.all_eq_true]at hcl;have ex:=ai (F:=F) (ρ:=ρ) (hcl.1 x (by simp[ag]));have ey:=ai (F:=F) (ρ:=ρ) (hcl.1 y (by simp[ag]));rw[(CM hρ).ev]at ex ey;have g1:=mZ (F:=F) hI ho;have g2:=mZ (F:=F) hI hn;rw[hs,←ex,ho,Zg]at g1;rw[hs,←ey,hn,Zg]at g2;simp only[Swp.v,aY,List.map_append,←g1,←g2]
   split at he
   ·rename_i h0;simp only[Zg,Zk]at he;obtain⟨rfl,rfl⟩:=he;left;refine⟨rfl,fun h2 z2=> ?_⟩;simp only[evOp];unfold aD;rw[if_pos hc,kZ ho,kZ hn];simp only;rw[if_pos h0]
   ·rename_i h0;split at he
    ·rename_i hm;right;split at he
     ·rename_i hx;simp only[Zg,Zk]at he;obtain⟨rfl,rfl⟩:=he;refine⟨none,fun l=> .sl l [] 0 (old.length+new.length) none e,.agg r (old++new),⟨(fun _ hd=>by cases hd),rfl,rfl,fun h2 z2=> ?_,fun _ _=>rfl,zf⟩⟩;simp only[evOp];unfold aD;rw[if_pos hc,kZ ho,kZ hn];simp only;rw[if_neg h0,if_pos hm,hx];rfl
     ·rename_i a path off len cap e' hx;split at he
      ·rename_i hk;simp only[Zg,Zk]at he;obtain⟨rfl,rfl⟩:=he;refine⟨none,fun l=> .sl l [] 0 (old.length+new.length) none e,.agg r (old++new),⟨(fun _ hd=>by cases hd),rfl,rfl,fun h2 z2=> ?_,fun _ _=>rfl,zf⟩⟩;simp only[evOp];unfold aD;rw[if_pos hc,kZ ho,kZ hn];simp only;rw[if_neg h0,if_pos hm,hx];simp only;rw[if_pos hk];rfl
      ·rename_i hk;split at he
       ·rename_i hp;split at he
        ·rename_i u ha;simp only[Zg,Zk]at he;obtain⟨rfl,rfl⟩:=he;refine⟨some a,fun l=> .sl l [] 0 (old.length+new.length) none e,.agg r (old++new),⟨(fun b hd=>by cases hd;rw[ha];rfl),by rw[←xl (some a) s h];rfl,rfl,fun h2 z2=> ?_,fun _ _=>rfl,zf⟩⟩;simp only[evOp];unfold aD;rw[if_pos hc,kZ ho,kZ hn];simp only;rw[if_neg h0,if_pos hm,hx];simp only;rw[if_neg hk,if_pos hp,yU ha];simp only;rw[←xl (some a) (s.new h2 z2) h];rfl
        ·cases he
       ·cases he
     ·cases he
    ·cases he
  ·cases he
 ·cases he
theorem D1 {base:Nat}{ρ:Env}{s s':St}{v:V}{o:Op'}{h:Bool}(hk:A8 o=some h) (he:evOp base ρ s o=some (v,s')):
 (s'=s∧∀h2 z2,evOp base ρ (s.new h2 z2) o=some (v,s.new h2 z2))∨∃d f z,OY base ρ o h s v s' d f z:=by
 cases o with
 |app h2 r e a b=>
  simp only[A8,Zg]at hk;subst hk;exact Gn he
 |appa h2 r e a b l=>
  simp only[A8,Zg]at hk;subst hk;simp only[evOp]at he;split at he
  ·rename_i hall;rcases Gn (base:=base) (ρ:=ρ) (x:=a) (y:=b) (show evOp base ρ s (.app h2 r e a b)=some (v,s')from he)with⟨h1,h3⟩|⟨d,f,z,hf⟩
   ·refine .inl ⟨h1,fun h4 z4=> ?_⟩;have:=h3 h4 z4;simp only[evOp]at this⊢;rw[if_pos hall];exact this
   ·refine .inr ⟨d,f,z,hf.there,hf.veq,hf.seq,fun h4 z4=> ?_,hf.ren,fun hc=>hf.zeq ?_⟩
    ·have:=hf.more h4 z4;simp only[evOp]at this⊢;rw[if_pos hall];exact this
    ·simp only[Op'.clos,Zj,List.all_eq_true]at hc⊢;refine⟨fun x hx=>hc.1 x ?_,rfl⟩;simp only[ag,List.mem_cons,List.not_mem_nil,or_false]at hx⊢;rcases hx with rfl|rfl
     ·exact .inl rfl
     ·exact .inr (.inl rfl)
  ·cases he
 |alloc h2 z=>obtain⟨f,z,hf,_⟩:=li (o:= .alloc h2 z) (h:=h) (show si (.alloc h2 z)=some h from hk) he;exact .inr ⟨none,f,z,hf⟩
 |box h2 z=>obtain⟨f,z,hf,_⟩:=li (o:= .box h2 z) (h:=h) (show si (.box h2 z)=some h from hk) he;exact .inr ⟨none,f,z,hf⟩
 |bsl h2 r e z n ps=>obtain⟨f,z,hf,_⟩:=li (o:= .bsl h2 r e z n ps) (h:=h) (show si (.bsl h2 r e z n ps)=some h from hk) he;exact .inr ⟨none,f,z,hf⟩
 |mksl h2 r e z n c=>obtain⟨f,z,hf,_⟩:=li (o:= .mksl h2 r e z n c) (h:=h) (show si (.mksl h2 r e z n c)=some h from hk) he;exact .inr ⟨none,f,z,hf⟩
 |_=>cases hk
variable {F : Swp}
def swB (y x:Op):Bool:=lZ y x&&(match A8 y.op,si x.op with|some h,some h'=>h==h'|_,_=>false)
theorem rG {F:Swp}{s:St}{h:Bool}{z:V}(hF:F.h=h):F.n (s.new h z)=F.n s+1:=by subst hF;unfold Swp.n;cases hh:F.h<;>simp[St.new]
theorem Wg {F:Swp}(d:Option Loc) (s:St):F.n (ke d s)=F.n s:=by
 cases d with
 |none=>rfl
 |some a=>
  unfold Swp.n ke;split
  ·exact set_len.2
  ·exact set_len.1
theorem JZ {α:Type}{l:List α}{a b:α}:swl l.length (l++[a,b])=l++[b,a]:=by unfold swl;rw[List.getElem?_append_right (Nat.le_refl _),List.getElem?_append_right (by omega)];simp
theorem WN {F:Swp}{s0:St}{h:Bool}{a b:V}(hh:F.h=h) (hi:F.i=F.n s0) (hs:F.s s0=s0) (ha:F.v a=a) (hb:F.v b=b):F.s ((s0.new h a).new h b)=(s0.new h b).new h a:=by
 subst hh;obtain⟨fh,fi⟩:=F;cases fh with
 |true=>
  simp only[Swp.n,if_true]at hi;subst hi;have h1:s0.loc.map (Swp.b ⟨true,s0.hp.length⟩)=s0.loc:=by have:=congrArg St.loc hs;simpa[Swp.s]using this
  have h2:s0.hp.map (Swp.b ⟨true,s0.hp.length⟩)=s0.hp:=by
   have:=congrArg St.hp hs;simp only[Swp.s,if_true]at this
   rwa [qW (Nat.le_refl _)]at this
  simp only[St.new,if_true,Swp.s,List.append_assoc,List.cons_append,List.nil_append,JZ,List.map_append,List.map_cons,List.map_nil,h1,h2,Swp.b,ha,hb]
 |false=>
  simp only[Swp.n,Bool.false_eq_true,if_false]at hi;subst hi;have h1:s0.hp.map (Swp.b ⟨false,s0.loc.length⟩)=s0.hp:=by have:=congrArg St.hp hs;simpa[Swp.s]using this
  have h2:s0.loc.map (Swp.b ⟨false,s0.loc.length⟩)=s0.loc:=by
   have:=congrArg St.loc hs;simp only[Swp.s,Bool.false_eq_true,if_false]at this
   rwa [qW (Nat.le_refl _)]at this
  simp only[St.new,Bool.false_eq_true,if_false,Swp.s,List.append_assoc,List.cons_append,List.nil_append,JZ,List.map_append,List.map_cons,List.map_nil,h1,h2,Swp.b,ha,hb]
theorem Gh {d:Option Loc}{s:St}{h:Bool}{z:V}(hd:∀a,d=some a→(s.at a).isSome=true):ke d (s.new h z)=(ke d s).new h z:=by
 cases d with
 |none=>rfl
 |some a=>
  have ha:=hd a rfl;cases a with
  |loc i=>
   simp only[St.at,iA]at ha;cases h<;>simp[ke,St.set,St.new,ha]
  |hp i=>
   simp only[St.at,iA]at ha;cases h<;>simp[ke,St.set,St.new,ha]
theorem UZ {F:Swp}{d:Option Loc}{s:St}(hn:F.n s≤F.i) (hs:F.s s=s) (hd:∀a,d=some a→(s.at a).isSome=true):F.s (ke d s)=ke d s:=by
 cases d with
 |none=>exact hs
 |some a=>
  have hI:F.In s:=by unfold Swp.In;omega
  have:=(wx (F:=F) (a:=a) hI .dead).1;simp only[ke,this,hs,Rz hn (hd a rfl),Swp.b]
mutual
theorem Py:∀(v:V),F.v (F.v v)=v
 | .ptr a p t=>by simp only[Swp.v,a_a]
 | .sl a p o l c e=>by simp only[Swp.v,a_a]
 | .fn f caps=>by simp only[Swp.v,Fq caps]
 | .agg t l=>by simp only[Swp.v,Fq l]
 | .tup l=>by simp only[Swp.v,Fq l]
 | .mp none=>by simp only[Swp.v]
 | .mp (some i)=>by have:=a_a (F:=F) (.hp i);rw[xk,xk]at this;simp only[Swp.v,Loc.hp.inj this]
 | .dead| .bool _| .int _ _| .str _| .nilp| .nils| .nilf=>by simp only[Swp.v]
theorem Fq:∀(l:List V),F.vs (F.vs l)=l
 |[]=>by simp only[Swp.vs]
 |v::l=>by simp only[Swp.vs,Py v,Fq l]
end
theorem XG (b:Blk):F.b (F.b b)=b:=by cases b<;>simp only[Swp.b,Py]
theorem Yb {s:St}(hI:F.In s):F.s (F.s s)=s:=by
 have hm:∀l:List Blk,(l.map F.b).map F.b=l:=fun l=>by rw[List.map_map];exact(List.map_congr_left fun b _=>XG b).trans (List.map_id _)
 unfold Swp.In Swp.n at hI;unfold Swp.s;split
 ·rename_i hh;rw[if_pos hh]at hI;simp only[JF,hm];rw[JR (by simpa using hI)]
 ·rename_i hh;rw[if_neg hh]at hI;simp only[JF,hm];rw[JR (by simpa using hI)]
inductive Rel (base:Nat) (s0:St):Env×St→Env×St→Prop where
 |same {r r':Env×St}:bB r.1 r'.1→r.2=r'.2→Rel base s0 r r'
 |step {r r1 r2:Env×St}(F:Swp):Rel base s0 r r1→F.n s0≤F.i→F.i+1<F.n r1.2→(∀t,F.v (get r1.1 t)=get r2.1 t)→F.s r1.2=r2.2→Rel base s0 r r2
theorem Rel.snoc {base:Nat}{s0:St}{r r1 r2:Env×St}(h:Rel base s0 r r1) (h1:bB r1.1 r2.1) (h2:r1.2=r2.2):Rel base s0 r r2:=by
 cases h with
 |same k1 k2=>exact .same (k1.trans h1) (k2.trans h2)
 |step F a b c d e=>exact .step F a b c (fun t=>(d t).trans (h1 t)) (e.trans h2)
theorem Rel.low {base:Nat}{s0 s1:St}{r r':Env×St}(h:Rel base s1 r r') (hl:Le s0 s1):Rel base s0 r r':=by
 induction h with
 |same a b=>exact .same a b
 |step F _ b c d e ih=>exact .step F ih (Nat.le_trans hl.n b) c d e
section sw
variable {rec : cL → St → Option Res} {base : Nat}
theorem l6 {o:Op}{h:Bool}(hk:A8 o.op=some h) {ρ:Env}{s:St}:ax rec base ρ s o.op=evOp base ρ s o.op:=by
 cases ho:o.op<;>rw[ho]at hk<;>first|rfl|cases hk
theorem CN {o:Op'}{h:Bool}(hk:si o=some h):A8 o=some h:=by
 cases o<;>first|exact hk|cases hk
theorem iB {o:Op}{ρ:Env}{s:St}(hg:aZ o.guard ρ=some true):aB rec base o ρ s=ax rec base ρ s o.op:=by unfold aB;rw[hg]
theorem ji {o:Op}{ρ:Env}{s:St}(hg:aZ o.guard ρ=some false):aB rec base o ρ s=some (.tup [],s):=by unfold aB;rw[hg]
theorem Wp {y x:Op}(hc:swB y x=true) (hyc:y.op.clos 0=true) (hxc:x.op.clos 0=true) {p p1 p2:Env×St}(hcl:Cl p.1 p.2) (hb:base≤p.2.loc.length) (hy:aF rec base y p=some p1) (hx:aF rec base x p1=some p2):
 ∃q1 q2,aF rec base x p=some q1∧aF rec base y q1=some q2∧((bB p2.1 q2.1∧p2.2=q2.2)∨∃F:Swp,F.Ok base∧F.n p.2≤F.i∧F.i+1<F.n p2.2∧(∀t,F.v (get p2.1 t)=get q2.1 t)∧F.s p2.2=q2.2):=by
 obtain⟨ρ,s⟩:=p;simp only[swB,lZ,Zj]at hc;obtain⟨⟨⟨ha,hbb⟩,hd⟩,hk⟩:=hc;split at hk
 case h_2=>cases hk
 rename_i h h' hyk hxk;obtain rfl:h=h':=by simpa using hk
 simp only at hcl hb;unfold aF at hy hx;cases hvy:aB rec base y ρ s with
 |none=>rw[hvy]at hy;cases hy
 |some q=>
  obtain⟨vy,sy⟩:=q;rw[hvy]at hy;simp only[Zg]at hy;subst hy;rw[oR hbb]at hx;cases hvx:aB rec base x ρ sy with
  |none=>rw[hvx]at hx;cases hx
  |some q=>
   obtain⟨vx,sx⟩:=q;rw[hvx]at hx;simp only[Zg]at hx;subst hx;have same:bB (put x.dst vx (put y.dst vy ρ)) (put y.dst vy (put x.dst vx ρ)):=by
    intro t;cases hx:x.dst with
    |none=>rfl
    |some d=>
     cases hy:y.dst with
     |none=>rfl
     |some d'=>
      rw[hx,hy]at hd;simp only[ne_eq,Zi]at hd;simp only[put,get];split
      ·rename_i e;subst e;rw[if_neg (fun e=>hd e.symm)]
      ·rfl
   have plain:∀s1,aB rec base x ρ s=some (vx,s1)→aB rec base y ρ s1=some (vy,sx)→
    ∃q1 q2,aF rec base x (ρ,s)=some q1∧aF rec base y q1=some q2∧((bB (put x.dst vx (put y.dst vy ρ)) q2.1∧sx=q2.2)∨∃F:Swp,F.Ok base∧F.n s≤F.i∧F.i+1<F.n sx∧(∀t,F.v (get (put x.dst vx (put y.dst vy ρ)) t)=get q2.1 t)∧F.s sx=q2.2):=by
    intro s1 k1 k2;refine⟨(put x.dst vx ρ,s1),(put y.dst vy (put x.dst vx ρ),sx),?_,?_,.inl ⟨same,rfl⟩⟩
    ·simp only[aF,k1]
    ·simp only[aF,oR ha,k2]
   cases hgx:aZ x.guard ρ with
   |none=>unfold aB at hvx;rw[hgx]at hvx;cases hvx
   |some gx=>
    cases gx with
    |false=>
     rw[ji hgx]at hvx;simp only[Zg,Zk]at hvx;obtain⟨rfl,rfl⟩:=hvx;exact plain s (ji hgx) hvy
    |true=>
     rw[iB hgx,l6 (CN hxk)]at hvx;obtain⟨fx,zx,hfx,hallx⟩:=li hxk hvx;have hxs:aB rec base x ρ s=some (fx (s.fresh h),s.new h zx):=by rw[iB hgx,l6 (CN hxk),hallx s]
     cases hgy:aZ y.guard ρ with
     |none=>unfold aB at hvy;rw[hgy]at hvy;cases hvy
     |some gy=>
      cases gy with
      |false=>
       rw[ji hgy]at hvy;simp only[Zg,Zk]at hvy;obtain⟨rfl,rfl⟩:=hvy;refine plain (s.new h zx) (by rw[hxs,hfx.veq]) ?_;rw[ji hgy,hfx.seq];rfl
      |true=>
       rw[iB hgy,l6 hyk]at hvy;have form:=D1 hyk hvy;rcases form with⟨rfl,hall⟩|⟨d,fy,zy,hfy⟩
       ·refine plain (sy.new h zx) (by rw[hxs,hfx.veq]) ?_;rw[iB hgy,l6 hyk,hall,hfx.seq];rfl
       ·-- both have made a block
        have hn0:∀F:Swp,F.n s≤F.i→F.In s:=fun F hF=>by unfold Swp.In;omega
        obtain⟨F,hFh,hFi⟩:∃F:Swp,F.h=h∧F.i=F.n s:=⟨⟨h,if h then s.hp.length else s.loc.length⟩,rfl,rfl⟩
        obtain⟨hρ,hs⟩:=hcl F (by omega);have hI:=hn0 F (by omega);have hOk:F.Ok base:=⟨fun hh=>by rw[hFi];unfold Swp.n;rw[hh];simpa using hb⟩;have hz1:=hfy.zeq hyc F hI hs hρ;have hz2:F.v zx=zx:=by
         obtain⟨f2,z2,hf2,hall2⟩:=li hxk (hallx s);have e:=(hall2 s).symm.trans (hallx s);simp only[Zg,Zk]at e;have hzz:z2=zx:=by have:=e.2;cases h<;>simp[St.new]at this<;>exact this
         rw[←hzz];exact hf2.zeq hxc F hI hs hρ
        have hks:=UZ (F:=F) (d:=d) (s:=s) (by omega) hs hfy.there;have hkn:F.n (ke d s)=F.n s:=Wg d s;have hsx:sx=((ke d s).new h zy).new h zx:=by rw[hfx.seq,hfy.seq];rfl
        have hsy:(ke d (s.new h zx)).new h zy=((ke d s).new h zx).new h zy:=by rw[Gh hfy.there]
        have hFs:F.s sx=(ke d (s.new h zx)).new h zy:=by rw[hsx,hsy];exact WN hFh (by rw[hkn];exact hFi) hks hz1 hz2
        have hfr0:∀{s1:St},F.n s1=F.n s→s1.fresh h=(if h then .hp (F.n s)else .loc (F.n s)):=by intro s1 e;rw[←e];unfold St.fresh Swp.n;rw[hFh];cases h<;>rfl
        have hfr1:∀{s1:St},F.n s1=F.n s+1→s1.fresh h=(if h then .hp (F.n s+1)else .loc (F.n s+1)):=by intro s1 e;rw[←e];unfold St.fresh Swp.n;rw[hFh];cases h<;>rfl
        have a0:F.a (if h then .hp (F.n s)else .loc (F.n s))=(if h then .hp (F.n s+1)else .loc (F.n s+1)):=by cases h<;>simp[Swp.a,hFh,sw,hFi]
        have a1:F.a (if h then .hp (F.n s+1)else .loc (F.n s+1))=(if h then .hp (F.n s)else .loc (F.n s)):=by rw[←a0,a_a]
        have hvy':F.v vy=fy ((s.new h zx).fresh h):=by rw[hfy.veq,hfy.ren,hfr0 rfl,hfr1 (rG hFh),a0]
        have hvx':F.v vx=fx (s.fresh h):=by rw[hfx.veq,hfx.ren,hfr1 (by rw[hfy.seq,rG hFh,hkn]),hfr0 rfl,a1]
        refine⟨(put x.dst (fx (s.fresh h)) ρ,s.new h zx),(put y.dst (F.v vy) (put x.dst (F.v vx) ρ),(ke d (s.new h zx)).new h zy),?_,?_,.inr ⟨F,hOk,by simp only;omega,?_,?_,hFs⟩⟩
        ·simp only[aF,hxs]
        ·simp only[aF,oR ha,iB hgy,l6 hyk,hfy.more];rw[hvy',hvx']
        ·simp only[hsx];rw[rG hFh,rG hFh,hkn];omega
        ·intro t;have e1:=BK (F:=F) (ρ:=put y.dst vy ρ) (ρ':=put y.dst (F.v vy) ρ) (BK (F:=F) hρ y.dst vy) x.dst vx t;rw[e1];cases hx:x.dst with
         |none=>rfl
         |some dd=>
          cases hy:y.dst with
          |none=>rfl
          |some d'=>
           rw[hx,hy]at hd;simp only[ne_eq,Zi]at hd;simp only[put,get];split
           ·rename_i e;subst e;rw[if_neg (fun e=>hd e.symm)]
           ·rfl
def ptrOf:Op'→Option Opd
 | .ld _ p| .ldl _ p| .lda _ p _=>some p
 | .slarr _ _ _ p _ _ _=>some p
 |_=>none
def AC (x:Op) (p:Env×St):Prop:=∀q,ptrOf x.op=some q→∀a pa t,q.ev p.1= .ptr a pa t→(p.2.at a).isSome=true
def Hr:Op'→Bool
 | .alloc .. | .box .. | .bsl .. | .mksl .. | .app .. | .appa .. =>true
 | .callk p _ _=>p
 |_=>false
def K7 (y x:Op):Bool:=lZ y x&&(Hr y.op&&decide (cls x.op=1)&&(ptrOf x.op).isSome)
def Hx (y x:Op):Bool:=lZ y x&&(match A8 y.op,si x.op with|some h,some h'=>decide (h≠h')|_,_=>false)
def stepXB (y x:Op):Bool:=Cg y x||K7 y x||Hx y x
theorem IB {y x:Op}(h:Cg y x=true):lZ y x=true:=by simp only[Cg,Zj]at h;exact h.1
theorem yP {y x:Op}(h:stepXB y x=true):lZ y x=true:=by
 simp only[stepXB,Bool.or_eq_true]at h;rcases h with(h|h)|h
 ·exact IB h
 ·simp only[K7,Zj]at h;exact h.1
 ·simp only[Hx,Zj]at h;exact h.1
theorem Xc {ρ:Env}{s s2 s':St}{v:V}{o:Op'}(hrd:∀q,ptrOf o=some q→∀a p t,q.ev ρ= .ptr a p t→∀u,s.read a p=some u→s2.read a p=some u) (hpt:(ptrOf o).isSome=true) (hc:cls o=1) (hr:ax rec base ρ s o=some (v,s')):ax rec base ρ s2 o=some (v,s2):=by
 cases o with
 |ldr t n e u p=>simp[ptrOf]at hpt
 |ld t p=>
  simp only[ax,evOp]at hr⊢;split at hr
  ·rename_i a path t' hp;split at hr
   ·rename_i ht;rw[if_pos ht];cases hs:s.read a path with
    |none=>rw[hs]at hr;cases hr
    |some u=>
     rw[hs]at hr;rw[hrd _ rfl _ _ _ hp _ hs];simp only[Zg,Zk]at hr⊢;exact⟨hr.1,trivial⟩
   ·cases hr
  ·cases hr
 |ldl t p=>
  simp only[ax,evOp]at hr⊢;split at hr
  ·rename_i i path t' hp;split at hr
   ·rename_i ht;rw[if_pos ht];cases hs:s.read (.loc i) path with
    |none=>rw[hs]at hr;cases hr
    |some u=>
     rw[hs]at hr;rw[hrd _ rfl _ _ _ hp _ hs];simp only[Zg,Zk]at hr⊢;exact⟨hr.1,trivial⟩
   ·cases hr
  ·cases hr
 |lda t p r=>
  simp only[ax,evOp]at hr⊢;split at hr
  ·rename_i hle;rw[if_pos hle];split at hr
   ·rename_i a path t' hp;split at hr
    ·rename_i ht;rw[if_pos ht];cases hs:s.read a path with
     |none=>rw[hs]at hr;cases hr
     |some u=>
      rw[hs]at hr;rw[hrd _ rfl _ _ _ hp _ hs];simp only[Zg,Zk]at hr⊢;exact⟨hr.1,trivial⟩
    ·cases hr
   ·cases hr
  ·cases hr
 |slarr t n e x lo hi mx=>
  simp only[ax,evOp]at hr⊢;split at hr
  ·rename_i a path t' hp;split at hr
   ·rename_i ht;obtain⟨ht1,ht2⟩:=ht;cases hs:s.read a path with
    |none=>rw[hs]at ht2;cases ht2
    |some u=>
     rw[if_pos ⟨ht1,by rw[hrd _ rfl _ _ _ hp _ hs];rfl⟩]
     (repeat' split at hr)<;>simp_all
   ·cases hr
  ·cases hr
 |_=>simp[cls]at hc
theorem Pw {o:Op}(hk:Hr o.op=true) {ρ:Env}{s s':St}{v:V}(hv:aB rec base o ρ s=some (v,s')) {c:Loc}{k:Blk}(hc:s.at c=some k):s'.at c=some k∨s'.at c=some .dead:=by
 cases ho:o.op with
 |callk p f l=>
  rw[ho]at hk;simp only[Hr]at hk;rcases wC ho hv with⟨rfl,_⟩|⟨h1,h2,_⟩
  ·exact .inl hc
  ·left;cases c with
   |loc i=>simp only[St.at]at hc⊢;rw[h1];exact hc
   |hp i=>
    simp only[St.at]at hc⊢;have hl:=(List.getElem?_eq_some_iff.1 hc).1;rw[←h2 hk,List.getElem?_take,if_pos hl]at hc;exact hc
 |app h r e x y=>
  unfold aB at hv;split at hv
  ·cases hv
  ·simp only[Zg,Zk]at hv;rw[←hv.2];exact .inl hc
  ·rw[ho]at hv;exact(xy (base:=base) hv hc).imp id (·.1)
 |appa h r e x y l=>
  unfold aB at hv;split at hv
  ·cases hv
  ·simp only[Zg,Zk]at hv;rw[←hv.2];exact .inl hc
  ·rw[ho]at hv;simp only[ax,evOp]at hv;split at hv
   ·exact(xy (base:=base) hv hc).imp id (·.1)
   ·cases hv
 |mksl h r e z n cp=>
  unfold aB at hv;split at hv
  ·cases hv
  ·simp only[Zg,Zk]at hv;rw[←hv.2];exact .inl hc
  ·rw[ho]at hv;obtain⟨f,z,hf,_⟩:=li (base:=base) (ρ:=ρ) (o:= .mksl h r e z n cp) (h:=h) rfl hv;rw[hf.seq];exact .inl (yU hc)
 |alloc h z=>
  rcases wR (by rw[ho];rfl) hv with rfl|⟨h,z,rfl⟩
  ·exact .inl hc
  ·exact .inl (yU hc)
 |box h z=>
  rcases wR (by rw[ho];rfl) hv with rfl|⟨h,z,rfl⟩
  ·exact .inl hc
  ·exact .inl (yU hc)
 |bsl h r e z n ps=>
  rcases wR (by rw[ho];rfl) hv with rfl|⟨h,z,rfl⟩
  ·exact .inl hc
  ·exact .inl (yU hc)
 |_=>rw[ho]at hk;cases hk
theorem yT {s:St}{h h':Bool}{z:V}(hn:h≠h'):(s.new h z).fresh h'=s.fresh h':=by
 cases h<;>cases h'<;>first|exact absurd rfl hn|simp[St.new,St.fresh]
theorem QI {s:St}{h h':Bool}{a b:V}(hn:h≠h'):(s.new h a).new h' b=(s.new h' b).new h a:=by
 cases h<;>cases h'<;>first|exact absurd rfl hn|simp[St.new]
theorem Va {y x:Op}(hc:lZ y x=true) {ρ:Env}{s:St}{p1 p2:Env×St}(hy:aF rec base y (ρ,s)=some p1) (hx:aF rec base x p1=some p2)
 (key:∀vy sy vx sx,aB rec base y ρ s=some (vy,sy)→aB rec base x ρ sy=some (vx,sx)→∃s1,aB rec base x ρ s=some (vx,s1)∧aB rec base y ρ s1=some (vy,sx)):
 ∃q1 q2,aF rec base x (ρ,s)=some q1∧aF rec base y q1=some q2∧bB p2.1 q2.1∧p2.2=q2.2:=by
 simp only[lZ,Zj]at hc;obtain⟨⟨ha,hb⟩,hd⟩:=hc;unfold aF at hy hx;cases hvy:aB rec base y ρ s with
 |none=>rw[hvy]at hy;cases hy
 |some q=>
  obtain⟨vy,sy⟩:=q;rw[hvy]at hy;simp only[Zg]at hy;subst hy;rw[oR hb]at hx;cases hvx:aB rec base x ρ sy with
  |none=>rw[hvx]at hx;cases hx
  |some q=>
   obtain⟨vx,sx⟩:=q;rw[hvx]at hx;simp only[Zg]at hx;subst hx;obtain⟨s1,k1,k2⟩:=key vy sy vx sx hvy hvx;refine⟨(put x.dst vx ρ,s1),(put y.dst vy (put x.dst vx ρ),sx),?_,?_,?_,rfl⟩
   ·simp only[aF,k1]
   ·simp only[aF,oR ha,k2]
   ·intro t;cases hx:x.dst with
    |none=>rfl
    |some d=>
     cases hy:y.dst with
     |none=>rfl
     |some d'=>
      rw[hx,hy]at hd;simp only[ne_eq,Zi]at hd;simp only[put,get];split
      ·rename_i e;subst e;rw[if_neg (fun e=>hd e.symm)]
      ·rfl
theorem Rw {y x:Op}(hc:stepXB y x=true) {p p1 p2:Env×St}(hold:AC x p) (hy:aF rec base y p=some p1) (hx:aF rec base x p1=some p2):
 ∃q1 q2,aF rec base x p=some q1∧aF rec base y q1=some q2∧bB p2.1 q2.1∧p2.2=q2.2:=by
 simp only[stepXB,Bool.or_eq_true]at hc;obtain⟨ρ,s⟩:=p;rcases hc with(hc|hc)|hc
 ·exact Rk hc hy hx
 ·simp only[K7,Zj,Zi]at hc;obtain⟨hap,⟨hk,hl⟩,hpt⟩:=hc;refine Va hap hy hx fun vy sy vx sx hvy hvx=> ?_;have hq:=dU (by omega) hvx;subst hq;refine⟨s,?_,hvy⟩;unfold aB at hvx⊢;split at hvx
  ·cases hvx
  ·simp only[Zg,Zk]at hvx⊢;exact⟨hvx.1,trivial⟩
  ·refine Xc (fun q hpq a pa t hqe u hu=> ?_) hpt hl hvx;have hs:(s.at a).isSome=true:=hold q hpq a pa t hqe;cases hsa:s.at a with
   |none=>rw[hsa]at hs;cases hs
   |some k=>
    unfold St.read at hu⊢;rcases Pw hk hvy hsa with h1|h1
    ·rw[h1]at hu;rw[hsa];exact hu
    ·rw[h1]at hu;cases hu
 ·simp only[Hx,Zj]at hc;obtain⟨hap,hk⟩:=hc;split at hk
  case h_2=>cases hk
  rename_i h h' hyk hxk;have hne:h≠h':=by simpa using hk
  refine Va hap hy hx fun vy sy vx sx hvy hvx=> ?_;cases hgx:aZ x.guard ρ with
  |none=>unfold aB at hvx;rw[hgx]at hvx;cases hvx
  |some gx=>
   cases gx with
   |false=>
    rw[ji hgx]at hvx;simp only[Zg,Zk]at hvx;obtain⟨rfl,rfl⟩:=hvx;exact⟨s,ji hgx,hvy⟩
   |true=>
    rw[iB hgx,l6 (CN hxk)]at hvx;obtain⟨fx,zx,hfx,hallx⟩:=li hxk hvx;have hxs:aB rec base x ρ s=some (fx (s.fresh h'),s.new h' zx):=by rw[iB hgx,l6 (CN hxk),hallx s]
    cases hgy:aZ y.guard ρ with
    |none=>unfold aB at hvy;rw[hgy]at hvy;cases hvy
    |some gy=>
     cases gy with
     |false=>
      rw[ji hgy]at hvy;simp only[Zg,Zk]at hvy;obtain⟨rfl,rfl⟩:=hvy;refine⟨s.new h' zx,by rw[hxs,hfx.veq],?_⟩;rw[ji hgy,hfx.seq];rfl
     |true=>
      rw[iB hgy,l6 hyk]at hvy;rcases D1 hyk hvy with⟨rfl,hall⟩|⟨d,fy,zy,hfy⟩
      ·refine⟨sy.new h' zx,by rw[hxs,hfx.veq],?_⟩;rw[iB hgy,l6 hyk,hall,hfx.seq];rfl
      ·refine⟨s.new h' zx,?_,?_⟩
       ·rw[hxs,hfx.veq,hfy.seq,yT hne,xl]
       ·rw[iB hgy,l6 hyk,hfy.more,hfx.seq,hfy.veq,yT (Ne.symm hne)];rw[Gh hfy.there,hfy.seq];simp only[ke];rw[QI (Ne.symm hne)]
def RecLe (rec:cL→St→Option Res):Prop:=∀f args s v s',rec (.f f args) s=some (.v v s')→Le s s'
theorem Km (hL:RecLe rec) {ρ:Env}{s s':St}{v:V}{o:Op'}(h:ax rec base ρ s o=some (v,s')):Le s s':=by
 cases o with
 |call f l=>
  simp only[ax]at h;split at h
  ·split at h
   ·rename_i hx;simp only[Zg,Zk]at h;rw[←h.2];exact hL _ _ _ _ _ hx
   ·cases h
  ·cases h
 |pcall f l=>
  simp only[ax]at h;split at h
  ·split at h
   ·split at h
    ·split at h
     ·simp only[Zg,Zk]at h;rw[←h.2];exact .refl _
     ·cases h
    ·cases h
   ·cases h
  ·cases h
 |callw f l w=>
  simp only[ax]at h;split at h
  ·split at h
   ·split at h
    ·rename_i hx;simp only[Zg,Zk]at h;rw[←h.2];exact hL _ _ _ _ _ hx
    ·cases h
   ·cases h
  ·cases h
 |callk p f l=>
  simp only[ax]at h;split at h
  ·split at h
   ·split at h
    ·rename_i hx;split at h
     ·simp only[Zg,Zk]at h;rw[←h.2];exact⟨Nat.le_refl _,(hL _ _ _ _ _ hx).2⟩
     ·cases h
    ·cases h
   ·cases h
  ·cases h
 |_=>simp only[ax]at h;exact HN h
theorem WS {D:Nat→Option Fc}:∀n t s r,ev D n t s=some r→Le s r.stt:=by
 intro n
 induction n with
 |zero=>intro t s r h;cases h
 |succ n ih=>
  have hL:RecLe (ev D n):=fun f args s v s' h=>ih _ _ _ h;intro t s r h;simp only[ev]at h;cases t with
  |c base c ρ=>
   cases c with
   |loop keep b=>
    simp only[step]at h;split at h
    ·rename_i hx;split at h
     ·rename_i hsc;have h1:=ih _ _ _ hx;have h2:=ih _ _ _ h;simp only[kB,Zj,Zi]at hsc;simp only[Res.stt,Le]at h1 h2⊢;refine⟨?_,by omega⟩;simp only[List.length_take]at h2;omega
     ·cases h
    ·rename_i hx;simp only[Zg]at h;subst h;have h1:=ih _ _ _ hx;exact h1
    ·cases h
   |seq a b=>
    simp only[step]at h;split at h
    ·rename_i hx;have h1:=ih _ _ _ hx;exact Le.trans h1 (ih _ _ _ h)
    ·rename_i hx;simp only[Zg]at h;subst h;have h1:=ih _ _ _ hx;exact h1
    ·cases h
   |cond x a b=>
    simp only[step]at h;split at h
    ·split at h
     ·exact ih _ _ _ h
     ·exact ih _ _ _ h
    ·cases h
   |_=>
    simp only[step]at h
    repeat' split at h
    all_goals first
     |cases h;done
     |(simp only[Zg]at h;subst h;first|exact .refl _|(have hx:=ih _ _ _ ‹ev D n _ _=some _›;exact hx))
  |o base l ρ=>
   simp only[step]at h;cases l with
   |nil=>simp only[Zg]at h;subst h;exact .refl _
   |cons op rest=>
    simp only at h;split at h
    ·cases h
    ·exact ih _ _ _ h
    ·split at h
     ·rename_i hx;exact(Km hL hx).trans (ih _ _ _ h)
     ·cases h
  |f f args=>
   simp only[step]at h;split at h
   ·cases h
   ·split at h
    ·split at h
     ·rename_i hx;split at h
      ·cases h
      ·split at h
       ·split at h
        ·rename_i hl;simp only[Zg]at h;subst h;have h1:=ih _ _ _ hx;simp only[Res.stt,Le]at h1⊢;refine⟨?_,h1.2⟩;simp only[List.length_take];omega
        ·cases h
       ·cases h
     ·cases h
    ·cases h
theorem recLe {D:Nat→Option Fc}(n:Nat):RecLe (ev D n):=fun _ _ _ _ _ h=>WS n _ _ _ h
theorem QL (hL:RecLe rec) {o:Op}{x y:Env×St}(h:aF rec base o x=some y):Le x.2 y.2:=by
 unfold aF aB at h;cases hg:aZ o.guard x.1 with
 |none=>rw[hg]at h;cases h
 |some b=>
  rw[hg]at h;cases b with
  |false=>simp only[Zg]at h;rw[←h];exact .refl _
  |true=>
   simp only at h;cases hr:ax rec base x.1 x.2 o.op with
   |none=>rw[hr]at h;cases h
   |some q=>rw[hr]at h;simp only[Zg]at h;rw[←h];exact Km hL hr
theorem Le.at {s s':St}(h:Le s s') {a:Loc}(ha:(s.at a).isSome=true):(s'.at a).isSome=true:=by
 cases a with
 |loc i=>simp only[St.at,iA]at ha⊢;have:=h.1;omega
 |hp i=>simp only[St.at,iA]at ha⊢;have:=h.2;omega
theorem Ud {o:Op'}{q:Opd}(h:ptrOf o=some q):q∈ag o:=by
 cases o<;>simp only[ptrOf,Zg]at h<;>first|(subst h;simp[ag];done)|cases h
theorem Is {y x:Op}(ha:lZ y x=true) {p p1:Env×St}(hl:Le p.2 p1.2) (hold:AC x p) (hy:aF rec base y p=some p1):AC x p1:=by
 intro q hq a pa t hqe;refine hl.at (hold q hq a pa t ?_);rw[←hqe];unfold aF at hy;cases hv:aB rec base y p.1 p.2 with
 |none=>rw[hv]at hy;cases hy
 |some z=>
  rw[hv]at hy;simp only[Zg]at hy;subst hy;cases q with
  |k _=>rfl
  |t n=>
   have hm:=Ud hq;simp only[lZ,Zj]at ha;have hb:=ha.1.2;cases hd:y.dst with
   |none=>rfl
   |some d=>
    rw[hd]at hb;simp only[clear,Bool.not_eq_true',List.contains_eq_mem,decide_eq_false_iff_not]at hb;have hne:n≠d:=by rintro rfl;exact hb (by simp only[BN,List.mem_append,List.mem_filterMap];exact .inr ⟨_,hm,rfl⟩)
    simp only[Opd.ev,put,get];rw[if_neg (fun e=>hne e.symm)]
theorem old_of {T:Tab}{B0:Nat}{B:BM}{ρ:Env}{s:St}{tmps:Array Value}{w:World}(he:ER T B ρ tmps) (hs:SR T B0 B s w) (x:Op) (hx:∀q,ptrOf x.op=some q→∀v,q≠ .k v):AC x (ρ,s):=by
 intro q hq a pa t hqe;cases q with
 |k v=>exact absurd rfl (hx _ hq v)
 |t n=>
  have hv:=he n;simp only[Opd.ev]at hqe;rw[hqe]at hv;obtain⟨ad,r,o,h1,_⟩:=ff.1 hv;cases a with
  |loc i=>
   have:=(List.getElem?_eq_some_iff.1 (show B.loc[i]?=some _ from h1)).1
   simp only[St.at,iA];rw[←hs.lenL];exact this
  |hp i=>
   have:=(List.getElem?_eq_some_iff.1 (show B.hp[i]?=some _ from h1)).1
   simp only[St.at,iA];rw[←hs.lenH];exact this
theorem Kj (hL:RecLe rec) {x:Op}:∀{l1 l2:List Op}{p r:Env×St},(∀y∈l1,stepXB y x=true)→AC x p→evl rec base (l1++x::l2) p=some r→∃q r',aF rec base x p=some q∧evl rec base (l1++l2) q=some r'∧bB r.1 r'.1∧r.2=r'.2
 |[],l2,p,r,_,_,h=>by
  simp only[List.nil_append,evl]at h⊢;cases hq:aF rec base x p with
  |none=>rw[hq]at h;cases h
  |some q=>rw[hq]at h;exact⟨q,r,rfl,h,.refl _,rfl⟩
 |y::l1,l2,p,r,hc,hold,h=>by
  simp only[List.cons_append,evl]at h;cases hy:aF rec base y p with
  |none=>rw[hy]at h;cases h
  |some p1=>
   rw[hy]at h;have hcy:=hc y List.mem_cons_self;obtain⟨q,r',h1,h2,h3,h4⟩:=Kj hL (fun z hz=>hc z (List.mem_cons_of_mem _ hz)) (Is (yP hcy) (QL hL hy) hold hy) h;obtain⟨q1,q2,k1,k2,k3,k4⟩:=Rw hcy hold hy h1;obtain⟨r2,m1,m2,m3⟩:=Bv k3 k4 h2;exact⟨q1,r2,k1,by simp only[List.cons_append,evl,k2];exact m1,h3.trans m2,h4.trans m3⟩
def PassOk (x:Op) (l1 l2:List Op):Prop:=∀a y b,l1=a++y::b→stepXB y x=true∨(swB y x=true∧∀o∈y::b++x::l2,eqB o=true)
theorem J0 {x:Op}:∀{l1 l2:List Op}{p r:Env×St},PassOk x l1 l2→(∀o∈l1,aheadB o=true)→AC x p→Cl p.1 p.2→base≤p.2.loc.length→evl rec base (l1++x::l2) p=some r→
 ∃q r',aF rec base x p=some q∧evl rec base (l1++l2) q=some r'∧Rel base p.2 r r'
 |[],l2,p,r,_,_,_,_,_,h=>by
  simp only[List.nil_append,evl]at h⊢;cases hq:aF rec base x p with
  |none=>rw[hq]at h;cases h
  |some q=>rw[hq]at h;exact⟨q,r,rfl,h,.same (.refl _) rfl⟩
 |y::l1,l2,p,r,hc,he,hold,hcl,hb,h=>by
  simp only[List.cons_append,evl]at h;cases hy:aF rec base y p with
  |none=>rw[hy]at h;cases h
  |some p1=>
   rw[hy]at h;have hay:=he y List.mem_cons_self;obtain⟨q,r',h1,h2,h3⟩:=J0 (fun a z b hz=>hc (y::a) z b (by rw[hz];rfl)) (fun o ho=>he o (List.mem_cons_of_mem _ ho)) (Is ((hc [] y l1 rfl).elim yP (fun h=>by have:=h.1;simp only[swB,Zj]at this;exact this.1)) (Bb hay hy) hold hy) (ON hay hb hcl hy) (Nat.le_trans hb (Bb hay hy).1) h;have h3':=h3.low (Bb hay hy);have fin:∀{q1 q2:Env×St},aF rec base x p=some q1→aF rec base y q1=some q2→bB q.1 q2.1→q.2=q2.2→∃q r',aF rec base x p=some q∧evl rec base (y::l1++l2) q=some r'∧Rel base p.2 r r':=by intro q1 q2 k1 k2 k3 k4;obtain⟨r2,m1,m2,m3⟩:=Bv k3 k4 h2;exact⟨q1,r2,k1,by simp only[List.cons_append,evl,k2];exact m1,h3'.snoc m2 m3⟩
   rcases hc [] y l1 rfl with hcm|⟨hsw,hall⟩
   ·obtain⟨q1,q2,k1,k2,k3,k4⟩:=Rw hcm hold hy h1;exact fin k1 k2 k3 k4
   ·have hey:=hall y (by simp);have hex:=hall x (by simp);have hrest:∀o∈l1++l2,eqB o=true:=fun o ho=>hall o (by
     rcases List.mem_append.1 ho with h|h
     ·simp[h]
     ·simp[h])
    simp only[eqB,Zj]at hey hex;obtain⟨q1,q2,k1,k2,k3⟩:=Wp hsw hey.2 hex.2 hcl hb hy h1;rcases k3 with⟨k3,k4⟩|⟨F,hOk,f1,f2,f3,f4⟩
    ·exact fin k1 k2 k3 k4
    ·obtain⟨r2,m1,m2,m3,_⟩:=LB hOk hrest f2 f3 f4 h2;have hr:F.i+1<F.n r'.2:=by obtain⟨_,_,_,_,g⟩:=LB hOk hrest f2 f3 f4 h2;exact g
     exact⟨q1,r2,k1,by simp only[List.cons_append,evl,k2];exact m1,.step F h3' f1 hr m2 m3⟩
theorem bubble3 (hL:RecLe rec) {x:Op}{l1 l2:List Op}{p r:Env×St}(hc:(∀y∈l1,stepXB y x=true)∨(PassOk x l1 l2∧∀o∈l1,aheadB o=true)) (hold:AC x p) (hcl:Cl p.1 p.2) (hb:base≤p.2.loc.length) (h:evl rec base (l1++x::l2) p=some r):
 ∃q r',aF rec base x p=some q∧evl rec base (l1++l2) q=some r'∧Rel base p.2 r r':=by
 rcases hc with hc|⟨hc,he⟩
 ·obtain⟨q,r',h1,h2,h3,h4⟩:=Kj hL hc hold h;exact⟨q,r',h1,h2,.same h3 h4⟩
 ·exact J0 hc he hold hcl hb h
theorem Rel.back {c:Cfg}{B0 base nt:Nat}{B:BM}{s0:St}{a:Act}{w:World}(hS:SR c.T B0 B s0 w) (hbase:base≤s0.loc.length) {r r':Env×St}(h:Rel base s0 r r'):
 ∀{B':BM}{a':Act}{w':World},Aft c B0 base B s0 w a nt r'.1 r'.2 B' a' w'→∃B'',Aft c B0 base B s0 w a nt r.1 r.2 B'' a' w':=by
 induction h with
 |same h1 h2=>
  intro B' a' w' ha;exact⟨B',ha.df,ha.er.same h1.symm,by rw[h2];exact ha.st,ha.nt⟩
 | @step r1 r2 F _ hn hi hρ hs ih=>
  intro B' a' w' ha;have hnn:F.n r2.2=F.n r1.2:=by rw[←hs];unfold Swp.n Swp.s;split<;>simp[mc]
  have hI1:F.In r1.2:=by unfold Swp.In;omega
  have hI2:F.In r2.2:=by unfold Swp.In;omega
  have h2:=Xo hS hbase ha hI2 hn;have e1:bB (F.e r2.1) r1.1:=fun t=>by rw[uJ,←hρ t];exact Py _
  have e2:F.s r2.2=r1.2:=by rw[←hs];exact Yb hI1
  rw[e2]at h2;exact ih ⟨h2.df,h2.er.same e1,h2.st,h2.nt⟩
end sw
end Go.Ab.Sw
namespace Go.Ab
def l7 (q:Oper):List Nat:=q.after.toList.filterMap fun e=>if Region.binds .any e then some e.on else none
theorem yh {q:Oper}{d:Nat}:d∈l7 q↔∃e∈q.after,Region.binds .any e=true∧e.on=d:=by
 unfold l7;rw[List.mem_filterMap];constructor
 ·rintro⟨e,he,h⟩;split at h
  ·rename_i hb;exact⟨e,by simpa using he,hb,by simpa using h⟩
  ·cases h
 ·rintro⟨e,he,hb,rfl⟩;exact⟨e,by simpa using he,by rw[if_pos hb]⟩
def nub (l:List Nat):List Nat:=l.foldl (fun acc x=>if acc.contains x then acc else x::acc) []
def mkR:List Oper→List (List Nat)→List (List Nat)
 |[],acc=>acc
 |q::m,acc=>mkR m (acc++[nub (l7 q++(l7 q).flatMap fun d=>acc.getD d [])])
def Fy (l:List Op) (es:List (List Nat)) (R:List (List Nat)) (j:Nat):Bool:=
 (match Sw.ptrOf (l.getD j default).op with|some (.k _)=>false|_=>true)&&(es.getD j []).all (fun d=>decide (d<j))&&(R.getD j []).all (fun i=>(es.getD j []).contains i||(es.getD j []).any fun d=>(R.getD d []).contains i)&&
  (List.range j).all fun i=>(R.getD j []).contains i||Sw.stepXB (l.getD i default) (l.getD j default)||(Sw.swB (l.getD i default) (l.getD j default)&&(l.drop i).all Sw.eqB&&l.all Sw.aheadB)
def tp (l:List Op) (qs:List Oper):Bool:=
 decide (l.length=qs.length)&&(List.range l.length).all (Fy l (qs.map l7) (mkR qs []))
structure Row (l:List Op) (es R:List (List Nat)) (j:Nat):Prop where
 ptr:∀q,Sw.ptrOf (l.getD j default).op=some q→∀v,q≠ .k v
 back:∀d∈es.getD j [],d<j
 chain:∀i∈R.getD j [],i∈es.getD j []∨∃d∈es.getD j [],i∈R.getD d []
 com:∀i,i<j→i∉R.getD j []→Sw.stepXB (l.getD i default) (l.getD j default)=true∨(Sw.swB (l.getD i default) (l.getD j default)=true∧(∀o∈l.drop i,Sw.eqB o=true)∧∀o∈l,Sw.aheadB o=true)
theorem U1 {l:List Op}{es R:List (List Nat)}{j:Nat}(h:Fy l es R j=true):Row l es R j:=by
 unfold Fy at h;simp only[Zj,List.all_eq_true,Zi,Bool.or_eq_true,List.contains_eq_mem,List.any_eq_true,List.mem_range]at h;refine⟨fun q hq v hv=> ?_,h.1.1.2,h.1.2,fun i hi hn=> ?_⟩
 ·have:=h.1.1.1;rw[hq,hv]at this;cases this
 rcases h.2 i hi with(h1|h1)|h1
 ·exact absurd h1 hn
 ·exact .inl h1
 ·exact .inr ⟨h1.1.1,h1.1.2,h1.2⟩
section drawn
variable {c : Cfg} (hT : aR c.T = true) (hm : kr c = true) {rec : cL → St → Option Res} (hR : DO c rec)
 {l:List Op}{qs:Array Oper}{nt:Nat}
theorem El {c:Cfg}{all:Array Oper}{nt:Nat}:∀{l:List Op}{m:List Oper}{j:Nat}{q:Oper},rA c all nt l m=true→m[j]?=some q→Fo c all nt (l.getD j default) q=true
 |[],[],j,q,_,h=>by simp at h
 |o::l,p::m,0,q,hk,h=>by simp only[rA,Zj]at hk;simp only[List.getElem?_cons_zero,Zg]at h;subst h;exact hk.1
 |o::l,p::m,j+1,q,hk,h=>by simp only[rA,Zj]at hk;simp only[List.getElem?_cons_succ]at h;have:=El hk.2 h;simpa using this
 |[],_::_,_,_,hk,_=>by cases hk
 |_::_,[],_,_,hk,_=>by cases hk
theorem LC {l:List Op}{es R:List (List Nat)}{n:Nat}(hrow:∀j,j<n→Row l es R j) {rem:List Nat}(hcl:∀j,j<n→j∉rem→∀d∈es.getD j [],d∉rem):
 ∀j,j<n→(∀d∈es.getD j [],d∉rem)→∀i∈R.getD j [],i∉rem:=by
 intro j
 induction j using Nat.strongRecOn with
 |_ j ih=>
  intro hj hd i hi;rcases(hrow j hj).chain i hi with h|⟨d,h1,h2⟩
  ·exact hd i h
  ·have hdj:=(hrow j hj).back d h1;exact ih d hdj (by omega) (hcl d (by omega) (hd d h1)) i h2
include hT hm hR in
theorem Sl (hL:Sw.RecLe rec) {base B0:Nat}{Q:Exit→Act→World→Prop}(hok:rA c qs nt l qs.toList=true) (hord:tp l qs.toList=true):∀(fuel:Nat) (rem:List Nat) (listed:Array Bool) {B:BM}{ρ ρ':Env}{s s':St}{a:Act}{w:World},
 rem.length≤fuel→rem.Pairwise (·<·)→(∀i∈rem,i<qs.size)→listed.size=qs.size→(∀i,listed.getD i true=false↔i∈rem)→(∀j,j<qs.size→j∉rem→∀d∈l7 (qs.getD j default),d∉rem)→
 Sim c B0 base B ρ s nt a w→evl rec base (rem.map fun i=>l.getD i default) (ρ,s)=some (ρ',s')→(∀a' w' B',Aft c B0 base B s w a nt ρ' s' B' a' w'→Q .normal a' w')→wpAny c.P .any qs Q fuel listed a w:=by
 simp only[tp,Zj,Zi,List.all_eq_true,List.mem_range]at hord;obtain⟨hlen,hrows⟩:=hord;have hlen':l.length=qs.size:=by simpa using hlen
 have hrow:∀j,j<qs.size→Row l (qs.toList.map l7) (mkR qs.toList []) j:=fun j hj=>U1 (hrows j (by omega));have hes:∀j,j<qs.size→(qs.toList.map l7).getD j []=l7 (qs.getD j default):=by intro j hj;simp[List.getD_eq_getElem?_getD,Array.getD_eq_getD_getElem?,hj]
 intro fuel
 induction fuel with
 |zero=>
  intro rem listed B ρ ρ' s s' a w hf _ _ _ hli _ h he hQ;have hr:rem=[]:=by cases rem<;>simp_all
  subst hr;simp only[List.map_nil,evl,Zg,Zk]at he;obtain⟨rfl,rfl⟩:=he;refine⟨?_,hQ a w B ⟨rfl,h.er,.refl h.sr,h.nt⟩⟩;apply List.eq_nil_iff_forall_not_mem.2;intro i hi;have:=(hli i).1 (mem_ready.1 hi).1;cases this
 |succ fuel ih=>
  intro rem listed B ρ ρ' s s' a w hf hs hlt hsz hli hcl h he hQ;have hli':∀i,listed.getD i false=true→i∉rem:=by
   intro i hi hm;have h1:=(hli i).2 hm;simp only[Array.getD_eq_getD_getElem?]at hi h1;cases hx:listed[i]? with
   |none=>rw[hx]at hi;cases hi
   |some b=>rw[hx]at hi h1;simp only[Option.getD_some]at hi h1;rw[hi]at h1;cases h1
  have hli2:∀i,i<qs.size→i∉rem→listed.getD i false=true:=by intro i hi hn;have h1:¬listed.getD i true=false:=fun e=>hn ((hli i).1 e);simp only[Array.getD_eq_getD_getElem?]at h1⊢;rw[Array.getElem?_eq_getElem (by omega)]at h1⊢;simpa using h1
  refine⟨fun hnil=> ?_,fun j hj=> ?_⟩
  ·cases rem with
   |nil=>
    simp only[List.map_nil,evl,Zg,Zk]at he;obtain⟨rfl,rfl⟩:=he;exact hQ a w B ⟨rfl,h.er,.refl h.sr,h.nt⟩
   |cons i rest=>
    exfalso;have hi:=hlt i List.mem_cons_self;have:i∈Region.ready .any qs listed:=by
     refine mem_ready.2 ⟨(hli i).2 List.mem_cons_self,qs[i],by simp[hi],fun e he1 hb=>hli2 _ ?_ ?_⟩
     ·have:=(hrow i hi).back e.on (by rw[hes i hi];exact yh.2 ⟨e,by simpa[hi]using he1,hb,rfl⟩);omega
     ·have hlt2:=(hrow i hi).back e.on (by rw[hes i hi];exact yh.2 ⟨e,by simpa[hi]using he1,hb,rfl⟩);intro hmem;rcases List.mem_cons.1 hmem with h1|h1
      ·omega
      ·have:=(List.pairwise_cons.1 hs).1 _ h1;omega
    rw[hnil]at this;cases this
  ·obtain⟨hj1,q,hjq,hj2⟩:=mem_ready.1 hj;have hjr:=(hli j).1 hj1;have hjn:=hlt j hjr;have hqd:qs.getD j default=q:=by simp[Array.getD_eq_getD_getElem?,hjq]
   have hedge:∀d∈(qs.toList.map l7).getD j [],d∉rem:=by intro d hd;rw[hes j hjn,hqd]at hd;obtain⟨e,h1,h2,h3⟩:=yh.1 hd;rw[←h3];exact hli' _ (hj2 e h1 h2)
   have hrd:=LC hrow (rem:=rem) (fun k hk hkn d hd=>hcl k hk hkn d (by rw[←hes k hk];exact hd)) j hjn hedge;obtain⟨l1,l2,hl⟩:=List.append_of_mem hjr;subst hl;have hcomm0:∀i∈l1,Sw.stepXB (l.getD i default) (l.getD j default)=true∨(Sw.swB (l.getD i default) (l.getD j default)=true∧(∀o∈l.drop i,Sw.eqB o=true)∧∀o∈l,Sw.aheadB o=true):=by
    intro i hi;have hij:i<j:=by rw[List.pairwise_append]at hs;exact hs.2.2 i hi j List.mem_cons_self
    exact(hrow j hjn).com i hij (fun hin=>hrd i hin (List.mem_append_left _ hi))
   rw[List.map_append,List.map_cons]at he;have hmem:∀i,i∈l1++j::l2→l.getD i default∈l:=by intro i hi;have:=hlt i hi;rw[List.getD_eq_getElem?_getD,List.getElem?_eq_getElem (by omega),Option.getD_some];exact List.getElem_mem _
   have hcomm:(∀y∈(l1.map fun i=>l.getD i default),Sw.stepXB y (l.getD j default)=true)∨(Sw.PassOk (l.getD j default) (l1.map fun i=>l.getD i default) (l2.map fun i=>l.getD i default)∧∀o∈(l1.map fun i=>l.getD i default),Sw.aheadB o=true):=by
    by_cases hall:∀o∈l,Sw.aheadB o=true
    ·right;constructor
     ·intro a y b hab;obtain⟨a',b',hl1,rfl,hb'⟩:=List.map_eq_append_iff.1 hab;cases b' with
      |nil=>simp at hb'
      |cons i b'=>
       simp only[List.map_cons,List.cons.injEq]at hb';obtain⟨rfl,rfl⟩:=hb';have hi:i∈l1:=by rw[hl1];simp
       refine(hcomm0 i hi).imp id (fun h=>⟨h.1,?_⟩);have hdrop:∀k,i≤k→k∈l1++j::l2→Sw.eqB (l.getD k default)=true:=by intro k hik hk;have hkl:=hlt k hk;refine h.2.1 _ ?_;rw[List.getD_eq_getElem?_getD,List.getElem?_eq_getElem (by omega),Option.getD_some,List.mem_iff_getElem?];exact⟨k-i,by rw[List.getElem?_drop,show i+(k-i)=k by omega,List.getElem?_eq_getElem (by omega)]⟩
       have hord:∀k∈b'++j::l2,i<k:=by intro k hk;rw[hl1,List.append_assoc,List.pairwise_append]at hs;have:=(List.pairwise_cons.1 hs.2.1).1 k;exact this (by simpa using hk)
       intro o ho;rcases List.mem_append.1 ho with h1|h1
       ·rcases List.mem_cons.1 h1 with rfl|h1
        ·exact hdrop i (Nat.le_refl _) (List.mem_append_left _ hi)
        ·obtain⟨k,hk,rfl⟩:=List.mem_map.1 h1;exact hdrop k (Nat.le_of_lt (hord k (by simp[hk]))) (by rw[hl1];simp[hk])
       ·rcases List.mem_cons.1 h1 with rfl|h1
        ·exact hdrop j (Nat.le_of_lt (hord j (by simp))) (by simp)
        ·obtain⟨k,hk,rfl⟩:=List.mem_map.1 h1;exact hdrop k (Nat.le_of_lt (hord k (by simp[hk]))) (by simp[hk])
     ·intro o ho;obtain⟨i,hi,rfl⟩:=List.mem_map.1 ho;exact hall _ (hmem i (List.mem_append_left _ hi))
    ·left;intro y hy;obtain⟨i,hi,rfl⟩:=List.mem_map.1 hy;exact(hcomm0 i hi).resolve_right (fun h=>hall h.2.2)
   obtain⟨⟨ρ1,s1⟩,⟨ρ2,s2⟩,e1,e2,e3⟩:=Sw.bubble3 hL hcomm (Sw.old_of h.er h.sr _ (hrow j hjn).ptr) (Sw.cl_of h.er h.sr) h.hb he;have hone:=J1 hT hm hR h (all:=qs) (Q:=Q) (El hok (j:=j) (by simpa using hjq)) e1 (K:=wpAny c.P .any qs Q fuel (listed.setIfInBounds j true)) (fun a' w' B' ha=>by
    refine ih (l1++l2) (listed.setIfInBounds j true) ?_ ?_ ?_ ?_ ?_ ?_ (ha.sim h) (by rw[List.map_append];exact e2) (fun a2 w2 B2 ha2=>by obtain⟨B3,h3⟩:=e3.back h.sr h.hb (ha.trans ha2);exact hQ a2 w2 B3 h3)
    ·simp only[List.length_append,List.length_cons]at hf⊢;omega
    ·rw[List.pairwise_append]at hs⊢;exact⟨hs.1,(List.pairwise_cons.1 hs.2.1).2,fun x hx y hy=>hs.2.2 x hx y (List.mem_cons_of_mem _ hy)⟩
    ·intro i hi;refine hlt i ?_;rcases List.mem_append.1 hi with h1|h1
     ·exact List.mem_append_left _ h1
     ·exact List.mem_append_right _ (List.mem_cons_of_mem _ h1)
    ·simpa using hsz
    ·intro i;by_cases hij:j=i
     ·subst hij;constructor
      ·intro hx;simp[Array.getD_eq_getD_getElem?,show j<listed.size by omega]at hx
      ·intro hx;exfalso;rw[List.pairwise_append]at hs;rcases List.mem_append.1 hx with h1|h1
       ·have:=hs.2.2 j h1 j List.mem_cons_self;omega
       ·have:=(List.pairwise_cons.1 hs.2.1).1 j h1;omega
     ·rw[getD_set_ne true hij,hli i,List.mem_append,List.mem_append,List.mem_cons];constructor
      ·rintro(h1|h1|h1)
       ·exact .inl h1
       ·exact absurd h1.symm hij
       ·exact .inr h1
      ·rintro(h1|h1)
       ·exact .inl h1
       ·exact .inr (.inr h1)
    ·intro k hk hkn d hd hdm;have hdm':d∈l1++j::l2:=by
      rcases List.mem_append.1 hdm with h1|h1
      ·exact List.mem_append_left _ h1
      ·exact List.mem_append_right _ (List.mem_cons_of_mem _ h1)
     by_cases hkj:k=j
     ·subst hkj;exact hedge d (by rw[hes k hk];exact hd) hdm'
     ·refine hcl k hk (fun hkm=>hkn ?_) d hd hdm';rcases List.mem_append.1 hkm with h1|h1
      ·exact List.mem_append_left _ h1
      ·rcases List.mem_cons.1 h1 with h2|h2
       ·exact absurd h2 hkj
       ·exact List.mem_append_right _ h2)
   unfold wpOp;rw[hjq];exact hone
include hT hm hR in
theorem Eh (hL:Sw.RecLe rec) {base B0 id:Nat}{Q:Exit→Act→World→Prop}(hP:c.P.follows .mixedOrders=true) (hok:rA c qs nt l qs.toList=true) (hord:tp l qs.toList=true) {B:BM}{ρ ρ':Env}{s s':St}{a:Act}{w:World}
 (h:Sim c B0 base B ρ s nt a w) (he:evl rec base l (ρ,s)=some (ρ',s')) (hQ:∀a' w' B',Aft c B0 base B s w a nt ρ' s' B' a' w'→Q .normal a' w'):(Code.region id qs true).wp c.P Q a w:=by
 refine wp_region_any hP ?_;have hlen:l.length=qs.size:=by simp only[tp,Zj,Zi]at hord;simpa using hord.1
 have hd:=Stp.drawn (base:=base) h.sr (w.drawn+1);have hmap:((List.range qs.size).map fun i=>l.getD i default)=l:=by
  rw[←hlen];apply List.ext_getElem?;intro i;simp only[List.getElem?_map];by_cases hi:i<l.length
  ·simp[List.getD_eq_getElem?_getD,hi]
  ·rw[List.getElem?_eq_none (by simpa using hi),List.getElem?_eq_none (by omega)];rfl
 refine Sl hT hm hR hL hok hord qs.size (List.range qs.size) (Array.replicate qs.size false) (by simp) List.pairwise_lt_range (fun i hi=>List.mem_range.1 hi) (by simp) (fun i=> ?_) (fun j hj hn=>absurd (List.mem_range.2 hj) hn) (B:=B) (ρ:=ρ) (s:=s)
  ⟨h.er,h.gr,hd.sr,h.hb,h.h0,h.lv,h.nt⟩ (by rw[hmap];exact he) (fun a' w' B' ha=>hQ a' w' B' ⟨ha.df,ha.er,hd.trans ha.st,ha.nt⟩)
 rw[List.mem_range];by_cases hi:i<qs.size
 ·simp[Array.getD_eq_getD_getElem?,hi]
 ·simp[Array.getD_eq_getD_getElem?,hi]
end drawn
def far:Nat:=1000000
def nD:C→List Nat
 | .seq a b=>nD a++nD b
 | .cond _ a b=>nD a++nD b
 | .block id b=>(nD b).filter (fun j=>decide (j≠id))
 | .loop _ b=>nD b
 | .scope b=>nD b
 | .exit id=>if far≤id then[id]else[]
 |_=>[]
theorem kM {D:Nat→Option Fc}:∀(n:Nat) {cc:C}{base id:Nat}{ρ ρ':Env}{s s':St},ev D n (.c base cc ρ) s=some (.c (.exit id) ρ' s')→far≤id→id∈nD cc
 |0,_,_,_,_,_,_,_,h,_=>by cases h
 |n+1,cc,base,id,ρ,ρ',s,s',h,hf=>by
  cases cc with
  |skip=>simp only[ev,step,Zg,Res.c.injEq]at h;cases h.1
  |label _=>simp only[ev,step,Zg,Res.c.injEq]at h;cases h.1
  |ret=>simp only[ev,step,Zg,Res.c.injEq]at h;cases h.1
  |exit j=>
   simp only[ev,step,Zg,Res.c.injEq,Ex.exit.injEq]at h;obtain⟨rfl,_⟩:=h;simp only[nD,if_pos hf,List.mem_singleton]
  |reg keep ops=>
   simp only[ev,step]at h;split at h
   ·simp only[Zg,Res.c.injEq]at h;cases h.1
   ·cases h
  |regd keep ops=>
   simp only[ev,step]at h;split at h
   ·simp only[Zg,Res.c.injEq]at h;cases h.1
   ·cases h
  |seq a b=>
   simp only[ev,step]at h;simp only[nD,List.mem_append];split at h
   ·exact .inr (kM n h hf)
   ·rename_i e hx;simp only[Zg,Res.c.injEq]at h;obtain⟨rfl,rfl,rfl⟩:=h;exact .inl (kM n hx hf)
   ·cases h
  |cond x a b=>
   simp only[ev,step]at h;simp only[nD,List.mem_append];split at h
   ·split at h
    ·exact .inl (kM n h hf)
    ·exact .inr (kM n h hf)
   ·cases h
  |block j b=>
   simp only[ev,step]at h;simp only[nD,List.mem_filter,Zi];cases hx:ev D n (.c base b ρ) s with
   |none=>rw[hx]at h;cases h
   |some r=>
    rw[hx]at h;cases r with
    |c e1 ρ1 s1=>
     cases e1 with
     |normal=>simp only[Zg,Res.c.injEq]at h;cases h.1
     |ret=>simp only[Zg,Res.c.injEq]at h;cases h.1
     |exit i1=>
      simp only[Zg,Res.c.injEq]at h;obtain⟨h1,rfl,rfl⟩:=h;split at h1
      ·cases h1
      ·rename_i hne;simp only[Ex.exit.injEq]at h1;subst h1;exact⟨kM n hx hf,hne⟩
    |o _ _=>cases h
    |v _ _=>cases h
  |scope b=>
   simp only[ev,step]at h;show id∈nD b;split at h
   ·rename_i hx;simp only[Zg,Res.c.injEq]at h;obtain⟨rfl,rfl,rfl⟩:=h;exact kM n hx hf
   ·cases h
  |loop keep b=>
   simp only[ev,step]at h;split at h
   ·split at h
    ·exact kM (cc:= .loop keep b) n h hf
    ·cases h
   ·rename_i hx;simp only[Zg,Res.c.injEq]at h;obtain⟨rfl,rfl,rfl⟩:=h;exact kM (cc:=b) n hx hf
   ·cases h
mutual
def dw (c:Cfg) (nt:Nat):C→Code→Bool
 | .skip,.skip=>true
 | .reg _ ops,.region _ qs d=>rA c qs nt ops qs.toList&&(!d||tp ops qs.toList)
 | .regd _ ops,.region _ qs d=>rA c qs nt ops qs.toList&&(!d||tp ops qs.toList)
 | .seq a b,.seq a' b'=>dw c nt a a'&&dw c nt b b'
 | .cond x a b,.cond y a' b'=>aJ c.gl x y&&dw c nt a a'&&dw c nt b b'
 | .block id b,.block id' b'=>decide (id=id')&&decide (id<far)&&dw c nt b b'
 | .loop _ b,.loop b'=>dw c nt b b'
 | .exit id,.exit id'=>decide (id=id')&&decide (id<far)
 | .exit id,.goto l=>decide (id=far+l)
 | .scope b,.scope b'=>(dw c nt b b'&&(nD b).isEmpty)||(match b with
  | .seq (.block j x) y=>decide (far≤j)&&(nD x).all (fun i=>decide (i=j))&&(nD y).isEmpty&&ms c nt (j-far) x y b'
  |_=>false)
 | .label _,.label _=>true
 | .ret,.ret=>true
 |_,_=>false
def ms (c:Cfg) (nt l:Nat):C→C→Code→Bool
 | .skip,y,.seq (.label l') y'=>decide (l'=l)&&dw c nt y y'
 | .seq x1 x2,y,.seq z w=>(findLabel z l).isNone&&dw c nt x1 z&&ms c nt l x2 y w
 |_,_,_=>false
end
def Lx (c:Cfg):RV→ResultVar→Bool
 | .t n,.tmp m=>decide (n=m)
 | .cell n q,.cell m ty=>decide (n=m)&&decide (tg c.tm ty=some q)
 |_,_=>false
def BV (c:Cfg):List RV→List ResultVar→Bool
 |[],[]=>true
 |r::l,q::m=>Lx c r q&&BV c l m
 |_,_=>false
def K6 (c:Cfg) (g:Nat) (fc:Fc):Bool:=
 match c.P.funcs[g]? with
 | some fn => (fn.name != "runtime.NumGoroutine") && BV c fc.res fn.results.toList && (match fn.body with
  |some b=>dw c fn.ntmps fc.body b
  |none=>false)
 |none=>false
def ym:Ex→Exit
 | .normal=> .normal
 | .exit id=>if id<far then .exit id else .goto (id-far)
 | .ret=> .ret
theorem mN (id:Nat):(id<far∧ym (.exit id)= .exit id)∨(far≤id∧ym (.exit id)= .goto (id-far)):=by
 unfold ym;by_cases h:id<far
 ·exact .inl ⟨h,if_pos h⟩
 ·exact .inr ⟨by omega,if_neg h⟩
structure Ctx (c:Cfg) (D:Nat→Option Fc):Prop where
 hT:aR c.T=true
 hm:kr c=true
 hP:c.P.follows .mixedOrders=true
 hD:∀g fc,D g=some fc→K6 c g fc=true
def Kl (c:Cfg) (D:Nat→Option Fc) (n:Nat):Prop:=
 ∀(cc:C) (code:Code) (nt base:Nat) (ρ:Env) (s:St) (e:Ex) (ρ':Env) (s':St),dw c nt cc code=true→ev D n (.c base cc ρ) s=some (.c e ρ' s')→
  ∀(B0:Nat) (B:BM) (a:Act) (w:World) (Q:Exit→Act→World→Prop),Sim c B0 base B ρ s nt a w→(∀a' w' B',Aft c B0 base B s w a nt ρ' s' B' a' w'→Q (ym e) a' w')→code.wp c.P Q a w
def Kg (c:Cfg) (D:Nat→Option Fc) (n:Nat):Prop:=
 ∀(keep:List Nat) (cc:C) (code:Code) (nt base:Nat) (ρ:Env) (s:St) (e:Ex) (ρ':Env) (s':St),dw c nt cc code=true→ev D n (.c base (.loop keep cc) ρ) s=some (.c e ρ' s')→
  ∀(B0:Nat) (B:BM) (a:Act) (w:World) (Q:Exit→Act→World→Prop),Sim c B0 base B (restrict keep ρ) s nt a w→(∀a' w' B',Aft c B0 base B s w a nt ρ' s' B' a' w'→Q (ym e) a' w')→Code.rounds c.P code Q n a w
theorem Aft.of {c:Cfg}{B0 base nt:Nat}{B:BM}{ρ:Env}{s:St}{a:Act}{w:World}(h:Sim c B0 base B ρ s nt a w):Aft c B0 base B s w a nt ρ s B a w:=⟨rfl,h.er,.refl h.sr,h.nt⟩
theorem Aft.keep {c:Cfg}{B0 base nt:Nat}{B B':BM}{ρ':Env}{s s':St}{a a':Act}{w w':World}(h:Aft c B0 base B s w a nt ρ' s' B' a' w') (k:Option (List Nat)):Aft c B0 base B s w a nt (tN k ρ') s' B' a' w':=
 ⟨h.df,by cases k with
  |none=>exact h.er
  |some ks=>exact h.er.restrict ks,h.st,h.nt⟩
theorem AZ {ks:List Nat}{ρ:Env}{k:Nat}(h:k∉ks):get (restrict ks ρ) k= .dead:=by
 induction ks with
 |nil=>rfl
 |cons j ks ih=>
  simp only[restrict,List.map_cons,get];rw[if_neg (fun e:j=k=>h (by rw[e];exact List.mem_cons_self))];exact ih (fun hk=>h (List.mem_cons_of_mem _ hk))
theorem Mp {c:Cfg}(hT:aR c.T=true) {B0 base nt:Nat}{B B':BM}{ρ0 ρ':Env}{s s':St}{a a':Act}{w w':World}{keep:List Nat}(h:Sim c B0 base B ρ0 s nt a w) (h':Aft c B0 base B s w a nt ρ' s' B' a' w') (hs:kB base s.loc.length (restrict keep ρ') s'=true):
 Aft c B0 base B s w a nt (restrict keep ρ') (s'.cut s.loc.length) (B'.cut s.loc.length) a' w':=by
 simp only[kB,Zj,Zi,List.all_eq_true]at hs;obtain⟨⟨h1,h2⟩,h3⟩:=hs;have hl:Lvl s.loc.length s':=by
  intro i x hi hx;by_cases hb:i<base
  ·exact td h.hb (h'.st.lvl base (Nat.le_refl _) h.lv i x hb hx)
  ·refine h3 x ?_;rw[List.mem_iff_getElem?];refine⟨i-base,?_⟩;rw[List.getElem?_drop,List.getElem?_take,show base+(i-base)=i by omega,if_pos hi];exact hx
 refine⟨h'.df,fun t=> ?_,Stp.cut hT h.sr h'.st (Nat.le_refl _) h.hb hl,h'.nt⟩;by_cases ht:t∈keep
 ·rw[oU ht];refine GE hT (h'.er t) (h2 (t,get ρ' t) ?_);exact List.mem_map.2 ⟨t,ht,rfl⟩
 ·rw[AZ ht];trivial
theorem HT:∀(l:List V) (i k:Nat),get (nG i l) k=if i≤k then(l[k-i]?).getD .dead else .dead
 |[],i,k=>by simp[nG,get]
 |v::l,i,k=>by
  simp only[nG,get];by_cases hk:i=k
  ·subst hk;simp
  ·rw[if_neg hk,HT l (i+1) k];by_cases h1:i+1≤k
   ·rw[if_pos h1,if_pos (by omega),show k-i=(k-(i+1))+1 by omega,List.getElem?_cons_succ]
   ·rw[if_neg h1,if_neg (by omega)]
theorem Ho {α β:Type}{R:α→β→Prop}:∀{l:List α}{m:List β}{i:Nat}{x:α},ez R l m→l[i]?=some x→∃y,m[i]?=some y∧R x y
 |[],[],_,_,_,h=>by simp at h
 |a::l,b::m,0,x,h,hx=>by simp only[List.getElem?_cons_zero,Zg]at hx;subst hx;exact⟨b,rfl,h.1⟩
 |a::l,b::m,i+1,x,h,hx=>by simp only[List.getElem?_cons_succ]at hx;simpa using Ho h.2 hx
 |[],_::_,_,_,h,_=>h.elim
 |_::_,[],_,_,h,_=>h.elim
theorem SY {T:Tab}{B:BM}{args:List V}{xs:Array Value}{k:Nat}(h:ez (VR T B) args xs.toList):ER T B (nG 0 args) (xs++Array.replicate k undef):=by
 intro n;rw[HT,if_pos (Nat.zero_le _),Nat.sub_zero];cases hn:args[n]? with
 |none=>trivial
 |some v=>
  obtain⟨y,hy,hv⟩:=Ho h hn;rw[Array.getElem?_toList]at hy;have hlt:n<xs.size:=(Array.getElem?_eq_some_iff.1 hy).1;rw[Array.getD_eq_getD_getElem?,Array.getElem?_append_left hlt,hy];exact hv
section res
variable {c : Cfg} (hT : aR c.T = true) (hm : kr c = true) {B0 : Nat} {B : BM} {s : St} {w : World} {ρ : Env} {tmps : Array Value} (hE : ER c.T B ρ tmps) (hS : SR c.T B0 B s w)
include hT hm hE hS
def Cn (tmps:Array Value):ResultVar→Sem Value
 | .tmp t=>pure (tmps.getD t undef)
 | .cell a t=>do loadVar t (←asAddr (tmps.getD a undef))
theorem Vy {r:RV}{q:ResultVar}{v:V}(hk:Lx c r q=true) (hv:r.ev ρ s=some v):∃x,(Cn tmps q).run c.P w= .ok x w∧VR c.T B v x:=by
 cases r with
 |t n=>
  cases q with
  |tmp m=>
   simp only[Lx,Zi]at hk;subst hk;simp only[RV.ev,Zg]at hv;subst hv;exact⟨_,by simp[Cn],hE n⟩
  |cell _ _=>cases hk
 |cell n t=>
  cases q with
  |tmp _=>cases hk
  |cell m ty=>
   simp only[Lx,Zj,Zi]at hk;obtain⟨rfl,hty⟩:=hk;simp only[RV.ev]at hv;have hx:=hE n;cases hg:get ρ n with
   |ptr a path t'=>
    rw[hg]at hv hx;simp only at hv;by_cases ht:t'=t
    ·subst ht;rw[if_pos rfl]at hv;obtain⟨ad,r,o,h1,h2,h3⟩:=ff.1 hx;obtain⟨g1,g2,cs,g3,g4,_⟩:=qX hT hS hv h1 h2;obtain⟨i,d,hti⟩:=cY hT hm hty;obtain⟨x,k1,k2⟩:=ua hT hti g1 g2 g3 g4;refine⟨x,?_,eu k2⟩;simp only[Instr.loadAt,Instr.sureAddr,Sem.run_bind,Sem.run_pure,Result.andThen_ok]at k1;simp only[Cn,h3,asAddr,Sem.run_bind,Sem.run_pure,Result.andThen_ok];exact k1
    ·rw[if_neg ht]at hv;cases hv
   |_=>rw[hg]at hv;cases hv
theorem Ki:∀{l:List RV}{m:List ResultVar}{vs:List V},BV c l m=true→l.mapM (RV.ev ρ s)=some vs→∃xs,(m.mapM (Cn tmps)).run c.P w= .ok xs w∧ez (VR c.T B) vs xs
 |[],[],vs,_,h=>by simp only[List.mapM_nil,Option.pure_def,Zg]at h;subst h;exact⟨[],by simp,trivial⟩
 |r::l,q::m,vs,hk,h=>by
  simp only[BV,Zj]at hk;rw[List.mapM_cons]at h;cases hr:r.ev ρ s with
  |none=>rw[hr]at h;simp at h
  |some v=>
   rw[hr]at h;cases hl:l.mapM (RV.ev ρ s)with
   |none=>rw[hl]at h;simp at h
   |some vs'=>
    rw[hl]at h;simp at h;subst h;obtain⟨x,g1,g2⟩:=Vy hT hm hE hS hk.1 hr;obtain⟨xs,g3,g4⟩:=Ki hk.2 hl;refine⟨x::xs,?_,g2,g4⟩;rw[List.mapM_cons];simp only[Sem.run_bind,g1,Result.andThen_ok,g3,Sem.run_pure]
 |[],_::_,_,hk,_=>by cases hk
 |_::_,[],_,hk,_=>by cases hk
theorem I7 {fn:Func}{l:List RV}{v:V}(hk:BV c l fn.results.toList=true) (h:f9 ρ s l=some v):∃x,(results fn tmps).run c.P w= .ok x w∧VR c.T B v x:=by
 unfold f9 at h;cases hm':l.mapM (RV.ev ρ s)with
 |none=>rw[hm']at h;cases h
 |some vs=>
  rw[hm']at h;obtain⟨xs,g1,g2⟩:=Ki hT hm hE hS hk hm';have hrun:(results fn tmps).run c.P w= .ok (if h:xs.toArray.size=1 then xs.toArray[0]else .tuple xs.toArray) w:=by
   have hf:∀f:ResultVar→Sem Value,(fn.results.mapM f)=List.toArray<$>(fn.results.toList.mapM f):=by intro f;rw[←List.mapM_toArray,Array.toArray_toList]
   have e0:results fn tmps=(fn.results.mapM (Cn tmps)>>=fun vs=>pure (if h:vs.size=1 then vs[0]else .tuple vs)):=by unfold results;congr 2
   rw[e0,hf];simp only[map_eq_pure_bind,bind_assoc,pure_bind,Sem.run_bind,g1,Result.andThen_ok,Sem.run_pure]
  have hone:∀{u:V}{y:Value},vs=[u]→xs=[y]→some u=some v→∃x,(results fn tmps).run c.P w= .ok x w∧VR c.T B v x:=by intro u y h1 h2 h3;subst h1;subst h2;cases h3;exact⟨y,by rw[hrun];rfl,g2.1⟩
  have hmany:vs.length≠1→(if vs.all V.ok then some (V.tup vs)else none)=some v→∃x,(results fn tmps).run c.P w= .ok x w∧VR c.T B v x:=by
   intro h1 h2;have hlen:=G7 g2;by_cases hok:vs.all V.ok=true
   ·rw[if_pos hok]at h2;cases h2;refine⟨.tuple xs.toArray,?_,?_⟩
    ·rw[hrun,dif_neg (by simp only[List.size_toArray];omega)]
    ·refine⟨xs.toArray,rfl,?_⟩;have key:∀{p:List V}{q:List Value},ez (VR c.T B) p q→p.all V.ok=true→ez (VR1 c.T B) p q:=by
      intro p
      induction p with
      |nil=>intro q hq _;cases q with
       |nil=>trivial
       |cons _ _=>exact hq.elim
      |cons u p ih=>
       intro q hq hall;cases q with
       |nil=>exact hq.elim
       |cons y q=>
        simp only[List.all_cons,Zj]at hall;exact⟨(rz hall.1).1 hq.1,ih hq.2 hall.2⟩
     exact key g2 hok
   ·rw[if_neg hok]at h2;cases h2
  cases vs with
  |nil=>exact hmany (by simp) h
  |cons u vs1=>
   cases vs1 with
   |nil=>
    cases xs with
    |nil=>exact g2.elim
    |cons y xs1=>
     cases xs1 with
     |nil=>exact hone rfl rfl h
     |cons _ _=>exact g2.2.elim
   |cons u2 vs2=>exact hmany (by simp) h
end res
theorem JG {c:Cfg}{D:Nat→Option Fc}(hC:Ctx c D) {nt l:Nat}:∀{x y:C}{code:Code},ms c nt l x y code=true→
 ∃z,findLabel code l=some (.seq .skip z)∧dw c nt y z=true∧∀{n:Nat},Kl c D n→∀{base:Nat}{ρ ρ':Env}{s s':St}{e:Ex},ev D n (.c base x ρ) s=some (.c e ρ' s')→
  ∀{B0:Nat}{B:BM}{a:Act}{w:World}{Q:Exit→Act→World→Prop},Sim c B0 base B ρ s nt a w→(∀a' w' B',Aft c B0 base B s w a nt ρ' s' B' a' w'→e= .normal→z.wp c.P Q a' w')→(e≠ .normal→∀a' w' B',Aft c B0 base B s w a nt ρ' s' B' a' w'→Q (ym e) a' w')→code.wp c.P Q a w
 | .reg _ _,_,code,hk=>by simp[ms]at hk
 | .regd _ _,_,code,hk=>by simp[ms]at hk
 | .cond _ _ _,_,code,hk=>by simp[ms]at hk
 | .block _ _,_,code,hk=>by simp[ms]at hk
 | .loop _ _,_,code,hk=>by simp[ms]at hk
 | .exit _,_,code,hk=>by simp[ms]at hk
 | .scope _,_,code,hk=>by simp[ms]at hk
 | .label _,_,code,hk=>by simp[ms]at hk
 | .ret,_,code,hk=>by simp[ms]at hk
 | .skip,y,code,hk=>by
  cases code with
  |seq u y'=>
   cases u with
   |label l'=>
    simp only[ms,Zj,Zi]at hk;obtain⟨rfl,hk⟩:=hk;refine⟨y',by simp[findLabel],hk,?_⟩;intro n _ base ρ ρ' s s' e he B0 B a w Q hs h1 _;cases n with
    |zero=>cases he
    |succ n=>
     simp only[ev,step,Zg,Res.c.injEq]at he;obtain⟨rfl,rfl,rfl⟩:=he;exact wp_seq (wp_label (h1 a w B (.of hs) rfl))
   |_=>simp[ms]at hk
  |_=>simp[ms]at hk
 | .seq x1 x2,y,code,hk=>by
  cases code with
  |seq u v=>
   have hk':(findLabel u l).isNone=true∧dw c nt x1 u=true∧ms c nt l x2 y v=true:=by cases u<;>simpa only[ms,Zj,and_assoc]using hk
   obtain⟨k1,k2,k3⟩:=hk';obtain⟨z,g1,g2,g3⟩:=JG hC k3;rw[Option.isNone_iff_eq_none]at k1;refine⟨z,by simp only[findLabel,k1];exact g1,g2,?_⟩;intro n hn base ρ ρ' s s' e he B0 B a w Q hs h1 h2;cases n with
   |zero=>cases he
   |succ n=>
    simp only[ev,step]at he;refine wp_seq ?_;cases hx:ev D n (.c base x1 ρ) s with
    |none=>rw[hx]at he;cases he
    |some r=>
     rw[hx]at he;cases r with
     |c e1 ρ1 s1=>
      refine hn x1 u nt base ρ s e1 ρ1 s1 k2 (nq _ hx) B0 B a w _ hs (fun a1 w1 B1 a1h=> ?_);cases e1 with
      |normal=>exact g3 hn (nq _ he) (a1h.sim hs) (fun a2 w2 B2 a2h=>h1 a2 w2 B2 (a1h.trans a2h)) (fun hne a2 w2 B2 a2h=>h2 hne a2 w2 B2 (a1h.trans a2h))
      |exit id=>
       simp only[Zg,Res.c.injEq]at he;obtain⟨rfl,rfl,rfl⟩:=he;have:=h2 (by simp) _ _ _ a1h;rcases mN id with⟨_,g⟩|⟨_,g⟩<;>rw[g]at this⊢<;>exact this
      |ret=>
       simp only[Zg,Res.c.injEq]at he;obtain⟨rfl,rfl,rfl⟩:=he;exact h2 (by simp) _ _ _ a1h
     |o _ _=>cases he
     |v _ _=>cases he
  |_=>simp[ms]at hk
theorem Uy {c:Cfg}{D:Nat→Option Fc}(hC:Ctx c D):∀n,DO c (ev D n)∧Kl c D n∧Kg c D n:=by
 intro n
 induction n with
 |zero=>
  refine⟨?_,?_,?_⟩
  ·intro g args s v s' h;cases h
  ·intro cc code nt base ρ s e ρ' s' _ h;cases h
  ·intro keep cc code nt base ρ s e ρ' s' _ h;cases h
 |succ n ih=>
  obtain⟨ihf,ihc,ihl⟩:=ih;have hloop:Kg c D (n+1):=by
   intro keep cc code nt base ρ s e ρ' s' hk he B0 B a w Q hs hQ;rw[rounds_succ];simp only[ev,step]at he;cases hb:ev D n (.c base cc (restrict keep ρ)) s with
   |none=>rw[hb]at he;cases he
   |some x=>
    rw[hb]at he;cases x with
    |c e1 ρ1 s1=>
     refine ihc cc code nt base _ s e1 ρ1 s1 hk hb B0 B a w _ hs (fun a1 w1 B1 h1=> ?_);cases e1 with
     |normal=>
      simp only at he;split at he
      ·rename_i hsc;have h2:=Mp hC.hT hs h1 hsc;exact ihl keep cc code nt base ρ1 _ e ρ' s' hk he B0 _ a1 w1 Q (h2.sim hs) (fun a3 w3 B3 h3=>hQ a3 w3 B3 (h2.trans h3))
      ·cases he
     |exit id=>
      simp only[Zg,Res.c.injEq]at he;obtain⟨rfl,rfl,rfl⟩:=he;have:=hQ _ _ _ h1;rcases mN id with⟨_,g⟩|⟨_,g⟩<;>rw[g]at this⊢<;>exact this
     |ret=>
      simp only[Zg,Res.c.injEq]at he;obtain⟨rfl,rfl,rfl⟩:=he;exact hQ _ _ _ h1
    |o _ _=>cases he
    |v _ _=>cases he
  refine⟨?_,?_,hloop⟩
  ·intro g args s v s' he B0 B w xs hA hS hG h0;have hroL:=WQ _ _ _ _ he;simp only[ev,step]at he;cases hd:D g with
   |none=>rw[hd]at he;cases he
   |some fc=>
    rw[hd]at he;simp only at he;have hf:=hC.hD g fc hd;unfold K6 at hf;cases hfn:c.P.funcs[g]? with
    |none=>rw[hfn]at hf;cases hf
    |some fn=>
     rw[hfn]at hf;simp only[Zj,bne_iff_ne,ne_eq]at hf;obtain⟨⟨hname,hres⟩,hbody⟩:=hf;cases hb:fn.body with
     |none=>rw[hb]at hbody;cases hbody
     |some code=>
      rw[hb]at hbody;simp only at hbody;refine⟨⟨fn,hfn,hname,by rw[hb];rfl⟩,hroL,?_⟩;by_cases hlen:args.length=fc.n
      ·rw[if_pos hlen]at he;cases hev:ev D n (.c s.loc.length fc.body (nG 0 args)) s with
       |none=>rw[hev]at he;cases he
       |some x=>
        rw[hev]at he;cases x with
        |c e1 ρ1 s1=>
         simp only at he;refine calls_of_wp hfn hb ?_;have hsim:Sim c B0 s.loc.length B (nG 0 args) s fn.ntmps {tmps:=xs++Array.replicate (fn.ntmps-xs.size) undef,defers:=[]} w:=
          ⟨SY hA,hG,hS,Nat.le_refl _,h0,hS.lvl,by simp;omega⟩
         refine ihc fc.body code fn.ntmps s.loc.length _ s e1 ρ1 s1 hbody hev B0 B _ w _ hsim (fun a1 w1 B1 h1=> ?_);have fin:(match f9 ρ1 s1 fc.res with
          |some v=>if v.locLt s.loc.length=true∧s.loc.length≤s1.loc.length then some (Res.v v {s1 with loc:=s1.loc.take s.loc.length})else none
          |none=>none)=some (.v v s')→a1.defers=[]∧∃x,(results fn a1.tmps).run c.P w1= .ok x w1∧∃x' B',Ending.returned x= .returned x'∧VR c.T B' v x'∧Stp c.T B0 s.loc.length B s w B' s' w1:=by
          intro hr;cases hro:f9 ρ1 s1 fc.res with
          |none=>rw[hro]at hr;cases hr
          |some v1=>
           rw[hro]at hr;simp only at hr;by_cases hl:v1.locLt s.loc.length=true∧s.loc.length≤s1.loc.length
           ·rw[if_pos hl]at hr;simp only[Zg,Res.v.injEq]at hr;obtain⟨rfl,rfl⟩:=hr;obtain⟨x,g1,g2⟩:=I7 hC.hT hC.hm h1.er h1.st.sr hres hro;exact⟨h1.df,x,g1,x,_,rfl,GE hC.hT g2 hl.1,Stp.cut hC.hT hS h1.st (Nat.le_refl _) (Nat.le_refl _) (h1.st.lvl _ (Nat.le_refl _) hS.lvl)⟩
           ·rw[if_neg hl]at hr;cases hr
         cases e1 with
         |exit id=>cases he
         |normal=>exact fin he
         |ret=>exact fin he
        |o _ _=>cases he
        |v _ _=>cases he
      ·rw[if_neg hlen]at he;cases he
  ·intro cc code nt base ρ s e ρ' s' hk he B0 B a w Q hs hQ;cases cc with
   |skip=>
    cases code<;>first|(simp only[dw,Bool.false_eq_true]at hk;done)|skip
    simp only[ev,step,Zg,Res.c.injEq]at he;obtain⟨rfl,rfl,rfl⟩:=he;exact wp_skip (hQ a w B (.of hs))
   |label l=>
    cases code<;>first|(simp only[dw,Bool.false_eq_true]at hk;done)|skip
    simp only[ev,step,Zg,Res.c.injEq]at he;obtain⟨rfl,rfl,rfl⟩:=he;exact wp_label (hQ a w B (.of hs))
   |ret=>
    cases code<;>first|(simp only[dw,Bool.false_eq_true]at hk;done)|skip
    simp only[ev,step,Zg,Res.c.injEq]at he;obtain⟨rfl,rfl,rfl⟩:=he;exact wp_ret (hQ a w B (.of hs))
   |exit id=>
    cases code<;>first|(simp only[dw,Bool.false_eq_true]at hk;done)|skip
    ·rename_i id';simp only[dw,Zj,Zi]at hk;obtain⟨rfl,hlt⟩:=hk;simp only[ev,step,Zg,Res.c.injEq]at he;obtain⟨rfl,rfl,rfl⟩:=he;have:=hQ a w B (.of hs);simp only[ym,if_pos hlt]at this;exact wp_exit this
    ·rename_i l;simp only[dw,Zi]at hk;subst hk;simp only[ev,step,Zg,Res.c.injEq]at he;obtain⟨rfl,rfl,rfl⟩:=he;have:=hQ a w B (.of hs);simp only[ym,if_neg (show¬far+l<far by omega),Nat.add_sub_cancel_left]at this;exact wp_goto this
   |reg keep ops=>
    cases code with
    |region id qs dr=>
     simp only[dw,Zj]at hk;simp only[ev,step]at he;cases ho:ev D n (.o base ops ρ) s with
     |none=>rw[ho]at he;cases he
     |some x=>
      rw[ho]at he;cases x with
      |o ρ1 s1=>
       simp only[Zg,Res.c.injEq]at he;obtain⟨rfl,rfl,rfl⟩:=he;cases dr with
       |false=>exact wp_region_list (Bn hC.hT hC.hm ihf hk.1 hs (uR ho) (fun a' w' B' h=>hQ a' w' B' (h.keep keep)))
       |true=>exact Eh hC.hT hC.hm ihf (Sw.recLe n) hC.hP hk.1 (by simpa using hk.2) hs (uR ho) (fun a' w' B' h=>hQ a' w' B' (h.keep keep))
      |c _ _ _=>cases he
      |v _ _=>cases he
    |_=>simp[dw]at hk
   |regd keep ops=>
    cases code with
    |region id qs dr=>
     simp only[dw,Zj]at hk;simp only[ev,step]at he;cases ho:ev D n (.o base ops ρ) s with
     |none=>rw[ho]at he;cases he
     |some x=>
      rw[ho]at he;cases x with
      |o ρ1 s1=>
       simp only[Zg,Res.c.injEq]at he;obtain⟨rfl,rfl,rfl⟩:=he;cases dr with
       |false=>exact wp_region_list (Bn hC.hT hC.hm ihf hk.1 hs (uR ho) (fun a' w' B' h=>hQ a' w' B' (h.keep keep)))
       |true=>exact Eh hC.hT hC.hm ihf (Sw.recLe n) hC.hP hk.1 (by simpa using hk.2) hs (uR ho) (fun a' w' B' h=>hQ a' w' B' (h.keep keep))
      |c _ _ _=>cases he
      |v _ _=>cases he
    |_=>simp[dw]at hk
   |seq x y=>
    cases code with
    |seq x' y'=>
     simp only[dw,Zj]at hk;simp only[ev,step]at he;refine wp_seq ?_;cases hx:ev D n (.c base x ρ) s with
     |none=>rw[hx]at he;cases he
     |some r=>
      rw[hx]at he;cases r with
      |c e1 ρ1 s1=>
       refine ihc x x' nt base ρ s e1 ρ1 s1 hk.1 hx B0 B a w _ hs (fun a1 w1 B1 h1=> ?_);cases e1 with
       |normal=>exact ihc y y' nt base ρ1 s1 e ρ' s' hk.2 he B0 B1 a1 w1 Q (h1.sim hs) (fun a2 w2 B2 h2=>hQ a2 w2 B2 (h1.trans h2))
       |exit id=>
        simp only[Zg,Res.c.injEq]at he;obtain⟨rfl,rfl,rfl⟩:=he;have:=hQ _ _ _ h1;rcases mN id with⟨_,g⟩|⟨_,g⟩<;>rw[g]at this⊢<;>exact this
       |ret=>
        simp only[Zg,Res.c.injEq]at he;obtain⟨rfl,rfl,rfl⟩:=he;exact hQ _ _ _ h1
      |o _ _=>cases he
      |v _ _=>cases he
    |_=>simp[dw]at hk
   |cond x p q=>
    cases code with
    |cond x' p' q'=>
     simp only[dw,Zj]at hk;simp only[ev,step]at he;have hx:=aC hk.1.1 hs.er hs.gr;cases hv:x.ev ρ with
     |bool t=>
      rw[hv]at he hx;rw[bn]at hx;simp only at he;refine wp_cond hx ?_;cases t with
      |true=>exact ihc p p' nt base ρ s e ρ' s' hk.1.2 he B0 B a w Q hs hQ
      |false=>exact ihc q q' nt base ρ s e ρ' s' hk.2 he B0 B a w Q hs hQ
     |_=>rw[hv]at he;cases he
    |_=>simp[dw]at hk
   |block id b=>
    cases code with
    |block id' b'=>
     simp only[dw,Zj,Zi]at hk;obtain⟨⟨rfl,hlt⟩,hk⟩:=hk;simp only[ev,step]at he;refine wp_block ?_;cases hx:ev D n (.c base b ρ) s with
     |none=>rw[hx]at he;cases he
     |some r=>
      rw[hx]at he;cases r with
      |c e1 ρ1 s1=>
       refine ihc b b' nt base ρ s e1 ρ1 s1 hk hx B0 B a w _ hs (fun a1 w1 B1 h1=> ?_);cases e1 with
       |normal=>
        simp only[Zg,Res.c.injEq]at he;obtain⟨rfl,rfl,rfl⟩:=he;exact hQ _ _ _ h1
       |exit id1=>
        simp only[Zg,Res.c.injEq]at he;obtain⟨rfl,rfl,rfl⟩:=he;have:=hQ _ _ _ h1;rcases mN id1 with⟨hf,g⟩|⟨hf,g⟩
        ·rw[g];show Exit.inBlock id Q (.exit id1) a1 w1;simp only[Exit.inBlock];by_cases hid:id1=id
         ·rw[if_pos hid];rw[if_pos hid]at this;exact this
         ·rw[if_neg hid];rw[if_neg hid,g]at this;exact this
        ·rw[if_neg (by omega),g]at this;rw[g];exact this
       |ret=>
        simp only[Zg,Res.c.injEq]at he;obtain⟨rfl,rfl,rfl⟩:=he;exact hQ _ _ _ h1
      |o _ _=>cases he
      |v _ _=>cases he
    |_=>simp[dw]at hk
   |loop keep b=>
    cases code with
    |loop b'=>
     simp only[dw]at hk;exact wp_loop_rounds (n+1) (hloop keep b b' nt base ρ s e ρ' s' hk he B0 B a w Q ⟨hs.er.restrict keep,hs.gr,hs.sr,hs.hb,hs.h0,hs.lv,hs.nt⟩ hQ)
    |_=>simp[dw]at hk
   |scope b=>
    cases code with
    |scope b'=>
     simp only[dw,Bool.or_eq_true]at hk;simp only[ev,step]at he;cases hx:ev D n (.c base b ρ) s with
     |none=>rw[hx]at he;cases he
     |some r=>
      rw[hx]at he;cases r with
      |c e1 ρ1 s1=>
       simp only[Zg,Res.c.injEq]at he;obtain⟨rfl,rfl,rfl⟩:=he;rcases hk with hk|hk
       ·simp only[Zj,List.isEmpty_iff]at hk;refine wp_scope_straight (ihc b b' nt base ρ s e1 ρ1 s1 hk.1 hx B0 B a w _ hs (fun a1 w1 B1 h1=> ?_));have:=hQ _ _ _ h1;cases e1 with
        |normal=>exact this
        |ret=>exact this
        |exit id=>
         rcases mN id with⟨hf,g⟩|⟨hf,g⟩
         ·rw[g]at this⊢;exact this
         ·have:=kM n hx hf;rw[hk.2]at this;cases this
       ·cases b with
        |seq p y=>
         cases p with
         |block jj x=>
          simp only[Zj,Zi,List.isEmpty_iff]at hk;obtain⟨⟨⟨hj,hox⟩,hoy⟩,hkj⟩:=hk;obtain⟨m,rfl⟩:∃m,n=m+1:=by
           cases n with
           |zero=>cases hx
           |succ m=>exact⟨m,rfl⟩
          simp only[ev,step]at hx;have hx0:=hx;cases hb:ev D m (.c base (.block jj x) ρ) s with
          |none=>rw[hb]at hx;cases hx
          |some rb=>
           rw[hb]at hx;cases rb with
           |c eb ρb sb=>
            obtain⟨k,rfl⟩:∃k,m=k+1:=by
             cases m with
             |zero=>cases hb
             |succ k=>exact⟨k,rfl⟩
            simp only[ev,step]at hb;cases hxx:ev D k (.c base x ρ) s with
            |none=>rw[hxx]at hb;cases hb
            |some rx=>
             rw[hxx]at hb;cases rx with
             |c ex ρx sx=>
              have hxx':ev D (k+1+1) (.c base x ρ) s=some (.c ex ρx sx):=nq _ (nq _ hxx);have rest:eb= .normal→∀(z:Code) (a1:Act) (w1:World) (B1:BM) (Q1:Exit→Act→World→Prop),dw c nt y z=true→Aft c B0 base B s w a nt ρb sb B1 a1 w1→(∀e a2 w2,(∀l,e≠ .goto l)→Q e a2 w2→Q1 e a2 w2)→z.wp c.P Q1 a1 w1:=by
               intro heb z a1 w1 B1 Q1 hky h1 hQ1;subst heb;have hy:ev D (k+1+1) (.c base y ρb) sb=some (.c e1 ρ1 s1):=nq _ hx;refine ihc y z nt base ρb sb e1 ρ1 s1 hky hy B0 B1 a1 w1 Q1 (h1.sim hs) (fun a2 w2 B2 h2=>hQ1 _ _ _ ?_ (hQ _ _ _ (h1.trans h2)));intro l hl;cases e1 with
               |normal=>cases hl
               |ret=>cases hl
               |exit id=>
                rcases mN id with⟨hf,g⟩|⟨hf,g⟩
                ·rw[g]at hl;cases hl
                ·have:=kM _ hy hf;rw[hoy]at this;cases this
              obtain⟨z,hfl,hcz,hwp⟩:=JG hC hkj;refine wp_scope_jumps (jj-far) (fun a1 w1=>eb= .normal∧∃B1,Aft c B0 base B s w a nt ρb sb B1 a1 w1) (fun _ _=>0) hfl ?_ ?_
              ·refine hwp ihc hxx' hs (fun a1 w1 B1 h1=> ?_) (fun hne a1 w1 B1 h1=> ?_)
               ·intro hex;subst hex;simp only[Zg,Res.c.injEq]at hb;obtain⟨rfl,rfl,rfl⟩:=hb;refine rest rfl z a1 w1 B1 _ hcz h1 (fun e a2 w2 hne hq=> ?_);cases e<;>first|exact hq|exact absurd rfl (hne _)
               ·cases ex with
                |normal=>exact absurd rfl hne
                |ret=>
                 simp only[Zg,Res.c.injEq]at hb;obtain⟨rfl,rfl,rfl⟩:=hb;simp only[Zg,Res.c.injEq]at hx;obtain⟨rfl,rfl,rfl⟩:=hx;exact hQ _ _ _ h1
                |exit id=>
                 rcases mN id with⟨hf,g⟩|⟨hf,g⟩
                 ·rw[g];have hne2:¬id=jj:=by omega
                  simp only[if_neg hne2,Zg,Res.c.injEq]at hb;obtain⟨rfl,rfl,rfl⟩:=hb;simp only[Zg,Res.c.injEq]at hx;obtain⟨rfl,rfl,rfl⟩:=hx;have:=hQ _ _ _ h1;rw[g]at this;exact this
                 ·have hid:=kM _ hxx hf;have hid2:=(List.all_eq_true.1 hox) id hid;simp only[Zi]at hid2;subst hid2;simp only[if_true,Zg,Res.c.injEq]at hb;obtain⟨rfl,rfl,rfl⟩:=hb;rw[g];exact⟨rfl,rfl,B1,h1⟩
              ·rintro a1 w1 ⟨heb,B1,h1⟩;refine wp_seq (wp_skip (rest heb z a1 w1 B1 _ hcz h1 (fun e a2 w2 hne hq=> ?_)));cases e<;>first|exact hq|exact absurd rfl (hne _)
             |o _ _=>cases hb
             |v _ _=>cases hb
           |o _ _=>cases hx
           |v _ _=>cases hx
         |_=>cases hk
        |_=>cases hk
      |o _ _=>cases he
      |v _ _=>cases he
    |_=>simp[dw]at hk
theorem IR {c:Cfg}{D:Nat→Option Fc}(hC:Ctx c D) {g:Nat}{args:List V}{s s':St}{v:V}(h:rf D g args s=some (v,s')) {B0:Nat}{B:BM}{w:World}{xs:Array Value}
 (hA:ez (VR c.T B) args xs.toList) (hS:SR c.T B0 B s w) (hG:fb c.gl B) (h0:B0≤w.heap.size):
 Calls c.P g xs w fun e w'=>∃x B',e= .returned x∧VR c.T B' v x∧Stp c.T B0 s.loc.length B s w B' s' w':=by
 obtain⟨n,hn⟩:=db.1 (U0.1 h);exact((Uy hC n).1 g args s v s' hn B0 B w xs hA hS hG h0).2.2
inductive Sh where
 |bool
 |int (k:IntKind)
 |str
 |st (t:Nat) (l:List Sh)
 |arr (t n:Nat) (e:Sh)
 |sl (r:Nat) (e:Sh)
 deriving Inhabited
def Sh.tag:Sh→Nat
 | .bool=>0| .int k=>jL k| .str=>2| .st t _=>t| .arr t _ _=>t| .sl _ _=>1
mutual
def Sh.Fits (hp:List Blk):Sh→V→Prop
 | .bool,v=>∃b,v= .bool b
 | .int k,v=>∃n,v= .int k n∧k.min≤n∧n≤k.max
 | .str,v=>∃s,v= .str s∧s.size≤maxLen
 | .st t l,v=>∃vs,v= .agg t vs∧Sh.FitsL hp l vs
 | .arr t n e,v=>∃vs,v= .agg t vs∧vs.length=n∧∀x∈vs,e.Fits hp x
 | .sl r e,v=>v= .nils∨∃i l c,v= .sl (.hp i) [] 0 l.length (some c) e.tag∧l.length≤c∧c≤maxLen∧(l=[]∨hp[i]?=some (.ro (.agg r l)))∧∀x∈l,e.Fits hp x
def Sh.FitsL (hp:List Blk):List Sh→List V→Prop
 |[],[]=>True
 |h::l,v::m=>h.Fits hp v∧Sh.FitsL hp l m
 |_,_=>False
end
mutual
theorem Sh.Fits.mono {hp hp':List Blk}(h:hp<+:hp'):∀{s:Sh}{v:V},s.Fits hp v→s.Fits hp' v
 | .bool,_,hf=>hf
 | .int _,_,hf=>hf
 | .str,_,hf=>hf
 | .st t l,v,hf=>by obtain⟨vs,rfl,hl⟩:=hf;exact⟨vs,rfl,Sh.FitsL.mono h hl⟩
 | .arr t n e,v,hf=>by obtain⟨vs,rfl,hn,hl⟩:=hf;exact⟨vs,rfl,hn,fun x hx=>Sh.Fits.mono h (hl x hx)⟩
 | .sl r e,v,hf=>by
  rcases hf with hf|⟨i,l,c,rfl,h1,h2,h3,h4⟩
  ·exact .inl hf
  ·exact .inr ⟨i,l,c,rfl,h1,h2,h3.imp id (fun h3=>eH h h3),fun x hx=>Sh.Fits.mono h (h4 x hx)⟩
theorem Sh.FitsL.mono {hp hp':List Blk}(h:hp<+:hp'):∀{l:List Sh}{m:List V},Sh.FitsL hp l m→Sh.FitsL hp' l m
 |[],[],_=>trivial
 |_::_,_::_,hf=>⟨Sh.Fits.mono h hf.1,Sh.FitsL.mono h hf.2⟩
 |[],_::_,hf=>hf.elim
 |_::_,[],hf=>hf.elim
end
mutual
def jK (c:Cfg):Sh→Nat→Bool
 | .bool,t=>decide (tg c.tm t=some 0)&&(match c.P.underlying t with|some .bool=>true|_=>false)
 | .int k,t=>decide (tg c.tm t=some (jL k))&&(match c.P.underlying t with|some (.int k')=>decide (k=k')|_=>false)
 | .str,t=>decide (tg c.tm t=some 2)&&(match c.P.underlying t with|some .string=>true|_=>false)
 | .st q l,t=>decide (tg c.tm t=some q)&&decide (c.T.info q=some (.st (l.map Sh.tag)))&&(match c.P.underlying t with|some (.struct fs)=>oJ c l (fs.toList.map (·.type))|_=>false)
 | .arr q n e,t=>decide (tg c.tm t=some q)&&decide (c.T.info q=some (.arr n e.tag))&&(match c.P.underlying t with|some (.array m u)=>decide (n=m)&&jK c e u|_=>false)
 | .sl r e,t=>decide (tg c.tm t=some 1)&&decide (c.T.info r=some (.row e.tag))&&(match c.P.underlying t with|some (.slice u)=>jK c e u|_=>false)
def oJ (c:Cfg):List Sh→List Nat→Bool
 |[],[]=>true
 |h::l,t::m=>jK c h t&&oJ c l m
 |_,_=>false
end
structure Inv (T:Tab) (w:World) (B:BM) (hp:List Blk):Prop where
 sr:SR T w.heap.size B ⟨[],hp⟩ w
 ro:∀b∈hp,b.mut=false
theorem Inv.loc {T:Tab}{w:World}{B:BM}{hp:List Blk}(h:Inv T w B hp):B.loc=[]:=by have:=h.sr.lenL;exact List.length_eq_zero_iff.1 this
theorem Inv.push {T:Tab}{w:World}{B:BM}{hp:List Blk}(h:Inv T w B hp) {ar:Addr×Nat}{b:Blk}(hb:lO T B w ar b) (hrw:b.mut=false):Inv T w ⟨B.loc,B.hp++[ar]⟩ (hp++[b]):=by
 have hext:Ext B ⟨B.loc,B.hp++[ar]⟩:=⟨List.prefix_rfl,List.prefix_append _ _⟩;have hloc:=h.loc;have hlen:B.hp.length=hp.length:=h.sr.lenH;have norw:∀{a:Loc}{x:Blk},(⟨[],hp++[b]⟩:St).at a=some x→x.mut=false:=by
  intro a v ha;cases a with
  |loc i=>simp[St.at]at ha
  |hp i=>
   have:=List.mem_of_getElem? (show(hp++[b])[i]?=some v from ha)
   rcases List.mem_append.1 this with h1|h1
   ·exact h.ro v h1
   ·rw[List.mem_singleton.1 h1];exact hrw
 refine⟨⟨h.sr.lenL,by simp[hlen],?_,?_,?_,?_⟩,fun v hv=> ?_⟩
 ·intro a b' ar' hs hB;cases a with
  |loc i=>simp[St.at]at hs
  |hp i=>
   simp only[St.at]at hs;simp only[BM.at]at hB;rcases getElem?_snoc hs with h1|⟨h1,h2⟩
   ·have hi:i<hp.length:=(List.getElem?_eq_some_iff.1 h1).1;rw[List.getElem?_append_left (by omega)]at hB;exact(h.sr.blk (.hp i) b' ar' h1 hB).ext hext
   ·subst h1;subst h2;rw[←hlen,List.getElem?_concat_length]at hB;cases hB;exact hb.ext hext
 ·intro a a' ar ar' v b' hs hm;rw[norw hs]at hm;cases hm
 ·intro a v ar hs hm;rw[norw hs]at hm;cases hm
 ·intro i b' hi;rcases getElem?_snoc hi with h1|⟨h1,h2⟩
  ·exact h.sr.hpv i b' h1
  ·subst h2;cases b' with
   |dead=>rfl
   |ro v=>
    obtain⟨_,_,_,_,_,cs,_,h4,_⟩:=hb;have:=wB h4;rw[hloc]at this;exact this
   |rw v=>cases hrw
   |mp l=>rfl
 ·rcases List.mem_append.1 hv with h1|h1
  ·exact h.ro v h1
  ·rw[List.mem_singleton.1 h1];exact hrw
def vK (c:Cfg) (w:World) (B:BM) (hp:List Blk) (K:BM→List Blk→Prop):Prop:=
 ∃B' hp',Inv c.T w B' hp'∧Ext B B'∧hp<+:hp'∧K B' hp'
section opening
variable {c : Cfg} (hT : aR c.T = true) (hm : kr c = true) {H : Type} {enc : TypeId × Value → H} {w : World}
include hT hm
def C6 (c:Cfg) {H:Type}(enc:TypeId×Value→H) (w:World) (fuel:Nat):Prop:=
 ∀(sh:Sh) (t:TypeId) (cs:List Value) (r:DataW H×List MemPlace),jK c sh t=true→DataW.trod enc c.P w 0 (fun _=>true) true fuel t cs=some r→∀B hp,Inv c.T w B hp→
  vK c w B hp fun B' hp'=>∃v,v.wf c.T∧v.tag=sh.tag∧CR c.T B' v cs∧sh.Fits hp' v
omit hT hm in
theorem wo {sh:Sh}{t:Nat}(h:jK c sh t=true):tg c.tm t=some sh.tag:=by
 cases sh<;>simp only[jK,Zj,Zi]at h<;>simp only[Sh.tag]
 ·exact h.1
 ·exact h.1
 ·exact h.1
 ·exact h.1.1
 ·exact h.1.1
 ·exact h.1.1
theorem pz {t q:Nat}(h:tg c.tm t=some q):c.P.cellsOf t=c.T.size q:=by obtain⟨i,d,hty⟩:=cY hT hm h;simp[Program.cellsOf,hty.info,hty.size]
theorem Az {fuel:Nat}(ih:C6 c enc w fuel):∀(l:List Sh) (fs:List Field) (o:Nat) (cs:List Value),oJ c l (fs.map (·.type))=true→
 (∀j f,fs[j]?=some f→f.offset=o+c.T.sum ((l.map Sh.tag).take j))→cs.length=o+c.T.sum (l.map Sh.tag)→
 (∀f∈fs,∃r,DataW.trod enc c.P w 0 (fun _=>true) true fuel f.type ((cs.drop f.offset).take (c.P.cellsOf f.type))=some r)→∀B hp,Inv c.T w B hp→
 vK c w B hp fun B' hp'=>∃vs,V.wfs c.T vs∧vs.map V.tag=l.map Sh.tag∧CRs c.T B' vs (cs.drop o)∧Sh.FitsL hp' l vs
 |[],[],o,cs,_,_,hlen,_,B,hp,hI=>by refine⟨B,hp,hI,Ext.refl _,List.prefix_rfl,[],trivial,rfl,?_,trivial⟩;simp only[CRs];rw[List.drop_eq_nil_iff];simp only[List.map_nil,Tab.sum]at hlen;omega
 |h::l,f::fs,o,cs,hk,hoff,hlen,htr,B,hp,hI=>by
  simp only[List.map_cons,oJ,Zj]at hk;have h0:=hoff 0 f rfl;simp only[List.map_cons,List.take_zero,Tab.sum,Nat.add_zero]at h0;obtain⟨r,hr⟩:=htr f List.mem_cons_self;have htg:=wo hk.1;rw[h0,pz hT hm htg]at hr;obtain⟨B1,hp1,hI1,he1,hx1,v,hv1,hv2,hv3,hv4⟩:=ih h f.type _ r hk.1 hr B hp hI;simp only[List.map_cons,Tab.sum]at hlen;obtain⟨B2,hp2,hI2,he2,hx2,vs,g1,g2,g3,g4⟩:=Az ih l fs (o+c.T.size h.tag) cs hk.2 (fun j f hf=>by have:=hoff (j+1) f (by simpa using hf);simp only[List.map_cons,List.take_succ_cons,Tab.sum]at this;omega) (by omega) (fun f hf=>htr f (List.mem_cons_of_mem _ hf)) B1 hp1 hI1
  refine⟨B2,hp2,hI2,he1.trans he2,hx1.trans hx2,v::vs,⟨hv1,g1⟩,by simp[hv2,g2],?_,Sh.Fits.mono hx2 hv4,g4⟩;simp only[CRs];refine⟨_,_,?_,nj (fun _ _=>he2.at) hv3,g3⟩;rw[←List.drop_drop,List.take_append_drop]
 |[],_::_,_,_,hk,_,_,_,_,_,_=>by simp[oJ]at hk
 |_::_,[],_,_,hk,_,_,_,_,_,_=>by simp[oJ]at hk
theorem C0 {fuel:Nat}(ih:C6 c enc w fuel) {sh:Sh}{e:TypeId}(hk:jK c sh e=true):∀(m o:Nat) (cs:List Value),cs.length=(o+m)*c.T.size sh.tag→
 (∀i,o≤i→i<o+m→∃r,DataW.trod enc c.P w 0 (fun _=>true) true fuel e ((cs.drop (i*c.P.cellsOf e)).take (c.P.cellsOf e))=some r)→∀B hp,Inv c.T w B hp→
 vK c w B hp fun B' hp'=>∃vs,vs.length=m∧V.wfs c.T vs∧(∀v∈vs,v.tag=sh.tag)∧CRs c.T B' vs (cs.drop (o*c.T.size sh.tag))∧∀v∈vs,sh.Fits hp' v
 |0,o,cs,hlen,_,B,hp,hI=>by refine⟨B,hp,hI,Ext.refl _,List.prefix_rfl,[],rfl,trivial,by simp,?_,by simp⟩;simp only[CRs];rw[List.drop_eq_nil_iff];rw[Nat.add_zero]at hlen;omega
 |m+1,o,cs,hlen,htr,B,hp,hI=>by
  have htg:=wo hk;have hsz:=pz hT hm htg;obtain⟨r,hr⟩:=htr o (Nat.le_refl _) (by omega);rw[hsz]at hr;obtain⟨B1,hp1,hI1,he1,hx1,v,hv1,hv2,hv3,hv4⟩:=ih sh e _ r hk hr B hp hI;obtain⟨B2,hp2,hI2,he2,hx2,vs,g0,g1,g2,g3,g4⟩:=C0 ih hk m (o+1) cs (by rw[hlen];congr 1;omega) (fun i h1 h2=>htr i (by omega) (by omega)) B1 hp1 hI1;refine⟨B2,hp2,hI2,he1.trans he2,hx1.trans hx2,v::vs,by simp[g0],⟨hv1,g1⟩,?_,?_,?_⟩
  ·intro u hu;rcases List.mem_cons.1 hu with rfl|hu
   ·exact hv2
   ·exact g2 u hu
  ·simp only[CRs];refine⟨_,_,?_,nj (fun _ _=>he2.at) hv3,g3⟩;rw[Nat.succ_mul,←List.drop_drop,List.take_append_drop]
  ·intro u hu;rcases List.mem_cons.1 hu with rfl|hu
   ·exact Sh.Fits.mono hx2 hv4
   ·exact g4 u hu
omit hT hm in
theorem cells?_get {a:Addr}{n:Nat}{l:List Value}(h:w.cells? 0 a n=some l):l.length=n∧∀(j:Nat) (v:Value),l[j]?=some v→w.cell? (a.add j)=some v:=by
 unfold World.cells? at h;rw[if_pos (Nat.zero_le _)]at h;have key:∀(m:List Nat) (l:List Value),m.mapM (fun i=>w.cell? (a.add i))=some l→l.length=m.length∧∀(j:Nat) (v:Value),l[j]?=some v→∃i,m[j]?=some i∧w.cell? (a.add i)=some v:=by
  intro m
  induction m with
  |nil=>intro l hl;simp only[List.mapM_nil,Option.pure_def,Zg]at hl;subst hl;simp
  |cons i m ih=>
   intro l hl;rw[List.mapM_cons]at hl;cases h1:w.cell? (a.add i)with
   |none=>rw[h1]at hl;simp at hl
   |some x=>
    cases h2:m.mapM (fun i=>w.cell? (a.add i))with
    |none=>rw[h1,h2]at hl;simp at hl
    |some l'=>
     rw[h1,h2]at hl;simp at hl;subst hl;obtain⟨g1,g2⟩:=ih l' h2;refine⟨by simp[g1],fun j v hj=> ?_⟩;cases j with
     |zero=>simp only[List.getElem?_cons_zero,Zg]at hj;subst hj;exact⟨i,rfl,h1⟩
     |succ j=>simpa using g2 j v (by simpa using hj)
 obtain⟨g1,g2⟩:=key _ _ h;refine⟨by simpa using g1,fun j v hj=> ?_⟩;obtain⟨i,h1,h2⟩:=g2 j v hj;have hj':=(List.getElem?_eq_some_iff.1 h1).1;rw[List.getElem?_range (by simpa using hj')]at h1;cases h1;exact h2
theorem BS {fuel:Nat}(ih:C6 c enc w fuel) {sh:Sh}{e:TypeId}(hk:jK c sh e=true) {b of:Nat}:∀(m o:Nat),
 (∀i,o≤i→i<o+m→∃r,(w.cells? 0 ((⟨b,of,none⟩:Addr).add (i*c.P.cellsOf e)) (c.P.cellsOf e)).bind (DataW.trod enc c.P w 0 (fun _=>true) true fuel e)=some r)→∀B hp,Inv c.T w B hp→
 vK c w B hp fun B' hp'=>∃vs cs,vs.length=m∧V.wfs c.T vs∧(∀v∈vs,v.tag=sh.tag)∧CRs c.T B' vs cs∧cs.length=m*c.T.size sh.tag∧w.rangeAt b (of+o*c.T.size sh.tag) cs∧∀v∈vs,sh.Fits hp' v
 |0,o,_,B,hp,hI=>⟨B,hp,hI,Ext.refl _,List.prefix_rfl,[],[],rfl,trivial,by simp,rfl,by simp,fun j v hv=>by simp at hv,by simp⟩
 |m+1,o,htr,B,hp,hI=>by
  have htg:=wo hk;have hsz:=pz hT hm htg;obtain⟨r,hr⟩:=htr o (Nat.le_refl _) (by omega);rw[hsz]at hr;cases hc:w.cells? 0 ((⟨b,of,none⟩:Addr).add (o*c.T.size sh.tag)) (c.T.size sh.tag)with
  |none=>rw[hc]at hr;cases hr
  |some pc=>
   rw[hc]at hr;simp only[Option.bind_some]at hr;obtain⟨q1,q2⟩:=cells?_get hc;obtain⟨B1,hp1,hI1,he1,hx1,v,hv1,hv2,hv3,hv4⟩:=ih sh e _ r hk hr B hp hI;obtain⟨B2,hp2,hI2,he2,hx2,vs,cs,g0,g1,g2,g3,g5,g6,g4⟩:=BS ih hk m (o+1) (fun i h1 h2=>htr i (by omega) (by omega)) B1 hp1 hI1;refine⟨B2,hp2,hI2,he1.trans he2,hx1.trans hx2,v::vs,pc++cs,by simp[g0],⟨hv1,g1⟩,?_,?_,?_,?_,?_⟩
   ·intro u hu;rcases List.mem_cons.1 hu with rfl|hu
    ·exact hv2
    ·exact g2 u hu
   ·simp only[CRs];exact⟨_,_,rfl,nj (fun _ _=>he2.at) hv3,g3⟩
   ·rw[List.length_append,q1,g5,Nat.succ_mul];omega
   ·intro j u hu;by_cases hj:j<pc.length
    ·rw[List.getElem?_append_left hj]at hu;have:=q2 j u hu;rw[Addr.add_mid,Addr.add_mid]at this;exact this
    ·rw[List.getElem?_append_right (by omega)]at hu;have:=g6 (j-pc.length) u hu;rw[←this,q1,Nat.succ_mul];congr 2;omega
   ·intro u hu;rcases List.mem_cons.1 hu with rfl|hu
    ·exact Sh.Fits.mono hx2 hv4
    ·exact g4 u hu
omit hT hm in
theorem sg {α β:Type}{f:α→Option β}:∀{l:List α}{m:List β},l.mapM f=some m→∀x∈l,∃r,f x=some r
 |[],_,_,x,hx=>by simp at hx
 |y::l,m,h,x,hx=>by
  rw[List.mapM_cons]at h;cases h1:f y with
  |none=>rw[h1]at h;simp at h
  |some r=>
   cases h2:l.mapM f with
   |none=>rw[h1,h2]at h;simp at h
   |some m'=>
    rcases List.mem_cons.1 hx with rfl|hx
    ·exact⟨r,h1⟩
    ·exact sg h2 x hx
omit hT hm in
theorem E9 {fuel t:Nat}{cs:List Value}{r:DataW H×List MemPlace}(hu:c.P.underlying t=some .bool) (h:DataW.trod enc c.P w 0 (fun _=>true) true (fuel+1) t cs=some r):∃b,cs=[.bool b]:=by
 simp only[DataW.trod,hu]at h;split at h<;>first|exact⟨_,rfl⟩|(simp_all;done)
omit hT hm in
theorem Ha {fuel t:Nat}{k:IntKind}{cs:List Value}{r:DataW H×List MemPlace}(hu:c.P.underlying t=some (.int k)) (h:DataW.trod enc c.P w 0 (fun _=>true) true (fuel+1) t cs=some r):∃n,cs=[.int k n]∧(Lit.int k n).wf=true:=by
 simp only[DataW.trod,hu]at h;split at h
 all_goals (simp_all;done)
omit hT hm in
theorem FW {fuel t:Nat}{cs:List Value}{r:DataW H×List MemPlace}(hu:c.P.underlying t=some .string) (h:DataW.trod enc c.P w 0 (fun _=>true) true (fuel+1) t cs=some r):∃s,cs=[.string s]∧s.size≤maxLen:=by
 simp only[DataW.trod,hu]at h;split at h
 all_goals (simp_all;done)
omit hT hm in
theorem I6 {fuel t u:Nat}{cs:List Value}{r:DataW H×List MemPlace}(hu:c.P.underlying t=some (.slice u)) (h:DataW.trod enc c.P w 0 (fun _=>true) true (fuel+1) t cs=some r):
 cs=[.slice none 0 0]∨∃a len cap,cs=[.slice (some a) len cap]∧len≤cap∧cap≤maxLen∧∀i,i<cap→∃r,(w.cells? 0 (a.add (i*c.P.cellsOf u)) (c.P.cellsOf u)).bind (DataW.trod enc c.P w 0 (fun _=>true) true fuel u)=some r:=by
 simp only[DataW.trod,hu]at h;split at h
 all_goals try (simp_all;done)
 rename_i a len cap h1;simp only[Zg,TypeDesc.slice.injEq]at h1;subst h1;right;refine⟨a,len,cap,rfl,?_⟩;split at h
 ·rename_i hle;obtain⟨_,hlc,hcm⟩:=hle;refine⟨hlc,hcm,?_⟩;cases hm1:(List.range len).mapM (fun i=>(w.cells? 0 (a.add (i*c.P.cellsOf u)) (c.P.cellsOf u)).bind (DataW.trod enc c.P w 0 (fun _=>true) true fuel u))with
  |none=>rw[hm1]at h;cases h
  |some xs=>
   rw[hm1]at h;simp only[Option.bind_some,if_true]at h;cases hm2:(List.range (cap-len)).mapM (fun j=>(w.cells? 0 (a.add ((len+j)*c.P.cellsOf u)) (c.P.cellsOf u)).bind (DataW.trod enc c.P w 0 (fun _=>true) true fuel u))with
   |none=>rw[hm2]at h;cases h
   |some ys=>
    intro i hi;by_cases h1:i<len
    ·exact sg hm1 i (List.mem_range.2 h1)
    ·have:=sg hm2 (i-len) (List.mem_range.2 (by omega));rw[show len+(i-len)=i by omega]at this;exact this
 ·cases h
theorem NE:∀fuel,C6 c enc w fuel:=by
 intro fuel
 induction fuel with
 |zero=>intro sh t cs r _ h;cases h
 |succ fuel ih=>
  intro sh t cs r hk h B hp hI;have htg:=wo hk;have hsz:=pz hT hm htg;obtain⟨i,d,hty⟩:=cY hT hm htg;cases sh with
  |bool=>
   simp only[jK,Zj]at hk;obtain⟨_,hk⟩:=hk;split at hk
   ·rename_i hu;obtain⟨b,rfl⟩:=E9 hu h;exact⟨B,hp,hI,Ext.refl _,List.prefix_rfl,.bool b,trivial,rfl,rfl,b,rfl⟩
   ·cases hk
  |int k=>
   simp only[jK,Zj]at hk;obtain⟨_,hk⟩:=hk;split at hk
   ·rename_i k' hu;simp only[Zi]at hk;subst hk;obtain⟨n,rfl,hn⟩:=Ha hu h;simp only[Lit.wf,Zj,Zi]at hn;exact⟨B,hp,hI,Ext.refl _,List.prefix_rfl,.int k n,trivial,rfl,rfl,n,rfl,hn.1,hn.2⟩
   ·cases hk
  |str=>
   simp only[jK,Zj]at hk;obtain⟨_,hk⟩:=hk;split at hk
   ·rename_i hu;obtain⟨s,rfl,hs⟩:=FW hu h;exact⟨B,hp,hI,Ext.refl _,List.prefix_rfl,.str s,trivial,rfl,rfl,s,rfl,hs⟩
   ·cases hk
  |st q l=>
   simp only[jK,Zj,Zi]at hk;obtain⟨⟨_,hinfo⟩,hk⟩:=hk;split at hk
   ·rename_i fs hu;obtain⟨fs',hd,hlen,_,hfs⟩:=uw hty hinfo;have hdd:d= .struct fs:=by have:=hty.under;rw[hu]at this;exact(Option.some.inj this).symm
    have hff:fs'=fs:=by rw[hdd]at hd;cases hd;rfl
    subst hff;simp only[DataW.trod,hu]at h;split at h
    ·rename_i hcl;cases hmm:fs'.toList.mapM (fun f=>DataW.trod enc c.P w 0 (fun _=>true) true fuel f.type ((cs.drop f.offset).take (c.P.cellsOf f.type)))with
     |none=>rw[hmm]at h;cases h
     |some xs=>
      have hsum:c.T.size q=c.T.sum (l.map Sh.tag):=(Bi hT hinfo).size;obtain⟨B',hp',g1,g2,g3,vs,g4,g5,g6,g7⟩:=Az hT hm ih l fs'.toList 0 cs hk (fun j f hf=>by obtain⟨u,e1,e2,_⟩:=hfs j f (by simpa using hf);rw[e2,Nat.zero_add]) (by rw[hcl,hsz];show c.T.size q=_;rw[hsum,Nat.zero_add]) (fun f hf=>sg hmm f hf) B hp hI
      refine⟨B',hp',g1,g2,g3,.agg q vs,?_,rfl,?_,vs,rfl,g7⟩
      ·simp only[V.wf];refine⟨?_,g4⟩;unfold cQ;rw[hinfo];exact g5
      ·simp only[CR];simpa using g6
    ·cases h
   ·cases hk
  |arr q n e=>
   simp only[jK,Zj,Zi]at hk;obtain⟨⟨_,hinfo⟩,hk⟩:=hk;split at hk
   ·rename_i m u hu;simp only[Zj,Zi]at hk;obtain⟨rfl,hk⟩:=hk;simp only[DataW.trod,hu]at h;split at h
    ·rename_i hcl;cases hmm:(List.range n).mapM (fun i=>DataW.trod enc c.P w 0 (fun _=>true) true fuel u ((cs.drop (i*c.P.cellsOf u)).take (c.P.cellsOf u)))with
     |none=>rw[hmm]at h;cases h
     |some xs=>
      have hsum:c.T.size q=n*c.T.size e.tag:=(pM hT hinfo).size;obtain⟨B',hp',g1,g2,g3,vs,g0,g4,g5,g6,g7⟩:=C0 hT hm ih hk n 0 cs (by rw[hcl,hsz];show c.T.size q=_;rw[hsum,Nat.zero_add]) (fun i _ hi=>sg hmm i (List.mem_range.2 (by omega))) B hp hI;refine⟨B',hp',g1,g2,g3,.agg q vs,?_,rfl,?_,vs,rfl,g0,g7⟩
      ·simp only[V.wf];refine⟨?_,g4⟩;unfold cQ;rw[hinfo];exact⟨g0,g5⟩
      ·simp only[CR];simpa using g6
    ·cases h
   ·cases hk
  |sl rr e=>
   simp only[jK,Zj,Zi]at hk;obtain⟨⟨_,hinfo⟩,hk⟩:=hk;split at hk
   ·rename_i u hu;have hok:=sY hT hinfo;have hue:=pz hT hm (wo hk);rcases I6 hu h with rfl|⟨a,len,cap,rfl,hlc,hcm,hat⟩
    ·exact⟨B,hp,hI,Ext.refl _,List.prefix_rfl,.nils,trivial,rfl,rfl,.inl rfl⟩
    have hfirst:0<cap→a.spot=none∧∃C e0 fr,w.heap[a.block]?=some (.cells C e0 fr):=by
     intro h0;obtain⟨r,hr⟩:=hat 0 h0;cases hc0:w.cells? 0 (a.add (0*c.P.cellsOf u)) (c.P.cellsOf u)with
     |none=>rw[hc0]at hr;cases hr
     |some pc=>
      obtain⟨q1,q2⟩:=cells?_get hc0;have hp0:=hok.pos;rw[←hue]at hp0;have hcell:=q2 0 (pc[0]'(by omega)) (by simp);rw[Nat.zero_mul]at hcell;have ha:(a.add 0).add 0=a:=by simp[Addr.add]
      rw[ha]at hcell;unfold World.cell? at hcell;split at hcell
      ·rename_i C e0 fr hh;refine⟨?_,C,e0,fr,hh⟩;by_cases hs:a.spot.isSome=true
       ·rw[if_pos hs]at hcell;cases hcell
       ·simpa using hs
      ·cases hcell
    have hB0:len=0∨0<cap:=by omega
    have hels:vK c w B hp fun B' hp'=>∃vs cs',vs.length=len∧V.wfs c.T vs∧(∀v∈vs,v.tag=e.tag)∧CRs c.T B' vs cs'∧w.rangeAt a.block a.off cs'∧∀v∈vs,e.Fits hp' v:=by
     by_cases h0:0<cap
     ·have hsp:=(hfirst h0).1;have haa:a=⟨a.block,a.off,none⟩:=by rw[←hsp]
      obtain⟨B1,hp1,k1,k2,k3,vs,cs',g0,g1,g2,g3,g5,g6,g4⟩:=BS hT hm ih hk (b:=a.block) (of:=a.off) len 0 (fun i _ hi=>by rw[←haa];exact hat i (by omega)) B hp hI;exact⟨B1,hp1,k1,k2,k3,vs,cs',g0,g1,g2,g3,by simpa using g6,g4⟩
     ·exact⟨B,hp,hI,Ext.refl _,List.prefix_rfl,[],[],by simp only[List.length_nil];omega,trivial,by simp,rfl,fun j v hv=>by simp at hv,by simp⟩
    obtain⟨B1,hp1,k1,k2,k3,vs,cs',g0,g1,g2,g3,g6,g4⟩:=hels;have hlenH:B1.hp.length=hp1.length:=k1.sr.lenH;have hwf:(V.agg rr vs).wf c.T:=by simp only[V.wf];refine⟨?_,g1⟩;unfold cQ;rw[hinfo];exact g2
    have hvr:∀b:Blk,CR c.T ⟨B1.loc,B1.hp++[(⟨a.block,a.off,none⟩,rr)]⟩ (.sl (.hp hp1.length) [] 0 vs.length (some cap) e.tag) [.slice (some a) len cap]:=by
     intro _;simp only[CR];refine⟨⟨a.block,a.off,none⟩,rr,0,rr,cap,a,?_,rfl,by simp[Tab.elem,hinfo],fun n' e' hi=>(by rw[hinfo]at hi;cases hi),by omega,fun k hk=>(by cases hk;rfl),?_,fun N hN=>(by cases hN),by rw[g0]⟩
     ·simp only[BM.at];rw[←hlenH,List.getElem?_concat_length]
     ·by_cases h0:0<cap
      ·right;have hsp:=(hfirst h0).1;cases a;simp only at hsp;simp[hsp]
      ·left;omega
    by_cases hz:len=0
    ·have hpush:=k1.push (ar:=(⟨a.block,a.off,none⟩,rr)) (b:= .dead) trivial rfl;have hvs:vs=[]:=List.length_eq_zero_iff.1 (by omega);refine⟨_,_,hpush,k2.trans ⟨List.prefix_rfl,List.prefix_append _ _⟩,k3.trans (List.prefix_append _ _),.sl (.hp hp1.length) [] 0 vs.length (some cap) e.tag,trivial,rfl,?_,.inr ⟨hp1.length,vs,cap,rfl,by omega,hcm,.inl hvs,fun x hx=>Sh.Fits.mono (List.prefix_append _ _) (g4 x hx)⟩⟩;have:=hvr .dead;exact this
    ·obtain⟨hsp,C,e0,fr,hh⟩:=hfirst (by omega);have hbk:lO c.T B1 w (⟨a.block,a.off,none⟩,rr) (.ro (.agg rr vs)):=by refine⟨hwf,rfl,C,e0,fr,cs',hh,by simp only[CR];exact g3,fun i x hx=> ?_,rfl⟩;have:=g6 i x hx;rw[cell?_of hh]at this;exact this
     have hpush:=k1.push hbk rfl;refine⟨_,_,hpush,k2.trans ⟨List.prefix_rfl,List.prefix_append _ _⟩,k3.trans (List.prefix_append _ _),.sl (.hp hp1.length) [] 0 vs.length (some cap) e.tag,trivial,rfl,?_,.inr ⟨hp1.length,vs,cap,rfl,by omega,hcm,.inr (by simp),fun x hx=>Sh.Fits.mono (List.prefix_append _ _) (g4 x hx)⟩⟩;have:=hvr .dead;exact this
   ·cases hk
end opening
open Go.RowKit
def Sh.agg:Sh→Bool
 | .st _ _| .arr _ _ _=>true
 |_=>false
theorem Q3 {hp:List Blk}{sh:Sh}{v:V}(h:sh.Fits hp v):eX v=sh.agg:=by
 cases sh with
 |bool=>obtain⟨b,rfl⟩:=h;rfl
 |int k=>obtain⟨n,rfl,_⟩:=h;rfl
 |str=>obtain⟨s,rfl,_⟩:=h;rfl
 |st t l=>obtain⟨vs,rfl,_⟩:=h;rfl
 |arr t n e=>obtain⟨vs,rfl,_⟩:=h;rfl
 |sl r e=>rcases h with rfl|⟨i,l,c,rfl,_⟩<;>rfl
theorem KL {c:Cfg}{W:World}{r:Reach}{base t:Nat}{v:Value}{sh:Sh}(hk:jK c sh t=true) (h:Value.okWide c.P W r base t v):sh.agg=cC v:=by
 have leaf:∀d,c.P.underlying t=some d→d.isRow=false→(∀m,d≠ .interface m)→(∀a b,d≠ .map a b)→Value.okWide c.P W r base t v→cC v=false:=by
  intro d hu hd _ _ h;unfold Value.okWide at h;rw[hu]at h;have h':Cell.okWide c.P W r base t v:=by cases d<;>simp_all [TypeDesc.isRow]
  cases v with
  |agg cs=>
   unfold Cell.okWide at h';rw[hu]at h';cases d<;>simp_all [Cell.ok]
  |_=>rfl
 cases sh with
 |bool=>
  simp only[jK,Zj]at hk;obtain⟨_,hk⟩:=hk;split at hk
  ·rename_i hu;exact(leaf _ hu rfl (by simp) (by simp) h).symm
  ·cases hk
 |int k=>
  simp only[jK,Zj]at hk;obtain⟨_,hk⟩:=hk;split at hk
  ·rename_i hu;exact(leaf _ hu rfl (by simp) (by simp) h).symm
  ·cases hk
 |str=>
  simp only[jK,Zj]at hk;obtain⟨_,hk⟩:=hk;split at hk
  ·rename_i hu;exact(leaf _ hu rfl (by simp) (by simp) h).symm
  ·cases hk
 |sl rr e=>
  simp only[jK,Zj]at hk;obtain⟨_,hk⟩:=hk;split at hk
  ·rename_i hu;exact(leaf _ hu rfl (by simp) (by simp) h).symm
  ·cases hk
 |st q l=>
  simp only[jK,Zj]at hk;obtain⟨_,hk⟩:=hk;split at hk
  ·rename_i hu;unfold Value.okWide at h;rw[hu]at h;obtain⟨cs,rfl,_⟩:=h;rfl
  ·cases hk
 |arr q n e=>
  simp only[jK,Zj]at hk;obtain⟨_,hk⟩:=hk;split at hk
  ·rename_i hu;unfold Value.okWide at h;rw[hu]at h;obtain⟨cs,rfl,_⟩:=h;rfl
  ·cases hk
section
variable {c : Cfg} (hT : aR c.T = true) (hm : kr c = true) {H : Type} {enc : TypeId × Value → H} {w : World}
include hT hm
theorem Eu {r:Reach}{base:Nat}:∀{shs:List Sh}{ts:List TypeId}{xs:List Value}{ds:List (DataW H)}{p:List MemPlace},oJ c shs ts=true→DataW.TrodAll enc c.P w 0 (fun _=>true) true ts xs ds p→
 (∀(j:Nat) t v,ts[j]?=some t→xs[j]?=some v→Value.okWide c.P w r base t v)→∀B hp,Inv c.T w B hp→
 vK c w B hp fun B' hp'=>∃vs,ez (VR c.T B') vs xs∧Sh.FitsL hp' shs vs
 |[],[],[],[],p,_,_,_,B,hp,hI=>⟨B,hp,hI,Ext.refl _,List.prefix_rfl,[],trivial,trivial⟩
 |h::l,t::ts,x::xs,d::ds,p,hk,hA,hv,B,hp,hI=>by simp only[oJ,Zj]at hk;obtain⟨p1,p2,⟨fuel,h1⟩,h2,rfl⟩:=hA;obtain⟨B1,hp1,hI1,he1,hx1,v,g1,g2,g3,g4⟩:=NE hT hm fuel h t _ _ hk.1 h1 B hp hI;obtain⟨B2,hp2,hI2,he2,hx2,vs,g5,g6⟩:=Eu hk.2 h2 (fun j t v ht hv'=>hv (j+1) t v (by simpa using ht) (by simpa using hv')) B1 hp1 hI1;refine⟨B2,hp2,hI2,he1.trans he2,hx1.trans hx2,v::vs,⟨?_,g5⟩,Sh.Fits.mono hx2 g4,g6⟩;refine eu ⟨g1,nj (fun _ _=>he2.at) g3,?_⟩;rw[Q3 g4];exact KL hk.1 (hv 0 t x rfl rfl)
 |[],_::_,_,_,_,hk,_,_,_,_,_=>by simp[oJ]at hk
 |_::_,[],_,_,_,hk,_,_,_,_,_=>by simp[oJ]at hk
 |[],[],_::_,_,_,_,h,_,_,_,_=>by cases h
 |[],[],[],_::_,_,_,h,_,_,_,_=>by cases h
 |_::_,_::_,[],_,_,_,h,_,_,_,_=>by cases h
 |_::_,_::_,_::_,[],_,_,h,_,_,_,_=>by cases h
end
theorem Pq {D:Nat→Option Fc}{base:Nat}{keep:List Nat}{b:C}{α:Type}(ρ:α→Env) (σ:α→St) (F:α→Option (Ex×Env×St)) (μ:α→Nat) (I:α→Prop)
 (h:∀x,I x→(∃y,I y∧μ y<μ x∧F x=F y∧ah (rc D base b (restrict keep (ρ x)) (σ x)) (lL D base (σ x).loc.length keep b)=rc D base (.loop keep b) (ρ y) (σ y))∨
  ah (rc D base b (restrict keep (ρ x)) (σ x)) (lL D base (σ x).loc.length keep b)=F x) (x:α) (hx:I x):rc D base (.loop keep b) (ρ x) (σ x)=F x:=by
 have key:∀n x,μ x=n→I x→rc D base (.loop keep b) (ρ x) (σ x)=F x:=by
  intro n
  induction n using Nat.strongRecOn with
  |_ n ih=>
   intro x hn hx;rw[aa];rcases h x hx with⟨y,h1,h2,h3,h4⟩|h1
   ·rw[h4,h3];exact ih (μ y) (by omega) y rfl h1
   ·exact h1
 exact key _ x rfl hx
theorem bC {D:Nat→Option Fc}{base:Nat}{keep:List Nat}{b:C}{α:Type}(ρ:α→Env) (σ:α→St) (F:α→Option (Ex×Env×St)) (μ:α→Nat) (I:α→Prop) (x:α)
 (h:∀x,I x→(∃y,I y∧μ y<μ x∧F x=F y∧ah (rc D base b (restrict keep (ρ x)) (σ x)) (lL D base (σ x).loc.length keep b)=rc D base (.loop keep b) (ρ y) (σ y))∨
  ah (rc D base b (restrict keep (ρ x)) (σ x)) (lL D base (σ x).loc.length keep b)=F x) (hx:I x) {ρ0:Env}{s0:St}(hρ:ρ0=ρ x) (hs:s0=σ x):rc D base (.loop keep b) ρ0 s0=F x:=by
 subst hρ;subst hs;exact Pq ρ σ F μ I h x hx
theorem o7 {D:Nat→Option Fc}{base:Nat}{keep:List Nat}{b:C}{α:Type}(ρ:α→Env) (σ:α→St) (Q:Ex×Env×St→Prop) (μ:α→Nat) (I:α→Prop) (x:α)
 (h:∀x,I x→(∃y,I y∧μ y<μ x∧ah (rc D base b (restrict keep (ρ x)) (σ x)) (lL D base (σ x).loc.length keep b)=rc D base (.loop keep b) (ρ y) (σ y))∨
  ∃r,ah (rc D base b (restrict keep (ρ x)) (σ x)) (lL D base (σ x).loc.length keep b)=some r∧Q r) (hx:I x) {ρ0:Env}{s0:St}(hρ:ρ0=ρ x) (hs:s0=σ x):∃r,rc D base (.loop keep b) ρ0 s0=some r∧Q r:=by
 subst hρ;subst hs;have key:∀n x,μ x=n→I x→∃r,rc D base (.loop keep b) (ρ x) (σ x)=some r∧Q r:=by
  intro n
  induction n using Nat.strongRecOn with
  |_ n ih=>
   intro x hn hx;rw[aa];rcases h x hx with⟨y,h1,h2,h4⟩|⟨r,h1,h2⟩
   ·rw[h4];exact ih (μ y) (by omega) y rfl h1
   ·exact⟨r,h1,h2⟩
 exact key _ x rfl hx
theorem zg:∀{p q:List Nat}{v u:V},V.at p v=some u→V.at (p++q) v=V.at q u
 |[],q,v,u,h=>by simp only[V.at,Zg]at h;subst h;rfl
 |i::p,q,v,u,h=>by
  cases v with
  |agg t l=>
   simp only[V.at]at h;cases hy:l[i]? with
   |none=>rw[hy]at h;cases h
   |some y=>
    rw[hy]at h;simp only[List.cons_append,V.at,hy];exact zg h
  |_=>cases h
theorem Ax {s:St}{a:Loc}{p q:List Nat}{u:V}(h:s.read a p=some u):s.read a (p++q)=V.at q u:=by
 unfold St.read at h⊢;split at h
 ·exact zg h
 ·exact zg h
 ·cases h
structure oQ (s s':St):Prop where
 loc:s.loc<+:s'.loc
 hp:s.hp<+:s'.hp
theorem oQ.refl (s:St):oQ s s:=⟨List.prefix_rfl,List.prefix_rfl⟩
theorem oQ.app (s:St) (l h:List Blk):oQ s ⟨s.loc++l,s.hp++h⟩:=⟨List.prefix_append _ _,List.prefix_append _ _⟩
theorem oQ.trans {s s' s'':St}(h:oQ s s') (h':oQ s' s''):oQ s s'':=⟨h.loc.trans h'.loc,h.hp.trans h'.hp⟩
theorem oQ.at {s s':St}(h:oQ s s') {a:Loc}{b:Blk}(hb:s.at a=some b):s'.at a=some b:=by
 cases a with
 |loc i=>exact eH h.loc hb
 |hp i=>exact eH h.hp hb
theorem oQ.read {s s':St}(h:oQ s s') {a:Loc}{p:List Nat}{u:V}(hr:s.read a p=some u):s'.read a p=some u:=by
 unfold St.read at hr⊢;cases hs:s.at a with
 |none=>rw[hs]at hr;cases hr
 |some b=>rw[h.at hs];rw[hs]at hr;exact hr
theorem oQ.len {s s':St}(h:oQ s s'):s.loc.length≤s'.loc.length:=h.loc.length_le
def RS (s:St) (e:Nat) (v:V) (l:List V):Prop:=
 (v= .nils∧l=[])∨∃a p off cp,v= .sl a p off l.length cp e∧(∀c,cp=some c→l.length≤c)∧v.locLt s.loc.length=true∧
  (l=[]∨∃r L,s.read a p=some (.agg r L)∧(∀(j:Nat) x,l[j]?=some x→L[off+j]?=some x))
theorem LQ {hp:List Blk}{r:Nat}{sh:Sh}{v:V}(h:(Sh.sl r sh).Fits hp v):∃l,RS ⟨[],hp⟩ sh.tag v l∧v.locLt 0=true∧l.length≤maxLen∧∀x∈l,sh.Fits hp x:=by
 rcases h with rfl|⟨i,l,c,rfl,h1,h2,h3,h4⟩
 ·exact⟨[],.inl ⟨rfl,rfl⟩,by simp[V.locLt],by simp,by simp⟩
 ·refine⟨l,.inr ⟨.hp i,[],0,some c,rfl,fun k hk=>(by cases hk;exact h1),by simp[V.locLt],?_⟩,by simp[V.locLt],by omega,h4⟩;rcases h3 with h3|h3
  ·exact .inl h3
  ·exact .inr ⟨r,l,by simp only[qS,h3,Ld,nX],fun j x hx=>by rw[Nat.zero_add];exact hx⟩
theorem RS.more {s s':St}{e:Nat}{v:V}{l:List V}(h:RS s e v l) (hm:oQ s s'):RS s' e v l:=by
 rcases h with h|⟨a,p,off,cp,rfl,h1,h2,h3⟩
 ·exact .inl h
 ·refine .inr ⟨a,p,off,cp,rfl,h1,bE hm.len h2,?_⟩;rcases h3 with h3|⟨r,L,h4,h5⟩
  ·exact .inl h3
  ·exact .inr ⟨r,L,hm.read h4,h5⟩
section
variable {s : St} {e : Nat} {v : V} {l : List V}
theorem RS.slen (h:RS s e v l):V.slen false v=some l.length:=by rcases h with⟨rfl,rfl⟩|⟨a,p,off,c,rfl,_⟩<;>rfl
def elp (v:V) (j:Nat):V:=match v with
 | .sl a p off _ _ e=> .ptr a (p++[off+j]) e
 |_=> .dead
theorem RS.sad (h:RS s e v l) {j:Nat}(hj:j<l.length) {k:IntKind}:eD e v (.int k (j:Int))=some (elp v j):=by
 rcases h with⟨rfl,rfl⟩|⟨a,p,off,c,rfl,_⟩
 ·simp at hj
 ·simp only[eD,elp,Zh];rw[if_pos ⟨trivial,by omega,by omega⟩]
theorem RS.ld (h:RS s e v l) {j:Nat}(hj:j<l.length):ldv s e (elp v j)=some l[j]:=by
 rcases h with⟨rfl,rfl⟩|⟨a,p,off,c,rfl,_,_,h⟩
 ·simp at hj
 ·rcases h with h|⟨r,L,h1,h2⟩
  ·subst h;simp at hj
  ·simp only[ldv,elp,if_true];rw[Ax h1];simp only[DC,h2 j l[j] (by simp[hj]),aP,nX]
theorem RS.locLt (h:RS s e v l):v.locLt s.loc.length=true:=by
 rcases h with⟨rfl,rfl⟩|⟨a,p,off,c,rfl,_,h,_⟩
 ·simp[V.locLt]
 ·exact h
theorem RS.ok (h:RS s e v l):v.ok=true:=by rcases h with⟨rfl,rfl⟩|⟨a,p,off,c,rfl,_⟩<;>rfl
theorem RS.tag (h:RS s e v l):v.tag=1:=by rcases h with⟨rfl,rfl⟩|⟨a,p,off,c,rfl,_⟩<;>rfl
theorem RS.elems (h:RS s e v l):s.elems v=some l:=by
 rcases h with⟨rfl,rfl⟩|⟨a,p,off,c,rfl,_,_,h⟩
 ·rfl
 ·simp only[St.elems];rcases h with h|⟨r,L,h1,h2⟩
  ·subst h;rfl
  ·by_cases hl:l.length=0
   ·rw[if_pos hl,List.length_eq_zero_iff.1 hl]
   ·rw[if_neg hl,h1];simp only;have h3:=h2 (l.length-1) (l[l.length-1]'(by omega)) (by simp);have h4:=(List.getElem?_eq_some_iff.1 h3).1;rw[if_pos (by omega)];refine congrArg some ?_;apply List.ext_getElem?;intro j;rw[List.getElem?_take];split
    ·rename_i hj;rw[List.getElem?_drop,h2 j l[j] (by simp[hj])];simp[hj]
    ·rw[List.getElem?_eq_none (by omega)]
theorem RS.take (h:RS s e v l) {n:Nat}(hn:n≤l.length) {k:IntKind}:∃v',gU e none (some (.int k (n:Int))) none v=some v'∧RS s e v' (l.take n)∧(v.locLt 0=true→v'.locLt 0=true):=by
 rcases h with⟨rfl,rfl⟩|⟨a,p,off,cp,rfl,hc,hlt,h⟩
 ·have:n=0:=by simpa using hn
  subst this;exact⟨.nils,by simp[gU,ao,aP],.inl ⟨rfl,rfl⟩,fun h=>h⟩
 ·have hl:(l.take n).length=n:=by simp[hn]
  have hn':n≤cp.getD l.length:=by
   cases cp with
   |none=>exact hn
   |some c=>exact Nat.le_trans hn (hc c rfl)
  refine⟨.sl a p off n (nI false cp (cp.getD l.length)) e,?_,.inr ⟨a,p,off,_,by rw[hl],?_,?_,?_⟩,?_⟩
  ·simp only[gU,if_true,ao,aP,kL,Option.isSome_none,Bool.false_eq_true,if_false];rw[if_pos ⟨by omega,by omega⟩];simp[aP]
  ·intro c hk;rw[hl];cases cp with
   |none=>simp[nI]at hk
   |some c'=>
    simp only[nI,Option.isSome_some,Bool.or_true,if_true,Zg,Option.getD_some]at hk hn';omega
  ·cases a
   ·simpa[V.locLt]using hlt
   ·simp[V.locLt]
  ·rcases h with h|⟨r,L,h1,h2⟩
   ·left;simp[h]
   ·right;refine⟨r,L,h1,fun j x hx=> ?_⟩;rw[List.getElem?_take]at hx;split at hx
    ·exact h2 j x hx
    ·cases hx
  ·intro hz;cases a
   ·simp[V.locLt]at hz
   ·simp[V.locLt]
end
theorem RS.at_loc {L:List Blk}{hp:List Blk}{i r e n:Nat}{l:List V}(h:L[i]?=some (.rw (.agg r l))) (hn:n=l.length) {cp:Option Nat}(hc:∀c,cp=some c→n≤c):RS ⟨L,hp⟩ e (.sl (.loc i) [] 0 n cp e) l:=by
 subst hn;refine .inr ⟨.loc i,[],0,cp,rfl,hc,?_,.inr ⟨r,l,?_,fun j x hx=>by rw[Nat.zero_add];exact hx⟩⟩
 ·simp only[V.locLt];exact decide_eq_true (List.getElem?_eq_some_iff.1 h).1
 ·simp only[tA,h,xm,nX]
section
variable {hp : List Blk} {a b c d : Sh} {vs : List V}
theorem Xi (h:Sh.FitsL hp [] vs):vs=[]:=by
 cases vs with
 |nil=>rfl
 |cons _ _=>exact h.elim
theorem LW {l:List Sh}(h:Sh.FitsL hp (a::l) vs):∃x r,vs=x::r∧a.Fits hp x∧Sh.FitsL hp l r:=by
 cases vs with
 |nil=>exact h.elim
 |cons x r=>exact⟨x,r,rfl,h.1,h.2⟩
theorem WP (h:Sh.FitsL hp [a] vs):∃x,vs=[x]∧a.Fits hp x:=by obtain⟨x,r,rfl,h1,h2⟩:=LW h;rw[Xi h2];exact⟨x,rfl,h1⟩
theorem Ru (h:Sh.FitsL hp [a,b] vs):∃x y,vs=[x,y]∧a.Fits hp x∧b.Fits hp y:=by obtain⟨x,r,rfl,h1,h2⟩:=LW h;obtain⟨y,rfl,h3⟩:=WP h2;exact⟨x,y,rfl,h1,h3⟩
theorem RA (h:Sh.FitsL hp [a,b,c] vs):∃x y z,vs=[x,y,z]∧a.Fits hp x∧b.Fits hp y∧c.Fits hp z:=by obtain⟨x,r,rfl,h1,h2⟩:=LW h;obtain⟨y,z,rfl,h3,h4⟩:=Ru h2;exact⟨x,y,z,rfl,h1,h3,h4⟩
end
theorem UA (T:Tab) (w:World):Inv T w ⟨[],[]⟩ []:=by
 refine⟨⟨rfl,rfl,?_,?_,?_,?_⟩,by simp⟩
 ·intro a b ar hs;cases a<;>simp[St.at]at hs
 ·intro a a' ar ar' v b' hs;cases a<;>simp[St.at]at hs
 ·intro a v ar hs;cases a<;>simp[St.at]at hs
 ·intro i b hi;simp at hi
theorem law_calls {c:Cfg}{D:Nat→Option Fc}(hC:Ctx c D) {f:Nat}{shs:List Sh}{ts:List TypeId}(hok:oJ c shs ts=true) {H:Type}{enc:TypeId×Value→H}{W:World}{r:Reach}{base:Nat}{args:Array Value}{ds:List (DataW H)}{p:List MemPlace}
 {gB:BM}{ghp:List Blk}(hI:Inv c.T W gB ghp) (hG:fb c.gl gB) (hA:DataW.TrodAll enc c.P W 0 (fun _=>true) true ts args.toList ds p)
 (hv:∀(j:Nat) t v,ts[j]?=some t→args.toList[j]?=some v→Value.okWide c.P W r base t v)
 (law:∀hp vs,ghp<+:hp→Sh.FitsL hp shs vs→∃s',rf D f vs ⟨[],hp⟩=some (.bool true,s')):
 Calls c.P f args W fun e W'=>e= .returned (.bool true)∧Below W.heap.size W W':=by
 obtain⟨B,hp,hI2,he,hx,vs,h1,h2⟩:=Eu hC.hT hC.hm hok hA hv gB ghp hI;obtain⟨s',hs⟩:=law hp vs hx h2;refine(IR hC hs h1 hI2.sr (hG.ext he) (Nat.le_refl _)).mono ?_;rintro e W' ⟨x,B',rfl,g1,g2⟩;rw[bn]at g1;subst g1;refine⟨rfl,g2.frm.os,g2.frm.tape,g2.frm.output,g2.frm.size,fun k hk=>g2.frm.block k hk ?_⟩;rintro⟨a,v,ar,q1,qm,_,_⟩;cases a with
 |loc i=>simp[St.at]at q1
 |hp i=>rw[hI2.ro v (List.mem_of_getElem? (show hp[i]?=some v from q1))]at qm;cases qm
theorem EI {P:Program}(hl:laidOutB P=true) {H:Type}{enc:TypeId×Value→H}{W W':World}(hb:Below W.heap.size W W'):∀{ts:List TypeId}{xs:List Value}{ds:List (DataW H)}{p:List MemPlace},
 ts.all (fun t=>P.readableRec t&&decide (t<P.types.size))=true→DataW.TrodAll enc P W 0 (fun _=>true) true ts xs ds p→DataW.TrodAll enc P W' 0 (fun b=>decide (b<W.heap.size)) true ts xs ds p
 |[],[],[],_,_,h=>h
 |t::ts,x::xs,d::ds,p,hk,hA=>by simp only[List.all_cons,Zj,Zi]at hk;obtain⟨p1,p2,h1,h2,rfl⟩:=hA;refine⟨p1,p2,Below.trod hl hk.1.1 hk.1.2 h1 hb ?_,EI hl hb (by simpa using hk.2) h2,rfl⟩;obtain⟨m,hm⟩:=h1;exact DataW.trod_lt m _ _ _ hm
 |[],_::_,_,_,_,h=>by cases h
 |[],[],_::_,_,_,h=>by cases h
 |_::_,[],_,_,_,h=>by cases h
 |_::_,_::_,[],_,_,h=>by cases h
end Go.Ab
