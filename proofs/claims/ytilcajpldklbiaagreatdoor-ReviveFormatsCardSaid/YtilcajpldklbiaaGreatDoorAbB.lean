/-
  YtilcajpldklbiaaGreatDoorAbB: an abstract semantics of the program's code, and that what it tells holds of the program (part B).
-/
import Derived.Test.YtilcajpldklbiaaGreatDoorAbG
import Derived.Below
import Derived.Deep.MidRow
import Derived.Calls
import Derived.Tactics
import Derived.Laws.Entries
import Derived.Laws.StructEq
set_option maxRecDepth 100000
namespace Go.Ab
inductive TI where
 |st (fs:List Nat)
 |arr (n e:Nat)
 |row (e:Nat)
 deriving DecidableEq,Inhabited
abbrev Tab:=List (Nat×TI×Nat)
def Tab.find (T:Tab) (t:Nat):Option (TI×Nat):=
 match T with
 |[]=>none
 |(k,x)::r=>if k=t then some x else Tab.find r t
def Tab.info (T:Tab) (t:Nat):Option TI:=(T.find t).map (·.1)
def Tab.size (T:Tab) (t:Nat):Nat:=match T.find t with|some x=>x.2|none=>1
def Tab.sum (T:Tab):List Nat→Nat
 |[]=>0
 |t::r=>T.size t+T.sum r
def Tab.noRow (T:Tab) (t:Nat):Bool:=match T.find t with
 |some (.row _,_)=>false
 |_=>true
def AE (T:Tab) (t:Nat) (x:TI×Nat):Bool:=
 decide (20≤t)&&match x.1 with
  | .st fs=>decide (x.2=T.sum fs)&&fs.all (fun c=>decide (0<T.size c)&&T.noRow c)&&(decide (t%2=1)||fs.all (fun c=>decide (c%2=0)))
  | .arr n e=>decide (x.2=n*T.size e)&&decide (0<T.size e)&&T.noRow e&&(decide (t%2=1)||decide (e%2=0))
  | .row e=>decide (0<T.size e)&&T.noRow e&&(decide (t%2=1)||decide (e%2=0))
def aR (T:Tab):Bool:=T.all fun p=>AE T p.1 p.2
theorem Tab.find_mem {T:Tab}{t:Nat}{x:TI×Nat}(h:T.find t=some x):(t,x)∈T:=by
 induction T with
 |nil=>cases h
 |cons p r ih=>
  obtain⟨k,y⟩:=p;simp only[Tab.find]at h;by_cases hk:k=t
  ·rw[if_pos hk]at h;cases h;subst hk;exact List.mem_cons_self
  ·rw[if_neg hk]at h;exact List.mem_cons_of_mem _ (ih h)
theorem vR {T:Tab}(hT:aR T=true) {t:Nat}{x:TI×Nat}(h:T.find t=some x):AE T t x=true:=
 List.all_eq_true.1 hT _ (Tab.find_mem h)
structure XH (T:Tab) (t:Nat) (fs:List Nat):Prop where
 ge:20≤t
 size:T.size t=T.sum fs
 pos:∀c∈fs,0<T.size c
 nr:∀c∈fs,T.noRow c=true
 pf:t%2=0→∀c∈fs,c%2=0
structure XE (T:Tab) (t n e:Nat):Prop where
 ge:20≤t
 size:T.size t=n*T.size e
 pos:0<T.size e
 nr:T.noRow e=true
 pf:t%2=0→e%2=0
structure W1 (T:Tab) (t e:Nat):Prop where
 ge:20≤t
 pos:0<T.size e
 nr:T.noRow e=true
 pf:t%2=0→e%2=0
theorem Bi {T:Tab}(hT:aR T=true) {t:Nat}{fs:List Nat}(h:T.info t=some (.st fs)):XH T t fs:=by
 unfold Tab.info at h;cases hf:T.find t with
 |none=>rw[hf]at h;cases h
 |some x=>
  obtain⟨ti,sz⟩:=x;rw[hf]at h;cases h;have h1:=vR hT hf;simp only[AE,Zj,Bool.or_eq_true,Zi,List.all_eq_true]at h1;refine⟨h1.1,by unfold Tab.size;rw[hf];exact h1.2.1.1,fun c hc=>(h1.2.1.2 c hc).1,fun c hc=>(h1.2.1.2 c hc).2,fun hp c hc=> ?_⟩;rcases h1.2.2 with h2|h2
  ·omega
  ·exact h2 c hc
theorem pM {T:Tab}(hT:aR T=true) {t n e:Nat}(h:T.info t=some (.arr n e)):XE T t n e:=by
 unfold Tab.info at h;cases hf:T.find t with
 |none=>rw[hf]at h;cases h
 |some x=>
  obtain⟨ti,sz⟩:=x;rw[hf]at h;cases h;have h1:=vR hT hf;simp only[AE,Zj,Bool.or_eq_true,Zi]at h1;refine⟨h1.1,by unfold Tab.size;rw[hf];exact h1.2.1.1.1,h1.2.1.1.2,h1.2.1.2,fun hp=> ?_⟩;rcases h1.2.2 with h2|h2
  ·omega
  ·exact h2
theorem sY {T:Tab}(hT:aR T=true) {t e:Nat}(h:T.info t=some (.row e)):W1 T t e:=by
 unfold Tab.info at h;cases hf:T.find t with
 |none=>rw[hf]at h;cases h
 |some x=>
  obtain⟨ti,sz⟩:=x;rw[hf]at h;cases h;have h1:=vR hT hf;simp only[AE,Zj,Bool.or_eq_true,Zi]at h1;refine⟨h1.1,h1.2.1.1,h1.2.1.2,fun hp=> ?_⟩;rcases h1.2.2 with h2|h2
  ·omega
  ·exact h2
theorem ft {T:Tab}(hT:aR T=true) {t:Nat}(ht:t<20):T.size t=1:=by
 unfold Tab.size;cases hf:T.find t with
 |none=>rfl
 |some x=>
  have h1:=vR hT hf;simp only[AE,Zj,Zi]at h1;omega
theorem dv {T:Tab}(hT:aR T=true) {t:Nat}(ht:t<20):T.info t=none:=by
 unfold Tab.info;cases hf:T.find t with
 |none=>rfl
 |some x=>
  have h1:=vR hT hf;simp only[AE,Zj,Zi]at h1;omega
def Tab.elem (T:Tab) (t:Nat):Option Nat:=
 match T.info t with
 |some (.arr _ e)=>some e
 |some (.row e)=>some e
 |_=>none
def ci (T:Tab):Nat→List Nat→Option (Nat×Nat)
 |t,[]=>some (0,t)
 |t,i::p=>match T.info t with
  |some (.st fs)=>match fs[i]? with
   |some c=>(ci T c p).map fun x=>(T.sum (fs.take i)+x.1,x.2)
   |none=>none
  |some (.arr n e)=>if i<n then(ci T e p).map fun x=>(i*T.size e+x.1,x.2)else none
  |some (.row e)=>(ci T e p).map fun x=>(i*T.size e+x.1,x.2)
  |none=>none
def cQ (T:Tab) (t:Nat) (l:List V):Prop:=
 match T.info t with
 |some (.st fs)=>l.map V.tag=fs
 |some (.arr n e)=>l.length=n∧∀x∈l,x.tag=e
 |some (.row e)=>∀x∈l,x.tag=e
 |none=>False
mutual
def V.wf (T:Tab):V→Prop
 | .dead=>False
 | .tup _=>False
 | .agg t l=>cQ T t l∧V.wfs T l
 |_=>True
def V.wfs (T:Tab):List V→Prop
 |[]=>True
 |v::l=>v.wf T∧V.wfs T l
end
theorem tj {T:Tab}{l:List V}:V.wfs T l↔∀x∈l,x.wf T:=by
 induction l with
 |nil=>simp[V.wfs]
 |cons v l ih=>simp[V.wfs,ih]
structure BM where
 loc:List (Addr×Nat)
 hp:List (Addr×Nat)
def BM.at (B:BM):Loc→Option (Addr×Nat)
 | .loc i=>B.loc[i]?
 | .hp i=>B.hp[i]?
mutual
def CR (T:Tab) (B:BM):V→List Value→Prop
 | .dead,_=>False
 | .tup _,_=>False
 | .bool b,cs=>cs=[.bool b]
 | .int k n,cs=>cs=[.int k n]
 | .str s,cs=>cs=[.string s]
 | .nilp,cs=>cs=[.pointer none]
 | .ptr a p t,cs=>∃ad r o,B.at a=some (ad,r)∧ci T r p=some (o,t)∧cs=[.pointer (some ⟨ad.block,ad.off+o,none⟩)]
 | .nils,cs=>cs=[.slice none 0 0]
 | .sl a p off len cap e,cs=>∃ad r o u c' ad',B.at a=some (ad,r)∧ci T r p=some (o,u)∧T.elem u=some e∧(∀n e,T.info u=some (.arr n e)→off+len≤n)∧len≤c'∧(∀c,cap=some c→c'=c)∧
  (c'=0∨ad'=⟨ad.block,ad.off+(o+off*T.size e),none⟩)∧(∀N,ad.spot=some N→ad.off+(o+off*T.size e)+c'*T.size e≤N)∧cs=[.slice (some ad') len c']
 | .fn f caps,cs=>∃vs:Array Value,CRs T B caps vs.toList∧V.wfs T caps∧(∀v∈caps,v.tag=1)∧cs=[.func (.func f) #[] vs]
 | .nilf,cs=>cs=[.nilFunc]
 | .mp none,cs=>cs=[.map none]
 | .mp (some i),cs=>∃ad,B.at (.hp i)=some (ad,3)∧cs=[.map (some ad.block)]
 | .agg _ l,cs=>CRs T B l cs
def CRs (T:Tab) (B:BM):List V→List Value→Prop
 |[],cs=>cs=[]
 |v::l,cs=>∃a b,cs=a++b∧CR T B v a∧CRs T B l b
end
theorem zR (k:IntKind):jL k<20:=by cases k<;>decide
theorem Ej {T:Tab}{t:Nat}(h:T.noRow t=true) (e:Nat):T.info t≠some (.row e):=by
 unfold Tab.noRow at h;unfold Tab.info;intro hi;cases hf:T.find t with
 |none=>rw[hf]at hi;cases hi
 |some x=>
  obtain⟨ti,sz⟩:=x;rw[hf]at hi h;cases hi;cases h
theorem jk {T:Tab}{e:Nat}:∀{l:List V},(∀x∈l,x.tag=e)→T.sum (l.map V.tag)=l.length*T.size e
 |[],_=>by simp[Tab.sum]
 |v::l,h=>by rw[List.map_cons,Tab.sum,jk (fun x hx=>h x (List.mem_cons_of_mem _ hx)),h v List.mem_cons_self,List.length_cons,Nat.succ_mul];omega
mutual
theorem mU {T:Tab}{B:BM}(hT:aR T=true):∀{v:V}{cs:List Value},v.wf T→CR T B v cs→T.noRow v.tag=true→cs.length=T.size v.tag
 | .dead,_,_,h,_=>by simp[CR]at h
 | .tup _,_,_,h,_=>by simp[CR]at h
 | .bool _,_,_,h,_=>by simp only[CR]at h;subst h;exact(ft hT (t:=0) (by decide)).symm
 | .int k _,_,_,h,_=>by simp only[CR]at h;subst h;exact(ft hT (zR k)).symm
 | .str _,_,_,h,_=>by simp only[CR]at h;subst h;exact(ft hT (t:=2) (by decide)).symm
 | .nilp,_,_,h,_=>by simp only[CR]at h;subst h;exact(ft hT (t:=1) (by decide)).symm
 | .ptr _ _ _,_,_,h,_=>by simp only[CR]at h;obtain⟨_,_,_,_,_,rfl⟩:=h;exact(ft hT (t:=1) (by decide)).symm
 | .nils,_,_,h,_=>by simp only[CR]at h;subst h;exact(ft hT (t:=1) (by decide)).symm
 | .sl _ _ _ _ _ _,_,_,h,_=>by simp only[CR]at h;obtain⟨_,_,_,_,_,_,_,_,_,_,_,_,_,_,rfl⟩:=h;exact(ft hT (t:=1) (by decide)).symm
 | .fn _ _,_,_,h,_=>by simp only[CR]at h;obtain⟨_,_,_,_,rfl⟩:=h;exact(ft hT (t:=1) (by decide)).symm
 | .nilf,_,_,h,_=>by simp only[CR]at h;subst h;exact(ft hT (t:=1) (by decide)).symm
 | .mp none,_,_,h,_=>by simp only[CR]at h;subst h;exact(ft hT (t:=1) (by decide)).symm
 | .mp (some _),_,_,h,_=>by simp only[CR]at h;obtain⟨_,_,rfl⟩:=h;exact(ft hT (t:=1) (by decide)).symm
 | .agg t l,cs,hw,h,hr=>by
  simp only[CR]at h;simp only[V.wf]at hw;have hl:=zu hT hw.2 h;unfold cQ at hw;simp only[V.tag]at hr⊢;cases hi:T.info t with
  |none=>rw[hi]at hw;exact hw.1.elim
  |some ti=>
   rw[hi]at hw;cases ti with
   |st fs=>
    simp only at hw;have hok:=Bi hT hi;rw[hl (fun x hx=>hok.nr _ (by rw[←hw.1];exact List.mem_map_of_mem hx)),hok.size,←hw.1]
   |arr n e=>
    simp only at hw;have hok:=pM hT hi;rw[hl (fun x hx=>by rw[hw.1.2 x hx];exact hok.nr),hok.size,jk hw.1.2,hw.1.1]
   |row e=>exact absurd hi (Ej hr e)
theorem zu {T:Tab}{B:BM}(hT:aR T=true):∀{l:List V}{cs:List Value},V.wfs T l→CRs T B l cs→(∀x∈l,T.noRow x.tag=true)→cs.length=T.sum (l.map V.tag)
 |[],_,_,h,_=>by simp only[CRs]at h;subst h;rfl
 |v::l,_,hw,h,hr=>by simp only[CRs]at h;obtain⟨a,b,rfl,ha,hb⟩:=h;simp only[V.wfs]at hw;rw[List.length_append,mU hT hw.1 ha (hr v List.mem_cons_self),zu hT hw.2 hb (fun x hx=>hr x (List.mem_cons_of_mem _ hx))];rfl
end
theorem jC {T:Tab}{B:BM}(hT:aR T=true):∀{l:List V}{cs:List Value}{i:Nat}{y:V},V.wfs T l→CRs T B l cs→(∀x∈l,T.noRow x.tag=true)→l[i]?=some y→
 ∃a b c,cs=a++b++c∧a.length=T.sum ((l.take i).map V.tag)∧y.wf T∧CR T B y b∧∀y' b',CR T B y' b'→CRs T B (l.set i y') (a++b'++c)
 |[],_,_,_,_,_,_,h=>by simp at h
 |v::l,cs,0,y,hw,h,hr,hy=>by simp only[List.getElem?_cons_zero,Zg]at hy;subst hy;simp only[CRs]at h;obtain⟨a,b,rfl,ha,hb⟩:=h;simp only[V.wfs]at hw;refine⟨[],a,b,by simp,rfl,hw.1,ha,fun y' b' hy'=> ?_⟩;simp only[List.set_cons_zero,CRs];exact⟨b',b,by simp,hy',hb⟩
 |v::l,cs,i+1,y,hw,h,hr,hy=>by
  simp only[List.getElem?_cons_succ]at hy;simp only[CRs]at h;obtain⟨a,b,rfl,ha,hb⟩:=h;simp only[V.wfs]at hw;obtain⟨a1,b1,c1,rfl,hl,hwy,hcy,hset⟩:=jC hT hw.2 hb (fun x hx=>hr x (List.mem_cons_of_mem _ hx)) hy;refine⟨a++a1,b1,c1,by simp,?_,hwy,hcy,fun y' b' hy'=> ?_⟩
  ·rw[List.length_append,mU hT hw.1 ha (hr v List.mem_cons_self),hl];rfl
  ·simp only[List.set_cons_succ,CRs];exact⟨a,a1++b'++c1,by simp,ha,hset _ _ hy'⟩
theorem JI {T:Tab}{l:List V}{i:Nat}{y:V}(h:V.wfs T l) (hy:y.wf T):V.wfs T (l.set i y):=by
 rw[tj]at*;intro x hx;rcases List.mem_or_eq_of_mem_set hx with h1|h1
 ·exact h x h1
 ·rw[h1];exact hy
theorem yI {l:List V}{i:Nat}{y y':V}(hy:l[i]?=some y) (ht:y'.tag=y.tag):(l.set i y').map V.tag=l.map V.tag:=by
 apply List.ext_getElem?;intro j;simp only[List.getElem?_map,List.getElem?_set];by_cases hj:i=j
 ·subst hj;by_cases hl:i<l.length
  ·have:=(List.getElem?_eq_some_iff.1 hy).2;simp[hl,ht,this]
  ·rw[List.getElem?_eq_none (by omega)]at hy;cases hy
 ·simp[hj]
theorem wV {T:Tab}{B:BM}(hT:aR T=true):∀{p:List Nat}{v u:V}{cs:List Value}{o t:Nat},v.wf T→CR T B v cs→V.at p v=some u→ci T v.tag p=some (o,t)→
 ∃a b c,cs=a++b++c∧a.length=o∧u.wf T∧u.tag=t∧CR T B u b∧(p≠[]→T.noRow t=true)∧
  ∀x d,x.wf T→x.tag=t→CR T B x d→∃v',V.setAt p x v=some v'∧v'.wf T∧v'.tag=v.tag∧CR T B v' (a++d++c)
 |[],v,u,cs,o,t,hw,hc,hat,ho=>by simp only[V.at,Zg]at hat;simp only[ci,Zg,Zk]at ho;subst hat;obtain⟨rfl,rfl⟩:=ho;exact⟨[],cs,[],by simp,rfl,hw,rfl,hc,fun h=>absurd rfl h,fun x d hx ht hd=>⟨x,rfl,hx,ht,by simpa using hd⟩⟩
 |i::p,v,u,cs,o,t,hw,hc,hat,ho=>by
  cases v with
  |agg q l=>
   simp only[V.at]at hat;cases hy:l[i]? with
   |none=>rw[hy]at hat;cases hat
   |some y=>
    rw[hy]at hat;simp only[V.wf]at hw;simp only[CR]at hc;obtain⟨hag,hwl⟩:=hw;simp only[V.tag,ci]at ho;have hym:y∈l:=List.mem_of_getElem? hy;have hil:i<l.length:=(List.getElem?_eq_some_iff.1 hy).1;have key:∃o1,ci T y.tag p=some (o1,t)∧o=T.sum ((l.take i).map V.tag)+o1∧(∀x∈l,T.noRow x.tag=true)∧∀y':V,y'.tag=y.tag→cQ T q (l.set i y'):=by
     unfold cQ at hag⊢;cases hi:T.info q with
     |none=>rw[hi]at hag;exact hag.elim
     |some ti=>
      rw[hi]at hag ho;cases ti with
      |st fs=>
       simp only at hag ho;have hok:=Bi hT hi;have hfi:fs[i]?=some y.tag:=by rw[←hag,List.getElem?_map,hy];rfl
       rw[hfi]at ho;simp only[Option.map_eq_some_iff]at ho;obtain⟨x,hx,hxe⟩:=ho;obtain⟨o1,t1⟩:=x;cases hxe;refine⟨o1,hx,by rw[←hag,List.map_take],fun x hx=>hok.nr _ (by rw[←hag];exact List.mem_map_of_mem hx),fun y' hy'=> ?_⟩;rw[yI hy hy'];exact hag
      |arr n e=>
       simp only at hag ho;have hok:=pM hT hi;by_cases hin:i<n
       ·rw[if_pos hin]at ho;simp only[Option.map_eq_some_iff]at ho;obtain⟨x,hx,hxe⟩:=ho;obtain⟨o1,t1⟩:=x;cases hxe;refine⟨o1,by rw[hag.2 y hym];exact hx,?_,fun x hx=>by rw[hag.2 x hx];exact hok.nr,fun y' hy'=>⟨by rw[List.length_set];exact hag.1,fun x hx=> ?_⟩⟩
        ·rw[jk (fun x hx=>hag.2 x (List.mem_of_mem_take hx)),List.length_take,Nat.min_eq_left (by omega)]
        ·rcases List.mem_or_eq_of_mem_set hx with h1|h1
         ·exact hag.2 x h1
         ·rw[h1,hy'];exact hag.2 y hym
       ·rw[if_neg hin]at ho;cases ho
      |row e=>
       simp only at hag ho;have hok:=sY hT hi;simp only[Option.map_eq_some_iff]at ho;obtain⟨x,hx,hxe⟩:=ho;obtain⟨o1,t1⟩:=x;cases hxe;refine⟨o1,by rw[hag y hym];exact hx,?_,fun x hx=>by rw[hag x hx];exact hok.nr,fun y' hy'=>fun x hx=> ?_⟩
       ·rw[jk (fun x hx=>hag x (List.mem_of_mem_take hx)),List.length_take,Nat.min_eq_left (by omega)]
       ·rcases List.mem_or_eq_of_mem_set hx with h1|h1
        ·exact hag x h1
        ·rw[h1,hy'];exact hag y hym
    obtain⟨o1,ho1,hoe,hnr,hset⟩:=key;obtain⟨a,b,c,rfl,hal,hwy,hcy,hput⟩:=jC hT hwl hc hnr hy;obtain⟨a1,b1,c1,rfl,ha1,hwu,htu,hcu,hnru,hput1⟩:=wV hT hwy hcy hat ho1;refine⟨a++a1,b1,c1++c,by simp,by rw[List.length_append,hal,ha1,hoe],hwu,htu,hcu,fun _=> ?_,fun x d hx ht hd=> ?_⟩
    ·cases p with
     |nil=>
      simp only[V.at,Zg]at hat;subst hat;rw[←htu];exact hnr _ hym
     |cons j p=>exact hnru (by simp)
    ·obtain⟨y',hy',hwy',hty',hcy'⟩:=hput1 x d hx ht hd;refine⟨.agg q (l.set i y'),by simp only[V.setAt,hy,hy'],?_,rfl,?_⟩
     ·simp only[V.wf];exact⟨hset y' hty',JI hwl hwy'⟩
     ·simp only[CR];have:=hput y' _ hcy';simpa using this
  |_=>simp[V.at]at hat
variable {T : Tab}
structure Ext (B B':BM):Prop where
 loc:B.loc<+:B'.loc
 hp:B.hp<+:B'.hp
theorem Ext.refl (B:BM):Ext B B:=⟨List.prefix_rfl,List.prefix_rfl⟩
theorem Ext.trans {B B' B'':BM}(h:Ext B B') (h':Ext B' B''):Ext B B'':=⟨h.loc.trans h'.loc,h.hp.trans h'.hp⟩
theorem eH {α:Type}{l m:List α}(h:l<+:m) {i:Nat}{x:α}(hx:l[i]?=some x):m[i]?=some x:=by obtain⟨r,rfl⟩:=h;rw[List.getElem?_append_left (List.getElem?_eq_some_iff.1 hx).1];exact hx
theorem Ext.at {B B':BM}(h:Ext B B') {a:Loc}{x:Addr×Nat}(hx:B.at a=some x):B'.at a=some x:=by
 cases a with
 |loc i=>exact eH h.loc hx
 |hp i=>exact eH h.hp hx
mutual
theorem nj {B B':BM}(h:∀a x,B.at a=some x→B'.at a=some x):∀{v:V}{cs:List Value},CR T B v cs→CR T B' v cs
 | .dead,_,hc=>by simp[CR]at hc
 | .tup _,_,hc=>by simp[CR]at hc
 | .bool _,_,hc=>by simpa only[CR]using hc
 | .int _ _,_,hc=>by simpa only[CR]using hc
 | .str _,_,hc=>by simpa only[CR]using hc
 | .nilp,_,hc=>by simpa only[CR]using hc
 | .nils,_,hc=>by simpa only[CR]using hc
 | .nilf,_,hc=>by simpa only[CR]using hc
 | .mp none,_,hc=>by simpa only[CR]using hc
 | .mp (some _),_,hc=>by simp only[CR]at hc⊢;obtain⟨ad,h1,h2⟩:=hc;exact⟨ad,h _ _ h1,h2⟩
 | .ptr _ _ _,_,hc=>by simp only[CR]at hc⊢;obtain⟨ad,r,o,h1,h2,h3⟩:=hc;exact⟨ad,r,o,h _ _ h1,h2,h3⟩
 | .sl _ _ _ _ _ _,_,hc=>by simp only[CR]at hc⊢;obtain⟨ad,r,o,u,c',ad',h1,h2⟩:=hc;exact⟨ad,r,o,u,c',ad',h _ _ h1,h2⟩
 | .fn _ l,_,hc=>by simp only[CR]at hc⊢;obtain⟨vs,h1,h2⟩:=hc;exact⟨vs,A9 h h1,h2⟩
 | .agg _ l,_,hc=>by simp only[CR]at hc⊢;exact A9 h hc
theorem A9 {B B':BM}(h:∀a x,B.at a=some x→B'.at a=some x):∀{l:List V}{cs:List Value},CRs T B l cs→CRs T B' l cs
 |[],_,hc=>by simpa only[CRs]using hc
 |v::l,_,hc=>by simp only[CRs]at hc⊢;obtain⟨a,b,h1,h2,h3⟩:=hc;exact⟨a,b,h1,nj h h2,A9 h h3⟩
end
mutual
theorem C5 (hT:aR T=true) {B B':BM}{b:Nat}(h:∀a x,(∀i,a= .loc i→i<b)→B.at a=some x→B'.at a=some x):∀{v:V}{cs:List Value},v.wf T→v.tag%2=0∨v.locLt b=true→CR T B v cs→CR T B' v cs
 | .dead,_,_,_,hc=>by simp[CR]at hc
 | .tup _,_,_,_,hc=>by simp[CR]at hc
 | .bool _,_,_,_,hc=>by simpa only[CR]using hc
 | .int _ _,_,_,_,hc=>by simpa only[CR]using hc
 | .str _,_,_,_,hc=>by simpa only[CR]using hc
 | .nilp,_,_,_,hc=>by simpa only[CR]using hc
 | .nils,_,_,_,hc=>by simpa only[CR]using hc
 | .nilf,_,_,_,hc=>by simpa only[CR]using hc
 | .mp none,_,_,_,hc=>by simpa only[CR]using hc
 | .mp (some _),_,_,_,hc=>by simp only[CR]at hc⊢;obtain⟨ad,h1,h2⟩:=hc;exact⟨ad,h _ _ (fun i hi=>by cases hi) h1,h2⟩
 | .ptr a _ _,_,_,hl,hc=>by
  simp only[CR]at hc⊢;obtain⟨ad,r,o,h1,h2,h3⟩:=hc;refine⟨ad,r,o,h _ _ (fun i hi=> ?_) h1,h2,h3⟩;subst hi;rcases hl with hl|hl
  ·simp[V.tag]at hl
  ·simpa[V.locLt]using hl
 | .sl a _ _ _ _ _,_,_,hl,hc=>by
  simp only[CR]at hc⊢;obtain⟨ad,r,o,u,c',ad',h1,h2⟩:=hc;refine⟨ad,r,o,u,c',ad',h _ _ (fun i hi=> ?_) h1,h2⟩;subst hi;rcases hl with hl|hl
  ·simp[V.tag]at hl
  ·simpa[V.locLt]using hl
 | .fn _ l,_,_,hl,hc=>by
  simp only[CR]at hc⊢;obtain⟨vs,h1,h2⟩:=hc;rcases hl with hl|hl
  ·simp[V.tag]at hl
  ·simp only[V.locLt]at hl;exact⟨vs,DB hT h h2.1 (.inr hl) h1,h2⟩
 | .agg t l,_,hw,hl,hc=>by
  simp only[CR]at hc⊢;simp only[V.wf]at hw;refine DB hT h hw.2 ?_ hc;simp only[V.tag,V.locLt,Bool.or_eq_true,beq_iff_eq]at hl;have hl':t%2=0∨V.locLts b l=true:=by
   rcases hl with hl|hl|hl
   ·exact .inl hl
   ·exact .inl hl
   ·exact .inr hl
  rcases hl' with hp|hp
  ·left;unfold cQ at hw;cases hi:T.info t with
   |none=>rw[hi]at hw;exact hw.1.elim
   |some ti=>
    rw[hi]at hw;cases ti with
    |st fs=>exact fun x hx=>(Bi hT hi).pf hp _ (by have:=hw.1;simp only at this;rw[←this];exact List.mem_map_of_mem hx)
    |arr n e=>exact fun x hx=>by rw[hw.1.2 x hx];exact(pM hT hi).pf hp
    |row e=>exact fun x hx=>by rw[hw.1 x hx];exact(sY hT hi).pf hp
  ·exact .inr hp
theorem DB (hT:aR T=true) {B B':BM}{b:Nat}(h:∀a x,(∀i,a= .loc i→i<b)→B.at a=some x→B'.at a=some x):∀{l:List V}{cs:List Value},V.wfs T l→(∀x∈l,x.tag%2=0)∨V.locLts b l=true→CRs T B l cs→CRs T B' l cs
 |[],_,_,_,hc=>by simpa only[CRs]using hc
 |v::l,_,hw,hl,hc=>by
  simp only[CRs]at hc⊢;obtain⟨a,c,h1,h2,h3⟩:=hc;simp only[V.wfs]at hw;simp only[V.locLts,Zj]at hl;refine⟨a,c,h1,C5 hT h hw.1 ?_ h2,DB hT h hw.2 ?_ h3⟩
  ·exact hl.imp (fun h=>h v List.mem_cons_self) (fun h=>h.1)
  ·exact hl.imp (fun h x hx=>h x (List.mem_cons_of_mem _ hx)) (fun h=>h.2)
end
mutual
theorem wB {B:BM}:∀{v:V}{cs:List Value},CR T B v cs→v.locLt B.loc.length=true
 | .dead,_,hc=>by simp[CR]at hc
 | .tup _,_,hc=>by simp[CR]at hc
 | .bool _,_,_=>by simp only[V.locLt]
 | .int _ _,_,_=>by simp only[V.locLt]
 | .str _,_,_=>by simp only[V.locLt]
 | .nilp,_,_=>by simp only[V.locLt]
 | .nils,_,_=>by simp only[V.locLt]
 | .nilf,_,_=>by simp only[V.locLt]
 | .mp _,_,_=>by simp only[V.locLt]
 | .ptr (.hp _) _ _,_,_=>by simp only[V.locLt]
 | .sl (.hp _) _ _ _ _ _,_,_=>by simp only[V.locLt]
 | .ptr (.loc i) _ _,_,hc=>by simp only[CR,BM.at]at hc;obtain⟨ad,r,o,h1,_⟩:=hc;simp only[V.locLt,Zi];exact(List.getElem?_eq_some_iff.1 h1).1
 | .sl (.loc i) _ _ _ _ _,_,hc=>by simp only[CR,BM.at]at hc;obtain⟨ad,r,o,u,c',ad',h1,_⟩:=hc;simp only[V.locLt,Zi];exact(List.getElem?_eq_some_iff.1 h1).1
 | .fn _ l,_,hc=>by simp only[CR]at hc;obtain⟨vs,h1,_⟩:=hc;simp only[V.locLt];exact yl h1
 | .agg t l,_,hc=>by simp only[CR]at hc;simp only[V.locLt,yl hc,Bool.or_true]
theorem yl {B:BM}:∀{l:List V}{cs:List Value},CRs T B l cs→V.locLts B.loc.length l=true
 |[],_,_=>by simp only[V.locLts]
 |v::l,_,hc=>by simp only[CRs]at hc;obtain⟨a,b,_,h2,h3⟩:=hc;simp only[V.locLts,wB h2,yl h3,Bool.and_self]
end
mutual
theorem bE {a b:Nat}(h:a≤b):∀{v:V},v.locLt a=true→v.locLt b=true
 | .dead,_=>by simp only[V.locLt]
 | .bool _,_=>by simp only[V.locLt]
 | .int _ _,_=>by simp only[V.locLt]
 | .str _,_=>by simp only[V.locLt]
 | .nilp,_=>by simp only[V.locLt]
 | .nils,_=>by simp only[V.locLt]
 | .nilf,_=>by simp only[V.locLt]
 | .mp _,_=>by simp only[V.locLt]
 | .ptr (.hp _) _ _,_=>by simp only[V.locLt]
 | .sl (.hp _) _ _ _ _ _,_=>by simp only[V.locLt]
 | .ptr (.loc i) _ _,hl=>by simp only[V.locLt,Zi]at hl⊢;omega
 | .sl (.loc i) _ _ _ _ _,hl=>by simp only[V.locLt,Zi]at hl⊢;omega
 | .fn _ l,hl=>by simp only[V.locLt]at hl⊢;exact rD h hl
 | .tup l,hl=>by simp only[V.locLt]at hl⊢;exact rD h hl
 | .agg t l,hl=>by simp only[V.locLt,Bool.or_eq_true]at hl⊢;exact hl.imp id (rD h)
theorem rD {a b:Nat}(h:a≤b):∀{l:List V},V.locLts a l=true→V.locLts b l=true
 |[],_=>by simp only[V.locLts]
 |v::l,hl=>by simp only[V.locLts,Zj]at hl⊢;exact⟨bE h hl.1,rD h hl.2⟩
end
theorem td {a b:Nat}(h:a≤b) {x:Blk}(hx:bl a x=true):bl b x=true:=by
 cases x with
 |dead=>rfl
 |ro v=>exact bE h hx
 |rw v=>exact bE h hx
 |mp l=>rfl
mutual
theorem Cc {B:BM}:∀{v:V}{cs:List Value},CR T B v cs→∀x∈cs,x.oneCell'=true
 | .dead,_,hc=>by simp[CR]at hc
 | .tup _,_,hc=>by simp[CR]at hc
 | .bool _,_,hc=>by simp only[CR]at hc;subst hc;simp[Value.oneCell']
 | .int _ _,_,hc=>by simp only[CR]at hc;subst hc;simp[Value.oneCell']
 | .str _,_,hc=>by simp only[CR]at hc;subst hc;simp[Value.oneCell']
 | .nilp,_,hc=>by simp only[CR]at hc;subst hc;simp[Value.oneCell']
 | .nils,_,hc=>by simp only[CR]at hc;subst hc;simp[Value.oneCell']
 | .nilf,_,hc=>by simp only[CR]at hc;subst hc;simp[Value.oneCell']
 | .mp none,_,hc=>by simp only[CR]at hc;subst hc;simp[Value.oneCell']
 | .mp (some _),_,hc=>by simp only[CR]at hc;obtain⟨_,_,rfl⟩:=hc;simp[Value.oneCell']
 | .ptr _ _ _,_,hc=>by simp only[CR]at hc;obtain⟨_,_,_,_,_,rfl⟩:=hc;simp[Value.oneCell']
 | .sl _ _ _ _ _ _,_,hc=>by simp only[CR]at hc;obtain⟨_,_,_,_,_,_,_,_,_,_,_,_,_,_,rfl⟩:=hc;simp[Value.oneCell']
 | .fn _ l,_,hc=>by simp only[CR]at hc;obtain⟨_,_,_,_,rfl⟩:=hc;simp[Value.oneCell']
 | .agg t l,_,hc=>by simp only[CR]at hc;exact zW hc
theorem zW {B:BM}:∀{l:List V}{cs:List Value},CRs T B l cs→∀x∈cs,x.oneCell'=true
 |[],_,hc=>by simp only[CRs]at hc;subst hc;simp
 |v::l,_,hc=>by
  simp only[CRs]at hc;obtain⟨a,b,rfl,h2,h3⟩:=hc;intro x hx;rcases List.mem_append.1 hx with h|h
  ·exact Cc h2 x h
  ·exact zW h3 x h
end
def Bf (c:Array Value) (o:Nat) (cs:List Value):Prop:=∀i x,cs[i]?=some x→c[o+i]?=some x
def uX (l:List Int) (es:Array MapEntry):Prop:=es.toList.map (fun e=>(e.key,e.val))=l.map fun n=>(Value.int .i64 n,Value.bool true)
def Blk.mut:Blk→Bool
 | .rw _=>true
 | .mp _=>true
 |_=>false
def lO (T:Tab) (B:BM) (w:World) (ar:Addr×Nat):Blk→Prop
 | .dead=>True
 | .ro v=>v.wf T∧v.tag=ar.2∧∃c e fr cs,w.heap[ar.1.block]?=some (.cells c e fr)∧CR T B v cs∧Bf c ar.1.off cs∧ar.1.spot=none
 | .rw v=>v.wf T∧v.tag=ar.2∧∃c e cs,w.heap[ar.1.block]?=some (.cells c e (0,0))∧CR T B v cs∧Bf c ar.1.off cs∧ar.1.spot=some c.size
 | .mp l=>ar.2=3∧∃es clock,w.heap[ar.1.block]?=some (.map es clock)∧uX l es
structure SR (T:Tab) (B0:Nat) (B:BM) (s:St) (w:World):Prop where
 lenL:B.loc.length=s.loc.length
 lenH:B.hp.length=s.hp.length
 blk:∀a b ar,s.at a=some b→B.at a=some ar→lO T B w ar b
 sepM:∀a a' ar ar' b b',s.at a=some b→b.mut=true→B.at a=some ar→s.at a'=some b'→b'≠ .dead→B.at a'=some ar'→a≠a'→ar.1.block≠ar'.1.block
 ownM:∀a b ar,s.at a=some b→b.mut=true→B.at a=some ar→B0≤ar.1.block
 hpv:∀(i:Nat) (b:Blk),s.hp[i]?=some b→bl 0 b=true
theorem SR.sep {B0:Nat}{B:BM}{s:St}{w:World}(h:SR T B0 B s w):∀a a' ar ar' v b',s.at a=some (.rw v)→B.at a=some ar→s.at a'=some b'→b'≠ .dead→B.at a'=some ar'→a≠a'→ar.1.block≠ar'.1.block:=
 fun a a' ar ar' v b' h1=>h.sepM a a' ar ar' (.rw v) b' h1 rfl
theorem SR.own {B0:Nat}{B:BM}{s:St}{w:World}(h:SR T B0 B s w):∀a v ar,s.at a=some (.rw v)→B.at a=some ar→B0≤ar.1.block:=fun a v ar h1=>h.ownM a (.rw v) ar h1 rfl
def Own (B:BM) (s:St) (k:Nat):Prop:=∃a b ar,s.at a=some b∧b.mut=true∧B.at a=some ar∧ar.1.block=k
def Lvl (b:Nat) (s:St):Prop:=∀i x,i<b→s.loc[i]?=some x→bl b x=true
structure Frm (O:Nat→Prop) (w w':World):Prop where
 os:w'.os=w.os
 tape:w'.tape=w.tape
 output:w'.output=w.output
 size:w.heap.size≤w'.heap.size
 block:∀k,k<w.heap.size→¬O k→w'.heap[k]?=w.heap[k]?
theorem Frm.refl (O:Nat→Prop) (w:World):Frm O w w:=⟨rfl,rfl,rfl,Nat.le_refl _,fun _ _ _=>rfl⟩
structure Stp (T:Tab) (B0 base:Nat) (B:BM) (s:St) (w:World) (B':BM) (s':St) (w':World):Prop where
 sr:SR T B0 B' s' w'
 ext:Ext B B'
 frm:Frm (Own B s) w w'
 sub:∀k,k<w.heap.size→Own B' s' k→Own B s k
 lvl:∀b,b≤base→Lvl b s→Lvl b s'
theorem Stp.refl {B0 base:Nat}{B:BM}{s:St}{w:World}(h:SR T B0 B s w):Stp T B0 base B s w B s w:=
 ⟨h,Ext.refl _,Frm.refl _ _,fun _ _ h=>h,fun _ _ h=>h⟩
theorem Stp.trans {B0 base:Nat}{B B' B'':BM}{s s' s'':St}{w w' w'':World}(h:Stp T B0 base B s w B' s' w') (h':Stp T B0 base B' s' w' B'' s'' w''):Stp T B0 base B s w B'' s'' w'':=
 ⟨h'.sr,h.ext.trans h'.ext,
  ⟨h'.frm.os.trans h.frm.os,h'.frm.tape.trans h.frm.tape,h'.frm.output.trans h.frm.output,Nat.le_trans h.frm.size h'.frm.size,
   fun k hk ho=>(h'.frm.block k (Nat.lt_of_lt_of_le hk h.frm.size) (fun hx=>ho (h.sub k hk hx))).trans (h.frm.block k hk ho)⟩,
  fun k hk ho=>h.sub k hk (h'.sub k (Nat.lt_of_lt_of_le hk h.frm.size) ho),
  fun b hb hl=>h'.lvl b hb (h.lvl b hb hl)⟩
theorem cell?_of {w:World}{b:Nat}{c:Array Value}{e:TypeId}{fr:Nat×Nat}(h:w.heap[b]?=some (.cells c e fr)) (o:Nat):w.cell? ⟨b,o,none⟩=c[o]?:=by simp[World.cell?,h]
theorem qX (hT:aR T=true) {B0:Nat}{B:BM}{s:St}{w:World}(h:SR T B0 B s w) {a:Loc}{path:List Nat}{v:V}(hr:s.read a path=some v)
 {ad:Addr}{r o t:Nat}(hB:B.at a=some (ad,r)) (ho:ci T r path=some (o,t)):
 v.wf T∧v.tag=t∧∃cs,CR T B v cs∧w.rangeAt ad.block (ad.off+o) cs∧(path≠[]→T.noRow t=true):=by
 unfold St.read at hr;have key:∀(u:V) (c:Array Value) (e:TypeId) (fr:Nat×Nat) (cs:List Value),u.wf T→u.tag=r→w.heap[ad.block]?=some (.cells c e fr)→CR T B u cs→Bf c ad.off cs→V.at path u=some v→
  v.wf T∧v.tag=t∧∃cs,CR T B v cs∧w.rangeAt ad.block (ad.off+o) cs∧(path≠[]→T.noRow t=true):=by
  intro u c e fr cs hw ht hb hc hl hat;obtain⟨x,y,z,rfl,hx,hwv,htv,hcv,hnr,_⟩:=wV hT hw hc hat (by rw[ht];exact ho);refine⟨hwv,htv,y,hcv,fun j u hu=> ?_,hnr⟩;rw[cell?_of hb];have:=hl (o+j) u (by rw[List.append_assoc,List.getElem?_append_right (by omega),List.getElem?_append_left (by rw[hx,Nat.add_sub_cancel_left];exact(List.getElem?_eq_some_iff.1 hu).1),hx,Nat.add_sub_cancel_left];exact hu)
  rw[←this,Nat.add_assoc]
 cases hs:s.at a with
 |none=>rw[hs]at hr;cases hr
 |some b=>
  rw[hs]at hr;have hb:=h.blk a b _ hs hB;cases b with
  |dead=>cases hr
  |mp l=>cases hr
  |ro u=>
   obtain⟨h1,h2,c,e,fr,cs,h3,h4,h5,_⟩:=hb;exact key u c e fr cs h1 h2 h3 h4 h5 hr
  |rw u=>
   obtain⟨h1,h2,c,e,cs,h3,h4,h5,_⟩:=hb;exact key u c e (0,0) cs h1 h2 h3 h4 h5 hr
variable {T : Tab}
theorem Ia {w:World}{g o:Nat}{v:Value}{c:Array Value}{e:TypeId}{fr:Nat×Nat}(h:w.heap[g]?=some (.cells c e fr)):
 (w.setCell ⟨g,o,none⟩ v).heap[g]?=some (.cells (c.setIfInBounds o v) e fr):=by
 simp[World.setCell,Array.getElem?_modify,h]
theorem sH (g:Nat):∀(vs:List Value) (o:Nat) {w:World}{c:Array Value}{e:TypeId}{fr:Nat×Nat},w.heap[g]?=some (.cells c e fr)→o+vs.length≤c.size→
 ∃c',(w.setCells g o vs).heap[g]?=some (.cells c' e fr)∧c'.size=c.size∧∀j,c'[j]?=if o≤j∧j<o+vs.length then vs[j-o]? else c[j]?
 |[],o,w,c,e,fr,h,_=>⟨c,h,rfl,fun j=>by rw[if_neg (by simp only[List.length_nil];omega)]⟩
 |v::vs,o,w,c,e,fr,h,hl=>by
  simp only[List.length_cons]at hl;obtain⟨c',h1,h2,h3⟩:=sH g vs (o+1) (Ia (o:=o) (v:=v) h) (by simp;omega);refine⟨c',h1,by rw[h2];simp,fun j=> ?_⟩;rw[h3 j];simp only[List.length_cons];by_cases hj:j=o
  ·subst hj;rw[if_neg (by omega),if_pos (by omega),Nat.sub_self];simp[show j<c.size by omega]
  ·by_cases hj2:o+1≤j∧j<o+1+vs.length
   ·rw[if_pos hj2,if_pos (by omega),show j-o=(j-(o+1))+1 by omega,List.getElem?_cons_succ]
   ·rw[if_neg hj2,if_neg (by omega)];simp[Ne.symm hj]
theorem xQ (g:Nat):∀(vs:List Value) (o:Nat) (w:World),(w.setCells g o vs).heap.size=w.heap.size∧(w.setCells g o vs).tape=w.tape∧∀k,k≠g→(w.setCells g o vs).heap[k]?=w.heap[k]?:=by
 intro vs
 induction vs with
 |nil=>exact fun _ _=>⟨rfl,rfl,fun _ _=>rfl⟩
 |cons v vs ih=>
  intro o w;obtain⟨h1,h2,h3⟩:=ih (o+1) (w.setCell ⟨g,o,none⟩ v);refine⟨h1.trans (by simp[World.setCell]),h2,fun k hk=>(h3 k hk).trans ?_⟩;simp[World.setCell,Array.getElem?_modify,Ne.symm hk]
theorem zj {O:Nat→Prop}{w:World}{g o:Nat}{vs:List Value}(hg:O g):Frm O w (w.setCells g o vs):=by have hk:=World.keptBut_setCells g (may:=fun _=>True) vs o w (fun _ _=>trivial);obtain⟨h1,h2,h3⟩:=xQ g vs o w;exact⟨hk.1,h2,hk.2.1,by omega,fun k _ ho=>h3 k (fun he=>ho (he▸hg))⟩
theorem fZ {b:Nat}{l:List V}:V.locLts b l=true↔∀x∈l,x.locLt b=true:=by
 induction l with
 |nil=>simp[V.locLts]
 |cons v l ih=>simp[V.locLts,ih]
theorem vi {b:Nat}:∀{p:List Nat}{x v v':V},V.setAt p x v=some v'→v.locLt b=true→x.locLt b=true→v'.locLt b=true
 |[],_,_,_,h,_,hx=>by simp only[V.setAt,Zg]at h;rw[←h];exact hx
 |i::p,x,v,v',h,hv,hx=>by
  cases v with
  |agg t l=>
   simp only[V.setAt]at h;cases hy:l[i]? with
   |none=>rw[hy]at h;cases h
   |some y=>
    rw[hy]at h;simp only at h;cases hq:V.setAt p x y with
    |none=>rw[hq]at h;cases h
    |some y'=>
     rw[hq]at h;cases h;simp only[V.locLt,Bool.or_eq_true]at hv⊢;rcases hv with hv|hv
     ·exact .inl hv
     ·right;rw[fZ]at hv⊢;intro z hz;rcases List.mem_or_eq_of_mem_set hz with h1|h1
      ·exact hv z h1
      ·rw[h1];exact vi hq (hv y (List.mem_of_getElem? hy)) hx
  |_=>simp[V.setAt]at h
theorem St.at_set_same {s:St}{a:Loc}{b b':Blk}(h:s.at a=some b):(s.set a b').at a=some b':=by
 cases a with
 |loc i=>simp only[St.at]at h;simp only[St.set,St.at];rw[List.getElem?_set_self (List.getElem?_eq_some_iff.1 h).1]
 |hp i=>simp only[St.at]at h;simp only[St.set,St.at];rw[List.getElem?_set_self (List.getElem?_eq_some_iff.1 h).1]
theorem St.at_set_other {s:St}{a a':Loc}{b:Blk}(h:a≠a'):(s.set a b).at a'=s.at a':=by
 cases a with
 |loc i=>cases a' with
  |loc j=>simp only[St.set,St.at];rw[List.getElem?_set_ne (fun e=>h (by rw[e]))]
  |hp j=>rfl
 |hp i=>cases a' with
  |hp j=>simp only[St.set,St.at];rw[List.getElem?_set_ne (fun e=>h (by rw[e]))]
  |loc j=>rfl
theorem St.set_len {s:St}{a:Loc}{b:Blk}:(s.set a b).loc.length=s.loc.length∧(s.set a b).hp.length=s.hp.length:=by cases a<;>simp[St.set]
theorem lO.of_heap {B:BM}{w w':World}{ar:Addr×Nat}{b:Blk}(h:lO T B w ar b) (hb:b≠ .dead→w'.heap[ar.1.block]?=w.heap[ar.1.block]?):lO T B w' ar b:=by
 cases b with
 |dead=>trivial
 |ro v=>simpa only[lO,hb (by simp)]using h
 |rw v=>simpa only[lO,hb (by simp)]using h
 |mp v=>simpa only[lO,hb (by simp)]using h
theorem lO.ext {B B':BM}{w:World}{ar:Addr×Nat}{b:Blk}(h:lO T B w ar b) (he:Ext B B'):lO T B' w ar b:=by
 cases b with
 |dead=>trivial
 |ro v=>
  obtain⟨h1,h2,c,e,fr,cs,h3,h4,h5⟩:=h;exact⟨h1,h2,c,e,fr,cs,h3,nj (fun _ _=>he.at) h4,h5⟩
 |rw v=>
  obtain⟨h1,h2,c,e,cs,h3,h4,h5,h6⟩:=h;exact⟨h1,h2,c,e,cs,h3,nj (fun _ _=>he.at) h4,h5,h6⟩
 |mp l=>exact h
theorem lO.lt {B:BM}{w:World}{ar:Addr×Nat}{b:Blk}(h:lO T B w ar b) (hb:b≠ .dead):ar.1.block<w.heap.size:=by
 cases b with
 |dead=>exact absurd rfl hb
 |ro v=>obtain⟨_,_,c,e,fr,cs,h3,_⟩:=h;exact(Array.getElem?_eq_some_iff.1 h3).1
 |rw v=>obtain⟨_,_,c,e,cs,h3,_⟩:=h;exact(Array.getElem?_eq_some_iff.1 h3).1
 |mp l=>obtain⟨_,es,cl,h3,_⟩:=h;exact(Array.getElem?_eq_some_iff.1 h3).1
theorem Blk.mut_live {b:Blk}(h:b.mut=true):b≠ .dead:=fun e=>by subst e;cases h
theorem Own.rw {B:BM}{s:St}{k:Nat}{a:Loc}{v:V}{ar:Addr×Nat}(h:s.at a=some (.rw v)) (hB:B.at a=some ar) (hk:ar.1.block=k):Own B s k:=⟨a,_,ar,h,rfl,hB,hk⟩
theorem Es (hT:aR T=true) {B0 base:Nat}{B:BM}{s s':St}{w:World}(h:SR T B0 B s w) {a:Loc}{path:List Nat}{x u:V}(hr:s.read a path=some u) (hw:s.write base a path x=some s')
 {ad:Addr}{r o t:Nat}(hB:B.at a=some (ad,r)) (ho:ci T r path=some (o,t)) (hxw:x.wf T) (hxt:x.tag=t) {cx:List Value}(hcx:CR T B x cx)
 (hlen:∀cu,CR T B u cu→cx.length=cu.length) (hpos:0<cx.length):
 w.there ad.block (ad.off+o) cx.length∧Stp T B0 base B s w B s' (w.setCells ad.block (ad.off+o) cx):=by
 unfold St.write at hw;cases hs:s.at a with
 |none=>rw[hs]at hw;cases hw
 |some b=>
  cases b with
  |dead=>rw[hs]at hw;cases hw
  |ro _=>rw[hs]at hw;cases hw
  |mp _=>rw[hs]at hw;cases hw
  |rw v=>
   rw[hs]at hw;simp only at hw;by_cases hml:fM base a x=true
   ·rw[if_pos hml]at hw;have hb:=h.blk a _ _ hs hB;obtain⟨h1,h2,c,e,cs,h3,h4,h5,h6⟩:=hb;have hat:V.at path v=some u:=by unfold St.read at hr;rw[hs]at hr;exact hr
    obtain⟨p1,p2,p3,rfl,hp1,hwu,htu,hcu,hnr,hput⟩:=wV hT h1 h4 hat (by rw[h2];exact ho);obtain⟨v',hv',hwv',htv',hcv'⟩:=hput x cx hxw hxt hcx;rw[hv']at hw;simp only[Zg]at hw;subst hw;have hl:=hlen p2 hcu;have hsize:ad.off+o+cx.length≤c.size:=by
     have:=h5 (o+(cx.length-1)) (p2[cx.length-1]'(by omega)) (by rw[List.append_assoc,List.getElem?_append_right (by omega),hp1,Nat.add_sub_cancel_left,List.getElem?_append_left (by omega),List.getElem?_eq_getElem])
     have:=(Array.getElem?_eq_some_iff.1 this).1;simp only at this;omega
    have hnew:∀i y,(p1++cx++p3)[i]?=some y→∀c':Array Value,(∀j,c'[j]?=if ad.off+o≤j∧j<ad.off+o+cx.length then cx[j-(ad.off+o)]? else c[j]?)→c'[ad.off+i]?=some y:=by
     intro i y hy c' hc';rw[hc'];rw[List.append_assoc]at hy;by_cases hi1:i<p1.length
     ·rw[if_neg (by omega)];rw[List.getElem?_append_left hi1]at hy;exact h5 i y (by rw[List.append_assoc,List.getElem?_append_left hi1];exact hy)
     ·rw[List.getElem?_append_right (by omega)]at hy;by_cases hi2:i-p1.length<cx.length
      ·rw[List.getElem?_append_left hi2]at hy;rw[if_pos (by omega),show ad.off+i-(ad.off+o)=i-p1.length by omega];exact hy
      ·rw[List.getElem?_append_right (by omega)]at hy;rw[if_neg (by omega)];exact h5 i y (by rw[List.append_assoc,List.getElem?_append_right (by omega),List.getElem?_append_right (by omega),←hl];exact hy)
    obtain⟨c',hc1,hc2,hc3⟩:=sH ad.block cx (ad.off+o) h3 hsize;have hown:Own B s ad.block:= .rw hs hB rfl;have hfrm:Frm (Own B s) w (w.setCells ad.block (ad.off+o) cx):=zj hown;have hlens:=St.set_len (s:=s) (a:=a) (b:=Blk.rw v');refine⟨fun j hj=> ?_,?_,Ext.refl _,hfrm,?_,?_⟩
    ·have hlt:ad.off+o+j<c.size:=by omega
     constructor
     ·rw[cell?_of h3,Array.getElem?_eq_getElem hlt];rfl
     ·simp[World.frozen?,h3]
    ·refine⟨by rw[hlens.1];exact h.lenL,by rw[hlens.2];exact h.lenH,?_,?_,?_,?_⟩
     ·intro a2 b2 ar2 hs2 hB2;by_cases ha:a=a2
      ·subst ha;rw[hB]at hB2;cases hB2;rw[St.at_set_same hs]at hs2;cases hs2;exact⟨hwv',htv'.trans h2,c',e,_,hc1,hcv',fun i y hy=>hnew i y hy c' hc3,by rw[hc2];exact h6⟩
      ·rw[St.at_set_other ha]at hs2;refine(h.blk a2 b2 ar2 hs2 hB2).of_heap (fun hd=> ?_);have hne:ad.block≠ar2.1.block:=h.sep a a2 (ad,r) ar2 v b2 hs hB hs2 hd hB2 ha;exact(xQ ad.block cx (ad.off+o) w).2.2 _ (fun e=>hne e.symm)
     ·intro a1 a2 ar1 ar2 v1 b2 hs1 hm1 hB1 hs2 hd hB2 hne;have g1:∃v0,s.at a1=some v0∧v0.mut=true:=by
       by_cases ha:a=a1
       ·exact⟨_,ha▸hs,rfl⟩
       ·rw[St.at_set_other ha]at hs1;exact⟨v1,hs1,hm1⟩
      have g2:∃b0,s.at a2=some b0∧b0≠ .dead:=by
       by_cases ha:a=a2
       ·exact⟨_,ha▸hs,by simp⟩
       ·rw[St.at_set_other ha]at hs2;exact⟨b2,hs2,hd⟩
      obtain⟨v0,g1,gm⟩:=g1;obtain⟨b0,g2,g3⟩:=g2;exact h.sepM a1 a2 ar1 ar2 v0 b0 g1 gm hB1 g2 g3 hB2 hne
     ·intro a1 v1 ar1 hs1 hm1 hB1;by_cases ha:a=a1
      ·exact h.own a1 v ar1 (ha▸hs) hB1
      ·rw[St.at_set_other ha]at hs1;exact h.ownM a1 v1 ar1 hs1 hm1 hB1
     ·intro i b2 hi;cases a with
      |loc j=>exact h.hpv i b2 hi
      |hp j=>
       simp only[St.set]at hi;by_cases hij:j=i
       ·subst hij;have hlt:j<s.hp.length:=(List.getElem?_eq_some_iff.1 (show s.hp[j]?=some (.rw v)from hs)).1
        rw[List.getElem?_set_self hlt]at hi;cases hi;exact vi hv' (h.hpv j _ hs) hml
       ·rw[List.getElem?_set_ne hij]at hi;exact h.hpv i b2 hi
    ·rintro k _ ⟨a1,v1,ar1,hs1,hm1,hB1,hk⟩;by_cases ha:a=a1
     ·exact .rw (ha▸hs) hB1 hk
     ·rw[St.at_set_other ha]at hs1;exact⟨a1,v1,ar1,hs1,hm1,hB1,hk⟩
    ·intro b' hb' hlv i x' hi hx';cases a with
     |hp j=>exact hlv i x' hi hx'
     |loc j=>
      simp only[St.set]at hx';by_cases hij:j=i
      ·subst hij;have hlt:j<s.loc.length:=(List.getElem?_eq_some_iff.1 (show s.loc[j]?=some (.rw v)from hs)).1
       rw[List.getElem?_set_self hlt]at hx';cases hx';have hx0:x.locLt b'=true:=by
        simp only[fM,Bool.or_eq_true,Zi]at hml;rcases hml with hml|hml
        ·exact bE (Nat.zero_le _) hml
        ·omega
       exact vi hv' (hlv j _ hi hs) hx0
      ·rw[List.getElem?_set_ne hij]at hx';exact hlv i x' hi hx'
   ·rw[if_neg hml]at hw;cases hw
def BM.push (B:BM) (h:Bool) (ar:Addr×Nat):BM:=if h then{B with hp:=B.hp++[ar]}else{B with loc:=B.loc++[ar]}
theorem BM.ext_push {B:BM}{h:Bool}{ar:Addr×Nat}:Ext B (B.push h ar):=by
 cases h
 ·exact⟨List.prefix_append _ _,List.prefix_rfl⟩
 ·exact⟨List.prefix_rfl,List.prefix_append _ _⟩
theorem getElem?_snoc {α:Type}{l:List α}{x y:α}{i:Nat}(h:(l++[x])[i]?=some y):l[i]?=some y∨(i=l.length∧y=x):=by
 by_cases hi:i<l.length
 ·rw[List.getElem?_append_left hi]at h;exact .inl h
 ·rw[List.getElem?_append_right (by omega)]at h;by_cases h0:i-l.length=0
  ·rw[h0]at h;simp only[List.getElem?_cons_zero,Zg]at h;exact .inr ⟨by omega,h.symm⟩
  ·rw[List.getElem?_eq_none (by simp;omega)]at h;cases h
theorem vU {s:St}{h:Bool}{v:V}{a:Loc}{b:Blk}(hs:(s.new h v).at a=some b):s.at a=some b∨(a=s.fresh h∧b= .rw v):=by
 cases h with
 |false=>
  cases a with
  |hp i=>exact .inl hs
  |loc i=>
   rcases getElem?_snoc (show(s.loc++[Blk.rw v])[i]?=some b from hs)with h1|⟨h1,h2⟩
   ·exact .inl h1
   ·exact .inr ⟨by rw[h1];rfl,h2⟩
 |true=>
  cases a with
  |loc i=>exact .inl hs
  |hp i=>
   rcases getElem?_snoc (show(s.hp++[Blk.rw v])[i]?=some b from hs)with h1|⟨h1,h2⟩
   ·exact .inl h1
   ·exact .inr ⟨by rw[h1];rfl,h2⟩
theorem Jy {B:BM}{h:Bool}{ar x:Addr×Nat}{a:Loc}{s:St}(hL:B.loc.length=s.loc.length) (hH:B.hp.length=s.hp.length) (hs:(B.push h ar).at a=some x):B.at a=some x∨(a=s.fresh h∧x=ar):=by
 cases h with
 |false=>
  cases a with
  |hp i=>exact .inl hs
  |loc i=>
   rcases getElem?_snoc (show(B.loc++[ar])[i]?=some x from hs)with h1|⟨h1,h2⟩
   ·exact .inl h1
   ·exact .inr ⟨by rw[h1,hL];rfl,h2⟩
 |true=>
  cases a with
  |loc i=>exact .inl hs
  |hp i=>
   rcases getElem?_snoc (show(B.hp++[ar])[i]?=some x from hs)with h1|⟨h1,h2⟩
   ·exact .inl h1
   ·exact .inr ⟨by rw[h1,hH];rfl,h2⟩
theorem Cx {s:St}{h:Bool}:s.at (s.fresh h)=none:=by cases h<;>simp[St.fresh,St.at]
theorem ip {B:BM}{s:St}{h:Bool}{ar:Addr×Nat}(hL:B.loc.length=s.loc.length) (hH:B.hp.length=s.hp.length):(B.push h ar).at (s.fresh h)=some ar:=by cases h<;>simp[St.fresh,BM.at,BM.push,←hL,←hH]
theorem Ek {B0 base:Nat}{B:BM}{s:St}{w w':World}(h:SR T B0 B s w) (hbase:base≤s.loc.length) {hf:Bool}{v:V}(hw:v.wf T) (hmay:bi hf v=true) {ad:Addr}
 (hbl:∃c e cs,w'.heap[ad.block]?=some (.cells c e (0,0))∧CR T B v cs∧Bf c ad.off cs∧ad.spot=some c.size) (hB0:B0≤ad.block)
 (hfrm:Frm (fun k=>k=ad.block) w w') (hnew:∀a b ar,s.at a=some b→b≠ .dead→B.at a=some ar→ar.1.block≠ad.block) {O:Nat→Prop}(hO:O ad.block∨w.heap.size≤ad.block)
 (hOsub:∀k,Own B s k→O k):
 SR T B0 (B.push hf (ad,v.tag)) (s.new hf v) w'∧Frm O w w'∧(∀k,k<w.heap.size→Own (B.push hf (ad,v.tag)) (s.new hf v) k→O k)∧∀b,b≤base→Lvl b s→Lvl b (s.new hf v):=by
 have hext:Ext B (B.push hf (ad,v.tag)):=BM.ext_push;have hold:∀a b ar,s.at a=some b→(B.push hf (ad,v.tag)).at a=some ar→B.at a=some ar:=by
  intro a b ar hs hB;rcases Jy h.lenL h.lenH hB with h1|⟨h1,_⟩
  ·exact h1
  ·subst h1;rw[Cx]at hs;cases hs
 have hfr:∀ar,(B.push hf (ad,v.tag)).at (s.fresh hf)=some ar→ar=(ad,v.tag):=by intro ar hB;rw[ip h.lenL h.lenH]at hB;exact(Option.some.inj hB).symm
 refine⟨⟨?_,?_,?_,?_,?_,?_⟩,?_,?_,?_⟩
 ·cases hf<;>simp[BM.push,St.new,h.lenL]
 ·cases hf<;>simp[BM.push,St.new,h.lenH]
 ·intro a b ar hs hB;rcases vU hs with h1|⟨h1,h2⟩
  ·have hB':=hold a b ar h1 hB;refine((h.blk a b ar h1 hB').of_heap (fun hd=>hfrm.block _ ((h.blk a b ar h1 hB').lt hd) (hnew a b ar h1 hd hB'))).ext hext
  ·subst h1;subst h2;rw[hfr ar hB];obtain⟨c,e,cs,g1,g2,g3,g4⟩:=hbl;exact⟨hw,rfl,c,e,cs,g1,nj (fun _ _=>hext.at) g2,g3,g4⟩
 ·intro a a' ar ar' u b' hs hm hB hs' hd hB' hne;rcases vU hs with h1|⟨h1,h2⟩
  ·rcases vU hs' with h1'|⟨h1',h2'⟩
   ·exact h.sepM a a' ar ar' u b' h1 hm (hold _ _ _ h1 hB) h1' hd (hold _ _ _ h1' hB') hne
   ·subst h1';rw[hfr ar' hB'];exact hnew a _ ar h1 (Blk.mut_live hm) (hold _ _ _ h1 hB)
  ·subst h1;rw[hfr ar hB];rcases vU hs' with h1'|⟨h1',h2'⟩
   ·exact fun e=>hnew a' b' ar' h1' hd (hold _ _ _ h1' hB') e.symm
   ·exact absurd h1'.symm hne
 ·intro a u ar hs hm hB;rcases vU hs with h1|⟨h1,h2⟩
  ·exact h.ownM a u ar h1 hm (hold _ _ _ h1 hB)
  ·subst h1;rw[hfr ar hB];exact hB0
 ·intro i b hi;cases hf with
  |false=>exact h.hpv i b hi
  |true=>
   rcases getElem?_snoc (show(s.hp++[Blk.rw v])[i]?=some b from hi)with h1|⟨h1,h2⟩
   ·exact h.hpv i b h1
   ·subst h2;exact hmay
 ·refine⟨hfrm.os,hfrm.tape,hfrm.output,hfrm.size,fun k hk ho=>hfrm.block k hk (fun e=> ?_)⟩;subst e;rcases hO with hO|hO
  ·exact ho hO
  ·omega
 ·rintro k hk ⟨a,u,ar,hs,hm,hB,he⟩;rcases vU hs with h1|⟨h1,h2⟩
  ·exact hOsub k ⟨a,u,ar,h1,hm,hold _ _ _ h1 hB,he⟩
  ·subst h1;rw[hfr ar hB]at he;rcases hO with hO|hO
   ·exact he▸hO
   ·simp only at he;omega
 ·intro b hb hl i x hi hx;cases hf with
  |true=>exact hl i x hi hx
  |false=>
   rcases getElem?_snoc (show(s.loc++[Blk.rw v])[i]?=some x from hx)with h1|⟨h1,_⟩
   ·exact hl i x hi h1
   ·omega
theorem vN {B0 base:Nat}{B:BM}{s:St}{w:World}(h:SR T B0 B s w) (hbase:base≤s.loc.length) (hB0:B0≤w.heap.size) {hf:Bool}{v:V}(hw:v.wf T) (hmay:bi hf v=true) {cs:List Value}(hc:CR T B v cs) {c:Array Value}(hl:Bf c 0 cs) (e:TypeId):
 Stp T B0 base B s w (B.push hf (⟨w.heap.size,0,some c.size⟩,v.tag)) (s.new hf v) (w.alloc (.cells c e)):=by
 have hlt:∀a b ar,s.at a=some b→b≠ .dead→B.at a=some ar→ar.1.block<w.heap.size:=fun a b ar hs hd hB=>(h.blk a b ar hs hB).lt hd;obtain⟨h1,h2,h3,h4⟩:=Ek (w':=w.alloc (.cells c e)) (O:=Own B s) h hbase hw hmay (ad:=⟨w.heap.size,0,some c.size⟩)
  ⟨c,e,cs,(by show(w.heap.push _)[w.heap.size]?=_;simp),hc,hl,rfl⟩ hB0 ⟨rfl,rfl,rfl,(by show w.heap.size≤(w.heap.push _).size;simp),fun k hk _=>(by show(w.heap.push _)[k]?=_;rw[Array.getElem?_push,if_neg (Nat.ne_of_lt hk)])⟩
  (fun a b ar hs hd hB e=>by have:=hlt a b ar hs hd hB;simp only at e;omega) (.inr (Nat.le_refl _)) (fun _ h=>h)
 exact⟨h1,BM.ext_push,h2,h3,h4⟩
theorem zG {B0:Nat}{B:BM}{s:St}{w:World}(h:SR T B0 B s w) (a:Loc):SR T B0 B (s.set a .dead) w:=by
 have key:∀a' b,(s.set a .dead).at a'=some b→b= .dead∨(a≠a'∧s.at a'=some b):=by
  intro a' b hb;by_cases ha:a=a'
  ·subst ha;left;cases hs:s.at a with
   |none=>
    cases a with
    |loc i=>
     simp only[St.at]at hs;simp only[St.at,St.set]at hb;rw[List.set_eq_of_length_le (by simpa using List.getElem?_eq_none_iff.1 hs)]at hb;rw[hs]at hb;cases hb
    |hp i=>
     simp only[St.at]at hs;simp only[St.at,St.set]at hb;rw[List.set_eq_of_length_le (by simpa using List.getElem?_eq_none_iff.1 hs)]at hb;rw[hs]at hb;cases hb
   |some x=>
    rw[St.at_set_same hs]at hb;exact(Option.some.inj hb).symm
  ·rw[St.at_set_other ha]at hb;exact .inr ⟨ha,hb⟩
 have hl:=St.set_len (s:=s) (a:=a) (b:=Blk.dead);refine⟨by rw[hl.1];exact h.lenL,by rw[hl.2];exact h.lenH,?_,?_,?_,?_⟩
 ·intro a' b ar hs hB;rcases key _ _ hs with h1|⟨_,h1⟩
  ·subst h1;trivial
  ·exact h.blk a' b ar h1 hB
 ·intro a1 a2 ar1 ar2 v b hs1 hm hB1 hs2 hd hB2 hne;rcases key _ _ hs1 with h1|⟨_,h1⟩
  ·subst h1;cases hm
  ·rcases key _ _ hs2 with h2|⟨_,h2⟩
   ·exact absurd h2 hd
   ·exact h.sepM a1 a2 ar1 ar2 v b h1 hm hB1 h2 hd hB2 hne
 ·intro a1 v ar hs hm hB;rcases key _ _ hs with h1|⟨_,h1⟩
  ·subst h1;cases hm
  ·exact h.ownM a1 v ar h1 hm hB
 ·intro i b hi;rcases key (.hp i) b hi with h1|⟨_,h1⟩
  ·subst h1;rfl
  ·exact h.hpv i b h1
theorem Hw {B:BM}{s:St}{a:Loc}{k:Nat}{v:V}(hs:s.at a=some (.rw v)) (h:Own B (s.set a .dead) k):Own B s k:=by
 obtain⟨a1,v1,ar,h1,hm,h2,h3⟩:=h;by_cases ha:a=a1
 ·subst ha;rw[St.at_set_same hs]at h1;cases h1;cases hm
 ·rw[St.at_set_other ha]at h1;exact⟨a1,v1,ar,h1,hm,h2,h3⟩
theorem FD {s:St}{a:Loc}{b:Nat}(h:Lvl b s):Lvl b (s.set a .dead):=by
 intro i x hi hx;cases a with
 |hp j=>exact h i x hi hx
 |loc j=>
  simp only[St.set]at hx;by_cases hij:j=i
  ·subst hij;by_cases hl:j<s.loc.length
   ·rw[List.getElem?_set_self hl]at hx;cases hx;rfl
   ·rw[List.set_eq_of_length_le (by omega)]at hx;exact h j x hi hx
  ·rw[List.getElem?_set_ne hij]at hx;exact h i x hi hx
def eX:V→Bool
 | .agg _ _=>true
 |_=>false
def cC:Value→Bool
 | .agg _=>true
 |_=>false
def VR1 (T:Tab) (B:BM) (v:V) (x:Value):Prop:=v.wf T∧CR T B v x.cells.toList∧eX v=cC x
def ez {α β:Type}(R:α→β→Prop):List α→List β→Prop
 |[],[]=>True
 |a::l,b::m=>R a b∧ez R l m
 |_,_=>False
def VR (T:Tab) (B:BM) (v:V) (x:Value):Prop:=
 match v with
 | .dead=>True
 | .tup l=>∃xs:Array Value,x= .tuple xs∧ez (VR1 T B) l xs.toList
 |v=>VR1 T B v x
theorem rz {T:Tab}{B:BM}{v:V}{x:Value}(hv:v.ok=true):VR T B v x↔VR1 T B v x:=by cases v<;>simp[V.ok]at hv<;>rfl
theorem Qe {T:Tab}{v:V}(h:v.wf T):v.ok=true:=by cases v<;>simp[V.wf]at h<;>rfl
theorem eu {T:Tab}{B:BM}{v:V}{x:Value}(h:VR1 T B v x):VR T B v x:=(rz (Qe h.1)).2 h
theorem Kk {T:Tab}{B B':BM}(he:Ext B B') {v:V}{x:Value}(h:VR1 T B v x):VR1 T B' v x:=⟨h.1,nj (fun _ _=>he.at) h.2.1,h.2.2⟩
theorem FX {α β:Type}{R R':α→β→Prop}(h:∀a b,R a b→R' a b):∀{l:List α}{m:List β},ez R l m→ez R' l m
 |[],[],_=>trivial
 |_::_,_::_,hx=>⟨h _ _ hx.1,FX h hx.2⟩
 |[],_::_,hx=>hx.elim
 |_::_,[],hx=>hx.elim
theorem Hz {T:Tab}{B B':BM}(he:Ext B B') {v:V}{x:Value}(h:VR T B v x):VR T B' v x:=by
 cases v with
 |dead=>trivial
 |tup l=>
  obtain⟨xs,h1,h2⟩:=h;exact⟨xs,h1,FX (fun _ _ h=>Kk he h) h2⟩
 |_=>exact Kk he h
section leaves
variable {T : Tab} {B : BM} {x : Value}
theorem bn {b:Bool}:VR T B (.bool b) x↔x= .bool b:=by
 simp only[VR,VR1,V.wf,CR,eX,true_and];constructor
 ·rintro⟨h1,h2⟩;cases x<;>simp_all [Value.cells,cC]
 ·rintro rfl;simp[Value.cells,cC]
theorem aQ {k:IntKind}{n:Int}:VR T B (.int k n) x↔x= .int k n:=by
 simp only[VR,VR1,V.wf,CR,eX,true_and];constructor
 ·rintro⟨h1,h2⟩;cases x<;>simp_all [Value.cells,cC]
 ·rintro rfl;simp[Value.cells,cC]
theorem iL {s:ByteArray}:VR T B (.str s) x↔x= .string s:=by
 simp only[VR,VR1,V.wf,CR,eX,true_and];constructor
 ·rintro⟨h1,h2⟩;cases x<;>simp_all [Value.cells,cC]
 ·rintro rfl;simp[Value.cells,cC]
theorem tv:VR T B .nilp x↔x= .pointer none:=by
 simp only[VR,VR1,V.wf,CR,eX,true_and];constructor
 ·rintro⟨h1,h2⟩;cases x<;>simp_all [Value.cells,cC]
 ·rintro rfl;simp[Value.cells,cC]
theorem iJ:VR T B .nils x↔x= .slice none 0 0:=by
 simp only[VR,VR1,V.wf,CR,eX,true_and];constructor
 ·rintro⟨h1,h2⟩;cases x<;>simp_all [Value.cells,cC]
 ·rintro rfl;simp[Value.cells,cC]
theorem tu:VR T B .nilf x↔x= .nilFunc:=by
 simp only[VR,VR1,V.wf,CR,eX,true_and];constructor
 ·rintro⟨h1,h2⟩;cases x<;>simp_all [Value.cells,cC]
 ·rintro rfl;simp[Value.cells,cC]
theorem Wn:VR T B (.mp none) x↔x= .map none:=by
 simp only[VR,VR1,V.wf,CR,eX,true_and];constructor
 ·rintro⟨h1,h2⟩;cases x<;>simp_all [Value.cells,cC]
 ·rintro rfl;simp[Value.cells,cC]
theorem Fu {i:Nat}:VR T B (.mp (some i)) x↔∃ad,B.at (.hp i)=some (ad,3)∧x= .map (some ad.block):=by
 simp only[VR,VR1,V.wf,CR,eX,true_and];constructor
 ·rintro⟨⟨ad,h1,h3⟩,h4⟩;refine⟨ad,h1,?_⟩;cases x<;>simp_all [Value.cells,cC]
 ·rintro⟨ad,h1,rfl⟩;exact⟨⟨ad,h1,rfl⟩,rfl⟩
theorem ff {a:Loc}{p:List Nat}{t:Nat}:VR T B (.ptr a p t) x↔∃ad r o,B.at a=some (ad,r)∧ci T r p=some (o,t)∧x= .pointer (some ⟨ad.block,ad.off+o,none⟩):=by
 simp only[VR,VR1,V.wf,CR,eX,true_and];constructor
 ·rintro⟨⟨ad,r,o,h1,h2,h3⟩,h4⟩;refine⟨ad,r,o,h1,h2,?_⟩;cases x<;>simp_all [Value.cells,cC]
 ·rintro⟨ad,r,o,h1,h2,rfl⟩;exact⟨⟨ad,r,o,h1,h2,rfl⟩,rfl⟩
theorem jo {a:Loc}{p:List Nat}{off len e:Nat}{cap:Option Nat}:VR T B (.sl a p off len cap e) x↔∃ad r o u c' ad',B.at a=some (ad,r)∧ci T r p=some (o,u)∧T.elem u=some e∧(∀n e,T.info u=some (.arr n e)→off+len≤n)∧len≤c'∧(∀c,cap=some c→c'=c)∧
 (c'=0∨ad'=⟨ad.block,ad.off+(o+off*T.size e),none⟩)∧(∀N,ad.spot=some N→ad.off+(o+off*T.size e)+c'*T.size e≤N)∧x= .slice (some ad') len c':=by
 simp only[VR,VR1,V.wf,CR,eX,true_and];constructor
 ·rintro⟨⟨ad,r,o,u,c',ad',h1,h2,h3,h4,h5,h6,h7,h10,h8⟩,h9⟩;refine⟨ad,r,o,u,c',ad',h1,h2,h3,h4,h5,h6,h7,h10,?_⟩;cases x<;>simp_all [Value.cells,cC]
 ·rintro⟨ad,r,o,u,c',ad',h1,h2,h3,h4,h5,h6,h7,h10,rfl⟩;exact⟨⟨ad,r,o,u,c',ad',h1,h2,h3,h4,h5,h6,h7,h10,rfl⟩,rfl⟩
theorem sS {f:Nat}{caps:List V}:VR T B (.fn f caps) x↔∃vs:Array Value,CRs T B caps vs.toList∧V.wfs T caps∧(∀v∈caps,v.tag=1)∧x= .func (.func f) #[] vs:=by
 simp only[VR,VR1,V.wf,CR,eX,true_and];constructor
 ·rintro⟨⟨vs,h1,h2,h3,h4⟩,h9⟩;refine⟨vs,h1,h2,h3,?_⟩;cases x<;>simp_all [Value.cells,cC]
 ·rintro⟨vs,h1,h2,h3,rfl⟩;exact⟨⟨vs,h1,h2,h3,rfl⟩,rfl⟩
theorem uu {t:Nat}{l:List V}:VR T B (.agg t l) x↔∃cs:Array Value,x= .agg cs∧cQ T t l∧V.wfs T l∧CRs T B l cs.toList:=by
 simp only[VR,VR1,V.wf,CR,eX];constructor
 ·rintro⟨⟨h1,h2⟩,h3,h4⟩;cases x with
  |agg cs=>exact⟨cs,rfl,h1,h2,h3⟩
  |_=>simp[cC]at h4
 ·rintro⟨cs,rfl,h1,h2,h3⟩;exact⟨⟨h1,h2⟩,h3,rfl⟩
end leaves
def ER (T:Tab) (B:BM) (ρ:Env) (tmps:Array Value):Prop:=∀n,VR T B (get ρ n) (tmps.getD n undef)
theorem ER.ext {T:Tab}{B B':BM}{ρ:Env}{tmps:Array Value}(h:ER T B ρ tmps) (he:Ext B B'):ER T B' ρ tmps:=fun n=>Hz he (h n)
theorem ER.put {T:Tab}{B:BM}{ρ:Env}{tmps:Array Value}(h:ER T B ρ tmps) {d:Nat}{v:V}{x:Value}(hv:VR T B v x) (hd:d<tmps.size):ER T B ((d,v)::ρ) (tmps.setIfInBounds d x):=by
 intro n;simp only[get];by_cases hn:d=n
 ·subst hn;rw[if_pos rfl];simp[Array.getD_eq_getD_getElem?,hd,hv]
 ·rw[if_neg hn];have:=h n;simpa[Array.getD_eq_getD_getElem?,Array.getElem?_setIfInBounds,hn]using this
theorem ER.restrict {T:Tab}{B:BM}{ρ:Env}{tmps:Array Value}(h:ER T B ρ tmps) (ks:List Nat):ER T B (restrict ks ρ) tmps:=by
 intro n;by_cases hn:n∈ks
 ·rw[oU hn];exact h n
 ·have:get (Ab.restrict ks ρ) n= .dead:=by
   induction ks with
   |nil=>rfl
   |cons k ks ih=>
    simp only[Ab.restrict,List.map_cons,get];simp only[List.mem_cons,not_or]at hn;rw[if_neg (fun e=>hn.1 e.symm)];exact ih hn.2
  rw[this];trivial
abbrev TM:=List (Nat×Nat)
abbrev GL:=List (Nat×Nat×Nat)
structure Cfg where
 P:Program
 T:Tab
 tm:TM
 gl:GL
def tg:TM→Nat→Option Nat
 |[],_=>none
 |(k,t)::r,ty=>if k=ty then some t else tg r ty
def rI (c:Cfg) (ty t:Nat):Bool:=
 match c.P.info? ty,c.P.underlying ty with
 |some i,some d=>decide (i.size=c.T.size t)&&decide (0<c.T.size t)&&c.T.noRow t&&match d with
  | .bool=>decide (t=0)
  | .int k=>decide (t=jL k)
  | .string=>decide (t=2)
  | .pointer _=>decide (t=1)
  | .slice _=>decide (t=1)
  | .func _ _ _=>decide (t=1)
  | .map _ _=>decide (t=1)
  | .struct fs=> !c.P.stoodInHeld ty&&match c.T.info t with
   |some (.st ts)=>decide (ts.length=fs.size)&&(List.range fs.size).all fun j=>match fs[j]?,ts[j]? with
    | some f, some u => decide (f.offset = c.T.sum (ts.take j)) && decide (tg c.tm f.type = some u) && (f.name != "_")
    |_,_=>false
   |_=>false
  | .array n e=>match c.T.info t with
   |some (.arr m u)=>decide (n=m)&&decide (tg c.tm e=some u)
   |_=>false
  |_=>false
 |_,_=>false
def kr (c:Cfg):Bool:=c.tm.all fun p=>rI c p.1 p.2
theorem V8 {tm:TM}{ty t:Nat}(h:tg tm ty=some t):(ty,t)∈tm:=by
 induction tm with
 |nil=>cases h
 |cons p r ih=>
  obtain⟨k,u⟩:=p;simp only[tg]at h;by_cases hk:k=ty
  ·rw[if_pos hk]at h;cases h;subst hk;exact List.mem_cons_self
  ·rw[if_neg hk]at h;exact List.mem_cons_of_mem _ (ih h)
theorem R7 {c:Cfg}(hc:kr c=true) {ty t:Nat}(h:tg c.tm ty=some t):rI c ty t=true:=List.all_eq_true.1 hc _ (V8 h)
def kOk:V→Value→Bool
 | .bool a,.bool b=>a==b
 | .int k a,.int k' b=>decide (k=k')&&decide (a=b)
 | .str a,.string b=>decide (a=b)
 | .nilp,.pointer none=>true
 | .nils,.slice none 0 0=>true
 | .nilf,.nilFunc=>true
 |_,_=>false
theorem Wq {T:Tab}{B:BM}{v:V}{x:Value}(h:kOk v x=true):VR T B v x:=by
 unfold kOk at h;split at h<;>first
  |(simp only[beq_iff_eq]at h;subst h;exact bn.2 rfl)
  |(simp only[Zj,Zi]at h;obtain⟨rfl,rfl⟩:=h;exact aQ.2 rfl)
  |(simp only[Zi]at h;subst h;exact iL.2 rfl)
  |exact tv.2 rfl
  |exact iJ.2 rfl
  |exact tu.2 rfl
  |cases h
def aJ (gl:GL):Opd→Operand→Bool
 | .t n,.tmp m=>decide (n=m)
 | .k v,.const x=>kOk v x
 | .k (.fn f []),.func g=>decide (f=g)
 | .k (.ptr (.hp i) [] t),.global g=>gl.any fun x=>decide (x=(g,i,t))
 |_,_=>false
def fb (gl:GL) (B:BM):Prop:=∀g i t,(g,i,t)∈gl→B.hp[i]?=some (⟨g,0,none⟩,t)
theorem fb.ext {gl:GL}{B B':BM}(h:fb gl B) (he:Ext B B'):fb gl B':=fun g i t hm=>eH he.hp (h g i t hm)
theorem aC {T:Tab}{gl:GL}{B:BM}{ρ:Env}{a:Act}{x:Opd}{y:Operand}(h:aJ gl x y=true) (he:ER T B ρ a.tmps) (hg:fb gl B):VR T B (x.ev ρ) (a.eval y):=by
 unfold aJ at h;split at h
 ·simp only[Zi]at h;subst h;exact he _
 ·exact Wq h
 ·simp only[Zi]at h;subst h;exact sS.2 ⟨#[],by simp[CRs],by simp[V.wfs],by simp,rfl⟩
 ·simp only[List.any_eq_true,Zi]at h;obtain⟨z,hz,rfl⟩:=h;exact ff.2 ⟨_,_,0,hg _ _ _ hz,rfl,rfl⟩
 ·cases h
def cH (gl:GL):List Opd→List Operand→Bool
 |[],[]=>true
 |x::l,y::m=>aJ gl x y&&cH gl l m
 |_,_=>false
def jm (gl:GL):Option Opd→Option Operand→Bool
 |none,none=>true
 |some x,some y=>aJ gl x y
 |_,_=>false
def qM (gl:GL):List (Nat×Opd)→List (Nat×Operand)→Bool
 |[],[]=>true
 |(i,x)::l,(j,y)::m=>decide (i=j)&&aJ gl x y&&qM gl l m
 |_,_=>false
mutual
def ix:V→Option (List Value)
 | .bool b=>some [.bool b]
 | .int k n=>some [.int k n]
 | .str s=>some [.string s]
 | .nilp=>some [.pointer none]
 | .nils=>some [.slice none 0 0]
 | .nilf=>some [.nilFunc]
 | .mp none=>some [.map none]
 | .agg _ l=>vZ l
 |_=>none
def vZ:List V→Option (List Value)
 |[]=>some []
 |v::l=>match ix v,vZ l with
  |some a,some b=>some (a++b)
  |_,_=>none
end
mutual
theorem Bj {T:Tab}{B:BM}:∀{v:V}{cs:List Value},ix v=some cs→CR T B v cs
 | .dead,_,h=>by simp[ix]at h
 | .tup _,_,h=>by simp[ix]at h
 | .ptr _ _ _,_,h=>by simp[ix]at h
 | .sl _ _ _ _ _ _,_,h=>by simp[ix]at h
 | .fn _ _,_,h=>by simp[ix]at h
 | .mp (some _),_,h=>by simp[ix]at h
 | .mp none,_,h=>by simp only[ix,Zg]at h;simp only[CR,h]
 | .bool _,_,h=>by simp only[ix,Zg]at h;simp only[CR,h]
 | .int _ _,_,h=>by simp only[ix,Zg]at h;simp only[CR,h]
 | .str _,_,h=>by simp only[ix,Zg]at h;simp only[CR,h]
 | .nilp,_,h=>by simp only[ix,Zg]at h;simp only[CR,h]
 | .nils,_,h=>by simp only[ix,Zg]at h;simp only[CR,h]
 | .nilf,_,h=>by simp only[ix,Zg]at h;simp only[CR,h]
 | .agg _ l,_,h=>by simp only[ix]at h;simp only[CR];exact C3 h
theorem C3 {T:Tab}{B:BM}:∀{l:List V}{cs:List Value},vZ l=some cs→CRs T B l cs
 |[],_,h=>by simp only[vZ,Zg]at h;simp only[CRs,h]
 |v::l,_,h=>by
  simp only[vZ]at h;cases h1:ix v with
  |none=>rw[h1]at h;cases h
  |some a=>
   cases h2:vZ l with
   |none=>rw[h1,h2]at h;cases h
   |some b=>
    rw[h1,h2]at h;cases h;simp only[CRs];exact⟨a,b,rfl,Bj h1,C3 h2⟩
end
def Ge (T:Tab) (t:Nat) (l:List V):Bool:=
 match T.info t with
 |some (.st fs)=>decide (l.map V.tag=fs)
 |some (.arr n e)=>decide (l.length=n)&&l.all fun x=>decide (x.tag=e)
 |some (.row e)=>l.all fun x=>decide (x.tag=e)
 |none=>false
mutual
def V.wfB (T:Tab):V→Bool
 | .dead=>false
 | .tup _=>false
 | .agg t l=>Ge T t l&&V.wfsB T l
 |_=>true
def V.wfsB (T:Tab):List V→Bool
 |[]=>true
 |v::l=>v.wfB T&&V.wfsB T l
end
theorem Qx {T:Tab}{t:Nat}{l:List V}(h:Ge T t l=true):cQ T t l:=by
 unfold Ge at h;unfold cQ;cases hi:T.info t with
 |none=>rw[hi]at h;cases h
 |some ti=>
  rw[hi]at h;cases ti with
  |st fs=>simpa using h
  |arr n e=>simpa using h
  |row e=>simpa using h
mutual
theorem Lb {T:Tab}:∀{v:V},v.wfB T=true→v.wf T
 | .dead,h=>by simp[V.wfB]at h
 | .tup _,h=>by simp[V.wfB]at h
 | .agg t l,h=>by simp only[V.wfB,Zj]at h;simp only[V.wf];exact⟨Qx h.1,NL h.2⟩
 | .bool _,_=>by simp[V.wf]
 | .int _ _,_=>by simp[V.wf]
 | .str _,_=>by simp[V.wf]
 | .nilp,_=>by simp[V.wf]
 | .nils,_=>by simp[V.wf]
 | .nilf,_=>by simp[V.wf]
 | .ptr _ _ _,_=>by simp[V.wf]
 | .sl _ _ _ _ _ _,_=>by simp[V.wf]
 | .fn _ _,_=>by simp[V.wf]
 | .mp _,_=>by simp[V.wf]
theorem NL {T:Tab}:∀{l:List V},V.wfsB T l=true→V.wfs T l
 |[],_=>by simp[V.wfs]
 |v::l,h=>by simp only[V.wfsB,Zj]at h;simp only[V.wfs];exact⟨Lb h.1,NL h.2⟩
end
def Q4:Value→Value→Bool
 | .bool a,.bool b=>a==b
 | .int k a,.int k' b=>decide (k=k')&&decide (a=b)
 | .string a,.string b=>decide (a=b)
 | .pointer none,.pointer none=>true
 | .slice none 0 0,.slice none 0 0=>true
 | .nilFunc,.nilFunc=>true
 | .map none,.map none=>true
 |_,_=>false
theorem Uq {a b:Value}(h:Q4 a b=true):a=b:=by unfold Q4 at h;split at h<;>simp_all
def zF:List Value→List Value→Bool
 |[],[]=>true
 |a::l,b::m=>Q4 a b&&zF l m
 |_,_=>false
theorem FI:∀{l m:List Value},zF l m=true→l=m
 |[],[],_=>rfl
 |a::l,b::m,h=>by simp only[zF,Zj]at h;rw[Uq h.1,FI h.2]
 |[],_::_,h=>by simp[zF]at h
 |_::_,[],h=>by simp[zF]at h
def zOk (c:Cfg) (z:V) (ty:Nat):Bool:=
 match(c.P.info? ty).bind (·.zero),ix z with
 |some x,some cs=>zF cs x.cells.toList&&z.wfB c.T&&z.locLt 0&&decide (tg c.tm ty=some z.tag)&&(eX z==cC x)
 |_,_=>false
structure ZOk (c:Cfg) (z:V) (ty:Nat) (i:TypeInfo) (x:Value):Prop where
 info:c.P.info? ty=some i
 zero:i.zero=some x
 wf:z.wf c.T
 cr:∀B:BM,CR c.T B z x.cells.toList
 lt:z.locLt 0=true
 tag:tg c.tm ty=some z.tag
 agg:eX z=cC x
theorem De {c:Cfg}{z:V}{ty:Nat}(h:zOk c z ty=true):∃i x,ZOk c z ty i x:=by
 unfold zOk at h;cases hi:c.P.info? ty with
 |none=>rw[hi]at h;simp at h
 |some i=>
  rw[hi]at h;simp only[Option.bind_some]at h;cases hz:i.zero with
  |none=>rw[hz]at h;simp at h
  |some x=>
   rw[hz]at h;cases hf:ix z with
   |none=>rw[hf]at h;simp at h
   |some cs=>
    rw[hf]at h;simp only[Zj,Zi,beq_iff_eq]at h;obtain⟨⟨⟨⟨h1,h2⟩,h3⟩,h4⟩,h5⟩:=h;have:=FI h1;exact⟨i,x,hi,hz,Lb h2,fun B=>this▸Bj hf,h3,h4,h5⟩
def Tab.fits (T:Tab):Nat→Nat→Bool
 |0,t=>decide (t<20)
 |n+1,t=>match T.info t with
  |none=>decide (t<20)
  |some (.st fs)=>fs.all (T.fits n)
  |some (.arr _ e)=>T.fits n e
  |some (.row _)=>false
def DL (c:Cfg) (ty e:Nat):Bool:=
 match c.P.underlying ty with
 |some (.slice ety)=>decide (tg c.tm ety=some e)
 |_=>false
def vO (c:Cfg) (ty r e:Nat):Bool:=
 match c.P.underlying ty with
 |some (.slice ety)=>decide (tg c.tm ety=some e)&&decide (c.T.info r=some (.row e))&&match c.P.info? ety with
  |some i=>decide (i.bytes≤65536)&&(match i.zero with|some z=>decide (z.cells.size=i.size)|none=>false)
  |none=>false
 |_=>false
def Cq (c:Cfg) (ty:Nat):Bool:=
 match c.P.underlying ty with
 |some (.map k e)=>(match c.P.underlying k with|some (.int .i64)=>true|_=>false)&&(match(c.P.info? e).bind (·.zero)with|some (.bool false)=>true|_=>false)
 |_=>false
def ay (c:Cfg) (o:Op') (q:Go.Op):Bool:=
 match o with
 | .mv x=>match q with
  | .move y=>aJ c.gl x y
  | .assign y=>aJ c.gl x y
  |_=>false
 | .pick x a b=>match q with
  | .pick x' a' b'=>aJ c.gl x x'&&aJ c.gl a a'&&aJ c.gl b b'
  |_=>false
 | .alloc _ z=>match q with
  | .alloc ty=>zOk c z ty
  |_=>false
 | .box _ x=>match q with
  | .box _ y=>aJ c.gl x y
  |_=>false
 | .ld t p=>match q with
  | .load ty p'=>aJ c.gl p p'&&decide (tg c.tm ty=some t)
  |_=>false
 | .st t p x=>match q with
  | .store ty p' x'=>aJ c.gl p p'&&aJ c.gl x x'&&decide (tg c.tm ty=some t)
  |_=>false
 | .nilc x=>match q with
  | .nilCheck y=>aJ c.gl x y
  |_=>false
 | .bin o x y=>match q with
  | .binOp o' _ x' y' _=>decide (o=o')&&aJ c.gl x x'&&aJ c.gl y y'
  |_=>false
 | .eq neg t x y=>match q with
  | .binOp o' ty x' y' _=>decide (o'=if neg then .neq else .eql)&&aJ c.gl x x'&&aJ c.gl y y'&&
   (match t with
    |1=>(match c.P.underlying ty with|some (.pointer _)=>true|_=>false)
    |3=>(match c.P.underlying ty with|some (.slice _)=>true|_=>false)
    |5=>(match c.P.underlying ty with|some (.func _ _ _)=>true|_=>false)
    |t=>decide (tg c.tm ty=some t)&& !c.P.eqGuardType c.P.depth ty&&c.T.fits 50 t)
  |_=>false
 | .un o x=>match q with
  | .unOp o' _ y=>decide (o=o')&&aJ c.gl x y
  |_=>false
 | .conv k x=>match q with
  | .convert s d y=>aJ c.gl x y&&(c.P.underlying s).isSome&&(match c.P.underlying d with|some (.int k')=>decide (k=k')|_=>false)
  |_=>false
 | .mkfn f caps=>match q with
  | .makeFunc (.func g) first caps'=>decide (f=g)&&first.isEmpty&&cH c.gl caps caps'.toList
  |_=>false
 | .mksl _ r e z n m=>match q with
  | .makeSlice ty n' m'=>aJ c.gl n n'&&aJ c.gl m m'&&vO c ty r e&&(match c.P.underlying ty with|some (.slice ety)=>zOk c z ety|_=>false)
  |_=>false
 | .slc e x lo hi mx=>match q with
  | .slice ty y lo' hi' mx'=>DL c ty e&&aJ c.gl x y&&jm c.gl lo lo'&&jm c.gl hi hi'&&jm c.gl mx mx'&&(mx.isNone||hi.isSome)
  |_=>false
 | .slstr x lo hi=>match q with
  | .slice ty y lo' hi' mx'=>(match c.P.underlying ty with|some .string=>true|_=>false)&&aJ c.gl x y&&jm c.gl lo lo'&&jm c.gl hi hi'&&mx'.isNone
  |_=>false
 | .slarr t n e x lo hi mx=>match q with
  | .slice ty y lo' hi' mx'=>(match c.P.underlying ty with|some (.array n' ety)=>decide (n=n')&&decide (tg c.tm ety=some e)&&decide (0<n)|_=>false)&&decide (tg c.tm ty=some t)&&aJ c.gl x y&&jm c.gl lo lo'&&jm c.gl hi hi'&&jm c.gl mx mx'&&(mx.isNone||hi.isSome)
  |_=>false
 | .fad t f u x=>match q with
  | .fieldAddr ty y f'=>decide (tg c.tm ty=some t)&&decide (f=f')&&aJ c.gl x y&&(match c.T.info t with|some (.st ts)=>decide (ts[f]?=some u)|_=>false)
  |_=>false
 | .iad t n e x i=>match q with
  | .indexAddr ty y j=>decide (tg c.tm ty=some t)&&aJ c.gl x y&&aJ c.gl i j&&decide (c.T.info t=some (.arr n e))
  |_=>false
 | .sad e x i=>match q with
  | .indexAddr ty y j=>DL c ty e&&aJ c.gl x y&&aJ c.gl i j
  |_=>false
 | .s2a n e x=>match q with
  | .sliceToArrayPointer ty y=>(match c.P.underlying ty with|some (.array n' ety)=>decide (n=n')&&decide (tg c.tm ety=some e)|_=>false)&&aJ c.gl x y
  |_=>false
 | .ldr t n e u p=>match q with
  | .load ty p'=>aJ c.gl p p'&&decide (tg c.tm ty=some t)&&decide (c.T.info t=some (.arr n e))&&decide (c.T.elem u=some e)&&decide (0<n)
  |_=>false
 | .fld t f x=>match q with
  | .field ty y f'=>decide (tg c.tm ty=some t)&&decide (f=f')&&aJ c.gl x y&&(match c.T.info t with|some (.st _)=>true|_=>false)
  |_=>false
 | .idx t n x i=>match q with
  | .index ty y j=>decide (tg c.tm ty=some t)&&aJ c.gl x y&&aJ c.gl i j&&(match c.T.info t with|some (.arr m _)=>decide (n=m)|_=>false)
  |_=>false
 | .sidx x i=>match q with
  | .index ty y j=>(match c.P.underlying ty with|some .string=>true|_=>false)&&aJ c.gl x y&&aJ c.gl i j
  |_=>false
 | .ext x i=>match q with
  | .extract y j=>decide (i=j)&&aJ c.gl x y
  |_=>false
 | .lenk n=>match q with
  | .call {callee:= .builtin .len,args,argTypes}=>args.size==1&&(match(argTypes[0]?).bind c.P.underlying with
   |some (.array m _)=>decide (n=m)
   |some (.pointer p)=>(match c.P.underlying p with|some (.array m _)=>decide (n=m)|_=>false)
   |_=>false)
  |_=>false
 | .len s x=>match q with
  | .call {callee:= .builtin .len,args,argTypes}=>(match args.toList with|[y]=>aJ c.gl x y|_=>false)&&(match(argTypes[0]?).bind c.P.underlying with
   |some (.slice _)=> !s
   |some .string=>s
   |_=>false)
  |_=>false
 | .app _ r e x y=>match q with
  | .call {callee:= .builtin .append,args,argTypes}=>cH c.gl [x,y] args.toList&&(match argTypes.toList with
   |[ty,ty']=>vO c ty r e&&(match c.P.underlying ty' with|some (.slice _)=>true|some .string=>true|_=>false)
   |_=>false)
  |_=>false
 | .cpy e x y=>match q with
  | .call {callee:= .builtin .copy,args,argTypes}=>cH c.gl [x,y] args.toList&&(match argTypes.toList with
   |[ty,_]=>DL c ty e
   |_=>false)
  |_=>false
 | .mnx mx x y=>match q with
  | .call {callee:= .builtin b,args,.. }=>decide (b=if mx then .max else .min)&&cH c.gl [x,y] args.toList
  |_=>false
 | .bld z ps=>match q with
  | .build ty ps'=>zOk c z ty&&qM c.gl ps ps'.toList
  |_=>false
 | .bsl _ r e z n ps=>match q with
  | .buildSlice ty n' ps'=>decide (n=n')&&vO c ty r e&&qM c.gl ps ps'.toList&&(match c.P.underlying ty with|some (.slice ety)=>zOk c z ety|_=>false)&&decide (n*c.T.size e≤16777216)
  |_=>false
 | .call f args=>match q with
  | .call {callee:= .value g,args:=args',.. }=>aJ c.gl f g&&cH c.gl args args'.toList
  |_=>false
 | .pcall f args=>match q with
  | .call {callee:= .value g,args:=args',.. }=>aJ c.gl f g&&cH c.gl args args'.toList
  |_=>false
 | .sta t p x _=>match q with
  | .store ty p' x'=>aJ c.gl p p'&&aJ c.gl x x'&&decide (tg c.tm ty=some t)
  |_=>false
 | .callw f args _=>match q with
  | .call {callee:= .value g,args:=args',.. }=>aJ c.gl f g&&cH c.gl args args'.toList
  |_=>false
 | .lda t p _=>match q with
  | .load ty p'=>aJ c.gl p p'&&decide (tg c.tm ty=some t)
  |_=>false
 | .callk _ f args=>match q with
  | .call {callee:= .value g,args:=args',.. }=>aJ c.gl f g&&cH c.gl args args'.toList
  |_=>false
 | .appa _ r e x y _=>match q with
  | .call {callee:= .builtin .append,args,argTypes}=>cH c.gl [x,y] args.toList&&(match argTypes.toList with
   |[ty,ty']=>vO c ty r e&&(match c.P.underlying ty' with|some (.slice _)=>true|some .string=>true|_=>false)
   |_=>false)
  |_=>false
 | .ldl t p=>match q with
  | .load ty p'=>aJ c.gl p p'&&decide (tg c.tm ty=some t)
  |_=>false
 | .mkm=>match q with
  | .makeMap _ none=>true
  |_=>false
 | .mlk x k=>match q with
  | .lookup ty y j false=>aJ c.gl x y&&aJ c.gl k j&&Cq c ty
  |_=>false
 | .mup x k v=>match q with
  | .mapUpdate ty y j b=>aJ c.gl x y&&aJ c.gl k j&&aJ c.gl v b&&Cq c ty
  |_=>false
def cE (c:Cfg) (B0 base:Nat) (B:BM) (s:St) (w:World) (a:Act) (q:Oper) (v:V) (s':St):Prop:=
 ∃nx w' B',(execOp a.eval q).run c.P w= .ok nx w'∧((∃x,nx= .value x∧VR c.T B' v x)∨(nx= .skip∧v= .dead))∧Stp c.T B0 base B s w B' s' w'
theorem aA {c:Cfg}{B0 base:Nat}{B:BM}{s:St}{w:World}{a:Act}{q:Oper}{v:V}{x:Value}(h:SR c.T B0 B s w) (hr:(execOp a.eval q).run c.P w= .ok (.value x) w) (hv:VR c.T B v x):
 cE c B0 base B s w a q v s:=⟨_,_,B,hr,.inl ⟨x,rfl,hv⟩,.refl h⟩
theorem AA {T:Tab}(hT:aR T=true) {v:V}(hw:v.wf T) {ti:TI}(hi:T.info v.tag=some ti):∃l,v= .agg v.tag l:=by
 by_cases ht:v.tag<20
 ·rw[dv hT ht]at hi;cases hi
 ·cases v with
  |agg t l=>exact⟨l,rfl⟩
  |dead=>exact hw.elim
  |tup l=>exact hw.elim
  |int k n=>exact absurd (zR k) ht
  |_=>exact absurd (by simp[V.tag]) ht
theorem uy {T:Tab}{v:V}(hw:v.wf T) (hi:T.info v.tag=none):eX v=false:=by
 cases v with
 |agg t l=>
  simp only[V.wf]at hw;unfold cQ at hw;simp only[V.tag]at hi;rw[hi]at hw;exact hw.1.elim
 |_=>rfl
structure Ty (c:Cfg) (ty t:Nat) (i:TypeInfo) (d:TypeDesc):Prop where
 info:c.P.info? ty=some i
 under:c.P.underlying ty=some d
 size:i.size=c.T.size t
 pos:0<c.T.size t
 nr:c.T.noRow t=true
 row:(d.isRow=true∧∃ti,c.T.info t=some ti)∨(d.isRow=false∧c.T.info t=none)
 all:rI c ty t=true
theorem cY {c:Cfg}(hT:aR c.T=true) (hm:kr c=true) {ty t:Nat}(h:tg c.tm ty=some t):∃i d,Ty c ty t i d:=by
 have h1:=R7 hm h;have h0:=h1;unfold rI at h1;cases hi:c.P.info? ty with
 |none=>rw[hi]at h1;simp at h1
 |some i=>
  cases hd:c.P.underlying ty with
  |none=>rw[hi,hd]at h1;simp at h1
  |some d=>
   rw[hi,hd]at h1;simp only[Zj,Zi]at h1;obtain⟨⟨⟨h2,h3⟩,h4⟩,h5⟩:=h1;refine⟨i,d,hi,hd,h2,h3,h4,?_,h0⟩;cases d with
   |struct fs=>
    left;refine⟨rfl,?_⟩;simp only[Zj]at h5;cases hti:c.T.info t with
    |none=>rw[hti]at h5;simp at h5
    |some ti=>exact⟨ti,rfl⟩
   |array n e=>
    left;refine⟨rfl,?_⟩;cases hti:c.T.info t with
    |none=>rw[hti]at h5;simp at h5
    |some ti=>exact⟨ti,rfl⟩
   |bool=>right;simp only[Zi]at h5;subst h5;exact⟨rfl,dv hT (by decide)⟩
   |string=>right;simp only[Zi]at h5;subst h5;exact⟨rfl,dv hT (by decide)⟩
   |int k=>right;simp only[Zi]at h5;subst h5;exact⟨rfl,dv hT (zR k)⟩
   |pointer _=>right;simp only[Zi]at h5;subst h5;exact⟨rfl,dv hT (by decide)⟩
   |slice _=>right;simp only[Zi]at h5;subst h5;exact⟨rfl,dv hT (by decide)⟩
   |func _ _ _=>right;simp only[Zi]at h5;subst h5;exact⟨rfl,dv hT (by decide)⟩
   |map _ _=>right;simp only[Zi]at h5;subst h5;exact⟨rfl,dv hT (by decide)⟩
   |_=>simp at h5
theorem ua {c:Cfg}(hT:aR c.T=true) {ty t:Nat}{i:TypeInfo}{d:TypeDesc}(hty:Ty c ty t i d) {B:BM}{v:V}(hw:v.wf c.T) (ht:v.tag=t) {cs:List Value}(hc:CR c.T B v cs) {w:World}{b o:Nat}(hr:w.rangeAt b o cs):
 ∃x,(Instr.loadAt ty (.pointer (some ⟨b,o,none⟩))).run c.P w= .ok x w∧VR1 c.T B v x:=by
 have hl:cs.length=c.T.size t:=by rw[←ht];exact mU hT hw hc (by rw[ht];exact hty.nr)
 rcases hty.row with⟨hrow,ti,hti⟩|⟨hrow,hti⟩
 ·obtain⟨l,hv⟩:=AA hT hw (by rw[ht];exact hti);refine⟨.agg cs.toArray,run_loadAt_mid w b o ty cs d hr hty.under hrow (by rw[hty.info];simp[hty.size,hl]),hw,by simpa[Value.cells]using hc,?_⟩;rw[hv];rfl
 ·have hone:c.T.size t=1:=by
   cases hf:c.T.find t with
   |none=>unfold Tab.size;rw[hf]
   |some x=>unfold Tab.info at hti;rw[hf]at hti;cases hti
  rw[hone]at hl;obtain⟨x,rfl⟩:=List.length_eq_one_iff.1 hl;have hcell:=hr 0 x rfl;have hx1:x.oneCell'=true:=Cc hc x (by simp);refine⟨x,?_,hw,?_,?_⟩
  ·have hagg:(isAgg ty).run c.P w= .ok false w:=by unfold isAgg;rw[Sem.run_bind,run_underlying hty.under w];cases d<;>simp_all [TypeDesc.isRow]
   simp only[Nat.add_zero]at hcell;simp[Instr.loadAt,Instr.sureAddr,loadVar,hagg,hcell]
  ·cases x<;>simp_all [Value.cells,Value.oneCell']
  ·rw[uy hw (by rw[ht];exact hti)];cases x<;>simp_all [cC,Value.oneCell']
theorem E6 {c:Cfg}{ty t:Nat}{i:TypeInfo}{d:TypeDesc}(hty:Ty c ty t i d) {x:Value}(h1:∀u∈x.cells.toList,u.oneCell'=true) (hl:x.cells.toList.length=c.T.size t) {w:World}{b o:Nat}(hr:w.there b o x.cells.toList.length):
 (Instr.storeAt ty (.pointer (some ⟨b,o,none⟩)) x).run c.P w= .ok () (w.setCells b o x.cells.toList):=by
 have h:=run_storeCells_cells (P:=c.P) b o x.cells.toList 0 w (fun j hj=>by simpa using(hr j hj).1) (fun j hj=>by simpa using(hr j hj).2) h1;have hs:¬(x.cells.size≠i.size):=by rw[hty.size];simp at hl;simp[hl]
 simp only[Nat.add_zero]at h;simp[Instr.storeAt,Instr.sureAddr,storeVar,sizeOf,typeInfo,hty.info,hs,h]
theorem Jb {base:Nat}{s s':St}{l:Loc}{path:List Nat}{x:V}(h:s.write base l path x=some s'):∃u,s.read l path=some u:=by
 unfold St.write at h;unfold St.read;cases hs:s.at l with
 |none=>rw[hs]at h;cases h
 |some b=>
  rw[hs]at h;cases b with
  |rw v=>
   simp only at h;split at h
   ·cases hq:V.setAt path x v with
    |none=>rw[hq]at h;cases h
    |some v'=>
     have key:∀(path:List Nat) (v v':V),V.setAt path x v=some v'→∃u,V.at path v=some u:=by
      intro path
      induction path with
      |nil=>exact fun v _ _=>⟨v,rfl⟩
      |cons i p ih=>
       intro v v' hv;cases v with
       |agg t m=>
        simp only[V.setAt]at hv;simp only[V.at];cases hy:m[i]? with
        |none=>rw[hy]at hv;cases hv
        |some y=>
         rw[hy]at hv;simp only at hv;cases hz:V.setAt p x y with
         |none=>rw[hz]at hv;cases hv
         |some y'=>exact ih y y' hz
       |_=>simp[V.setAt]at hv
     exact key path v v' hq
   ·cases h
  |_=>cases h
section sims
variable {c : Cfg} (hT : aR c.T = true) (hm : kr c = true) {B0 base : Nat} {B : BM} {s s' : St} {w : World} {a : Act} {ρ : Env} {v : V}
 (hE:ER c.T B ρ a.tmps) (hG:fb c.gl B) (hS:SR c.T B0 B s w)
include hE hG hS
theorem WD {x:Opd}{q:Oper}(hc:ay c (.mv x) q.op=true) (he:evOp base ρ s (.mv x)=some (v,s')):cE c B0 base B s w a q v s':=by
 simp only[evOp,Zg,Zk]at he;obtain⟨rfl,rfl⟩:=he;simp only[ay]at hc;split at hc
 ·rename_i y hq;exact aA hS (by simp only[execOp,hq];rfl) (aC hc hE hG)
 ·rename_i y hq;exact aA hS (by simp only[execOp,hq];rfl) (aC hc hE hG)
 ·cases hc
theorem Rm {x y z:Opd}{q:Oper}(hc:ay c (.pick x y z) q.op=true) (he:evOp base ρ s (.pick x y z)=some (v,s')):cE c B0 base B s w a q v s':=by
 simp only[ay]at hc;split at hc
 ·rename_i x' y' z' hq;simp only[Zj]at hc;simp only[evOp]at he;have hx:=aC hc.1.1 hE hG;have hy:=aC hc.1.2 hE hG;have hz:=aC hc.2 hE hG;cases hv:x.ev ρ with
  |bool t=>
   rw[hv]at he hx;simp only[Zg,Zk]at he;obtain⟨rfl,rfl⟩:=he;rw[bn]at hx;refine aA hS (x:=if t then a.eval y' else a.eval z') (by simp[execOp,hq,hx,asBool]) ?_
   cases t
   ·exact hz
   ·exact hy
  |_=>rw[hv]at he;cases he
 ·cases hc
include hT hm in
theorem GM {t:Nat}{p:Opd}{q:Oper}(hc:ay c (.ld t p) q.op=true) (he:evOp base ρ s (.ld t p)=some (v,s')):cE c B0 base B s w a q v s':=by
 simp only[ay]at hc;split at hc
 ·rename_i ty p' hq;simp only[Zj,Zi]at hc;simp only[evOp]at he;have hp:=aC hc.1 hE hG;obtain⟨i,d,hty⟩:=cY hT hm hc.2;cases hv:p.ev ρ with
  |ptr l path t'=>
   rw[hv]at he hp;simp only at he;by_cases htt:t'=t
   ·rw[if_pos htt]at he;subst htt;cases hr:s.read l path with
    |none=>rw[hr]at he;cases he
    |some u=>
     rw[hr]at he;simp only[Zg,Zk]at he;obtain⟨rfl,rfl⟩:=he;obtain⟨ad,r,o,h1,h2,h3⟩:=ff.1 hp;obtain⟨g1,g2,cs,g3,g4,_⟩:=qX hT hS hr h1 h2;obtain⟨x,hx1,hx2⟩:=ua hT hty g1 g2 g3 g4;exact aA hS (by simp[execOp,hq,h3,hx1]) (eu hx2)
   ·rw[if_neg htt]at he;cases he
  |_=>rw[hv]at he;cases he
 ·cases hc
include hT hm in
theorem MS {t:Nat}{p x:Opd}{q:Oper}(hc:ay c (.st t p x) q.op=true) (he:evOp base ρ s (.st t p x)=some (v,s')):cE c B0 base B s w a q v s':=by
 simp only[ay]at hc;split at hc
 ·rename_i ty p' x' hq;simp only[Zj,Zi]at hc;simp only[evOp]at he;have hp:=aC hc.1.1 hE hG;have hx:=aC hc.1.2 hE hG;obtain⟨i,d,hty⟩:=cY hT hm hc.2;cases hv:p.ev ρ with
  |ptr l path t'=>
   rw[hv]at he hp;simp only at he;by_cases htt:t'=t∧(x.ev ρ).tag=t
   ·rw[if_pos htt]at he;obtain⟨rfl,hxt⟩:=htt;cases hwr:s.write base l path (x.ev ρ)with
    |none=>rw[hwr]at he;cases he
    |some s1=>
     rw[hwr]at he;simp only[Zg,Zk]at he;obtain⟨rfl,rfl⟩:=he;obtain⟨ad,r,o,h1,h2,h3⟩:=ff.1 hp;obtain⟨u,hr⟩:=Jb hwr;obtain⟨g1,g2,cs,g3,g4,_⟩:=qX hT hS hr h1 h2;have hok:(x.ev ρ).ok=true:=by
      cases hxv:x.ev ρ with
      |dead=>
       rw[hxv]at hxt;simp only[V.tag]at hxt;have:=hty.all;rw[←hxt]at this hty;unfold rI at this;rw[hty.info,hty.under]at this;simp only[Zj,Zi]at this;have h5:=this.2;have hi3:c.T.info 3=none:=dv hT (by decide);cases d with
       |int k=>simp only[Zi]at h5;cases k<;>simp[jL]at h5
       |struct fs=>simp[hi3]at h5
       |array n e=>simp[hi3]at h5
       |_=>simp at h5
      |tup l=>
       rw[hxv]at hxt;simp only[V.tag]at hxt;have:=hty.all;rw[←hxt]at this hty;unfold rI at this;rw[hty.info,hty.under]at this;simp only[Zj,Zi]at this;have h5:=this.2;have hi3:c.T.info 5=none:=dv hT (by decide);cases d with
       |int k=>simp only[Zi]at h5;cases k<;>simp[jL]at h5
       |struct fs=>simp[hi3]at h5
       |array n e=>simp[hi3]at h5
       |_=>simp at h5
      |_=>rfl
     obtain⟨hxw,hxc,hxa⟩:=(rz hok).1 hx;have hxl:(a.eval x').cells.toList.length=c.T.size t':=by rw[←hxt];exact mU hT hxw hxc (by rw[hxt];exact hty.nr)
     obtain⟨k1,k2⟩:=Es hT hS hr hwr h1 h2 hxw hxt hxc (fun cu hcu=>by rw[hxl,←g2];exact(mU hT g1 hcu (by rw[g2];exact hty.nr)).symm) (by rw[hxl];exact hty.pos)
     refine⟨.skip,_,B,?_,.inr ⟨rfl,rfl⟩,k2⟩;simp only[execOp,hq,h3];simp[E6 hty (Cc hxc) hxl k1]
   ·rw[if_neg htt]at he;cases he
  |_=>rw[hv]at he;cases he
 ·cases hc
theorem Qz {x:Opd}{q:Oper}(hc:ay c (.nilc x) q.op=true) (he:evOp base ρ s (.nilc x)=some (v,s')):cE c B0 base B s w a q v s':=by
 simp only[ay]at hc;split at hc
 ·rename_i y hq;have hx:=aC hc hE hG;simp only[evOp]at he;cases hv:x.ev ρ with
  |ptr l p t=>
   rw[hv]at he hx;simp only[Zg,Zk]at he;obtain⟨rfl,rfl⟩:=he;obtain⟨ad,r,o,h1,h2,h3⟩:=ff.1 hx;exact aA hS (by simp[execOp,hq,h3]) (h3▸hx)
  |fn f l=>
   rw[hv]at he hx;simp only[Zg,Zk]at he;obtain⟨rfl,rfl⟩:=he;obtain⟨vs,h1,h2,h3,h4⟩:=sS.1 hx;exact aA hS (by simp[execOp,hq,h4]) (h4▸hx)
  |_=>rw[hv]at he;cases he
 ·cases hc
theorem Vx {o:UnOp}{x:Opd}{q:Oper}(hc:ay c (.un o x) q.op=true) (he:evOp base ρ s (.un o x)=some (v,s')):cE c B0 base B s w a q v s':=by
 simp only[ay]at hc;split at hc
 ·rename_i o' ty y hq;simp only[Zj,Zi]at hc;obtain⟨rfl,hc⟩:=hc;have hx:=aC hc hE hG;simp only[evOp]at he;cases hv:x.ev ρ with
  |bool b=>
   rw[hv]at he hx;rw[bn]at hx;cases o<;>simp[vun]at he;obtain⟨rfl,rfl⟩:=he;exact aA hS (by simp[execOp,hq,hx,Op.unary]) (bn.2 rfl)
  |int k n=>
   rw[hv]at he hx;rw[aQ]at hx;cases o<;>simp[vun]at he
   ·obtain⟨rfl,rfl⟩:=he;exact aA hS (x:= .int k (k.wrap (0-n))) (by simp[execOp,hq,hx,Op.unary,Op.intArith]) (aQ.2 (by simp))
   ·obtain⟨rfl,rfl⟩:=he;exact aA hS (x:= .int k (bits k (·^^^·) (if k.signed then-1 else k.max) n)) (by simp[execOp,hq,hx,Op.unary,Op.intBits,bits]) (aQ.2 rfl)
  |_=>rw[hv]at he;cases o<;>simp[vun]at he
 ·cases hc
theorem Pm {k:IntKind}{x:Opd}{q:Oper}(hc:ay c (.conv k x) q.op=true) (he:evOp base ρ s (.conv k x)=some (v,s')):cE c B0 base B s w a q v s':=by
 simp only[ay]at hc;split at hc
 ·rename_i sy dy y hq;simp only[Zj]at hc;obtain⟨⟨hc,hs⟩,hd⟩:=hc;have hx:=aC hc hE hG;simp only[evOp]at he;cases hu:c.P.underlying sy with
  |none=>rw[hu]at hs;cases hs
  |some ud=>
   cases hv:x.ev ρ with
   |int k' n=>
    rw[hv]at he hx;rw[aQ]at hx;simp only[Zg,Zk]at he;obtain⟨rfl,rfl⟩:=he;split at hd
    ·rename_i k2 hk2;simp only[Zi]at hd;subst hd;exact aA hS (by simp[execOp,hq,hx,convert,run_underlying hu,run_underlying hk2,Conv.intToInt]) (aQ.2 rfl)
    ·cases hd
   |_=>rw[hv]at he;cases he
 ·cases hc
end sims
theorem iN {T:Tab}:∀{p q:List Nat}{r o t o' t':Nat},ci T r p=some (o,t)→ci T t q=some (o',t')→ci T r (p++q)=some (o+o',t')
 |[],q,r,o,t,o',t',h,h'=>by simp only[ci,Zg,Zk]at h;obtain⟨rfl,rfl⟩:=h;simpa using h'
 |i::p,q,r,o,t,o',t',h,h'=>by
  simp only[ci,List.cons_append]at h⊢;cases hi:T.info r with
  |none=>rw[hi]at h;cases h
  |some ti=>
   rw[hi]at h;cases ti with
   |st fs=>
    simp only at h⊢;cases hf:fs[i]? with
    |none=>rw[hf]at h;cases h
    |some c=>
     rw[hf]at h;simp only[Option.map_eq_some_iff]at h⊢;obtain⟨⟨o1,t1⟩,hx,hxe⟩:=h;cases hxe;exact⟨_,iN hx h',by simp;omega⟩
   |arr n e=>
    simp only at h⊢;by_cases hin:i<n
    ·rw[if_pos hin]at h⊢;simp only[Option.map_eq_some_iff]at h⊢;obtain⟨⟨o1,t1⟩,hx,hxe⟩:=h;cases hxe;exact⟨_,iN hx h',by simp;omega⟩
    ·rw[if_neg hin]at h;cases h
   |row e=>
    simp only[Option.map_eq_some_iff]at h⊢;obtain⟨⟨o1,t1⟩,hx,hxe⟩:=h;cases hxe;exact⟨_,iN hx h',by simp;omega⟩
theorem uw {c:Cfg}{ty t:Nat}{i:TypeInfo}{d:TypeDesc}(hty:Ty c ty t i d) {ts:List Nat}(hi:c.T.info t=some (.st ts)):∃fs,d= .struct fs∧ts.length=fs.size∧c.P.stoodInHeld ty=false∧
 ∀ (j : Nat) (f : Field), fs[j]? = some f → ∃ u, ts[j]? = some u ∧ f.offset = c.T.sum (ts.take j) ∧ tg c.tm f.type = some u ∧ (f.name != "_") = true := by
 have h:=hty.all;unfold rI at h;rw[hty.info,hty.under]at h;simp only[Zj,Zi]at h;have h5:=h.2;cases d with
 |struct fs=>
  rw[hi]at h5;simp only[Zj,Bool.not_eq_true',Zi,List.all_eq_true,List.mem_range]at h5;refine⟨fs,rfl,h5.2.1,h5.1,fun j f hf=> ?_⟩;have hj:j<fs.size:=(Array.getElem?_eq_some_iff.1 hf).1;have:=h5.2.2 j hj;rw[hf]at this;cases hu:ts[j]? with
  |none=>rw[hu]at this;cases this
  |some u=>
   rw[hu]at this;simp only[Zj,Zi]at this;exact⟨u,rfl,this.1.1,this.1.2,this.2⟩
 |array n e=>rw[hi]at h5;simp at h5
 |_=>exfalso;rcases hty.row with⟨h1,_⟩|⟨_,h1⟩<;>first|(simp[TypeDesc.isRow]at h1;done)|(rw[hi]at h1;cases h1)
theorem zP {c:Cfg}{ty t:Nat}{i:TypeInfo}{d:TypeDesc}(hty:Ty c ty t i d) {n e:Nat}(hi:c.T.info t=some (.arr n e)):∃ety,d= .array n ety∧tg c.tm ety=some e:=by
 have h:=hty.all;unfold rI at h;rw[hty.info,hty.under]at h;simp only[Zj,Zi]at h;have h5:=h.2;cases d with
 |array m ety=>
  rw[hi]at h5;simp only[Zj,Zi]at h5;exact⟨ety,by rw[h5.1],h5.2⟩
 |struct fs=>rw[hi]at h5;simp at h5
 |_=>exfalso;rcases hty.row with⟨h1,_⟩|⟨_,h1⟩<;>first|(simp[TypeDesc.isRow]at h1;done)|(rw[hi]at h1;cases h1)
theorem TN {c:Cfg}{ty t:Nat}{i:TypeInfo}{d:TypeDesc}(hty:Ty c ty t i d) {e:Nat}(hi:c.T.info t=some (.row e)):False:=Ej hty.nr e hi
theorem GN {c:Cfg}{ty t:Nat}{i:TypeInfo}{d:TypeDesc}(hty:Ty c ty t i d) (w:World):(isAgg ty).run c.P w= .ok d.isRow w:=by unfold isAgg;rw[Sem.run_bind,run_underlying hty.under w];cases d<;>rfl
theorem j8 {c:Cfg}(hT:aR c.T=true) {ty t:Nat}{i:TypeInfo}{d:TypeDesc}(hty:Ty c ty t i d) {B:BM}{y:V}(hw:y.wf c.T) (ht:y.tag=t) {xs:Array Value}{a b z:List Value}(hxs:xs.toList=a++b++z) (hc:CR c.T B y b) {off:Nat}(ho:a.length=off) (w:World):
 ∃x,(part ty xs off).run c.P w= .ok x w∧VR1 c.T B y x:=by
 have hl:b.length=c.T.size t:=by rw[←ht];exact mU hT hw hc (by rw[ht];exact hty.nr)
 have hbs:(xs.extract off (off+i.size)).toList=b:=by rw[Array.toList_extract,hxs,hty.size,←ho,←hl,List.append_assoc];simp[List.extract]
 rcases hty.row with⟨hrow,ti,hti⟩|⟨hrow,hti⟩
 ·obtain⟨l,hv⟩:=AA hT hw (by rw[ht];exact hti);have hagg:(isAgg ty).run c.P w= .ok true w:=by rw[GN hty w,hrow]
  refine⟨.agg (xs.extract off (off+i.size)),by simp[part,hagg,sizeOf,typeInfo,hty.info],hw,by simp only[Value.cells];rw[hbs];exact hc,?_⟩;rw[hv];rfl
 ·have hone:c.T.size t=1:=by
   cases hf:c.T.find t with
   |none=>unfold Tab.size;rw[hf]
   |some x=>unfold Tab.info at hti;rw[hf]at hti;cases hti
  rw[hone]at hl;obtain⟨x,rfl⟩:=List.length_eq_one_iff.1 hl;have hx1:x.oneCell'=true:=Cc hc x (by simp);have hagg:(isAgg ty).run c.P w= .ok false w:=by rw[GN hty w,hrow]
  have hget:xs[off]?=some x:=by rw[←Array.getElem?_toList,hxs,List.append_assoc,List.getElem?_append_right (by omega),ho,Nat.sub_self];rfl
  have hxc:x.cells.toList=[x]:=by cases x<;>simp[Value.oneCell']at hx1<;>rfl
  refine⟨x,by simp[part,hagg,hget],hw,by rw[hxc];exact hc,?_⟩;rw[uy hw (by rw[ht];exact hti)];cases x<;>simp[Value.oneCell']at hx1<;>rfl
theorem ir {c:Cfg}{ty t:Nat}{i:TypeInfo}{d:TypeDesc}(hty:Ty c ty t i d) (w:World):(sizeOf ty).run c.P w= .ok (c.T.size t) w:=by simp[sizeOf,typeInfo,hty.info,hty.size]
section sims
variable {c : Cfg} (hT : aR c.T = true) (hm : kr c = true) {B0 base : Nat} {B : BM} {s s' : St} {w : World} {a : Act} {ρ : Env} {v : V}
 (hE:ER c.T B ρ a.tmps) (hG:fb c.gl B) (hS:SR c.T B0 B s w)
include hE hG hS
theorem SM {o:BinOp}{x y:Opd}{q:Oper}(hc:ay c (.bin o x y) q.op=true) (he:evOp base ρ s (.bin o x y)=some (v,s')):cE c B0 base B s w a q v s':=by
 simp only[ay]at hc;split at hc
 ·rename_i o' ty x' y' ty' hq;simp only[Zj,Zi]at hc;obtain⟨⟨rfl,hcx⟩,hcy⟩:=hc;have hx:=aC hcx hE hG;have hy:=aC hcy hE hG;simp only[evOp]at he;cases hb:mO o (x.ev ρ) (y.ev ρ)with
  |none=>rw[hb]at he;cases he
  |some r=>
   rw[hb]at he;simp only[Zg,Zk]at he;obtain⟨rfl,rfl⟩:=he;unfold mO at hb;split at hb
   ·rename_i k n k' m hxv hyv;rw[hxv,aQ]at hx;rw[hyv,aQ]at hy;by_cases hsh:BinOp.isShift o=true
    ·rw[if_pos hsh]at hb;unfold shf at hb;by_cases hm0:m<0
     ·rw[if_pos hm0]at hb;cases hb
     ·rw[if_neg hm0]at hb;cases o<;>simp[BinOp.isShift]at hsh<;>simp only[Zg]at hb<;>subst hb
      ·exact aA hS (x:= .int k (k.wrap (n*2^(min m.toNat k.bits)))) (by simp[execOp,hq,hx,hy,eqGuard,Go.binOp,Op.shift,hm0]) (aQ.2 rfl)
      ·exact aA hS (x:= .int k (n.fdiv (2^(min m.toNat k.bits)))) (by simp[execOp,hq,hx,hy,eqGuard,Go.binOp,Op.shift,hm0]) (aQ.2 rfl)
    ·rw[if_neg hsh]at hb;by_cases hk:k=k'
     ·subst hk;rw[if_pos rfl]at hb;cases o<;>simp[BinOp.isShift]at hsh<;>simp only[DD,Zg]at hb
      case add=>subst hb;exact aA hS (x:= .int k (k.wrap (n+m))) (by simp[execOp,hq,hx,hy,eqGuard,Go.binOp,Op.intArith]) (aQ.2 rfl)
      case sub=>subst hb;exact aA hS (x:= .int k (k.wrap (n-m))) (by simp[execOp,hq,hx,hy,eqGuard,Go.binOp,Op.intArith]) (aQ.2 rfl)
      case mul=>subst hb;exact aA hS (x:= .int k (k.wrap (n*m))) (by simp[execOp,hq,hx,hy,eqGuard,Go.binOp,Op.intArith]) (aQ.2 rfl)
      case quo=>
       by_cases h0:m=0
       ·rw[if_pos h0]at hb;cases hb
       ·rw[if_neg h0]at hb;cases hb;exact aA hS (x:= .int k (k.wrap (n.tdiv m))) (by simp[execOp,hq,hx,hy,eqGuard,Go.binOp,Op.intDiv,h0]) (aQ.2 rfl)
      case rem=>
       by_cases h0:m=0
       ·rw[if_pos h0]at hb;cases hb
       ·rw[if_neg h0]at hb;cases hb;exact aA hS (x:= .int k (n.tmod m)) (by simp[execOp,hq,hx,hy,eqGuard,Go.binOp,Op.intDiv,h0]) (aQ.2 rfl)
      case and=>subst hb;exact aA hS (x:= .int k (bits k (·&&&·) n m)) (by simp[execOp,hq,hx,hy,eqGuard,Go.binOp,Op.intBits,bits]) (aQ.2 rfl)
      case or=>subst hb;exact aA hS (x:= .int k (bits k (·|||·) n m)) (by simp[execOp,hq,hx,hy,eqGuard,Go.binOp,Op.intBits,bits]) (aQ.2 rfl)
      case xor=>subst hb;exact aA hS (x:= .int k (bits k (·^^^·) n m)) (by simp[execOp,hq,hx,hy,eqGuard,Go.binOp,Op.intBits,bits]) (aQ.2 rfl)
      case andNot=>subst hb;exact aA hS (x:= .int k (bits k (fun x y=>x&&&~~~y) n m)) (by simp[execOp,hq,hx,hy,eqGuard,Go.binOp,Op.intBits,bits]) (aQ.2 rfl)
      case eql=>subst hb;exact aA hS (x:= .bool (n==m)) (by simp[execOp,hq,hx,hy,eqGuard,Go.binOp,Op.intCmp]) (bn.2 (by congr 1))
      case neq=>subst hb;exact aA hS (x:= .bool (n !=m)) (by simp[execOp,hq,hx,hy,eqGuard,Go.binOp,Op.intCmp]) (bn.2 (by congr 1))
      case lss=>subst hb;exact aA hS (x:= .bool (decide (n<m))) (by simp[execOp,hq,hx,hy,eqGuard,Go.binOp,Op.intCmp]) (bn.2 rfl)
      case leq=>subst hb;exact aA hS (x:= .bool (decide (n≤m))) (by simp[execOp,hq,hx,hy,eqGuard,Go.binOp,Op.intCmp]) (bn.2 rfl)
      case gtr=>subst hb;exact aA hS (x:= .bool (decide (n>m))) (by simp[execOp,hq,hx,hy,eqGuard,Go.binOp,Op.intCmp]) (bn.2 rfl)
      case geq=>subst hb;exact aA hS (x:= .bool (decide (n≥m))) (by simp[execOp,hq,hx,hy,eqGuard,Go.binOp,Op.intCmp]) (bn.2 rfl)
     ·rw[if_neg hk]at hb;cases hb
   ·rename_i n m hxv hyv;rw[hxv,iL]at hx;rw[hyv,iL]at hy;cases o<;>simp only[DM,Zg,reduceCtorEq]at hb
    case add=>
     by_cases h0:n.size+m.size≤4611686018427387904
     ·rw[if_pos h0]at hb;cases hb;have h1:¬(((n.size+m.size:Nat):Int)>IntKind.i64.max):=by simp[IntKind.max,IntKind.signed,IntKind.bits];omega
      exact aA hS (x:= .string (n++m)) (by simp only[execOp,hq,hx,hy,eqGuard,Go.binOp,Op.stringOp,if_neg h1];simp) (iL.2 rfl)
     ·rw[if_neg h0]at hb;cases hb
    case eql=>subst hb;exact aA hS (x:= .bool (n.toList==m.toList)) (by simp[execOp,hq,hx,hy,eqGuard,Go.binOp,Op.stringOp]) (bn.2 rfl)
    case neq=>subst hb;exact aA hS (x:= .bool (!(n.toList==m.toList))) (by simp[execOp,hq,hx,hy,eqGuard,Go.binOp,Op.stringOp]) (bn.2 rfl)
    case lss=>subst hb;exact aA hS (x:= .bool (Op.bytesLess n.toList m.toList)) (by simp[execOp,hq,hx,hy,eqGuard,Go.binOp,Op.stringOp]) (bn.2 rfl)
    case leq=>subst hb;exact aA hS (x:= .bool (Op.bytesLess n.toList m.toList||n.toList==m.toList)) (by simp[execOp,hq,hx,hy,eqGuard,Go.binOp,Op.stringOp]) (bn.2 rfl)
    case gtr=>subst hb;exact aA hS (x:= .bool (!(Op.bytesLess n.toList m.toList||n.toList==m.toList))) (by simp[execOp,hq,hx,hy,eqGuard,Go.binOp,Op.stringOp]) (bn.2 rfl)
    case geq=>subst hb;exact aA hS (x:= .bool (!Op.bytesLess n.toList m.toList)) (by simp[execOp,hq,hx,hy,eqGuard,Go.binOp,Op.stringOp]) (bn.2 rfl)
   ·cases hb
 ·cases hc
include hT hm in
theorem Tc {t f u:Nat}{x:Opd}{q:Oper}(hc:ay c (.fad t f u x) q.op=true) (he:evOp base ρ s (.fad t f u x)=some (v,s')):cE c B0 base B s w a q v s':=by
 simp only[ay]at hc;split at hc
 ·rename_i ty y f' hq;simp only[Zj,Zi]at hc;obtain⟨⟨⟨hty,rfl⟩,hcx⟩,hts⟩:=hc;have hx:=aC hcx hE hG;obtain⟨i,d,hty⟩:=cY hT hm hty;simp only[evOp]at he;cases hti:c.T.info t with
  |none=>rw[hti]at hts;cases hts
  |some ti=>
   rw[hti]at hts;cases ti with
   |st ts=>
    simp only[Zi]at hts;obtain⟨fs,hd,hlen,_,hfs⟩:=uw hty hti;have hf:f<fs.size:=by rw[←hlen];exact(List.getElem?_eq_some_iff.1 hts).1
    obtain⟨u',hu1,hu2,hu3,_⟩:=hfs f fs[f] (Array.getElem?_eq_getElem hf);have huu:u'=u:=by rw[hts]at hu1;exact(Option.some.inj hu1).symm
    subst huu;obtain⟨i',d',hty'⟩:=cY hT hm hu3;cases hv:x.ev ρ with
    |ptr l path t'=>
     rw[hv]at he hx;simp only at he;by_cases htt:t'=t
     ·rw[if_pos htt]at he;subst htt;simp only[Zg,Zk]at he;obtain⟨rfl,rfl⟩:=he;obtain⟨ad,r,o,h1,h2,h3⟩:=ff.1 hx;have hne:¬(c.T.size u'=0):=by have:=hty'.pos;omega
      refine aA hS (x:= .pointer (some ⟨ad.block,ad.off+o+fs[f].offset,none⟩)) ?_ (ff.2 ⟨ad,r,o+fs[f].offset,h1,?_,by rw[Nat.add_assoc]⟩)
      ·simp[execOp,hq,h3,Instr.fieldAt,run_underlying (hd▸hty.under),Array.getElem?_eq_getElem hf,Instr.sureAddr,fieldPlace,ir hty',hne,Addr.add_mid]
      ·refine iN h2 ?_;simp only[ci,hti,hts,hu2,Option.map_some,Nat.add_zero]
     ·rw[if_neg htt]at he;cases he
    |_=>rw[hv]at he;cases he
   |_=>cases hts
 ·cases hc
include hT hm in
theorem SL {t n e:Nat}{x y:Opd}{q:Oper}(hc:ay c (.iad t n e x y) q.op=true) (he:evOp base ρ s (.iad t n e x y)=some (v,s')):cE c B0 base B s w a q v s':=by
 simp only[ay]at hc;split at hc
 ·rename_i ty x' y' hq;simp only[Zj,Zi]at hc;obtain⟨⟨⟨hty,hcx⟩,hcy⟩,hti⟩:=hc;have hx:=aC hcx hE hG;have hy:=aC hcy hE hG;obtain⟨i,d,hty⟩:=cY hT hm hty;obtain⟨ety,hd,hety⟩:=zP hty hti;obtain⟨i',d',hty'⟩:=cY hT hm hety;simp only[evOp]at he;split at he
  ·rename_i l path t' k j hxv hyv;rw[hxv]at hx;rw[hyv,aQ]at hy;by_cases htt:t'=t∧0≤j∧j<n
   ·rw[if_pos htt]at he;obtain⟨rfl,hj0,hjn⟩:=htt;simp only[Zg,Zk]at he;obtain⟨rfl,rfl⟩:=he;obtain⟨ad,r,o,h1,h2,h3⟩:=ff.1 hx;refine aA hS (x:= .pointer (some ⟨ad.block,ad.off+o+j.toNat*c.T.size e,none⟩)) ?_ (ff.2 ⟨ad,r,o+j.toNat*c.T.size e,h1,?_,by rw[Nat.add_assoc]⟩)
    ·simp[execOp,hq,h3,hy,Instr.indexAt,asIntOf,run_underlying (hd▸hty.under),Instr.sureAddr,hj0,hjn,ir hty',Addr.add_mid]
    ·refine iN h2 ?_;simp only[ci,hti,if_pos (show j.toNat<n by omega),Option.map_some,Nat.add_zero]
   ·rw[if_neg htt]at he;cases he
  ·cases he
 ·cases hc
include hT hm in
theorem SD {e:Nat}{x y:Opd}{q:Oper}(hc:ay c (.sad e x y) q.op=true) (he:evOp base ρ s (.sad e x y)=some (v,s')):cE c B0 base B s w a q v s':=by
 simp only[ay]at hc;split at hc
 ·rename_i ty x' y' hq;simp only[Zj]at hc;obtain⟨⟨hel,hcx⟩,hcy⟩:=hc;have hx:=aC hcx hE hG;have hy:=aC hcy hE hG;unfold DL at hel;split at hel
  ·rename_i ety hu;simp only[Zi]at hel;obtain⟨i',d',hty'⟩:=cY hT hm hel;simp only[evOp]at he;split at he
   ·rename_i l path off len cap e' k j hxv hyv;rw[hxv]at hx;rw[hyv,aQ]at hy;by_cases htt:e'=e∧0≤j∧j<len
    ·rw[if_pos htt]at he;obtain⟨rfl,hj0,hjn⟩:=htt;simp only[Zg,Zk]at he;obtain⟨rfl,rfl⟩:=he;obtain⟨ad,r,o,u,c',ad',h1,h2,h3,h4,h5,h6,h7,h10,h8⟩:=jo.1 hx;have had:ad'=⟨ad.block,ad.off+(o+off*c.T.size e'),none⟩:=by
      rcases h7 with h7|h7
      ·omega
      ·exact h7
     refine aA hS (x:= .pointer (some ⟨ad.block,ad.off+(o+off*c.T.size e')+j.toNat*c.T.size e',none⟩)) ?_ (ff.2 ⟨ad,r,o+(off+j.toNat)*c.T.size e',h1,?_,?_⟩)
     ·simp[execOp,hq,h8,hy,had,Instr.indexAt,asIntOf,run_underlying hu,hj0,hjn,ir hty',Addr.add_mid]
     ·refine iN h2 ?_;unfold Tab.elem at h3;cases hti:c.T.info u with
      |none=>rw[hti]at h3;cases h3
      |some ti=>
       rw[hti]at h3;cases ti with
       |st _=>cases h3
       |arr n e2=>
        simp only[Zg]at h3;subst h3;have:=h4 n e2 hti;simp only[ci,hti,if_pos (show off+j.toNat<n by omega),Option.map_some,Nat.add_zero]
       |row e2=>
        simp only[Zg]at h3;subst h3;simp only[ci,hti,Option.map_some,Nat.add_zero]
     ·rw[Nat.add_mul];congr 2;simp only[Addr.mk.injEq,and_true,true_and];omega
    ·rw[if_neg htt]at he;cases he
   ·cases he
  ·cases hel
 ·cases hc
include hT hm in
theorem TH {t f:Nat}{x:Opd}{q:Oper}(hc:ay c (.fld t f x) q.op=true) (he:evOp base ρ s (.fld t f x)=some (v,s')):cE c B0 base B s w a q v s':=by
 simp only[ay]at hc;split at hc
 ·rename_i ty y f' hq;simp only[Zj,Zi]at hc;obtain⟨⟨⟨hty,rfl⟩,hcx⟩,hts⟩:=hc;have hx:=aC hcx hE hG;obtain⟨i,d,hty⟩:=cY hT hm hty;simp only[evOp]at he;cases hti:c.T.info t with
  |none=>rw[hti]at hts;cases hts
  |some ti=>
   rw[hti]at hts;cases ti with
   |st ts=>
    obtain⟨fs,hd,hlen,_,hfs⟩:=uw hty hti;cases hv:x.ev ρ with
    |agg t' l=>
     rw[hv]at he hx;simp only at he;by_cases htt:t'=t
     ·rw[if_pos htt]at he;subst htt;cases hy:l[f]? with
      |none=>rw[hy]at he;cases he
      |some u=>
       rw[hy]at he;simp only[Zg,Zk]at he;obtain⟨rfl,rfl⟩:=he;obtain⟨cs,hx1,hx2,hx3,hx4⟩:=uu.1 hx;unfold cQ at hx2;rw[hti]at hx2;simp only at hx2;have hok:=Bi hT hti;have hfl:f<fs.size:=by have:=(List.getElem?_eq_some_iff.1 hy).1;rw[←hlen,←hx2,List.length_map];exact this
       obtain⟨u',hu1,hu2,hu3,_⟩:=hfs f fs[f] (Array.getElem?_eq_getElem hfl);have hut:u.tag=u':=by
        have:ts[f]?=some u.tag:=by rw[←hx2,List.getElem?_map,hy];rfl
        rw[hu1]at this;exact(Option.some.inj this).symm
       obtain⟨i',d',hty'⟩:=cY hT hm hu3;obtain⟨p1,p2,p3,hp1,hp2,hp3,hp4,_⟩:=jC hT hx3 hx4 (fun z hz=>hok.nr _ (by rw[←hx2];exact List.mem_map_of_mem hz)) hy;obtain⟨z,hz1,hz2⟩:=j8 hT hty' hp3 hut hp1 hp4 (off:=fs[f].offset) (by rw[hp2,hu2,←hx2,List.map_take]) w;exact aA hS (by simp[execOp,hq,hx1,Instr.field,run_underlying (hd▸hty.under),Array.getElem?_eq_getElem hfl,asAgg,hz1]) (eu hz2)
     ·rw[if_neg htt]at he;cases he
    |_=>rw[hv]at he;cases he
   |_=>cases hts
 ·cases hc
include hT hm in
theorem S7 {t n:Nat}{x y:Opd}{q:Oper}(hc:ay c (.idx t n x y) q.op=true) (he:evOp base ρ s (.idx t n x y)=some (v,s')):cE c B0 base B s w a q v s':=by
 simp only[ay]at hc;split at hc
 ·rename_i ty x' y' hq;simp only[Zj,Zi]at hc;obtain⟨⟨⟨hty,hcx⟩,hcy⟩,hts⟩:=hc;have hx:=aC hcx hE hG;have hy:=aC hcy hE hG;obtain⟨i,d,hty⟩:=cY hT hm hty;simp only[evOp]at he;cases hti:c.T.info t with
  |none=>rw[hti]at hts;cases hts
  |some ti=>
   rw[hti]at hts;cases ti with
   |arr m e=>
    simp only[Zi]at hts;subst hts;obtain⟨ety,hd,hety⟩:=zP hty hti;obtain⟨i',d',hty'⟩:=cY hT hm hety;split at he
    ·rename_i t' l k j hxv hyv;rw[hxv]at hx;rw[hyv,aQ]at hy;by_cases htt:t'=t∧0≤j∧j<n
     ·rw[if_pos htt]at he;obtain⟨rfl,hj0,hjn⟩:=htt;cases hyy:l[j.toNat]? with
      |none=>rw[hyy]at he;cases he
      |some u=>
       rw[hyy]at he;simp only[Zg,Zk]at he;obtain⟨rfl,rfl⟩:=he;obtain⟨cs,hx1,hx2,hx3,hx4⟩:=uu.1 hx;unfold cQ at hx2;rw[hti]at hx2;simp only at hx2;have hok:=pM hT hti;have hut:u.tag=e:=hx2.2 u (List.mem_of_getElem? hyy);obtain⟨p1,p2,p3,hp1,hp2,hp3,hp4,_⟩:=jC hT hx3 hx4 (fun z hz=>by rw[hx2.2 z hz];exact hok.nr) hyy;have hjl:j.toNat<l.length:=(List.getElem?_eq_some_iff.1 hyy).1;obtain⟨z,hz1,hz2⟩:=j8 hT hty' hp3 hut hp1 hp4 (off:=j.toNat*c.T.size e) (by rw[hp2,jk (fun z hz=>hx2.2 z (List.mem_of_mem_take hz)),List.length_take,Nat.min_eq_left (by omega)]) w
       exact aA hS (by simp[execOp,hq,hx1,hy,Instr.index,asIntOf,run_underlying (hd▸hty.under),hj0,hjn,ir hty',hz1]) (eu hz2)
     ·rw[if_neg htt]at he;cases he
    ·cases he
   |_=>cases hts
 ·cases hc
theorem OQ {x y:Opd}{q:Oper}(hc:ay c (.sidx x y) q.op=true) (he:evOp base ρ s (.sidx x y)=some (v,s')):cE c B0 base B s w a q v s':=by
 simp only[ay]at hc;split at hc
 ·rename_i ty x' y' hq;simp only[Zj]at hc;obtain⟨⟨hu,hcx⟩,hcy⟩:=hc;have hx:=aC hcx hE hG;have hy:=aC hcy hE hG;split at hu
  ·rename_i hu';simp only[evOp]at he;split at he
   ·rename_i b k j hxv hyv;rw[hxv,iL]at hx;rw[hyv,aQ]at hy;by_cases hj:0≤j
    ·rw[if_pos hj]at he;cases hb:b[j.toNat]? with
     |none=>rw[hb]at he;cases he
     |some z=>
      rw[hb]at he;simp only[Zg,Zk]at he;obtain⟨rfl,rfl⟩:=he;exact aA hS (x:= .int .u8 z.toNat) (by simp[execOp,hq,hx,hy,Instr.index,asIntOf,run_underlying hu',hj,hb]) (aQ.2 rfl)
    ·rw[if_neg hj]at he;cases he
   ·cases he
  ·cases hu
 ·cases hc
theorem Uk {x:Opd}{i:Nat}{q:Oper}(hc:ay c (.ext x i) q.op=true) (he:evOp base ρ s (.ext x i)=some (v,s')):cE c B0 base B s w a q v s':=by
 simp only[ay]at hc;split at hc
 ·rename_i y j hq;simp only[Zj,Zi]at hc;obtain⟨rfl,hcx⟩:=hc;have hx:=aC hcx hE hG;simp only[evOp]at he;cases hv:x.ev ρ with
  |tup l=>
   rw[hv]at he hx;simp only at he;cases hy:l[i]? with
   |none=>rw[hy]at he;cases he
   |some u=>
    rw[hy]at he;simp only[Zg,Zk]at he;obtain⟨rfl,rfl⟩:=he;obtain⟨xs,hx1,hx2⟩:=hx;have key:∀(l:List V) (m:List Value) (i:Nat) (u:V),ez (VR1 c.T B) l m→l[i]?=some u→∃z,m[i]?=some z∧VR1 c.T B u z:=by
     intro l
     induction l with
     |nil=>intro m i u _ h;simp at h
     |cons p l ih=>
      intro m i u h hi;cases m with
      |nil=>exact h.elim
      |cons z m=>
       cases i with
       |zero=>simp at hi;subst hi;exact⟨z,rfl,h.1⟩
       |succ i=>exact ih m i u h.2 (by simpa using hi)
    obtain⟨z,hz1,hz2⟩:=key l _ i u hx2 hy;exact aA hS (by simp[execOp,hq,hx1,Instr.extract];rw[Array.getElem?_toList]at hz1;simp[hz1]) (eu hz2)
  |_=>rw[hv]at he;cases he
 ·cases hc
end sims
theorem G7 {α β:Type}{R:α→β→Prop}:∀{l:List α}{m:List β},ez R l m→l.length=m.length
 |[],[],_=>rfl
 |_::_,_::_,h=>by simp[G7 h.2]
 |[],_::_,h=>h.elim
 |_::_,[],h=>h.elim
theorem ue {T:Tab}{gl:GL}{B:BM}{ρ:Env}{a:Act}:∀{xs:List Opd}{ys:List Operand},cH gl xs ys=true→ER T B ρ a.tmps→fb gl B→ez (VR T B) (xs.map (Opd.ev ρ)) (ys.map a.eval)
 |[],[],_,_,_=>trivial
 |x::xs,y::ys,h,hE,hG=>by simp only[cH,Zj]at h;exact⟨aC h.1 hE hG,ue h.2 hE hG⟩
 |[],_::_,h,_,_=>by simp[cH]at h
 |_::_,[],h,_,_=>by simp[cH]at h
theorem Na {T:Tab}{B:BM}{v:V}{x:Value}(ht:v.tag=1) (hT:aR T=true) (h:VR T B v x):v.wf T∧CR T B v [x]:=by
 have hok:v.ok=true:=by cases v<;>simp[V.tag]at ht<;>rfl
 obtain⟨h1,h2,h3⟩:=(rz hok).1 h;have h4:cC x=false:=by rw[←h3];exact uy h1 (by rw[ht];exact dv hT (by decide))
 refine⟨h1,?_⟩;have:x.cells.toList=[x]:=by cases x<;>simp[cC]at h4<;>rfl
 rw[←this];exact h2
theorem Ce {T:Tab}(hT:aR T=true) {B:BM}:∀{l:List V}{m:List Value},(∀v∈l,v.tag=1)→ez (VR T B) l m→V.wfs T l∧CRs T B l m
 |[],[],_,_=>by simp[V.wfs,CRs]
 |v::l,x::m,ht,h=>by obtain⟨h1,h2⟩:=Na (ht v List.mem_cons_self) hT h.1;obtain⟨h3,h4⟩:=Ce hT (fun u hu=>ht u (List.mem_cons_of_mem _ hu)) h.2;simp only[V.wfs,CRs];exact⟨⟨h1,h3⟩,[x],m,rfl,h2,h4⟩
 |[],_::_,_,h=>h.elim
 |_::_,[],_,h=>h.elim
section sims
variable {c : Cfg} (hT : aR c.T = true) (hm : kr c = true) {B0 base : Nat} {B : BM} {s s' : St} {w : World} {a : Act} {ρ : Env} {v : V}
 (hE:ER c.T B ρ a.tmps) (hG:fb c.gl B) (hS:SR c.T B0 B s w) (hb:base≤s.loc.length) (hB0:B0≤w.heap.size)
include hE hG hS
omit hE hG in
include hb hB0 in
theorem Nu {h:Bool}{z:V}{q:Oper}(hc:ay c (.alloc h z) q.op=true) (he:evOp base ρ s (.alloc h z)=some (v,s')):cE c B0 base B s w a q v s':=by
 simp only[ay]at hc;split at hc
 ·rename_i ty hq;obtain⟨i,x,hz⟩:=De hc;simp only[evOp,Zg,Zk]at he;obtain⟨rfl,rfl⟩:=he;have hmay:bi h z=true:=by cases h<;>simp[bi,hz.lt]
  refine⟨_,_,_,?_,.inl ⟨.pointer (some ⟨w.heap.size,0,none⟩),rfl,?_⟩,vN hS hb hB0 hz.wf hmay (hz.cr B) (c:=x.cells) (fun i u hu=>by rw[Nat.zero_add];simpa using hu) ty⟩
  ·simp[execOp,hq,Instr.alloc,zeroValue,typeInfo,hz.info,hz.zero,newVar,newRow]
  ·exact ff.2 ⟨_,_,0,ip hS.lenL hS.lenH,rfl,rfl⟩
 ·cases hc
include hb hB0 in
theorem TA {h:Bool}{x:Opd}{q:Oper}(hc:ay c (.box h x) q.op=true) (he:evOp base ρ s (.box h x)=some (v,s')):cE c B0 base B s w a q v s':=by
 simp only[ay]at hc;split at hc
 ·rename_i ty y hq;have hx:=aC hc hE hG;simp only[evOp]at he;by_cases hok:((x.ev ρ).ok&&bi h (x.ev ρ))=true
  ·rw[if_pos hok]at he;simp only[Zg,Zk]at he;obtain⟨rfl,rfl⟩:=he;simp only[Zj]at hok;obtain⟨h1,h2,_⟩:=(rz hok.1).1 hx;refine⟨_,_,_,?_,.inl ⟨.pointer (some ⟨w.heap.size,0,none⟩),rfl,?_⟩,vN hS hb hB0 h1 hok.2 h2 (c:=(a.eval y).cells) (fun i u hu=>by rw[Nat.zero_add];simpa using hu) ty⟩
   ·simp[execOp,hq,Instr.box,newVar,newRow]
   ·exact ff.2 ⟨_,_,0,ip hS.lenL hS.lenH,rfl,rfl⟩
  ·rw[if_neg hok]at he;cases he
 ·cases hc
include hT in
theorem QP {f:Nat}{caps:List Opd}{q:Oper}(hc:ay c (.mkfn f caps) q.op=true) (he:evOp base ρ s (.mkfn f caps)=some (v,s')):cE c B0 base B s w a q v s':=by
 simp only[ay]at hc;split at hc
 ·rename_i g first caps' hq
  simp only[Zj,Zi]at hc;obtain⟨⟨rfl,hf⟩,hcs⟩:=hc;have hx:=ue hcs hE hG;simp only[evOp]at he;by_cases ht:((caps.map (Opd.ev ρ)).all fun v=>v.tag==1)=true
  ·rw[if_pos ht]at he;simp only[Zg,Zk]at he;obtain⟨rfl,rfl⟩:=he;simp only[List.all_eq_true,beq_iff_eq]at ht;obtain⟨h1,h2⟩:=Ce hT ht hx;have hf0:first= #[]:=by simpa using hf
   exact aA hS (x:= .func (.func f) #[] (caps'.map a.eval)) (by simp[execOp,hq,Instr.makeFunc,hf0]) (sS.2 ⟨caps'.map a.eval,by simpa using h2,h1,ht,rfl⟩)
  ·rw[if_neg ht]at he;cases he
 ·cases hc
omit hE hG in
theorem P8 {n:Nat}{q:Oper}(hc:ay c (.lenk n) q.op=true) (he:evOp base ρ s (.lenk n)=some (v,s')):cE c B0 base B s w a q v s':=by
 simp only[evOp,Zg,Zk]at he;obtain⟨rfl,rfl⟩:=he;simp only[ay]at hc;split at hc
 ·rename_i args argTypes hq;simp only[Zj,beq_iff_eq]at hc;obtain⟨ha,hc⟩:=hc;obtain⟨y,rfl⟩:∃y,args= #[y]:=by
   obtain⟨l⟩:=args;cases l with
   |nil=>simp at ha
   |cons y l=>cases l with
    |nil=>exact⟨y,rfl⟩
    |cons _ _=>simp at ha
  cases ht:argTypes[0]? with
  |none=>rw[ht]at hc;simp at hc
  |some ty=>
   rw[ht]at hc;simp only[Option.bind_some]at hc;split at hc
   ·rename_i m _ hu;simp only[Zi]at hc;subst hc;exact aA hS (x:=goInt n) (by simp[execOp,hq,resolve,invoke,builtin,Builtin.len_,ht,run_underlying hu]) (aQ.2 rfl)
   ·rename_i p hu;split at hc
    ·rename_i m _ hu2;simp only[Zi]at hc;subst hc;exact aA hS (x:=goInt n) (by simp[execOp,hq,resolve,invoke,builtin,Builtin.len_,ht,run_underlying hu,run_underlying hu2]) (aQ.2 rfl)
    ·cases hc
   ·cases hc
 ·cases hc
theorem Tw {k:Bool}{x:Opd}{q:Oper}(hc:ay c (.len k x) q.op=true) (he:evOp base ρ s (.len k x)=some (v,s')):cE c B0 base B s w a q v s':=by
 simp only[ay]at hc;split at hc
 ·rename_i args argTypes hq;simp only[Zj]at hc;obtain⟨ha,hc⟩:=hc;split at ha
  ·rename_i y hargs;have hargs':args= #[y]:=by rw[←Array.toArray_toList (xs:=args),hargs]
   subst hargs';have hx:=aC ha hE hG;simp only[evOp]at he;cases ht:argTypes[0]? with
   |none=>rw[ht]at hc;simp at hc
   |some ty=>
    rw[ht]at hc;simp only[Option.bind_some]at hc;split at hc
    ·rename_i e hu;have hk:k=false:=by simpa using hc
     subst hk;cases hv:x.ev ρ with
     |nils=>
      rw[hv]at he hx;simp only[V.slen,Zg,Zk]at he;obtain⟨rfl,rfl⟩:=he;rw[iJ]at hx;exact aA hS (x:=goInt 0) (by simp[execOp,hq,resolve,invoke,builtin,Builtin.len_,ht,run_underlying hu,hx]) (aQ.2 rfl)
     |sl l p off len cap e'=>
      rw[hv]at he hx;simp only[V.slen,Zg,Zk]at he;obtain⟨rfl,rfl⟩:=he;obtain⟨_,_,_,_,c',ad',_,_,_,_,_,_,_,_,hx8⟩:=jo.1 hx;exact aA hS (x:=goInt len) (by simp[execOp,hq,resolve,invoke,builtin,Builtin.len_,ht,run_underlying hu,hx8]) (aQ.2 rfl)
     |_=>rw[hv]at he;simp[V.slen]at he
    ·rename_i hu;subst hc;cases hv:x.ev ρ with
     |str b=>
      rw[hv]at he hx;simp only[V.slen,Zg,Zk]at he;obtain⟨rfl,rfl⟩:=he;rw[iL]at hx;exact aA hS (x:=goInt b.size) (by simp[execOp,hq,resolve,invoke,builtin,Builtin.len_,ht,run_underlying hu,hx]) (aQ.2 rfl)
     |_=>rw[hv]at he;simp[V.slen]at he
    ·cases hc
  ·cases ha
 ·cases hc
theorem ST {mx:Bool}{x y:Opd}{q:Oper}(hc:ay c (.mnx mx x y) q.op=true) (he:evOp base ρ s (.mnx mx x y)=some (v,s')):cE c B0 base B s w a q v s':=by
 simp only[ay]at hc;split at hc
 ·rename_i b args argTypes hq;simp only[Zj,Zi]at hc;obtain⟨hb,hcs⟩:=hc;obtain⟨x',y',hargs⟩:∃x' y',args.toList=[x',y']:=by
   match h:args.toList,hcs with
   |[x',y'],_=>exact⟨x',y',rfl⟩
   |[],hcs=>simp[cH]at hcs
   |[_],hcs=>simp[cH]at hcs
   |_::_::_::_,hcs=>simp[cH]at hcs
  have hargs':args= #[x',y']:=by rw[←Array.toArray_toList (xs:=args),hargs]
  subst hargs';simp only[cH,Zj,Bool.and_true]at hcs;have hx:=aC hcs.1 hE hG;have hy:=aC hcs.2 hE hG;simp only[evOp]at he;cases hv:nJ mx (x.ev ρ) (y.ev ρ)with
  |none=>rw[hv]at he;cases he
  |some r=>
   rw[hv]at he;simp only[Zg,Zk]at he;obtain⟨rfl,rfl⟩:=he;unfold nJ at hv;split at hv
   ·rename_i k n k' m hxv hyv;rw[hxv,aQ]at hx;rw[hyv,aQ]at hy;by_cases hk:k=k'
    ·subst hk;rw[if_pos rfl]at hv;cases hv;cases mx with
     |true=>
      simp only[if_true]at hb;subst hb;refine aA hS (x:= .int k (if m>n then m else n)) (by simp[execOp,hq,resolve,invoke,builtin,Builtin.max_,Builtin.max2,hx,hy]) (aQ.2 ?_)
      simp only[if_true];congr 1;split<;>omega
     |false=>
      simp only[Bool.false_eq_true,if_false]at hb;subst hb;refine aA hS (x:= .int k (if m<n then m else n)) (by simp[execOp,hq,resolve,invoke,builtin,Builtin.min_,Builtin.min2,hx,hy]) (aQ.2 ?_)
      simp only[Bool.false_eq_true,if_false];congr 1;split<;>omega
    ·rw[if_neg hk]at hv;cases hv
   ·cases hv
 ·cases hc
end sims
theorem oZ {T:Tab}{gl:GL}{B:BM}{ρ:Env}{a:Act}{x:Option Opd}{y:Option Operand}(h:jm gl x y=true) (hE:ER T B ρ a.tmps) (hG:fb gl B):
 (x=none∧y=none)∨∃x0 y0,x=some x0∧y=some y0∧VR T B (x0.ev ρ) (a.eval y0):=by
 cases x with
 |none=>cases y with
  |none=>exact .inl ⟨rfl,rfl⟩
  |some _=>simp[jm]at h
 |some x0=>cases y with
  |none=>simp[jm]at h
  |some y0=>exact .inr ⟨x0,y0,rfl,rfl,aC h hE hG⟩
theorem uH {T:Tab}{B:BM}{P:Program}{w:World}{x:V}{y:Value}{n d k:Nat}{code:BoundsCode}(hx:VR T B x y) (hb:ao n (some x) d=some k) {N:Nat}(hn:n≤N):(Instr.sliceBound y N code).run P w= .ok k w∧k≤n:=by
 cases x with
 |int kk i=>
  simp only[ao]at hb;rw[aQ]at hx;by_cases h:0≤i∧i≤n
  ·rw[if_pos h]at hb;simp only[Zg]at hb;subst hb;have h2:0≤i∧i≤(N:Int):=by omega
   exact⟨by simp[hx,Instr.sliceBound,asIntOf,h2],by omega⟩
  ·rw[if_neg h]at hb;cases hb
 |_=>simp[ao]at hb
theorem sV {T:Tab}{gl:GL}{B:BM}{P:Program}{w:World}{ρ:Env}{a:Act}{lo hi mx:Option Opd}{lo' hi' mx':Option Operand}(hlo:jm gl lo lo'=true) (hhi:jm gl hi hi'=true) (hmx:jm gl mx mx'=true) (hmh:(mx.isNone||hi.isSome)=true)
 (hE:ER T B ρ a.tmps) (hG:fb gl B) {n N cb m h l:Nat}(isS:Bool) (hcN:cb≤N) (hnb:n≤cb)
 (h1:ao cb (mx.map (Opd.ev ρ)) cb=some m) (h2:ao (kL mx.isSome m n) (hi.map (Opd.ev ρ)) n=some h) (h3:ao h (lo.map (Opd.ev ρ)) 0=some l):
 ∃M,(Instr.sliceBounds isS n N (lo'.map a.eval) (hi'.map a.eval) (mx'.map a.eval)).run P w= .ok (l,h,M) w∧l≤h∧h≤n∧h≤M∧M≤N∧(mx=none→M=N)∧(∀z,mx=some z→M=m):=by
 have hlow:∀code,(match lo'.map a.eval with|some v=>Instr.sliceBound v h code|none=>pure 0:Sem Nat).run P w= .ok l w∧l≤h:=by
  intro code;rcases oZ hlo hE hG with⟨rfl,rfl⟩|⟨x0,y0,rfl,rfl,hv⟩
  ·simp only[Option.map_none,ao,Zg]at h3;subst h3;exact⟨rfl,Nat.zero_le _⟩
  ·simp only[Option.map_some]at h3⊢;exact uH hv h3 (Nat.le_refl _)
 rcases oZ hmx hE hG with⟨rfl,rfl⟩|⟨x0,y0,rfl,rfl,hv⟩
 ·simp only[kL,Option.isSome_none,Bool.false_eq_true,if_false]at h2;have hhigh:(match hi'.map a.eval with|some v=>Instr.sliceBound v N (if isS then .sliceAcap else .sliceAlen)|none=>pure n:Sem Nat).run P w= .ok h w∧h≤n:=by
   rcases oZ hhi hE hG with⟨rfl,rfl⟩|⟨x0,y0,rfl,rfl,hv⟩
   ·simp only[Option.map_none,ao,Zg]at h2;subst h2;exact⟨rfl,Nat.le_refl _⟩
   ·simp only[Option.map_some]at h2⊢;exact uH hv h2 (by omega)
  refine⟨N,?_,(hlow .sliceB).2,hhigh.2,by have:=hhigh.2;omega,Nat.le_refl _,fun _=>rfl,fun z hz=>by cases hz⟩;have hl:=(hlow .sliceB).1;have hh:=hhigh.1;rcases oZ hhi hE hG with⟨rfl,rfl⟩|⟨x0,y0,rfl,rfl,hv⟩<;>rcases oZ hlo hE hG with⟨rfl,rfl⟩|⟨x1,y1,rfl,rfl,hv1⟩<;>
   simp only[Option.map_none,Option.map_some,Sem.run_pure,Result.ok.injEq,and_true]at hh hl<;>simp[Instr.sliceBounds,hh,hl]
 ·simp only[kL,Option.isSome_some,if_true]at h2;simp only[Option.map_some]at h1;obtain⟨x1,hx1⟩:∃x1,hi=some x1:=by cases hi with|none=>simp at hmh|some x1=>exact⟨x1,rfl⟩
  subst hx1;rcases oZ hhi hE hG with⟨hno,_⟩|⟨x2,y2,he2,rfl,hv2⟩
  ·cases hno
  ·cases he2;simp only[Option.map_some]at h2;obtain⟨g1,g2⟩:=uH (P:=P) (w:=w) (code:=if isS then .slice3Acap else .slice3Alen) hv h1 hcN
   obtain⟨g3,g4⟩:=uH (P:=P) (w:=w) (code:= .slice3B) (N:=m) hv2 h2 (Nat.min_le_left _ _);refine⟨m,?_,(hlow .slice3C).2,by omega,by omega,by omega,fun hz=>(by cases hz),fun z _=>rfl⟩;have hl:=(hlow .slice3C).1;rcases oZ hlo hE hG with⟨rfl,rfl⟩|⟨x3,y3,rfl,rfl,hv1⟩<;>
    simp only[Option.map_none,Option.map_some,Sem.run_pure,Result.ok.injEq,and_true]at hl<;>simp[Instr.sliceBounds,g1,g3,hl]
theorem Oh {T:Tab}(hT:aR T=true) {B0:Nat}{B:BM}{s:St}{w:World}(h:SR T B0 B s w) {a:Loc}{path:List Nat}(hr:(s.read a path).isSome=true)
 {ad:Addr}{r o t n e:Nat}(hB:B.at a=some (ad,r)) (ho:ci T r path=some (o,t)) (hti:T.info t=some (.arr n e)) (hne:0<n):∀N,ad.spot=some N→ad.off+o+n*T.size e≤N:=by
 intro N hN;unfold St.read at hr;cases hs:s.at a with
 |none=>rw[hs]at hr;cases hr
 |some b=>
  rw[hs]at hr;have hb:=h.blk a b _ hs hB;cases b with
  |dead=>cases hr
  |mp u=>cases hr
  |ro u=>
   obtain⟨_,_,_,_,_,_,_,_,_,h6⟩:=hb;simp only at h6;rw[hN]at h6;cases h6
  |rw u=>
   obtain⟨h1,h2,c,e',cs,h3,h4,h5,h6⟩:=hb;simp only at h6 h2 h5;rw[hN]at h6;cases h6;simp only at hr;cases hat:V.at path u with
   |none=>rw[hat]at hr;cases hr
   |some x=>
    obtain⟨p1,p2,p3,rfl,hl,hwx,htx,hcx,hnr,_⟩:=wV hT h1 h4 hat (by rw[h2];exact ho);have hnt:T.noRow x.tag=true:=by
     rw[htx];unfold Tab.noRow;unfold Tab.info at hti;cases hf:T.find t with
     |none=>rfl
     |some z=>
      obtain⟨ti,sz⟩:=z;rw[hf]at hti;cases hti;rfl
    have hlen:=mU hT hwx hcx hnt;rw[htx,(pM hT hti).size]at hlen;have hpos:0<n*T.size e:=Nat.mul_pos hne (pM hT hti).pos;have hi:(p1++p2++p3)[o+(n*T.size e-1)]?=some (p2[n*T.size e-1]'(by omega)):=by rw[List.append_assoc,List.getElem?_append_right (by omega),List.getElem?_append_left (by omega),hl,Nat.add_sub_cancel_left,List.getElem?_eq_getElem]
    have:=h5 _ _ hi;have:=(Array.getElem?_eq_some_iff.1 this).1;omega
section sims
variable {c : Cfg} (hT : aR c.T = true) (hm : kr c = true) {B0 base : Nat} {B : BM} {s s' : St} {w : World} {a : Act} {ρ : Env} {v : V}
 (hE:ER c.T B ρ a.tmps) (hG:fb c.gl B) (hS:SR c.T B0 B s w) (hb:base≤s.loc.length) (hB0:B0≤w.heap.size)
include hE hG hS
include hT hm in
theorem Ss {e:Nat}{x:Opd}{lo hi mx:Option Opd}{q:Oper}(hc:ay c (.slc e x lo hi mx) q.op=true) (he:evOp base ρ s (.slc e x lo hi mx)=some (v,s')):cE c B0 base B s w a q v s':=by
 simp only[ay]at hc;split at hc
 ·rename_i ty y lo' hi' mx' hq;simp only[Zj]at hc;obtain⟨⟨⟨⟨⟨hel,hcx⟩,hlo⟩,hhi⟩,hmx⟩,hmh⟩:=hc;have hx:=aC hcx hE hG;unfold DL at hel;split at hel
  ·rename_i ety hu;simp only[Zi]at hel;obtain⟨i',d',hty'⟩:=cY hT hm hel;simp only[evOp]at he;cases hv:x.ev ρ with
   |sl l path off len cap e'=>
    rw[hv]at he hx;simp only at he;by_cases hee:e'=e
    ·rw[if_pos hee]at he;subst hee;obtain⟨ad,r,o,u,c',ad',h1,h2,h3,h4,h5,h6,h7,h10,h8⟩:=jo.1 hx;have hcb:∃cb,cb=cap.getD len∧cb≤c'∧len≤cb:=by
      cases cap with
      |none=>exact⟨len,rfl,h5,Nat.le_refl _⟩
      |some k=>exact⟨k,rfl,by rw[h6 k rfl];exact Nat.le_refl _,by rw[←h6 k rfl];exact h5⟩
     obtain⟨cb,hcbe,hcb1,hcb2⟩:=hcb;rw[←hcbe]at he;cases hm1:ao cb (mx.map (Opd.ev ρ)) cb with
     |none=>rw[hm1]at he;cases he
     |some m=>
      rw[hm1]at he;simp only at he;cases hm2:ao (kL mx.isSome m len) (hi.map (Opd.ev ρ)) len with
      |none=>rw[hm2]at he;cases he
      |some h=>
       rw[hm2]at he;simp only at he;cases hm3:ao h (lo.map (Opd.ev ρ)) 0 with
       |none=>rw[hm3]at he;cases he
       |some l0=>
        rw[hm3]at he;simp only[Zg,Zk]at he;obtain⟨rfl,rfl⟩:=he;obtain⟨M,k1,k2,k3,k4,k5,k6,k7⟩:=sV (P:=c.P) (w:=w) hlo hhi hmx hmh hE hG (N:=c') true hcb1 hcb2 hm1 hm2 hm3;refine aA hS (x:= .slice (if M=l0 then some ad' else some (ad'.add (l0*c.T.size e'))) (h-l0) (M-l0)) ?_ ?_
        ·simp[execOp,hq,h8,Instr.sliceAt,Instr.slice,run_underlying hu,k1,ir hty']
        ·obtain⟨ad2,had2⟩:∃ad2,(if M=l0 then some ad' else some (ad'.add (l0*c.T.size e')))=some ad2:=by split<;>exact⟨_,rfl⟩
         rw[had2];refine jo.2 ⟨ad,r,o,u,M-l0,ad2,h1,h2,h3,fun n' e2 hi2=>by have:=h4 n' e2 hi2;omega,by omega,?_,?_,?_,rfl⟩
         ·intro c2 hc2;unfold nI at hc2;cases mx with
          |some z=>
           have:=k7 z rfl;simp only[Option.isSome_some,Bool.true_or,if_true,Zg]at hc2;omega
          |none=>
           cases cap with
           |none=>simp at hc2
           |some k=>
            simp only[Option.isSome_some,Bool.or_true,if_true,Zg]at hc2;have hmk:m=cb:=by simp only[Option.map_none,ao,Zg]at hm1;exact hm1.symm
            have:=k6 rfl;have:=h6 k rfl;simp only[Option.getD_some]at hcbe;omega
         ·by_cases hMl:M=l0
          ·left;omega
          ·right;rw[if_neg hMl]at had2;simp only[Zg]at had2;rcases h7 with h7|h7
           ·omega
           ·rw[←had2,h7,Addr.add_mid];simp only[Addr.mk.injEq,and_true,true_and];rw[Nat.add_mul];omega
         ·intro N hN;have h11:=h10 N hN;have e1:(off+l0)*c.T.size e'+(M-l0)*c.T.size e'=off*c.T.size e'+M*c.T.size e':=by rw[←Nat.add_mul,←Nat.add_mul];congr 1;omega
          have e2:M*c.T.size e'≤c'*c.T.size e':=Nat.mul_le_mul_right _ k5;omega
    ·rw[if_neg hee]at he;cases he
   |nils=>
    rw[hv]at he hx;rw[iJ]at hx;simp only at he;cases hm1:ao 0 (mx.map (Opd.ev ρ)) 0 with
    |none=>rw[hm1]at he;cases he
    |some m=>
     cases hm2:ao 0 (hi.map (Opd.ev ρ)) 0 with
     |none=>rw[hm1,hm2]at he;cases he
     |some h=>
      cases hm3:ao 0 (lo.map (Opd.ev ρ)) 0 with
      |none=>rw[hm1,hm2,hm3]at he;cases he
      |some l0=>
       rw[hm1,hm2,hm3]at he;simp only[Zg,Zk]at he;obtain⟨rfl,rfl⟩:=he;have hz:∀(z:Option V) (k:Nat),ao 0 z 0=some k→k=0:=by
        intro z k hz;unfold ao at hz;split at hz
        ·simpa using hz.symm
        ·rename_i kk i _;split at hz
         ·simp only[Zg]at hz;omega
         ·cases hz
        ·cases hz
       have e1:=hz _ _ hm1;have e2:=hz _ _ hm2;have e3:=hz _ _ hm3;subst e1 e2 e3;obtain⟨M,k1,k2,k3,k4,k5,k6,k7⟩:=sV (P:=c.P) (w:=w) (n:=0) (N:=0) (cb:=0) hlo hhi hmx hmh hE hG true (Nat.le_refl _) (Nat.le_refl _) hm1 (by unfold kL;split<;>simpa using hm2) hm3;have hM:M=0:=by omega
       subst hM;exact aA hS (x:= .slice none 0 0) (by simp[execOp,hq,hx,Instr.sliceAt,Instr.slice,run_underlying hu,k1,ir hty']) (iJ.2 rfl)
   |_=>rw[hv]at he;cases he
  ·cases hel
 ·cases hc
theorem OA {x:Opd}{lo hi:Option Opd}{q:Oper}(hc:ay c (.slstr x lo hi) q.op=true) (he:evOp base ρ s (.slstr x lo hi)=some (v,s')):cE c B0 base B s w a q v s':=by
 simp only[ay]at hc;split at hc
 ·rename_i ty y lo' hi' mx' hq;simp only[Zj]at hc;obtain⟨⟨⟨⟨hu,hcx⟩,hlo⟩,hhi⟩,hmx⟩:=hc;have hmx':mx'=none:=by simpa using hmx
  subst hmx';have hx:=aC hcx hE hG;split at hu
  ·rename_i hu';simp only[evOp]at he;cases hv:x.ev ρ with
   |str b=>
    rw[hv]at he hx;rw[iL]at hx;simp only at he;cases hm2:ao b.size (hi.map (Opd.ev ρ)) b.size with
    |none=>rw[hm2]at he;cases he
    |some h=>
     rw[hm2]at he;simp only at he;cases hm3:ao h (lo.map (Opd.ev ρ)) 0 with
     |none=>rw[hm3]at he;cases he
     |some l0=>
      rw[hm3]at he;simp only[Zg,Zk]at he;obtain⟨rfl,rfl⟩:=he;obtain⟨M,k1,_⟩:=sV (P:=c.P) (w:=w) (mx:=none) (mx':=none) (cb:=b.size) (n:=b.size) (N:=b.size) (m:=b.size) hlo hhi rfl (by rfl) hE hG false (Nat.le_refl _) (Nat.le_refl _) rfl hm2 hm3;simp only[Option.map_none]at k1;exact aA hS (x:= .string (b.extract l0 h)) (by simp[execOp,hq,hx,Instr.sliceAt,Instr.slice,run_underlying hu',k1]) (iL.2 rfl)
   |_=>rw[hv]at he;cases he
  ·cases hu
 ·cases hc
include hT hm in
theorem Mt {t n e:Nat}{x:Opd}{lo hi mx:Option Opd}{q:Oper}(hc:ay c (.slarr t n e x lo hi mx) q.op=true) (he:evOp base ρ s (.slarr t n e x lo hi mx)=some (v,s')):cE c B0 base B s w a q v s':=by
 simp only[ay]at hc;split at hc
 ·rename_i ty y lo' hi' mx' hq;simp only[Zj,Zi]at hc;obtain⟨⟨⟨⟨⟨⟨hu,htg⟩,hcx⟩,hlo⟩,hhi⟩,hmx⟩,hmh⟩:=hc;have hx:=aC hcx hE hG;obtain⟨i,d,hty⟩:=cY hT hm htg;split at hu
  ·rename_i n' ety hu';simp only[Zj,Zi]at hu;obtain⟨⟨rfl,hety⟩,hn0⟩:=hu;obtain⟨i',d',hty'⟩:=cY hT hm hety;have hti:c.T.info t=some (.arr n e):=by
    have:=hty.all;unfold rI at this;rw[hty.info,hu']at this;simp only[Zj,Zi]at this;have h5:=this.2;split at h5
    ·rename_i m u hi;simp only[Zj,Zi]at h5;have:u=e:=by rw[hety]at h5;exact(Option.some.inj h5.2).symm
     rw[hi,←h5.1,this]
    ·cases h5
   simp only[evOp]at he;cases hv:x.ev ρ with
   |ptr l path t'=>
    rw[hv]at he hx;simp only at he;by_cases hee:t'=t∧(s.read l path).isSome=true
    ·rw[if_pos hee]at he;obtain⟨rfl,hrd⟩:=hee;obtain⟨ad,r,o,h1,h2,h3⟩:=ff.1 hx;have hab:=Oh hT hS hrd h1 h2 hti hn0;cases hm1:ao n (mx.map (Opd.ev ρ)) n with
     |none=>rw[hm1]at he;cases he
     |some m=>
      rw[hm1]at he;simp only at he;cases hm2:ao m (hi.map (Opd.ev ρ)) n with
      |none=>rw[hm2]at he;cases he
      |some h=>
       rw[hm2]at he;simp only at he;cases hm3:ao h (lo.map (Opd.ev ρ)) 0 with
       |none=>rw[hm3]at he;cases he
       |some l0=>
        rw[hm3]at he;simp only[Zg,Zk]at he;obtain⟨rfl,rfl⟩:=he;have hmn:m≤n∧(mx=none→m=n):=by
         unfold ao at hm1;split at hm1
         ·simp only[Zg]at hm1;exact⟨by omega,fun _=>hm1.symm⟩
         ·rename_i kk i0 hz;split at hm1
          ·simp only[Zg]at hm1;exact⟨by omega,fun hz2=>by rw[hz2]at hz;cases hz⟩
          ·cases hm1
         ·cases hm1
        obtain⟨M,k1,k2,k3,k4,k5,k6,k7⟩:=sV (P:=c.P) (w:=w) hlo hhi hmx hmh hE hG (n:=n) (N:=n) false (Nat.le_refl _) (Nat.le_refl _) hm1 (by
         cases mx with
         |none=>have:=hmn.2 rfl;subst this;exact hm2
         |some z=>simp only[kL,Option.isSome_some,if_true];rw[Nat.min_eq_left hmn.1];exact hm2) hm3
        have hM:M=m:=by
         cases mx with
         |none=>rw[k6 rfl,hmn.2 rfl]
         |some z=>exact k7 z rfl
        subst hM;refine aA hS (x:= .slice (some (if M=l0 then⟨ad.block,ad.off+o,none⟩else(⟨ad.block,ad.off+o,none⟩:Addr).add (l0*c.T.size e))) (h-l0) (M-l0)) ?_ ?_
        ·simp[execOp,hq,h3,Instr.sliceAt,Instr.sureAddr,run_underlying hu',k1,ir hty']
        ·refine jo.2 ⟨ad,r,o,t',M-l0,_,h1,h2,by simp[Tab.elem,hti],fun n' e2 hi2=>by rw[hti]at hi2;cases hi2;omega,by omega,fun c2 hc2=>by simpa using hc2,?_,?_,rfl⟩
         ·by_cases hMl:M=l0
          ·left;omega
          ·right;rw[if_neg hMl,Addr.add_mid];simp only[Addr.mk.injEq,and_true,true_and];omega
         ·intro N hN;have h11:=hab N hN;have e1:l0*c.T.size e+(M-l0)*c.T.size e=M*c.T.size e:=by rw[←Nat.add_mul];congr 1;omega
          have e2:M*c.T.size e≤n*c.T.size e:=Nat.mul_le_mul_right _ hmn.1;omega
    ·rw[if_neg hee]at he;cases he
   |_=>rw[hv]at he;cases he
  ·cases hu
 ·cases hc
end sims
theorem yX {T:Tab}{gl:GL}{B:BM}{ρ:Env}{a:Act}:∀{ps:List (Nat×Opd)}{qs:List (Nat×Operand)},qM gl ps qs=true→ER T B ρ a.tmps→fb gl B→
 ez (fun p q=>p.1=q.1∧VR T B p.2 q.2) (ps.map fun p=>(p.1,p.2.ev ρ)) (qs.map fun q=>(q.1,a.eval q.2))
 |[],[],_,_,_=>trivial
 |(i,x)::ps,(j,y)::qs,h,hE,hG=>by simp only[qM,Zj,Zi]at h;exact⟨⟨h.1.1,aC h.1.2 hE hG⟩,yX h.2 hE hG⟩
 |[],_::_,h,_,_=>by simp[qM]at h
 |_::_,[],h,_,_=>by simp[qM]at h
theorem D3 (o:Nat):∀(l:List Value) (k:Nat) (cs:Array Value),o+k+l.length≤cs.size→
 ((l.zipIdx k).foldl (fun cs (p:Value×Nat)=>cs.setIfInBounds (o+p.2) p.1) cs).size=cs.size∧∀j,((l.zipIdx k).foldl (fun cs (p:Value×Nat)=>cs.setIfInBounds (o+p.2) p.1) cs)[j]?=if o+k≤j∧j<o+k+l.length then l[j-(o+k)]? else cs[j]?
 |[],k,cs,_=>⟨rfl,fun j=>by rw[if_neg (by simp only[List.length_nil];omega)];rfl⟩
 |v::l,k,cs,h=>by
  simp only[List.length_cons]at h;rw[List.zipIdx_cons,List.foldl_cons];obtain⟨h1,h2⟩:=D3 o l (k+1) (cs.setIfInBounds (o+k) v) (by simp;omega);refine⟨by rw[h1];simp,fun j=> ?_⟩;rw[h2 j];simp only[List.length_cons];by_cases hj:j=o+k
  ·subst hj;rw[if_neg (by omega),if_pos (by omega),Nat.sub_self];simp[show o+k<cs.size by omega]
  ·by_cases hj2:o+(k+1)≤j∧j<o+(k+1)+l.length
   ·rw[if_pos hj2,if_pos (by omega),show j-(o+k)=(j-(o+(k+1)))+1 by omega,List.getElem?_cons_succ]
   ·rw[if_neg hj2,if_neg (by omega)];simp[Ne.symm hj]
theorem QH {cells:Array Value}{a b z d:List Value}(h:cells.toList=a++b++z) (hd:d.length=b.length) (v:Value) (hv:v.cells.toList=d):
 (v.cells.zipIdx.foldl (fun cs (c,j)=>cs.setIfInBounds (a.length+j) c) cells).toList=a++d++z:=by
 have hsz:cells.size=a.length+b.length+z.length:=by rw[←Array.length_toList,h];simp;omega
 have e1:v.cells.zipIdx.foldl (fun cs (c,j)=>cs.setIfInBounds (a.length+j) c) cells=(d.zipIdx 0).foldl (fun cs (p:Value×Nat)=>cs.setIfInBounds (a.length+p.2) p.1) cells:=by rw[←Array.foldl_toList,Array.toList_zipIdx,hv]
 rw[e1];obtain⟨h1,h2⟩:=D3 a.length d 0 cells (by omega);apply List.ext_getElem?;intro j;rw[Array.getElem?_toList,h2 j,Nat.add_zero];by_cases hj:a.length≤j∧j<a.length+d.length
 ·rw[if_pos hj,List.append_assoc,List.getElem?_append_right hj.1,List.getElem?_append_left (by omega)]
 ·rw[if_neg hj,←Array.getElem?_toList,h];by_cases hj2:j<a.length
  ·rw[List.append_assoc,List.getElem?_append_left hj2,List.append_assoc,List.getElem?_append_left hj2]
  ·rw[List.append_assoc,List.getElem?_append_right (by omega),List.getElem?_append_right (by omega),List.append_assoc,List.getElem?_append_right (by omega),List.getElem?_append_right (by omega),hd]
theorem wD {T:Tab}(hT:aR T=true) {B:BM}(place:Nat→Option (Nat×Nat)) (tags:List Nat) (hnr:∀t∈tags,T.noRow t=true) (hplace:∀i t,tags[i]?=some t→place i=some (T.sum (tags.take i),T.size t)):
 ∀{ps:List (Nat×V)}{qs:List (Nat×Value)}{l l':List V}{cells:Array Value},ez (fun p q=>p.1=q.1∧VR T B p.2 q.2) ps qs→l.map V.tag=tags→V.wfs T l→CRs T B l cells.toList→bf l ps=some l'→
  ∃cells',Instr.fill place cells qs=some cells'∧l'.map V.tag=tags∧V.wfs T l'∧CRs T B l' cells'.toList
 |[],[],l,l',cells,_,ht,hw,hc,hs=>by simp only[bf,Zg]at hs;subst hs;exact⟨cells,rfl,ht,hw,hc⟩
 |(i,x)::ps,(j,y)::qs,l,l',cells,h,ht,hw,hc,hs=>by
  obtain⟨⟨h1,h2⟩,h3⟩:=h;simp only at h1 h2;subst h1;simp only[bf]at hs;cases hy:l[i]? with
  |none=>rw[hy]at hs;cases hs
  |some u=>
   rw[hy]at hs;simp only at hs;by_cases hok:(x.ok&&x.tag==u.tag)=true
   ·rw[if_pos hok]at hs;simp only[Zj,beq_iff_eq]at hok;obtain⟨k1,k2,k3⟩:=(rz hok.1).1 h2;have hmem:u.tag∈tags:=by rw[←ht];exact List.mem_map_of_mem (List.mem_of_getElem? hy)
    obtain⟨a,b,z,hcs,hal,hwu,hcu,hput⟩:=jC hT hw hc (fun v hv=>hnr _ (by rw[←ht];exact List.mem_map_of_mem hv)) hy;have hb:b.length=T.size u.tag:=mU hT hwu hcu (hnr _ hmem);have hd:y.cells.toList.length=T.size u.tag:=by rw[←hok.2];exact mU hT k1 k2 (by rw[hok.2];exact hnr _ hmem)
    have hti:tags[i]?=some u.tag:=by rw[←ht,List.getElem?_map,hy];rfl
    have hpl:=hplace i _ hti;have hoff:a.length=T.sum (tags.take i):=by rw[hal,←ht,List.map_take]
    have hsz:cells.size=a.length+b.length+z.length:=by rw[←Array.length_toList,hcs];simp;omega
    have hyc:y.cells.size=T.size u.tag:=by rw[←Array.length_toList];exact hd
    have hfo:=QH hcs (by rw[hd,hb]) y rfl;obtain⟨cells',g1,g2,g3,g4⟩:=wD hT place tags hnr hplace (cells:=y.cells.zipIdx.foldl (fun cs (c,j)=>cs.setIfInBounds (a.length+j) c) cells) h3 (by rw[yI hy hok.2];exact ht) (JI hw k1) (by rw[hfo];exact hput _ _ k2) hs;refine⟨cells',?_,g2,g3,g4⟩;simp only[Instr.fill,hpl];rw[if_neg (by rw[hyc,←hoff,hsz,hb];simp)]
    rw[←hoff];exact g1
   ·rw[if_neg hok]at hs;cases hs
 |[],_::_,_,_,_,h,_,_,_,_=>h.elim
 |_::_,[],_,_,_,h,_,_,_,_=>h.elim
theorem ut {T:Tab}{e:Nat}:∀{n i:Nat},i≤n→T.sum ((List.replicate n e).take i)=i*T.size e
 |_,0,_=>by simp[Tab.sum]
 |0,i+1,h=>by omega
 |n+1,i+1,h=>by rw[List.replicate_succ,List.take_succ_cons,Tab.sum,ut (by omega),Nat.succ_mul];omega
theorem DN {T:Tab}{B:BM}{z:V}{cz:List Value}(h:CR T B z cz):∀n,CRs T B (List.replicate n z) (List.replicate n cz).flatten
 |0=>by simp[CRs]
 |n+1=>by rw[List.replicate_succ,List.replicate_succ,List.flatten_cons];simp only[CRs];exact⟨_,_,rfl,h,DN h n⟩
theorem Kd {T:Tab}{z:V}(h:z.wf T) (n:Nat):V.wfs T (List.replicate n z):=tj.2 fun x hx=>by rw[List.eq_of_mem_replicate hx];exact h
theorem qw {cz:List Value}(hp:0<cz.length):∀(n i:Nat),i<n*cz.length→(List.replicate n cz).flatten[i]?=cz[i%cz.length]?
 |0,i,h=>by omega
 |n+1,i,h=>by
  rw[List.replicate_succ,List.flatten_cons];by_cases hi:i<cz.length
  ·rw[List.getElem?_append_left hi,Nat.mod_eq_of_lt hi]
  ·rw[List.getElem?_append_right (by omega),qw hp n (i-cz.length) (by have:=Nat.succ_mul n cz.length;simp only[Nat.succ_eq_add_one]at this;omega)]
   conv=>rhs;rw[Nat.mod_eq_sub_mod (by omega)]
theorem Ht (z:Array Value) (hp:0<z.size) (m i:Nat) (hi:i<m):((Array.range m).map (z[·%z.size]!))[i]?=z[i%z.size]?:=by have:i%z.size<z.size:=Nat.mod_lt _ hp;simp[hi,this]
theorem Jg {z:Array Value}(hp:0<z.size) (n:Nat):((Array.range (n*z.size)).map (z[·%z.size]!)).toList=(List.replicate n z.toList).flatten:=by
 apply List.ext_getElem?;intro i;rw[Array.getElem?_toList];by_cases hi:i<n*z.size
 ·rw[Ht z hp _ _ hi,qw (by simpa using hp) n i (by simpa using hi)];simp
 ·rw[Array.getElem?_eq_none (by simp;omega),List.getElem?_eq_none (by simp;omega)]
theorem NS {z:Array Value}(hp:0<z.size) {n m:Nat}(hnm:n≤m):Bf ((Array.range (m*z.size)).map (z[·%z.size]!)) 0 (List.replicate n z.toList).flatten:=by
 intro i x hx;have hi:i<n*z.size:=by have:=(List.getElem?_eq_some_iff.1 hx).1;simpa using this
 rw[Nat.zero_add,Ht z hp _ _ (Nat.lt_of_lt_of_le hi (Nat.mul_le_mul_right _ hnm))];rw[qw (by simpa using hp) n i (by simpa using hi)]at hx;simpa using hx
theorem Cb {T:Tab}{b:Nat}:∀{v:V},v.wf T→v.tag%2=0→v.locLt b=true
 | .agg t l,_,h=>by simp only[V.tag]at h;simp only[V.locLt,h,beq_self_eq_true,Bool.true_or]
 | .dead,h,_=>h.elim
 | .tup _,h,_=>h.elim
 | .bool _,_,_=>by simp only[V.locLt]
 | .int _ _,_,_=>by simp only[V.locLt]
 | .str _,_,_=>by simp only[V.locLt]
 | .nilp,_,h=>by simp[V.tag]at h
 | .nils,_,h=>by simp[V.tag]at h
 | .nilf,_,h=>by simp[V.tag]at h
 | .ptr _ _ _,_,h=>by simp[V.tag]at h
 | .sl _ _ _ _ _ _,_,h=>by simp[V.tag]at h
 | .fn _ _,_,h=>by simp[V.tag]at h
structure XK (c:Cfg) (ty r e ety:Nat) (i:TypeInfo):Prop where
 under:c.P.underlying ty=some (.slice ety)
 el:tg c.tm ety=some e
 row:c.T.info r=some (.row e)
 info:c.P.info? ety=some i
 bytes:i.bytes≤65536
 zero:∃z,i.zero=some z∧z.cells.size=i.size
theorem DY {c:Cfg}{ty r e:Nat}(h:vO c ty r e=true):∃ety i,XK c ty r e ety i:=by
 unfold vO at h;split at h
 ·rename_i ety hu;simp only[Zj,Zi]at h;obtain⟨⟨h1,h2⟩,h3⟩:=h;cases hi:c.P.info? ety with
  |none=>rw[hi]at h3;cases h3
  |some i=>
   rw[hi]at h3;simp only[Zj,Zi]at h3;refine⟨ety,i,hu,h1,h2,hi,h3.1,?_⟩;cases hz:i.zero with
   |none=>rw[hz]at h3;cases h3.2
   |some z=>rw[hz]at h3;exact⟨z,rfl,of_decide_eq_true h3.2⟩
 ·cases h
section sims
variable {c : Cfg} (hT : aR c.T = true) (hm : kr c = true) {B0 base : Nat} {B : BM} {s s' : St} {w : World} {a : Act} {ρ : Env} {v : V}
 (hE:ER c.T B ρ a.tmps) (hG:fb c.gl B) (hS:SR c.T B0 B s w) (hb:base≤s.loc.length) (hB0:B0≤w.heap.size)
include hE hG hS
include hT hm in
theorem Uf {z:V}{ps:List (Nat×Opd)}{q:Oper}(hc:ay c (.bld z ps) q.op=true) (he:evOp base ρ s (.bld z ps)=some (v,s')):cE c B0 base B s w a q v s':=by
 simp only[ay]at hc;split at hc
 ·rename_i ty qs hq;simp only[Zj]at hc;obtain⟨i,x,hz⟩:=De hc.1;have hps:=yX hc.2 hE hG;obtain⟨i',d,hty⟩:=cY hT hm hz.tag;simp only[evOp]at he;cases z with
  |agg t l=>
   simp only at he;cases hsp:bf l (ps.map fun p=>(p.1,p.2.ev ρ))with
   |none=>rw[hsp]at he;cases he
   |some l'=>
    rw[hsp]at he;simp only[Zg,Zk]at he;obtain⟨rfl,rfl⟩:=he;have hwz:=hz.wf;simp only[V.wf]at hwz;have hcz:=hz.cr B;simp only[CR]at hcz;have hag:=hwz.1;unfold cQ at hag;have hinfo:i'=i:=by have:=hty.info;rw[hz.info]at this;exact(Option.some.inj this).symm
    subst hinfo;have fin:∀cells',c.P.built ty (qs.toList.map fun q=>(q.1,a.eval q.2))=some cells'→cQ c.T t l'→V.wfs c.T l'→CRs c.T B l' cells'.toList→cE c B0 base B s w a q (.agg t l') s:=by intro cells' hbt h1 h2 h3;have hrb:=run_build (P:=c.P) w ty ((qs.map fun q=>(q.1,a.eval q.2))) cells' (by rw[Array.toList_map];exact hbt);exact aA hS (x:= .agg cells') (by simp only[execOp,hq];simp[hrb]) (uu.2 ⟨cells',rfl,h1,h2,h3⟩)
    cases hti:c.T.info t with
    |none=>rw[hti]at hag;exact hag.elim
    |some ti=>
     rw[hti]at hag;cases ti with
     |st ts=>
      simp only at hag;obtain⟨fs,rfl,hlen,_,hfs⟩:=uw hty hti;have hok:=Bi hT hti;have hmap:fs.toList.mapM (fun f=>(c.P.info? f.type).map fun i=>(f.offset,i.size))=some ((List.range fs.size).map fun j=>(c.T.sum (ts.take j),c.T.size (ts.getD j 0))):=by
       have key:∀(gs:List Field) (k:Nat),(∀j f,gs[j]?=some f→∃u,ts[k+j]?=some u∧f.offset=c.T.sum (ts.take (k+j))∧tg c.tm f.type=some u)→
        gs.mapM (fun f=>(c.P.info? f.type).map fun i=>(f.offset,i.size))=some ((List.range' k gs.length).map fun j=>(c.T.sum (ts.take j),c.T.size (ts.getD j 0))):=by
        intro gs
        induction gs with
        |nil=>intro k _;simp
        |cons f gs ih=>
         intro k hk;obtain⟨u,g1,g2,g3⟩:=hk 0 f rfl;obtain⟨i2,d2,hty2⟩:=cY hT hm g3;have hr:=ih (k+1) (fun j f hf=>by have:=hk (j+1) f (by simpa using hf);rw[show k+1+j=k+(j+1) by omega];exact this)
         simp only[Nat.add_zero]at g1 g2;rw[List.mapM_cons,hr];simp[List.range'_succ,hty2.info,g2,hty2.size,List.getD_eq_getElem?_getD,g1]
       have:=key fs.toList 0 (fun j f hf=>by obtain⟨u,g1,g2,g3,_⟩:=hfs j f (by simpa using hf);exact⟨u,by simpa using g1,by simpa using g2,g3⟩)
       rw[this];simp[List.range_eq_range']
      obtain⟨cells',g1,g2,g3,g4⟩:=wD hT (B:=B) (fun j=>((List.range fs.size).map fun j=>(c.T.sum (ts.take j),c.T.size (ts.getD j 0))).toArray[j]?) ts hok.nr (fun j u hj=>by
       have hjl:j<fs.size:=by rw[←hlen];exact(List.getElem?_eq_some_iff.1 hj).1
       simp[hjl,List.getD_eq_getElem?_getD,hj]) hps hag hwz.2 hcz hsp
      exact fin cells' (by simp only[Program.built,hty.info,hty.under,hz.zero,hmap];exact g1) (by unfold cQ;rw[hti];exact g2) g3 g4
     |arr n e=>
      simp only at hag;obtain⟨ety,rfl,hety⟩:=zP hty hti;obtain⟨i2,d2,hty2⟩:=cY hT hm hety;have hok:=pM hT hti;have htags:l.map V.tag=List.replicate n e:=by rw[List.eq_replicate_iff];exact⟨by rw[List.length_map];exact hag.1,fun u hu=>by obtain⟨y,hy,rfl⟩:=List.mem_map.1 hu;exact hag.2 y hy⟩
      obtain⟨cells',g1,g2,g3,g4⟩:=wD hT (B:=B) (fun j=>some (j*c.T.size e,c.T.size e)) (List.replicate n e) (fun u hu=>by rw[List.eq_of_mem_replicate hu];exact hok.nr) (fun j u hj=>by
       have hjl:j<n:=by have:=(List.getElem?_eq_some_iff.1 hj).1;simpa using this
       have hu:u=e:=List.eq_of_mem_replicate (List.mem_of_getElem? hj);rw[ut (by omega),hu]) hps htags hwz.2 hcz hsp
      exact fin cells' (by simp only[Program.built,hty.info,hty.under,hz.zero,hty2.info,hty2.size];exact g1) (by unfold cQ;rw[hti];have:=List.eq_replicate_iff.1 g2;exact⟨by have:=this.1;rwa [List.length_map]at this,fun u hu=>this.2 _ (List.mem_map_of_mem hu)⟩) g3 g4
     |row e=>exact(TN hty hti).elim
  |_=>cases he
 ·cases hc
include hT hm hb hB0 in
theorem SZ {h:Bool}{r e n:Nat}{z:V}{ps:List (Nat×Opd)}{q:Oper}(hc:ay c (.bsl h r e z n ps) q.op=true) (he:evOp base ρ s (.bsl h r e z n ps)=some (v,s')):cE c B0 base B s w a q v s':=by
 simp only[ay]at hc;split at hc
 ·rename_i ty n' qs hq;simp only[Zj,Zi]at hc;obtain⟨⟨⟨⟨rfl,hrow⟩,hpo⟩,hzo⟩,hsmall⟩:=hc;obtain⟨ety,i,hr⟩:=DY hrow;rw[hr.under]at hzo;simp only at hzo;obtain⟨i2,x,hz⟩:=De hzo;have hps:=yX hpo hE hG;have hze:z.tag=e:=by have:=hz.tag;rw[hr.el]at this;exact(Option.some.inj this).symm
  obtain⟨i3,d,hty⟩:=cY hT hm hr.el;have hok:=sY hT hr.row;have hxl:x.cells.toList.length=c.T.size e:=by rw[←hze];exact mU hT hz.wf (hz.cr B) (by rw[hze];exact hok.nr)
  have hxs:x.cells.size=c.T.size e:=by rw[←Array.length_toList];exact hxl
  have hxp:0<x.cells.size:=by rw[hxs];exact hok.pos
  simp only[evOp]at he;cases hsp:bf (List.replicate n z) (ps.map fun p=>(p.1,p.2.ev ρ))with
  |none=>rw[hsp]at he;cases he
  |some l'=>
   rw[hsp]at he;simp only at he;by_cases hmy:e%2=0∨bi h (.agg 1 l')=true
   ·rw[if_pos hmy]at he;simp only[Zg,Zk]at he;obtain⟨rfl,rfl⟩:=he;have hcr:=DN (hz.cr B) n;rw[←Jg hxp n]at hcr;obtain⟨cells',g1,g2,g3,g4⟩:=wD hT (B:=B) (fun j=>some (j*c.T.size e,c.T.size e)) (List.replicate n e) (fun u hu=>by rw[List.eq_of_mem_replicate hu];exact hok.nr) (fun j u hj=>by
     have hjl:j<n:=by have:=(List.getElem?_eq_some_iff.1 hj).1;simpa using this
     have hu:u=e:=List.eq_of_mem_replicate (List.mem_of_getElem? hj);rw[ut (by omega),hu]) hps (by rw[List.map_replicate,hze]) (Kd hz.wf n) hcr hsp
    have hl':=List.eq_replicate_iff.1 g2;have hwf:(V.agg r l').wf c.T:=by simp only[V.wf];refine⟨?_,g3⟩;unfold cQ;rw[hr.row];exact fun u hu=>hl'.2 _ (List.mem_map_of_mem hu)
    have hmay:bi h (.agg r l')=true:=by
     cases h with
     |false=>rfl
     |true=>
      simp only[bi,Bool.not_true,Bool.false_or,V.locLt,Bool.or_eq_true,beq_iff_eq]at hmy⊢;rcases hmy with h1|h1
      ·right;rw[fZ];intro u hu;have hut:u.tag=e:=hl'.2 _ (List.mem_map_of_mem hu);have hwu:=tj.1 g3 u hu;exact Cb hwu (by rw[hut];exact h1)
      ·rcases h1 with h1|h1
       ·omega
       ·exact .inr h1
    have hcell:CR c.T B (.agg r l') cells'.toList:=by simp only[CR];exact g4
    refine⟨_,_,_,?_,.inl ⟨.slice (some ⟨w.heap.size,0,none⟩) n n,rfl,?_⟩,vN hS hb hB0 hwf hmay hcell (c:=cells') (fun i u hu=>by rw[Nat.zero_add];simpa using hu) ety⟩
    ·have hse:(sizeOf ety).run c.P w= .ok (c.T.size e) w:=ir hty w;have hzr:(zeroValue ety).run c.P w= .ok x w:=by simp[zeroValue,typeInfo,hz.info,hz.zero]
     have hlist:(qs.map fun q=>(q.1,a.eval q.2)).toList=qs.toList.map fun q=>(q.1,a.eval q.2):=Array.toList_map;simp only[execOp,hq,Instr.buildSlice,Sem.run_bind,run_underlying hr.under,Result.andThen_ok,hse];rw[if_neg (by omega)];by_cases h0:n*c.T.size e=0
     ·have hf:Instr.fill (fun i=>some (i*c.T.size e,c.T.size e)) ((Array.range (n*c.T.size e)).map fun _=>(default:Value)) (qs.toList.map fun q=>(q.1,a.eval q.2))=some cells':=by rw[hxs,h0]at g1;rw[h0];have e0:Array.range 0= #[]:=rfl;rw[e0]at g1⊢;simp only[Array.map_empty]at g1⊢;exact g1
      simp[h0,newRow]at hf⊢;simp[hf]
     ·have hf:Instr.fill (fun i=>some (i*c.T.size e,c.T.size e)) ((Array.range (n*c.T.size e)).map (x.cells[·%x.cells.size]!)) (qs.toList.map fun q=>(q.1,a.eval q.2))=some cells':=by rw[hxs]at g1⊢;exact g1
      simp only[Sem.run_bind,Sem.run_pure,Result.andThen_ok,if_neg h0,hzr,hlist,hf];simp[newRow]
    ·refine jo.2 ⟨_,_,0,r,n,_,ip hS.lenL hS.lenH,rfl,by simp[Tab.elem,hr.row],fun n' e' hi=>(by rw[hr.row]at hi;cases hi),Nat.le_refl _,fun k hk=>(by cases hk;rfl),.inr ?_,?_,rfl⟩
     ·simp
     ·have htag:∀u∈l',u.tag=e:=fun u hu=>hl'.2 _ (List.mem_map_of_mem hu);have hlen:=zu hT g3 g4 (fun u hu=>by rw[htag u hu];exact(sY hT hr.row).nr);rw[jk htag]at hlen;have hn':l'.length=n:=by simpa using hl'.1
      rw[hn']at hlen;intro N hN;simp only[Zg]at hN;rw[←hN];simp only[Array.length_toList]at hlen;simp[hlen]
   ·rw[if_neg hmy]at he;cases he
 ·cases hc
end sims
end Go.Ab
