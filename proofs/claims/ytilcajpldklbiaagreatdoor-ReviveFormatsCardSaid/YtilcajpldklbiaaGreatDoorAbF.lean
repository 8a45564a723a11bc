/-
  YtilcajpldklbiaaGreatDoorAbF: an abstract semantics of the program's code, and that what it tells holds of the program (part F).
-/
import Derived.Test.YtilcajpldklbiaaGreatDoorAbD
import Derived.Test.YtilcajpldklbiaaGreatDoorAbC
import Derived.OpenShut
import Derived.FnData
set_option maxRecDepth 100000
namespace Go.Ab
structure Sft where
 g:List Blk
 l:List Blk
 h:List Blk
def Sft.a (F:Sft):Loc→Loc
 | .loc i=> .loc (i+F.l.length)
 | .hp i=>if i<F.g.length then .hp i else .hp (i+F.h.length)
def Sft.j (F:Sft) (i:Nat):Nat:=if i<F.g.length then i else i+F.h.length
theorem xk {F:Sft}{i:Nat}:F.a (.hp i)= .hp (F.j i):=by simp only[Sft.a,Sft.j];split<;>rfl
mutual
def Sft.v (F:Sft):V→V
 | .mp (some i)=> .mp (some (F.j i))
 | .ptr a p t=> .ptr (F.a a) p t
 | .sl a p o l c e=> .sl (F.a a) p o l c e
 | .fn f caps=> .fn f (F.vs caps)
 | .agg t l=> .agg t (F.vs l)
 | .tup l=> .tup (F.vs l)
 |v=>v
def Sft.vs (F:Sft):List V→List V
 |[]=>[]
 |v::l=>F.v v::F.vs l
end
def Sft.b (F:Sft):Blk→Blk
 | .dead=> .dead
 | .ro v=> .ro (F.v v)
 | .rw v=> .rw (F.v v)
 | .mp l=> .mp l
def Sft.s (F:Sft) (s:St):St:=⟨F.l++s.loc.map F.b,F.g++F.h++(s.hp.drop F.g.length).map F.b⟩
def Sft.e (F:Sft) (ρ:Env):Env:=ρ.map fun p=>(p.1,F.v p.2)
structure Sft.Ok (F:Sft):Prop where
 ro:∀b∈F.g,∃v,b= .ro v∧v.flat=true
def Sft.In (F:Sft) (s:St):Prop:=s.hp.take F.g.length=F.g
section
variable {F : Sft}
theorem aY:∀(l:List V),F.vs l=l.map F.v
 |[]=>by simp[Sft.vs]
 |v::l=>by simp[Sft.vs,aY l]
theorem Lm (ρ:Env):F.e ρ=ρ.map fun p=>(p.1,F.v p.2):=rfl
mutual
theorem ib:∀{v:V},v.flat=true→F.v v=v
 | .ptr _ _ _,h=>by simp[V.flat]at h
 | .sl _ _ _ _ _ _,h=>by simp[V.flat]at h
 | .fn f caps,h=>by simp only[V.flat]at h;simp only[Sft.v,kN h]
 | .agg t l,h=>by simp only[V.flat]at h;simp only[Sft.v,kN h]
 | .tup l,h=>by simp only[V.flat]at h;simp only[Sft.v,kN h]
 | .mp (some _),h=>by simp[V.flat]at h
 | .mp none,_=>by simp[Sft.v]
 | .dead,_| .bool _,_| .int _ _,_| .str _,_| .nilp,_| .nils,_| .nilf,_=>by simp[Sft.v]
theorem kN:∀{l:List V},V.flats l=true→F.vs l=l
 |[],_=>by simp[Sft.vs]
 |v::l,h=>by simp only[V.flats,Zj]at h;simp only[Sft.vs,ib h.1,kN h.2]
end
theorem HA {v:V}(h:v.clos F.g.length=true):F.v v=v:=by
 unfold V.clos at h;split at h
 ·simp only[Zi]at h;simp only[Sft.v,Sft.a,if_pos h]
 ·exact ib h
mutual
theorem iQ:∀(v:V),(F.v v).locLt 0=v.locLt 0
 | .ptr (.loc i) _ _=>by simp[Sft.v,Sft.a,V.locLt]
 | .ptr (.hp i) _ _=>by simp only[Sft.v,Sft.a];split<;>simp[V.locLt]
 | .sl (.loc i) _ _ _ _ _=>by simp[Sft.v,Sft.a,V.locLt]
 | .sl (.hp i) _ _ _ _ _=>by simp only[Sft.v,Sft.a];split<;>simp[V.locLt]
 | .fn f caps=>by simp only[Sft.v,V.locLt,jz caps]
 | .agg t l=>by simp only[Sft.v,V.locLt,jz l]
 | .tup l=>by simp only[Sft.v,V.locLt,jz l]
 | .mp (some _)| .mp none=>by simp[Sft.v,V.locLt]
 | .dead| .bool _| .int _ _| .str _| .nilp| .nils| .nilf=>by simp[Sft.v,V.locLt]
theorem jz:∀(l:List V),V.locLts 0 (F.vs l)=V.locLts 0 l
 |[]=>by simp[Sft.vs,V.locLts]
 |v::l=>by simp only[Sft.vs,V.locLts,iQ v,jz l]
end
theorem rj {o:Option Nat}:F.v (.mp o)= .mp (o.map F.j):=by cases o<;>simp[Sft.v]
theorem iv (v:V):(F.v v).tag=v.tag:=by
 cases v with
 |mp o=>rw[rj];rfl
 |_=>rfl
theorem FK (v:V):(F.v v).ok=v.ok:=by
 cases v with
 |mp o=>rw[rj];rfl
 |_=>rfl
theorem uD {h:Bool}(v:V):bi h (F.v v)=bi h v:=by simp only[bi,iQ]
theorem uJ:∀(ρ:Env) (t:Nat),get (F.e ρ) t=F.v (get ρ t)
 |[],_=>rfl
 |(k,v)::r,t=>by
  simp only[Lm,List.map_cons,get];split
  ·rfl
  ·exact uJ r t
theorem ai {ρ:Env}{x:Opd}(h:x.clos F.g.length=true):x.ev (F.e ρ)=F.v (x.ev ρ):=by
 cases x with
 |t n=>exact uJ ρ n
 |k v=>exact(HA h).symm
theorem Bt:∀{p:List Nat}{v u:V},V.at p v=some u→V.at p (F.v v)=some (F.v u)
 |[],v,u,h=>by simp only[V.at,Zg]at h⊢;rw[h]
 |i::p,v,u,h=>by
  cases v with
  |agg t l=>
   simp only[V.at]at h;cases hy:l[i]? with
   |none=>rw[hy]at h;cases h
   |some y=>
    rw[hy]at h;simp only[Sft.v,V.at,aY,List.getElem?_map,hy,Option.map_some];exact Bt h
  |_=>cases h
theorem vJ:∀{p:List Nat}{x v u:V},V.setAt p x v=some u→V.setAt p (F.v x) (F.v v)=some (F.v u)
 |[],x,v,u,h=>by simp only[V.setAt,Zg]at h⊢;rw[h]
 |i::p,x,v,u,h=>by
  cases v with
  |agg t l=>
   simp only[V.setAt]at h;cases hy:l[i]? with
   |none=>rw[hy]at h;cases h
   |some y=>
    rw[hy]at h;simp only at h;cases hq:V.setAt p x y with
    |none=>rw[hq]at h;cases h
    |some y'=>
     rw[hq]at h;simp only[Zg]at h;subst h;simp only[Sft.v,V.setAt,aY,List.getElem?_map,hy,Option.map_some,vJ hq,List.map_set]
  |_=>cases h
theorem In.len {s:St}(h:F.In s):F.g.length≤s.hp.length:=by have:=congrArg List.length h;simp at this;omega
theorem wK (hF:F.Ok) {s:St}(hs:F.In s) {a:Loc}{b:Blk}(h:s.at a=some b):(F.s s).at (F.a a)=some (F.b b):=by
 cases a with
 |loc i=>
  simp only[St.at]at h;simp only[Sft.a,St.at,Sft.s];rw[List.getElem?_append_right (by omega),Nat.add_sub_cancel,List.getElem?_map,h];rfl
 |hp i=>
  simp only[St.at]at h;have hl:=In.len hs;simp only[Sft.a];by_cases hi:i<F.g.length
  ·rw[if_pos hi];simp only[St.at,Sft.s];have hg:F.g[i]?=some b:=by rw[←hs,List.getElem?_take,if_pos hi];exact h
   rw[List.append_assoc,List.getElem?_append_left hi,hg];obtain⟨v,rfl,hv⟩:=hF.ro b (List.mem_of_getElem? hg);simp only[Sft.b,ib hv]
  ·rw[if_neg hi];simp only[St.at,Sft.s];rw[List.getElem?_append_right (by simp;omega)];have e:i+F.h.length-(F.g++F.h).length=i-F.g.length:=by simp;omega
   rw[e,List.getElem?_map,List.getElem?_drop,show F.g.length+(i-F.g.length)=i by omega,h];rfl
theorem iM (hF:F.Ok) {s:St}(hs:F.In s) {a:Loc}{p:List Nat}{u:V}(h:s.read a p=some u):(F.s s).read (F.a a) p=some (F.v u):=by
 unfold St.read at h⊢;cases hb:s.at a with
 |none=>rw[hb]at h;cases h
 |some b=>
  rw[hb]at h;rw[wK hF hs hb];cases b with
  |dead=>cases h
  |mp v=>cases h
  |ro v=>exact Bt h
  |rw v=>exact Bt h
theorem XO (hF:F.Ok) {s:St}(hs:F.In s) {i:Nat}{v:Blk}(h:s.hp[i]?=some v) (hm:v.mut=true):F.g.length≤i:=by
 apply Classical.byContradiction;intro hi;have hg:F.g[i]?=some v:=by rw[←hs,List.getElem?_take,if_pos (by omega)];exact h
 obtain⟨_,h1,_⟩:=hF.ro _ (List.mem_of_getElem? hg);subst h1;cases hm
theorem N9 (hF:F.Ok) {s:St}(hs:F.In s) {a:Loc}{v:Blk}(h:s.at a=some v) (hm:v.mut=true) (b:Blk):F.s (s.set a b)=(F.s s).set (F.a a) (F.b b)∧F.In (s.set a b):=by
 cases a with
 |loc i=>
  refine⟨?_,hs⟩;simp only[St.set,Sft.s,Sft.a,List.map_set];rw[List.set_append_right _ _ (by omega),Nat.add_sub_cancel]
 |hp i=>
  have hi:=XO hF hs h hm;have hl:=In.len hs;constructor
  ·simp only[St.set,Sft.s,Sft.a];rw[if_neg (by omega)];simp only[St.mk.injEq,true_and];rw[List.set_append_right _ _ (by simp;omega)];have e:i+F.h.length-(F.g++F.h).length=i-F.g.length:=by simp;omega
   rw[e,List.drop_set,if_neg (by omega),List.map_set]
  ·simp only[Sft.In,St.set];rw[List.take_set_of_le hi];exact hs
theorem wx (hF:F.Ok) {s:St}(hs:F.In s) {a:Loc}{v:V}(h:s.at a=some (.rw v)) (b:Blk):F.s (s.set a b)=(F.s s).set (F.a a) (F.b b)∧F.In (s.set a b):=N9 hF hs h rfl b
theorem rm (hF:F.Ok) {base:Nat}{s s':St}(hs:F.In s) {a:Loc}{p:List Nat}{x:V}(h:s.write base a p x=some s'):(F.s s).write (base+F.l.length) (F.a a) p (F.v x)=some (F.s s')∧F.In s':=by
 unfold St.write at h⊢;cases hb:s.at a with
 |none=>rw[hb]at h;cases h
 |some b=>
  rw[hb]at h;rw[wK hF hs hb];cases b with
  |dead=>cases h
  |mp v=>cases h
  |ro v=>cases h
  |rw v=>
   simp only at h;by_cases hm:fM base a x=true
   ·rw[if_pos hm]at h;have hm':fM (base+F.l.length) (F.a a) (F.v x)=true:=by
     cases a with
     |loc i=>simp only[fM,Sft.a,iQ]at hm⊢;simpa using hm
     |hp i=>
      have h0:x.locLt 0=true:=hm;simp only[Sft.a];split<;>(simp only[fM,iQ];exact h0)
    cases hq:V.setAt p x v with
    |none=>rw[hq]at h;cases h
    |some v'=>
     rw[hq]at h;simp only[Zg]at h;subst h;obtain⟨g1,g2⟩:=wx hF hs hb (.rw v');refine⟨?_,g2⟩;simp only[Sft.b,if_pos hm',vJ hq];rw[g1];rfl
   ·rw[if_neg hm]at h;cases h
theorem pW {s:St}(hs:F.In s) (h:Bool) (v:V):F.s (s.new h v)=(F.s s).new h (F.v v)∧(F.s s).fresh h=F.a (s.fresh h)∧F.In (s.new h v):=by
 have hl:=In.len hs;cases h with
 |false=>
  refine⟨?_,?_,hs⟩
  ·simp[St.new,Sft.s,Sft.b]
  ·simp only[St.fresh,Sft.s,Sft.a];simp;omega
 |true=>
  refine⟨?_,?_,?_⟩
  ·simp only[St.new,Sft.s,if_true];rw[List.drop_append_of_le_length hl,List.map_append,←List.append_assoc];rfl
  ·simp only[St.fresh,Sft.s,Sft.a,if_true];rw[if_neg (by omega)];simp;omega
  ·simp only[Sft.In,St.new,if_true];rw[List.take_append_of_le_length hl];exact hs
end
variable {F : Sft}
mutual
theorem BX:∀{x y:V}{b:Bool},veq x y=some b→veq (F.v x) (F.v y)=some b
 | .bool _,y,b,h=>by cases y<;>simp[veq,Sft.v]at h⊢;exact h
 | .int _ _,y,b,h=>by cases y<;>simp[veq,Sft.v]at h⊢;exact h
 | .str _,y,b,h=>by cases y<;>simp[veq,Sft.v]at h⊢;exact h
 | .agg t l,y,b,h=>by
  cases y with
  |agg t' l'=>
   simp only[veq,Sft.v]at h⊢;split at h
   ·rename_i ht;rw[if_pos ht];exact y8 h
   ·cases h
  |_=>simp[veq]at h
 | .dead,y,b,h| .ptr _ _ _,y,b,h| .sl _ _ _ _ _ _,y,b,h| .fn _ _,y,b,h| .tup _,y,b,h| .nilp,y,b,h| .nils,y,b,h| .nilf,y,b,h=>by cases y<;>simp[veq]at h
theorem y8:∀{x y:List V}{b:Bool},dL x y=some b→dL (F.vs x) (F.vs y)=some b
 |[],y,b,h=>by cases y<;>simp[dL,Sft.vs]at h⊢;exact h
 |v::l,y,b,h=>by
  cases y with
  |nil=>simp[dL]at h
  |cons v' l'=>
   simp only[dL,Sft.vs]at h⊢;cases hv:veq v v' with
   |none=>rw[hv]at h;cases h
   |some q=>
    rw[hv]at h;rw[BX hv];cases q with
    |true=>exact y8 h
    |false=>exact h
end
theorem AQ {t:Nat}{x y:V}(h1:t≠1) (h3:t≠3) (h5:t≠5):ew t x y=if x.tag=t∧y.tag=t then veq x y else none:=by
 unfold ew;split<;>first|rfl|(exact absurd rfl h1)|(exact absurd rfl h3)|(exact absurd rfl h5)
theorem FJ {t:Nat}{x y:V}{b:Bool}(h:ew t x y=some b):ew t (F.v x) (F.v y)=some b:=by
 by_cases h1:t=1
 ·subst h1;simp only[ew]at h⊢;split at h<;>simp_all [Sft.v]
 ·by_cases h3:t=3
  ·subst h3;simp only[ew]at h⊢;split at h<;>simp_all [Sft.v]
  ·by_cases h5:t=5
   ·subst h5;simp only[ew]at h⊢;split at h<;>simp_all [Sft.v]
   ·rw[AQ h1 h3 h5]at h⊢;rw[iv,iv];split at h
    ·rename_i ht;rw[if_pos ht];exact BX h
    ·cases h
theorem FN {o:BinOp}{x y v:V}(h:mO o x y=some v):mO o (F.v x) (F.v y)=some v∧F.v v=v:=by
 unfold mO at h;split at h
 ·rename_i k a k' b;refine⟨h,?_⟩;split at h
  ·unfold shf at h;split at h
   ·cases h
   ·split at h<;>cases h<;>rfl
  ·split at h
   ·unfold DD at h;split at h<;>(first|(cases h;rfl)|(split at h<;>cases h;rfl)|cases h)
   ·cases h
 ·refine⟨h,?_⟩;unfold DM at h;split at h<;>(first|(cases h;rfl)|(split at h<;>cases h;rfl)|cases h)
 ·cases h
theorem KJ {o:UnOp}{x v:V}(h:vun o x=some v):vun o (F.v x)=some v∧F.v v=v:=by
 unfold vun at h;split at h<;>(first|(cases h;exact⟨rfl,rfl⟩)|cases h)
theorem FA (hF:F.Ok) {s:St}(hs:F.In s) {n u:Nat}{a:Loc}{q:List Nat}{l:List V}(h:s.part n u a q=some l):(F.s s).part n u (F.a a) q=some (l.map F.v):=by
 unfold St.part at h⊢;cases hr:s.read a q.dropLast with
 |none=>rw[hr]at h;cases h
 |some v=>
  rw[hr]at h;rw[iM hF hs hr];cases v with
  |agg t L=>
   simp only at h;simp only[Sft.v,aY,List.length_map];split at h
   ·rename_i hh;rw[if_pos hh];simp only[Zg]at h;subst h;rw[List.map_take,List.map_drop]
   ·cases h
  |_=>cases h
theorem mZ (hF:F.Ok) {s:St}(hs:F.In s) {v:V}{l:List V}(h:s.elems v=some l):(F.s s).elems (F.v v)=some (l.map F.v):=by
 unfold St.elems at h;split at h
 ·simp only[Zg]at h;subst h;rfl
 ·rename_i a p off len c e;simp only[Sft.v,St.elems];by_cases hz:len=0
  ·rw[if_pos hz]at h⊢;simp only[Zg]at h;subst h;rfl
  ·rw[if_neg hz]at h⊢;cases hr:s.read a p with
   |none=>rw[hr]at h;cases h
   |some u=>
    rw[hr]at h;rw[iM hF hs hr];cases u with
    |agg t L=>
     simp only at h;simp only[Sft.v,aY,List.length_map];split at h
     ·rename_i hh;rw[if_pos hh];simp only[Zg]at h;subst h;rw[List.map_take,List.map_drop]
     ·cases h
    |_=>cases h
 ·simp only[Zg]at h;subst h;simp only[Sft.v,St.elems,List.map_map];rfl
 ·cases h
theorem ze {e:Nat}(v:V):(F.v v).slIs e=v.slIs e:=by
 cases v with
 |mp o=>rw[rj];rfl
 |_=>rfl
theorem yF {e:Nat}(v:V):(F.v v).elIs e=v.elIs e:=by
 cases v with
 |mp o=>rw[rj];rfl
 |_=>rfl
theorem F8 {q:Bool}{v:V}{n:Nat}(h:V.slen q v=some n):V.slen q (F.v v)=some n:=by
 unfold V.slen at h;split at h<;>(first|exact h|cases h)
theorem cA {y d n:Nat}{x:Option V}(h:ao y x d=some n):ao y (x.map F.v) d=some n:=by
 unfold ao at h;split at h
 ·exact h
 ·exact h
 ·cases h
theorem jp:∀{ps:List (Nat×V)}{l l':List V},bf l ps=some l'→bf (l.map F.v) (ps.map fun p=>(p.1,F.v p.2))=some (l'.map F.v)
 |[],l,l',h=>by simp only[bf,Zg]at h;subst h;rfl
 |(i,x)::r,l,l',h=>by
  simp only[bf]at h;simp only[List.map_cons,bf,List.getElem?_map];cases hy:l[i]? with
  |none=>rw[hy]at h;cases h
  |some y=>
   rw[hy]at h;simp only[Option.map_some,FK,iv]at h⊢;split at h
   ·rename_i hc;rw[if_pos hc];have:=jp h;rw[List.map_set]at this;exact this
   ·cases h
theorem Gp {mx:Bool}{x y v:V}(h:nJ mx x y=some v):nJ mx (F.v x) (F.v y)=some v∧F.v v=v:=by
 unfold nJ at h;split at h
 ·refine⟨h,?_⟩;split at h
  ·cases h;rfl
  ·cases h
 ·cases h
theorem qo {h:Bool}{l:List V}:bi h (.agg 1 (l.map F.v))=bi h (.agg 1 l):=by rw[←aY];exact uD (F:=F) (.agg 1 l)
theorem sf (hF:F.Ok) {base:Nat}{h:Bool}{r e:Nat}{x y v:V}{s s':St}(hs:F.In s) (hv:aD base h r e x y s=some (v,s')):
 aD (base+F.l.length) h r e (F.v x) (F.v y) (F.s s)=some (F.v v,F.s s')∧F.In s':=by
 unfold aD at hv⊢;rw[ze,yF];by_cases hc:(x.slIs e&&y.elIs e)=true
 ·rw[if_pos hc]at hv⊢;cases hx:s.elems x with
  |none=>rw[hx]at hv;cases hv
  |some old=>
   cases hy:s.elems y with
   |none=>rw[hx,hy]at hv;cases hv
   |some new=>
    rw[hx,hy]at hv;rw[mZ hF hs hx,mZ hF hs hy];simp only[List.length_map]at hv⊢;by_cases h0:new.length=0
    ·rw[if_pos h0]at hv⊢;simp only[Zg,Zk]at hv;obtain⟨rfl,rfl⟩:=hv;exact⟨rfl,hs⟩
    ·rw[if_neg h0]at hv⊢;rw[←List.map_append,qo];by_cases hm:old.length+new.length≤cg∧(e%2=0∨bi h (.agg 1 (old++new))=true)
     ·rw[if_pos hm]at hv⊢;have key:∀s1:St,F.In s1→some (V.sl (s1.fresh h) [] 0 (old.length+new.length) none e,s1.new h (.agg r (old++new)))=some (v,s')→
       some (V.sl ((F.s s1).fresh h) [] 0 (old.length+new.length) none e,(F.s s1).new h (.agg r ((old++new).map F.v)))=some (F.v v,F.s s')∧F.In s':=by
       intro s1 h1 hh;simp only[Zg,Zk]at hh;obtain⟨rfl,rfl⟩:=hh;obtain⟨k1,k2,k3⟩:=pW h1 h (.agg r (old++new));refine⟨?_,k3⟩;rw[k1,k2];simp only[Sft.v,aY]
      cases x with
      |nils=>exact key s hs hv
      |sl a p o l c e'=>
       simp only[Sft.v]at hv⊢;split at hv
       ·rename_i hk;rw[if_pos hk];exact key s hs hv
       ·rename_i hk;rw[if_neg hk];by_cases hp:p=[]
        ·rw[if_pos hp]at hv⊢;cases ha:s.at a with
         |none=>rw[ha]at hv;cases hv
         |some b=>
          rw[ha]at hv;rw[wK hF hs ha];cases b with
          |rw u=>
           obtain⟨g1,g2⟩:=wx hF hs ha .dead;have:=key _ g2 hv;rw[g1]at this;exact this
          |_=>cases hv
        ·rw[if_neg hp]at hv;cases hv
      |_=>cases hv
     ·rw[if_neg hm]at hv;cases hv
 ·rw[if_neg hc]at hv;cases hv
theorem Dz (hF:F.Ok) {base:Nat}{e:Nat}{x y v:V}{s s':St}(hs:F.In s) (hv:iw base e x y s=some (v,s')):
 iw (base+F.l.length) e (F.v x) (F.v y) (F.s s)=some (F.v v,F.s s')∧F.In s':=by
 unfold iw at hv⊢;rw[ze,yF];by_cases hc:(x.slIs e&&y.elIs e)=true
 ·rw[if_pos hc]at hv⊢;cases hy:s.elems y with
  |none=>rw[hy]at hv;cases hv
  |some ys=>
   rw[hy]at hv;rw[mZ hF hs hy];simp only at hv⊢;cases x with
   |nils=>
    simp only[Zg,Zk]at hv;obtain⟨rfl,rfl⟩:=hv;exact⟨rfl,hs⟩
   |sl a p o l c e'=>
    simp only[Sft.v,List.length_map]at hv⊢;by_cases h0:min ys.length l=0
    ·rw[if_pos h0]at hv⊢;simp only[Zg,Zk]at hv;obtain⟨rfl,rfl⟩:=hv;exact⟨rfl,hs⟩
    ·rw[if_neg h0]at hv⊢;cases hr:s.read a p with
     |none=>rw[hr]at hv;cases hv
     |some u=>
      rw[hr]at hv;rw[iM hF hs hr];cases u with
      |agg t L=>
       simp only at hv;simp only[Sft.v,aY,List.length_map];by_cases hb:o+l≤L.length
       ·rw[if_pos hb]at hv⊢;cases hw:s.write base a p (.agg t (L.take o++ys.take (min ys.length l)++L.drop (o+min ys.length l)))with
        |none=>rw[hw]at hv;cases hv
        |some s1=>
         rw[hw]at hv;simp only[Zg,Zk]at hv;obtain⟨rfl,rfl⟩:=hv;obtain⟨g1,g2⟩:=rm hF hs hw;simp only[Sft.v,aY,List.map_append,List.map_take,List.map_drop]at g1;rw[g1];exact⟨rfl,g2⟩
       ·rw[if_neg hb]at hv;cases hv
      |_=>cases hv
   |_=>cases hv
 ·rw[if_neg hc]at hv;cases hv
theorem KR {ρ:Env}{xs:List Opd}(h:∀x∈xs,x.clos F.g.length=true):xs.map (Opd.ev (F.e ρ))=(xs.map (Opd.ev ρ)).map F.v:=by rw[List.map_map];exact List.map_congr_left fun x hx=>ai (h x hx)
theorem gi {ρ:Env}{x:Option Opd}(h:∀y∈oL x,y.clos F.g.length=true):x.map (Opd.ev (F.e ρ))=(x.map (Opd.ev ρ)).map F.v:=by
 cases x with
 |none=>rfl
 |some y=>simp only[Option.map_some];rw[ai (h y (by simp[oL]))]
theorem zv {a b:Loc}(h:F.a a=F.a b):a=b:=by
 cases a with
 |loc i=>cases b with
  |loc j=>simp only[Sft.a,Loc.loc.injEq]at h;rw[show i=j by omega]
  |hp j=>simp only[Sft.a]at h;split at h<;>cases h
 |hp i=>cases b with
  |loc j=>simp only[Sft.a]at h;split at h<;>cases h
  |hp j=>
   simp only[Sft.a]at h;split at h<;>split at h<;>simp only[Loc.hp.injEq]at h<;>rw[show i=j by omega]
theorem DX {x y:V}(h:mG x y=true):mG (F.v x) (F.v y)=true:=by
 cases x with
 |ptr a q t=>
  cases y with
  |ptr b r u=>
   simp only[mG,Zi]at h;simp only[Sft.v,mG,Zi];rw[h]
  |_=>cases h
 |_=>cases h
theorem DW {x y:V}(h:ii x y=true):ii (F.v x) (F.v y)=true:=by
 cases x with
 |ptr a p t=>cases y with
  |ptr b q u=>
   simp only[ii,Zi]at h;simp only[Sft.v,ii,Zi];exact fun e=>h (zv e)
  |_=>cases h
 |_=>cases h
theorem DS {x y:V}(h:iW x y=true):iW (F.v x) (F.v y)=true:=by
 cases x with
 |ptr a p t=>cases y with
  |sl b q o l c u=>
   simp only[iW,Zi]at h;simp only[Sft.v,iW,Zi];exact fun e=>h (zv e)
  |nils=>rfl
  |_=>cases h
 |_=>cases h
theorem yz (hF:F.Ok) {s:St}(hs:F.In s) {v:V}{i:Nat}{l:List Int}(h:s.mpAt v=some (i,l)):(F.s s).mpAt (F.v v)=some (F.j i,l)∧s.at (.hp i)=some (.mp l):=by
 unfold St.mpAt at h;split at h
 ·rename_i j;split at h
  ·rename_i h1;simp only[Zg,Zk]at h;obtain⟨rfl,rfl⟩:=h;have:=wK hF hs (a:= .hp j) h1;rw[xk]at this;refine⟨?_,h1⟩;simp only[Sft.v,St.mpAt];rw[show(F.s s).hp[F.j j]?=some (.mp _)from this]
  ·cases h
 ·cases h
theorem LU {s:St}(hs:F.In s):F.s ⟨s.loc,s.hp++[.mp []]⟩=⟨(F.s s).loc,(F.s s).hp++[.mp []]⟩∧(F.s s).hp.length=F.j s.hp.length∧F.In ⟨s.loc,s.hp++[.mp []]⟩:=by
 have hl:=In.len hs;refine⟨?_,?_,?_⟩
 ·simp only[Sft.s];rw[List.drop_append_of_le_length hl,List.map_append,←List.append_assoc];rfl
 ·simp only[Sft.s,Sft.j];rw[if_neg (by omega)];simp;omega
 ·simp only[Sft.In];rw[List.take_append_of_le_length hl];exact hs
theorem Iq (hF:F.Ok) {s:St}(hs:F.In s) {x k v:V}(h:my x k s=some v):my (F.v x) (F.v k) (F.s s)=some (F.v v):=by
 unfold my at h;split at h
 ·rename_i i l n hm;simp only[Zg]at h;subst h;simp only[my,(yz hF hs hm).1,Sft.v]
 ·cases h
theorem GW (hF:F.Ok) {s s':St}(hs:F.In s) {x k y:V}(h:i7 x k y s=some s'):i7 (F.v x) (F.v k) (F.v y) (F.s s)=some (F.s s')∧F.In s':=by
 unfold i7 at h;split at h
 ·rename_i i l n hm;simp only[Zg]at h;subst h;obtain⟨m1,m2⟩:=yz hF hs hm;obtain⟨g1,g2⟩:=N9 hF hs m2 rfl (.mp (if n∈l then l else l++[n]))
  refine⟨?_,g2⟩;simp only[i7,m1,Sft.v];have:=g1;rw[xk]at this;simp only[St.set,Sft.b]at this;rw[this]
 ·cases h
section ops
variable (hF : F.Ok) {base : Nat} {ρ : Env} {s s' : St} {v : V} (hs : F.In s)
include hF hs
theorem Mj {o:Op'}(hc:o.clos F.g.length=true) (h:evOp base ρ s o=some (v,s')):evOp (base+F.l.length) (F.e ρ) (F.s s) o=some (F.v v,F.s s')∧F.In s':=by
 simp only[Op'.clos,Zj,List.all_eq_true]at hc;obtain⟨ho,hz⟩:=hc;have fin:∀{u:V}{a:Option (V×St)},some (u,s)=some (v,s')→a=some (F.v u,F.s s)→a=some (F.v v,F.s s')∧F.In s':=by intro u a h1 h2;simp only[Zg,Zk]at h1;obtain⟨rfl,rfl⟩:=h1;exact⟨h2,hs⟩
 cases o with
 |mv x=>
  simp only[evOp]at h⊢;exact fin h (by rw[ai (ho x (by simp[ag]))])
 |pick x y z=>
  simp only[evOp]at h⊢;rw[ai (ho x (by simp[ag])),ai (ho y (by simp[ag])),ai (ho z (by simp[ag]))];cases hx:x.ev ρ with
  |bool t=>rw[hx]at h;simp only[Sft.v]at h⊢;exact fin h (by cases t<;>rfl)
  |_=>rw[hx]at h;cases h
 |alloc hh z=>
  simp only[zOf]at hz;simp only[evOp,Zg,Zk]at h⊢;obtain⟨rfl,rfl⟩:=h;obtain⟨g1,g2,g3⟩:=pW hs hh z;rw[g1,g2,ib hz];exact⟨⟨rfl,rfl⟩,g3⟩
 |box hh x=>
  simp only[evOp]at h⊢;rw[ai (ho x (by simp[ag])),FK,uD,iv];split at h
  ·rename_i hk;rw[if_pos hk];simp only[Zg,Zk]at h⊢;obtain⟨rfl,rfl⟩:=h;obtain⟨g1,g2,g3⟩:=pW hs hh (x.ev ρ);rw[g1,g2];exact⟨⟨rfl,rfl⟩,g3⟩
  ·cases h
 |ld t p=>
  simp only[evOp]at h⊢;rw[ai (ho p (by simp[ag]))];cases hx:p.ev ρ with
  |ptr a q t'=>
   rw[hx]at h;simp only[Sft.v]at h⊢;split at h
   ·rename_i ht;rw[if_pos ht];cases hr:s.read a q with
    |none=>rw[hr]at h;cases h
    |some u=>rw[hr]at h;rw[iM hF hs hr];exact fin h rfl
   ·cases h
  |_=>rw[hx]at h;cases h
 |st t p x=>
  simp only[evOp]at h⊢;rw[ai (ho p (by simp[ag])),ai (ho x (by simp[ag])),iv];cases hx:p.ev ρ with
  |ptr a q t'=>
   rw[hx]at h;simp only[Sft.v]at h⊢;split at h
   ·rename_i ht;rw[if_pos ht];cases hr:s.write base a q (x.ev ρ)with
    |none=>rw[hr]at h;cases h
    |some s1=>
     rw[hr]at h;obtain⟨g1,g2⟩:=rm hF hs hr;rw[g1];simp only[Zg,Zk]at h⊢;obtain⟨rfl,rfl⟩:=h;exact⟨⟨rfl,rfl⟩,g2⟩
   ·cases h
  |_=>rw[hx]at h;cases h
 |nilc x=>
  simp only[evOp]at h⊢;rw[ai (ho x (by simp[ag]))];cases hx:x.ev ρ with
  |ptr a q t'=>rw[hx]at h;simp only[Sft.v]at h⊢;exact fin h rfl
  |fn f l=>rw[hx]at h;simp only[Sft.v]at h⊢;exact fin h rfl
  |_=>rw[hx]at h;cases h
 |bin o x y=>
  simp only[evOp]at h⊢;rw[ai (ho x (by simp[ag])),ai (ho y (by simp[ag]))];cases hx:mO o (x.ev ρ) (y.ev ρ)with
  |none=>rw[hx]at h;cases h
  |some u=>
   rw[hx]at h;obtain⟨g1,g2⟩:=FN (F:=F) hx;rw[g1];exact fin h (by rw[g2])
 |eq neg t x y=>
  simp only[evOp]at h⊢;rw[ai (ho x (by simp[ag])),ai (ho y (by simp[ag]))];cases hx:ew t (x.ev ρ) (y.ev ρ)with
  |none=>rw[hx]at h;cases h
  |some u=>
   rw[hx]at h;rw[FJ hx];exact fin h rfl
 |un o x=>
  simp only[evOp]at h⊢;rw[ai (ho x (by simp[ag]))];cases hx:vun o (x.ev ρ)with
  |none=>rw[hx]at h;cases h
  |some u=>
   rw[hx]at h;obtain⟨g1,g2⟩:=KJ (F:=F) hx;rw[g1];exact fin h (by rw[g2])
 |conv k x=>
  simp only[evOp]at h⊢;rw[ai (ho x (by simp[ag]))];cases hx:x.ev ρ with
  |int k' n=>rw[hx]at h;simp only[Sft.v]at h⊢;exact fin h rfl
  |_=>rw[hx]at h;cases h
 |mkfn f caps=>
  simp only[evOp]at h⊢;rw[KR (fun x hx=>ho x (by simpa[ag]using hx))];have ht:((caps.map (Opd.ev ρ)).map F.v).all (fun v=>v.tag==1)=(caps.map (Opd.ev ρ)).all (fun v=>v.tag==1):=by rw[List.all_map];congr 1;funext u;simp only[Function.comp,iv]
  rw[ht];split at h
  ·rename_i hk;rw[if_pos hk];exact fin h (by simp only[Sft.v,aY])
  ·cases h
 |mksl hh r e z n m=>
  simp only[zOf]at hz;simp only[evOp]at h⊢;rw[ai (ho n (by simp[ag])),ai (ho m (by simp[ag]))];cases hx:n.ev ρ with
  |int k l=>
   cases hy:m.ev ρ with
   |int k' l'=>
    rw[hx,hy]at h;simp only[Sft.v]at h⊢;split at h
    ·rename_i hk;rw[if_pos hk];simp only[Zg,Zk]at h⊢;obtain⟨rfl,rfl⟩:=h;obtain⟨g1,g2,g3⟩:=pW hs hh (.agg r (List.replicate l.toNat z));rw[g1,g2];refine⟨⟨rfl,?_⟩,g3⟩;simp only[Sft.v,aY,List.map_replicate,ib hz]
    ·cases h
   |_=>rw[hx,hy]at h;cases h
  |_=>rw[hx]at h;cases h
 |slc e x lo hi mx=>
  simp only[evOp]at h⊢;rw[ai (ho x (by simp[ag])),gi (x:=lo) (fun y hy=>ho y (by simp[ag,hy])),gi (x:=hi) (fun y hy=>ho y (by simp[ag,hy])),gi (x:=mx) (fun y hy=>ho y (by simp[ag,hy]))];cases hx:x.ev ρ with
  |sl a p off len cap e'=>
   rw[hx]at h;simp only[Sft.v]at h⊢;split at h
   ·rename_i he;rw[if_pos he];cases h1:ao (cap.getD len) (mx.map (Opd.ev ρ)) (cap.getD len)with
    |none=>rw[h1]at h;cases h
    |some m1=>
     rw[h1]at h;rw[cA h1];simp only at h⊢;cases h2:ao (kL mx.isSome m1 len) (hi.map (Opd.ev ρ)) len with
     |none=>rw[h2]at h;cases h
     |some h1'=>
      rw[h2]at h;rw[cA h2];simp only at h⊢;cases h3:ao h1' (lo.map (Opd.ev ρ)) 0 with
      |none=>rw[h3]at h;cases h
      |some l1=>
       rw[h3]at h;rw[cA h3];exact fin h rfl
   ·cases h
  |nils=>
   rw[hx]at h;simp only[Sft.v]at h⊢;cases h1:ao 0 (mx.map (Opd.ev ρ)) 0 with
   |none=>rw[h1]at h;cases h
   |some m1=>
    cases h2:ao 0 (hi.map (Opd.ev ρ)) 0 with
    |none=>rw[h1,h2]at h;cases h
    |some m2=>
     cases h3:ao 0 (lo.map (Opd.ev ρ)) 0 with
     |none=>rw[h1,h2,h3]at h;cases h
     |some m3=>
      rw[h1,h2,h3]at h;rw[cA h1,cA h2,cA h3];exact fin h rfl
  |_=>rw[hx]at h;cases h
 |slstr x lo hi=>
  simp only[evOp]at h⊢;rw[ai (ho x (by simp[ag])),gi (x:=lo) (fun y hy=>ho y (by simp[ag,hy])),gi (x:=hi) (fun y hy=>ho y (by simp[ag,hy]))];cases hx:x.ev ρ with
  |str b=>
   rw[hx]at h;simp only[Sft.v]at h⊢;cases h2:ao b.size (hi.map (Opd.ev ρ)) b.size with
   |none=>rw[h2]at h;cases h
   |some h1'=>
    rw[h2]at h;rw[cA h2];simp only at h⊢;cases h3:ao h1' (lo.map (Opd.ev ρ)) 0 with
    |none=>rw[h3]at h;cases h
    |some l1=>
     rw[h3]at h;rw[cA h3];exact fin h rfl
  |_=>rw[hx]at h;cases h
 |slarr t n e x lo hi mx=>
  simp only[evOp]at h⊢;rw[ai (ho x (by simp[ag])),gi (x:=lo) (fun y hy=>ho y (by simp[ag,hy])),gi (x:=hi) (fun y hy=>ho y (by simp[ag,hy])),gi (x:=mx) (fun y hy=>ho y (by simp[ag,hy]))];cases hx:x.ev ρ with
  |ptr a p t'=>
   rw[hx]at h;simp only[Sft.v]at h⊢;split at h
   ·rename_i he;have he':t'=t∧((F.s s).read (F.a a) p).isSome=true:=by refine⟨he.1,?_⟩;obtain⟨u,hu⟩:=Option.isSome_iff_exists.1 he.2;rw[iM hF hs hu];rfl
    rw[if_pos he'];cases h1:ao n (mx.map (Opd.ev ρ)) n with
    |none=>rw[h1]at h;cases h
    |some m1=>
     rw[h1]at h;rw[cA h1];simp only at h⊢;cases h2:ao m1 (hi.map (Opd.ev ρ)) n with
     |none=>rw[h2]at h;cases h
     |some h1'=>
      rw[h2]at h;rw[cA h2];simp only at h⊢;cases h3:ao h1' (lo.map (Opd.ev ρ)) 0 with
      |none=>rw[h3]at h;cases h
      |some l1=>
       rw[h3]at h;rw[cA h3];exact fin h rfl
   ·cases h
  |_=>rw[hx]at h;cases h
 |fad t f c x=>
  simp only[evOp]at h⊢;rw[ai (ho x (by simp[ag]))];cases hx:x.ev ρ with
  |ptr a q t'=>
   rw[hx]at h;simp only[Sft.v]at h⊢;split at h
   ·rename_i ht;rw[if_pos ht];exact fin h rfl
   ·cases h
  |_=>rw[hx]at h;cases h
 |iad t n e x i=>
  simp only[evOp]at h⊢;rw[ai (ho x (by simp[ag])),ai (ho i (by simp[ag]))];cases hx:x.ev ρ with
  |ptr a q t'=>
   cases hy:i.ev ρ with
   |int k j=>
    rw[hx,hy]at h;simp only[Sft.v]at h⊢;split at h
    ·rename_i ht;rw[if_pos ht];exact fin h rfl
    ·cases h
   |_=>rw[hx,hy]at h;cases h
  |_=>rw[hx]at h;cases h
 |sad e x i=>
  simp only[evOp]at h⊢;rw[ai (ho x (by simp[ag])),ai (ho i (by simp[ag]))];cases hx:x.ev ρ with
  |sl a q off len cap e'=>
   cases hy:i.ev ρ with
   |int k j=>
    rw[hx,hy]at h;simp only[Sft.v]at h⊢;split at h
    ·rename_i ht;rw[if_pos ht];exact fin h rfl
    ·cases h
   |_=>rw[hx,hy]at h;cases h
  |_=>rw[hx]at h;cases h
 |s2a n e x=>
  simp only[evOp]at h⊢;rw[ai (ho x (by simp[ag]))];cases hx:x.ev ρ with
  |sl a q off len cap e'=>
   rw[hx]at h;simp only[Sft.v]at h⊢;split at h
   ·rename_i ht;rw[if_pos ht];exact fin h rfl
   ·cases h
  |_=>rw[hx]at h;cases h
 |ldr t n e u p=>
  simp only[evOp]at h⊢;rw[ai (ho p (by simp[ag]))];cases hx:p.ev ρ with
  |ptr a q e'=>
   rw[hx]at h;simp only[Sft.v]at h⊢;split at h
   ·rename_i ht;rw[if_pos ht];cases hr:s.part n u a q with
    |none=>rw[hr]at h;cases h
    |some l=>rw[hr]at h;rw[FA hF hs hr];exact fin h (by simp only[Sft.v,aY])
   ·cases h
  |_=>rw[hx]at h;cases h
 |fld t f x=>
  simp only[evOp]at h⊢;rw[ai (ho x (by simp[ag]))];cases hx:x.ev ρ with
  |agg t' l=>
   rw[hx]at h;simp only[Sft.v]at h⊢;split at h
   ·rename_i ht;rw[if_pos ht,aY,List.getElem?_map];cases hl:l[f]? with
    |none=>rw[hl]at h;cases h
    |some u=>rw[hl]at h;exact fin h rfl
   ·cases h
  |_=>rw[hx]at h;cases h
 |idx t n x i=>
  simp only[evOp]at h⊢;rw[ai (ho x (by simp[ag])),ai (ho i (by simp[ag]))];cases hx:x.ev ρ with
  |agg t' l=>
   cases hy:i.ev ρ with
   |int k j=>
    rw[hx,hy]at h;simp only[Sft.v]at h⊢;split at h
    ·rename_i ht;rw[if_pos ht,aY,List.getElem?_map];cases hl:l[j.toNat]? with
     |none=>rw[hl]at h;cases h
     |some u=>rw[hl]at h;exact fin h rfl
    ·cases h
   |_=>rw[hx,hy]at h;cases h
  |_=>rw[hx]at h;cases h
 |sidx x i=>
  simp only[evOp]at h⊢;rw[ai (ho x (by simp[ag])),ai (ho i (by simp[ag]))];cases hx:x.ev ρ with
  |str b=>
   cases hy:i.ev ρ with
   |int k j=>
    rw[hx,hy]at h;simp only[Sft.v]at h⊢;split at h
    ·rename_i ht;rw[if_pos ht];cases hl:b[j.toNat]? with
     |none=>rw[hl]at h;cases h
     |some u=>rw[hl]at h;exact fin h rfl
    ·cases h
   |_=>rw[hx,hy]at h;cases h
  |_=>rw[hx]at h;cases h
 |ext x i=>
  simp only[evOp]at h⊢;rw[ai (ho x (by simp[ag]))];cases hx:x.ev ρ with
  |tup l=>
   rw[hx]at h;simp only[Sft.v]at h⊢;rw[aY,List.getElem?_map];cases hl:l[i]? with
   |none=>rw[hl]at h;cases h
   |some u=>rw[hl]at h;exact fin h rfl
  |_=>rw[hx]at h;cases h
 |lenk n=>simp only[evOp]at h⊢;exact fin h rfl
 |len q x=>
  simp only[evOp]at h⊢;rw[ai (ho x (by simp[ag]))];cases hx:V.slen q (x.ev ρ)with
  |none=>rw[hx]at h;cases h
  |some n=>rw[hx]at h;rw[F8 hx];exact fin h rfl
 |app hh r e x y=>
  simp only[evOp]at h⊢;rw[ai (ho x (by simp[ag])),ai (ho y (by simp[ag]))];exact sf hF hs h
 |bld z ps=>
  simp only[zOf]at hz;simp only[evOp]at h⊢;cases z with
  |agg t l=>
   simp only at h⊢;have e1:ps.map (fun p=>(p.1,p.2.ev (F.e ρ)))=(ps.map fun p=>(p.1,p.2.ev ρ)).map fun p=>(p.1,F.v p.2):=by rw[List.map_map];exact List.map_congr_left fun p hp=>by simp only[Function.comp];rw[ai (ho p.2 (by simp only[ag];exact List.mem_map.2 ⟨p,hp,rfl⟩))]
   rw[e1];cases hx:bf l (ps.map fun p=>(p.1,p.2.ev ρ))with
   |none=>rw[hx]at h;cases h
   |some l'=>
    rw[hx]at h;have:=jp (F:=F) hx;simp only[V.flat]at hz;rw[←aY l,kN hz]at this;rw[this];exact fin h (by simp only[Sft.v,aY])
  |_=>cases h
 |bsl hh r e z n ps=>
  simp only[zOf]at hz;simp only[evOp]at h⊢;have e1:ps.map (fun p=>(p.1,p.2.ev (F.e ρ)))=(ps.map fun p=>(p.1,p.2.ev ρ)).map fun p=>(p.1,F.v p.2):=by rw[List.map_map];exact List.map_congr_left fun p hp=>by simp only[Function.comp];rw[ai (ho p.2 (by simp only[ag];exact List.mem_map.2 ⟨p,hp,rfl⟩))]
  rw[e1];cases hx:bf (List.replicate n z) (ps.map fun p=>(p.1,p.2.ev ρ))with
  |none=>rw[hx]at h;cases h
  |some l'=>
   rw[hx]at h;have:=jp (F:=F) hx;rw[List.map_replicate,ib hz]at this;rw[this];simp only[qo]at h⊢;split at h
   ·rename_i hk;rw[if_pos hk];simp only[Zg,Zk]at h⊢;obtain⟨rfl,rfl⟩:=h;obtain⟨g1,g2,g3⟩:=pW hs hh (.agg r l');rw[g1,g2];refine⟨⟨rfl,?_⟩,g3⟩;simp only[Sft.v,aY]
   ·cases h
 |cpy e x y=>
  simp only[evOp]at h⊢;rw[ai (ho x (by simp[ag])),ai (ho y (by simp[ag]))];exact Dz hF hs h
 |mnx mx x y=>
  simp only[evOp]at h⊢;rw[ai (ho x (by simp[ag])),ai (ho y (by simp[ag]))];cases hx:nJ mx (x.ev ρ) (y.ev ρ)with
  |none=>rw[hx]at h;cases h
  |some u=>
   rw[hx]at h;obtain⟨g1,g2⟩:=Gp (F:=F) hx;rw[g1];exact fin h (by rw[g2])
 |lda t p r=>
  simp only[evOp]at h⊢;rw[ai (ho p (by simp[ag])),ai (ho r (by simp[ag]))];split at h
  ·rename_i hle;rw[if_pos (DX hle)];cases hx:p.ev ρ with
   |ptr a q t'=>
    rw[hx]at h;simp only[Sft.v]at h⊢;split at h
    ·rename_i ht;rw[if_pos ht];cases hr:s.read a q with
     |none=>rw[hr]at h;cases h
     |some u=>rw[hr]at h;rw[iM hF hs hr];exact fin h rfl
    ·cases h
   |_=>rw[hx]at h;cases h
  ·cases h
 |call f l=>cases h
 |pcall f l=>cases h
 |sta t p x l=>
  simp only[evOp]at h⊢;split at h
  ·rename_i hall;have hall':(l.all fun y=>ii (y.ev (F.e ρ)) (p.ev (F.e ρ)))=true:=by rw[List.all_eq_true]at hall⊢;intro y hy;rw[ai (ho p (by simp[ag])),ai (ho y (by simp[ag,hy]))];exact DW (hall y hy)
   rw[if_pos hall'];rw[ai (ho p (by simp[ag])),ai (ho x (by simp[ag])),iv];cases hx:p.ev ρ with
   |ptr a q t'=>
    rw[hx]at h;simp only[Sft.v]at h⊢;split at h
    ·rename_i ht;rw[if_pos ht];cases hr:s.write base a q (x.ev ρ)with
     |none=>rw[hr]at h;cases h
     |some s1=>
      rw[hr]at h;obtain⟨g1,g2⟩:=rm hF hs hr;rw[g1];simp only[Zg,Zk]at h⊢;obtain⟨rfl,rfl⟩:=h;exact⟨⟨rfl,rfl⟩,g2⟩
    ·cases h
   |_=>rw[hx]at h;cases h
  ·cases h
 |callw f l w=>cases h
 |callk b f l=>cases h
 |appa hh r e x y l=>
  simp only[evOp]at h⊢;split at h
  ·rename_i hall;have hall':(l.all fun z=>iW (z.ev (F.e ρ)) (x.ev (F.e ρ)))=true:=by rw[List.all_eq_true]at hall⊢;intro z hz;rw[ai (ho x (by simp[ag])),ai (ho z (by simp[ag,hz]))];exact DS (hall z hz)
   rw[if_pos hall',ai (ho x (by simp[ag])),ai (ho y (by simp[ag]))];exact sf hF hs h
  ·cases h
 |ldl t p=>
  simp only[evOp]at h⊢;rw[ai (ho p (by simp[ag]))];cases hx:p.ev ρ with
  |ptr a q t'=>
   cases a with
   |loc i=>
    rw[hx]at h;simp only at h;split at h
    ·rename_i ht;cases hr:s.read (.loc i) q with
     |none=>rw[hr]at h;cases h
     |some u=>
      rw[hr]at h;have g:=iM hF hs hr;obtain⟨j,hj⟩:∃j,F.a (.loc i)= .loc j:=⟨_,rfl⟩;rw[hj]at g;simp only[Sft.v,hj];rw[if_pos ht,g];exact fin h rfl
    ·cases h
   |hp i=>rw[hx]at h;cases h
  |_=>rw[hx]at h;cases h
 |mkm=>
  simp only[evOp,Zg,Zk]at h⊢;obtain⟨rfl,rfl⟩:=h;obtain⟨g1,g2,g3⟩:=LU hs;rw[g1,g2];exact⟨⟨by simp[Sft.v],rfl⟩,g3⟩
 |mlk x k=>
  simp only[evOp]at h⊢;rw[ai (ho x (by simp[ag])),ai (ho k (by simp[ag]))];cases hx:my (x.ev ρ) (k.ev ρ) s with
  |none=>rw[hx]at h;cases h
  |some u=>rw[hx]at h;rw[Iq hF hs hx];exact fin h rfl
 |mup x k y=>
  simp only[evOp]at h⊢;rw[ai (ho x (by simp[ag])),ai (ho k (by simp[ag])),ai (ho y (by simp[ag]))];cases hx:i7 (x.ev ρ) (k.ev ρ) (y.ev ρ) s with
  |none=>rw[hx]at h;cases h
  |some s1=>
   rw[hx]at h;obtain⟨g1,g2⟩:=GW hF hs hx;rw[g1];simp only[Zg,Zk]at h⊢;obtain⟨rfl,rfl⟩:=h;exact⟨⟨rfl,rfl⟩,g2⟩
end ops
def Op.closd (g:Nat) (o:Op):Bool:=o.op.clos g
def C.clos (g:Nat):C→Bool
 | .reg _ l=>l.all (Op.closd g)
 | .regd _ l=>l.all (Op.closd g)
 | .seq a b=>a.clos g&&b.clos g
 | .cond x a b=>x.clos g&&a.clos g&&b.clos g
 | .block _ b=>b.clos g
 | .loop _ b=>b.clos g
 | .scope b=>b.clos g
 |_=>true
def Sft.t (F:Sft):cL→cL
 | .c base c ρ=> .c (base+F.l.length) c (F.e ρ)
 | .o base l ρ=> .o (base+F.l.length) l (F.e ρ)
 | .f f args=> .f f (F.vs args)
def Sft.r (F:Sft):Res→Res
 | .c e ρ s=> .c e (F.e ρ) (F.s s)
 | .o ρ s=> .o (F.e ρ) (F.s s)
 | .v v s=> .v (F.v v) (F.s s)
def Res.st:Res→St
 | .c _ _ s=>s
 | .o _ s=>s
 | .v _ s=>s
def cL.clos (g:Nat):cL→Bool
 | .c _ cc _=>cc.clos g
 | .o _ l _=>l.all (Op.closd g)
 | .f _ _=>true
theorem EW {H:Type}{enc:TypeId×Value→H}{P:Program}{w:World}{base:Nat}{spare:Nat→Bool}{held:Bool}{fuel t e:Nat}{n:Nat}{k:IntKind}{cs:List Value}{ls:List Int}{ps:List MemPlace}
 (ht:P.underlying t=some (.array n e)) (he:P.underlying e=some (.int k)) (h1:P.cellsOf e=1) (h2:P.cellsOf t=n)
 (h:DataW.trod enc P w base spare held fuel t cs=some (.agg (ls.map fun x=> .lit (.int k x)),ps)):cs=ls.map (Value.int k):=by
 obtain⟨xs,m,rfl,hx,hlen,hn,hel⟩:=DataW.trod_array ht h;simp only[Zk,DataW.agg.injEq]at hx;have hl:ls.length=n:=by have:=congrArg List.length hx.1;simp only[List.length_map]at this;omega
 apply List.ext_getElem?;intro i;by_cases hi:i<n
 ·have hxi:i<xs.length:=by omega
  have hci:i<cs.length:=by omega
  have hli:i<ls.length:=by omega
  have g:=hel i hi;rw[h1,Nat.mul_one,List.getElem?_eq_getElem hxi]at g;obtain⟨v,g1,g2,_⟩:=DataW.trod_int he g;have g3:xs[i].1= .lit (.int k ls[i]):=by have:=congrArg (fun l=>l[i]?) hx.1;simp only[List.getElem?_map,List.getElem?_eq_getElem hxi,List.getElem?_eq_getElem hli,Option.map_some,Zg]at this;exact this.symm
  rw[g2]at g3;simp only[DataW.lit.injEq,Lit.int.injEq,true_and]at g3;have g4:cs[i]= .int k v:=by have:=congrArg (fun l=>l[0]?) g1;simp only[List.getElem?_take,List.getElem?_drop,Nat.add_zero,Nat.zero_lt_one,if_true,List.getElem?_eq_getElem hci,List.getElem?_cons_zero,Zg]at this;exact this
  rw[List.getElem?_eq_getElem hci,List.getElem?_map,List.getElem?_eq_getElem hli,g4,g3];rfl
 ·rw[List.getElem?_eq_none (by omega),List.getElem?_eq_none (by simp;omega)]
end Go.Ab
