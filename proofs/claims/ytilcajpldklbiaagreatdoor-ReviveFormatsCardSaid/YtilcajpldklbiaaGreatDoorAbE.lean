/-
  YtilcajpldklbiaaGreatDoorAbE: an abstract semantics of the program's code, and that what it tells holds of the program (part E).
-/
import Derived.Test.YtilcajpldklbiaaGreatDoorAbA
import Derived.IntWalk
import Derived.Test.YtilcajpldklbiaaGreatDoorAbD
set_option maxRecDepth 100000
namespace Go.Ab
theorem l9 {n:Nat}(h:n<18446744073709551616):(BitVec.ofInt IntKind.u64.bits (n:Int)).toNat=n:=by rw[BitVec.ofInt_natCast,BitVec.toNat_ofNat];exact Nat.mod_eq_of_lt (by simp only[IntKind.bits];omega)
theorem tK {n m:Nat}(hn:n<18446744073709551616) (hm:m<18446744073709551616):iZ .u64 n m=((n&&&m:Nat):Int):=by unfold iZ bits;show IntKind.u64.wrap (((BitVec.ofInt IntKind.u64.bits (n:Int))&&&(BitVec.ofInt IntKind.u64.bits (m:Int))).toNat:Int)=_;rw[BitVec.toNat_and,l9 hn,l9 hm];have:n&&&m≤n:=Nat.and_le_left;exact IntWalk.u64_in _ (by omega)
theorem tq {n m:Nat}(hn:n<18446744073709551616) (hm:m<18446744073709551616):ior .u64 n m=((n|||m:Nat):Int):=by unfold ior bits;show IntKind.u64.wrap (((BitVec.ofInt IntKind.u64.bits (n:Int))|||(BitVec.ofInt IntKind.u64.bits (m:Int))).toNat:Int)=_;rw[BitVec.toNat_or,l9 hn,l9 hm];have:n|||m<2^64:=Nat.or_lt_two_pow hn hm;exact IntWalk.u64_in _ (by omega)
theorem wE {n m:Nat}(hn:n<18446744073709551616) (hm:m<18446744073709551616):gA .u64 n m=((n^^^m:Nat):Int):=by unfold gA bits;show IntKind.u64.wrap (((BitVec.ofInt IntKind.u64.bits (n:Int))^^^(BitVec.ofInt IntKind.u64.bits (m:Int))).toNat:Int)=_;rw[BitVec.toNat_xor,l9 hn,l9 hm];have:n^^^m<2^64:=Nat.xor_lt_two_pow hn hm;exact IntWalk.u64_in _ (by omega)
theorem yL (w:Int) (k:Nat) (h0:0≤w) (h1:w≤18446744073709551615) (hk:k≤64):iZ .u64 w (2^k-1:Int)=w%2^k:=by
 obtain⟨n,rfl⟩:∃n:Nat,w=n:=⟨w.toNat,by omega⟩;have hp:0<2^k:=Nat.pow_pos (by decide);have hle:2^k≤2^64:=Nat.pow_le_pow_right (by decide) hk;have e1:((2:Int)^k-1)=((2^k-1:Nat):Int):=by rw[Int.natCast_sub hp];simp
 rw[e1,tK (by omega) (by omega),Nat.and_two_pow_sub_one_eq_mod];simp
theorem uo (w:Int) (k:Nat) (hk:k≤64):gW .u64 w k=w/2^k:=by unfold gW;rw[Zh];show w.fdiv (2^min k 64)=_;rw[Nat.min_eq_left hk,Int.fdiv_eq_ediv_of_nonneg];exact Int.le_of_lt (Int.pow_pos (by decide))
theorem tO (w:Int) (k:Nat) (hk:k≤64):pZ .u64 w k=w*2^k%18446744073709551616:=by unfold pZ;rw[Zh];show IntKind.u64.wrap (w*2^min k 64)=_;rw[Nat.min_eq_left hk];simp[IntKind.wrap,IntKind.bits,IntKind.signed]
theorem ae {n:Int}(h0:-9223372036854775808≤n) (h1:n≤9223372036854775807):IntKind.i64.wrap n=n:=IntWalk.i64_in _ ⟨h0,h1⟩
theorem fL {n:Int}(h0:0≤n) (h1:n≤18446744073709551615):IntKind.u64.wrap n=n:=IntWalk.u64_in _ ⟨h0,h1⟩
def elq (v:V) (j:Nat) (q:List Nat) (t:Nat):V:=match v with
 | .sl a p off _ _ _=> .ptr a (p++(off+j)::q) t
 |_=> .dead
section
variable {s : St} {e : Nat} {v : V} {l : List V} {j : Nat} {x : V}
theorem RS.sadq (h:RS s e v l) (hg:l[j]?=some x) {k:IntKind}:eD e v (.int k (j:Int))=some (elq v j [] e):=by
 have hj:=(List.getElem?_eq_some_iff.1 hg).1;rw[h.sad hj];rcases h with⟨rfl,rfl⟩|⟨a,p,off,c,rfl,_⟩
 ·cases hg
 ·rfl
theorem RS.fadq (h:RS s e v l) (hg:l[j]?=some x) {t f u:Nat}{q:List Nat}:mi t f u (elq v j q t)=some (elq v j (q++[f]) u):=by
 rcases h with⟨rfl,rfl⟩|⟨a,p,off,c,rfl,_⟩
 ·cases hg
 ·simp[mi,elq,List.append_assoc]
theorem RS.iadq (h:RS s e v l) (hg:l[j]?=some x) {t n u:Nat}{q:List Nat}{k:IntKind}{i:Int}(h0:0≤i) (h1:i<n):AJ t n u (elq v j q t) (.int k i)=some (elq v j (q++[i.toNat]) u):=by
 rcases h with⟨rfl,rfl⟩|⟨a,p,off,c,rfl,_⟩
 ·cases hg
 ·simp[AJ,elq,List.append_assoc,h0,h1]
theorem RS.ldq (h:RS s e v l) (hg:l[j]?=some x) {t:Nat}{q:List Nat}:ldv s t (elq v j q t)=V.at q x:=by
 obtain⟨hj,hx⟩:=List.getElem?_eq_some_iff.1 hg;subst hx;rcases h with⟨rfl,rfl⟩|⟨a,p,off,c,rfl,_,_,h⟩
 ·cases hg
 ·rcases h with h|⟨r,L,h1,h2⟩
  ·subst h;cases hg
  ·simp only[ldv,elq,if_true];rw[Ax h1];simp only[DC,h2 j l[j] (by simp[hj]),aP]
end
theorem am {α:Type}{f:α→V}{l:List α}{i:Nat}(h:i<l.length) (d:α):(l.map f)[i]?=some (f (l.getD i d)):=by simp[List.getD_eq_getElem?_getD,h]
theorem wO {α:Type}{l:List α}{i:Nat}(h:i<l.length) (d:α):l.getD i d∈l:=by rw[List.getD_eq_getElem?_getD,List.getElem?_eq_getElem h,Option.getD_some];exact List.getElem_mem _
theorem Vj {n m k:Nat}(h:n<2^k):n|||m*2^k=n+m*2^k:=by rw[Nat.or_comm,Nat.mul_comm,Nat.add_comm];exact(Nat.two_pow_add_eq_or_of_lt h m).symm
theorem DE {n m:Nat}(k:Nat) (h:n<2^k) (hn:n<18446744073709551616) (hm:m*2^k<18446744073709551616):ior .u64 (n:Int) ((m*2^k:Nat):Int)=((n+m*2^k:Nat):Int):=by rw[tq hn hm,Vj h]
theorem SS {n k:Nat}(h:n<2^k):n^^^2^k=n+2^k:=by
 have e:=Nat.two_pow_add_eq_or_of_lt h 1;rw[Nat.mul_one]at e;rw[Nat.add_comm,e];apply Nat.eq_of_testBit_eq;intro j;rw[Nat.testBit_xor,Nat.testBit_or,Nat.testBit_two_pow];by_cases hj:k=j
 ·subst hj;rw[Nat.testBit_lt_two_pow h];simp
 ·simp[hj]
def tab (n:Nat) (f:Nat→V):List V:=(List.range n).map f
def upd {α:Type}(f:Nat→α) (i:Nat) (x:α):Nat→α:=fun j=>if j=i then x else f j
theorem al {α:Type}{f:Nat→α}{i:Nat}{x:α}:upd f i x i=x:=by simp[upd]
theorem aw {α:Type}{f:Nat→α}{i j:Nat}{x:α}(h:j≠i):upd f i x j=f j:=by simp[upd,h]
theorem iI (n:Nat) (f:Nat→V):(tab n f).length=n:=by simp[tab]
theorem av {n:Nat}{f:Nat→V}{i:Nat}(h:i<n):(tab n f)[i]?=some (f i):=by simp[tab,h]
theorem dg (n:Nat) (f:Nat→V) (i:Nat) (v:V):(tab n f).set i v=tab n (upd f i v):=by
 apply List.ext_getElem?;intro j;by_cases hj:j<n
 ·rw[av hj];by_cases e:i=j
  ·subst e;rw[List.getElem?_set_self (by rw[iI];exact hj),al]
  ·rw[List.getElem?_set_ne e,av hj,aw (Ne.symm e)]
 ·rw[List.getElem?_eq_none (by simp[iI];omega),List.getElem?_eq_none (by rw[iI];omega)]
theorem bp {n:Nat}{f g:Nat→V}(h:∀j,j<n→f j=g j):tab n f=tab n g:=by
 apply List.ext_getElem?;intro j;by_cases hj:j<n
 ·rw[av hj,av hj,h j hj]
 ·rw[List.getElem?_eq_none (by rw[iI];omega),List.getElem?_eq_none (by rw[iI];omega)]
theorem co (n:Nat) (v:V):List.replicate n v=tab n fun _=>v:=by
 apply List.ext_getElem?;intro j;by_cases hj:j<n
 ·rw[av hj];simp[hj]
 ·rw[List.getElem?_eq_none (by simp;omega),List.getElem?_eq_none (by rw[iI];omega)]
theorem md {a:Loc}{n e k:Nat}(h:k<n):eD e (.sl a [] 0 n (some n) e) (.int .i64 (k:Int))=some (.ptr a [k] e):=by simp[eD,h]
section
variable {base r e : Nat} {h : Bool} {x y : V} {old new : List V} {s : St}
theorem we (hx:x= .nils∨∃a p o n c,x= .sl a p o n c e):x.slIs e=true:=by
 rcases hx with rfl|⟨a,p,o,n,c,rfl⟩
 ·rfl
 ·simp[V.slIs]
theorem vL (hx:x= .nils∨∃a p o n c,x= .sl a p o n c e):x.elIs e=true:=by
 rcases hx with rfl|⟨a,p,o,n,c,rfl⟩
 ·rfl
 ·simp[V.elIs]
theorem Hg (hy:y= .nils∨∃a p o n c,y= .sl a p o n c e) (h2:s.elems y=some new) (hn:new≠[]) (hm:new.length≤cg) (he:e%2=0):
 aD base h r e .nils y s=some (.sl (s.fresh h) [] 0 new.length none e,s.new h (.agg r new)):=by
 have h0:¬new.length=0:=by rw[List.length_eq_zero_iff];exact hn
 unfold aD;rw[we (.inl rfl),vL hy,h2];simp[St.elems,h0,hm,he]
theorem Pk {a:Loc}{p:List Nat}{o n c:Nat}(hy:y= .nils∨∃a p o n c,y= .sl a p o n c e) (h1:s.elems (.sl a p o n (some c) e)=some old) (h2:s.elems y=some new) (hn:new≠[]) (hc:c<old.length+new.length) (hm:old.length+new.length≤cg) (he:e%2=0):
 aD base h r e (.sl a p o n (some c) e) y s=some (.sl (s.fresh h) [] 0 (old.length+new.length) none e,s.new h (.agg r (old++new))):=by
 have h0:¬new.length=0:=by rw[List.length_eq_zero_iff];exact hn
 unfold aD;rw[we (.inr ⟨_,_,_,_,_,rfl⟩),vL hy,h1,h2];simp[h0,hm,he,hc]
theorem J4 {a:Loc}{o n:Nat}{v:V}(hy:y= .nils∨∃a p o n c,y= .sl a p o n c e) (h1:s.elems (.sl a [] o n none e)=some old) (h2:s.elems y=some new) (hn:new≠[]) (hm:old.length+new.length≤cg) (he:e%2=0) (ha:s.at a=some (.rw v)):
 aD base h r e (.sl a [] o n none e) y s=some (.sl ((s.set a .dead).fresh h) [] 0 (old.length+new.length) none e,(s.set a .dead).new h (.agg r (old++new))):=by
 have h0:¬new.length=0:=by rw[List.length_eq_zero_iff];exact hn
 unfold aD;rw[we (.inr ⟨_,_,_,_,_,rfl⟩),vL hy,h1,h2];simp[h0,hm,he,ha]
theorem cR {a:Loc}{n t:Nat}{c:Option Nat}{l:List V}(ha:s.read a []=some (.agg t l)) (hn:n=l.length):s.elems (.sl a [] 0 n c e)=some l:=by
 subst hn;by_cases h0:l.length=0
 ·rw[List.length_eq_zero_iff.1 h0];simp[St.elems]
 ·simp[St.elems,h0,ha]
end
end Go.Ab
