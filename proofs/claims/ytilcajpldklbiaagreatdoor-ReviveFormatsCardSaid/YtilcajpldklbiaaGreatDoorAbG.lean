/-
  YtilcajpldklbiaaGreatDoorAbG: an abstract semantics of the program's code, and that what it tells holds of the program (part G).
-/
import Derived.Test.YtilcajpldklbiaaGreatDoorAbA
import Derived.Attr
import Derived.KernelRfl
set_option maxRecDepth 100000
namespace Go.Ab
variable {D : Nat → Option Fc}
theorem uS {f g:cL→St→Option Res}(h:∀t s r,f t s=some r→g t s=some r) {base:Nat}{ρ:Env}{s:St}{o:Op'}{q:V×St}(hq:ax f base ρ s o=some q):ax g base ρ s o=some q:=by
 cases o with
 |call fo args=>
  simp only[ax]at hq⊢;cases hx:fo.ev ρ with
  |fn k caps=>
   simp only[hx]at hq;cases hf:f (.f k (args.map (Opd.ev ρ)++caps)) s with
   |none=>rw[hf]at hq;cases hq
   |some x=>rw[hf]at hq;simp only[h _ _ _ hf];exact hq
  |_=>rw[hx]at hq;cases hq
 |pcall fo args=>
  simp only[ax]at hq⊢;cases hx:fo.ev ρ with
  |fn k caps=>
   simp only[hx]at hq;by_cases hp:pOk base (cP base (args.map (Opd.ev ρ)++caps)) (args.map (Opd.ev ρ)++caps) s=true
   ·rw[if_pos hp]at hq;simp only[if_pos hp];cases hf:f (.f k (args.map (Opd.ev ρ)++caps)) (s.cut (cP base (args.map (Opd.ev ρ)++caps)))with
    |none=>rw[hf]at hq;cases hq
    |some x=>rw[hf]at hq;simp only[h _ _ _ hf];exact hq
   ·rw[if_neg hp]at hq;cases hq
  |_=>rw[hx]at hq;cases hq
 |callw fo args w=>
  simp only[ax]at hq⊢;split at hq
  ·rename_i hw;rw[if_pos hw];cases hx:fo.ev ρ with
   |fn k caps=>
    simp only[hx]at hq;cases hf:f (.f k (args.map (Opd.ev ρ)++caps)) s with
    |none=>rw[hf]at hq;cases hq
    |some x=>rw[hf]at hq;simp only[h _ _ _ hf];exact hq
   |_=>rw[hx]at hq;cases hq
  ·cases hq
 |callk p fo args=>
  simp only[ax]at hq⊢;cases hx:fo.ev ρ with
  |fn k caps=>
   simp only[hx]at hq;by_cases hp:pOk base (cP base (args.map (Opd.ev ρ)++caps)) (args.map (Opd.ev ρ)++caps) s=true
   ·rw[if_pos hp]at hq;simp only[if_pos hp];cases hf:f (.f k (args.map (Opd.ev ρ)++caps)) (s.cut (cP base (args.map (Opd.ev ρ)++caps)))with
    |none=>rw[hf]at hq;cases hq
    |some x=>rw[hf]at hq;simp only[h _ _ _ hf];exact hq
   ·rw[if_neg hp]at hq;cases hq
  |_=>rw[hx]at hq;cases hq
 |_=>exact hq
theorem Ea {f g:cL→St→Option Res}(h:∀t s r,f t s=some r→g t s=some r) {t:cL}{s:St}{r:Res}(hr:step D f t s=some r):step D g t s=some r:=by
 cases t with
 |c base c ρ=>
  cases c with
  |skip=>exact hr
  |label _=>exact hr
  |ret=>exact hr
  |exit _=>exact hr
  |reg keep ops=>
   simp only[step]at hr⊢;cases hf:f (.o base ops ρ) s with
   |none=>rw[hf]at hr;cases hr
   |some x=>rw[hf]at hr;rw[h _ _ _ hf];exact hr
  |regd keep ops=>
   simp only[step]at hr⊢;cases hf:f (.o base ops ρ) s with
   |none=>rw[hf]at hr;cases hr
   |some x=>rw[hf]at hr;rw[h _ _ _ hf];exact hr
  |seq a b=>
   simp only[step]at hr⊢;cases hf:f (.c base a ρ) s with
   |none=>rw[hf]at hr;cases hr
   |some x=>
    rw[hf]at hr;rw[h _ _ _ hf];cases x with
    |c e ρ' s'=>cases e<;>first|exact h _ _ _ hr|exact hr
    |o _ _=>cases hr
    |v _ _=>cases hr
  |cond x a b=>
   simp only[step]at hr⊢;cases hx:x.ev ρ with
   |bool t=>
    rw[hx]at hr;cases t
    ·exact h _ _ _ hr
    ·exact h _ _ _ hr
   |_=>rw[hx]at hr;cases hr
  |block id b=>
   simp only[step]at hr⊢;cases hf:f (.c base b ρ) s with
   |none=>rw[hf]at hr;cases hr
   |some x=>rw[hf]at hr;rw[h _ _ _ hf];exact hr
  |scope b=>
   simp only[step]at hr⊢;cases hf:f (.c base b ρ) s with
   |none=>rw[hf]at hr;cases hr
   |some x=>rw[hf]at hr;rw[h _ _ _ hf];exact hr
  |loop keep b=>
   simp only[step]at hr⊢;cases hf:f (.c base b (restrict keep ρ)) s with
   |none=>rw[hf]at hr;cases hr
   |some x=>
    rw[hf]at hr;rw[h _ _ _ hf];cases x with
    |c e ρ' s'=>
     cases e with
     |normal=>
      simp only at hr⊢;split at hr
      ·rename_i hc;rw[if_pos hc];exact h _ _ _ hr
      ·cases hr
     |exit _=>exact hr
     |ret=>exact hr
    |o _ _=>cases hr
    |v _ _=>cases hr
 |o base l ρ=>
  cases l with
  |nil=>exact hr
  |cons op rest=>
   simp only[step]at hr⊢;cases hg:aZ op.guard ρ with
   |none=>rw[hg]at hr;cases hr
   |some gb=>
    rw[hg]at hr;cases gb with
    |false=>exact h _ _ _ hr
    |true=>
     cases hq:ax f base ρ s op.op with
     |none=>simp only[hq]at hr;cases hr
     |some q=>
      simp only[hq]at hr;simp only[uS h hq];exact h _ _ _ hr
 |f fn args=>
  simp only[step]at hr⊢;cases hfc:D fn with
  |none=>rw[hfc]at hr;cases hr
  |some fc=>
   rw[hfc]at hr;simp only at hr⊢;by_cases hlen:args.length=fc.n
   ·rw[if_pos hlen]at hr⊢;cases hf:f (.c s.loc.length fc.body (nG 0 args)) s with
    |none=>rw[hf]at hr;cases hr
    |some x=>rw[hf]at hr;rw[h _ _ _ hf];exact hr
   ·rw[if_neg hlen]at hr;cases hr
theorem nq:∀(n:Nat) {t:cL}{s:St}{r:Res},ev D n t s=some r→ev D (n+1) t s=some r
 |0,_,_,_,h=>by cases h
 |n+1,_,_,_,h=>Ea (fun _ _ _ h=>nq n h) h
theorem uQ {n m:Nat}(hnm:n≤m) {t:cL}{s:St}{r:Res}(h:ev D n t s=some r):ev D m t s=some r:=by
 induction hnm with
 |refl=>exact h
 |step _ ih=>exact nq _ ih
open Classical in
noncomputable def run (D:Nat→Option Fc) (t:cL) (s:St):Option Res:=
 if h:∃n r,ev D n t s=some r then some h.choose_spec.choose else none
theorem db {t:cL}{s:St}{r:Res}:run D t s=some r↔∃n,ev D n t s=some r:=by
 unfold run;constructor
 ·intro h;split at h
  ·rename_i hx;cases h;exact⟨_,hx.choose_spec.choose_spec⟩
  ·cases h
 ·rintro⟨n,hn⟩;have hx:∃n r,ev D n t s=some r:=⟨n,r,hn⟩;rw[dif_pos hx];have h1:=hx.choose_spec.choose_spec;have h2:=uQ (Nat.le_max_left hx.choose n) h1;have h3:=uQ (Nat.le_max_right hx.choose n) hn;rw[h2]at h3;exact h3
theorem Ee {n:Nat}{t:cL}{s:St}{r:Res}(h:ev D n t s=some r):run D t s=some r:=db.2 ⟨n,h⟩
theorem QE {base:Nat}{ρ:Env}{s:St}{o:Op'}{q:V×St}(hq:ax (run D) base ρ s o=some q):∃n,ax (ev D n) base ρ s o=some q:=by
 cases o with
 |call fo args=>
  simp only[ax]at hq⊢;cases hx:fo.ev ρ with
  |fn k caps=>
   simp only[hx]at hq;cases hf:run D (.f k (args.map (Opd.ev ρ)++caps)) s with
   |none=>rw[hf]at hq;cases hq
   |some x=>rw[hf]at hq;obtain⟨n,hn⟩:=db.1 hf;exact⟨n,by simp only[hn];exact hq⟩
  |_=>rw[hx]at hq;cases hq
 |pcall fo args=>
  simp only[ax]at hq⊢;cases hx:fo.ev ρ with
  |fn k caps=>
   simp only[hx]at hq;by_cases hp:pOk base (cP base (args.map (Opd.ev ρ)++caps)) (args.map (Opd.ev ρ)++caps) s=true
   ·rw[if_pos hp]at hq;simp only[if_pos hp];cases hf:run D (.f k (args.map (Opd.ev ρ)++caps)) (s.cut (cP base (args.map (Opd.ev ρ)++caps)))with
    |none=>rw[hf]at hq;cases hq
    |some x=>rw[hf]at hq;obtain⟨n,hn⟩:=db.1 hf;exact⟨n,by simp only[hn];exact hq⟩
   ·rw[if_neg hp]at hq;cases hq
  |_=>rw[hx]at hq;cases hq
 |callw fo args w=>
  simp only[ax]at hq⊢;split at hq
  ·rename_i hw;simp only[if_pos hw];cases hx:fo.ev ρ with
   |fn k caps=>
    simp only[hx]at hq;cases hf:run D (.f k (args.map (Opd.ev ρ)++caps)) s with
    |none=>rw[hf]at hq;cases hq
    |some x=>rw[hf]at hq;obtain⟨n,hn⟩:=db.1 hf;exact⟨n,by simp only[hn];exact hq⟩
   |_=>rw[hx]at hq;cases hq
  ·cases hq
 |callk p fo args=>
  simp only[ax]at hq⊢;cases hx:fo.ev ρ with
  |fn k caps=>
   simp only[hx]at hq;by_cases hp:pOk base (cP base (args.map (Opd.ev ρ)++caps)) (args.map (Opd.ev ρ)++caps) s=true
   ·rw[if_pos hp]at hq;simp only[if_pos hp];cases hf:run D (.f k (args.map (Opd.ev ρ)++caps)) (s.cut (cP base (args.map (Opd.ev ρ)++caps)))with
    |none=>rw[hf]at hq;cases hq
    |some x=>rw[hf]at hq;obtain⟨n,hn⟩:=db.1 hf;exact⟨n,by simp only[hn];exact hq⟩
   ·rw[if_neg hp]at hq;cases hq
  |_=>rw[hx]at hq;cases hq
 |_=>exact⟨0,hq⟩
theorem Qd {t:cL}{s:St}{r:Res}(hr:step D (run D) t s=some r):∃n,step D (ev D n) t s=some r:=by
 cases t with
 |c base c ρ=>
  cases c with
  |skip=>exact⟨0,hr⟩
  |label _=>exact⟨0,hr⟩
  |ret=>exact⟨0,hr⟩
  |exit _=>exact⟨0,hr⟩
  |reg keep ops=>
   simp only[step]at hr⊢;cases hf:run D (.o base ops ρ) s with
   |none=>rw[hf]at hr;cases hr
   |some x=>rw[hf]at hr;obtain⟨n,hn⟩:=db.1 hf;exact⟨n,by rw[hn];exact hr⟩
  |regd keep ops=>
   simp only[step]at hr⊢;cases hf:run D (.o base ops ρ) s with
   |none=>rw[hf]at hr;cases hr
   |some x=>rw[hf]at hr;obtain⟨n,hn⟩:=db.1 hf;exact⟨n,by rw[hn];exact hr⟩
  |seq a b=>
   simp only[step]at hr⊢;cases hf:run D (.c base a ρ) s with
   |none=>rw[hf]at hr;cases hr
   |some x=>
    rw[hf]at hr;obtain⟨n,hn⟩:=db.1 hf;cases x with
    |c e ρ' s'=>
     cases e with
     |normal=>
      obtain⟨m,hm⟩:=db.1 hr;exact⟨max n m,by rw[uQ (Nat.le_max_left n m) hn];exact uQ (Nat.le_max_right n m) hm⟩
     |exit _=>exact⟨n,by rw[hn];exact hr⟩
     |ret=>exact⟨n,by rw[hn];exact hr⟩
    |o _ _=>cases hr
    |v _ _=>cases hr
  |cond x a b=>
   simp only[step]at hr⊢;cases hx:x.ev ρ with
   |bool t=>
    rw[hx]at hr;cases t
    ·obtain⟨n,hn⟩:=db.1 hr;exact⟨n,hn⟩
    ·obtain⟨n,hn⟩:=db.1 hr;exact⟨n,hn⟩
   |_=>rw[hx]at hr;cases hr
  |block id b=>
   simp only[step]at hr⊢;cases hf:run D (.c base b ρ) s with
   |none=>rw[hf]at hr;cases hr
   |some x=>rw[hf]at hr;obtain⟨n,hn⟩:=db.1 hf;exact⟨n,by rw[hn];exact hr⟩
  |scope b=>
   simp only[step]at hr⊢;cases hf:run D (.c base b ρ) s with
   |none=>rw[hf]at hr;cases hr
   |some x=>rw[hf]at hr;obtain⟨n,hn⟩:=db.1 hf;exact⟨n,by rw[hn];exact hr⟩
  |loop keep b=>
   simp only[step]at hr⊢;cases hf:run D (.c base b (restrict keep ρ)) s with
   |none=>rw[hf]at hr;cases hr
   |some x=>
    rw[hf]at hr;obtain⟨n,hn⟩:=db.1 hf;cases x with
    |c e ρ' s'=>
     cases e with
     |normal=>
      simp only at hr;split at hr
      ·rename_i hc;obtain⟨m,hm⟩:=db.1 hr;exact⟨max n m,by rw[uQ (Nat.le_max_left n m) hn];simp only;rw[if_pos hc];exact uQ (Nat.le_max_right n m) hm⟩
      ·cases hr
     |exit _=>exact⟨n,by rw[hn];exact hr⟩
     |ret=>exact⟨n,by rw[hn];exact hr⟩
    |o _ _=>cases hr
    |v _ _=>cases hr
 |o base l ρ=>
  cases l with
  |nil=>exact⟨0,hr⟩
  |cons op rest=>
   simp only[step]at hr⊢;cases hg:aZ op.guard ρ with
   |none=>rw[hg]at hr;cases hr
   |some gb=>
    rw[hg]at hr;cases gb with
    |false=>exact db.1 hr
    |true=>
     cases hq:ax (run D) base ρ s op.op with
     |none=>simp only[hq]at hr;cases hr
     |some q=>
      simp only[hq]at hr;obtain⟨n,hn⟩:=QE hq;obtain⟨m,hm⟩:=db.1 hr;exact⟨max n m,by simp only[uS (fun _ _ _ h=>uQ (Nat.le_max_left n m) h) hn];exact uQ (Nat.le_max_right n m) hm⟩
 |f fn args=>
  simp only[step]at hr⊢;cases hfc:D fn with
  |none=>rw[hfc]at hr;cases hr
  |some fc=>
   rw[hfc]at hr;simp only at hr⊢;by_cases hlen:args.length=fc.n
   ·simp only[if_pos hlen]at hr⊢;cases hf:run D (.c s.loc.length fc.body (nG 0 args)) s with
    |none=>rw[hf]at hr;cases hr
    |some x=>rw[hf]at hr;obtain⟨n,hn⟩:=db.1 hf;exact⟨n,by rw[hn];exact hr⟩
   ·rw[if_neg hlen]at hr;cases hr
theorem fa (t:cL) (s:St):run D t s=step D (run D) t s:=by
 apply Option.ext;intro r;constructor
 ·intro h;obtain⟨n,hn⟩:=db.1 h;cases n with
  |zero=>cases hn
  |succ n=>exact Ea (fun _ _ _ h=>Ee h) hn
 ·intro h;obtain⟨n,hn⟩:=Qd h;exact Ee (n:=n+1) hn
noncomputable def rc (D:Nat→Option Fc) (base:Nat) (c:C) (ρ:Env) (s:St):Option (Ex×Env×St):=
 match run D (.c base c ρ) s with
 |some (.c e ρ' s')=>some (e,ρ',s')
 |_=>none
noncomputable def ro (D:Nat→Option Fc) (base:Nat) (l:List Op) (ρ:Env) (s:St):Option (Env×St):=
 match run D (.o base l ρ) s with
 |some (.o ρ' s')=>some (ρ',s')
 |_=>none
noncomputable def rf (D:Nat→Option Fc) (f:Nat) (args:List V) (s:St):Option (V×St):=
 match run D (.f f args) s with
 |some (.v v s')=>some (v,s')
 |_=>none
theorem U0 {f:Nat}{args:List V}{s:St}{v:V}{s':St}:rf D f args s=some (v,s')↔run D (.f f args) s=some (.v v s'):=by
 unfold rf;constructor
 ·intro h;split at h
  ·rename_i hh;cases h;exact hh
  ·cases h
 ·intro h;rw[h]
section
variable {base : Nat} {ρ : Env} {s : St}
theorem SX:rc D base .skip ρ s=some (.normal,ρ,s):=by simp only[rc,fa,step]
theorem QN {l:Nat}:rc D base (.label l) ρ s=some (.normal,ρ,s):=by simp only[rc,fa,step]
theorem UU:rc D base .ret ρ s=some (.ret,ρ,s):=by simp only[rc,fa,step]
theorem R8 {id:Nat}:rc D base (.exit id) ρ s=some (.exit id,ρ,s):=by simp only[rc,fa,step]
theorem WI {keep:Option (List Nat)}{ops:List Op}:rc D base (.reg keep ops) ρ s=(ro D base ops ρ s).bind fun x=>some (.normal,tN keep x.1,x.2):=by
 simp only[rc,ro];rw[fa];simp only[step];cases run D (.o base ops ρ) s with
 |none=>rfl
 |some x=>cases x<;>rfl
theorem Ti {keep:Option (List Nat)}{ops:List Op}:rc D base (.regd keep ops) ρ s=(ro D base ops ρ s).bind fun x=>some (.normal,tN keep x.1,x.2):=by
 simp only[rc,ro];rw[fa];simp only[step];cases run D (.o base ops ρ) s with
 |none=>rfl
 |some x=>cases x<;>rfl
noncomputable def andThen (D:Nat→Option Fc) (base:Nat) (b:C) (x:Ex×Env×St):Option (Ex×Env×St):=
 match x with
 |(.normal,ρ,s)=>rc D base b ρ s
 |x=>some x
theorem DA {b:C}:andThen D base b (.normal,ρ,s)=rc D base b ρ s:=rfl
theorem I3 {b:C}:andThen D base b (.ret,ρ,s)=some (.ret,ρ,s):=rfl
theorem Ig {b:C}{id:Nat}:andThen D base b (.exit id,ρ,s)=some (.exit id,ρ,s):=rfl
theorem V6 {a b:C}:rc D base (.seq a b) ρ s=(rc D base a ρ s).bind (andThen D base b):=by
 simp only[rc];rw[fa];simp only[step];cases run D (.c base a ρ) s with
 |none=>rfl
 |some x=>
  cases x with
  |c e ρ' s'=>cases e<;>rfl
  |_=>rfl
theorem UI {x:Opd}{a b:C}:rc D base (.cond x a b) ρ s=match x.ev ρ with
 | .bool t=>if t then rc D base a ρ s else rc D base b ρ s
 |_=>none:=by
 simp only[rc];rw[fa];simp only[step];cases x.ev ρ with
 |bool t=>cases t<;>rfl
 |_=>rfl
def RI (id:Nat) (x:Ex×Env×St):Ex×Env×St:=
 match x with
 |(.exit id',ρ,s)=>(if id'=id then .normal else .exit id',ρ,s)
 |x=>x
theorem OZ {id:Nat}{b:C}:rc D base (.block id b) ρ s=(rc D base b ρ s).bind fun x=>some (RI id x):=by
 simp only[rc];rw[fa];simp only[step];cases run D (.c base b ρ) s with
 |none=>rfl
 |some x=>
  cases x with
  |c e ρ' s'=>cases e<;>rfl
  |_=>rfl
theorem O2 {b:C}:rc D base (.scope b) ρ s=rc D base b ρ s:=by
 simp only[rc];rw[fa];simp only[step];cases run D (.c base b ρ) s with
 |none=>rfl
 |some x=>
  cases x with
  |c e ρ' s'=>cases e<;>rfl
  |_=>rfl
noncomputable def lL (D:Nat→Option Fc) (base n:Nat) (keep:List Nat) (b:C) (x:Ex×Env×St):Option (Ex×Env×St):=
 match x with
 |(.normal,ρ,s)=>if kB base n (restrict keep ρ) s then rc D base (.loop keep b) (restrict keep ρ) {s with loc:=s.loc.take n}else none
 |x=>some x
theorem Hh {n:Nat}{keep:List Nat}{b:C}:lL D base n keep b (.normal,ρ,s)=if kB base n (restrict keep ρ) s then rc D base (.loop keep b) (restrict keep ρ) {s with loc:=s.loc.take n}else none:=rfl
theorem MH {n:Nat}{keep:List Nat}{b:C}:lL D base n keep b (.ret,ρ,s)=some (.ret,ρ,s):=rfl
theorem Ky {n:Nat}{keep:List Nat}{b:C}{id:Nat}:lL D base n keep b (.exit id,ρ,s)=some (.exit id,ρ,s):=rfl
theorem oU {ks:List Nat}{ρ:Env}{k:Nat}(h:k∈ks):get (restrict ks ρ) k=get ρ k:=by
 induction ks with
 |nil=>cases h
 |cons j ks ih=>
  simp only[restrict,List.map_cons,get];by_cases hj:j=k
  ·rw[if_pos hj,hj]
  ·rw[if_neg hj];exact ih (by cases h with|head=>exact absurd rfl hj|tail _ h=>exact h)
theorem z7 (ks:List Nat) (ρ:Env):restrict ks (restrict ks ρ)=restrict ks ρ:=by unfold restrict;apply List.map_congr_left;intro k hk;rw[show get (ks.map fun k=>(k,get ρ k)) k=get ρ k from oU hk]
theorem Bo {keep:List Nat}{b:C}:rc D base (.loop keep b) ρ s=(rc D base b (restrict keep ρ) s).bind fun x=>match x with
 |(.normal,ρ',s')=>if kB base s.loc.length (restrict keep ρ') s' then rc D base (.loop keep b) ρ' {s' with loc:=s'.loc.take s.loc.length}else none
 |x=>some x:=by
 simp only[rc];rw[fa];simp only[step];cases run D (.c base b (restrict keep ρ)) s with
 |none=>rfl
 |some x=>
  cases x with
  |c e ρ' s'=>
   cases e with
   |normal=>
    simp only[Option.bind_some];by_cases hc:kB base s.loc.length (restrict keep ρ') s'=true
    ·rw[if_pos hc,if_pos hc]
    ·rw[if_neg hc,if_neg hc]
   |_=>rfl
  |_=>rfl
theorem AU {keep:List Nat}{b:C}:rc D base (.loop keep b) (restrict keep ρ) s=rc D base (.loop keep b) ρ s:=by rw[Bo,Bo (ρ:=ρ),z7]
theorem Ut {keep:List Nat}{b:C}:rc D base (.loop keep b) ρ s=(rc D base b (restrict keep ρ) s).bind (lL D base s.loc.length keep b):=by
 rw[Bo];congr 1;funext x;obtain⟨e,ρ',s'⟩:=x;cases e with
 |normal=>simp only[lL,AU]
 |_=>rfl
theorem M7:ro D base [] ρ s=some (ρ,s):=by simp only[ro,fa,step]
noncomputable def rop (D:Nat→Option Fc) (base:Nat) (ρ:Env) (s:St):Op'→Option (V×St)
 | .call f args=>match f.ev ρ with
  | .fn g caps=>rf D g (args.map (Opd.ev ρ)++caps) s
  |_=>none
 | .pcall f args=>match f.ev ρ with
  | .fn g caps=>if pOk base (cP base (args.map (Opd.ev ρ)++caps)) (args.map (Opd.ev ρ)++caps) s=true then
   (rf D g (args.map (Opd.ev ρ)++caps) (s.cut (cP base (args.map (Opd.ev ρ)++caps)))).bind fun x=>if x.2=s.cut (cP base (args.map (Opd.ev ρ)++caps))∧x.1.flat=true then some (x.1,s)else none
   else none
  |_=>none
 | .callw f args w=>if Hy s (w.ev ρ)=true then
  match f.ev ρ with
  | .fn g caps=>rf D g (args.map (Opd.ev ρ)++caps) s
  |_=>none
  else none
 | .callk p f args=>match f.ev ρ with
  | .fn g caps=>if pOk base (cP base (args.map (Opd.ev ρ)++caps)) (args.map (Opd.ev ρ)++caps) s=true then
   (rf D g (args.map (Opd.ev ρ)++caps) (s.cut (cP base (args.map (Opd.ev ρ)++caps)))).bind fun x=>if P4 p (s.cut (cP base (args.map (Opd.ev ρ)++caps))) x.2 then some (x.1,{x.2 with loc:=s.loc})else none
   else none
  |_=>none
 |o=>evOp base ρ s o
theorem QF {o:Op'}:ax (run D) base ρ s o=rop D base ρ s o:=by
 cases o with
 |call f args=>
  simp only[ax,rop];cases f.ev ρ with
  |fn g caps=>
   simp only[rf];cases run D (.f g (args.map (Opd.ev ρ)++caps)) s with
   |none=>rfl
   |some x=>cases x<;>rfl
  |_=>rfl
 |pcall f args=>
  simp only[ax,rop];cases f.ev ρ with
  |fn g caps=>
   simp only[rf];split
   ·cases run D (.f g (args.map (Opd.ev ρ)++caps)) (s.cut (cP base (args.map (Opd.ev ρ)++caps)))with
    |none=>rfl
    |some x=>cases x<;>rfl
   ·rfl
  |_=>rfl
 |callw f args w=>
  simp only[ax,rop];split
  ·cases f.ev ρ with
   |fn g caps=>
    simp only[rf];cases run D (.f g (args.map (Opd.ev ρ)++caps)) s with
    |none=>rfl
    |some x=>cases x<;>rfl
   |_=>rfl
  ·rfl
 |callk p f args=>
  simp only[ax,rop];cases f.ev ρ with
  |fn g caps=>
   simp only[rf];split
   ·cases run D (.f g (args.map (Opd.ev ρ)++caps)) (s.cut (cP base (args.map (Opd.ev ρ)++caps)))with
    |none=>rfl
    |some x=>cases x<;>rfl
   ·rfl
  |_=>rfl
 |_=>rfl
theorem zJ {op:Op}{rest:List Op}:ro D base (op::rest) ρ s=match aZ op.guard ρ with
 |none=>none
 |some false=>ro D base rest (put op.dst (.tup []) ρ) s
 |some true=>(rop D base ρ s op.op).bind fun x=>ro D base rest (put op.dst x.1 ρ) x.2:=by
 unfold ro;rw[fa];simp only[step,QF];cases aZ op.guard ρ with
 |none=>rfl
 |some gb=>
  cases gb with
  |false=>rfl
  |true=>
   cases rop D base ρ s op.op with
   |none=>rfl
   |some x=>rfl
def pB (n:Nat) (res:List RV) (x:Ex×Env×St):Option (V×St):=
 match x with
 |(.exit _,_,_)=>none
 |(_,ρ,s)=>match f9 ρ s res with
  |some v=>if v.locLt n∧n≤s.loc.length then some (v,{s with loc:=s.loc.take n})else none
  |none=>none
theorem OD {n:Nat}{res:List RV}:pB n res (.ret,ρ,s)=match f9 ρ s res with
 |some v=>if v.locLt n∧n≤s.loc.length then some (v,{s with loc:=s.loc.take n})else none
 |none=>none:=rfl
theorem GA {n:Nat}{res:List RV}:pB n res (.normal,ρ,s)=match f9 ρ s res with
 |some v=>if v.locLt n∧n≤s.loc.length then some (v,{s with loc:=s.loc.take n})else none
 |none=>none:=rfl
theorem Xk {f:Nat}{fc:Fc}(hf:D f=some fc) {args:List V}(hn:args.length=fc.n):
 rf D f args s=(rc D s.loc.length fc.body (nG 0 args) s).bind (pB s.loc.length fc.res):=by
 unfold rf rc;rw[fa];simp only[step,hf,hn,if_true];cases run D (.c s.loc.length fc.body (nG 0 args)) s with
 |none=>rfl
 |some x=>
  cases x with
  |c e ρ' s'=>
   cases e with
   |exit _=>rfl
   |normal=>
    simp only[Option.bind_some,pB];cases f9 ρ' s' fc.res with
    |none=>rfl
    |some v=>
     simp only;by_cases hv:v.locLt s.loc.length=true∧s.loc.length≤s'.loc.length
     ·simp only[if_pos hv]
     ·simp only[if_neg hv]
   |ret=>
    simp only[Option.bind_some,pB];cases f9 ρ' s' fc.res with
    |none=>rfl
    |some v=>
     simp only;by_cases hv:v.locLt s.loc.length=true∧s.loc.length≤s'.loc.length
     ·simp only[if_pos hv]
     ·simp only[if_neg hv]
  |_=>rfl
end
variable {D : Nat → Option Fc} {base : Nat} {ρ : Env} {s : St}
theorem nd {α:Sort _}{a b:α}(h:a=b):a=b:=h
def ah {α β:Type}(x:Option α) (f:α→Option β):Option β:=x.bind f
theorem aP {α β:Type}{a:α}{f:α→Option β}:ah (some a) f=f a:=nd rfl
theorem KM {α β:Type}{f:α→Option β}:ah none f=none:=nd rfl
@[congr] theorem WL {α β:Type}{x y:Option α}{f:α→Option β}(h:x=y):ah x f=ah y f:=by rw[h]
theorem yt {α β:Type}{c:Prop}[Decidable c] {x y:Option α}{f:α→Option β}:ah (if c then x else y) f=if c then ah x f else ah y f:=by split<;>rfl
def sX {α:Type}(v:V) (f:Bool→Option α):Option α:=match v with| .bool t=>f t|_=>none
theorem KF {α:Type}{t:Bool}{f:Bool→Option α}:sX (.bool t) f=f t:=nd rfl
@[congr] theorem WK {α:Type}{v w:V}{f:Bool→Option α}(h:v=w):sX v f=sX w f:=by rw[h]
theorem Pz {a b:C}:rc D base (.seq a b) ρ s=ah (rc D base a ρ s) (andThen D base b):=V6
def ur (id:Nat) (x:Ex×Env×St):Option (Ex×Env×St):=some (RI id x)
theorem E7 {id:Nat}:ur id (.normal,ρ,s)=some (.normal,ρ,s):=nd rfl
theorem KW {id:Nat}:ur id (.ret,ρ,s)=some (.ret,ρ,s):=nd rfl
theorem Ji {id id':Nat}:ur id (.exit id',ρ,s)=some (if id'=id then .normal else .exit id',ρ,s):=nd rfl
theorem KU {id:Nat}{b:C}:rc D base (.block id b) ρ s=ah (rc D base b ρ s) (ur id):=OZ
theorem aa {keep:List Nat}{b:C}:rc D base (.loop keep b) ρ s=ah (rc D base b (restrict keep ρ) s) (lL D base s.loc.length keep b):=Ut
theorem ab {f:Nat}{fc:Fc}(hf:D f=some fc) {args:List V}(hn:args.length=fc.n):
 rf D f args s=ah (rc D s.loc.length fc.body (nG 0 args) s) (pB s.loc.length fc.res):=Xk hf hn
theorem MG {x:Opd}{a b:C}:rc D base (.cond x a b) ρ s=sX (x.ev ρ) fun t=>if t then rc D base a ρ s else rc D base b ρ s:=by rw[UI];cases x.ev ρ<;>rfl
def bB (ρ ρ':Env):Prop:=∀t,get ρ t=get ρ' t
theorem bB.ev {ρ ρ':Env}(h:bB ρ ρ'):Opd.ev ρ=Opd.ev ρ':=by
 funext x;cases x with
 |t n=>exact h n
 |k v=>rfl
theorem bB.put {ρ ρ':Env}(h:bB ρ ρ') (d:Option Nat) (v:V):bB (put d v ρ) (put d v ρ'):=by
 intro t;cases d with
 |none=>exact h t
 |some k=>simp only[Ab.put,get,h t]
theorem bB.evOp {ρ ρ':Env}(h:bB ρ ρ') (o:Op'):evOp base ρ s o=evOp base ρ' s o:=by have he:=h.ev;cases o<;>simp only[Ab.evOp,he]
theorem bB.rop {ρ ρ':Env}(h:bB ρ ρ') (o:Op'):rop D base ρ s o=rop D base ρ' s o:=by
 have he:=h.ev;cases o with
 |call f args=>simp only[Ab.rop,he]
 |pcall f args=>simp only[Ab.rop,he]
 |callw f args w=>simp only[Ab.rop,he]
 |callk p f args=>simp only[Ab.rop,he]
 |_=>simp only[Ab.rop];exact h.evOp _
theorem bB.guard {ρ ρ':Env}(h:bB ρ ρ') (g:Option (Nat×Bool)):aZ g ρ=aZ g ρ':=by
 cases g with
 |none=>rfl
 |some x=>simp only[aZ,h x.1]
theorem bB.restrict {ρ ρ':Env}(h:bB ρ ρ') (ks:List Nat):restrict ks ρ=restrict ks ρ':=by simp only[Ab.restrict,h _]
theorem bB.ro {ks:List Nat}:∀(l:List Op) {ρ ρ':Env}{s:St},bB ρ ρ'→(ro D base l ρ s).bind (fun x=>some (Ex.normal,Ab.restrict ks x.1,x.2))=(ro D base l ρ' s).bind (fun x=>some (Ex.normal,Ab.restrict ks x.1,x.2))
 |[],ρ,ρ',s,h=>by simp only[M7,Option.bind_some,h.restrict]
 |op::l,ρ,ρ',s,h=>by
  rw[zJ,zJ,h.guard];cases aZ op.guard ρ' with
  |none=>rfl
  |some b=>
   cases b with
   |false=>exact bB.ro l (h.put _ _)
   |true=>
    simp only[h.rop];cases Ab.rop D base ρ' s op.op with
    |none=>rfl
    |some x=>exact bB.ro l (h.put _ _)
theorem bB.of_get {t:Nat}{v:V}(h:get ρ t=v):bB ρ ((t,v)::ρ):=by
 intro k;simp only[get];split
 ·rename_i e;rw[←e,h]
 ·rfl
noncomputable def rg (D:Nat→Option Fc) (base:Nat) (ks:List Nat) (l:List Op) (ρ:Env) (s:St):Option (Ex×Env×St):=
 (ro D base l ρ s).bind fun x=>some (Ex.normal,restrict ks x.1,x.2)
theorem Vi {ks:List Nat}:rg D base ks [] ρ s=some (Ex.normal,restrict ks ρ,s):=by simp only[rg,M7,Option.bind_some]
theorem XJ {ks:List Nat}{d:Option Nat}{o:Op'}{rest:List Op}:rg D base ks (⟨d,none,o⟩::rest) ρ s=ah (rop D base ρ s o) fun x=>rg D base ks rest (put d x.1 ρ) x.2:=by simp only[rg];rw[zJ];simp only[aZ];cases rop D base ρ s o<;>rfl
def lS {α:Type}(v:V) (b:Bool) (A B C:Option α):Option α:=
 match v with
 | .bool x=>if x=b then A else B
 | .tup []=>C
 |_=>none
theorem IC {α:Type}{x b:Bool}{A B C:Option α}:lS (.bool x) b A B C=if x=b then A else B:=nd rfl
theorem Lt {α:Type}{b:Bool}{A B C:Option α}:lS (.tup []) b A B C=C:=nd rfl
@[congr] theorem Ww {α:Type}{v w:V}{b:Bool}{A B C:Option α}(h:v=w):lS v b A B C=lS w b A B C:=by rw[h]
theorem CV {α:Type}{v:V}{b:Bool}{A B C A' B' C':Option α}(hA:v= .bool b→A=A') (hB:v= .bool (!b)→B=B') (hC:v= .tup []→C=C'):lS v b A B C=lS v b A' B' C':=by
 unfold lS;split
 ·rename_i x;split
  ·rename_i h;exact hA (by rw[h])
  ·rename_i h;exact hB (by cases x<;>cases b<;>simp_all)
 ·exact hC rfl
 ·rfl
theorem XI {ks:List Nat}{d:Option Nat}{t:Nat}{b:Bool}{o:Op'}{rest:List Op}:rg D base ks (⟨d,some (t,b),o⟩::rest) ρ s=
 lS (get ρ t) b (ah (rop D base ρ s o) fun y=>rg D base ks rest (put d y.1 ((t,.bool b)::ρ)) y.2) (rg D base ks rest (put d (.tup []) ((t,.bool !b)::ρ)) s) (rg D base ks rest (put d (.tup []) ((t,.tup [])::ρ)) s):=by
 have h0:rg D base ks (⟨d,some (t,b),o⟩::rest) ρ s=lS (get ρ t) b (ah (rop D base ρ s o) fun y=>rg D base ks rest (put d y.1 ρ) y.2) (rg D base ks rest (put d (.tup []) ρ) s) (rg D base ks rest (put d (.tup []) ρ) s):=by
  simp only[rg];rw[zJ];simp only[aZ];cases hv:get ρ t with
  |bool x=>
   simp only[lS];by_cases hxb:x=b
   ·subst hxb;simp only[beq_self_eq_true,if_true];cases rop D base ρ s o<;>rfl
   ·have hxb':(x==b)=false:=by simp[hxb]
    simp only[hxb',if_neg hxb]
  |tup l=>cases l<;>rfl
  |_=>rfl
 rw[h0];refine CV (fun hv=> ?_) (fun hv=> ?_) (fun hv=>bB.ro rest ((bB.of_get hv).put _ _))
 ·cases rop D base ρ s o with
  |none=>rfl
  |some y=>exact bB.ro rest ((bB.of_get hv).put _ _)
 ·exact bB.ro rest ((bB.of_get hv).put _ _)
theorem QU {t:Nat}{v:V}:put (some t) v ρ=(t,v)::ρ:=nd rfl
theorem Qu {v:V}:put none v ρ=ρ:=nd rfl
theorem Qv {k t:Nat}{v:V}:get ((k,v)::ρ) t=if k=t then v else get ρ t:=nd rfl
theorem HQ:restrict [] ρ=[]:=nd rfl
theorem EY {k:Nat}{ks:List Nat}:restrict (k::ks) ρ=(k,get ρ k)::restrict ks ρ:=nd rfl
theorem IL {ks:List Nat}:tN (some ks) ρ=restrict ks ρ:=nd rfl
theorem IN:tN none ρ=ρ:=nd rfl
theorem XU {n:Nat}:Opd.ev ρ (.t n)=get ρ n:=nd rfl
theorem XY {v:V}:Opd.ev ρ (.k v)=v:=nd rfl
theorem Q5 {i:Nat}:nG i []=[]:=nd rfl
theorem Od {i:Nat}{v:V}{l:List V}:nG i (v::l)=(i,v)::nG (i+1) l:=nd rfl
section ops
variable {x y a b c p i : Opd}
theorem RN:rop D base ρ s (.mv x)=some (x.ev ρ,s):=nd rfl
theorem JK:rop D base ρ s (.pick c a b)=sX (c.ev ρ) fun t=>some (if t then a.ev ρ else b.ev ρ,s):=nd rfl
theorem Gc {h:Bool}{z:V}:rop D base ρ s (.alloc h z)=some (.ptr (s.fresh h) [] z.tag,s.new h z):=nd rfl
theorem NF {h:Bool}:rop D base ρ s (.box h x)=if(x.ev ρ).ok&&bi h (x.ev ρ)then some (.ptr (s.fresh h) [] (x.ev ρ).tag,s.new h (x.ev ρ))else none:=nd rfl
def ldv (s:St) (t:Nat):V→Option V
 | .ptr a path t'=>if t'=t then s.read a path else none
 |_=>none
theorem T7 {t t':Nat}{a:Loc}{path:List Nat}:ldv s t (.ptr a path t')=if t'=t then s.read a path else none:=nd rfl
theorem KK {t:Nat}:rop D base ρ s (.ld t p)=ah (ldv s t (p.ev ρ)) fun v=>some (v,s):=by
 show evOp base ρ s (.ld t p)=_;simp only[evOp];cases p.ev ρ with
 |ptr a path t'=>
  simp only[ldv];split
  ·cases s.read a path<;>rfl
  ·rfl
 |_=>rfl
def stv (base:Nat) (s:St) (t:Nat) (x:V):V→Option St
 | .ptr a path t'=>if t'=t∧x.tag=t then s.write base a path x else none
 |_=>none
theorem UE {t t':Nat}{a:Loc}{path:List Nat}{x:V}:stv base s t x (.ptr a path t')=if t'=t∧x.tag=t then s.write base a path x else none:=nd rfl
theorem La {t:Nat}:rop D base ρ s (.st t p x)=ah (stv base s t (x.ev ρ) (p.ev ρ)) fun s'=>some (.dead,s'):=by
 show evOp base ρ s (.st t p x)=_;simp only[evOp];cases p.ev ρ with
 |ptr a path t'=>
  simp only[stv];split
  ·cases s.write base a path (x.ev ρ)<;>rfl
  ·rfl
 |_=>rfl
def GD:V→Option V
 | .ptr a p t=>some (.ptr a p t)
 | .fn f l=>some (.fn f l)
 |_=>none
theorem QQ {t:Nat}{a:Loc}{path:List Nat}:GD (.ptr a path t)=some (.ptr a path t):=nd rfl
theorem UG {f:Nat}{l:List V}:GD (.fn f l)=some (.fn f l):=nd rfl
theorem Kq:rop D base ρ s (.nilc x)=ah (GD (x.ev ρ)) fun v=>some (v,s):=by show evOp base ρ s (.nilc x)=_;simp only[evOp];cases x.ev ρ<;>rfl
theorem N5 {o:BinOp}:rop D base ρ s (.bin o x y)=ah (mO o (x.ev ρ) (y.ev ρ)) fun v=>some (v,s):=by show evOp base ρ s (.bin o x y)=_;simp only[evOp];cases mO o (x.ev ρ) (y.ev ρ)<;>rfl
def eqv (neg:Bool) (t:Nat) (x y:V):Option V:=ah (ew t x y) fun b=>some (.bool (if neg then !b else b))
theorem RE {neg:Bool}{t:Nat}:rop D base ρ s (.eq neg t x y)=ah (eqv neg t (x.ev ρ) (y.ev ρ)) fun v=>some (v,s):=by show evOp base ρ s (.eq neg t x y)=_;simp only[evOp,eqv];cases ew t (x.ev ρ) (y.ev ρ)<;>rfl
theorem RP {o:UnOp}:rop D base ρ s (.un o x)=ah (vun o (x.ev ρ)) fun v=>some (v,s):=by show evOp base ρ s (.un o x)=_;simp only[evOp];cases vun o (x.ev ρ)<;>rfl
def Fs (k:IntKind):V→Option V
 | .int _ n=>some (.int k (k.wrap n))
 |_=>none
theorem Ny {k k':IntKind}{n:Int}:Fs k (.int k' n)=some (.int k (k.wrap n)):=nd rfl
theorem Kc {k:IntKind}:rop D base ρ s (.conv k x)=ah (Fs k (x.ev ρ)) fun v=>some (v,s):=by
 show evOp base ρ s (.conv k x)=_
 simp only[evOp];cases x.ev ρ<;>rfl
def Ch (f:Nat) (caps:List V):Option V:=if caps.all (fun v=>v.tag==1)then some (.fn f caps)else none
theorem EB {f:Nat}{caps:List Opd}:rop D base ρ s (.mkfn f caps)=ah (Ch f (caps.map (Opd.ev ρ))) fun v=>some (v,s):=by show evOp base ρ s (.mkfn f caps)=_;simp only[evOp,Ch];split<;>rfl
def Fp (h:Bool) (r e:Nat) (z:V) (s:St):V→V→Option (V×St)
 | .int _ l,.int _ m=>if 0≤l∧l≤m∧m≤cg then
  some (.sl (s.fresh h) [] 0 l.toNat (some m.toNat) e,s.new h (.agg r (List.replicate l.toNat z)))
  else none
 |_,_=>none
theorem D5 {h:Bool}{r e:Nat}{z:V}{n c:Opd}:rop D base ρ s (.mksl h r e z n c)=Fp h r e z s (n.ev ρ) (c.ev ρ):=by
 show evOp base ρ s (.mksl h r e z n c)=_;simp only[evOp];cases n.ev ρ with
 |int _ _=>cases c.ev ρ<;>rfl
 |_=>rfl
def gU (e:Nat) (lo hi mx:Option V):V→Option V
 | .sl a path off len cap e'=>if e'=e then
  ah (ao (cap.getD len) mx (cap.getD len)) fun m=>ah (ao (kL mx.isSome m len) hi len) fun h=>ah (ao h lo 0) fun l=>
   some (.sl a path (off+l) (h-l) (nI mx.isSome cap (m-l)) e)
  else none
 | .nils=>ah (ao 0 mx 0) fun _=>ah (ao 0 hi 0) fun _=>ah (ao 0 lo 0) fun _=>some .nils
 |_=>none
theorem N7 {e:Nat}{lo hi mx:Option Opd}:rop D base ρ s (.slc e x lo hi mx)=ah (gU e (lo.map (Opd.ev ρ)) (hi.map (Opd.ev ρ)) (mx.map (Opd.ev ρ)) (x.ev ρ)) fun v=>some (v,s):=by
 show evOp base ρ s (.slc e x lo hi mx)=_;simp only[evOp];cases x.ev ρ with
 |sl a path off len cap e'=>
  simp only[gU];by_cases he:e'=e
  ·simp only[if_pos he,Option.isSome_map];cases h1:ao (cap.getD len) (mx.map (Opd.ev ρ)) (cap.getD len)with
   |none=>rfl
   |some m=>
    simp only[aP];cases h2:ao (kL mx.isSome m len) (hi.map (Opd.ev ρ)) len with
    |none=>rfl
    |some h=>
     simp only[aP];cases h3:ao h (lo.map (Opd.ev ρ)) 0<;>rfl
  ·simp only[if_neg he];rfl
 |nils=>
  simp only[gU];cases ao 0 (mx.map (Opd.ev ρ)) 0<;>cases ao 0 (hi.map (Opd.ev ρ)) 0<;>cases ao 0 (lo.map (Opd.ev ρ)) 0<;>rfl
 |_=>rfl
def zs (lo hi:Option V):V→Option V
 | .str b=>ah (ao b.size hi b.size) fun h=>ah (ao h lo 0) fun l=>some (.str (b.extract l h))
 |_=>none
theorem BW {lo hi:Option Opd}:rop D base ρ s (.slstr x lo hi)=ah (zs (lo.map (Opd.ev ρ)) (hi.map (Opd.ev ρ)) (x.ev ρ)) fun v=>some (v,s):=by
 show evOp base ρ s (.slstr x lo hi)=_;simp only[evOp];cases x.ev ρ with
 |str b=>
  simp only[zs];cases ao b.size (hi.map (Opd.ev ρ)) b.size with
  |none=>rfl
  |some h=>simp only[aP];cases ao h (lo.map (Opd.ev ρ)) 0<;>rfl
 |_=>rfl
def zh (s:St) (t n e:Nat) (lo hi mx:Option V):V→Option V
 | .ptr a path t'=>if t'=t∧(s.read a path).isSome=true then ah (ao n mx n) fun m=>ah (ao m hi n) fun h=>ah (ao h lo 0) fun l=>some (.sl a path l (h-l) (some (m-l)) e)else none
 |_=>none
theorem HB {t n e:Nat}{lo hi mx:Option Opd}:rop D base ρ s (.slarr t n e x lo hi mx)=ah (zh s t n e (lo.map (Opd.ev ρ)) (hi.map (Opd.ev ρ)) (mx.map (Opd.ev ρ)) (x.ev ρ)) fun v=>some (v,s):=by
 show evOp base ρ s (.slarr t n e x lo hi mx)=_;simp only[evOp];cases x.ev ρ with
 |ptr a path t'=>
  simp only[zh];by_cases he:t'=t∧(s.read a path).isSome=true
  ·simp only[if_pos he];cases ao n (mx.map (Opd.ev ρ)) n with
   |none=>rfl
   |some m=>
    simp only[aP];cases ao m (hi.map (Opd.ev ρ)) n with
    |none=>rfl
    |some h=>simp only[aP];cases ao h (lo.map (Opd.ev ρ)) 0<;>rfl
  ·simp only[if_neg he];rfl
 |_=>rfl
def mi (t f c:Nat):V→Option V
 | .ptr a path t'=>if t'=t then some (.ptr a (path++[f]) c)else none
 |_=>none
theorem MK {t f c:Nat}:rop D base ρ s (.fad t f c x)=ah (mi t f c (x.ev ρ)) fun v=>some (v,s):=by
 show evOp base ρ s (.fad t f c x)=_;simp only[evOp];cases x.ev ρ with
 |ptr a path t'=>simp only[mi];split<;>rfl
 |_=>rfl
def AJ (t n e:Nat):V→V→Option V
 | .ptr a path t',.int _ j=>if t'=t∧0≤j∧j<n then some (.ptr a (path++[j.toNat]) e)else none
 |_,_=>none
theorem LX {t n e:Nat}:rop D base ρ s (.iad t n e x i)=ah (AJ t n e (x.ev ρ) (i.ev ρ)) fun v=>some (v,s):=by
 show evOp base ρ s (.iad t n e x i)=_;simp only[evOp];cases x.ev ρ with
 |ptr a path t'=>
  cases i.ev ρ with
  |int k j=>simp only[AJ];split<;>rfl
  |_=>rfl
 |_=>rfl
def eD (e:Nat):V→V→Option V
 | .sl a path off len _ e',.int _ j=>if e'=e∧0≤j∧j<len then some (.ptr a (path++[off+j.toNat]) e)else none
 |_,_=>none
def G0 (n e:Nat):V→Option V
 | .sl a path off len _ e'=>if e'=e∧0<n∧n≤len then some (.ptr a (path++[off]) e)else none
 |_=>none
theorem OB {n e:Nat}:rop D base ρ s (.s2a n e x)=ah (G0 n e (x.ev ρ)) fun v=>some (v,s):=by
 show evOp base ρ s (.s2a n e x)=_;simp only[evOp];cases x.ev ρ with
 |sl a path off len cap e'=>simp only[G0];split<;>rfl
 |_=>rfl
def Fz (s:St) (t n e u:Nat):V→Option V
 | .ptr a q e'=>if e'=e then(s.part n u a q).map (.agg t)else none
 |_=>none
theorem Oc {t n e u:Nat}:rop D base ρ s (.ldr t n e u x)=ah (Fz s t n e u (x.ev ρ)) fun v=>some (v,s):=by
 show evOp base ρ s (.ldr t n e u x)=_;simp only[evOp];cases x.ev ρ with
 |ptr a q e'=>
  simp only[Fz];split
  ·cases s.part n u a q<;>rfl
  ·rfl
 |_=>rfl
theorem MU:rop D base ρ s .mkm=some (.mp (some s.hp.length),⟨s.loc,s.hp++[.mp []]⟩):=nd rfl
theorem Ol:rop D base ρ s (.mlk x i)=ah (my (x.ev ρ) (i.ev ρ) s) fun v=>some (v,s):=by show evOp base ρ s (.mlk x i)=_;simp only[evOp];cases my (x.ev ρ) (i.ev ρ) s<;>rfl
theorem Nb {y:Opd}:rop D base ρ s (.mup x i y)=ah (i7 (x.ev ρ) (i.ev ρ) (y.ev ρ) s) fun s'=>some (.dead,s'):=by show evOp base ρ s (.mup x i y)=_;simp only[evOp];cases i7 (x.ev ρ) (i.ev ρ) (y.ev ρ) s<;>rfl
def HU:Option Blk→Option (List Int)
 |some (.mp l)=>some l
 |_=>none
theorem WC {j:Nat}{n:Int}:my (.mp (some j)) (.int .i64 n) s=ah (HU (s.hp[j]?)) fun l=>some (.bool (decide (n∈l))):=by
 simp only[my,St.mpAt,HU];cases s.hp[j]? with
 |none=>rfl
 |some b=>cases b<;>rfl
theorem VJ {j:Nat}{n:Int}:i7 (.mp (some j)) (.int .i64 n) (.bool true) s=ah (HU (s.hp[j]?)) fun l=>some ⟨s.loc,s.hp.set j (.mp (if n∈l then l else l++[n]))⟩:=by
 simp only[i7,St.mpAt,HU];cases s.hp[j]? with
 |none=>rfl
 |some b=>cases b<;>rfl
theorem NO {e:Nat}:rop D base ρ s (.sad e x i)=ah (eD e (x.ev ρ) (i.ev ρ)) fun v=>some (v,s):=by
 show evOp base ρ s (.sad e x i)=_;simp only[evOp];cases x.ev ρ with
 |sl a path off len cap e'=>
  cases i.ev ρ with
  |int k j=>simp only[eD];split<;>rfl
  |_=>rfl
 |_=>rfl
def HG (t f:Nat):V→Option V
 | .agg t' l=>if t'=t then l[f]? else none
 |_=>none
theorem NM {t f:Nat}:rop D base ρ s (.fld t f x)=ah (HG t f (x.ev ρ)) fun v=>some (v,s):=by
 show evOp base ρ s (.fld t f x)=_;simp only[evOp];cases x.ev ρ with
 |agg t' l=>simp only[HG];split<;>(first|rfl|(cases l[f]?<;>rfl))
 |_=>rfl
def HK (t n:Nat):V→V→Option V
 | .agg t' l,.int _ j=>if t'=t∧0≤j∧j<n then l[j.toNat]? else none
 |_,_=>none
theorem Mb {t n:Nat}:rop D base ρ s (.idx t n x i)=ah (HK t n (x.ev ρ) (i.ev ρ)) fun v=>some (v,s):=by
 show evOp base ρ s (.idx t n x i)=_;simp only[evOp];cases x.ev ρ with
 |agg t' l=>
  cases i.ev ρ with
  |int k j=>simp only[HK];split<;>(first|rfl|(cases l[j.toNat]?<;>rfl))
  |_=>rfl
 |_=>rfl
def Cv:V→V→Option V
 | .str b,.int _ j=>if 0≤j then(b[j.toNat]?).map fun c=> .int .u8 c.toNat else none
 |_,_=>none
theorem Kn:rop D base ρ s (.sidx x i)=ah (Cv (x.ev ρ) (i.ev ρ)) fun v=>some (v,s):=by
 show evOp base ρ s (.sidx x i)=_;simp only[evOp];cases x.ev ρ with
 |str b=>
  cases i.ev ρ with
  |int k j=>
   simp only[Cv];by_cases hj:0≤j
   ·simp only[if_pos hj];cases b[j.toNat]?<;>rfl
   ·simp only[if_neg hj];rfl
  |_=>rfl
 |_=>rfl
def Ip (n:Nat):V→Option V
 | .tup l=>l[n]?
 |_=>none
theorem Qs {l:List V}{n:Nat}:Ip n (.tup l)=l[n]?:=nd rfl
theorem Nc {n:Nat}:rop D base ρ s (.ext x n)=ah (Ip n (x.ev ρ)) fun v=>some (v,s):=by
 show evOp base ρ s (.ext x n)=_;simp only[evOp];cases x.ev ρ with
 |tup l=>simp only[Ip];cases l[n]?<;>rfl
 |_=>rfl
theorem JC {n:Nat}:rop D base ρ s (.lenk n)=some (.int .i64 n,s):=nd rfl
theorem Md {q:Bool}:rop D base ρ s (.len q x)=ah (V.slen q (x.ev ρ)) fun n=>some (.int .i64 n,s):=by show evOp base ρ s (.len q x)=_;simp only[evOp];cases V.slen q (x.ev ρ)<;>rfl
theorem Oe {e:Nat}:rop D base ρ s (.cpy e x y)=iw base e (x.ev ρ) (y.ev ρ) s:=nd rfl
theorem Mk {mx:Bool}:rop D base ρ s (.mnx mx x y)=ah (nJ mx (x.ev ρ) (y.ev ρ)) fun v=>some (v,s):=by show evOp base ρ s (.mnx mx x y)=_;simp only[evOp];cases nJ mx (x.ev ρ) (y.ev ρ)<;>rfl
theorem NU {h:Bool}{r e:Nat}:rop D base ρ s (.app h r e x y)=aD base h r e (x.ev ρ) (y.ev ρ) s:=nd rfl
theorem Nd {t:Nat}{l:List V}{ps:List (Nat×Opd)}:rop D base ρ s (.bld (.agg t l) ps)=ah (bf l (ps.map fun p=>(p.1,p.2.ev ρ))) fun l'=>some (.agg t l',s):=by show evOp base ρ s (.bld (.agg t l) ps)=_;simp only[evOp];cases bf l (ps.map fun p=>(p.1,p.2.ev ρ))<;>rfl
def Ii (h:Bool) (r e n:Nat) (z:V) (s:St) (ps:List (Nat×V)):Option (V×St):=
 ah (bf (List.replicate n z) ps) fun l'=>if(e%2=0∨bi h (.agg 1 l'))then some (.sl (s.fresh h) [] 0 n (some n) e,s.new h (.agg r l'))else none
theorem FZ {h:Bool}{r e n:Nat}{z:V}{ps:List (Nat×Opd)}:rop D base ρ s (.bsl h r e z n ps)=Ii h r e n z s (ps.map fun p=>(p.1,p.2.ev ρ)):=by show evOp base ρ s (.bsl h r e z n ps)=_;simp only[evOp,Ii];cases bf (List.replicate n z) (ps.map fun p=>(p.1,p.2.ev ρ))<;>rfl
noncomputable def CQ (D:Nat→Option Fc) (args:List V) (s:St):V→Option (V×St)
 | .fn g caps=>rf D g (args++caps) s
 |_=>none
theorem OS {args:List V}{g:Nat}{caps:List V}:CQ D args s (.fn g caps)=rf D g (args++caps) s:=nd rfl
theorem Jw {f:Opd}{args:List Opd}:rop D base ρ s (.call f args)=CQ D (args.map (Opd.ev ρ)) s (f.ev ρ):=by simp only[rop];cases f.ev ρ<;>rfl
noncomputable def vP (D:Nat→Option Fc) (k base g:Nat) (as:List V) (s:St):Option V:=
 if(V.locLts k as&&(decide (base≤k)&&(decide (k≤s.loc.length)&&((s.loc.take k).drop base).all (bl k))))=true then
  ah (rf D g as ⟨s.loc.take k,s.hp⟩) fun x=>if x.2=⟨s.loc.take k,s.hp⟩∧x.1.flat=true then some x.1 else none
 else none
noncomputable def Ct (D:Nat→Option Fc) (base:Nat) (args:List V) (s:St):V→Option V
 | .fn g caps=>vP D (cP base (args++caps)) base g (args++caps) s
 |_=>none
theorem Oa {args:List V}{g:Nat}{caps:List V}:Ct D base args s (.fn g caps)=vP D (cP base (args++caps)) base g (args++caps) s:=nd rfl
theorem HI {f:Opd}{args:List Opd}:rop D base ρ s (.pcall f args)=ah (Ct D base (args.map (Opd.ev ρ)) s (f.ev ρ)) fun v=>some (v,s):=by
 simp only[rop];cases f.ev ρ with
 |fn g caps=>
  show(if pOk base (cP base (args.map (Opd.ev ρ)++caps)) (args.map (Opd.ev ρ)++caps) s=true then
   (rf D g (args.map (Opd.ev ρ)++caps) (s.cut (cP base (args.map (Opd.ev ρ)++caps)))).bind fun x=>if x.2=s.cut (cP base (args.map (Opd.ev ρ)++caps))∧x.1.flat=true then some (x.1,s)else none
   else none)=ah (vP D (cP base (args.map (Opd.ev ρ)++caps)) base g (args.map (Opd.ev ρ)++caps) s) _
  generalize hk:cP base (args.map (Opd.ev ρ)++caps)=k;unfold vP;by_cases hp:pOk base k (args.map (Opd.ev ρ)++caps) s=true
  ·rw[if_pos hp,if_pos (show(_&&_)=true from hp)]
   show(rf D g (args.map (Opd.ev ρ)++caps) ⟨s.loc.take k,s.hp⟩).bind _=_;cases rf D g (args.map (Opd.ev ρ)++caps) ⟨s.loc.take k,s.hp⟩with
   |none=>rfl
   |some x=>
    show(if x.2=s.cut k∧x.1.flat=true then some (x.1,s)else none)=ah (if x.2=s.cut k∧x.1.flat=true then some x.1 else none) _
    by_cases hx:x.2=s.cut k∧x.1.flat=true
    ·rw[if_pos hx,if_pos hx];rfl
    ·rw[if_neg hx,if_neg hx];rfl
  ·rw[if_neg hp,if_neg (show¬((_&&_)=true)from hp)];rfl
 |_=>rfl
theorem QC {k:IntKind}{n:Int}:V.flat (.int k n)=true:=nd rfl
theorem Ow {b:Bool}:V.flat (.bool b)=true:=nd rfl
theorem Qg:V.flat (.mp none)=true:=nd rfl
theorem P1 {b:ByteArray}:V.flat (.str b)=true:=nd rfl
theorem PI {t:Nat}{l:List V}:V.flat (.agg t l)=V.flats l:=nd rfl
theorem QK {l:List V}:V.flat (.tup l)=V.flats l:=nd rfl
theorem My:V.flats []=true:=nd rfl
theorem Lv {v:V}{l:List V}:V.flats (v::l)=(v.flat&&V.flats l):=nd rfl
theorem uq {l:List V}(h:∀v∈l,v.flat=true):V.flats l=true:=by
 induction l with
 |nil=>rfl
 |cons a l ih=>simp only[V.flats,Zj];exact⟨h a (by simp),ih fun v hv=>h v (by simp[hv])⟩
theorem IX {l:List Bool}:V.flats (l.map V.bool)=true:=uq fun v hv=>by obtain⟨b,_,rfl⟩:=List.mem_map.1 hv;rfl
theorem LR {k:IntKind}{l:List Int}:V.flats (l.map (V.int k))=true:=uq fun v hv=>by obtain⟨b,_,rfl⟩:=List.mem_map.1 hv;rfl
def G9 (base:Nat) (s:St) (t:Nat) (x p:V) (l:List V):Option St:=if l.all (fun y=>ii y p)=true then stv base s t x p else none
theorem N6 {t:Nat}{l:List Opd}:rop D base ρ s (.sta t p x l)=ah (G9 base s t (x.ev ρ) (p.ev ρ) (l.map (Opd.ev ρ))) fun s'=>some (.dead,s'):=by
 show evOp base ρ s (.sta t p x l)=_;simp only[evOp,G9,List.all_map];show(if(l.all fun y=>ii (y.ev ρ) (p.ev ρ))=true then _ else none)=ah (if(l.all fun y=>ii (y.ev ρ) (p.ev ρ))=true then _ else none) _
 split
 ·have:= @La D base ρ s x p t;exact this
 ·rfl
def Gx (s:St) (t:Nat) (p r:V):Option V:=if mG r p=true then ldv s t p else none
theorem MC {t:Nat}{r:Opd}:rop D base ρ s (.lda t p r)=ah (Gx s t (p.ev ρ) (r.ev ρ)) fun v=>some (v,s):=by
 show evOp base ρ s (.lda t p r)=_;simp only[evOp,Gx];show(if mG (r.ev ρ) (p.ev ρ)=true then _ else none)=_
 split
 ·exact @KK D base ρ s p t
 ·rfl
theorem OF {a b:Loc}{q r:List Nat}{t u:Nat}:mG (.ptr a q t) (.ptr b r u)=decide (a=b):=nd rfl
noncomputable def yA (D:Nat→Option Fc) (args:List V) (s:St) (w f:V):Option (V×St):=if Hy s w=true then CQ D args s f else none
theorem G6 {f w:Opd}{args:List Opd}:rop D base ρ s (.callw f args w)=yA D (args.map (Opd.ev ρ)) s (w.ev ρ) (f.ev ρ):=by
 simp only[rop,yA];split
 ·cases f.ev ρ<;>rfl
 ·rfl
noncomputable def BY (D:Nat→Option Fc) (p:Bool) (k base g:Nat) (as:List V) (s:St):Option (V×St):=
 if(V.locLts k as&&(decide (base≤k)&&(decide (k≤s.loc.length)&&((s.loc.take k).drop base).all (bl k))))=true then
  ah (rf D g as ⟨s.loc.take k,s.hp⟩) fun x=>if x.2.loc=s.loc.take k∧(p=true→x.2.hp.take s.hp.length=s.hp)then some (x.1,⟨s.loc,x.2.hp⟩)else none
 else none
noncomputable def C9 (D:Nat→Option Fc) (p:Bool) (base:Nat) (args:List V) (s:St):V→Option (V×St)
 | .fn g caps=>BY D p (cP base (args++caps)) base g (args++caps) s
 |_=>none
theorem LY {p:Bool}{args:List V}{g:Nat}{caps:List V}:C9 D p base args s (.fn g caps)=BY D p (cP base (args++caps)) base g (args++caps) s:=nd rfl
theorem Hv {p:Bool}{f:Opd}{args:List Opd}:rop D base ρ s (.callk p f args)=C9 D p base (args.map (Opd.ev ρ)) s (f.ev ρ):=by
 simp only[rop];cases f.ev ρ with
 |fn g caps=>rfl
 |_=>rfl
def GQ (s:St) (t:Nat):V→Option V
 | .ptr (.loc i) q t'=>if t'=t then s.read (.loc i) q else none
 |_=>none
theorem PF {i:Nat}{q:List Nat}{t t':Nat}:GQ s t (.ptr (.loc i) q t')=if t'=t then s.read (.loc i) q else none:=nd rfl
theorem MI {t:Nat}:rop D base ρ s (.ldl t p)=ah (GQ s t (p.ev ρ)) fun v=>some (v,s):=by
 show evOp base ρ s (.ldl t p)=_;simp only[evOp];cases p.ev ρ with
 |ptr a q t'=>
  cases a with
  |loc i=>
   simp only[GQ];split
   ·cases s.read (.loc i) q<;>rfl
   ·rfl
  |hp i=>rfl
 |_=>rfl
def BU (base:Nat) (h:Bool) (r e:Nat) (s:St) (x y:V) (l:List V):Option (V×St):=if l.all (fun z=>iW z x)=true then aD base h r e x y s else none
theorem Ko {h:Bool}{r e:Nat}{x y:Opd}{l:List Opd}:rop D base ρ s (.appa h r e x y l)=BU base h r e s (x.ev ρ) (y.ev ρ) (l.map (Opd.ev ρ)):=by show evOp base ρ s (.appa h r e x y l)=_;simp only[evOp,BU,List.all_map];rfl
theorem PD {a b:Loc}{q r:List Nat}{t o l e:Nat}{c:Option Nat}:iW (.ptr a q t) (.sl b r o l c e)=decide (a≠b):=nd rfl
theorem KE {a:Loc}{q:List Nat}{t:Nat}:iW (.ptr a q t) .nils=true:=nd rfl
theorem Rp {a:Loc}{q:List Nat}{t:Nat}:Hy s (.ptr a q t)=(s.read a q).isSome:=nd rfl
theorem Mu {a b:Loc}{q r:List Nat}{t u:Nat}:ii (.ptr a q t) (.ptr b r u)=decide (a≠b):=nd rfl
theorem Te {i:Nat}{p:List Nat}{t:Nat}:V.lim1 (.ptr (.hp i) p t)=0:=nd rfl
theorem OX {i:Nat}{p:List Nat}{t:Nat}:V.lim1 (.ptr (.loc i) p t)=i+1:=nd rfl
theorem UJ {i:Nat}{p:List Nat}{o l:Nat}{c:Option Nat}{t:Nat}:V.lim1 (.sl (.loc i) p o l c t)=i+1:=nd rfl
theorem Qn {k:IntKind}{n:Int}:V.lim1 (.int k n)=0:=nd rfl
theorem NR {n:Bool}:V.lim1 (.bool n)=0:=nd rfl
theorem Qt {t:Nat}{l:List V}:V.lim1 (.agg t l)=0:=nd rfl
theorem Us {t:Nat}{l:List V}:V.lim1 (.fn t l)=0:=nd rfl
theorem PC:Il base []=base:=nd rfl
theorem ML {v:V}{l:List V}:Il base (v::l)=max v.lim1 (Il base l):=nd rfl
end ops
theorem vm {α β γ:Type}{x:Option α}{f:α→Option β}{g:β→Option γ}:ah (ah x f) g=ah x fun a=>ah (f a) g:=by cases x<;>rfl
theorem Je {α β:Type}{v:V}{f:Bool→Option α}{g:α→Option β}:ah (sX v f) g=sX v fun t=>ah (f t) g:=by cases v<;>rfl
theorem Ns {α β:Type}{c:Prop}[Decidable c] {x:Option α}{g:α→Option β}:ah (if c then x else none) g=if c then ah x g else none:=by split<;>rfl
theorem Er {α β:Type}{x:Option α}{f g:α→Option β}(h:∀a,f a=g a):ah x f=ah x g:=by cases x<;>simp only[ah,Option.bind_none,Option.bind_some,h]
noncomputable def r1 (D:Nat→Option Fc) (base:Nat) (ρ:Env) (s:St) {α:Type}(o:Op') (K:V→St→Option α):Option α:=
 match o with
 | .mv x=>K (x.ev ρ) s
 | .pick c a b=>sX (c.ev ρ) fun t=>K (if t then a.ev ρ else b.ev ρ) s
 | .alloc h z=>K (.ptr (s.fresh h) [] z.tag) (s.new h z)
 | .box h x=>if(x.ev ρ).ok&&bi h (x.ev ρ)then K (.ptr (s.fresh h) [] (x.ev ρ).tag) (s.new h (x.ev ρ))else none
 | .ld t p=>ah (ldv s t (p.ev ρ)) fun v=>K v s
 | .st t p x=>ah (stv base s t (x.ev ρ) (p.ev ρ)) fun s'=>K .dead s'
 | .nilc x=>ah (GD (x.ev ρ)) fun v=>K v s
 | .bin o x y=>ah (mO o (x.ev ρ) (y.ev ρ)) fun v=>K v s
 | .un o x=>ah (vun o (x.ev ρ)) fun v=>K v s
 | .conv k x=>ah (Fs k (x.ev ρ)) fun v=>K v s
 | .fad t f c x=>ah (mi t f c (x.ev ρ)) fun v=>K v s
 | .iad t n e x i=>ah (AJ t n e (x.ev ρ) (i.ev ρ)) fun v=>K v s
 | .sad e x i=>ah (eD e (x.ev ρ) (i.ev ρ)) fun v=>K v s
 | .fld t f x=>ah (HG t f (x.ev ρ)) fun v=>K v s
 | .s2a n e x=>ah (G0 n e (x.ev ρ)) fun v=>K v s
 | .ldr t n e u x=>ah (Fz s t n e u (x.ev ρ)) fun v=>K v s
 | .mkm=>K (.mp (some s.hp.length)) ⟨s.loc,s.hp++[.mp []]⟩
 | .mlk x i=>ah (my (x.ev ρ) (i.ev ρ) s) fun v=>K v s
 | .mup x i y=>ah (i7 (x.ev ρ) (i.ev ρ) (y.ev ρ) s) fun s'=>K .dead s'
 | .idx t n x i=>ah (HK t n (x.ev ρ) (i.ev ρ)) fun v=>K v s
 | .sidx x i=>ah (Cv (x.ev ρ) (i.ev ρ)) fun v=>K v s
 | .ext x n=>ah (Ip n (x.ev ρ)) fun v=>K v s
 | .lenk n=>K (.int .i64 n) s
 | .len q x=>ah (V.slen q (x.ev ρ)) fun n=>K (.int .i64 n) s
 | .slc e x lo hi mx=>ah (gU e (lo.map (Opd.ev ρ)) (hi.map (Opd.ev ρ)) (mx.map (Opd.ev ρ)) (x.ev ρ)) fun v=>K v s
 | .slarr t n e x lo hi mx=>ah (zh s t n e (lo.map (Opd.ev ρ)) (hi.map (Opd.ev ρ)) (mx.map (Opd.ev ρ)) (x.ev ρ)) fun v=>K v s
 | .eq neg t x y=>ah (eqv neg t (x.ev ρ) (y.ev ρ)) fun v=>K v s
 | .mkfn f caps=>ah (Ch f (caps.map (Opd.ev ρ))) fun v=>K v s
 | .slstr x lo hi=>ah (zs (lo.map (Opd.ev ρ)) (hi.map (Opd.ev ρ)) (x.ev ρ)) fun v=>K v s
 | .mksl h r e z n c=>ah (Fp h r e z s (n.ev ρ) (c.ev ρ)) fun x=>K x.1 x.2
 | .app h r e x y=>ah (aD base h r e (x.ev ρ) (y.ev ρ) s) fun x=>K x.1 x.2
 | .bsl h r e z n ps=>ah (Ii h r e n z s (ps.map fun p=>(p.1,p.2.ev ρ))) fun x=>K x.1 x.2
 | .cpy e x y=>ah (iw base e (x.ev ρ) (y.ev ρ) s) fun x=>K x.1 x.2
 | .mnx mx x y=>ah (nJ mx (x.ev ρ) (y.ev ρ)) fun v=>K v s
 | .bld z ps=>match z with
  | .agg t l=>ah (bf l (ps.map fun p=>(p.1,p.2.ev ρ))) fun l'=>K (.agg t l') s
  |_=>none
 | .call f args=>ah (CQ D (args.map (Opd.ev ρ)) s (f.ev ρ)) fun x=>K x.1 x.2
 | .pcall f args=>ah (Ct D base (args.map (Opd.ev ρ)) s (f.ev ρ)) fun v=>K v s
 | .sta t p x l=>ah (G9 base s t (x.ev ρ) (p.ev ρ) (l.map (Opd.ev ρ))) fun s'=>K .dead s'
 | .callw f args w=>ah (yA D (args.map (Opd.ev ρ)) s (w.ev ρ) (f.ev ρ)) fun x=>K x.1 x.2
 | .lda t p r=>ah (Gx s t (p.ev ρ) (r.ev ρ)) fun v=>K v s
 | .callk p f args=>ah (C9 D p base (args.map (Opd.ev ρ)) s (f.ev ρ)) fun x=>K x.1 x.2
 | .ldl t p=>ah (GQ s t (p.ev ρ)) fun v=>K v s
 | .appa h r e x y l=>ah (BU base h r e s (x.ev ρ) (y.ev ρ) (l.map (Opd.ev ρ))) fun x=>K x.1 x.2
theorem NX {α:Type}{o:Op'}{K:V→St→Option α}:ah (rop D base ρ s o) (fun x=>K x.1 x.2)=r1 D base ρ s o K:=by
 cases o with
 |bld z ps=>
  cases z with
  |agg t l=>simp only[r1,Nd,vm,aP]
  |_=>rfl
 |pcall f args=>simp only[r1,HI,vm,aP]
 |box h x=>simp only[r1,NF,Ns,aP]
 |_=>simp only[r1,RN,JK,Gc,KK,La,Kq,N5,RP,Kc,MK,LX,NO,NM,Mb,Kn,Nc,JC,Md,N7,HB,Jw,RE,EB,BW,D5,NU,Oe,Mk,FZ,N6,G6,MC,Hv,MI,Ko,OB,Oc,MU,Ol,Nb,vm,aP,Je]
noncomputable def rgO (D:Nat→Option Fc) (base:Nat) (ks:List Nat):List Op→Env→St→Option (Ex×Env×St)
 |[],ρ,s=>some (Ex.normal,restrict ks ρ,s)
 |op::rest,ρ,s=>match op.guard with
  |none=>r1 D base ρ s op.op fun v s'=>rgO D base ks rest (put op.dst v ρ) s'
  |some (t,b)=>lS (get ρ t) b (r1 D base ρ s op.op fun v s'=>rgO D base ks rest (put op.dst v ((t,.bool b)::ρ)) s') (rgO D base ks rest (put op.dst (.tup []) ((t,.bool !b)::ρ)) s) (rgO D base ks rest (put op.dst (.tup []) ((t,.tup [])::ρ)) s)
theorem vH {ks:List Nat}:∀{l:List Op}{ρ:Env}{s:St},rg D base ks l ρ s=rgO D base ks l ρ s
 |[],ρ,s=>by rw[Vi];rfl
 |⟨d,none,o⟩::l,ρ,s=>by rw[XJ];simp only[rgO];rw[←NX];exact Er fun x=>vH
 |⟨d,some (t,b),o⟩::l,ρ,s=>by rw[XI];simp only[rgO];refine CV (fun _=> ?_) (fun _=>vH) (fun _=>vH);rw[←NX];exact Er fun x=>vH
theorem QZ {ks:List Nat}{l:List Op}:rc D base (.reg (some ks) l) ρ s=rgO D base ks l ρ s:=WI.trans vH
theorem Mh {ks:List Nat}{l:List Op}:rc D base (.regd (some ks) l) ρ s=rgO D base ks l ρ s:=Ti.trans vH
theorem KV {y d:Nat}:ao y none d=some d:=nd rfl
theorem Og {y d:Nat}{k:IntKind}{i:Int}:ao y (some (.int k i)) d=if 0≤i∧i≤y then some i.toNat else none:=nd rfl
theorem TP:s.fresh true= .hp s.hp.length:=nd rfl
theorem Ul:s.fresh false= .loc s.loc.length:=nd rfl
theorem Xw {v:V}:s.new true v=⟨s.loc,s.hp++[.rw v]⟩:=nd rfl
theorem Xj {v:V}:s.new false v=⟨s.loc++[.rw v],s.hp⟩:=nd rfl
theorem OT {v:V}:bi false v=true:=nd rfl
theorem AG {v:V}:bi true v=v.locLt 0:=nd rfl
def Blk.rd (p:List Nat):Option Blk→Option V
 |some (.rw v)=>V.at p v
 |some (.ro v)=>V.at p v
 |_=>none
theorem xm {p:List Nat}{v:V}:Blk.rd p (some (.rw v))=V.at p v:=nd rfl
theorem Ld {p:List Nat}{v:V}:Blk.rd p (some (.ro v))=V.at p v:=nd rfl
theorem tA {i:Nat}{p:List Nat}:s.read (.loc i) p=Blk.rd p s.loc[i]?:=nd rfl
theorem qS {i:Nat}{p:List Nat}:s.read (.hp i) p=Blk.rd p s.hp[i]?:=nd rfl
def Blk.wr (p:List Nat) (x:V):Option Blk→Option Blk
 |some (.rw v)=>(V.setAt p x v).map .rw
 |_=>none
theorem Xa {p:List Nat}{x v:V}:Blk.wr p x (some (.rw v))=(V.setAt p x v).map .rw:=nd rfl
theorem Mz {i:Nat}{p:List Nat}{x:V}:s.write base (.loc i) p x=if x.locLt 0||decide (base≤i)then(Blk.wr p x s.loc[i]?).map fun b=>⟨s.loc.set i b,s.hp⟩else none:=by
 simp only[St.write,St.at];cases s.loc[i]? with
 |none=>simp[Blk.wr]
 |some b=>
  cases b with
  |rw v=>
   simp only[Blk.wr];rw[show(x.locLt 0||decide (base≤i))=fM base (.loc i) x from rfl]
   by_cases hc:fM base (.loc i) x=true
   ·rw[if_pos hc,if_pos hc];cases V.setAt p x v<;>rfl
   ·rw[if_neg hc,if_neg hc]
  |_=>simp[Blk.wr]
theorem P9 {i:Nat}{p:List Nat}{x:V}:s.write base (.hp i) p x=if x.locLt 0 then(Blk.wr p x s.hp[i]?).map fun b=>⟨s.loc,s.hp.set i b⟩else none:=by
 simp only[St.write,St.at];cases s.hp[i]? with
 |none=>simp[Blk.wr]
 |some b=>
  cases b with
  |rw v=>
   simp only[Blk.wr];rw[show x.locLt 0=fM base (.hp i) x from rfl]
   by_cases hc:fM base (.hp i) x=true
   ·rw[if_pos hc,if_pos hc];cases V.setAt p x v<;>rfl
   ·rw[if_neg hc,if_neg hc]
  |_=>simp[Blk.wr]
theorem nX {v:V}:V.at [] v=some v:=nd rfl
theorem DC {i:Nat}{p:List Nat}{t:Nat}{l:List V}:V.at (i::p) (.agg t l)=ah l[i]? (V.at p):=by simp only[V.at];cases l[i]?<;>rfl
theorem Nm {x v:V}:V.setAt [] x v=some x:=nd rfl
theorem Ls {i:Nat}{p:List Nat}{t:Nat}{l:List V}{x:V}:V.setAt (i::p) x (.agg t l)=ah l[i]? fun y=>ah (V.setAt p x y) fun y'=>some (.agg t (l.set i y')):=by
 simp only[V.setAt];cases l[i]? with
 |none=>rfl
 |some y=>simp only[aP];cases V.setAt p x y<;>rfl
theorem zO {α:Type}{l m:List α}{i:Nat}:(l++m)[l.length+i]?=m[i]?:=by rw[List.getElem?_append_right (Nat.le_add_right _ _),Nat.add_sub_cancel_left]
theorem Ih {α:Type}{l m:List α}:(l++m)[l.length]?=m[0]?:=zO (i:=0)
theorem Jn {α:Type}{l m:List α}{i:Nat}{x:α}:(l++m).set (l.length+i) x=l++m.set i x:=by rw[List.set_append_right _ _ (Nat.le_add_right _ _),Nat.add_sub_cancel_left]
theorem wF {α:Type}{l m:List α}{x:α}:(l++m).set l.length x=l++m.set 0 x:=Jn (i:=0)
theorem Qq {α:Type}{l m:List α}{i:Nat}:(l++m).take (l.length+i)=l++m.take i:=by rw[List.take_append,List.take_of_length_le (Nat.le_add_right _ _),Nat.add_sub_cancel_left]
theorem MB {α:Type}{l m:List α}:(l++m).take l.length=l:=by rw[List.take_append];simp
theorem PZ {α:Type}{l m:List α}:(l++m).drop l.length=m:=List.drop_left
theorem KB {b:Nat}:V.locLts b []=true:=by simp only[V.locLts]
theorem Iz {b:Nat}{v:V}{l:List V}:V.locLts b (v::l)=(v.locLt b&&V.locLts b l):=by simp only[V.locLts]
section
variable {b : Nat}
theorem SP {x:Bool}:V.locLt b (.bool x)=true:=by simp only[V.locLt]
theorem Vh {k:IntKind}{x:Int}:V.locLt b (.int k x)=true:=by simp only[V.locLt]
theorem Vf {x:ByteArray}:V.locLt b (.str x)=true:=by simp only[V.locLt]
theorem S6:V.locLt b .nilp=true:=by simp only[V.locLt]
theorem SK:V.locLt b .nils=true:=by simp only[V.locLt]
theorem Xg {o:Option Nat}:V.locLt b (.mp o)=true:=by simp only[V.locLt]
theorem SQ:V.locLt b .nilf=true:=by simp only[V.locLt]
theorem Uz:V.locLt b .dead=true:=by simp only[V.locLt]
theorem WM {i:Nat}{p:List Nat}{t:Nat}:V.locLt b (.ptr (.hp i) p t)=true:=by simp only[V.locLt]
theorem SF {i:Nat}{p:List Nat}{o l e:Nat}{c:Option Nat}:V.locLt b (.sl (.hp i) p o l c e)=true:=by simp only[V.locLt]
theorem Wv {i:Nat}{p:List Nat}{t:Nat}:V.locLt b (.ptr (.loc i) p t)=decide (i<b):=by simp only[V.locLt]
theorem PJ {i:Nat}{p:List Nat}{o l e:Nat}{c:Option Nat}:V.locLt b (.sl (.loc i) p o l c e)=decide (i<b):=by simp only[V.locLt]
theorem WY {f:Nat}{l:List V}:V.locLt b (.fn f l)=V.locLts b l:=by simp only[V.locLt]
theorem WH {l:List V}:V.locLt b (.tup l)=V.locLts b l:=by simp only[V.locLt]
theorem B9 {t:Nat}{l:List V}:V.locLt b (.agg t l)=(t%2==0||V.locLts b l):=by simp only[V.locLt]
end
theorem P2 {b:Nat}{v:V}:bl b (.rw v)=v.locLt b:=nd rfl
theorem P3 {b:Nat}{l:List Int}:bl b (.mp l)=true:=nd rfl
theorem Rb {b:Nat}{v:V}:bl b (.ro v)=v.locLt b:=nd rfl
theorem LE {b:Nat}:bl b .dead=true:=nd rfl
theorem Jf {n:Nat}{res:List RV}:pB n res (.ret,ρ,s)=ah (f9 ρ s res) fun v=>if v.locLt n∧n≤s.loc.length then some (v,{s with loc:=s.loc.take n})else none:=by rw[OD];cases f9 ρ s res<;>rfl
theorem DQ {n:Nat}{res:List RV}:pB n res (.normal,ρ,s)=ah (f9 ρ s res) fun v=>if v.locLt n∧n≤s.loc.length then some (v,{s with loc:=s.loc.take n})else none:=by rw[GA];cases f9 ρ s res<;>rfl
theorem XQ {n:Nat}:RV.ev ρ s (.t n)=some (get ρ n):=nd rfl
theorem S9 {n q:Nat}:RV.ev ρ s (.cell n q)=ldv s q (get ρ n):=by simp only[RV.ev];cases get ρ n<;>rfl
theorem Kt:f9 ρ s []=some (.tup []):=nd rfl
theorem Ms {r:RV}:f9 ρ s [r]=RV.ev ρ s r:=by simp only[f9,List.mapM_cons,List.mapM_nil];cases RV.ev ρ s r<;>rfl
theorem MY {r q:RV}:f9 ρ s [r,q]=ah (RV.ev ρ s r) fun a=>ah (RV.ev ρ s q) fun b=>if a.ok&&b.ok then some (.tup [a,b])else none:=by
 simp only[f9,List.mapM_cons,List.mapM_nil];cases RV.ev ρ s r with
 |none=>rfl
 |some a=>
  cases RV.ev ρ s q with
  |none=>rfl
  |some b=>simp[List.all,aP]
theorem IK {r q p:RV}:f9 ρ s [r,q,p]=ah (RV.ev ρ s r) fun a=>ah (RV.ev ρ s q) fun b=>ah (RV.ev ρ s p) fun c=>if a.ok&&b.ok&&c.ok then some (.tup [a,b,c])else none:=by
 simp only[f9,List.mapM_cons,List.mapM_nil];cases RV.ev ρ s r with
 |none=>rfl
 |some a=>
  cases RV.ev ρ s q with
  |none=>rfl
  |some b=>
   cases RV.ev ρ s p with
   |none=>rfl
   |some c=>simp[List.all,Bool.and_assoc,aP]
section
variable {c : Prop} [Decidable c]
theorem KO {ρ':Env}{s':St}:(if c then some (Ex.normal,ρ,s)else some (Ex.normal,ρ',s'))=some (Ex.normal,if c then ρ else ρ',if c then s else s'):=by split<;>rfl
theorem Qf {id:Nat}{ρ':Env}{s':St}:(if c then some (Ex.exit id,ρ,s)else some (Ex.exit id,ρ',s'))=some (Ex.exit id,if c then ρ else ρ',if c then s else s'):=by split<;>rfl
theorem Ta {ρ':Env}{s':St}:(if c then some (Ex.ret,ρ,s)else some (Ex.ret,ρ',s'))=some (Ex.ret,if c then ρ else ρ',if c then s else s'):=by split<;>rfl
theorem Um {k:Nat}{v v':V}{ρ':Env}:(if c then(k,v)::ρ else(k,v')::ρ')=(k,if c then v else v')::(if c then ρ else ρ'):=by split<;>rfl
theorem Vm {v v':V}{s':St}:(if c then some (v,s)else some (v',s'))=some (if c then v else v',if c then s else s'):=by split<;>rfl
theorem MO {a b:Bool}:(if c then V.bool a else V.bool b)=V.bool (if c then a else b):=by split<;>rfl
theorem QX {k:IntKind}{a b:Int}:(if c then V.int k a else V.int k b)=V.int k (if c then a else b):=by split<;>rfl
theorem OV {t:Nat}{l l':List V}:(if c then V.agg t l else V.agg t l')=V.agg t (if c then l else l'):=by split<;>rfl
theorem Qm {l l':List V}:(if c then V.tup l else V.tup l')=V.tup (if c then l else l'):=by split<;>rfl
theorem Nj {v v':V}{l l':List V}:(if c then v::l else v'::l')=(if c then v else v')::(if c then l else l'):=by split<;>rfl
theorem MZ {v v':Blk}{l l':List Blk}:(if c then v::l else v'::l')=(if c then v else v')::(if c then l else l'):=by split<;>rfl
theorem Ts {v v':V}:(if c then Blk.rw v else Blk.rw v')=Blk.rw (if c then v else v'):=by split<;>rfl
theorem Wk {l l' h h':List Blk}:(if c then St.mk l h else St.mk l' h')=St.mk (if c then l else l') (if c then h else h'):=by split<;>rfl
theorem TQ {l m m':List Blk}:(if c then l++m else l++m')=l++(if c then m else m'):=by split<;>rfl
theorem OC {b:C}{y:Option (Ex×Env×St)}:ah (if c then some (.ret,ρ,s)else y) (andThen D base b)=if c then some (.ret,ρ,s)else ah y (andThen D base b):=by split<;>rfl
theorem KX {b:C}{y:Option (Ex×Env×St)}:ah (if c then y else some (.ret,ρ,s)) (andThen D base b)=if c then ah y (andThen D base b)else some (.ret,ρ,s):=by split<;>rfl
theorem K8 {b:C}{y:Option (Ex×Env×St)}{id:Nat}:ah (if c then some (.exit id,ρ,s)else y) (andThen D base b)=if c then some (.exit id,ρ,s)else ah y (andThen D base b):=by split<;>rfl
theorem IU {b:C}{y:Option (Ex×Env×St)}{id:Nat}:ah (if c then y else some (.exit id,ρ,s)) (andThen D base b)=if c then ah y (andThen D base b)else some (.exit id,ρ,s):=by split<;>rfl
theorem I5 {n:Nat}{res:List RV}{x y:Option (Ex×Env×St)}:ah (if c then x else y) (pB n res)=if c then ah x (pB n res)else ah y (pB n res):=yt
theorem I4 {id:Nat}{x y:Option (Ex×Env×St)}:ah (if c then x else y) (ur id)=if c then ah x (ur id)else ah y (ur id):=yt
theorem I8 {n:Nat}{keep:List Nat}{b:C}{x y:Option (Ex×Env×St)}:ah (if c then x else y) (lL D base n keep b)=if c then ah x (lL D base n keep b)else ah y (lL D base n keep b):=yt
end
theorem V7:St.mk s.loc s.hp=s:=nd rfl
theorem LA:s.elems .nils=some []:=nd rfl
def JD (off len:Nat):Option V→Option (List V)
 |some (.agg _ l)=>if off+len≤l.length then some ((l.drop off).take len)else none
 |_=>none
theorem IF {off len t:Nat}{l:List V}:JD off len (some (.agg t l))=if off+len≤l.length then some ((l.drop off).take len)else none:=nd rfl
theorem Pp {a:Loc}{path:List Nat}{off len:Nat}{cap:Option Nat}{e:Nat}:s.elems (.sl a path off len cap e)=if len=0 then some []else JD off len (s.read a path):=by
 simp only[St.elems];cases s.read a path with
 |none=>rfl
 |some v=>cases v<;>rfl
section
variable {a : Loc} {p : List Nat} {off len e e' t t' n f u : Nat} {cap : Option Nat} {k k' : IntKind} {j m : Int} {b : Bool} {sb sc : ByteArray} {l : List V} {lo hi mx : Option V} {o : BinOp}
theorem ND:V.slen false .nils=some 0:=nd rfl
theorem R5:V.slen false (.sl a p off len cap e)=some len:=nd rfl
theorem Qp:V.slen true (.str sb)=some sb.size:=nd rfl
theorem TZ:eD e (.sl a p off len cap e') (.int k j)=if e'=e∧0≤j∧j<len then some (.ptr a (p++[off+j.toNat]) e)else none:=nd rfl
theorem PV:AJ t n e (.ptr a p t') (.int k j)=if t'=t∧0≤j∧j<n then some (.ptr a (p++[j.toNat]) e)else none:=nd rfl
theorem QJ:mi t f u (.ptr a p t')=if t'=t then some (.ptr a (p++[f]) u)else none:=nd rfl
theorem OK:HG t f (.agg t' l)=if t'=t then l[f]? else none:=nd rfl
theorem PO:HK t n (.agg t' l) (.int k j)=if t'=t∧0≤j∧j<n then l[j.toNat]? else none:=nd rfl
theorem Ov:Cv (.str sb) (.int k j)=if 0≤j then(sb[j.toNat]?).map fun c=> .int .u8 c.toNat else none:=nd rfl
theorem Uo:gU e lo hi mx (.sl a p off len cap e')=if e'=e then
 ah (ao (cap.getD len) mx (cap.getD len)) fun m=>ah (ao (kL mx.isSome m len) hi len) fun h=>ah (ao h lo 0) fun l=>
  some (.sl a p (off+l) (h-l) (nI mx.isSome cap (m-l)) e)else none:=nd rfl
theorem N8:gU e lo hi mx .nils=ah (ao 0 mx 0) fun _=>ah (ao 0 hi 0) fun _=>ah (ao 0 lo 0) fun _=>some .nils:=nd rfl
theorem Ll:zs lo hi (.str sb)=ah (ao sb.size hi sb.size) fun h=>ah (ao h lo 0) fun l=>some (.str (sb.extract l h)):=nd rfl
theorem Sd {n e e' off len:Nat}{a:Loc}{path:List Nat}{c:Option Nat}:G0 n e (.sl a path off len c e')=if e'=e∧0<n∧n≤len then some (.ptr a (path++[off]) e)else none:=nd rfl
theorem QR {n u e e':Nat}{a:Loc}{q:List Nat}:Fz s t n e u (.ptr a q e')=if e'=e then(s.part n u a q).map (.agg t)else none:=nd rfl
theorem K3:zh s t n e lo hi mx (.ptr a p t')=if t'=t∧(s.read a p).isSome=true then ah (ao n mx n) fun m=>ah (ao m hi n) fun h=>ah (ao h lo 0) fun l=>some (.sl a p l (h-l) (some (m-l)) e)else none:=nd rfl
theorem Qa:mO o (.int k j) (.int k' m)=if BinOp.isShift o then shf o k j m else if k=k' then DD o k j m else none:=nd rfl
theorem Re:mO o (.str sb) (.str sc)=DM o sb sc:=nd rfl
theorem SJ:vun .not (.bool b)=some (.bool !b):=nd rfl
theorem TR:vun .neg (.int k j)=some (.int k (k.wrap (0-j))):=nd rfl
theorem Sp:vun .xor (.int k j)=some (.int k (gA k (if k.signed then-1 else k.max) j)):=nd rfl
theorem PE:nJ b (.int k j) (.int k' m)=if k=k' then some (.int k (if b then max j m else min j m))else none:=nd rfl
theorem Ma {h:Bool}{r:Nat}{z:V}:Fp h r e z s (.int k j) (.int k' m)=if 0≤j∧j≤m∧m≤cg then
 some (.sl (s.fresh h) [] 0 j.toNat (some m.toNat) e,s.new h (.agg r (List.replicate j.toNat z)))else none:=nd rfl
theorem Px:V.tag (.bool b)=0:=nd rfl
theorem SH:V.tag (.int k j)=jL k:=nd rfl
theorem Ur:V.tag (.str sb)=2:=nd rfl
theorem Ux:V.tag (.agg t l)=t:=nd rfl
theorem UC:V.tag (.ptr a p t)=1:=nd rfl
theorem Ql:V.tag .nilp=1:=nd rfl
theorem VW:V.tag (.sl a p off len cap e)=1:=nd rfl
theorem PG:V.tag .nils=1:=nd rfl
theorem VM:V.tag (.fn f l)=1:=nd rfl
theorem Rr:V.tag .nilf=1:=nd rfl
theorem UN {o:Option Nat}:V.tag (.mp o)=1:=nd rfl
theorem Xf {o:Option Nat}:V.ok (.mp o)=true:=nd rfl
theorem TY {m:List Int}:HU (some (.mp m))=some m:=nd rfl
theorem Sf:V.ok (.bool b)=true:=nd rfl
theorem WG:V.ok (.int k j)=true:=nd rfl
theorem VB:V.ok (.str sb)=true:=nd rfl
theorem Vp:V.ok (.agg t l)=true:=nd rfl
theorem Vc:V.ok (.ptr a p t)=true:=nd rfl
theorem T9:V.ok .nilp=true:=nd rfl
theorem Xh:V.ok (.sl a p off len cap e)=true:=nd rfl
theorem Sq:V.ok .nils=true:=nd rfl
theorem Xs:V.ok (.fn f l)=true:=nd rfl
theorem Ua:V.ok .nilf=true:=nd rfl
end
theorem Tt:ew 1 .nilp .nilp=some true:=nd rfl
theorem To {a:Loc}{p:List Nat}{t:Nat}:ew 1 .nilp (.ptr a p t)=some false:=nd rfl
theorem TW {a:Loc}{p:List Nat}{t:Nat}:ew 1 (.ptr a p t) .nilp=some false:=nd rfl
theorem PN:ew 3 .nils .nils=some true:=nd rfl
theorem Pj {a:Loc}{p:List Nat}{o l e:Nat}{c:Option Nat}:ew 3 .nils (.sl a p o l c e)=some false:=nd rfl
theorem Pv {a:Loc}{p:List Nat}{o l e:Nat}{c:Option Nat}:ew 3 (.sl a p o l c e) .nils=some false:=nd rfl
theorem QV:ew 5 .nilf .nilf=some true:=nd rfl
theorem OO {f:Nat}{l:List V}:ew 5 .nilf (.fn f l)=some false:=nd rfl
theorem O0 {f:Nat}{l:List V}:ew 5 (.fn f l) .nilf=some false:=nd rfl
theorem QS {t:Nat}{x y:V}(h1:t≠1) (h3:t≠3) (h5:t≠5):ew t x y=if x.tag=t∧y.tag=t then veq x y else none:=by
 unfold ew;split
 ·exact absurd rfl h1
 ·exact absurd rfl h3
 ·exact absurd rfl h5
 ·rfl
theorem O9 {a b:Bool}:veq (.bool a) (.bool b)=some (a==b):=by simp only[veq]
theorem Jr {k k':IntKind}{a b:Int}:veq (.int k a) (.int k' b)=if k=k' then some (decide (a=b))else none:=by simp only[veq]
theorem R1 {a b:ByteArray}:veq (.str a) (.str b)=some (a.toList==b.toList):=by simp only[veq]
theorem Ju {t t':Nat}{l l':List V}:veq (.agg t l) (.agg t' l')=if t=t' then dL l l' else none:=by simp only[veq]
theorem FG:dL [] []=some true:=by simp only[dL]
theorem EU {v v':V}{l l':List V}:dL (v::l) (v'::l')=ah (veq v v') fun b=>if b=true then dL l l' else some false:=by
 simp only[dL];cases veq v v' with
 |none=>rfl
 |some b=>cases b<;>rfl
attribute [go_sem] SX QN UU R8 Pz DA I3 Ig MG KU E7 KW Ji O2 Hh MH Ky
 IC Lt QU Qu Qv HQ EY IL IN XU XY Q5 Od
 RN JK Gc NF KK La Kq N5 RE RP Kc EB D5 N7 BW HB MK LX NO NM Mb Kn Nc JC Md NU Oe Mk Nd FZ Jw HI N6 G6 MC Hv MI Ko OB Oc MU Ol Nb WC VJ TY UN Xf Xg P3 Sd QR BU PD KE LY BY PF Gx OF QC Ow P1 Qg PI QK My Lv IX LR and_true G9 yA Rp Mu ne_eq Loc.loc.injEq Loc.hp.injEq
 PE eqv Ch Ma Ii Ll T7 UE QQ UG Ny Uo N8 K3 QJ PV TZ OK PO Ov Qs OS Oa vP cP PC ML Te OX UJ Qn NR Qt Us Nat.le_refl Nat.le_add_right List.drop_length KV Og ND R5 Qp
 Px SH Ur Ux UC Ql VW PG VM Rr Sf WG VB Vp Vc T9 Xh Sq Xs Ua
 TP Ul Xw Xj OT AG xm Ld tA qS Xa Mz P9 nX DC Nm Ls
 zO Ih Jn wF Qq MB PZ
 KB Iz SP Vh Vf S6 SK SQ Uz WM SF Wv PJ WY WH B9 P2 Rb LE
 XQ S9 Kt Ms MY IK Jf DQ LA IF Pp
 V7 KO Qf Ta Um Vm MO QX OV Qm Nj MZ Ts Wk TQ OC KX K8 IU I5 I4 I8 ite_self Bool.if_true_left Bool.if_true_right Bool.if_false_left Bool.if_false_right
 kL nI Option.isSome_none Option.isSome_some
 jL Qa Re DD shf DM BinOp.isShift SJ TR Sp Tt To TW PN Pj Pv QV OO O0 QS O9 Jr R1 Ju FG EU bf kB
 aP KM KF Option.bind_some Option.bind_none Option.map_some Option.map_none Option.getD_some Option.getD_none
 List.map_cons List.map_nil List.cons_append List.nil_append List.append_assoc List.append_nil List.length_append List.length_cons List.length_nil List.getElem?_cons_zero List.getElem?_cons_succ List.getElem?_nil List.set_cons_zero List.set_cons_succ List.take_succ_cons List.take_zero List.take_length List.drop_zero List.drop_succ_cons
 List.all_cons List.all_nil Nat.zero_add Nat.add_zero if_true if_false ite_true ite_false Bool.true_and Bool.and_true Bool.false_or Bool.or_false Bool.true_or Bool.or_true Bool.false_and Bool.and_false Bool.not_true Bool.not_false
 eq_self true_and and_true false_and and_false true_or or_true false_or or_false Bool.false_eq_true not_true_eq_false not_false_eq_true decide_true decide_false Zi decide_eq_false_iff_not Bool.not_eq_true Bool.not_eq_false Nat.reduceEqDiff Nat.reduceAdd Nat.reduceMod reduceIte Nat.le_refl Nat.le_add_right and_self or_self beq_self_eq_true reduceCtorEq
 Int.cast_ofNat_Int Int.reduceEq Int.reduceLT Int.reduceLE Int.reduceNeg Int.reduceToNat Int.reduceAdd Int.reduceSub Int.reduceMul Nat.reduceSub Nat.reduceMul Nat.reduceLT Nat.reduceLeDiff
instance (n:Nat):OfNat Opd n:=⟨.t n⟩
abbrev zf (n:Nat):Opd:= .k (.fn n [])
abbrev OR:=Option (Ex×Env×St)
def oif {α:Type}(c:Bool) (x:Option α):Option α:=if c then x else none
noncomputable abbrev peG:List (Nat×V)→Env→Nat→V
 |[],ρ,t=>get ρ t
 |(k,v)::l,ρ,t=>match Nat.beq k t with|true=>v|false=>peG l ρ t
noncomputable abbrev peE (l:List (Nat×V)) (ρ:Env):Opd→V
 | .t n=>peG l ρ n
 | .k v=>v
noncomputable abbrev peL (l:List (Nat×V)) (ρ:Env):List Opd→List V
 |[]=>[]
 |x::r=>peE l ρ x::peL l ρ r
noncomputable abbrev peO (l:List (Nat×V)) (ρ:Env):Option Opd→Option V
 |none=>none
 |some x=>some (peE l ρ x)
noncomputable abbrev peP (l:List (Nat×V)) (ρ:Env):List (Nat×Opd)→List (Nat×V)
 |[]=>[]
 |(n,x)::r=>(n,peE l ρ x)::peP l ρ r
noncomputable abbrev peR (l:List (Nat×V)) (ρ:Env):List Nat→Env
 |[]=>[]
 |k::r=>(k,peG l ρ k)::peR l ρ r
noncomputable abbrev peK:List (Nat×Option (Option Bool))→Nat→Option (Option Bool)
 |[],_=>none
 |(k,v)::l,t=>match Nat.beq k t with|true=>v|false=>peK l t
noncomputable abbrev Gi (g:List (Nat×Option (Option Bool))):Opd→Option (Option Bool)
 | .t n=>peK g n
 | .k (.bool x)=>some (some x)
 | .k _=>none
noncomputable abbrev peB:Bool→Bool→Bool
 |true,true=>true
 |false,false=>true
 |_,_=>false
noncomputable abbrev peN:Bool→Bool
 |true=>false
 |false=>true
noncomputable abbrev wz (d:Option Nat) (v:V) (l:List (Nat×V)):List (Nat×V):=match d with
 |some k=>(k,v)::l
 |none=>l
noncomputable abbrev w7 (d:Option Nat) (v:Option (Option Bool)) (l:List (Nat×Option (Option Bool))):List (Nat×Option (Option Bool)):=match d with
 |some k=>(k,v)::l
 |none=>l
noncomputable abbrev peW (g:List (Nat×Option (Option Bool))):Op'→Option (Option Bool)
 | .mv x=>Gi g x
 | .pick c a b=>match Gi g c with
  |some (some true)=>Gi g a
  |some (some false)=>Gi g b
  |_=>none
 |_=>none
noncomputable abbrev pe1 (D:Nat→Option Fc) (base:Nat) (g:List (Nat×Option (Option Bool))) (l:List (Nat×V)) (ρ:Env) (s:St) (o:Op') (K:V→St→OR):OR:=
 match o with
 | .mv x=>K (peE l ρ x) s
 | .pick c a b=>match Gi g c with
  |some (some true)=>K (peE l ρ a) s
  |some (some false)=>K (peE l ρ b) s
  |some none=>none
  |none=>sX (peE l ρ c) fun t=>K (if t=true then peE l ρ a else peE l ρ b) s
 | .alloc h z=>K (.ptr (s.fresh h) [] z.tag) (s.new h z)
 | .box h x=>oif (V.ok (peE l ρ x)&&bi h (peE l ρ x)) (K (.ptr (s.fresh h) [] (V.tag (peE l ρ x))) (s.new h (peE l ρ x)))
 | .ld t p=>ah (ldv s t (peE l ρ p)) fun v=>K v s
 | .st t p x=>ah (stv base s t (peE l ρ x) (peE l ρ p)) fun s'=>K .dead s'
 | .nilc x=>ah (GD (peE l ρ x)) fun v=>K v s
 | .bin o x y=>ah (mO o (peE l ρ x) (peE l ρ y)) fun v=>K v s
 | .un o x=>ah (vun o (peE l ρ x)) fun v=>K v s
 | .conv k x=>ah (Fs k (peE l ρ x)) fun v=>K v s
 | .fad t f c x=>ah (mi t f c (peE l ρ x)) fun v=>K v s
 | .iad t n e x i=>ah (AJ t n e (peE l ρ x) (peE l ρ i)) fun v=>K v s
 | .sad e x i=>ah (eD e (peE l ρ x) (peE l ρ i)) fun v=>K v s
 | .fld t f x=>ah (HG t f (peE l ρ x)) fun v=>K v s
 | .s2a n e x=>ah (G0 n e (peE l ρ x)) fun v=>K v s
 | .ldr t n e u x=>ah (Fz s t n e u (peE l ρ x)) fun v=>K v s
 | .idx t n x i=>ah (HK t n (peE l ρ x) (peE l ρ i)) fun v=>K v s
 | .sidx x i=>ah (Cv (peE l ρ x) (peE l ρ i)) fun v=>K v s
 | .ext x n=>ah (Ip n (peE l ρ x)) fun v=>K v s
 | .lenk n=>K (.int .i64 n) s
 | .len q x=>ah (V.slen q (peE l ρ x)) fun n=>K (.int .i64 n) s
 | .slc e x lo hi mx=>ah (gU e (peO l ρ lo) (peO l ρ hi) (peO l ρ mx) (peE l ρ x)) fun v=>K v s
 | .slarr t n e x lo hi mx=>ah (zh s t n e (peO l ρ lo) (peO l ρ hi) (peO l ρ mx) (peE l ρ x)) fun v=>K v s
 | .eq neg t x y=>ah (eqv neg t (peE l ρ x) (peE l ρ y)) fun v=>K v s
 | .mkfn f caps=>ah (Ch f (peL l ρ caps)) fun v=>K v s
 | .slstr x lo hi=>ah (zs (peO l ρ lo) (peO l ρ hi) (peE l ρ x)) fun v=>K v s
 | .mksl h r e z n c=>ah (Fp h r e z s (peE l ρ n) (peE l ρ c)) fun x=>K x.1 x.2
 | .app h r e x y=>ah (aD base h r e (peE l ρ x) (peE l ρ y) s) fun x=>K x.1 x.2
 | .bsl h r e z n ps=>ah (Ii h r e n z s (peP l ρ ps)) fun x=>K x.1 x.2
 | .cpy e x y=>ah (iw base e (peE l ρ x) (peE l ρ y) s) fun x=>K x.1 x.2
 | .mnx mx x y=>ah (nJ mx (peE l ρ x) (peE l ρ y)) fun v=>K v s
 | .bld (.agg t l3) ps=>ah (bf l3 (peP l ρ ps)) fun l'=>K (.agg t l') s
 | .call (.k (.fn f [])) args=>ah (rf D f (peL l ρ args) s) fun x=>K x.1 x.2
 | .call f args=>ah (CQ D (peL l ρ args) s (peE l ρ f)) fun x=>K x.1 x.2
 | .pcall (.k (.fn f [])) args=>ah (vP D (cP base (peL l ρ args)) base f (peL l ρ args) s) fun v=>K v s
 | .pcall f args=>ah (Ct D base (peL l ρ args) s (peE l ρ f)) fun v=>K v s
 | .sta t p x l2=>ah (G9 base s t (peE l ρ x) (peE l ρ p) (peL l ρ l2)) fun s'=>K .dead s'
 | .callw f args w=>ah (yA D (peL l ρ args) s (peE l ρ w) (peE l ρ f)) fun x=>K x.1 x.2
 | .lda t p r=>ah (Gx s t (peE l ρ p) (peE l ρ r)) fun v=>K v s
 | .callk p (.k (.fn f [])) args=>ah (BY D p (cP base (peL l ρ args)) base f (peL l ρ args) s) fun x=>K x.1 x.2
 | .callk p f args=>ah (C9 D p base (peL l ρ args) s (peE l ρ f)) fun x=>K x.1 x.2
 | .ldl t p=>ah (GQ s t (peE l ρ p)) fun v=>K v s
 | .mkm=>K (.mp (some s.hp.length)) ⟨s.loc,s.hp++[.mp []]⟩
 | .mlk x i=>ah (my (peE l ρ x) (peE l ρ i) s) fun v=>K v s
 | .mup x i y=>ah (i7 (peE l ρ x) (peE l ρ i) (peE l ρ y) s) fun s'=>K .dead s'
 | .appa h r e x y l2=>ah (BU base h r e s (peE l ρ x) (peE l ρ y) (peL l ρ l2)) fun x=>K x.1 x.2
 |_=>none
noncomputable abbrev pe (D:Nat→Option Fc) (base:Nat) (ks:List Nat):List Op→List (Nat×Option (Option Bool))→List (Nat×V)→Env→St→OR
 |[],_,l,ρ,s=>some (.normal,peR l ρ ks,s)
 |⟨d,none,o⟩::r,g,l,ρ,s=>pe1 D base g l ρ s o fun v s'=>pe D base ks r (w7 d (peW g o) g) (wz d v l) ρ s'
 |⟨d,some (t,x),o⟩::r,g,l,ρ,s=>match peK g t with
  |none=>lS (peG l ρ t) x
   (pe1 D base ((t,some (some x))::g) ((t,.bool x)::l) ρ s o fun v s'=>pe D base ks r (w7 d (peW ((t,some (some x))::g) o) ((t,some (some x))::g)) (wz d v ((t,.bool x)::l)) ρ s')
   (pe D base ks r (w7 d (some none) ((t,some (some (peN x)))::g)) (wz d (.tup []) ((t,.bool (peN x))::l)) ρ s)
   (pe D base ks r (w7 d (some none) ((t,some none)::g)) (wz d (.tup []) ((t,.tup [])::l)) ρ s)
  |some none=>pe D base ks r (w7 d (some none) g) (wz d (.tup []) l) ρ s
  |some (some y)=>match peB x y with
   |true=>pe1 D base g l ρ s o fun v s'=>pe D base ks r (w7 d (peW g o) g) (wz d v l) ρ s'
   |false=>pe D base ks r (w7 d (some none) g) (wz d (.tup []) l) ρ s
noncomputable abbrev peC (D:Nat→Option Fc) (base:Nat) (ρ:Env) (s:St):C→OR
 | .reg (some ks) l=>pe D base ks l [] [] ρ s
 | .regd (some ks) l=>pe D base ks l [] [] ρ s
 |_=>none
abbrev sE {β:Type}(x:Nat) (k:Nat→β):β:=match x with
 |0=>k 0
 |n+1=>k (Nat.succ n)
abbrev dN {β:Type}:Nat→Nat→(Nat→Nat→β)→β
 |0,x,k=>k 0 x
 |f+1,x,k=>sE (Nat.mod x 16) fun m=>sE (Nat.div x 16) fun y=>match Nat.ble 8 m with
  |false=>k m y
  |true=>dN f y fun v z=>sE (Nat.add (Nat.sub m 8) (Nat.mul 8 v)) fun w=>k w z
abbrev xx {α:Type}(d:α):List α→Nat→α
 |[],_=>d
 |a::l,n=>match n with
  |0=>a
  |n+1=>xx d l n
abbrev dB {β:Type}(x:Nat) (k:Bool→Nat→β):β:=dN 30 x fun n x=>match Nat.beq n 0 with
 |true=>k false x
 |false=>k true x
abbrev RF {α β:Type}(p:Nat→(α→Nat→β)→β):Nat→Nat→(List α→Nat→β)→β
 |0,x,k=>k [] x
 |n+1,x,k=>p x fun a x=>RF p n x fun l x=>k (a::l) x
abbrev oM {α β:Type}(p:Nat→(α→Nat→β)→β) (x:Nat) (k:List α→Nat→β):β:=dN 30 x fun n x=>RF p n x k
abbrev dKs {β:Type}:Nat→Nat→Nat→(List Nat→Nat→β)→β
 |0,_,x,k=>k [] x
 |n+1,p,x,k=>dN 30 x fun v x=>sE (Nat.add p v) fun v=>dKs n v x fun l x=>k (v::l) x
abbrev dIK (i:Nat):IntKind:=xx .u64 [.i8,.i16,.i32,.i64,.u8,.u16,.u32] i
abbrev dBO (i:Nat):BinOp:=xx .geq [.add,.sub,.mul,.quo,.rem,.and,.or,.xor,.shl,.shr,.andNot,.eql,.neq,.lss,.leq,.gtr] i
abbrev dUO (i:Nat):UnOp:=xx .plus [.neg,.xor,.not] i
abbrev dV {β:Type}:Nat→Nat→(V→Nat→β)→β
 |0,x,k=>k .dead x
 |f+1,x,k=>dN 30 x fun t x=>xx (k .dead x) [
  k (.bool false) x,
  k (.bool true) x,
  dN 30 x fun n x=>k (.int .i64 (Int.ofNat n)) x,
  dN 30 x fun n x=>k (.int .i64 (-(Int.ofNat n))) x,
  dN 30 x fun i x=>dN 30 x fun n x=>k (.int (dIK i) (Int.ofNat n)) x,
  k .nilp x,
  k .nils x,
  k .nilf x,
  dN 30 x fun t x=>oM (dV f) x fun l x=>k (.agg t l) x,
  dN 30 x fun t x=>dN 30 x fun n x=>dV f x fun v x=>k (.agg t (List.replicate n v)) x,
  dN 30 x fun g x=>k (.fn g []) x,
  dN 30 x fun i x=>dN 30 x fun t x=>k (.ptr (.hp i) [] t) x,
  oM (dN 30) x fun l x=>k (.str ⟨⟨l.map UInt8.ofNat⟩⟩) x,
  k .dead x,
  dN 30 x fun i x=>dN 30 x fun n x=>k (.int (dIK i) (-(Int.ofNat n))) x,
  k (.mp none) x] t
abbrev dO {β:Type}(d x:Nat) (k:Opd→Nat→β):β:=dN 30 x fun e x=>match e with
 |0=>dV 9 x fun v x=>k (.k v) x
 |e+1=>match Nat.beq (Nat.mod e 2) 0 with
  |true=>sE (Nat.sub d (Nat.div e 2)) fun t=>k (.t t) x
  |false=>sE (Nat.div e 2) fun t=>k (.t t) x
abbrev dOo {β:Type}(d x:Nat) (k:Option Opd→Nat→β):β:=dN 30 x fun e x=>match Nat.beq e 0 with
 |true=>k none x
 |false=>dO d x fun o x=>k (some o) x
abbrev RD {β:Type}(d x:Nat) (k:Nat×Opd→Nat→β):β:=dN 30 x fun i x=>dO d x fun o x=>k (i,o) x
abbrev dOp {β:Type}(d:Nat) (c:Nat) (x:Nat) (k:Op'→Nat→β):β:=xx (dO d x fun a x=>dO d x fun b x=>dO d x fun c x=>k (.mup a b c) x) [
 dO d x fun a x=>k (.mv a) x,
 dN 30 x fun o x=>dO d x fun a x=>dO d x fun b x=>k (.bin (dBO o) a b) x,
 dN 30 x fun t x=>dN 30 x fun f x=>dN 30 x fun u x=>dO d x fun a x=>k (.fad t f u a) x,
 dN 30 x fun t x=>dO d x fun a x=>k (.ld t a) x,
 dO d x fun a x=>k (.nilc a) x,
 dO d x fun f x=>oM (dO d) x fun l x=>k (.call f l) x,
 dN 30 x fun t x=>dO d x fun a x=>dO d x fun b x=>k (.st t a b) x,
 dO d x fun a x=>dN 30 x fun i x=>k (.ext a i) x,
 dO d x fun c x=>dO d x fun a x=>dO d x fun b x=>k (.pick c a b) x,
 dN 30 x fun t x=>dN 30 x fun n x=>dN 30 x fun e x=>dO d x fun a x=>dO d x fun b x=>k (.iad t n e a b) x,
 dB x fun h x=>dV 9 x fun z x=>k (.alloc h z) x,
 dV 9 x fun z x=>oM (RD d) x fun l x=>k (.bld z l) x,
 dB x fun h x=>dO d x fun a x=>k (.box h a) x,
 dN 30 x fun e x=>dO d x fun a x=>dO d x fun b x=>k (.sad e a b) x,
 dB x fun q x=>dO d x fun a x=>k (.len q a) x,
 dN 30 x fun i x=>dO d x fun a x=>k (.conv (dIK i) a) x,
 dN 30 x fun i x=>dO d x fun a x=>k (.un (dUO i) a) x,
 dB x fun h x=>dN 30 x fun r x=>dN 30 x fun e x=>dV 9 x fun z x=>dN 30 x fun n x=>oM (RD d) x fun l x=>k (.bsl h r e z n l) x,
 dB x fun h x=>dN 30 x fun r x=>dN 30 x fun e x=>dO d x fun a x=>dO d x fun b x=>k (.app h r e a b) x,
 dB x fun g x=>dN 30 x fun t x=>dO d x fun a x=>dO d x fun b x=>k (.eq g t a b) x,
 dN 30 x fun t x=>dN 30 x fun n x=>dO d x fun a x=>dO d x fun b x=>k (.idx t n a b) x,
 dN 30 x fun t x=>dN 30 x fun n x=>dN 30 x fun e x=>dO d x fun a x=>dOo d x fun l x=>dOo d x fun h x=>dOo d x fun m x=>k (.slarr t n e a l h m) x,
 dB x fun p x=>dO d x fun f x=>oM (dO d) x fun l x=>k (.callk p f l) x,
 dN 30 x fun t x=>dO d x fun a x=>k (.ldl t a) x,
 dO d x fun f x=>oM (dO d) x fun l x=>k (.pcall f l) x,
 dN 30 x fun t x=>dO d x fun a x=>dO d x fun b x=>oM (dO d) x fun l x=>k (.sta t a b l) x,
 dN 30 x fun e x=>dO d x fun a x=>dOo d x fun l x=>dOo d x fun h x=>dOo d x fun m x=>k (.slc e a l h m) x,
 dB x fun h x=>dN 30 x fun r x=>dN 30 x fun e x=>dV 9 x fun z x=>dO d x fun a x=>dO d x fun b x=>k (.mksl h r e z a b) x,
 dN 30 x fun t x=>dO d x fun a x=>dO d x fun b x=>k (.lda t a b) x,
 dB x fun m x=>dO d x fun a x=>dO d x fun b x=>k (.mnx m a b) x,
 dB x fun h x=>dN 30 x fun r x=>dN 30 x fun e x=>dO d x fun a x=>dO d x fun b x=>oM (dO d) x fun l x=>k (.appa h r e a b l) x,
 dN 30 x fun n x=>dN 30 x fun e x=>dO d x fun a x=>k (.s2a n e a) x,
 dN 30 x fun t x=>dN 30 x fun n x=>dN 30 x fun e x=>dN 30 x fun u x=>dO d x fun a x=>k (.ldr t n e u a) x,
 dO d x fun f x=>oM (dO d) x fun l x=>dO d x fun w x=>k (.callw f l w) x,
 dN 30 x fun t x=>dN 30 x fun f x=>dO d x fun a x=>k (.fld t f a) x,
 dO d x fun a x=>dO d x fun b x=>k (.sidx a b) x,
 dN 30 x fun n x=>k (.lenk n) x,
 dO d x fun a x=>dOo d x fun l x=>dOo d x fun h x=>k (.slstr a l h) x,
 dN 30 x fun f x=>oM (dO d) x fun l x=>k (.mkfn f l) x,
 dN 30 x fun e x=>dO d x fun a x=>dO d x fun b x=>k (.cpy e a b) x,
 k .mkm x,
 dO d x fun a x=>dO d x fun b x=>k (.mlk a b) x] c
abbrev XS {β:Type}(m d x:Nat) (k:Option Nat→Nat→Nat→β):β:=xx (dN 30 x fun e x=>match Nat.ble e d with
 |true=>k (some e) d x
 |false=>k (some e) e x) [sE (Nat.add d 1) fun d=>k (some d) d x,k none d x] m
abbrev dGd {β:Type}(m:Nat) (g:Option (Nat×Bool)) (x:Nat) (k:Option (Nat×Bool)→Option (Nat×Bool)→Nat→β):β:=xx (dN 30 x fun e x=>match Nat.beq (Nat.mod e 2) 0 with
 |true=>sE (Nat.div e 2) fun t=>k (some (t,false)) (some (t,false)) x
 |false=>sE (Nat.div e 2) fun t=>k (some (t,true)) (some (t,true)) x) [k none g x,k g g x] m
abbrev Wa {β:Type}:Nat→Nat→Option (Nat×Bool)→Nat→(List Op→Nat→β)→β
 |0,_,_,x,k=>k [] x
 |n+1,d,g,x,k=>dN 30 x fun h x=>XS (Nat.mod h 3) d x fun od d' x=>dGd (Nat.mod (Nat.div h 3) 3) g x fun og g' x=>dOp d (Nat.div h 9) x fun o x=>Wa n d' g' x fun l x=>k (⟨od,og,o⟩::l) x
abbrev dR (x:Nat):C:=dN 30 x fun a x=>dN 30 x fun n x=>dKs n 0 x fun ks x=>Wa (Nat.div a 2) 0 none x fun l _=>match Nat.beq (Nat.mod a 2) 0 with
 |true=> .reg (some ks) l
 |false=> .regd (some ks) l
abbrev zk:List Nat→Nat→Nat
 |[],_=>0
 |a::_,0=>a
 |_::l,n+1=>zk l n
def rgn (r:List Nat) (k:Nat):C:=dR (zk r k)
abbrev Vq:List C→Nat→C
 |[],_=> .skip
 |a::_,0=>a
 |_::l,n+1=>Vq l n
abbrev dC {β:Type}(r:List Nat) (bs:List C):Nat→Nat→Nat→(C→Nat→Nat→β)→β
 |0,n,x,k=>k .skip n x
 |f+1,n,x,k=>dN 30 x fun c x=>xx (dC r bs f n x fun a n x=>k (.scope a) n x) [
  sE (Nat.add n 1) fun m=>k (rgn r n) m x,
  dC r bs f n x fun a n x=>dC r bs f n x fun b n x=>k (.seq a b) n x,
  dO 0 x fun o x=>dC r bs f n x fun a n x=>dC r bs f n x fun b n x=>k (.cond o a b) n x,
  k .skip n x,
  k .ret n x,
  dN 30 x fun i x=>dC r bs f n x fun a n x=>k (.block i a) n x,
  dN 30 x fun m x=>dKs m 0 x fun ks x=>dN 30 x fun i x=>k (.loop ks (Vq bs i)) n x,
  dN 30 x fun i x=>k (.exit i) n x,
  dN 30 x fun i x=>sE (Nat.add i 1) fun m=>k (rgn r i) m x,
  dN 30 x fun i x=>k (.label i) n x] c
abbrev dRV {β:Type}(x:Nat) (k:RV→Nat→β):β:=dN 30 x fun c x=>dN 30 x fun a x=>match Nat.beq c 0 with
 |true=>k (.t a) x
 |false=>dN 30 x fun t x=>k (.cell a t) x
abbrev dF (r:List Nat) (bs:List C) (x:Nat):Fc:=dN 30 x fun n x=>oM dRV x fun l x=>dC r bs 999 0 x fun c _ _=>⟨n,c,l⟩
structure HdP {α:Sort _}(a r:α):Prop where
 h:a=r
@[reducible] def vC (r:List Nat) (bs:List C) (x:Nat) {c:C}(_h:HdP (dC r bs 999 0 x fun c _ _=>c) c:=by(with_reducible conv=>arg 1;reduce);(try dsimp only[Int.reduceOfNat,Nat.reduceSucc]);exact⟨rfl⟩):C:=c
@[reducible] def vF (r:List Nat) (bs:List C) (x:Nat) {c:Fc}(_h:HdP (dF r bs x) c:=by(with_reducible conv=>arg 1;reduce);(try dsimp only[Int.reduceOfNat,Nat.reduceSucc]);exact⟨rfl⟩):Fc:=c
attribute [go_sem] vC vF
noncomputable abbrev rgC (D:Nat→Option Fc) (b:Nat) (ρ:Env) (s:St):C→OR
 | .reg (some ks) l=>rgO D b ks l ρ s
 | .regd (some ks) l=>rgO D b ks l ρ s
 |c=>rc D b c ρ s
theorem NK {b:Nat}:∀{c:C},rc D b c ρ s=rgC D b ρ s c
 | .reg (some _) _=>QZ
 | .regd (some _) _=>Mh
 | .reg none _| .regd none _| .skip| .seq _ _| .cond _ _ _| .block _ _| .loop _ _| .exit _| .scope _| .label _| .ret=>rfl
noncomputable abbrev Dc (D:Nat→Option Fc) (b:Nat) (ρ:Env) (s:St):Nat→List Nat→List (Nat×OR)
 |_,[]=>[]
 |k,x::l=>(k,peC D b ρ s (dR x))::sE (Nat.add k 1) fun k=>Dc D b ρ s k l
abbrev cjl (D:Nat→Option Fc) (b:Nat) (ρ:Env) (s:St) (r:List Nat):List (Nat×OR)→Prop
 |[]=>True
 |[(k,x)]=>rc D b (rgn r k) ρ s=x
 |(k,x)::y::l=>rc D b (rgn r k) ρ s=x∧cjl D b ρ s r (y::l)
@[reducible] def ZA (D:Nat→Option Fc) (b:Nat) (ρ:Env) (s:St) (r:List Nat) {l:List (Nat×OR)}(_h:HdP (Dc D b ρ s 0 r) l:=by(conv=>arg 1;arg 6;whnf);(with_reducible conv=>arg 1;reduce);(try dsimp only[Int.reduceOfNat,Nat.reduceSucc,oif]);exact⟨rfl⟩) {P:Prop}(_h2:HdP (cjl D b ρ s r l) P:=by dsimp only[cjl];exact⟨rfl⟩):Prop:=P
theorem Rx {b:Nat}{r:List Nat}:∀{l:List Nat}{k:Nat},(∀j,j<l.length→zk r (k+j)=zk l j)→(l.map fun x=>rgC D b ρ s (dR x))=(l.map fun x=>peC D b ρ s (dR x))→cjl D b ρ s r (Dc D b ρ s k l)
 |[],_,_,_=>trivial
 |[x],k,h,e=>by have h0:=h 0 (by simp);simp only[List.map_cons,List.cons.injEq]at e;show rc D b (dR (zk r k)) ρ s=_;rw[show zk r k=x from h0,NK];exact e.1
 |x::y::l,k,h,e=>by
  have h0:=h 0 (by simp);simp only[List.map_cons,List.cons.injEq]at e;have h1:=Rx (b:=b) (r:=r) (l:=y::l) (k:=k+1) (fun j hj=>by have:=h (j+1) (by simpa using hj);rw[show k+1+j=k+(j+1) by omega];exact this) (by simpa using e.2)
  show rc D b (rgn r k) ρ s=peC D b ρ s (dR x)∧cjl D b ρ s r (Dc D b ρ s (k+1) (y::l));refine⟨?_,h1⟩;show rc D b (dR (zk r k)) ρ s=_;rw[show zk r k=x from h0,NK];exact e.1
theorem za {b:Nat}{r:List Nat}{l:List (Nat×OR)}{h:HdP (Dc D b ρ s 0 r) l}{P:Prop}{h2:HdP (cjl D b ρ s r l) P}(e:(r.map fun x=>rgC D b ρ s (dR x))=(r.map fun x=>peC D b ρ s (dR x)):=by kernel_rfl): @ZA D b ρ s r l h P h2:=by have:=Rx (k:=0) (fun j _=>by rw[Nat.zero_add]) e;rw[h.h,h2.h]at this;exact this
def lkT:List (Nat×Fc)→Nat→Option Fc
 |[],_=>none
 |p::l,g=>match Nat.beq p.1 g with
  |true=>some p.2
  |false=>lkT l g
theorem Jl:∀{l:List (Nat×Fc)}{g:Nat}{fc:Fc},lkT l g=some fc→(g,fc)∈l
 |[],_,_,h=>by cases h
 |p::l,g,fc,h=>by
  simp only[lkT]at h;split at h
  ·rename_i e;cases h;rw[←Nat.eq_of_beq_eq_true e];exact List.mem_cons_self
  ·exact List.mem_cons_of_mem _ (Jl h)
theorem TS {l:List (Nat×Fc)}{p:Nat→Fc→Bool}(h:(l.all fun x=>p x.1 x.2)=true) {g:Nat}{fc:Fc}(hg:lkT l g=some fc):p g fc=true:=List.all_eq_true.1 h _ (Jl hg)
end Go.Ab
