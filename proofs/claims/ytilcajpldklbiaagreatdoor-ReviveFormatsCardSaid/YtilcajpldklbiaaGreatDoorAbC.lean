/-
  YtilcajpldklbiaaGreatDoorAbC: an abstract semantics of the program's code, and that what it tells holds of the program (part C).
-/
import Derived.Test.YtilcajpldklbiaaGreatDoorAbB
import Derived.Laws.AppendOwn
import Derived.Laws.MakeOwn
import Derived.LoopN
import Derived.Scope
import Derived.MapKept
import Derived.Orders
import Derived.Test.YtilcajpldklbiaaGreatDoorAbG
set_option maxRecDepth 100000
namespace Go.Ab
section eqs
variable {P : Program} (w : World)
def qO (d:Nat) (ty:TypeId) (xs ys:Array Value) (n:Nat):List Nat→Sem Bool
 |[]=>pure true
 |i::r=>do
  let a←part ty xs (i*n);let b←part ty ys (i*n);let q←Op.equalIn d ty a b
  if(!q)=true then pure false else qO d ty xs ys n r
theorem zZ (d:Nat) (t ety:TypeId) (len sz:Nat) (xs ys:Array Value) (ht:P.underlying t=some (.array len ety)) (hs:∀w,(sizeOf ety).run P w= .ok sz w):
 (Op.equalIn (d+1) t (.agg xs) (.agg ys)).run P w=(qO d ety xs ys sz (List.range len)).run P w:=by
 simp only[Op.equalIn,Sem.run_bind,run_underlying ht,Result.andThen_ok,hs];rw[Std.Legacy.Range.forIn_eq_forIn_range'];simp only[Std.Legacy.Range.size,Nat.sub_zero,Nat.add_sub_cancel,Nat.div_one];rw[List.range_eq_range'];generalize List.range' 0 len=is
 induction is generalizing w with
 |nil=>simp[qO]
 |cons i is ih=>
  simp only[List.forIn_cons,qO,Sem.run_bind];generalize(part ety xs (i*sz)).run P w=r1;cases r1 with
  |ok a w1=>
   simp only[Result.andThen_ok];generalize(part ety ys (i*sz)).run P w1=r2;cases r2 with
   |ok b w2=>
    simp only[Result.andThen_ok];generalize(Op.equalIn d ety a b).run P w2=r3;cases r3 with
    |ok q w3=>
     cases q
     ·simp only[Result.andThen_ok,Bool.not_false,if_true,Sem.run_pure]
     ·simp only[Result.andThen_ok,Bool.not_true,Bool.false_eq_true,if_false,Sem.run_pure];exact ih w3
    |halt x w3=>simp[Result.andThen]
   |halt x w2=>simp[Result.andThen]
  |halt x w1=>simp[Result.andThen]
end eqs
theorem Jo {T:Tab}(hT:aR T=true) {t:Nat}{ti:TI}(h:T.info t=some ti):20≤t:=by
 by_cases ht:t<20
 ·rw[dv hT ht]at h;cases h
 ·omega
theorem Nv {c:Cfg}(hT:aR c.T=true) {ty t:Nat}{i:TypeInfo}{d:TypeDesc}(hty:Ty c ty t i d):(∀k,t=jL k→d= .int k)∧(t=0→d= .bool)∧(t=2→d= .string):=by
 have h:=hty.all;unfold rI at h;rw[hty.info,hty.under]at h;simp only[Zj,Zi]at h;have h5:=h.2;have hrow:=hty.row;have big:20≤t→(∀k,t=jL k→d= .int k)∧(t=0→d= .bool)∧(t=2→d= .string):=fun hge=>⟨fun k hk=>by have:=zR k;omega,fun h=>by omega,fun h=>by omega⟩;cases d with
 |bool=>simp only[Zi]at h5;subst h5;exact⟨fun k hk=>by cases k<;>simp[jL]at hk,fun _=>rfl,fun h=>by omega⟩
 |int k=>simp only[Zi]at h5;subst h5;exact⟨fun k' hk=>by cases k<;>cases k'<;>simp[jL]at hk<;>rfl,fun h=>by cases k<;>simp[jL]at h,fun h=>by cases k<;>simp[jL]at h⟩
 |string=>simp only[Zi]at h5;subst h5;exact⟨fun k hk=>by cases k<;>simp[jL]at hk,fun h=>by omega,fun _=>rfl⟩
 |pointer _=>simp only[Zi]at h5;subst h5;exact⟨fun k hk=>by cases k<;>simp[jL]at hk,fun h=>by omega,fun h=>by omega⟩
 |slice _=>simp only[Zi]at h5;subst h5;exact⟨fun k hk=>by cases k<;>simp[jL]at hk,fun h=>by omega,fun h=>by omega⟩
 |func _ _ _=>simp only[Zi]at h5;subst h5;exact⟨fun k hk=>by cases k<;>simp[jL]at hk,fun h=>by omega,fun h=>by omega⟩
 |map _ _=>simp only[Zi]at h5;subst h5;exact⟨fun k hk=>by cases k<;>simp[jL]at hk,fun h=>by omega,fun h=>by omega⟩
 |struct fs=>
  rcases hrow with⟨_,ti,hti⟩|⟨hr,_⟩
  ·exact big (Jo hT hti)
  ·simp[TypeDesc.isRow]at hr
 |array n e=>
  rcases hrow with⟨_,ti,hti⟩|⟨hr,_⟩
  ·exact big (Jo hT hti)
  ·simp[TypeDesc.isRow]at hr
 |_=>simp at h5
theorem Ey {l m:List V}{k:Nat}{b:Bool}{y z:V}(hy:l[k]?=some y) (hz:m[k]?=some z) (h:dL (l.drop k) (m.drop k)=some b):
 ∃b0,veq y z=some b0∧((b0=true∧dL (l.drop (k+1)) (m.drop (k+1))=some b)∨(b0=false∧b=false)):=by
 have h1:l.drop k=y::l.drop (k+1):=by obtain⟨hlt,rfl⟩:=List.getElem?_eq_some_iff.1 hy;exact List.drop_eq_getElem_cons hlt
 have h2:m.drop k=z::m.drop (k+1):=by obtain⟨hlt,rfl⟩:=List.getElem?_eq_some_iff.1 hz;exact List.drop_eq_getElem_cons hlt
 rw[h1,h2]at h;simp only[dL]at h;cases hv:veq y z with
 |none=>rw[hv]at h;cases h
 |some b0=>
  rw[hv]at h;refine⟨b0,rfl,?_⟩;cases b0 with
  |true=>exact .inl ⟨rfl,h⟩
  |false=>simp only[Zg]at h;exact .inr ⟨rfl,h.symm⟩
theorem UR {c:Cfg}(hT:aR c.T=true) (hm:kr c=true) {B:BM}(w:World):∀(n:Nat) {d t ty:Nat}{v1 v2:V}{x y:Value}{b:Bool},n<d→c.T.fits n t=true→tg c.tm ty=some t→v1.tag=t→v2.tag=t→
 VR1 c.T B v1 x→VR1 c.T B v2 y→veq v1 v2=some b→(Op.equalIn d ty x y).run c.P w= .ok b w:=by
 intro n
 induction n with
 |zero=>
  intro d t ty v1 v2 x y b hd hf htg h1 h2 hx hy hv;obtain⟨d,rfl⟩:∃k,d=k+1:=⟨d-1,by omega⟩;obtain⟨i,de,hty⟩:=cY hT hm htg;obtain⟨q1,q2,q3⟩:=Nv hT hty;unfold veq at hv;split at hv
  ·rename_i a1 b1;rw[bn.1 (eu hx),bn.1 (eu hy)];simp only[Zg]at hv;subst hv;exact run_equalIn_bool' w d ty a1 b1 (by rw[hty.under,q2 h1.symm])
  ·rename_i k a1 k' b1;by_cases hk:k=k'
   ·subst hk;rw[if_pos rfl]at hv;simp only[Zg]at hv;subst hv;rw[aQ.1 (eu hx),aQ.1 (eu hy)];rw[run_equalIn_int w d ty k k a1 b1 (by rw[hty.under,q1 k h1.symm])];congr 1
   ·rw[if_neg hk]at hv;cases hv
  ·rename_i a1 b1;rw[iL.1 (eu hx),iL.1 (eu hy)];simp only[Zg]at hv;subst hv;exact run_equalIn_string w d ty a1 b1 (by rw[hty.under,q3 h1.symm])
  ·rename_i t1 l1 t2 l2;simp only[V.tag]at h1;simp only[Tab.fits,Zi]at hf;have:=hx.1;simp only[V.wf]at this;unfold cQ at this;rw[h1,dv hT hf]at this;exact this.1.elim
  ·cases hv
 |succ n ih=>
  intro d t ty v1 v2 x y b hd hf htg h1 h2 hx hy hv;obtain⟨d,rfl⟩:∃k,d=k+1:=⟨d-1,by omega⟩;obtain⟨i,de,hty⟩:=cY hT hm htg;obtain⟨q1,q2,q3⟩:=Nv hT hty;unfold veq at hv;split at hv
  ·rename_i a1 b1;rw[bn.1 (eu hx),bn.1 (eu hy)];simp only[Zg]at hv;subst hv;exact run_equalIn_bool' w d ty a1 b1 (by rw[hty.under,q2 h1.symm])
  ·rename_i k a1 k' b1;by_cases hk:k=k'
   ·subst hk;rw[if_pos rfl]at hv;simp only[Zg]at hv;subst hv;rw[aQ.1 (eu hx),aQ.1 (eu hy)];rw[run_equalIn_int w d ty k k a1 b1 (by rw[hty.under,q1 k h1.symm])];congr 1
   ·rw[if_neg hk]at hv;cases hv
  ·rename_i a1 b1;rw[iL.1 (eu hx),iL.1 (eu hy)];simp only[Zg]at hv;subst hv;exact run_equalIn_string w d ty a1 b1 (by rw[hty.under,q3 h1.symm])
  ·rename_i t1 l1 t2 l2;simp only[V.tag]at h1 h2;subst h1;subst h2;rw[if_pos rfl]at hv;obtain⟨xs,rfl,ha1,hw1,hc1⟩:=uu.1 (eu hx);obtain⟨ys,rfl,ha2,hw2,hc2⟩:=uu.1 (eu hy);unfold cQ at ha1 ha2;simp only[Tab.fits]at hf;cases hti:c.T.info t2 with
   |none=>rw[hti]at ha1;exact ha1.elim
   |some ti=>
    rw[hti]at ha1 ha2 hf;cases ti with
    |st ts=>
     simp only at ha1 ha2 hf;obtain⟨fs,rfl,hlen,hst,hfs⟩:=uw hty hti;have hok:=Bi hT hti;have hfo:c.P.fieldsOf ty=fs:=by unfold Program.fieldsOf;rw[hty.under]
     rw[run_equalIn_struct w d ty xs ys (by rw[hfo];exact hty.under) hst,hfo];have key:∀(m k:Nat),fs.size-k=m→∀b,dL (l1.drop k) (l2.drop k)=some b→(Op.eqFields d xs ys (fs.toList.drop k)).run c.P w= .ok b w:=by
      intro m
      induction m with
      |zero=>
       intro k hk b hb;have hl1:l1.length=fs.size:=by rw[←hlen,←ha1,List.length_map]
       have hl2:l2.length=fs.size:=by rw[←hlen,←ha2,List.length_map]
       rw[List.drop_of_length_le (by omega),List.drop_of_length_le (by omega)]at hb;simp only[dL,Zg]at hb;subst hb;rw[List.drop_of_length_le (by simp;omega)];simp[Op.eqFields]
      |succ m ihm=>
       intro k hk b hb;have hl1:l1.length=fs.size:=by rw[←hlen,←ha1,List.length_map]
       have hl2:l2.length=fs.size:=by rw[←hlen,←ha2,List.length_map]
       have hkl:k<fs.size:=by omega
       have hy1:l1[k]?=some l1[k]:=List.getElem?_eq_getElem (by omega);have hy2:l2[k]?=some l2[k]:=List.getElem?_eq_getElem (by omega);obtain⟨b0,hb0,hb1⟩:=Ey hy1 hy2 hb;obtain⟨u,hu1,hu2,hu3,hu4⟩:=hfs k fs[k] (Array.getElem?_eq_getElem hkl);obtain⟨i2,d2,hty2⟩:=cY hT hm hu3;have ht1:l1[k].tag=u:=by
        have:ts[k]?=some l1[k].tag:=by rw[←ha1,List.getElem?_map,hy1];rfl
        rw[hu1]at this;exact(Option.some.inj this).symm
       have ht2:l2[k].tag=u:=by
        have:ts[k]?=some l2[k].tag:=by rw[←ha2,List.getElem?_map,hy2];rfl
        rw[hu1]at this;exact(Option.some.inj this).symm
       obtain⟨p1,p2,p3,e1,e2,e3,e4,_⟩:=jC hT hw1 hc1 (fun z hz=>hok.nr _ (by rw[←ha1];exact List.mem_map_of_mem hz)) hy1;obtain⟨r1,r2,r3,g1,g2,g3,g4,_⟩:=jC hT hw2 hc2 (fun z hz=>hok.nr _ (by rw[←ha2];exact List.mem_map_of_mem hz)) hy2;obtain⟨a,ha,hva⟩:=j8 hT hty2 e3 ht1 e1 e4 (off:=fs[k].offset) (by rw[e2,hu2,←ha1,List.map_take]) w;obtain⟨b',hb',hvb⟩:=j8 hT hty2 g3 ht2 g1 g4 (off:=fs[k].offset) (by rw[g2,hu2,←ha2,List.map_take]) w;have heq:=ih (d:=d) (by omega) (List.all_eq_true.1 hf u (List.mem_of_getElem? hu1)) hu3 ht1 ht2 hva hvb hb0;have hdrop:fs.toList.drop k=fs[k]::fs.toList.drop (k+1):=by rw[List.drop_eq_getElem_cons (by simpa using hkl)];simp
       have hname : fs[k].name ≠ "_" := by simpa using hu4
       rw[hdrop];simp only[Op.eqFields,if_pos hname,Sem.run_bind,ha,hb',heq,Result.andThen_ok];rcases hb1 with⟨rfl,hb1⟩|⟨rfl,rfl⟩
       ·simp only[Bool.not_true,Bool.false_eq_true,if_false];exact ihm (k+1) (by omega) b hb1
       ·simp
     exact key fs.size 0 rfl b (by simpa using hv)
    |arr m e=>
     simp only at ha1 ha2 hf;obtain⟨ety,rfl,hety⟩:=zP hty hti;obtain⟨i2,d2,hty2⟩:=cY hT hm hety;have hok:=pM hT hti;rw[zZ w d ty ety m (c.T.size e) xs ys hty.under (fun w=>ir hty2 w)];have key:∀(q k:Nat),m-k=q→k≤m→∀b,dL (l1.drop k) (l2.drop k)=some b→(qO d ety xs ys (c.T.size e) (List.range' k (m-k))).run c.P w= .ok b w:=by
      intro q
      induction q with
      |zero=>
       intro k hk hkm b hb;rw[List.drop_of_length_le (by omega),List.drop_of_length_le (by omega)]at hb;simp only[dL,Zg]at hb;subst hb;rw[hk];simp[qO]
      |succ q ihm=>
       intro k hk hkm b hb;have hy1:l1[k]?=some l1[k]:=List.getElem?_eq_getElem (by omega);have hy2:l2[k]?=some l2[k]:=List.getElem?_eq_getElem (by omega);obtain⟨b0,hb0,hb1⟩:=Ey hy1 hy2 hb;have ht1:l1[k].tag=e:=ha1.2 _ (List.getElem_mem _);have ht2:l2[k].tag=e:=ha2.2 _ (List.getElem_mem _);obtain⟨p1,p2,p3,e1,e2,e3,e4,_⟩:=jC hT hw1 hc1 (fun z hz=>by rw[ha1.2 z hz];exact hok.nr) hy1;obtain⟨r1,r2,r3,g1,g2,g3,g4,_⟩:=jC hT hw2 hc2 (fun z hz=>by rw[ha2.2 z hz];exact hok.nr) hy2;obtain⟨a,ha,hva⟩:=j8 hT hty2 e3 ht1 e1 e4 (off:=k*c.T.size e) (by rw[e2,jk (fun z hz=>ha1.2 z (List.mem_of_mem_take hz)),List.length_take,Nat.min_eq_left (by omega)]) w
       obtain⟨b',hb',hvb⟩:=j8 hT hty2 g3 ht2 g1 g4 (off:=k*c.T.size e) (by rw[g2,jk (fun z hz=>ha2.2 z (List.mem_of_mem_take hz)),List.length_take,Nat.min_eq_left (by omega)]) w
       have heq:=ih (d:=d) (by omega) hf hety ht1 ht2 hva hvb hb0;rw[hk,List.range'_succ];simp only[qO,Sem.run_bind,ha,hb',heq,Result.andThen_ok];rcases hb1 with⟨rfl,hb1⟩|⟨rfl,rfl⟩
       ·simp only[Bool.not_true,Bool.false_eq_true,if_false];have:=ihm (k+1) (by omega) (by omega) b hb1;rw[show m-(k+1)=q by omega]at this;exact this
       ·simp
     have:=key m 0 (by omega) (by omega) b (by simpa using hv);rw[List.range_eq_range'];simpa using this
    |row e=>cases hf
  ·cases hv
theorem Ei {c:Cfg}(hT:aR c.T=true) (hm:kr c=true) {B:BM}(w:World) {t ty:Nat}{v1 v2:V}{x y:Value}{b:Bool}(hf:c.T.fits 50 t=true) (htg:tg c.tm ty=some t) (h1:v1.tag=t) (h2:v2.tag=t)
 (hx:VR1 c.T B v1 x) (hy:VR1 c.T B v2 y) (hv:veq v1 v2=some b):(Op.equal ty x y).run c.P w= .ok b w:=UR hT hm w 50 (show 50<Op.maxDepth by decide) hf htg h1 h2 hx hy hv
section nils
variable {P : Program} (w : World) (d : Nat) {ty : Nat}
theorem JY {el:Nat}(hu:P.underlying ty=some (.pointer el)) (b:Option Addr):(Op.equalIn (d+1) ty (.pointer none) (.pointer b)).run P w= .ok b.isNone w:=by cases b<;>simp[Op.equalIn,run_underlying hu]
theorem SO {el:Nat}(hu:P.underlying ty=some (.pointer el)) (b:Option Addr):(Op.equalIn (d+1) ty (.pointer b) (.pointer none)).run P w= .ok b.isNone w:=by cases b<;>simp[Op.equalIn,run_underlying hu]
theorem Jp {el:Nat}(hu:P.underlying ty=some (.slice el)) (b:Option Addr) (n m n' m':Nat):(Op.equalIn (d+1) ty (.slice none n m) (.slice b n' m')).run P w= .ok b.isNone w:=by cases b<;>simp[Op.equalIn,run_underlying hu]
theorem TE {el:Nat}(hu:P.underlying ty=some (.slice el)) (b:Addr) (n m n' m':Nat):(Op.equalIn (d+1) ty (.slice (some b) n m) (.slice none n' m')).run P w= .ok false w:=by simp[Op.equalIn,run_underlying hu]
theorem Ub {p r:Array Nat}{v:Bool}(hu:P.underlying ty=some (.func p r v)):(Op.equalIn (d+1) ty .nilFunc .nilFunc).run P w= .ok true w:=by simp[Op.equalIn,run_underlying hu]
theorem UB {p r:Array Nat}{v:Bool}(hu:P.underlying ty=some (.func p r v)) (f:Fn) (x y:Array Value):(Op.equalIn (d+1) ty .nilFunc (.func f x y)).run P w= .ok false w:=by simp[Op.equalIn,run_underlying hu]
theorem UD {p r:Array Nat}{v:Bool}(hu:P.underlying ty=some (.func p r v)) (f:Fn) (x y:Array Value):(Op.equalIn (d+1) ty (.func f x y) .nilFunc).run P w= .ok false w:=by simp[Op.equalIn,run_underlying hu]
end nils
theorem jh (ty:Nat) (x y:Value):Op.equal ty x y=Op.equalIn (9999+1) ty x y:=rfl
section sims
variable {c : Cfg} (hT : aR c.T = true) (hm : kr c = true) {B0 base : Nat} {B : BM} {s s' : St} {w : World} {a : Act} {ρ : Env} {v : V}
 (hE:ER c.T B ρ a.tmps) (hG:fb c.gl B) (hS:SR c.T B0 B s w) (hb:base≤s.loc.length) (hB0:B0≤w.heap.size)
include hE hG hS
include hT hm in
theorem VA {neg:Bool}{t:Nat}{x y:Opd}{q:Oper}(hc:ay c (.eq neg t x y) q.op=true) (he:evOp base ρ s (.eq neg t x y)=some (v,s')):cE c B0 base B s w a q v s':=by
 simp only[ay]at hc;split at hc
 ·rename_i o' ty x' y' ty' hq;simp only[Zj,Zi]at hc;obtain⟨⟨⟨ho,hcx⟩,hcy⟩,hty⟩:=hc;have hx:=aC hcx hE hG;have hy:=aC hcy hE hG;simp only[evOp]at he;cases hv:ew t (x.ev ρ) (y.ev ρ)with
  |none=>rw[hv]at he;cases he
  |some b=>
   rw[hv]at he;simp only[Zg,Zk]at he;obtain⟨rfl,rfl⟩:=he;have fin:(eqGuard .eql ty x' y' (a.eval x') (a.eval y')).run c.P w= .ok () w→(eqGuard .neq ty x' y' (a.eval x') (a.eval y')).run c.P w= .ok () w→
    (Go.binOp .eql ty (a.eval x') (a.eval y')).run c.P w= .ok (.bool b) w→(Go.binOp .neq ty (a.eval x') (a.eval y')).run c.P w= .ok (.bool !b) w→cE c B0 base B s w a q (.bool (if neg then !b else b)) s:=by
    intro g1 g2 g3 g4;cases neg with
    |false=>
     simp only[Bool.false_eq_true,if_false]at ho⊢;subst ho;exact aA hS (x:= .bool b) (by simp[execOp,hq,g1,g3]) (bn.2 rfl)
    |true=>
     simp only[if_true]at ho⊢;subst ho;exact aA hS (x:= .bool !b) (by simp[execOp,hq,g2,g4]) (bn.2 rfl)
   unfold ew at hv;split at hv
   ·-- pointers
    simp only at hty;split at hty
    ·rename_i el hu;split at hv
     ·rename_i h1 h2;rw[h1,tv]at hx;rw[h2,tv]at hy;simp only[Zg]at hv;subst hv;apply fin<;>simp[hx,hy,eqGuard,Go.binOp,jh,JY _ _ hu]
     ·rename_i h1 h2;rw[h1,tv]at hx;rw[h2]at hy;obtain⟨_,_,_,_,_,hy⟩:=ff.1 hy;simp only[Zg]at hv;subst hv;apply fin<;>simp[hx,hy,eqGuard,Go.binOp,jh,JY _ _ hu]
     ·rename_i h1 h2;rw[h1]at hx;rw[h2,tv]at hy;obtain⟨_,_,_,_,_,hx⟩:=ff.1 hx;simp only[Zg]at hv;subst hv;apply fin<;>simp[hx,hy,eqGuard,Go.binOp,jh,SO _ _ hu]
     ·cases hv
    ·cases hty
   ·simp only at hty;split at hty
    ·rename_i el hu;split at hv
     ·rename_i h1 h2;rw[h1,iJ]at hx;rw[h2,iJ]at hy;simp only[Zg]at hv;subst hv;apply fin<;>simp[hx,hy,eqGuard,Go.binOp,jh,Jp _ _ hu]
     ·rename_i h1 h2;rw[h1,iJ]at hx;rw[h2]at hy;obtain⟨_,_,_,_,_,_,_,_,_,_,_,_,_,_,hy⟩:=jo.1 hy;simp only[Zg]at hv;subst hv;apply fin<;>simp[hx,hy,eqGuard,Go.binOp,jh,Jp _ _ hu]
     ·rename_i h1 h2;rw[h1]at hx;rw[h2,iJ]at hy;obtain⟨_,_,_,_,_,_,_,_,_,_,_,_,_,_,hx⟩:=jo.1 hx;simp only[Zg]at hv;subst hv;apply fin<;>simp[hx,hy,eqGuard,Go.binOp,jh,TE _ _ hu]
     ·cases hv
    ·cases hty
   ·simp only at hty;split at hty
    ·rename_i _ _ _ hu;split at hv
     ·rename_i h1 h2;rw[h1,tu]at hx;rw[h2,tu]at hy;simp only[Zg]at hv;subst hv;apply fin<;>simp[hx,hy,eqGuard,Go.binOp,jh,Ub _ _ hu]
     ·rename_i h1 h2;rw[h1,tu]at hx;rw[h2]at hy;obtain⟨_,_,_,_,hy⟩:=sS.1 hy;simp only[Zg]at hv;subst hv;apply fin<;>simp[hx,hy,eqGuard,Go.binOp,jh,UB _ _ hu]
     ·rename_i h1 h2;rw[h1]at hx;rw[h2,tu]at hy;obtain⟨_,_,_,_,hx⟩:=sS.1 hx;simp only[Zg]at hv;subst hv;apply fin<;>simp[hx,hy,eqGuard,Go.binOp,jh,UD _ _ hu]
     ·cases hv
    ·cases hty
   ·rename_i t' hn1 hn3 hn5;split at hty
    ·exact absurd rfl hn1
    ·exact absurd rfl hn3
    ·exact absurd rfl hn5
    simp only[Zj,Zi,Bool.not_eq_true']at hty;obtain⟨⟨htg,hgt⟩,hfit⟩:=hty;by_cases htags:(x.ev ρ).tag=t∧(y.ev ρ).tag=t
    ·rw[if_pos htags]at hv;have hv0:=hv;unfold veq at hv;split at hv
     ·rename_i b1 b2 h1 h2;have e:=Ei hT hm w hfit htg htags.1 htags.2 ((rz (by rw[h1];rfl)).1 hx) ((rz (by rw[h2];rfl)).1 hy) hv0;rw[h1,bn]at hx;rw[h2,bn]at hy;rw[hx,hy]at e;apply fin<;>simp[hx,hy,eqGuard,Go.binOp,e]
     ·rename_i k n k' m h1 h2;rw[h1,aQ]at hx;rw[h2,aQ]at hy;by_cases hk:k=k'
      ·subst hk;rw[if_pos rfl]at hv;simp only[Zg]at hv;subst hv;apply fin<;>simp[hx,hy,eqGuard,Go.binOp,Op.intCmp]
       ·rfl
       ·rfl
      ·rw[if_neg hk]at hv;cases hv
     ·rename_i n m h1 h2;rw[h1,iL]at hx;rw[h2,iL]at hy;simp only[Zg]at hv;subst hv;apply fin<;>simp[hx,hy,eqGuard,Go.binOp,Op.stringOp]
     ·rename_i t1 l1 t2 l2 h1 h2;have e:=Ei hT hm w hfit htg htags.1 htags.2 ((rz (by rw[h1];rfl)).1 hx) ((rz (by rw[h2];rfl)).1 hy) hv0;rw[h1]at hx;rw[h2]at hy;obtain⟨xs,hx,_⟩:=uu.1 hx;obtain⟨ys,hy,_⟩:=uu.1 hy;rw[hx,hy]at e;apply fin<;>simp[hx,hy,eqGuard,Go.binOp,e,hgt]
     ·cases hv
    ·rw[if_neg htags]at hv;cases hv
 ·cases hc
end sims
theorem SR.drawn {T:Tab}{B0:Nat}{B:BM}{s:St}{w:World}(h:SR T B0 B s w) (n:Nat):SR T B0 B s {w with drawn:=n}:=
 ⟨h.lenL,h.lenH,fun a b ar h1 h2=>(h.blk a b ar h1 h2).of_heap (fun _=>rfl),h.sepM,h.ownM,h.hpv⟩
theorem Stp.drawn {T:Tab}{B0 base:Nat}{B:BM}{s:St}{w:World}(h:SR T B0 B s w) (n:Nat):Stp T B0 base B s w B s {w with drawn:=n}:=
 ⟨h.drawn n,Ext.refl _,⟨rfl,rfl,rfl,Nat.le_refl _,fun _ _ _=>rfl⟩,fun _ _ h=>h,fun _ _ h=>h⟩
theorem sT {T:Tab}{B:BM}:∀{l m:List V}{cs:List Value},CRs T B (l++m) cs↔∃a b,cs=a++b∧CRs T B l a∧CRs T B m b
 |[],m,cs=>by
  simp only[List.nil_append,CRs];constructor
  ·intro h;exact⟨[],cs,rfl,rfl,h⟩
  ·rintro⟨a,b,rfl,rfl,h⟩;exact h
 |v::l,m,cs=>by
  simp only[List.cons_append,CRs];constructor
  ·rintro⟨a,b,rfl,h1,h2⟩;obtain⟨c,d,rfl,h3,h4⟩:=sT.1 h2;exact⟨a++c,d,by simp,⟨a,c,rfl,h1,h3⟩,h4⟩
  ·rintro⟨_,d,rfl,⟨a,c,rfl,h1,h3⟩,h4⟩;exact⟨a,c++d,by simp,h1,sT.2 ⟨c,d,rfl,h3,h4⟩⟩
theorem CK {T:Tab}{l m:List V}:V.wfs T (l++m)↔V.wfs T l∧V.wfs T m:=by simp only[tj,List.mem_append];exact⟨fun h=>⟨fun x hx=>h x (.inl hx),fun x hx=>h x (.inr hx)⟩,fun h x hx=>hx.elim (h.1 x) (h.2 x)⟩
structure ElR (T:Tab) (B:BM) (e:Nat) (l:List V) (cs:List Value):Prop where
 wf:V.wfs T l
 cr:CRs T B l cs
 tg:∀u∈l,u.tag=e
 nr:l≠[]→T.noRow e=true
theorem ElR.len {T:Tab}(hT:aR T=true) {B:BM}{e:Nat}{l:List V}{cs:List Value}(h:ElR T B e l cs):cs.length=l.length*T.size e:=by rw[zu hT h.wf h.cr (fun u hu=>by rw[h.tg u hu];exact h.nr (List.ne_nil_of_mem hu)),jk h.tg]
theorem ElR.split {T:Tab}{B:BM}{e:Nat}{l m:List V}{cs:List Value}(h:ElR T B e (l++m) cs):∃a b,cs=a++b∧ElR T B e l a∧ElR T B e m b:=by obtain⟨a,b,rfl,h1,h2⟩:=sT.1 h.cr;have hw:=CK.1 h.wf;exact⟨a,b,rfl,⟨hw.1,h1,fun u hu=>h.tg u (List.mem_append_left _ hu),fun hn=>h.nr (by simp[hn])⟩,⟨hw.2,h2,fun u hu=>h.tg u (List.mem_append_right _ hu),fun hn=>h.nr (by simp[hn])⟩⟩
theorem ElR.app {T:Tab}{B:BM}{e:Nat}{l m:List V}{a b:List Value}(h:ElR T B e l a) (h':ElR T B e m b):ElR T B e (l++m) (a++b):=
 ⟨CK.2 ⟨h.wf,h'.wf⟩,sT.2 ⟨a,b,rfl,h.cr,h'.cr⟩,fun u hu=>(List.mem_append.1 hu).elim (h.tg u) (h'.tg u),fun hn=>by
  by_cases hl:l=[]
  ·exact h'.nr (by intro hm;exact hn (by simp[hl,hm]))
  ·exact h.nr hl⟩
theorem ElR.take {T:Tab}(hT:aR T=true) {B:BM}{e:Nat}{l:List V}{cs:List Value}(h:ElR T B e l cs) (n:Nat) (hn:n≤l.length):ElR T B e (l.take n) (cs.take (n*T.size e)):=by
 rw[←List.take_append_drop n l]at h;obtain⟨a,b,rfl,h1,h2⟩:=h.split;have:=h1.len hT;rw[List.length_take,Nat.min_eq_left hn]at this;rw[←this,List.take_left']
 ·exact h1
 ·rfl
theorem Nt {T:Tab}(hT:aR T=true) {B:BM}{t e:Nat}{l:List V}{cs:List Value}(hw:(V.agg t l).wf T) (hc:CR T B (.agg t l) cs) (he:T.elem t=some e):ElR T B e l cs∧0<T.size e:=by
 simp only[V.wf]at hw;simp only[CR]at hc;obtain⟨hag,hwl⟩:=hw;unfold cQ at hag;unfold Tab.elem at he;cases hi:T.info t with
 |none=>rw[hi]at hag;exact hag.elim
 |some ti=>
  rw[hi]at hag he;cases ti with
  |st fs=>cases he
  |arr n e'=>cases he;exact⟨⟨hwl,hc,hag.2,fun _=>(pM hT hi).nr⟩,(pM hT hi).pos⟩
  |row e'=>cases he;exact⟨⟨hwl,hc,hag,fun _=>(sY hT hi).nr⟩,(sY hT hi).pos⟩
theorem pY {T:Tab}(hT:aR T=true) {B0:Nat}{B:BM}{s:St}{w:World}(h:SR T B0 B s w) {a:Loc}{path:List Nat}{off len e e':Nat}{cap:Option Nat}{l:List V}
 (hl:s.elems (.sl a path off len cap e')=some l) {ad:Addr}{r o u:Nat}(hB:B.at a=some (ad,r)) (ho:ci T r path=some (o,u)) (he:T.elem u=some e):
 l.length=len∧∃cs,ElR T B e l cs∧w.rangeAt ad.block (ad.off+(o+off*T.size e)) cs:=by
 simp only[St.elems]at hl;by_cases hz:len=0
 ·rw[if_pos hz]at hl;simp only[Zg]at hl;subst hl;subst hz;exact⟨rfl,[],⟨trivial,rfl,by simp,by simp⟩,fun j v hv=>by simp at hv⟩
 rw[if_neg hz]at hl;cases hr:s.read a path with
 |none=>rw[hr]at hl;cases hl
 |some v=>
  rw[hr]at hl;cases v with
  |agg t L=>
   simp only at hl;by_cases hn:off+len≤L.length
   ·rw[if_pos hn]at hl;simp only[Zg]at hl;subst hl;obtain⟨h1,h2,cs,h3,h4,_⟩:=qX hT h hr hB ho;simp only[V.tag]at h2;subst h2;have hel:=(Nt hT h1 h3 he).1;rw[←List.take_append_drop off L,←List.take_append_drop len (L.drop off)]at hel;obtain⟨p,q,rfl,e1,e2⟩:=hel.split;obtain⟨p2,q2,rfl,e3,e4⟩:=e2.split;refine⟨by simp;omega,p2,e3,fun j v hv=> ?_⟩;have:=h4 (p.length+j) v (by rw[List.getElem?_append_right (by omega),Nat.add_sub_cancel_left,List.getElem?_append_left (List.getElem?_eq_some_iff.1 hv).1];exact hv);rw[e1.len hT,List.length_take,Nat.min_eq_left (by omega)]at this;rw[←this];congr 2;omega
   ·rw[if_neg hn]at hl;cases hl
  |_=>cases hl
theorem Wx {T:Tab}{B:BM}(hT:aR T=true) (l:List UInt8):ElR T B 12 (l.map fun c=>V.int .u8 c.toNat) (l.map fun c=>Value.int .u8 c.toNat):=by
 refine⟨tj.2 (fun x hx=> ?_),?_,fun u hu=> ?_,fun _=> ?_⟩
 ·obtain⟨c,_,rfl⟩:=List.mem_map.1 hx;trivial
 ·induction l with
  |nil=>rfl
  |cons c l ih=>exact⟨[_],_,rfl,rfl,ih⟩
 ·obtain⟨c,_,rfl⟩:=List.mem_map.1 hu;rfl
 ·unfold Tab.noRow;have:=dv hT (t:=12) (by decide);unfold Tab.info at this;cases hf:T.find 12 with
  |none=>rfl
  |some x=>rw[hf]at this;cases this
theorem yy {T:Tab}(hT:aR T=true) {B0:Nat}{B:BM}{s:St}{w:World}{P:Program}(h:SR T B0 B s w) {y:V}{Y:Value}{e:Nat}(hy:VR T B y Y) (hi:y.elIs e=true) {l:List V}(hl:s.elems y=some l):
 ∃cs,ElR T B e l cs∧(∀w',(Builtin.lenOf Y).run P w'= .ok l.length w')∧∀n w',n≤l.length→w'.heap=w.heap→(Builtin.firstCells (T.size e) n Y).run P w'= .ok (cs.take (n*T.size e)).toArray w':=by
 cases y with
 |nils=>
  rw[iJ]at hy;simp only[St.elems,Zg]at hl;subst hl;subst hy;exact⟨[],⟨trivial,rfl,by simp,by simp⟩,fun w'=>by simp[Builtin.lenOf],fun n w' hn _=>by simp[Builtin.firstCells]⟩
 |sl a path off len cap e'=>
  simp only[V.elIs,Zi]at hi;subst hi;obtain⟨ad,r,o,u,c',ad',h1,h2,h3,h4,h5,h6,h7,h8,rfl⟩:=jo.1 hy;obtain⟨g1,cs,g2,g3⟩:=pY hT h hl h1 h2 h3;refine⟨cs,g2,fun w'=>by simp[Builtin.lenOf,g1],fun n w' hn hw=> ?_⟩;have hlen:=g2.len hT;refine run_firstCells_some w' _ n ad' len c' _ ?_ (fun j v hv=> ?_)
  ·rw[List.length_take,hlen,Nat.min_eq_left (Nat.mul_le_mul_right _ hn)]
  ·have hj:=(List.getElem?_eq_some_iff.1 hv).1;rw[List.length_take,hlen]at hj;rcases h7 with h7|h7
   ·have:l.length=0:=by omega
    rw[this]at hj;simp at hj
   ·subst h7;rw[Addr.add_mid];rw[List.getElem?_take]at hv;split at hv
    ·have:=g3 j v hv;simp only[World.cell?,hw]at this⊢;exact this
    ·cases hv
 |str b=>
  simp only[V.elIs,Zi]at hi;subst hi;rw[iL]at hy;subst hy;simp only[St.elems,Zg]at hl;subst hl;refine⟨b.data.toList.map fun c=>Value.int .u8 c.toNat,Wx hT _,fun w'=> ?_,fun n w' hn _=> ?_⟩
  ·simp only[Builtin.lenOf,List.length_map,Array.length_toList];rfl
  ·rw[ft hT (t:=12) (by decide),Nat.mul_one];simp only[Builtin.firstCells,Sem.run_pure];congr 1;apply Array.ext';simp only[List.length_map,Array.length_toList]at hn;have hd:(b.extract 0 n).data=b.data.extract 0 n:=by rw[ByteArray.data_extract]
   rw[hd];simp
 |_=>simp[V.elIs]at hi
section runs
variable {P : Program} {w w' : World} {ty ty' tr ety : TypeId} {i : TypeInfo} {d' : TypeDesc} (ht : P.underlying ty = some (.slice ety)) (ht' : P.underlying ty' = some d') (hd : (∃ e2, d' = .slice e2) ∨ d' = .string) (hi : P.info? ety = some i)
include ht ht' hd hi
theorem GY {bs:Option Addr}{n c:Nat}{Y:Value}(hl:(Builtin.lenOf Y).run P w= .ok 0 w) (hf:(Builtin.firstCells i.size 0 Y).run P w= .ok #[] w) (hnc:n≤c):
 (Builtin.append_ #[ty,ty'] tr #[.slice bs n c,Y]).run P w= .ok (.slice bs n c) w:=by
 rcases hd with⟨e2,rfl⟩|rfl<;>cases bs<;>simp[Builtin.append_,run_underlying ht,run_underlying ht',sizeOf,typeInfo,hi,hl,hf,hnc,storeCells]
theorem GB {a:Addr}{n m c:Nat}{Y:Value}{news:List Value}(hl:(Builtin.lenOf Y).run P w= .ok m w) (hf:(Builtin.firstCells i.size m Y).run P w= .ok news.toArray w) (hnc:n+m≤c)
 (hst:(storeCells (a.add (n*i.size)) news).run P w= .ok () w'):
 (Builtin.append_ #[ty,ty'] tr #[.slice (some a) n c,Y]).run P w= .ok (.slice (some a) (n+m) c) w':=by
 rcases hd with⟨e2,rfl⟩|rfl<;>simp[Builtin.append_,run_underlying ht,run_underlying ht',sizeOf,typeInfo,hi,hl,hf,hnc,hst]
theorem HV {z:Value}(hz:i.zero=some z) {bs:Option Addr}{n m c:Nat}{Y:Value}{olds news:List Value}(hl:(Builtin.lenOf Y).run P w= .ok m w) (hf:(Builtin.firstCells i.size m Y).run P w.drew= .ok news.toArray w.drew)
 (hfo:(Builtin.firstCells i.size n (.slice bs n c)).run P w.drew= .ok olds.toArray w.drew) (hg:c<n+m) (h63:n+m≤9223372036854775807) (hfit:Builtin.nextslicecap (n+m) c*i.bytes≤281474976710656):
 (Builtin.append_ #[ty,ty'] tr #[.slice bs n c,Y]).run P w= .ok (.slice (some ⟨w.heap.size,0,none⟩) (n+m) (grownCap w (n+m) c ety))
  (w.drew.alloc (.cells (olds.toArray++news.toArray++Builtin.zeroCells z.cells (grownCap w (n+m) c ety-(n+m))) ety)):=by
 have hn:¬(n+m≤c):=by omega
 have h63':¬(9223372036854775807<((n:Int)+(m:Int))):=by omega
 have h48':¬(281474976710656<Builtin.nextslicecap (n+m) c*i.bytes):=by omega
 rcases hd with⟨e2,rfl⟩|rfl
 ·simp[Builtin.append_,run_underlying ht,run_underlying ht',sizeOf,typeInfo,zeroValue,hi,hz,hl,hn,h63',h48',Question.forced,hf,hfo,newRow,grownCap];congr 2;apply Array.ext';simp[List.append_assoc]
 ·simp[Builtin.append_,run_underlying ht,run_underlying ht',sizeOf,typeInfo,zeroValue,hi,hz,hl,hn,h63',h48',Question.forced,hf,hfo,newRow,grownCap];congr 2;apply Array.ext';simp[List.append_assoc]
omit ht' hd in
theorem Dv {ba:Option Addr}{dl dc m:Nat}{Y:Value}{cs:List Value}(hl:(Builtin.lenOf Y).run P w= .ok m w) (hf:(Builtin.firstCells i.size (min m dl) Y).run P w= .ok cs.toArray w)
 (hst:match ba with|none=>w'=w|some a=>(storeCells a cs).run P w= .ok () w'):
 (Builtin.copy_ #[ty,ty'] tr #[.slice ba dl dc,Y]).run P w= .ok (goInt ((min m dl:Nat):Int)) w':=by
 have hf':(Builtin.firstCells i.size (Nat.min m dl) Y).run P w= .ok cs.toArray w:=hf;cases ba with
 |none=>subst hst;simp[Builtin.copy_,run_underlying ht,sizeOf,typeInfo,hi,hl,hf']
 |some a=>simp only at hst;simp[Builtin.copy_,run_underlying ht,sizeOf,typeInfo,hi,hl,hf',hst]
end runs
theorem FQ {w:World}{g o:Nat}{v:Value}(h:w.cell? ⟨g,o,none⟩=some v):w.setCell ⟨g,o,none⟩ v=w:=by
 unfold World.setCell;cases w with
 |mk heap tape drawn os output=>
  congr 1;apply Array.ext
  ·simp
  ·intro k h1 h2;simp only[Array.getElem_modify];split
   ·rename_i hk;subst hk;simp only[World.cell?]at h;rw[Array.getElem?_eq_getElem h2]at h;cases hc:heap[g]with
    |cells c e fr=>
     rw[hc]at h;simp only at h;have ho:=(Array.getElem?_eq_some_iff.1 h);obtain⟨ho1,ho2⟩:=ho;simp only[Obj.cells.injEq,and_true];apply Array.ext
     ·simp
     ·intro k2 g1 g2;show(c.setIfInBounds o v)[k2]'(by simpa using g1)=c[k2];rw[Array.getElem_setIfInBounds];split
      ·rename_i e2;subst e2;exact ho2.symm
      ·rfl
    |_=>rfl
   ·rfl
theorem ss (g:Nat):∀(vs:List Value) (o:Nat) (w:World),w.rangeAt g o vs→w.setCells g o vs=w
 |[],_,_,_=>rfl
 |v::vs,o,w,h=>by have h0:w.cell? ⟨g,o,none⟩=some v:=h 0 v rfl;rw[World.setCells,FQ h0];exact ss g vs (o+1) w (fun j u hu=>by rw[show o+1+j=o+(j+1) by omega];exact h (j+1) u (by simpa using hu))
theorem pF (g:Nat):∀(a b:List Value) (o:Nat) (w:World),w.setCells g o (a++b)=(w.setCells g o a).setCells g (o+a.length) b
 |[],b,o,w=>by simp[World.setCells]
 |v::a,b,o,w=>by simp only[List.cons_append,World.setCells,List.length_cons];rw[pF g a b (o+1),show o+1+a.length=o+(a.length+1) by omega]
theorem GR (g o:Nat) (a m z:List Value) (w:World) (ha:w.rangeAt g o a) (hz:w.rangeAt g (o+(a.length+m.length)) z):w.setCells g o (a++m++z)=w.setCells g (o+a.length) m:=by rw[List.append_assoc,pF,ss g a o w ha,pF];refine ss g z _ _ ?_;rw[show o+a.length+m.length=o+(a.length+m.length) by omega];exact World.rangeAt_setCells_apart hz g (o+a.length) m (.inr (.inr (by omega)))
theorem Pr {T:Tab}{B0 base:Nat}{B:BM}{s:St}{w:World}(h:SR T B0 B s w) {a:Loc}{v:V}(hs:s.at a=some (.rw v)):Stp T B0 base B s w B (s.set a .dead) w:=
 ⟨zG h a,Ext.refl _,Frm.refl _ _,fun _ _ hk=>Hw hs hk,fun _ _ hl=>FD hl⟩
theorem SU {T:Tab}{h:Bool}{r e:Nat}{l:List V}(hw:V.wfs T l) (ht:∀u∈l,u.tag=e) (hm:e%2=0∨bi h (.agg 1 l)=true):bi h (.agg r l)=true:=by
 cases h with
 |false=>rfl
 |true=>
  simp only[bi,Bool.not_true,Bool.false_or,V.locLt,Bool.or_eq_true,beq_iff_eq]at hm⊢;right;rcases hm with h1|h1
  ·rw[fZ];intro u hu;exact Cb (tj.1 hw u hu) (by rw[ht u hu];exact h1)
  ·rcases h1 with h1|h1
   ·omega
   ·exact h1
theorem M0 {e:Nat}{x:V}(h:x.slIs e=true):x.elIs e=true:=by cases x<;>simp_all [V.slIs,V.elIs]
theorem It {gl:GL}{x y:Opd}{args:Array Operand}(h:cH gl [x,y] args.toList=true):∃x' y',args= #[x',y']∧aJ gl x x'=true∧aJ gl y y'=true:=by
 obtain⟨x',y',hargs⟩:∃x' y',args.toList=[x',y']:=by
  match h1:args.toList,h with
  |[x',y'],_=>exact⟨x',y',rfl⟩
  |[],hcs=>simp[cH]at hcs
  |[_],hcs=>simp[cH]at hcs
  |_::_::_::_,hcs=>simp[cH]at hcs
 have hargs':args= #[x',y']:=by rw[←Array.toArray_toList (xs:=args),hargs]
 subst hargs';simp only[cH,Zj,Bool.and_true]at h;exact⟨x',y',rfl,h.1,h.2⟩
section sims
variable {c : Cfg} (hT : aR c.T = true) (hm : kr c = true) {B0 base : Nat} {B : BM} {s s' : St} {w : World} {a : Act} {ρ : Env} {v : V}
 (hE:ER c.T B ρ a.tmps) (hG:fb c.gl B) (hS:SR c.T B0 B s w) (hb:base≤s.loc.length) (hB0:B0≤w.heap.size)
include hT hm hE hG hS
include hb hB0 in
theorem Ri {h:Bool}{r e:Nat}{z:V}{n m:Opd}{q:Oper}(hc:ay c (.mksl h r e z n m) q.op=true) (he:evOp base ρ s (.mksl h r e z n m)=some (v,s')):cE c B0 base B s w a q v s':=by
 simp only[ay]at hc;split at hc
 ·rename_i ty n' m' hq;simp only[Zj]at hc;obtain⟨⟨⟨hn,hmm⟩,hrow⟩,hzo⟩:=hc;have hn:=aC hn hE hG;have hmm:=aC hmm hE hG;obtain⟨ety,i,hr⟩:=DY hrow;rw[hr.under]at hzo;simp only at hzo;obtain⟨i2,x,hz⟩:=De hzo;have hii:i2=i:=by have:=hz.info;rw[hr.info]at this;exact(Option.some.inj this).symm
  subst hii;have hze:z.tag=e:=by have:=hz.tag;rw[hr.el]at this;exact(Option.some.inj this).symm
  obtain⟨i3,d,hty⟩:=cY hT hm hr.el;have hi3:i3=i2:=by have:=hty.info;rw[hr.info]at this;exact(Option.some.inj this).symm
  subst hi3;have hok:=sY hT hr.row;have hxl:x.cells.toList.length=c.T.size e:=by rw[←hze];exact mU hT hz.wf (hz.cr B) (by rw[hze];exact hok.nr)
  have hxs:x.cells.size=c.T.size e:=by rw[←Array.length_toList];exact hxl
  have hxp:0<x.cells.size:=by rw[hxs];exact hok.pos
  simp only[evOp]at he;cases hnv:n.ev ρ with
  |int k1 l1=>
   cases hmv:m.ev ρ with
   |int k2 m1=>
    rw[hnv,hmv]at he;simp only at he;by_cases hle:0≤l1∧l1≤m1∧m1≤(cg:Int)
    ·rw[if_pos hle]at he;simp only[Zg,Zk]at he;obtain⟨rfl,rfl⟩:=he;rw[hnv,aQ]at hn;rw[hmv,aQ]at hmm;obtain⟨g1,g2,g3⟩:=hle;have hmost:(cg:Int)=1073741824:=rfl;have hby:(i3.bytes:Int)*m1≤281474976710656:=by
      have hb1:=hr.bytes
      calc (i3.bytes:Int)*m1≤65536*m1:=Int.mul_le_mul_of_nonneg_right (by omega) (by omega)
       _≤65536*1073741824:=Int.mul_le_mul_of_nonneg_left (by omega) (by omega)
       _≤281474976710656:=by decide
     have hrun:=run_make (P:=c.P) w ty ety i3 x hr.under hr.info hz.zero k1 k2 l1 m1 g1 g2 hby (by omega);have hwf:(V.agg r (List.replicate l1.toNat z)).wf c.T:=by simp only[V.wf];refine⟨?_,Kd hz.wf _⟩;unfold cQ;rw[hr.row];exact fun u hu=>by rw[List.eq_of_mem_replicate hu,hze]
     have hmay:bi h (.agg r (List.replicate l1.toNat z))=true:=by
      cases h with
      |false=>rfl
      |true=>
       simp only[bi,Bool.not_true,Bool.false_or,V.locLt,Bool.or_eq_true];right;rw[fZ];intro u hu;rw[List.eq_of_mem_replicate hu];exact hz.lt
     have hcell:CR c.T B (.agg r (List.replicate l1.toNat z)) (List.replicate l1.toNat x.cells.toList).flatten:=by simp only[CR];exact DN (hz.cr B) _
     have hsz:i3.size=x.cells.size:=by rw[hxs];exact hty.size
     refine⟨_,_,_,?_,.inl ⟨.slice (some ⟨w.heap.size,0,none⟩) l1.toNat m1.toNat,rfl,?_⟩,vN hS hb hB0 hwf hmay hcell (c:=madeCells x.cells (m1.toNat*i3.size)) (by rw[hsz];exact NS hxp (by omega)) ety⟩
     ·simp[execOp,hq,hn,hmm,hrun]
     ·refine jo.2 ⟨_,_,0,r,m1.toNat,_,ip hS.lenL hS.lenH,rfl,by simp[Tab.elem,hr.row],fun n' e' hi=>(by rw[hr.row]at hi;cases hi),by omega,fun k hk=>(by cases hk;rfl),.inr ?_,?_,rfl⟩
      ·simp
      ·intro N hN;simp only[Zg]at hN;rw[←hN,size_madeCells,hsz,hxs];simp
    ·rw[if_neg hle]at he;cases he
   |_=>rw[hnv,hmv]at he;cases he
  |_=>rw[hnv]at he;cases he
 ·cases hc
include hb hB0 in
theorem Jv {h:Bool}{r e:Nat}{x y:Opd}{q:Oper}(hc:ay c (.app h r e x y) q.op=true) (he:evOp base ρ s (.app h r e x y)=some (v,s')):cE c B0 base B s w a q v s':=by
 simp only[ay]at hc;split at hc
 ·rename_i args argTypes hq;simp only[Zj]at hc;obtain⟨hargs,hc⟩:=hc;obtain⟨x',y',rfl,hx,hy⟩:=It hargs;have hx:=aC hx hE hG;have hy:=aC hy hE hG;split at hc
  ·rename_i ty ty' hat;have hat':argTypes= #[ty,ty']:=by rw[←Array.toArray_toList (xs:=argTypes),hat]
   subst hat';simp only[Zj]at hc;obtain⟨hrow,hty2⟩:=hc;obtain⟨ety,i,hr⟩:=DY hrow;obtain⟨z,hz,hzs⟩:=hr.zero;obtain⟨d',hd',hd2⟩:∃d',c.P.underlying ty'=some d'∧((∃e2,d'= .slice e2)∨d'= .string):=by
    split at hty2
    ·rename_i e2 hu;exact⟨_,hu,.inl ⟨e2,rfl⟩⟩
    ·rename_i hu;exact⟨_,hu,.inr rfl⟩
    ·cases hty2
   obtain⟨i3,d,hty⟩:=cY hT hm hr.el;have hi3:i3=i:=by have:=hty.info;rw[hr.info]at this;exact(Option.some.inj this).symm
   subst hi3;have hok:=sY hT hr.row;simp only[evOp,aD]at he;by_cases hel:(V.slIs e (x.ev ρ)&&V.elIs e (y.ev ρ))=true
   ·rw[if_pos hel]at he;simp only[Zj]at hel;cases hle:s.elems (x.ev ρ)with
    |none=>rw[hle]at he;cases he
    |some old=>
     cases hln:s.elems (y.ev ρ)with
     |none=>rw[hle,hln]at he;cases he
     |some new=>
      rw[hle,hln]at he;simp only at he;obtain⟨cy,ey,ly,fy⟩:=yy (P:=c.P) hT hS hy hel.2 hln;obtain⟨cx,ex,lx,fx⟩:=yy (P:=c.P) hT hS hx (M0 hel.1) hle;have hylen:=ey.len hT;have hxlen:=ex.len hT;have fyw:∀w',w'.heap=w.heap→(Builtin.firstCells i3.size new.length (a.eval y')).run c.P w'= .ok cy.toArray w':=by intro w' hw;have:=fy new.length w' (Nat.le_refl _) hw;rw[←hylen,List.take_length]at this;rw[hty.size];exact this
      have fxw:∀w',w'.heap=w.heap→(Builtin.firstCells i3.size old.length (a.eval x')).run c.P w'= .ok cx.toArray w':=by intro w' hw;have:=fx old.length w' (Nat.le_refl _) hw;rw[←hxlen,List.take_length]at this;rw[hty.size];exact this
      obtain⟨bs,cp,hX,hcp⟩:∃bs cp,a.eval x'= .slice bs old.length cp∧old.length≤cp:=by
       cases hxv:x.ev ρ with
       |nils=>
        rw[hxv]at hx hle;rw[iJ]at hx;simp only[St.elems,Zg]at hle;subst hle;exact⟨none,0,hx,Nat.le_refl _⟩
       |sl la p off len cap e'=>
        rw[hxv]at hx hle;obtain⟨ad,r',o,u,c',ad',h1,h2,h3,h4,h5,h6,h7,h8,h9⟩:=jo.1 hx;obtain⟨g1,_⟩:=pY hT hS hle h1 h2 h3;exact⟨some ad',c',by rw[h9,g1],by omega⟩
       |_=>rw[hxv]at hel;simp[V.slIs]at hel
      have hexec:∀vv w1,(Builtin.append_ #[ty,ty'] q.type #[a.eval x',a.eval y']).run c.P w= .ok vv w1→(execOp a.eval q).run c.P w= .ok (.value vv) w1:=by intro vv w1 hh;simp[execOp,hq,resolve,invoke,builtin,hh]
      by_cases h0:new.length=0
      ·rw[if_pos h0]at he;simp only[Zg,Zk]at he;obtain⟨rfl,rfl⟩:=he;have hcy:cy=[]:=by rw[h0,Nat.zero_mul]at hylen;exact List.length_eq_zero_iff.1 hylen
       refine aA hS (x:=a.eval x') (hexec _ _ ?_) hx;rw[hX];have f0:=fyw w rfl;rw[h0,hcy]at f0;have l0:=ly w;rw[h0]at l0;exact GY hr.under hd' hd2 hr.info l0 f0 hcp
      ·rw[if_neg h0]at he;by_cases hmy:old.length+new.length≤cg∧(e%2=0∨bi h (.agg 1 (old++new))=true)
       ·rw[if_pos hmy]at he;obtain⟨hmost,hmy⟩:=hmy;have hmost':old.length+new.length≤1073741824:=hmost;have eall:=ex.app ey;have hmay:bi h (.agg r (old++new))=true:=SU eall.wf eall.tg hmy;have hwf:(V.agg r (old++new)).wf c.T:=by simp only[V.wf];refine⟨?_,eall.wf⟩;unfold cQ;rw[hr.row];exact eall.tg
        have hcell:CR c.T B (.agg r (old++new)) (cx++cy):=by simp only[CR];exact eall.cr
        have hby:(old.length+new.length)*i3.bytes≤140737488355328:=by
         calc (old.length+new.length)*i3.bytes≤1073741824*65536:=Nat.mul_le_mul hmost' hr.bytes
          _≤140737488355328:=by decide
        have grow:∀s1:St,Stp c.T B0 base B s w B s1 w→base≤s1.loc.length→cp<old.length+new.length→v= .sl (s1.fresh h) [] 0 (old.length+new.length) none e→s'=s1.new h (.agg r (old++new))→cE c B0 base B s w a q v s':=by
         intro s1 hst hb1 hlt hv hs';subst hv;subst hs';have hrun:=HV (P:=c.P) (w:=w) (tr:=q.type) hr.under hd' hd2 hr.info hz (bs:=bs) (n:=old.length) (c:=cp) (ly w) (fyw w.drew rfl) (by have:=fxw w.drew rfl;rwa [hX]at this) hlt (by omega) (growslice_fits hlt hby);rw[←hX]at hrun;have hst2:=Stp.drawn (base:=base) hst.sr (w.drawn+1);have hge:=grownCap_ge w (old.length+new.length) cp ety;have hlies:Bf (cx.toArray++cy.toArray++Builtin.zeroCells z.cells (grownCap w (old.length+new.length) cp ety-(old.length+new.length))) 0 (cx++cy):=by intro j u hu;have hj:=(List.getElem?_eq_some_iff.1 hu).1;rw[Nat.zero_add,Array.getElem?_append_left (by simpa using hj)];simpa using hu
         have hnew:=vN (w:=w.drew) hst2.sr hb1 hB0 hwf hmay hcell hlies ety;refine⟨_,_,_,hexec _ _ hrun,.inl ⟨_,rfl,?_⟩,(hst.trans hst2).trans hnew⟩;refine jo.2 ⟨_,_,0,r,grownCap w (old.length+new.length) cp ety,_,ip hst.sr.lenL hst.sr.lenH,rfl,by simp[Tab.elem,hr.row],fun n' e' hi=>(by rw[hr.row]at hi;cases hi),by omega,fun k hk=>(by cases hk),.inr ?_,?_,rfl⟩
         ·show(⟨w.heap.size,0,none⟩:Addr)=⟨w.heap.size,0+(0+0*c.T.size e),none⟩;simp
         ·intro N hN;simp only[Zg]at hN;rw[←hN];simp only[Array.size_append,List.size_toArray,size_zeroCells,hzs,hty.size,hxlen,hylen];rw[←Nat.add_mul,←Nat.add_mul,Nat.add_sub_cancel' hge];simp
        cases hxv:x.ev ρ with
        |nils=>
         rw[hxv]at he hx hle;simp only[Zg,Zk]at he;rw[iJ]at hx;simp only[St.elems,Zg]at hle;refine grow s (.refl hS) hb ?_ he.1.symm he.2.symm;have:cp=0:=by rw[hX]at hx;simp only[Value.slice.injEq]at hx;exact hx.2.2
         omega
        |sl la p off len cap e'=>
         rw[hxv]at he hx hle;obtain⟨ad,r',o,u,c',ad',h1,h2,h3,h4,h5,h6,h7,h8,h9⟩:=jo.1 hx;have hXc:bs=some ad'∧old.length=len∧cp=c':=by rw[hX]at h9;simpa using h9
         obtain⟨rfl,hol,rfl⟩:=hXc;have hee:e'=e:=by have:=hel.1;rw[hxv]at this;simpa[V.slIs]using this
         subst hee;simp only at he;by_cases hk:(cap.map fun c=>decide (c<old.length+new.length))=some true
         ·rw[if_pos hk]at he;simp only[Zg,Zk]at he;refine grow s (.refl hS) hb ?_ he.1.symm he.2.symm;cases cap with
          |none=>cases hk
          |some k=>
           simp only[Option.map_some,Zg,Zi]at hk;have:=h6 k rfl;omega
         ·rw[if_neg hk]at he;by_cases hp:p=[]
          ·rw[if_pos hp]at he;subst hp;cases hsa:s.at la with
           |none=>rw[hsa]at he;cases he
           |some bk=>
            rw[hsa]at he;cases bk with
            |rw u0=>
             simp only[Zg,Zk]at he;have hlen0:=(St.set_len (s:=s) (a:=la) (b:=Blk.dead)).1;by_cases hroom:old.length+new.length≤cp
             ·-- in place
              obtain⟨rfl,rfl⟩:=he;obtain⟨g1,cs0,g2,g3⟩:=pY hT hS hle h1 h2 h3;simp only[ci,Zg,Zk]at h2;obtain⟨rfl,rfl⟩:=h2;have hcs:cs0=cx:=by
               have f1:=fxw w rfl;have f2:=run_firstCells_some (P:=c.P) w i3.size old.length ad' old.length cp cs0 (by rw[hty.size];exact g2.len hT) (fun j v hv=>by
                rcases h7 with h7|h7
                ·omega
                ·rw[h7,Addr.add_mid];exact g3 j v hv)
               rw[hX,f2]at f1;simp only[Result.ok.injEq,and_true]at f1;have:=congrArg Array.toList f1;simpa using this
              subst hcs;have hbk:=hS.blk la _ _ hsa h1;obtain⟨k1,k2,C,e0,cs1,k3,k4,k5,k6⟩:=hbk;have hspot:=h8 C.size k6;simp only at hspot k3;have hadd:ad'=⟨ad.block,ad.off+(0+off*c.T.size e'),none⟩:=by
               rcases h7 with h7|h7
               ·omega
               ·exact h7
              have hpos:=hok.pos;have hfit:ad.off+(0+off*c.T.size e')+old.length*c.T.size e'+cy.length≤C.size:=by have hm1:(old.length+new.length)*c.T.size e'≤cp*c.T.size e':=Nat.mul_le_mul_right _ hroom;rw[Nat.add_mul]at hm1;rw[hylen];omega
              have hst:(storeCells (ad'.add (old.length*i3.size)) cy).run c.P w= .ok () (w.setCells ad.block (ad.off+(0+off*c.T.size e')+old.length*c.T.size e') cy):=by
               rw[hadd,Addr.add_mid,hty.size];refine run_storeCells_cells ad.block _ cy 0 w (fun j hj=> ?_) (fun j hj=> ?_) (zW ey.cr)
               ·rw[cell?_of k3,Array.getElem?_eq_getElem (by omega)];rfl
               ·simp[World.frozen?,k3]
              have hrun:=GB (P:=c.P) (w:=w) (tr:=q.type) hr.under hd' hd2 hr.info (ly w) (fyw w rfl) hroom hst;rw[←hX]at hrun;obtain⟨C',j1,j2,j3⟩:=sH ad.block cy (ad.off+(0+off*c.T.size e')+old.length*c.T.size e') k3 hfit;have hsep:∀a2 b2 ar,(s.set la .dead).at a2=some b2→b2≠ .dead→B.at a2=some ar→ar.1.block≠ad.block:=by
               intro a2 b2 ar hs2 hd2 hB2;by_cases ha:la=a2
               ·subst ha;rw[St.at_set_same hsa]at hs2;exact absurd (Option.some.inj hs2).symm hd2
               ·rw[St.at_set_other ha]at hs2;exact fun e1=>hS.sep la a2 (ad,r') ar u0 b2 hsa h1 hs2 hd2 hB2 ha e1.symm
              obtain⟨m1,m2,m3,m4⟩:=Ek (w:=w) (w':=w.setCells ad.block (ad.off+(0+off*c.T.size e')+old.length*c.T.size e') cy) (O:=Own B s) (zG hS la) (base:=base) (by rw[hlen0];exact hb) hwf hmay (ad:=⟨ad.block,ad.off+(0+off*c.T.size e'),some C'.size⟩)
               ⟨C',e0,cs0++cy,j1,hcell,(fun j u hu=>by
                show C'[ad.off+(0+off*c.T.size e')+j]?=some u;have hgl:=g2.len hT;rw[j3];by_cases hj:j<cs0.length
                ·rw[List.getElem?_append_left hj]at hu;rw[if_neg (by omega)];have:=g3 j u hu;rw[cell?_of k3]at this;exact this
                ·rw[List.getElem?_append_right (by omega)]at hu;have hj2:=(List.getElem?_eq_some_iff.1 hu).1;rw[if_pos (by omega),show ad.off+(0+off*c.T.size e')+j-(ad.off+(0+off*c.T.size e')+old.length*c.T.size e')=j-cs0.length by omega];exact hu),rfl⟩
               (hS.own la u0 (ad,r') hsa h1) (zj rfl) hsep (.inl (.rw hsa h1 rfl)) (fun k hk=>Hw hsa hk)
              refine⟨_,_,_,hexec _ _ hrun,.inl ⟨_,rfl,?_⟩,⟨m1,BM.ext_push,m2,m3,fun b hb hl=>m4 b hb (FD hl)⟩⟩;refine jo.2 ⟨_,_,0,r,cp,_,ip (zG hS la).lenL (zG hS la).lenH,rfl,by simp[Tab.elem,hr.row],fun n' e' hi=>(by rw[hr.row]at hi;cases hi),hroom,fun k hk=>(by cases hk),.inr ?_,?_,rfl⟩
              ·rw[hadd];simp
              ·intro N hN;simp only[Zg]at hN;rw[←hN,j2];simpa using hspot
             ·exact grow (s.set la .dead) (Pr hS hsa) (by rw[hlen0];exact hb) (by omega) he.1.symm he.2.symm
            |_=>cases he
          ·rw[if_neg hp]at he;cases he
        |_=>rw[hxv]at he;cases he
       ·rw[if_neg hmy]at he;cases he
   ·rw[if_neg hel]at he;cases he
  ·cases hc
 ·cases hc
theorem Sn {e:Nat}{x y:Opd}{q:Oper}(hc:ay c (.cpy e x y) q.op=true) (he:evOp base ρ s (.cpy e x y)=some (v,s')):cE c B0 base B s w a q v s':=by
 simp only[ay]at hc;split at hc
 ·rename_i args argTypes hq;simp only[Zj]at hc;obtain⟨hargs,hc⟩:=hc;obtain⟨x',y',rfl,hx,hy⟩:=It hargs;have hx:=aC hx hE hG;have hy:=aC hy hE hG;split at hc
  ·rename_i ty ty' hat;have hat':argTypes= #[ty,ty']:=by rw[←Array.toArray_toList (xs:=argTypes),hat]
   subst hat';unfold DL at hc;split at hc
   ·rename_i ety hu;simp only[Zi]at hc;obtain⟨i,d,hty⟩:=cY hT hm hc;simp only[evOp,iw]at he;by_cases hel:(V.slIs e (x.ev ρ)&&V.elIs e (y.ev ρ))=true
    ·rw[if_pos hel]at he;simp only[Zj]at hel;cases hln:s.elems (y.ev ρ)with
     |none=>rw[hln]at he;cases he
     |some ys=>
      rw[hln]at he;simp only at he;obtain⟨cy,ey,ly,fy⟩:=yy (P:=c.P) hT hS hy hel.2 hln;have hylen:=ey.len hT;have hexec:∀vv w1,(Builtin.copy_ #[ty,ty'] q.type #[a.eval x',a.eval y']).run c.P w= .ok vv w1→(execOp a.eval q).run c.P w= .ok (.value vv) w1:=by intro vv w1 hh;simp[execOp,hq,resolve,invoke,builtin,hh]
      have fyn:∀n,(Builtin.firstCells i.size (min ys.length n) (a.eval y')).run c.P w= .ok (cy.take (min ys.length n*c.T.size e)).toArray w:=by intro n;rw[hty.size];exact fy _ w (Nat.min_le_left _ _) rfl
      cases hxv:x.ev ρ with
      |nils=>
       rw[hxv]at he hx;simp only[Zg,Zk]at he;obtain⟨rfl,rfl⟩:=he;rw[iJ]at hx;refine aA hS (x:=goInt ((min ys.length 0:Nat):Int)) (hexec _ _ ?_) (aQ.2 (by rw[Nat.min_zero];rfl));rw[hx];exact Dv hu hty.info (ly w) (fyn 0) rfl
      |sl la p off len cap e'=>
       rw[hxv]at he hx;have hee:e'=e:=by have:=hel.1;rw[hxv]at this;simpa[V.slIs]using this
       subst hee;obtain⟨ad,r',o,u,c',ad',h1,h2,h3,h4,h5,h6,h7,h8,h9⟩:=jo.1 hx;simp only at he;by_cases h0:min ys.length len=0
       ·rw[if_pos h0]at he;simp only[Zg,Zk]at he;obtain⟨rfl,rfl⟩:=he;refine aA hS (x:=goInt ((min ys.length len:Nat):Int)) (hexec _ _ ?_) (aQ.2 (by rw[h0];rfl));rw[h9];have f0:=fyn len;rw[h0,Nat.zero_mul,List.take_zero]at f0;refine Dv hu hty.info (ly w) (by rw[h0];exact f0) ?_;simp[storeCells]
       ·rw[if_neg h0]at he;cases hr:s.read la p with
        |none=>rw[hr]at he;cases he
        |some rv=>
         rw[hr]at he;cases rv with
         |agg t l=>
          simp only at he;by_cases hle:off+len≤l.length
          ·rw[if_pos hle]at he;generalize hnn:min ys.length len=n at he h0;cases hw:s.write base la p (.agg t (l.take off++ys.take n++l.drop (off+n)))with
           |none=>rw[hw]at he;cases he
           |some s1=>
            rw[hw]at he;simp only[Zg,Zk]at he;obtain⟨rfl,rfl⟩:=he;obtain⟨k1,k2,cs,k3,k4,_⟩:=qX hT hS hr h1 h2;simp only[V.tag]at k2;subst k2;obtain⟨hel0,hpos⟩:=Nt hT k1 k3 h3;have hell:=hel0;rw[←List.take_append_drop off l,←List.take_append_drop n (l.drop off)]at hell;obtain⟨p1,q1,rfl,e1,e2⟩:=hell.split;obtain⟨p2,q2,rfl,e3,e4⟩:=e2.split;rw[List.drop_drop]at e4;have et:=ey.take hT n (by omega);have enew:=(e1.app et).app e4;have l1:=e1.len hT;have l2:=e3.len hT;have lt:=et.len hT;have hm1:min off l.length=off:=Nat.min_eq_left (by omega);have hm2:min n ys.length=n:=Nat.min_eq_left (by omega);have hm3:min n (l.length-off)=n:=Nat.min_eq_left (by omega);rw[List.length_take,hm1]at l1;rw[List.length_take (l:=ys),hm2]at lt;rw[List.length_take,List.length_drop,hm3]at l2;have hnpos:0<n*c.T.size e':=Nat.mul_pos (by omega) hpos;have hlenl:(l.take off++ys.take n++l.drop (off+n)).length=l.length:=by simp only[List.length_append,List.length_take,List.length_drop];omega
            have hwf:(V.agg t (l.take off++ys.take n++l.drop (off+n))).wf c.T:=by
             simp only[V.wf]at k1⊢;refine⟨?_,enew.wf⟩;have hag:=k1.1;unfold cQ at hag⊢;unfold Tab.elem at h3;cases hi:c.T.info t with
             |none=>rw[hi]at hag;exact hag.elim
             |some ti=>
              rw[hi]at hag h3;cases ti with
              |st fs=>cases h3
              |arr n1 e1=>cases h3;exact⟨by rw[hlenl];exact hag.1,enew.tg⟩
              |row e1=>cases h3;exact enew.tg
            have hcr:CR c.T B (V.agg t (l.take off++ys.take n++l.drop (off+n))) (p1++cy.take (n*c.T.size e')++q2):=by simp only[CR];exact enew.cr
            obtain⟨hth,hstp⟩:=Es hT hS hr hw h1 h2 hwf rfl hcr (fun cu hcu=>by simp only[CR]at hcu;have x1:ElR c.T B e' l cu:=⟨hel0.wf,hcu,hel0.tg,hel0.nr⟩;rw[x1.len hT,enew.len hT,hlenl]) (by simp only[List.length_append];omega)
            have hmid:w.setCells ad.block (ad.off+o) (p1++cy.take (n*c.T.size e')++q2)=w.setCells ad.block (ad.off+o+p1.length) (cy.take (n*c.T.size e')):=by refine GR ad.block (ad.off+o) p1 _ q2 w (fun j v hv=>k4 j v (by rw[List.getElem?_append_left (List.getElem?_eq_some_iff.1 hv).1];exact hv)) (fun j v hv=> ?_);have:=k4 (p1.length+(p2.length+j)) v (by rw[List.getElem?_append_right (by omega),Nat.add_sub_cancel_left,List.getElem?_append_right (by omega),Nat.add_sub_cancel_left];exact hv);rw[show ad.off+o+(p1.length+(cy.take (n*c.T.size e')).length)+j=ad.off+o+(p1.length+(p2.length+j)) by omega];exact this
            rw[hmid]at hstp;refine⟨_,_,B,hexec (goInt (n:Int)) _ ?_,.inl ⟨_,rfl,aQ.2 rfl⟩,hstp⟩;rw[h9];have hadd:ad'=⟨ad.block,ad.off+(o+off*c.T.size e'),none⟩:=by
             rcases h7 with h7|h7
             ·omega
             ·exact h7
            have f0:=fyn len;rw[hnn]at f0;have:=Dv (tr:=q.type) (ty':=ty') (dc:=c') (dl:=len) (ba:=some ad') hu hty.info (ly w) (by rw[hnn];exact f0) (w':=w.setCells ad.block (ad.off+o+p1.length) (cy.take (n*c.T.size e'))) (by
             show(storeCells ad' _).run c.P w=_;rw[hadd];have hthere:∀j,j<(cy.take (n*c.T.size e')).length→(w.cell? ⟨ad.block,ad.off+(o+off*c.T.size e')+0+j,none⟩).isSome=true∧w.frozen? ⟨ad.block,ad.off+(o+off*c.T.size e')+0+j,none⟩=false:=by intro j hj;have:=hth (p1.length+j) (by simp only[List.length_append];omega);rw[show ad.off+o+(p1.length+j)=ad.off+(o+off*c.T.size e')+0+j by omega]at this;exact this
             have hst:=run_storeCells_cells (P:=c.P) ad.block (ad.off+(o+off*c.T.size e')) (cy.take (n*c.T.size e')) 0 w (fun j hj=>(hthere j hj).1) (fun j hj=>(hthere j hj).2) (zW et.cr);rw[hst];congr 2;omega)
            rw[hnn]at this;exact this
          ·rw[if_neg hle]at he;cases he
         |_=>cases he
      |_=>rw[hxv]at hel;simp[V.slIs]at hel
    ·rw[if_neg hel]at he;cases he
   ·cases hc
  ·cases hc
 ·cases hc
end sims
theorem sU {T:Tab}:∀{p:List Nat}{j r o e:Nat},ci T r (p++[j])=some (o,e)→∃o' u' d,ci T r p=some (o',u')∧ci T u' [j]=some (d,e)∧o=o'+d
 |[],j,r,o,e,h=>⟨0,r,o,rfl,h,(Nat.zero_add _).symm⟩
 |i::p,j,r,o,e,h=>by
  simp only[ci,List.cons_append]at h⊢;cases hi:T.info r with
  |none=>rw[hi]at h;cases h
  |some ti=>
   rw[hi]at h;cases ti with
   |st fs=>
    simp only at h⊢;cases hf:fs[i]? with
    |none=>rw[hf]at h;cases h
    |some c=>
     rw[hf]at h;simp only[Option.map_eq_some_iff,Zk,Prod.exists]at h;obtain⟨o1,e1,h1,h2,rfl⟩:=h;obtain⟨o',u',d,g1,g2,g3⟩:=sU h1;exact⟨_,u',d,by simp only[g1,Option.map_some];rfl,g2,by omega⟩
   |arr n e2=>
    simp only at h⊢;split at h
    ·rename_i hn;rw[if_pos hn];simp only[Option.map_eq_some_iff,Zk,Prod.exists]at h;obtain⟨o1,e1,h1,h2,rfl⟩:=h;obtain⟨o',u',d,g1,g2,g3⟩:=sU h1;exact⟨_,u',d,by simp only[g1,Option.map_some];rfl,g2,by omega⟩
    ·cases h
   |row e2=>
    simp only at h⊢;simp only[Option.map_eq_some_iff,Zk,Prod.exists]at h;obtain⟨o1,e1,h1,h2,rfl⟩:=h;obtain⟨o',u',d,g1,g2,g3⟩:=sU h1;exact⟨_,u',d,by simp only[g1,Option.map_some];rfl,g2,by omega⟩
section sims
variable {c : Cfg} (hT : aR c.T = true) (hm : kr c = true) {B0 base : Nat} {B : BM} {s s' : St} {w : World} {a : Act} {ρ : Env} {v : V}
 (hE:ER c.T B ρ a.tmps) (hG:fb c.gl B) (hS:SR c.T B0 B s w)
include hE hG hS
theorem Uh {n e:Nat}{x:Opd}{q:Oper}(hc:ay c (.s2a n e x) q.op=true) (he:evOp base ρ s (.s2a n e x)=some (v,s')):cE c B0 base B s w a q v s':=by
 simp only[ay]at hc;split at hc
 ·rename_i ty x' hq;simp only[Zj]at hc;obtain⟨hu,hcx⟩:=hc;have hx:=aC hcx hE hG;split at hu
  ·rename_i n' ety hu';simp only[Zj,Zi]at hu;obtain⟨rfl,hety⟩:=hu;simp only[evOp]at he;split at he
   ·rename_i l path off len cap e' hxv;rw[hxv]at hx;by_cases htt:e'=e∧0<n∧n≤len
    ·rw[if_pos htt]at he;obtain⟨rfl,hn0,hnl⟩:=htt;simp only[Zg,Zk]at he;obtain⟨rfl,rfl⟩:=he;obtain⟨ad,r,o,u,c',ad',h1,h2,h3,h4,h5,h6,h7,h10,h8⟩:=jo.1 hx;have had:ad'=⟨ad.block,ad.off+(o+off*c.T.size e'),none⟩:=by
      rcases h7 with h7|h7
      ·omega
      ·exact h7
     refine aA hS (x:= .pointer (some ⟨ad.block,ad.off+(o+off*c.T.size e'),none⟩)) ?_ (ff.2 ⟨ad,r,o+off*c.T.size e',h1,iN h2 ?_,rfl⟩)
     ·have hnl':¬len<n:=by omega
      simp[execOp,hq,h8,had,Instr.arrayAt,run_underlying hu',hnl']
     ·unfold Tab.elem at h3;cases hti:c.T.info u with
      |none=>rw[hti]at h3;cases h3
      |some ti=>
       rw[hti]at h3;cases ti with
       |st _=>cases h3
       |arr n2 e2=>
        simp only[Zg]at h3;subst h3;have:=h4 n2 e2 hti;simp only[ci,hti,if_pos (show off<n2 by omega),Option.map_some,Nat.add_zero]
       |row e2=>
        simp only[Zg]at h3;subst h3;simp only[ci,hti,Option.map_some,Nat.add_zero]
    ·rw[if_neg htt]at he;cases he
   ·cases he
  ·cases hu
 ·cases hc
include hT hm
theorem Uw {t n e u:Nat}{p:Opd}{q:Oper}(hc:ay c (.ldr t n e u p) q.op=true) (he:evOp base ρ s (.ldr t n e u p)=some (v,s')):cE c B0 base B s w a q v s':=by
 simp only[ay]at hc;split at hc
 ·rename_i ty p' hq;simp only[Zj,Zi]at hc;obtain⟨⟨⟨⟨hcp,htg⟩,hti⟩,hel⟩,hn0⟩:=hc;simp only[evOp]at he;have hp:=aC hcp hE hG;obtain⟨i,d,hty⟩:=cY hT hm htg;cases hv:p.ev ρ with
  |ptr l q0 e'=>
   rw[hv]at he hp;simp only at he;by_cases htt:e'=e
   ·rw[if_pos htt]at he;subst htt;cases hr:s.part n u l q0 with
    |none=>rw[hr]at he;cases he
    |some lst=>
     rw[hr]at he;simp only[Zg,Zk]at he;obtain⟨rfl,rfl⟩:=he;unfold St.part at hr;cases hrd:s.read l q0.dropLast with
     |none=>rw[hrd]at hr;cases hr
     |some g=>
      rw[hrd]at hr;cases g with
      |agg u' L=>
       simp only at hr;split at hr
       ·rename_i hh;obtain⟨rfl,hne,hlen⟩:=hh;obtain⟨p0,k,rfl⟩:∃p0 k,q0=p0++[k]:=⟨q0.dropLast,q0.getLast hne,(List.dropLast_concat_getLast hne).symm⟩;simp only[List.dropLast_concat,List.getLastD_concat,Zg]at hrd hr hlen;obtain⟨ad,r,o,h1,h2,h3⟩:=ff.1 hp;obtain⟨o',u2,d2,g1,g2,g3⟩:=sU h2;obtain⟨r1,r2,_⟩:=qX hT hS hrd h1 g1;simp only[V.tag]at r2;subst r2;have hd2:d2=k*c.T.size e':=by
         unfold Tab.elem at hel;cases hi2:c.T.info u' with
         |none=>rw[hi2]at hel;cases hel
         |some ti=>
          rw[hi2]at hel;cases ti with
          |st _=>cases hel
          |arr n2 e2=>
           simp only[Zg]at hel;subst hel;simp only[ci,hi2]at g2;split at g2
           ·simp only[Option.map_some,Nat.add_zero,Zg,Zk]at g2;exact g2.1.symm
           ·cases g2
          |row e2=>
           simp only[Zg]at hel;subst hel;simp only[ci,hi2,Option.map_some,Nat.add_zero,Zg,Zk]at g2;exact g2.1.symm
        have hels:s.elems (.sl l p0 k n none e')=some lst:=by simp only[St.elems];rw[if_neg (by omega),hrd];simp only;rw[if_pos hlen,hr]
        obtain⟨k1,cs,k2,k3⟩:=pY hT hS hels h1 g1 hel;have hw:(V.agg t lst).wf c.T:=by simp only[V.wf];refine⟨?_,k2.wf⟩;unfold cQ;rw[hti];exact⟨k1,k2.tg⟩
        have hcr:CR c.T B (.agg t lst) cs:=by simp only[CR];exact k2.cr
        rw[←hd2,←g3]at k3;obtain⟨x,hx1,hx2⟩:=ua hT hty hw rfl hcr k3;exact aA hS (by simp[execOp,hq,h3,hx1]) (eu hx2)
       ·cases hr
      |_=>cases hr
   ·rw[if_neg htt]at he;cases he
  |_=>rw[hv]at he;cases he
 ·cases hc
end sims
theorem JH {s:St}{v:V}{i:Nat}{l:List Int}(h:s.mpAt v=some (i,l)):v= .mp (some i)∧s.at (.hp i)=some (.mp l):=by
 unfold St.mpAt at h;split at h
 ·split at h
  ·rename_i h1;simp only[Zg,Zk]at h;obtain⟨rfl,rfl⟩:=h;exact⟨rfl,h1⟩
  ·cases h
 ·cases h
structure W9 (c:Cfg) (ty k e:Nat):Prop where
 under:c.P.underlying ty=some (.map k e)
 key:c.P.underlying k=some (.int .i64)
 zero:∃i,c.P.info? e=some i∧i.zero=some (.bool false)
theorem Gt {c:Cfg}{ty:Nat}(h:Cq c ty=true):∃k e,W9 c ty k e:=by
 unfold Cq at h;split at h
 ·rename_i k e hu;simp only[Zj]at h;obtain⟨h1,h2⟩:=h;refine⟨k,e,hu,?_,?_⟩
  ·split at h1
   ·assumption
   ·cases h1
  ·split at h2
   ·rename_i h3;cases hi:c.P.info? e with
    |none=>rw[hi]at h3;cases h3
    |some i=>rw[hi]at h3;exact⟨i,rfl,h3⟩
   ·cases h2
 ·cases h
theorem uX.keys {l:List Int}{es:Array MapEntry}(h:uX l es):∀x∈es.toList,∃n∈l,x.key= .int .i64 n∧x.val= .bool true:=by intro x hx;have h1:(x.key,x.val)∈es.toList.map (fun e=>(e.key,e.val)):=List.mem_map.2 ⟨x,hx,rfl⟩;rw[h]at h1;obtain⟨n,hn,he⟩:=List.mem_map.1 h1;simp only[Zk]at he;exact⟨n,hn,he.1.symm,he.2.symm⟩
theorem uX.isKey {l:List Int}{es:Array MapEntry}(h:uX l es):∀x∈es.toList,MapKept.IsKey (.int .i64) x.key:=by intro x hx;obtain⟨n,_,h1,_⟩:=h.keys x hx;rw[h1];exact rfl
theorem uX.has {l:List Int}{es:Array MapEntry}(h:uX l es) {n:Int}(hn:n∈l):∃x∈es.toList,x.key= .int .i64 n:=by have h1:(Value.int .i64 n,Value.bool true)∈l.map fun n=>(Value.int .i64 n,Value.bool true):=List.mem_map.2 ⟨n,hn,rfl⟩;rw[←h]at h1;obtain⟨x,hx,he⟩:=List.mem_map.1 h1;simp only[Zk]at he;exact⟨x,hx,he.1⟩
theorem Ao {T:Tab}{B0 base:Nat}{B:BM}{s:St}{w:World}(h:SR T B0 B s w) {i:Nat}{l l':List Int}(hs:s.at (.hp i)=some (.mp l)) {ad:Addr}(hB:B.at (.hp i)=some (ad,3))
 {es':Array MapEntry}{clock':Nat}(hm:uX l' es'):Stp T B0 base B s w B (s.set (.hp i) (.mp l')) {w with heap:=w.heap.setIfInBounds ad.block (.map es' clock')}:=by
 have hb:=h.blk _ _ _ hs hB;obtain⟨_,es,clock,h3,_⟩:=hb;obtain⟨g1,g2⟩:=MapKept.heap_set (o':= .map es' clock') h3;have hl:=St.set_len (s:=s) (a:= .hp i) (b:=Blk.mp l');have key:∀a b,(s.set (.hp i) (.mp l')).at a=some b→(a= .hp i∧b= .mp l')∨(a≠ .hp i∧s.at a=some b):=by
  intro a b hb;by_cases ha:Loc.hp i=a
  ·subst ha;rw[St.at_set_same hs]at hb;exact .inl ⟨rfl,(Option.some.inj hb).symm⟩
  ·rw[St.at_set_other ha]at hb;exact .inr ⟨fun e=>ha e.symm,hb⟩
 refine⟨⟨by rw[hl.1];exact h.lenL,by rw[hl.2];exact h.lenH,?_,?_,?_,?_⟩,Ext.refl _,⟨rfl,rfl,rfl,by simp,?_⟩,?_,?_⟩
 ·intro a b ar ha hBa;rcases key _ _ ha with⟨rfl,rfl⟩|⟨hne,h1⟩
  ·rw[hB]at hBa;cases hBa;exact⟨rfl,es',clock',g1,hm⟩
  ·refine(h.blk a b ar h1 hBa).of_heap (fun hd=>g2 _ (fun e=> ?_));exact h.sepM (.hp i) a (ad,3) ar _ b hs rfl hB h1 hd hBa (fun e=>hne e.symm) e.symm
 ·intro a1 a2 ar1 ar2 b1 b2 hs1 hm1 hB1 hs2 hd hB2 hne;have g1:∃v0,s.at a1=some v0∧v0.mut=true:=by
   rcases key _ _ hs1 with⟨rfl,rfl⟩|⟨_,h1⟩
   ·exact⟨_,hs,rfl⟩
   ·exact⟨_,h1,hm1⟩
  have g2:∃b0,s.at a2=some b0∧b0≠ .dead:=by
   rcases key _ _ hs2 with⟨rfl,rfl⟩|⟨_,h1⟩
   ·exact⟨_,hs,by simp⟩
   ·exact⟨_,h1,hd⟩
  obtain⟨v0,g1,gm⟩:=g1;obtain⟨b0,g2,g3⟩:=g2;exact h.sepM a1 a2 ar1 ar2 v0 b0 g1 gm hB1 g2 g3 hB2 hne
 ·intro a1 b1 ar1 hs1 hm1 hB1;rcases key _ _ hs1 with⟨rfl,rfl⟩|⟨_,h1⟩
  ·exact h.ownM _ _ ar1 hs rfl hB1
  ·exact h.ownM _ _ ar1 h1 hm1 hB1
 ·intro j b2 hj;rcases key (.hp j) b2 hj with⟨_,rfl⟩|⟨_,h1⟩
  ·rfl
  ·exact h.hpv j b2 h1
 ·intro k _ ho;exact g2 k (fun e=>ho ⟨.hp i,_,(ad,3),hs,rfl,hB,e.symm⟩)
 ·rintro k _ ⟨a1,b1,ar1,hs1,hm1,hB1,hk⟩;rcases key _ _ hs1 with⟨rfl,rfl⟩|⟨_,h1⟩
  ·exact⟨_,_,ar1,hs,rfl,hB1,hk⟩
  ·exact⟨_,_,ar1,h1,hm1,hB1,hk⟩
 ·exact fun b _ hl=>hl
theorem Ja {T:Tab}{B0 base:Nat}{B:BM}{s:St}{w:World}(h:SR T B0 B s w) (hB0:B0≤w.heap.size):
 Stp T B0 base B s w (B.push true (⟨w.heap.size,0,none⟩,3)) ⟨s.loc,s.hp++[.mp []]⟩ (w.alloc (.map #[] 0)):=by
 have hext:Ext B (B.push true (⟨w.heap.size,0,none⟩,3)):=BM.ext_push;have hlt:∀a b ar,s.at a=some b→b≠ .dead→B.at a=some ar→ar.1.block<w.heap.size:=fun a b ar hs hd hB=>(h.blk a b ar hs hB).lt hd;have hold:∀a b ar,s.at a=some b→(B.push true (⟨w.heap.size,0,none⟩,3)).at a=some ar→B.at a=some ar:=by
  intro a b ar hs hB;rcases Jy h.lenL h.lenH hB with h1|⟨h1,_⟩
  ·exact h1
  ·subst h1;rw[Cx]at hs;cases hs
 have key:∀a b,(⟨s.loc,s.hp++[.mp []]⟩:St).at a=some b→s.at a=some b∨(a=s.fresh true∧b= .mp []):=by
  intro a b hs;cases a with
  |loc i=>exact .inl hs
  |hp i=>
   rcases getElem?_snoc (show(s.hp++[Blk.mp []])[i]?=some b from hs)with h1|⟨h1,h2⟩
   ·exact .inl h1
   ·exact .inr ⟨by rw[h1];rfl,h2⟩
 have hfr:∀ar,(B.push true (⟨w.heap.size,0,none⟩,3)).at (s.fresh true)=some ar→ar=(⟨w.heap.size,0,none⟩,3):=by intro ar hB;rw[ip h.lenL h.lenH]at hB;exact(Option.some.inj hB).symm
 obtain⟨g1,g2⟩:=MapKept.heap_alloc w (.map #[] 0);refine⟨⟨by simp[BM.push,h.lenL],by simp[BM.push,h.lenH],?_,?_,?_,?_⟩,hext,⟨rfl,rfl,rfl,(by show w.heap.size≤(w.heap.push _).size;simp),fun k hk _=>g2 k hk⟩,?_,?_⟩
 ·intro a b ar hs hB;rcases key _ _ hs with h1|⟨rfl,rfl⟩
  ·have hB':=hold a b ar h1 hB;exact((h.blk a b ar h1 hB').of_heap (fun hd=>g2 _ (hlt a b ar h1 hd hB'))).ext hext
  ·rw[hfr ar hB];exact⟨rfl,#[],0,g1,rfl⟩
 ·intro a a' ar ar' u b' hs hm hB hs' hd hB' hne;rcases key _ _ hs with h1|⟨rfl,rfl⟩
  ·rcases key _ _ hs' with h1'|⟨rfl,rfl⟩
   ·exact h.sepM a a' ar ar' u b' h1 hm (hold _ _ _ h1 hB) h1' hd (hold _ _ _ h1' hB') hne
   ·rw[hfr ar' hB'];exact Nat.ne_of_lt (hlt a _ ar h1 (Blk.mut_live hm) (hold _ _ _ h1 hB))
  ·rw[hfr ar hB];rcases key _ _ hs' with h1'|⟨rfl,rfl⟩
   ·exact(Nat.ne_of_lt (hlt a' b' ar' h1' hd (hold _ _ _ h1' hB'))).symm
   ·exact absurd rfl hne
 ·intro a u ar hs hm hB;rcases key _ _ hs with h1|⟨rfl,rfl⟩
  ·exact h.ownM a u ar h1 hm (hold _ _ _ h1 hB)
  ·rw[hfr ar hB];exact hB0
 ·intro i b hi;rcases key (.hp i) b hi with h1|⟨_,rfl⟩
  ·exact h.hpv i b h1
  ·rfl
 ·rintro k hk ⟨a,u,ar,hs,hm,hB,he⟩;rcases key _ _ hs with h1|⟨rfl,rfl⟩
  ·exact⟨a,u,ar,h1,hm,hold _ _ _ h1 hB,he⟩
  ·rw[hfr ar hB]at he;simp only at he;omega
 ·exact fun b _ hl=>hl
section maps
variable {c : Cfg} {B0 base : Nat} {B : BM} {s s' : St} {w : World} {a : Act} {ρ : Env} {v : V}
 (hE:ER c.T B ρ a.tmps) (hG:fb c.gl B) (hS:SR c.T B0 B s w)
include hS
theorem SW (hB0:B0≤w.heap.size) {q:Oper}(hc:ay c .mkm q.op=true) (he:evOp base ρ s .mkm=some (v,s')):cE c B0 base B s w a q v s':=by
 simp only[ay]at hc;split at hc
 ·rename_i ty hq;simp only[evOp,Zg,Zk]at he;obtain⟨rfl,rfl⟩:=he;refine⟨_,_,_,?_,.inl ⟨.map (some w.heap.size),rfl,?_⟩,Ja hS hB0⟩
  ·simp[execOp,hq,Instr.makeMap]
  ·exact Fu.2 ⟨_,ip hS.lenL hS.lenH,rfl⟩
 ·cases hc
include hE hG
theorem Ui {x k:Opd}{q:Oper}(hc:ay c (.mlk x k) q.op=true) (he:evOp base ρ s (.mlk x k)=some (v,s')):cE c B0 base B s w a q v s':=by
 simp only[ay]at hc;split at hc
 ·rename_i ty x' k' hq;simp only[Zj]at hc;obtain⟨⟨hx,hk⟩,ht⟩:=hc;have hx:=aC hx hE hG;have hk:=aC hk hE hG;obtain⟨kt,et,hty⟩:=Gt ht;obtain⟨i0,hi,hz⟩:=hty.zero;simp only[evOp]at he;unfold my at he;cases hmp:s.mpAt (x.ev ρ)with
  |none=>rw[hmp]at he;cases he
  |some p=>
   obtain⟨i,l⟩:=p;obtain⟨hxv,hs⟩:=JH hmp;rw[hmp]at he;cases hkv:k.ev ρ with
   |int ik n=>
    rw[hkv]at he hk;rw[hxv]at hx;cases ik with
    |i64=>
     simp only[Zg,Zk]at he;obtain⟨rfl,rfl⟩:=he;obtain⟨ad,hB,hxe⟩:=Fu.1 hx;have hke:=aQ.1 hk;obtain⟨_,es,clock,h3,h4⟩:=hS.blk _ _ _ hs hB;have hkey:MapKept.IsKey (.int .i64) (.int .i64 n):=rfl;rcases MapKept.findNow_spec hkey es.toList 0 h4.isKey with⟨g1,g2⟩|⟨j,e,g1,g2,g3⟩
     ·have hn:¬n∈l:=fun hn=>by obtain⟨y,hy,hye⟩:=h4.has hn;exact g2 y hy hye
      refine aA hS (x:= .bool false) ?_ (bn.2 (by simp[hn]));simp[execOp,hq,hxe,hke,Instr.lookup,run_underlying hty.under,MapKept.run_getObj_map h3,MapKept.run_checkKey hty.key hkey,MapKept.run_findKey hty.key g1,zeroValue,typeInfo,hi,hz,Result.andThen]
     ·obtain⟨n',hn',g4,g5⟩:=h4.keys e (List.mem_of_getElem? g2);rw[g3]at g4;cases g4;refine aA hS (x:= .bool true) ?_ (bn.2 (by simp[hn']));simp[execOp,hq,hxe,hke,Instr.lookup,run_underlying hty.under,MapKept.run_getObj_map h3,MapKept.run_checkKey hty.key hkey,MapKept.run_findKey hty.key g1,g5,Result.andThen]
    |_=>cases he
   |_=>rw[hkv]at he;cases he
 ·cases hc
theorem Up {x k y:Opd}{q:Oper}(hc:ay c (.mup x k y) q.op=true) (he:evOp base ρ s (.mup x k y)=some (v,s')):cE c B0 base B s w a q v s':=by
 simp only[ay]at hc;split at hc
 ·rename_i ty x' k' y' hq;simp only[Zj]at hc;obtain⟨⟨⟨hx,hk⟩,hy⟩,ht⟩:=hc;have hx:=aC hx hE hG;have hk:=aC hk hE hG;have hy:=aC hy hE hG;obtain⟨kt,et,hty⟩:=Gt ht;simp only[evOp]at he;unfold i7 at he;cases hmp:s.mpAt (x.ev ρ)with
  |none=>rw[hmp]at he;cases he
  |some p=>
   obtain⟨i,l⟩:=p;obtain⟨hxv,hs⟩:=JH hmp;rw[hmp]at he;cases hkv:k.ev ρ with
   |int ik n=>
    rw[hkv]at he hk;rw[hxv]at hx;cases ik with
    |i64=>
     cases hyv:y.ev ρ with
     |bool b=>
      rw[hyv]at he hy;cases b with
      |true=>
       simp only[Zg,Zk]at he;obtain⟨rfl,rfl⟩:=he;obtain⟨ad,hB,hxe⟩:=Fu.1 hx;have hke:=aQ.1 hk;have hye:=bn.1 hy;obtain⟨_,es,clock,h3,h4⟩:=hS.blk _ _ _ hs hB;have hkey:MapKept.IsKey (.int .i64) (.int .i64 n):=rfl;rcases MapKept.findNow_spec hkey es.toList 0 h4.isKey with⟨g1,g2⟩|⟨j,e,g1,g2,g3⟩
       ·have hn:¬n∈l:=fun hn=>by obtain⟨y,hy,hye⟩:=h4.has hn;exact g2 y hy hye
        rw[if_neg hn];refine⟨.skip,_,B,?_,.inr ⟨rfl,rfl⟩,Ao (l':=l++[n]) hS hs hB (es':=es.push {key:= .int .i64 n,val:= .bool true,born:=clock}) (clock':=clock+1) ?_⟩
        ·simp[execOp,hq,hxe,hke,hye,Instr.mapUpdate,run_underlying hty.under,MapKept.run_getObj_map h3,MapKept.run_checkKey hty.key hkey,MapKept.run_findKey hty.key g1,MapKept.run_setObj_map _ h3,Result.andThen]
        ·unfold uX at h4⊢;simp[h4]
       ·obtain⟨n',hn',g4,g5⟩:=h4.keys e (List.mem_of_getElem? g2);rw[g3]at g4;cases g4;rw[if_pos hn'];have hj:es[j]?=some e:=by simpa using g2
        refine⟨.skip,_,B,?_,.inr ⟨rfl,rfl⟩,Ao (l':=l) hS hs hB (es':=es.modify j fun e=>{e with key:= .int .i64 n,val:= .bool true}) (clock':=clock) ?_⟩
        ·simp[execOp,hq,hxe,hke,hye,Instr.mapUpdate,run_underlying hty.under,MapKept.run_getObj_map h3,MapKept.run_checkKey hty.key hkey,MapKept.run_findKey hty.key g1,hj,g3,MapKept.run_keyThatStays hkey,MapKept.run_setObj_map _ h3,Result.andThen]
        ·unfold uX at h4⊢;rw[←h4];apply List.ext_getElem?;intro m;simp only[List.getElem?_map,Array.getElem?_toList,Array.getElem?_modify];by_cases hm:j=m
         ·subst hm;simp[hj,g3,g5]
         ·rw[if_neg hm]
      |false=>cases he
     |_=>rw[hyv]at he;cases he
    |_=>cases he
   |_=>rw[hkv]at he;cases he
 ·cases hc
end maps
section join
variable {c : Cfg} (hT : aR c.T = true) (hm : kr c = true) {B0 base : Nat} {B : BM} {s s' : St} {w : World} {a : Act} {ρ : Env} {v : V}
 (hE:ER c.T B ρ a.tmps) (hG:fb c.gl B) (hS:SR c.T B0 B s w) (hb:base≤s.loc.length) (hB0:B0≤w.heap.size)
include hT hm hE hG hS hb hB0
theorem U8 {o:Op'}{q:Oper}(hc:ay c o q.op=true) (he:evOp base ρ s o=some (v,s')):cE c B0 base B s w a q v s':=by
 cases o with
 |mv x=>exact WD hE hG hS hc he
 |pick x y z=>exact Rm hE hG hS hc he
 |alloc h z=>exact Nu hS hb hB0 hc he
 |box h x=>exact TA hE hG hS hb hB0 hc he
 |ld t p=>exact GM hT hm hE hG hS hc he
 |st t p x=>exact MS hT hm hE hG hS hc he
 |nilc x=>exact Qz hE hG hS hc he
 |bin o x y=>exact SM hE hG hS hc he
 |eq n t x y=>exact VA hT hm hE hG hS hc he
 |un o x=>exact Vx hE hG hS hc he
 |conv k x=>exact Pm hE hG hS hc he
 |mkfn f l=>exact QP hT hE hG hS hc he
 |mksl h r e z n m=>exact Ri hT hm hE hG hS hb hB0 hc he
 |slc e x lo hi mx=>exact Ss hT hm hE hG hS hc he
 |slstr x lo hi=>exact OA hE hG hS hc he
 |slarr t n e x lo hi mx=>exact Mt hT hm hE hG hS hc he
 |fad t f u x=>exact Tc hT hm hE hG hS hc he
 |iad t n e x y=>exact SL hT hm hE hG hS hc he
 |sad e x y=>exact SD hT hm hE hG hS hc he
 |s2a n e x=>exact Uh hE hG hS hc he
 |ldr t n e u p=>exact Uw hT hm hE hG hS hc he
 |fld t f x=>exact TH hT hm hE hG hS hc he
 |idx t n x y=>exact S7 hT hm hE hG hS hc he
 |sidx x y=>exact OQ hE hG hS hc he
 |ext x i=>exact Uk hE hG hS hc he
 |lenk n=>exact P8 hS hc he
 |len q x=>exact Tw hE hG hS hc he
 |app h r e x y=>exact Jv hT hm hE hG hS hb hB0 hc he
 |bld z ps=>exact Uf hT hm hE hG hS hc he
 |bsl h r e z n ps=>exact SZ hT hm hE hG hS hb hB0 hc he
 |cpy e x y=>exact Sn hT hm hE hG hS hc he
 |mnx m x y=>exact ST hE hG hS hc he
 |call f l=>cases he
 |pcall f l=>cases he
 |sta t p x l=>
  have hc':ay c (.st t p x) q.op=true:=hc;have he':evOp base ρ s (.st t p x)=some (v,s'):=by
   simp only[evOp]at he⊢;split at he
   ·exact he
   ·cases he
  exact MS hT hm hE hG hS hc' he'
 |callw f l w=>cases he
 |callk b f l=>cases he
 |appa h r e x y l=>
  have hc':ay c (.app h r e x y) q.op=true:=hc;have he':evOp base ρ s (.app h r e x y)=some (v,s'):=by
   simp only[evOp]at he⊢;split at he
   ·exact he
   ·cases he
  exact Jv hT hm hE hG hS hb hB0 hc' he'
 |ldl t p=>
  have hc':ay c (.ld t p) q.op=true:=hc;have he':evOp base ρ s (.ld t p)=some (v,s'):=by
   simp only[evOp]at he⊢;split at he
   ·rename_i i path t' hp;rw[hp];exact he
   ·cases he
  exact GM hT hm hE hG hS hc' he'
 |lda t p r=>
  have hc':ay c (.ld t p) q.op=true:=hc;have he':evOp base ρ s (.ld t p)=some (v,s'):=by
   simp only[evOp]at he⊢;split at he
   ·exact he
   ·cases he
  exact GM hT hm hE hG hS hc' he'
 |mkm=>exact SW hS hB0 hc he
 |mlk x k=>exact Ui hE hG hS hc he
 |mup x k y=>exact Up hE hG hS hc he
end join
def BM.cut (B:BM) (n:Nat):BM:={B with loc:=B.loc.take n}
theorem BJ {B:BM}{n:Nat}{a:Loc}{x:Addr×Nat}(h:∀i,a= .loc i→i<n) (hx:B.at a=some x):(B.cut n).at a=some x:=by
 cases a with
 |loc i=>simp only[BM.at,BM.cut]at*;rw[List.getElem?_take,if_pos (h i rfl)];exact hx
 |hp i=>exact hx
theorem iF {B:BM}{n:Nat}{a:Loc}{x:Addr×Nat}(hx:(B.cut n).at a=some x):B.at a=some x∧∀i,a= .loc i→i<n:=by
 cases a with
 |loc i=>
  simp only[BM.at,BM.cut,List.getElem?_take]at*;split at hx
  ·rename_i h;exact⟨hx,fun j hj=>by cases hj;exact h⟩
  ·cases hx
 |hp i=>exact⟨hx,fun j hj=>by cases hj⟩
theorem fg {s:St}{n:Nat}{a:Loc}{x:Blk}(hx:(s.cut n).at a=some x):s.at a=some x∧∀i,a= .loc i→i<n:=by
 cases a with
 |loc i=>
  simp only[St.at,St.cut,List.getElem?_take]at*;split at hx
  ·rename_i h;exact⟨hx,fun j hj=>by cases hj;exact h⟩
  ·cases hx
 |hp i=>exact⟨hx,fun j hj=>by cases hj⟩
theorem Kf {T:Tab}(hT:aR T=true) {B:BM}{n:Nat}{v:V}{x:Value}(h:VR1 T B v x) (hl:v.locLt n=true):VR1 T (B.cut n) v x:=
 ⟨h.1,C5 hT (fun _ _ ha hx=>BJ ha hx) h.1 (.inr hl) h.2.1,h.2.2⟩
theorem zm {T:Tab}(hT:aR T=true) {B:BM}{n:Nat}:∀{l:List V}{m:List Value},ez (VR1 T B) l m→V.locLts n l=true→ez (VR1 T (B.cut n)) l m
 |[],[],_,_=>trivial
 |_::_,_::_,h,hl=>by simp only[V.locLts,Zj]at hl;exact⟨Kf hT h.1 hl.1,zm hT h.2 hl.2⟩
 |[],_::_,h,_=>h.elim
 |_::_,[],h,_=>h.elim
theorem GE {T:Tab}(hT:aR T=true) {B:BM}{n:Nat}{v:V}{x:Value}(h:VR T B v x) (hl:v.locLt n=true):VR T (B.cut n) v x:=by
 cases v with
 |dead=>trivial
 |tup l=>
  simp only[VR]at h⊢;obtain⟨xs,h1,h2⟩:=h;exact⟨xs,h1,zm hT h2 (by simpa only[V.locLt]using hl)⟩
 |_=>exact Kf hT h hl
theorem Gy {T:Tab}(hT:aR T=true) {B0:Nat}{B:BM}{s:St}{w:World}(h:SR T B0 B s w) {n:Nat}(hl:Lvl n s):SR T B0 (B.cut n) (s.cut n) w:=by
 refine⟨by simp[BM.cut,St.cut,h.lenL],h.lenH,?_,?_,?_,h.hpv⟩
 ·intro a b ar hs hB;obtain⟨hs,hs'⟩:=fg hs;obtain⟨hB,_⟩:=iF hB;have hb:=h.blk a b ar hs hB;have hlt:bl n b=true:=by
   cases a with
   |loc i=>exact hl i b (hs' i rfl) hs
   |hp i=>exact td (Nat.zero_le _) (h.hpv i b hs)
  cases b with
  |dead=>trivial
  |ro v=>
   obtain⟨h1,h2,c,e,fr,cs,h3,h4,h5⟩:=hb;exact⟨h1,h2,c,e,fr,cs,h3,C5 hT (fun _ _ ha hx=>BJ ha hx) h1 (.inr hlt) h4,h5⟩
  |rw v=>
   obtain⟨h1,h2,c,e,cs,h3,h4,h5⟩:=hb;exact⟨h1,h2,c,e,cs,h3,C5 hT (fun _ _ ha hx=>BJ ha hx) h1 (.inr hlt) h4,h5⟩
  |mp l=>exact hb
 ·intro a a' ar ar' v b' h1 hm h2 h3 h4 h5 h6;exact h.sepM a a' ar ar' v b' (fg h1).1 hm (iF h2).1 (fg h3).1 h4 (iF h5).1 h6
 ·intro a v ar h1 hm h2;exact h.ownM a v ar (fg h1).1 hm (iF h2).1
theorem Stp.lens {T:Tab}{B0 base:Nat}{B B':BM}{s s':St}{w w':World}(h:SR T B0 B s w) (h':Stp T B0 base B s w B' s' w'):s.loc.length≤s'.loc.length∧w.heap.size≤w'.heap.size:=by refine⟨?_,h'.frm.size⟩;rw[←h.lenL,←h'.sr.lenL];exact h'.ext.loc.length_le
theorem Stp.cut {T:Tab}(hT:aR T=true) {B0 base:Nat}{B B':BM}{s s':St}{w w':World}(h:SR T B0 B s w) (h':Stp T B0 base B s w B' s' w') {n:Nat}(hn:s.loc.length≤n) (_hb:base≤n) (hl:Lvl n s'):
 Stp T B0 base B s w (B'.cut n) (s'.cut n) w':=by
 refine⟨Gy hT h'.sr hl,⟨?_,h'.ext.hp⟩,h'.frm,?_,?_⟩
 ·obtain⟨r,hr⟩:=h'.ext.loc;simp only[BM.cut,←hr];rw[List.take_append,List.take_of_length_le (by rw[h.lenL];exact hn)];exact List.prefix_append _ _
 ·intro k hk ho;obtain⟨a,v,ar,h1,hm,h2,h3⟩:=ho;exact h'.sub k hk ⟨a,v,ar,(fg h1).1,hm,(iF h2).1,h3⟩
 ·intro b hb2 hl2 i x hi hx;simp only[St.cut,List.getElem?_take]at hx;split at hx
  ·exact h'.lvl b hb2 hl2 i x hi hx
  ·cases hx
theorem Stp.base {T:Tab}{B0 base base':Nat}{B B':BM}{s s':St}{w w':World}(h:Stp T B0 base B s w B' s' w') (hb:base'≤base):Stp T B0 base' B s w B' s' w':=
 ⟨h.sr,h.ext,h.frm,h.sub,fun b hb2=>h.lvl b (Nat.le_trans hb2 hb)⟩
theorem SR.lvl {T:Tab}{B0:Nat}{B:BM}{s:St}{w:World}(h:SR T B0 B s w):Lvl s.loc.length s:=by
 intro i x _ hx;have hi:i<B.loc.length:=by rw[h.lenL];exact(List.getElem?_eq_some_iff.1 hx).1
 have hb:=h.blk (.loc i) x (B.loc[i]) hx (by simp[BM.at]);rw[←h.lenL];cases x with
 |dead=>rfl
 |ro v=>obtain⟨_,_,c,e,fr,cs,_,h4,_⟩:=hb;exact wB h4
 |rw v=>obtain⟨_,_,c,e,cs,_,h4,_⟩:=hb;exact wB h4
 |mp l=>rfl
def aB (rec:cL→St→Option Res) (base:Nat) (o:Op) (ρ:Env) (s:St):Option (V×St):=
 match aZ o.guard ρ with
 |none=>none
 |some false=>some (.tup [],s)
 |some true=>ax rec base ρ s o.op
def aF (rec:cL→St→Option Res) (base:Nat) (o:Op) (x:Env×St):Option (Env×St):=
 match aB rec base o x.1 x.2 with
 |some y=>some (put o.dst y.1 x.1,y.2)
 |none=>none
def evl (rec:cL→St→Option Res) (base:Nat):List Op→Env×St→Option (Env×St)
 |[],x=>some x
 |o::l,x=>match aF rec base o x with
  |some y=>evl rec base l y
  |none=>none
theorem uR {D:Nat→Option Fc}{base:Nat}:∀{n:Nat}{l:List Op}{ρ ρ':Env}{s s':St},ev D n (.o base l ρ) s=some (.o ρ' s')→evl (ev D n) base l (ρ,s)=some (ρ',s'):=by
 intro n
 induction n with
 |zero=>intro l ρ ρ' s s' h;cases h
 |succ n ih=>
  intro l ρ ρ' s s' h;have up:∀{l:List Op}{x y:Env×St},evl (ev D n) base l x=some y→evl (ev D (n+1)) base l x=some y:=by
   intro l
   induction l with
   |nil=>intro x y h;exact h
   |cons o l ihl=>
    intro x y h;simp only[evl,aF,aB]at h⊢;cases hg:aZ o.guard x.1 with
    |none=>rw[hg]at h;cases h
    |some b=>
     rw[hg]at h;cases b with
     |false=>exact ihl h
     |true=>
      simp only at h⊢;cases hr:ax (ev D n) base x.1 x.2 o.op with
      |none=>rw[hr]at h;cases h
      |some q=>
       rw[hr]at h;rw[uS (fun t s r hr=>nq n hr) hr];exact ihl h
  cases l with
  |nil=>simp only[ev,step,Zg,Res.o.injEq]at h;simp only[evl,h.1,h.2]
  |cons o l=>
   simp only[ev,step]at h;simp only[evl,aF,aB];cases hg:aZ o.guard ρ with
   |none=>rw[hg]at h;cases h
   |some b=>
    rw[hg]at h;cases b with
    |false=>exact up (ih h)
    |true=>
     simp only at h⊢;cases hr:ax (ev D n) base ρ s o.op with
     |none=>rw[hr]at h;cases h
     |some q=>
      rw[hr]at h;rw[uS (fun t s r hr=>nq n hr) hr];exact up (ih h)
def oL:Option Opd→List Opd
 |none=>[]
 |some x=>[x]
def ag:Op'→List Opd
 | .s2a _ _ x| .ldr _ _ _ _ x=>[x]
 | .mv x| .box _ x| .ld _ x| .ldl _ x| .nilc x| .un _ x| .conv _ x| .fad _ _ _ x| .fld _ _ x| .ext x _| .len _ x=>[x]
 | .pick x y z=>[x,y,z]
 | .st _ x y| .bin _ x y| .eq _ _ x y| .mksl _ _ _ _ x y| .iad _ _ _ x y| .sad _ x y| .idx _ _ x y| .sidx x y| .app _ _ _ x y| .cpy _ x y| .mnx _ x y=>[x,y]
 | .alloc _ _| .lenk _| .mkm=>[]
 | .mlk x y=>[x,y]
 | .mup x y z=>[x,y,z]
 | .mkfn _ l=>l
 | .slc _ x lo hi mx| .slarr _ _ _ x lo hi mx=>x::(oL lo++oL hi++oL mx)
 | .slstr x lo hi=>x::(oL lo++oL hi)
 | .bld _ ps| .bsl _ _ _ _ _ ps=>ps.map (·.2)
 | .call f l| .pcall f l=>f::l
 | .sta _ p x l=>p::x::l
 | .callw f l w=>w::f::l
 | .callk _ f l=>f::l
 | .appa _ _ _ x y l=>x::y::l
 | .lda _ p r=>[p,r]
theorem jy {ρ ρ':Env}{x:Option Opd}(h:∀y∈oL x,y.ev ρ=y.ev ρ'):x.map (Opd.ev ρ)=x.map (Opd.ev ρ'):=by
 cases x with
 |none=>rfl
 |some y=>simp only[Option.map_some];rw[h y (by simp[oL])]
theorem K9 {rec:cL→St→Option Res}{base:Nat}{ρ ρ':Env}{s:St}{o:Op'}(h:∀x∈ag o,x.ev ρ=x.ev ρ'):ax rec base ρ s o=ax rec base ρ' s o:=by
 cases o with
 |slc e x lo hi mx=>
  simp only[ag,List.mem_cons,List.mem_append]at h;simp only[ax,evOp];rw[h x (.inl rfl),jy fun y hy=>h y (.inr (.inl (.inl hy))),jy (x:=hi) fun y hy=>h y (.inr (.inl (.inr hy))),jy (x:=mx) fun y hy=>h y (.inr (.inr hy))]
 |slarr t n e x lo hi mx=>
  simp only[ag,List.mem_cons,List.mem_append]at h;simp only[ax,evOp];rw[h x (.inl rfl),jy fun y hy=>h y (.inr (.inl (.inl hy))),jy (x:=hi) fun y hy=>h y (.inr (.inl (.inr hy))),jy (x:=mx) fun y hy=>h y (.inr (.inr hy))]
 |slstr x lo hi=>
  simp only[ag,List.mem_cons,List.mem_append]at h;simp only[ax,evOp];rw[h x (.inl rfl),jy fun y hy=>h y (.inr (.inl hy)),jy (x:=hi) fun y hy=>h y (.inr (.inr hy))]
 |mkfn f l=>
  have:l.map (Opd.ev ρ)=l.map (Opd.ev ρ'):=List.map_congr_left fun x hx=>h x hx;simp only[ax,evOp,this]
 |bld z ps=>
  have:(ps.map fun p=>(p.1,p.2.ev ρ))=ps.map fun p=>(p.1,p.2.ev ρ'):=List.map_congr_left fun p hp=>by rw[h p.2 (List.mem_map_of_mem hp)]
  simp only[ax,evOp,this]
 |bsl a b c d e ps=>
  have:(ps.map fun p=>(p.1,p.2.ev ρ))=ps.map fun p=>(p.1,p.2.ev ρ'):=List.map_congr_left fun p hp=>by rw[h p.2 (List.mem_map_of_mem hp)]
  simp only[ax,evOp,this]
 |call f l=>
  have:l.map (Opd.ev ρ)=l.map (Opd.ev ρ'):=List.map_congr_left fun x hx=>h x (List.mem_cons_of_mem _ hx);simp only[ax,this,h f List.mem_cons_self]
 |pcall f l=>
  have:l.map (Opd.ev ρ)=l.map (Opd.ev ρ'):=List.map_congr_left fun x hx=>h x (List.mem_cons_of_mem _ hx);simp only[ax,this,h f List.mem_cons_self]
 |sta t p x l=>
  have e:(l.all fun y=>ii (y.ev ρ) (p.ev ρ'))=l.all fun y=>ii (y.ev ρ') (p.ev ρ'):=by
   apply Bool.eq_iff_iff.2;simp only[List.all_eq_true];constructor
   ·intro hh y hy;rw[←h y (by simp[ag,hy])];exact hh y hy
   ·intro hh y hy;rw[h y (by simp[ag,hy])];exact hh y hy
  simp only[ax,evOp,h p (by simp[ag]),h x (by simp[ag])];simp only[e]
 |callw f l w=>
  have:l.map (Opd.ev ρ)=l.map (Opd.ev ρ'):=List.map_congr_left fun x hx=>h x (by simp[ag,hx]);simp only[ax,this,h f (by simp[ag]),h w (by simp[ag])]
 |appa hh r e x y l=>
  have e:(l.all fun z=>iW (z.ev ρ) (x.ev ρ'))=l.all fun z=>iW (z.ev ρ') (x.ev ρ'):=by
   apply Bool.eq_iff_iff.2;simp only[List.all_eq_true];constructor
   ·intro hh y hy;rw[←h y (by simp[ag,hy])];exact hh y hy
   ·intro hh y hy;rw[h y (by simp[ag,hy])];exact hh y hy
  simp only[ax,evOp,h x (by simp[ag]),h y (by simp[ag])];simp only[e]
 |callk b f l=>
  have:l.map (Opd.ev ρ)=l.map (Opd.ev ρ'):=List.map_congr_left fun x hx=>h x (List.mem_cons_of_mem _ hx);simp only[ax,this,h f List.mem_cons_self]
 |lda t p r=>simp only[ax,evOp,h p (by simp[ag]),h r (by simp[ag])]
 |alloc h z=>rfl
 |lenk n=>rfl
 |mkm=>rfl
 |mup x y z=>simp only[ax,evOp,h x (by simp[ag]),h y (by simp[ag]),h z (by simp[ag])]
 |pick x y z=>
  simp only[ax,evOp,h x (by simp[ag]),h y (by simp[ag]),h z (by simp[ag])]
 |_=>
  first
  |(rename_i x;simp only[ax,evOp,h x (by simp[ag])];done)
  |(rename_i x _;simp only[ax,evOp,h x (by simp[ag])];done)
  |(rename_i x y;simp only[ax,evOp,h x (by simp[ag]),h y (by simp[ag])];done)
def cls:Op'→Nat
 | .ld .. | .slarr .. | .lda .. | .ldl .. | .ldr .. =>1
 | .pcall .. =>2
 | .alloc .. | .box .. | .bsl .. =>3
 | .mksl .. | .st .. | .call .. | .app .. | .cpy .. | .sta .. | .callw .. | .callk .. | .appa .. | .mkm| .mlk .. | .mup .. =>4
 |_=>0
theorem JV {rec:cL→St→Option Res}{base:Nat}{ρ:Env}{s:St}{o:Op'}(hc:cls o=0) (s2:St):ax rec base ρ s2 o=(ax rec base ρ s o).map fun x=>(x.1,s2):=by cases o<;>simp only[cls]at hc<;>(try (exfalso;omega))<;>simp only[ax,evOp]<;>(repeat' split)<;>simp_all
theorem K5 {rec:cL→St→Option Res}{base:Nat}{ρ:Env}{s s':St}{v:V}{o:Op'}(hc:cls o=0) (h:ax rec base ρ s o=some (v,s')):s'=s:=by have:=JV (rec:=rec) (base:=base) (ρ:=ρ) (s:=s) hc s;rw[h]at this;simpa using this
theorem OG {rec:cL→St→Option Res}{base:Nat}{ρ:Env}{s s':St}{v:V}{o:Op'}(hc:cls o≤2) (h:ax rec base ρ s o=some (v,s')):s'=s:=by
 cases o<;>simp only[cls]at hc<;>(try (exfalso;omega))<;>first
  |exact K5 rfl h
  |(simp only[ax,evOp]at h;(repeat' split at h)<;>simp_all)
theorem HX {s:St}{h:Bool}{v u:V}{a:Loc}{p:List Nat}(hr:s.read a p=some u):(s.new h v).read a p=some u:=by
 have:∀b,s.at a=some b→(s.new h v).at a=some b:=by
  intro b hb;cases a with
  |loc i=>cases h with
   |false=>simp only[St.at,St.new,Bool.false_eq_true,if_false]at hb⊢;rw[List.getElem?_append_left (List.getElem?_eq_some_iff.1 hb).1];exact hb
   |true=>exact hb
  |hp i=>cases h with
   |true=>simp only[St.at,St.new,if_true]at hb⊢;rw[List.getElem?_append_left (List.getElem?_eq_some_iff.1 hb).1];exact hb
   |false=>exact hb
 unfold St.read at*;cases hs:s.at a with
 |none=>rw[hs]at hr;cases hr
 |some b=>rw[hs]at hr;rw[this b hs];exact hr
theorem Sx {s s2:St}{n u:Nat}{a:Loc}{q:List Nat}{l:List V}(hrd:∀v,s.read a q.dropLast=some v→s2.read a q.dropLast=some v) (h:s.part n u a q=some l):s2.part n u a q=some l:=by
 unfold St.part at h⊢;cases hr:s.read a q.dropLast with
 |none=>rw[hr]at h;cases h
 |some v=>rw[hr]at h;rw[hrd v hr];exact h
theorem EF {rec:cL→St→Option Res}{base:Nat}{ρ:Env}{s s2 s':St}{v:V}{o:Op'}(hrd:∀a p u,s.read a p=some u→s2.read a p=some u) (hc:cls o=1) (hr:ax rec base ρ s o=some (v,s')):ax rec base ρ s2 o=some (v,s2):=by
 cases o with
 |ld t p=>
  simp only[ax,evOp]at hr⊢;split at hr
  ·rename_i a path t' hp;split at hr
   ·rename_i ht;rw[if_pos ht];cases hs:s.read a path with
    |none=>rw[hs]at hr;cases hr
    |some u=>
     rw[hs]at hr;rw[hrd _ _ _ hs];simp only[Zg,Zk]at hr⊢;exact⟨hr.1,trivial⟩
   ·cases hr
  ·cases hr
 |ldr t n e u p=>
  simp only[ax,evOp]at hr⊢;split at hr
  ·rename_i a q e' hp;split at hr
   ·rename_i ht;rw[if_pos ht];cases hq:s.part n u a q with
    |none=>rw[hq]at hr;cases hr
    |some l=>
     rw[hq]at hr;rw[Sx (hrd a q.dropLast) hq];simp only[Zg,Zk]at hr⊢;exact⟨hr.1,trivial⟩
   ·cases hr
  ·cases hr
 |lda t p r=>
  simp only[ax,evOp]at hr⊢;split at hr
  ·rename_i hle;rw[if_pos hle];split at hr
   ·rename_i a path t' hp;split at hr
    ·rename_i ht;rw[if_pos ht];cases hs:s.read a path with
     |none=>rw[hs]at hr;cases hr
     |some u=>
      rw[hs]at hr;rw[hrd _ _ _ hs];simp only[Zg,Zk]at hr⊢;exact⟨hr.1,trivial⟩
    ·cases hr
   ·cases hr
  ·cases hr
 |slarr t n e x lo hi mx=>
  simp only[ax,evOp]at hr⊢;split at hr
  ·rename_i a path t' hp;split at hr
   ·rename_i ht;obtain⟨ht1,ht2⟩:=ht;cases hs:s.read a path with
    |none=>rw[hs]at ht2;cases ht2
    |some u=>
     rw[if_pos ⟨ht1,by rw[hrd _ _ _ hs];rfl⟩]
     (repeat' split at hr)<;>simp_all
   ·cases hr
  ·cases hr
 |ldl t p=>
  simp only[ax,evOp]at hr⊢;split at hr
  ·rename_i i path t' hp;split at hr
   ·rename_i ht;rw[if_pos ht];cases hs:s.read (.loc i) path with
    |none=>rw[hs]at hr;cases hr
    |some u=>
     rw[hs]at hr;rw[hrd _ _ _ hs];simp only[Zg,Zk]at hr⊢;exact⟨hr.1,trivial⟩
   ·cases hr
  ·cases hr
 |_=>simp[cls]at hc
theorem Qy {rec:cL→St→Option Res}{base:Nat}{ρ:Env}{s s':St}{v z:V}{h:Bool}{o:Op'}(hc:cls o=1) (hr:ax rec base ρ s o=some (v,s')):ax rec base ρ (s.new h z) o=some (v,s.new h z):=
 EF (fun _ _ _=>HX) hc hr
theorem Tb {rec:cL→St→Option Res}{base:Nat}{ρ:Env}{s s':St}{v:V}{o:Op'}(hc:cls o=3) (hr:ax rec base ρ s o=some (v,s')):∃h z,s'=s.new h z:=by
 cases o with
 |alloc h z=>simp only[ax,evOp,Zg,Zk]at hr;exact⟨_,_,hr.2.symm⟩
 |box h x=>
  simp only[ax,evOp]at hr;split at hr
  ·simp only[Zg,Zk]at hr;exact⟨_,_,hr.2.symm⟩
  ·cases hr
 |bsl h r e z n ps=>
  simp only[ax,evOp]at hr;split at hr
  ·split at hr
   ·simp only[Zg,Zk]at hr;exact⟨_,_,hr.2.symm⟩
   ·cases hr
  ·cases hr
 |_=>simp[cls]at hc
def BN (o:Op):List Nat:=(match o.guard with|some (t,_)=>[t]|none=>[])++(ag o.op).filterMap fun| .t n=>some n| .k _=>none
def clear (d:Option Nat) (o:Op):Bool:=match d with
 |none=>true
 |some d=> !(BN o).contains d
def lZ (y x:Op):Bool:=clear x.dst y&&clear y.dst x&&(match x.dst,y.dst with|some d,some d'=>decide (d≠d')|_,_=>true)
def mV:Op'→Bool
 | .alloc h _=> !h
 | .box h _=> !h
 | .bsl h .. => !h
 |_=>false
theorem LP {rec:cL→St→Option Res}{base:Nat}{ρ:Env}{s s':St}{v:V}{o:Op'}(hc:mV o=true) (hr:ax rec base ρ s o=some (v,s')):∃z,s'=s.new false z:=by
 cases o with
 |alloc h z=>
  simp only[mV,Bool.not_eq_true']at hc;subst hc;simp only[ax,evOp,Zg,Zk]at hr;exact⟨_,hr.2.symm⟩
 |box h x=>
  simp only[mV,Bool.not_eq_true']at hc;subst hc;simp only[ax,evOp]at hr;split at hr
  ·simp only[Zg,Zk]at hr;exact⟨_,hr.2.symm⟩
  ·cases hr
 |bsl h r e z n ps=>
  simp only[mV,Bool.not_eq_true']at hc;subst hc;simp only[ax,evOp]at hr;split at hr
  ·split at hr
   ·simp only[Zg,Zk]at hr;exact⟨_,hr.2.symm⟩
   ·cases hr
  ·cases hr
 |_=>cases hc
theorem Jz {base k:Nat}{as:List V}{s:St}{z:V}(h:pOk base k as s=true):pOk base k as (s.new false z)=true∧(s.new false z).cut k=s.cut k:=by
 simp only[pOk,Zj,Zi]at h⊢;obtain⟨h1,h2,h3,h4⟩:=h;have e:(s.new false z).loc.take k=s.loc.take k:=by simp only[St.new,Bool.false_eq_true,if_false];rw[List.take_append_of_le_length h3]
 refine⟨⟨h1,h2,?_,?_⟩,?_⟩
 ·simp only[St.new,Bool.false_eq_true,if_false,List.length_append];omega
 ·rw[e];exact h4
 ·simp only[St.cut,e];simp[St.new]
theorem MW {rec:cL→St→Option Res}{base:Nat}{ρ:Env}{s s':St}{v z:V}{o:Op'}(hc:cls o=2) (hr:ax rec base ρ s o=some (v,s')):ax rec base ρ (s.new false z) o=some (v,s.new false z):=by
 cases o with
 |pcall f args=>
  simp only[ax]at hr⊢;cases hf:f.ev ρ with
  |fn g caps=>
   rw[hf]at hr;simp only at hr⊢;generalize hk:cP base (args.map (Opd.ev ρ)++caps)=k at*;by_cases hp:pOk base k (args.map (Opd.ev ρ)++caps) s=true
   ·rw[if_pos hp]at hr;obtain⟨h1,h2⟩:=Jz (z:=z) hp;rw[if_pos h1,h2];split at hr
    ·split at hr
     ·rename_i h3 h4;simp only[Zg,Zk]at hr;rw[if_pos h4,hr.1]
     ·cases hr
    ·cases hr
   ·rw[if_neg hp]at hr;cases hr
  |_=>rw[hf]at hr;cases hr
 |_=>simp[cls]at hc
def Opd.same:Opd→Opd→Bool
 | .t a,.t b=>decide (a=b)
 |_,_=>false
theorem zL {x y:Opd}(h:x.same y=true):x=y:=by
 cases x with
 |k _=>simp[Opd.same]at h
 |t a=>cases y with
  |k _=>simp[Opd.same]at h
  |t b=>simp only[Opd.same,Zi]at h;rw[h]
def xw:Op'→Op'→Bool
 | .ld _ a,.sta _ _ _ l=>l.any (a.same ·)
 | .lda _ _ r,.sta _ _ _ l=>l.any (r.same ·)
 |_,_=>false
def uE:Op'→Op'→Bool
 | .ld _ a,.appa _ _ _ _ _ l=>l.any (a.same ·)
 | .lda _ _ r,.appa _ _ _ _ _ l=>l.any (r.same ·)
 |_,_=>false
def yk:Op'→Op'→Bool
 | .callw _ _ w,.slarr _ _ _ x _ _ _=>w.same x
 |_,_=>false
def B4 (y x:Op'):Bool:=match y with
 | .callk _ _ _=>(match x with| .ldl _ _=>true|o=>mV o)
 |y=>(match x with| .callk p _ _=>(match y with| .ldl _ _=>true|o=>p&&decide (cls o=1))|_=>false)
def Cg (y x:Op):Bool:=lZ y x&&(uE y.op x.op||B4 y.op x.op||xw y.op x.op||yk y.op x.op||decide (cls y.op=0)||decide (cls x.op=0)||(decide (cls y.op≤2)&&decide (cls x.op≤2))||(decide (cls y.op=1)&&decide (cls x.op=3))||(decide (cls y.op=2)&&mV x.op))
section comm
variable {rec : cL → St → Option Res} {base : Nat} {ρ ρ' : Env} {s s' : St} {v : V} {o : Op}
theorem C4 (h:∀t∈BN o,get ρ t=get ρ' t):aB rec base o ρ s=aB rec base o ρ' s:=by
 unfold aB;have hg:aZ o.guard ρ=aZ o.guard ρ':=by
  cases hg:o.guard with
  |none=>rfl
  |some x=>
   obtain⟨t,b⟩:=x;simp only[aZ,h t (by simp[BN,hg])]
 rw[hg,K9 (ρ':=ρ') fun x hx=> ?_];cases x with
 |k v=>rfl
 |t n=>exact h n (by simp only[BN,List.mem_append,List.mem_filterMap];exact .inr ⟨_,hx,rfl⟩)
theorem oR {d:Option Nat}(h:clear d o=true):aB rec base o (put d v ρ) s=aB rec base o ρ s:=by
 refine C4 fun t ht=> ?_;cases d with
 |none=>rfl
 |some d=>
  simp only[put,get];rw[if_neg];rintro rfl;simp only[clear,Bool.not_eq_true',List.contains_eq_mem,decide_eq_false_iff_not]at h;exact h ht
theorem FB (hc:cls o.op=0) (s2:St):aB rec base o ρ s2=(aB rec base o ρ s).map fun x=>(x.1,s2):=by
 unfold aB;split
 ·rfl
 ·rfl
 ·exact JV hc s2
theorem dU (hc:cls o.op≤2) (h:aB rec base o ρ s=some (v,s')):s'=s:=by
 unfold aB at h;split at h
 ·cases h
 ·simp only[Zg,Zk]at h;exact h.2.symm
 ·exact OG hc h
theorem N4 {h:Bool}{z:V}(hc:cls o.op=1) (hr:aB rec base o ρ s=some (v,s')):aB rec base o ρ (s.new h z)=some (v,s.new h z):=by
 unfold aB at*;split at hr
 ·cases hr
 ·simp only[Zg,Zk]at hr;rw[hr.1]
 ·exact Qy hc hr
theorem wR (hc:cls o.op=3) (hr:aB rec base o ρ s=some (v,s')):s'=s∨∃h z,s'=s.new h z:=by
 unfold aB at*;split at hr
 ·cases hr
 ·simp only[Zg,Zk]at hr;exact .inl hr.2.symm
 ·exact .inr (Tb hc hr)
theorem Ob (hc:mV o.op=true) (hr:aB rec base o ρ s=some (v,s')):s'=s∨∃z,s'=s.new false z:=by
 unfold aB at*;split at hr
 ·cases hr
 ·simp only[Zg,Zk]at hr;exact .inl hr.2.symm
 ·exact .inr (LP hc hr)
theorem LO {z:V}(hc:cls o.op=2) (hr:aB rec base o ρ s=some (v,s')):aB rec base o ρ (s.new false z)=some (v,s.new false z):=by
 unfold aB at*;split at hr
 ·cases hr
 ·simp only[Zg,Zk]at hr;rw[hr.1]
 ·exact MW hc hr
theorem EQ {s:St}{a b:Loc}(h:b≠a) (x:Blk):(s.set a x).at b=s.at b:=by
 cases a with
 |loc i=>cases b with
  |loc j=>simp only[St.set,St.at];rw[List.getElem?_set_ne (by rintro rfl;exact h rfl)]
  |hp j=>rfl
 |hp i=>cases b with
  |loc j=>rfl
  |hp j=>simp only[St.set,St.at];rw[List.getElem?_set_ne (by rintro rfl;exact h rfl)]
theorem xT {base:Nat}{s s':St}{a b:Loc}{p q:List Nat}{x:V}(hw:s.write base a p x=some s') (h:b≠a):s'.read b q=s.read b q:=by
 unfold St.write at hw;split at hw
 ·split at hw
  ·split at hw
   ·simp only[Zg]at hw;subst hw;unfold St.read;rw[EQ h]
   ·cases hw
  ·cases hw
 ·cases hw
theorem Ya {y x:Op}{vy vx:V}{sy sx:St}(h:xw y.op x.op=true) (hvy:aB rec base y ρ s=some (vy,sy)) (hvx:aB rec base x ρ sy=some (vx,sx)):∃s1,aB rec base x ρ s=some (vx,s1)∧aB rec base y ρ s1=some (vy,sx):=by
 obtain⟨dy,gy,oy⟩:=y;obtain⟨dx,gx,ox⟩:=x;simp only at h;cases oy with
 |ld ty a=>
  cases ox with
  |sta tx p z l=>
   have h1:=dU (by simp[cls]) hvy;subst h1;refine⟨sx,hvx,?_⟩;simp only[aB]at hvy hvx⊢;split at hvx
   ·cases hvx
   ·simp only[Zg,Zk]at hvx;rw[←hvx.2];exact hvy
   ·split at hvy
    ·cases hvy
    ·simp only[Zg,Zk]at hvy⊢;exact⟨hvy.1,trivial⟩
    ·simp only[ax,evOp]at hvx hvy⊢;split at hvx
     ·rename_i hall;simp only[xw,List.any_eq_true]at h;obtain⟨b,hb,hab⟩:=h;have hne:=(List.all_eq_true.1 hall) b hb;rw[←zL hab]at hne;split at hvx
      ·rename_i l1 q1 t1 hp;rw[hp]at hne;split at hvx
       ·split at hvx
        ·rename_i s2 hwr;simp only[Zg,Zk]at hvx;obtain⟨_,rfl⟩:=hvx;split at hvy
         ·rename_i l2 q2 t2 ha;rw[ha]at hne;simp only[ii,Zi]at hne;split at hvy
          ·rename_i ht;rw[if_pos ht,xT hwr hne];split at hvy
           ·simp only[Zg,Zk]at hvy;rw[hvy.1]
           ·cases hvy
          ·cases hvy
         ·cases hvy
        ·cases hvx
       ·cases hvx
      ·cases hvx
     ·cases hvx
  |_=>simp[xw]at h
 |lda ty a r=>
  cases ox with
  |sta tx p z l=>
   have h1:=dU (by simp[cls]) hvy;subst h1;refine⟨sx,hvx,?_⟩;simp only[aB]at hvy hvx⊢;split at hvx
   ·cases hvx
   ·simp only[Zg,Zk]at hvx;rw[←hvx.2];exact hvy
   ·split at hvy
    ·cases hvy
    ·simp only[Zg,Zk]at hvy⊢;exact⟨hvy.1,trivial⟩
    ·simp only[ax,evOp]at hvx hvy⊢;split at hvx
     ·rename_i hall;simp only[xw,List.any_eq_true]at h;obtain⟨b,hb,hab⟩:=h;have hne:=(List.all_eq_true.1 hall) b hb;rw[←zL hab]at hne;split at hvx
      ·rename_i l1 q1 t1 hp;rw[hp]at hne;split at hvx
       ·split at hvx
        ·rename_i s2 hwr;simp only[Zg,Zk]at hvx;obtain⟨_,rfl⟩:=hvx;split at hvy
         ·rename_i hle;rw[if_pos hle];split at hvy
          ·rename_i l2 q2 t2 ha;rw[ha]at hle;cases hr:r.ev ρ with
           |ptr l3 q3 t3=>
            rw[hr]at hne hle;simp only[ii,mG,Zi]at hne hle;subst hle;split at hvy
            ·rename_i ht;rw[if_pos ht,xT hwr hne];split at hvy
             ·simp only[Zg,Zk]at hvy;rw[hvy.1]
             ·cases hvy
            ·cases hvy
           |_=>rw[hr]at hle;cases hle
          ·cases hvy
         ·cases hvy
        ·cases hvx
       ·cases hvx
      ·cases hvx
     ·cases hvx
  |_=>simp[xw]at h
 |_=>simp[xw]at h
theorem there {y x:Op}{vy vx:V}{sy sx:St}(h:yk y.op x.op=true) (hvy:aB rec base y ρ s=some (vy,sy)) (hvx:aB rec base x ρ sy=some (vx,sx)):∃s1,aB rec base x ρ s=some (vx,s1)∧aB rec base y ρ s1=some (vy,sx):=by
 obtain⟨dy,gy,oy⟩:=y;obtain⟨dx,gx,ox⟩:=x;simp only at h;cases oy with
 |callw f l w=>
  cases ox with
  |slarr t n e z lo hi mx=>
   have h1:=dU (by simp[cls]) hvx;subst h1;refine⟨s,?_,hvy⟩;simp only[aB]at hvy hvx⊢;split at hvx
   ·cases hvx
   ·simp only[Zg,Zk]at hvx⊢;exact⟨hvx.1,trivial⟩
   ·split at hvy
    ·cases hvy
    ·simp only[Zg,Zk]at hvy;rw[hvy.2]at*;rw[hvx]
    ·simp only[ax]at hvy;split at hvy
     ·rename_i hlive;simp only[yk]at h;rw[zL h]at hlive;simp only[ax,evOp]at hvx⊢;split at hvx
      ·rename_i a q t' hz;rw[hz]at hlive;simp only[Hy]at hlive;split at hvx
       ·rename_i ht;rw[if_pos ⟨ht.1,hlive⟩];split at hvx
        ·cases hvx
        ·rename_i m hm1;split at hvx
         ·cases hvx
         ·rename_i hh hm2;split at hvx
          ·cases hvx
          ·rename_i ll hm3;simp only[Zg,Zk]at hvx;rw[hvx.1]
       ·cases hvx
      ·cases hvx
     ·cases hvy
  |_=>simp[yk]at h
 |_=>simp[yk]at h
theorem xy {base:Nat}{h:Bool}{r e:Nat}{x y v:V}{s s':St}(hv:aD base h r e x y s=some (v,s')) {c:Loc}{k:Blk}(hc:s.at c=some k):
 s'.at c=some k∨(s'.at c=some .dead∧∃q o l cp t,x= .sl c q o l cp t):=by
 have knew:∀{s:St}{z:V},s.at c=some k→(s.new h z).at c=some k:=by
  intro s z hb;cases c with
  |loc i=>cases h<;>simp only[St.new,St.at,Bool.false_eq_true,if_false,if_true]at hb⊢<;>first|exact hb|(rw[List.getElem?_append_left (List.getElem?_eq_some_iff.1 hb).1];exact hb)
  |hp i=>cases h<;>simp only[St.new,St.at,Bool.false_eq_true,if_false,if_true]at hb⊢<;>first|exact hb|(rw[List.getElem?_append_left (List.getElem?_eq_some_iff.1 hb).1];exact hb)
 have kdead:∀{s:St}{z:V},s.at c=some .dead→(s.new h z).at c=some .dead:=by
  intro s z hb;cases c with
  |loc i=>cases h<;>simp only[St.new,St.at,Bool.false_eq_true,if_false,if_true]at hb⊢<;>first|exact hb|(rw[List.getElem?_append_left (List.getElem?_eq_some_iff.1 hb).1];exact hb)
  |hp i=>cases h<;>simp only[St.new,St.at,Bool.false_eq_true,if_false,if_true]at hb⊢<;>first|exact hb|(rw[List.getElem?_append_left (List.getElem?_eq_some_iff.1 hb).1];exact hb)
 unfold aD at hv;split at hv
 ·split at hv
  ·split at hv
   ·simp only[Zg,Zk]at hv;rw[←hv.2];exact .inl hc
   ·split at hv
    ·split at hv
     ·simp only[Zg,Zk]at hv;rw[←hv.2];exact .inl (knew hc)
     ·split at hv
      ·simp only[Zg,Zk]at hv;rw[←hv.2];exact .inl (knew hc)
      ·split at hv
       ·split at hv
        ·rename_i a q o l cp t _ _ _ _ _ _ _;simp only[Zg,Zk]at hv;rw[←hv.2];by_cases hca:c=a
         ·subst hca;right;refine⟨kdead ?_,_,_,_,_,_,rfl⟩;cases c with
          |loc i=>simp only[St.set,St.at]at hc⊢;rw[List.getElem?_set_self (List.getElem?_eq_some_iff.1 hc).1]
          |hp i=>simp only[St.set,St.at]at hc⊢;rw[List.getElem?_set_self (List.getElem?_eq_some_iff.1 hc).1]
         ·left;exact knew (by rw[EQ hca];exact hc)
        ·cases hv
       ·cases hv
     ·cases hv
    ·cases hv
  ·cases hv
 ·cases hv
theorem B8 {l:List Opd}{a:Opd}{hh:Bool}{r e:Nat}{p y:Opd}{c:Loc}{q:List Nat}{t:Nat}{u:V}(h:l.any (a.same ·)=true) (hall:(l.all fun z=>iW (z.ev ρ) (p.ev ρ))=true) (hv:aD base hh r e (p.ev ρ) (y.ev ρ) s=some (v,s')) (ha:a.ev ρ= .ptr c q t) {pa:List Nat}(hr:s.read c pa=some u):s'.read c pa=some u:=by
 simp only[List.any_eq_true]at h;obtain⟨b,hb,hab⟩:=h;have hne:=(List.all_eq_true.1 hall) b hb;rw[←zL hab,ha]at hne;unfold St.read at hr⊢;cases hs:s.at c with
 |none=>rw[hs]at hr;cases hr
 |some k=>
  rw[hs]at hr;rcases xy hv hs with h1|⟨_,q2,o2,l2,cp2,t2,h2⟩
  ·rw[h1];exact hr
  ·rw[h2]at hne;simp[iW]at hne
theorem Xn {y x:Op}{vy vx:V}{sy sx:St}(h:uE y.op x.op=true) (hvy:aB rec base y ρ s=some (vy,sy)) (hvx:aB rec base x ρ sy=some (vx,sx)):∃s1,aB rec base x ρ s=some (vx,s1)∧aB rec base y ρ s1=some (vy,sx):=by
 cases hx:x.op with
 |appa hh r e p z l=>
  have hcy:cls y.op=1:=by
   rw[hx]at h;cases hy:y.op<;>rw[hy]at h<;>first|rfl|(simp[uE]at h;done)
  have h1:=dU (by omega) hvy;subst h1;refine⟨sx,hvx,?_⟩;unfold aB at hvx;split at hvx
  ·cases hvx
  ·simp only[Zg,Zk]at hvx;rw[←hvx.2];exact hvy
  ·rw[hx]at hvx;simp only[ax,evOp]at hvx;split at hvx
   ·rename_i hall;unfold aB at hvy⊢;split at hvy
    ·cases hvy
    ·simp only[Zg,Zk]at hvy⊢;exact⟨hvy.1,trivial⟩
    ·cases hy:y.op with
     |ld t a=>
      rw[hx,hy]at h;simp only[uE]at h;rw[hy]at hvy;simp only[ax,evOp]at hvy⊢;split at hvy
      ·rename_i c q t' ha;split at hvy
       ·rename_i ht;rw[if_pos ht];split at hvy
        ·rename_i u hr;simp only[Zg,Zk]at hvy;rw[B8 h hall hvx ha hr,hvy.1]
        ·cases hvy
       ·cases hvy
      ·cases hvy
     |lda t a rt=>
      rw[hx,hy]at h;simp only[uE]at h;rw[hy]at hvy;simp only[ax,evOp]at hvy⊢;split at hvy
      ·rename_i hle;rw[if_pos hle];split at hvy
       ·rename_i c q t' ha;split at hvy
        ·rename_i ht;rw[if_pos ht];split at hvy
         ·rename_i u hr;simp only[Zg,Zk]at hvy;rw[ha]at hle;cases hrt:rt.ev ρ with
          |ptr c2 q2 t2=>
           rw[hrt]at hle;simp only[mG,Zi]at hle;subst hle;rw[B8 h hall hvx hrt hr,hvy.1]
          |_=>rw[hrt]at hle;cases hle
         ·cases hvy
        ·cases hvy
       ·cases hvy
      ·cases hvy
     |_=>rw[hx,hy]at h;simp[uE]at h
   ·cases hvx
 |_=>rw[hx]at h;cases hy:y.op<;>rw[hy]at h<;>simp[uE]at h
theorem Pn {s s2:St}(h1:s2.loc=s.loc) (h2:s2.hp.take s.hp.length=s.hp) (a:Loc) (p:List Nat) (u:V) (h:s.read a p=some u):s2.read a p=some u:=by
 have:∀b,s.at a=some b→s2.at a=some b:=by
  intro b hb;cases a with
  |loc i=>simp only[St.at]at hb⊢;rw[h1];exact hb
  |hp i=>
   simp only[St.at]at hb⊢;have hl:=(List.getElem?_eq_some_iff.1 hb).1;rw[←h2,List.getElem?_take,if_pos hl]at hb;exact hb
 unfold St.read at*;cases hs:s.at a with
 |none=>rw[hs]at h;cases h
 |some b=>rw[hs]at h;rw[this b hs];exact h
theorem wC {p:Bool}{f:Opd}{l:List Opd}(ho:o.op= .callk p f l) (hr:aB rec base o ρ s=some (v,s')):
 (s'=s∧∀s2,aB rec base o ρ s2=some (v,s2))∨(s'.loc=s.loc∧(p=true→s'.hp.take s.hp.length=s.hp)∧∀z,aB rec base o ρ (s.new false z)=some (v,s'.new false z)):=by
 unfold aB at hr⊢;cases hg:aZ o.guard ρ with
 |none=>rw[hg]at hr;cases hr
 |some g=>
  rw[hg]at hr;cases g with
  |false=>
   simp only[Zg,Zk]at hr;obtain⟨rfl,rfl⟩:=hr;exact .inl ⟨rfl,fun _=>rfl⟩
  |true=>
   right;simp only[ho,ax]at hr⊢;cases hf:f.ev ρ with
   |fn g caps=>
    rw[hf]at hr;simp only at hr⊢;generalize hk:cP base (l.map (Opd.ev ρ)++caps)=k at*;by_cases hp:pOk base k (l.map (Opd.ev ρ)++caps) s=true
    ·rw[if_pos hp]at hr;cases hc:rec (.f g (l.map (Opd.ev ρ)++caps)) (s.cut k)with
     |none=>rw[hc]at hr;cases hr
     |some q=>
      rw[hc]at hr;cases q with
      |v v1 s1=>
       simp only at hr;split at hr
       ·rename_i hkp;simp only[Zg,Zk]at hr;obtain⟨rfl,rfl⟩:=hr;refine⟨rfl,hkp.2,fun z=> ?_⟩;obtain⟨h1,h2⟩:=Jz (z:=z) hp;rw[if_pos h1,h2,hc];simp only;rw[if_pos hkp];simp[St.new]
       ·cases hr
      |_=>cases hr
    ·rw[if_neg hp]at hr;cases hr
   |_=>rw[hf]at hr;cases hr
theorem HE {t:Nat}{p:Opd}{s2:St}(ho:o.op= .ldl t p) (hl:s2.loc=s.loc) (hr:aB rec base o ρ s=some (v,s')):s'=s∧aB rec base o ρ s2=some (v,s2):=by
 refine⟨dU (by rw[ho];simp[cls]) hr,?_⟩;unfold aB at hr⊢;split at hr
 ·cases hr
 ·simp only[Zg,Zk]at hr;rw[hr.1]
 ·simp only[ho,ax,evOp]at hr⊢;split at hr
  ·rename_i i q t' hp;have e:s2.read (.loc i) q=s.read (.loc i) q:=by simp only[St.read,St.at,hl]
   rw[e];split at hr
   ·rename_i ht;rw[if_pos ht];split at hr
    ·simp only[Zg,Zk]at hr;rw[hr.1]
    ·cases hr
   ·cases hr
  ·cases hr
theorem Kz {s2:St}(hrd:∀a p u,s.read a p=some u→s2.read a p=some u) (hc:cls o.op=1) (hr:aB rec base o ρ s=some (v,s')):aB rec base o ρ s2=some (v,s2):=by
 unfold aB at*;split at hr
 ·cases hr
 ·simp only[Zg,Zk]at hr;rw[hr.1]
 ·exact EF hrd hc hr
theorem Lp {s2:St}(hc:mV o.op=true) (hl:s2.loc=s.loc) (hr:aB rec base o ρ s2=some (v,s')):(s'=s2∧aB rec base o ρ s=some (v,s))∨∃z,s'=s2.new false z∧aB rec base o ρ s=some (v,s.new false z):=by
 unfold aB at*;split at hr
 ·cases hr
 ·simp only[Zg,Zk]at hr;left;exact⟨hr.2.symm,by rw[hr.1]⟩
 ·right;have hfr:s2.fresh false=s.fresh false:=by simp[St.fresh,hl]
  cases ho:o.op with
  |alloc h z=>
   rw[ho]at hr hc;simp only[mV,Bool.not_eq_true']at hc;subst hc;simp only[ax,evOp,Zg,Zk]at hr⊢;exact⟨z,hr.2.symm,by rw[←hfr];exact hr.1,rfl⟩
  |box h x=>
   rw[ho]at hr hc;simp only[mV,Bool.not_eq_true']at hc;subst hc;simp only[ax,evOp]at hr⊢;split at hr
   ·rename_i hk;simp only[Zg,Zk]at hr;refine⟨_,hr.2.symm,?_⟩;rw[if_pos hk,←hfr,hr.1]
   ·cases hr
  |bsl h r e z n ps=>
   rw[ho]at hr hc;simp only[mV,Bool.not_eq_true']at hc;subst hc;simp only[ax,evOp]at hr⊢;split at hr
   ·split at hr
    ·rename_i hk;simp only[Zg,Zk]at hr;refine⟨_,hr.2.symm,?_⟩;rw[if_pos hk,←hfr,hr.1]
    ·cases hr
   ·cases hr
  |_=>rw[ho]at hc;cases hc
theorem XL {y x:Op}{vy vx:V}{sy sx:St}(h:B4 y.op x.op=true) (hvy:aB rec base y ρ s=some (vy,sy)) (hvx:aB rec base x ρ sy=some (vx,sx)):∃s1,aB rec base x ρ s=some (vx,s1)∧aB rec base y ρ s1=some (vy,sx):=by
 cases hy:y.op with
 |callk p f l=>
  rw[hy]at h;simp only[B4]at h;rcases wC hy hvy with⟨rfl,hall⟩|⟨h1,h2,h3⟩
  ·exact⟨sx,hvx,hall sx⟩
  ·cases hx:x.op with
   |ldl t q=>
    obtain⟨rfl,h4⟩:=HE hx h1.symm hvx;exact⟨s,h4,hvy⟩
   |_=>
    rw[hx]at h;simp only at h;rcases Lp (by rw[hx];exact h) h1 hvx with⟨rfl,h4⟩|⟨z,rfl,h4⟩
    ·exact⟨s,h4,hvy⟩
    ·exact⟨_,h4,h3 z⟩
 |_=>
  rw[hy]at h;cases hx:x.op with
  |callk p f l=>
   rw[hx]at h;simp only[B4]at h;have hyc:cls y.op=1:=by
    rw[hy]
    first
    |rfl
    |(exfalso;simp[cls]at h;done)
   have hsy:sy=s:=dU (by omega) hvy;subst hsy;refine⟨sx,hvx,?_⟩;rcases wC hx hvx with⟨rfl,_⟩|⟨h1,h2,_⟩
   ·exact hvy
   ·first
    |exact(HE hy h1 hvy).2
    |(simp only[Zj,Zi]at h;exact Kz (Pn h1 (h2 h.1)) hyc hvy)
  |_=>rw[hx]at h;simp[B4]at h
theorem bB.refl (ρ:Env):bB ρ ρ:=fun _=>rfl
theorem bB.trans {ρ ρ' ρ'':Env}(h:bB ρ ρ') (h':bB ρ' ρ''):bB ρ ρ'':=fun t=>(h t).trans (h' t)
theorem bB.symm {ρ ρ':Env}(h:bB ρ ρ'):bB ρ' ρ:=fun t=>(h t).symm
theorem NP {o:Op}{x x':Env×St}(h:bB x.1 x'.1) (hs:x.2=x'.2) {y:Env×St}(hy:aF rec base o x=some y):∃y',aF rec base o x'=some y'∧bB y.1 y'.1∧y.2=y'.2:=by
 unfold aF at*;rw[←C4 (ρ:=x.1) (fun t _=>h t),←hs];cases hv:aB rec base o x.1 x.2 with
 |none=>rw[hv]at hy;cases hy
 |some q=>
  rw[hv]at hy;simp only[Zg]at hy;subst hy;exact⟨_,rfl,h.put _ _,rfl⟩
theorem Bv:∀{l:List Op}{x x':Env×St},bB x.1 x'.1→x.2=x'.2→∀{y:Env×St},evl rec base l x=some y→∃y',evl rec base l x'=some y'∧bB y.1 y'.1∧y.2=y'.2
 |[],x,x',h,hs,y,hy=>by simp only[evl,Zg]at hy;subst hy;exact⟨x',rfl,h,hs⟩
 |o::l,x,x',h,hs,y,hy=>by
  simp only[evl]at hy⊢;cases hq:aF rec base o x with
  |none=>rw[hq]at hy;cases hy
  |some q=>
   rw[hq]at hy;obtain⟨q',hq',h1,h2⟩:=NP h hs hq;rw[hq'];exact Bv h1 h2 hy
theorem Rk {y x:Op}(hc:Cg y x=true) {p p1 p2:Env×St}(hy:aF rec base y p=some p1) (hx:aF rec base x p1=some p2):
 ∃q1 q2,aF rec base x p=some q1∧aF rec base y q1=some q2∧bB p2.1 q2.1∧p2.2=q2.2:=by
 obtain⟨ρ,s⟩:=p;simp only[Cg,lZ,Zj,Bool.or_eq_true,Zi]at hc;obtain⟨⟨⟨ha,hb⟩,hd⟩,hcl⟩:=hc;unfold aF at hy hx;cases hvy:aB rec base y ρ s with
 |none=>rw[hvy]at hy;cases hy
 |some q=>
  obtain⟨vy,sy⟩:=q;rw[hvy]at hy;simp only[Zg]at hy;subst hy;rw[oR hb]at hx;cases hvx:aB rec base x ρ sy with
  |none=>rw[hvx]at hx;cases hx
  |some q=>
   obtain⟨vx,sx⟩:=q;rw[hvx]at hx;simp only[Zg]at hx;subst hx;have key:∃s1,aB rec base x ρ s=some (vx,s1)∧aB rec base y ρ s1=some (vy,sx):=by
    rcases hcl with(((((((h|h)|h)|h)|h)|h)|h)|h)|h
    ·exact Xn h hvy hvx
    ·exact XL h hvy hvx
    ·exact Ya h hvy hvx
    ·exact there h hvy hvx
    ·have h1:=dU (by omega) hvy;subst h1;refine⟨sx,hvx,?_⟩;rw[FB (s:=sy) h sx,hvy];rfl
    ·have h1:=dU (by omega) hvx;subst h1;refine⟨s,?_,hvy⟩;rw[FB (s:=sx) h s,hvx];rfl
    ·have h1:=dU h.1 hvy;subst h1;have h2:=dU h.2 hvx;subst h2;exact⟨_,hvx,hvy⟩
    ·have h1:=dU (by omega) hvy;subst h1;refine⟨sx,hvx,?_⟩;rcases wR h.2 hvx with h2|⟨hh,z,h2⟩
     ·subst h2;exact hvy
     ·subst h2;exact N4 h.1 hvy
    ·have h1:=dU (by omega) hvy;subst h1;refine⟨sx,hvx,?_⟩;rcases Ob h.2 hvx with h2|⟨z,h2⟩
     ·subst h2;exact hvy
     ·subst h2;exact LO h.1 hvy
   obtain⟨s1,k1,k2⟩:=key;refine⟨(put x.dst vx ρ,s1),(put y.dst vy (put x.dst vx ρ),sx),?_,?_,?_,rfl⟩
   ·simp only[aF,k1]
   ·simp only[aF,oR ha,k2]
   ·intro t;cases hx:x.dst with
    |none=>rfl
    |some d=>
     cases hy:y.dst with
     |none=>rfl
     |some d'=>
      rw[hx,hy]at hd;simp only[ne_eq,Zi]at hd;simp only[put,get];split
      ·rename_i e;subst e;rw[if_neg (fun e=>hd e.symm)]
      ·rfl
end comm
theorem PK {a:Act}{d:Option Tmp}{x:Value}:(a.put d x).tmps.size=a.tmps.size:=by cases d<;>simp[Act.put]
theorem Lj {a:Act}{d:Option Tmp}{x:Value}:(a.put d x).defers=a.defers:=by cases d<;>rfl
theorem ER.put' {T:Tab}{B:BM}{ρ:Env}{a:Act}(h:ER T B ρ a.tmps) {d:Option Nat}{v:V}{x:Value}(hv:VR T B v x) (hd:∀k,d=some k→k<a.tmps.size):ER T B (Ab.put d v ρ) (a.put d x).tmps:=by
 cases d with
 |none=>exact h
 |some k=>exact h.put hv (hd k rfl)
theorem OW {T:Tab}{B:BM}:VR T B (.tup []) undef:=⟨#[],rfl,trivial⟩
def gOk (all:Array Oper) (g:Option (Nat×Bool)) (q:Option (Nat×Bool)):Bool:=
 match g,q with
 |none,none=>true
 |some (t,b),some (j,b')=>(b==b')&&decide ((all[j]?).bind (·.dst)=some t)
 |_,_=>false
def RR (nt:Nat) (d d':Option Nat):Bool:=decide (d=d')&&match d with
 |none=>true
 |some k=>decide (k<nt)
def Fo (c:Cfg) (all:Array Oper) (nt:Nat) (o:Op) (q:Oper):Bool:=ay c o.op q.op&&RR nt o.dst q.dst&&gOk all o.guard q.guard
def rA (c:Cfg) (all:Array Oper) (nt:Nat):List Op→List Oper→Bool
 |[],[]=>true
 |o::l,q::m=>Fo c all nt o q&&rA c all nt l m
 |_,_=>false
def ku (s s':St):Prop:=∀a v,s'.at a=some (.ro v)→s.at a=some (.ro v)
theorem ku.refl (s:St):ku s s:=fun _ _ h=>h
theorem ku.trans {s s' s'':St}(h:ku s s') (h':ku s' s''):ku s s'':=fun a v x=>h a v (h' a v x)
theorem HD {s:St}{h:Bool}{z:V}:ku s (s.new h z):=by
 intro a v ha;have key:∀{l:List Blk}{i:Nat},(l++[Blk.rw z])[i]?=some (.ro v)→l[i]?=some (.ro v):=by
  intro l i hi;by_cases hl:i<l.length
  ·rw[List.getElem?_append_left hl]at hi;exact hi
  ·rw[List.getElem?_append_right (by omega)]at hi;by_cases h0:i-l.length=0
   ·rw[h0]at hi;simp at hi
   ·rw[List.getElem?_eq_none (by simp;omega)]at hi;cases hi
 cases h with
 |false=>cases a with
  |loc i=>exact key ha
  |hp i=>exact ha
 |true=>cases a with
  |loc i=>exact ha
  |hp i=>exact key ha
theorem FF {s:St}{b:Loc}{x:Blk}(hx:∀v,x≠ .ro v):ku s (s.set b x):=by
 intro a v ha;have key:∀{l:List Blk}{i j:Nat},(l.set j x)[i]?=some (.ro v)→l[i]?=some (.ro v):=by
  intro l i j hi;by_cases e:j=i
  ·subst e;by_cases hl:j<l.length
   ·rw[List.getElem?_set_self hl]at hi;exact absurd (by simpa using hi) (hx v)
   ·rw[List.getElem?_eq_none (by simpa using hl)]at hi;cases hi
  ·rw[List.getElem?_set_ne e]at hi;exact hi
 cases b with
 |loc j=>cases a with
  |loc i=>exact key ha
  |hp i=>exact ha
 |hp j=>cases a with
  |loc i=>exact ha
  |hp i=>exact key ha
theorem Js {s:St}{n:Nat}:ku s {s with loc:=s.loc.take n}:=by
 intro a v ha;cases a with
 |loc i=>
  simp only[St.at,List.getElem?_take]at ha⊢;split at ha
  ·exact ha
  ·cases ha
 |hp i=>exact ha
theorem GU {base:Nat}{s s':St}{a:Loc}{p:List Nat}{x:V}(h:s.write base a p x=some s'):ku s s':=by
 unfold St.write at h;split at h
 ·split at h
  ·split at h
   ·simp only[Zg]at h;subst h;exact FF (fun v e=>by cases e)
   ·cases h
  ·cases h
 ·cases h
theorem CU {base:Nat}{h:Bool}{r e:Nat}{x y v:V}{s s':St}(hv:aD base h r e x y s=some (v,s')):ku s s':=by
 unfold aD at hv
 repeat' split at hv
 all_goals first
  |(simp only[Zg,Zk]at hv;rw[←hv.2];first|exact .refl _|exact HD|exact(FF (fun v e=>by cases e)).trans HD)
  |cases hv
theorem PH {base e:Nat}{x y v:V}{s s':St}(hv:iw base e x y s=some (v,s')):ku s s':=by
 unfold iw at hv
 repeat' split at hv
 all_goals first
  |(simp only[Zg,Zk]at hv;rw[←hv.2];first|exact .refl _|(apply GU;assumption))
  |cases hv
theorem UP {s:St}:ku s ⟨s.loc,s.hp++[.mp []]⟩:=by
 intro a v ha;cases a with
 |loc i=>exact ha
 |hp i=>
  rcases getElem?_snoc (show(s.hp++[Blk.mp []])[i]?=some (.ro v)from ha)with h|⟨_,h⟩
  ·exact h
  ·cases h
theorem TO {x k y:V}{s s':St}(h:i7 x k y s=some s'):ku s s':=by
 unfold i7 at h;split at h
 ·simp only[Zg]at h;rw[←h];exact FF (b:= .hp _) (x:= .mp _) (fun v e=>by cases e)
 ·cases h
theorem Sg {base:Nat}{ρ:Env}{s s':St}{v:V}{o:Op'}(h:evOp base ρ s o=some (v,s')):ku s s':=by
 cases o with
 |app hh r e x y=>exact CU (base:=base) h
 |appa hh r e x y l=>
  simp only[evOp]at h;split at h
  ·exact CU (base:=base) h
  ·cases h
 |cpy e x y=>exact PH (base:=base) h
 |mkm=>
  simp only[evOp,Zg,Zk]at h;rw[←h.2];exact UP
 |mup x k y=>
  simp only[evOp]at h;split at h
  ·rename_i hu;simp only[Zg,Zk]at h;rw[←h.2];exact TO hu
  ·cases h
 |_=>
  simp only[evOp]at h
  repeat' split at h
  all_goals first
   |(simp only[Zg,Zk]at h;rw[←h.2];first|exact .refl _|exact HD|(apply GU;assumption))
   |cases h
def Res.stt:Res→St
 | .c _ _ s=>s
 | .o _ s=>s
 | .v _ s=>s
theorem Uj {rec:cL→St→Option Res}(ih:∀t s r,rec t s=some r→ku s r.stt) {base:Nat}{ρ:Env}{s s':St}{v:V}{o:Op'}(h:ax rec base ρ s o=some (v,s')):ku s s':=by
 cases o with
 |call f l=>
  simp only[ax]at h;split at h
  ·split at h
   ·rename_i hx;simp only[Zg,Zk]at h;rw[←h.2];exact ih _ _ _ hx
   ·cases h
  ·cases h
 |pcall f l=>
  simp only[ax]at h;split at h
  ·split at h
   ·split at h
    ·split at h
     ·simp only[Zg,Zk]at h;rw[←h.2];exact .refl _
     ·cases h
    ·cases h
   ·cases h
  ·cases h
 |callw f l w=>
  simp only[ax]at h;split at h
  ·split at h
   ·split at h
    ·rename_i hx;simp only[Zg,Zk]at h;rw[←h.2];exact ih _ _ _ hx
    ·cases h
   ·cases h
  ·cases h
 |callk p f l=>
  simp only[ax]at h;split at h
  ·split at h
   ·split at h
    ·rename_i hx;split at h
     ·simp only[Zg,Zk]at h;rw[←h.2];have:=ih _ _ _ hx;intro a v ha;cases a with
      |loc i=>exact ha
      |hp i=>exact this (.hp i) v ha
     ·cases h
    ·cases h
   ·cases h
  ·cases h
 |_=>simp only[ax]at h;exact Sg h
theorem WQ {D:Nat→Option Fc}:∀n t s r,ev D n t s=some r→ku s r.stt:=by
 intro n
 induction n with
 |zero=>intro t s r h;cases h
 |succ n ih=>
  intro t s r h;simp only[ev]at h;cases t with
  |c base c ρ=>
   cases c with
   |loop keep b=>
    simp only[step]at h;split at h
    ·rename_i hx;split at h
     ·exact(ih _ _ _ hx).trans (Js.trans (ih _ _ _ h))
     ·cases h
    ·rename_i hx;simp only[Zg]at h;subst h;exact ih _ _ _ hx
    ·cases h
   |seq a b=>
    simp only[step]at h;split at h
    ·rename_i hx;exact(ih _ _ _ hx).trans (ih _ _ _ h)
    ·rename_i hx;simp only[Zg]at h;subst h;exact ih _ _ _ hx
    ·cases h
   |cond x a b=>
    simp only[step]at h;split at h
    ·split at h
     ·exact ih _ _ _ h
     ·exact ih _ _ _ h
    ·cases h
   |_=>
    simp only[step]at h
    repeat' split at h
    all_goals first
     |cases h;done
     |(simp only[Zg]at h;subst h;first|exact .refl _|(have hx:=ih _ _ _ ‹ev D n _ _=some _›;exact hx))
  |o base l ρ=>
   simp only[step]at h;cases l with
   |nil=>simp only[Zg]at h;subst h;exact .refl _
   |cons op rest=>
    simp only at h;split at h
    ·cases h
    ·exact ih _ _ _ h
    ·split at h
     ·rename_i hx;exact(Uj ih hx).trans (ih _ _ _ h)
     ·cases h
  |f f args=>
   simp only[step]at h;split at h
   ·cases h
   ·split at h
    ·split at h
     ·rename_i hx;split at h
      ·cases h
      ·split at h
       ·split at h
        ·simp only[Zg]at h;subst h;exact(ih _ _ _ hx).trans Js
        ·cases h
       ·cases h
     ·cases h
    ·cases h
def XR (c : Cfg) (g : Nat) : Prop := ∃ fn, c.P.funcs[g]? = some fn ∧ fn.name ≠ "runtime.NumGoroutine" ∧ fn.body.isSome = true
def DO (c:Cfg) (rec:cL→St→Option Res):Prop:=
 ∀g args s v s',rec (.f g args) s=some (.v v s')→∀B0 B w (xs:Array Value),ez (VR c.T B) args xs.toList→SR c.T B0 B s w→fb c.gl B→B0≤w.heap.size→
  XR c g∧ku s s'∧Calls c.P g xs w fun e w'=>∃x B',e= .returned x∧VR c.T B' v x∧Stp c.T B0 s.loc.length B s w B' s' w'
structure Sim (c:Cfg) (B0 base:Nat) (B:BM) (ρ:Env) (s:St) (nt:Nat) (a:Act) (w:World):Prop where
 er:ER c.T B ρ a.tmps
 gr:fb c.gl B
 sr:SR c.T B0 B s w
 hb:base≤s.loc.length
 h0:B0≤w.heap.size
 lv:Lvl base s
 nt:nt≤a.tmps.size
structure Aft (c:Cfg) (B0 base:Nat) (B:BM) (s:St) (w:World) (a:Act) (nt:Nat) (ρ':Env) (s':St) (B':BM) (a':Act) (w':World):Prop where
 df:a'.defers=a.defers
 er:ER c.T B' ρ' a'.tmps
 st:Stp c.T B0 base B s w B' s' w'
 nt:nt≤a'.tmps.size
theorem Aft.sim {c:Cfg}{B0 base nt:Nat}{B B':BM}{ρ ρ':Env}{s s':St}{a a':Act}{w w':World}(h:Sim c B0 base B ρ s nt a w) (h':Aft c B0 base B s w a nt ρ' s' B' a' w'):Sim c B0 base B' ρ' s' nt a' w':=by have hl:=Stp.lens h.sr h'.st;exact⟨h'.er,h.gr.ext h'.st.ext,h'.st.sr,by have:=h.hb;omega,by have:=h.h0;omega,h'.st.lvl base (Nat.le_refl _) h.lv,h'.nt⟩
theorem Aft.trans {c:Cfg}{B0 base nt:Nat}{B B' B'':BM}{ρ' ρ'':Env}{s s' s'':St}{a a' a'':Act}{w w' w'':World}(h':Aft c B0 base B s w a nt ρ' s' B' a' w') (h'':Aft c B0 base B' s' w' a' nt ρ'' s'' B'' a'' w''):Aft c B0 base B s w a nt ρ'' s'' B'' a'' w'':=
 ⟨h''.df.trans h'.df,h''.er,h'.st.trans h''.st,h''.nt⟩
theorem ER.same {T:Tab}{B:BM}{ρ ρ':Env}{tmps:Array Value}(h:ER T B ρ tmps) (hs:bB ρ ρ'):ER T B ρ' tmps:=fun n=>by rw[←hs n];exact h n
theorem NZ {c:Cfg}{B:BM}{ρ:Env}{a:Act}{all:Array Oper}{g:Option (Nat×Bool)}{q:Oper}{r:Bool}(hE:ER c.T B ρ a.tmps) (hg:gOk all g q.guard=true) (h:aZ g ρ=some r):
 Region.wanted q (yielded all a.tmps)=r:=by
 unfold gOk at hg;unfold Region.wanted;split at hg
 ·rename_i h1;simp only[aZ,Zg]at h;rw[h1,←h]
 ·rename_i t b j b' h1;simp only[Zj,beq_iff_eq,Zi]at hg;obtain⟨rfl,hg⟩:=hg;rw[h1];simp only[yielded,hg,Option.bind_some];simp only[aZ]at h;have hv:=hE t;cases hx:get ρ t with
  |bool x=>
   rw[hx]at h hv;rw[bn]at hv;simp only[Zg]at h;have:a.tmps[t]?=some (.bool x):=by
    rw[Array.getD_eq_getD_getElem?]at hv;cases ht:a.tmps[t]? with
    |none=>rw[ht]at hv;simp[undef]at hv
    |some y=>rw[ht]at hv;simpa using hv
   rw[this,←h];cases x<;>cases b<;>rfl
  |tup l=>
   rw[hx]at h hv;cases l with
   |nil=>
    simp only[Zg]at h;obtain⟨xs,h2,h3⟩:=hv;rw[Array.getD_eq_getD_getElem?]at h2;cases ht:a.tmps[t]? with
    |none=>rw[←h];rfl
    |some y=>rw[ht]at h2;simp only[Option.getD_some]at h2;rw[h2,←h];rfl
   |cons _ _=>cases h
  |_=>rw[hx]at h;cases h
 ·cases hg
theorem zS {T:Tab}(hT:aR T=true) {B:BM}:∀{l:List V}{cs:List Value},CRs T B l cs→V.wfs T l→(∀v∈l,v.tag=1)→ez (VR T B) l cs
 |[],cs,h,_,_=>by simp only[CRs]at h;subst h;trivial
 |v::l,cs,h,hw,ht=>by
  simp only[CRs]at h;obtain⟨a,b,rfl,h1,h2⟩:=h;simp only[V.wfs]at hw;have htv:=ht v List.mem_cons_self;have one:∃x,a=[x]∧VR T B v x:=by
   cases v with
   |nilp=>simp only[CR]at h1;exact⟨_,h1,tv.2 rfl⟩
   |ptr l p t=>
    have h1':=h1;simp only[CR]at h1;obtain⟨ad,r,o,g1,g2,g3⟩:=h1;exact⟨_,g3,ff.2 ⟨ad,r,o,g1,g2,rfl⟩⟩
   |nils=>simp only[CR]at h1;exact⟨_,h1,iJ.2 rfl⟩
   |sl l p off len cap e=>
    simp only[CR]at h1;obtain⟨ad,r,o,u,c',ad',g1,g2,g3,g4,g5,g6,g7,g8,g9⟩:=h1;exact⟨_,g9,jo.2 ⟨ad,r,o,u,c',ad',g1,g2,g3,g4,g5,g6,g7,g8,rfl⟩⟩
   |fn f l=>
    simp only[CR]at h1;obtain⟨vs,g1,g2,g3,g4⟩:=h1;exact⟨_,g4,sS.2 ⟨vs,g1,g2,g3,rfl⟩⟩
   |nilf=>simp only[CR]at h1;exact⟨_,h1,tu.2 rfl⟩
   |mp o=>cases o with
    |none=>simp only[CR]at h1;exact⟨_,h1,Wn.2 rfl⟩
    |some j=>
     simp only[CR]at h1;obtain⟨ad,g1,g2⟩:=h1;exact⟨_,g2,Fu.2 ⟨ad,g1,rfl⟩⟩
   |agg t l=>
    simp only[V.tag]at htv;subst htv;have:=hw.1;simp only[V.wf,cQ,dv hT (t:=1) (by decide)]at this;exact this.1.elim
   |bool b=>simp[V.tag]at htv
   |int k n=>cases k<;>simp[V.tag,jL]at htv
   |str b=>simp[V.tag]at htv
   |dead=>simp[V.tag]at htv
   |tup l=>simp[V.tag]at htv
  obtain⟨x,rfl,hx⟩:=one;exact⟨hx,zS hT h2 hw.2 (fun v hv=>ht v (List.mem_cons_of_mem _ hv))⟩
theorem rE {α β:Type}{R:α→β→Prop}:∀{l l':List α}{m m':List β},ez R l m→ez R l' m'→ez R (l++l') (m++m')
 |[],_,[],_,_,h=>h
 |_::_,_,_::_,_,h,h'=>⟨h.1,rE h.2 h'⟩
 |[],_,_::_,_,h,_=>h.elim
 |_::_,_,[],_,h,_=>h.elim
def RJ (P:Program) (all:Array Oper) (Q:Exit→Act→World→Prop) (q:Oper) (K:Act→World→Prop) (a:Act) (w:World):Prop:=
 if Region.wanted q (yielded all a.tmps)then q.wp P a w K Q∨(q.asks P a w∧LetsOut Q)else K (a.put q.dst undef) w
theorem vg {T:Tab}(hT:aR T=true) {B:BM}{n:Nat}:∀{l:List V}{m:List Value},ez (VR T B) l m→V.locLts n l=true→ez (VR T (B.cut n)) l m
 |[],[],_,_=>trivial
 |_::_,_::_,h,hl=>by simp only[V.locLts,Zj]at hl;exact⟨GE hT h.1 hl.1,vg hT h.2 hl.2⟩
 |[],_::_,h,_=>h.elim
 |_::_,[],h,_=>h.elim
theorem Xl {T:Tab}{B0 base k m:Nat}{B B':BM}{s:St}{w w':World}{v:V}{x:Value}(h:SR T B0 B s w) (hx:VR T B' v x) (hst:Stp T B0 m (B.cut k) (s.cut k) w B' (s.cut k) w'):
 VR T B v x∧Stp T B0 base B s w B s w':=by
 have hB:B'=B.cut k:=by have e1:(B.cut k).loc=B'.loc:=hst.ext.loc.eq_of_length (by rw[hst.sr.lenL];simp[BM.cut,St.cut,h.lenL]);have e2:(B.cut k).hp=B'.hp:=hst.ext.hp.eq_of_length (by rw[hst.sr.lenH];exact h.lenH);cases B';simp only[BM.cut]at e1 e2⊢;rw[e1,e2]
 subst hB;have hext:Ext (B.cut k) B:=⟨List.take_prefix _ _,List.prefix_rfl⟩;have own:∀i,Own (B.cut k) (s.cut k) i→Own B s i:=by rintro i ⟨a,u,ar,h1,hm,h2,h3⟩;exact⟨a,u,ar,(fg h1).1,hm,(iF h2).1,h3⟩
 refine⟨Hz hext hx,⟨⟨h.lenL,h.lenH,?_,h.sepM,h.ownM,h.hpv⟩,.refl _,⟨hst.frm.os,hst.frm.tape,hst.frm.output,hst.frm.size,fun i hi ho=>hst.frm.block i hi fun hn=>ho (own i hn)⟩,fun _ _ h=>h,fun _ _ h=>h⟩⟩;intro a b ar hs hB;by_cases hin:(s.cut k).at a=some b
 ·have hBin:(B.cut k).at a=some ar:=BJ (fg hin).2 hB;exact lO.ext (hst.sr.blk a b ar hin hBin) hext
 ·cases b with
  |dead=>trivial
  |_=>
   have hno:¬Own (B.cut k) (s.cut k) ar.1.block:=by rintro⟨a',u,ar',h1,hm,h2,h3⟩;refine h.sepM a' a ar' ar u _ (fg h1).1 hm (iF h2).1 hs (by simp) hB ?_ h3;rintro rfl;rw[(fg h1).1]at hs;exact hin (h1.trans hs)
   have hb:=h.blk a _ ar hs hB
   first
   |obtain⟨h1,es,cl,h3,h4⟩:=hb;refine⟨h1,es,cl,?_,h4⟩;rw[hst.frm.block _ (by have:=Array.getElem?_eq_some_iff.1 h3;exact this.1) hno];exact h3
   |obtain⟨h1,h2,c,e,fr,cs,h3,h4,h5⟩:=hb;refine⟨h1,h2,c,e,fr,cs,?_,h4,h5⟩;rw[hst.frm.block _ (by have:=Array.getElem?_eq_some_iff.1 h3;exact this.1) hno];exact h3
   |obtain⟨h1,h2,c,e,cs,h3,h4,h5⟩:=hb;refine⟨h1,h2,c,e,cs,?_,h4,h5⟩;rw[hst.frm.block _ (by have:=Array.getElem?_eq_some_iff.1 h3;exact this.1) hno];exact h3
theorem VO {T:Tab}{B0 base k m:Nat}{B B':BM}{s s2:St}{w w':World}{v:V}{x:Value}(h:SR T B0 B s w) (hro:ku (s.cut k) s2) (hloc:s2.loc=(s.cut k).loc) (hx:VR T B' v x) (hst:Stp T B0 m (B.cut k) (s.cut k) w B' s2 w'):
 VR T ⟨B.loc,B'.hp⟩ v x∧Stp T B0 base B s w ⟨B.loc,B'.hp⟩ ⟨s.loc,s2.hp⟩ w':=by
 have hBl:B'.loc=B.loc.take k:=by have:=hst.ext.loc.eq_of_length (by rw[hst.sr.lenL,hloc];simp[BM.cut,St.cut,h.lenL]);exact this.symm
 have hext:Ext B' ⟨B.loc,B'.hp⟩:=⟨by rw[hBl];exact List.take_prefix _ _,List.prefix_rfl⟩;have hext2:Ext B ⟨B.loc,B'.hp⟩:=⟨List.prefix_rfl,hst.ext.hp⟩;have own:∀i,Own (B.cut k) (s.cut k) i→Own B s i:=by rintro i ⟨a,u,ar,h1,hm,h2,h3⟩;exact⟨a,u,ar,(fg h1).1,hm,(iF h2).1,h3⟩
 have two:∀a b ar,(St.mk s.loc s2.hp).at a=some b→(BM.mk B.loc B'.hp).at a=some ar→(s2.at a=some b∧B'.at a=some ar∧((∃i,a= .loc i)→(s.cut k).at a=some b))∨(∃i,a= .loc i∧k≤i∧s.at a=some b∧B.at a=some ar):=by
  intro a b ar h1 h2;cases a with
  |hp i=>exact .inl ⟨h1,h2,fun⟨_,e⟩=>by cases e⟩
  |loc i=>
   by_cases hi:i<k
   ·left;simp only[St.at,BM.at]at h1 h2⊢;have e:(s.cut k).loc[i]?=some b:=by simp only[St.cut,List.getElem?_take,if_pos hi];exact h1
    exact⟨by rw[hloc];exact e,by rw[hBl,List.getElem?_take,if_pos hi];exact h2,fun _=>e⟩
   ·exact .inr ⟨i,rfl,by omega,h1,h2⟩
 have notIn:∀{a a':Loc}{i:Nat}{b:Blk},a'= .loc i→k≤i→(s.cut k).at a=some b→a≠a':=by rintro a a' i b rfl hi hs rfl;have:=(fg hs).2 i rfl;omega
 have old:∀{a:Loc}{b:Blk}{ar:Addr×Nat},b≠ .dead→s.at a=some b→B.at a=some ar→ar.1.block<w.heap.size:=by intro a b ar hb h1 h2;have hk:=h.blk a b ar h1 h2;exact hk.lt hb
 have mixed:∀{a a':Loc}{ar ar':Addr×Nat}{u:Blk}{b':Blk}{i:Nat},s2.at a=some u→u.mut=true→B'.at a=some ar→a'= .loc i→k≤i→s.at a'=some b'→b'≠ .dead→B.at a'=some ar'→ar.1.block≠ar'.1.block:=by intro a a' ar ar' u b' i h1 hm h2 h3 h4 h5 h6 h7 heq;have hlt:=old h6 h5 h7;obtain⟨a0,u0,ar0,g1,gm,g2,g3⟩:=hst.sub ar.1.block (by rw[heq];exact hlt) ⟨a,u,ar,h1,hm,h2,rfl⟩;exact h.sepM a0 a' ar0 ar' u0 b' (fg g1).1 gm (iF g2).1 h5 h6 h7 (notIn h3 h4 g1) (g3.trans heq)
 refine⟨Hz hext hx,⟨⟨h.lenL,hst.sr.lenH,?_,?_,?_,hst.sr.hpv⟩,hext2,⟨hst.frm.os,hst.frm.tape,hst.frm.output,hst.frm.size,fun i hi ho=>hst.frm.block i hi fun hn=>ho (own i hn)⟩,?_,fun _ _ h=>h⟩⟩
 ·intro a b ar h1 h2;rcases two a b ar h1 h2 with⟨g1,g2,_⟩|⟨i,rfl,hi,g1,g2⟩
  ·exact lO.ext (hst.sr.blk a b ar g1 g2) hext
  ·cases b with
   |dead=>trivial
   |ro u=>
    have hno:¬Own (B.cut k) (s.cut k) ar.1.block:=by rintro⟨a',u',ar',k1,km,k2,k3⟩;exact h.sepM a' (.loc i) ar' ar u' _ (fg k1).1 km (iF k2).1 g1 (by simp) g2 (notIn rfl hi k1) k3
    obtain⟨h1,h2,c,e,fr,cs,h3,h4,h5⟩:=h.blk _ _ ar g1 g2;refine lO.ext (B:=B) ⟨h1,h2,c,e,fr,cs,?_,h4,h5⟩ hext2;rw[hst.frm.block _ (Array.getElem?_eq_some_iff.1 h3).1 hno];exact h3
   |rw u=>
    have hno:¬Own (B.cut k) (s.cut k) ar.1.block:=by rintro⟨a',u',ar',k1,km,k2,k3⟩;exact h.sepM a' (.loc i) ar' ar u' _ (fg k1).1 km (iF k2).1 g1 (by simp) g2 (notIn rfl hi k1) k3
    obtain⟨h1,h2,c,e,cs,h3,h4,h5⟩:=h.blk _ _ ar g1 g2;refine lO.ext (B:=B) ⟨h1,h2,c,e,cs,?_,h4,h5⟩ hext2;rw[hst.frm.block _ (Array.getElem?_eq_some_iff.1 h3).1 hno];exact h3
   |mp u=>
    have hno:¬Own (B.cut k) (s.cut k) ar.1.block:=by rintro⟨a',u',ar',k1,km,k2,k3⟩;exact h.sepM a' (.loc i) ar' ar u' _ (fg k1).1 km (iF k2).1 g1 (by simp) g2 (notIn rfl hi k1) k3
    obtain⟨h1,es,cl,h3,h4⟩:=h.blk _ _ ar g1 g2;refine lO.ext (B:=B) ⟨h1,es,cl,?_,h4⟩ hext2;rw[hst.frm.block _ (Array.getElem?_eq_some_iff.1 h3).1 hno];exact h3
 ·intro a a' ar ar' u b' h1 hm h2 h3 h4 h5 hne;rcases two a _ ar h1 h2 with⟨g1,g2,g3⟩|⟨i,rfl,hi,g1,g2⟩
  ·rcases two a' _ ar' h3 h5 with⟨k1,k2,_⟩|⟨j,e,hj,k1,k2⟩
   ·exact hst.sr.sepM a a' ar ar' u b' g1 hm g2 k1 h4 k2 hne
   ·exact mixed g1 hm g2 e hj k1 h4 k2
  ·rcases two a' _ ar' h3 h5 with⟨k1,k2,k3⟩|⟨j,e,hj,k1,k2⟩
   ·cases b' with
    |dead=>exact absurd rfl h4
    |rw u'=>exact fun heq=>mixed k1 rfl k2 rfl hi g1 (Blk.mut_live hm) g2 heq.symm
    |mp u'=>exact fun heq=>mixed k1 rfl k2 rfl hi g1 (Blk.mut_live hm) g2 heq.symm
    |ro u'=>
     have m1:=hro a' u' k1;have m2:(B.cut k).at a'=some ar':=by
      cases a' with
      |loc j=>
       simp only[BM.at]at k2;rw[hBl]at k2;exact k2
      |hp j=>
       simp only[BM.at]at k2;have hl:j<(B.cut k).hp.length:=by
        have:j<(s.cut k).hp.length:=(List.getElem?_eq_some_iff.1 (show(s.cut k).hp[j]?=some (.ro u')from m1)).1
        have e2:(B.cut k).hp.length=(s.cut k).hp.length:=h.lenH;omega
       obtain⟨t,ht⟩:=hst.ext.hp;rw[←ht,List.getElem?_append_left hl]at k2;exact k2
     exact h.sepM (.loc i) a' ar ar' u _ g1 hm g2 (fg m1).1 (by simp) (iF m2).1 hne
   ·exact h.sepM (.loc i) a' ar ar' u b' g1 hm g2 k1 h4 k2 hne
 ·intro a u ar h1 hm h2;rcases two a _ ar h1 h2 with⟨g1,g2,_⟩|⟨i,rfl,hi,g1,g2⟩
  ·exact hst.sr.ownM a u ar g1 hm g2
  ·exact h.ownM _ u ar g1 hm g2
 ·rintro i hi ⟨a,u,ar,h1,hm,h2,h3⟩;rcases two a _ ar h1 h2 with⟨g1,g2,_⟩|⟨j,rfl,hj,g1,g2⟩
  ·exact own i (hst.sub i hi ⟨a,u,ar,g1,hm,g2,h3⟩)
  ·exact⟨_,u,ar,g1,hm,g2,h3⟩
section one
variable {c : Cfg} (hT : aR c.T = true) (hm : kr c = true) {rec : cL → St → Option Res} (hR : DO c rec)
include hT hm hR
omit hm in
theorem GX {B0 base nt:Nat}{B:BM}{ρ:Env}{s s':St}{a:Act}{w:World}{v:V}(h:Sim c B0 base B ρ s nt a w) {f:Opd}{args:List Opd}{q:Oper}{Q:Exit→Act→World→Prop}{K:Act→World→Prop}
 {g:Operand}{args':Array Operand}{ats:Array TypeId}(hq:q.op= .call {callee:= .value g,args:=args',argTypes:=ats}) (h1:aJ c.gl f g=true) (h2:cH c.gl args args'.toList=true)
 {fn:Nat}{caps:List V}(hf:f.ev ρ= .fn fn caps) (hr:rec (.f fn (args.map (Opd.ev ρ)++caps)) s=some (.v v s'))
 (hK:∀x B' w',VR c.T B' v x→Stp c.T B0 base B s w B' s' w'→K (a.put q.dst x) w'):q.wp c.P a w K Q:=by
 have g1:=aC h1 h.er h.gr;have g2:=ue h2 h.er h.gr;rw[hf]at g1;obtain⟨vs,k1,k2,k3,k4⟩:=sS.1 g1;have g3:ez (VR c.T B) (args.map (Opd.ev ρ)++caps) ((args'.map a.eval)++vs).toList:=by rw[Array.toList_append,Array.toList_map];exact rE g2 (zS hT k1 k2 k3)
 obtain⟨⟨fi,e1,e2,e3⟩,_,hcalls⟩:=hR fn _ s v s' hr B0 B w _ g3 h.sr h.gr h.h0;have hrun:(execOp a.eval q).run c.P w= .ok (.enter fn ((args'.map a.eval)++vs)) w:=by
  have hb:fi.body.isNone=false:=by cases hb:fi.body<;>simp_all
  have x0:execOp a.eval q=(do let d←resolve a.eval {callee:= .value g,args:=args',argTypes:=ats} q.type;invoke d.target d.args):=by unfold execOp;rw[hq]
  have x1:resolve a.eval {callee:= .value g,args:=args',argTypes:=ats} q.type=pure {target:= .fn (.func fn) vs,args:= #[]++args'.map a.eval}:=by simp only[resolve,k4,Deferred.ofValue]
  have x2:invoke (.fn (.func fn) vs) (#[]++args'.map a.eval)=callFunc fn ((#[]++args'.map a.eval)++vs):=rfl;rw[x0,x1];simp only[Sem.run_bind,Sem.run_pure,Result.andThen_ok,x2];have hb':¬(fi.body=none):=by intro hn;rw[hn]at hb;cases hb
  simp[callFunc,go_sem,e1,e2,hb']
 unfold Oper.wp;rw[hrun,Oper.upon_enter];refine Calls.mono hcalls fun e w' he=> ?_;obtain⟨x,B',rfl,hx,hst⟩:=he;exact hK x B' w' hx (hst.base h.hb)
omit hm in
theorem MA {B0 base nt:Nat}{B:BM}{ρ:Env}{s:St}{a:Act}{w:World}{v:V}(h:Sim c B0 base B ρ s nt a w) {f:Opd}{args:List Opd}{q:Oper}{Q:Exit→Act→World→Prop}{K:Act→World→Prop}
 {g:Operand}{args':Array Operand}{ats:Array TypeId}(hq:q.op= .call {callee:= .value g,args:=args',argTypes:=ats}) (h1:aJ c.gl f g=true) (h2:cH c.gl args args'.toList=true)
 {fn:Nat}{caps:List V}{k:Nat}(hf:f.ev ρ= .fn fn caps) (hp:pOk base k (args.map (Opd.ev ρ)++caps) s=true) (hr:rec (.f fn (args.map (Opd.ev ρ)++caps)) (s.cut k)=some (.v v (s.cut k)))
 (hK:∀x w',VR c.T B v x→Stp c.T B0 base B s w B s w'→K (a.put q.dst x) w'):q.wp c.P a w K Q:=by
 have g1:=aC h1 h.er h.gr;have g2:=ue h2 h.er h.gr;rw[hf]at g1;obtain⟨vs,k1,k2,k3,k4⟩:=sS.1 g1;simp only[pOk,Zj,Zi,List.all_eq_true]at hp;obtain⟨p1,p2,p3,p4⟩:=hp;have g3:ez (VR c.T B) (args.map (Opd.ev ρ)++caps) ((args'.map a.eval)++vs).toList:=by rw[Array.toList_append,Array.toList_map];exact rE g2 (zS hT k1 k2 k3)
 have hlv:Lvl k s:=by
  intro i x hi hx;by_cases hib:i<base
  ·exact td p2 (h.lv i x hib hx)
  ·refine p4 x ?_;rw[List.mem_iff_getElem?];refine⟨i-base,?_⟩;rw[List.getElem?_drop,List.getElem?_take,if_pos (by omega),show base+(i-base)=i by omega];exact hx
 obtain⟨⟨fi,e1,e2,e3⟩,_,hcalls⟩:=hR fn _ (s.cut k) v (s.cut k) hr B0 (B.cut k) w _ (vg hT g3 p1) (Gy hT h.sr hlv) h.gr h.h0;have hrun:(execOp a.eval q).run c.P w= .ok (.enter fn ((args'.map a.eval)++vs)) w:=by
  have hb:fi.body.isNone=false:=by cases hb:fi.body<;>simp_all
  have x0:execOp a.eval q=(do let d←resolve a.eval {callee:= .value g,args:=args',argTypes:=ats} q.type;invoke d.target d.args):=by unfold execOp;rw[hq]
  have x1:resolve a.eval {callee:= .value g,args:=args',argTypes:=ats} q.type=pure {target:= .fn (.func fn) vs,args:= #[]++args'.map a.eval}:=by simp only[resolve,k4,Deferred.ofValue]
  have x2:invoke (.fn (.func fn) vs) (#[]++args'.map a.eval)=callFunc fn ((#[]++args'.map a.eval)++vs):=rfl;rw[x0,x1];simp only[Sem.run_bind,Sem.run_pure,Result.andThen_ok,x2];have hb':¬(fi.body=none):=by intro hn;rw[hn]at hb;cases hb
  simp[callFunc,go_sem,e1,e2,hb']
 unfold Oper.wp;rw[hrun,Oper.upon_enter];refine Calls.mono hcalls fun e w' he=> ?_;obtain⟨x,B',rfl,hx,hst⟩:=he;obtain⟨hx',hst'⟩:=Xl h.sr hx hst;exact hK x w' hx' hst'
omit hm in
theorem MQ {B0 base nt:Nat}{B:BM}{ρ:Env}{s s2:St}{a:Act}{w:World}{v:V}(h:Sim c B0 base B ρ s nt a w) {f:Opd}{args:List Opd}{q:Oper}{Q:Exit→Act→World→Prop}{K:Act→World→Prop}
 {g:Operand}{args':Array Operand}{ats:Array TypeId}(hq:q.op= .call {callee:= .value g,args:=args',argTypes:=ats}) (h1:aJ c.gl f g=true) (h2:cH c.gl args args'.toList=true)
 {fn:Nat}{caps:List V}{k:Nat}(hf:f.ev ρ= .fn fn caps) (hp:pOk base k (args.map (Opd.ev ρ)++caps) s=true) (hr:rec (.f fn (args.map (Opd.ev ρ)++caps)) (s.cut k)=some (.v v s2)) (hloc:s2.loc=(s.cut k).loc)
 (hK:∀x B' w',VR c.T B' v x→Stp c.T B0 base B s w B' ⟨s.loc,s2.hp⟩ w'→K (a.put q.dst x) w'):q.wp c.P a w K Q:=by
 have g1:=aC h1 h.er h.gr;have g2:=ue h2 h.er h.gr;rw[hf]at g1;obtain⟨vs,k1,k2,k3,k4⟩:=sS.1 g1;simp only[pOk,Zj,Zi,List.all_eq_true]at hp;obtain⟨p1,p2,p3,p4⟩:=hp;have g3:ez (VR c.T B) (args.map (Opd.ev ρ)++caps) ((args'.map a.eval)++vs).toList:=by rw[Array.toList_append,Array.toList_map];exact rE g2 (zS hT k1 k2 k3)
 have hlv:Lvl k s:=by
  intro i x hi hx;by_cases hib:i<base
  ·exact td p2 (h.lv i x hib hx)
  ·refine p4 x ?_;rw[List.mem_iff_getElem?];refine⟨i-base,?_⟩;rw[List.getElem?_drop,List.getElem?_take,if_pos (by omega),show base+(i-base)=i by omega];exact hx
 obtain⟨⟨fi,e1,e2,e3⟩,hro,hcalls⟩:=hR fn _ (s.cut k) v s2 hr B0 (B.cut k) w _ (vg hT g3 p1) (Gy hT h.sr hlv) h.gr h.h0;have hrun:(execOp a.eval q).run c.P w= .ok (.enter fn ((args'.map a.eval)++vs)) w:=by
  have hb:fi.body.isNone=false:=by cases hb:fi.body<;>simp_all
  have x0:execOp a.eval q=(do let d←resolve a.eval {callee:= .value g,args:=args',argTypes:=ats} q.type;invoke d.target d.args):=by unfold execOp;rw[hq]
  have x1:resolve a.eval {callee:= .value g,args:=args',argTypes:=ats} q.type=pure {target:= .fn (.func fn) vs,args:= #[]++args'.map a.eval}:=by simp only[resolve,k4,Deferred.ofValue]
  have x2:invoke (.fn (.func fn) vs) (#[]++args'.map a.eval)=callFunc fn ((#[]++args'.map a.eval)++vs):=rfl;rw[x0,x1];simp only[Sem.run_bind,Sem.run_pure,Result.andThen_ok,x2];have hb':¬(fi.body=none):=by intro hn;rw[hn]at hb;cases hb
  simp[callFunc,go_sem,e1,e2,hb']
 unfold Oper.wp;rw[hrun,Oper.upon_enter];refine Calls.mono hcalls fun e w' he=> ?_;obtain⟨x,B',rfl,hx,hst⟩:=he;obtain⟨hx',hst'⟩:=VO h.sr hro hloc hx hst;exact hK x _ w' hx' hst'
theorem J1 {B0 base nt:Nat}{B:BM}{ρ ρ':Env}{s s':St}{a:Act}{w:World}(h:Sim c B0 base B ρ s nt a w) {o:Op}{q:Oper}{all:Array Oper}(hok:Fo c all nt o q=true)
 (hs:aF rec base o (ρ,s)=some (ρ',s')) {Q:Exit→Act→World→Prop}{K:Act→World→Prop}(hK:∀a' w' B',Aft c B0 base B s w a nt ρ' s' B' a' w'→K a' w'):RJ c.P all Q q K a w:=by
 simp only[Fo,RR,Zj,Zi]at hok;obtain⟨⟨hck,hde,hdl⟩,hgk⟩:=hok;have hd:∀k,q.dst=some k→k<a.tmps.size:=by intro k hk;rw[hde,hk]at hdl;simp only[Zi]at hdl;exact Nat.lt_of_lt_of_le hdl h.nt
 have fin:∀{v:V}{x:Value}{B':BM}{s1:St}{w':World},VR c.T B' v x→Stp c.T B0 base B s w B' s1 w'→some (put o.dst v ρ,s1)=some (ρ',s')→K (a.put q.dst x) w':=by intro v x B' s1 w' hx hst he;simp only[Zg,Zk]at he;obtain⟨rfl,rfl⟩:=he;refine hK _ _ B' ⟨Lj,?_,hst,by rw[PK];exact h.nt⟩;rw[hde];exact(h.er.ext hst.ext).put' hx hd
 unfold aF aB at hs;unfold RJ;simp only at hs;cases hg:aZ o.guard ρ with
 |none=>rw[hg]at hs;cases hs
 |some r=>
  rw[hg]at hs;rw[NZ h.er hgk hg];cases r with
  |false=>
   simp only at hs;rw[if_neg (by decide)];exact fin OW (.refl h.sr) hs
  |true=>
   simp only at hs;rw[if_pos rfl];left;cases hr:ax rec base ρ s o.op with
   |none=>rw[hr]at hs;cases hs
   |some y=>
    obtain⟨v,s1⟩:=y;rw[hr]at hs;simp only at hs;have plain:evOp base ρ s o.op=some (v,s1)→q.wp c.P a w K Q:=by
     intro he;obtain⟨nx,w',B',e1,e2,e3⟩:=U8 hT hm h.er h.gr h.sr h.hb h.h0 hck he;unfold Oper.wp;rw[e1];rcases e2 with⟨x,rfl,hx⟩|⟨rfl,rfl⟩
     ·rw[Oper.upon_value];exact fin hx e3 hs
     ·rw[Oper.upon_skip];exact fin (v:= .dead) trivial e3 hs
    cases ho:o.op with
    |call f args=>
     rw[ho]at hck hr;simp only[ay]at hck;split at hck
     ·rename_i g args' ats hq;simp only[Zj]at hck;simp only[ax]at hr;split at hr
      ·rename_i fn caps hf;split at hr
       ·rename_i v' s2 hrr;simp only[Zg,Zk]at hr;obtain⟨rfl,rfl⟩:=hr;exact GX hT hR h hq hck.1 hck.2 hf hrr (fun x B' w' hx hst=>fin hx hst hs)
       ·cases hr
      ·cases hr
     ·cases hck
    |pcall f args=>
     rw[ho]at hck hr;simp only[ay]at hck;split at hck
     ·rename_i g args' ats hq;simp only[Zj]at hck;simp only[ax]at hr;split at hr
      ·rename_i fn caps hf;generalize hk:cP base (args.map (Opd.ev ρ)++caps)=k at*;by_cases hp:pOk base k (args.map (Opd.ev ρ)++caps) s=true
       ·rw[if_pos hp]at hr;split at hr
        ·rename_i v' s2 hrr;split at hr
         ·rename_i hss;obtain⟨rfl,_⟩:=hss;simp only[Zg,Zk]at hr;obtain⟨rfl,rfl⟩:=hr;exact MA hT hR h hq hck.1 hck.2 hf hp hrr (fun x w' hx hst=>fin hx hst hs)
         ·cases hr
        ·cases hr
       ·rw[if_neg hp]at hr;cases hr
      ·cases hr
     ·cases hck
    |callw f args wi=>
     rw[ho]at hck hr;simp only[ay]at hck;split at hck
     ·rename_i g args' ats hq;simp only[Zj]at hck;simp only[ax]at hr;split at hr
      ·split at hr
       ·rename_i fn caps hf;split at hr
        ·rename_i v' s2 hrr;simp only[Zg,Zk]at hr;obtain⟨rfl,rfl⟩:=hr;exact GX hT hR h hq hck.1 hck.2 hf hrr (fun x B' w' hx hst=>fin hx hst hs)
        ·cases hr
       ·cases hr
      ·cases hr
     ·cases hck
    |callk b f args=>
     rw[ho]at hck hr;simp only[ay]at hck;split at hck
     ·rename_i g args' ats hq;simp only[Zj]at hck;simp only[ax]at hr;split at hr
      ·rename_i fn caps hf;generalize hk:cP base (args.map (Opd.ev ρ)++caps)=k at*;by_cases hp:pOk base k (args.map (Opd.ev ρ)++caps) s=true
       ·rw[if_pos hp]at hr;split at hr
        ·rename_i v' s2 hrr;split at hr
         ·rename_i hkp;simp only[Zg,Zk]at hr;obtain⟨rfl,rfl⟩:=hr;exact MQ hT hR h hq hck.1 hck.2 hf hp hrr hkp.1 (fun x B' w' hx hst=>fin hx hst hs)
         ·cases hr
        ·cases hr
       ·rw[if_neg hp]at hr;cases hr
      ·cases hr
     ·cases hck
    |_=>exact plain (by rw[ho]at hr⊢;exact hr)
theorem Bn {base nt:Nat}{all:Array Oper}{B0:Nat}{Q:Exit→Act→World→Prop}:∀{l:List Op}{m:List Oper}{B:BM}{ρ ρ':Env}{s s':St}{a:Act}{w:World},rA c all nt l m=true→Sim c B0 base B ρ s nt a w→
 evl rec base l (ρ,s)=some (ρ',s')→(∀a' w' B',Aft c B0 base B s w a nt ρ' s' B' a' w'→Q .normal a' w')→wpList c.P all Q m a w
 |[],[],B,ρ,ρ',s,s',a,w,_,h,he,hQ=>by simp only[evl,Zg,Zk]at he;obtain⟨rfl,rfl⟩:=he;exact hQ a w B ⟨rfl,h.er,.refl h.sr,h.nt⟩
 |o::l,q::m,B,ρ,ρ',s,s',a,w,hok,h,he,hQ=>by
  simp only[rA,Zj]at hok;simp only[evl]at he;cases hs:aF rec base o (ρ,s)with
  |none=>rw[hs]at he;cases he
  |some y=>
   obtain⟨ρ1,s1⟩:=y;rw[hs]at he;have:=J1 hT hm hR h (Q:=Q) hok.1 hs (K:=wpList c.P all Q m) (fun a' w' B' ha=>Bn hok.2 (ha.sim h) he (fun a2 w2 B2 ha2=>hQ a2 w2 B2 (ha.trans ha2)));exact this
 |[],_::_,_,_,_,_,_,_,_,hok,_,_,_=>by cases hok
 |_::_,[],_,_,_,_,_,_,_,hok,_,_,_=>by cases hok
end one
end Go.Ab
