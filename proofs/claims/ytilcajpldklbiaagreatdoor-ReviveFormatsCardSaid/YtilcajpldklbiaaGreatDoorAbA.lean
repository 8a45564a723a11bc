/-
  YtilcajpldklbiaaGreatDoorAbA: an abstract semantics of the program's code, and that what it tells holds of the program (part A).
-/
import GoSem.Core.Code
import GoSem.Core.View
import GoSem.Op.String
set_option maxRecDepth 100000
namespace Go.Ab
theorem Zg{α:Type _}{a b:α}:(some a=some b)=(a=b):=Option.some.injEq a b
theorem Zh(n:Nat):(n:Int).toNat=n:=Int.toNat_natCast n
theorem Zi{p:Prop}[Decidable p]:(decide p=true)=p:=decide_eq_true_eq
theorem Zj(a b:Bool):((a&&b)=true)=(a=true∧b=true):=Bool.and_eq_true a b
theorem Zk{α:Type _}{β:Type _}{a c:α}{b d:β}:((a,b)=(c,d))=(a=c∧b=d):=Prod.mk.injEq a b c d
inductive Loc where
 |loc (i:Nat)
 |hp (i:Nat)
 deriving DecidableEq,Inhabited
inductive V where
 |dead
 |bool (b:Bool)
 |int (k:IntKind) (n:Int)
 |str (s:ByteArray)
 |nilp
 |ptr (a:Loc) (path:List Nat) (t:Nat)
 |nils
 |sl (a:Loc) (path:List Nat) (off len:Nat) (cap:Option Nat) (e:Nat)
 |fn (f:Nat) (caps:List V)
 |nilf
 |agg (t:Nat) (l:List V)
 |tup (l:List V)
 |mp (i:Option Nat)
 deriving Inhabited
def jL:IntKind→Nat
 | .i8=>4| .i16=>6| .i32=>8| .i64=>10| .u8=>12| .u16=>14| .u32=>16| .u64=>18
def V.tag:V→Nat
 | .dead=>3| .tup _=>5
 | .bool _=>0| .str _=>2| .int k _=>jL k| .agg t _=>t
 |_=>1
def V.ok:V→Bool
 | .dead=>false| .tup _=>false|_=>true
mutual
def V.locLt (b:Nat):V→Bool
 | .ptr (.loc i) _ _=>decide (i<b)
 | .sl (.loc i) _ _ _ _ _=>decide (i<b)
 | .fn _ caps=>V.locLts b caps
 | .agg t l=>t%2==0||V.locLts b l
 | .tup l=>V.locLts b l
 |_=>true
def V.locLts (b:Nat):List V→Bool
 |[]=>true
 |v::l=>v.locLt b&&V.locLts b l
end
mutual
def V.beq:V→V→Bool
 | .dead,.dead=>true
 | .bool a,.bool b=>a==b
 | .int k a,.int k' b=>decide (k=k')&&decide (a=b)
 | .str a,.str b=>decide (a=b)
 | .nilp,.nilp=>true
 | .ptr a p t,.ptr a' p' t'=>decide (a=a')&&decide (p=p')&&decide (t=t')
 | .nils,.nils=>true
 | .sl a p o l c e,.sl a' p' o' l' c' e'=>decide (a=a')&&decide (p=p')&&decide (o=o')&&decide (l=l')&&decide (c=c')&&decide (e=e')
 | .fn f l,.fn f' l'=>decide (f=f')&&V.beqs l l'
 | .nilf,.nilf=>true
 | .agg t l,.agg t' l'=>decide (t=t')&&V.beqs l l'
 | .tup l,.tup l'=>V.beqs l l'
 | .mp a,.mp b=>decide (a=b)
 |_,_=>false
def V.beqs:List V→List V→Bool
 |[],[]=>true
 |v::l,v'::l'=>v.beq v'&&V.beqs l l'
 |_,_=>false
end
mutual
theorem V.eq_of_beq:∀{a b:V},a.beq b=true→a=b
 | .dead,b,h=>by cases b<;>simp[V.beq]at h;rfl
 | .bool _,b,h=>by cases b<;>simp[V.beq]at h;rw[h]
 | .int _ _,b,h=>by cases b<;>simp[V.beq]at h;rw[h.1,h.2]
 | .str _,b,h=>by cases b<;>simp[V.beq]at h;rw[h]
 | .nilp,b,h=>by cases b<;>simp[V.beq]at h;rfl
 | .ptr _ _ _,b,h=>by cases b<;>simp[V.beq]at h;obtain⟨⟨rfl,rfl⟩,rfl⟩:=h;rfl
 | .nils,b,h=>by cases b<;>simp[V.beq]at h;rfl
 | .sl _ _ _ _ _ _,b,h=>by cases b<;>simp[V.beq]at h;obtain⟨⟨⟨⟨⟨rfl,rfl⟩,rfl⟩,rfl⟩,rfl⟩,rfl⟩:=h;rfl
 | .fn _ l,b,h=>by
  cases b with
  |fn f' l'=>simp[V.beq]at h;obtain⟨rfl,h⟩:=h;rw[V.eqs_of_beqs h]
  |_=>simp[V.beq]at h
 | .nilf,b,h=>by cases b<;>simp[V.beq]at h;rfl
 | .mp _,b,h=>by cases b<;>simp[V.beq]at h;rw[h]
 | .agg _ l,b,h=>by
  cases b with
  |agg f' l'=>simp[V.beq]at h;obtain⟨rfl,h⟩:=h;rw[V.eqs_of_beqs h]
  |_=>simp[V.beq]at h
 | .tup l,b,h=>by
  cases b with
  |tup l'=>simp[V.beq]at h;rw[V.eqs_of_beqs h]
  |_=>simp[V.beq]at h
theorem V.eqs_of_beqs:∀{a b:List V},V.beqs a b=true→a=b
 |[],b,h=>by cases b<;>simp[V.beqs]at h;rfl
 |v::l,b,h=>by
  cases b with
  |nil=>simp[V.beqs]at h
  |cons v' l'=>simp[V.beqs]at h;rw[V.eq_of_beq h.1,V.eqs_of_beqs h.2]
end
mutual
theorem V.beq_self:∀(a:V),a.beq a=true
 | .dead| .bool _| .int _ _| .str _| .nilp| .ptr _ _ _| .nils| .sl _ _ _ _ _ _| .nilf| .mp _=>by simp[V.beq]
 | .fn _ l| .agg _ l| .tup l=>by simp[V.beq,V.beqs_self l]
theorem V.beqs_self:∀(a:List V),V.beqs a a=true
 |[]=>rfl
 |v::l=>by simp[V.beqs,V.beq_self v,V.beqs_self l]
end
instance:DecidableEq V:=fun a b=>if h:a.beq b=true then isTrue (V.eq_of_beq h)else isFalse fun e=>h (e▸V.beq_self a)
inductive Blk where
 |dead
 |ro (v:V)
 |rw(v:V)
 |mp (l:List Int)
 deriving DecidableEq,Inhabited
structure St where
 loc:List Blk
 hp:List Blk
 deriving DecidableEq,Inhabited
def V.at:List Nat→V→Option V
 |[],v=>some v
 |i::p,.agg _ l=>match l[i]? with
  |some x=>V.at p x
  |none=>none
 |_::_,_=>none
def V.setAt:List Nat→V→V→Option V
 |[],x,_=>some x
 |i::p,x,.agg t l=>match l[i]? with
  |some y=>match V.setAt p x y with
   |some y'=>some (.agg t (l.set i y'))
   |none=>none
  |none=>none
 |_::_,_,_=>none
def St.at (s:St):Loc→Option Blk
 | .loc i=>s.loc[i]?
 | .hp i=>s.hp[i]?
def St.set (s:St):Loc→Blk→St
 | .loc i,b=>{s with loc:=s.loc.set i b}
 | .hp i,b=>{s with hp:=s.hp.set i b}
def Blk.val:Blk→Option V
 | .dead=>none
 | .ro v=>some v
 | .rw v=>some v
 | .mp _=>none
def St.read (s:St) (a:Loc) (path:List Nat):Option V:=
 match s.at a with
 |some (.rw v)=>V.at path v
 |some (.ro v)=>V.at path v
 |_=>none
def fM (base:Nat):Loc→V→Bool
 | .loc i,x=>x.locLt 0||decide (base≤i)
 | .hp _,x=>x.locLt 0
def St.write (base:Nat) (s:St) (a:Loc) (path:List Nat) (x:V):Option St:=
 match s.at a with
 |some (.rw v)=>if fM base a x then
  match V.setAt path x v with
  |some v'=>some (s.set a (.rw v'))
  |none=>none
  else none
 |_=>none
def St.new (s:St) (h:Bool) (v:V):St:=
 if h then{s with hp:=s.hp++[.rw v]}else{s with loc:=s.loc++[.rw v]}
def St.fresh (s:St) (h:Bool):Loc:=if h then .hp s.hp.length else .loc s.loc.length
def bi (h:Bool) (v:V):Bool:= !h||v.locLt 0
abbrev Env:=List (Nat×V)
def get:Env→Nat→V
 |[],_=> .dead
 |(k,v)::r,t=>if k=t then v else get r t
def restrict (ks:List Nat) (ρ:Env):Env:=ks.map fun k=>(k,get ρ k)
def tN:Option (List Nat)→Env→Env
 |none,ρ=>ρ
 |some ks,ρ=>restrict ks ρ
def nG:Nat→List V→Env
 |_,[]=>[]
 |i,v::l=>(i,v)::nG (i+1) l
def put (dst:Option Nat) (v:V) (ρ:Env):Env:=
 match dst with
 |none=>ρ
 |some t=>(t,v)::ρ
inductive Opd where
 |t (n:Nat)
 |k (v:V)
 deriving Inhabited
def Opd.ev (ρ:Env):Opd→V
 | .t n=>get ρ n
 | .k v=>v
inductive Op' where
 |mv (x:Opd)
 |pick (c a b:Opd)
 |alloc (h:Bool) (z:V)
 |box (h:Bool) (x:Opd)
 |ld (t:Nat) (p:Opd)
 |st (t:Nat) (p x:Opd)
 |nilc (x:Opd)
 |bin (o:BinOp) (x y:Opd)
 |eq (neg:Bool) (t:Nat) (x y:Opd)
 |un (o:UnOp) (x:Opd)
 |conv (k:IntKind) (x:Opd)
 |mkfn (f:Nat) (caps:List Opd)
 |mksl (h:Bool) (r e:Nat) (z:V) (n c:Opd)
 |slc (e:Nat) (x:Opd) (lo hi mx:Option Opd)
 |slstr (x:Opd) (lo hi:Option Opd)
 |slarr (t n e:Nat) (x:Opd) (lo hi mx:Option Opd)
 |fad (t f c:Nat) (x:Opd)
 |iad (t n e:Nat) (x i:Opd)
 |sad (e:Nat) (x i:Opd)
 |fld (t f:Nat) (x:Opd)
 |idx (t n:Nat) (x i:Opd)
 |sidx (x i:Opd)
 |ext (x:Opd) (i:Nat)
 |lenk (n:Nat)
 |len (q:Bool) (x:Opd)
 |app (h:Bool) (r e:Nat) (x y:Opd)
 |bld (z:V) (ps:List (Nat×Opd))
 |bsl (h:Bool) (r e:Nat) (z:V) (n:Nat) (ps:List (Nat×Opd))
 |cpy (e:Nat) (x y:Opd)
 |mnx (mx:Bool) (x y:Opd)
 |call (f:Opd) (args:List Opd)
 |pcall (f:Opd) (args:List Opd)
 |sta (t:Nat) (p x:Opd) (l:List Opd)
 |lda (t:Nat) (p r:Opd)
 |callw (f:Opd) (args:List Opd) (w:Opd)
 |callk (p:Bool) (f:Opd) (args:List Opd)
 |ldl (t:Nat) (p:Opd)
 |appa (h:Bool) (r e:Nat) (x y:Opd) (l:List Opd)
 |s2a (n e:Nat) (x:Opd)
 |ldr (t n e u:Nat) (p:Opd)
 |mkm
 |mlk (x k:Opd)
 |mup (x k v:Opd)
 deriving Inhabited
structure Op where
 dst:Option Nat
 guard:Option (Nat×Bool)
 op:Op'
 deriving Inhabited
inductive C where
 |skip
 |reg (keep:Option (List Nat)) (ops:List Op)
 |regd (keep:Option (List Nat)) (ops:List Op)
 |seq (a b:C)
 |cond (c:Opd) (a b:C)
 |block (id:Nat) (b:C)
 |loop (keep:List Nat) (b:C)
 |exit (id:Nat)
 |scope (b:C)
 |label (l:Nat)
 |ret
 deriving Inhabited
inductive Ex where
 |normal
 |exit (id:Nat)
 |ret
 deriving DecidableEq,Inhabited
inductive RV where
 |t (n:Nat)
 |cell (n:Nat) (t:Nat)
structure Fc where
 n:Nat
 body:C
 res:List RV
def bits (k:IntKind) (f:BitVec k.bits→BitVec k.bits→BitVec k.bits) (a b:Int):Int:=
 k.wrap (f (BitVec.ofInt k.bits a) (BitVec.ofInt k.bits b)).toNat
def iZ (k:IntKind) (a b:Int):Int:=bits k (·&&&·) a b
def ior (k:IntKind) (a b:Int):Int:=bits k (·|||·) a b
def gA (k:IntKind) (a b:Int):Int:=bits k (·^^^·) a b
def Tf (k:IntKind) (a b:Int):Int:=bits k (fun x y=>x&&&~~~y) a b
def gW (k:IntKind) (a b:Int):Int:=a.fdiv (2^(min b.toNat k.bits))
def pZ (k:IntKind) (a b:Int):Int:=k.wrap (a*2^(min b.toNat k.bits))
def DD (o:BinOp) (k:IntKind) (a b:Int):Option V:=
 match o with
 | .add=>some (.int k (k.wrap (a+b)))
 | .sub=>some (.int k (k.wrap (a-b)))
 | .mul=>some (.int k (k.wrap (a*b)))
 | .quo=>if b=0 then none else some (.int k (k.wrap (a.tdiv b)))
 | .rem=>if b=0 then none else some (.int k (a.tmod b))
 | .and=>some (.int k (iZ k a b))
 | .or=>some (.int k (ior k a b))
 | .xor=>some (.int k (gA k a b))
 | .andNot=>some (.int k (Tf k a b))
 | .eql=>some (.bool (decide (a=b)))
 | .neq=>some (.bool (!decide (a=b)))
 | .lss=>some (.bool (decide (a<b)))
 | .leq=>some (.bool (decide (a≤b)))
 | .gtr=>some (.bool (decide (b<a)))
 | .geq=>some (.bool (decide (b≤a)))
 |_=>none
def shf (o:BinOp) (k:IntKind) (a b:Int):Option V:=
 if b<0 then none else
 match o with
 | .shl=>some (.int k (pZ k a b))
 | .shr=>some (.int k (gW k a b))
 |_=>none
def DM (o:BinOp) (a b:ByteArray):Option V:=
 match o with
 | .add=>if a.size+b.size≤4611686018427387904 then some (.str (a++b))else none
 | .eql=>some (.bool (a.toList==b.toList))
 | .neq=>some (.bool (!(a.toList==b.toList)))
 | .lss=>some (.bool (Op.bytesLess a.toList b.toList))
 | .leq=>some (.bool (Op.bytesLess a.toList b.toList||a.toList==b.toList))
 | .gtr=>some (.bool (!(Op.bytesLess a.toList b.toList||a.toList==b.toList)))
 | .geq=>some (.bool (!Op.bytesLess a.toList b.toList))
 |_=>none
def BinOp.isShift:BinOp→Bool
 | .shl| .shr=>true
 |_=>false
def mO (o:BinOp) (x y:V):Option V:=
 match x,y with
 | .int k a,.int k' b=>if BinOp.isShift o then shf o k a b else if k=k' then DD o k a b else none
 | .str a,.str b=>DM o a b
 |_,_=>none
mutual
def veq:V→V→Option Bool
 | .bool a,.bool b=>some (a==b)
 | .int k a,.int k' b=>if k=k' then some (decide (a=b))else none
 | .str a,.str b=>some (a.toList==b.toList)
 | .agg t l,.agg t' l'=>if t=t' then dL l l' else none
 |_,_=>none
def dL:List V→List V→Option Bool
 |[],[]=>some true
 |v::l,v'::l'=>match veq v v' with
  |some true=>dL l l'
  |some false=>some false
  |none=>none
 |_,_=>none
end
def ew (t:Nat) (x y:V):Option Bool:=
 match t with
 |1=>match x,y with
  | .nilp,.nilp=>some true
  | .nilp,.ptr _ _ _=>some false
  | .ptr _ _ _,.nilp=>some false
  |_,_=>none
 |3=>match x,y with
  | .nils,.nils=>some true
  | .nils,.sl _ _ _ _ _ _=>some false
  | .sl _ _ _ _ _ _,.nils=>some false
  |_,_=>none
 |5=>match x,y with
  | .nilf,.nilf=>some true
  | .nilf,.fn _ _=>some false
  | .fn _ _,.nilf=>some false
  |_,_=>none
 |t=>if x.tag=t∧y.tag=t then veq x y else none
def vun (o:UnOp) (x:V):Option V:=
 match o,x with
 | .not,.bool b=>some (.bool !b)
 | .neg,.int k n=>some (.int k (k.wrap (0-n)))
 | .xor,.int k n=>some (.int k (gA k (if k.signed then-1 else k.max) n))
 |_,_=>none
def ii:V→V→Bool
 | .ptr a _ _,.ptr b _ _=>decide (a≠b)
 |_,_=>false
def iW:V→V→Bool
 | .ptr a _ _,.sl b _ _ _ _ _=>decide (a≠b)
 | .ptr _ _ _,.nils=>true
 |_,_=>false
def mG:V→V→Bool
 | .ptr a _ _,.ptr b _ _=>decide (a=b)
 |_,_=>false
def St.elems (s:St):V→Option (List V)
 | .nils=>some []
 | .sl a path off len _ _=>if len=0 then some []else match s.read a path with
  |some (.agg _ l)=>if off+len≤l.length then some ((l.drop off).take len)else none
  |_=>none
 | .str b=>some (b.data.toList.map fun c=> .int .u8 c.toNat)
 |_=>none
def St.part (s:St) (n u:Nat) (a:Loc) (q:List Nat):Option (List V):=match s.read a q.dropLast with
 |some (.agg u' l)=>if u'=u∧q≠[]∧q.getLastD 0+n≤l.length then some ((l.drop (q.getLastD 0)).take n)else none
 |_=>none
def V.elIs (e:Nat):V→Bool
 | .nils=>true
 | .sl _ _ _ _ _ e'=>decide (e'=e)
 | .str _=>decide (e=12)
 |_=>false
def V.slIs (e:Nat):V→Bool
 | .nils=>true
 | .sl _ _ _ _ _ e'=>decide (e'=e)
 |_=>false
def V.slen:Bool→V→Option Nat
 |false,.nils=>some 0
 |false,.sl _ _ _ len _ _=>some len
 |true,.str s=>some s.size
 |_,_=>none
def ao (y:Nat):Option V→(dflt:Nat)→Option Nat
 |none,d=>some d
 |some (.int _ i),_=>if 0≤i∧i≤y then some i.toNat else none
 |some _,_=>none
def kL (q:Bool) (m len:Nat):Nat:=if q then min m len else len
def nI (q:Bool) (cap:Option Nat) (k:Nat):Option Nat:=if q||cap.isSome then some k else none
def cg:Nat:=1073741824
def bf:List V→List (Nat×V)→Option (List V)
 |l,[]=>some l
 |l,(i,x)::r=>match l[i]? with
  |some y=>if x.ok&&x.tag==y.tag then bf (l.set i x) r else none
  |none=>none
def aD (_base:Nat) (h:Bool) (r e:Nat) (x y:V) (s:St):Option (V×St):=
 if x.slIs e&&y.elIs e then
  match s.elems x,s.elems y with
  |some old,some new=>
   if new.length=0 then some (x,s)else
   if old.length+new.length≤cg∧(e%2=0∨bi h (.agg 1 (old++new)))then
    match x with
    | .nils=>some (.sl (s.fresh h) [] 0 (old.length+new.length) none e,s.new h (.agg r (old++new)))
    | .sl a path _ _ cap _=>
     if(cap.map fun c=>decide (c<old.length+new.length))=some true then some (.sl (s.fresh h) [] 0 (old.length+new.length) none e,s.new h (.agg r (old++new)))
     else if path=[]then
      match s.at a with
      |some (.rw _)=>some (.sl ((s.set a .dead).fresh h) [] 0 (old.length+new.length) none e,(s.set a .dead).new h (.agg r (old++new)))
      |_=>none
     else none
    |_=>none
   else none
  |_,_=>none
 else none
def iw (base:Nat) (e:Nat) (x y:V) (s:St):Option (V×St):=
 if x.slIs e&&y.elIs e then
  match s.elems y with
  |some ys=>
   match x with
   | .nils=>some (.int .i64 0,s)
   | .sl a path off len _ _=>
    if min ys.length len=0 then some (.int .i64 0,s)else
    match s.read a path with
    |some (.agg t l)=>if off+len≤l.length then
     match s.write base a path (.agg t (l.take off++ys.take (min ys.length len)++l.drop (off+min ys.length len)))with
     |some s'=>some (.int .i64 (min ys.length len:Nat),s')
     |none=>none
     else none
    |_=>none
   |_=>none
  |none=>none
 else none
def nJ (mx:Bool):V→V→Option V
 | .int k a,.int k' b=>if k=k' then some (.int k (if mx then max a b else min a b))else none
 |_,_=>none
def St.mpAt (s:St):V→Option (Nat×List Int)
 | .mp (some i)=>match s.hp[i]? with
  |some (.mp l)=>some (i,l)
  |_=>none
 |_=>none
def my (x k:V) (s:St):Option V:=match s.mpAt x,k with
 |some (_,l),.int .i64 n=>some (.bool (decide (n∈l)))
 |_,_=>none
def i7 (x k v:V) (s:St):Option St:=match s.mpAt x,k,v with
 |some (i,l),.int .i64 n,.bool true=>some {s with hp:=s.hp.set i (.mp (if n∈l then l else l++[n]))}
 |_,_,_=>none
def evOp (base:Nat) (ρ:Env) (s:St):Op'→Option (V×St)
 | .mv x=>some (x.ev ρ,s)
 | .pick c a b=>match c.ev ρ with
  | .bool t=>some (if t then a.ev ρ else b.ev ρ,s)
  |_=>none
 | .alloc h z=>some (.ptr (s.fresh h) [] z.tag,s.new h z)
 | .box h x=>if(x.ev ρ).ok&&bi h (x.ev ρ)then some (.ptr (s.fresh h) [] (x.ev ρ).tag,s.new h (x.ev ρ))else none
 | .ld t p=>match p.ev ρ with
  | .ptr a path t'=>if t'=t then
   match s.read a path with
   |some v=>some (v,s)
   |none=>none
   else none
  |_=>none
 | .st t p x=>match p.ev ρ with
  | .ptr a path t'=>if t'=t∧(x.ev ρ).tag=t then
   match s.write base a path (x.ev ρ)with
   |some s'=>some (.dead,s')
   |none=>none
   else none
  |_=>none
 | .nilc x=>match x.ev ρ with
  | .ptr a p t=>some (.ptr a p t,s)
  | .fn f l=>some (.fn f l,s)
  |_=>none
 | .bin o x y=>match mO o (x.ev ρ) (y.ev ρ)with
  |some v=>some (v,s)
  |none=>none
 | .eq neg t x y=>match ew t (x.ev ρ) (y.ev ρ)with
  |some b=>some (.bool (if neg then !b else b),s)
  |none=>none
 | .un o x=>match vun o (x.ev ρ)with
  |some v=>some (v,s)
  |none=>none
 | .conv k x=>match x.ev ρ with
  | .int _ n=>some (.int k (k.wrap n),s)
  |_=>none
 | .mkfn f caps=>if(caps.map (Opd.ev ρ)).all (fun v=>v.tag==1)then some (.fn f (caps.map (Opd.ev ρ)),s)else none
 | .mksl h r e z n c=>match n.ev ρ,c.ev ρ with
  | .int _ l,.int _ m=>if 0≤l∧l≤m∧m≤cg then
   some (.sl (s.fresh h) [] 0 l.toNat (some m.toNat) e,s.new h (.agg r (List.replicate l.toNat z)))
   else none
  |_,_=>none
 | .slc e x lo hi mx=>match x.ev ρ with
  | .sl a path off len cap e'=>if e'=e then
   match ao (cap.getD len) (mx.map (Opd.ev ρ)) (cap.getD len)with
   |none=>none
   |some m=>match ao (kL mx.isSome m len) (hi.map (Opd.ev ρ)) len with
    |none=>none
    |some h=>match ao h (lo.map (Opd.ev ρ)) 0 with
     |none=>none
     |some l=>some (.sl a path (off+l) (h-l) (nI mx.isSome cap (m-l)) e,s)
   else none
  | .nils=>match ao 0 (mx.map (Opd.ev ρ)) 0,ao 0 (hi.map (Opd.ev ρ)) 0,ao 0 (lo.map (Opd.ev ρ)) 0 with
   |some _,some _,some _=>some (.nils,s)
   |_,_,_=>none
  |_=>none
 | .slstr x lo hi=>match x.ev ρ with
  | .str b=>match ao b.size (hi.map (Opd.ev ρ)) b.size with
   |none=>none
   |some h=>match ao h (lo.map (Opd.ev ρ)) 0 with
    |none=>none
    |some l=>some (.str (b.extract l h),s)
  |_=>none
 | .slarr t n e x lo hi mx=>match x.ev ρ with
  | .ptr a path t'=>if t'=t∧(s.read a path).isSome then
   match ao n (mx.map (Opd.ev ρ)) n with
   |none=>none
   |some m=>match ao m (hi.map (Opd.ev ρ)) n with
    |none=>none
    |some h=>match ao h (lo.map (Opd.ev ρ)) 0 with
     |none=>none
     |some l=>some (.sl a path l (h-l) (some (m-l)) e,s)
   else none
  |_=>none
 | .fad t f c x=>match x.ev ρ with
  | .ptr a path t'=>if t'=t then some (.ptr a (path++[f]) c,s)else none
  |_=>none
 | .iad t n e x i=>match x.ev ρ,i.ev ρ with
  | .ptr a path t',.int _ j=>if t'=t∧0≤j∧j<n then some (.ptr a (path++[j.toNat]) e,s)else none
  |_,_=>none
 | .sad e x i=>match x.ev ρ,i.ev ρ with
  | .sl a path off len _ e',.int _ j=>if e'=e∧0≤j∧j<len then some (.ptr a (path++[off+j.toNat]) e,s)else none
  |_,_=>none
 | .fld t f x=>match x.ev ρ with
  | .agg t' l=>if t'=t then
   match l[f]? with
   |some v=>some (v,s)
   |none=>none
   else none
  |_=>none
 | .idx t n x i=>match x.ev ρ,i.ev ρ with
  | .agg t' l,.int _ j=>if t'=t∧0≤j∧j<n then
   match l[j.toNat]? with
   |some v=>some (v,s)
   |none=>none
   else none
  |_,_=>none
 | .sidx x i=>match x.ev ρ,i.ev ρ with
  | .str b,.int _ j=>if 0≤j then
   match b[j.toNat]? with
   |some c=>some (.int .u8 c.toNat,s)
   |none=>none
   else none
  |_,_=>none
 | .ext x i=>match x.ev ρ with
  | .tup l=>match l[i]? with
   |some v=>some (v,s)
   |none=>none
  |_=>none
 | .lenk n=>some (.int .i64 n,s)
 | .len q x=>match V.slen q (x.ev ρ)with
  |some n=>some (.int .i64 n,s)
  |none=>none
 | .app h r e x y=>aD base h r e (x.ev ρ) (y.ev ρ) s
 | .bld z ps=>match z with
  | .agg t l=>match bf l (ps.map fun p=>(p.1,p.2.ev ρ))with
   |some l'=>some (.agg t l',s)
   |none=>none
  |_=>none
 | .bsl h r e z n ps=>match bf (List.replicate n z) (ps.map fun p=>(p.1,p.2.ev ρ))with
  |some l'=>if(e%2=0∨bi h (.agg 1 l'))then some (.sl (s.fresh h) [] 0 n (some n) e,s.new h (.agg r l'))else none
  |none=>none
 | .cpy e x y=>iw base e (x.ev ρ) (y.ev ρ) s
 | .mnx mx x y=>match nJ mx (x.ev ρ) (y.ev ρ)with
  |some v=>some (v,s)
  |none=>none
 | .call _ _=>none
 | .pcall _ _=>none
 | .sta t p x l=>if l.all (fun y=>ii (y.ev ρ) (p.ev ρ))=true then
  match p.ev ρ with
  | .ptr a path t'=>if t'=t∧(x.ev ρ).tag=t then
   match s.write base a path (x.ev ρ)with
   |some s'=>some (.dead,s')
   |none=>none
   else none
  |_=>none
  else none
 | .callw _ _ _=>none
 | .callk _ _ _=>none
 | .s2a n e x=>match x.ev ρ with
  | .sl a path off len _ e'=>if e'=e∧0<n∧n≤len then some (.ptr a (path++[off]) e,s)else none
  |_=>none
 | .ldr t n e u p=>match p.ev ρ with
  | .ptr a q e'=>if e'=e then
   match s.part n u a q with
   |some l=>some (.agg t l,s)
   |none=>none
   else none
  |_=>none
 | .mkm=>some (.mp (some s.hp.length),{s with hp:=s.hp++[.mp []]})
 | .mlk x k=>match my (x.ev ρ) (k.ev ρ) s with
  |some v=>some (v,s)
  |none=>none
 | .mup x k v=>match i7 (x.ev ρ) (k.ev ρ) (v.ev ρ) s with
  |some s'=>some (.dead,s')
  |none=>none
 | .appa h r e x y l=>if l.all (fun z=>iW (z.ev ρ) (x.ev ρ))=true then aD base h r e (x.ev ρ) (y.ev ρ) s else none
 | .ldl t p=>match p.ev ρ with
  | .ptr (.loc i) path t'=>if t'=t then
   match s.read (.loc i) path with
   |some v=>some (v,s)
   |none=>none
   else none
  |_=>none
 | .lda t p r=>if mG (r.ev ρ) (p.ev ρ)=true then
  match p.ev ρ with
  | .ptr a path t'=>if t'=t then
   match s.read a path with
   |some v=>some (v,s)
   |none=>none
   else none
  |_=>none
  else none
def aZ (g:Option (Nat×Bool)) (ρ:Env):Option Bool:=
 match g with
 |none=>some true
 |some (t,want)=>match get ρ t with
  | .bool b=>some (b==want)
  | .tup []=>some false
  |_=>none
inductive cL where
 |c (base:Nat) (c:C) (ρ:Env)
 |o (base:Nat) (l:List Op) (ρ:Env)
 |f (f:Nat) (args:List V)
inductive Res where
 |c (e:Ex) (ρ:Env) (s:St)
 |o (ρ:Env) (s:St)
 |v (v:V) (s:St)
def RV.ev (ρ:Env) (s:St):RV→Option V
 | .t n=>some (get ρ n)
 | .cell n q=>match get ρ n with
  | .ptr a path q'=>if q'=q then s.read a path else none
  |_=>none
def f9 (ρ:Env) (s:St) (l:List RV):Option V:=
 match l.mapM (RV.ev ρ s)with
 |some [v]=>some v
 |some vs=>if vs.all V.ok then some (.tup vs)else none
 |none=>none
def bl (b:Nat):Blk→Bool
 | .dead=>true
 | .ro v=>v.locLt b
 | .rw v=>v.locLt b
 | .mp _=>true
def kB (base n:Nat) (ρ:Env) (s:St):Bool:=
 decide (n≤s.loc.length)&&ρ.all (fun p=>p.2.locLt n)&&((s.loc.take n).drop base).all (bl n)
mutual
def V.flat:V→Bool
 | .ptr _ _ _=>false
 | .sl _ _ _ _ _ _=>false
 | .fn _ caps=>V.flats caps
 | .agg _ l=>V.flats l
 | .tup l=>V.flats l
 | .mp o=>o.isNone
 |_=>true
def V.flats:List V→Bool
 |[]=>true
 |v::l=>v.flat&&V.flats l
end
def St.cut (s:St) (n:Nat):St:={s with loc:=s.loc.take n}
def V.lim1:V→Nat
 | .ptr (.loc i) _ _=>i+1
 | .sl (.loc i) _ _ _ _ _=>i+1
 |_=>0
def Il (base:Nat):List V→Nat
 |[]=>base
 |v::l=>max v.lim1 (Il base l)
def cP (base:Nat) (as:List V):Nat:=if V.locLts base as=true then base else Il base as
def pOk (base k:Nat) (as:List V) (s:St):Bool:=V.locLts k as&&(decide (base≤k)&&(decide (k≤s.loc.length)&&((s.loc.take k).drop base).all (bl k)))
def Hy (s:St):V→Bool
 | .ptr a p _=>(s.read a p).isSome
 |_=>false
def P4 (p:Bool) (s s':St):Prop:=s'.loc=s.loc∧(p=true→s'.hp.take s.hp.length=s.hp)
instance (p:Bool) (s s':St):Decidable (P4 p s s'):=inferInstanceAs (Decidable (_∧_))
def ax (rec:cL→St→Option Res) (base:Nat) (ρ:Env) (s:St):Op'→Option (V×St)
 | .call f args=>match f.ev ρ with
  | .fn g caps=>match rec (.f g (args.map (Opd.ev ρ)++caps)) s with
   |some (.v v s')=>some (v,s')
   |_=>none
  |_=>none
 | .pcall f args=>match f.ev ρ with
  | .fn g caps=>if pOk base (cP base (args.map (Opd.ev ρ)++caps)) (args.map (Opd.ev ρ)++caps) s=true then
   match rec (.f g (args.map (Opd.ev ρ)++caps)) (s.cut (cP base (args.map (Opd.ev ρ)++caps)))with
   |some (.v v s')=>if s'=s.cut (cP base (args.map (Opd.ev ρ)++caps))∧v.flat=true then some (v,s)else none
   |_=>none
   else none
  |_=>none
 | .callw f args w=>if Hy s (w.ev ρ)=true then
  match f.ev ρ with
  | .fn g caps=>match rec (.f g (args.map (Opd.ev ρ)++caps)) s with
   |some (.v v s')=>some (v,s')
   |_=>none
  |_=>none
  else none
 | .callk p f args=>match f.ev ρ with
  | .fn g caps=>if pOk base (cP base (args.map (Opd.ev ρ)++caps)) (args.map (Opd.ev ρ)++caps) s=true then
   match rec (.f g (args.map (Opd.ev ρ)++caps)) (s.cut (cP base (args.map (Opd.ev ρ)++caps)))with
   |some (.v v s')=>if P4 p (s.cut (cP base (args.map (Opd.ev ρ)++caps))) s' then some (v,{s' with loc:=s.loc})else none
   |_=>none
   else none
  |_=>none
 |o=>evOp base ρ s o
def step (D:Nat→Option Fc) (rec:cL→St→Option Res):cL→St→Option Res
 | .c base c ρ,s=>match c with
  | .skip=>some (.c .normal ρ s)
  | .label _=>some (.c .normal ρ s)
  | .ret=>some (.c .ret ρ s)
  | .exit id=>some (.c (.exit id) ρ s)
  | .reg keep ops=>match rec (.o base ops ρ) s with
   |some (.o ρ' s')=>some (.c .normal (tN keep ρ') s')
   |_=>none
  | .regd keep ops=>match rec (.o base ops ρ) s with
   |some (.o ρ' s')=>some (.c .normal (tN keep ρ') s')
   |_=>none
  | .seq a b=>match rec (.c base a ρ) s with
   |some (.c .normal ρ' s')=>rec (.c base b ρ') s'
   |some (.c e ρ' s')=>some (.c e ρ' s')
   |_=>none
  | .cond x a b=>match x.ev ρ with
   | .bool t=>if t then rec (.c base a ρ) s else rec (.c base b ρ) s
   |_=>none
  | .block id b=>match rec (.c base b ρ) s with
   |some (.c (.exit id') ρ' s')=>some (.c (if id'=id then .normal else .exit id') ρ' s')
   |some (.c e ρ' s')=>some (.c e ρ' s')
   |_=>none
  | .scope b=>match rec (.c base b ρ) s with
   |some (.c e ρ' s')=>some (.c e ρ' s')
   |_=>none
  | .loop keep b=>match rec (.c base b (restrict keep ρ)) s with
   |some (.c .normal ρ' s')=>
    if kB base s.loc.length (restrict keep ρ') s' then rec (.c base (.loop keep b) ρ') {s' with loc:=s'.loc.take s.loc.length}else none
   |some (.c e ρ' s')=>some (.c e ρ' s')
   |_=>none
 | .o base l ρ,s=>match l with
  |[]=>some (.o ρ s)
  |op::rest=>match aZ op.guard ρ with
   |none=>none
   |some false=>rec (.o base rest (put op.dst (.tup []) ρ)) s
   |some true=>match ax rec base ρ s op.op with
    |some (v,s')=>rec (.o base rest (put op.dst v ρ)) s'
    |none=>none
 | .f f args,s=>match D f with
  |none=>none
  |some fc=>if args.length=fc.n then
   match rec (.c s.loc.length fc.body (nG 0 args)) s with
   |some (.c e ρ' s')=>match e with
    | .exit _=>none
    |_=>match f9 ρ' s' fc.res with
     |some v=>if v.locLt s.loc.length∧s.loc.length≤s'.loc.length then some (.v v {s' with loc:=s'.loc.take s.loc.length})else none
     |none=>none
   |_=>none
   else none
def ev (D:Nat→Option Fc):Nat→cL→St→Option Res
 |0,_,_=>none
 |n+1,t,s=>step D (ev D n) t s
end Go.Ab
