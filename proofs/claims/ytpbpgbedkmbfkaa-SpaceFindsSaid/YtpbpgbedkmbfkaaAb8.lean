/-
  Ab8: each operation of the printed code does what the model's operation does.
-/
import Derived.Test.YtpbpgbedkmbfkaaAb7
import Derived.Laws.Entries
namespace Go.Ab

def opdsOk (gl : GL) : List Opd → List Operand → Bool
  | [], [] => true
  | x :: l, y :: m => opdOk gl x y && opdsOk gl l m
  | _, _ => false
def oopdOk (gl : GL) : Option Opd → Option Operand → Bool
  | none, none => true
  | some x, some y => opdOk gl x y
  | _, _ => false
def partsOk (gl : GL) : List (Nat × Opd) → List (Nat × Operand) → Bool
  | [], [] => true
  | (i, x) :: l, (j, y) :: m => decide (i = j) && opdOk gl x y && partsOk gl l m
  | _, _ => false

mutual
/-- The cells of a value without references. -/
def flatC : V → Option (List Value)
  | .bool b => some [.bool b]
  | .int k n => some [.int k n]
  | .str s => some [.string s]
  | .nilp => some [.pointer none]
  | .nils => some [.slice none 0 0]
  | .nilf => some [.nilFunc]
  | .agg _ l => flatCs l
  | _ => none
def flatCs : List V → Option (List Value)
  | [] => some []
  | v :: l => match flatC v, flatCs l with
    | some a, some b => some (a ++ b)
    | _, _ => none
end
mutual
theorem flatC_CR {T : Tab} {B : BM} : ∀ {v : V} {cs : List Value}, flatC v = some cs → CR T B v cs
  | .dead, _, h => by simp [flatC] at h
  | .tup _, _, h => by simp [flatC] at h
  | .ptr _ _ _, _, h => by simp [flatC] at h
  | .sl _ _ _ _ _ _, _, h => by simp [flatC] at h
  | .fn _ _, _, h => by simp [flatC] at h
  | .bool _, _, h => by simp only [flatC, Option.some.injEq] at h; simp only [CR, h]
  | .int _ _, _, h => by simp only [flatC, Option.some.injEq] at h; simp only [CR, h]
  | .str _, _, h => by simp only [flatC, Option.some.injEq] at h; simp only [CR, h]
  | .nilp, _, h => by simp only [flatC, Option.some.injEq] at h; simp only [CR, h]
  | .nils, _, h => by simp only [flatC, Option.some.injEq] at h; simp only [CR, h]
  | .nilf, _, h => by simp only [flatC, Option.some.injEq] at h; simp only [CR, h]
  | .agg _ l, _, h => by simp only [flatC] at h; simp only [CR]; exact flatCs_CRs h
theorem flatCs_CRs {T : Tab} {B : BM} : ∀ {l : List V} {cs : List Value}, flatCs l = some cs → CRs T B l cs
  | [], _, h => by simp only [flatCs, Option.some.injEq] at h; simp only [CRs, h]
  | v :: l, _, h => by
    simp only [flatCs] at h
    cases h1 : flatC v with
    | none => rw [h1] at h; cases h
    | some a =>
      cases h2 : flatCs l with
      | none => rw [h1, h2] at h; cases h
      | some b =>
        rw [h1, h2] at h
        cases h
        simp only [CRs]
        exact ⟨a, b, rfl, flatC_CR h1, flatCs_CRs h2⟩
end
def aggOkB (T : Tab) (t : Nat) (l : List V) : Bool :=
  match T.info t with
  | some (.st fs) => decide (l.map V.tag = fs)
  | some (.arr n e) => decide (l.length = n) && l.all fun x => decide (x.tag = e)
  | some (.row e) => l.all fun x => decide (x.tag = e)
  | none => false
mutual
def V.wfB (T : Tab) : V → Bool
  | .dead => false
  | .tup _ => false
  | .agg t l => aggOkB T t l && V.wfsB T l
  | _ => true
def V.wfsB (T : Tab) : List V → Bool
  | [] => true
  | v :: l => v.wfB T && V.wfsB T l
end
theorem aggOk_of {T : Tab} {t : Nat} {l : List V} (h : aggOkB T t l = true) : aggOk T t l := by
  unfold aggOkB at h
  unfold aggOk
  cases hi : T.info t with
  | none => rw [hi] at h; cases h
  | some ti =>
    rw [hi] at h
    cases ti with
    | st fs => simpa using h
    | arr n e => simpa using h
    | row e => simpa using h
mutual
theorem wf_of {T : Tab} : ∀ {v : V}, v.wfB T = true → v.wf T
  | .dead, h => by simp [V.wfB] at h
  | .tup _, h => by simp [V.wfB] at h
  | .agg t l, h => by
    simp only [V.wfB, Bool.and_eq_true] at h
    simp only [V.wf]
    exact ⟨aggOk_of h.1, wfs_of h.2⟩
  | .bool _, _ => by simp [V.wf]
  | .int _ _, _ => by simp [V.wf]
  | .str _, _ => by simp [V.wf]
  | .nilp, _ => by simp [V.wf]
  | .nils, _ => by simp [V.wf]
  | .nilf, _ => by simp [V.wf]
  | .ptr _ _ _, _ => by simp [V.wf]
  | .sl _ _ _ _ _ _, _ => by simp [V.wf]
  | .fn _ _, _ => by simp [V.wf]
theorem wfs_of {T : Tab} : ∀ {l : List V}, V.wfsB T l = true → V.wfs T l
  | [], _ => by simp [V.wfs]
  | v :: l, h => by
    simp only [V.wfsB, Bool.and_eq_true] at h
    simp only [V.wfs]
    exact ⟨wf_of h.1, wfs_of h.2⟩
end

def leqV : Value → Value → Bool
  | .bool a, .bool b => a == b
  | .int k a, .int k' b => decide (k = k') && decide (a = b)
  | .string a, .string b => decide (a = b)
  | .pointer none, .pointer none => true
  | .slice none 0 0, .slice none 0 0 => true
  | .nilFunc, .nilFunc => true
  | _, _ => false
theorem leqV_eq {a b : Value} (h : leqV a b = true) : a = b := by
  unfold leqV at h
  split at h <;> simp_all
def leqVs : List Value → List Value → Bool
  | [], [] => true
  | a :: l, b :: m => leqV a b && leqVs l m
  | _, _ => false
theorem leqVs_eq : ∀ {l m : List Value}, leqVs l m = true → l = m
  | [], [], _ => rfl
  | a :: l, b :: m, h => by
    simp only [leqVs, Bool.and_eq_true] at h
    rw [leqV_eq h.1, leqVs_eq h.2]
  | [], _ :: _, h => by simp [leqVs] at h
  | _ :: _, [], h => by simp [leqVs] at h

/-- A type's zero value. -/
def zOk (c : Cfg) (z : V) (ty : Nat) : Bool :=
  match (c.P.info? ty).bind (·.zero), flatC z with
  | some x, some cs => leqVs cs x.cells.toList && z.wfB c.T && z.locLt 0 && decide (tg c.tm ty = some z.tag) && (isAggV z == isAggX x)
  | _, _ => false

structure ZOk (c : Cfg) (z : V) (ty : Nat) (i : TypeInfo) (x : Value) : Prop where
  info : c.P.info? ty = some i
  zero : i.zero = some x
  wf : z.wf c.T
  cr : ∀ B : BM, CR c.T B z x.cells.toList
  lt : z.locLt 0 = true
  tag : tg c.tm ty = some z.tag
  agg : isAggV z = isAggX x
theorem zOk_of {c : Cfg} {z : V} {ty : Nat} (h : zOk c z ty = true) : ∃ i x, ZOk c z ty i x := by
  unfold zOk at h
  cases hi : c.P.info? ty with
  | none => rw [hi] at h; simp at h
  | some i =>
    rw [hi] at h
    simp only [Option.bind_some] at h
    cases hz : i.zero with
    | none => rw [hz] at h; simp at h
    | some x =>
      rw [hz] at h
      cases hf : flatC z with
      | none => rw [hf] at h; simp at h
      | some cs =>
        rw [hf] at h
        simp only [Bool.and_eq_true, decide_eq_true_eq, beq_iff_eq] at h
        obtain ⟨⟨⟨⟨h1, h2⟩, h3⟩, h4⟩, h5⟩ := h
        have := leqVs_eq h1
        exact ⟨i, x, hi, hz, wf_of h2, fun B => this ▸ flatC_CR hf, h3, h4, h5⟩

/-- No deeper than n. -/
def Tab.fits (T : Tab) : Nat → Nat → Bool
  | 0, t => decide (t < 20)
  | n + 1, t => match T.info t with
    | none => decide (t < 20)
    | some (.st fs) => fs.all (T.fits n)
    | some (.arr _ e) => T.fits n e
    | some (.row _) => false

/-- A slice type's element. -/
def elOk (c : Cfg) (ty e : Nat) : Bool :=
  match c.P.underlying ty with
  | some (.slice ety) => decide (tg c.tm ety = some e)
  | _ => false
def rowOkB (c : Cfg) (ty r e : Nat) : Bool :=
  match c.P.underlying ty with
  | some (.slice ety) => decide (tg c.tm ety = some e) && decide (c.T.info r = some (.row e)) && match c.P.info? ety with
    | some i => decide (i.bytes ≤ 65536) && (match i.zero with | some z => decide (z.cells.size = i.size) | none => false)
    | none => false
  | _ => false

/-- Is the printed operation the model's? -/
def chkOp (c : Cfg) (o : Op') (q : Go.Op) : Bool :=
  match o with
  | .mv x => match q with
    | .move y => opdOk c.gl x y
    | .assign y => opdOk c.gl x y
    | _ => false
  | .pick x a b => match q with
    | .pick x' a' b' => opdOk c.gl x x' && opdOk c.gl a a' && opdOk c.gl b b'
    | _ => false
  | .alloc _ z => match q with
    | .alloc ty => zOk c z ty
    | _ => false
  | .box _ x => match q with
    | .box _ y => opdOk c.gl x y
    | _ => false
  | .ld t p => match q with
    | .load ty p' => opdOk c.gl p p' && decide (tg c.tm ty = some t)
    | _ => false
  | .st t p x => match q with
    | .store ty p' x' => opdOk c.gl p p' && opdOk c.gl x x' && decide (tg c.tm ty = some t)
    | _ => false
  | .nilc x => match q with
    | .nilCheck y => opdOk c.gl x y
    | _ => false
  | .bin o x y => match q with
    | .binOp o' _ x' y' _ => decide (o = o') && opdOk c.gl x x' && opdOk c.gl y y'
    | _ => false
  | .eq neg t x y => match q with
    | .binOp o' ty x' y' _ => decide (o' = if neg then .neq else .eql) && opdOk c.gl x x' && opdOk c.gl y y' &&
      (match t with
       | 1 => (match c.P.underlying ty with | some (.pointer _) => true | _ => false)
       | 3 => (match c.P.underlying ty with | some (.slice _) => true | _ => false)
       | 5 => (match c.P.underlying ty with | some (.func _ _ _) => true | _ => false)
       | t => decide (tg c.tm ty = some t) && !c.P.eqGuardType c.P.depth ty && c.T.fits 50 t)
    | _ => false
  | .un o x => match q with
    | .unOp o' _ y => decide (o = o') && opdOk c.gl x y
    | _ => false
  | .conv k x => match q with
    | .convert s d y => opdOk c.gl x y && (c.P.underlying s).isSome && (match c.P.underlying d with | some (.int k') => decide (k = k') | _ => false)
    | _ => false
  | .mkfn f caps => match q with
    | .makeFunc (.func g) first caps' => decide (f = g) && first.isEmpty && opdsOk c.gl caps caps'.toList
    | _ => false
  | .mksl _ r e z n m => match q with
    | .makeSlice ty n' m' => opdOk c.gl n n' && opdOk c.gl m m' && rowOkB c ty r e && (match c.P.underlying ty with | some (.slice ety) => zOk c z ety | _ => false)
    | _ => false
  | .slc e x lo hi mx => match q with
    | .slice ty y lo' hi' mx' => elOk c ty e && opdOk c.gl x y && oopdOk c.gl lo lo' && oopdOk c.gl hi hi' && oopdOk c.gl mx mx' && (mx.isNone || hi.isSome)
    | _ => false
  | .slstr x lo hi => match q with
    | .slice ty y lo' hi' mx' => (match c.P.underlying ty with | some .string => true | _ => false) && opdOk c.gl x y && oopdOk c.gl lo lo' && oopdOk c.gl hi hi' && mx'.isNone
    | _ => false
  | .slarr t n e x lo hi mx => match q with
    | .slice ty y lo' hi' mx' => (match c.P.underlying ty with | some (.array n' ety) => decide (n = n') && decide (tg c.tm ety = some e) && decide (0 < n) | _ => false) && decide (tg c.tm ty = some t) && opdOk c.gl x y && oopdOk c.gl lo lo' && oopdOk c.gl hi hi' && oopdOk c.gl mx mx' && (mx.isNone || hi.isSome)
    | _ => false
  | .fad t f u x => match q with
    | .fieldAddr ty y f' => decide (tg c.tm ty = some t) && decide (f = f') && opdOk c.gl x y && (match c.T.info t with | some (.st ts) => decide (ts[f]? = some u) | _ => false)
    | _ => false
  | .iad t n e x i => match q with
    | .indexAddr ty y j => decide (tg c.tm ty = some t) && opdOk c.gl x y && opdOk c.gl i j && decide (c.T.info t = some (.arr n e))
    | _ => false
  | .sad e x i => match q with
    | .indexAddr ty y j => elOk c ty e && opdOk c.gl x y && opdOk c.gl i j
    | _ => false
  | .fld t f x => match q with
    | .field ty y f' => decide (tg c.tm ty = some t) && decide (f = f') && opdOk c.gl x y && (match c.T.info t with | some (.st _) => true | _ => false)
    | _ => false
  | .idx t n x i => match q with
    | .index ty y j => decide (tg c.tm ty = some t) && opdOk c.gl x y && opdOk c.gl i j && (match c.T.info t with | some (.arr m _) => decide (n = m) | _ => false)
    | _ => false
  | .sidx x i => match q with
    | .index ty y j => (match c.P.underlying ty with | some .string => true | _ => false) && opdOk c.gl x y && opdOk c.gl i j
    | _ => false
  | .ext x i => match q with
    | .extract y j => decide (i = j) && opdOk c.gl x y
    | _ => false
  | .lenk n => match q with
    | .call { callee := .builtin .len, args, argTypes } => args.size == 1 && (match (argTypes[0]?).bind c.P.underlying with
      | some (.array m _) => decide (n = m)
      | some (.pointer p) => (match c.P.underlying p with | some (.array m _) => decide (n = m) | _ => false)
      | _ => false)
    | _ => false
  | .len s x => match q with
    | .call { callee := .builtin .len, args, argTypes } => (match args.toList with | [y] => opdOk c.gl x y | _ => false) && (match (argTypes[0]?).bind c.P.underlying with
      | some (.slice _) => !s
      | some .string => s
      | _ => false)
    | _ => false
  | .app _ r e x y => match q with
    | .call { callee := .builtin .append, args, argTypes } => opdsOk c.gl [x, y] args.toList && (match argTypes.toList with
      | [ty, ty'] => rowOkB c ty r e && (match c.P.underlying ty' with | some (.slice _) => true | some .string => true | _ => false)
      | _ => false)
    | _ => false
  | .cpy e x y => match q with
    | .call { callee := .builtin .copy, args, argTypes } => opdsOk c.gl [x, y] args.toList && (match argTypes.toList with
      | [ty, _] => elOk c ty e
      | _ => false)
    | _ => false
  | .mnx mx x y => match q with
    | .call { callee := .builtin b, args, .. } => decide (b = if mx then .max else .min) && opdsOk c.gl [x, y] args.toList
    | _ => false
  | .bld z ps => match q with
    | .build ty ps' => zOk c z ty && partsOk c.gl ps ps'.toList
    | _ => false
  | .bsl _ r e z n ps => match q with
    | .buildSlice ty n' ps' => decide (n = n') && rowOkB c ty r e && partsOk c.gl ps ps'.toList && (match c.P.underlying ty with | some (.slice ety) => zOk c z ety | _ => false) && decide (n * c.T.size e ≤ 16777216)
    | _ => false
  | .call f args => match q with
    | .call { callee := .value g, args := args', .. } => opdOk c.gl f g && opdsOk c.gl args args'.toList
    | _ => false
  | .pcall f args => match q with
    | .call { callee := .value g, args := args', .. } => opdOk c.gl f g && opdsOk c.gl args args'.toList
    | _ => false
  | .sta t p x _ => match q with
    | .store ty p' x' => opdOk c.gl p p' && opdOk c.gl x x' && decide (tg c.tm ty = some t)
    | _ => false
  | .callw f args _ => match q with
    | .call { callee := .value g, args := args', .. } => opdOk c.gl f g && opdsOk c.gl args args'.toList
    | _ => false
  | .lda t p _ => match q with
    | .load ty p' => opdOk c.gl p p' && decide (tg c.tm ty = some t)
    | _ => false

/-- What an operation's simulation says. -/
def OpOk (c : Cfg) (B0 base : Nat) (B : BM) (s : St) (w : World) (a : Act) (q : Oper) (v : V) (s' : St) : Prop :=
  ∃ nx w' B', (execOp a.eval q).run c.P w = .ok nx w' ∧ ((∃ x, nx = .value x ∧ VR c.T B' v x) ∨ (nx = .skip ∧ v = .dead)) ∧ Stp c.T B0 base B s w B' s' w'

theorem pureOk {c : Cfg} {B0 base : Nat} {B : BM} {s : St} {w : World} {a : Act} {q : Oper} {v : V} {x : Value} (h : SR c.T B0 B s w) (hr : (execOp a.eval q).run c.P w = .ok (.value x) w) (hv : VR c.T B v x) :
    OpOk c B0 base B s w a q v s := ⟨_, _, B, hr, .inl ⟨x, rfl, hv⟩, .refl h⟩

end Go.Ab
