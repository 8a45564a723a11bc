/-
  Ab18: the printed code does what the model's code does: one operation; a list; a drawn region.
-/
import Derived.Test.YtpbpgbedkmbfkaaAb17
namespace Go.Ab

theorem put_size {a : Act} {d : Option Tmp} {x : Value} : (a.put d x).tmps.size = a.tmps.size := by
  cases d <;> simp [Act.put]
theorem put_defers {a : Act} {d : Option Tmp} {x : Value} : (a.put d x).defers = a.defers := by
  cases d <;> rfl
theorem ER.put' {T : Tab} {B : BM} {ρ : Env} {a : Act} (h : ER T B ρ a.tmps) {d : Option Nat} {v : V} {x : Value} (hv : VR T B v x) (hd : ∀ k, d = some k → k < a.tmps.size) : ER T B (Ab.put d v ρ) (a.put d x).tmps := by
  cases d with
  | none => exact h
  | some k => exact h.put hv (hd k rfl)
theorem vr_undef {T : Tab} {B : BM} : VR T B (.tup []) undef := ⟨#[], rfl, trivial⟩

/-! ### The check of a list -/
def gOk (all : Array Oper) (g : Option (Nat × Bool)) (q : Option (Nat × Bool)) : Bool :=
  match g, q with
  | none, none => true
  | some (t, b), some (j, b') => (b == b') && decide ((all[j]?).bind (·.dst) = some t)
  | _, _ => false
def dstOk (nt : Nat) (d d' : Option Nat) : Bool := decide (d = d') && match d with
  | none => true
  | some k => decide (k < nt)
def opOk1 (c : Cfg) (all : Array Oper) (nt : Nat) (o : Op) (q : Oper) : Bool := chkOp c o.op q.op && dstOk nt o.dst q.dst && gOk all o.guard q.guard
def opsOk (c : Cfg) (all : Array Oper) (nt : Nat) : List Op → List Oper → Bool
  | [], [] => true
  | o :: l, q :: m => opOk1 c all nt o q && opsOk c all nt l m
  | _, _ => false

def fnIs (c : Cfg) (g : Nat) : Prop := ∃ fn, c.P.funcs[g]? = some fn ∧ fn.name ≠ "runtime.NumGoroutine" ∧ fn.body.isSome = true

def CallSim (c : Cfg) (rec : Task → St → Option Res) : Prop :=
  ∀ g args s v s', rec (.f g args) s = some (.v v s') → ∀ B0 B w (xs : Array Value), All2 (VR c.T B) args xs.toList → SR c.T B0 B s w → GlobR c.gl B → B0 ≤ w.heap.size →
    fnIs c g ∧ Calls c.P g xs w fun e w' => ∃ x B', e = .returned x ∧ VR c.T B' v x ∧ Stp c.T B0 s.loc.length B s w B' s' w'

structure Sim (c : Cfg) (B0 base : Nat) (B : BM) (ρ : Env) (s : St) (nt : Nat) (a : Act) (w : World) : Prop where
  er : ER c.T B ρ a.tmps
  gr : GlobR c.gl B
  sr : SR c.T B0 B s w
  hb : base ≤ s.loc.length
  h0 : B0 ≤ w.heap.size
  lv : Lvl base s
  nt : nt ≤ a.tmps.size

/-- What holds behind a piece of code. -/
structure Aft (c : Cfg) (B0 base : Nat) (B : BM) (s : St) (w : World) (a : Act) (nt : Nat) (ρ' : Env) (s' : St) (B' : BM) (a' : Act) (w' : World) : Prop where
  df : a'.defers = a.defers
  er : ER c.T B' ρ' a'.tmps
  st : Stp c.T B0 base B s w B' s' w'
  nt : nt ≤ a'.tmps.size

theorem Aft.sim {c : Cfg} {B0 base nt : Nat} {B B' : BM} {ρ ρ' : Env} {s s' : St} {a a' : Act} {w w' : World} (h : Sim c B0 base B ρ s nt a w) (h' : Aft c B0 base B s w a nt ρ' s' B' a' w') : Sim c B0 base B' ρ' s' nt a' w' := by
  have hl := Stp.lens h.sr h'.st
  exact ⟨h'.er, h.gr.ext h'.st.ext, h'.st.sr, by have := h.hb; omega, by have := h.h0; omega, h'.st.lvl base (Nat.le_refl _) h.lv, h'.nt⟩
theorem Aft.trans {c : Cfg} {B0 base nt : Nat} {B B' B'' : BM} {ρ' ρ'' : Env} {s s' s'' : St} {a a' a'' : Act} {w w' w'' : World} (h' : Aft c B0 base B s w a nt ρ' s' B' a' w') (h'' : Aft c B0 base B' s' w' a' nt ρ'' s'' B'' a'' w'') : Aft c B0 base B s w a nt ρ'' s'' B'' a'' w'' :=
  ⟨h''.df.trans h'.df, h''.er, h'.st.trans h''.st, h''.nt⟩

theorem ER.same {T : Tab} {B : BM} {ρ ρ' : Env} {tmps : Array Value} (h : ER T B ρ tmps) (hs : Same ρ ρ') : ER T B ρ' tmps := fun n => by rw [← hs n]; exact h n

theorem wanted_of {c : Cfg} {B : BM} {ρ : Env} {a : Act} {all : Array Oper} {g : Option (Nat × Bool)} {q : Oper} {r : Bool} (hE : ER c.T B ρ a.tmps) (hg : gOk all g q.guard = true) (h : guardOk g ρ = some r) :
    Region.wanted q (yielded all a.tmps) = r := by
  unfold gOk at hg
  unfold Region.wanted
  split at hg
  · rename_i h1
    simp only [guardOk, Option.some.injEq] at h
    rw [h1, ← h]
  · rename_i t b j b' h1
    simp only [Bool.and_eq_true, beq_iff_eq, decide_eq_true_eq] at hg
    obtain ⟨rfl, hg⟩ := hg
    rw [h1]
    simp only [yielded, hg, Option.bind_some]
    simp only [guardOk] at h
    have hv := hE t
    cases hx : get ρ t with
    | bool x =>
      rw [hx] at h hv
      rw [vr_bool] at hv
      simp only [Option.some.injEq] at h
      have : a.tmps[t]? = some (.bool x) := by
        rw [Array.getD_eq_getD_getElem?] at hv
        cases ht : a.tmps[t]? with
        | none => rw [ht] at hv; simp [undef] at hv
        | some y => rw [ht] at hv; simpa using hv
      rw [this, ← h]
      cases x <;> cases b <;> rfl
    | tup l =>
      rw [hx] at h hv
      cases l with
      | nil =>
        simp only [Option.some.injEq] at h
        obtain ⟨xs, h2, h3⟩ := hv
        rw [Array.getD_eq_getD_getElem?] at h2
        cases ht : a.tmps[t]? with
        | none => rw [← h]; rfl
        | some y => rw [ht] at h2; simp only [Option.getD_some] at h2; rw [h2, ← h]; rfl
      | cons _ _ => cases h
    | _ => rw [hx] at h; cases h
  · cases hg

theorem caps_vr {T : Tab} (hT : tabOk T = true) {B : BM} : ∀ {l : List V} {cs : List Value}, CRs T B l cs → V.wfs T l → (∀ v ∈ l, v.tag = 1) → All2 (VR T B) l cs
  | [], cs, h, _, _ => by simp only [CRs] at h; subst h; trivial
  | v :: l, cs, h, hw, ht => by
    simp only [CRs] at h
    obtain ⟨a, b, rfl, h1, h2⟩ := h
    simp only [V.wfs] at hw
    have htv := ht v List.mem_cons_self
    have one : ∃ x, a = [x] ∧ VR T B v x := by
      cases v with
      | nilp => simp only [CR] at h1; exact ⟨_, h1, vr_nilp.2 rfl⟩
      | ptr l p t =>
        have h1' := h1
        simp only [CR] at h1
        obtain ⟨ad, r, o, g1, g2, g3⟩ := h1
        exact ⟨_, g3, vr_ptr.2 ⟨ad, r, o, g1, g2, rfl⟩⟩
      | nils => simp only [CR] at h1; exact ⟨_, h1, vr_nils.2 rfl⟩
      | sl l p off len cap e =>
        simp only [CR] at h1
        obtain ⟨ad, r, o, u, c', ad', g1, g2, g3, g4, g5, g6, g7, g8, g9⟩ := h1
        exact ⟨_, g9, vr_sl.2 ⟨ad, r, o, u, c', ad', g1, g2, g3, g4, g5, g6, g7, g8, rfl⟩⟩
      | fn f l =>
        simp only [CR] at h1
        obtain ⟨vs, g1, g2, g3, g4⟩ := h1
        exact ⟨_, g4, vr_fn.2 ⟨vs, g1, g2, g3, rfl⟩⟩
      | nilf => simp only [CR] at h1; exact ⟨_, h1, vr_nilf.2 rfl⟩
      | agg t l =>
        simp only [V.tag] at htv
        subst htv
        have := hw.1
        simp only [V.wf, aggOk, info_leaf hT (t := 1) (by decide)] at this
        exact this.1.elim
      | bool b => simp [V.tag] at htv
      | int k n => cases k <;> simp [V.tag, itag] at htv
      | str b => simp [V.tag] at htv
      | dead => simp [V.tag] at htv
      | tup l => simp [V.tag] at htv
    obtain ⟨x, rfl, hx⟩ := one
    exact ⟨hx, caps_vr hT h2 hw.2 (fun v hv => ht v (List.mem_cons_of_mem _ hv))⟩
theorem All2_append {α β : Type} {R : α → β → Prop} : ∀ {l l' : List α} {m m' : List β}, All2 R l m → All2 R l' m' → All2 R (l ++ l') (m ++ m')
  | [], _, [], _, _, h => h
  | _ :: _, _, _ :: _, _, h, h' => ⟨h.1, All2_append h.2 h'⟩
  | [], _, _ :: _, _, h, _ => h.elim
  | _ :: _, _, [], _, h, _ => h.elim

/-- What a single operation must be shown to do. -/
def oneWp (P : Program) (all : Array Oper) (Q : Exit → Act → World → Prop) (q : Oper) (K : Act → World → Prop) (a : Act) (w : World) : Prop :=
  if Region.wanted q (yielded all a.tmps) then q.wp P a w K Q ∨ (q.asks P a w ∧ LetsOut Q) else K (a.put q.dst undef) w

theorem All2_VR_cut {T : Tab} (hT : tabOk T = true) {B : BM} {n : Nat} : ∀ {l : List V} {m : List Value}, All2 (VR T B) l m → V.locLts n l = true → All2 (VR T (B.cut n)) l m
  | [], [], _, _ => trivial
  | _ :: _, _ :: _, h, hl => by
    simp only [V.locLts, Bool.and_eq_true] at hl
    exact ⟨VR_cut hT h.1 hl.1, All2_VR_cut hT h.2 hl.2⟩
  | [], _ :: _, h, _ => h.elim
  | _ :: _, [], h, _ => h.elim
/-- What a call does that changes nothing and comes to some locals alone, it does with all. -/
theorem uncut {T : Tab} {B0 base k m : Nat} {B B' : BM} {s : St} {w w' : World} {v : V} {x : Value} (h : SR T B0 B s w) (hx : VR T B' v x) (hst : Stp T B0 m (B.cut k) (s.cut k) w B' (s.cut k) w') :
    VR T B v x ∧ Stp T B0 base B s w B s w' := by
  have hB : B' = B.cut k := by
    have e1 : (B.cut k).loc = B'.loc := hst.ext.loc.eq_of_length (by rw [hst.sr.lenL]; simp [BM.cut, St.cut, h.lenL])
    have e2 : (B.cut k).hp = B'.hp := hst.ext.hp.eq_of_length (by rw [hst.sr.lenH]; exact h.lenH)
    cases B'
    simp only [BM.cut] at e1 e2 ⊢
    rw [e1, e2]
  subst hB
  have hext : Ext (B.cut k) B := ⟨List.take_prefix _ _, List.prefix_rfl⟩
  have own : ∀ i, Own (B.cut k) (s.cut k) i → Own B s i := by
    rintro i ⟨a, u, ar, h1, h2, h3⟩
    exact ⟨a, u, ar, (cut_atS h1).1, (cut_atB h2).1, h3⟩
  refine ⟨VR_ext hext hx, ⟨⟨h.lenL, h.lenH, ?_, h.sep, h.own, h.hpv⟩, .refl _, ⟨hst.frm.os, hst.frm.tape, hst.frm.output, hst.frm.size, fun i hi ho => hst.frm.block i hi fun hn => ho (own i hn)⟩, fun _ _ h => h, fun _ _ h => h⟩⟩
  intro a b ar hs hB
  by_cases hin : (s.cut k).at a = some b
  · have hBin : (B.cut k).at a = some ar := cut_at (cut_atS hin).2 hB
    exact BlkR.ext (hst.sr.blk a b ar hin hBin) hext
  · cases b with
    | dead => trivial
    | _ =>
      have hno : ¬ Own (B.cut k) (s.cut k) ar.1.block := by
        rintro ⟨a', u, ar', h1, h2, h3⟩
        refine h.sep a' a ar' ar u _ (cut_atS h1).1 (cut_atB h2).1 hs (by simp) hB ?_ h3
        rintro rfl
        rw [(cut_atS h1).1] at hs
        exact hin (h1.trans hs)
      have hb := h.blk a _ ar hs hB
      first
      | obtain ⟨h1, h2, c, e, fr, cs, h3, h4, h5⟩ := hb
        refine ⟨h1, h2, c, e, fr, cs, ?_, h4, h5⟩
        rw [hst.frm.block _ (by have := Array.getElem?_eq_some_iff.1 h3; exact this.1) hno]; exact h3
      | obtain ⟨h1, h2, c, e, cs, h3, h4, h5⟩ := hb
        refine ⟨h1, h2, c, e, cs, ?_, h4, h5⟩
        rw [hst.frm.block _ (by have := Array.getElem?_eq_some_iff.1 h3; exact this.1) hno]; exact h3

section one
variable {c : Cfg} (hT : tabOk c.T = true) (hm : tmOk c = true) {rec : Task → St → Option Res} (hR : CallSim c rec)
include hT hm hR

omit hm in
theorem call_one {B0 base nt : Nat} {B : BM} {ρ : Env} {s s' : St} {a : Act} {w : World} {v : V} (h : Sim c B0 base B ρ s nt a w) {f : Opd} {args : List Opd} {q : Oper} {Q : Exit → Act → World → Prop} {K : Act → World → Prop}
    {g : Operand} {args' : Array Operand} {ats : Array TypeId} (hq : q.op = .call { callee := .value g, args := args', argTypes := ats }) (h1 : opdOk c.gl f g = true) (h2 : opdsOk c.gl args args'.toList = true)
    {fn : Nat} {caps : List V} (hf : f.ev ρ = .fn fn caps) (hr : rec (.f fn (args.map (Opd.ev ρ) ++ caps)) s = some (.v v s'))
    (hK : ∀ x B' w', VR c.T B' v x → Stp c.T B0 base B s w B' s' w' → K (a.put q.dst x) w') : q.wp c.P a w K Q := by
  have g1 := opd_sim h1 h.er h.gr
  have g2 := opds_sim h2 h.er h.gr
  rw [hf] at g1
  obtain ⟨vs, k1, k2, k3, k4⟩ := vr_fn.1 g1
  have g3 : All2 (VR c.T B) (args.map (Opd.ev ρ) ++ caps) ((args'.map a.eval) ++ vs).toList := by
    rw [Array.toList_append, Array.toList_map]
    exact All2_append g2 (caps_vr hT k1 k2 k3)
  obtain ⟨⟨fi, e1, e2, e3⟩, hcalls⟩ := hR fn _ s v s' hr B0 B w _ g3 h.sr h.gr h.h0
  have hrun : (execOp a.eval q).run c.P w = .ok (.enter fn ((args'.map a.eval) ++ vs)) w := by
    have hb : fi.body.isNone = false := by cases hb : fi.body <;> simp_all
    have x0 : execOp a.eval q = (do let d ← resolve a.eval { callee := .value g, args := args', argTypes := ats } q.type; invoke d.target d.args) := by
      unfold execOp
      rw [hq]
    have x1 : resolve a.eval { callee := .value g, args := args', argTypes := ats } q.type = pure { target := .fn (.func fn) vs, args := #[] ++ args'.map a.eval } := by
      simp only [resolve, k4, Deferred.ofValue]
    have x2 : invoke (.fn (.func fn) vs) (#[] ++ args'.map a.eval) = callFunc fn ((#[] ++ args'.map a.eval) ++ vs) := rfl
    rw [x0, x1]
    simp only [Sem.run_bind, Sem.run_pure, Result.andThen_ok, x2]
    have hb' : ¬ (fi.body = none) := by intro hn; rw [hn] at hb; cases hb
    simp [callFunc, go_sem, e1, e2, hb']
  unfold Oper.wp
  rw [hrun, Oper.upon_enter]
  refine Calls.mono hcalls fun e w' he => ?_
  obtain ⟨x, B', rfl, hx, hst⟩ := he
  exact hK x B' w' hx (hst.base h.hb)

omit hm in
theorem pcall_one {B0 base nt : Nat} {B : BM} {ρ : Env} {s : St} {a : Act} {w : World} {v : V} (h : Sim c B0 base B ρ s nt a w) {f : Opd} {args : List Opd} {q : Oper} {Q : Exit → Act → World → Prop} {K : Act → World → Prop}
    {g : Operand} {args' : Array Operand} {ats : Array TypeId} (hq : q.op = .call { callee := .value g, args := args', argTypes := ats }) (h1 : opdOk c.gl f g = true) (h2 : opdsOk c.gl args args'.toList = true)
    {fn : Nat} {caps : List V} {k : Nat} (hf : f.ev ρ = .fn fn caps) (hp : pOk base k (args.map (Opd.ev ρ) ++ caps) s = true) (hr : rec (.f fn (args.map (Opd.ev ρ) ++ caps)) (s.cut k) = some (.v v (s.cut k)))
    (hK : ∀ x w', VR c.T B v x → Stp c.T B0 base B s w B s w' → K (a.put q.dst x) w') : q.wp c.P a w K Q := by
  have g1 := opd_sim h1 h.er h.gr
  have g2 := opds_sim h2 h.er h.gr
  rw [hf] at g1
  obtain ⟨vs, k1, k2, k3, k4⟩ := vr_fn.1 g1
  simp only [pOk, Bool.and_eq_true, decide_eq_true_eq, List.all_eq_true] at hp
  obtain ⟨p1, p2, p3, p4⟩ := hp
  have g3 : All2 (VR c.T B) (args.map (Opd.ev ρ) ++ caps) ((args'.map a.eval) ++ vs).toList := by
    rw [Array.toList_append, Array.toList_map]
    exact All2_append g2 (caps_vr hT k1 k2 k3)
  have hlv : Lvl k s := by
    intro i x hi hx
    by_cases hib : i < base
    · exact blkLt_mono p2 (h.lv i x hib hx)
    · refine p4 x ?_
      rw [List.mem_iff_getElem?]
      refine ⟨i - base, ?_⟩
      rw [List.getElem?_drop, List.getElem?_take, if_pos (by omega), show base + (i - base) = i by omega]
      exact hx
  obtain ⟨⟨fi, e1, e2, e3⟩, hcalls⟩ := hR fn _ (s.cut k) v (s.cut k) hr B0 (B.cut k) w _ (All2_VR_cut hT g3 p1) (SR_cut hT h.sr hlv) h.gr h.h0
  have hrun : (execOp a.eval q).run c.P w = .ok (.enter fn ((args'.map a.eval) ++ vs)) w := by
    have hb : fi.body.isNone = false := by cases hb : fi.body <;> simp_all
    have x0 : execOp a.eval q = (do let d ← resolve a.eval { callee := .value g, args := args', argTypes := ats } q.type; invoke d.target d.args) := by
      unfold execOp
      rw [hq]
    have x1 : resolve a.eval { callee := .value g, args := args', argTypes := ats } q.type = pure { target := .fn (.func fn) vs, args := #[] ++ args'.map a.eval } := by
      simp only [resolve, k4, Deferred.ofValue]
    have x2 : invoke (.fn (.func fn) vs) (#[] ++ args'.map a.eval) = callFunc fn ((#[] ++ args'.map a.eval) ++ vs) := rfl
    rw [x0, x1]
    simp only [Sem.run_bind, Sem.run_pure, Result.andThen_ok, x2]
    have hb' : ¬ (fi.body = none) := by intro hn; rw [hn] at hb; cases hb
    simp [callFunc, go_sem, e1, e2, hb']
  unfold Oper.wp
  rw [hrun, Oper.upon_enter]
  refine Calls.mono hcalls fun e w' he => ?_
  obtain ⟨x, B', rfl, hx, hst⟩ := he
  obtain ⟨hx', hst'⟩ := uncut h.sr hx hst
  exact hK x w' hx' hst'

theorem one_sim {B0 base nt : Nat} {B : BM} {ρ ρ' : Env} {s s' : St} {a : Act} {w : World} (h : Sim c B0 base B ρ s nt a w) {o : Op} {q : Oper} {all : Array Oper} (hok : opOk1 c all nt o q = true)
    (hs : stepO rec base o (ρ, s) = some (ρ', s')) {Q : Exit → Act → World → Prop} {K : Act → World → Prop} (hK : ∀ a' w' B', Aft c B0 base B s w a nt ρ' s' B' a' w' → K a' w') : oneWp c.P all Q q K a w := by
  simp only [opOk1, dstOk, Bool.and_eq_true, decide_eq_true_eq] at hok
  obtain ⟨⟨hck, hde, hdl⟩, hgk⟩ := hok
  have hd : ∀ k, q.dst = some k → k < a.tmps.size := by
    intro k hk
    rw [hde, hk] at hdl
    simp only [decide_eq_true_eq] at hdl
    exact Nat.lt_of_lt_of_le hdl h.nt
  have fin : ∀ {v : V} {x : Value} {B' : BM} {s1 : St} {w' : World}, VR c.T B' v x → Stp c.T B0 base B s w B' s1 w' → some (put o.dst v ρ, s1) = some (ρ', s') → K (a.put q.dst x) w' := by
    intro v x B' s1 w' hx hst he
    simp only [Option.some.injEq, Prod.mk.injEq] at he
    obtain ⟨rfl, rfl⟩ := he
    refine hK _ _ B' ⟨put_defers, ?_, hst, by rw [put_size]; exact h.nt⟩
    rw [hde]
    exact (h.er.ext hst.ext).put' hx hd
  unfold stepO valO at hs
  unfold oneWp
  simp only at hs
  cases hg : guardOk o.guard ρ with
  | none => rw [hg] at hs; cases hs
  | some r =>
    rw [hg] at hs
    rw [wanted_of h.er hgk hg]
    cases r with
    | false =>
      simp only at hs
      rw [if_neg (by decide)]
      exact fin vr_undef (.refl h.sr) hs
    | true =>
      simp only at hs
      rw [if_pos rfl]
      left
      cases hr : ropF rec base ρ s o.op with
      | none => rw [hr] at hs; cases hs
      | some y =>
        obtain ⟨v, s1⟩ := y
        rw [hr] at hs
        simp only at hs
        have plain : evOp base ρ s o.op = some (v, s1) → q.wp c.P a w K Q := by
          intro he
          obtain ⟨nx, w', B', e1, e2, e3⟩ := op_sim hT hm h.er h.gr h.sr h.hb h.h0 hck he
          unfold Oper.wp
          rw [e1]
          rcases e2 with ⟨x, rfl, hx⟩ | ⟨rfl, rfl⟩
          · rw [Oper.upon_value]
            exact fin hx e3 hs
          · rw [Oper.upon_skip]
            exact fin (v := .dead) trivial e3 hs
        cases ho : o.op with
        | call f args =>
          rw [ho] at hck hr
          simp only [chkOp] at hck
          split at hck
          · rename_i g args' ats hq
            simp only [Bool.and_eq_true] at hck
            simp only [ropF] at hr
            split at hr
            · rename_i fn caps hf
              split at hr
              · rename_i v' s2 hrr
                simp only [Option.some.injEq, Prod.mk.injEq] at hr
                obtain ⟨rfl, rfl⟩ := hr
                exact call_one hT hR h hq hck.1 hck.2 hf hrr (fun x B' w' hx hst => fin hx hst hs)
              · cases hr
            · cases hr
          · cases hck
        | pcall f args =>
          rw [ho] at hck hr
          simp only [chkOp] at hck
          split at hck
          · rename_i g args' ats hq
            simp only [Bool.and_eq_true] at hck
            simp only [ropF] at hr
            split at hr
            · rename_i fn caps hf
              generalize hk : pcut base (args.map (Opd.ev ρ) ++ caps) = k at *
              by_cases hp : pOk base k (args.map (Opd.ev ρ) ++ caps) s = true
              · rw [if_pos hp] at hr
                split at hr
                · rename_i v' s2 hrr
                  split at hr
                  · rename_i hss
                    subst hss
                    simp only [Option.some.injEq, Prod.mk.injEq] at hr
                    obtain ⟨rfl, rfl⟩ := hr
                    exact pcall_one hT hR h hq hck.1 hck.2 hf hp hrr (fun x w' hx hst => fin hx hst hs)
                  · cases hr
                · cases hr
              · rw [if_neg hp] at hr; cases hr
            · cases hr
          · cases hck
        | callw f args wi =>
          rw [ho] at hck hr
          simp only [chkOp] at hck
          split at hck
          · rename_i g args' ats hq
            simp only [Bool.and_eq_true] at hck
            simp only [ropF] at hr
            split at hr
            · split at hr
              · rename_i fn caps hf
                split at hr
                · rename_i v' s2 hrr
                  simp only [Option.some.injEq, Prod.mk.injEq] at hr
                  obtain ⟨rfl, rfl⟩ := hr
                  exact call_one hT hR h hq hck.1 hck.2 hf hrr (fun x B' w' hx hst => fin hx hst hs)
                · cases hr
              · cases hr
            · cases hr
          · cases hck
        | _ => exact plain (by rw [ho] at hr ⊢; exact hr)

theorem list_sim {base nt : Nat} {all : Array Oper} {B0 : Nat} {Q : Exit → Act → World → Prop} : ∀ {l : List Op} {m : List Oper} {B : BM} {ρ ρ' : Env} {s s' : St} {a : Act} {w : World}, opsOk c all nt l m = true → Sim c B0 base B ρ s nt a w →
    evl rec base l (ρ, s) = some (ρ', s') → (∀ a' w' B', Aft c B0 base B s w a nt ρ' s' B' a' w' → Q .normal a' w') → wpList c.P all Q m a w
  | [], [], B, ρ, ρ', s, s', a, w, _, h, he, hQ => by
    simp only [evl, Option.some.injEq, Prod.mk.injEq] at he
    obtain ⟨rfl, rfl⟩ := he
    exact hQ a w B ⟨rfl, h.er, .refl h.sr, h.nt⟩
  | o :: l, q :: m, B, ρ, ρ', s, s', a, w, hok, h, he, hQ => by
    simp only [opsOk, Bool.and_eq_true] at hok
    simp only [evl] at he
    cases hs : stepO rec base o (ρ, s) with
    | none => rw [hs] at he; cases he
    | some y =>
      obtain ⟨ρ1, s1⟩ := y
      rw [hs] at he
      have := one_sim hT hm hR h (Q := Q) hok.1 hs (K := wpList c.P all Q m) (fun a' w' B' ha => list_sim hok.2 (ha.sim h) he (fun a2 w2 B2 ha2 => hQ a2 w2 B2 (ha.trans ha2)))
      exact this
  | [], _ :: _, _, _, _, _, _, _, _, hok, _, _, _ => by cases hok
  | _ :: _, [], _, _, _, _, _, _, _, hok, _, _, _ => by cases hok
end one
end Go.Ab
