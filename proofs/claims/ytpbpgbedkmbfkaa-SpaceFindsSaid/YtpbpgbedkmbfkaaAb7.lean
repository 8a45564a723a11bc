/-
  Ab7: values in slots; the check that printed code is the model's code.
-/
import Derived.Test.YtpbpgbedkmbfkaaAb6
import Derived.Calls
import Derived.Tactics
namespace Go.Ab

/-! ### Values in slots -/
def isAggV : V → Bool
  | .agg _ _ => true
  | _ => false
def isAggX : Value → Bool
  | .agg _ => true
  | _ => false

def VR1 (T : Tab) (B : BM) (v : V) (x : Value) : Prop := v.wf T ∧ CR T B v x.cells.toList ∧ isAggV v = isAggX x
def All2 {α β : Type} (R : α → β → Prop) : List α → List β → Prop
  | [], [] => True
  | a :: l, b :: m => R a b ∧ All2 R l m
  | _, _ => False
def VR (T : Tab) (B : BM) (v : V) (x : Value) : Prop :=
  match v with
  | .dead => True
  | .tup l => ∃ xs : Array Value, x = .tuple xs ∧ All2 (VR1 T B) l xs.toList
  | v => VR1 T B v x

theorem VR_ok {T : Tab} {B : BM} {v : V} {x : Value} (hv : v.ok = true) : VR T B v x ↔ VR1 T B v x := by
  cases v <;> simp [V.ok] at hv <;> rfl
theorem ok_of_wf {T : Tab} {v : V} (h : v.wf T) : v.ok = true := by
  cases v <;> simp [V.wf] at h <;> rfl
theorem VR_of1 {T : Tab} {B : BM} {v : V} {x : Value} (h : VR1 T B v x) : VR T B v x := (VR_ok (ok_of_wf h.1)).2 h

theorem VR1_ext {T : Tab} {B B' : BM} (he : Ext B B') {v : V} {x : Value} (h : VR1 T B v x) : VR1 T B' v x := ⟨h.1, CR_move (fun _ _ => he.at) h.2.1, h.2.2⟩
theorem All2_imp {α β : Type} {R R' : α → β → Prop} (h : ∀ a b, R a b → R' a b) : ∀ {l : List α} {m : List β}, All2 R l m → All2 R' l m
  | [], [], _ => trivial
  | _ :: _, _ :: _, hx => ⟨h _ _ hx.1, All2_imp h hx.2⟩
  | [], _ :: _, hx => hx.elim
  | _ :: _, [], hx => hx.elim
theorem VR_ext {T : Tab} {B B' : BM} (he : Ext B B') {v : V} {x : Value} (h : VR T B v x) : VR T B' v x := by
  cases v with
  | dead => trivial
  | tup l =>
    obtain ⟨xs, h1, h2⟩ := h
    exact ⟨xs, h1, All2_imp (fun _ _ h => VR1_ext he h) h2⟩
  | _ => exact VR1_ext he h

section leaves
variable {T : Tab} {B : BM} {x : Value}
theorem vr_bool {b : Bool} : VR T B (.bool b) x ↔ x = .bool b := by
  simp only [VR, VR1, V.wf, CR, isAggV, true_and]
  constructor
  · rintro ⟨h1, h2⟩; cases x <;> simp_all [Value.cells, isAggX]
  · rintro rfl; simp [Value.cells, isAggX]
theorem vr_int {k : IntKind} {n : Int} : VR T B (.int k n) x ↔ x = .int k n := by
  simp only [VR, VR1, V.wf, CR, isAggV, true_and]
  constructor
  · rintro ⟨h1, h2⟩; cases x <;> simp_all [Value.cells, isAggX]
  · rintro rfl; simp [Value.cells, isAggX]
theorem vr_str {s : ByteArray} : VR T B (.str s) x ↔ x = .string s := by
  simp only [VR, VR1, V.wf, CR, isAggV, true_and]
  constructor
  · rintro ⟨h1, h2⟩; cases x <;> simp_all [Value.cells, isAggX]
  · rintro rfl; simp [Value.cells, isAggX]
theorem vr_nilp : VR T B .nilp x ↔ x = .pointer none := by
  simp only [VR, VR1, V.wf, CR, isAggV, true_and]
  constructor
  · rintro ⟨h1, h2⟩; cases x <;> simp_all [Value.cells, isAggX]
  · rintro rfl; simp [Value.cells, isAggX]
theorem vr_nils : VR T B .nils x ↔ x = .slice none 0 0 := by
  simp only [VR, VR1, V.wf, CR, isAggV, true_and]
  constructor
  · rintro ⟨h1, h2⟩; cases x <;> simp_all [Value.cells, isAggX]
  · rintro rfl; simp [Value.cells, isAggX]
theorem vr_nilf : VR T B .nilf x ↔ x = .nilFunc := by
  simp only [VR, VR1, V.wf, CR, isAggV, true_and]
  constructor
  · rintro ⟨h1, h2⟩; cases x <;> simp_all [Value.cells, isAggX]
  · rintro rfl; simp [Value.cells, isAggX]
theorem vr_ptr {a : Loc} {p : List Nat} {t : Nat} : VR T B (.ptr a p t) x ↔ ∃ ad r o, B.at a = some (ad, r) ∧ offOf T r p = some (o, t) ∧ x = .pointer (some ⟨ad.block, ad.off + o, none⟩) := by
  simp only [VR, VR1, V.wf, CR, isAggV, true_and]
  constructor
  · rintro ⟨⟨ad, r, o, h1, h2, h3⟩, h4⟩
    refine ⟨ad, r, o, h1, h2, ?_⟩
    cases x <;> simp_all [Value.cells, isAggX]
  · rintro ⟨ad, r, o, h1, h2, rfl⟩
    exact ⟨⟨ad, r, o, h1, h2, rfl⟩, rfl⟩
theorem vr_sl {a : Loc} {p : List Nat} {off len e : Nat} {cap : Option Nat} : VR T B (.sl a p off len cap e) x ↔ ∃ ad r o u c' ad', B.at a = some (ad, r) ∧ offOf T r p = some (o, u) ∧ T.elem u = some e ∧ (∀ n e, T.info u = some (.arr n e) → off + len ≤ n) ∧ len ≤ c' ∧ (∀ c, cap = some c → c' = c) ∧
      (c' = 0 ∨ ad' = ⟨ad.block, ad.off + (o + off * T.size e), none⟩) ∧ (∀ N, ad.spot = some N → ad.off + (o + off * T.size e) + c' * T.size e ≤ N) ∧ x = .slice (some ad') len c' := by
  simp only [VR, VR1, V.wf, CR, isAggV, true_and]
  constructor
  · rintro ⟨⟨ad, r, o, u, c', ad', h1, h2, h3, h4, h5, h6, h7, h10, h8⟩, h9⟩
    refine ⟨ad, r, o, u, c', ad', h1, h2, h3, h4, h5, h6, h7, h10, ?_⟩
    cases x <;> simp_all [Value.cells, isAggX]
  · rintro ⟨ad, r, o, u, c', ad', h1, h2, h3, h4, h5, h6, h7, h10, rfl⟩
    exact ⟨⟨ad, r, o, u, c', ad', h1, h2, h3, h4, h5, h6, h7, h10, rfl⟩, rfl⟩
theorem vr_fn {f : Nat} {caps : List V} : VR T B (.fn f caps) x ↔ ∃ vs : Array Value, CRs T B caps vs.toList ∧ V.wfs T caps ∧ (∀ v ∈ caps, v.tag = 1) ∧ x = .func (.func f) #[] vs := by
  simp only [VR, VR1, V.wf, CR, isAggV, true_and]
  constructor
  · rintro ⟨⟨vs, h1, h2, h3, h4⟩, h9⟩
    refine ⟨vs, h1, h2, h3, ?_⟩
    cases x <;> simp_all [Value.cells, isAggX]
  · rintro ⟨vs, h1, h2, h3, rfl⟩
    exact ⟨⟨vs, h1, h2, h3, rfl⟩, rfl⟩
theorem vr_agg {t : Nat} {l : List V} : VR T B (.agg t l) x ↔ ∃ cs : Array Value, x = .agg cs ∧ aggOk T t l ∧ V.wfs T l ∧ CRs T B l cs.toList := by
  simp only [VR, VR1, V.wf, CR, isAggV]
  constructor
  · rintro ⟨⟨h1, h2⟩, h3, h4⟩
    cases x with
    | agg cs => exact ⟨cs, rfl, h1, h2, h3⟩
    | _ => simp [isAggX] at h4
  · rintro ⟨cs, rfl, h1, h2, h3⟩
    exact ⟨⟨h1, h2⟩, h3, rfl⟩
end leaves

/-- The environment and the slots. -/
def ER (T : Tab) (B : BM) (ρ : Env) (tmps : Array Value) : Prop := ∀ n, VR T B (get ρ n) (tmps.getD n undef)
theorem ER.ext {T : Tab} {B B' : BM} {ρ : Env} {tmps : Array Value} (h : ER T B ρ tmps) (he : Ext B B') : ER T B' ρ tmps := fun n => VR_ext he (h n)
theorem ER.put {T : Tab} {B : BM} {ρ : Env} {tmps : Array Value} (h : ER T B ρ tmps) {d : Nat} {v : V} {x : Value} (hv : VR T B v x) (hd : d < tmps.size) : ER T B ((d, v) :: ρ) (tmps.setIfInBounds d x) := by
  intro n
  simp only [get]
  by_cases hn : d = n
  · subst hn
    rw [if_pos rfl]
    simp [Array.getD_eq_getD_getElem?, hd, hv]
  · rw [if_neg hn]
    have := h n
    simpa [Array.getD_eq_getD_getElem?, Array.getElem?_setIfInBounds, hn] using this
theorem ER.restrict {T : Tab} {B : BM} {ρ : Env} {tmps : Array Value} (h : ER T B ρ tmps) (ks : List Nat) : ER T B (restrict ks ρ) tmps := by
  intro n
  by_cases hn : n ∈ ks
  · rw [get_restrict_mem hn]; exact h n
  · have : get (Ab.restrict ks ρ) n = .dead := by
      induction ks with
      | nil => rfl
      | cons k ks ih =>
        simp only [Ab.restrict, List.map_cons, get]
        simp only [List.mem_cons, not_or] at hn
        rw [if_neg (fun e => hn.1 e.symm)]
        exact ih hn.2
    rw [this]; trivial

/-! ### The check -/
abbrev TM := List (Nat × Nat)
abbrev GL := List (Nat × Nat × Nat)
structure Cfg where
  P : Program
  T : Tab
  tm : TM
  gl : GL
def tg : TM → Nat → Option Nat
  | [], _ => none
  | (k, t) :: r, ty => if k = ty then some t else tg r ty

def tyOk1 (c : Cfg) (ty t : Nat) : Bool :=
  match c.P.info? ty, c.P.underlying ty with
  | some i, some d => decide (i.size = c.T.size t) && decide (0 < c.T.size t) && c.T.noRow t && match d with
    | .bool => decide (t = 0)
    | .int k => decide (t = itag k)
    | .string => decide (t = 2)
    | .pointer _ => decide (t = 1)
    | .slice _ => decide (t = 1)
    | .func _ _ _ => decide (t = 1)
    | .struct fs => !c.P.stoodInHeld ty && match c.T.info t with
      | some (.st ts) => decide (ts.length = fs.size) && (List.range fs.size).all fun j => match fs[j]?, ts[j]? with
        | some f, some u => decide (f.offset = c.T.sum (ts.take j)) && decide (tg c.tm f.type = some u) && (f.name != "_")
        | _, _ => false
      | _ => false
    | .array n e => match c.T.info t with
      | some (.arr m u) => decide (n = m) && decide (tg c.tm e = some u)
      | _ => false
    | _ => false
  | _, _ => false
def tmOk (c : Cfg) : Bool := c.tm.all fun p => tyOk1 c p.1 p.2

theorem tg_mem {tm : TM} {ty t : Nat} (h : tg tm ty = some t) : (ty, t) ∈ tm := by
  induction tm with
  | nil => cases h
  | cons p r ih =>
    obtain ⟨k, u⟩ := p
    simp only [tg] at h
    by_cases hk : k = ty
    · rw [if_pos hk] at h; cases h; subst hk; exact List.mem_cons_self
    · rw [if_neg hk] at h; exact List.mem_cons_of_mem _ (ih h)
theorem tyOk_of {c : Cfg} (hc : tmOk c = true) {ty t : Nat} (h : tg c.tm ty = some t) : tyOk1 c ty t = true := List.all_eq_true.1 hc _ (tg_mem h)

/-- Constants. -/
def kOk : V → Value → Bool
  | .bool a, .bool b => a == b
  | .int k a, .int k' b => decide (k = k') && decide (a = b)
  | .str a, .string b => decide (a = b)
  | .nilp, .pointer none => true
  | .nils, .slice none 0 0 => true
  | .nilf, .nilFunc => true
  | _, _ => false
theorem kOk_vr {T : Tab} {B : BM} {v : V} {x : Value} (h : kOk v x = true) : VR T B v x := by
  unfold kOk at h
  split at h <;> first
    | (simp only [beq_iff_eq] at h; subst h; exact vr_bool.2 rfl)
    | (simp only [Bool.and_eq_true, decide_eq_true_eq] at h; obtain ⟨rfl, rfl⟩ := h; exact vr_int.2 rfl)
    | (simp only [decide_eq_true_eq] at h; subst h; exact vr_str.2 rfl)
    | exact vr_nilp.2 rfl
    | exact vr_nils.2 rfl
    | exact vr_nilf.2 rfl
    | cases h
def opdOk (gl : GL) : Opd → Operand → Bool
  | .t n, .tmp m => decide (n = m)
  | .k v, .const x => kOk v x
  | .k (.fn f []), .func g => decide (f = g)
  | .k (.ptr (.hp i) [] t), .global g => gl.any fun x => decide (x = (g, i, t))
  | _, _ => false
def GlobR (gl : GL) (B : BM) : Prop := ∀ g i t, (g, i, t) ∈ gl → B.hp[i]? = some (⟨g, 0, none⟩, t)
theorem GlobR.ext {gl : GL} {B B' : BM} (h : GlobR gl B) (he : Ext B B') : GlobR gl B' := fun g i t hm => prefix_get he.hp (h g i t hm)

theorem opd_sim {T : Tab} {gl : GL} {B : BM} {ρ : Env} {a : Act} {x : Opd} {y : Operand} (h : opdOk gl x y = true) (he : ER T B ρ a.tmps) (hg : GlobR gl B) : VR T B (x.ev ρ) (a.eval y) := by
  unfold opdOk at h
  split at h
  · simp only [decide_eq_true_eq] at h
    subst h
    exact he _
  · exact kOk_vr h
  · simp only [decide_eq_true_eq] at h
    subst h
    exact vr_fn.2 ⟨#[], by simp [CRs], by simp [V.wfs], by simp, rfl⟩
  · simp only [List.any_eq_true, decide_eq_true_eq] at h
    obtain ⟨z, hz, rfl⟩ := h
    exact vr_ptr.2 ⟨_, _, 0, hg _ _ _ hz, rfl, rfl⟩
  · cases h
end Go.Ab
