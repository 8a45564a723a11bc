/-
  Ab17: operations in another order than the text's.
-/
import Derived.Test.YtpbpgbedkmbfkaaAb16
import Derived.Orders
import Derived.Test.YtpbpgbedkmbfkaaAb3
namespace Go.Ab

/-- One operation, its guard looked at. -/
def valO (rec : Task → St → Option Res) (base : Nat) (o : Op) (ρ : Env) (s : St) : Option (V × St) :=
  match guardOk o.guard ρ with
  | none => none
  | some false => some (.tup [], s)
  | some true => ropF rec base ρ s o.op
def stepO (rec : Task → St → Option Res) (base : Nat) (o : Op) (x : Env × St) : Option (Env × St) :=
  match valO rec base o x.1 x.2 with
  | some y => some (put o.dst y.1 x.1, y.2)
  | none => none
def evl (rec : Task → St → Option Res) (base : Nat) : List Op → Env × St → Option (Env × St)
  | [], x => some x
  | o :: l, x => match stepO rec base o x with
    | some y => evl rec base l y
    | none => none

theorem evl_of_ev {D : Nat → Option Fc} {base : Nat} : ∀ {n : Nat} {l : List Op} {ρ ρ' : Env} {s s' : St}, ev D n (.o base l ρ) s = some (.o ρ' s') → evl (ev D n) base l (ρ, s) = some (ρ', s') := by
  intro n
  induction n with
  | zero => intro l ρ ρ' s s' h; cases h
  | succ n ih =>
    intro l ρ ρ' s s' h
    have up : ∀ {l : List Op} {x y : Env × St}, evl (ev D n) base l x = some y → evl (ev D (n + 1)) base l x = some y := by
      intro l
      induction l with
      | nil => intro x y h; exact h
      | cons o l ihl =>
        intro x y h
        simp only [evl, stepO, valO] at h ⊢
        cases hg : guardOk o.guard x.1 with
        | none => rw [hg] at h; cases h
        | some b =>
          rw [hg] at h
          cases b with
          | false => exact ihl h
          | true =>
            simp only at h ⊢
            cases hr : ropF (ev D n) base x.1 x.2 o.op with
            | none => rw [hr] at h; cases h
            | some q =>
              rw [hr] at h
              rw [ropF_mono (fun t s r hr => ev_mono n hr) hr]
              exact ihl h
    cases l with
    | nil => simp only [ev, step, Option.some.injEq, Res.o.injEq] at h; simp only [evl, h.1, h.2]
    | cons o l =>
      simp only [ev, step] at h
      simp only [evl, stepO, valO]
      cases hg : guardOk o.guard ρ with
      | none => rw [hg] at h; cases h
      | some b =>
        rw [hg] at h
        cases b with
        | false => exact up (ih h)
        | true =>
          simp only at h ⊢
          cases hr : ropF (ev D n) base ρ s o.op with
          | none => rw [hr] at h; cases h
          | some q =>
            rw [hr] at h
            rw [ropF_mono (fun t s r hr => ev_mono n hr) hr]
            exact up (ih h)

/-! ### What an operation looks at -/
def oL : Option Opd → List Opd
  | none => []
  | some x => [x]
def opdsOf : Op' → List Opd
  | .mv x | .box _ x | .ld _ x | .nilc x | .un _ x | .conv _ x | .fad _ _ _ x | .fld _ _ x | .ext x _ | .len _ x => [x]
  | .pick x y z => [x, y, z]
  | .st _ x y | .bin _ x y | .eq _ _ x y | .mksl _ _ _ _ x y | .iad _ _ _ x y | .sad _ x y | .idx _ _ x y | .sidx x y | .app _ _ _ x y | .cpy _ x y | .mnx _ x y => [x, y]
  | .alloc _ _ | .lenk _ => []
  | .mkfn _ l => l
  | .slc _ x lo hi mx | .slarr _ _ _ x lo hi mx => x :: (oL lo ++ oL hi ++ oL mx)
  | .slstr x lo hi => x :: (oL lo ++ oL hi)
  | .bld _ ps | .bsl _ _ _ _ _ ps => ps.map (·.2)
  | .call f l | .pcall f l => f :: l
  | .sta _ p x l => p :: x :: l
  | .callw f l w => w :: f :: l
  | .lda _ p r => [p, r]

theorem omap_congr {ρ ρ' : Env} {x : Option Opd} (h : ∀ y ∈ oL x, y.ev ρ = y.ev ρ') : x.map (Opd.ev ρ) = x.map (Opd.ev ρ') := by
  cases x with
  | none => rfl
  | some y => simp only [Option.map_some]; rw [h y (by simp [oL])]

theorem ropF_congr {rec : Task → St → Option Res} {base : Nat} {ρ ρ' : Env} {s : St} {o : Op'} (h : ∀ x ∈ opdsOf o, x.ev ρ = x.ev ρ') : ropF rec base ρ s o = ropF rec base ρ' s o := by
  cases o with
  | slc e x lo hi mx =>
    simp only [opdsOf, List.mem_cons, List.mem_append] at h
    simp only [ropF, evOp]
    rw [h x (.inl rfl), omap_congr fun y hy => h y (.inr (.inl (.inl hy))), omap_congr (x := hi) fun y hy => h y (.inr (.inl (.inr hy))), omap_congr (x := mx) fun y hy => h y (.inr (.inr hy))]
  | slarr t n e x lo hi mx =>
    simp only [opdsOf, List.mem_cons, List.mem_append] at h
    simp only [ropF, evOp]
    rw [h x (.inl rfl), omap_congr fun y hy => h y (.inr (.inl (.inl hy))), omap_congr (x := hi) fun y hy => h y (.inr (.inl (.inr hy))), omap_congr (x := mx) fun y hy => h y (.inr (.inr hy))]
  | slstr x lo hi =>
    simp only [opdsOf, List.mem_cons, List.mem_append] at h
    simp only [ropF, evOp]
    rw [h x (.inl rfl), omap_congr fun y hy => h y (.inr (.inl hy)), omap_congr (x := hi) fun y hy => h y (.inr (.inr hy))]
  | mkfn f l =>
    have : l.map (Opd.ev ρ) = l.map (Opd.ev ρ') := List.map_congr_left fun x hx => h x hx
    simp only [ropF, evOp, this]
  | bld z ps =>
    have : (ps.map fun p => (p.1, p.2.ev ρ)) = ps.map fun p => (p.1, p.2.ev ρ') := List.map_congr_left fun p hp => by rw [h p.2 (List.mem_map_of_mem hp)]
    simp only [ropF, evOp, this]
  | bsl a b c d e ps =>
    have : (ps.map fun p => (p.1, p.2.ev ρ)) = ps.map fun p => (p.1, p.2.ev ρ') := List.map_congr_left fun p hp => by rw [h p.2 (List.mem_map_of_mem hp)]
    simp only [ropF, evOp, this]
  | call f l =>
    have : l.map (Opd.ev ρ) = l.map (Opd.ev ρ') := List.map_congr_left fun x hx => h x (List.mem_cons_of_mem _ hx)
    simp only [ropF, this, h f List.mem_cons_self]
  | pcall f l =>
    have : l.map (Opd.ev ρ) = l.map (Opd.ev ρ') := List.map_congr_left fun x hx => h x (List.mem_cons_of_mem _ hx)
    simp only [ropF, this, h f List.mem_cons_self]
  | sta t p x l =>
    have e : (l.all fun y => locNe (y.ev ρ) (p.ev ρ')) = l.all fun y => locNe (y.ev ρ') (p.ev ρ') := by
      apply Bool.eq_iff_iff.2
      simp only [List.all_eq_true]
      constructor
      · intro hh y hy; rw [← h y (by simp [opdsOf, hy])]; exact hh y hy
      · intro hh y hy; rw [h y (by simp [opdsOf, hy])]; exact hh y hy
    simp only [ropF, evOp, h p (by simp [opdsOf]), h x (by simp [opdsOf])]
    simp only [e]
  | callw f l w =>
    have : l.map (Opd.ev ρ) = l.map (Opd.ev ρ') := List.map_congr_left fun x hx => h x (by simp [opdsOf, hx])
    simp only [ropF, this, h f (by simp [opdsOf]), h w (by simp [opdsOf])]
  | lda t p r => simp only [ropF, evOp, h p (by simp [opdsOf]), h r (by simp [opdsOf])]
  | alloc h z => rfl
  | lenk n => rfl
  | pick x y z =>
    simp only [ropF, evOp, h x (by simp [opdsOf]), h y (by simp [opdsOf]), h z (by simp [opdsOf])]
  | _ =>
    first
    | (rename_i x; simp only [ropF, evOp, h x (by simp [opdsOf])]; done)
    | (rename_i x _; simp only [ropF, evOp, h x (by simp [opdsOf])]; done)
    | (rename_i x y; simp only [ropF, evOp, h x (by simp [opdsOf]), h y (by simp [opdsOf])]; done)

/-- 0: of slots alone; 1: a look; 2: a call that changes nothing; 3: something new; 4: all else. -/
def cls : Op' → Nat
  | .ld .. | .slarr .. | .lda .. => 1
  | .pcall .. => 2
  | .alloc .. | .box .. | .bsl .. => 3
  | .mksl .. | .st .. | .call .. | .app .. | .cpy .. | .sta .. | .callw .. => 4
  | _ => 0

theorem cls_reg {rec : Task → St → Option Res} {base : Nat} {ρ : Env} {s : St} {o : Op'} (hc : cls o = 0) (s2 : St) : ropF rec base ρ s2 o = (ropF rec base ρ s o).map fun x => (x.1, s2) := by
  cases o <;> simp only [cls] at hc <;> (try (exfalso; omega)) <;> simp only [ropF, evOp] <;> (repeat' split) <;> simp_all
theorem cls_reg_st {rec : Task → St → Option Res} {base : Nat} {ρ : Env} {s s' : St} {v : V} {o : Op'} (hc : cls o = 0) (h : ropF rec base ρ s o = some (v, s')) : s' = s := by
  have := cls_reg (rec := rec) (base := base) (ρ := ρ) (s := s) hc s
  rw [h] at this
  simpa using this
theorem cls_quiet {rec : Task → St → Option Res} {base : Nat} {ρ : Env} {s s' : St} {v : V} {o : Op'} (hc : cls o ≤ 2) (h : ropF rec base ρ s o = some (v, s')) : s' = s := by
  cases o <;> simp only [cls] at hc <;> (try (exfalso; omega)) <;> first
    | exact cls_reg_st rfl h
    | (simp only [ropF, evOp] at h; (repeat' split at h) <;> simp_all)
theorem read_new {s : St} {h : Bool} {v u : V} {a : Loc} {p : List Nat} (hr : s.read a p = some u) : (s.new h v).read a p = some u := by
  have : ∀ b, s.at a = some b → (s.new h v).at a = some b := by
    intro b hb
    cases a with
    | loc i => cases h with
      | false => simp only [St.at, St.new, Bool.false_eq_true, if_false] at hb ⊢; rw [List.getElem?_append_left (List.getElem?_eq_some_iff.1 hb).1]; exact hb
      | true => exact hb
    | hp i => cases h with
      | true => simp only [St.at, St.new, if_true] at hb ⊢; rw [List.getElem?_append_left (List.getElem?_eq_some_iff.1 hb).1]; exact hb
      | false => exact hb
  unfold St.read at *
  cases hs : s.at a with
  | none => rw [hs] at hr; cases hr
  | some b => rw [hs] at hr; rw [this b hs]; exact hr
theorem cls_look {rec : Task → St → Option Res} {base : Nat} {ρ : Env} {s s' : St} {v z : V} {h : Bool} {o : Op'} (hc : cls o = 1) (hr : ropF rec base ρ s o = some (v, s')) : ropF rec base ρ (s.new h z) o = some (v, s.new h z) := by
  cases o with
  | ld t p =>
    simp only [ropF, evOp] at hr ⊢
    split at hr
    · rename_i a path t' hp
      split at hr
      · rename_i ht
        rw [if_pos ht]
        cases hs : s.read a path with
        | none => rw [hs] at hr; cases hr
        | some u =>
          rw [hs] at hr
          rw [read_new hs]
          simp only [Option.some.injEq, Prod.mk.injEq] at hr ⊢
          exact ⟨hr.1, trivial⟩
      · cases hr
    · cases hr
  | lda t p r =>
    simp only [ropF, evOp] at hr ⊢
    split at hr
    · rename_i hle
      rw [if_pos hle]
      split at hr
      · rename_i a path t' hp
        split at hr
        · rename_i ht
          rw [if_pos ht]
          cases hs : s.read a path with
          | none => rw [hs] at hr; cases hr
          | some u =>
            rw [hs] at hr
            rw [read_new hs]
            simp only [Option.some.injEq, Prod.mk.injEq] at hr ⊢
            exact ⟨hr.1, trivial⟩
        · cases hr
      · cases hr
    · cases hr
  | slarr t n e x lo hi mx =>
    simp only [ropF, evOp] at hr ⊢
    split at hr
    · rename_i a path t' hp
      split at hr
      · rename_i ht
        obtain ⟨ht1, ht2⟩ := ht
        cases hs : s.read a path with
        | none => rw [hs] at ht2; cases ht2
        | some u =>
          rw [if_pos ⟨ht1, by rw [read_new hs]; rfl⟩]
          (repeat' split at hr) <;> simp_all
      · cases hr
    · cases hr
  | _ => simp [cls] at hc
theorem cls_new {rec : Task → St → Option Res} {base : Nat} {ρ : Env} {s s' : St} {v : V} {o : Op'} (hc : cls o = 3) (hr : ropF rec base ρ s o = some (v, s')) : ∃ h z, s' = s.new h z := by
  cases o with
  | alloc h z => simp only [ropF, evOp, Option.some.injEq, Prod.mk.injEq] at hr; exact ⟨_, _, hr.2.symm⟩
  | box h x =>
    simp only [ropF, evOp] at hr
    split at hr
    · simp only [Option.some.injEq, Prod.mk.injEq] at hr; exact ⟨_, _, hr.2.symm⟩
    · cases hr
  | bsl h r e z n ps =>
    simp only [ropF, evOp] at hr
    split at hr
    · split at hr
      · simp only [Option.some.injEq, Prod.mk.injEq] at hr; exact ⟨_, _, hr.2.symm⟩
      · cases hr
    · cases hr
  | _ => simp [cls] at hc

/-! ### Two operations that may change places -/
def usesT (o : Op) : List Nat := (match o.guard with | some (t, _) => [t] | none => []) ++ (opdsOf o.op).filterMap fun | .t n => some n | .k _ => none
def clear (d : Option Nat) (o : Op) : Bool := match d with
  | none => true
  | some d => !(usesT o).contains d
def apartB (y x : Op) : Bool := clear x.dst y && clear y.dst x && (match x.dst, y.dst with | some d, some d' => decide (d ≠ d') | _, _ => true)
/-- A new local. -/
def isNewL : Op' → Bool
  | .alloc h _ => !h
  | .box h _ => !h
  | .bsl h .. => !h
  | _ => false
theorem isNewL_new {rec : Task → St → Option Res} {base : Nat} {ρ : Env} {s s' : St} {v : V} {o : Op'} (hc : isNewL o = true) (hr : ropF rec base ρ s o = some (v, s')) : ∃ z, s' = s.new false z := by
  cases o with
  | alloc h z =>
    simp only [isNewL, Bool.not_eq_true'] at hc
    subst hc
    simp only [ropF, evOp, Option.some.injEq, Prod.mk.injEq] at hr; exact ⟨_, hr.2.symm⟩
  | box h x =>
    simp only [isNewL, Bool.not_eq_true'] at hc
    subst hc
    simp only [ropF, evOp] at hr
    split at hr
    · simp only [Option.some.injEq, Prod.mk.injEq] at hr; exact ⟨_, hr.2.symm⟩
    · cases hr
  | bsl h r e z n ps =>
    simp only [isNewL, Bool.not_eq_true'] at hc
    subst hc
    simp only [ropF, evOp] at hr
    split at hr
    · split at hr
      · simp only [Option.some.injEq, Prod.mk.injEq] at hr; exact ⟨_, hr.2.symm⟩
      · cases hr
    · cases hr
  | _ => cases hc
theorem pOk_new {base k : Nat} {as : List V} {s : St} {z : V} (h : pOk base k as s = true) : pOk base k as (s.new false z) = true ∧ (s.new false z).cut k = s.cut k := by
  simp only [pOk, Bool.and_eq_true, decide_eq_true_eq] at h ⊢
  obtain ⟨h1, h2, h3, h4⟩ := h
  have e : (s.new false z).loc.take k = s.loc.take k := by
    simp only [St.new, Bool.false_eq_true, if_false]
    rw [List.take_append_of_le_length h3]
  refine ⟨⟨h1, h2, ?_, ?_⟩, ?_⟩
  · simp only [St.new, Bool.false_eq_true, if_false, List.length_append]; omega
  · rw [e]; exact h4
  · simp only [St.cut, e]
    simp [St.new]
theorem cls_pcall {rec : Task → St → Option Res} {base : Nat} {ρ : Env} {s s' : St} {v z : V} {o : Op'} (hc : cls o = 2) (hr : ropF rec base ρ s o = some (v, s')) : ropF rec base ρ (s.new false z) o = some (v, s.new false z) := by
  cases o with
  | pcall f args =>
    simp only [ropF] at hr ⊢
    cases hf : f.ev ρ with
    | fn g caps =>
      rw [hf] at hr
      simp only at hr ⊢
      generalize hk : pcut base (args.map (Opd.ev ρ) ++ caps) = k at *
      by_cases hp : pOk base k (args.map (Opd.ev ρ) ++ caps) s = true
      · rw [if_pos hp] at hr
        obtain ⟨h1, h2⟩ := pOk_new (z := z) hp
        rw [if_pos h1, h2]
        split at hr
        · split at hr
          · rename_i h3 h4
            simp only [Option.some.injEq, Prod.mk.injEq] at hr
            rw [if_pos h4, hr.1]
          · cases hr
        · cases hr
      · rw [if_neg hp] at hr; cases hr
    | _ => rw [hf] at hr; cases hr
  | _ => simp [cls] at hc
def Opd.same : Opd → Opd → Bool
  | .t a, .t b => decide (a = b)
  | _, _ => false
theorem same_eq {x y : Opd} (h : x.same y = true) : x = y := by
  cases x with
  | k _ => simp [Opd.same] at h
  | t a => cases y with
    | k _ => simp [Opd.same] at h
    | t b => simp only [Opd.same, decide_eq_true_eq] at h; rw [h]
/-- A look, and a store that is held to lead elsewhere. -/
def awayB : Op' → Op' → Bool
  | .ld _ a, .sta _ _ _ l => l.any (a.same ·)
  | .lda _ _ r, .sta _ _ _ l => l.any (r.same ·)
  | _, _ => false
/-- A call ahead of which there is something, and a slice of that. -/
def thereB : Op' → Op' → Bool
  | .callw _ _ w, .slarr _ _ _ x _ _ _ => w.same x
  | _, _ => false
def commB (y x : Op) : Bool := apartB y x && (awayB y.op x.op || thereB y.op x.op || decide (cls y.op = 0) || decide (cls x.op = 0) || (decide (cls y.op ≤ 2) && decide (cls x.op ≤ 2)) || (decide (cls y.op = 1) && decide (cls x.op = 3)) || (decide (cls y.op = 2) && isNewL x.op))

section comm
variable {rec : Task → St → Option Res} {base : Nat} {ρ ρ' : Env} {s s' : St} {v : V} {o : Op}

theorem valO_congr (h : ∀ t ∈ usesT o, get ρ t = get ρ' t) : valO rec base o ρ s = valO rec base o ρ' s := by
  unfold valO
  have hg : guardOk o.guard ρ = guardOk o.guard ρ' := by
    cases hg : o.guard with
    | none => rfl
    | some x =>
      obtain ⟨t, b⟩ := x
      simp only [guardOk, h t (by simp [usesT, hg])]
  rw [hg, ropF_congr (ρ' := ρ') fun x hx => ?_]
  cases x with
  | k v => rfl
  | t n => exact h n (by simp only [usesT, List.mem_append, List.mem_filterMap]; exact .inr ⟨_, hx, rfl⟩)
theorem valO_put {d : Option Nat} (h : clear d o = true) : valO rec base o (put d v ρ) s = valO rec base o ρ s := by
  refine valO_congr fun t ht => ?_
  cases d with
  | none => rfl
  | some d =>
    simp only [put, get]
    rw [if_neg]
    rintro rfl
    simp only [clear, Bool.not_eq_true', List.contains_eq_mem, decide_eq_false_iff_not] at h
    exact h ht
theorem valO_reg (hc : cls o.op = 0) (s2 : St) : valO rec base o ρ s2 = (valO rec base o ρ s).map fun x => (x.1, s2) := by
  unfold valO
  split
  · rfl
  · rfl
  · exact cls_reg hc s2
theorem valO_quiet (hc : cls o.op ≤ 2) (h : valO rec base o ρ s = some (v, s')) : s' = s := by
  unfold valO at h
  split at h
  · cases h
  · simp only [Option.some.injEq, Prod.mk.injEq] at h; exact h.2.symm
  · exact cls_quiet hc h
theorem valO_look {h : Bool} {z : V} (hc : cls o.op = 1) (hr : valO rec base o ρ s = some (v, s')) : valO rec base o ρ (s.new h z) = some (v, s.new h z) := by
  unfold valO at *
  split at hr
  · cases hr
  · simp only [Option.some.injEq, Prod.mk.injEq] at hr; rw [hr.1]
  · exact cls_look hc hr
theorem valO_new (hc : cls o.op = 3) (hr : valO rec base o ρ s = some (v, s')) : s' = s ∨ ∃ h z, s' = s.new h z := by
  unfold valO at *
  split at hr
  · cases hr
  · simp only [Option.some.injEq, Prod.mk.injEq] at hr; exact .inl hr.2.symm
  · exact .inr (cls_new hc hr)

theorem valO_newL (hc : isNewL o.op = true) (hr : valO rec base o ρ s = some (v, s')) : s' = s ∨ ∃ z, s' = s.new false z := by
  unfold valO at *
  split at hr
  · cases hr
  · simp only [Option.some.injEq, Prod.mk.injEq] at hr; exact .inl hr.2.symm
  · exact .inr (isNewL_new hc hr)
theorem valO_pcall {z : V} (hc : cls o.op = 2) (hr : valO rec base o ρ s = some (v, s')) : valO rec base o ρ (s.new false z) = some (v, s.new false z) := by
  unfold valO at *
  split at hr
  · cases hr
  · simp only [Option.some.injEq, Prod.mk.injEq] at hr; rw [hr.1]
  · exact cls_pcall hc hr
theorem at_set_ne {s : St} {a b : Loc} (h : b ≠ a) (x : Blk) : (s.set a x).at b = s.at b := by
  cases a with
  | loc i => cases b with
    | loc j => simp only [St.set, St.at]; rw [List.getElem?_set_ne (by rintro rfl; exact h rfl)]
    | hp j => rfl
  | hp i => cases b with
    | loc j => rfl
    | hp j => simp only [St.set, St.at]; rw [List.getElem?_set_ne (by rintro rfl; exact h rfl)]
theorem read_write_ne {base : Nat} {s s' : St} {a b : Loc} {p q : List Nat} {x : V} (hw : s.write base a p x = some s') (h : b ≠ a) : s'.read b q = s.read b q := by
  unfold St.write at hw
  split at hw
  · split at hw
    · split at hw
      · simp only [Option.some.injEq] at hw
        subst hw
        unfold St.read
        rw [at_set_ne h]
      · cases hw
    · cases hw
  · cases hw
theorem away {y x : Op} {vy vx : V} {sy sx : St} (h : awayB y.op x.op = true) (hvy : valO rec base y ρ s = some (vy, sy)) (hvx : valO rec base x ρ sy = some (vx, sx)) : ∃ s1, valO rec base x ρ s = some (vx, s1) ∧ valO rec base y ρ s1 = some (vy, sx) := by
  obtain ⟨dy, gy, oy⟩ := y
  obtain ⟨dx, gx, ox⟩ := x
  simp only at h
  cases oy with
  | ld ty a =>
    cases ox with
    | sta tx p z l =>
      have h1 := valO_quiet (by simp [cls]) hvy
      subst h1
      refine ⟨sx, hvx, ?_⟩
      simp only [valO] at hvy hvx ⊢
      split at hvx
      · cases hvx
      · simp only [Option.some.injEq, Prod.mk.injEq] at hvx
        rw [← hvx.2]; exact hvy
      · split at hvy
        · cases hvy
        · simp only [Option.some.injEq, Prod.mk.injEq] at hvy ⊢
          exact ⟨hvy.1, trivial⟩
        · simp only [ropF, evOp] at hvx hvy ⊢
          split at hvx
          · rename_i hall
            simp only [awayB, List.any_eq_true] at h
            obtain ⟨b, hb, hab⟩ := h
            have hne := (List.all_eq_true.1 hall) b hb
            rw [← same_eq hab] at hne
            split at hvx
            · rename_i l1 q1 t1 hp
              rw [hp] at hne
              split at hvx
              · split at hvx
                · rename_i s2 hwr
                  simp only [Option.some.injEq, Prod.mk.injEq] at hvx
                  obtain ⟨_, rfl⟩ := hvx
                  split at hvy
                  · rename_i l2 q2 t2 ha
                    rw [ha] at hne
                    simp only [locNe, decide_eq_true_eq] at hne
                    split at hvy
                    · rename_i ht
                      rw [if_pos ht, read_write_ne hwr hne]
                      split at hvy
                      · simp only [Option.some.injEq, Prod.mk.injEq] at hvy
                        rw [hvy.1]
                      · cases hvy
                    · cases hvy
                  · cases hvy
                · cases hvx
              · cases hvx
            · cases hvx
          · cases hvx
    | _ => simp [awayB] at h
  | lda ty a r =>
    cases ox with
    | sta tx p z l =>
      have h1 := valO_quiet (by simp [cls]) hvy
      subst h1
      refine ⟨sx, hvx, ?_⟩
      simp only [valO] at hvy hvx ⊢
      split at hvx
      · cases hvx
      · simp only [Option.some.injEq, Prod.mk.injEq] at hvx
        rw [← hvx.2]; exact hvy
      · split at hvy
        · cases hvy
        · simp only [Option.some.injEq, Prod.mk.injEq] at hvy ⊢
          exact ⟨hvy.1, trivial⟩
        · simp only [ropF, evOp] at hvx hvy ⊢
          split at hvx
          · rename_i hall
            simp only [awayB, List.any_eq_true] at h
            obtain ⟨b, hb, hab⟩ := h
            have hne := (List.all_eq_true.1 hall) b hb
            rw [← same_eq hab] at hne
            split at hvx
            · rename_i l1 q1 t1 hp
              rw [hp] at hne
              split at hvx
              · split at hvx
                · rename_i s2 hwr
                  simp only [Option.some.injEq, Prod.mk.injEq] at hvx
                  obtain ⟨_, rfl⟩ := hvx
                  split at hvy
                  · rename_i hle
                    rw [if_pos hle]
                    split at hvy
                    · rename_i l2 q2 t2 ha
                      rw [ha] at hle
                      cases hr : r.ev ρ with
                      | ptr l3 q3 t3 =>
                        rw [hr] at hne hle
                        simp only [locNe, locEq, decide_eq_true_eq] at hne hle
                        subst hle
                        split at hvy
                        · rename_i ht
                          rw [if_pos ht, read_write_ne hwr hne]
                          split at hvy
                          · simp only [Option.some.injEq, Prod.mk.injEq] at hvy
                            rw [hvy.1]
                          · cases hvy
                        · cases hvy
                      | _ => rw [hr] at hle; cases hle
                    · cases hvy
                  · cases hvy
                · cases hvx
              · cases hvx
            · cases hvx
          · cases hvx
    | _ => simp [awayB] at h
  | _ => simp [awayB] at h
theorem there {y x : Op} {vy vx : V} {sy sx : St} (h : thereB y.op x.op = true) (hvy : valO rec base y ρ s = some (vy, sy)) (hvx : valO rec base x ρ sy = some (vx, sx)) : ∃ s1, valO rec base x ρ s = some (vx, s1) ∧ valO rec base y ρ s1 = some (vy, sx) := by
  obtain ⟨dy, gy, oy⟩ := y
  obtain ⟨dx, gx, ox⟩ := x
  simp only at h
  cases oy with
  | callw f l w =>
    cases ox with
    | slarr t n e z lo hi mx =>
      have h1 := valO_quiet (by simp [cls]) hvx
      subst h1
      refine ⟨s, ?_, hvy⟩
      simp only [valO] at hvy hvx ⊢
      split at hvx
      · cases hvx
      · simp only [Option.some.injEq, Prod.mk.injEq] at hvx ⊢
        exact ⟨hvx.1, trivial⟩
      · split at hvy
        · cases hvy
        · simp only [Option.some.injEq, Prod.mk.injEq] at hvy
          rw [hvy.2] at *
          rw [hvx]
        · simp only [ropF] at hvy
          split at hvy
          · rename_i hlive
            simp only [thereB] at h
            rw [same_eq h] at hlive
            simp only [ropF, evOp] at hvx ⊢
            split at hvx
            · rename_i a q t' hz
              rw [hz] at hlive
              simp only [live] at hlive
              split at hvx
              · rename_i ht
                rw [if_pos ⟨ht.1, hlive⟩]
                split at hvx
                · cases hvx
                · rename_i m hm1
                  split at hvx
                  · cases hvx
                  · rename_i hh hm2
                    split at hvx
                    · cases hvx
                    · rename_i ll hm3
                      simp only [Option.some.injEq, Prod.mk.injEq] at hvx
                      rw [hvx.1]
              · cases hvx
            · cases hvx
          · cases hvy
    | _ => simp [thereB] at h
  | _ => simp [thereB] at h
theorem Same.refl (ρ : Env) : Same ρ ρ := fun _ => rfl
theorem Same.trans {ρ ρ' ρ'' : Env} (h : Same ρ ρ') (h' : Same ρ' ρ'') : Same ρ ρ'' := fun t => (h t).trans (h' t)
theorem Same.symm {ρ ρ' : Env} (h : Same ρ ρ') : Same ρ' ρ := fun t => (h t).symm

theorem step_same {o : Op} {x x' : Env × St} (h : Same x.1 x'.1) (hs : x.2 = x'.2) {y : Env × St} (hy : stepO rec base o x = some y) : ∃ y', stepO rec base o x' = some y' ∧ Same y.1 y'.1 ∧ y.2 = y'.2 := by
  unfold stepO at *
  rw [← valO_congr (ρ := x.1) (fun t _ => h t), ← hs]
  cases hv : valO rec base o x.1 x.2 with
  | none => rw [hv] at hy; cases hy
  | some q =>
    rw [hv] at hy
    simp only [Option.some.injEq] at hy
    subst hy
    exact ⟨_, rfl, h.put _ _, rfl⟩
theorem evl_same : ∀ {l : List Op} {x x' : Env × St}, Same x.1 x'.1 → x.2 = x'.2 → ∀ {y : Env × St}, evl rec base l x = some y → ∃ y', evl rec base l x' = some y' ∧ Same y.1 y'.1 ∧ y.2 = y'.2
  | [], x, x', h, hs, y, hy => by
    simp only [evl, Option.some.injEq] at hy
    subst hy
    exact ⟨x', rfl, h, hs⟩
  | o :: l, x, x', h, hs, y, hy => by
    simp only [evl] at hy ⊢
    cases hq : stepO rec base o x with
    | none => rw [hq] at hy; cases hy
    | some q =>
      rw [hq] at hy
      obtain ⟨q', hq', h1, h2⟩ := step_same h hs hq
      rw [hq']
      exact evl_same h1 h2 hy

theorem comm {y x : Op} (hc : commB y x = true) {p p1 p2 : Env × St} (hy : stepO rec base y p = some p1) (hx : stepO rec base x p1 = some p2) :
    ∃ q1 q2, stepO rec base x p = some q1 ∧ stepO rec base y q1 = some q2 ∧ Same p2.1 q2.1 ∧ p2.2 = q2.2 := by
  obtain ⟨ρ, s⟩ := p
  simp only [commB, apartB, Bool.and_eq_true, Bool.or_eq_true, decide_eq_true_eq] at hc
  obtain ⟨⟨⟨ha, hb⟩, hd⟩, hcl⟩ := hc
  unfold stepO at hy hx
  cases hvy : valO rec base y ρ s with
  | none => rw [hvy] at hy; cases hy
  | some q =>
    obtain ⟨vy, sy⟩ := q
    rw [hvy] at hy
    simp only [Option.some.injEq] at hy
    subst hy
    rw [valO_put hb] at hx
    cases hvx : valO rec base x ρ sy with
    | none => rw [hvx] at hx; cases hx
    | some q =>
      obtain ⟨vx, sx⟩ := q
      rw [hvx] at hx
      simp only [Option.some.injEq] at hx
      subst hx
      -- what is to be shown of the values
      have key : ∃ s1, valO rec base x ρ s = some (vx, s1) ∧ valO rec base y ρ s1 = some (vy, sx) := by
        rcases hcl with (((((h | h) | h) | h) | h) | h) | h
        · exact away h hvy hvx
        · exact there h hvy hvx
        · have h1 := valO_quiet (by omega) hvy
          subst h1
          refine ⟨sx, hvx, ?_⟩
          rw [valO_reg (s := sy) h sx, hvy]; rfl
        · have h1 := valO_quiet (by omega) hvx
          subst h1
          refine ⟨s, ?_, hvy⟩
          rw [valO_reg (s := sx) h s, hvx]; rfl
        · have h1 := valO_quiet h.1 hvy
          subst h1
          have h2 := valO_quiet h.2 hvx
          subst h2
          exact ⟨_, hvx, hvy⟩
        · have h1 := valO_quiet (by omega) hvy
          subst h1
          refine ⟨sx, hvx, ?_⟩
          rcases valO_new h.2 hvx with h2 | ⟨hh, z, h2⟩
          · subst h2; exact hvy
          · subst h2; exact valO_look h.1 hvy
        · have h1 := valO_quiet (by omega) hvy
          subst h1
          refine ⟨sx, hvx, ?_⟩
          rcases valO_newL h.2 hvx with h2 | ⟨z, h2⟩
          · subst h2; exact hvy
          · subst h2; exact valO_pcall h.1 hvy
      obtain ⟨s1, k1, k2⟩ := key
      refine ⟨(put x.dst vx ρ, s1), (put y.dst vy (put x.dst vx ρ), sx), ?_, ?_, ?_, rfl⟩
      · simp only [stepO, k1]
      · simp only [stepO, valO_put ha, k2]
      · intro t
        cases hx : x.dst with
        | none => rfl
        | some d =>
          cases hy : y.dst with
          | none => rfl
          | some d' =>
            rw [hx, hy] at hd
            simp only [ne_eq, decide_eq_true_eq] at hd
            simp only [put, get]
            split
            · rename_i e; subst e; rw [if_neg (fun e => hd e.symm)]
            · rfl

/-- An operation, done ahead of those that the text puts before it. -/
theorem bubble {x : Op} : ∀ {l1 l2 : List Op} {p r : Env × St}, (∀ y ∈ l1, commB y x = true) → evl rec base (l1 ++ x :: l2) p = some r → ∃ q r', stepO rec base x p = some q ∧ evl rec base (l1 ++ l2) q = some r' ∧ Same r.1 r'.1 ∧ r.2 = r'.2
  | [], l2, p, r, _, h => by
    simp only [List.nil_append, evl] at h ⊢
    cases hq : stepO rec base x p with
    | none => rw [hq] at h; cases h
    | some q => rw [hq] at h; exact ⟨q, r, rfl, h, .refl _, rfl⟩
  | y :: l1, l2, p, r, hc, h => by
    simp only [List.cons_append, evl] at h
    cases hy : stepO rec base y p with
    | none => rw [hy] at h; cases h
    | some p1 =>
      rw [hy] at h
      obtain ⟨q, r', h1, h2, h3, h4⟩ := bubble (fun z hz => hc z (List.mem_cons_of_mem _ hz)) h
      obtain ⟨q1, q2, k1, k2, k3, k4⟩ := comm (hc y List.mem_cons_self) hy h1
      obtain ⟨r2, m1, m2, m3⟩ := evl_same k3 k4 h2
      exact ⟨q1, r2, k1, by simp only [List.cons_append, evl, k2]; exact m1, h3.trans m2, h4.trans m3⟩
end comm
end Go.Ab
