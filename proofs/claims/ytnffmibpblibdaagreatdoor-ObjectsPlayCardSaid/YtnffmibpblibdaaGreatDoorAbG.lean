/-
  YtnffmibpblibdaaGreatDoorAbG: an abstract semantics of the program's code, and that what it tells holds of the program (part G).
-/
import Derived.Test.YtnffmibpblibdaaGreatDoorAbA
import Derived.Attr
import Derived.KernelRfl
set_option maxRecDepth 100000
namespace Go.Ab
variable {D : Nat → Option Fc}
theorem oj {f g : bW → St → Option Res} (h : ∀ t s r, f t s = some r → g t s = some r) {base : Nat} {ρ : Env} {s : St} {o : Op'} {q : V × St} (hq : aq f base ρ s o = some q) : aq g base ρ s o = some q := by
 cases o with
 | call fo args =>
  simp only [aq] at hq ⊢;cases hx : fo.ev ρ with
  | fn k caps =>
   simp only [hx] at hq;cases hf : f (.f k (args.map (Opd.ev ρ) ++ caps)) s with
   | none => rw [hf] at hq; cases hq
   | some x => rw [hf] at hq; simp only [h _ _ _ hf]; exact hq
  | _ => rw [hx] at hq; cases hq
 | pcall fo args =>
  simp only [aq] at hq ⊢;cases hx : fo.ev ρ with
  | fn k caps =>
   simp only [hx] at hq;by_cases hp : pOk base (aV base (args.map (Opd.ev ρ) ++ caps)) (args.map (Opd.ev ρ) ++ caps) s = true
   ·rw [if_pos hp] at hq;simp only [if_pos hp];cases hf : f (.f k (args.map (Opd.ev ρ) ++ caps)) (s.cut (aV base (args.map (Opd.ev ρ) ++ caps))) with
    | none => rw [hf] at hq; cases hq
    | some x => rw [hf] at hq; simp only [h _ _ _ hf]; exact hq
   ·rw [if_neg hp] at hq; cases hq
  | _ => rw [hx] at hq; cases hq
 | callw fo args w =>
  simp only [aq] at hq ⊢;split at hq
  ·rename_i hw;rw [if_pos hw];cases hx : fo.ev ρ with
   | fn k caps =>
    simp only [hx] at hq;cases hf : f (.f k (args.map (Opd.ev ρ) ++ caps)) s with
    | none => rw [hf] at hq; cases hq
    | some x => rw [hf] at hq; simp only [h _ _ _ hf]; exact hq
   | _ => rw [hx] at hq; cases hq
  ·cases hq
 | callk p fo args =>
  simp only [aq] at hq ⊢;cases hx : fo.ev ρ with
  | fn k caps =>
   simp only [hx] at hq;by_cases hp : pOk base (aV base (args.map (Opd.ev ρ) ++ caps)) (args.map (Opd.ev ρ) ++ caps) s = true
   ·rw [if_pos hp] at hq;simp only [if_pos hp];cases hf : f (.f k (args.map (Opd.ev ρ) ++ caps)) (s.cut (aV base (args.map (Opd.ev ρ) ++ caps))) with
    | none => rw [hf] at hq; cases hq
    | some x => rw [hf] at hq; simp only [h _ _ _ hf]; exact hq
   ·rw [if_neg hp] at hq; cases hq
  | _ => rw [hx] at hq; cases hq
 | _ => exact hq
theorem vM {f g : bW → St → Option Res} (h : ∀ t s r, f t s = some r → g t s = some r) {t : bW} {s : St} {r : Res} (hr : step D f t s = some r) : step D g t s = some r := by
 cases t with
 | c base c ρ =>
  cases c with
  | skip => exact hr
  | label _ => exact hr
  | ret => exact hr
  | exit _ => exact hr
  | reg keep ops =>
   simp only [step] at hr ⊢;cases hf : f (.o base ops ρ) s with
   | none => rw [hf] at hr; cases hr
   | some x => rw [hf] at hr; rw [h _ _ _ hf]; exact hr
  | regd keep ops =>
   simp only [step] at hr ⊢;cases hf : f (.o base ops ρ) s with
   | none => rw [hf] at hr; cases hr
   | some x => rw [hf] at hr; rw [h _ _ _ hf]; exact hr
  | seq a b =>
   simp only [step] at hr ⊢;cases hf : f (.c base a ρ) s with
   | none => rw [hf] at hr; cases hr
   | some x =>
    rw [hf] at hr; rw [h _ _ _ hf];cases x with
    | c e ρ' s' => cases e <;> first | exact h _ _ _ hr | exact hr
    | o _ _ => cases hr
    | v _ _ => cases hr
  | cond x a b =>
   simp only [step] at hr ⊢;cases hx : x.ev ρ with
   | bool t =>
    rw [hx] at hr;cases t
    ·exact h _ _ _ hr
    ·exact h _ _ _ hr
   | _ => rw [hx] at hr; cases hr
  | block id b =>
   simp only [step] at hr ⊢;cases hf : f (.c base b ρ) s with
   | none => rw [hf] at hr; cases hr
   | some x => rw [hf] at hr; rw [h _ _ _ hf]; exact hr
  | scope b =>
   simp only [step] at hr ⊢;cases hf : f (.c base b ρ) s with
   | none => rw [hf] at hr; cases hr
   | some x => rw [hf] at hr; rw [h _ _ _ hf]; exact hr
  | loop keep b =>
   simp only [step] at hr ⊢;cases hf : f (.c base b (restrict keep ρ)) s with
   | none => rw [hf] at hr; cases hr
   | some x =>
    rw [hf] at hr; rw [h _ _ _ hf];cases x with
    | c e ρ' s' =>
     cases e with
     | normal =>
      simp only at hr ⊢;split at hr
      ·rename_i hc; rw [if_pos hc]; exact h _ _ _ hr
      ·cases hr
     | exit _ => exact hr
     | ret => exact hr
    | o _ _ => cases hr
    | v _ _ => cases hr
 | o base l ρ =>
  cases l with
  | nil => exact hr
  | cons op rest =>
   simp only [step] at hr ⊢;cases hg : aO op.guard ρ with
   | none => rw [hg] at hr; cases hr
   | some gb =>
    rw [hg] at hr;cases gb with
    | false => exact h _ _ _ hr
    | true =>
     cases hq : aq f base ρ s op.op with
     | none => simp only [hq] at hr; cases hr
     | some q =>
      simp only [hq] at hr;simp only [oj h hq];exact h _ _ _ hr
 | f fn args =>
  simp only [step] at hr ⊢;cases hfc : D fn with
  | none => rw [hfc] at hr; cases hr
  | some fc =>
   rw [hfc] at hr;simp only at hr ⊢;by_cases hlen : args.length = fc.n
   ·rw [if_pos hlen] at hr ⊢;cases hf : f (.c s.loc.length fc.body (fR 0 args)) s with
    | none => rw [hf] at hr; cases hr
    | some x => rw [hf] at hr; rw [h _ _ _ hf]; exact hr
   ·rw [if_neg hlen] at hr; cases hr
theorem jV : ∀ (n : Nat) {t : bW} {s : St} {r : Res}, ev D n t s = some r → ev D (n + 1) t s = some r
 | 0, _, _, _, h => by cases h
 | n + 1, _, _, _, h => vM (fun _ _ _ h => jV n h) h
theorem oc {n m : Nat} (hnm : n ≤ m) {t : bW} {s : St} {r : Res} (h : ev D n t s = some r) : ev D m t s = some r := by
 induction hnm with
 | refl => exact h
 | step _ ih => exact jV _ ih
open Classical in
noncomputable def run (D : Nat → Option Fc) (t : bW) (s : St) : Option Res :=
 if h : ∃ n r, ev D n t s = some r then some h.choose_spec.choose else none
theorem cG {t : bW} {s : St} {r : Res} : run D t s = some r ↔ ∃ n, ev D n t s = some r := by
 unfold run;constructor
 ·intro h;split at h
  ·rename_i hx;cases h;exact ⟨_, hx.choose_spec.choose_spec⟩
  ·cases h
 ·rintro ⟨n, hn⟩;have hx : ∃ n r, ev D n t s = some r := ⟨n, r, hn⟩;rw [dif_pos hx];have h1 := hx.choose_spec.choose_spec;have h2 := oc (Nat.le_max_left hx.choose n) h1;have h3 := oc (Nat.le_max_right hx.choose n) hn;rw [h2] at h3;exact h3
theorem oe {n : Nat} {t : bW} {s : St} {r : Res} (h : ev D n t s = some r) : run D t s = some r := cG.2 ⟨n, h⟩
theorem G0 {base : Nat} {ρ : Env} {s : St} {o : Op'} {q : V × St} (hq : aq (run D) base ρ s o = some q) : ∃ n, aq (ev D n) base ρ s o = some q := by
 cases o with
 | call fo args =>
  simp only [aq] at hq ⊢;cases hx : fo.ev ρ with
  | fn k caps =>
   simp only [hx] at hq;cases hf : run D (.f k (args.map (Opd.ev ρ) ++ caps)) s with
   | none => rw [hf] at hq; cases hq
   | some x => rw [hf] at hq; obtain ⟨n, hn⟩ := cG.1 hf; exact ⟨n, by simp only [hn]; exact hq⟩
  | _ => rw [hx] at hq; cases hq
 | pcall fo args =>
  simp only [aq] at hq ⊢;cases hx : fo.ev ρ with
  | fn k caps =>
   simp only [hx] at hq;by_cases hp : pOk base (aV base (args.map (Opd.ev ρ) ++ caps)) (args.map (Opd.ev ρ) ++ caps) s = true
   ·rw [if_pos hp] at hq;simp only [if_pos hp];cases hf : run D (.f k (args.map (Opd.ev ρ) ++ caps)) (s.cut (aV base (args.map (Opd.ev ρ) ++ caps))) with
    | none => rw [hf] at hq; cases hq
    | some x => rw [hf] at hq; obtain ⟨n, hn⟩ := cG.1 hf; exact ⟨n, by simp only [hn]; exact hq⟩
   ·rw [if_neg hp] at hq; cases hq
  | _ => rw [hx] at hq; cases hq
 | callw fo args w =>
  simp only [aq] at hq ⊢;split at hq
  ·rename_i hw;simp only [if_pos hw];cases hx : fo.ev ρ with
   | fn k caps =>
    simp only [hx] at hq;cases hf : run D (.f k (args.map (Opd.ev ρ) ++ caps)) s with
    | none => rw [hf] at hq; cases hq
    | some x => rw [hf] at hq; obtain ⟨n, hn⟩ := cG.1 hf; exact ⟨n, by simp only [hn]; exact hq⟩
   | _ => rw [hx] at hq; cases hq
  ·cases hq
 | callk p fo args =>
  simp only [aq] at hq ⊢;cases hx : fo.ev ρ with
  | fn k caps =>
   simp only [hx] at hq;by_cases hp : pOk base (aV base (args.map (Opd.ev ρ) ++ caps)) (args.map (Opd.ev ρ) ++ caps) s = true
   ·rw [if_pos hp] at hq;simp only [if_pos hp];cases hf : run D (.f k (args.map (Opd.ev ρ) ++ caps)) (s.cut (aV base (args.map (Opd.ev ρ) ++ caps))) with
    | none => rw [hf] at hq; cases hq
    | some x => rw [hf] at hq; obtain ⟨n, hn⟩ := cG.1 hf; exact ⟨n, by simp only [hn]; exact hq⟩
   ·rw [if_neg hp] at hq; cases hq
  | _ => rw [hx] at hq; cases hq
 | _ => exact ⟨0, hq⟩
theorem Hf {t : bW} {s : St} {r : Res} (hr : step D (run D) t s = some r) : ∃ n, step D (ev D n) t s = some r := by
 cases t with
 | c base c ρ =>
  cases c with
  | skip => exact ⟨0, hr⟩
  | label _ => exact ⟨0, hr⟩
  | ret => exact ⟨0, hr⟩
  | exit _ => exact ⟨0, hr⟩
  | reg keep ops =>
   simp only [step] at hr ⊢;cases hf : run D (.o base ops ρ) s with
   | none => rw [hf] at hr; cases hr
   | some x => rw [hf] at hr; obtain ⟨n, hn⟩ := cG.1 hf; exact ⟨n, by rw [hn]; exact hr⟩
  | regd keep ops =>
   simp only [step] at hr ⊢;cases hf : run D (.o base ops ρ) s with
   | none => rw [hf] at hr; cases hr
   | some x => rw [hf] at hr; obtain ⟨n, hn⟩ := cG.1 hf; exact ⟨n, by rw [hn]; exact hr⟩
  | seq a b =>
   simp only [step] at hr ⊢;cases hf : run D (.c base a ρ) s with
   | none => rw [hf] at hr; cases hr
   | some x =>
    rw [hf] at hr; obtain ⟨n, hn⟩ := cG.1 hf;cases x with
    | c e ρ' s' =>
     cases e with
     | normal =>
      obtain ⟨m, hm⟩ := cG.1 hr;exact ⟨max n m, by rw [oc (Nat.le_max_left n m) hn]; exact oc (Nat.le_max_right n m) hm⟩
     | exit _ => exact ⟨n, by rw [hn]; exact hr⟩
     | ret => exact ⟨n, by rw [hn]; exact hr⟩
    | o _ _ => cases hr
    | v _ _ => cases hr
  | cond x a b =>
   simp only [step] at hr ⊢;cases hx : x.ev ρ with
   | bool t =>
    rw [hx] at hr;cases t
    ·obtain ⟨n, hn⟩ := cG.1 hr;exact ⟨n, hn⟩
    ·obtain ⟨n, hn⟩ := cG.1 hr;exact ⟨n, hn⟩
   | _ => rw [hx] at hr; cases hr
  | block id b =>
   simp only [step] at hr ⊢;cases hf : run D (.c base b ρ) s with
   | none => rw [hf] at hr; cases hr
   | some x => rw [hf] at hr; obtain ⟨n, hn⟩ := cG.1 hf; exact ⟨n, by rw [hn]; exact hr⟩
  | scope b =>
   simp only [step] at hr ⊢;cases hf : run D (.c base b ρ) s with
   | none => rw [hf] at hr; cases hr
   | some x => rw [hf] at hr; obtain ⟨n, hn⟩ := cG.1 hf; exact ⟨n, by rw [hn]; exact hr⟩
  | loop keep b =>
   simp only [step] at hr ⊢;cases hf : run D (.c base b (restrict keep ρ)) s with
   | none => rw [hf] at hr; cases hr
   | some x =>
    rw [hf] at hr; obtain ⟨n, hn⟩ := cG.1 hf;cases x with
    | c e ρ' s' =>
     cases e with
     | normal =>
      simp only at hr;split at hr
      ·rename_i hc;obtain ⟨m, hm⟩ := cG.1 hr;exact ⟨max n m, by rw [oc (Nat.le_max_left n m) hn]; simp only; rw [if_pos hc]; exact oc (Nat.le_max_right n m) hm⟩
      ·cases hr
     | exit _ => exact ⟨n, by rw [hn]; exact hr⟩
     | ret => exact ⟨n, by rw [hn]; exact hr⟩
    | o _ _ => cases hr
    | v _ _ => cases hr
 | o base l ρ =>
  cases l with
  | nil => exact ⟨0, hr⟩
  | cons op rest =>
   simp only [step] at hr ⊢;cases hg : aO op.guard ρ with
   | none => rw [hg] at hr; cases hr
   | some gb =>
    rw [hg] at hr;cases gb with
    | false => exact cG.1 hr
    | true =>
     cases hq : aq (run D) base ρ s op.op with
     | none => simp only [hq] at hr; cases hr
     | some q =>
      simp only [hq] at hr;obtain ⟨n, hn⟩ := G0 hq;obtain ⟨m, hm⟩ := cG.1 hr;exact ⟨max n m, by simp only [oj (fun _ _ _ h => oc (Nat.le_max_left n m) h) hn]; exact oc (Nat.le_max_right n m) hm⟩
 | f fn args =>
  simp only [step] at hr ⊢;cases hfc : D fn with
  | none => rw [hfc] at hr; cases hr
  | some fc =>
   rw [hfc] at hr;simp only at hr ⊢;by_cases hlen : args.length = fc.n
   ·simp only [if_pos hlen] at hr ⊢;cases hf : run D (.c s.loc.length fc.body (fR 0 args)) s with
    | none => rw [hf] at hr; cases hr
    | some x => rw [hf] at hr; obtain ⟨n, hn⟩ := cG.1 hf; exact ⟨n, by rw [hn]; exact hr⟩
   ·rw [if_neg hlen] at hr; cases hr
theorem ed (t : bW) (s : St) : run D t s = step D (run D) t s := by
 apply Option.ext;intro r;constructor
 ·intro h;obtain ⟨n, hn⟩ := cG.1 h;cases n with
  | zero => cases hn
  | succ n => exact vM (fun _ _ _ h => oe h) hn
 ·intro h;obtain ⟨n, hn⟩ := Hf h;exact oe (n := n + 1) hn
noncomputable def rc (D : Nat → Option Fc) (base : Nat) (c : C) (ρ : Env) (s : St) : Option (Ex × Env × St) :=
 match run D (.c base c ρ) s with
 | some (.c e ρ' s') => some (e, ρ', s')
 | _ => none
noncomputable def ro (D : Nat → Option Fc) (base : Nat) (l : List Op) (ρ : Env) (s : St) : Option (Env × St) :=
 match run D (.o base l ρ) s with
 | some (.o ρ' s') => some (ρ', s')
 | _ => none
noncomputable def rf (D : Nat → Option Fc) (f : Nat) (args : List V) (s : St) : Option (V × St) :=
 match run D (.f f args) s with
 | some (.v v s') => some (v, s')
 | _ => none
theorem xg {f : Nat} {args : List V} {s : St} {v : V} {s' : St} : rf D f args s = some (v, s') ↔ run D (.f f args) s = some (.v v s') := by
 unfold rf; constructor
 ·intro h; split at h
  ·rename_i hh; cases h; exact hh
  ·cases h
 ·intro h; rw [h]
section
variable {base : Nat} {ρ : Env} {s : St}
theorem SE : rc D base .skip ρ s = some (.normal, ρ, s) := by simp only [rc, ed, step]
theorem Gs {l : Nat} : rc D base (.label l) ρ s = some (.normal, ρ, s) := by simp only [rc, ed, step]
theorem U1 : rc D base .ret ρ s = some (.ret, ρ, s) := by simp only [rc, ed, step]
theorem Sg {id : Nat} : rc D base (.exit id) ρ s = some (.exit id, ρ, s) := by simp only [rc, ed, step]
theorem Um {keep : Option (List Nat)} {ops : List Op} : rc D base (.reg keep ops) ρ s = (ro D base ops ρ s).bind fun x => some (.normal, jU keep x.1, x.2) := by
 simp only [rc, ro]; rw [ed]; simp only [step];cases run D (.o base ops ρ) s with
 | none => rfl
 | some x => cases x <;> rfl
theorem T9 {keep : Option (List Nat)} {ops : List Op} : rc D base (.regd keep ops) ρ s = (ro D base ops ρ s).bind fun x => some (.normal, jU keep x.1, x.2) := by
 simp only [rc, ro]; rw [ed]; simp only [step];cases run D (.o base ops ρ) s with
 | none => rfl
 | some x => cases x <;> rfl
noncomputable def andThen (D : Nat → Option Fc) (base : Nat) (b : C) (x : Ex × Env × St) : Option (Ex × Env × St) :=
 match x with
 | (.normal, ρ, s) => rc D base b ρ s
 | x => some x
theorem u7 {b : C} : andThen D base b (.normal, ρ, s) = rc D base b ρ s := rfl
theorem yO {b : C} : andThen D base b (.ret, ρ, s) = some (.ret, ρ, s) := rfl
theorem xj {b : C} {id : Nat} : andThen D base b (.exit id, ρ, s) = some (.exit id, ρ, s) := rfl
theorem U0 {a b : C} : rc D base (.seq a b) ρ s = (rc D base a ρ s).bind (andThen D base b) := by
 simp only [rc]; rw [ed]; simp only [step];cases run D (.c base a ρ) s with
 | none => rfl
 | some x =>
  cases x with
  | c e ρ' s' => cases e <;> rfl
  | _ => rfl
theorem Sx {x : Opd} {a b : C} : rc D base (.cond x a b) ρ s = match x.ev ρ with
 | .bool t => if t then rc D base a ρ s else rc D base b ρ s
 | _ => none := by
 simp only [rc]; rw [ed]; simp only [step];cases x.ev ρ with
 | bool t => cases t <;> rfl
 | _ => rfl
def Lt (id : Nat) (x : Ex × Env × St) : Ex × Env × St :=
 match x with
 | (.exit id', ρ, s) => (if id' = id then .normal else .exit id', ρ, s)
 | x => x
theorem FF {id : Nat} {b : C} : rc D base (.block id b) ρ s = (rc D base b ρ s).bind fun x => some (Lt id x) := by
 simp only [rc]; rw [ed]; simp only [step];cases run D (.c base b ρ) s with
 | none => rfl
 | some x =>
  cases x with
  | c e ρ' s' => cases e <;> rfl
  | _ => rfl
theorem Gk {b : C} : rc D base (.scope b) ρ s = rc D base b ρ s := by
 simp only [rc]; rw [ed]; simp only [step];cases run D (.c base b ρ) s with
 | none => rfl
 | some x =>
  cases x with
  | c e ρ' s' => cases e <;> rfl
  | _ => rfl
noncomputable def jh (D : Nat → Option Fc) (base n : Nat) (keep : List Nat) (b : C) (x : Ex × Env × St) : Option (Ex × Env × St) :=
 match x with
 | (.normal, ρ, s) => if fK base n (restrict keep ρ) s then rc D base (.loop keep b) (restrict keep ρ) { s with loc := s.loc.take n } else none
 | x => some x
theorem wM {n : Nat} {keep : List Nat} {b : C} : jh D base n keep b (.normal, ρ, s) = if fK base n (restrict keep ρ) s then rc D base (.loop keep b) (restrict keep ρ) { s with loc := s.loc.take n } else none := rfl
theorem Eo {n : Nat} {keep : List Nat} {b : C} : jh D base n keep b (.ret, ρ, s) = some (.ret, ρ, s) := rfl
theorem AN {n : Nat} {keep : List Nat} {b : C} {id : Nat} : jh D base n keep b (.exit id, ρ, s) = some (.exit id, ρ, s) := rfl
theorem ko {ks : List Nat} {ρ : Env} {k : Nat} (h : k ∈ ks) : get (restrict ks ρ) k = get ρ k := by
 induction ks with
 | nil => cases h
 | cons j ks ih =>
  simp only [restrict, List.map_cons, get];by_cases hj : j = k
  ·rw [if_pos hj, hj]
  ·rw [if_neg hj];exact ih (by cases h with | head => exact absurd rfl hj | tail _ h => exact h)
theorem sF (ks : List Nat) (ρ : Env) : restrict ks (restrict ks ρ) = restrict ks ρ := by
 unfold restrict;apply List.map_congr_left;intro k hk;rw [show get (ks.map fun k => (k, get ρ k)) k = get ρ k from ko hk]
theorem tb {keep : List Nat} {b : C} : rc D base (.loop keep b) ρ s = (rc D base b (restrict keep ρ) s).bind fun x => match x with
 | (.normal, ρ', s') => if fK base s.loc.length (restrict keep ρ') s' then rc D base (.loop keep b) ρ' { s' with loc := s'.loc.take s.loc.length } else none
 | x => some x := by
 simp only [rc]; rw [ed]; simp only [step];cases run D (.c base b (restrict keep ρ)) s with
 | none => rfl
 | some x =>
  cases x with
  | c e ρ' s' =>
   cases e with
   | normal =>
    simp only [Option.bind_some];by_cases hc : fK base s.loc.length (restrict keep ρ') s' = true
    ·rw [if_pos hc, if_pos hc]
    ·rw [if_neg hc, if_neg hc]
   | _ => rfl
  | _ => rfl
theorem tc {keep : List Nat} {b : C} : rc D base (.loop keep b) (restrict keep ρ) s = rc D base (.loop keep b) ρ s := by
 rw [tb, tb (ρ := ρ), sF]
theorem Si {keep : List Nat} {b : C} : rc D base (.loop keep b) ρ s = (rc D base b (restrict keep ρ) s).bind (jh D base s.loc.length keep b) := by
 rw [tb];congr 1;funext x;obtain ⟨e, ρ', s'⟩ := x;cases e with
 | normal => simp only [jh, tc]
 | _ => rfl
theorem EO : ro D base [] ρ s = some (ρ, s) := by simp only [ro, ed, step]
noncomputable def rop (D : Nat → Option Fc) (base : Nat) (ρ : Env) (s : St) : Op' → Option (V × St)
 | .call f args => match f.ev ρ with
  | .fn g caps => rf D g (args.map (Opd.ev ρ) ++ caps) s
  | _ => none
 | .pcall f args => match f.ev ρ with
  | .fn g caps => if pOk base (aV base (args.map (Opd.ev ρ) ++ caps)) (args.map (Opd.ev ρ) ++ caps) s = true then
   (rf D g (args.map (Opd.ev ρ) ++ caps) (s.cut (aV base (args.map (Opd.ev ρ) ++ caps)))).bind fun x => if x.2 = s.cut (aV base (args.map (Opd.ev ρ) ++ caps)) ∧ x.1.flat = true then some (x.1, s) else none
   else none
  | _ => none
 | .callw f args w => if oo s (w.ev ρ) = true then
  match f.ev ρ with
  | .fn g caps => rf D g (args.map (Opd.ev ρ) ++ caps) s
  | _ => none
  else none
 | .callk p f args => match f.ev ρ with
  | .fn g caps => if pOk base (aV base (args.map (Opd.ev ρ) ++ caps)) (args.map (Opd.ev ρ) ++ caps) s = true then
   (rf D g (args.map (Opd.ev ρ) ++ caps) (s.cut (aV base (args.map (Opd.ev ρ) ++ caps)))).bind fun x => if xG p (s.cut (aV base (args.map (Opd.ev ρ) ++ caps))) x.2 then some (x.1, { x.2 with loc := s.loc }) else none
   else none
  | _ => none
 | o => evOp base ρ s o
theorem FA {o : Op'} : aq (run D) base ρ s o = rop D base ρ s o := by
 cases o with
 | call f args =>
  simp only [aq, rop];cases f.ev ρ with
  | fn g caps =>
   simp only [rf];cases run D (.f g (args.map (Opd.ev ρ) ++ caps)) s with
   | none => rfl
   | some x => cases x <;> rfl
  | _ => rfl
 | pcall f args =>
  simp only [aq, rop];cases f.ev ρ with
  | fn g caps =>
   simp only [rf];split
   ·cases run D (.f g (args.map (Opd.ev ρ) ++ caps)) (s.cut (aV base (args.map (Opd.ev ρ) ++ caps))) with
    | none => rfl
    | some x => cases x <;> rfl
   ·rfl
  | _ => rfl
 | callw f args w =>
  simp only [aq, rop];split
  ·cases f.ev ρ with
   | fn g caps =>
    simp only [rf];cases run D (.f g (args.map (Opd.ev ρ) ++ caps)) s with
    | none => rfl
    | some x => cases x <;> rfl
   | _ => rfl
  ·rfl
 | callk p f args =>
  simp only [aq, rop];cases f.ev ρ with
  | fn g caps =>
   simp only [rf];split
   ·cases run D (.f g (args.map (Opd.ev ρ) ++ caps)) (s.cut (aV base (args.map (Opd.ev ρ) ++ caps))) with
    | none => rfl
    | some x => cases x <;> rfl
   ·rfl
  | _ => rfl
 | _ => rfl
theorem sj {op : Op} {rest : List Op} : ro D base (op :: rest) ρ s = match aO op.guard ρ with
 | none => none
 | some false => ro D base rest (put op.dst (.tup []) ρ) s
 | some true => (rop D base ρ s op.op).bind fun x => ro D base rest (put op.dst x.1 ρ) x.2 := by
 unfold ro;rw [ed]; simp only [step, FA];cases aO op.guard ρ with
 | none => rfl
 | some gb =>
  cases gb with
  | false => rfl
  | true =>
   cases rop D base ρ s op.op with
   | none => rfl
   | some x => rfl
def kS (n : Nat) (res : List RV) (x : Ex × Env × St) : Option (V × St) :=
 match x with
 | (.exit _, _, _) => none
 | (_, ρ, s) => match cV ρ s res with
  | some v => if v.locLt n ∧ n ≤ s.loc.length then some (v, { s with loc := s.loc.take n }) else none
  | none => none
theorem DN {n : Nat} {res : List RV} : kS n res (.ret, ρ, s) = match cV ρ s res with
 | some v => if v.locLt n ∧ n ≤ s.loc.length then some (v, { s with loc := s.loc.take n }) else none
 | none => none := rfl
theorem wZ {n : Nat} {res : List RV} : kS n res (.normal, ρ, s) = match cV ρ s res with
 | some v => if v.locLt n ∧ n ≤ s.loc.length then some (v, { s with loc := s.loc.take n }) else none
 | none => none := rfl
theorem Wy {f : Nat} {fc : Fc} (hf : D f = some fc) {args : List V} (hn : args.length = fc.n) :
 rf D f args s = (rc D s.loc.length fc.body (fR 0 args) s).bind (kS s.loc.length fc.res) := by
 unfold rf rc;rw [ed]; simp only [step, hf, hn, if_true];cases run D (.c s.loc.length fc.body (fR 0 args)) s with
 | none => rfl
 | some x =>
  cases x with
  | c e ρ' s' =>
   cases e with
   | exit _ => rfl
   | normal =>
    simp only [Option.bind_some, kS];cases cV ρ' s' fc.res with
    | none => rfl
    | some v =>
     simp only;by_cases hv : v.locLt s.loc.length = true ∧ s.loc.length ≤ s'.loc.length
     ·simp only [if_pos hv]
     ·simp only [if_neg hv]
   | ret =>
    simp only [Option.bind_some, kS];cases cV ρ' s' fc.res with
    | none => rfl
    | some v =>
     simp only;by_cases hv : v.locLt s.loc.length = true ∧ s.loc.length ≤ s'.loc.length
     ·simp only [if_pos hv]
     ·simp only [if_neg hv]
  | _ => rfl
end
end Go.Ab
namespace Go.Ab
variable {D : Nat → Option Fc} {base : Nat} {ρ : Env} {s : St}
theorem nd {α : Sort _} {a b : α} (h : a = b) : a = b := h
def aa {α β : Type} (x : Option α) (f : α → Option β) : Option β := x.bind f
theorem bJ {α β : Type} {a : α} {f : α → Option β} : aa (some a) f = f a := nd rfl
theorem BF {α β : Type} {f : α → Option β} : aa none f = none := nd rfl
@[congr] theorem VO {α β : Type} {x y : Option α} {f : α → Option β} (h : x = y) : aa x f = aa y f := by rw [h]
theorem ra {α β : Type} {c : Prop} [Decidable c] {x y : Option α} {f : α → Option β} : aa (if c then x else y) f = if c then aa x f else aa y f := by split <;> rfl
def oi {α : Type} (v : V) (f : Bool → Option α) : Option α := match v with | .bool t => f t | _ => none
theorem BG {α : Type} {t : Bool} {f : Bool → Option α} : oi (.bool t) f = f t := nd rfl
@[congr] theorem VP {α : Type} {v w : V} {f : Bool → Option α} (h : v = w) : oi v f = oi w f := by rw [h]
theorem F9 {a b : C} : rc D base (.seq a b) ρ s = aa (rc D base a ρ s) (andThen D base b) := U0
def nS (id : Nat) (x : Ex × Env × St) : Option (Ex × Env × St) := some (Lt id x)
theorem vY {id : Nat} : nS id (.normal, ρ, s) = some (.normal, ρ, s) := nd rfl
theorem Bx {id : Nat} : nS id (.ret, ρ, s) = some (.ret, ρ, s) := nd rfl
theorem y9 {id id' : Nat} : nS id (.exit id', ρ, s) = some (if id' = id then .normal else .exit id', ρ, s) := nd rfl
theorem Bd {id : Nat} {b : C} : rc D base (.block id b) ρ s = aa (rc D base b ρ s) (nS id) := FF
theorem aR {keep : List Nat} {b : C} : rc D base (.loop keep b) ρ s = aa (rc D base b (restrict keep ρ) s) (jh D base s.loc.length keep b) := Si
theorem ah {f : Nat} {fc : Fc} (hf : D f = some fc) {args : List V} (hn : args.length = fc.n) :
 rf D f args s = aa (rc D s.loc.length fc.body (fR 0 args) s) (kS s.loc.length fc.res) := Wy hf hn
theorem Fl {x : Opd} {a b : C} : rc D base (.cond x a b) ρ s = oi (x.ev ρ) fun t => if t then rc D base a ρ s else rc D base b ρ s := by
 rw [Sx];cases x.ev ρ <;> rfl
def bi (ρ ρ' : Env) : Prop := ∀ t, get ρ t = get ρ' t
theorem bi.ev {ρ ρ' : Env} (h : bi ρ ρ') : Opd.ev ρ = Opd.ev ρ' := by
 funext x;cases x with
 | t n => exact h n
 | k v => rfl
theorem bi.put {ρ ρ' : Env} (h : bi ρ ρ') (d : Option Nat) (v : V) : bi (put d v ρ) (put d v ρ') := by
 intro t;cases d with
 | none => exact h t
 | some k => simp only [Ab.put, get, h t]
theorem bi.evOp {ρ ρ' : Env} (h : bi ρ ρ') (o : Op') : evOp base ρ s o = evOp base ρ' s o := by
 have he := h.ev;cases o <;> simp only [Ab.evOp, he]
theorem bi.rop {ρ ρ' : Env} (h : bi ρ ρ') (o : Op') : rop D base ρ s o = rop D base ρ' s o := by
 have he := h.ev;cases o with
 | call f args => simp only [Ab.rop, he]
 | pcall f args => simp only [Ab.rop, he]
 | callw f args w => simp only [Ab.rop, he]
 | callk p f args => simp only [Ab.rop, he]
 | _ => simp only [Ab.rop]; exact h.evOp _
theorem bi.guard {ρ ρ' : Env} (h : bi ρ ρ') (g : Option (Nat × Bool)) : aO g ρ = aO g ρ' := by
 cases g with
 | none => rfl
 | some x => simp only [aO, h x.1]
theorem bi.restrict {ρ ρ' : Env} (h : bi ρ ρ') (ks : List Nat) : restrict ks ρ = restrict ks ρ' := by
 simp only [Ab.restrict, h _]
theorem bi.ro {ks : List Nat} : ∀ (l : List Op) {ρ ρ' : Env} {s : St}, bi ρ ρ' → (ro D base l ρ s).bind (fun x => some (Ex.normal, Ab.restrict ks x.1, x.2)) = (ro D base l ρ' s).bind (fun x => some (Ex.normal, Ab.restrict ks x.1, x.2))
 | [], ρ, ρ', s, h => by simp only [EO, Option.bind_some, h.restrict]
 | op :: l, ρ, ρ', s, h => by
  rw [sj, sj, h.guard];cases aO op.guard ρ' with
  | none => rfl
  | some b =>
   cases b with
   | false => exact bi.ro l (h.put _ _)
   | true =>
    simp only [h.rop];cases Ab.rop D base ρ' s op.op with
    | none => rfl
    | some x => exact bi.ro l (h.put _ _)
theorem bi.of_get {t : Nat} {v : V} (h : get ρ t = v) : bi ρ ((t, v) :: ρ) := by
 intro k;simp only [get];split
 ·rename_i e; rw [← e, h]
 ·rfl
noncomputable def rg (D : Nat → Option Fc) (base : Nat) (ks : List Nat) (l : List Op) (ρ : Env) (s : St) : Option (Ex × Env × St) :=
 (ro D base l ρ s).bind fun x => some (Ex.normal, restrict ks x.1, x.2)
theorem Ul {ks : List Nat} : rg D base ks [] ρ s = some (Ex.normal, restrict ks ρ, s) := by simp only [rg, EO, Option.bind_some]
theorem Xg {ks : List Nat} {d : Option Nat} {o : Op'} {rest : List Op} : rg D base ks (⟨d, none, o⟩ :: rest) ρ s = aa (rop D base ρ s o) fun x => rg D base ks rest (put d x.1 ρ) x.2 := by
 simp only [rg];rw [sj];simp only [aO];cases rop D base ρ s o <;> rfl
def al {α : Type} (v : V) (b : Bool) (A B C : Option α) : Option α :=
 match v with
 | .bool x => if x = b then A else B
 | .tup [] => C
 | _ => none
theorem yS {α : Type} {x b : Bool} {A B C : Option α} : al (.bool x) b A B C = if x = b then A else B := nd rfl
theorem BK {α : Type} {b : Bool} {A B C : Option α} : al (.tup []) b A B C = C := nd rfl
theorem uz {α : Type} {v : V} {b : Bool} {A B C A' B' C' : Option α} (hA : v = .bool b → A = A') (hB : v = .bool (!b) → B = B') (hC : v = .tup [] → C = C') : al v b A B C = al v b A' B' C' := by
 unfold al;split
 ·rename_i x;split
  ·rename_i h; exact hA (by rw [h])
  ·rename_i h; exact hB (by cases x <;> cases b <;> simp_all)
 ·exact hC rfl
 ·rfl
theorem Xb {ks : List Nat} {d : Option Nat} {t : Nat} {b : Bool} {o : Op'} {rest : List Op} : rg D base ks (⟨d, some (t, b), o⟩ :: rest) ρ s =
 al (get ρ t) b (aa (rop D base ρ s o) fun y => rg D base ks rest (put d y.1 ((t, .bool b) :: ρ)) y.2) (rg D base ks rest (put d (.tup []) ((t, .bool !b) :: ρ)) s) (rg D base ks rest (put d (.tup []) ((t, .tup []) :: ρ)) s) := by
 have h0 : rg D base ks (⟨d, some (t, b), o⟩ :: rest) ρ s = al (get ρ t) b (aa (rop D base ρ s o) fun y => rg D base ks rest (put d y.1 ρ) y.2) (rg D base ks rest (put d (.tup []) ρ) s) (rg D base ks rest (put d (.tup []) ρ) s) := by
  simp only [rg];rw [sj];simp only [aO];cases hv : get ρ t with
  | bool x =>
   simp only [al];by_cases hxb : x = b
   ·subst hxb;simp only [beq_self_eq_true, if_true];cases rop D base ρ s o <;> rfl
   ·have hxb' : (x == b) = false := by simp [hxb]
    simp only [hxb', if_neg hxb]
  | tup l => cases l <;> rfl
  | _ => rfl
 rw [h0];refine uz (fun hv => ?_) (fun hv => ?_) (fun hv => bi.ro rest ((bi.of_get hv).put _ _))
 ·cases rop D base ρ s o with
  | none => rfl
  | some y => exact bi.ro rest ((bi.of_get hv).put _ _)
 ·exact bi.ro rest ((bi.of_get hv).put _ _)
theorem FI {t : Nat} {v : V} : put (some t) v ρ = (t, v) :: ρ := nd rfl
theorem He {v : V} : put none v ρ = ρ := nd rfl
theorem FT {k t : Nat} {v : V} : get ((k, v) :: ρ) t = if k = t then v else get ρ t := nd rfl
theorem xP : restrict [] ρ = [] := nd rfl
theorem vX {k : Nat} {ks : List Nat} : restrict (k :: ks) ρ = (k, get ρ k) :: restrict ks ρ := nd rfl
theorem yA {ks : List Nat} : jU (some ks) ρ = restrict ks ρ := nd rfl
theorem yo : jU none ρ = ρ := nd rfl
theorem Xe {n : Nat} : Opd.ev ρ (.t n) = get ρ n := nd rfl
theorem Xi {v : V} : Opd.ev ρ (.k v) = v := nd rfl
theorem GK {i : Nat} : fR i [] = [] := nd rfl
theorem D9 {i : Nat} {v : V} {l : List V} : fR i (v :: l) = (i, v) :: fR (i + 1) l := nd rfl
section ops
variable {x y a b c p i : Opd}
theorem PT : rop D base ρ s (.mv x) = some (x.ev ρ, s) := nd rfl
theorem zp : rop D base ρ s (.pick c a b) = oi (c.ev ρ) fun t => some (if t then a.ev ρ else b.ev ρ, s) := nd rfl
theorem xJ {h : Bool} {z : V} : rop D base ρ s (.alloc h z) = some (.ptr (s.fresh h) [] z.tag, s.new h z) := nd rfl
theorem DT {h : Bool} : rop D base ρ s (.box h x) = if (x.ev ρ).ok && ay h (x.ev ρ) then some (.ptr (s.fresh h) [] (x.ev ρ).tag, s.new h (x.ev ρ)) else none := nd rfl
def ldv (s : St) (t : Nat) : V → Option V
 | .ptr a path t' => if t' = t then s.read a path else none
 | _ => none
theorem Tz {t t' : Nat} {a : Loc} {path : List Nat} : ldv s t (.ptr a path t') = if t' = t then s.read a path else none := nd rfl
theorem Bj {t : Nat} : rop D base ρ s (.ld t p) = aa (ldv s t (p.ev ρ)) fun v => some (v, s) := by
 show evOp base ρ s (.ld t p) = _;simp only [evOp];cases p.ev ρ with
 | ptr a path t' =>
  simp only [ldv];split
  ·cases s.read a path <;> rfl
  ·rfl
 | _ => rfl
def stv (base : Nat) (s : St) (t : Nat) (x : V) : V → Option St
 | .ptr a path t' => if t' = t ∧ x.tag = t then s.write base a path x else none
 | _ => none
theorem SX {t t' : Nat} {a : Loc} {path : List Nat} {x : V} : stv base s t x (.ptr a path t') = if t' = t ∧ x.tag = t then s.write base a path x else none := nd rfl
theorem AA {t : Nat} : rop D base ρ s (.st t p x) = aa (stv base s t (x.ev ρ) (p.ev ρ)) fun s' => some (.dead, s') := by
 show evOp base ρ s (.st t p x) = _;simp only [evOp];cases p.ev ρ with
 | ptr a path t' =>
  simp only [stv];split
  ·cases s.write base a path (x.ev ρ) <;> rfl
  ·rfl
 | _ => rfl
def ag : V → Option V
 | .ptr a p t => some (.ptr a p t)
 | .fn f l => some (.fn f l)
 | _ => none
theorem Gy {t : Nat} {a : Loc} {path : List Nat} : ag (.ptr a path t) = some (.ptr a path t) := nd rfl
theorem Th {f : Nat} {l : List V} : ag (.fn f l) = some (.fn f l) := nd rfl
theorem zI : rop D base ρ s (.nilc x) = aa (ag (x.ev ρ)) fun v => some (v, s) := by
 show evOp base ρ s (.nilc x) = _;simp only [evOp];cases x.ev ρ <;> rfl
theorem De {o : BinOp} : rop D base ρ s (.bin o x y) = aa (ac o (x.ev ρ) (y.ev ρ)) fun v => some (v, s) := by
 show evOp base ρ s (.bin o x y) = _;simp only [evOp];cases ac o (x.ev ρ) (y.ev ρ) <;> rfl
def eqv (neg : Bool) (t : Nat) (x y : V) : Option V := aa (dD t x y) fun b => some (.bool (if neg then !b else b))
theorem Q0 {neg : Bool} {t : Nat} : rop D base ρ s (.eq neg t x y) = aa (eqv neg t (x.ev ρ) (y.ev ρ)) fun v => some (v, s) := by
 show evOp base ρ s (.eq neg t x y) = _;simp only [evOp, eqv];cases dD t (x.ev ρ) (y.ev ρ) <;> rfl
theorem Iq {o : UnOp} : rop D base ρ s (.un o x) = aa (vun o (x.ev ρ)) fun v => some (v, s) := by
 show evOp base ρ s (.un o x) = _;simp only [evOp];cases vun o (x.ev ρ) <;> rfl
def eY (k : IntKind) : V → Option V
 | .int _ n => some (.int k (k.wrap n))
 | _ => none
theorem Em {k k' : IntKind} {n : Int} : eY k (.int k' n) = some (.int k (k.wrap n)) := nd rfl
theorem zT {k : IntKind} : rop D base ρ s (.conv k x) = aa (eY k (x.ev ρ)) fun v => some (v, s) := by
 show evOp base ρ s (.conv k x) = _
 simp only [evOp];cases x.ev ρ <;> rfl
def wu (f : Nat) (caps : List V) : Option V := if caps.all (fun v => v.tag == 1) then some (.fn f caps) else none
theorem vr {f : Nat} {caps : List Opd} : rop D base ρ s (.mkfn f caps) = aa (wu f (caps.map (Opd.ev ρ))) fun v => some (v, s) := by
 show evOp base ρ s (.mkfn f caps) = _;simp only [evOp, wu];split <;> rfl
def qH (h : Bool) (r e : Nat) (z : V) (s : St) : V → V → Option (V × St)
 | .int _ l, .int _ m => if 0 ≤ l ∧ l ≤ m ∧ m ≤ cq then
  some (.sl (s.fresh h) [] 0 l.toNat (some m.toNat) e, s.new h (.agg r (List.replicate l.toNat z)))
  else none
 | _, _ => none
theorem vG {h : Bool} {r e : Nat} {z : V} {n c : Opd} : rop D base ρ s (.mksl h r e z n c) = qH h r e z s (n.ev ρ) (c.ev ρ) := by
 show evOp base ρ s (.mksl h r e z n c) = _;simp only [evOp];cases n.ev ρ with
 | int _ _ => cases c.ev ρ <;> rfl
 | _ => rfl
def oD (e : Nat) (lo hi mx : Option V) : V → Option V
 | .sl a path off len cap e' => if e' = e then
  aa (an (cap.getD len) mx (cap.getD len)) fun m => aa (an (kW mx.isSome m len) hi len) fun h => aa (an h lo 0) fun l =>
   some (.sl a path (off + l) (h - l) (re mx.isSome cap (m - l)) e)
  else none
 | .nils => aa (an 0 mx 0) fun _ => aa (an 0 hi 0) fun _ => aa (an 0 lo 0) fun _ => some .nils
 | _ => none
theorem C0 {e : Nat} {lo hi mx : Option Opd} : rop D base ρ s (.slc e x lo hi mx) = aa (oD e (lo.map (Opd.ev ρ)) (hi.map (Opd.ev ρ)) (mx.map (Opd.ev ρ)) (x.ev ρ)) fun v => some (v, s) := by
 show evOp base ρ s (.slc e x lo hi mx) = _;simp only [evOp];cases x.ev ρ with
 | sl a path off len cap e' =>
  simp only [oD];by_cases he : e' = e
  ·simp only [if_pos he, Option.isSome_map];cases h1 : an (cap.getD len) (mx.map (Opd.ev ρ)) (cap.getD len) with
   | none => rfl
   | some m =>
    simp only [bJ];cases h2 : an (kW mx.isSome m len) (hi.map (Opd.ev ρ)) len with
    | none => rfl
    | some h =>
     simp only [bJ];cases h3 : an h (lo.map (Opd.ev ρ)) 0 <;> rfl
  ·simp only [if_neg he]; rfl
 | nils =>
  simp only [oD];cases an 0 (mx.map (Opd.ev ρ)) 0 <;> cases an 0 (hi.map (Opd.ev ρ)) 0 <;> cases an 0 (lo.map (Opd.ev ρ)) 0 <;> rfl
 | _ => rfl
def ug (lo hi : Option V) : V → Option V
 | .str b => aa (an b.size hi b.size) fun h => aa (an h lo 0) fun l => some (.str (b.extract l h))
 | _ => none
theorem tT {lo hi : Option Opd} : rop D base ρ s (.slstr x lo hi) = aa (ug (lo.map (Opd.ev ρ)) (hi.map (Opd.ev ρ)) (x.ev ρ)) fun v => some (v, s) := by
 show evOp base ρ s (.slstr x lo hi) = _;simp only [evOp];cases x.ev ρ with
 | str b =>
  simp only [ug];cases an b.size (hi.map (Opd.ev ρ)) b.size with
  | none => rfl
  | some h => simp only [bJ]; cases an h (lo.map (Opd.ev ρ)) 0 <;> rfl
 | _ => rfl
def ph (s : St) (t n e : Nat) (lo hi mx : Option V) : V → Option V
 | .ptr a path t' => if t' = t ∧ (s.read a path).isSome = true then aa (an n mx n) fun m => aa (an m hi n) fun h => aa (an h lo 0) fun l => some (.sl a path l (h - l) (some (m - l)) e) else none
 | _ => none
theorem xE {t n e : Nat} {lo hi mx : Option Opd} : rop D base ρ s (.slarr t n e x lo hi mx) = aa (ph s t n e (lo.map (Opd.ev ρ)) (hi.map (Opd.ev ρ)) (mx.map (Opd.ev ρ)) (x.ev ρ)) fun v => some (v, s) := by
 show evOp base ρ s (.slarr t n e x lo hi mx) = _;simp only [evOp];cases x.ev ρ with
 | ptr a path t' =>
  simp only [ph];by_cases he : t' = t ∧ (s.read a path).isSome = true
  ·simp only [if_pos he];cases an n (mx.map (Opd.ev ρ)) n with
   | none => rfl
   | some m =>
    simp only [bJ];cases an m (hi.map (Opd.ev ρ)) n with
    | none => rfl
    | some h => simp only [bJ]; cases an h (lo.map (Opd.ev ρ)) 0 <;> rfl
  ·simp only [if_neg he]; rfl
 | _ => rfl
def ae (t f c : Nat) : V → Option V
 | .ptr a path t' => if t' = t then some (.ptr a (path ++ [f]) c) else none
 | _ => none
theorem Es {t f c : Nat} : rop D base ρ s (.fad t f c x) = aa (ae t f c (x.ev ρ)) fun v => some (v, s) := by
 show evOp base ρ s (.fad t f c x) = _;simp only [evOp];cases x.ev ρ with
 | ptr a path t' => simp only [ae]; split <;> rfl
 | _ => rfl
def bb (t n e : Nat) : V → V → Option V
 | .ptr a path t', .int _ j => if t' = t ∧ 0 ≤ j ∧ j < n then some (.ptr a (path ++ [j.toNat]) e) else none
 | _, _ => none
theorem Fa {t n e : Nat} : rop D base ρ s (.iad t n e x i) = aa (bb t n e (x.ev ρ) (i.ev ρ)) fun v => some (v, s) := by
 show evOp base ρ s (.iad t n e x i) = _;simp only [evOp];cases x.ev ρ with
 | ptr a path t' =>
  cases i.ev ρ with
  | int k j => simp only [bb]; split <;> rfl
  | _ => rfl
 | _ => rfl
def co (e : Nat) : V → V → Option V
 | .sl a path off len _ e', .int _ j => if e' = e ∧ 0 ≤ j ∧ j < len then some (.ptr a (path ++ [off + j.toNat]) e) else none
 | _, _ => none
theorem CY {e : Nat} : rop D base ρ s (.sad e x i) = aa (co e (x.ev ρ) (i.ev ρ)) fun v => some (v, s) := by
 show evOp base ρ s (.sad e x i) = _;simp only [evOp];cases x.ev ρ with
 | sl a path off len cap e' =>
  cases i.ev ρ with
  | int k j => simp only [co]; split <;> rfl
  | _ => rfl
 | _ => rfl
def BV (t f : Nat) : V → Option V
 | .agg t' l => if t' = t then l[f]? else none
 | _ => none
theorem Ep {t f : Nat} : rop D base ρ s (.fld t f x) = aa (BV t f (x.ev ρ)) fun v => some (v, s) := by
 show evOp base ρ s (.fld t f x) = _;simp only [evOp];cases x.ev ρ with
 | agg t' l => simp only [BV]; split <;> (first | rfl | (cases l[f]? <;> rfl))
 | _ => rfl
def lJ (t n : Nat) : V → V → Option V
 | .agg t' l, .int _ j => if t' = t ∧ 0 ≤ j ∧ j < n then l[j.toNat]? else none
 | _, _ => none
theorem Di {t n : Nat} : rop D base ρ s (.idx t n x i) = aa (lJ t n (x.ev ρ) (i.ev ρ)) fun v => some (v, s) := by
 show evOp base ρ s (.idx t n x i) = _;simp only [evOp];cases x.ev ρ with
 | agg t' l =>
  cases i.ev ρ with
  | int k j => simp only [lJ]; split <;> (first | rfl | (cases l[j.toNat]? <;> rfl))
  | _ => rfl
 | _ => rfl
def wh : V → V → Option V
 | .str b, .int _ j => if 0 ≤ j then (b[j.toNat]?).map fun c => .int .u8 c.toNat else none
 | _, _ => none
theorem zH : rop D base ρ s (.sidx x i) = aa (wh (x.ev ρ) (i.ev ρ)) fun v => some (v, s) := by
 show evOp base ρ s (.sidx x i) = _;simp only [evOp];cases x.ev ρ with
 | str b =>
  cases i.ev ρ with
  | int k j =>
   simp only [wh];by_cases hj : 0 ≤ j
   ·simp only [if_pos hj]; cases b[j.toNat]? <;> rfl
   ·simp only [if_neg hj]; rfl
  | _ => rfl
 | _ => rfl
def aw (n : Nat) : V → Option V
 | .tup l => l[n]?
 | _ => none
theorem FQ {l : List V} {n : Nat} : aw n (.tup l) = l[n]? := nd rfl
theorem Cx {n : Nat} : rop D base ρ s (.ext x n) = aa (aw n (x.ev ρ)) fun v => some (v, s) := by
 show evOp base ρ s (.ext x n) = _;simp only [evOp];cases x.ev ρ with
 | tup l => simp only [aw]; cases l[n]? <;> rfl
 | _ => rfl
theorem zK {n : Nat} : rop D base ρ s (.lenk n) = some (.int .i64 n, s) := nd rfl
theorem Cn {q : Bool} : rop D base ρ s (.len q x) = aa (V.slen q (x.ev ρ)) fun n => some (.int .i64 n, s) := by
 show evOp base ρ s (.len q x) = _;simp only [evOp];cases V.slen q (x.ev ρ) <;> rfl
theorem DK {e : Nat} : rop D base ρ s (.cpy e x y) = jG base e (x.ev ρ) (y.ev ρ) s := nd rfl
theorem Cm {mx : Bool} : rop D base ρ s (.mnx mx x y) = aa (jN mx (x.ev ρ) (y.ev ρ)) fun v => some (v, s) := by
 show evOp base ρ s (.mnx mx x y) = _;simp only [evOp];cases jN mx (x.ev ρ) (y.ev ρ) <;> rfl
theorem C6 {h : Bool} {r e : Nat} : rop D base ρ s (.app h r e x y) = aA base h r e (x.ev ρ) (y.ev ρ) s := nd rfl
theorem Dy {t : Nat} {l : List V} {ps : List (Nat × Opd)} : rop D base ρ s (.bld (.agg t l) ps) = aa (am l (ps.map fun p => (p.1, p.2.ev ρ))) fun l' => some (.agg t l', s) := by
 show evOp base ρ s (.bld (.agg t l) ps) = _;simp only [evOp];cases am l (ps.map fun p => (p.1, p.2.ev ρ)) <;> rfl
def kr (h : Bool) (r e n : Nat) (z : V) (s : St) (ps : List (Nat × V)) : Option (V × St) :=
 aa (am (List.replicate n z) ps) fun l' => if (e % 2 = 0 ∨ ay h (.agg 1 l')) then some (.sl (s.fresh h) [] 0 n (some n) e, s.new h (.agg r l')) else none
theorem wR {h : Bool} {r e n : Nat} {z : V} {ps : List (Nat × Opd)} : rop D base ρ s (.bsl h r e z n ps) = kr h r e n z s (ps.map fun p => (p.1, p.2.ev ρ)) := by
 show evOp base ρ s (.bsl h r e z n ps) = _;simp only [evOp, kr];cases am (List.replicate n z) (ps.map fun p => (p.1, p.2.ev ρ)) <;> rfl
noncomputable def ws (D : Nat → Option Fc) (args : List V) (s : St) : V → Option (V × St)
 | .fn g caps => rf D g (args ++ caps) s
 | _ => none
theorem F7 {args : List V} {g : Nat} {caps : List V} : ws D args s (.fn g caps) = rf D g (args ++ caps) s := nd rfl
theorem zA {f : Opd} {args : List Opd} : rop D base ρ s (.call f args) = ws D (args.map (Opd.ev ρ)) s (f.ev ρ) := by
 simp only [rop];cases f.ev ρ <;> rfl
noncomputable def dk (D : Nat → Option Fc) (k base g : Nat) (as : List V) (s : St) : Option V :=
 if (V.locLts k as && (decide (base ≤ k) && (decide (k ≤ s.loc.length) && ((s.loc.take k).drop base).all (cn k)))) = true then
  aa (rf D g as ⟨s.loc.take k, s.hp⟩) fun x => if x.2 = ⟨s.loc.take k, s.hp⟩ ∧ x.1.flat = true then some x.1 else none
 else none
noncomputable def xe (D : Nat → Option Fc) (base : Nat) (args : List V) (s : St) : V → Option V
 | .fn g caps => dk D (aV base (args ++ caps)) base g (args ++ caps) s
 | _ => none
theorem El {args : List V} {g : Nat} {caps : List V} : xe D base args s (.fn g caps) = dk D (aV base (args ++ caps)) base g (args ++ caps) s := nd rfl
theorem xr {f : Opd} {args : List Opd} : rop D base ρ s (.pcall f args) = aa (xe D base (args.map (Opd.ev ρ)) s (f.ev ρ)) fun v => some (v, s) := by
 simp only [rop];cases f.ev ρ with
 | fn g caps =>
  show (if pOk base (aV base (args.map (Opd.ev ρ) ++ caps)) (args.map (Opd.ev ρ) ++ caps) s = true then
   (rf D g (args.map (Opd.ev ρ) ++ caps) (s.cut (aV base (args.map (Opd.ev ρ) ++ caps)))).bind fun x => if x.2 = s.cut (aV base (args.map (Opd.ev ρ) ++ caps)) ∧ x.1.flat = true then some (x.1, s) else none
   else none) = aa (dk D (aV base (args.map (Opd.ev ρ) ++ caps)) base g (args.map (Opd.ev ρ) ++ caps) s) _
  generalize hk : aV base (args.map (Opd.ev ρ) ++ caps) = k;unfold dk;by_cases hp : pOk base k (args.map (Opd.ev ρ) ++ caps) s = true
  ·rw [if_pos hp, if_pos (show (_ && _) = true from hp)]
   show (rf D g (args.map (Opd.ev ρ) ++ caps) ⟨s.loc.take k, s.hp⟩).bind _ = _;cases rf D g (args.map (Opd.ev ρ) ++ caps) ⟨s.loc.take k, s.hp⟩ with
   | none => rfl
   | some x =>
    show (if x.2 = s.cut k ∧ x.1.flat = true then some (x.1, s) else none) = aa (if x.2 = s.cut k ∧ x.1.flat = true then some x.1 else none) _
    by_cases hx : x.2 = s.cut k ∧ x.1.flat = true
    ·rw [if_pos hx, if_pos hx]; rfl
    ·rw [if_neg hx, if_neg hx]; rfl
  ·rw [if_neg hp, if_neg (show ¬ ((_ && _) = true) from hp)]; rfl
 | _ => rfl
theorem GH {k : IntKind} {n : Int} : V.flat (.int k n) = true := nd rfl
theorem Ek {b : Bool} : V.flat (.bool b) = true := nd rfl
theorem FG {b : ByteArray} : V.flat (.str b) = true := nd rfl
theorem GG {t : Nat} {l : List V} : V.flat (.agg t l) = V.flats l := nd rfl
theorem FR {l : List V} : V.flat (.tup l) = V.flats l := nd rfl
theorem Cb : V.flats [] = true := nd rfl
theorem Bc {v : V} {l : List V} : V.flats (v :: l) = (v.flat && V.flats l) := nd rfl
theorem nL {l : List V} (h : ∀ v ∈ l, v.flat = true) : V.flats l = true := by
 induction l with
 | nil => rfl
 | cons a l ih => simp only [V.flats, Bool.and_eq_true]; exact ⟨h a (by simp), ih fun v hv => h v (by simp [hv])⟩
theorem y8 {l : List Bool} : V.flats (l.map V.bool) = true := nL fun v hv => by obtain ⟨b, _, rfl⟩ := List.mem_map.1 hv; rfl
theorem BL {k : IntKind} {l : List Int} : V.flats (l.map (V.int k)) = true := nL fun v hv => by obtain ⟨b, _, rfl⟩ := List.mem_map.1 hv; rfl
def uR (base : Nat) (s : St) (t : Nat) (x p : V) (l : List V) : Option St := if l.all (fun y => fV y p) = true then stv base s t x p else none
theorem C4 {t : Nat} {l : List Opd} : rop D base ρ s (.sta t p x l) = aa (uR base s t (x.ev ρ) (p.ev ρ) (l.map (Opd.ev ρ))) fun s' => some (.dead, s') := by
 show evOp base ρ s (.sta t p x l) = _;simp only [evOp, uR, List.all_map];show (if (l.all fun y => fV (y.ev ρ) (p.ev ρ)) = true then _ else none) = aa (if (l.all fun y => fV (y.ev ρ) (p.ev ρ)) = true then _ else none) _
 split
 ·have := @AA D base ρ s x p t;exact this
 ·rfl
def vi (s : St) (t : Nat) (p r : V) : Option V := if jH r p = true then ldv s t p else none
theorem EV {t : Nat} {r : Opd} : rop D base ρ s (.lda t p r) = aa (vi s t (p.ev ρ) (r.ev ρ)) fun v => some (v, s) := by
 show evOp base ρ s (.lda t p r) = _;simp only [evOp, vi];show (if jH (r.ev ρ) (p.ev ρ) = true then _ else none) = _
 split
 ·exact @Bj D base ρ s p t
 ·rfl
theorem Et {a b : Loc} {q r : List Nat} {t u : Nat} : jH (.ptr a q t) (.ptr b r u) = decide (a = b) := nd rfl
noncomputable def rq (D : Nat → Option Fc) (args : List V) (s : St) (w f : V) : Option (V × St) := if oo s w = true then ws D args s f else none
theorem xb {f w : Opd} {args : List Opd} : rop D base ρ s (.callw f args w) = rq D (args.map (Opd.ev ρ)) s (w.ev ρ) (f.ev ρ) := by
 simp only [rop, rq];split
 ·cases f.ev ρ <;> rfl
 ·rfl
noncomputable def k8 (D : Nat → Option Fc) (p : Bool) (k base g : Nat) (as : List V) (s : St) : Option (V × St) :=
 if (V.locLts k as && (decide (base ≤ k) && (decide (k ≤ s.loc.length) && ((s.loc.take k).drop base).all (cn k)))) = true then
  aa (rf D g as ⟨s.loc.take k, s.hp⟩) fun x => if x.2.loc = s.loc.take k ∧ (p = true → x.2.hp.take s.hp.length = s.hp) then some (x.1, ⟨s.loc, x.2.hp⟩) else none
 else none
noncomputable def xw (D : Nat → Option Fc) (p : Bool) (base : Nat) (args : List V) (s : St) : V → Option (V × St)
 | .fn g caps => k8 D p (aV base (args ++ caps)) base g (args ++ caps) s
 | _ => none
theorem EQ {p : Bool} {args : List V} {g : Nat} {caps : List V} : xw D p base args s (.fn g caps) = k8 D p (aV base (args ++ caps)) base g (args ++ caps) s := nd rfl
theorem xk {p : Bool} {f : Opd} {args : List Opd} : rop D base ρ s (.callk p f args) = xw D p base (args.map (Opd.ev ρ)) s (f.ev ρ) := by
 simp only [rop];cases f.ev ρ with
 | fn g caps => rfl
 | _ => rfl
def qi (s : St) (t : Nat) : V → Option V
 | .ptr (.loc i) q t' => if t' = t then s.read (.loc i) q else none
 | _ => none
theorem Hg {i : Nat} {q : List Nat} {t t' : Nat} : qi s t (.ptr (.loc i) q t') = if t' = t then s.read (.loc i) q else none := nd rfl
theorem DQ {t : Nat} : rop D base ρ s (.ldl t p) = aa (qi s t (p.ev ρ)) fun v => some (v, s) := by
 show evOp base ρ s (.ldl t p) = _;simp only [evOp];cases p.ev ρ with
 | ptr a q t' =>
  cases a with
  | loc i =>
   simp only [qi];split
   ·cases s.read (.loc i) q <;> rfl
   ·rfl
  | hp i => rfl
 | _ => rfl
def si (base : Nat) (h : Bool) (r e : Nat) (s : St) (x y : V) (l : List V) : Option (V × St) := if l.all (fun z => gt z x) = true then aA base h r e x y s else none
theorem zV {h : Bool} {r e : Nat} {x y : Opd} {l : List Opd} : rop D base ρ s (.appa h r e x y l) = si base h r e s (x.ev ρ) (y.ev ρ) (l.map (Opd.ev ρ)) := by
 show evOp base ρ s (.appa h r e x y l) = _;simp only [evOp, si, List.all_map];rfl
theorem FB {a b : Loc} {q r : List Nat} {t o l e : Nat} {c : Option Nat} : gt (.ptr a q t) (.sl b r o l c e) = decide (a ≠ b) := nd rfl
theorem B5 {a : Loc} {q : List Nat} {t : Nat} : gt (.ptr a q t) .nils = true := nd rfl
theorem Gj {a : Loc} {q : List Nat} {t : Nat} : oo s (.ptr a q t) = (s.read a q).isSome := nd rfl
theorem Co {a b : Loc} {q r : List Nat} {t u : Nat} : fV (.ptr a q t) (.ptr b r u) = decide (a ≠ b) := nd rfl
theorem Ti {i : Nat} {p : List Nat} {t : Nat} : V.lim1 (.ptr (.hp i) p t) = 0 := nd rfl
theorem Ga {i : Nat} {p : List Nat} {t : Nat} : V.lim1 (.ptr (.loc i) p t) = i + 1 := nd rfl
theorem SS {i : Nat} {p : List Nat} {o l : Nat} {c : Option Nat} {t : Nat} : V.lim1 (.sl (.loc i) p o l c t) = i + 1 := nd rfl
theorem Hl {k : IntKind} {n : Int} : V.lim1 (.int k n) = 0 := nd rfl
theorem D8 {n : Bool} : V.lim1 (.bool n) = 0 := nd rfl
theorem Hi {t : Nat} {l : List V} : V.lim1 (.agg t l) = 0 := nd rfl
theorem T8 {t : Nat} {l : List V} : V.lim1 (.fn t l) = 0 := nd rfl
theorem Fx : ri base [] = base := nd rfl
theorem E4 {v : V} {l : List V} : ri base (v :: l) = max v.lim1 (ri base l) := nd rfl
end ops
theorem oR {α β γ : Type} {x : Option α} {f : α → Option β} {g : β → Option γ} : aa (aa x f) g = aa x fun a => aa (f a) g := by cases x <;> rfl
theorem yH {α β : Type} {v : V} {f : Bool → Option α} {g : α → Option β} : aa (oi v f) g = oi v fun t => aa (f t) g := by cases v <;> rfl
theorem Ey {α β : Type} {c : Prop} [Decidable c] {x : Option α} {g : α → Option β} : aa (if c then x else none) g = if c then aa x g else none := by split <;> rfl
theorem vk {α β : Type} {x : Option α} {f g : α → Option β} (h : ∀ a, f a = g a) : aa x f = aa x g := by cases x <;> simp only [aa, Option.bind_none, Option.bind_some, h]
noncomputable def r1 (D : Nat → Option Fc) (base : Nat) (ρ : Env) (s : St) {α : Type} (o : Op') (K : V → St → Option α) : Option α :=
 match o with
 | .mv x => K (x.ev ρ) s
 | .pick c a b => oi (c.ev ρ) fun t => K (if t then a.ev ρ else b.ev ρ) s
 | .alloc h z => K (.ptr (s.fresh h) [] z.tag) (s.new h z)
 | .box h x => if (x.ev ρ).ok && ay h (x.ev ρ) then K (.ptr (s.fresh h) [] (x.ev ρ).tag) (s.new h (x.ev ρ)) else none
 | .ld t p => aa (ldv s t (p.ev ρ)) fun v => K v s
 | .st t p x => aa (stv base s t (x.ev ρ) (p.ev ρ)) fun s' => K .dead s'
 | .nilc x => aa (ag (x.ev ρ)) fun v => K v s
 | .bin o x y => aa (ac o (x.ev ρ) (y.ev ρ)) fun v => K v s
 | .un o x => aa (vun o (x.ev ρ)) fun v => K v s
 | .conv k x => aa (eY k (x.ev ρ)) fun v => K v s
 | .fad t f c x => aa (ae t f c (x.ev ρ)) fun v => K v s
 | .iad t n e x i => aa (bb t n e (x.ev ρ) (i.ev ρ)) fun v => K v s
 | .sad e x i => aa (co e (x.ev ρ) (i.ev ρ)) fun v => K v s
 | .fld t f x => aa (BV t f (x.ev ρ)) fun v => K v s
 | .idx t n x i => aa (lJ t n (x.ev ρ) (i.ev ρ)) fun v => K v s
 | .sidx x i => aa (wh (x.ev ρ) (i.ev ρ)) fun v => K v s
 | .ext x n => aa (aw n (x.ev ρ)) fun v => K v s
 | .lenk n => K (.int .i64 n) s
 | .len q x => aa (V.slen q (x.ev ρ)) fun n => K (.int .i64 n) s
 | .slc e x lo hi mx => aa (oD e (lo.map (Opd.ev ρ)) (hi.map (Opd.ev ρ)) (mx.map (Opd.ev ρ)) (x.ev ρ)) fun v => K v s
 | .slarr t n e x lo hi mx => aa (ph s t n e (lo.map (Opd.ev ρ)) (hi.map (Opd.ev ρ)) (mx.map (Opd.ev ρ)) (x.ev ρ)) fun v => K v s
 | .eq neg t x y => aa (eqv neg t (x.ev ρ) (y.ev ρ)) fun v => K v s
 | .mkfn f caps => aa (wu f (caps.map (Opd.ev ρ))) fun v => K v s
 | .slstr x lo hi => aa (ug (lo.map (Opd.ev ρ)) (hi.map (Opd.ev ρ)) (x.ev ρ)) fun v => K v s
 | .mksl h r e z n c => aa (qH h r e z s (n.ev ρ) (c.ev ρ)) fun x => K x.1 x.2
 | .app h r e x y => aa (aA base h r e (x.ev ρ) (y.ev ρ) s) fun x => K x.1 x.2
 | .bsl h r e z n ps => aa (kr h r e n z s (ps.map fun p => (p.1, p.2.ev ρ))) fun x => K x.1 x.2
 | .cpy e x y => aa (jG base e (x.ev ρ) (y.ev ρ) s) fun x => K x.1 x.2
 | .mnx mx x y => aa (jN mx (x.ev ρ) (y.ev ρ)) fun v => K v s
 | .bld z ps => match z with
  | .agg t l => aa (am l (ps.map fun p => (p.1, p.2.ev ρ))) fun l' => K (.agg t l') s
  | _ => none
 | .call f args => aa (ws D (args.map (Opd.ev ρ)) s (f.ev ρ)) fun x => K x.1 x.2
 | .pcall f args => aa (xe D base (args.map (Opd.ev ρ)) s (f.ev ρ)) fun v => K v s
 | .sta t p x l => aa (uR base s t (x.ev ρ) (p.ev ρ) (l.map (Opd.ev ρ))) fun s' => K .dead s'
 | .callw f args w => aa (rq D (args.map (Opd.ev ρ)) s (w.ev ρ) (f.ev ρ)) fun x => K x.1 x.2
 | .lda t p r => aa (vi s t (p.ev ρ) (r.ev ρ)) fun v => K v s
 | .callk p f args => aa (xw D p base (args.map (Opd.ev ρ)) s (f.ev ρ)) fun x => K x.1 x.2
 | .ldl t p => aa (qi s t (p.ev ρ)) fun v => K v s
 | .appa h r e x y l => aa (si base h r e s (x.ev ρ) (y.ev ρ) (l.map (Opd.ev ρ))) fun x => K x.1 x.2
theorem ED {α : Type} {o : Op'} {K : V → St → Option α} : aa (rop D base ρ s o) (fun x => K x.1 x.2) = r1 D base ρ s o K := by
 cases o with
 | bld z ps =>
  cases z with
  | agg t l => simp only [r1, Dy, oR, bJ]
  | _ => rfl
 | pcall f args => simp only [r1, xr, oR, bJ]
 | box h x => simp only [r1, DT, Ey, bJ]
 | _ => simp only [r1, PT, zp, xJ, Bj, AA, zI, De, Iq, zT, Es, Fa, CY, Ep, Di, zH, Cx, zK, Cn, C0, xE, zA, Q0, vr, tT, vG, C6, DK, Cm, wR, C4, xb, EV, xk, DQ, zV, oR, bJ, yH]
noncomputable def rgO (D : Nat → Option Fc) (base : Nat) (ks : List Nat) : List Op → Env → St → Option (Ex × Env × St)
 | [], ρ, s => some (Ex.normal, restrict ks ρ, s)
 | op :: rest, ρ, s => match op.guard with
  | none => r1 D base ρ s op.op fun v s' => rgO D base ks rest (put op.dst v ρ) s'
  | some (t, b) => al (get ρ t) b (r1 D base ρ s op.op fun v s' => rgO D base ks rest (put op.dst v ((t, .bool b) :: ρ)) s') (rgO D base ks rest (put op.dst (.tup []) ((t, .bool !b) :: ρ)) s) (rgO D base ks rest (put op.dst (.tup []) ((t, .tup []) :: ρ)) s)
theorem o5 {ks : List Nat} : ∀ {l : List Op} {ρ : Env} {s : St}, rg D base ks l ρ s = rgO D base ks l ρ s
 | [], ρ, s => by rw [Ul]; rfl
 | ⟨d, none, o⟩ :: l, ρ, s => by
  rw [Xg];simp only [rgO];rw [← ED];exact vk fun x => o5
 | ⟨d, some (t, b), o⟩ :: l, ρ, s => by
  rw [Xb];simp only [rgO];refine uz (fun _ => ?_) (fun _ => o5) (fun _ => o5);rw [← ED];exact vk fun x => o5
theorem Gh {ks : List Nat} {l : List Op} : rc D base (.reg (some ks) l) ρ s = rgO D base ks l ρ s := Um.trans o5
theorem CX {ks : List Nat} {l : List Op} : rc D base (.regd (some ks) l) ρ s = rgO D base ks l ρ s := T9.trans o5
theorem Bw {y d : Nat} : an y none d = some d := nd rfl
theorem Do {y d : Nat} {k : IntKind} {i : Int} : an y (some (.int k i)) d = if 0 ≤ i ∧ i ≤ y then some i.toNat else none := nd rfl
theorem Sf : s.fresh true = .hp s.hp.length := nd rfl
theorem r7 : s.fresh false = .loc s.loc.length := nd rfl
theorem V6 {v : V} : s.new true v = ⟨s.loc, s.hp ++ [.rw v]⟩ := nd rfl
theorem wq {v : V} : s.new false v = ⟨s.loc ++ [.rw v], s.hp⟩ := nd rfl
theorem Gp {v : V} : ay false v = true := nd rfl
theorem tu {v : V} : ay true v = v.locLt 0 := nd rfl
def Blk.rd (p : List Nat) : Option Blk → Option V
 | some (.rw v) => V.at p v
 | some (.ro v) => V.at p v
 | _ => none
theorem m9 {p : List Nat} {v : V} : Blk.rd p (some (.rw v)) = V.at p v := nd rfl
theorem QX {p : List Nat} {v : V} : Blk.rd p (some (.ro v)) = V.at p v := nd rfl
theorem lX {i : Nat} {p : List Nat} : s.read (.loc i) p = Blk.rd p s.loc[i]? := nd rfl
theorem nq {i : Nat} {p : List Nat} : s.read (.hp i) p = Blk.rd p s.hp[i]? := nd rfl
def Blk.wr (p : List Nat) (x : V) : Option Blk → Option Blk
 | some (.rw v) => (V.setAt p x v).map .rw
 | _ => none
theorem WC {p : List Nat} {x v : V} : Blk.wr p x (some (.rw v)) = (V.setAt p x v).map .rw := nd rfl
theorem En {i : Nat} {p : List Nat} {x : V} : s.write base (.loc i) p x = if x.locLt 0 || decide (base ≤ i) then (Blk.wr p x s.loc[i]?).map fun b => ⟨s.loc.set i b, s.hp⟩ else none := by
 simp only [St.write, St.at];cases s.loc[i]? with
 | none => simp [Blk.wr]
 | some b =>
  cases b with
  |rw v =>
   simp only [Blk.wr];rw [show (x.locLt 0 || decide (base ≤ i)) = fQ base (.loc i) x from rfl]
   by_cases hc : fQ base (.loc i) x = true
   ·rw [if_pos hc, if_pos hc]; cases V.setAt p x v <;> rfl
   ·rw [if_neg hc, if_neg hc]
  | _ => simp [Blk.wr]
theorem Gw {i : Nat} {p : List Nat} {x : V} : s.write base (.hp i) p x = if x.locLt 0 then (Blk.wr p x s.hp[i]?).map fun b => ⟨s.loc, s.hp.set i b⟩ else none := by
 simp only [St.write, St.at];cases s.hp[i]? with
 | none => simp [Blk.wr]
 | some b =>
  cases b with
  |rw v =>
   simp only [Blk.wr];rw [show x.locLt 0 = fQ base (.hp i) x from rfl]
   by_cases hc : fQ base (.hp i) x = true
   ·rw [if_pos hc, if_pos hc]; cases V.setAt p x v <;> rfl
   ·rw [if_neg hc, if_neg hc]
  | _ => simp [Blk.wr]
theorem kh {v : V} : V.at [] v = some v := nd rfl
theorem zO {i : Nat} {p : List Nat} {t : Nat} {l : List V} : V.at (i :: p) (.agg t l) = aa l[i]? (V.at p) := by
 simp only [V.at]; cases l[i]? <;> rfl
theorem Ca {x v : V} : V.setAt [] x v = some x := nd rfl
theorem BC {i : Nat} {p : List Nat} {t : Nat} {l : List V} {x : V} : V.setAt (i :: p) x (.agg t l) = aa l[i]? fun y => aa (V.setAt p x y) fun y' => some (.agg t (l.set i y')) := by
 simp only [V.setAt];cases l[i]? with
 | none => rfl
 | some y => simp only [bJ]; cases V.setAt p x y <;> rfl
theorem rV {α : Type} {l m : List α} {i : Nat} : (l ++ m)[l.length + i]? = m[i]? := by rw [List.getElem?_append_right (Nat.le_add_right _ _), Nat.add_sub_cancel_left]
theorem ye {α : Type} {l m : List α} : (l ++ m)[l.length]? = m[0]? := rV (i := 0)
theorem z6 {α : Type} {l m : List α} {i : Nat} {x : α} : (l ++ m).set (l.length + i) x = l ++ m.set i x := by rw [List.set_append_right _ _ (Nat.le_add_right _ _), Nat.add_sub_cancel_left]
theorem qJ {α : Type} {l m : List α} {x : α} : (l ++ m).set l.length x = l ++ m.set 0 x := z6 (i := 0)
theorem FS {α : Type} {l m : List α} {i : Nat} : (l ++ m).take (l.length + i) = l ++ m.take i := by rw [List.take_append, List.take_of_length_le (Nat.le_add_right _ _), Nat.add_sub_cancel_left]
theorem Ef {α : Type} {l m : List α} : (l ++ m).take l.length = l := by rw [List.take_append]; simp
theorem GP {α : Type} {l m : List α} : (l ++ m).drop l.length = m := List.drop_left
theorem Bh {b : Nat} : V.locLts b [] = true := by simp only [V.locLts]
theorem yw {b : Nat} {v : V} {l : List V} : V.locLts b (v :: l) = (v.locLt b && V.locLts b l) := by simp only [V.locLts]
section
variable {b : Nat}
theorem Tr {x : Bool} : V.locLt b (.bool x) = true := by simp only [V.locLt]
theorem Vs {k : IntKind} {x : Int} : V.locLt b (.int k x) = true := by simp only [V.locLt]
theorem Vd {x : ByteArray} : V.locLt b (.str x) = true := by simp only [V.locLt]
theorem SU : V.locLt b .nilp = true := by simp only [V.locLt]
theorem Se : V.locLt b .nils = true := by simp only [V.locLt]
theorem SV : V.locLt b .nilf = true := by simp only [V.locLt]
theorem SL : V.locLt b .dead = true := by simp only [V.locLt]
theorem Wd {i : Nat} {p : List Nat} {t : Nat} : V.locLt b (.ptr (.hp i) p t) = true := by simp only [V.locLt]
theorem TA {i : Nat} {p : List Nat} {o l e : Nat} {c : Option Nat} : V.locLt b (.sl (.hp i) p o l c e) = true := by simp only [V.locLt]
theorem UT {i : Nat} {p : List Nat} {t : Nat} : V.locLt b (.ptr (.loc i) p t) = decide (i < b) := by simp only [V.locLt]
theorem FH {i : Nat} {p : List Nat} {o l e : Nat} {c : Option Nat} : V.locLt b (.sl (.loc i) p o l c e) = decide (i < b) := by simp only [V.locLt]
theorem Wn {f : Nat} {l : List V} : V.locLt b (.fn f l) = V.locLts b l := by simp only [V.locLt]
theorem Vw {l : List V} : V.locLt b (.tup l) = V.locLts b l := by simp only [V.locLt]
theorem uE {t : Nat} {l : List V} : V.locLt b (.agg t l) = (t % 2 == 0 || V.locLts b l) := by simp only [V.locLt]
end
theorem wz {b : Nat} {v : V} : cn b (.rw v) = v.locLt b := nd rfl
theorem Gl {b : Nat} {v : V} : cn b (.ro v) = v.locLt b := nd rfl
theorem uw {b : Nat} : cn b .dead = true := nd rfl
theorem yN {n : Nat} {res : List RV} : kS n res (.ret, ρ, s) = aa (cV ρ s res) fun v => if v.locLt n ∧ n ≤ s.loc.length then some (v, { s with loc := s.loc.take n }) else none := by
 rw [DN]; cases cV ρ s res <;> rfl
theorem uS {n : Nat} {res : List RV} : kS n res (.normal, ρ, s) = aa (cV ρ s res) fun v => if v.locLt n ∧ n ≤ s.loc.length then some (v, { s with loc := s.loc.take n }) else none := by
 rw [wZ]; cases cV ρ s res <;> rfl
theorem WM {n : Nat} : RV.ev ρ s (.t n) = some (get ρ n) := nd rfl
theorem Ub {n q : Nat} : RV.ev ρ s (.cell n q) = ldv s q (get ρ n) := by
 simp only [RV.ev];cases get ρ n <;> rfl
theorem BY : cV ρ s [] = some (.tup []) := nd rfl
theorem Ds {r : RV} : cV ρ s [r] = RV.ev ρ s r := by
 simp only [cV, List.mapM_cons, List.mapM_nil];cases RV.ev ρ s r <;> rfl
theorem Ec {r q : RV} : cV ρ s [r, q] = aa (RV.ev ρ s r) fun a => aa (RV.ev ρ s q) fun b => if a.ok && b.ok then some (.tup [a, b]) else none := by
 simp only [cV, List.mapM_cons, List.mapM_nil];cases RV.ev ρ s r with
 | none => rfl
 | some a =>
  cases RV.ev ρ s q with
  | none => rfl
  | some b => simp [List.all, bJ]
theorem yr {r q p : RV} : cV ρ s [r, q, p] = aa (RV.ev ρ s r) fun a => aa (RV.ev ρ s q) fun b => aa (RV.ev ρ s p) fun c => if a.ok && b.ok && c.ok then some (.tup [a, b, c]) else none := by
 simp only [cV, List.mapM_cons, List.mapM_nil];cases RV.ev ρ s r with
 | none => rfl
 | some a =>
  cases RV.ev ρ s q with
  | none => rfl
  | some b =>
   cases RV.ev ρ s p with
   | none => rfl
   | some c => simp [List.all, Bool.and_assoc, bJ]
section
variable {c : Prop} [Decidable c]
theorem Bt {ρ' : Env} {s' : St} : (if c then some (Ex.normal, ρ, s) else some (Ex.normal, ρ', s')) = some (Ex.normal, if c then ρ else ρ', if c then s else s') := by split <;> rfl
theorem Gb {id : Nat} {ρ' : Env} {s' : St} : (if c then some (Ex.exit id, ρ, s) else some (Ex.exit id, ρ', s')) = some (Ex.exit id, if c then ρ else ρ', if c then s else s') := by split <;> rfl
theorem Sk {ρ' : Env} {s' : St} : (if c then some (Ex.ret, ρ, s) else some (Ex.ret, ρ', s')) = some (Ex.ret, if c then ρ else ρ', if c then s else s') := by split <;> rfl
theorem Tl {k : Nat} {v v' : V} {ρ' : Env} : (if c then (k, v) :: ρ else (k, v') :: ρ') = (k, if c then v else v') :: (if c then ρ else ρ') := by split <;> rfl
theorem Ui {v v' : V} {s' : St} : (if c then some (v, s) else some (v', s')) = some (if c then v else v', if c then s else s') := by split <;> rfl
theorem Cp {a b : Bool} : (if c then V.bool a else V.bool b) = V.bool (if c then a else b) := by split <;> rfl
theorem Ho {k : IntKind} {a b : Int} : (if c then V.int k a else V.int k b) = V.int k (if c then a else b) := by split <;> rfl
theorem Gq {t : Nat} {l l' : List V} : (if c then V.agg t l else V.agg t l') = V.agg t (if c then l else l') := by split <;> rfl
theorem FX {l l' : List V} : (if c then V.tup l else V.tup l') = V.tup (if c then l else l') := by split <;> rfl
theorem C9 {v v' : V} {l l' : List V} : (if c then v :: l else v' :: l') = (if c then v else v') :: (if c then l else l') := by split <;> rfl
theorem D2 {v v' : Blk} {l l' : List Blk} : (if c then v :: l else v' :: l') = (if c then v else v') :: (if c then l else l') := by split <;> rfl
theorem TO {v v' : V} : (if c then Blk.rw v else Blk.rw v') = Blk.rw (if c then v else v') := by split <;> rfl
theorem U2 {l l' h h' : List Blk} : (if c then St.mk l h else St.mk l' h') = St.mk (if c then l else l') (if c then h else h') := by split <;> rfl
theorem TD {l m m' : List Blk} : (if c then l ++ m else l ++ m') = l ++ (if c then m else m') := by split <;> rfl
theorem C2 {b : C} {y : Option (Ex × Env × St)} : aa (if c then some (.ret, ρ, s) else y) (andThen D base b) = if c then some (.ret, ρ, s) else aa y (andThen D base b) := by split <;> rfl
theorem B7 {b : C} {y : Option (Ex × Env × St)} : aa (if c then y else some (.ret, ρ, s)) (andThen D base b) = if c then aa y (andThen D base b) else some (.ret, ρ, s) := by split <;> rfl
theorem BN {b : C} {y : Option (Ex × Env × St)} {id : Nat} : aa (if c then some (.exit id, ρ, s) else y) (andThen D base b) = if c then some (.exit id, ρ, s) else aa y (andThen D base b) := by split <;> rfl
theorem yJ {b : C} {y : Option (Ex × Env × St)} {id : Nat} : aa (if c then y else some (.exit id, ρ, s)) (andThen D base b) = if c then aa y (andThen D base b) else some (.exit id, ρ, s) := by split <;> rfl
theorem yk {n : Nat} {res : List RV} {x y : Option (Ex × Env × St)} : aa (if c then x else y) (kS n res) = if c then aa x (kS n res) else aa y (kS n res) := ra
theorem yp {id : Nat} {x y : Option (Ex × Env × St)} : aa (if c then x else y) (nS id) = if c then aa x (nS id) else aa y (nS id) := ra
theorem yW {n : Nat} {keep : List Nat} {b : C} {x y : Option (Ex × Env × St)} : aa (if c then x else y) (jh D base n keep b) = if c then aa x (jh D base n keep b) else aa y (jh D base n keep b) := ra
end
theorem Vp : St.mk s.loc s.hp = s := nd rfl
theorem BP : s.elems .nils = some [] := nd rfl
def zv (off len : Nat) : Option V → Option (List V)
 | some (.agg _ l) => if off + len ≤ l.length then some ((l.drop off).take len) else none
 | _ => none
theorem yT {off len t : Nat} {l : List V} : zv off len (some (.agg t l)) = if off + len ≤ l.length then some ((l.drop off).take len) else none := nd rfl
theorem Ge {a : Loc} {path : List Nat} {off len : Nat} {cap : Option Nat} {e : Nat} : s.elems (.sl a path off len cap e) = if len = 0 then some [] else zv off len (s.read a path) := by
 simp only [St.elems];cases s.read a path with
 | none => rfl
 | some v => cases v <;> rfl
section
variable {a : Loc} {p : List Nat} {off len e e' t t' n f u : Nat} {cap : Option Nat} {k k' : IntKind} {j m : Int} {b : Bool} {sb sc : ByteArray} {l : List V} {lo hi mx : Option V} {o : BinOp}
theorem DU : V.slen false .nils = some 0 := nd rfl
theorem Su : V.slen false (.sl a p off len cap e) = some len := nd rfl
theorem GU : V.slen true (.str sb) = some sb.size := nd rfl
theorem SP : co e (.sl a p off len cap e') (.int k j) = if e' = e ∧ 0 ≤ j ∧ j < len then some (.ptr a (p ++ [off + j.toNat]) e) else none := nd rfl
theorem Gn : bb t n e (.ptr a p t') (.int k j) = if t' = t ∧ 0 ≤ j ∧ j < n then some (.ptr a (p ++ [j.toNat]) e) else none := nd rfl
theorem Fs : ae t f u (.ptr a p t') = if t' = t then some (.ptr a (p ++ [f]) u) else none := nd rfl
theorem F8 : BV t f (.agg t' l) = if t' = t then l[f]? else none := nd rfl
theorem Hb : lJ t n (.agg t' l) (.int k j) = if t' = t ∧ 0 ≤ j ∧ j < n then l[j.toNat]? else none := nd rfl
theorem DB : wh (.str sb) (.int k j) = if 0 ≤ j then (sb[j.toNat]?).map fun c => .int .u8 c.toNat else none := nd rfl
theorem SN : oD e lo hi mx (.sl a p off len cap e') = if e' = e then
 aa (an (cap.getD len) mx (cap.getD len)) fun m => aa (an (kW mx.isSome m len) hi len) fun h => aa (an h lo 0) fun l =>
  some (.sl a p (off + l) (h - l) (re mx.isSome cap (m - l)) e) else none := nd rfl
theorem EC : oD e lo hi mx .nils = aa (an 0 mx 0) fun _ => aa (an 0 hi 0) fun _ => aa (an 0 lo 0) fun _ => some .nils := nd rfl
theorem BH : ug lo hi (.str sb) = aa (an sb.size hi sb.size) fun h => aa (an h lo 0) fun l => some (.str (sb.extract l h)) := nd rfl
theorem AI : ph s t n e lo hi mx (.ptr a p t') = if t' = t ∧ (s.read a p).isSome = true then aa (an n mx n) fun m => aa (an m hi n) fun h => aa (an h lo 0) fun l => some (.sl a p l (h - l) (some (m - l)) e) else none := nd rfl
theorem Gc : ac o (.int k j) (.int k' m) = if BinOp.isShift o then shf o k j m else if k = k' then u9 o k j m else none := nd rfl
theorem Fv : ac o (.str sb) (.str sc) = uZ o sb sc := nd rfl
theorem TY : vun .not (.bool b) = some (.bool !b) := nd rfl
theorem SO : vun .neg (.int k j) = some (.int k (k.wrap (0 - j))) := nd rfl
theorem Ud : vun .xor (.int k j) = some (.int k (xa k (if k.signed then -1 else k.max) j)) := nd rfl
theorem Gi : jN b (.int k j) (.int k' m) = if k = k' then some (.int k (if b then max j m else min j m)) else none := nd rfl
theorem EX {h : Bool} {r : Nat} {z : V} : qH h r e z s (.int k j) (.int k' m) = if 0 ≤ j ∧ j ≤ m ∧ m ≤ cq then
 some (.sl (s.fresh h) [] 0 j.toNat (some m.toNat) e, s.new h (.agg r (List.replicate j.toNat z))) else none := nd rfl
theorem Gd : V.tag (.bool b) = 0 := nd rfl
theorem Sp : V.tag (.int k j) = iO k := nd rfl
theorem Uf : V.tag (.str sb) = 2 := nd rfl
theorem Sn : V.tag (.agg t l) = t := nd rfl
theorem Tq : V.tag (.ptr a p t) = 1 := nd rfl
theorem Fz : V.tag .nilp = 1 := nd rfl
theorem Vu : V.tag (.sl a p off len cap e) = 1 := nd rfl
theorem Fw : V.tag .nils = 1 := nd rfl
theorem Vi : V.tag (.fn f l) = 1 := nd rfl
theorem Hk : V.tag .nilf = 1 := nd rfl
theorem TH : V.ok (.bool b) = true := nd rfl
theorem UD : V.ok (.int k j) = true := nd rfl
theorem VB : V.ok (.str sb) = true := nd rfl
theorem VG : V.ok (.agg t l) = true := nd rfl
theorem UU : V.ok (.ptr a p t) = true := nd rfl
theorem Ts : V.ok .nilp = true := nd rfl
theorem Ws : V.ok (.sl a p off len cap e) = true := nd rfl
theorem S8 : V.ok .nils = true := nd rfl
theorem WF : V.ok (.fn f l) = true := nd rfl
theorem S6 : V.ok .nilf = true := nd rfl
end
theorem S9 : dD 1 .nilp .nilp = some true := nd rfl
theorem T7 {a : Loc} {p : List Nat} {t : Nat} : dD 1 .nilp (.ptr a p t) = some false := nd rfl
theorem Ue {a : Loc} {p : List Nat} {t : Nat} : dD 1 (.ptr a p t) .nilp = some false := nd rfl
theorem GB : dD 3 .nils .nils = some true := nd rfl
theorem GN {a : Loc} {p : List Nat} {o l e : Nat} {c : Option Nat} : dD 3 .nils (.sl a p o l c e) = some false := nd rfl
theorem Gv {a : Loc} {p : List Nat} {o l e : Nat} {c : Option Nat} : dD 3 (.sl a p o l c e) .nils = some false := nd rfl
theorem FE : dD 5 .nilf .nilf = some true := nd rfl
theorem GT {f : Nat} {l : List V} : dD 5 .nilf (.fn f l) = some false := nd rfl
theorem G6 {f : Nat} {l : List V} : dD 5 (.fn f l) .nilf = some false := nd rfl
theorem Gm {t : Nat} {x y : V} (h1 : t ≠ 1) (h3 : t ≠ 3) (h5 : t ≠ 5) : dD t x y = if x.tag = t ∧ y.tag = t then veq x y else none := by
 unfold dD;split
 ·exact absurd rfl h1
 ·exact absurd rfl h3
 ·exact absurd rfl h5
 ·rfl
theorem G7 {a b : Bool} : veq (.bool a) (.bool b) = some (a == b) := by simp only [veq]
theorem TJ {k k' : IntKind} {a b : Int} : veq (.int k a) (.int k' b) = if k = k' then some (decide (a = b)) else none := by simp only [veq]
theorem TL {a b : ByteArray} : veq (.str a) (.str b) = some (a.toList == b.toList) := by simp only [veq]
theorem Sr {t t' : Nat} {l l' : List V} : veq (.agg t l) (.agg t' l') = if t = t' then dE l l' else none := by simp only [veq]
theorem G8 : dE [] [] = some true := by simp only [dE]
theorem Ce {v v' : V} {l l' : List V} : dE (v :: l) (v' :: l') = aa (veq v v') fun b => if b = true then dE l l' else some false := by
 simp only [dE];cases veq v v' with
 | none => rfl
 | some b => cases b <;> rfl
attribute [go_sem] SE Gs U1 Sg F9 u7 yO xj Fl Bd vY Bx y9 Gk wM Eo AN
 yS BK FI He FT xP vX yA yo Xe Xi GK D9
 PT zp xJ DT Bj AA zI De Q0 Iq zT vr vG C0 tT xE Es Fa CY Ep Di zH Cx zK Cn C6 DK Cm Dy wR zA xr C4 xb EV xk DQ zV si FB B5 EQ k8 Hg vi Et GH Ek FG GG FR Cb Bc y8 BL and_true uR rq Gj Co ne_eq Loc.loc.injEq Loc.hp.injEq
 Gi eqv wu EX kr BH Tz SX Gy Th Em SN EC AI Fs Gn SP F8 Hb DB FQ F7 El dk aV Fx E4 Ti Ga SS Hl D8 Hi T8 Nat.le_refl Nat.le_add_right List.drop_length Bw Do DU Su GU
 Gd Sp Uf Sn Tq Fz Vu Fw Vi Hk TH UD VB VG UU Ts Ws S8 WF S6
 Sf r7 V6 wq Gp tu m9 QX lX nq WC En Gw kh zO Ca BC
 rV ye z6 qJ FS Ef GP
 Bh yw Tr Vs Vd SU Se SV SL Wd TA UT FH Wn Vw uE wz Gl uw
 WM Ub BY Ds Ec yr yN uS BP yT Ge
 Vp Bt Gb Sk Tl Ui Cp Ho Gq FX C9 D2 TO U2 TD C2 B7 BN yJ yk yp yW ite_self Bool.if_true_left Bool.if_true_right Bool.if_false_left Bool.if_false_right
 kW re Option.isSome_none Option.isSome_some
 iO Gc Fv u9 shf uZ BinOp.isShift TY SO Ud S9 T7 Ue GB GN Gv FE GT G6 Gm G7 TJ TL Sr G8 Ce am fK
 bJ BF BG Option.bind_some Option.bind_none Option.map_some Option.map_none Option.getD_some Option.getD_none
 List.map_cons List.map_nil List.cons_append List.nil_append List.append_assoc List.append_nil List.length_append List.length_cons List.length_nil List.getElem?_cons_zero List.getElem?_cons_succ List.getElem?_nil List.set_cons_zero List.set_cons_succ List.take_succ_cons List.take_zero List.take_length List.drop_zero List.drop_succ_cons
 List.all_cons List.all_nil Nat.zero_add Nat.add_zero if_true if_false ite_true ite_false Bool.true_and Bool.and_true Bool.false_or Bool.or_false Bool.true_or Bool.or_true Bool.false_and Bool.and_false Bool.not_true Bool.not_false
 eq_self true_and and_true false_and and_false true_or or_true false_or or_false Bool.false_eq_true not_true_eq_false not_false_eq_true decide_true decide_false decide_eq_true_eq decide_eq_false_iff_not Bool.not_eq_true Bool.not_eq_false Nat.reduceEqDiff Nat.reduceAdd Nat.reduceMod reduceIte Nat.le_refl Nat.le_add_right and_self or_self beq_self_eq_true reduceCtorEq
 Int.cast_ofNat_Int Int.reduceEq Int.reduceLT Int.reduceLE Int.reduceNeg Int.reduceToNat Int.reduceAdd Int.reduceSub Int.reduceMul Nat.reduceSub Nat.reduceMul Nat.reduceLT Nat.reduceLeDiff
instance (n : Nat) : OfNat Opd n := ⟨.t n⟩
def zi (n : Int) : Opd := .k (.int .i64 n)
def zf (n : Nat) : Opd := .k (.fn n [])
def zq (d : Nat) (o : Op') : Op := ⟨some d, none, o⟩
def zw (o : Op') : Op := ⟨none, none, o⟩
def zg (d t : Nat) (b : Bool) (o : Op') : Op := ⟨some d, some (t, b), o⟩
def zm (d : Nat) (x : Opd) : Op := ⟨some d, none, .mv x⟩
def zF (d t f u : Nat) (x : Opd) : Op := ⟨some d, none, .fad t f u x⟩
def zL (d t : Nat) (x : Opd) : Op := ⟨some d, none, .ld t x⟩
def zN (d : Nat) (x : Opd) : Op := ⟨some d, none, .nilc x⟩
def zB (d : Nat) (o : BinOp) (x y : Opd) : Op := ⟨some d, none, .bin o x y⟩
def zE (d : Nat) (x : Opd) (i : Nat) : Op := ⟨some d, none, .ext x i⟩
def zC (d : Nat) (f : Opd) (l : List Opd) : Op := ⟨some d, none, .call f l⟩
def zP (d : Nat) (x y z : Opd) : Op := ⟨some d, none, .pick x y z⟩
def zS (t : Nat) (x y : Opd) : Op := ⟨none, none, .st t x y⟩
def zR (ks : List Nat) (l : List Op) : C := .reg (some ks) l
def zD (ks : List Nat) (l : List Op) : C := .regd (some ks) l
abbrev OR := Option (Ex × Env × St)
theorem zr {base : Nat} {ρ : Env} {s : St} {ks : List Nat} {l : List Op} {x : OR} (h : rgO D base ks l ρ s = x := by kernel_rfl) : rc D base (.reg (some ks) l) ρ s = x := Gh.trans h
theorem zd {base : Nat} {ρ : Env} {s : St} {ks : List Nat} {l : List Op} {x : OR} (h : rgO D base ks l ρ s = x := by kernel_rfl) : rc D base (.regd (some ks) l) ρ s = x := CX.trans h
end Go.Ab
