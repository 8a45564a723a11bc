/-
  YtnffmibpblibdaaGreatDoorAbG: an abstract semantics of the program's code, and that what it tells holds of the program (part G).
-/
import Derived.Test.YtnffmibpblibdaaGreatDoorAbA
import Derived.Attr
import Derived.KernelRfl
set_option maxRecDepth 100000
namespace Go.Ab
variable {D : Nat → Option Fc}
theorem oi {f g : ca → St → Option Res} (h : ∀ t s r, f t s = some r → g t s = some r) {base : Nat} {ρ : Env} {s : St} {o : Op'} {q : V × St} (hq : aq f base ρ s o = some q) : aq g base ρ s o = some q := by
 cases o with
 | call fo args =>
  simp only [aq] at hq ⊢;cases hx : fo.ev ρ with
  | fn k caps =>
   simp only [hx] at hq;cases hf : f (.f k (args.map (Opd.ev ρ) ++ caps)) s with
   | none => rw [hf] at hq; cases hq
   | some x => rw [hf] at hq; simp only [h _ _ _ hf]; exact hq
  | _ => rw [hx] at hq; cases hq
 | pcall fo args =>
  simp only [aq] at hq ⊢;cases hx : fo.ev ρ with
  | fn k caps =>
   simp only [hx] at hq;by_cases hp : pOk base (aV base (args.map (Opd.ev ρ) ++ caps)) (args.map (Opd.ev ρ) ++ caps) s = true
   ·rw [if_pos hp] at hq;simp only [if_pos hp];cases hf : f (.f k (args.map (Opd.ev ρ) ++ caps)) (s.cut (aV base (args.map (Opd.ev ρ) ++ caps))) with
    | none => rw [hf] at hq; cases hq
    | some x => rw [hf] at hq; simp only [h _ _ _ hf]; exact hq
   ·rw [if_neg hp] at hq; cases hq
  | _ => rw [hx] at hq; cases hq
 | callw fo args w =>
  simp only [aq] at hq ⊢;split at hq
  ·rename_i hw;rw [if_pos hw];cases hx : fo.ev ρ with
   | fn k caps =>
    simp only [hx] at hq;cases hf : f (.f k (args.map (Opd.ev ρ) ++ caps)) s with
    | none => rw [hf] at hq; cases hq
    | some x => rw [hf] at hq; simp only [h _ _ _ hf]; exact hq
   | _ => rw [hx] at hq; cases hq
  ·cases hq
 | callk p fo args =>
  simp only [aq] at hq ⊢;cases hx : fo.ev ρ with
  | fn k caps =>
   simp only [hx] at hq;by_cases hp : pOk base (aV base (args.map (Opd.ev ρ) ++ caps)) (args.map (Opd.ev ρ) ++ caps) s = true
   ·rw [if_pos hp] at hq;simp only [if_pos hp];cases hf : f (.f k (args.map (Opd.ev ρ) ++ caps)) (s.cut (aV base (args.map (Opd.ev ρ) ++ caps))) with
    | none => rw [hf] at hq; cases hq
    | some x => rw [hf] at hq; simp only [h _ _ _ hf]; exact hq
   ·rw [if_neg hp] at hq; cases hq
  | _ => rw [hx] at hq; cases hq
 | _ => exact hq
theorem vO {f g : ca → St → Option Res} (h : ∀ t s r, f t s = some r → g t s = some r) {t : ca} {s : St} {r : Res} (hr : step D f t s = some r) : step D g t s = some r := by
 cases t with
 | c base c ρ =>
  cases c with
  | skip => exact hr
  | label _ => exact hr
  | ret => exact hr
  | exit _ => exact hr
  | reg keep ops =>
   simp only [step] at hr ⊢;cases hf : f (.o base ops ρ) s with
   | none => rw [hf] at hr; cases hr
   | some x => rw [hf] at hr; rw [h _ _ _ hf]; exact hr
  | regd keep ops =>
   simp only [step] at hr ⊢;cases hf : f (.o base ops ρ) s with
   | none => rw [hf] at hr; cases hr
   | some x => rw [hf] at hr; rw [h _ _ _ hf]; exact hr
  | seq a b =>
   simp only [step] at hr ⊢;cases hf : f (.c base a ρ) s with
   | none => rw [hf] at hr; cases hr
   | some x =>
    rw [hf] at hr; rw [h _ _ _ hf];cases x with
    | c e ρ' s' => cases e <;> first | exact h _ _ _ hr | exact hr
    | o _ _ => cases hr
    | v _ _ => cases hr
  | cond x a b =>
   simp only [step] at hr ⊢;cases hx : x.ev ρ with
   | bool t =>
    rw [hx] at hr;cases t
    ·exact h _ _ _ hr
    ·exact h _ _ _ hr
   | _ => rw [hx] at hr; cases hr
  | block id b =>
   simp only [step] at hr ⊢;cases hf : f (.c base b ρ) s with
   | none => rw [hf] at hr; cases hr
   | some x => rw [hf] at hr; rw [h _ _ _ hf]; exact hr
  | scope b =>
   simp only [step] at hr ⊢;cases hf : f (.c base b ρ) s with
   | none => rw [hf] at hr; cases hr
   | some x => rw [hf] at hr; rw [h _ _ _ hf]; exact hr
  | loop keep b =>
   simp only [step] at hr ⊢;cases hf : f (.c base b (restrict keep ρ)) s with
   | none => rw [hf] at hr; cases hr
   | some x =>
    rw [hf] at hr; rw [h _ _ _ hf];cases x with
    | c e ρ' s' =>
     cases e with
     | normal =>
      simp only at hr ⊢;split at hr
      ·rename_i hc; rw [if_pos hc]; exact h _ _ _ hr
      ·cases hr
     | exit _ => exact hr
     | ret => exact hr
    | o _ _ => cases hr
    | v _ _ => cases hr
 | o base l ρ =>
  cases l with
  | nil => exact hr
  | cons op rest =>
   simp only [step] at hr ⊢;cases hg : aN op.guard ρ with
   | none => rw [hg] at hr; cases hr
   | some gb =>
    rw [hg] at hr;cases gb with
    | false => exact h _ _ _ hr
    | true =>
     cases hq : aq f base ρ s op.op with
     | none => simp only [hq] at hr; cases hr
     | some q =>
      simp only [hq] at hr;simp only [oi h hq];exact h _ _ _ hr
 | f fn args =>
  simp only [step] at hr ⊢;cases hfc : D fn with
  | none => rw [hfc] at hr; cases hr
  | some fc =>
   rw [hfc] at hr;simp only at hr ⊢;by_cases hlen : args.length = fc.n
   ·rw [if_pos hlen] at hr ⊢;cases hf : f (.c s.loc.length fc.body (fU 0 args)) s with
    | none => rw [hf] at hr; cases hr
    | some x => rw [hf] at hr; rw [h _ _ _ hf]; exact hr
   ·rw [if_neg hlen] at hr; cases hr
theorem j5 : ∀ (n : Nat) {t : ca} {s : St} {r : Res}, ev D n t s = some r → ev D (n + 1) t s = some r
 | 0, _, _, _, h => by cases h
 | n + 1, _, _, _, h => vO (fun _ _ _ h => j5 n h) h
theorem oe {n m : Nat} (hnm : n ≤ m) {t : ca} {s : St} {r : Res} (h : ev D n t s = some r) : ev D m t s = some r := by
 induction hnm with
 | refl => exact h
 | step _ ih => exact j5 _ ih
open Classical in
noncomputable def run (D : Nat → Option Fc) (t : ca) (s : St) : Option Res :=
 if h : ∃ n r, ev D n t s = some r then some h.choose_spec.choose else none
theorem cI {t : ca} {s : St} {r : Res} : run D t s = some r ↔ ∃ n, ev D n t s = some r := by
 unfold run;constructor
 ·intro h;split at h
  ·rename_i hx;cases h;exact ⟨_, hx.choose_spec.choose_spec⟩
  ·cases h
 ·rintro ⟨n, hn⟩;have hx : ∃ n r, ev D n t s = some r := ⟨n, r, hn⟩;rw [dif_pos hx];have h1 := hx.choose_spec.choose_spec;have h2 := oe (Nat.le_max_left hx.choose n) h1;have h3 := oe (Nat.le_max_right hx.choose n) hn;rw [h2] at h3;exact h3
theorem og {n : Nat} {t : ca} {s : St} {r : Res} (h : ev D n t s = some r) : run D t s = some r := cI.2 ⟨n, h⟩
theorem F9 {base : Nat} {ρ : Env} {s : St} {o : Op'} {q : V × St} (hq : aq (run D) base ρ s o = some q) : ∃ n, aq (ev D n) base ρ s o = some q := by
 cases o with
 | call fo args =>
  simp only [aq] at hq ⊢;cases hx : fo.ev ρ with
  | fn k caps =>
   simp only [hx] at hq;cases hf : run D (.f k (args.map (Opd.ev ρ) ++ caps)) s with
   | none => rw [hf] at hq; cases hq
   | some x => rw [hf] at hq; obtain ⟨n, hn⟩ := cI.1 hf; exact ⟨n, by simp only [hn]; exact hq⟩
  | _ => rw [hx] at hq; cases hq
 | pcall fo args =>
  simp only [aq] at hq ⊢;cases hx : fo.ev ρ with
  | fn k caps =>
   simp only [hx] at hq;by_cases hp : pOk base (aV base (args.map (Opd.ev ρ) ++ caps)) (args.map (Opd.ev ρ) ++ caps) s = true
   ·rw [if_pos hp] at hq;simp only [if_pos hp];cases hf : run D (.f k (args.map (Opd.ev ρ) ++ caps)) (s.cut (aV base (args.map (Opd.ev ρ) ++ caps))) with
    | none => rw [hf] at hq; cases hq
    | some x => rw [hf] at hq; obtain ⟨n, hn⟩ := cI.1 hf; exact ⟨n, by simp only [hn]; exact hq⟩
   ·rw [if_neg hp] at hq; cases hq
  | _ => rw [hx] at hq; cases hq
 | callw fo args w =>
  simp only [aq] at hq ⊢;split at hq
  ·rename_i hw;simp only [if_pos hw];cases hx : fo.ev ρ with
   | fn k caps =>
    simp only [hx] at hq;cases hf : run D (.f k (args.map (Opd.ev ρ) ++ caps)) s with
    | none => rw [hf] at hq; cases hq
    | some x => rw [hf] at hq; obtain ⟨n, hn⟩ := cI.1 hf; exact ⟨n, by simp only [hn]; exact hq⟩
   | _ => rw [hx] at hq; cases hq
  ·cases hq
 | callk p fo args =>
  simp only [aq] at hq ⊢;cases hx : fo.ev ρ with
  | fn k caps =>
   simp only [hx] at hq;by_cases hp : pOk base (aV base (args.map (Opd.ev ρ) ++ caps)) (args.map (Opd.ev ρ) ++ caps) s = true
   ·rw [if_pos hp] at hq;simp only [if_pos hp];cases hf : run D (.f k (args.map (Opd.ev ρ) ++ caps)) (s.cut (aV base (args.map (Opd.ev ρ) ++ caps))) with
    | none => rw [hf] at hq; cases hq
    | some x => rw [hf] at hq; obtain ⟨n, hn⟩ := cI.1 hf; exact ⟨n, by simp only [hn]; exact hq⟩
   ·rw [if_neg hp] at hq; cases hq
  | _ => rw [hx] at hq; cases hq
 | _ => exact ⟨0, hq⟩
theorem GN {t : ca} {s : St} {r : Res} (hr : step D (run D) t s = some r) : ∃ n, step D (ev D n) t s = some r := by
 cases t with
 | c base c ρ =>
  cases c with
  | skip => exact ⟨0, hr⟩
  | label _ => exact ⟨0, hr⟩
  | ret => exact ⟨0, hr⟩
  | exit _ => exact ⟨0, hr⟩
  | reg keep ops =>
   simp only [step] at hr ⊢;cases hf : run D (.o base ops ρ) s with
   | none => rw [hf] at hr; cases hr
   | some x => rw [hf] at hr; obtain ⟨n, hn⟩ := cI.1 hf; exact ⟨n, by rw [hn]; exact hr⟩
  | regd keep ops =>
   simp only [step] at hr ⊢;cases hf : run D (.o base ops ρ) s with
   | none => rw [hf] at hr; cases hr
   | some x => rw [hf] at hr; obtain ⟨n, hn⟩ := cI.1 hf; exact ⟨n, by rw [hn]; exact hr⟩
  | seq a b =>
   simp only [step] at hr ⊢;cases hf : run D (.c base a ρ) s with
   | none => rw [hf] at hr; cases hr
   | some x =>
    rw [hf] at hr; obtain ⟨n, hn⟩ := cI.1 hf;cases x with
    | c e ρ' s' =>
     cases e with
     | normal =>
      obtain ⟨m, hm⟩ := cI.1 hr;exact ⟨max n m, by rw [oe (Nat.le_max_left n m) hn]; exact oe (Nat.le_max_right n m) hm⟩
     | exit _ => exact ⟨n, by rw [hn]; exact hr⟩
     | ret => exact ⟨n, by rw [hn]; exact hr⟩
    | o _ _ => cases hr
    | v _ _ => cases hr
  | cond x a b =>
   simp only [step] at hr ⊢;cases hx : x.ev ρ with
   | bool t =>
    rw [hx] at hr;cases t
    ·obtain ⟨n, hn⟩ := cI.1 hr;exact ⟨n, hn⟩
    ·obtain ⟨n, hn⟩ := cI.1 hr;exact ⟨n, hn⟩
   | _ => rw [hx] at hr; cases hr
  | block id b =>
   simp only [step] at hr ⊢;cases hf : run D (.c base b ρ) s with
   | none => rw [hf] at hr; cases hr
   | some x => rw [hf] at hr; obtain ⟨n, hn⟩ := cI.1 hf; exact ⟨n, by rw [hn]; exact hr⟩
  | scope b =>
   simp only [step] at hr ⊢;cases hf : run D (.c base b ρ) s with
   | none => rw [hf] at hr; cases hr
   | some x => rw [hf] at hr; obtain ⟨n, hn⟩ := cI.1 hf; exact ⟨n, by rw [hn]; exact hr⟩
  | loop keep b =>
   simp only [step] at hr ⊢;cases hf : run D (.c base b (restrict keep ρ)) s with
   | none => rw [hf] at hr; cases hr
   | some x =>
    rw [hf] at hr; obtain ⟨n, hn⟩ := cI.1 hf;cases x with
    | c e ρ' s' =>
     cases e with
     | normal =>
      simp only at hr;split at hr
      ·rename_i hc;obtain ⟨m, hm⟩ := cI.1 hr;exact ⟨max n m, by rw [oe (Nat.le_max_left n m) hn]; simp only; rw [if_pos hc]; exact oe (Nat.le_max_right n m) hm⟩
      ·cases hr
     | exit _ => exact ⟨n, by rw [hn]; exact hr⟩
     | ret => exact ⟨n, by rw [hn]; exact hr⟩
    | o _ _ => cases hr
    | v _ _ => cases hr
 | o base l ρ =>
  cases l with
  | nil => exact ⟨0, hr⟩
  | cons op rest =>
   simp only [step] at hr ⊢;cases hg : aN op.guard ρ with
   | none => rw [hg] at hr; cases hr
   | some gb =>
    rw [hg] at hr;cases gb with
    | false => exact cI.1 hr
    | true =>
     cases hq : aq (run D) base ρ s op.op with
     | none => simp only [hq] at hr; cases hr
     | some q =>
      simp only [hq] at hr;obtain ⟨n, hn⟩ := F9 hq;obtain ⟨m, hm⟩ := cI.1 hr;exact ⟨max n m, by simp only [oi (fun _ _ _ h => oe (Nat.le_max_left n m) h) hn]; exact oe (Nat.le_max_right n m) hm⟩
 | f fn args =>
  simp only [step] at hr ⊢;cases hfc : D fn with
  | none => rw [hfc] at hr; cases hr
  | some fc =>
   rw [hfc] at hr;simp only at hr ⊢;by_cases hlen : args.length = fc.n
   ·simp only [if_pos hlen] at hr ⊢;cases hf : run D (.c s.loc.length fc.body (fU 0 args)) s with
    | none => rw [hf] at hr; cases hr
    | some x => rw [hf] at hr; obtain ⟨n, hn⟩ := cI.1 hf; exact ⟨n, by rw [hn]; exact hr⟩
   ·rw [if_neg hlen] at hr; cases hr
theorem ea (t : ca) (s : St) : run D t s = step D (run D) t s := by
 apply Option.ext;intro r;constructor
 ·intro h;obtain ⟨n, hn⟩ := cI.1 h;cases n with
  | zero => cases hn
  | succ n => exact vO (fun _ _ _ h => og h) hn
 ·intro h;obtain ⟨n, hn⟩ := GN h;exact og (n := n + 1) hn
noncomputable def rc (D : Nat → Option Fc) (base : Nat) (c : C) (ρ : Env) (s : St) : Option (Ex × Env × St) :=
 match run D (.c base c ρ) s with
 | some (.c e ρ' s') => some (e, ρ', s')
 | _ => none
noncomputable def ro (D : Nat → Option Fc) (base : Nat) (l : List Op) (ρ : Env) (s : St) : Option (Env × St) :=
 match run D (.o base l ρ) s with
 | some (.o ρ' s') => some (ρ', s')
 | _ => none
noncomputable def rf (D : Nat → Option Fc) (f : Nat) (args : List V) (s : St) : Option (V × St) :=
 match run D (.f f args) s with
 | some (.v v s') => some (v, s')
 | _ => none
theorem wA {f : Nat} {args : List V} {s : St} {v : V} {s' : St} : rf D f args s = some (v, s') ↔ run D (.f f args) s = some (.v v s') := by
 unfold rf; constructor
 ·intro h; split at h
  ·rename_i hh; cases h; exact hh
  ·cases h
 ·intro h; rw [h]
section
variable {base : Nat} {ρ : Env} {s : St}
theorem TU : rc D base .skip ρ s = some (.normal, ρ, s) := by simp only [rc, ea, step]
theorem Gm {l : Nat} : rc D base (.label l) ρ s = some (.normal, ρ, s) := by simp only [rc, ea, step]
theorem Uh : rc D base .ret ρ s = some (.ret, ρ, s) := by simp only [rc, ea, step]
theorem Sm {id : Nat} : rc D base (.exit id) ρ s = some (.exit id, ρ, s) := by simp only [rc, ea, step]
theorem UX {keep : Option (List Nat)} {ops : List Op} : rc D base (.reg keep ops) ρ s = (ro D base ops ρ s).bind fun x => some (.normal, jL keep x.1, x.2) := by
 simp only [rc, ro]; rw [ea]; simp only [step];cases run D (.o base ops ρ) s with
 | none => rfl
 | some x => cases x <;> rfl
theorem Sg {keep : Option (List Nat)} {ops : List Op} : rc D base (.regd keep ops) ρ s = (ro D base ops ρ s).bind fun x => some (.normal, jL keep x.1, x.2) := by
 simp only [rc, ro]; rw [ea]; simp only [step];cases run D (.o base ops ρ) s with
 | none => rfl
 | some x => cases x <;> rfl
noncomputable def andThen (D : Nat → Option Fc) (base : Nat) (b : C) (x : Ex × Env × St) : Option (Ex × Env × St) :=
 match x with
 | (.normal, ρ, s) => rc D base b ρ s
 | x => some x
theorem u4 {b : C} : andThen D base b (.normal, ρ, s) = rc D base b ρ s := rfl
theorem yk {b : C} : andThen D base b (.ret, ρ, s) = some (.ret, ρ, s) := rfl
theorem yh {b : C} {id : Nat} : andThen D base b (.exit id, ρ, s) = some (.exit id, ρ, s) := rfl
theorem Vb {a b : C} : rc D base (.seq a b) ρ s = (rc D base a ρ s).bind (andThen D base b) := by
 simp only [rc]; rw [ea]; simp only [step];cases run D (.c base a ρ) s with
 | none => rfl
 | some x =>
  cases x with
  | c e ρ' s' => cases e <;> rfl
  | _ => rfl
theorem TN {x : Opd} {a b : C} : rc D base (.cond x a b) ρ s = match x.ev ρ with
 | .bool t => if t then rc D base a ρ s else rc D base b ρ s
 | _ => none := by
 simp only [rc]; rw [ea]; simp only [step];cases x.ev ρ with
 | bool t => cases t <;> rfl
 | _ => rfl
def IL (id : Nat) (x : Ex × Env × St) : Ex × Env × St :=
 match x with
 | (.exit id', ρ, s) => (if id' = id then .normal else .exit id', ρ, s)
 | x => x
theorem Hi {id : Nat} {b : C} : rc D base (.block id b) ρ s = (rc D base b ρ s).bind fun x => some (IL id x) := by
 simp only [rc]; rw [ea]; simp only [step];cases run D (.c base b ρ) s with
 | none => rfl
 | some x =>
  cases x with
  | c e ρ' s' => cases e <;> rfl
  | _ => rfl
theorem Gi {b : C} : rc D base (.scope b) ρ s = rc D base b ρ s := by
 simp only [rc]; rw [ea]; simp only [step];cases run D (.c base b ρ) s with
 | none => rfl
 | some x =>
  cases x with
  | c e ρ' s' => cases e <;> rfl
  | _ => rfl
noncomputable def jk (D : Nat → Option Fc) (base n : Nat) (keep : List Nat) (b : C) (x : Ex × Env × St) : Option (Ex × Env × St) :=
 match x with
 | (.normal, ρ, s) => if fI base n (restrict keep ρ) s then rc D base (.loop keep b) (restrict keep ρ) { s with loc := s.loc.take n } else none
 | x => some x
theorem xd {n : Nat} {keep : List Nat} {b : C} : jk D base n keep b (.normal, ρ, s) = if fI base n (restrict keep ρ) s then rc D base (.loop keep b) (restrict keep ρ) { s with loc := s.loc.take n } else none := rfl
theorem Df {n : Nat} {keep : List Nat} {b : C} : jk D base n keep b (.ret, ρ, s) = some (.ret, ρ, s) := rfl
theorem Bx {n : Nat} {keep : List Nat} {b : C} {id : Nat} : jk D base n keep b (.exit id, ρ, s) = some (.exit id, ρ, s) := rfl
theorem kp {ks : List Nat} {ρ : Env} {k : Nat} (h : k ∈ ks) : get (restrict ks ρ) k = get ρ k := by
 induction ks with
 | nil => cases h
 | cons j ks ih =>
  simp only [restrict, List.map_cons, get];by_cases hj : j = k
  ·rw [if_pos hj, hj]
  ·rw [if_neg hj];exact ih (by cases h with | head => exact absurd rfl hj | tail _ h => exact h)
theorem sD (ks : List Nat) (ρ : Env) : restrict ks (restrict ks ρ) = restrict ks ρ := by
 unfold restrict;apply List.map_congr_left;intro k hk;rw [show get (ks.map fun k => (k, get ρ k)) k = get ρ k from kp hk]
theorem tb {keep : List Nat} {b : C} : rc D base (.loop keep b) ρ s = (rc D base b (restrict keep ρ) s).bind fun x => match x with
 | (.normal, ρ', s') => if fI base s.loc.length (restrict keep ρ') s' then rc D base (.loop keep b) ρ' { s' with loc := s'.loc.take s.loc.length } else none
 | x => some x := by
 simp only [rc]; rw [ea]; simp only [step];cases run D (.c base b (restrict keep ρ)) s with
 | none => rfl
 | some x =>
  cases x with
  | c e ρ' s' =>
   cases e with
   | normal =>
    simp only [Option.bind_some];by_cases hc : fI base s.loc.length (restrict keep ρ') s' = true
    ·rw [if_pos hc, if_pos hc]
    ·rw [if_neg hc, if_neg hc]
   | _ => rfl
  | _ => rfl
theorem td {keep : List Nat} {b : C} : rc D base (.loop keep b) (restrict keep ρ) s = rc D base (.loop keep b) ρ s := by
 rw [tb, tb (ρ := ρ), sD]
theorem SU {keep : List Nat} {b : C} : rc D base (.loop keep b) ρ s = (rc D base b (restrict keep ρ) s).bind (jk D base s.loc.length keep b) := by
 rw [tb];congr 1;funext x;obtain ⟨e, ρ', s'⟩ := x;cases e with
 | normal => simp only [jk, td]
 | _ => rfl
theorem D6 : ro D base [] ρ s = some (ρ, s) := by simp only [ro, ea, step]
noncomputable def rop (D : Nat → Option Fc) (base : Nat) (ρ : Env) (s : St) : Op' → Option (V × St)
 | .call f args => match f.ev ρ with
  | .fn g caps => rf D g (args.map (Opd.ev ρ) ++ caps) s
  | _ => none
 | .pcall f args => match f.ev ρ with
  | .fn g caps => if pOk base (aV base (args.map (Opd.ev ρ) ++ caps)) (args.map (Opd.ev ρ) ++ caps) s = true then
   (rf D g (args.map (Opd.ev ρ) ++ caps) (s.cut (aV base (args.map (Opd.ev ρ) ++ caps)))).bind fun x => if x.2 = s.cut (aV base (args.map (Opd.ev ρ) ++ caps)) ∧ x.1.flat = true then some (x.1, s) else none
   else none
  | _ => none
 | .callw f args w => if ot s (w.ev ρ) = true then
  match f.ev ρ with
  | .fn g caps => rf D g (args.map (Opd.ev ρ) ++ caps) s
  | _ => none
  else none
 | .callk p f args => match f.ev ρ with
  | .fn g caps => if pOk base (aV base (args.map (Opd.ev ρ) ++ caps)) (args.map (Opd.ev ρ) ++ caps) s = true then
   (rf D g (args.map (Opd.ev ρ) ++ caps) (s.cut (aV base (args.map (Opd.ev ρ) ++ caps)))).bind fun x => if wL p (s.cut (aV base (args.map (Opd.ev ρ) ++ caps))) x.2 then some (x.1, { x.2 with loc := s.loc }) else none
   else none
  | _ => none
 | o => evOp base ρ s o
theorem Gp {o : Op'} : aq (run D) base ρ s o = rop D base ρ s o := by
 cases o with
 | call f args =>
  simp only [aq, rop];cases f.ev ρ with
  | fn g caps =>
   simp only [rf];cases run D (.f g (args.map (Opd.ev ρ) ++ caps)) s with
   | none => rfl
   | some x => cases x <;> rfl
  | _ => rfl
 | pcall f args =>
  simp only [aq, rop];cases f.ev ρ with
  | fn g caps =>
   simp only [rf];split
   ·cases run D (.f g (args.map (Opd.ev ρ) ++ caps)) (s.cut (aV base (args.map (Opd.ev ρ) ++ caps))) with
    | none => rfl
    | some x => cases x <;> rfl
   ·rfl
  | _ => rfl
 | callw f args w =>
  simp only [aq, rop];split
  ·cases f.ev ρ with
   | fn g caps =>
    simp only [rf];cases run D (.f g (args.map (Opd.ev ρ) ++ caps)) s with
    | none => rfl
    | some x => cases x <;> rfl
   | _ => rfl
  ·rfl
 | callk p f args =>
  simp only [aq, rop];cases f.ev ρ with
  | fn g caps =>
   simp only [rf];split
   ·cases run D (.f g (args.map (Opd.ev ρ) ++ caps)) (s.cut (aV base (args.map (Opd.ev ρ) ++ caps))) with
    | none => rfl
    | some x => cases x <;> rfl
   ·rfl
  | _ => rfl
 | _ => rfl
theorem r7 {op : Op} {rest : List Op} : ro D base (op :: rest) ρ s = match aN op.guard ρ with
 | none => none
 | some false => ro D base rest (put op.dst (.tup []) ρ) s
 | some true => (rop D base ρ s op.op).bind fun x => ro D base rest (put op.dst x.1 ρ) x.2 := by
 unfold ro;rw [ea]; simp only [step, Gp];cases aN op.guard ρ with
 | none => rfl
 | some gb =>
  cases gb with
  | false => rfl
  | true =>
   cases rop D base ρ s op.op with
   | none => rfl
   | some x => rfl
def lh (n : Nat) (res : List RV) (x : Ex × Env × St) : Option (V × St) :=
 match x with
 | (.exit _, _, _) => none
 | (_, ρ, s) => match db ρ s res with
  | some v => if v.locLt n ∧ n ≤ s.loc.length then some (v, { s with loc := s.loc.take n }) else none
  | none => none
theorem Fi {n : Nat} {res : List RV} : lh n res (.ret, ρ, s) = match db ρ s res with
 | some v => if v.locLt n ∧ n ≤ s.loc.length then some (v, { s with loc := s.loc.take n }) else none
 | none => none := rfl
theorem xh {n : Nat} {res : List RV} : lh n res (.normal, ρ, s) = match db ρ s res with
 | some v => if v.locLt n ∧ n ≤ s.loc.length then some (v, { s with loc := s.loc.take n }) else none
 | none => none := rfl
theorem Wu {f : Nat} {fc : Fc} (hf : D f = some fc) {args : List V} (hn : args.length = fc.n) :
 rf D f args s = (rc D s.loc.length fc.body (fU 0 args) s).bind (lh s.loc.length fc.res) := by
 unfold rf rc;rw [ea]; simp only [step, hf, hn, if_true];cases run D (.c s.loc.length fc.body (fU 0 args)) s with
 | none => rfl
 | some x =>
  cases x with
  | c e ρ' s' =>
   cases e with
   | exit _ => rfl
   | normal =>
    simp only [Option.bind_some, lh];cases db ρ' s' fc.res with
    | none => rfl
    | some v =>
     simp only;by_cases hv : v.locLt s.loc.length = true ∧ s.loc.length ≤ s'.loc.length
     ·simp only [if_pos hv]
     ·simp only [if_neg hv]
   | ret =>
    simp only [Option.bind_some, lh];cases db ρ' s' fc.res with
    | none => rfl
    | some v =>
     simp only;by_cases hv : v.locLt s.loc.length = true ∧ s.loc.length ≤ s'.loc.length
     ·simp only [if_pos hv]
     ·simp only [if_neg hv]
  | _ => rfl
end
end Go.Ab
namespace Go.Ab
variable {D : Nat → Option Fc} {base : Nat} {ρ : Env} {s : St}
theorem nd {α : Sort _} {a b : α} (h : a = b) : a = b := h
def aa {α β : Type} (x : Option α) (f : α → Option β) : Option β := x.bind f
theorem bK {α β : Type} {a : α} {f : α → Option β} : aa (some a) f = f a := nd rfl
theorem Aw {α β : Type} {f : α → Option β} : aa none f = none := nd rfl
@[congr] theorem VO {α β : Type} {x y : Option α} {f : α → Option β} (h : x = y) : aa x f = aa y f := by rw [h]
theorem rk {α β : Type} {c : Prop} [Decidable c] {x y : Option α} {f : α → Option β} : aa (if c then x else y) f = if c then aa x f else aa y f := by split <;> rfl
def oh {α : Type} (v : V) (f : Bool → Option α) : Option α := match v with | .bool t => f t | _ => none
theorem BO {α : Type} {t : Bool} {f : Bool → Option α} : oh (.bool t) f = f t := nd rfl
@[congr] theorem VP {α : Type} {v w : V} {f : Bool → Option α} (h : v = w) : oh v f = oh w f := by rw [h]
theorem GH {a b : C} : rc D base (.seq a b) ρ s = aa (rc D base a ρ s) (andThen D base b) := Vb
def nN (id : Nat) (x : Ex × Env × St) : Option (Ex × Env × St) := some (IL id x)
theorem vZ {id : Nat} : nN id (.normal, ρ, s) = some (.normal, ρ, s) := nd rfl
theorem Bb {id : Nat} : nN id (.ret, ρ, s) = some (.ret, ρ, s) := nd rfl
theorem yI {id id' : Nat} : nN id (.exit id', ρ, s) = some (if id' = id then .normal else .exit id', ρ, s) := nd rfl
theorem BW {id : Nat} {b : C} : rc D base (.block id b) ρ s = aa (rc D base b ρ s) (nN id) := Hi
theorem aR {keep : List Nat} {b : C} : rc D base (.loop keep b) ρ s = aa (rc D base b (restrict keep ρ) s) (jk D base s.loc.length keep b) := SU
theorem ah {f : Nat} {fc : Fc} (hf : D f = some fc) {args : List V} (hn : args.length = fc.n) :
 rf D f args s = aa (rc D s.loc.length fc.body (fU 0 args) s) (lh s.loc.length fc.res) := Wu hf hn
theorem Cq {x : Opd} {a b : C} : rc D base (.cond x a b) ρ s = oh (x.ev ρ) fun t => if t then rc D base a ρ s else rc D base b ρ s := by
 rw [TN];cases x.ev ρ <;> rfl
def bj (ρ ρ' : Env) : Prop := ∀ t, get ρ t = get ρ' t
theorem bj.ev {ρ ρ' : Env} (h : bj ρ ρ') : Opd.ev ρ = Opd.ev ρ' := by
 funext x;cases x with
 | t n => exact h n
 | k v => rfl
theorem bj.put {ρ ρ' : Env} (h : bj ρ ρ') (d : Option Nat) (v : V) : bj (put d v ρ) (put d v ρ') := by
 intro t;cases d with
 | none => exact h t
 | some k => simp only [Ab.put, get, h t]
theorem bj.evOp {ρ ρ' : Env} (h : bj ρ ρ') (o : Op') : evOp base ρ s o = evOp base ρ' s o := by
 have he := h.ev;cases o <;> simp only [Ab.evOp, he]
theorem bj.rop {ρ ρ' : Env} (h : bj ρ ρ') (o : Op') : rop D base ρ s o = rop D base ρ' s o := by
 have he := h.ev;cases o with
 | call f args => simp only [Ab.rop, he]
 | pcall f args => simp only [Ab.rop, he]
 | callw f args w => simp only [Ab.rop, he]
 | callk p f args => simp only [Ab.rop, he]
 | _ => simp only [Ab.rop]; exact h.evOp _
theorem bj.guard {ρ ρ' : Env} (h : bj ρ ρ') (g : Option (Nat × Bool)) : aN g ρ = aN g ρ' := by
 cases g with
 | none => rfl
 | some x => simp only [aN, h x.1]
theorem bj.restrict {ρ ρ' : Env} (h : bj ρ ρ') (ks : List Nat) : restrict ks ρ = restrict ks ρ' := by
 simp only [Ab.restrict, h _]
theorem bj.ro {ks : List Nat} : ∀ (l : List Op) {ρ ρ' : Env} {s : St}, bj ρ ρ' → (ro D base l ρ s).bind (fun x => some (Ex.normal, Ab.restrict ks x.1, x.2)) = (ro D base l ρ' s).bind (fun x => some (Ex.normal, Ab.restrict ks x.1, x.2))
 | [], ρ, ρ', s, h => by simp only [D6, Option.bind_some, h.restrict]
 | op :: l, ρ, ρ', s, h => by
  rw [r7, r7, h.guard];cases aN op.guard ρ' with
  | none => rfl
  | some b =>
   cases b with
   | false => exact bj.ro l (h.put _ _)
   | true =>
    simp only [h.rop];cases Ab.rop D base ρ' s op.op with
    | none => rfl
    | some x => exact bj.ro l (h.put _ _)
theorem bj.of_get {t : Nat} {v : V} (h : get ρ t = v) : bj ρ ((t, v) :: ρ) := by
 intro k;simp only [get];split
 ·rename_i e; rw [← e, h]
 ·rfl
noncomputable def rg (D : Nat → Option Fc) (base : Nat) (ks : List Nat) (l : List Op) (ρ : Env) (s : St) : Option (Ex × Env × St) :=
 (ro D base l ρ s).bind fun x => some (Ex.normal, restrict ks x.1, x.2)
theorem UW {ks : List Nat} : rg D base ks [] ρ s = some (Ex.normal, restrict ks ρ, s) := by simp only [rg, D6, Option.bind_some]
theorem Xa {ks : List Nat} {d : Option Nat} {o : Op'} {rest : List Op} : rg D base ks (⟨d, none, o⟩ :: rest) ρ s = aa (rop D base ρ s o) fun x => rg D base ks rest (put d x.1 ρ) x.2 := by
 simp only [rg];rw [r7];simp only [aN];cases rop D base ρ s o <;> rfl
def al {α : Type} (v : V) (b : Bool) (A B C : Option α) : Option α :=
 match v with
 | .bool x => if x = b then A else B
 | .tup [] => C
 | _ => none
theorem yp {α : Type} {x b : Bool} {A B C : Option α} : al (.bool x) b A B C = if x = b then A else B := nd rfl
theorem AK {α : Type} {b : Bool} {A B C : Option α} : al (.tup []) b A B C = C := nd rfl
theorem tR {α : Type} {v : V} {b : Bool} {A B C A' B' C' : Option α} (hA : v = .bool b → A = A') (hB : v = .bool (!b) → B = B') (hC : v = .tup [] → C = C') : al v b A B C = al v b A' B' C' := by
 unfold al;split
 ·rename_i x;split
  ·rename_i h; exact hA (by rw [h])
  ·rename_i h; exact hB (by cases x <;> cases b <;> simp_all)
 ·exact hC rfl
 ·rfl
theorem WO {ks : List Nat} {d : Option Nat} {t : Nat} {b : Bool} {o : Op'} {rest : List Op} : rg D base ks (⟨d, some (t, b), o⟩ :: rest) ρ s =
 al (get ρ t) b (aa (rop D base ρ s o) fun y => rg D base ks rest (put d y.1 ((t, .bool b) :: ρ)) y.2) (rg D base ks rest (put d (.tup []) ((t, .bool !b) :: ρ)) s) (rg D base ks rest (put d (.tup []) ((t, .tup []) :: ρ)) s) := by
 have h0 : rg D base ks (⟨d, some (t, b), o⟩ :: rest) ρ s = al (get ρ t) b (aa (rop D base ρ s o) fun y => rg D base ks rest (put d y.1 ρ) y.2) (rg D base ks rest (put d (.tup []) ρ) s) (rg D base ks rest (put d (.tup []) ρ) s) := by
  simp only [rg];rw [r7];simp only [aN];cases hv : get ρ t with
  | bool x =>
   simp only [al];by_cases hxb : x = b
   ·subst hxb;simp only [beq_self_eq_true, if_true];cases rop D base ρ s o <;> rfl
   ·have hxb' : (x == b) = false := by simp [hxb]
    simp only [hxb', if_neg hxb]
  | tup l => cases l <;> rfl
  | _ => rfl
 rw [h0];refine tR (fun hv => ?_) (fun hv => ?_) (fun hv => bj.ro rest ((bj.of_get hv).put _ _))
 ·cases rop D base ρ s o with
  | none => rfl
  | some y => exact bj.ro rest ((bj.of_get hv).put _ _)
 ·exact bj.ro rest ((bj.of_get hv).put _ _)
theorem FN {t : Nat} {v : V} : put (some t) v ρ = (t, v) :: ρ := nd rfl
theorem G5 {v : V} : put none v ρ = ρ := nd rfl
theorem FZ {k t : Nat} {v : V} : get ((k, v) :: ρ) t = if k = t then v else get ρ t := nd rfl
theorem wC : restrict [] ρ = [] := nd rfl
theorem vT {k : Nat} {ks : List Nat} : restrict (k :: ks) ρ = (k, get ρ k) :: restrict ks ρ := nd rfl
theorem yQ {ks : List Nat} : jL (some ks) ρ = restrict ks ρ := nd rfl
theorem yO : jL none ρ = ρ := nd rfl
theorem Xe {n : Nat} : Opd.ev ρ (.t n) = get ρ n := nd rfl
theorem Xi {v : V} : Opd.ev ρ (.k v) = v := nd rfl
theorem Fs {i : Nat} : fU i [] = [] := nd rfl
theorem Cc {i : Nat} {v : V} {l : List V} : fU i (v :: l) = (i, v) :: fU (i + 1) l := nd rfl
section ops
variable {x y a b c p i : Opd}
theorem Q5 : rop D base ρ s (.mv x) = some (x.ev ρ, s) := nd rfl
theorem zv : rop D base ρ s (.pick c a b) = oh (c.ev ρ) fun t => some (if t then a.ev ρ else b.ev ρ, s) := nd rfl
theorem wN {h : Bool} {z : V} : rop D base ρ s (.alloc h z) = some (.ptr (s.fresh h) [] z.tag, s.new h z) := nd rfl
theorem DJ {h : Bool} : rop D base ρ s (.box h x) = if (x.ev ρ).ok && ay h (x.ev ρ) then some (.ptr (s.fresh h) [] (x.ev ρ).tag, s.new h (x.ev ρ)) else none := nd rfl
def ldv (s : St) (t : Nat) : V → Option V
 | .ptr a path t' => if t' = t then s.read a path else none
 | _ => none
theorem T6 {t t' : Nat} {a : Loc} {path : List Nat} : ldv s t (.ptr a path t') = if t' = t then s.read a path else none := nd rfl
theorem BK {t : Nat} : rop D base ρ s (.ld t p) = aa (ldv s t (p.ev ρ)) fun v => some (v, s) := by
 show evOp base ρ s (.ld t p) = _;simp only [evOp];cases p.ev ρ with
 | ptr a path t' =>
  simp only [ldv];split
  ·cases s.read a path <;> rfl
  ·rfl
 | _ => rfl
def stv (base : Nat) (s : St) (t : Nat) (x : V) : V → Option St
 | .ptr a path t' => if t' = t ∧ x.tag = t then s.write base a path x else none
 | _ => none
theorem So {t t' : Nat} {a : Loc} {path : List Nat} {x : V} : stv base s t x (.ptr a path t') = if t' = t ∧ x.tag = t then s.write base a path x else none := nd rfl
theorem Br {t : Nat} : rop D base ρ s (.st t p x) = aa (stv base s t (x.ev ρ) (p.ev ρ)) fun s' => some (.dead, s') := by
 show evOp base ρ s (.st t p x) = _;simp only [evOp];cases p.ev ρ with
 | ptr a path t' =>
  simp only [stv];split
  ·cases s.write base a path (x.ev ρ) <;> rfl
  ·rfl
 | _ => rfl
def ag : V → Option V
 | .ptr a p t => some (.ptr a p t)
 | .fn f l => some (.fn f l)
 | _ => none
theorem FH {t : Nat} {a : Loc} {path : List Nat} : ag (.ptr a path t) = some (.ptr a path t) := nd rfl
theorem Tt {f : Nat} {l : List V} : ag (.fn f l) = some (.fn f l) := nd rfl
theorem z9 : rop D base ρ s (.nilc x) = aa (ag (x.ev ρ)) fun v => some (v, s) := by
 show evOp base ρ s (.nilc x) = _;simp only [evOp];cases x.ev ρ <;> rfl
theorem E2 {o : BinOp} : rop D base ρ s (.bin o x y) = aa (ac o (x.ev ρ) (y.ev ρ)) fun v => some (v, s) := by
 show evOp base ρ s (.bin o x y) = _;simp only [evOp];cases ac o (x.ev ρ) (y.ev ρ) <;> rfl
def eqv (neg : Bool) (t : Nat) (x y : V) : Option V := aa (dI t x y) fun b => some (.bool (if neg then !b else b))
theorem PQ {neg : Bool} {t : Nat} : rop D base ρ s (.eq neg t x y) = aa (eqv neg t (x.ev ρ) (y.ev ρ)) fun v => some (v, s) := by
 show evOp base ρ s (.eq neg t x y) = _;simp only [evOp, eqv];cases dI t (x.ev ρ) (y.ev ρ) <;> rfl
theorem Qy {o : UnOp} : rop D base ρ s (.un o x) = aa (vun o (x.ev ρ)) fun v => some (v, s) := by
 show evOp base ρ s (.un o x) = _;simp only [evOp];cases vun o (x.ev ρ) <;> rfl
def eW (k : IntKind) : V → Option V
 | .int _ n => some (.int k (k.wrap n))
 | _ => none
theorem Dl {k k' : IntKind} {n : Int} : eW k (.int k' n) = some (.int k (k.wrap n)) := nd rfl
theorem Af {k : IntKind} : rop D base ρ s (.conv k x) = aa (eW k (x.ev ρ)) fun v => some (v, s) := by
 show evOp base ρ s (.conv k x) = _
 simp only [evOp];cases x.ev ρ <;> rfl
def wu (f : Nat) (caps : List V) : Option V := if caps.all (fun v => v.tag == 1) then some (.fn f caps) else none
theorem vN {f : Nat} {caps : List Opd} : rop D base ρ s (.mkfn f caps) = aa (wu f (caps.map (Opd.ev ρ))) fun v => some (v, s) := by
 show evOp base ρ s (.mkfn f caps) = _;simp only [evOp, wu];split <;> rfl
def qx (h : Bool) (r e : Nat) (z : V) (s : St) : V → V → Option (V × St)
 | .int _ l, .int _ m => if 0 ≤ l ∧ l ≤ m ∧ m ≤ cq then
  some (.sl (s.fresh h) [] 0 l.toNat (some m.toNat) e, s.new h (.agg r (List.replicate l.toNat z)))
  else none
 | _, _ => none
theorem vD {h : Bool} {r e : Nat} {z : V} {n c : Opd} : rop D base ρ s (.mksl h r e z n c) = qx h r e z s (n.ev ρ) (c.ev ρ) := by
 show evOp base ρ s (.mksl h r e z n c) = _;simp only [evOp];cases n.ev ρ with
 | int _ _ => cases c.ev ρ <;> rfl
 | _ => rfl
def oD (e : Nat) (lo hi mx : Option V) : V → Option V
 | .sl a path off len cap e' => if e' = e then
  aa (an (cap.getD len) mx (cap.getD len)) fun m => aa (an (kI mx.isSome m len) hi len) fun h => aa (an h lo 0) fun l =>
   some (.sl a path (off + l) (h - l) (rK mx.isSome cap (m - l)) e)
  else none
 | .nils => aa (an 0 mx 0) fun _ => aa (an 0 hi 0) fun _ => aa (an 0 lo 0) fun _ => some .nils
 | _ => none
theorem EZ {e : Nat} {lo hi mx : Option Opd} : rop D base ρ s (.slc e x lo hi mx) = aa (oD e (lo.map (Opd.ev ρ)) (hi.map (Opd.ev ρ)) (mx.map (Opd.ev ρ)) (x.ev ρ)) fun v => some (v, s) := by
 show evOp base ρ s (.slc e x lo hi mx) = _;simp only [evOp];cases x.ev ρ with
 | sl a path off len cap e' =>
  simp only [oD];by_cases he : e' = e
  ·simp only [if_pos he, Option.isSome_map];cases h1 : an (cap.getD len) (mx.map (Opd.ev ρ)) (cap.getD len) with
   | none => rfl
   | some m =>
    simp only [bK];cases h2 : an (kI mx.isSome m len) (hi.map (Opd.ev ρ)) len with
    | none => rfl
    | some h =>
     simp only [bK];cases h3 : an h (lo.map (Opd.ev ρ)) 0 <;> rfl
  ·simp only [if_neg he]; rfl
 | nils =>
  simp only [oD];cases an 0 (mx.map (Opd.ev ρ)) 0 <;> cases an 0 (hi.map (Opd.ev ρ)) 0 <;> cases an 0 (lo.map (Opd.ev ρ)) 0 <;> rfl
 | _ => rfl
def uz (lo hi : Option V) : V → Option V
 | .str b => aa (an b.size hi b.size) fun h => aa (an h lo 0) fun l => some (.str (b.extract l h))
 | _ => none
theorem uh {lo hi : Option Opd} : rop D base ρ s (.slstr x lo hi) = aa (uz (lo.map (Opd.ev ρ)) (hi.map (Opd.ev ρ)) (x.ev ρ)) fun v => some (v, s) := by
 show evOp base ρ s (.slstr x lo hi) = _;simp only [evOp];cases x.ev ρ with
 | str b =>
  simp only [uz];cases an b.size (hi.map (Opd.ev ρ)) b.size with
  | none => rfl
  | some h => simp only [bK]; cases an h (lo.map (Opd.ev ρ)) 0 <;> rfl
 | _ => rfl
def pD (s : St) (t n e : Nat) (lo hi mx : Option V) : V → Option V
 | .ptr a path t' => if t' = t ∧ (s.read a path).isSome = true then aa (an n mx n) fun m => aa (an m hi n) fun h => aa (an h lo 0) fun l => some (.sl a path l (h - l) (some (m - l)) e) else none
 | _ => none
theorem xZ {t n e : Nat} {lo hi mx : Option Opd} : rop D base ρ s (.slarr t n e x lo hi mx) = aa (pD s t n e (lo.map (Opd.ev ρ)) (hi.map (Opd.ev ρ)) (mx.map (Opd.ev ρ)) (x.ev ρ)) fun v => some (v, s) := by
 show evOp base ρ s (.slarr t n e x lo hi mx) = _;simp only [evOp];cases x.ev ρ with
 | ptr a path t' =>
  simp only [pD];by_cases he : t' = t ∧ (s.read a path).isSome = true
  ·simp only [if_pos he];cases an n (mx.map (Opd.ev ρ)) n with
   | none => rfl
   | some m =>
    simp only [bK];cases an m (hi.map (Opd.ev ρ)) n with
    | none => rfl
    | some h => simp only [bK]; cases an h (lo.map (Opd.ev ρ)) 0 <;> rfl
  ·simp only [if_neg he]; rfl
 | _ => rfl
def ae (t f c : Nat) : V → Option V
 | .ptr a path t' => if t' = t then some (.ptr a (path ++ [f]) c) else none
 | _ => none
theorem Ed {t f c : Nat} : rop D base ρ s (.fad t f c x) = aa (ae t f c (x.ev ρ)) fun v => some (v, s) := by
 show evOp base ρ s (.fad t f c x) = _;simp only [evOp];cases x.ev ρ with
 | ptr a path t' => simp only [ae]; split <;> rfl
 | _ => rfl
def bc (t n e : Nat) : V → V → Option V
 | .ptr a path t', .int _ j => if t' = t ∧ 0 ≤ j ∧ j < n then some (.ptr a (path ++ [j.toNat]) e) else none
 | _, _ => none
theorem DZ {t n e : Nat} : rop D base ρ s (.iad t n e x i) = aa (bc t n e (x.ev ρ) (i.ev ρ)) fun v => some (v, s) := by
 show evOp base ρ s (.iad t n e x i) = _;simp only [evOp];cases x.ev ρ with
 | ptr a path t' =>
  cases i.ev ρ with
  | int k j => simp only [bc]; split <;> rfl
  | _ => rfl
 | _ => rfl
def cl (e : Nat) : V → V → Option V
 | .sl a path off len _ e', .int _ j => if e' = e ∧ 0 ≤ j ∧ j < len then some (.ptr a (path ++ [off + j.toNat]) e) else none
 | _, _ => none
theorem E0 {e : Nat} : rop D base ρ s (.sad e x i) = aa (cl e (x.ev ρ) (i.ev ρ)) fun v => some (v, s) := by
 show evOp base ρ s (.sad e x i) = _;simp only [evOp];cases x.ev ρ with
 | sl a path off len cap e' =>
  cases i.ev ρ with
  | int k j => simp only [cl]; split <;> rfl
  | _ => rfl
 | _ => rfl
def AN (t f : Nat) : V → Option V
 | .agg t' l => if t' = t then l[f]? else none
 | _ => none
theorem Cj {t f : Nat} : rop D base ρ s (.fld t f x) = aa (AN t f (x.ev ρ)) fun v => some (v, s) := by
 show evOp base ρ s (.fld t f x) = _;simp only [evOp];cases x.ev ρ with
 | agg t' l => simp only [AN]; split <;> (first | rfl | (cases l[f]? <;> rfl))
 | _ => rfl
def lZ (t n : Nat) : V → V → Option V
 | .agg t' l, .int _ j => if t' = t ∧ 0 ≤ j ∧ j < n then l[j.toNat]? else none
 | _, _ => none
theorem Eb {t n : Nat} : rop D base ρ s (.idx t n x i) = aa (lZ t n (x.ev ρ) (i.ev ρ)) fun v => some (v, s) := by
 show evOp base ρ s (.idx t n x i) = _;simp only [evOp];cases x.ev ρ with
 | agg t' l =>
  cases i.ev ρ with
  | int k j => simp only [lZ]; split <;> (first | rfl | (cases l[j.toNat]? <;> rfl))
  | _ => rfl
 | _ => rfl
def wm : V → V → Option V
 | .str b, .int _ j => if 0 ≤ j then (b[j.toNat]?).map fun c => .int .u8 c.toNat else none
 | _, _ => none
theorem zH : rop D base ρ s (.sidx x i) = aa (wm (x.ev ρ) (i.ev ρ)) fun v => some (v, s) := by
 show evOp base ρ s (.sidx x i) = _;simp only [evOp];cases x.ev ρ with
 | str b =>
  cases i.ev ρ with
  | int k j =>
   simp only [wm];by_cases hj : 0 ≤ j
   ·simp only [if_pos hj]; cases b[j.toNat]? <;> rfl
   ·simp only [if_neg hj]; rfl
  | _ => rfl
 | _ => rfl
def aw (n : Nat) : V → Option V
 | .tup l => l[n]?
 | _ => none
theorem GD {l : List V} {n : Nat} : aw n (.tup l) = l[n]? := nd rfl
theorem DQ {n : Nat} : rop D base ρ s (.ext x n) = aa (aw n (x.ev ρ)) fun v => some (v, s) := by
 show evOp base ρ s (.ext x n) = _;simp only [evOp];cases x.ev ρ with
 | tup l => simp only [aw]; cases l[n]? <;> rfl
 | _ => rfl
theorem zp {n : Nat} : rop D base ρ s (.lenk n) = some (.int .i64 n, s) := nd rfl
theorem CD {q : Bool} : rop D base ρ s (.len q x) = aa (V.slen q (x.ev ρ)) fun n => some (.int .i64 n, s) := by
 show evOp base ρ s (.len q x) = _;simp only [evOp];cases V.slen q (x.ev ρ) <;> rfl
theorem Ck {e : Nat} : rop D base ρ s (.cpy e x y) = jH base e (x.ev ρ) (y.ev ρ) s := nd rfl
theorem Ev {mx : Bool} : rop D base ρ s (.mnx mx x y) = aa (jJ mx (x.ev ρ) (y.ev ρ)) fun v => some (v, s) := by
 show evOp base ρ s (.mnx mx x y) = _;simp only [evOp];cases jJ mx (x.ev ρ) (y.ev ρ) <;> rfl
theorem CJ {h : Bool} {r e : Nat} : rop D base ρ s (.app h r e x y) = aA base h r e (x.ev ρ) (y.ev ρ) s := nd rfl
theorem DA {t : Nat} {l : List V} {ps : List (Nat × Opd)} : rop D base ρ s (.bld (.agg t l) ps) = aa (am l (ps.map fun p => (p.1, p.2.ev ρ))) fun l' => some (.agg t l', s) := by
 show evOp base ρ s (.bld (.agg t l) ps) = _;simp only [evOp];cases am l (ps.map fun p => (p.1, p.2.ev ρ)) <;> rfl
def kn (h : Bool) (r e n : Nat) (z : V) (s : St) (ps : List (Nat × V)) : Option (V × St) :=
 aa (am (List.replicate n z) ps) fun l' => if (e % 2 = 0 ∨ ay h (.agg 1 l')) then some (.sl (s.fresh h) [] 0 n (some n) e, s.new h (.agg r l')) else none
theorem wT {h : Bool} {r e n : Nat} {z : V} {ps : List (Nat × Opd)} : rop D base ρ s (.bsl h r e z n ps) = kn h r e n z s (ps.map fun p => (p.1, p.2.ev ρ)) := by
 show evOp base ρ s (.bsl h r e z n ps) = _;simp only [evOp, kn];cases am (List.replicate n z) (ps.map fun p => (p.1, p.2.ev ρ)) <;> rfl
noncomputable def wo (D : Nat → Option Fc) (args : List V) (s : St) : V → Option (V × St)
 | .fn g caps => rf D g (args ++ caps) s
 | _ => none
theorem F6 {args : List V} {g : Nat} {caps : List V} : wo D args s (.fn g caps) = rf D g (args ++ caps) s := nd rfl
theorem zu {f : Opd} {args : List Opd} : rop D base ρ s (.call f args) = wo D (args.map (Opd.ev ρ)) s (f.ev ρ) := by
 simp only [rop];cases f.ev ρ <;> rfl
noncomputable def dj (D : Nat → Option Fc) (k base g : Nat) (as : List V) (s : St) : Option V :=
 if (V.locLts k as && (decide (base ≤ k) && (decide (k ≤ s.loc.length) && ((s.loc.take k).drop base).all (cm k)))) = true then
  aa (rf D g as ⟨s.loc.take k, s.hp⟩) fun x => if x.2 = ⟨s.loc.take k, s.hp⟩ ∧ x.1.flat = true then some x.1 else none
 else none
noncomputable def wY (D : Nat → Option Fc) (base : Nat) (args : List V) (s : St) : V → Option V
 | .fn g caps => dj D (aV base (args ++ caps)) base g (args ++ caps) s
 | _ => none
theorem B9 {args : List V} {g : Nat} {caps : List V} : wY D base args s (.fn g caps) = dj D (aV base (args ++ caps)) base g (args ++ caps) s := nd rfl
theorem xp {f : Opd} {args : List Opd} : rop D base ρ s (.pcall f args) = aa (wY D base (args.map (Opd.ev ρ)) s (f.ev ρ)) fun v => some (v, s) := by
 simp only [rop];cases f.ev ρ with
 | fn g caps =>
  show (if pOk base (aV base (args.map (Opd.ev ρ) ++ caps)) (args.map (Opd.ev ρ) ++ caps) s = true then
   (rf D g (args.map (Opd.ev ρ) ++ caps) (s.cut (aV base (args.map (Opd.ev ρ) ++ caps)))).bind fun x => if x.2 = s.cut (aV base (args.map (Opd.ev ρ) ++ caps)) ∧ x.1.flat = true then some (x.1, s) else none
   else none) = aa (dj D (aV base (args.map (Opd.ev ρ) ++ caps)) base g (args.map (Opd.ev ρ) ++ caps) s) _
  generalize hk : aV base (args.map (Opd.ev ρ) ++ caps) = k;unfold dj;by_cases hp : pOk base k (args.map (Opd.ev ρ) ++ caps) s = true
  ·rw [if_pos hp, if_pos (show (_ && _) = true from hp)]
   show (rf D g (args.map (Opd.ev ρ) ++ caps) ⟨s.loc.take k, s.hp⟩).bind _ = _;cases rf D g (args.map (Opd.ev ρ) ++ caps) ⟨s.loc.take k, s.hp⟩ with
   | none => rfl
   | some x =>
    show (if x.2 = s.cut k ∧ x.1.flat = true then some (x.1, s) else none) = aa (if x.2 = s.cut k ∧ x.1.flat = true then some x.1 else none) _
    by_cases hx : x.2 = s.cut k ∧ x.1.flat = true
    ·rw [if_pos hx, if_pos hx]; rfl
    ·rw [if_neg hx, if_neg hx]; rfl
  ·rw [if_neg hp, if_neg (show ¬ ((_ && _) = true) from hp)]; rfl
 | _ => rfl
theorem G0 {k : IntKind} {n : Int} : V.flat (.int k n) = true := nd rfl
theorem DN {b : Bool} : V.flat (.bool b) = true := nd rfl
theorem FD {b : ByteArray} : V.flat (.str b) = true := nd rfl
theorem Gj {t : Nat} {l : List V} : V.flat (.agg t l) = V.flats l := nd rfl
theorem GU {l : List V} : V.flat (.tup l) = V.flats l := nd rfl
theorem EC : V.flats [] = true := nd rfl
theorem BA {v : V} {l : List V} : V.flats (v :: l) = (v.flat && V.flats l) := nd rfl
theorem nR {l : List V} (h : ∀ v ∈ l, v.flat = true) : V.flats l = true := by
 induction l with
 | nil => rfl
 | cons a l ih => simp only [V.flats, Bool.and_eq_true]; exact ⟨h a (by simp), ih fun v hv => h v (by simp [hv])⟩
theorem yT {l : List Bool} : V.flats (l.map V.bool) = true := nR fun v hv => by obtain ⟨b, _, rfl⟩ := List.mem_map.1 hv; rfl
theorem BR {k : IntKind} {l : List Int} : V.flats (l.map (V.int k)) = true := nR fun v hv => by obtain ⟨b, _, rfl⟩ := List.mem_map.1 hv; rfl
def u7 (base : Nat) (s : St) (t : Nat) (x p : V) (l : List V) : Option St := if l.all (fun y => f6 y p) = true then stv base s t x p else none
theorem E7 {t : Nat} {l : List Opd} : rop D base ρ s (.sta t p x l) = aa (u7 base s t (x.ev ρ) (p.ev ρ) (l.map (Opd.ev ρ))) fun s' => some (.dead, s') := by
 show evOp base ρ s (.sta t p x l) = _;simp only [evOp, u7, List.all_map];show (if (l.all fun y => f6 (y.ev ρ) (p.ev ρ)) = true then _ else none) = aa (if (l.all fun y => f6 (y.ev ρ) (p.ev ρ)) = true then _ else none) _
 split
 ·have := @Br D base ρ s x p t;exact this
 ·rfl
def uM (s : St) (t : Nat) (p r : V) : Option V := if jG r p = true then ldv s t p else none
theorem Cd {t : Nat} {r : Opd} : rop D base ρ s (.lda t p r) = aa (uM s t (p.ev ρ) (r.ev ρ)) fun v => some (v, s) := by
 show evOp base ρ s (.lda t p r) = _;simp only [evOp, uM];show (if jG (r.ev ρ) (p.ev ρ) = true then _ else none) = _
 split
 ·exact @BK D base ρ s p t
 ·rfl
theorem EL {a b : Loc} {q r : List Nat} {t u : Nat} : jG (.ptr a q t) (.ptr b r u) = decide (a = b) := nd rfl
noncomputable def ri (D : Nat → Option Fc) (args : List V) (s : St) (w f : V) : Option (V × St) := if ot s w = true then wo D args s f else none
theorem wF {f w : Opd} {args : List Opd} : rop D base ρ s (.callw f args w) = ri D (args.map (Opd.ev ρ)) s (w.ev ρ) (f.ev ρ) := by
 simp only [rop, ri];split
 ·cases f.ev ρ <;> rfl
 ·rfl
noncomputable def kX (D : Nat → Option Fc) (p : Bool) (k base g : Nat) (as : List V) (s : St) : Option (V × St) :=
 if (V.locLts k as && (decide (base ≤ k) && (decide (k ≤ s.loc.length) && ((s.loc.take k).drop base).all (cm k)))) = true then
  aa (rf D g as ⟨s.loc.take k, s.hp⟩) fun x => if x.2.loc = s.loc.take k ∧ (p = true → x.2.hp.take s.hp.length = s.hp) then some (x.1, ⟨s.loc, x.2.hp⟩) else none
 else none
noncomputable def xl (D : Nat → Option Fc) (p : Bool) (base : Nat) (args : List V) (s : St) : V → Option (V × St)
 | .fn g caps => kX D p (aV base (args ++ caps)) base g (args ++ caps) s
 | _ => none
theorem DL {p : Bool} {args : List V} {g : Nat} {caps : List V} : xl D p base args s (.fn g caps) = kX D p (aV base (args ++ caps)) base g (args ++ caps) s := nd rfl
theorem xX {p : Bool} {f : Opd} {args : List Opd} : rop D base ρ s (.callk p f args) = xl D p base (args.map (Opd.ev ρ)) s (f.ev ρ) := by
 simp only [rop];cases f.ev ρ with
 | fn g caps => rfl
 | _ => rfl
def qe (s : St) (t : Nat) : V → Option V
 | .ptr (.loc i) q t' => if t' = t then s.read (.loc i) q else none
 | _ => none
theorem Hl {i : Nat} {q : List Nat} {t t' : Nat} : qe s t (.ptr (.loc i) q t') = if t' = t then s.read (.loc i) q else none := nd rfl
theorem CZ {t : Nat} : rop D base ρ s (.ldl t p) = aa (qe s t (p.ev ρ)) fun v => some (v, s) := by
 show evOp base ρ s (.ldl t p) = _;simp only [evOp];cases p.ev ρ with
 | ptr a q t' =>
  cases a with
  | loc i =>
   simp only [qe];split
   ·cases s.read (.loc i) q <;> rfl
   ·rfl
  | hp i => rfl
 | _ => rfl
def sa (base : Nat) (h : Bool) (r e : Nat) (s : St) (x y : V) (l : List V) : Option (V × St) := if l.all (fun z => gv z x) = true then aA base h r e x y s else none
theorem Aq {h : Bool} {r e : Nat} {x y : Opd} {l : List Opd} : rop D base ρ s (.appa h r e x y l) = sa base h r e s (x.ev ρ) (y.ev ρ) (l.map (Opd.ev ρ)) := by
 show evOp base ρ s (.appa h r e x y l) = _;simp only [evOp, sa, List.all_map];rfl
theorem Fy {a b : Loc} {q r : List Nat} {t o l e : Nat} {c : Option Nat} : gv (.ptr a q t) (.sl b r o l c e) = decide (a ≠ b) := nd rfl
theorem Bi {a : Loc} {q : List Nat} {t : Nat} : gv (.ptr a q t) .nils = true := nd rfl
theorem Hg {a : Loc} {q : List Nat} {t : Nat} : ot s (.ptr a q t) = (s.read a q).isSome := nd rfl
theorem EH {a b : Loc} {q r : List Nat} {t u : Nat} : f6 (.ptr a q t) (.ptr b r u) = decide (a ≠ b) := nd rfl
theorem S9 {i : Nat} {p : List Nat} {t : Nat} : V.lim1 (.ptr (.hp i) p t) = 0 := nd rfl
theorem Hd {i : Nat} {p : List Nat} {t : Nat} : V.lim1 (.ptr (.loc i) p t) = i + 1 := nd rfl
theorem Tl {i : Nat} {p : List Nat} {o l : Nat} {c : Option Nat} {t : Nat} : V.lim1 (.sl (.loc i) p o l c t) = i + 1 := nd rfl
theorem Gc {k : IntKind} {n : Int} : V.lim1 (.int k n) = 0 := nd rfl
theorem Co {n : Bool} : V.lim1 (.bool n) = 0 := nd rfl
theorem FE {t : Nat} {l : List V} : V.lim1 (.agg t l) = 0 := nd rfl
theorem Sk {t : Nat} {l : List V} : V.lim1 (.fn t l) = 0 := nd rfl
theorem GJ : rm base [] = base := nd rfl
theorem DR {v : V} {l : List V} : rm base (v :: l) = max v.lim1 (rm base l) := nd rfl
end ops
theorem oF {α β γ : Type} {x : Option α} {f : α → Option β} {g : β → Option γ} : aa (aa x f) g = aa x fun a => aa (f a) g := by cases x <;> rfl
theorem yZ {α β : Type} {v : V} {f : Bool → Option α} {g : α → Option β} : aa (oh v f) g = oh v fun t => aa (f t) g := by cases v <;> rfl
theorem EU {α β : Type} {c : Prop} [Decidable c] {x : Option α} {g : α → Option β} : aa (if c then x else none) g = if c then aa x g else none := by split <;> rfl
theorem vw {α β : Type} {x : Option α} {f g : α → Option β} (h : ∀ a, f a = g a) : aa x f = aa x g := by cases x <;> simp only [aa, Option.bind_none, Option.bind_some, h]
noncomputable def r1 (D : Nat → Option Fc) (base : Nat) (ρ : Env) (s : St) {α : Type} (o : Op') (K : V → St → Option α) : Option α :=
 match o with
 | .mv x => K (x.ev ρ) s
 | .pick c a b => oh (c.ev ρ) fun t => K (if t then a.ev ρ else b.ev ρ) s
 | .alloc h z => K (.ptr (s.fresh h) [] z.tag) (s.new h z)
 | .box h x => if (x.ev ρ).ok && ay h (x.ev ρ) then K (.ptr (s.fresh h) [] (x.ev ρ).tag) (s.new h (x.ev ρ)) else none
 | .ld t p => aa (ldv s t (p.ev ρ)) fun v => K v s
 | .st t p x => aa (stv base s t (x.ev ρ) (p.ev ρ)) fun s' => K .dead s'
 | .nilc x => aa (ag (x.ev ρ)) fun v => K v s
 | .bin o x y => aa (ac o (x.ev ρ) (y.ev ρ)) fun v => K v s
 | .un o x => aa (vun o (x.ev ρ)) fun v => K v s
 | .conv k x => aa (eW k (x.ev ρ)) fun v => K v s
 | .fad t f c x => aa (ae t f c (x.ev ρ)) fun v => K v s
 | .iad t n e x i => aa (bc t n e (x.ev ρ) (i.ev ρ)) fun v => K v s
 | .sad e x i => aa (cl e (x.ev ρ) (i.ev ρ)) fun v => K v s
 | .fld t f x => aa (AN t f (x.ev ρ)) fun v => K v s
 | .idx t n x i => aa (lZ t n (x.ev ρ) (i.ev ρ)) fun v => K v s
 | .sidx x i => aa (wm (x.ev ρ) (i.ev ρ)) fun v => K v s
 | .ext x n => aa (aw n (x.ev ρ)) fun v => K v s
 | .lenk n => K (.int .i64 n) s
 | .len q x => aa (V.slen q (x.ev ρ)) fun n => K (.int .i64 n) s
 | .slc e x lo hi mx => aa (oD e (lo.map (Opd.ev ρ)) (hi.map (Opd.ev ρ)) (mx.map (Opd.ev ρ)) (x.ev ρ)) fun v => K v s
 | .slarr t n e x lo hi mx => aa (pD s t n e (lo.map (Opd.ev ρ)) (hi.map (Opd.ev ρ)) (mx.map (Opd.ev ρ)) (x.ev ρ)) fun v => K v s
 | .eq neg t x y => aa (eqv neg t (x.ev ρ) (y.ev ρ)) fun v => K v s
 | .mkfn f caps => aa (wu f (caps.map (Opd.ev ρ))) fun v => K v s
 | .slstr x lo hi => aa (uz (lo.map (Opd.ev ρ)) (hi.map (Opd.ev ρ)) (x.ev ρ)) fun v => K v s
 | .mksl h r e z n c => aa (qx h r e z s (n.ev ρ) (c.ev ρ)) fun x => K x.1 x.2
 | .app h r e x y => aa (aA base h r e (x.ev ρ) (y.ev ρ) s) fun x => K x.1 x.2
 | .bsl h r e z n ps => aa (kn h r e n z s (ps.map fun p => (p.1, p.2.ev ρ))) fun x => K x.1 x.2
 | .cpy e x y => aa (jH base e (x.ev ρ) (y.ev ρ) s) fun x => K x.1 x.2
 | .mnx mx x y => aa (jJ mx (x.ev ρ) (y.ev ρ)) fun v => K v s
 | .bld z ps => match z with
  | .agg t l => aa (am l (ps.map fun p => (p.1, p.2.ev ρ))) fun l' => K (.agg t l') s
  | _ => none
 | .call f args => aa (wo D (args.map (Opd.ev ρ)) s (f.ev ρ)) fun x => K x.1 x.2
 | .pcall f args => aa (wY D base (args.map (Opd.ev ρ)) s (f.ev ρ)) fun v => K v s
 | .sta t p x l => aa (u7 base s t (x.ev ρ) (p.ev ρ) (l.map (Opd.ev ρ))) fun s' => K .dead s'
 | .callw f args w => aa (ri D (args.map (Opd.ev ρ)) s (w.ev ρ) (f.ev ρ)) fun x => K x.1 x.2
 | .lda t p r => aa (uM s t (p.ev ρ) (r.ev ρ)) fun v => K v s
 | .callk p f args => aa (xl D p base (args.map (Opd.ev ρ)) s (f.ev ρ)) fun x => K x.1 x.2
 | .ldl t p => aa (qe s t (p.ev ρ)) fun v => K v s
 | .appa h r e x y l => aa (sa base h r e s (x.ev ρ) (y.ev ρ) (l.map (Opd.ev ρ))) fun x => K x.1 x.2
theorem E4 {α : Type} {o : Op'} {K : V → St → Option α} : aa (rop D base ρ s o) (fun x => K x.1 x.2) = r1 D base ρ s o K := by
 cases o with
 | bld z ps =>
  cases z with
  | agg t l => simp only [r1, DA, oF, bK]
  | _ => rfl
 | pcall f args => simp only [r1, xp, oF, bK]
 | box h x => simp only [r1, DJ, EU, bK]
 | _ => simp only [r1, Q5, zv, wN, BK, Br, z9, E2, Qy, Af, Ed, DZ, E0, Cj, Eb, zH, DQ, zp, CD, EZ, xZ, zu, PQ, vN, uh, vD, CJ, Ck, Ev, wT, E7, wF, Cd, xX, CZ, Aq, oF, bK, yZ]
noncomputable def rgO (D : Nat → Option Fc) (base : Nat) (ks : List Nat) : List Op → Env → St → Option (Ex × Env × St)
 | [], ρ, s => some (Ex.normal, restrict ks ρ, s)
 | op :: rest, ρ, s => match op.guard with
  | none => r1 D base ρ s op.op fun v s' => rgO D base ks rest (put op.dst v ρ) s'
  | some (t, b) => al (get ρ t) b (r1 D base ρ s op.op fun v s' => rgO D base ks rest (put op.dst v ((t, .bool b) :: ρ)) s') (rgO D base ks rest (put op.dst (.tup []) ((t, .bool !b) :: ρ)) s) (rgO D base ks rest (put op.dst (.tup []) ((t, .tup []) :: ρ)) s)
theorem o0 {ks : List Nat} : ∀ {l : List Op} {ρ : Env} {s : St}, rg D base ks l ρ s = rgO D base ks l ρ s
 | [], ρ, s => by rw [UW]; rfl
 | ⟨d, none, o⟩ :: l, ρ, s => by
  rw [Xa];simp only [rgO];rw [← E4];exact vw fun x => o0
 | ⟨d, some (t, b), o⟩ :: l, ρ, s => by
  rw [WO];simp only [rgO];refine tR (fun _ => ?_) (fun _ => o0) (fun _ => o0);rw [← E4];exact vw fun x => o0
theorem FA {ks : List Nat} {l : List Op} : rc D base (.reg (some ks) l) ρ s = rgO D base ks l ρ s := UX.trans o0
theorem C4 {ks : List Nat} {l : List Op} : rc D base (.regd (some ks) l) ρ s = rgO D base ks l ρ s := Sg.trans o0
theorem B6 {y d : Nat} : an y none d = some d := nd rfl
theorem C8 {y d : Nat} {k : IntKind} {i : Int} : an y (some (.int k i)) d = if 0 ≤ i ∧ i ≤ y then some i.toNat else none := nd rfl
theorem Tx : s.fresh true = .hp s.hp.length := nd rfl
theorem rX : s.fresh false = .loc s.loc.length := nd rfl
theorem WF {v : V} : s.new true v = ⟨s.loc, s.hp ++ [.rw v]⟩ := nd rfl
theorem ww {v : V} : s.new false v = ⟨s.loc ++ [.rw v], s.hp⟩ := nd rfl
theorem Ha {v : V} : ay false v = true := nd rfl
theorem sT {v : V} : ay true v = v.locLt 0 := nd rfl
def Blk.rd (p : List Nat) : Option Blk → Option V
 | some (.rw v) => V.at p v
 | some (.ro v) => V.at p v
 | _ => none
theorem nl {p : List Nat} {v : V} : Blk.rd p (some (.rw v)) = V.at p v := nd rfl
theorem OT {p : List Nat} {v : V} : Blk.rd p (some (.ro v)) = V.at p v := nd rfl
theorem lP {i : Nat} {p : List Nat} : s.read (.loc i) p = Blk.rd p s.loc[i]? := nd rfl
theorem np {i : Nat} {p : List Nat} : s.read (.hp i) p = Blk.rd p s.hp[i]? := nd rfl
def Blk.wr (p : List Nat) (x : V) : Option Blk → Option Blk
 | some (.rw v) => (V.setAt p x v).map .rw
 | _ => none
theorem V3 {p : List Nat} {x v : V} : Blk.wr p x (some (.rw v)) = (V.setAt p x v).map .rw := nd rfl
theorem CF {i : Nat} {p : List Nat} {x : V} : s.write base (.loc i) p x = if x.locLt 0 || decide (base ≤ i) then (Blk.wr p x s.loc[i]?).map fun b => ⟨s.loc.set i b, s.hp⟩ else none := by
 simp only [St.write, St.at];cases s.loc[i]? with
 | none => simp [Blk.wr]
 | some b =>
  cases b with
  |rw v =>
   simp only [Blk.wr];rw [show (x.locLt 0 || decide (base ≤ i)) = fQ base (.loc i) x from rfl]
   by_cases hc : fQ base (.loc i) x = true
   ·rw [if_pos hc, if_pos hc]; cases V.setAt p x v <;> rfl
   ·rw [if_neg hc, if_neg hc]
  | _ => simp [Blk.wr]
theorem GX {i : Nat} {p : List Nat} {x : V} : s.write base (.hp i) p x = if x.locLt 0 then (Blk.wr p x s.hp[i]?).map fun b => ⟨s.loc, s.hp.set i b⟩ else none := by
 simp only [St.write, St.at];cases s.hp[i]? with
 | none => simp [Blk.wr]
 | some b =>
  cases b with
  |rw v =>
   simp only [Blk.wr];rw [show x.locLt 0 = fQ base (.hp i) x from rfl]
   by_cases hc : fQ base (.hp i) x = true
   ·rw [if_pos hc, if_pos hc]; cases V.setAt p x v <;> rfl
   ·rw [if_neg hc, if_neg hc]
  | _ => simp [Blk.wr]
theorem kh {v : V} : V.at [] v = some v := nd rfl
theorem zY {i : Nat} {p : List Nat} {t : Nat} {l : List V} : V.at (i :: p) (.agg t l) = aa l[i]? (V.at p) := by
 simp only [V.at]; cases l[i]? <;> rfl
theorem C3 {x v : V} : V.setAt [] x v = some x := nd rfl
theorem Bq {i : Nat} {p : List Nat} {t : Nat} {l : List V} {x : V} : V.setAt (i :: p) x (.agg t l) = aa l[i]? fun y => aa (V.setAt p x y) fun y' => some (.agg t (l.set i y')) := by
 simp only [V.setAt];cases l[i]? with
 | none => rfl
 | some y => simp only [bK]; cases V.setAt p x y <;> rfl
theorem su {α : Type} {l m : List α} {i : Nat} : (l ++ m)[l.length + i]? = m[i]? := by rw [List.getElem?_append_right (Nat.le_add_right _ _), Nat.add_sub_cancel_left]
theorem xj {α : Type} {l m : List α} : (l ++ m)[l.length]? = m[0]? := su (i := 0)
theorem zJ {α : Type} {l m : List α} {i : Nat} {x : α} : (l ++ m).set (l.length + i) x = l ++ m.set i x := by rw [List.set_append_right _ _ (Nat.le_add_right _ _), Nat.add_sub_cancel_left]
theorem qz {α : Type} {l m : List α} {x : α} : (l ++ m).set l.length x = l ++ m.set 0 x := zJ (i := 0)
theorem FJ {α : Type} {l m : List α} {i : Nat} : (l ++ m).take (l.length + i) = l ++ m.take i := by rw [List.take_append, List.take_of_length_le (Nat.le_add_right _ _), Nat.add_sub_cancel_left]
theorem Ci {α : Type} {l m : List α} : (l ++ m).take l.length = l := by rw [List.take_append]; simp
theorem Gd {α : Type} {l m : List α} : (l ++ m).drop l.length = m := List.drop_left
theorem AX {b : Nat} : V.locLts b [] = true := by simp only [V.locLts]
theorem zb {b : Nat} {v : V} {l : List V} : V.locLts b (v :: l) = (v.locLt b && V.locLts b l) := by simp only [V.locLts]
section
variable {b : Nat}
theorem SE {x : Bool} : V.locLt b (.bool x) = true := by simp only [V.locLt]
theorem Vr {k : IntKind} {x : Int} : V.locLt b (.int k x) = true := by simp only [V.locLt]
theorem UG {x : ByteArray} : V.locLt b (.str x) = true := by simp only [V.locLt]
theorem ST : V.locLt b .nilp = true := by simp only [V.locLt]
theorem TQ : V.locLt b .nils = true := by simp only [V.locLt]
theorem Si : V.locLt b .nilf = true := by simp only [V.locLt]
theorem SA : V.locLt b .dead = true := by simp only [V.locLt]
theorem VV {i : Nat} {p : List Nat} {t : Nat} : V.locLt b (.ptr (.hp i) p t) = true := by simp only [V.locLt]
theorem SJ {i : Nat} {p : List Nat} {o l e : Nat} {c : Option Nat} : V.locLt b (.sl (.hp i) p o l c e) = true := by simp only [V.locLt]
theorem UK {i : Nat} {p : List Nat} {t : Nat} : V.locLt b (.ptr (.loc i) p t) = decide (i < b) := by simp only [V.locLt]
theorem GY {i : Nat} {p : List Nat} {o l e : Nat} {c : Option Nat} : V.locLt b (.sl (.loc i) p o l c e) = decide (i < b) := by simp only [V.locLt]
theorem Wy {f : Nat} {l : List V} : V.locLt b (.fn f l) = V.locLts b l := by simp only [V.locLt]
theorem UM {l : List V} : V.locLt b (.tup l) = V.locLts b l := by simp only [V.locLt]
theorem tZ {t : Nat} {l : List V} : V.locLt b (.agg t l) = (t % 2 == 0 || V.locLts b l) := by simp only [V.locLt]
end
theorem xC {b : Nat} {v : V} : cm b (.rw v) = v.locLt b := nd rfl
theorem GF {b : Nat} {v : V} : cm b (.ro v) = v.locLt b := nd rfl
theorem t6 {b : Nat} : cm b .dead = true := nd rfl
theorem yP {n : Nat} {res : List RV} : lh n res (.ret, ρ, s) = aa (db ρ s res) fun v => if v.locLt n ∧ n ≤ s.loc.length then some (v, { s with loc := s.loc.take n }) else none := by
 rw [Fi]; cases db ρ s res <;> rfl
theorem ve {n : Nat} {res : List RV} : lh n res (.normal, ρ, s) = aa (db ρ s res) fun v => if v.locLt n ∧ n ≤ s.loc.length then some (v, { s with loc := s.loc.take n }) else none := by
 rw [xh]; cases db ρ s res <;> rfl
theorem WS {n : Nat} : RV.ev ρ s (.t n) = some (get ρ n) := nd rfl
theorem TW {n q : Nat} : RV.ev ρ s (.cell n q) = ldv s q (get ρ n) := by
 simp only [RV.ev];cases get ρ n <;> rfl
theorem AJ : db ρ s [] = some (.tup []) := nd rfl
theorem Ek {r : RV} : db ρ s [r] = RV.ev ρ s r := by
 simp only [db, List.mapM_cons, List.mapM_nil];cases RV.ev ρ s r <;> rfl
theorem C0 {r q : RV} : db ρ s [r, q] = aa (RV.ev ρ s r) fun a => aa (RV.ev ρ s q) fun b => if a.ok && b.ok then some (.tup [a, b]) else none := by
 simp only [db, List.mapM_cons, List.mapM_nil];cases RV.ev ρ s r with
 | none => rfl
 | some a =>
  cases RV.ev ρ s q with
  | none => rfl
  | some b => simp [List.all, bK]
theorem yH {r q p : RV} : db ρ s [r, q, p] = aa (RV.ev ρ s r) fun a => aa (RV.ev ρ s q) fun b => aa (RV.ev ρ s p) fun c => if a.ok && b.ok && c.ok then some (.tup [a, b, c]) else none := by
 simp only [db, List.mapM_cons, List.mapM_nil];cases RV.ev ρ s r with
 | none => rfl
 | some a =>
  cases RV.ev ρ s q with
  | none => rfl
  | some b =>
   cases RV.ev ρ s p with
   | none => rfl
   | some c => simp [List.all, Bool.and_assoc, bK]
section
variable {c : Prop} [Decidable c]
theorem BS {ρ' : Env} {s' : St} : (if c then some (Ex.normal, ρ, s) else some (Ex.normal, ρ', s')) = some (Ex.normal, if c then ρ else ρ', if c then s else s') := by split <;> rfl
theorem GW {id : Nat} {ρ' : Env} {s' : St} : (if c then some (Ex.exit id, ρ, s) else some (Ex.exit id, ρ', s')) = some (Ex.exit id, if c then ρ else ρ', if c then s else s') := by split <;> rfl
theorem Ue {ρ' : Env} {s' : St} : (if c then some (Ex.ret, ρ, s) else some (Ex.ret, ρ', s')) = some (Ex.ret, if c then ρ else ρ', if c then s else s') := by split <;> rfl
theorem Tr {k : Nat} {v v' : V} {ρ' : Env} : (if c then (k, v) :: ρ else (k, v') :: ρ') = (k, if c then v else v') :: (if c then ρ else ρ') := by split <;> rfl
theorem VF {v v' : V} {s' : St} : (if c then some (v, s) else some (v', s')) = some (if c then v else v', if c then s else s') := by split <;> rfl
theorem Cs {a b : Bool} : (if c then V.bool a else V.bool b) = V.bool (if c then a else b) := by split <;> rfl
theorem Ge {k : IntKind} {a b : Int} : (if c then V.int k a else V.int k b) = V.int k (if c then a else b) := by split <;> rfl
theorem GC {t : Nat} {l l' : List V} : (if c then V.agg t l else V.agg t l') = V.agg t (if c then l else l') := by split <;> rfl
theorem Hk {l l' : List V} : (if c then V.tup l else V.tup l') = V.tup (if c then l else l') := by split <;> rfl
theorem EN {v v' : V} {l l' : List V} : (if c then v :: l else v' :: l') = (if c then v else v') :: (if c then l else l') := by split <;> rfl
theorem D0 {v v' : Blk} {l l' : List Blk} : (if c then v :: l else v' :: l') = (if c then v else v') :: (if c then l else l') := by split <;> rfl
theorem TL {v v' : V} : (if c then Blk.rw v else Blk.rw v') = Blk.rw (if c then v else v') := by split <;> rfl
theorem Um {l l' h h' : List Blk} : (if c then St.mk l h else St.mk l' h') = St.mk (if c then l else l') (if c then h else h') := by split <;> rfl
theorem Ti {l m m' : List Blk} : (if c then l ++ m else l ++ m') = l ++ (if c then m else m') := by split <;> rfl
theorem DI {b : C} {y : Option (Ex × Env × St)} : aa (if c then some (.ret, ρ, s) else y) (andThen D base b) = if c then some (.ret, ρ, s) else aa y (andThen D base b) := by split <;> rfl
theorem BV {b : C} {y : Option (Ex × Env × St)} : aa (if c then y else some (.ret, ρ, s)) (andThen D base b) = if c then aa y (andThen D base b) else some (.ret, ρ, s) := by split <;> rfl
theorem AP {b : C} {y : Option (Ex × Env × St)} {id : Nat} : aa (if c then some (.exit id, ρ, s) else y) (andThen D base b) = if c then some (.exit id, ρ, s) else aa y (andThen D base b) := by split <;> rfl
theorem yM {b : C} {y : Option (Ex × Env × St)} {id : Nat} : aa (if c then y else some (.exit id, ρ, s)) (andThen D base b) = if c then aa y (andThen D base b) else some (.exit id, ρ, s) := by split <;> rfl
theorem yE {n : Nat} {res : List RV} {x y : Option (Ex × Env × St)} : aa (if c then x else y) (lh n res) = if c then aa x (lh n res) else aa y (lh n res) := rk
theorem yG {id : Nat} {x y : Option (Ex × Env × St)} : aa (if c then x else y) (nN id) = if c then aa x (nN id) else aa y (nN id) := rk
theorem yJ {n : Nat} {keep : List Nat} {b : C} {x y : Option (Ex × Env × St)} : aa (if c then x else y) (jk D base n keep b) = if c then aa x (jk D base n keep b) else aa y (jk D base n keep b) := rk
end
theorem VD : St.mk s.loc s.hp = s := nd rfl
theorem Bc : s.elems .nils = some [] := nd rfl
def Aj (off len : Nat) : Option V → Option (List V)
 | some (.agg _ l) => if off + len ≤ l.length then some ((l.drop off).take len) else none
 | _ => none
theorem y9 {off len t : Nat} {l : List V} : Aj off len (some (.agg t l)) = if off + len ≤ l.length then some ((l.drop off).take len) else none := nd rfl
theorem F0 {a : Loc} {path : List Nat} {off len : Nat} {cap : Option Nat} {e : Nat} : s.elems (.sl a path off len cap e) = if len = 0 then some [] else Aj off len (s.read a path) := by
 simp only [St.elems];cases s.read a path with
 | none => rfl
 | some v => cases v <;> rfl
section
variable {a : Loc} {p : List Nat} {off len e e' t t' n f u : Nat} {cap : Option Nat} {k k' : IntKind} {j m : Int} {b : Bool} {sb sc : ByteArray} {l : List V} {lo hi mx : Option V} {o : BinOp}
theorem Dy : V.slen false .nils = some 0 := nd rfl
theorem Ua : V.slen false (.sl a p off len cap e) = some len := nd rfl
theorem Fz : V.slen true (.str sb) = some sb.size := nd rfl
theorem SZ : cl e (.sl a p off len cap e') (.int k j) = if e' = e ∧ 0 ≤ j ∧ j < len then some (.ptr a (p ++ [off + j.toNat]) e) else none := nd rfl
theorem GR : bc t n e (.ptr a p t') (.int k j) = if t' = t ∧ 0 ≤ j ∧ j < n then some (.ptr a (p ++ [j.toNat]) e) else none := nd rfl
theorem GP : ae t f u (.ptr a p t') = if t' = t then some (.ptr a (p ++ [f]) u) else none := nd rfl
theorem Gy : AN t f (.agg t' l) = if t' = t then l[f]? else none := nd rfl
theorem F7 : lZ t n (.agg t' l) (.int k j) = if t' = t ∧ 0 ≤ j ∧ j < n then l[j.toNat]? else none := nd rfl
theorem D1 : wm (.str sb) (.int k j) = if 0 ≤ j then (sb[j.toNat]?).map fun c => .int .u8 c.toNat else none := nd rfl
theorem SD : oD e lo hi mx (.sl a p off len cap e') = if e' = e then
 aa (an (cap.getD len) mx (cap.getD len)) fun m => aa (an (kI mx.isSome m len) hi len) fun h => aa (an h lo 0) fun l =>
  some (.sl a p (off + l) (h - l) (rK mx.isSome cap (m - l)) e) else none := nd rfl
theorem Fe : oD e lo hi mx .nils = aa (an 0 mx 0) fun _ => aa (an 0 hi 0) fun _ => aa (an 0 lo 0) fun _ => some .nils := nd rfl
theorem BF : uz lo hi (.str sb) = aa (an sb.size hi sb.size) fun h => aa (an h lo 0) fun l => some (.str (sb.extract l h)) := nd rfl
theorem BD : pD s t n e lo hi mx (.ptr a p t') = if t' = t ∧ (s.read a p).isSome = true then aa (an n mx n) fun m => aa (an m hi n) fun h => aa (an h lo 0) fun l => some (.sl a p l (h - l) (some (m - l)) e) else none := nd rfl
theorem G8 : ac o (.int k j) (.int k' m) = if BinOp.isShift o then shf o k j m else if k = k' then uN o k j m else none := nd rfl
theorem Fx : ac o (.str sb) (.str sc) = uT o sb sc := nd rfl
theorem TY : vun .not (.bool b) = some (.bool !b) := nd rfl
theorem TH : vun .neg (.int k j) = some (.int k (k.wrap (0 - j))) := nd rfl
theorem TG : vun .xor (.int k j) = some (.int k (xw k (if k.signed then -1 else k.max) j)) := nd rfl
theorem Gf : jJ b (.int k j) (.int k' m) = if k = k' then some (.int k (if b then max j m else min j m)) else none := nd rfl
theorem Dx {h : Bool} {r : Nat} {z : V} : qx h r e z s (.int k j) (.int k' m) = if 0 ≤ j ∧ j ≤ m ∧ m ≤ cq then
 some (.sl (s.fresh h) [] 0 j.toNat (some m.toNat) e, s.new h (.agg r (List.replicate j.toNat z))) else none := nd rfl
theorem FY : V.tag (.bool b) = 0 := nd rfl
theorem T9 : V.tag (.int k j) = iX k := nd rfl
theorem TS : V.tag (.str sb) = 2 := nd rfl
theorem TC : V.tag (.agg t l) = t := nd rfl
theorem Ta : V.tag (.ptr a p t) = 1 := nd rfl
theorem FR : V.tag .nilp = 1 := nd rfl
theorem VK : V.tag (.sl a p off len cap e) = 1 := nd rfl
theorem GE : V.tag .nils = 1 := nd rfl
theorem UZ : V.tag (.fn f l) = 1 := nd rfl
theorem Fq : V.tag .nilf = 1 := nd rfl
theorem SX : V.ok (.bool b) = true := nd rfl
theorem Uo : V.ok (.int k j) = true := nd rfl
theorem Vz : V.ok (.str sb) = true := nd rfl
theorem Va : V.ok (.agg t l) = true := nd rfl
theorem US : V.ok (.ptr a p t) = true := nd rfl
theorem SQ : V.ok .nilp = true := nd rfl
theorem VX : V.ok (.sl a p off len cap e) = true := nd rfl
theorem Tb : V.ok .nils = true := nd rfl
theorem Wl : V.ok (.fn f l) = true := nd rfl
theorem TF : V.ok .nilf = true := nd rfl
end
theorem SM : dI 1 .nilp .nilp = some true := nd rfl
theorem Ud {a : Loc} {p : List Nat} {t : Nat} : dI 1 .nilp (.ptr a p t) = some false := nd rfl
theorem Tz {a : Loc} {p : List Nat} {t : Nat} : dI 1 (.ptr a p t) .nilp = some false := nd rfl
theorem FO : dI 3 .nils .nils = some true := nd rfl
theorem FV {a : Loc} {p : List Nat} {o l e : Nat} {c : Option Nat} : dI 3 .nils (.sl a p o l c e) = some false := nd rfl
theorem Gw {a : Loc} {p : List Nat} {o l e : Nat} {c : Option Nat} : dI 3 (.sl a p o l c e) .nils = some false := nd rfl
theorem Gq : dI 5 .nilf .nilf = some true := nd rfl
theorem FF {f : Nat} {l : List V} : dI 5 .nilf (.fn f l) = some false := nd rfl
theorem GI {f : Nat} {l : List V} : dI 5 (.fn f l) .nilf = some false := nd rfl
theorem He {t : Nat} {x y : V} (h1 : t ≠ 1) (h3 : t ≠ 3) (h5 : t ≠ 5) : dI t x y = if x.tag = t ∧ y.tag = t then veq x y else none := by
 unfold dI;split
 ·exact absurd rfl h1
 ·exact absurd rfl h3
 ·exact absurd rfl h5
 ·rfl
theorem Fp {a b : Bool} : veq (.bool a) (.bool b) = some (a == b) := by simp only [veq]
theorem Tj {k k' : IntKind} {a b : Int} : veq (.int k a) (.int k' b) = if k = k' then some (decide (a = b)) else none := by simp only [veq]
theorem SI {a b : ByteArray} : veq (.str a) (.str b) = some (a.toList == b.toList) := by simp only [veq]
theorem Te {t t' : Nat} {l l' : List V} : veq (.agg t l) (.agg t' l') = if t = t' then dG l l' else none := by simp only [veq]
theorem Gz : dG [] [] = some true := by simp only [dG]
theorem E1 {v v' : V} {l l' : List V} : dG (v :: l) (v' :: l') = aa (veq v v') fun b => if b = true then dG l l' else some false := by
 simp only [dG];cases veq v v' with
 | none => rfl
 | some b => cases b <;> rfl
attribute [go_sem] TU Gm Uh Sm GH u4 yk yh Cq BW vZ Bb yI Gi xd Df Bx
 yp AK FN G5 FZ wC vT yQ yO Xe Xi Fs Cc
 Q5 zv wN DJ BK Br z9 E2 PQ Qy Af vN vD EZ uh xZ Ed DZ E0 Cj Eb zH DQ zp CD CJ Ck Ev DA wT zu xp E7 wF Cd xX CZ Aq sa Fy Bi DL kX Hl uM EL G0 DN FD Gj GU EC BA yT BR and_true u7 ri Hg EH ne_eq Loc.loc.injEq Loc.hp.injEq
 Gf eqv wu Dx kn BF T6 So FH Tt Dl SD Fe BD GP GR SZ Gy F7 D1 GD F6 B9 dj aV GJ DR S9 Hd Tl Gc Co FE Sk Nat.le_refl Nat.le_add_right List.drop_length B6 C8 Dy Ua Fz
 FY T9 TS TC Ta FR VK GE UZ Fq SX Uo Vz Va US SQ VX Tb Wl TF
 Tx rX WF ww Ha sT nl OT lP np V3 CF GX kh zY C3 Bq
 su xj zJ qz FJ Ci Gd
 AX zb SE Vr UG ST TQ Si SA VV SJ UK GY Wy UM tZ xC GF t6
 WS TW AJ Ek C0 yH yP ve Bc y9 F0
 VD BS GW Ue Tr VF Cs Ge GC Hk EN D0 TL Um Ti DI BV AP yM yE yG yJ ite_self Bool.if_true_left Bool.if_true_right Bool.if_false_left Bool.if_false_right
 kI rK Option.isSome_none Option.isSome_some
 iX G8 Fx uN shf uT BinOp.isShift TY TH TG SM Ud Tz FO FV Gw Gq FF GI He Fp Tj SI Te Gz E1 am fI
 bK Aw BO Option.bind_some Option.bind_none Option.map_some Option.map_none Option.getD_some Option.getD_none
 List.map_cons List.map_nil List.cons_append List.nil_append List.append_assoc List.append_nil List.length_append List.length_cons List.length_nil List.getElem?_cons_zero List.getElem?_cons_succ List.getElem?_nil List.set_cons_zero List.set_cons_succ List.take_succ_cons List.take_zero List.take_length List.drop_zero List.drop_succ_cons
 List.all_cons List.all_nil Nat.zero_add Nat.add_zero if_true if_false ite_true ite_false Bool.true_and Bool.and_true Bool.false_or Bool.or_false Bool.true_or Bool.or_true Bool.false_and Bool.and_false Bool.not_true Bool.not_false
 eq_self true_and and_true false_and and_false true_or or_true false_or or_false Bool.false_eq_true not_true_eq_false not_false_eq_true decide_true decide_false decide_eq_true_eq decide_eq_false_iff_not Bool.not_eq_true Bool.not_eq_false Nat.reduceEqDiff Nat.reduceAdd Nat.reduceMod reduceIte Nat.le_refl Nat.le_add_right and_self or_self beq_self_eq_true reduceCtorEq
 Int.cast_ofNat_Int Int.reduceEq Int.reduceLT Int.reduceLE Int.reduceNeg Int.reduceToNat Int.reduceAdd Int.reduceSub Int.reduceMul Nat.reduceSub Nat.reduceMul Nat.reduceLT Nat.reduceLeDiff
instance (n : Nat) : OfNat Opd n := ⟨.t n⟩
def zi (n : Int) : Opd := .k (.int .i64 n)
def zf (n : Nat) : Opd := .k (.fn n [])
def zq (d : Nat) (o : Op') : Op := ⟨some d, none, o⟩
def zw (o : Op') : Op := ⟨none, none, o⟩
def zg (d t : Nat) (b : Bool) (o : Op') : Op := ⟨some d, some (t, b), o⟩
def zm (d : Nat) (x : Opd) : Op := ⟨some d, none, .mv x⟩
def zF (d t f u : Nat) (x : Opd) : Op := ⟨some d, none, .fad t f u x⟩
def zL (d t : Nat) (x : Opd) : Op := ⟨some d, none, .ld t x⟩
def zN (d : Nat) (x : Opd) : Op := ⟨some d, none, .nilc x⟩
def zB (d : Nat) (o : BinOp) (x y : Opd) : Op := ⟨some d, none, .bin o x y⟩
def zE (d : Nat) (x : Opd) (i : Nat) : Op := ⟨some d, none, .ext x i⟩
def zC (d : Nat) (f : Opd) (l : List Opd) : Op := ⟨some d, none, .call f l⟩
def zP (d : Nat) (x y z : Opd) : Op := ⟨some d, none, .pick x y z⟩
def zS (t : Nat) (x y : Opd) : Op := ⟨none, none, .st t x y⟩
def zR (ks : List Nat) (l : List Op) : C := .reg (some ks) l
def zD (ks : List Nat) (l : List Op) : C := .regd (some ks) l
abbrev OR := Option (Ex × Env × St)
theorem zr {base : Nat} {ρ : Env} {s : St} {ks : List Nat} {l : List Op} {x : OR} (h : rgO D base ks l ρ s = x := by kernel_rfl) : rc D base (.reg (some ks) l) ρ s = x := FA.trans h
theorem zd {base : Nat} {ρ : Env} {s : St} {ks : List Nat} {l : List Op} {x : OR} (h : rgO D base ks l ρ s = x := by kernel_rfl) : rc D base (.regd (some ks) l) ρ s = x := C4.trans h
end Go.Ab
