/-
  YtpbpgbedkmbfkaaDoorAbG: an abstract semantics of the program's code, and that what it tells holds of the program (part G).
-/
import Derived.Test.YtpbpgbedkmbfkaaDoorAbA
import Derived.Attr
set_option maxRecDepth 100000
namespace Go.Ab

variable {D : Nat → Option Fc}

theorem ropF_mono {f g : Task → St → Option Res} (h : ∀ t s r, f t s = some r → g t s = some r) {base : Nat} {ρ : Env} {s : St} {o : Op'} {q : V × St} (hq : ropF f base ρ s o = some q) : ropF g base ρ s o = some q := by
  cases o with
  | call fo args =>
    simp only [ropF] at hq ⊢
    cases hx : fo.ev ρ with
    | fn k caps =>
      simp only [hx] at hq
      cases hf : f (.f k (args.map (Opd.ev ρ) ++ caps)) s with
      | none => rw [hf] at hq; cases hq
      | some x => rw [hf] at hq; simp only [h _ _ _ hf]; exact hq
    | _ => rw [hx] at hq; cases hq
  | pcall fo args =>
    simp only [ropF] at hq ⊢
    cases hx : fo.ev ρ with
    | fn k caps =>
      simp only [hx] at hq
      by_cases hp : pOk base (pcut base (args.map (Opd.ev ρ) ++ caps)) (args.map (Opd.ev ρ) ++ caps) s = true
      · rw [if_pos hp] at hq
        simp only [if_pos hp]
        cases hf : f (.f k (args.map (Opd.ev ρ) ++ caps)) (s.cut (pcut base (args.map (Opd.ev ρ) ++ caps))) with
        | none => rw [hf] at hq; cases hq
        | some x => rw [hf] at hq; simp only [h _ _ _ hf]; exact hq
      · rw [if_neg hp] at hq; cases hq
    | _ => rw [hx] at hq; cases hq
  | callw fo args w =>
    simp only [ropF] at hq ⊢
    split at hq
    · rename_i hw
      rw [if_pos hw]
      cases hx : fo.ev ρ with
      | fn k caps =>
        simp only [hx] at hq
        cases hf : f (.f k (args.map (Opd.ev ρ) ++ caps)) s with
        | none => rw [hf] at hq; cases hq
        | some x => rw [hf] at hq; simp only [h _ _ _ hf]; exact hq
      | _ => rw [hx] at hq; cases hq
    · cases hq
  | _ => exact hq

theorem step_mono {f g : Task → St → Option Res} (h : ∀ t s r, f t s = some r → g t s = some r) {t : Task} {s : St} {r : Res} (hr : step D f t s = some r) : step D g t s = some r := by
  cases t with
  | c base c ρ =>
    cases c with
    | skip => exact hr
    | label _ => exact hr
    | ret => exact hr
    | exit _ => exact hr
    | reg keep ops =>
      simp only [step] at hr ⊢
      cases hf : f (.o base ops ρ) s with
      | none => rw [hf] at hr; cases hr
      | some x => rw [hf] at hr; rw [h _ _ _ hf]; exact hr
    | regd keep ops =>
      simp only [step] at hr ⊢
      cases hf : f (.o base ops ρ) s with
      | none => rw [hf] at hr; cases hr
      | some x => rw [hf] at hr; rw [h _ _ _ hf]; exact hr
    | seq a b =>
      simp only [step] at hr ⊢
      cases hf : f (.c base a ρ) s with
      | none => rw [hf] at hr; cases hr
      | some x =>
        rw [hf] at hr; rw [h _ _ _ hf]
        cases x with
        | c e ρ' s' => cases e <;> first | exact h _ _ _ hr | exact hr
        | o _ _ => cases hr
        | v _ _ => cases hr
    | cond x a b =>
      simp only [step] at hr ⊢
      cases hx : x.ev ρ with
      | bool t =>
        rw [hx] at hr
        cases t
        · exact h _ _ _ hr
        · exact h _ _ _ hr
      | _ => rw [hx] at hr; cases hr
    | block id b =>
      simp only [step] at hr ⊢
      cases hf : f (.c base b ρ) s with
      | none => rw [hf] at hr; cases hr
      | some x => rw [hf] at hr; rw [h _ _ _ hf]; exact hr
    | scope b =>
      simp only [step] at hr ⊢
      cases hf : f (.c base b ρ) s with
      | none => rw [hf] at hr; cases hr
      | some x => rw [hf] at hr; rw [h _ _ _ hf]; exact hr
    | loop keep b =>
      simp only [step] at hr ⊢
      cases hf : f (.c base b (restrict keep ρ)) s with
      | none => rw [hf] at hr; cases hr
      | some x =>
        rw [hf] at hr; rw [h _ _ _ hf]
        cases x with
        | c e ρ' s' =>
          cases e with
          | normal =>
            simp only at hr ⊢
            split at hr
            · rename_i hc; rw [if_pos hc]; exact h _ _ _ hr
            · cases hr
          | exit _ => exact hr
          | ret => exact hr
        | o _ _ => cases hr
        | v _ _ => cases hr
  | o base l ρ =>
    cases l with
    | nil => exact hr
    | cons op rest =>
      simp only [step] at hr ⊢
      cases hg : guardOk op.guard ρ with
      | none => rw [hg] at hr; cases hr
      | some gb =>
        rw [hg] at hr
        cases gb with
        | false => exact h _ _ _ hr
        | true =>
          cases hq : ropF f base ρ s op.op with
          | none => simp only [hq] at hr; cases hr
          | some q =>
            simp only [hq] at hr
            simp only [ropF_mono h hq]
            exact h _ _ _ hr
  | f fn args =>
    simp only [step] at hr ⊢
    cases hfc : D fn with
    | none => rw [hfc] at hr; cases hr
    | some fc =>
      rw [hfc] at hr
      simp only at hr ⊢
      by_cases hlen : args.length = fc.n
      · rw [if_pos hlen] at hr ⊢
        cases hf : f (.c s.loc.length fc.body (env0 0 args)) s with
        | none => rw [hf] at hr; cases hr
        | some x => rw [hf] at hr; rw [h _ _ _ hf]; exact hr
      · rw [if_neg hlen] at hr; cases hr

theorem ev_mono : ∀ (n : Nat) {t : Task} {s : St} {r : Res}, ev D n t s = some r → ev D (n + 1) t s = some r
  | 0, _, _, _, h => by cases h
  | n + 1, _, _, _, h => step_mono (fun _ _ _ h => ev_mono n h) h

theorem ev_le {n m : Nat} (hnm : n ≤ m) {t : Task} {s : St} {r : Res} (h : ev D n t s = some r) : ev D m t s = some r := by
  induction hnm with
  | refl => exact h
  | step _ ih => exact ev_mono _ ih

open Classical in
noncomputable def run (D : Nat → Option Fc) (t : Task) (s : St) : Option Res :=
  if h : ∃ n r, ev D n t s = some r then some h.choose_spec.choose else none

theorem run_iff {t : Task} {s : St} {r : Res} : run D t s = some r ↔ ∃ n, ev D n t s = some r := by
  unfold run
  constructor
  · intro h
    split at h
    · rename_i hx
      cases h
      exact ⟨_, hx.choose_spec.choose_spec⟩
    · cases h
  · rintro ⟨n, hn⟩
    have hx : ∃ n r, ev D n t s = some r := ⟨n, r, hn⟩
    rw [dif_pos hx]
    have h1 := hx.choose_spec.choose_spec
    have h2 := ev_le (Nat.le_max_left hx.choose n) h1
    have h3 := ev_le (Nat.le_max_right hx.choose n) hn
    rw [h2] at h3
    exact h3

theorem run_of_ev {n : Nat} {t : Task} {s : St} {r : Res} (h : ev D n t s = some r) : run D t s = some r := run_iff.2 ⟨n, h⟩

theorem ev_run {n : Nat} {t : Task} {s : St} {r : Res} (h : ev D n t s = some r) : run D t s = some r := run_of_ev h

theorem ropF_fin {base : Nat} {ρ : Env} {s : St} {o : Op'} {q : V × St} (hq : ropF (run D) base ρ s o = some q) : ∃ n, ropF (ev D n) base ρ s o = some q := by
  cases o with
  | call fo args =>
    simp only [ropF] at hq ⊢
    cases hx : fo.ev ρ with
    | fn k caps =>
      simp only [hx] at hq
      cases hf : run D (.f k (args.map (Opd.ev ρ) ++ caps)) s with
      | none => rw [hf] at hq; cases hq
      | some x => rw [hf] at hq; obtain ⟨n, hn⟩ := run_iff.1 hf; exact ⟨n, by simp only [hn]; exact hq⟩
    | _ => rw [hx] at hq; cases hq
  | pcall fo args =>
    simp only [ropF] at hq ⊢
    cases hx : fo.ev ρ with
    | fn k caps =>
      simp only [hx] at hq
      by_cases hp : pOk base (pcut base (args.map (Opd.ev ρ) ++ caps)) (args.map (Opd.ev ρ) ++ caps) s = true
      · rw [if_pos hp] at hq
        simp only [if_pos hp]
        cases hf : run D (.f k (args.map (Opd.ev ρ) ++ caps)) (s.cut (pcut base (args.map (Opd.ev ρ) ++ caps))) with
        | none => rw [hf] at hq; cases hq
        | some x => rw [hf] at hq; obtain ⟨n, hn⟩ := run_iff.1 hf; exact ⟨n, by simp only [hn]; exact hq⟩
      · rw [if_neg hp] at hq; cases hq
    | _ => rw [hx] at hq; cases hq
  | callw fo args w =>
    simp only [ropF] at hq ⊢
    split at hq
    · rename_i hw
      simp only [if_pos hw]
      cases hx : fo.ev ρ with
      | fn k caps =>
        simp only [hx] at hq
        cases hf : run D (.f k (args.map (Opd.ev ρ) ++ caps)) s with
        | none => rw [hf] at hq; cases hq
        | some x => rw [hf] at hq; obtain ⟨n, hn⟩ := run_iff.1 hf; exact ⟨n, by simp only [hn]; exact hq⟩
      | _ => rw [hx] at hq; cases hq
    · cases hq
  | _ => exact ⟨0, hq⟩

/-- One step of what is run is carried out by some fuel. -/
theorem step_fin {t : Task} {s : St} {r : Res} (hr : step D (run D) t s = some r) : ∃ n, step D (ev D n) t s = some r := by
  cases t with
  | c base c ρ =>
    cases c with
    | skip => exact ⟨0, hr⟩
    | label _ => exact ⟨0, hr⟩
    | ret => exact ⟨0, hr⟩
    | exit _ => exact ⟨0, hr⟩
    | reg keep ops =>
      simp only [step] at hr ⊢
      cases hf : run D (.o base ops ρ) s with
      | none => rw [hf] at hr; cases hr
      | some x => rw [hf] at hr; obtain ⟨n, hn⟩ := run_iff.1 hf; exact ⟨n, by rw [hn]; exact hr⟩
    | regd keep ops =>
      simp only [step] at hr ⊢
      cases hf : run D (.o base ops ρ) s with
      | none => rw [hf] at hr; cases hr
      | some x => rw [hf] at hr; obtain ⟨n, hn⟩ := run_iff.1 hf; exact ⟨n, by rw [hn]; exact hr⟩
    | seq a b =>
      simp only [step] at hr ⊢
      cases hf : run D (.c base a ρ) s with
      | none => rw [hf] at hr; cases hr
      | some x =>
        rw [hf] at hr; obtain ⟨n, hn⟩ := run_iff.1 hf
        cases x with
        | c e ρ' s' =>
          cases e with
          | normal =>
            obtain ⟨m, hm⟩ := run_iff.1 hr
            exact ⟨max n m, by rw [ev_le (Nat.le_max_left n m) hn]; exact ev_le (Nat.le_max_right n m) hm⟩
          | exit _ => exact ⟨n, by rw [hn]; exact hr⟩
          | ret => exact ⟨n, by rw [hn]; exact hr⟩
        | o _ _ => cases hr
        | v _ _ => cases hr
    | cond x a b =>
      simp only [step] at hr ⊢
      cases hx : x.ev ρ with
      | bool t =>
        rw [hx] at hr
        cases t
        · obtain ⟨n, hn⟩ := run_iff.1 hr
          exact ⟨n, hn⟩
        · obtain ⟨n, hn⟩ := run_iff.1 hr
          exact ⟨n, hn⟩
      | _ => rw [hx] at hr; cases hr
    | block id b =>
      simp only [step] at hr ⊢
      cases hf : run D (.c base b ρ) s with
      | none => rw [hf] at hr; cases hr
      | some x => rw [hf] at hr; obtain ⟨n, hn⟩ := run_iff.1 hf; exact ⟨n, by rw [hn]; exact hr⟩
    | scope b =>
      simp only [step] at hr ⊢
      cases hf : run D (.c base b ρ) s with
      | none => rw [hf] at hr; cases hr
      | some x => rw [hf] at hr; obtain ⟨n, hn⟩ := run_iff.1 hf; exact ⟨n, by rw [hn]; exact hr⟩
    | loop keep b =>
      simp only [step] at hr ⊢
      cases hf : run D (.c base b (restrict keep ρ)) s with
      | none => rw [hf] at hr; cases hr
      | some x =>
        rw [hf] at hr; obtain ⟨n, hn⟩ := run_iff.1 hf
        cases x with
        | c e ρ' s' =>
          cases e with
          | normal =>
            simp only at hr
            split at hr
            · rename_i hc
              obtain ⟨m, hm⟩ := run_iff.1 hr
              exact ⟨max n m, by rw [ev_le (Nat.le_max_left n m) hn]; simp only; rw [if_pos hc]; exact ev_le (Nat.le_max_right n m) hm⟩
            · cases hr
          | exit _ => exact ⟨n, by rw [hn]; exact hr⟩
          | ret => exact ⟨n, by rw [hn]; exact hr⟩
        | o _ _ => cases hr
        | v _ _ => cases hr
  | o base l ρ =>
    cases l with
    | nil => exact ⟨0, hr⟩
    | cons op rest =>
      simp only [step] at hr ⊢
      cases hg : guardOk op.guard ρ with
      | none => rw [hg] at hr; cases hr
      | some gb =>
        rw [hg] at hr
        cases gb with
        | false => exact run_iff.1 hr
        | true =>
          cases hq : ropF (run D) base ρ s op.op with
          | none => simp only [hq] at hr; cases hr
          | some q =>
            simp only [hq] at hr
            obtain ⟨n, hn⟩ := ropF_fin hq
            obtain ⟨m, hm⟩ := run_iff.1 hr
            exact ⟨max n m, by simp only [ropF_mono (fun _ _ _ h => ev_le (Nat.le_max_left n m) h) hn]; exact ev_le (Nat.le_max_right n m) hm⟩
  | f fn args =>
    simp only [step] at hr ⊢
    cases hfc : D fn with
    | none => rw [hfc] at hr; cases hr
    | some fc =>
      rw [hfc] at hr
      simp only at hr ⊢
      by_cases hlen : args.length = fc.n
      · simp only [if_pos hlen] at hr ⊢
        cases hf : run D (.c s.loc.length fc.body (env0 0 args)) s with
        | none => rw [hf] at hr; cases hr
        | some x => rw [hf] at hr; obtain ⟨n, hn⟩ := run_iff.1 hf; exact ⟨n, by rw [hn]; exact hr⟩
      · rw [if_neg hlen] at hr; cases hr

theorem run_step (t : Task) (s : St) : run D t s = step D (run D) t s := by
  apply Option.ext
  intro r
  constructor
  · intro h
    obtain ⟨n, hn⟩ := run_iff.1 h
    cases n with
    | zero => cases hn
    | succ n => exact step_mono (fun _ _ _ h => run_of_ev h) hn
  · intro h
    obtain ⟨n, hn⟩ := step_fin h
    exact run_of_ev (n := n + 1) hn

/-! ### The three runs, each with its equations -/

noncomputable def rc (D : Nat → Option Fc) (base : Nat) (c : C) (ρ : Env) (s : St) : Option (Ex × Env × St) :=
  match run D (.c base c ρ) s with
  | some (.c e ρ' s') => some (e, ρ', s')
  | _ => none
noncomputable def ro (D : Nat → Option Fc) (base : Nat) (l : List Op) (ρ : Env) (s : St) : Option (Env × St) :=
  match run D (.o base l ρ) s with
  | some (.o ρ' s') => some (ρ', s')
  | _ => none
noncomputable def rf (D : Nat → Option Fc) (f : Nat) (args : List V) (s : St) : Option (V × St) :=
  match run D (.f f args) s with
  | some (.v v s') => some (v, s')
  | _ => none

theorem rc_def {base : Nat} {c : C} {ρ : Env} {s : St} {e : Ex} {ρ' : Env} {s' : St} : rc D base c ρ s = some (e, ρ', s') ↔ run D (.c base c ρ) s = some (.c e ρ' s') := by
  unfold rc; constructor
  · intro h; split at h
    · rename_i hh; cases h; exact hh
    · cases h
  · intro h; rw [h]
theorem ro_def {base : Nat} {l : List Op} {ρ : Env} {s : St} {ρ' : Env} {s' : St} : ro D base l ρ s = some (ρ', s') ↔ run D (.o base l ρ) s = some (.o ρ' s') := by
  unfold ro; constructor
  · intro h; split at h
    · rename_i hh; cases h; exact hh
    · cases h
  · intro h; rw [h]
theorem rf_def {f : Nat} {args : List V} {s : St} {v : V} {s' : St} : rf D f args s = some (v, s') ↔ run D (.f f args) s = some (.v v s') := by
  unfold rf; constructor
  · intro h; split at h
    · rename_i hh; cases h; exact hh
    · cases h
  · intro h; rw [h]

section
variable {base : Nat} {ρ : Env} {s : St}

theorem rc_skip : rc D base .skip ρ s = some (.normal, ρ, s) := by simp only [rc, run_step, step]
theorem rc_label {l : Nat} : rc D base (.label l) ρ s = some (.normal, ρ, s) := by simp only [rc, run_step, step]
theorem rc_ret : rc D base .ret ρ s = some (.ret, ρ, s) := by simp only [rc, run_step, step]
theorem rc_exit {id : Nat} : rc D base (.exit id) ρ s = some (.exit id, ρ, s) := by simp only [rc, run_step, step]
theorem rc_reg {keep : Option (List Nat)} {ops : List Op} : rc D base (.reg keep ops) ρ s = (ro D base ops ρ s).bind fun x => some (.normal, keepOf keep x.1, x.2) := by
  simp only [rc, ro]; rw [run_step]; simp only [step]
  cases run D (.o base ops ρ) s with
  | none => rfl
  | some x => cases x <;> rfl
theorem rc_regd {keep : Option (List Nat)} {ops : List Op} : rc D base (.regd keep ops) ρ s = (ro D base ops ρ s).bind fun x => some (.normal, keepOf keep x.1, x.2) := by
  simp only [rc, ro]; rw [run_step]; simp only [step]
  cases run D (.o base ops ρ) s with
  | none => rfl
  | some x => cases x <;> rfl
/-- What follows code that has ended so. -/
noncomputable def andThen (D : Nat → Option Fc) (base : Nat) (b : C) (x : Ex × Env × St) : Option (Ex × Env × St) :=
  match x with
  | (.normal, ρ, s) => rc D base b ρ s
  | x => some x
theorem andThen_normal {b : C} : andThen D base b (.normal, ρ, s) = rc D base b ρ s := rfl
theorem andThen_ret {b : C} : andThen D base b (.ret, ρ, s) = some (.ret, ρ, s) := rfl
theorem andThen_exit {b : C} {id : Nat} : andThen D base b (.exit id, ρ, s) = some (.exit id, ρ, s) := rfl
theorem rc_seq {a b : C} : rc D base (.seq a b) ρ s = (rc D base a ρ s).bind (andThen D base b) := by
  simp only [rc]; rw [run_step]; simp only [step]
  cases run D (.c base a ρ) s with
  | none => rfl
  | some x =>
    cases x with
    | c e ρ' s' => cases e <;> rfl
    | _ => rfl
theorem rc_cond {x : Opd} {a b : C} : rc D base (.cond x a b) ρ s = match x.ev ρ with
    | .bool t => if t then rc D base a ρ s else rc D base b ρ s
    | _ => none := by
  simp only [rc]; rw [run_step]; simp only [step]
  cases x.ev ρ with
  | bool t => cases t <;> rfl
  | _ => rfl
def leave (id : Nat) (x : Ex × Env × St) : Ex × Env × St :=
  match x with
  | (.exit id', ρ, s) => (if id' = id then .normal else .exit id', ρ, s)
  | x => x
theorem leave_normal {id : Nat} : leave id (.normal, ρ, s) = (.normal, ρ, s) := rfl
theorem leave_ret {id : Nat} : leave id (.ret, ρ, s) = (.ret, ρ, s) := rfl
theorem leave_exit {id id' : Nat} : leave id (.exit id', ρ, s) = (if id' = id then .normal else .exit id', ρ, s) := rfl
theorem rc_block {id : Nat} {b : C} : rc D base (.block id b) ρ s = (rc D base b ρ s).bind fun x => some (leave id x) := by
  simp only [rc]; rw [run_step]; simp only [step]
  cases run D (.c base b ρ) s with
  | none => rfl
  | some x =>
    cases x with
    | c e ρ' s' => cases e <;> rfl
    | _ => rfl
theorem rc_scope {b : C} : rc D base (.scope b) ρ s = rc D base b ρ s := by
  simp only [rc]; rw [run_step]; simp only [step]
  cases run D (.c base b ρ) s with
  | none => rfl
  | some x =>
    cases x with
    | c e ρ' s' => cases e <;> rfl
    | _ => rfl
/-- The next round, or what the loop ends with. -/
noncomputable def again (D : Nat → Option Fc) (base n : Nat) (keep : List Nat) (b : C) (x : Ex × Env × St) : Option (Ex × Env × St) :=
  match x with
  | (.normal, ρ, s) => if scrubOk base n (restrict keep ρ) s then rc D base (.loop keep b) (restrict keep ρ) { s with loc := s.loc.take n } else none
  | x => some x
theorem again_normal {n : Nat} {keep : List Nat} {b : C} : again D base n keep b (.normal, ρ, s) = if scrubOk base n (restrict keep ρ) s then rc D base (.loop keep b) (restrict keep ρ) { s with loc := s.loc.take n } else none := rfl
theorem again_ret {n : Nat} {keep : List Nat} {b : C} : again D base n keep b (.ret, ρ, s) = some (.ret, ρ, s) := rfl
theorem again_exit {n : Nat} {keep : List Nat} {b : C} {id : Nat} : again D base n keep b (.exit id, ρ, s) = some (.exit id, ρ, s) := rfl
theorem get_restrict_mem {ks : List Nat} {ρ : Env} {k : Nat} (h : k ∈ ks) : get (restrict ks ρ) k = get ρ k := by
  induction ks with
  | nil => cases h
  | cons j ks ih =>
    simp only [restrict, List.map_cons, get]
    by_cases hj : j = k
    · rw [if_pos hj, hj]
    · rw [if_neg hj]
      exact ih (by cases h with | head => exact absurd rfl hj | tail _ h => exact h)
theorem restrict_restrict (ks : List Nat) (ρ : Env) : restrict ks (restrict ks ρ) = restrict ks ρ := by
  unfold restrict
  apply List.map_congr_left
  intro k hk
  rw [show get (ks.map fun k => (k, get ρ k)) k = get ρ k from get_restrict_mem hk]
theorem rc_loop0 {keep : List Nat} {b : C} : rc D base (.loop keep b) ρ s = (rc D base b (restrict keep ρ) s).bind fun x => match x with
    | (.normal, ρ', s') => if scrubOk base s.loc.length (restrict keep ρ') s' then rc D base (.loop keep b) ρ' { s' with loc := s'.loc.take s.loc.length } else none
    | x => some x := by
  simp only [rc]; rw [run_step]; simp only [step]
  cases run D (.c base b (restrict keep ρ)) s with
  | none => rfl
  | some x =>
    cases x with
    | c e ρ' s' =>
      cases e with
      | normal =>
        simp only [Option.bind_some]
        by_cases hc : scrubOk base s.loc.length (restrict keep ρ') s' = true
        · rw [if_pos hc, if_pos hc]
        · rw [if_neg hc, if_neg hc]
      | _ => rfl
    | _ => rfl
theorem rc_loop_restrict {keep : List Nat} {b : C} : rc D base (.loop keep b) (restrict keep ρ) s = rc D base (.loop keep b) ρ s := by
  rw [rc_loop0, rc_loop0 (ρ := ρ), restrict_restrict]
theorem rc_loop {keep : List Nat} {b : C} : rc D base (.loop keep b) ρ s = (rc D base b (restrict keep ρ) s).bind (again D base s.loc.length keep b) := by
  rw [rc_loop0]
  congr 1
  funext x
  obtain ⟨e, ρ', s'⟩ := x
  cases e with
  | normal => simp only [again, rc_loop_restrict]
  | _ => rfl

theorem ro_nil : ro D base [] ρ s = some (ρ, s) := by simp only [ro, run_step, step]
/-- An operation that is carried out. -/
noncomputable def rop (D : Nat → Option Fc) (base : Nat) (ρ : Env) (s : St) : Op' → Option (V × St)
  | .call f args => match f.ev ρ with
    | .fn g caps => rf D g (args.map (Opd.ev ρ) ++ caps) s
    | _ => none
  | .pcall f args => match f.ev ρ with
    | .fn g caps => if pOk base (pcut base (args.map (Opd.ev ρ) ++ caps)) (args.map (Opd.ev ρ) ++ caps) s = true then
        (rf D g (args.map (Opd.ev ρ) ++ caps) (s.cut (pcut base (args.map (Opd.ev ρ) ++ caps)))).bind fun x => if x.2 = s.cut (pcut base (args.map (Opd.ev ρ) ++ caps)) ∧ x.1.flat = true then some (x.1, s) else none
      else none
    | _ => none
  | .callw f args w => if live s (w.ev ρ) = true then
      match f.ev ρ with
      | .fn g caps => rf D g (args.map (Opd.ev ρ) ++ caps) s
      | _ => none
    else none
  | o => evOp base ρ s o
theorem ropF_run {o : Op'} : ropF (run D) base ρ s o = rop D base ρ s o := by
  cases o with
  | call f args =>
    simp only [ropF, rop]
    cases f.ev ρ with
    | fn g caps =>
      simp only [rf]
      cases run D (.f g (args.map (Opd.ev ρ) ++ caps)) s with
      | none => rfl
      | some x => cases x <;> rfl
    | _ => rfl
  | pcall f args =>
    simp only [ropF, rop]
    cases f.ev ρ with
    | fn g caps =>
      simp only [rf]
      split
      · cases run D (.f g (args.map (Opd.ev ρ) ++ caps)) (s.cut (pcut base (args.map (Opd.ev ρ) ++ caps))) with
        | none => rfl
        | some x => cases x <;> rfl
      · rfl
    | _ => rfl
  | callw f args w =>
    simp only [ropF, rop]
    split
    · cases f.ev ρ with
      | fn g caps =>
        simp only [rf]
        cases run D (.f g (args.map (Opd.ev ρ) ++ caps)) s with
        | none => rfl
        | some x => cases x <;> rfl
      | _ => rfl
    · rfl
  | _ => rfl
theorem ro_cons {op : Op} {rest : List Op} : ro D base (op :: rest) ρ s = match guardOk op.guard ρ with
    | none => none
    | some false => ro D base rest (put op.dst (.tup []) ρ) s
    | some true => (rop D base ρ s op.op).bind fun x => ro D base rest (put op.dst x.1 ρ) x.2 := by
  unfold ro
  rw [run_step]; simp only [step, ropF_run]
  cases guardOk op.guard ρ with
  | none => rfl
  | some gb =>
    cases gb with
    | false => rfl
    | true =>
      cases rop D base ρ s op.op with
      | none => rfl
      | some x => rfl

/-- What a function's code leaves, as its result. -/
def retOf (n : Nat) (res : List RV) (x : Ex × Env × St) : Option (V × St) :=
  match x with
  | (.exit _, _, _) => none
  | (_, ρ, s) => match resOf ρ s res with
    | some v => if v.locLt n ∧ n ≤ s.loc.length then some (v, { s with loc := s.loc.take n }) else none
    | none => none
theorem retOf_ret {n : Nat} {res : List RV} : retOf n res (.ret, ρ, s) = match resOf ρ s res with
    | some v => if v.locLt n ∧ n ≤ s.loc.length then some (v, { s with loc := s.loc.take n }) else none
    | none => none := rfl
theorem retOf_normal {n : Nat} {res : List RV} : retOf n res (.normal, ρ, s) = match resOf ρ s res with
    | some v => if v.locLt n ∧ n ≤ s.loc.length then some (v, { s with loc := s.loc.take n }) else none
    | none => none := rfl
theorem rf_eq {f : Nat} {fc : Fc} (hf : D f = some fc) {args : List V} (hn : args.length = fc.n) :
    rf D f args s = (rc D s.loc.length fc.body (env0 0 args) s).bind (retOf s.loc.length fc.res) := by
  unfold rf rc
  rw [run_step]; simp only [step, hf, hn, if_true]
  cases run D (.c s.loc.length fc.body (env0 0 args)) s with
  | none => rfl
  | some x =>
    cases x with
    | c e ρ' s' =>
      cases e with
      | exit _ => rfl
      | normal =>
        simp only [Option.bind_some, retOf]
        cases resOf ρ' s' fc.res with
        | none => rfl
        | some v =>
          simp only
          by_cases hv : v.locLt s.loc.length = true ∧ s.loc.length ≤ s'.loc.length
          · simp only [if_pos hv]
          · simp only [if_neg hv]
      | ret =>
        simp only [Option.bind_some, retOf]
        cases resOf ρ' s' fc.res with
        | none => rfl
        | some v =>
          simp only
          by_cases hv : v.locLt s.loc.length = true ∧ s.loc.length ≤ s'.loc.length
          · simp only [if_pos hv]
          · simp only [if_neg hv]
    | _ => rfl
end
end Go.Ab
namespace Go.Ab
variable {D : Nat → Option Fc} {base : Nat} {ρ : Env} {s : St}

/-- An equation that holds by computing, as a plain one: 'simp' then cites it, where else the kernel would compute. -/
theorem nd {α : Sort _} {a b : α} (h : a = b) : a = b := h
/-- Option's bind; 'simp' looks at what is bound alone, till it is known. -/
def obind {α β : Type} (x : Option α) (f : α → Option β) : Option β := x.bind f
theorem obind_some {α β : Type} {a : α} {f : α → Option β} : obind (some a) f = f a := nd rfl
theorem obind_none {α β : Type} {f : α → Option β} : obind none f = none := nd rfl
@[congr] theorem obind_congr {α β : Type} {x y : Option α} {f : α → Option β} (h : x = y) : obind x f = obind y f := by rw [h]
theorem obind_ite {α β : Type} {c : Prop} [Decidable c] {x y : Option α} {f : α → Option β} : obind (if c then x else y) f = if c then obind x f else obind y f := by split <;> rfl
/-- The same of a Bool value. -/
def obool {α : Type} (v : V) (f : Bool → Option α) : Option α := match v with | .bool t => f t | _ => none
theorem obool_bool {α : Type} {t : Bool} {f : Bool → Option α} : obool (.bool t) f = f t := nd rfl
@[congr] theorem obool_congr {α : Type} {v w : V} {f : Bool → Option α} (h : v = w) : obool v f = obool w f := by rw [h]
theorem rc_seq_o {a b : C} : rc D base (.seq a b) ρ s = obind (rc D base a ρ s) (andThen D base b) := rc_seq
def leaveO (id : Nat) (x : Ex × Env × St) : Option (Ex × Env × St) := some (leave id x)
theorem leaveO_normal {id : Nat} : leaveO id (.normal, ρ, s) = some (.normal, ρ, s) := nd rfl
theorem leaveO_ret {id : Nat} : leaveO id (.ret, ρ, s) = some (.ret, ρ, s) := nd rfl
theorem leaveO_exit {id id' : Nat} : leaveO id (.exit id', ρ, s) = some (if id' = id then .normal else .exit id', ρ, s) := nd rfl
theorem rc_block_o {id : Nat} {b : C} : rc D base (.block id b) ρ s = obind (rc D base b ρ s) (leaveO id) := rc_block
theorem rc_loop_o {keep : List Nat} {b : C} : rc D base (.loop keep b) ρ s = obind (rc D base b (restrict keep ρ) s) (again D base s.loc.length keep b) := rc_loop
theorem rf_o {f : Nat} {fc : Fc} (hf : D f = some fc) {args : List V} (hn : args.length = fc.n) :
    rf D f args s = obind (rc D s.loc.length fc.body (env0 0 args) s) (retOf s.loc.length fc.res) := rf_eq hf hn
theorem rc_cond_o {x : Opd} {a b : C} : rc D base (.cond x a b) ρ s = obool (x.ev ρ) fun t => if t then rc D base a ρ s else rc D base b ρ s := by
  rw [rc_cond]
  cases x.ev ρ <;> rfl

/-! Two environments that tell the same. -/
def Same (ρ ρ' : Env) : Prop := ∀ t, get ρ t = get ρ' t
theorem Same.ev {ρ ρ' : Env} (h : Same ρ ρ') : Opd.ev ρ = Opd.ev ρ' := by
  funext x
  cases x with
  | t n => exact h n
  | k v => rfl
theorem Same.put {ρ ρ' : Env} (h : Same ρ ρ') (d : Option Nat) (v : V) : Same (put d v ρ) (put d v ρ') := by
  intro t
  cases d with
  | none => exact h t
  | some k => simp only [Ab.put, get, h t]
theorem Same.evOp {ρ ρ' : Env} (h : Same ρ ρ') (o : Op') : evOp base ρ s o = evOp base ρ' s o := by
  have he := h.ev
  cases o <;> simp only [Ab.evOp, he]
theorem Same.rop {ρ ρ' : Env} (h : Same ρ ρ') (o : Op') : rop D base ρ s o = rop D base ρ' s o := by
  have he := h.ev
  cases o with
  | call f args => simp only [Ab.rop, he]
  | pcall f args => simp only [Ab.rop, he]
  | callw f args w => simp only [Ab.rop, he]
  | _ => simp only [Ab.rop]; exact h.evOp _
theorem Same.guard {ρ ρ' : Env} (h : Same ρ ρ') (g : Option (Nat × Bool)) : guardOk g ρ = guardOk g ρ' := by
  cases g with
  | none => rfl
  | some x => simp only [guardOk, h x.1]
theorem Same.restrict {ρ ρ' : Env} (h : Same ρ ρ') (ks : List Nat) : restrict ks ρ = restrict ks ρ' := by
  simp only [Ab.restrict, h _]
theorem Same.ro {ks : List Nat} : ∀ (l : List Op) {ρ ρ' : Env} {s : St}, Same ρ ρ' → (ro D base l ρ s).bind (fun x => some (Ex.normal, Ab.restrict ks x.1, x.2)) = (ro D base l ρ' s).bind (fun x => some (Ex.normal, Ab.restrict ks x.1, x.2))
  | [], ρ, ρ', s, h => by simp only [ro_nil, Option.bind_some, h.restrict]
  | op :: l, ρ, ρ', s, h => by
    rw [ro_cons, ro_cons, h.guard]
    cases guardOk op.guard ρ' with
    | none => rfl
    | some b =>
      cases b with
      | false => exact Same.ro l (h.put _ _)
      | true =>
        simp only [h.rop]
        cases Ab.rop D base ρ' s op.op with
        | none => rfl
        | some x => exact Same.ro l (h.put _ _)
theorem Same.of_get {t : Nat} {v : V} (h : get ρ t = v) : Same ρ ((t, v) :: ρ) := by
  intro k
  simp only [get]
  split
  · rename_i e; rw [← e, h]
  · rfl

/-- A region, with what is kept behind it. -/
noncomputable def rg (D : Nat → Option Fc) (base : Nat) (ks : List Nat) (l : List Op) (ρ : Env) (s : St) : Option (Ex × Env × St) :=
  (ro D base l ρ s).bind fun x => some (Ex.normal, restrict ks x.1, x.2)
theorem rc_reg_rg {ks : List Nat} {l : List Op} : rc D base (.reg (some ks) l) ρ s = rg D base ks l ρ s := rc_reg
theorem rc_regd_rg {ks : List Nat} {l : List Op} : rc D base (.regd (some ks) l) ρ s = rg D base ks l ρ s := rc_regd
theorem rg_nil {ks : List Nat} : rg D base ks [] ρ s = some (Ex.normal, restrict ks ρ, s) := by simp only [rg, ro_nil, Option.bind_some]
theorem rg_n {ks : List Nat} {d : Option Nat} {o : Op'} {rest : List Op} : rg D base ks (⟨d, none, o⟩ :: rest) ρ s = obind (rop D base ρ s o) fun x => rg D base ks rest (put d x.1 ρ) x.2 := by
  simp only [rg]
  rw [ro_cons]
  simp only [guardOk]
  cases rop D base ρ s o <;> rfl
/-- A guard's value: b, or not; or its operation was passed by. -/
def oguard {α : Type} (v : V) (b : Bool) (A B C : Option α) : Option α :=
  match v with
  | .bool x => if x = b then A else B
  | .tup [] => C
  | _ => none
theorem oguard_bool {α : Type} {x b : Bool} {A B C : Option α} : oguard (.bool x) b A B C = if x = b then A else B := nd rfl
theorem oguard_tup {α : Type} {b : Bool} {A B C : Option α} : oguard (.tup []) b A B C = C := nd rfl
@[congr] theorem oguard_congr {α : Type} {v w : V} {b : Bool} {A B C : Option α} (h : v = w) : oguard v b A B C = oguard w b A B C := by rw [h]
theorem oguard_imp {α : Type} {v : V} {b : Bool} {A B C A' B' C' : Option α} (hA : v = .bool b → A = A') (hB : v = .bool (!b) → B = B') (hC : v = .tup [] → C = C') : oguard v b A B C = oguard v b A' B' C' := by
  unfold oguard
  split
  · rename_i x
    split
    · rename_i h; exact hA (by rw [h])
    · rename_i h; exact hB (by cases x <;> cases b <;> simp_all)
  · exact hC rfl
  · rfl
theorem rg_g {ks : List Nat} {d : Option Nat} {t : Nat} {b : Bool} {o : Op'} {rest : List Op} : rg D base ks (⟨d, some (t, b), o⟩ :: rest) ρ s =
    oguard (get ρ t) b (obind (rop D base ρ s o) fun y => rg D base ks rest (put d y.1 ((t, .bool b) :: ρ)) y.2) (rg D base ks rest (put d (.tup []) ((t, .bool !b) :: ρ)) s) (rg D base ks rest (put d (.tup []) ((t, .tup []) :: ρ)) s) := by
  have h0 : rg D base ks (⟨d, some (t, b), o⟩ :: rest) ρ s = oguard (get ρ t) b (obind (rop D base ρ s o) fun y => rg D base ks rest (put d y.1 ρ) y.2) (rg D base ks rest (put d (.tup []) ρ) s) (rg D base ks rest (put d (.tup []) ρ) s) := by
    simp only [rg]
    rw [ro_cons]
    simp only [guardOk]
    cases hv : get ρ t with
    | bool x =>
      simp only [oguard]
      by_cases hxb : x = b
      · subst hxb
        simp only [beq_self_eq_true, if_true]
        cases rop D base ρ s o <;> rfl
      · have hxb' : (x == b) = false := by simp [hxb]
        simp only [hxb', if_neg hxb]
    | tup l => cases l <;> rfl
    | _ => rfl
  rw [h0]
  refine oguard_imp (fun hv => ?_) (fun hv => ?_) (fun hv => Same.ro rest ((Same.of_get hv).put _ _))
  · cases rop D base ρ s o with
    | none => rfl
    | some y => exact Same.ro rest ((Same.of_get hv).put _ _)
  · exact Same.ro rest ((Same.of_get hv).put _ _)
theorem bind_ite {α β : Type} {c : Prop} [Decidable c] {x y : Option α} {f : α → Option β} : (if c then x else y).bind f = if c then x.bind f else y.bind f := by
  split <;> rfl
theorem put_some {t : Nat} {v : V} : put (some t) v ρ = (t, v) :: ρ := nd rfl
theorem put_none {v : V} : put none v ρ = ρ := nd rfl
theorem get_cons {k t : Nat} {v : V} : get ((k, v) :: ρ) t = if k = t then v else get ρ t := nd rfl
theorem restrict_nil : restrict [] ρ = [] := nd rfl
theorem restrict_cons {k : Nat} {ks : List Nat} : restrict (k :: ks) ρ = (k, get ρ k) :: restrict ks ρ := nd rfl
theorem keepOf_some {ks : List Nat} : keepOf (some ks) ρ = restrict ks ρ := nd rfl
theorem keepOf_none : keepOf none ρ = ρ := nd rfl
theorem ev_t {n : Nat} : Opd.ev ρ (.t n) = get ρ n := nd rfl
theorem ev_k {v : V} : Opd.ev ρ (.k v) = v := nd rfl
theorem env0_nil {i : Nat} : env0 i [] = [] := nd rfl
theorem env0_cons {i : Nat} {v : V} {l : List V} : env0 i (v :: l) = (i, v) :: env0 (i + 1) l := nd rfl

section ops
variable {x y a b c p i : Opd}
theorem op_mv : rop D base ρ s (.mv x) = some (x.ev ρ, s) := nd rfl
theorem op_pick : rop D base ρ s (.pick c a b) = obool (c.ev ρ) fun t => some (if t then a.ev ρ else b.ev ρ, s) := nd rfl
theorem op_alloc {h : Bool} {z : V} : rop D base ρ s (.alloc h z) = some (.ptr (s.fresh h) [] z.tag, s.new h z) := nd rfl
theorem op_box {h : Bool} : rop D base ρ s (.box h x) = if (x.ev ρ).ok && mayNew h (x.ev ρ) then some (.ptr (s.fresh h) [] (x.ev ρ).tag, s.new h (x.ev ρ)) else none := nd rfl
/-- A load. -/
def ldv (s : St) (t : Nat) : V → Option V
  | .ptr a path t' => if t' = t then s.read a path else none
  | _ => none
theorem ldv_ptr {t t' : Nat} {a : Loc} {path : List Nat} : ldv s t (.ptr a path t') = if t' = t then s.read a path else none := nd rfl
theorem op_ld {t : Nat} : rop D base ρ s (.ld t p) = obind (ldv s t (p.ev ρ)) fun v => some (v, s) := by
  show evOp base ρ s (.ld t p) = _
  simp only [evOp]
  cases p.ev ρ with
  | ptr a path t' =>
    simp only [ldv]
    split
    · cases s.read a path <;> rfl
    · rfl
  | _ => rfl
def stv (base : Nat) (s : St) (t : Nat) (x : V) : V → Option St
  | .ptr a path t' => if t' = t ∧ x.tag = t then s.write base a path x else none
  | _ => none
theorem stv_ptr {t t' : Nat} {a : Loc} {path : List Nat} {x : V} : stv base s t x (.ptr a path t') = if t' = t ∧ x.tag = t then s.write base a path x else none := nd rfl
theorem op_st {t : Nat} : rop D base ρ s (.st t p x) = obind (stv base s t (x.ev ρ) (p.ev ρ)) fun s' => some (.dead, s') := by
  show evOp base ρ s (.st t p x) = _
  simp only [evOp]
  cases p.ev ρ with
  | ptr a path t' =>
    simp only [stv]
    split
    · cases s.write base a path (x.ev ρ) <;> rfl
    · rfl
  | _ => rfl
def nilv : V → Option V
  | .ptr a p t => some (.ptr a p t)
  | .fn f l => some (.fn f l)
  | _ => none
theorem nilv_ptr {t : Nat} {a : Loc} {path : List Nat} : nilv (.ptr a path t) = some (.ptr a path t) := nd rfl
theorem nilv_fn {f : Nat} {l : List V} : nilv (.fn f l) = some (.fn f l) := nd rfl
theorem op_nilc : rop D base ρ s (.nilc x) = obind (nilv (x.ev ρ)) fun v => some (v, s) := by
  show evOp base ρ s (.nilc x) = _
  simp only [evOp]
  cases x.ev ρ <;> rfl
theorem op_bin {o : BinOp} : rop D base ρ s (.bin o x y) = obind (vbin o (x.ev ρ) (y.ev ρ)) fun v => some (v, s) := by
  show evOp base ρ s (.bin o x y) = _
  simp only [evOp]
  cases vbin o (x.ev ρ) (y.ev ρ) <;> rfl
def eqv (neg : Bool) (t : Nat) (x y : V) : Option V := obind (veqT t x y) fun b => some (.bool (if neg then !b else b))
theorem op_eq {neg : Bool} {t : Nat} : rop D base ρ s (.eq neg t x y) = obind (eqv neg t (x.ev ρ) (y.ev ρ)) fun v => some (v, s) := by
  show evOp base ρ s (.eq neg t x y) = _
  simp only [evOp, eqv]
  cases veqT t (x.ev ρ) (y.ev ρ) <;> rfl
theorem op_un {o : UnOp} : rop D base ρ s (.un o x) = obind (vun o (x.ev ρ)) fun v => some (v, s) := by
  show evOp base ρ s (.un o x) = _
  simp only [evOp]
  cases vun o (x.ev ρ) <;> rfl
def convv (k : IntKind) : V → Option V
  | .int _ n => some (.int k (k.wrap n))
  | _ => none
theorem convv_int {k k' : IntKind} {n : Int} : convv k (.int k' n) = some (.int k (k.wrap n)) := nd rfl
theorem op_conv {k : IntKind} : rop D base ρ s (.conv k x) = obind (convv k (x.ev ρ)) fun v => some (v, s) := by
  show evOp base ρ s (.conv k x) = _
  simp only [evOp]
  cases x.ev ρ <;> rfl
def mkfnv (f : Nat) (caps : List V) : Option V := if caps.all (fun v => v.tag == 1) then some (.fn f caps) else none
theorem op_mkfn_o {f : Nat} {caps : List Opd} : rop D base ρ s (.mkfn f caps) = obind (mkfnv f (caps.map (Opd.ev ρ))) fun v => some (v, s) := by
  show evOp base ρ s (.mkfn f caps) = _
  simp only [evOp, mkfnv]
  split <;> rfl
theorem op_mkfn {f : Nat} {caps : List Opd} : rop D base ρ s (.mkfn f caps) = if (caps.map (Opd.ev ρ)).all (fun v => v.tag == 1) then some (.fn f (caps.map (Opd.ev ρ)), s) else none := nd rfl
def mkslv (h : Bool) (r e : Nat) (z : V) (s : St) : V → V → Option (V × St)
  | .int _ l, .int _ m => if 0 ≤ l ∧ l ≤ m ∧ m ≤ most then
      some (.sl (s.fresh h) [] 0 l.toNat (some m.toNat) e, s.new h (.agg r (List.replicate l.toNat z)))
    else none
  | _, _ => none
theorem op_mksl_o {h : Bool} {r e : Nat} {z : V} {n c : Opd} : rop D base ρ s (.mksl h r e z n c) = mkslv h r e z s (n.ev ρ) (c.ev ρ) := by
  show evOp base ρ s (.mksl h r e z n c) = _
  simp only [evOp]
  cases n.ev ρ with
  | int _ _ => cases c.ev ρ <;> rfl
  | _ => rfl
theorem op_mksl {h : Bool} {r e : Nat} {z : V} {n c : Opd} : rop D base ρ s (.mksl h r e z n c) = match n.ev ρ, c.ev ρ with
    | .int _ l, .int _ m => if 0 ≤ l ∧ l ≤ m ∧ m ≤ most then
        some (.sl (s.fresh h) [] 0 l.toNat (some m.toNat) e, s.new h (.agg r (List.replicate l.toNat z)))
      else none
    | _, _ => none := nd rfl
/-- A slice expression over a slice. -/
def slcv (e : Nat) (lo hi mx : Option V) : V → Option V
  | .sl a path off len cap e' => if e' = e then
      obind (bound (cap.getD len) mx (cap.getD len)) fun m => obind (bound (hbnd mx.isSome m len) hi len) fun h => obind (bound h lo 0) fun l =>
        some (.sl a path (off + l) (h - l) (ncap mx.isSome cap (m - l)) e)
    else none
  | .nils => obind (bound 0 mx 0) fun _ => obind (bound 0 hi 0) fun _ => obind (bound 0 lo 0) fun _ => some .nils
  | _ => none
theorem op_slc {e : Nat} {lo hi mx : Option Opd} : rop D base ρ s (.slc e x lo hi mx) = obind (slcv e (lo.map (Opd.ev ρ)) (hi.map (Opd.ev ρ)) (mx.map (Opd.ev ρ)) (x.ev ρ)) fun v => some (v, s) := by
  show evOp base ρ s (.slc e x lo hi mx) = _
  simp only [evOp]
  cases x.ev ρ with
  | sl a path off len cap e' =>
    simp only [slcv]
    by_cases he : e' = e
    · simp only [if_pos he, Option.isSome_map]
      cases h1 : bound (cap.getD len) (mx.map (Opd.ev ρ)) (cap.getD len) with
      | none => rfl
      | some m =>
        simp only [obind_some]
        cases h2 : bound (hbnd mx.isSome m len) (hi.map (Opd.ev ρ)) len with
        | none => rfl
        | some h =>
          simp only [obind_some]
          cases h3 : bound h (lo.map (Opd.ev ρ)) 0 <;> rfl
    · simp only [if_neg he]; rfl
  | nils =>
    simp only [slcv]
    cases bound 0 (mx.map (Opd.ev ρ)) 0 <;> cases bound 0 (hi.map (Opd.ev ρ)) 0 <;> cases bound 0 (lo.map (Opd.ev ρ)) 0 <;> rfl
  | _ => rfl
def slstrv (lo hi : Option V) : V → Option V
  | .str b => obind (bound b.size hi b.size) fun h => obind (bound h lo 0) fun l => some (.str (b.extract l h))
  | _ => none
theorem op_slstr_o {lo hi : Option Opd} : rop D base ρ s (.slstr x lo hi) = obind (slstrv (lo.map (Opd.ev ρ)) (hi.map (Opd.ev ρ)) (x.ev ρ)) fun v => some (v, s) := by
  show evOp base ρ s (.slstr x lo hi) = _
  simp only [evOp]
  cases x.ev ρ with
  | str b =>
    simp only [slstrv]
    cases bound b.size (hi.map (Opd.ev ρ)) b.size with
    | none => rfl
    | some h => simp only [obind_some]; cases bound h (lo.map (Opd.ev ρ)) 0 <;> rfl
  | _ => rfl
theorem op_slstr {lo hi : Option Opd} : rop D base ρ s (.slstr x lo hi) = match x.ev ρ with
    | .str b => obind (bound b.size (hi.map (Opd.ev ρ)) b.size) fun h => obind (bound h (lo.map (Opd.ev ρ)) 0) fun l => some (.str (b.extract l h), s)
    | _ => none := by
  show evOp base ρ s (.slstr x lo hi) = _
  simp only [evOp]
  cases x.ev ρ with
  | str b =>
    simp only
    cases bound b.size (hi.map (Opd.ev ρ)) b.size with
    | none => rfl
    | some h => simp only [obind_some]; cases bound h (lo.map (Opd.ev ρ)) 0 <;> rfl
  | _ => rfl
def slarrv (s : St) (t n e : Nat) (lo hi mx : Option V) : V → Option V
  | .ptr a path t' => if t' = t ∧ (s.read a path).isSome = true then obind (bound n mx n) fun m => obind (bound m hi n) fun h => obind (bound h lo 0) fun l => some (.sl a path l (h - l) (some (m - l)) e) else none
  | _ => none
theorem op_slarr {t n e : Nat} {lo hi mx : Option Opd} : rop D base ρ s (.slarr t n e x lo hi mx) = obind (slarrv s t n e (lo.map (Opd.ev ρ)) (hi.map (Opd.ev ρ)) (mx.map (Opd.ev ρ)) (x.ev ρ)) fun v => some (v, s) := by
  show evOp base ρ s (.slarr t n e x lo hi mx) = _
  simp only [evOp]
  cases x.ev ρ with
  | ptr a path t' =>
    simp only [slarrv]
    by_cases he : t' = t ∧ (s.read a path).isSome = true
    · simp only [if_pos he]
      cases bound n (mx.map (Opd.ev ρ)) n with
      | none => rfl
      | some m =>
        simp only [obind_some]
        cases bound m (hi.map (Opd.ev ρ)) n with
        | none => rfl
        | some h => simp only [obind_some]; cases bound h (lo.map (Opd.ev ρ)) 0 <;> rfl
    · simp only [if_neg he]; rfl
  | _ => rfl
def fadv (t f c : Nat) : V → Option V
  | .ptr a path t' => if t' = t then some (.ptr a (path ++ [f]) c) else none
  | _ => none
theorem op_fad {t f c : Nat} : rop D base ρ s (.fad t f c x) = obind (fadv t f c (x.ev ρ)) fun v => some (v, s) := by
  show evOp base ρ s (.fad t f c x) = _
  simp only [evOp]
  cases x.ev ρ with
  | ptr a path t' => simp only [fadv]; split <;> rfl
  | _ => rfl
def iadv (t n e : Nat) : V → V → Option V
  | .ptr a path t', .int _ j => if t' = t ∧ 0 ≤ j ∧ j < n then some (.ptr a (path ++ [j.toNat]) e) else none
  | _, _ => none
theorem op_iad {t n e : Nat} : rop D base ρ s (.iad t n e x i) = obind (iadv t n e (x.ev ρ) (i.ev ρ)) fun v => some (v, s) := by
  show evOp base ρ s (.iad t n e x i) = _
  simp only [evOp]
  cases x.ev ρ with
  | ptr a path t' =>
    cases i.ev ρ with
    | int k j => simp only [iadv]; split <;> rfl
    | _ => rfl
  | _ => rfl
def sadv (e : Nat) : V → V → Option V
  | .sl a path off len _ e', .int _ j => if e' = e ∧ 0 ≤ j ∧ j < len then some (.ptr a (path ++ [off + j.toNat]) e) else none
  | _, _ => none
theorem op_sad {e : Nat} : rop D base ρ s (.sad e x i) = obind (sadv e (x.ev ρ) (i.ev ρ)) fun v => some (v, s) := by
  show evOp base ρ s (.sad e x i) = _
  simp only [evOp]
  cases x.ev ρ with
  | sl a path off len cap e' =>
    cases i.ev ρ with
    | int k j => simp only [sadv]; split <;> rfl
    | _ => rfl
  | _ => rfl
def fldv (t f : Nat) : V → Option V
  | .agg t' l => if t' = t then l[f]? else none
  | _ => none
theorem op_fld {t f : Nat} : rop D base ρ s (.fld t f x) = obind (fldv t f (x.ev ρ)) fun v => some (v, s) := by
  show evOp base ρ s (.fld t f x) = _
  simp only [evOp]
  cases x.ev ρ with
  | agg t' l => simp only [fldv]; split <;> (first | rfl | (cases l[f]? <;> rfl))
  | _ => rfl
def idxv (t n : Nat) : V → V → Option V
  | .agg t' l, .int _ j => if t' = t ∧ 0 ≤ j ∧ j < n then l[j.toNat]? else none
  | _, _ => none
theorem op_idx {t n : Nat} : rop D base ρ s (.idx t n x i) = obind (idxv t n (x.ev ρ) (i.ev ρ)) fun v => some (v, s) := by
  show evOp base ρ s (.idx t n x i) = _
  simp only [evOp]
  cases x.ev ρ with
  | agg t' l =>
    cases i.ev ρ with
    | int k j => simp only [idxv]; split <;> (first | rfl | (cases l[j.toNat]? <;> rfl))
    | _ => rfl
  | _ => rfl
def sidxv : V → V → Option V
  | .str b, .int _ j => if 0 ≤ j then (b[j.toNat]?).map fun c => .int .u8 c.toNat else none
  | _, _ => none
theorem op_sidx : rop D base ρ s (.sidx x i) = obind (sidxv (x.ev ρ) (i.ev ρ)) fun v => some (v, s) := by
  show evOp base ρ s (.sidx x i) = _
  simp only [evOp]
  cases x.ev ρ with
  | str b =>
    cases i.ev ρ with
    | int k j =>
      simp only [sidxv]
      by_cases hj : 0 ≤ j
      · simp only [if_pos hj]; cases b[j.toNat]? <;> rfl
      · simp only [if_neg hj]; rfl
    | _ => rfl
  | _ => rfl
def extv (n : Nat) : V → Option V
  | .tup l => l[n]?
  | _ => none
theorem extv_tup {l : List V} {n : Nat} : extv n (.tup l) = l[n]? := nd rfl
theorem op_ext {n : Nat} : rop D base ρ s (.ext x n) = obind (extv n (x.ev ρ)) fun v => some (v, s) := by
  show evOp base ρ s (.ext x n) = _
  simp only [evOp]
  cases x.ev ρ with
  | tup l => simp only [extv]; cases l[n]? <;> rfl
  | _ => rfl
theorem op_lenk {n : Nat} : rop D base ρ s (.lenk n) = some (.int .i64 n, s) := nd rfl
theorem op_len {q : Bool} : rop D base ρ s (.len q x) = obind (V.slen q (x.ev ρ)) fun n => some (.int .i64 n, s) := by
  show evOp base ρ s (.len q x) = _
  simp only [evOp]
  cases V.slen q (x.ev ρ) <;> rfl
theorem op_cpy {e : Nat} : rop D base ρ s (.cpy e x y) = vcopy base e (x.ev ρ) (y.ev ρ) s := nd rfl
theorem op_mnx {mx : Bool} : rop D base ρ s (.mnx mx x y) = obind (vmnx mx (x.ev ρ) (y.ev ρ)) fun v => some (v, s) := by
  show evOp base ρ s (.mnx mx x y) = _
  simp only [evOp]
  cases vmnx mx (x.ev ρ) (y.ev ρ) <;> rfl
theorem op_app {h : Bool} {r e : Nat} : rop D base ρ s (.app h r e x y) = vappend base h r e (x.ev ρ) (y.ev ρ) s := nd rfl
theorem op_bld {t : Nat} {l : List V} {ps : List (Nat × Opd)} : rop D base ρ s (.bld (.agg t l) ps) = obind (setParts l (ps.map fun p => (p.1, p.2.ev ρ))) fun l' => some (.agg t l', s) := by
  show evOp base ρ s (.bld (.agg t l) ps) = _
  simp only [evOp]
  cases setParts l (ps.map fun p => (p.1, p.2.ev ρ)) <;> rfl
def bslv (h : Bool) (r e n : Nat) (z : V) (s : St) (ps : List (Nat × V)) : Option (V × St) :=
  obind (setParts (List.replicate n z) ps) fun l' => if (e % 2 = 0 ∨ mayNew h (.agg 1 l')) then some (.sl (s.fresh h) [] 0 n (some n) e, s.new h (.agg r l')) else none
theorem op_bsl_o {h : Bool} {r e n : Nat} {z : V} {ps : List (Nat × Opd)} : rop D base ρ s (.bsl h r e z n ps) = bslv h r e n z s (ps.map fun p => (p.1, p.2.ev ρ)) := by
  show evOp base ρ s (.bsl h r e z n ps) = _
  simp only [evOp, bslv]
  cases setParts (List.replicate n z) (ps.map fun p => (p.1, p.2.ev ρ)) <;> rfl
theorem op_bsl {h : Bool} {r e n : Nat} {z : V} {ps : List (Nat × Opd)} : rop D base ρ s (.bsl h r e z n ps) = obind (setParts (List.replicate n z) (ps.map fun p => (p.1, p.2.ev ρ))) fun l' => if (e % 2 = 0 ∨ mayNew h (.agg 1 l')) then some (.sl (s.fresh h) [] 0 n (some n) e, s.new h (.agg r l')) else none := by
  show evOp base ρ s (.bsl h r e z n ps) = _
  simp only [evOp]
  cases setParts (List.replicate n z) (ps.map fun p => (p.1, p.2.ev ρ)) <;> rfl
/-- A call by value. -/
noncomputable def callv (D : Nat → Option Fc) (args : List V) (s : St) : V → Option (V × St)
  | .fn g caps => rf D g (args ++ caps) s
  | _ => none
theorem callv_fn {args : List V} {g : Nat} {caps : List V} : callv D args s (.fn g caps) = rf D g (args ++ caps) s := nd rfl
theorem op_call {f : Opd} {args : List Opd} : rop D base ρ s (.call f args) = callv D (args.map (Opd.ev ρ)) s (f.ev ρ) := by
  simp only [rop]
  cases f.ev ρ <;> rfl
/-- A call that changes nothing, at the locals that it can come to. -/
noncomputable def pcallw (D : Nat → Option Fc) (k base g : Nat) (as : List V) (s : St) : Option V :=
  if (V.locLts k as && (decide (base ≤ k) && (decide (k ≤ s.loc.length) && ((s.loc.take k).drop base).all (blkLt k)))) = true then
    obind (rf D g as ⟨s.loc.take k, s.hp⟩) fun x => if x.2 = ⟨s.loc.take k, s.hp⟩ ∧ x.1.flat = true then some x.1 else none
  else none
noncomputable def pcallv (D : Nat → Option Fc) (base : Nat) (args : List V) (s : St) : V → Option V
  | .fn g caps => pcallw D (pcut base (args ++ caps)) base g (args ++ caps) s
  | _ => none
theorem pcallv_fn {args : List V} {g : Nat} {caps : List V} : pcallv D base args s (.fn g caps) = pcallw D (pcut base (args ++ caps)) base g (args ++ caps) s := nd rfl
theorem op_pcall {f : Opd} {args : List Opd} : rop D base ρ s (.pcall f args) = obind (pcallv D base (args.map (Opd.ev ρ)) s (f.ev ρ)) fun v => some (v, s) := by
  simp only [rop]
  cases f.ev ρ with
  | fn g caps =>
    show (if pOk base (pcut base (args.map (Opd.ev ρ) ++ caps)) (args.map (Opd.ev ρ) ++ caps) s = true then
        (rf D g (args.map (Opd.ev ρ) ++ caps) (s.cut (pcut base (args.map (Opd.ev ρ) ++ caps)))).bind fun x => if x.2 = s.cut (pcut base (args.map (Opd.ev ρ) ++ caps)) ∧ x.1.flat = true then some (x.1, s) else none
      else none) = obind (pcallw D (pcut base (args.map (Opd.ev ρ) ++ caps)) base g (args.map (Opd.ev ρ) ++ caps) s) _
    generalize hk : pcut base (args.map (Opd.ev ρ) ++ caps) = k
    unfold pcallw
    by_cases hp : pOk base k (args.map (Opd.ev ρ) ++ caps) s = true
    · rw [if_pos hp, if_pos (show (_ && _) = true from hp)]
      show (rf D g (args.map (Opd.ev ρ) ++ caps) ⟨s.loc.take k, s.hp⟩).bind _ = _
      cases rf D g (args.map (Opd.ev ρ) ++ caps) ⟨s.loc.take k, s.hp⟩ with
      | none => rfl
      | some x =>
        show (if x.2 = s.cut k ∧ x.1.flat = true then some (x.1, s) else none) = obind (if x.2 = s.cut k ∧ x.1.flat = true then some x.1 else none) _
        by_cases hx : x.2 = s.cut k ∧ x.1.flat = true
        · rw [if_pos hx, if_pos hx]; rfl
        · rw [if_neg hx, if_neg hx]; rfl
    · rw [if_neg hp, if_neg (show ¬ ((_ && _) = true) from hp)]; rfl
  | _ => rfl
theorem flat_int {k : IntKind} {n : Int} : V.flat (.int k n) = true := nd rfl
theorem flat_bool {b : Bool} : V.flat (.bool b) = true := nd rfl
theorem flat_str {b : ByteArray} : V.flat (.str b) = true := nd rfl
theorem flat_agg {t : Nat} {l : List V} : V.flat (.agg t l) = V.flats l := nd rfl
theorem flat_tup {l : List V} : V.flat (.tup l) = V.flats l := nd rfl
theorem flats_nil : V.flats [] = true := nd rfl
theorem flats_cons {v : V} {l : List V} : V.flats (v :: l) = (v.flat && V.flats l) := nd rfl
theorem flats_of {l : List V} (h : ∀ v ∈ l, v.flat = true) : V.flats l = true := by
  induction l with
  | nil => rfl
  | cons a l ih => simp only [V.flats, Bool.and_eq_true]; exact ⟨h a (by simp), ih fun v hv => h v (by simp [hv])⟩
theorem flats_bools {l : List Bool} : V.flats (l.map V.bool) = true := flats_of fun v hv => by obtain ⟨b, _, rfl⟩ := List.mem_map.1 hv; rfl
theorem flats_ints {k : IntKind} {l : List Int} : V.flats (l.map (V.int k)) = true := flats_of fun v hv => by obtain ⟨b, _, rfl⟩ := List.mem_map.1 hv; rfl
/-- A store that is held to lead elsewhere than some references. -/
def stav (base : Nat) (s : St) (t : Nat) (x p : V) (l : List V) : Option St := if l.all (fun y => locNe y p) = true then stv base s t x p else none
theorem op_sta {t : Nat} {l : List Opd} : rop D base ρ s (.sta t p x l) = obind (stav base s t (x.ev ρ) (p.ev ρ) (l.map (Opd.ev ρ))) fun s' => some (.dead, s') := by
  show evOp base ρ s (.sta t p x l) = _
  simp only [evOp, stav, List.all_map]
  show (if (l.all fun y => locNe (y.ev ρ) (p.ev ρ)) = true then _ else none) = obind (if (l.all fun y => locNe (y.ev ρ) (p.ev ρ)) = true then _ else none) _
  split
  · have := @op_st D base ρ s x p t
    exact this
  · rfl
/-- A load that is held to read the block of another reference. -/
def ldav (s : St) (t : Nat) (p r : V) : Option V := if locEq r p = true then ldv s t p else none
theorem op_lda {t : Nat} {r : Opd} : rop D base ρ s (.lda t p r) = obind (ldav s t (p.ev ρ) (r.ev ρ)) fun v => some (v, s) := by
  show evOp base ρ s (.lda t p r) = _
  simp only [evOp, ldav]
  show (if locEq (r.ev ρ) (p.ev ρ) = true then _ else none) = _
  split
  · exact @op_ld D base ρ s p t
  · rfl
theorem locEq_ptr {a b : Loc} {q r : List Nat} {t u : Nat} : locEq (.ptr a q t) (.ptr b r u) = decide (a = b) := nd rfl
noncomputable def callwv (D : Nat → Option Fc) (args : List V) (s : St) (w f : V) : Option (V × St) := if live s w = true then callv D args s f else none
theorem op_callw {f w : Opd} {args : List Opd} : rop D base ρ s (.callw f args w) = callwv D (args.map (Opd.ev ρ)) s (w.ev ρ) (f.ev ρ) := by
  simp only [rop, callwv]
  split
  · cases f.ev ρ <;> rfl
  · rfl
theorem live_ptr {a : Loc} {q : List Nat} {t : Nat} : live s (.ptr a q t) = (s.read a q).isSome := nd rfl
theorem locNe_ptr {a b : Loc} {q r : List Nat} {t u : Nat} : locNe (.ptr a q t) (.ptr b r u) = decide (a ≠ b) := nd rfl
theorem lim1_hp {i : Nat} {p : List Nat} {t : Nat} : V.lim1 (.ptr (.hp i) p t) = 0 := nd rfl
theorem lim1_loc {i : Nat} {p : List Nat} {t : Nat} : V.lim1 (.ptr (.loc i) p t) = i + 1 := nd rfl
theorem lim1_sl {i : Nat} {p : List Nat} {o l : Nat} {c : Option Nat} {t : Nat} : V.lim1 (.sl (.loc i) p o l c t) = i + 1 := nd rfl
theorem lim1_int {k : IntKind} {n : Int} : V.lim1 (.int k n) = 0 := nd rfl
theorem lim1_bool {n : Bool} : V.lim1 (.bool n) = 0 := nd rfl
theorem lim1_agg {t : Nat} {l : List V} : V.lim1 (.agg t l) = 0 := nd rfl
theorem lim1_fn {t : Nat} {l : List V} : V.lim1 (.fn t l) = 0 := nd rfl
theorem lims_nil : lims base [] = base := nd rfl
theorem lims_cons {v : V} {l : List V} : lims base (v :: l) = max v.lim1 (lims base l) := nd rfl
end ops

/-! ### A region, operation by operation, in one breath: what the printed 'R_..' are held against -/
theorem obind_assoc {α β γ : Type} {x : Option α} {f : α → Option β} {g : β → Option γ} : obind (obind x f) g = obind x fun a => obind (f a) g := by cases x <;> rfl
theorem obool_obind {α β : Type} {v : V} {f : Bool → Option α} {g : α → Option β} : obind (obool v f) g = obool v fun t => obind (f t) g := by cases v <;> rfl
theorem ite_obind {α β : Type} {c : Prop} [Decidable c] {x : Option α} {g : α → Option β} : obind (if c then x else none) g = if c then obind x g else none := by split <;> rfl
theorem obind_fun {α β : Type} {x : Option α} {f g : α → Option β} (h : ∀ a, f a = g a) : obind x f = obind x g := by cases x <;> simp only [obind, Option.bind_none, Option.bind_some, h]
theorem obool_fun {α : Type} {v : V} {f g : Bool → Option α} (h : ∀ t, f t = g t) : obool v f = obool v g := by cases v <;> simp only [obool, h]

noncomputable def r1 (D : Nat → Option Fc) (base : Nat) (ρ : Env) (s : St) {α : Type} (o : Op') (K : V → St → Option α) : Option α :=
  match o with
  | .mv x => K (x.ev ρ) s
  | .pick c a b => obool (c.ev ρ) fun t => K (if t then a.ev ρ else b.ev ρ) s
  | .alloc h z => K (.ptr (s.fresh h) [] z.tag) (s.new h z)
  | .box h x => if (x.ev ρ).ok && mayNew h (x.ev ρ) then K (.ptr (s.fresh h) [] (x.ev ρ).tag) (s.new h (x.ev ρ)) else none
  | .ld t p => obind (ldv s t (p.ev ρ)) fun v => K v s
  | .st t p x => obind (stv base s t (x.ev ρ) (p.ev ρ)) fun s' => K .dead s'
  | .nilc x => obind (nilv (x.ev ρ)) fun v => K v s
  | .bin o x y => obind (vbin o (x.ev ρ) (y.ev ρ)) fun v => K v s
  | .un o x => obind (vun o (x.ev ρ)) fun v => K v s
  | .conv k x => obind (convv k (x.ev ρ)) fun v => K v s
  | .fad t f c x => obind (fadv t f c (x.ev ρ)) fun v => K v s
  | .iad t n e x i => obind (iadv t n e (x.ev ρ) (i.ev ρ)) fun v => K v s
  | .sad e x i => obind (sadv e (x.ev ρ) (i.ev ρ)) fun v => K v s
  | .fld t f x => obind (fldv t f (x.ev ρ)) fun v => K v s
  | .idx t n x i => obind (idxv t n (x.ev ρ) (i.ev ρ)) fun v => K v s
  | .sidx x i => obind (sidxv (x.ev ρ) (i.ev ρ)) fun v => K v s
  | .ext x n => obind (extv n (x.ev ρ)) fun v => K v s
  | .lenk n => K (.int .i64 n) s
  | .len q x => obind (V.slen q (x.ev ρ)) fun n => K (.int .i64 n) s
  | .slc e x lo hi mx => obind (slcv e (lo.map (Opd.ev ρ)) (hi.map (Opd.ev ρ)) (mx.map (Opd.ev ρ)) (x.ev ρ)) fun v => K v s
  | .slarr t n e x lo hi mx => obind (slarrv s t n e (lo.map (Opd.ev ρ)) (hi.map (Opd.ev ρ)) (mx.map (Opd.ev ρ)) (x.ev ρ)) fun v => K v s
  | .eq neg t x y => obind (eqv neg t (x.ev ρ) (y.ev ρ)) fun v => K v s
  | .mkfn f caps => obind (mkfnv f (caps.map (Opd.ev ρ))) fun v => K v s
  | .slstr x lo hi => obind (slstrv (lo.map (Opd.ev ρ)) (hi.map (Opd.ev ρ)) (x.ev ρ)) fun v => K v s
  | .mksl h r e z n c => obind (mkslv h r e z s (n.ev ρ) (c.ev ρ)) fun x => K x.1 x.2
  | .app h r e x y => obind (vappend base h r e (x.ev ρ) (y.ev ρ) s) fun x => K x.1 x.2
  | .bsl h r e z n ps => obind (bslv h r e n z s (ps.map fun p => (p.1, p.2.ev ρ))) fun x => K x.1 x.2
  | .cpy e x y => obind (vcopy base e (x.ev ρ) (y.ev ρ) s) fun x => K x.1 x.2
  | .mnx mx x y => obind (vmnx mx (x.ev ρ) (y.ev ρ)) fun v => K v s
  | .bld z ps => match z with
    | .agg t l => obind (setParts l (ps.map fun p => (p.1, p.2.ev ρ))) fun l' => K (.agg t l') s
    | _ => none
  | .call f args => obind (callv D (args.map (Opd.ev ρ)) s (f.ev ρ)) fun x => K x.1 x.2
  | .pcall f args => obind (pcallv D base (args.map (Opd.ev ρ)) s (f.ev ρ)) fun v => K v s
  | .sta t p x l => obind (stav base s t (x.ev ρ) (p.ev ρ) (l.map (Opd.ev ρ))) fun s' => K .dead s'
  | .callw f args w => obind (callwv D (args.map (Opd.ev ρ)) s (w.ev ρ) (f.ev ρ)) fun x => K x.1 x.2
  | .lda t p r => obind (ldav s t (p.ev ρ) (r.ev ρ)) fun v => K v s

theorem r1_rop {α : Type} {o : Op'} {K : V → St → Option α} : obind (rop D base ρ s o) (fun x => K x.1 x.2) = r1 D base ρ s o K := by
  cases o with
  | bld z ps =>
    cases z with
    | agg t l => simp only [r1, op_bld, obind_assoc, obind_some]
    | _ => rfl
  | pcall f args => simp only [r1, op_pcall, obind_assoc, obind_some]
  | box h x => simp only [r1, op_box, ite_obind, obind_some]
  | _ => simp only [r1, op_mv, op_pick, op_alloc, op_ld, op_st, op_nilc, op_bin, op_un, op_conv, op_fad, op_iad, op_sad, op_fld, op_idx, op_sidx, op_ext, op_lenk, op_len, op_slc, op_slarr, op_call, op_eq, op_mkfn_o, op_slstr_o, op_mksl_o, op_app, op_cpy, op_mnx, op_bsl_o, op_sta, op_callw, op_lda, obind_assoc, obind_some, obool_obind]

noncomputable def rgO (D : Nat → Option Fc) (base : Nat) (ks : List Nat) : List Op → Env → St → Option (Ex × Env × St)
  | [], ρ, s => some (Ex.normal, restrict ks ρ, s)
  | op :: rest, ρ, s => match op.guard with
    | none => r1 D base ρ s op.op fun v s' => rgO D base ks rest (put op.dst v ρ) s'
    | some (t, b) => oguard (get ρ t) b (r1 D base ρ s op.op fun v s' => rgO D base ks rest (put op.dst v ((t, .bool b) :: ρ)) s') (rgO D base ks rest (put op.dst (.tup []) ((t, .bool !b) :: ρ)) s) (rgO D base ks rest (put op.dst (.tup []) ((t, .tup []) :: ρ)) s)

theorem r1_congr {α : Type} {ρ : Env} {s : St} {o : Op'} {K K' : V → St → Option α} (h : ∀ v s, K v s = K' v s) : r1 D base ρ s o K = r1 D base ρ s o K' := by
  have : K = K' := by funext v s; exact h v s
  rw [this]
theorem r1_same {α : Type} {ρ ρ' : Env} {s : St} (hs : Same ρ ρ') {o : Op'} {K : V → St → Option α} : r1 D base ρ s o K = r1 D base ρ' s o K := by
  rw [← r1_rop, ← r1_rop, hs.rop]
theorem rg_rgO {ks : List Nat} : ∀ {l : List Op} {ρ : Env} {s : St}, rg D base ks l ρ s = rgO D base ks l ρ s
  | [], ρ, s => by rw [rg_nil]; rfl
  | ⟨d, none, o⟩ :: l, ρ, s => by
    rw [rg_n]
    simp only [rgO]
    rw [← r1_rop]
    exact obind_fun fun x => rg_rgO
  | ⟨d, some (t, b), o⟩ :: l, ρ, s => by
    rw [rg_g]
    simp only [rgO]
    refine oguard_imp (fun _ => ?_) (fun _ => rg_rgO) (fun _ => rg_rgO)
    rw [← r1_rop]
    exact obind_fun fun x => rg_rgO
theorem rc_reg_O {ks : List Nat} {l : List Op} : rc D base (.reg (some ks) l) ρ s = rgO D base ks l ρ s := rc_reg.trans rg_rgO
theorem rc_regd_O {ks : List Nat} {l : List Op} : rc D base (.regd (some ks) l) ρ s = rgO D base ks l ρ s := rc_regd.trans rg_rgO

theorem bound_none {y d : Nat} : bound y none d = some d := nd rfl
theorem bound_int {y d : Nat} {k : IntKind} {i : Int} : bound y (some (.int k i)) d = if 0 ≤ i ∧ i ≤ y then some i.toNat else none := nd rfl

/-! ### Memory -/
theorem fresh_t : s.fresh true = .hp s.hp.length := nd rfl
theorem fresh_f : s.fresh false = .loc s.loc.length := nd rfl
theorem new_t {v : V} : s.new true v = ⟨s.loc, s.hp ++ [.rw v]⟩ := nd rfl
theorem new_f {v : V} : s.new false v = ⟨s.loc ++ [.rw v], s.hp⟩ := nd rfl
theorem mayNew_f {v : V} : mayNew false v = true := nd rfl
theorem mayNew_t {v : V} : mayNew true v = v.locLt 0 := nd rfl
def Blk.rd (p : List Nat) : Option Blk → Option V
  | some (.rw v) => V.at p v
  | some (.ro v) => V.at p v
  | _ => none
theorem rd_rw {p : List Nat} {v : V} : Blk.rd p (some (.rw v)) = V.at p v := nd rfl
theorem rd_ro {p : List Nat} {v : V} : Blk.rd p (some (.ro v)) = V.at p v := nd rfl
theorem read_loc {i : Nat} {p : List Nat} : s.read (.loc i) p = Blk.rd p s.loc[i]? := nd rfl
theorem read_hp {i : Nat} {p : List Nat} : s.read (.hp i) p = Blk.rd p s.hp[i]? := nd rfl
def Blk.wr (p : List Nat) (x : V) : Option Blk → Option Blk
  | some (.rw v) => (V.setAt p x v).map .rw
  | _ => none
theorem wr_rw {p : List Nat} {x v : V} : Blk.wr p x (some (.rw v)) = (V.setAt p x v).map .rw := nd rfl
theorem write_loc {i : Nat} {p : List Nat} {x : V} : s.write base (.loc i) p x = if x.locLt 0 || decide (base ≤ i) then (Blk.wr p x s.loc[i]?).map fun b => ⟨s.loc.set i b, s.hp⟩ else none := by
  simp only [St.write, St.at]
  cases s.loc[i]? with
  | none => simp [Blk.wr]
  | some b =>
    cases b with
    | rw v =>
      simp only [Blk.wr]
      rw [show (x.locLt 0 || decide (base ≤ i)) = mayLie base (.loc i) x from rfl]
      by_cases hc : mayLie base (.loc i) x = true
      · rw [if_pos hc, if_pos hc]; cases V.setAt p x v <;> rfl
      · rw [if_neg hc, if_neg hc]
    | _ => simp [Blk.wr]
theorem write_hp {i : Nat} {p : List Nat} {x : V} : s.write base (.hp i) p x = if x.locLt 0 then (Blk.wr p x s.hp[i]?).map fun b => ⟨s.loc, s.hp.set i b⟩ else none := by
  simp only [St.write, St.at]
  cases s.hp[i]? with
  | none => simp [Blk.wr]
  | some b =>
    cases b with
    | rw v =>
      simp only [Blk.wr]
      rw [show x.locLt 0 = mayLie base (.hp i) x from rfl]
      by_cases hc : mayLie base (.hp i) x = true
      · rw [if_pos hc, if_pos hc]; cases V.setAt p x v <;> rfl
      · rw [if_neg hc, if_neg hc]
    | _ => simp [Blk.wr]
theorem at_nil {v : V} : V.at [] v = some v := nd rfl
theorem at_cons {i : Nat} {p : List Nat} {t : Nat} {l : List V} : V.at (i :: p) (.agg t l) = obind l[i]? (V.at p) := by
  simp only [V.at]; cases l[i]? <;> rfl
theorem setAt_nil {x v : V} : V.setAt [] x v = some x := nd rfl
theorem setAt_cons {i : Nat} {p : List Nat} {t : Nat} {l : List V} {x : V} : V.setAt (i :: p) x (.agg t l) = obind l[i]? fun y => obind (V.setAt p x y) fun y' => some (.agg t (l.set i y')) := by
  simp only [V.setAt]
  cases l[i]? with
  | none => rfl
  | some y => simp only [obind_some]; cases V.setAt p x y <;> rfl

theorem app_get {α : Type} {l m : List α} {i : Nat} : (l ++ m)[l.length + i]? = m[i]? := by rw [List.getElem?_append_right (Nat.le_add_right _ _), Nat.add_sub_cancel_left]
theorem app_get0 {α : Type} {l m : List α} : (l ++ m)[l.length]? = m[0]? := app_get (i := 0)
theorem app_set {α : Type} {l m : List α} {i : Nat} {x : α} : (l ++ m).set (l.length + i) x = l ++ m.set i x := by rw [List.set_append_right _ _ (Nat.le_add_right _ _), Nat.add_sub_cancel_left]
theorem app_set0 {α : Type} {l m : List α} {x : α} : (l ++ m).set l.length x = l ++ m.set 0 x := app_set (i := 0)
theorem app_take {α : Type} {l m : List α} {i : Nat} : (l ++ m).take (l.length + i) = l ++ m.take i := by rw [List.take_append, List.take_of_length_le (Nat.le_add_right _ _), Nat.add_sub_cancel_left]
theorem app_take0 {α : Type} {l m : List α} : (l ++ m).take l.length = l := by rw [List.take_append]; simp
theorem app_drop {α : Type} {l m : List α} : (l ++ m).drop l.length = m := List.drop_left

theorem locLts_nil {b : Nat} : V.locLts b [] = true := by simp only [V.locLts]
theorem locLts_cons {b : Nat} {v : V} {l : List V} : V.locLts b (v :: l) = (v.locLt b && V.locLts b l) := by simp only [V.locLts]
section
variable {b : Nat}
theorem lt_bool {x : Bool} : V.locLt b (.bool x) = true := by simp only [V.locLt]
theorem lt_int {k : IntKind} {x : Int} : V.locLt b (.int k x) = true := by simp only [V.locLt]
theorem lt_str {x : ByteArray} : V.locLt b (.str x) = true := by simp only [V.locLt]
theorem lt_nilp : V.locLt b .nilp = true := by simp only [V.locLt]
theorem lt_nils : V.locLt b .nils = true := by simp only [V.locLt]
theorem lt_nilf : V.locLt b .nilf = true := by simp only [V.locLt]
theorem lt_dead : V.locLt b .dead = true := by simp only [V.locLt]
theorem lt_hp {i : Nat} {p : List Nat} {t : Nat} : V.locLt b (.ptr (.hp i) p t) = true := by simp only [V.locLt]
theorem lt_slhp {i : Nat} {p : List Nat} {o l e : Nat} {c : Option Nat} : V.locLt b (.sl (.hp i) p o l c e) = true := by simp only [V.locLt]
theorem lt_loc {i : Nat} {p : List Nat} {t : Nat} : V.locLt b (.ptr (.loc i) p t) = decide (i < b) := by simp only [V.locLt]
theorem lt_slloc {i : Nat} {p : List Nat} {o l e : Nat} {c : Option Nat} : V.locLt b (.sl (.loc i) p o l c e) = decide (i < b) := by simp only [V.locLt]
theorem lt_fn {f : Nat} {l : List V} : V.locLt b (.fn f l) = V.locLts b l := by simp only [V.locLt]
theorem lt_tup {l : List V} : V.locLt b (.tup l) = V.locLts b l := by simp only [V.locLt]
theorem lt_agg {t : Nat} {l : List V} : V.locLt b (.agg t l) = (t % 2 == 0 || V.locLts b l) := by simp only [V.locLt]
end

theorem blkLt_rw {b : Nat} {v : V} : blkLt b (.rw v) = v.locLt b := nd rfl
theorem blkLt_ro {b : Nat} {v : V} : blkLt b (.ro v) = v.locLt b := nd rfl
theorem blkLt_dead {b : Nat} : blkLt b .dead = true := nd rfl
theorem retOf_ret_o {n : Nat} {res : List RV} : retOf n res (.ret, ρ, s) = obind (resOf ρ s res) fun v => if v.locLt n ∧ n ≤ s.loc.length then some (v, { s with loc := s.loc.take n }) else none := by
  rw [retOf_ret]; cases resOf ρ s res <;> rfl
theorem retOf_normal_o {n : Nat} {res : List RV} : retOf n res (.normal, ρ, s) = obind (resOf ρ s res) fun v => if v.locLt n ∧ n ≤ s.loc.length then some (v, { s with loc := s.loc.take n }) else none := by
  rw [retOf_normal]; cases resOf ρ s res <;> rfl
theorem rv_t {n : Nat} : RV.ev ρ s (.t n) = some (get ρ n) := nd rfl
theorem rv_cell {n q : Nat} : RV.ev ρ s (.cell n q) = ldv s q (get ρ n) := by
  simp only [RV.ev]
  cases get ρ n <;> rfl
theorem resOf_none : resOf ρ s [] = some (.tup []) := nd rfl
theorem resOf_one {r : RV} : resOf ρ s [r] = RV.ev ρ s r := by
  simp only [resOf, List.mapM_cons, List.mapM_nil]
  cases RV.ev ρ s r <;> rfl
theorem resOf_two {r q : RV} : resOf ρ s [r, q] = obind (RV.ev ρ s r) fun a => obind (RV.ev ρ s q) fun b => if a.ok && b.ok then some (.tup [a, b]) else none := by
  simp only [resOf, List.mapM_cons, List.mapM_nil]
  cases RV.ev ρ s r with
  | none => rfl
  | some a =>
    cases RV.ev ρ s q with
    | none => rfl
    | some b => simp [List.all, obind_some]
theorem resOf_three {r q p : RV} : resOf ρ s [r, q, p] = obind (RV.ev ρ s r) fun a => obind (RV.ev ρ s q) fun b => obind (RV.ev ρ s p) fun c => if a.ok && b.ok && c.ok then some (.tup [a, b, c]) else none := by
  simp only [resOf, List.mapM_cons, List.mapM_nil]
  cases RV.ev ρ s r with
  | none => rfl
  | some a =>
    cases RV.ev ρ s q with
    | none => rfl
    | some b =>
      cases RV.ev ρ s p with
      | none => rfl
      | some c => simp [List.all, Bool.and_assoc, obind_some]

/-! ### Where two ways meet -/
section
variable {c : Prop} [Decidable c]
theorem ite_normal {ρ' : Env} {s' : St} : (if c then some (Ex.normal, ρ, s) else some (Ex.normal, ρ', s')) = some (Ex.normal, if c then ρ else ρ', if c then s else s') := by split <;> rfl
theorem ite_exit {id : Nat} {ρ' : Env} {s' : St} : (if c then some (Ex.exit id, ρ, s) else some (Ex.exit id, ρ', s')) = some (Ex.exit id, if c then ρ else ρ', if c then s else s') := by split <;> rfl
theorem ite_ret {ρ' : Env} {s' : St} : (if c then some (Ex.ret, ρ, s) else some (Ex.ret, ρ', s')) = some (Ex.ret, if c then ρ else ρ', if c then s else s') := by split <;> rfl
theorem ite_env {k : Nat} {v v' : V} {ρ' : Env} : (if c then (k, v) :: ρ else (k, v') :: ρ') = (k, if c then v else v') :: (if c then ρ else ρ') := by split <;> rfl
theorem ite_vs {v v' : V} {s' : St} : (if c then some (v, s) else some (v', s')) = some (if c then v else v', if c then s else s') := by split <;> rfl
theorem ite_vbool {a b : Bool} : (if c then V.bool a else V.bool b) = V.bool (if c then a else b) := by split <;> rfl
theorem ite_vint {k : IntKind} {a b : Int} : (if c then V.int k a else V.int k b) = V.int k (if c then a else b) := by split <;> rfl
theorem ite_vagg {t : Nat} {l l' : List V} : (if c then V.agg t l else V.agg t l') = V.agg t (if c then l else l') := by split <;> rfl
theorem ite_vtup {l l' : List V} : (if c then V.tup l else V.tup l') = V.tup (if c then l else l') := by split <;> rfl
theorem ite_vcons {v v' : V} {l l' : List V} : (if c then v :: l else v' :: l') = (if c then v else v') :: (if c then l else l') := by split <;> rfl
theorem ite_bcons {v v' : Blk} {l l' : List Blk} : (if c then v :: l else v' :: l') = (if c then v else v') :: (if c then l else l') := by split <;> rfl
theorem ite_brw {v v' : V} : (if c then Blk.rw v else Blk.rw v') = Blk.rw (if c then v else v') := by split <;> rfl
theorem ite_St {l l' h h' : List Blk} : (if c then St.mk l h else St.mk l' h') = St.mk (if c then l else l') (if c then h else h') := by split <;> rfl
theorem ite_app {l m m' : List Blk} : (if c then l ++ m else l ++ m') = l ++ (if c then m else m') := by split <;> rfl
theorem obind_ret {b : C} {y : Option (Ex × Env × St)} : obind (if c then some (.ret, ρ, s) else y) (andThen D base b) = if c then some (.ret, ρ, s) else obind y (andThen D base b) := by split <;> rfl
theorem obind_ret' {b : C} {y : Option (Ex × Env × St)} : obind (if c then y else some (.ret, ρ, s)) (andThen D base b) = if c then obind y (andThen D base b) else some (.ret, ρ, s) := by split <;> rfl
theorem obind_exit {b : C} {y : Option (Ex × Env × St)} {id : Nat} : obind (if c then some (.exit id, ρ, s) else y) (andThen D base b) = if c then some (.exit id, ρ, s) else obind y (andThen D base b) := by split <;> rfl
theorem obind_exit' {b : C} {y : Option (Ex × Env × St)} {id : Nat} : obind (if c then y else some (.exit id, ρ, s)) (andThen D base b) = if c then obind y (andThen D base b) else some (.exit id, ρ, s) := by split <;> rfl
theorem obind_retOf {n : Nat} {res : List RV} {x y : Option (Ex × Env × St)} : obind (if c then x else y) (retOf n res) = if c then obind x (retOf n res) else obind y (retOf n res) := obind_ite
theorem obind_leave {id : Nat} {x y : Option (Ex × Env × St)} : obind (if c then x else y) (leaveO id) = if c then obind x (leaveO id) else obind y (leaveO id) := obind_ite
theorem obind_again {n : Nat} {keep : List Nat} {b : C} {x y : Option (Ex × Env × St)} : obind (if c then x else y) (again D base n keep b) = if c then obind x (again D base n keep b) else obind y (again D base n keep b) := obind_ite
end
theorem St_eta : St.mk s.loc s.hp = s := nd rfl
theorem elems_nils : s.elems .nils = some [] := nd rfl
def elemsOf (off len : Nat) : Option V → Option (List V)
  | some (.agg _ l) => if off + len ≤ l.length then some ((l.drop off).take len) else none
  | _ => none
theorem elemsOf_agg {off len t : Nat} {l : List V} : elemsOf off len (some (.agg t l)) = if off + len ≤ l.length then some ((l.drop off).take len) else none := nd rfl
theorem elems_sl {a : Loc} {path : List Nat} {off len : Nat} {cap : Option Nat} {e : Nat} : s.elems (.sl a path off len cap e) = if len = 0 then some [] else elemsOf off len (s.read a path) := by
  simp only [St.elems]
  cases s.read a path with
  | none => rfl
  | some v => cases v <;> rfl

/-! Each at the values that it takes. -/
section
variable {a : Loc} {p : List Nat} {off len e e' t t' n f u : Nat} {cap : Option Nat} {k k' : IntKind} {j m : Int} {b : Bool} {sb sc : ByteArray} {l : List V} {lo hi mx : Option V} {o : BinOp}
theorem slen_nils : V.slen false .nils = some 0 := nd rfl
theorem slen_sl : V.slen false (.sl a p off len cap e) = some len := nd rfl
theorem slen_str : V.slen true (.str sb) = some sb.size := nd rfl
theorem sadv_sl : sadv e (.sl a p off len cap e') (.int k j) = if e' = e ∧ 0 ≤ j ∧ j < len then some (.ptr a (p ++ [off + j.toNat]) e) else none := nd rfl
theorem iadv_ptr : iadv t n e (.ptr a p t') (.int k j) = if t' = t ∧ 0 ≤ j ∧ j < n then some (.ptr a (p ++ [j.toNat]) e) else none := nd rfl
theorem fadv_ptr : fadv t f u (.ptr a p t') = if t' = t then some (.ptr a (p ++ [f]) u) else none := nd rfl
theorem fldv_agg : fldv t f (.agg t' l) = if t' = t then l[f]? else none := nd rfl
theorem idxv_agg : idxv t n (.agg t' l) (.int k j) = if t' = t ∧ 0 ≤ j ∧ j < n then l[j.toNat]? else none := nd rfl
theorem sidxv_str : sidxv (.str sb) (.int k j) = if 0 ≤ j then (sb[j.toNat]?).map fun c => .int .u8 c.toNat else none := nd rfl
theorem slcv_sl : slcv e lo hi mx (.sl a p off len cap e') = if e' = e then
    obind (bound (cap.getD len) mx (cap.getD len)) fun m => obind (bound (hbnd mx.isSome m len) hi len) fun h => obind (bound h lo 0) fun l =>
        some (.sl a p (off + l) (h - l) (ncap mx.isSome cap (m - l)) e) else none := nd rfl
theorem slcv_nils : slcv e lo hi mx .nils = obind (bound 0 mx 0) fun _ => obind (bound 0 hi 0) fun _ => obind (bound 0 lo 0) fun _ => some .nils := nd rfl
theorem slstrv_str : slstrv lo hi (.str sb) = obind (bound sb.size hi sb.size) fun h => obind (bound h lo 0) fun l => some (.str (sb.extract l h)) := nd rfl
theorem slarrv_ptr : slarrv s t n e lo hi mx (.ptr a p t') = if t' = t ∧ (s.read a p).isSome = true then obind (bound n mx n) fun m => obind (bound m hi n) fun h => obind (bound h lo 0) fun l => some (.sl a p l (h - l) (some (m - l)) e) else none := nd rfl
theorem vbin_int : vbin o (.int k j) (.int k' m) = if BinOp.isShift o then shf o k j m else if k = k' then ibin o k j m else none := nd rfl
theorem vbin_str : vbin o (.str sb) (.str sc) = sbin o sb sc := nd rfl
theorem vun_not : vun .not (.bool b) = some (.bool !b) := nd rfl
theorem vun_neg : vun .neg (.int k j) = some (.int k (k.wrap (0 - j))) := nd rfl
theorem vun_xor : vun .xor (.int k j) = some (.int k (ixor k (if k.signed then -1 else k.max) j)) := nd rfl
theorem vmnx_int : vmnx b (.int k j) (.int k' m) = if k = k' then some (.int k (if b then max j m else min j m)) else none := nd rfl
theorem mkslv_int {h : Bool} {r : Nat} {z : V} : mkslv h r e z s (.int k j) (.int k' m) = if 0 ≤ j ∧ j ≤ m ∧ m ≤ most then
      some (.sl (s.fresh h) [] 0 j.toNat (some m.toNat) e, s.new h (.agg r (List.replicate j.toNat z))) else none := nd rfl
theorem tag_bool : V.tag (.bool b) = 0 := nd rfl
theorem tag_int : V.tag (.int k j) = itag k := nd rfl
theorem tag_str : V.tag (.str sb) = 2 := nd rfl
theorem tag_agg : V.tag (.agg t l) = t := nd rfl
theorem tag_ptr : V.tag (.ptr a p t) = 1 := nd rfl
theorem tag_nilp : V.tag .nilp = 1 := nd rfl
theorem tag_sl : V.tag (.sl a p off len cap e) = 1 := nd rfl
theorem tag_nils : V.tag .nils = 1 := nd rfl
theorem tag_fn : V.tag (.fn f l) = 1 := nd rfl
theorem tag_nilf : V.tag .nilf = 1 := nd rfl
theorem ok_bool : V.ok (.bool b) = true := nd rfl
theorem ok_int : V.ok (.int k j) = true := nd rfl
theorem ok_str : V.ok (.str sb) = true := nd rfl
theorem ok_agg : V.ok (.agg t l) = true := nd rfl
theorem ok_ptr : V.ok (.ptr a p t) = true := nd rfl
theorem ok_nilp : V.ok .nilp = true := nd rfl
theorem ok_sl : V.ok (.sl a p off len cap e) = true := nd rfl
theorem ok_nils : V.ok .nils = true := nd rfl
theorem ok_fn : V.ok (.fn f l) = true := nd rfl
theorem ok_nilf : V.ok .nilf = true := nd rfl
end

theorem veqT_nn : veqT 1 .nilp .nilp = some true := nd rfl
theorem veqT_np {a : Loc} {p : List Nat} {t : Nat} : veqT 1 .nilp (.ptr a p t) = some false := nd rfl
theorem veqT_pn {a : Loc} {p : List Nat} {t : Nat} : veqT 1 (.ptr a p t) .nilp = some false := nd rfl
theorem veqT_snn : veqT 3 .nils .nils = some true := nd rfl
theorem veqT_sns {a : Loc} {p : List Nat} {o l e : Nat} {c : Option Nat} : veqT 3 .nils (.sl a p o l c e) = some false := nd rfl
theorem veqT_ssn {a : Loc} {p : List Nat} {o l e : Nat} {c : Option Nat} : veqT 3 (.sl a p o l c e) .nils = some false := nd rfl
theorem veqT_fnn : veqT 5 .nilf .nilf = some true := nd rfl
theorem veqT_fnf {f : Nat} {l : List V} : veqT 5 .nilf (.fn f l) = some false := nd rfl
theorem veqT_ffn {f : Nat} {l : List V} : veqT 5 (.fn f l) .nilf = some false := nd rfl
theorem veqT_val {t : Nat} {x y : V} (h1 : t ≠ 1) (h3 : t ≠ 3) (h5 : t ≠ 5) : veqT t x y = if x.tag = t ∧ y.tag = t then veq x y else none := by
  unfold veqT
  split
  · exact absurd rfl h1
  · exact absurd rfl h3
  · exact absurd rfl h5
  · rfl
theorem veq_bool {a b : Bool} : veq (.bool a) (.bool b) = some (a == b) := by simp only [veq]
theorem veq_int {k k' : IntKind} {a b : Int} : veq (.int k a) (.int k' b) = if k = k' then some (decide (a = b)) else none := by simp only [veq]
theorem veq_str {a b : ByteArray} : veq (.str a) (.str b) = some (a.toList == b.toList) := by simp only [veq]
theorem veq_agg {t t' : Nat} {l l' : List V} : veq (.agg t l) (.agg t' l') = if t = t' then veqs l l' else none := by simp only [veq]
theorem veqs_nil : veqs [] [] = some true := by simp only [veqs]
theorem veqs_cons {v v' : V} {l l' : List V} : veqs (v :: l) (v' :: l') = obind (veq v v') fun b => if b = true then veqs l l' else some false := by
  simp only [veqs]
  cases veq v v' with
  | none => rfl
  | some b => cases b <;> rfl
attribute [go_sem] rc_skip rc_label rc_ret rc_exit rc_seq_o andThen_normal andThen_ret andThen_exit rc_cond_o rc_block_o leaveO_normal leaveO_ret leaveO_exit rc_scope again_normal again_ret again_exit
  oguard_bool oguard_tup put_some put_none get_cons restrict_nil restrict_cons keepOf_some keepOf_none ev_t ev_k env0_nil env0_cons
  op_mv op_pick op_alloc op_box op_ld op_st op_nilc op_bin op_eq op_un op_conv op_mkfn_o op_mksl_o op_slc op_slstr_o op_slarr op_fad op_iad op_sad op_fld op_idx op_sidx op_ext op_lenk op_len op_app op_cpy op_mnx op_bld op_bsl_o op_call op_pcall op_sta op_callw op_lda ldav locEq_ptr flat_int flat_bool flat_str flat_agg flat_tup flats_nil flats_cons flats_bools flats_ints and_true stav callwv live_ptr locNe_ptr ne_eq Loc.loc.injEq Loc.hp.injEq
  vmnx_int eqv mkfnv mkslv_int bslv slstrv_str ldv_ptr stv_ptr nilv_ptr nilv_fn convv_int slcv_sl slcv_nils slarrv_ptr fadv_ptr iadv_ptr sadv_sl fldv_agg idxv_agg sidxv_str extv_tup callv_fn pcallv_fn pcallw pcut lims_nil lims_cons lim1_hp lim1_loc lim1_sl lim1_int lim1_bool lim1_agg lim1_fn Nat.le_refl Nat.le_add_right List.drop_length bound_none bound_int slen_nils slen_sl slen_str
  tag_bool tag_int tag_str tag_agg tag_ptr tag_nilp tag_sl tag_nils tag_fn tag_nilf ok_bool ok_int ok_str ok_agg ok_ptr ok_nilp ok_sl ok_nils ok_fn ok_nilf
  fresh_t fresh_f new_t new_f mayNew_f mayNew_t rd_rw rd_ro read_loc read_hp wr_rw write_loc write_hp at_nil at_cons setAt_nil setAt_cons
  app_get app_get0 app_set app_set0 app_take app_take0 app_drop
  locLts_nil locLts_cons lt_bool lt_int lt_str lt_nilp lt_nils lt_nilf lt_dead lt_hp lt_slhp lt_loc lt_slloc lt_fn lt_tup lt_agg blkLt_rw blkLt_ro blkLt_dead
  rv_t rv_cell resOf_none resOf_one resOf_two resOf_three retOf_ret_o retOf_normal_o elems_nils elemsOf_agg elems_sl
  St_eta ite_normal ite_exit ite_ret ite_env ite_vs ite_vbool ite_vint ite_vagg ite_vtup ite_vcons ite_bcons ite_brw ite_St ite_app obind_ret obind_ret' obind_exit obind_exit' obind_retOf obind_leave obind_again ite_self Bool.if_true_left Bool.if_true_right Bool.if_false_left Bool.if_false_right
  hbnd ncap Option.isSome_none Option.isSome_some
  itag vbin_int vbin_str ibin shf sbin BinOp.isShift vun_not vun_neg vun_xor veqT_nn veqT_np veqT_pn veqT_snn veqT_sns veqT_ssn veqT_fnn veqT_fnf veqT_ffn veqT_val veq_bool veq_int veq_str veq_agg veqs_nil veqs_cons setParts scrubOk
  obind_some obind_none obool_bool Option.bind_some Option.bind_none Option.map_some Option.map_none Option.getD_some Option.getD_none
  List.map_cons List.map_nil List.cons_append List.nil_append List.append_assoc List.append_nil List.length_append List.length_cons List.length_nil List.getElem?_cons_zero List.getElem?_cons_succ List.getElem?_nil List.set_cons_zero List.set_cons_succ List.take_succ_cons List.take_zero List.take_length List.drop_zero List.drop_succ_cons
  List.all_cons List.all_nil Nat.zero_add Nat.add_zero if_true if_false ite_true ite_false Bool.true_and Bool.and_true Bool.false_or Bool.or_false Bool.true_or Bool.or_true Bool.false_and Bool.and_false Bool.not_true Bool.not_false
  eq_self true_and and_true false_and and_false true_or or_true false_or or_false Bool.false_eq_true not_true_eq_false not_false_eq_true decide_true decide_false decide_eq_true_eq decide_eq_false_iff_not Bool.not_eq_true Bool.not_eq_false Nat.reduceEqDiff Nat.reduceAdd Nat.reduceMod reduceIte Nat.le_refl Nat.le_add_right and_self or_self beq_self_eq_true reduceCtorEq
  Int.cast_ofNat_Int Int.reduceEq Int.reduceLT Int.reduceLE Int.reduceNeg Int.reduceToNat Int.reduceAdd Int.reduceSub Int.reduceMul Nat.reduceSub Nat.reduceMul Nat.reduceLT Nat.reduceLeDiff

/-! ### Short forms, for the printed code -/
instance (n : Nat) : OfNat Opd n := ⟨.t n⟩
def zi (n : Int) : Opd := .k (.int .i64 n)
def zf (n : Nat) : Opd := .k (.fn n [])
def zq (d : Nat) (o : Op') : Op := ⟨some d, none, o⟩
def zw (o : Op') : Op := ⟨none, none, o⟩
def zg (d t : Nat) (b : Bool) (o : Op') : Op := ⟨some d, some (t, b), o⟩
def zv (t : Nat) (b : Bool) (o : Op') : Op := ⟨none, some (t, b), o⟩
abbrev OR := Option (Ex × Env × St)
theorem zr {base : Nat} {ρ : Env} {s : St} {ks : List Nat} {l : List Op} {x : OR} (h : rgO D base ks l ρ s = x) : rc D base (.reg (some ks) l) ρ s = x := rc_reg_O.trans h
theorem zd {base : Nat} {ρ : Env} {s : St} {ks : List Nat} {l : List Op} {x : OR} (h : rgO D base ks l ρ s = x) : rc D base (.regd (some ks) l) ρ s = x := rc_regd_O.trans h
end Go.Ab
