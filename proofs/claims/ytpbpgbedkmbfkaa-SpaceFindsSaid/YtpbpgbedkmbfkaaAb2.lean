/-
  Ab2: more fuel gives the same answer; the limit 'run', and its equations.
-/
import Derived.Test.YtpbpgbedkmbfkaaAb1
namespace Go.Ab

variable {D : Nat → Option Fc}

theorem ropF_mono {f g : Task → St → Option Res} (h : ∀ t s r, f t s = some r → g t s = some r) {base : Nat} {ρ : Env} {s : St} {o : Op'} {q : V × St} (hq : ropF f base ρ s o = some q) : ropF g base ρ s o = some q := by
  cases o with
  | call fo args =>
    simp only [ropF] at hq ⊢
    cases hx : fo.ev ρ with
    | fn k caps =>
      simp only [hx] at hq
      cases hf : f (.f k (args.map (Opd.ev ρ) ++ caps)) s with
      | none => rw [hf] at hq; cases hq
      | some x => rw [hf] at hq; simp only [h _ _ _ hf]; exact hq
    | _ => rw [hx] at hq; cases hq
  | pcall fo args =>
    simp only [ropF] at hq ⊢
    cases hx : fo.ev ρ with
    | fn k caps =>
      simp only [hx] at hq
      by_cases hp : pOk base (pcut base (args.map (Opd.ev ρ) ++ caps)) (args.map (Opd.ev ρ) ++ caps) s = true
      · rw [if_pos hp] at hq
        simp only [if_pos hp]
        cases hf : f (.f k (args.map (Opd.ev ρ) ++ caps)) (s.cut (pcut base (args.map (Opd.ev ρ) ++ caps))) with
        | none => rw [hf] at hq; cases hq
        | some x => rw [hf] at hq; simp only [h _ _ _ hf]; exact hq
      · rw [if_neg hp] at hq; cases hq
    | _ => rw [hx] at hq; cases hq
  | callw fo args w =>
    simp only [ropF] at hq ⊢
    split at hq
    · rename_i hw
      rw [if_pos hw]
      cases hx : fo.ev ρ with
      | fn k caps =>
        simp only [hx] at hq
        cases hf : f (.f k (args.map (Opd.ev ρ) ++ caps)) s with
        | none => rw [hf] at hq; cases hq
        | some x => rw [hf] at hq; simp only [h _ _ _ hf]; exact hq
      | _ => rw [hx] at hq; cases hq
    · cases hq
  | _ => exact hq

theorem step_mono {f g : Task → St → Option Res} (h : ∀ t s r, f t s = some r → g t s = some r) {t : Task} {s : St} {r : Res} (hr : step D f t s = some r) : step D g t s = some r := by
  cases t with
  | c base c ρ =>
    cases c with
    | skip => exact hr
    | label _ => exact hr
    | ret => exact hr
    | exit _ => exact hr
    | reg keep ops =>
      simp only [step] at hr ⊢
      cases hf : f (.o base ops ρ) s with
      | none => rw [hf] at hr; cases hr
      | some x => rw [hf] at hr; rw [h _ _ _ hf]; exact hr
    | regd keep ops =>
      simp only [step] at hr ⊢
      cases hf : f (.o base ops ρ) s with
      | none => rw [hf] at hr; cases hr
      | some x => rw [hf] at hr; rw [h _ _ _ hf]; exact hr
    | seq a b =>
      simp only [step] at hr ⊢
      cases hf : f (.c base a ρ) s with
      | none => rw [hf] at hr; cases hr
      | some x =>
        rw [hf] at hr; rw [h _ _ _ hf]
        cases x with
        | c e ρ' s' => cases e <;> first | exact h _ _ _ hr | exact hr
        | o _ _ => cases hr
        | v _ _ => cases hr
    | cond x a b =>
      simp only [step] at hr ⊢
      cases hx : x.ev ρ with
      | bool t =>
        rw [hx] at hr
        cases t
        · exact h _ _ _ hr
        · exact h _ _ _ hr
      | _ => rw [hx] at hr; cases hr
    | block id b =>
      simp only [step] at hr ⊢
      cases hf : f (.c base b ρ) s with
      | none => rw [hf] at hr; cases hr
      | some x => rw [hf] at hr; rw [h _ _ _ hf]; exact hr
    | scope b =>
      simp only [step] at hr ⊢
      cases hf : f (.c base b ρ) s with
      | none => rw [hf] at hr; cases hr
      | some x => rw [hf] at hr; rw [h _ _ _ hf]; exact hr
    | loop keep b =>
      simp only [step] at hr ⊢
      cases hf : f (.c base b (restrict keep ρ)) s with
      | none => rw [hf] at hr; cases hr
      | some x =>
        rw [hf] at hr; rw [h _ _ _ hf]
        cases x with
        | c e ρ' s' =>
          cases e with
          | normal =>
            simp only at hr ⊢
            split at hr
            · rename_i hc; rw [if_pos hc]; exact h _ _ _ hr
            · cases hr
          | exit _ => exact hr
          | ret => exact hr
        | o _ _ => cases hr
        | v _ _ => cases hr
  | o base l ρ =>
    cases l with
    | nil => exact hr
    | cons op rest =>
      simp only [step] at hr ⊢
      cases hg : guardOk op.guard ρ with
      | none => rw [hg] at hr; cases hr
      | some gb =>
        rw [hg] at hr
        cases gb with
        | false => exact h _ _ _ hr
        | true =>
          cases hq : ropF f base ρ s op.op with
          | none => simp only [hq] at hr; cases hr
          | some q =>
            simp only [hq] at hr
            simp only [ropF_mono h hq]
            exact h _ _ _ hr
  | f fn args =>
    simp only [step] at hr ⊢
    cases hfc : D fn with
    | none => rw [hfc] at hr; cases hr
    | some fc =>
      rw [hfc] at hr
      simp only at hr ⊢
      by_cases hlen : args.length = fc.n
      · rw [if_pos hlen] at hr ⊢
        cases hf : f (.c s.loc.length fc.body (env0 0 args)) s with
        | none => rw [hf] at hr; cases hr
        | some x => rw [hf] at hr; rw [h _ _ _ hf]; exact hr
      · rw [if_neg hlen] at hr; cases hr

theorem ev_mono : ∀ (n : Nat) {t : Task} {s : St} {r : Res}, ev D n t s = some r → ev D (n + 1) t s = some r
  | 0, _, _, _, h => by cases h
  | n + 1, _, _, _, h => step_mono (fun _ _ _ h => ev_mono n h) h

theorem ev_le {n m : Nat} (hnm : n ≤ m) {t : Task} {s : St} {r : Res} (h : ev D n t s = some r) : ev D m t s = some r := by
  induction hnm with
  | refl => exact h
  | step _ ih => exact ev_mono _ ih

open Classical in
noncomputable def run (D : Nat → Option Fc) (t : Task) (s : St) : Option Res :=
  if h : ∃ n r, ev D n t s = some r then some h.choose_spec.choose else none

theorem run_iff {t : Task} {s : St} {r : Res} : run D t s = some r ↔ ∃ n, ev D n t s = some r := by
  unfold run
  constructor
  · intro h
    split at h
    · rename_i hx
      cases h
      exact ⟨_, hx.choose_spec.choose_spec⟩
    · cases h
  · rintro ⟨n, hn⟩
    have hx : ∃ n r, ev D n t s = some r := ⟨n, r, hn⟩
    rw [dif_pos hx]
    have h1 := hx.choose_spec.choose_spec
    have h2 := ev_le (Nat.le_max_left hx.choose n) h1
    have h3 := ev_le (Nat.le_max_right hx.choose n) hn
    rw [h2] at h3
    exact h3

theorem run_of_ev {n : Nat} {t : Task} {s : St} {r : Res} (h : ev D n t s = some r) : run D t s = some r := run_iff.2 ⟨n, h⟩

theorem ev_run {n : Nat} {t : Task} {s : St} {r : Res} (h : ev D n t s = some r) : run D t s = some r := run_of_ev h

theorem ropF_fin {base : Nat} {ρ : Env} {s : St} {o : Op'} {q : V × St} (hq : ropF (run D) base ρ s o = some q) : ∃ n, ropF (ev D n) base ρ s o = some q := by
  cases o with
  | call fo args =>
    simp only [ropF] at hq ⊢
    cases hx : fo.ev ρ with
    | fn k caps =>
      simp only [hx] at hq
      cases hf : run D (.f k (args.map (Opd.ev ρ) ++ caps)) s with
      | none => rw [hf] at hq; cases hq
      | some x => rw [hf] at hq; obtain ⟨n, hn⟩ := run_iff.1 hf; exact ⟨n, by simp only [hn]; exact hq⟩
    | _ => rw [hx] at hq; cases hq
  | pcall fo args =>
    simp only [ropF] at hq ⊢
    cases hx : fo.ev ρ with
    | fn k caps =>
      simp only [hx] at hq
      by_cases hp : pOk base (pcut base (args.map (Opd.ev ρ) ++ caps)) (args.map (Opd.ev ρ) ++ caps) s = true
      · rw [if_pos hp] at hq
        simp only [if_pos hp]
        cases hf : run D (.f k (args.map (Opd.ev ρ) ++ caps)) (s.cut (pcut base (args.map (Opd.ev ρ) ++ caps))) with
        | none => rw [hf] at hq; cases hq
        | some x => rw [hf] at hq; obtain ⟨n, hn⟩ := run_iff.1 hf; exact ⟨n, by simp only [hn]; exact hq⟩
      · rw [if_neg hp] at hq; cases hq
    | _ => rw [hx] at hq; cases hq
  | callw fo args w =>
    simp only [ropF] at hq ⊢
    split at hq
    · rename_i hw
      simp only [if_pos hw]
      cases hx : fo.ev ρ with
      | fn k caps =>
        simp only [hx] at hq
        cases hf : run D (.f k (args.map (Opd.ev ρ) ++ caps)) s with
        | none => rw [hf] at hq; cases hq
        | some x => rw [hf] at hq; obtain ⟨n, hn⟩ := run_iff.1 hf; exact ⟨n, by simp only [hn]; exact hq⟩
      | _ => rw [hx] at hq; cases hq
    · cases hq
  | _ => exact ⟨0, hq⟩

/-- One step of what is run is carried out by some fuel. -/
theorem step_fin {t : Task} {s : St} {r : Res} (hr : step D (run D) t s = some r) : ∃ n, step D (ev D n) t s = some r := by
  cases t with
  | c base c ρ =>
    cases c with
    | skip => exact ⟨0, hr⟩
    | label _ => exact ⟨0, hr⟩
    | ret => exact ⟨0, hr⟩
    | exit _ => exact ⟨0, hr⟩
    | reg keep ops =>
      simp only [step] at hr ⊢
      cases hf : run D (.o base ops ρ) s with
      | none => rw [hf] at hr; cases hr
      | some x => rw [hf] at hr; obtain ⟨n, hn⟩ := run_iff.1 hf; exact ⟨n, by rw [hn]; exact hr⟩
    | regd keep ops =>
      simp only [step] at hr ⊢
      cases hf : run D (.o base ops ρ) s with
      | none => rw [hf] at hr; cases hr
      | some x => rw [hf] at hr; obtain ⟨n, hn⟩ := run_iff.1 hf; exact ⟨n, by rw [hn]; exact hr⟩
    | seq a b =>
      simp only [step] at hr ⊢
      cases hf : run D (.c base a ρ) s with
      | none => rw [hf] at hr; cases hr
      | some x =>
        rw [hf] at hr; obtain ⟨n, hn⟩ := run_iff.1 hf
        cases x with
        | c e ρ' s' =>
          cases e with
          | normal =>
            obtain ⟨m, hm⟩ := run_iff.1 hr
            exact ⟨max n m, by rw [ev_le (Nat.le_max_left n m) hn]; exact ev_le (Nat.le_max_right n m) hm⟩
          | exit _ => exact ⟨n, by rw [hn]; exact hr⟩
          | ret => exact ⟨n, by rw [hn]; exact hr⟩
        | o _ _ => cases hr
        | v _ _ => cases hr
    | cond x a b =>
      simp only [step] at hr ⊢
      cases hx : x.ev ρ with
      | bool t =>
        rw [hx] at hr
        cases t
        · obtain ⟨n, hn⟩ := run_iff.1 hr
          exact ⟨n, hn⟩
        · obtain ⟨n, hn⟩ := run_iff.1 hr
          exact ⟨n, hn⟩
      | _ => rw [hx] at hr; cases hr
    | block id b =>
      simp only [step] at hr ⊢
      cases hf : run D (.c base b ρ) s with
      | none => rw [hf] at hr; cases hr
      | some x => rw [hf] at hr; obtain ⟨n, hn⟩ := run_iff.1 hf; exact ⟨n, by rw [hn]; exact hr⟩
    | scope b =>
      simp only [step] at hr ⊢
      cases hf : run D (.c base b ρ) s with
      | none => rw [hf] at hr; cases hr
      | some x => rw [hf] at hr; obtain ⟨n, hn⟩ := run_iff.1 hf; exact ⟨n, by rw [hn]; exact hr⟩
    | loop keep b =>
      simp only [step] at hr ⊢
      cases hf : run D (.c base b (restrict keep ρ)) s with
      | none => rw [hf] at hr; cases hr
      | some x =>
        rw [hf] at hr; obtain ⟨n, hn⟩ := run_iff.1 hf
        cases x with
        | c e ρ' s' =>
          cases e with
          | normal =>
            simp only at hr
            split at hr
            · rename_i hc
              obtain ⟨m, hm⟩ := run_iff.1 hr
              exact ⟨max n m, by rw [ev_le (Nat.le_max_left n m) hn]; simp only; rw [if_pos hc]; exact ev_le (Nat.le_max_right n m) hm⟩
            · cases hr
          | exit _ => exact ⟨n, by rw [hn]; exact hr⟩
          | ret => exact ⟨n, by rw [hn]; exact hr⟩
        | o _ _ => cases hr
        | v _ _ => cases hr
  | o base l ρ =>
    cases l with
    | nil => exact ⟨0, hr⟩
    | cons op rest =>
      simp only [step] at hr ⊢
      cases hg : guardOk op.guard ρ with
      | none => rw [hg] at hr; cases hr
      | some gb =>
        rw [hg] at hr
        cases gb with
        | false => exact run_iff.1 hr
        | true =>
          cases hq : ropF (run D) base ρ s op.op with
          | none => simp only [hq] at hr; cases hr
          | some q =>
            simp only [hq] at hr
            obtain ⟨n, hn⟩ := ropF_fin hq
            obtain ⟨m, hm⟩ := run_iff.1 hr
            exact ⟨max n m, by simp only [ropF_mono (fun _ _ _ h => ev_le (Nat.le_max_left n m) h) hn]; exact ev_le (Nat.le_max_right n m) hm⟩
  | f fn args =>
    simp only [step] at hr ⊢
    cases hfc : D fn with
    | none => rw [hfc] at hr; cases hr
    | some fc =>
      rw [hfc] at hr
      simp only at hr ⊢
      by_cases hlen : args.length = fc.n
      · simp only [if_pos hlen] at hr ⊢
        cases hf : run D (.c s.loc.length fc.body (env0 0 args)) s with
        | none => rw [hf] at hr; cases hr
        | some x => rw [hf] at hr; obtain ⟨n, hn⟩ := run_iff.1 hf; exact ⟨n, by rw [hn]; exact hr⟩
      · rw [if_neg hlen] at hr; cases hr

theorem run_step (t : Task) (s : St) : run D t s = step D (run D) t s := by
  apply Option.ext
  intro r
  constructor
  · intro h
    obtain ⟨n, hn⟩ := run_iff.1 h
    cases n with
    | zero => cases hn
    | succ n => exact step_mono (fun _ _ _ h => run_of_ev h) hn
  · intro h
    obtain ⟨n, hn⟩ := step_fin h
    exact run_of_ev (n := n + 1) hn

/-! ### The three runs, each with its equations -/

noncomputable def rc (D : Nat → Option Fc) (base : Nat) (c : C) (ρ : Env) (s : St) : Option (Ex × Env × St) :=
  match run D (.c base c ρ) s with
  | some (.c e ρ' s') => some (e, ρ', s')
  | _ => none
noncomputable def ro (D : Nat → Option Fc) (base : Nat) (l : List Op) (ρ : Env) (s : St) : Option (Env × St) :=
  match run D (.o base l ρ) s with
  | some (.o ρ' s') => some (ρ', s')
  | _ => none
noncomputable def rf (D : Nat → Option Fc) (f : Nat) (args : List V) (s : St) : Option (V × St) :=
  match run D (.f f args) s with
  | some (.v v s') => some (v, s')
  | _ => none

theorem rc_def {base : Nat} {c : C} {ρ : Env} {s : St} {e : Ex} {ρ' : Env} {s' : St} : rc D base c ρ s = some (e, ρ', s') ↔ run D (.c base c ρ) s = some (.c e ρ' s') := by
  unfold rc; constructor
  · intro h; split at h
    · rename_i hh; cases h; exact hh
    · cases h
  · intro h; rw [h]
theorem ro_def {base : Nat} {l : List Op} {ρ : Env} {s : St} {ρ' : Env} {s' : St} : ro D base l ρ s = some (ρ', s') ↔ run D (.o base l ρ) s = some (.o ρ' s') := by
  unfold ro; constructor
  · intro h; split at h
    · rename_i hh; cases h; exact hh
    · cases h
  · intro h; rw [h]
theorem rf_def {f : Nat} {args : List V} {s : St} {v : V} {s' : St} : rf D f args s = some (v, s') ↔ run D (.f f args) s = some (.v v s') := by
  unfold rf; constructor
  · intro h; split at h
    · rename_i hh; cases h; exact hh
    · cases h
  · intro h; rw [h]

section
variable {base : Nat} {ρ : Env} {s : St}

theorem rc_skip : rc D base .skip ρ s = some (.normal, ρ, s) := by simp only [rc, run_step, step]
theorem rc_label {l : Nat} : rc D base (.label l) ρ s = some (.normal, ρ, s) := by simp only [rc, run_step, step]
theorem rc_ret : rc D base .ret ρ s = some (.ret, ρ, s) := by simp only [rc, run_step, step]
theorem rc_exit {id : Nat} : rc D base (.exit id) ρ s = some (.exit id, ρ, s) := by simp only [rc, run_step, step]
theorem rc_reg {keep : Option (List Nat)} {ops : List Op} : rc D base (.reg keep ops) ρ s = (ro D base ops ρ s).bind fun x => some (.normal, keepOf keep x.1, x.2) := by
  simp only [rc, ro]; rw [run_step]; simp only [step]
  cases run D (.o base ops ρ) s with
  | none => rfl
  | some x => cases x <;> rfl
theorem rc_regd {keep : Option (List Nat)} {ops : List Op} : rc D base (.regd keep ops) ρ s = (ro D base ops ρ s).bind fun x => some (.normal, keepOf keep x.1, x.2) := by
  simp only [rc, ro]; rw [run_step]; simp only [step]
  cases run D (.o base ops ρ) s with
  | none => rfl
  | some x => cases x <;> rfl
/-- What follows code that has ended so. -/
noncomputable def andThen (D : Nat → Option Fc) (base : Nat) (b : C) (x : Ex × Env × St) : Option (Ex × Env × St) :=
  match x with
  | (.normal, ρ, s) => rc D base b ρ s
  | x => some x
theorem andThen_normal {b : C} : andThen D base b (.normal, ρ, s) = rc D base b ρ s := rfl
theorem andThen_ret {b : C} : andThen D base b (.ret, ρ, s) = some (.ret, ρ, s) := rfl
theorem andThen_exit {b : C} {id : Nat} : andThen D base b (.exit id, ρ, s) = some (.exit id, ρ, s) := rfl
theorem rc_seq {a b : C} : rc D base (.seq a b) ρ s = (rc D base a ρ s).bind (andThen D base b) := by
  simp only [rc]; rw [run_step]; simp only [step]
  cases run D (.c base a ρ) s with
  | none => rfl
  | some x =>
    cases x with
    | c e ρ' s' => cases e <;> rfl
    | _ => rfl
theorem rc_cond {x : Opd} {a b : C} : rc D base (.cond x a b) ρ s = match x.ev ρ with
    | .bool t => if t then rc D base a ρ s else rc D base b ρ s
    | _ => none := by
  simp only [rc]; rw [run_step]; simp only [step]
  cases x.ev ρ with
  | bool t => cases t <;> rfl
  | _ => rfl
def leave (id : Nat) (x : Ex × Env × St) : Ex × Env × St :=
  match x with
  | (.exit id', ρ, s) => (if id' = id then .normal else .exit id', ρ, s)
  | x => x
theorem leave_normal {id : Nat} : leave id (.normal, ρ, s) = (.normal, ρ, s) := rfl
theorem leave_ret {id : Nat} : leave id (.ret, ρ, s) = (.ret, ρ, s) := rfl
theorem leave_exit {id id' : Nat} : leave id (.exit id', ρ, s) = (if id' = id then .normal else .exit id', ρ, s) := rfl
theorem rc_block {id : Nat} {b : C} : rc D base (.block id b) ρ s = (rc D base b ρ s).bind fun x => some (leave id x) := by
  simp only [rc]; rw [run_step]; simp only [step]
  cases run D (.c base b ρ) s with
  | none => rfl
  | some x =>
    cases x with
    | c e ρ' s' => cases e <;> rfl
    | _ => rfl
theorem rc_scope {b : C} : rc D base (.scope b) ρ s = rc D base b ρ s := by
  simp only [rc]; rw [run_step]; simp only [step]
  cases run D (.c base b ρ) s with
  | none => rfl
  | some x =>
    cases x with
    | c e ρ' s' => cases e <;> rfl
    | _ => rfl
/-- The next round, or what the loop ends with. -/
noncomputable def again (D : Nat → Option Fc) (base n : Nat) (keep : List Nat) (b : C) (x : Ex × Env × St) : Option (Ex × Env × St) :=
  match x with
  | (.normal, ρ, s) => if scrubOk base n (restrict keep ρ) s then rc D base (.loop keep b) (restrict keep ρ) { s with loc := s.loc.take n } else none
  | x => some x
theorem again_normal {n : Nat} {keep : List Nat} {b : C} : again D base n keep b (.normal, ρ, s) = if scrubOk base n (restrict keep ρ) s then rc D base (.loop keep b) (restrict keep ρ) { s with loc := s.loc.take n } else none := rfl
theorem again_ret {n : Nat} {keep : List Nat} {b : C} : again D base n keep b (.ret, ρ, s) = some (.ret, ρ, s) := rfl
theorem again_exit {n : Nat} {keep : List Nat} {b : C} {id : Nat} : again D base n keep b (.exit id, ρ, s) = some (.exit id, ρ, s) := rfl
theorem get_restrict_mem {ks : List Nat} {ρ : Env} {k : Nat} (h : k ∈ ks) : get (restrict ks ρ) k = get ρ k := by
  induction ks with
  | nil => cases h
  | cons j ks ih =>
    simp only [restrict, List.map_cons, get]
    by_cases hj : j = k
    · rw [if_pos hj, hj]
    · rw [if_neg hj]
      exact ih (by cases h with | head => exact absurd rfl hj | tail _ h => exact h)
theorem restrict_restrict (ks : List Nat) (ρ : Env) : restrict ks (restrict ks ρ) = restrict ks ρ := by
  unfold restrict
  apply List.map_congr_left
  intro k hk
  rw [show get (ks.map fun k => (k, get ρ k)) k = get ρ k from get_restrict_mem hk]
theorem rc_loop0 {keep : List Nat} {b : C} : rc D base (.loop keep b) ρ s = (rc D base b (restrict keep ρ) s).bind fun x => match x with
    | (.normal, ρ', s') => if scrubOk base s.loc.length (restrict keep ρ') s' then rc D base (.loop keep b) ρ' { s' with loc := s'.loc.take s.loc.length } else none
    | x => some x := by
  simp only [rc]; rw [run_step]; simp only [step]
  cases run D (.c base b (restrict keep ρ)) s with
  | none => rfl
  | some x =>
    cases x with
    | c e ρ' s' =>
      cases e with
      | normal =>
        simp only [Option.bind_some]
        by_cases hc : scrubOk base s.loc.length (restrict keep ρ') s' = true
        · rw [if_pos hc, if_pos hc]
        · rw [if_neg hc, if_neg hc]
      | _ => rfl
    | _ => rfl
theorem rc_loop_restrict {keep : List Nat} {b : C} : rc D base (.loop keep b) (restrict keep ρ) s = rc D base (.loop keep b) ρ s := by
  rw [rc_loop0, rc_loop0 (ρ := ρ), restrict_restrict]
theorem rc_loop {keep : List Nat} {b : C} : rc D base (.loop keep b) ρ s = (rc D base b (restrict keep ρ) s).bind (again D base s.loc.length keep b) := by
  rw [rc_loop0]
  congr 1
  funext x
  obtain ⟨e, ρ', s'⟩ := x
  cases e with
  | normal => simp only [again, rc_loop_restrict]
  | _ => rfl

theorem ro_nil : ro D base [] ρ s = some (ρ, s) := by simp only [ro, run_step, step]
/-- An operation that is carried out. -/
noncomputable def rop (D : Nat → Option Fc) (base : Nat) (ρ : Env) (s : St) : Op' → Option (V × St)
  | .call f args => match f.ev ρ with
    | .fn g caps => rf D g (args.map (Opd.ev ρ) ++ caps) s
    | _ => none
  | .pcall f args => match f.ev ρ with
    | .fn g caps => if pOk base (pcut base (args.map (Opd.ev ρ) ++ caps)) (args.map (Opd.ev ρ) ++ caps) s = true then
        (rf D g (args.map (Opd.ev ρ) ++ caps) (s.cut (pcut base (args.map (Opd.ev ρ) ++ caps)))).bind fun x => if x.2 = s.cut (pcut base (args.map (Opd.ev ρ) ++ caps)) then some (x.1, s) else none
      else none
    | _ => none
  | .callw f args w => if live s (w.ev ρ) = true then
      match f.ev ρ with
      | .fn g caps => rf D g (args.map (Opd.ev ρ) ++ caps) s
      | _ => none
    else none
  | o => evOp base ρ s o
theorem ropF_run {o : Op'} : ropF (run D) base ρ s o = rop D base ρ s o := by
  cases o with
  | call f args =>
    simp only [ropF, rop]
    cases f.ev ρ with
    | fn g caps =>
      simp only [rf]
      cases run D (.f g (args.map (Opd.ev ρ) ++ caps)) s with
      | none => rfl
      | some x => cases x <;> rfl
    | _ => rfl
  | pcall f args =>
    simp only [ropF, rop]
    cases f.ev ρ with
    | fn g caps =>
      simp only [rf]
      split
      · cases run D (.f g (args.map (Opd.ev ρ) ++ caps)) (s.cut (pcut base (args.map (Opd.ev ρ) ++ caps))) with
        | none => rfl
        | some x => cases x <;> rfl
      · rfl
    | _ => rfl
  | callw f args w =>
    simp only [ropF, rop]
    split
    · cases f.ev ρ with
      | fn g caps =>
        simp only [rf]
        cases run D (.f g (args.map (Opd.ev ρ) ++ caps)) s with
        | none => rfl
        | some x => cases x <;> rfl
      | _ => rfl
    · rfl
  | _ => rfl
theorem ro_cons {op : Op} {rest : List Op} : ro D base (op :: rest) ρ s = match guardOk op.guard ρ with
    | none => none
    | some false => ro D base rest (put op.dst (.tup []) ρ) s
    | some true => (rop D base ρ s op.op).bind fun x => ro D base rest (put op.dst x.1 ρ) x.2 := by
  unfold ro
  rw [run_step]; simp only [step, ropF_run]
  cases guardOk op.guard ρ with
  | none => rfl
  | some gb =>
    cases gb with
    | false => rfl
    | true =>
      cases rop D base ρ s op.op with
      | none => rfl
      | some x => rfl

/-- What a function's code leaves, as its result. -/
def retOf (n : Nat) (res : List RV) (x : Ex × Env × St) : Option (V × St) :=
  match x with
  | (.exit _, _, _) => none
  | (_, ρ, s) => match resOf ρ s res with
    | some v => if v.locLt n ∧ n ≤ s.loc.length then some (v, { s with loc := s.loc.take n }) else none
    | none => none
theorem retOf_ret {n : Nat} {res : List RV} : retOf n res (.ret, ρ, s) = match resOf ρ s res with
    | some v => if v.locLt n ∧ n ≤ s.loc.length then some (v, { s with loc := s.loc.take n }) else none
    | none => none := rfl
theorem retOf_normal {n : Nat} {res : List RV} : retOf n res (.normal, ρ, s) = match resOf ρ s res with
    | some v => if v.locLt n ∧ n ≤ s.loc.length then some (v, { s with loc := s.loc.take n }) else none
    | none => none := rfl
theorem rf_eq {f : Nat} {fc : Fc} (hf : D f = some fc) {args : List V} (hn : args.length = fc.n) :
    rf D f args s = (rc D s.loc.length fc.body (env0 0 args) s).bind (retOf s.loc.length fc.res) := by
  unfold rf rc
  rw [run_step]; simp only [step, hf, hn, if_true]
  cases run D (.c s.loc.length fc.body (env0 0 args)) s with
  | none => rfl
  | some x =>
    cases x with
    | c e ρ' s' =>
      cases e with
      | exit _ => rfl
      | normal =>
        simp only [Option.bind_some, retOf]
        cases resOf ρ' s' fc.res with
        | none => rfl
        | some v =>
          simp only
          by_cases hv : v.locLt s.loc.length = true ∧ s.loc.length ≤ s'.loc.length
          · simp only [if_pos hv]
          · simp only [if_neg hv]
      | ret =>
        simp only [Option.bind_some, retOf]
        cases resOf ρ' s' fc.res with
        | none => rfl
        | some v =>
          simp only
          by_cases hv : v.locLt s.loc.length = true ∧ s.loc.length ≤ s'.loc.length
          · simp only [if_pos hv]
          · simp only [if_neg hv]
    | _ => rfl
end
end Go.Ab
