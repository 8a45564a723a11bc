/-
  YtmimfopnhmmlbaaGreatDoorAbG: an abstract semantics of the program's code, and that what it tells holds of the program (part G).
-/
import Derived.Test.YtmimfopnhmmlbaaGreatDoorAbA
import Derived.Attr
import Derived.KernelRfl
set_option maxRecDepth 100000
namespace Go.Ab
variable {D : Nat → Option Fc}
theorem oG {f g : br → St → Option Res} (h : ∀ t s r, f t s = some r → g t s = some r) {base : Nat} {ρ : Env} {s : St} {o : Op'} {q : V × St} (hq : ak f base ρ s o = some q) : ak g base ρ s o = some q := by
 cases o with
 | call fo args =>
  simp only [ak] at hq ⊢;cases hx : fo.ev ρ with
  | fn k caps =>
   simp only [hx] at hq;cases hf : f (.f k (args.map (Opd.ev ρ) ++ caps)) s with
   | none => rw [hf] at hq; cases hq
   | some x => rw [hf] at hq; simp only [h _ _ _ hf]; exact hq
  | _ => rw [hx] at hq; cases hq
 | pcall fo args =>
  simp only [ak] at hq ⊢;cases hx : fo.ev ρ with
  | fn k caps =>
   simp only [hx] at hq;by_cases hp : pOk base (be base (args.map (Opd.ev ρ) ++ caps)) (args.map (Opd.ev ρ) ++ caps) s = true
   ·rw [if_pos hp] at hq;simp only [if_pos hp];cases hf : f (.f k (args.map (Opd.ev ρ) ++ caps)) (s.cut (be base (args.map (Opd.ev ρ) ++ caps))) with
    | none => rw [hf] at hq; cases hq
    | some x => rw [hf] at hq; simp only [h _ _ _ hf]; exact hq
   ·rw [if_neg hp] at hq; cases hq
  | _ => rw [hx] at hq; cases hq
 | callw fo args w =>
  simp only [ak] at hq ⊢;split at hq
  ·rename_i hw;rw [if_pos hw];cases hx : fo.ev ρ with
   | fn k caps =>
    simp only [hx] at hq;cases hf : f (.f k (args.map (Opd.ev ρ) ++ caps)) s with
    | none => rw [hf] at hq; cases hq
    | some x => rw [hf] at hq; simp only [h _ _ _ hf]; exact hq
   | _ => rw [hx] at hq; cases hq
  ·cases hq
 | callk p fo args =>
  simp only [ak] at hq ⊢;cases hx : fo.ev ρ with
  | fn k caps =>
   simp only [hx] at hq;by_cases hp : pOk base (be base (args.map (Opd.ev ρ) ++ caps)) (args.map (Opd.ev ρ) ++ caps) s = true
   ·rw [if_pos hp] at hq;simp only [if_pos hp];cases hf : f (.f k (args.map (Opd.ev ρ) ++ caps)) (s.cut (be base (args.map (Opd.ev ρ) ++ caps))) with
    | none => rw [hf] at hq; cases hq
    | some x => rw [hf] at hq; simp only [h _ _ _ hf]; exact hq
   ·rw [if_neg hp] at hq; cases hq
  | _ => rw [hx] at hq; cases hq
 | _ => exact hq
theorem xU {f g : br → St → Option Res} (h : ∀ t s r, f t s = some r → g t s = some r) {t : br} {s : St} {r : Res} (hr : step D f t s = some r) : step D g t s = some r := by
 cases t with
 | c base c ρ =>
  cases c with
  | skip => exact hr
  | label _ => exact hr
  | ret => exact hr
  | exit _ => exact hr
  | reg keep ops =>
   simp only [step] at hr ⊢;cases hf : f (.o base ops ρ) s with
   | none => rw [hf] at hr; cases hr
   | some x => rw [hf] at hr; rw [h _ _ _ hf]; exact hr
  | regd keep ops =>
   simp only [step] at hr ⊢;cases hf : f (.o base ops ρ) s with
   | none => rw [hf] at hr; cases hr
   | some x => rw [hf] at hr; rw [h _ _ _ hf]; exact hr
  | seq a b =>
   simp only [step] at hr ⊢;cases hf : f (.c base a ρ) s with
   | none => rw [hf] at hr; cases hr
   | some x =>
    rw [hf] at hr; rw [h _ _ _ hf];cases x with
    | c e ρ' s' => cases e <;> first | exact h _ _ _ hr | exact hr
    | o _ _ => cases hr
    | v _ _ => cases hr
  | cond x a b =>
   simp only [step] at hr ⊢;cases hx : x.ev ρ with
   | bool t =>
    rw [hx] at hr;cases t
    ·exact h _ _ _ hr
    ·exact h _ _ _ hr
   | _ => rw [hx] at hr; cases hr
  | block id b =>
   simp only [step] at hr ⊢;cases hf : f (.c base b ρ) s with
   | none => rw [hf] at hr; cases hr
   | some x => rw [hf] at hr; rw [h _ _ _ hf]; exact hr
  | scope b =>
   simp only [step] at hr ⊢;cases hf : f (.c base b ρ) s with
   | none => rw [hf] at hr; cases hr
   | some x => rw [hf] at hr; rw [h _ _ _ hf]; exact hr
  | loop keep b =>
   simp only [step] at hr ⊢;cases hf : f (.c base b (restrict keep ρ)) s with
   | none => rw [hf] at hr; cases hr
   | some x =>
    rw [hf] at hr; rw [h _ _ _ hf];cases x with
    | c e ρ' s' =>
     cases e with
     | normal =>
      simp only at hr ⊢;split at hr
      ·rename_i hc; rw [if_pos hc]; exact h _ _ _ hr
      ·cases hr
     | exit _ => exact hr
     | ret => exact hr
    | o _ _ => cases hr
    | v _ _ => cases hr
 | o base l ρ =>
  cases l with
  | nil => exact hr
  | cons op rest =>
   simp only [step] at hr ⊢;cases hg : aJ op.guard ρ with
   | none => rw [hg] at hr; cases hr
   | some gb =>
    rw [hg] at hr;cases gb with
    | false => exact h _ _ _ hr
    | true =>
     cases hq : ak f base ρ s op.op with
     | none => simp only [hq] at hr; cases hr
     | some q =>
      simp only [hq] at hr;simp only [oG h hq];exact h _ _ _ hr
 | f fn args =>
  simp only [step] at hr ⊢;cases hfc : D fn with
  | none => rw [hfc] at hr; cases hr
  | some fc =>
   rw [hfc] at hr;simp only at hr ⊢;by_cases hlen : args.length = fc.n
   ·rw [if_pos hlen] at hr ⊢;cases hf : f (.c s.loc.length fc.body (dJ 0 args)) s with
    | none => rw [hf] at hr; cases hr
    | some x => rw [hf] at hr; rw [h _ _ _ hf]; exact hr
   ·rw [if_neg hlen] at hr; cases hr
theorem iZ : ∀ (n : Nat) {t : br} {s : St} {r : Res}, ev D n t s = some r → ev D (n + 1) t s = some r
 | 0, _, _, _, h => by cases h
 | n + 1, _, _, _, h => xU (fun _ _ _ h => iZ n h) h
theorem oq {n m : Nat} (hnm : n ≤ m) {t : br} {s : St} {r : Res} (h : ev D n t s = some r) : ev D m t s = some r := by
 induction hnm with
 | refl => exact h
 | step _ ih => exact iZ _ ih
open Classical in
noncomputable def run (D : Nat → Option Fc) (t : br) (s : St) : Option Res :=
 if h : ∃ n r, ev D n t s = some r then some h.choose_spec.choose else none
theorem bG {t : br} {s : St} {r : Res} : run D t s = some r ↔ ∃ n, ev D n t s = some r := by
 unfold run;constructor
 ·intro h;split at h
  ·rename_i hx;cases h;exact ⟨_, hx.choose_spec.choose_spec⟩
  ·cases h
 ·rintro ⟨n, hn⟩;have hx : ∃ n r, ev D n t s = some r := ⟨n, r, hn⟩;rw [dif_pos hx];have h1 := hx.choose_spec.choose_spec;have h2 := oq (Nat.le_max_left hx.choose n) h1;have h3 := oq (Nat.le_max_right hx.choose n) hn;rw [h2] at h3;exact h3
theorem rN {n : Nat} {t : br} {s : St} {r : Res} (h : ev D n t s = some r) : run D t s = some r := bG.2 ⟨n, h⟩
theorem JB {base : Nat} {ρ : Env} {s : St} {o : Op'} {q : V × St} (hq : ak (run D) base ρ s o = some q) : ∃ n, ak (ev D n) base ρ s o = some q := by
 cases o with
 | call fo args =>
  simp only [ak] at hq ⊢;cases hx : fo.ev ρ with
  | fn k caps =>
   simp only [hx] at hq;cases hf : run D (.f k (args.map (Opd.ev ρ) ++ caps)) s with
   | none => rw [hf] at hq; cases hq
   | some x => rw [hf] at hq; obtain ⟨n, hn⟩ := bG.1 hf; exact ⟨n, by simp only [hn]; exact hq⟩
  | _ => rw [hx] at hq; cases hq
 | pcall fo args =>
  simp only [ak] at hq ⊢;cases hx : fo.ev ρ with
  | fn k caps =>
   simp only [hx] at hq;by_cases hp : pOk base (be base (args.map (Opd.ev ρ) ++ caps)) (args.map (Opd.ev ρ) ++ caps) s = true
   ·rw [if_pos hp] at hq;simp only [if_pos hp];cases hf : run D (.f k (args.map (Opd.ev ρ) ++ caps)) (s.cut (be base (args.map (Opd.ev ρ) ++ caps))) with
    | none => rw [hf] at hq; cases hq
    | some x => rw [hf] at hq; obtain ⟨n, hn⟩ := bG.1 hf; exact ⟨n, by simp only [hn]; exact hq⟩
   ·rw [if_neg hp] at hq; cases hq
  | _ => rw [hx] at hq; cases hq
 | callw fo args w =>
  simp only [ak] at hq ⊢;split at hq
  ·rename_i hw;simp only [if_pos hw];cases hx : fo.ev ρ with
   | fn k caps =>
    simp only [hx] at hq;cases hf : run D (.f k (args.map (Opd.ev ρ) ++ caps)) s with
    | none => rw [hf] at hq; cases hq
    | some x => rw [hf] at hq; obtain ⟨n, hn⟩ := bG.1 hf; exact ⟨n, by simp only [hn]; exact hq⟩
   | _ => rw [hx] at hq; cases hq
  ·cases hq
 | callk p fo args =>
  simp only [ak] at hq ⊢;cases hx : fo.ev ρ with
  | fn k caps =>
   simp only [hx] at hq;by_cases hp : pOk base (be base (args.map (Opd.ev ρ) ++ caps)) (args.map (Opd.ev ρ) ++ caps) s = true
   ·rw [if_pos hp] at hq;simp only [if_pos hp];cases hf : run D (.f k (args.map (Opd.ev ρ) ++ caps)) (s.cut (be base (args.map (Opd.ev ρ) ++ caps))) with
    | none => rw [hf] at hq; cases hq
    | some x => rw [hf] at hq; obtain ⟨n, hn⟩ := bG.1 hf; exact ⟨n, by simp only [hn]; exact hq⟩
   ·rw [if_neg hp] at hq; cases hq
  | _ => rw [hx] at hq; cases hq
 | _ => exact ⟨0, hq⟩
theorem IX {t : br} {s : St} {r : Res} (hr : step D (run D) t s = some r) : ∃ n, step D (ev D n) t s = some r := by
 cases t with
 | c base c ρ =>
  cases c with
  | skip => exact ⟨0, hr⟩
  | label _ => exact ⟨0, hr⟩
  | ret => exact ⟨0, hr⟩
  | exit _ => exact ⟨0, hr⟩
  | reg keep ops =>
   simp only [step] at hr ⊢;cases hf : run D (.o base ops ρ) s with
   | none => rw [hf] at hr; cases hr
   | some x => rw [hf] at hr; obtain ⟨n, hn⟩ := bG.1 hf; exact ⟨n, by rw [hn]; exact hr⟩
  | regd keep ops =>
   simp only [step] at hr ⊢;cases hf : run D (.o base ops ρ) s with
   | none => rw [hf] at hr; cases hr
   | some x => rw [hf] at hr; obtain ⟨n, hn⟩ := bG.1 hf; exact ⟨n, by rw [hn]; exact hr⟩
  | seq a b =>
   simp only [step] at hr ⊢;cases hf : run D (.c base a ρ) s with
   | none => rw [hf] at hr; cases hr
   | some x =>
    rw [hf] at hr; obtain ⟨n, hn⟩ := bG.1 hf;cases x with
    | c e ρ' s' =>
     cases e with
     | normal =>
      obtain ⟨m, hm⟩ := bG.1 hr;exact ⟨max n m, by rw [oq (Nat.le_max_left n m) hn]; exact oq (Nat.le_max_right n m) hm⟩
     | exit _ => exact ⟨n, by rw [hn]; exact hr⟩
     | ret => exact ⟨n, by rw [hn]; exact hr⟩
    | o _ _ => cases hr
    | v _ _ => cases hr
  | cond x a b =>
   simp only [step] at hr ⊢;cases hx : x.ev ρ with
   | bool t =>
    rw [hx] at hr;cases t
    ·obtain ⟨n, hn⟩ := bG.1 hr;exact ⟨n, hn⟩
    ·obtain ⟨n, hn⟩ := bG.1 hr;exact ⟨n, hn⟩
   | _ => rw [hx] at hr; cases hr
  | block id b =>
   simp only [step] at hr ⊢;cases hf : run D (.c base b ρ) s with
   | none => rw [hf] at hr; cases hr
   | some x => rw [hf] at hr; obtain ⟨n, hn⟩ := bG.1 hf; exact ⟨n, by rw [hn]; exact hr⟩
  | scope b =>
   simp only [step] at hr ⊢;cases hf : run D (.c base b ρ) s with
   | none => rw [hf] at hr; cases hr
   | some x => rw [hf] at hr; obtain ⟨n, hn⟩ := bG.1 hf; exact ⟨n, by rw [hn]; exact hr⟩
  | loop keep b =>
   simp only [step] at hr ⊢;cases hf : run D (.c base b (restrict keep ρ)) s with
   | none => rw [hf] at hr; cases hr
   | some x =>
    rw [hf] at hr; obtain ⟨n, hn⟩ := bG.1 hf;cases x with
    | c e ρ' s' =>
     cases e with
     | normal =>
      simp only at hr;split at hr
      ·rename_i hc;obtain ⟨m, hm⟩ := bG.1 hr;exact ⟨max n m, by rw [oq (Nat.le_max_left n m) hn]; simp only; rw [if_pos hc]; exact oq (Nat.le_max_right n m) hm⟩
      ·cases hr
     | exit _ => exact ⟨n, by rw [hn]; exact hr⟩
     | ret => exact ⟨n, by rw [hn]; exact hr⟩
    | o _ _ => cases hr
    | v _ _ => cases hr
 | o base l ρ =>
  cases l with
  | nil => exact ⟨0, hr⟩
  | cons op rest =>
   simp only [step] at hr ⊢;cases hg : aJ op.guard ρ with
   | none => rw [hg] at hr; cases hr
   | some gb =>
    rw [hg] at hr;cases gb with
    | false => exact bG.1 hr
    | true =>
     cases hq : ak (run D) base ρ s op.op with
     | none => simp only [hq] at hr; cases hr
     | some q =>
      simp only [hq] at hr;obtain ⟨n, hn⟩ := JB hq;obtain ⟨m, hm⟩ := bG.1 hr;exact ⟨max n m, by simp only [oG (fun _ _ _ h => oq (Nat.le_max_left n m) h) hn]; exact oq (Nat.le_max_right n m) hm⟩
 | f fn args =>
  simp only [step] at hr ⊢;cases hfc : D fn with
  | none => rw [hfc] at hr; cases hr
  | some fc =>
   rw [hfc] at hr;simp only at hr ⊢;by_cases hlen : args.length = fc.n
   ·simp only [if_pos hlen] at hr ⊢;cases hf : run D (.c s.loc.length fc.body (dJ 0 args)) s with
    | none => rw [hf] at hr; cases hr
    | some x => rw [hf] at hr; obtain ⟨n, hn⟩ := bG.1 hf; exact ⟨n, by rw [hn]; exact hr⟩
   ·rw [if_neg hlen] at hr; cases hr
theorem ct (t : br) (s : St) : run D t s = step D (run D) t s := by
 apply Option.ext;intro r;constructor
 ·intro h;obtain ⟨n, hn⟩ := bG.1 h;cases n with
  | zero => cases hn
  | succ n => exact xU (fun _ _ _ h => rN h) hn
 ·intro h;obtain ⟨n, hn⟩ := IX h;exact rN (n := n + 1) hn
noncomputable def rc (D : Nat → Option Fc) (base : Nat) (c : C) (ρ : Env) (s : St) : Option (Ex × Env × St) :=
 match run D (.c base c ρ) s with
 | some (.c e ρ' s') => some (e, ρ', s')
 | _ => none
noncomputable def ro (D : Nat → Option Fc) (base : Nat) (l : List Op) (ρ : Env) (s : St) : Option (Env × St) :=
 match run D (.o base l ρ) s with
 | some (.o ρ' s') => some (ρ', s')
 | _ => none
noncomputable def rf (D : Nat → Option Fc) (f : Nat) (args : List V) (s : St) : Option (V × St) :=
 match run D (.f f args) s with
 | some (.v v s') => some (v, s')
 | _ => none
theorem Fw {f : Nat} {args : List V} {s : St} {v : V} {s' : St} : rf D f args s = some (v, s') ↔ run D (.f f args) s = some (.v v s') := by
 unfold rf; constructor
 ·intro h; split at h
  ·rename_i hh; cases h; exact hh
  ·cases h
 ·intro h; rw [h]
section
variable {base : Nat} {ρ : Env} {s : St}
theorem Lh : rc D base .skip ρ s = some (.normal, ρ, s) := by simp only [rc, ct, step]
theorem Kg {l : Nat} : rc D base (.label l) ρ s = some (.normal, ρ, s) := by simp only [rc, ct, step]
theorem Nx : rc D base .ret ρ s = some (.ret, ρ, s) := by simp only [rc, ct, step]
theorem Lt {id : Nat} : rc D base (.exit id) ρ s = some (.exit id, ρ, s) := by simp only [rc, ct, step]
theorem NZ {keep : Option (List Nat)} {ops : List Op} : rc D base (.reg keep ops) ρ s = (ro D base ops ρ s).bind fun x => some (.normal, iO keep x.1, x.2) := by
 simp only [rc, ro]; rw [ct]; simp only [step];cases run D (.o base ops ρ) s with
 | none => rfl
 | some x => cases x <;> rfl
theorem Lp {keep : Option (List Nat)} {ops : List Op} : rc D base (.regd keep ops) ρ s = (ro D base ops ρ s).bind fun x => some (.normal, iO keep x.1, x.2) := by
 simp only [rc, ro]; rw [ct]; simp only [step];cases run D (.o base ops ρ) s with
 | none => rfl
 | some x => cases x <;> rfl
noncomputable def andThen (D : Nat → Option Fc) (base : Nat) (b : C) (x : Ex × Env × St) : Option (Ex × Env × St) :=
 match x with
 | (.normal, ρ, s) => rc D base b ρ s
 | x => some x
theorem xc {b : C} : andThen D base b (.normal, ρ, s) = rc D base b ρ s := rfl
theorem B8 {b : C} : andThen D base b (.ret, ρ, s) = some (.ret, ρ, s) := rfl
theorem Ae {b : C} {id : Nat} : andThen D base b (.exit id, ρ, s) = some (.exit id, ρ, s) := rfl
theorem NY {a b : C} : rc D base (.seq a b) ρ s = (rc D base a ρ s).bind (andThen D base b) := by
 simp only [rc]; rw [ct]; simp only [step];cases run D (.c base a ρ) s with
 | none => rfl
 | some x =>
  cases x with
  | c e ρ' s' => cases e <;> rfl
  | _ => rfl
theorem LD {x : Opd} {a b : C} : rc D base (.cond x a b) ρ s = match x.ev ρ with
 | .bool t => if t then rc D base a ρ s else rc D base b ρ s
 | _ => none := by
 simp only [rc]; rw [ct]; simp only [step];cases x.ev ρ with
 | bool t => cases t <;> rfl
 | _ => rfl
def KP (id : Nat) (x : Ex × Env × St) : Ex × Env × St :=
 match x with
 | (.exit id', ρ, s) => (if id' = id then .normal else .exit id', ρ, s)
 | x => x
theorem Ju {id : Nat} {b : C} : rc D base (.block id b) ρ s = (rc D base b ρ s).bind fun x => some (KP id x) := by
 simp only [rc]; rw [ct]; simp only [step];cases run D (.c base b ρ) s with
 | none => rfl
 | some x =>
  cases x with
  | c e ρ' s' => cases e <;> rfl
  | _ => rfl
theorem IS {b : C} : rc D base (.scope b) ρ s = rc D base b ρ s := by
 simp only [rc]; rw [ct]; simp only [step];cases run D (.c base b ρ) s with
 | none => rfl
 | some x =>
  cases x with
  | c e ρ' s' => cases e <;> rfl
  | _ => rfl
noncomputable def hZ (D : Nat → Option Fc) (base n : Nat) (keep : List Nat) (b : C) (x : Ex × Env × St) : Option (Ex × Env × St) :=
 match x with
 | (.normal, ρ, s) => if eZ base n (restrict keep ρ) s then rc D base (.loop keep b) (restrict keep ρ) { s with loc := s.loc.take n } else none
 | x => some x
theorem A0 {n : Nat} {keep : List Nat} {b : C} : hZ D base n keep b (.normal, ρ, s) = if eZ base n (restrict keep ρ) s then rc D base (.loop keep b) (restrict keep ρ) { s with loc := s.loc.take n } else none := rfl
theorem HP {n : Nat} {keep : List Nat} {b : C} : hZ D base n keep b (.ret, ρ, s) = some (.ret, ρ, s) := rfl
theorem EX {n : Nat} {keep : List Nat} {b : C} {id : Nat} : hZ D base n keep b (.exit id, ρ, s) = some (.exit id, ρ, s) := rfl
theorem jX {ks : List Nat} {ρ : Env} {k : Nat} (h : k ∈ ks) : get (restrict ks ρ) k = get ρ k := by
 induction ks with
 | nil => cases h
 | cons j ks ih =>
  simp only [restrict, List.map_cons, get];by_cases hj : j = k
  ·rw [if_pos hj, hj]
  ·rw [if_neg hj];exact ih (by cases h with | head => exact absurd rfl hj | tail _ h => exact h)
theorem tA (ks : List Nat) (ρ : Env) : restrict ks (restrict ks ρ) = restrict ks ρ := by
 unfold restrict;apply List.map_congr_left;intro k hk;rw [show get (ks.map fun k => (k, get ρ k)) k = get ρ k from jX hk]
theorem uB {keep : List Nat} {b : C} : rc D base (.loop keep b) ρ s = (rc D base b (restrict keep ρ) s).bind fun x => match x with
 | (.normal, ρ', s') => if eZ base s.loc.length (restrict keep ρ') s' then rc D base (.loop keep b) ρ' { s' with loc := s'.loc.take s.loc.length } else none
 | x => some x := by
 simp only [rc]; rw [ct]; simp only [step];cases run D (.c base b (restrict keep ρ)) s with
 | none => rfl
 | some x =>
  cases x with
  | c e ρ' s' =>
   cases e with
   | normal =>
    simp only [Option.bind_some];by_cases hc : eZ base s.loc.length (restrict keep ρ') s' = true
    ·rw [if_pos hc, if_pos hc]
    ·rw [if_neg hc, if_neg hc]
   | _ => rfl
  | _ => rfl
theorem uQ {keep : List Nat} {b : C} : rc D base (.loop keep b) (restrict keep ρ) s = rc D base (.loop keep b) ρ s := by
 rw [uB, uB (ρ := ρ), tA]
theorem MO {keep : List Nat} {b : C} : rc D base (.loop keep b) ρ s = (rc D base b (restrict keep ρ) s).bind (hZ D base s.loc.length keep b) := by
 rw [uB];congr 1;funext x;obtain ⟨e, ρ', s'⟩ := x;cases e with
 | normal => simp only [hZ, uQ]
 | _ => rfl
theorem HR : ro D base [] ρ s = some (ρ, s) := by simp only [ro, ct, step]
noncomputable def rop (D : Nat → Option Fc) (base : Nat) (ρ : Env) (s : St) : Op' → Option (V × St)
 | .call f args => match f.ev ρ with
  | .fn g caps => rf D g (args.map (Opd.ev ρ) ++ caps) s
  | _ => none
 | .pcall f args => match f.ev ρ with
  | .fn g caps => if pOk base (be base (args.map (Opd.ev ρ) ++ caps)) (args.map (Opd.ev ρ) ++ caps) s = true then
   (rf D g (args.map (Opd.ev ρ) ++ caps) (s.cut (be base (args.map (Opd.ev ρ) ++ caps)))).bind fun x => if x.2 = s.cut (be base (args.map (Opd.ev ρ) ++ caps)) ∧ x.1.flat = true then some (x.1, s) else none
   else none
  | _ => none
 | .callw f args w => if pb s (w.ev ρ) = true then
  match f.ev ρ with
  | .fn g caps => rf D g (args.map (Opd.ev ρ) ++ caps) s
  | _ => none
  else none
 | .callk p f args => match f.ev ρ with
  | .fn g caps => if pOk base (be base (args.map (Opd.ev ρ) ++ caps)) (args.map (Opd.ev ρ) ++ caps) s = true then
   (rf D g (args.map (Opd.ev ρ) ++ caps) (s.cut (be base (args.map (Opd.ev ρ) ++ caps)))).bind fun x => if zS p (s.cut (be base (args.map (Opd.ev ρ) ++ caps))) x.2 then some (x.1, { x.2 with loc := s.loc }) else none
   else none
  | _ => none
 | o => evOp base ρ s o
theorem Jo {o : Op'} : ak (run D) base ρ s o = rop D base ρ s o := by
 cases o with
 | call f args =>
  simp only [ak, rop];cases f.ev ρ with
  | fn g caps =>
   simp only [rf];cases run D (.f g (args.map (Opd.ev ρ) ++ caps)) s with
   | none => rfl
   | some x => cases x <;> rfl
  | _ => rfl
 | pcall f args =>
  simp only [ak, rop];cases f.ev ρ with
  | fn g caps =>
   simp only [rf];split
   ·cases run D (.f g (args.map (Opd.ev ρ) ++ caps)) (s.cut (be base (args.map (Opd.ev ρ) ++ caps))) with
    | none => rfl
    | some x => cases x <;> rfl
   ·rfl
  | _ => rfl
 | callw f args w =>
  simp only [ak, rop];split
  ·cases f.ev ρ with
   | fn g caps =>
    simp only [rf];cases run D (.f g (args.map (Opd.ev ρ) ++ caps)) s with
    | none => rfl
    | some x => cases x <;> rfl
   | _ => rfl
  ·rfl
 | callk p f args =>
  simp only [ak, rop];cases f.ev ρ with
  | fn g caps =>
   simp only [rf];split
   ·cases run D (.f g (args.map (Opd.ev ρ) ++ caps)) (s.cut (be base (args.map (Opd.ev ρ) ++ caps))) with
    | none => rfl
    | some x => cases x <;> rfl
   ·rfl
  | _ => rfl
 | _ => rfl
theorem tp {op : Op} {rest : List Op} : ro D base (op :: rest) ρ s = match aJ op.guard ρ with
 | none => none
 | some false => ro D base rest (put op.dst (.tup []) ρ) s
 | some true => (rop D base ρ s op.op).bind fun x => ro D base rest (put op.dst x.1 ρ) x.2 := by
 unfold ro;rw [ct]; simp only [step, Jo];cases aJ op.guard ρ with
 | none => rfl
 | some gb =>
  cases gb with
  | false => rfl
  | true =>
   cases rop D base ρ s op.op with
   | none => rfl
   | some x => rfl
def kF (n : Nat) (res : List RV) (x : Ex × Env × St) : Option (V × St) :=
 match x with
 | (.exit _, _, _) => none
 | (_, ρ, s) => match bP ρ s res with
  | some v => if v.locLt n ∧ n ≤ s.loc.length then some (v, { s with loc := s.loc.take n }) else none
  | none => none
theorem Fq {n : Nat} {res : List RV} : kF n res (.ret, ρ, s) = match bP ρ s res with
 | some v => if v.locLt n ∧ n ≤ s.loc.length then some (v, { s with loc := s.loc.take n }) else none
 | none => none := rfl
theorem Av {n : Nat} {res : List RV} : kF n res (.normal, ρ, s) = match bP ρ s res with
 | some v => if v.locLt n ∧ n ≤ s.loc.length then some (v, { s with loc := s.loc.take n }) else none
 | none => none := rfl
theorem PT {f : Nat} {fc : Fc} (hf : D f = some fc) {args : List V} (hn : args.length = fc.n) :
 rf D f args s = (rc D s.loc.length fc.body (dJ 0 args) s).bind (kF s.loc.length fc.res) := by
 unfold rf rc;rw [ct]; simp only [step, hf, hn, if_true];cases run D (.c s.loc.length fc.body (dJ 0 args)) s with
 | none => rfl
 | some x =>
  cases x with
  | c e ρ' s' =>
   cases e with
   | exit _ => rfl
   | normal =>
    simp only [Option.bind_some, kF];cases bP ρ' s' fc.res with
    | none => rfl
    | some v =>
     simp only;by_cases hv : v.locLt s.loc.length = true ∧ s.loc.length ≤ s'.loc.length
     ·simp only [if_pos hv]
     ·simp only [if_neg hv]
   | ret =>
    simp only [Option.bind_some, kF];cases bP ρ' s' fc.res with
    | none => rfl
    | some v =>
     simp only;by_cases hv : v.locLt s.loc.length = true ∧ s.loc.length ≤ s'.loc.length
     ·simp only [if_pos hv]
     ·simp only [if_neg hv]
  | _ => rfl
end
end Go.Ab
namespace Go.Ab
variable {D : Nat → Option Fc} {base : Nat} {ρ : Env} {s : St}
theorem nd {α : Sort _} {a b : α} (h : a = b) : a = b := h
def ac {α β : Type} (x : Option α) (f : α → Option β) : Option β := x.bind f
theorem aN {α β : Type} {a : α} {f : α → Option β} : ac (some a) f = f a := nd rfl
theorem E2 {α β : Type} {f : α → Option β} : ac none f = none := nd rfl
@[congr] theorem Pe {α β : Type} {x y : Option α} {f : α → Option β} (h : x = y) : ac x f = ac y f := by rw [h]
theorem sC {α β : Type} {c : Prop} [Decidable c] {x y : Option α} {f : α → Option β} : ac (if c then x else y) f = if c then ac x f else ac y f := by split <;> rfl
def np {α : Type} (v : V) (f : Bool → Option α) : Option α := match v with | .bool t => f t | _ => none
theorem Ed {α : Type} {t : Bool} {f : Bool → Option α} : np (.bool t) f = f t := nd rfl
@[congr] theorem Pf {α : Type} {v w : V} {f : Bool → Option α} (h : v = w) : np v f = np w f := by rw [h]
theorem Ig {a b : C} : rc D base (.seq a b) ρ s = ac (rc D base a ρ s) (andThen D base b) := NY
def nW (id : Nat) (x : Ex × Env × St) : Option (Ex × Env × St) := some (KP id x)
theorem yC {id : Nat} : nW id (.normal, ρ, s) = some (.normal, ρ, s) := nd rfl
theorem Ez {id : Nat} : nW id (.ret, ρ, s) = some (.ret, ρ, s) := nd rfl
theorem Cc {id id' : Nat} : nW id (.exit id', ρ, s) = some (if id' = id then .normal else .exit id', ρ, s) := nd rfl
theorem Er {id : Nat} {b : C} : rc D base (.block id b) ρ s = ac (rc D base b ρ s) (nW id) := Ju
theorem ah {keep : List Nat} {b : C} : rc D base (.loop keep b) ρ s = ac (rc D base b (restrict keep ρ) s) (hZ D base s.loc.length keep b) := MO
theorem ae {f : Nat} {fc : Fc} (hf : D f = some fc) {args : List V} (hn : args.length = fc.n) :
 rf D f args s = ac (rc D s.loc.length fc.body (dJ 0 args) s) (kF s.loc.length fc.res) := PT hf hn
theorem Ff {x : Opd} {a b : C} : rc D base (.cond x a b) ρ s = np (x.ev ρ) fun t => if t then rc D base a ρ s else rc D base b ρ s := by
 rw [LD];cases x.ev ρ <;> rfl
def aX (ρ ρ' : Env) : Prop := ∀ t, get ρ t = get ρ' t
theorem aX.ev {ρ ρ' : Env} (h : aX ρ ρ') : Opd.ev ρ = Opd.ev ρ' := by
 funext x;cases x with
 | t n => exact h n
 | k v => rfl
theorem aX.put {ρ ρ' : Env} (h : aX ρ ρ') (d : Option Nat) (v : V) : aX (put d v ρ) (put d v ρ') := by
 intro t;cases d with
 | none => exact h t
 | some k => simp only [Ab.put, get, h t]
theorem aX.evOp {ρ ρ' : Env} (h : aX ρ ρ') (o : Op') : evOp base ρ s o = evOp base ρ' s o := by
 have he := h.ev;cases o <;> simp only [Ab.evOp, he]
theorem aX.rop {ρ ρ' : Env} (h : aX ρ ρ') (o : Op') : rop D base ρ s o = rop D base ρ' s o := by
 have he := h.ev;cases o with
 | call f args => simp only [Ab.rop, he]
 | pcall f args => simp only [Ab.rop, he]
 | callw f args w => simp only [Ab.rop, he]
 | callk p f args => simp only [Ab.rop, he]
 | _ => simp only [Ab.rop]; exact h.evOp _
theorem aX.guard {ρ ρ' : Env} (h : aX ρ ρ') (g : Option (Nat × Bool)) : aJ g ρ = aJ g ρ' := by
 cases g with
 | none => rfl
 | some x => simp only [aJ, h x.1]
theorem aX.restrict {ρ ρ' : Env} (h : aX ρ ρ') (ks : List Nat) : restrict ks ρ = restrict ks ρ' := by
 simp only [Ab.restrict, h _]
theorem aX.ro {ks : List Nat} : ∀ (l : List Op) {ρ ρ' : Env} {s : St}, aX ρ ρ' → (ro D base l ρ s).bind (fun x => some (Ex.normal, Ab.restrict ks x.1, x.2)) = (ro D base l ρ' s).bind (fun x => some (Ex.normal, Ab.restrict ks x.1, x.2))
 | [], ρ, ρ', s, h => by simp only [HR, Option.bind_some, h.restrict]
 | op :: l, ρ, ρ', s, h => by
  rw [tp, tp, h.guard];cases aJ op.guard ρ' with
  | none => rfl
  | some b =>
   cases b with
   | false => exact aX.ro l (h.put _ _)
   | true =>
    simp only [h.rop];cases Ab.rop D base ρ' s op.op with
    | none => rfl
    | some x => exact aX.ro l (h.put _ _)
theorem aX.of_get {t : Nat} {v : V} (h : get ρ t = v) : aX ρ ((t, v) :: ρ) := by
 intro k;simp only [get];split
 ·rename_i e; rw [← e, h]
 ·rfl
noncomputable def rg (D : Nat → Option Fc) (base : Nat) (ks : List Nat) (l : List Op) (ρ : Env) (s : St) : Option (Ex × Env × St) :=
 (ro D base l ρ s).bind fun x => some (Ex.normal, restrict ks x.1, x.2)
theorem O1 {ks : List Nat} : rg D base ks [] ρ s = some (Ex.normal, restrict ks ρ, s) := by simp only [rg, HR, Option.bind_some]
theorem P4 {ks : List Nat} {d : Option Nat} {o : Op'} {rest : List Op} : rg D base ks (⟨d, none, o⟩ :: rest) ρ s = ac (rop D base ρ s o) fun x => rg D base ks rest (put d x.1 ρ) x.2 := by
 simp only [rg];rw [tp];simp only [aJ];cases rop D base ρ s o <;> rfl
def ij {α : Type} (v : V) (b : Bool) (A B C : Option α) : Option α :=
 match v with
 | .bool x => if x = b then A else B
 | .tup [] => C
 | _ => none
theorem B6 {α : Type} {x b : Bool} {A B C : Option α} : ij (.bool x) b A B C = if x = b then A else B := nd rfl
theorem DS {α : Type} {b : Bool} {A B C : Option α} : ij (.tup []) b A B C = C := nd rfl
@[congr] theorem OL {α : Type} {v w : V} {b : Bool} {A B C : Option α} (h : v = w) : ij v b A B C = ij w b A B C := by rw [h]
theorem wA {α : Type} {v : V} {b : Bool} {A B C A' B' C' : Option α} (hA : v = .bool b → A = A') (hB : v = .bool (!b) → B = B') (hC : v = .tup [] → C = C') : ij v b A B C = ij v b A' B' C' := by
 unfold ij;split
 ·rename_i x;split
  ·rename_i h; exact hA (by rw [h])
  ·rename_i h; exact hB (by cases x <;> cases b <;> simp_all)
 ·exact hC rfl
 ·rfl
theorem P7 {ks : List Nat} {d : Option Nat} {t : Nat} {b : Bool} {o : Op'} {rest : List Op} : rg D base ks (⟨d, some (t, b), o⟩ :: rest) ρ s =
 ij (get ρ t) b (ac (rop D base ρ s o) fun y => rg D base ks rest (put d y.1 ((t, .bool b) :: ρ)) y.2) (rg D base ks rest (put d (.tup []) ((t, .bool !b) :: ρ)) s) (rg D base ks rest (put d (.tup []) ((t, .tup []) :: ρ)) s) := by
 have h0 : rg D base ks (⟨d, some (t, b), o⟩ :: rest) ρ s = ij (get ρ t) b (ac (rop D base ρ s o) fun y => rg D base ks rest (put d y.1 ρ) y.2) (rg D base ks rest (put d (.tup []) ρ) s) (rg D base ks rest (put d (.tup []) ρ) s) := by
  simp only [rg];rw [tp];simp only [aJ];cases hv : get ρ t with
  | bool x =>
   simp only [ij];by_cases hxb : x = b
   ·subst hxb;simp only [beq_self_eq_true, if_true];cases rop D base ρ s o <;> rfl
   ·have hxb' : (x == b) = false := by simp [hxb]
    simp only [hxb', if_neg hxb]
  | tup l => cases l <;> rfl
  | _ => rfl
 rw [h0];refine wA (fun hv => ?_) (fun hv => ?_) (fun hv => aX.ro rest ((aX.of_get hv).put _ _))
 ·cases rop D base ρ s o with
  | none => rfl
  | some y => exact aX.ro rest ((aX.of_get hv).put _ _)
 ·exact aX.ro rest ((aX.of_get hv).put _ _)
theorem Ks {t : Nat} {v : V} : put (some t) v ρ = (t, v) :: ρ := nd rfl
theorem Ka {v : V} : put none v ρ = ρ := nd rfl
theorem IQ {k t : Nat} {v : V} : get ((k, v) :: ρ) t = if k = t then v else get ρ t := nd rfl
theorem Bm : restrict [] ρ = [] := nd rfl
theorem yr {k : Nat} {ks : List Nat} : restrict (k :: ks) ρ = (k, get ρ k) :: restrict ks ρ := nd rfl
theorem BS {ks : List Nat} : iO (some ks) ρ = restrict ks ρ := nd rfl
theorem By : iO none ρ = ρ := nd rfl
theorem Qm {n : Nat} : Opd.ev ρ (.t n) = get ρ n := nd rfl
theorem P9 {v : V} : Opd.ev ρ (.k v) = v := nd rfl
theorem Ir {i : Nat} : dJ i [] = [] := nd rfl
theorem FR {i : Nat} {v : V} {l : List V} : dJ i (v :: l) = (i, v) :: dJ (i + 1) l := nd rfl
section ops
variable {x y a b c p i : Opd}
theorem Ky : rop D base ρ s (.mv x) = some (x.ev ρ, s) := nd rfl
theorem CS : rop D base ρ s (.pick c a b) = np (c.ev ρ) fun t => some (if t then a.ev ρ else b.ev ρ, s) := nd rfl
theorem zi {h : Bool} {z : V} : rop D base ρ s (.alloc h z) = some (.ptr (s.fresh h) [] z.tag, s.new h z) := nd rfl
theorem GR {h : Bool} : rop D base ρ s (.box h x) = if (x.ev ρ).ok && aQ h (x.ev ρ) then some (.ptr (s.fresh h) [] (x.ev ρ).tag, s.new h (x.ev ρ)) else none := nd rfl
def ldv (s : St) (t : Nat) : V → Option V
 | .ptr a path t' => if t' = t then s.read a path else none
 | _ => none
theorem M0 {t t' : Nat} {a : Loc} {path : List Nat} : ldv s t (.ptr a path t') = if t' = t then s.read a path else none := nd rfl
theorem Em {t : Nat} : rop D base ρ s (.ld t p) = ac (ldv s t (p.ev ρ)) fun v => some (v, s) := by
 show evOp base ρ s (.ld t p) = _;simp only [evOp];cases p.ev ρ with
 | ptr a path t' =>
  simp only [ldv];split
  ·cases s.read a path <;> rfl
  ·rfl
 | _ => rfl
def stv (base : Nat) (s : St) (t : Nat) (x : V) : V → Option St
 | .ptr a path t' => if t' = t ∧ x.tag = t then s.write base a path x else none
 | _ => none
theorem Mp {t t' : Nat} {a : Loc} {path : List Nat} {x : V} : stv base s t x (.ptr a path t') = if t' = t ∧ x.tag = t then s.write base a path x else none := nd rfl
theorem EC {t : Nat} : rop D base ρ s (.st t p x) = ac (stv base s t (x.ev ρ) (p.ev ρ)) fun s' => some (.dead, s') := by
 show evOp base ρ s (.st t p x) = _;simp only [evOp];cases p.ev ρ with
 | ptr a path t' =>
  simp only [stv];split
  ·cases s.write base a path (x.ev ρ) <;> rfl
  ·rfl
 | _ => rfl
def Bk : V → Option V
 | .ptr a p t => some (.ptr a p t)
 | .fn f l => some (.fn f l)
 | _ => none
theorem Ke {t : Nat} {a : Loc} {path : List Nat} : Bk (.ptr a path t) = some (.ptr a path t) := nd rfl
theorem Lj {f : Nat} {l : List V} : Bk (.fn f l) = some (.fn f l) := nd rfl
theorem Cv : rop D base ρ s (.nilc x) = ac (Bk (x.ev ρ)) fun v => some (v, s) := by
 show evOp base ρ s (.nilc x) = _;simp only [evOp];cases x.ev ρ <;> rfl
theorem FX {o : BinOp} : rop D base ρ s (.bin o x y) = ac (iH o (x.ev ρ) (y.ev ρ)) fun v => some (v, s) := by
 show evOp base ρ s (.bin o x y) = _;simp only [evOp];cases iH o (x.ev ρ) (y.ev ρ) <;> rfl
def eqv (neg : Bool) (t : Nat) (x y : V) : Option V := ac (cd t x y) fun b => some (.bool (if neg then !b else b))
theorem KE {neg : Bool} {t : Nat} : rop D base ρ s (.eq neg t x y) = ac (eqv neg t (x.ev ρ) (y.ev ρ)) fun v => some (v, s) := by
 show evOp base ρ s (.eq neg t x y) = _;simp only [evOp, eqv];cases cd t (x.ev ρ) (y.ev ρ) <;> rfl
theorem KO {o : UnOp} : rop D base ρ s (.un o x) = ac (vun o (x.ev ρ)) fun v => some (v, s) := by
 show evOp base ρ s (.un o x) = _;simp only [evOp];cases vun o (x.ev ρ) <;> rfl
def yI (k : IntKind) : V → Option V
 | .int _ n => some (.int k (k.wrap n))
 | _ => none
theorem Hv {k k' : IntKind} {n : Int} : yI k (.int k' n) = some (.int k (k.wrap n)) := nd rfl
theorem CD {k : IntKind} : rop D base ρ s (.conv k x) = ac (yI k (x.ev ρ)) fun v => some (v, s) := by
 show evOp base ρ s (.conv k x) = _
 simp only [evOp];cases x.ev ρ <;> rfl
def u9 (f : Nat) (caps : List V) : Option V := if caps.all (fun v => v.tag == 1) then some (.fn f caps) else none
theorem xR {f : Nat} {caps : List Opd} : rop D base ρ s (.mkfn f caps) = ac (u9 f (caps.map (Opd.ev ρ))) fun v => some (v, s) := by
 show evOp base ρ s (.mkfn f caps) = _;simp only [evOp, u9];split <;> rfl
def yM (h : Bool) (r e : Nat) (z : V) (s : St) : V → V → Option (V × St)
 | .int _ l, .int _ m => if 0 ≤ l ∧ l ≤ m ∧ m ≤ eI then
  some (.sl (s.fresh h) [] 0 l.toNat (some m.toNat) e, s.new h (.agg r (List.replicate l.toNat z)))
  else none
 | _, _ => none
theorem xQ {h : Bool} {r e : Nat} {z : V} {n c : Opd} : rop D base ρ s (.mksl h r e z n c) = yM h r e z s (n.ev ρ) (c.ev ρ) := by
 show evOp base ρ s (.mksl h r e z n c) = _;simp only [evOp];cases n.ev ρ with
 | int _ _ => cases c.ev ρ <;> rfl
 | _ => rfl
def dZ (e : Nat) (lo hi mx : Option V) : V → Option V
 | .sl a path off len cap e' => if e' = e then
  ac (ai (cap.getD len) mx (cap.getD len)) fun m => ac (ai (fT mx.isSome m len) hi len) fun h => ac (ai h lo 0) fun l =>
   some (.sl a path (off + l) (h - l) (kx mx.isSome cap (m - l)) e)
  else none
 | .nils => ac (ai 0 mx 0) fun _ => ac (ai 0 hi 0) fun _ => ac (ai 0 lo 0) fun _ => some .nils
 | _ => none
theorem Ht {e : Nat} {lo hi mx : Option Opd} : rop D base ρ s (.slc e x lo hi mx) = ac (dZ e (lo.map (Opd.ev ρ)) (hi.map (Opd.ev ρ)) (mx.map (Opd.ev ρ)) (x.ev ρ)) fun v => some (v, s) := by
 show evOp base ρ s (.slc e x lo hi mx) = _;simp only [evOp];cases x.ev ρ with
 | sl a path off len cap e' =>
  simp only [dZ];by_cases he : e' = e
  ·simp only [if_pos he, Option.isSome_map];cases h1 : ai (cap.getD len) (mx.map (Opd.ev ρ)) (cap.getD len) with
   | none => rfl
   | some m =>
    simp only [aN];cases h2 : ai (fT mx.isSome m len) (hi.map (Opd.ev ρ)) len with
    | none => rfl
    | some h =>
     simp only [aN];cases h3 : ai h (lo.map (Opd.ev ρ)) 0 <;> rfl
  ·simp only [if_neg he]; rfl
 | nils =>
  simp only [dZ];cases ai 0 (mx.map (Opd.ev ρ)) 0 <;> cases ai 0 (hi.map (Opd.ev ρ)) 0 <;> cases ai 0 (lo.map (Opd.ev ρ)) 0 <;> rfl
 | _ => rfl
def rG (lo hi : Option V) : V → Option V
 | .str b => ac (ai b.size hi b.size) fun h => ac (ai h lo 0) fun l => some (.str (b.extract l h))
 | _ => none
theorem vg {lo hi : Option Opd} : rop D base ρ s (.slstr x lo hi) = ac (rG (lo.map (Opd.ev ρ)) (hi.map (Opd.ev ρ)) (x.ev ρ)) fun v => some (v, s) := by
 show evOp base ρ s (.slstr x lo hi) = _;simp only [evOp];cases x.ev ρ with
 | str b =>
  simp only [rG];cases ai b.size (hi.map (Opd.ev ρ)) b.size with
  | none => rfl
  | some h => simp only [aN]; cases ai h (lo.map (Opd.ev ρ)) 0 <;> rfl
 | _ => rfl
def rP (s : St) (t n e : Nat) (lo hi mx : Option V) : V → Option V
 | .ptr a path t' => if t' = t ∧ (s.read a path).isSome = true then ac (ai n mx n) fun m => ac (ai m hi n) fun h => ac (ai h lo 0) fun l => some (.sl a path l (h - l) (some (m - l)) e) else none
 | _ => none
theorem zk {t n e : Nat} {lo hi mx : Option Opd} : rop D base ρ s (.slarr t n e x lo hi mx) = ac (rP s t n e (lo.map (Opd.ev ρ)) (hi.map (Opd.ev ρ)) (mx.map (Opd.ev ρ)) (x.ev ρ)) fun v => some (v, s) := by
 show evOp base ρ s (.slarr t n e x lo hi mx) = _;simp only [evOp];cases x.ev ρ with
 | ptr a path t' =>
  simp only [rP];by_cases he : t' = t ∧ (s.read a path).isSome = true
  ·simp only [if_pos he];cases ai n (mx.map (Opd.ev ρ)) n with
   | none => rfl
   | some m =>
    simp only [aN];cases ai m (hi.map (Opd.ev ρ)) n with
    | none => rfl
    | some h => simp only [aN]; cases ai h (lo.map (Opd.ev ρ)) 0 <;> rfl
  ·simp only [if_neg he]; rfl
 | _ => rfl
def zC (t f c : Nat) : V → Option V
 | .ptr a path t' => if t' = t then some (.ptr a (path ++ [f]) c) else none
 | _ => none
theorem GW {t f c : Nat} : rop D base ρ s (.fad t f c x) = ac (zC t f c (x.ev ρ)) fun v => some (v, s) := by
 show evOp base ρ s (.fad t f c x) = _;simp only [evOp];cases x.ev ρ with
 | ptr a path t' => simp only [zC]; split <;> rfl
 | _ => rfl
def Ar (t n e : Nat) : V → V → Option V
 | .ptr a path t', .int _ j => if t' = t ∧ 0 ≤ j ∧ j < n then some (.ptr a (path ++ [j.toNat]) e) else none
 | _, _ => none
theorem FM {t n e : Nat} : rop D base ρ s (.iad t n e x i) = ac (Ar t n e (x.ev ρ) (i.ev ρ)) fun v => some (v, s) := by
 show evOp base ρ s (.iad t n e x i) = _;simp only [evOp];cases x.ev ρ with
 | ptr a path t' =>
  cases i.ev ρ with
  | int k j => simp only [Ar]; split <;> rfl
  | _ => rfl
 | _ => rfl
def jS (e : Nat) : V → V → Option V
 | .sl a path off len _ e', .int _ j => if e' = e ∧ 0 ≤ j ∧ j < len then some (.ptr a (path ++ [off + j.toNat]) e) else none
 | _, _ => none
def Bp (n e : Nat) : V → Option V
 | .sl a path off len _ e' => if e' = e ∧ 0 < n ∧ n ≤ len then some (.ptr a (path ++ [off]) e) else none
 | _ => none
theorem Ho {n e : Nat} : rop D base ρ s (.s2a n e x) = ac (Bp n e (x.ev ρ)) fun v => some (v, s) := by
 show evOp base ρ s (.s2a n e x) = _;simp only [evOp];cases x.ev ρ with
 | sl a path off len cap e' => simp only [Bp]; split <;> rfl
 | _ => rfl
def zs (s : St) (t n e u : Nat) : V → Option V
 | .ptr a q e' => if e' = e then (s.part n u a q).map (.agg t) else none
 | _ => none
theorem GS {t n e u : Nat} : rop D base ρ s (.ldr t n e u x) = ac (zs s t n e u (x.ev ρ)) fun v => some (v, s) := by
 show evOp base ρ s (.ldr t n e u x) = _;simp only [evOp];cases x.ev ρ with
 | ptr a q e' =>
  simp only [zs];split
  ·cases s.part n u a q <;> rfl
  ·rfl
 | _ => rfl
theorem FS : rop D base ρ s .mkm = some (.mp (some s.hp.length), ⟨s.loc, s.hp ++ [.mp []]⟩) := nd rfl
theorem Gk : rop D base ρ s (.mlk x i) = ac (ix (x.ev ρ) (i.ev ρ) s) fun v => some (v, s) := by
 show evOp base ρ s (.mlk x i) = _;simp only [evOp];cases ix (x.ev ρ) (i.ev ρ) s <;> rfl
theorem Hm {y : Opd} : rop D base ρ s (.mup x i y) = ac (eU (x.ev ρ) (i.ev ρ) (y.ev ρ) s) fun s' => some (.dead, s') := by
 show evOp base ρ s (.mup x i y) = _;simp only [evOp];cases eU (x.ev ρ) (i.ev ρ) (y.ev ρ) s <;> rfl
def AZ : Option Blk → Option (List Int)
 | some (.mp l) => some l
 | _ => none
theorem Oo {j : Nat} {n : Int} : ix (.mp (some j)) (.int .i64 n) s = ac (AZ (s.hp[j]?)) fun l => some (.bool (decide (n ∈ l))) := by
 simp only [ix, St.mpAt, AZ];cases s.hp[j]? with
 | none => rfl
 | some b => cases b <;> rfl
theorem Ow {j : Nat} {n : Int} : eU (.mp (some j)) (.int .i64 n) (.bool true) s = ac (AZ (s.hp[j]?)) fun l => some ⟨s.loc, s.hp.set j (.mp (if n ∈ l then l else l ++ [n]))⟩ := by
 simp only [eU, St.mpAt, AZ];cases s.hp[j]? with
 | none => rfl
 | some b => cases b <;> rfl
theorem FI {e : Nat} : rop D base ρ s (.sad e x i) = ac (jS e (x.ev ρ) (i.ev ρ)) fun v => some (v, s) := by
 show evOp base ρ s (.sad e x i) = _;simp only [evOp];cases x.ev ρ with
 | sl a path off len cap e' =>
  cases i.ev ρ with
  | int k j => simp only [jS]; split <;> rfl
  | _ => rfl
 | _ => rfl
def Bb (t f : Nat) : V → Option V
 | .agg t' l => if t' = t then l[f]? else none
 | _ => none
theorem FZ {t f : Nat} : rop D base ρ s (.fld t f x) = ac (Bb t f (x.ev ρ)) fun v => some (v, s) := by
 show evOp base ρ s (.fld t f x) = _;simp only [evOp];cases x.ev ρ with
 | agg t' l => simp only [Bb]; split <;> (first | rfl | (cases l[f]? <;> rfl))
 | _ => rfl
def zZ (t n : Nat) : V → V → Option V
 | .agg t' l, .int _ j => if t' = t ∧ 0 ≤ j ∧ j < n then l[j.toNat]? else none
 | _, _ => none
theorem FO {t n : Nat} : rop D base ρ s (.idx t n x i) = ac (zZ t n (x.ev ρ) (i.ev ρ)) fun v => some (v, s) := by
 show evOp base ρ s (.idx t n x i) = _;simp only [evOp];cases x.ev ρ with
 | agg t' l =>
  cases i.ev ρ with
  | int k j => simp only [zZ]; split <;> (first | rfl | (cases l[j.toNat]? <;> rfl))
  | _ => rfl
 | _ => rfl
def vG : V → V → Option V
 | .str b, .int _ j => if 0 ≤ j then (b[j.toNat]?).map fun c => .int .u8 c.toNat else none
 | _, _ => none
theorem CF : rop D base ρ s (.sidx x i) = ac (vG (x.ev ρ) (i.ev ρ)) fun v => some (v, s) := by
 show evOp base ρ s (.sidx x i) = _;simp only [evOp];cases x.ev ρ with
 | str b =>
  cases i.ev ρ with
  | int k j =>
   simp only [vG];by_cases hj : 0 ≤ j
   ·simp only [if_pos hj]; cases b[j.toNat]? <;> rfl
   ·simp only [if_neg hj]; rfl
  | _ => rfl
 | _ => rfl
def Bt (n : Nat) : V → Option V
 | .tup l => l[n]?
 | _ => none
theorem IZ {l : List V} {n : Nat} : Bt n (.tup l) = l[n]? := nd rfl
theorem Gj {n : Nat} : rop D base ρ s (.ext x n) = ac (Bt n (x.ev ρ)) fun v => some (v, s) := by
 show evOp base ρ s (.ext x n) = _;simp only [evOp];cases x.ev ρ with
 | tup l => simp only [Bt]; cases l[n]? <;> rfl
 | _ => rfl
theorem CU {n : Nat} : rop D base ρ s (.lenk n) = some (.int .i64 n, s) := nd rfl
theorem Gz {q : Bool} : rop D base ρ s (.len q x) = ac (V.slen q (x.ev ρ)) fun n => some (.int .i64 n, s) := by
 show evOp base ρ s (.len q x) = _;simp only [evOp];cases V.slen q (x.ev ρ) <;> rfl
theorem Ge {e : Nat} : rop D base ρ s (.cpy e x y) = fj base e (x.ev ρ) (y.ev ρ) s := nd rfl
theorem Fb {mx : Bool} : rop D base ρ s (.mnx mx x y) = ac (js mx (x.ev ρ) (y.ev ρ)) fun v => some (v, s) := by
 show evOp base ρ s (.mnx mx x y) = _;simp only [evOp];cases js mx (x.ev ρ) (y.ev ρ) <;> rfl
theorem Gh {h : Bool} {r e : Nat} : rop D base ρ s (.app h r e x y) = aK base h r e (x.ev ρ) (y.ev ρ) s := nd rfl
theorem HB {t : Nat} {l : List V} {ps : List (Nat × Opd)} : rop D base ρ s (.bld (.agg t l) ps) = ac (aP l (ps.map fun p => (p.1, p.2.ev ρ))) fun l' => some (.agg t l', s) := by
 show evOp base ρ s (.bld (.agg t l) ps) = _;simp only [evOp];cases aP l (ps.map fun p => (p.1, p.2.ev ρ)) <;> rfl
def Aw (h : Bool) (r e n : Nat) (z : V) (s : St) (ps : List (Nat × V)) : Option (V × St) :=
 ac (aP (List.replicate n z) ps) fun l' => if (e % 2 = 0 ∨ aQ h (.agg 1 l')) then some (.sl (s.fresh h) [] 0 n (some n) e, s.new h (.agg r l')) else none
theorem zM {h : Bool} {r e n : Nat} {z : V} {ps : List (Nat × Opd)} : rop D base ρ s (.bsl h r e z n ps) = Aw h r e n z s (ps.map fun p => (p.1, p.2.ev ρ)) := by
 show evOp base ρ s (.bsl h r e z n ps) = _;simp only [evOp, Aw];cases aP (List.replicate n z) (ps.map fun p => (p.1, p.2.ev ρ)) <;> rfl
noncomputable def vS (D : Nat → Option Fc) (args : List V) (s : St) : V → Option (V × St)
 | .fn g caps => rf D g (args ++ caps) s
 | _ => none
theorem IN {args : List V} {g : Nat} {caps : List V} : vS D args s (.fn g caps) = rf D g (args ++ caps) s := nd rfl
theorem CW {f : Opd} {args : List Opd} : rop D base ρ s (.call f args) = vS D (args.map (Opd.ev ρ)) s (f.ev ρ) := by
 simp only [rop];cases f.ev ρ <;> rfl
noncomputable def py (D : Nat → Option Fc) (k base g : Nat) (as : List V) (s : St) : Option V :=
 if (V.locLts k as && (decide (base ≤ k) && (decide (k ≤ s.loc.length) && ((s.loc.take k).drop base).all (a8 k)))) = true then
  ac (rf D g as ⟨s.loc.take k, s.hp⟩) fun x => if x.2 = ⟨s.loc.take k, s.hp⟩ ∧ x.1.flat = true then some x.1 else none
 else none
noncomputable def vU (D : Nat → Option Fc) (base : Nat) (args : List V) (s : St) : V → Option V
 | .fn g caps => py D (be base (args ++ caps)) base g (args ++ caps) s
 | _ => none
theorem Hb {args : List V} {g : Nat} {caps : List V} : vU D base args s (.fn g caps) = py D (be base (args ++ caps)) base g (args ++ caps) s := nd rfl
theorem yZ {f : Opd} {args : List Opd} : rop D base ρ s (.pcall f args) = ac (vU D base (args.map (Opd.ev ρ)) s (f.ev ρ)) fun v => some (v, s) := by
 simp only [rop];cases f.ev ρ with
 | fn g caps =>
  show (if pOk base (be base (args.map (Opd.ev ρ) ++ caps)) (args.map (Opd.ev ρ) ++ caps) s = true then
   (rf D g (args.map (Opd.ev ρ) ++ caps) (s.cut (be base (args.map (Opd.ev ρ) ++ caps)))).bind fun x => if x.2 = s.cut (be base (args.map (Opd.ev ρ) ++ caps)) ∧ x.1.flat = true then some (x.1, s) else none
   else none) = ac (py D (be base (args.map (Opd.ev ρ) ++ caps)) base g (args.map (Opd.ev ρ) ++ caps) s) _
  generalize hk : be base (args.map (Opd.ev ρ) ++ caps) = k;unfold py;by_cases hp : pOk base k (args.map (Opd.ev ρ) ++ caps) s = true
  ·rw [if_pos hp, if_pos (show (_ && _) = true from hp)]
   show (rf D g (args.map (Opd.ev ρ) ++ caps) ⟨s.loc.take k, s.hp⟩).bind _ = _;cases rf D g (args.map (Opd.ev ρ) ++ caps) ⟨s.loc.take k, s.hp⟩ with
   | none => rfl
   | some x =>
    show (if x.2 = s.cut k ∧ x.1.flat = true then some (x.1, s) else none) = ac (if x.2 = s.cut k ∧ x.1.flat = true then some x.1 else none) _
    by_cases hx : x.2 = s.cut k ∧ x.1.flat = true
    ·rw [if_pos hx, if_pos hx]; rfl
    ·rw [if_neg hx, if_neg hx]; rfl
  ·rw [if_neg hp, if_neg (show ¬ ((_ && _) = true) from hp)]; rfl
 | _ => rfl
theorem If {k : IntKind} {n : Int} : V.flat (.int k n) = true := nd rfl
theorem Hj {b : Bool} : V.flat (.bool b) = true := nd rfl
theorem J5 : V.flat (.mp none) = true := nd rfl
theorem Kk {b : ByteArray} : V.flat (.str b) = true := nd rfl
theorem ID {t : Nat} {l : List V} : V.flat (.agg t l) = V.flats l := nd rfl
theorem Kf {l : List V} : V.flat (.tup l) = V.flats l := nd rfl
theorem GU : V.flats [] = true := nd rfl
theorem EW {v : V} {l : List V} : V.flats (v :: l) = (v.flat && V.flats l) := nd rfl
theorem AK {l : List V} (h : ∀ v ∈ l, v.flat = true) : V.flats l = true := by
 induction l with
 | nil => rfl
 | cons a l ih => simp only [V.flats, Bool.and_eq_true]; exact ⟨h a (by simp), ih fun v hv => h v (by simp [hv])⟩
theorem BU {l : List Bool} : V.flats (l.map V.bool) = true := AK fun v hv => by obtain ⟨b, _, rfl⟩ := List.mem_map.1 hv; rfl
theorem DM {k : IntKind} {l : List Int} : V.flats (l.map (V.int k)) = true := AK fun v hv => by obtain ⟨b, _, rfl⟩ := List.mem_map.1 hv; rfl
def At (base : Nat) (s : St) (t : Nat) (x p : V) (l : List V) : Option St := if l.all (fun y => dM y p) = true then stv base s t x p else none
theorem GY {t : Nat} {l : List Opd} : rop D base ρ s (.sta t p x l) = ac (At base s t (x.ev ρ) (p.ev ρ) (l.map (Opd.ev ρ))) fun s' => some (.dead, s') := by
 show evOp base ρ s (.sta t p x l) = _;simp only [evOp, At, List.all_map];show (if (l.all fun y => dM (y.ev ρ) (p.ev ρ)) = true then _ else none) = ac (if (l.all fun y => dM (y.ev ρ) (p.ev ρ)) = true then _ else none) _
 split
 ·have := @EC D base ρ s x p t;exact this
 ·rfl
def Ac (s : St) (t : Nat) (p r : V) : Option V := if iG r p = true then ldv s t p else none
theorem HS {t : Nat} {r : Opd} : rop D base ρ s (.lda t p r) = ac (Ac s t (p.ev ρ) (r.ev ρ)) fun v => some (v, s) := by
 show evOp base ρ s (.lda t p r) = _;simp only [evOp, Ac];show (if iG (r.ev ρ) (p.ev ρ) = true then _ else none) = _
 split
 ·exact @Em D base ρ s p t
 ·rfl
theorem GG {a b : Loc} {q r : List Nat} {t u : Nat} : iG (.ptr a q t) (.ptr b r u) = decide (a = b) := nd rfl
noncomputable def rI (D : Nat → Option Fc) (args : List V) (s : St) (w f : V) : Option (V × St) := if pb s w = true then vS D args s f else none
theorem z8 {f w : Opd} {args : List Opd} : rop D base ρ s (.callw f args w) = rI D (args.map (Opd.ev ρ)) s (w.ev ρ) (f.ev ρ) := by
 simp only [rop, rI];split
 ·cases f.ev ρ <;> rfl
 ·rfl
noncomputable def vI (D : Nat → Option Fc) (p : Bool) (k base g : Nat) (as : List V) (s : St) : Option (V × St) :=
 if (V.locLts k as && (decide (base ≤ k) && (decide (k ≤ s.loc.length) && ((s.loc.take k).drop base).all (a8 k)))) = true then
  ac (rf D g as ⟨s.loc.take k, s.hp⟩) fun x => if x.2.loc = s.loc.take k ∧ (p = true → x.2.hp.take s.hp.length = s.hp) then some (x.1, ⟨s.loc, x.2.hp⟩) else none
 else none
noncomputable def vf (D : Nat → Option Fc) (p : Bool) (base : Nat) (args : List V) (s : St) : V → Option (V × St)
 | .fn g caps => vI D p (be base (args ++ caps)) base g (args ++ caps) s
 | _ => none
theorem Hi {p : Bool} {args : List V} {g : Nat} {caps : List V} : vf D p base args s (.fn g caps) = vI D p (be base (args ++ caps)) base g (args ++ caps) s := nd rfl
theorem Ap {p : Bool} {f : Opd} {args : List Opd} : rop D base ρ s (.callk p f args) = vf D p base (args.map (Opd.ev ρ)) s (f.ev ρ) := by
 simp only [rop];cases f.ev ρ with
 | fn g caps => rfl
 | _ => rfl
def AC (s : St) (t : Nat) : V → Option V
 | .ptr (.loc i) q t' => if t' = t then s.read (.loc i) q else none
 | _ => none
theorem Jq {i : Nat} {q : List Nat} {t t' : Nat} : AC s t (.ptr (.loc i) q t') = if t' = t then s.read (.loc i) q else none := nd rfl
theorem Fg {t : Nat} : rop D base ρ s (.ldl t p) = ac (AC s t (p.ev ρ)) fun v => some (v, s) := by
 show evOp base ρ s (.ldl t p) = _;simp only [evOp];cases p.ev ρ with
 | ptr a q t' =>
  cases a with
  | loc i =>
   simp only [AC];split
   ·cases s.read (.loc i) q <;> rfl
   ·rfl
  | hp i => rfl
 | _ => rfl
def vi (base : Nat) (h : Bool) (r e : Nat) (s : St) (x y : V) (l : List V) : Option (V × St) := if l.all (fun z => eN z x) = true then aK base h r e x y s else none
theorem Dh {h : Bool} {r e : Nat} {x y : Opd} {l : List Opd} : rop D base ρ s (.appa h r e x y l) = vi base h r e s (x.ev ρ) (y.ev ρ) (l.map (Opd.ev ρ)) := by
 show evOp base ρ s (.appa h r e x y l) = _;simp only [evOp, vi, List.all_map];rfl
theorem JA {a b : Loc} {q r : List Nat} {t o l e : Nat} {c : Option Nat} : eN (.ptr a q t) (.sl b r o l c e) = decide (a ≠ b) := nd rfl
theorem ED {a : Loc} {q : List Nat} {t : Nat} : eN (.ptr a q t) .nils = true := nd rfl
theorem Jk {a : Loc} {q : List Nat} {t : Nat} : pb s (.ptr a q t) = (s.read a q).isSome := nd rfl
theorem HT {a b : Loc} {q r : List Nat} {t u : Nat} : dM (.ptr a q t) (.ptr b r u) = decide (a ≠ b) := nd rfl
theorem MZ {i : Nat} {p : List Nat} {t : Nat} : V.lim1 (.ptr (.hp i) p t) = 0 := nd rfl
theorem JK {i : Nat} {p : List Nat} {t : Nat} : V.lim1 (.ptr (.loc i) p t) = i + 1 := nd rfl
theorem Ml {i : Nat} {p : List Nat} {o l : Nat} {c : Option Nat} {t : Nat} : V.lim1 (.sl (.loc i) p o l c t) = i + 1 := nd rfl
theorem Jg {k : IntKind} {n : Int} : V.lim1 (.int k n) = 0 := nd rfl
theorem FC {n : Bool} : V.lim1 (.bool n) = 0 := nd rfl
theorem Kt {t : Nat} {l : List V} : V.lim1 (.agg t l) = 0 := nd rfl
theorem Nl {t : Nat} {l : List V} : V.lim1 (.fn t l) = 0 := nd rfl
theorem IU : rT base [] = base := nd rfl
theorem Fy {v : V} {l : List V} : rT base (v :: l) = max v.lim1 (rT base l) := nd rfl
end ops
theorem oQ {α β γ : Type} {x : Option α} {f : α → Option β} {g : β → Option γ} : ac (ac x f) g = ac x fun a => ac (f a) g := by cases x <;> rfl
theorem Cn {α β : Type} {v : V} {f : Bool → Option α} {g : α → Option β} : ac (np v f) g = np v fun t => ac (f t) g := by cases v <;> rfl
theorem GB {α β : Type} {c : Prop} [Decidable c] {x : Option α} {g : α → Option β} : ac (if c then x else none) g = if c then ac x g else none := by split <;> rfl
theorem xY {α β : Type} {x : Option α} {f g : α → Option β} (h : ∀ a, f a = g a) : ac x f = ac x g := by cases x <;> simp only [ac, Option.bind_none, Option.bind_some, h]
noncomputable def r1 (D : Nat → Option Fc) (base : Nat) (ρ : Env) (s : St) {α : Type} (o : Op') (K : V → St → Option α) : Option α :=
 match o with
 | .mv x => K (x.ev ρ) s
 | .pick c a b => np (c.ev ρ) fun t => K (if t then a.ev ρ else b.ev ρ) s
 | .alloc h z => K (.ptr (s.fresh h) [] z.tag) (s.new h z)
 | .box h x => if (x.ev ρ).ok && aQ h (x.ev ρ) then K (.ptr (s.fresh h) [] (x.ev ρ).tag) (s.new h (x.ev ρ)) else none
 | .ld t p => ac (ldv s t (p.ev ρ)) fun v => K v s
 | .st t p x => ac (stv base s t (x.ev ρ) (p.ev ρ)) fun s' => K .dead s'
 | .nilc x => ac (Bk (x.ev ρ)) fun v => K v s
 | .bin o x y => ac (iH o (x.ev ρ) (y.ev ρ)) fun v => K v s
 | .un o x => ac (vun o (x.ev ρ)) fun v => K v s
 | .conv k x => ac (yI k (x.ev ρ)) fun v => K v s
 | .fad t f c x => ac (zC t f c (x.ev ρ)) fun v => K v s
 | .iad t n e x i => ac (Ar t n e (x.ev ρ) (i.ev ρ)) fun v => K v s
 | .sad e x i => ac (jS e (x.ev ρ) (i.ev ρ)) fun v => K v s
 | .fld t f x => ac (Bb t f (x.ev ρ)) fun v => K v s
 | .s2a n e x => ac (Bp n e (x.ev ρ)) fun v => K v s
 | .ldr t n e u x => ac (zs s t n e u (x.ev ρ)) fun v => K v s
 | .mkm => K (.mp (some s.hp.length)) ⟨s.loc, s.hp ++ [.mp []]⟩
 | .mlk x i => ac (ix (x.ev ρ) (i.ev ρ) s) fun v => K v s
 | .mup x i y => ac (eU (x.ev ρ) (i.ev ρ) (y.ev ρ) s) fun s' => K .dead s'
 | .idx t n x i => ac (zZ t n (x.ev ρ) (i.ev ρ)) fun v => K v s
 | .sidx x i => ac (vG (x.ev ρ) (i.ev ρ)) fun v => K v s
 | .ext x n => ac (Bt n (x.ev ρ)) fun v => K v s
 | .lenk n => K (.int .i64 n) s
 | .len q x => ac (V.slen q (x.ev ρ)) fun n => K (.int .i64 n) s
 | .slc e x lo hi mx => ac (dZ e (lo.map (Opd.ev ρ)) (hi.map (Opd.ev ρ)) (mx.map (Opd.ev ρ)) (x.ev ρ)) fun v => K v s
 | .slarr t n e x lo hi mx => ac (rP s t n e (lo.map (Opd.ev ρ)) (hi.map (Opd.ev ρ)) (mx.map (Opd.ev ρ)) (x.ev ρ)) fun v => K v s
 | .eq neg t x y => ac (eqv neg t (x.ev ρ) (y.ev ρ)) fun v => K v s
 | .mkfn f caps => ac (u9 f (caps.map (Opd.ev ρ))) fun v => K v s
 | .slstr x lo hi => ac (rG (lo.map (Opd.ev ρ)) (hi.map (Opd.ev ρ)) (x.ev ρ)) fun v => K v s
 | .mksl h r e z n c => ac (yM h r e z s (n.ev ρ) (c.ev ρ)) fun x => K x.1 x.2
 | .app h r e x y => ac (aK base h r e (x.ev ρ) (y.ev ρ) s) fun x => K x.1 x.2
 | .bsl h r e z n ps => ac (Aw h r e n z s (ps.map fun p => (p.1, p.2.ev ρ))) fun x => K x.1 x.2
 | .cpy e x y => ac (fj base e (x.ev ρ) (y.ev ρ) s) fun x => K x.1 x.2
 | .mnx mx x y => ac (js mx (x.ev ρ) (y.ev ρ)) fun v => K v s
 | .bld z ps => match z with
  | .agg t l => ac (aP l (ps.map fun p => (p.1, p.2.ev ρ))) fun l' => K (.agg t l') s
  | _ => none
 | .call f args => ac (vS D (args.map (Opd.ev ρ)) s (f.ev ρ)) fun x => K x.1 x.2
 | .pcall f args => ac (vU D base (args.map (Opd.ev ρ)) s (f.ev ρ)) fun v => K v s
 | .sta t p x l => ac (At base s t (x.ev ρ) (p.ev ρ) (l.map (Opd.ev ρ))) fun s' => K .dead s'
 | .callw f args w => ac (rI D (args.map (Opd.ev ρ)) s (w.ev ρ) (f.ev ρ)) fun x => K x.1 x.2
 | .lda t p r => ac (Ac s t (p.ev ρ) (r.ev ρ)) fun v => K v s
 | .callk p f args => ac (vf D p base (args.map (Opd.ev ρ)) s (f.ev ρ)) fun x => K x.1 x.2
 | .ldl t p => ac (AC s t (p.ev ρ)) fun v => K v s
 | .appa h r e x y l => ac (vi base h r e s (x.ev ρ) (y.ev ρ) (l.map (Opd.ev ρ))) fun x => K x.1 x.2
theorem GJ {α : Type} {o : Op'} {K : V → St → Option α} : ac (rop D base ρ s o) (fun x => K x.1 x.2) = r1 D base ρ s o K := by
 cases o with
 | bld z ps =>
  cases z with
  | agg t l => simp only [r1, HB, oQ, aN]
  | _ => rfl
 | pcall f args => simp only [r1, yZ, oQ, aN]
 | box h x => simp only [r1, GR, GB, aN]
 | _ => simp only [r1, Ky, CS, zi, Em, EC, Cv, FX, KO, CD, GW, FM, FI, FZ, FO, CF, Gj, CU, Gz, Ht, zk, CW, KE, xR, vg, xQ, Gh, Ge, Fb, zM, GY, z8, HS, Ap, Fg, Dh, Ho, GS, FS, Gk, Hm, oQ, aN, Cn]
noncomputable def rgO (D : Nat → Option Fc) (base : Nat) (ks : List Nat) : List Op → Env → St → Option (Ex × Env × St)
 | [], ρ, s => some (Ex.normal, restrict ks ρ, s)
 | op :: rest, ρ, s => match op.guard with
  | none => r1 D base ρ s op.op fun v s' => rgO D base ks rest (put op.dst v ρ) s'
  | some (t, b) => ij (get ρ t) b (r1 D base ρ s op.op fun v s' => rgO D base ks rest (put op.dst v ((t, .bool b) :: ρ)) s') (rgO D base ks rest (put op.dst (.tup []) ((t, .bool !b) :: ρ)) s) (rgO D base ks rest (put op.dst (.tup []) ((t, .tup []) :: ρ)) s)
theorem ph {ks : List Nat} : ∀ {l : List Op} {ρ : Env} {s : St}, rg D base ks l ρ s = rgO D base ks l ρ s
 | [], ρ, s => by rw [O1]; rfl
 | ⟨d, none, o⟩ :: l, ρ, s => by
  rw [P4];simp only [rgO];rw [← GJ];exact xY fun x => ph
 | ⟨d, some (t, b), o⟩ :: l, ρ, s => by
  rw [P7];simp only [rgO];refine wA (fun _ => ?_) (fun _ => ph) (fun _ => ph);rw [← GJ];exact xY fun x => ph
theorem IF {ks : List Nat} {l : List Op} : rc D base (.reg (some ks) l) ρ s = rgO D base ks l ρ s := NZ.trans ph
theorem HU {ks : List Nat} {l : List Op} : rc D base (.regd (some ks) l) ρ s = rgO D base ks l ρ s := Lp.trans ph
theorem ET {y d : Nat} : ai y none d = some d := nd rfl
theorem HK {y d : Nat} {k : IntKind} {i : Int} : ai y (some (.int k i)) d = if 0 ≤ i ∧ i ≤ y then some i.toNat else none := nd rfl
theorem Dg : s.fresh true = .hp s.hp.length := nd rfl
theorem LW : s.fresh false = .loc s.loc.length := nd rfl
theorem Kx {v : V} : s.new true v = ⟨s.loc, s.hp ++ [.rw v]⟩ := nd rfl
theorem PC {v : V} : s.new false v = ⟨s.loc ++ [.rw v], s.hp⟩ := nd rfl
theorem HX {v : V} : aQ false v = true := nd rfl
theorem ul {v : V} : aQ true v = v.locLt 0 := nd rfl
def Blk.rd (p : List Nat) : Option Blk → Option V
 | some (.rw v) => V.at p v
 | some (.ro v) => V.at p v
 | _ => none
theorem ES {p : List Nat} {v : V} : Blk.rd p (some (.rw v)) = V.at p v := nd rfl
theorem KD {p : List Nat} {v : V} : Blk.rd p (some (.ro v)) = V.at p v := nd rfl
theorem zj {i : Nat} {p : List Nat} : s.read (.loc i) p = Blk.rd p s.loc[i]? := nd rfl
theorem lN {i : Nat} {p : List Nat} : s.read (.hp i) p = Blk.rd p s.hp[i]? := nd rfl
def Blk.wr (p : List Nat) (x : V) : Option Blk → Option Blk
 | some (.rw v) => (V.setAt p x v).map .rw
 | _ => none
theorem PS {p : List Nat} {x v : V} : Blk.wr p x (some (.rw v)) = (V.setAt p x v).map .rw := nd rfl
theorem Ha {i : Nat} {p : List Nat} {x : V} : s.write base (.loc i) p x = if x.locLt 0 || decide (base ≤ i) then (Blk.wr p x s.loc[i]?).map fun b => ⟨s.loc.set i b, s.hp⟩ else none := by
 simp only [St.write, St.at];cases s.loc[i]? with
 | none => simp [Blk.wr]
 | some b =>
  cases b with
  |rw v =>
   simp only [Blk.wr];rw [show (x.locLt 0 || decide (base ≤ i)) = cY base (.loc i) x from rfl]
   by_cases hc : cY base (.loc i) x = true
   ·rw [if_pos hc, if_pos hc]; cases V.setAt p x v <;> rfl
   ·rw [if_neg hc, if_neg hc]
  | _ => simp [Blk.wr]
theorem Jv {i : Nat} {p : List Nat} {x : V} : s.write base (.hp i) p x = if x.locLt 0 then (Blk.wr p x s.hp[i]?).map fun b => ⟨s.loc, s.hp.set i b⟩ else none := by
 simp only [St.write, St.at];cases s.hp[i]? with
 | none => simp [Blk.wr]
 | some b =>
  cases b with
  |rw v =>
   simp only [Blk.wr];rw [show x.locLt 0 = cY base (.hp i) x from rfl]
   by_cases hc : cY base (.hp i) x = true
   ·rw [if_pos hc, if_pos hc]; cases V.setAt p x v <;> rfl
   ·rw [if_neg hc, if_neg hc]
  | _ => simp [Blk.wr]
theorem wc {v : V} : V.at [] v = some v := nd rfl
theorem Cp {i : Nat} {p : List Nat} {t : Nat} {l : List V} : V.at (i :: p) (.agg t l) = ac l[i]? (V.at p) := by
 simp only [V.at]; cases l[i]? <;> rfl
theorem Fj {x v : V} : V.setAt [] x v = some x := nd rfl
theorem Ea {i : Nat} {p : List Nat} {t : Nat} {l : List V} {x : V} : V.setAt (i :: p) x (.agg t l) = ac l[i]? fun y => ac (V.setAt p x y) fun y' => some (.agg t (l.set i y')) := by
 simp only [V.setAt];cases l[i]? with
 | none => rfl
 | some y => simp only [aN]; cases V.setAt p x y <;> rfl
theorem Do {α : Type} {l m : List α} {i : Nat} : (l ++ m)[l.length + i]? = m[i]? := by rw [List.getElem?_append_right (Nat.le_add_right _ _), Nat.add_sub_cancel_left]
theorem IH {α : Type} {l m : List α} : (l ++ m)[l.length]? = m[0]? := Do (i := 0)
theorem CO {α : Type} {l m : List α} {i : Nat} {x : α} : (l ++ m).set (l.length + i) x = l ++ m.set i x := by rw [List.set_append_right _ _ (Nat.le_add_right _ _), Nat.add_sub_cancel_left]
theorem pL {α : Type} {l m : List α} {x : α} : (l ++ m).set l.length x = l ++ m.set 0 x := CO (i := 0)
theorem JD {α : Type} {l m : List α} {i : Nat} : (l ++ m).take (l.length + i) = l ++ m.take i := by rw [List.take_append, List.take_of_length_le (Nat.le_add_right _ _), Nat.add_sub_cancel_left]
theorem Fx {α : Type} {l m : List α} : (l ++ m).take l.length = l := by rw [List.take_append]; simp
theorem IL {α : Type} {l m : List α} : (l ++ m).drop l.length = m := List.drop_left
theorem DG {b : Nat} : V.locLts b [] = true := by simp only [V.locLts]
theorem BP {b : Nat} {v : V} {l : List V} : V.locLts b (v :: l) = (v.locLt b && V.locLts b l) := by simp only [V.locLts]
section
variable {b : Nat}
theorem Mg {x : Bool} : V.locLt b (.bool x) = true := by simp only [V.locLt]
theorem NT {k : IntKind} {x : Int} : V.locLt b (.int k x) = true := by simp only [V.locLt]
theorem NN {x : ByteArray} : V.locLt b (.str x) = true := by simp only [V.locLt]
theorem Mw : V.locLt b .nilp = true := by simp only [V.locLt]
theorem No : V.locLt b .nils = true := by simp only [V.locLt]
theorem Pr {o : Option Nat} : V.locLt b (.mp o) = true := by simp only [V.locLt]
theorem Nd : V.locLt b .nilf = true := by simp only [V.locLt]
theorem Lw : V.locLt b .dead = true := by simp only [V.locLt]
theorem PQ {i : Nat} {p : List Nat} {t : Nat} : V.locLt b (.ptr (.hp i) p t) = true := by simp only [V.locLt]
theorem LI {i : Nat} {p : List Nat} {o l e : Nat} {c : Option Nat} : V.locLt b (.sl (.hp i) p o l c e) = true := by simp only [V.locLt]
theorem NR {i : Nat} {p : List Nat} {t : Nat} : V.locLt b (.ptr (.loc i) p t) = decide (i < b) := by simp only [V.locLt]
theorem II {i : Nat} {p : List Nat} {o l e : Nat} {c : Option Nat} : V.locLt b (.sl (.loc i) p o l c e) = decide (i < b) := by simp only [V.locLt]
theorem Pw {f : Nat} {l : List V} : V.locLt b (.fn f l) = V.locLts b l := by simp only [V.locLt]
theorem OZ {l : List V} : V.locLt b (.tup l) = V.locLts b l := by simp only [V.locLt]
theorem vj {t : Nat} {l : List V} : V.locLt b (.agg t l) = (t % 2 == 0 || V.locLts b l) := by simp only [V.locLt]
end
theorem Iy {b : Nat} {v : V} : a8 b (.rw v) = v.locLt b := nd rfl
theorem JR {b : Nat} {l : List Int} : a8 b (.mp l) = true := nd rfl
theorem Jt {b : Nat} {v : V} : a8 b (.ro v) = v.locLt b := nd rfl
theorem DC {b : Nat} : a8 b .dead = true := nd rfl
theorem Cm {n : Nat} {res : List RV} : kF n res (.ret, ρ, s) = ac (bP ρ s res) fun v => if v.locLt n ∧ n ≤ s.loc.length then some (v, { s with loc := s.loc.take n }) else none := by
 rw [Fq]; cases bP ρ s res <;> rfl
theorem xe {n : Nat} {res : List RV} : kF n res (.normal, ρ, s) = ac (bP ρ s res) fun v => if v.locLt n ∧ n ≤ s.loc.length then some (v, { s with loc := s.loc.take n }) else none := by
 rw [Av]; cases bP ρ s res <;> rfl
theorem Qn {n : Nat} : RV.ev ρ s (.t n) = some (get ρ n) := nd rfl
theorem LY {n q : Nat} : RV.ev ρ s (.cell n q) = ldv s q (get ρ n) := by
 simp only [RV.ev];cases get ρ n <;> rfl
theorem E1 : bP ρ s [] = some (.tup []) := nd rfl
theorem GM {r : RV} : bP ρ s [r] = RV.ev ρ s r := by
 simp only [bP, List.mapM_cons, List.mapM_nil];cases RV.ev ρ s r <;> rfl
theorem FD {r q : RV} : bP ρ s [r, q] = ac (RV.ev ρ s r) fun a => ac (RV.ev ρ s q) fun b => if a.ok && b.ok then some (.tup [a, b]) else none := by
 simp only [bP, List.mapM_cons, List.mapM_nil];cases RV.ev ρ s r with
 | none => rfl
 | some a =>
  cases RV.ev ρ s q with
  | none => rfl
  | some b => simp [List.all, aN]
theorem BX {r q p : RV} : bP ρ s [r, q, p] = ac (RV.ev ρ s r) fun a => ac (RV.ev ρ s q) fun b => ac (RV.ev ρ s p) fun c => if a.ok && b.ok && c.ok then some (.tup [a, b, c]) else none := by
 simp only [bP, List.mapM_cons, List.mapM_nil];cases RV.ev ρ s r with
 | none => rfl
 | some a =>
  cases RV.ev ρ s q with
  | none => rfl
  | some b =>
   cases RV.ev ρ s p with
   | none => rfl
   | some c => simp [List.all, Bool.and_assoc, aN]
section
variable {c : Prop} [Decidable c]
theorem EM {ρ' : Env} {s' : St} : (if c then some (Ex.normal, ρ, s) else some (Ex.normal, ρ', s')) = some (Ex.normal, if c then ρ else ρ', if c then s else s') := by split <;> rfl
theorem Iw {id : Nat} {ρ' : Env} {s' : St} : (if c then some (Ex.exit id, ρ, s) else some (Ex.exit id, ρ', s')) = some (Ex.exit id, if c then ρ else ρ', if c then s else s') := by split <;> rfl
theorem MK {ρ' : Env} {s' : St} : (if c then some (Ex.ret, ρ, s) else some (Ex.ret, ρ', s')) = some (Ex.ret, if c then ρ else ρ', if c then s else s') := by split <;> rfl
theorem M8 {k : Nat} {v v' : V} {ρ' : Env} : (if c then (k, v) :: ρ else (k, v') :: ρ') = (k, if c then v else v') :: (if c then ρ else ρ') := by split <;> rfl
theorem Nz {v v' : V} {s' : St} : (if c then some (v, s) else some (v', s')) = some (if c then v else v', if c then s else s') := by split <;> rfl
theorem Fd {a b : Bool} : (if c then V.bool a else V.bool b) = V.bool (if c then a else b) := by split <;> rfl
theorem Ih {k : IntKind} {a b : Int} : (if c then V.int k a else V.int k b) = V.int k (if c then a else b) := by split <;> rfl
theorem IC {t : Nat} {l l' : List V} : (if c then V.agg t l else V.agg t l') = V.agg t (if c then l else l') := by split <;> rfl
theorem JH {l l' : List V} : (if c then V.tup l else V.tup l') = V.tup (if c then l else l') := by split <;> rfl
theorem GQ {v v' : V} {l l' : List V} : (if c then v :: l else v' :: l') = (if c then v else v') :: (if c then l else l') := by split <;> rfl
theorem Hp {v v' : Blk} {l l' : List Blk} : (if c then v :: l else v' :: l') = (if c then v else v') :: (if c then l else l') := by split <;> rfl
theorem Li {v v' : V} : (if c then Blk.rw v else Blk.rw v') = Blk.rw (if c then v else v') := by split <;> rfl
theorem OB {l l' h h' : List Blk} : (if c then St.mk l h else St.mk l' h') = St.mk (if c then l else l') (if c then h else h') := by split <;> rfl
theorem Na {l m m' : List Blk} : (if c then l ++ m else l ++ m') = l ++ (if c then m else m') := by split <;> rfl
theorem Gv {b : C} {y : Option (Ex × Env × St)} : ac (if c then some (.ret, ρ, s) else y) (andThen D base b) = if c then some (.ret, ρ, s) else ac y (andThen D base b) := by split <;> rfl
theorem D0 {b : C} {y : Option (Ex × Env × St)} : ac (if c then y else some (.ret, ρ, s)) (andThen D base b) = if c then ac y (andThen D base b) else some (.ret, ρ, s) := by split <;> rfl
theorem Eg {b : C} {y : Option (Ex × Env × St)} {id : Nat} : ac (if c then some (.exit id, ρ, s) else y) (andThen D base b) = if c then some (.exit id, ρ, s) else ac y (andThen D base b) := by split <;> rfl
theorem Cf {b : C} {y : Option (Ex × Env × St)} {id : Nat} : ac (if c then y else some (.exit id, ρ, s)) (andThen D base b) = if c then ac y (andThen D base b) else some (.exit id, ρ, s) := by split <;> rfl
theorem BF {n : Nat} {res : List RV} {x y : Option (Ex × Env × St)} : ac (if c then x else y) (kF n res) = if c then ac x (kF n res) else ac y (kF n res) := sC
theorem BO {id : Nat} {x y : Option (Ex × Env × St)} : ac (if c then x else y) (nW id) = if c then ac x (nW id) else ac y (nW id) := sC
theorem BY {n : Nat} {keep : List Nat} {b : C} {x y : Option (Ex × Env × St)} : ac (if c then x else y) (hZ D base n keep b) = if c then ac x (hZ D base n keep b) else ac y (hZ D base n keep b) := sC
end
theorem OF : St.mk s.loc s.hp = s := nd rfl
theorem Dv : s.elems .nils = some [] := nd rfl
def CZ (off len : Nat) : Option V → Option (List V)
 | some (.agg _ l) => if off + len ≤ l.length then some ((l.drop off).take len) else none
 | _ => none
theorem Ci {off len t : Nat} {l : List V} : CZ off len (some (.agg t l)) = if off + len ≤ l.length then some ((l.drop off).take len) else none := nd rfl
theorem JY {a : Loc} {path : List Nat} {off len : Nat} {cap : Option Nat} {e : Nat} : s.elems (.sl a path off len cap e) = if len = 0 then some [] else CZ off len (s.read a path) := by
 simp only [St.elems];cases s.read a path with
 | none => rfl
 | some v => cases v <;> rfl
section
variable {a : Loc} {p : List Nat} {off len e e' t t' n f u : Nat} {cap : Option Nat} {k k' : IntKind} {j m : Int} {b : Bool} {sb sc : ByteArray} {l : List V} {lo hi mx : Option V} {o : BinOp}
theorem Ga : V.slen false .nils = some 0 := nd rfl
theorem LR : V.slen false (.sl a p off len cap e) = some len := nd rfl
theorem JM : V.slen true (.str sb) = some sb.size := nd rfl
theorem Mm : jS e (.sl a p off len cap e') (.int k j) = if e' = e ∧ 0 ≤ j ∧ j < len then some (.ptr a (p ++ [off + j.toNat]) e) else none := nd rfl
theorem Jp : Ar t n e (.ptr a p t') (.int k j) = if t' = t ∧ 0 ≤ j ∧ j < n then some (.ptr a (p ++ [j.toNat]) e) else none := nd rfl
theorem HY : zC t f u (.ptr a p t') = if t' = t then some (.ptr a (p ++ [f]) u) else none := nd rfl
theorem IJ : Bb t f (.agg t' l) = if t' = t then l[f]? else none := nd rfl
theorem J2 : zZ t n (.agg t' l) (.int k j) = if t' = t ∧ 0 ≤ j ∧ j < n then l[j.toNat]? else none := nd rfl
theorem Hy : vG (.str sb) (.int k j) = if 0 ≤ j then (sb[j.toNat]?).map fun c => .int .u8 c.toNat else none := nd rfl
theorem LK : dZ e lo hi mx (.sl a p off len cap e') = if e' = e then
 ac (ai (cap.getD len) mx (cap.getD len)) fun m => ac (ai (fT mx.isSome m len) hi len) fun h => ac (ai h lo 0) fun l =>
  some (.sl a p (off + l) (h - l) (kx mx.isSome cap (m - l)) e) else none := nd rfl
theorem Hu : dZ e lo hi mx .nils = ac (ai 0 mx 0) fun _ => ac (ai 0 hi 0) fun _ => ac (ai 0 lo 0) fun _ => some .nils := nd rfl
theorem Ei : rG lo hi (.str sb) = ac (ai sb.size hi sb.size) fun h => ac (ai h lo 0) fun l => some (.str (sb.extract l h)) := nd rfl
theorem KZ {n e e' off len : Nat} {a : Loc} {path : List Nat} {c : Option Nat} : Bp n e (.sl a path off len c e') = if e' = e ∧ 0 < n ∧ n ≤ len then some (.ptr a (path ++ [off]) e) else none := nd rfl
theorem JO {n u e e' : Nat} {a : Loc} {q : List Nat} : zs s t n e u (.ptr a q e') = if e' = e then (s.part n u a q).map (.agg t) else none := nd rfl
theorem D4 : rP s t n e lo hi mx (.ptr a p t') = if t' = t ∧ (s.read a p).isSome = true then ac (ai n mx n) fun m => ac (ai m hi n) fun h => ac (ai h lo 0) fun l => some (.sl a p l (h - l) (some (m - l)) e) else none := nd rfl
theorem Jc : iH o (.int k j) (.int k' m) = if BinOp.isShift o then shf o k j m else if k = k' then wK o k j m else none := nd rfl
theorem JZ : iH o (.str sb) (.str sc) = xm o sb sc := nd rfl
theorem MG : vun .not (.bool b) = some (.bool !b) := nd rfl
theorem LT : vun .neg (.int k j) = some (.int k (k.wrap (0 - j))) := nd rfl
theorem Me : vun .xor (.int k j) = some (.int k (eX k (if k.signed then -1 else k.max) j)) := nd rfl
theorem HZ : js b (.int k j) (.int k' m) = if k = k' then some (.int k (if b then max j m else min j m)) else none := nd rfl
theorem FA {h : Bool} {r : Nat} {z : V} : yM h r e z s (.int k j) (.int k' m) = if 0 ≤ j ∧ j ≤ m ∧ m ≤ eI then
 some (.sl (s.fresh h) [] 0 j.toNat (some m.toNat) e, s.new h (.agg r (List.replicate j.toNat z))) else none := nd rfl
theorem I9 : V.tag (.bool b) = 0 := nd rfl
theorem MF : V.tag (.int k j) = fM k := nd rfl
theorem Ms : V.tag (.str sb) = 2 := nd rfl
theorem MY : V.tag (.agg t l) = t := nd rfl
theorem Lv : V.tag (.ptr a p t) = 1 := nd rfl
theorem Jx : V.tag .nilp = 1 := nd rfl
theorem Ol : V.tag (.sl a p off len cap e) = 1 := nd rfl
theorem Ji : V.tag .nils = 1 := nd rfl
theorem Ot : V.tag (.fn f l) = 1 := nd rfl
theorem J6 : V.tag .nilf = 1 := nd rfl
theorem OA {o : Option Nat} : V.tag (.mp o) = 1 := nd rfl
theorem Pv {o : Option Nat} : V.ok (.mp o) = true := nd rfl
theorem Lf {m : List Int} : AZ (some (.mp m)) = some m := nd rfl
theorem MD : V.ok (.bool b) = true := nd rfl
theorem N2 : V.ok (.int k j) = true := nd rfl
theorem Pd : V.ok (.str sb) = true := nd rfl
theorem Oa : V.ok (.agg t l) = true := nd rfl
theorem Om : V.ok (.ptr a p t) = true := nd rfl
theorem MM : V.ok .nilp = true := nd rfl
theorem P0 : V.ok (.sl a p off len cap e) = true := nd rfl
theorem MP : V.ok .nils = true := nd rfl
theorem Py : V.ok (.fn f l) = true := nd rfl
theorem KY : V.ok .nilf = true := nd rfl
end
theorem Lk : cd 1 .nilp .nilp = some true := nd rfl
theorem Ll {a : Loc} {p : List Nat} {t : Nat} : cd 1 .nilp (.ptr a p t) = some false := nd rfl
theorem LO {a : Loc} {p : List Nat} {t : Nat} : cd 1 (.ptr a p t) .nilp = some false := nd rfl
theorem J9 : cd 3 .nils .nils = some true := nd rfl
theorem Jf {a : Loc} {p : List Nat} {o l e : Nat} {c : Option Nat} : cd 3 .nils (.sl a p o l c e) = some false := nd rfl
theorem Js {a : Loc} {p : List Nat} {o l e : Nat} {c : Option Nat} : cd 3 (.sl a p o l c e) .nils = some false := nd rfl
theorem HW : cd 5 .nilf .nilf = some true := nd rfl
theorem J1 {f : Nat} {l : List V} : cd 5 .nilf (.fn f l) = some false := nd rfl
theorem I8 {f : Nat} {l : List V} : cd 5 (.fn f l) .nilf = some false := nd rfl
theorem J8 {t : Nat} {x y : V} (h1 : t ≠ 1) (h3 : t ≠ 3) (h5 : t ≠ 5) : cd t x y = if x.tag = t ∧ y.tag = t then veq x y else none := by
 unfold cd;split
 ·exact absurd rfl h1
 ·exact absurd rfl h3
 ·exact absurd rfl h5
 ·rfl
theorem Kj {a b : Bool} : veq (.bool a) (.bool b) = some (a == b) := by simp only [veq]
theorem K1 {k k' : IntKind} {a b : Int} : veq (.int k a) (.int k' b) = if k = k' then some (decide (a = b)) else none := by simp only [veq]
theorem Mh {a b : ByteArray} : veq (.str a) (.str b) = some (a.toList == b.toList) := by simp only [veq]
theorem Lz {t t' : Nat} {l l' : List V} : veq (.agg t l) (.agg t' l') = if t = t' then bB l l' else none := by simp only [veq]
theorem Jj : bB [] [] = some true := by simp only [bB]
theorem HL {v v' : V} {l l' : List V} : bB (v :: l) (v' :: l') = ac (veq v v') fun b => if b = true then bB l l' else some false := by
 simp only [bB];cases veq v v' with
 | none => rfl
 | some b => cases b <;> rfl
attribute [go_sem] Lh Kg Nx Lt Ig xc B8 Ae Ff Er yC Ez Cc IS A0 HP EX
 B6 DS Ks Ka IQ Bm yr BS By Qm P9 Ir FR
 Ky CS zi GR Em EC Cv FX KE KO CD xR xQ Ht vg zk GW FM FI FZ FO CF Gj CU Gz Gh Ge Fb HB zM CW yZ GY z8 HS Ap Fg Dh Ho GS FS Gk Hm Oo Ow Lf OA Pv Pr JR KZ JO vi JA ED Hi vI Jq Ac GG If Hj Kk J5 ID Kf GU EW BU DM and_true At rI Jk HT ne_eq Loc.loc.injEq Loc.hp.injEq
 HZ eqv u9 FA Aw Ei M0 Mp Ke Lj Hv LK Hu D4 HY Jp Mm IJ J2 Hy IZ IN Hb py be IU Fy MZ JK Ml Jg FC Kt Nl Nat.le_refl Nat.le_add_right List.drop_length ET HK Ga LR JM
 I9 MF Ms MY Lv Jx Ol Ji Ot J6 MD N2 Pd Oa Om MM P0 MP Py KY
 Dg LW Kx PC HX ul ES KD zj lN PS Ha Jv wc Cp Fj Ea
 Do IH CO pL JD Fx IL
 DG BP Mg NT NN Mw No Nd Lw PQ LI NR II Pw OZ vj Iy Jt DC
 Qn LY E1 GM FD BX Cm xe Dv Ci JY
 OF EM Iw MK M8 Nz Fd Ih IC JH GQ Hp Li OB Na Gv D0 Eg Cf BF BO BY ite_self Bool.if_true_left Bool.if_true_right Bool.if_false_left Bool.if_false_right
 fT kx Option.isSome_none Option.isSome_some
 fM Jc JZ wK shf xm BinOp.isShift MG LT Me Lk Ll LO J9 Jf Js HW J1 I8 J8 Kj K1 Mh Lz Jj HL aP eZ
 aN E2 Ed Option.bind_some Option.bind_none Option.map_some Option.map_none Option.getD_some Option.getD_none
 List.map_cons List.map_nil List.cons_append List.nil_append List.append_assoc List.append_nil List.length_append List.length_cons List.length_nil List.getElem?_cons_zero List.getElem?_cons_succ List.getElem?_nil List.set_cons_zero List.set_cons_succ List.take_succ_cons List.take_zero List.take_length List.drop_zero List.drop_succ_cons
 List.all_cons List.all_nil Nat.zero_add Nat.add_zero if_true if_false ite_true ite_false Bool.true_and Bool.and_true Bool.false_or Bool.or_false Bool.true_or Bool.or_true Bool.false_and Bool.and_false Bool.not_true Bool.not_false
 eq_self true_and and_true false_and and_false true_or or_true false_or or_false Bool.false_eq_true not_true_eq_false not_false_eq_true decide_true decide_false decide_eq_true_eq decide_eq_false_iff_not Bool.not_eq_true Bool.not_eq_false Nat.reduceEqDiff Nat.reduceAdd Nat.reduceMod reduceIte Nat.le_refl Nat.le_add_right and_self or_self beq_self_eq_true reduceCtorEq
 Int.cast_ofNat_Int Int.reduceEq Int.reduceLT Int.reduceLE Int.reduceNeg Int.reduceToNat Int.reduceAdd Int.reduceSub Int.reduceMul Nat.reduceSub Nat.reduceMul Nat.reduceLT Nat.reduceLeDiff
instance (n : Nat) : OfNat Opd n := ⟨.t n⟩
abbrev zf (n : Nat) : Opd := .k (.fn n [])
abbrev OR := Option (Ex × Env × St)
def oif {α : Type} (c : Bool) (x : Option α) : Option α := if c then x else none
noncomputable abbrev peG : List (Nat × V) → Env → Nat → V
 | [], ρ, t => get ρ t
 | (k, v) :: l, ρ, t => match Nat.beq k t with | true => v | false => peG l ρ t
noncomputable abbrev peE (l : List (Nat × V)) (ρ : Env) : Opd → V
 | .t n => peG l ρ n
 | .k v => v
noncomputable abbrev peL (l : List (Nat × V)) (ρ : Env) : List Opd → List V
 | [] => []
 | x :: r => peE l ρ x :: peL l ρ r
noncomputable abbrev peO (l : List (Nat × V)) (ρ : Env) : Option Opd → Option V
 | none => none
 | some x => some (peE l ρ x)
noncomputable abbrev peP (l : List (Nat × V)) (ρ : Env) : List (Nat × Opd) → List (Nat × V)
 | [] => []
 | (n, x) :: r => (n, peE l ρ x) :: peP l ρ r
noncomputable abbrev peR (l : List (Nat × V)) (ρ : Env) : List Nat → Env
 | [] => []
 | k :: r => (k, peG l ρ k) :: peR l ρ r
noncomputable abbrev peK : List (Nat × Option (Option Bool)) → Nat → Option (Option Bool)
 | [], _ => none
 | (k, v) :: l, t => match Nat.beq k t with | true => v | false => peK l t
noncomputable abbrev zo (g : List (Nat × Option (Option Bool))) : Opd → Option (Option Bool)
 | .t n => peK g n
 | .k (.bool x) => some (some x)
 | .k _ => none
noncomputable abbrev peB : Bool → Bool → Bool
 | true, true => true
 | false, false => true
 | _, _ => false
noncomputable abbrev peN : Bool → Bool
 | true => false
 | false => true
noncomputable abbrev qd (d : Option Nat) (v : V) (l : List (Nat × V)) : List (Nat × V) := match d with
 | some k => (k, v) :: l
 | none => l
noncomputable abbrev qA (d : Option Nat) (v : Option (Option Bool)) (l : List (Nat × Option (Option Bool))) : List (Nat × Option (Option Bool)) := match d with
 | some k => (k, v) :: l
 | none => l
noncomputable abbrev peW (g : List (Nat × Option (Option Bool))) : Op' → Option (Option Bool)
 | .mv x => zo g x
 | .pick c a b => match zo g c with
  | some (some true) => zo g a
  | some (some false) => zo g b
  | _ => none
 | _ => none
noncomputable abbrev pe1 (D : Nat → Option Fc) (base : Nat) (g : List (Nat × Option (Option Bool))) (l : List (Nat × V)) (ρ : Env) (s : St) (o : Op') (K : V → St → OR) : OR :=
 match o with
 | .mv x => K (peE l ρ x) s
 | .pick c a b => match zo g c with
  | some (some true) => K (peE l ρ a) s
  | some (some false) => K (peE l ρ b) s
  | some none => none
  | none => np (peE l ρ c) fun t => K (if t = true then peE l ρ a else peE l ρ b) s
 | .alloc h z => K (.ptr (s.fresh h) [] z.tag) (s.new h z)
 | .box h x => oif (V.ok (peE l ρ x) && aQ h (peE l ρ x)) (K (.ptr (s.fresh h) [] (V.tag (peE l ρ x))) (s.new h (peE l ρ x)))
 | .ld t p => ac (ldv s t (peE l ρ p)) fun v => K v s
 | .st t p x => ac (stv base s t (peE l ρ x) (peE l ρ p)) fun s' => K .dead s'
 | .nilc x => ac (Bk (peE l ρ x)) fun v => K v s
 | .bin o x y => ac (iH o (peE l ρ x) (peE l ρ y)) fun v => K v s
 | .un o x => ac (vun o (peE l ρ x)) fun v => K v s
 | .conv k x => ac (yI k (peE l ρ x)) fun v => K v s
 | .fad t f c x => ac (zC t f c (peE l ρ x)) fun v => K v s
 | .iad t n e x i => ac (Ar t n e (peE l ρ x) (peE l ρ i)) fun v => K v s
 | .sad e x i => ac (jS e (peE l ρ x) (peE l ρ i)) fun v => K v s
 | .fld t f x => ac (Bb t f (peE l ρ x)) fun v => K v s
 | .s2a n e x => ac (Bp n e (peE l ρ x)) fun v => K v s
 | .ldr t n e u x => ac (zs s t n e u (peE l ρ x)) fun v => K v s
 | .idx t n x i => ac (zZ t n (peE l ρ x) (peE l ρ i)) fun v => K v s
 | .sidx x i => ac (vG (peE l ρ x) (peE l ρ i)) fun v => K v s
 | .ext x n => ac (Bt n (peE l ρ x)) fun v => K v s
 | .lenk n => K (.int .i64 n) s
 | .len q x => ac (V.slen q (peE l ρ x)) fun n => K (.int .i64 n) s
 | .slc e x lo hi mx => ac (dZ e (peO l ρ lo) (peO l ρ hi) (peO l ρ mx) (peE l ρ x)) fun v => K v s
 | .slarr t n e x lo hi mx => ac (rP s t n e (peO l ρ lo) (peO l ρ hi) (peO l ρ mx) (peE l ρ x)) fun v => K v s
 | .eq neg t x y => ac (eqv neg t (peE l ρ x) (peE l ρ y)) fun v => K v s
 | .mkfn f caps => ac (u9 f (peL l ρ caps)) fun v => K v s
 | .slstr x lo hi => ac (rG (peO l ρ lo) (peO l ρ hi) (peE l ρ x)) fun v => K v s
 | .mksl h r e z n c => ac (yM h r e z s (peE l ρ n) (peE l ρ c)) fun x => K x.1 x.2
 | .app h r e x y => ac (aK base h r e (peE l ρ x) (peE l ρ y) s) fun x => K x.1 x.2
 | .bsl h r e z n ps => ac (Aw h r e n z s (peP l ρ ps)) fun x => K x.1 x.2
 | .cpy e x y => ac (fj base e (peE l ρ x) (peE l ρ y) s) fun x => K x.1 x.2
 | .mnx mx x y => ac (js mx (peE l ρ x) (peE l ρ y)) fun v => K v s
 | .bld (.agg t l3) ps => ac (aP l3 (peP l ρ ps)) fun l' => K (.agg t l') s
 | .call (.k (.fn f [])) args => ac (rf D f (peL l ρ args) s) fun x => K x.1 x.2
 | .call f args => ac (vS D (peL l ρ args) s (peE l ρ f)) fun x => K x.1 x.2
 | .pcall (.k (.fn f [])) args => ac (py D (be base (peL l ρ args)) base f (peL l ρ args) s) fun v => K v s
 | .pcall f args => ac (vU D base (peL l ρ args) s (peE l ρ f)) fun v => K v s
 | .sta t p x l2 => ac (At base s t (peE l ρ x) (peE l ρ p) (peL l ρ l2)) fun s' => K .dead s'
 | .callw f args w => ac (rI D (peL l ρ args) s (peE l ρ w) (peE l ρ f)) fun x => K x.1 x.2
 | .lda t p r => ac (Ac s t (peE l ρ p) (peE l ρ r)) fun v => K v s
 | .callk p (.k (.fn f [])) args => ac (vI D p (be base (peL l ρ args)) base f (peL l ρ args) s) fun x => K x.1 x.2
 | .callk p f args => ac (vf D p base (peL l ρ args) s (peE l ρ f)) fun x => K x.1 x.2
 | .ldl t p => ac (AC s t (peE l ρ p)) fun v => K v s
 | .mkm => K (.mp (some s.hp.length)) ⟨s.loc, s.hp ++ [.mp []]⟩
 | .mlk x i => ac (ix (peE l ρ x) (peE l ρ i) s) fun v => K v s
 | .mup x i y => ac (eU (peE l ρ x) (peE l ρ i) (peE l ρ y) s) fun s' => K .dead s'
 | .appa h r e x y l2 => ac (vi base h r e s (peE l ρ x) (peE l ρ y) (peL l ρ l2)) fun x => K x.1 x.2
 | _ => none
noncomputable abbrev pe (D : Nat → Option Fc) (base : Nat) (ks : List Nat) : List Op → List (Nat × Option (Option Bool)) → List (Nat × V) → Env → St → OR
 | [], _, l, ρ, s => some (.normal, peR l ρ ks, s)
 | ⟨d, none, o⟩ :: r, g, l, ρ, s => pe1 D base g l ρ s o fun v s' => pe D base ks r (qA d (peW g o) g) (qd d v l) ρ s'
 | ⟨d, some (t, x), o⟩ :: r, g, l, ρ, s => match peK g t with
  | none => ij (peG l ρ t) x
   (pe1 D base ((t, some (some x)) :: g) ((t, .bool x) :: l) ρ s o fun v s' => pe D base ks r (qA d (peW ((t, some (some x)) :: g) o) ((t, some (some x)) :: g)) (qd d v ((t, .bool x) :: l)) ρ s')
   (pe D base ks r (qA d (some none) ((t, some (some (peN x))) :: g)) (qd d (.tup []) ((t, .bool (peN x)) :: l)) ρ s)
   (pe D base ks r (qA d (some none) ((t, some none) :: g)) (qd d (.tup []) ((t, .tup []) :: l)) ρ s)
  | some none => pe D base ks r (qA d (some none) g) (qd d (.tup []) l) ρ s
  | some (some y) => match peB x y with
   | true => pe1 D base g l ρ s o fun v s' => pe D base ks r (qA d (peW g o) g) (qd d v l) ρ s'
   | false => pe D base ks r (qA d (some none) g) (qd d (.tup []) l) ρ s
noncomputable abbrev peC (D : Nat → Option Fc) (base : Nat) (ρ : Env) (s : St) : C → OR
 | .reg (some ks) l => pe D base ks l [] [] ρ s
 | .regd (some ks) l => pe D base ks l [] [] ρ s
 | _ => none
abbrev mI {β : Type} (x : Nat) (k : Nat → β) : β := match x with
 | 0 => k 0
 | n + 1 => k (Nat.succ n)
abbrev dN {β : Type} : Nat → Nat → (Nat → Nat → β) → β
 | 0, x, k => k 0 x
 | f + 1, x, k => mI (Nat.mod x 16) fun m => mI (Nat.div x 16) fun y => match Nat.ble 8 m with
  | false => k m y
  | true => dN f y fun v z => mI (Nat.add (Nat.sub m 8) (Nat.mul 8 v)) fun w => k w z
abbrev pS {α : Type} (d : α) : List α → Nat → α
 | [], _ => d
 | a :: l, n => match n with
  | 0 => a
  | n + 1 => pS d l n
abbrev dB {β : Type} (x : Nat) (k : Bool → Nat → β) : β := dN 30 x fun n x => match Nat.beq n 0 with
 | true => k false x
 | false => k true x
abbrev KI {α β : Type} (p : Nat → (α → Nat → β) → β) : Nat → Nat → (List α → Nat → β) → β
 | 0, x, k => k [] x
 | n + 1, x, k => p x fun a x => KI p n x fun l x => k (a :: l) x
abbrev jO {α β : Type} (p : Nat → (α → Nat → β) → β) (x : Nat) (k : List α → Nat → β) : β := dN 30 x fun n x => KI p n x k
abbrev dKs {β : Type} : Nat → Nat → Nat → (List Nat → Nat → β) → β
 | 0, _, x, k => k [] x
 | n + 1, p, x, k => dN 30 x fun v x => mI (Nat.add p v) fun v => dKs n v x fun l x => k (v :: l) x
abbrev dIK (i : Nat) : IntKind := pS .u64 [.i8, .i16, .i32, .i64, .u8, .u16, .u32] i
abbrev dBO (i : Nat) : BinOp := pS .geq [.add, .sub, .mul, .quo, .rem, .and, .or, .xor, .shl, .shr, .andNot, .eql, .neq, .lss, .leq, .gtr] i
abbrev dUO (i : Nat) : UnOp := pS .plus [.neg, .xor, .not] i
abbrev dV {β : Type} : Nat → Nat → (V → Nat → β) → β
 | 0, x, k => k .dead x
 | f + 1, x, k => dN 30 x fun t x => pS (k .dead x) [
  k (.bool false) x,
  k (.bool true) x,
  dN 30 x fun n x => k (.int .i64 (Int.ofNat n)) x,
  dN 30 x fun n x => k (.int .i64 (-(Int.ofNat n))) x,
  dN 30 x fun i x => dN 30 x fun n x => k (.int (dIK i) (Int.ofNat n)) x,
  k .nilp x,
  k .nils x,
  k .nilf x,
  dN 30 x fun t x => jO (dV f) x fun l x => k (.agg t l) x,
  dN 30 x fun t x => dN 30 x fun n x => dV f x fun v x => k (.agg t (List.replicate n v)) x,
  dN 30 x fun g x => k (.fn g []) x,
  dN 30 x fun i x => dN 30 x fun t x => k (.ptr (.hp i) [] t) x,
  jO (dN 30) x fun l x => k (.str ⟨⟨l.map UInt8.ofNat⟩⟩) x,
  k .dead x,
  dN 30 x fun i x => dN 30 x fun n x => k (.int (dIK i) (-(Int.ofNat n))) x,
  k (.mp none) x] t
abbrev dO {β : Type} (d x : Nat) (k : Opd → Nat → β) : β := dN 30 x fun e x => match e with
 | 0 => dV 9 x fun v x => k (.k v) x
 | e + 1 => match Nat.beq (Nat.mod e 2) 0 with
  | true => mI (Nat.sub d (Nat.div e 2)) fun t => k (.t t) x
  | false => mI (Nat.div e 2) fun t => k (.t t) x
abbrev dOo {β : Type} (d x : Nat) (k : Option Opd → Nat → β) : β := dN 30 x fun e x => match Nat.beq e 0 with
 | true => k none x
 | false => dO d x fun o x => k (some o) x
abbrev Kz {β : Type} (d x : Nat) (k : Nat × Opd → Nat → β) : β := dN 30 x fun i x => dO d x fun o x => k (i, o) x
abbrev dOp {β : Type} (d : Nat) (c : Nat) (x : Nat) (k : Op' → Nat → β) : β := pS (dO d x fun a x => dO d x fun b x => dO d x fun c x => k (.mup a b c) x) [
 dO d x fun a x => k (.mv a) x,
 dN 30 x fun o x => dO d x fun a x => dO d x fun b x => k (.bin (dBO o) a b) x,
 dN 30 x fun t x => dN 30 x fun f x => dN 30 x fun u x => dO d x fun a x => k (.fad t f u a) x,
 dN 30 x fun t x => dO d x fun a x => k (.ld t a) x,
 dO d x fun a x => k (.nilc a) x,
 dO d x fun f x => jO (dO d) x fun l x => k (.call f l) x,
 dN 30 x fun t x => dO d x fun a x => dO d x fun b x => k (.st t a b) x,
 dO d x fun a x => dN 30 x fun i x => k (.ext a i) x,
 dO d x fun c x => dO d x fun a x => dO d x fun b x => k (.pick c a b) x,
 dN 30 x fun t x => dN 30 x fun n x => dN 30 x fun e x => dO d x fun a x => dO d x fun b x => k (.iad t n e a b) x,
 dB x fun h x => dV 9 x fun z x => k (.alloc h z) x,
 dV 9 x fun z x => jO (Kz d) x fun l x => k (.bld z l) x,
 dB x fun h x => dO d x fun a x => k (.box h a) x,
 dN 30 x fun e x => dO d x fun a x => dO d x fun b x => k (.sad e a b) x,
 dB x fun q x => dO d x fun a x => k (.len q a) x,
 dN 30 x fun i x => dO d x fun a x => k (.conv (dIK i) a) x,
 dN 30 x fun i x => dO d x fun a x => k (.un (dUO i) a) x,
 dB x fun h x => dN 30 x fun r x => dN 30 x fun e x => dV 9 x fun z x => dN 30 x fun n x => jO (Kz d) x fun l x => k (.bsl h r e z n l) x,
 dB x fun h x => dN 30 x fun r x => dN 30 x fun e x => dO d x fun a x => dO d x fun b x => k (.app h r e a b) x,
 dB x fun g x => dN 30 x fun t x => dO d x fun a x => dO d x fun b x => k (.eq g t a b) x,
 dN 30 x fun t x => dN 30 x fun n x => dO d x fun a x => dO d x fun b x => k (.idx t n a b) x,
 dN 30 x fun t x => dN 30 x fun n x => dN 30 x fun e x => dO d x fun a x => dOo d x fun l x => dOo d x fun h x => dOo d x fun m x => k (.slarr t n e a l h m) x,
 dB x fun p x => dO d x fun f x => jO (dO d) x fun l x => k (.callk p f l) x,
 dN 30 x fun t x => dO d x fun a x => k (.ldl t a) x,
 dO d x fun f x => jO (dO d) x fun l x => k (.pcall f l) x,
 dN 30 x fun t x => dO d x fun a x => dO d x fun b x => jO (dO d) x fun l x => k (.sta t a b l) x,
 dN 30 x fun e x => dO d x fun a x => dOo d x fun l x => dOo d x fun h x => dOo d x fun m x => k (.slc e a l h m) x,
 dB x fun h x => dN 30 x fun r x => dN 30 x fun e x => dV 9 x fun z x => dO d x fun a x => dO d x fun b x => k (.mksl h r e z a b) x,
 dN 30 x fun t x => dO d x fun a x => dO d x fun b x => k (.lda t a b) x,
 dB x fun m x => dO d x fun a x => dO d x fun b x => k (.mnx m a b) x,
 dB x fun h x => dN 30 x fun r x => dN 30 x fun e x => dO d x fun a x => dO d x fun b x => jO (dO d) x fun l x => k (.appa h r e a b l) x,
 dN 30 x fun n x => dN 30 x fun e x => dO d x fun a x => k (.s2a n e a) x,
 dN 30 x fun t x => dN 30 x fun n x => dN 30 x fun e x => dN 30 x fun u x => dO d x fun a x => k (.ldr t n e u a) x,
 dO d x fun f x => jO (dO d) x fun l x => dO d x fun w x => k (.callw f l w) x,
 dN 30 x fun t x => dN 30 x fun f x => dO d x fun a x => k (.fld t f a) x,
 dO d x fun a x => dO d x fun b x => k (.sidx a b) x,
 dN 30 x fun n x => k (.lenk n) x,
 dO d x fun a x => dOo d x fun l x => dOo d x fun h x => k (.slstr a l h) x,
 dN 30 x fun f x => jO (dO d) x fun l x => k (.mkfn f l) x,
 dN 30 x fun e x => dO d x fun a x => dO d x fun b x => k (.cpy e a b) x,
 k .mkm x,
 dO d x fun a x => dO d x fun b x => k (.mlk a b) x] c
abbrev Qo {β : Type} (m d x : Nat) (k : Option Nat → Nat → Nat → β) : β := pS (dN 30 x fun e x => match Nat.ble e d with
 | true => k (some e) d x
 | false => k (some e) e x) [mI (Nat.add d 1) fun d => k (some d) d x, k none d x] m
abbrev dGd {β : Type} (m : Nat) (g : Option (Nat × Bool)) (x : Nat) (k : Option (Nat × Bool) → Option (Nat × Bool) → Nat → β) : β := pS (dN 30 x fun e x => match Nat.beq (Nat.mod e 2) 0 with
 | true => mI (Nat.div e 2) fun t => k (some (t, false)) (some (t, false)) x
 | false => mI (Nat.div e 2) fun t => k (some (t, true)) (some (t, true)) x) [k none g x, k g g x] m
abbrev Oy {β : Type} : Nat → Nat → Option (Nat × Bool) → Nat → (List Op → Nat → β) → β
 | 0, _, _, x, k => k [] x
 | n + 1, d, g, x, k => dN 30 x fun h x => Qo (Nat.mod h 3) d x fun od d' x => dGd (Nat.mod (Nat.div h 3) 3) g x fun og g' x => dOp d (Nat.div h 9) x fun o x => Oy n d' g' x fun l x => k (⟨od, og, o⟩ :: l) x
abbrev dR (x : Nat) : C := dN 30 x fun a x => dN 30 x fun n x => dKs n 0 x fun ks x => Oy (Nat.div a 2) 0 none x fun l _ => match Nat.beq (Nat.mod a 2) 0 with
 | true => .reg (some ks) l
 | false => .regd (some ks) l
abbrev sP : List Nat → Nat → Nat
 | [], _ => 0
 | a :: _, 0 => a
 | _ :: l, n + 1 => sP l n
def rgn (r : List Nat) (k : Nat) : C := dR (sP r k)
abbrev OP : List C → Nat → C
 | [], _ => .skip
 | a :: _, 0 => a
 | _ :: l, n + 1 => OP l n
abbrev dC {β : Type} (r : List Nat) (bs : List C) : Nat → Nat → Nat → (C → Nat → Nat → β) → β
 | 0, n, x, k => k .skip n x
 | f + 1, n, x, k => dN 30 x fun c x => pS (dC r bs f n x fun a n x => k (.scope a) n x) [
  mI (Nat.add n 1) fun m => k (rgn r n) m x,
  dC r bs f n x fun a n x => dC r bs f n x fun b n x => k (.seq a b) n x,
  dO 0 x fun o x => dC r bs f n x fun a n x => dC r bs f n x fun b n x => k (.cond o a b) n x,
  k .skip n x,
  k .ret n x,
  dN 30 x fun i x => dC r bs f n x fun a n x => k (.block i a) n x,
  dN 30 x fun m x => dKs m 0 x fun ks x => dN 30 x fun i x => k (.loop ks (OP bs i)) n x,
  dN 30 x fun i x => k (.exit i) n x,
  dN 30 x fun i x => mI (Nat.add i 1) fun m => k (rgn r i) m x,
  dN 30 x fun i x => k (.label i) n x] c
abbrev dRV {β : Type} (x : Nat) (k : RV → Nat → β) : β := dN 30 x fun c x => dN 30 x fun a x => match Nat.beq c 0 with
 | true => k (.t a) x
 | false => dN 30 x fun t x => k (.cell a t) x
abbrev dF (r : List Nat) (bs : List C) (x : Nat) : Fc := dN 30 x fun n x => jO dRV x fun l x => dC r bs 999 0 x fun c _ _ => ⟨n, c, l⟩
structure HdP {α : Sort _} (a r : α) : Prop where
 h : a = r
@[reducible] def vC (r : List Nat) (bs : List C) (x : Nat) {c : C} (_h : HdP (dC r bs 999 0 x fun c _ _ => c) c := by (with_reducible conv => arg 1; reduce); (try dsimp only [Int.reduceOfNat, Nat.reduceSucc]); exact ⟨rfl⟩) : C := c
@[reducible] def vF (r : List Nat) (bs : List C) (x : Nat) {c : Fc} (_h : HdP (dF r bs x) c := by (with_reducible conv => arg 1; reduce); (try dsimp only [Int.reduceOfNat, Nat.reduceSucc]); exact ⟨rfl⟩) : Fc := c
attribute [go_sem] vC vF
noncomputable abbrev rgC (D : Nat → Option Fc) (b : Nat) (ρ : Env) (s : St) : C → OR
 | .reg (some ks) l => rgO D b ks l ρ s
 | .regd (some ks) l => rgO D b ks l ρ s
 | c => rc D b c ρ s
theorem Gp {b : Nat} : ∀ {c : C}, rc D b c ρ s = rgC D b ρ s c
 | .reg (some _) _ => IF
 | .regd (some _) _ => HU
 | .reg none _ | .regd none _ | .skip | .seq _ _ | .cond _ _ _ | .block _ _ | .loop _ _ | .exit _ | .scope _ | .label _ | .ret => rfl
noncomputable abbrev vE (D : Nat → Option Fc) (b : Nat) (ρ : Env) (s : St) : Nat → List Nat → List (Nat × OR)
 | _, [] => []
 | k, x :: l => (k, peC D b ρ s (dR x)) :: mI (Nat.add k 1) fun k => vE D b ρ s k l
abbrev cjl (D : Nat → Option Fc) (b : Nat) (ρ : Env) (s : St) (r : List Nat) : List (Nat × OR) → Prop
 | [] => True
 | [(k, x)] => rc D b (rgn r k) ρ s = x
 | (k, x) :: y :: l => rc D b (rgn r k) ρ s = x ∧ cjl D b ρ s r (y :: l)
@[reducible] def ZA (D : Nat → Option Fc) (b : Nat) (ρ : Env) (s : St) (r : List Nat) {l : List (Nat × OR)} (_h : HdP (vE D b ρ s 0 r) l := by (conv => arg 1; arg 6; whnf); (with_reducible conv => arg 1; reduce); (try dsimp only [Int.reduceOfNat, Nat.reduceSucc, oif]); exact ⟨rfl⟩) {P : Prop} (_h2 : HdP (cjl D b ρ s r l) P := by dsimp only [cjl]; exact ⟨rfl⟩) : Prop := P
theorem KG {b : Nat} {r : List Nat} : ∀ {l : List Nat} {k : Nat}, (∀ j, j < l.length → sP r (k + j) = sP l j) → (l.map fun x => rgC D b ρ s (dR x)) = (l.map fun x => peC D b ρ s (dR x)) → cjl D b ρ s r (vE D b ρ s k l)
 | [], _, _, _ => trivial
 | [x], k, h, e => by
  have h0 := h 0 (by simp);simp only [List.map_cons, List.cons.injEq] at e;show rc D b (dR (sP r k)) ρ s = _;rw [show sP r k = x from h0, Gp]; exact e.1
 | x :: y :: l, k, h, e => by
  have h0 := h 0 (by simp);simp only [List.map_cons, List.cons.injEq] at e;have h1 := KG (b := b) (r := r) (l := y :: l) (k := k + 1) (fun j hj => by
   have := h (j + 1) (by simpa using hj);rw [show k + 1 + j = k + (j + 1) by omega]; exact this) (by simpa using e.2)
  show rc D b (rgn r k) ρ s = peC D b ρ s (dR x) ∧ cjl D b ρ s r (vE D b ρ s (k + 1) (y :: l));refine ⟨?_, h1⟩;show rc D b (dR (sP r k)) ρ s = _;rw [show sP r k = x from h0, Gp]; exact e.1
theorem za {b : Nat} {r : List Nat} {l : List (Nat × OR)} {h : HdP (vE D b ρ s 0 r) l} {P : Prop} {h2 : HdP (cjl D b ρ s r l) P} (e : (r.map fun x => rgC D b ρ s (dR x)) = (r.map fun x => peC D b ρ s (dR x)) := by kernel_rfl) : @ZA D b ρ s r l h P h2 := by
 have := KG (k := 0) (fun j _ => by rw [Nat.zero_add]) e;rw [h.h, h2.h] at this; exact this
def lkT : List (Nat × Fc) → Nat → Option Fc
 | [], _ => none
 | p :: l, g => match Nat.beq p.1 g with
  | true => some p.2
  | false => lkT l g
theorem Cz : ∀ {l : List (Nat × Fc)} {g : Nat} {fc : Fc}, lkT l g = some fc → (g, fc) ∈ l
 | [], _, _, h => by cases h
 | p :: l, g, fc, h => by
  simp only [lkT] at h;split at h
  ·rename_i e;cases h;rw [← Nat.eq_of_beq_eq_true e];exact List.mem_cons_self
  ·exact List.mem_cons_of_mem _ (Cz h)
theorem CV {l : List (Nat × Fc)} {p : Nat → Fc → Bool} (h : (l.all fun x => p x.1 x.2) = true) {g : Nat} {fc : Fc} (hg : lkT l g = some fc) : p g fc = true := List.all_eq_true.1 h _ (Cz hg)
end Go.Ab
