/-
  YtmimfopnhmmlbaaDoorAbG: an abstract semantics of the program's code, and that what it tells holds of the program (part G).
-/
import Derived.Test.YtmimfopnhmmlbaaDoorAbA
import Derived.Attr
import Derived.KernelRfl
set_option maxRecDepth 100000
namespace Go.Ab
variable {D : Nat → Option Fc}
theorem mM {f g : bz → St → Option Res} (h : ∀ t s r, f t s = some r → g t s = some r) {base : Nat} {ρ : Env} {s : St} {o : Op'} {q : V × St} (hq : al f base ρ s o = some q) : al g base ρ s o = some q := by
 cases o with
 | call fo args =>
  simp only [al] at hq ⊢;cases hx : fo.ev ρ with
  | fn k caps =>
   simp only [hx] at hq;cases hf : f (.f k (args.map (Opd.ev ρ) ++ caps)) s with
   | none => rw [hf] at hq; cases hq
   | some x => rw [hf] at hq; simp only [h _ _ _ hf]; exact hq
  | _ => rw [hx] at hq; cases hq
 | pcall fo args =>
  simp only [al] at hq ⊢;cases hx : fo.ev ρ with
  | fn k caps =>
   simp only [hx] at hq;by_cases hp : pOk base (bc base (args.map (Opd.ev ρ) ++ caps)) (args.map (Opd.ev ρ) ++ caps) s = true
   ·rw [if_pos hp] at hq;simp only [if_pos hp];cases hf : f (.f k (args.map (Opd.ev ρ) ++ caps)) (s.cut (bc base (args.map (Opd.ev ρ) ++ caps))) with
    | none => rw [hf] at hq; cases hq
    | some x => rw [hf] at hq; simp only [h _ _ _ hf]; exact hq
   ·rw [if_neg hp] at hq; cases hq
  | _ => rw [hx] at hq; cases hq
 | callw fo args w =>
  simp only [al] at hq ⊢;split at hq
  ·rename_i hw;rw [if_pos hw];cases hx : fo.ev ρ with
   | fn k caps =>
    simp only [hx] at hq;cases hf : f (.f k (args.map (Opd.ev ρ) ++ caps)) s with
    | none => rw [hf] at hq; cases hq
    | some x => rw [hf] at hq; simp only [h _ _ _ hf]; exact hq
   | _ => rw [hx] at hq; cases hq
  ·cases hq
 | callk p fo args =>
  simp only [al] at hq ⊢;cases hx : fo.ev ρ with
  | fn k caps =>
   simp only [hx] at hq;by_cases hp : pOk base (bc base (args.map (Opd.ev ρ) ++ caps)) (args.map (Opd.ev ρ) ++ caps) s = true
   ·rw [if_pos hp] at hq;simp only [if_pos hp];cases hf : f (.f k (args.map (Opd.ev ρ) ++ caps)) (s.cut (bc base (args.map (Opd.ev ρ) ++ caps))) with
    | none => rw [hf] at hq; cases hq
    | some x => rw [hf] at hq; simp only [h _ _ _ hf]; exact hq
   ·rw [if_neg hp] at hq; cases hq
  | _ => rw [hx] at hq; cases hq
 | _ => exact hq
theorem u4 {f g : bz → St → Option Res} (h : ∀ t s r, f t s = some r → g t s = some r) {t : bz} {s : St} {r : Res} (hr : step D f t s = some r) : step D g t s = some r := by
 cases t with
 | c base c ρ =>
  cases c with
  | skip => exact hr
  | label _ => exact hr
  | ret => exact hr
  | exit _ => exact hr
  | reg keep ops =>
   simp only [step] at hr ⊢;cases hf : f (.o base ops ρ) s with
   | none => rw [hf] at hr; cases hr
   | some x => rw [hf] at hr; rw [h _ _ _ hf]; exact hr
  | regd keep ops =>
   simp only [step] at hr ⊢;cases hf : f (.o base ops ρ) s with
   | none => rw [hf] at hr; cases hr
   | some x => rw [hf] at hr; rw [h _ _ _ hf]; exact hr
  | seq a b =>
   simp only [step] at hr ⊢;cases hf : f (.c base a ρ) s with
   | none => rw [hf] at hr; cases hr
   | some x =>
    rw [hf] at hr; rw [h _ _ _ hf];cases x with
    | c e ρ' s' => cases e <;> first | exact h _ _ _ hr | exact hr
    | o _ _ => cases hr
    | v _ _ => cases hr
  | cond x a b =>
   simp only [step] at hr ⊢;cases hx : x.ev ρ with
   | bool t =>
    rw [hx] at hr;cases t
    ·exact h _ _ _ hr
    ·exact h _ _ _ hr
   | _ => rw [hx] at hr; cases hr
  | block id b =>
   simp only [step] at hr ⊢;cases hf : f (.c base b ρ) s with
   | none => rw [hf] at hr; cases hr
   | some x => rw [hf] at hr; rw [h _ _ _ hf]; exact hr
  | scope b =>
   simp only [step] at hr ⊢;cases hf : f (.c base b ρ) s with
   | none => rw [hf] at hr; cases hr
   | some x => rw [hf] at hr; rw [h _ _ _ hf]; exact hr
  | loop keep b =>
   simp only [step] at hr ⊢;cases hf : f (.c base b (restrict keep ρ)) s with
   | none => rw [hf] at hr; cases hr
   | some x =>
    rw [hf] at hr; rw [h _ _ _ hf];cases x with
    | c e ρ' s' =>
     cases e with
     | normal =>
      simp only at hr ⊢;split at hr
      ·rename_i hc; rw [if_pos hc]; exact h _ _ _ hr
      ·cases hr
     | exit _ => exact hr
     | ret => exact hr
    | o _ _ => cases hr
    | v _ _ => cases hr
 | o base l ρ =>
  cases l with
  | nil => exact hr
  | cons op rest =>
   simp only [step] at hr ⊢;cases hg : aM op.guard ρ with
   | none => rw [hg] at hr; cases hr
   | some gb =>
    rw [hg] at hr;cases gb with
    | false => exact h _ _ _ hr
    | true =>
     cases hq : al f base ρ s op.op with
     | none => simp only [hq] at hr; cases hr
     | some q =>
      simp only [hq] at hr;simp only [mM h hq];exact h _ _ _ hr
 | f fn args =>
  simp only [step] at hr ⊢;cases hfc : D fn with
  | none => rw [hfc] at hr; cases hr
  | some fc =>
   rw [hfc] at hr;simp only at hr ⊢;by_cases hlen : args.length = fc.n
   ·rw [if_pos hlen] at hr ⊢;cases hf : f (.c s.loc.length fc.body (eh 0 args)) s with
    | none => rw [hf] at hr; cases hr
    | some x => rw [hf] at hr; rw [h _ _ _ hf]; exact hr
   ·rw [if_neg hlen] at hr; cases hr
theorem jo : ∀ (n : Nat) {t : bz} {s : St} {r : Res}, ev D n t s = some r → ev D (n + 1) t s = some r
 | 0, _, _, _, h => by cases h
 | n + 1, _, _, _, h => u4 (fun _ _ _ h => jo n h) h
theorem mL {n m : Nat} (hnm : n ≤ m) {t : bz} {s : St} {r : Res} (h : ev D n t s = some r) : ev D m t s = some r := by
 induction hnm with
 | refl => exact h
 | step _ ih => exact jo _ ih
open Classical in
noncomputable def run (D : Nat → Option Fc) (t : bz) (s : St) : Option Res :=
 if h : ∃ n r, ev D n t s = some r then some h.choose_spec.choose else none
theorem bW {t : bz} {s : St} {r : Res} : run D t s = some r ↔ ∃ n, ev D n t s = some r := by
 unfold run;constructor
 ·intro h;split at h
  ·rename_i hx;cases h;exact ⟨_, hx.choose_spec.choose_spec⟩
  ·cases h
 ·rintro ⟨n, hn⟩;have hx : ∃ n r, ev D n t s = some r := ⟨n, r, hn⟩;rw [dif_pos hx];have h1 := hx.choose_spec.choose_spec;have h2 := mL (Nat.le_max_left hx.choose n) h1;have h3 := mL (Nat.le_max_right hx.choose n) hn;rw [h2] at h3;exact h3
theorem qn {n : Nat} {t : bz} {s : St} {r : Res} (h : ev D n t s = some r) : run D t s = some r := bW.2 ⟨n, h⟩
theorem Gp {base : Nat} {ρ : Env} {s : St} {o : Op'} {q : V × St} (hq : al (run D) base ρ s o = some q) : ∃ n, al (ev D n) base ρ s o = some q := by
 cases o with
 | call fo args =>
  simp only [al] at hq ⊢;cases hx : fo.ev ρ with
  | fn k caps =>
   simp only [hx] at hq;cases hf : run D (.f k (args.map (Opd.ev ρ) ++ caps)) s with
   | none => rw [hf] at hq; cases hq
   | some x => rw [hf] at hq; obtain ⟨n, hn⟩ := bW.1 hf; exact ⟨n, by simp only [hn]; exact hq⟩
  | _ => rw [hx] at hq; cases hq
 | pcall fo args =>
  simp only [al] at hq ⊢;cases hx : fo.ev ρ with
  | fn k caps =>
   simp only [hx] at hq;by_cases hp : pOk base (bc base (args.map (Opd.ev ρ) ++ caps)) (args.map (Opd.ev ρ) ++ caps) s = true
   ·rw [if_pos hp] at hq;simp only [if_pos hp];cases hf : run D (.f k (args.map (Opd.ev ρ) ++ caps)) (s.cut (bc base (args.map (Opd.ev ρ) ++ caps))) with
    | none => rw [hf] at hq; cases hq
    | some x => rw [hf] at hq; obtain ⟨n, hn⟩ := bW.1 hf; exact ⟨n, by simp only [hn]; exact hq⟩
   ·rw [if_neg hp] at hq; cases hq
  | _ => rw [hx] at hq; cases hq
 | callw fo args w =>
  simp only [al] at hq ⊢;split at hq
  ·rename_i hw;simp only [if_pos hw];cases hx : fo.ev ρ with
   | fn k caps =>
    simp only [hx] at hq;cases hf : run D (.f k (args.map (Opd.ev ρ) ++ caps)) s with
    | none => rw [hf] at hq; cases hq
    | some x => rw [hf] at hq; obtain ⟨n, hn⟩ := bW.1 hf; exact ⟨n, by simp only [hn]; exact hq⟩
   | _ => rw [hx] at hq; cases hq
  ·cases hq
 | callk p fo args =>
  simp only [al] at hq ⊢;cases hx : fo.ev ρ with
  | fn k caps =>
   simp only [hx] at hq;by_cases hp : pOk base (bc base (args.map (Opd.ev ρ) ++ caps)) (args.map (Opd.ev ρ) ++ caps) s = true
   ·rw [if_pos hp] at hq;simp only [if_pos hp];cases hf : run D (.f k (args.map (Opd.ev ρ) ++ caps)) (s.cut (bc base (args.map (Opd.ev ρ) ++ caps))) with
    | none => rw [hf] at hq; cases hq
    | some x => rw [hf] at hq; obtain ⟨n, hn⟩ := bW.1 hf; exact ⟨n, by simp only [hn]; exact hq⟩
   ·rw [if_neg hp] at hq; cases hq
  | _ => rw [hx] at hq; cases hq
 | _ => exact ⟨0, hq⟩
theorem Hb {t : bz} {s : St} {r : Res} (hr : step D (run D) t s = some r) : ∃ n, step D (ev D n) t s = some r := by
 cases t with
 | c base c ρ =>
  cases c with
  | skip => exact ⟨0, hr⟩
  | label _ => exact ⟨0, hr⟩
  | ret => exact ⟨0, hr⟩
  | exit _ => exact ⟨0, hr⟩
  | reg keep ops =>
   simp only [step] at hr ⊢;cases hf : run D (.o base ops ρ) s with
   | none => rw [hf] at hr; cases hr
   | some x => rw [hf] at hr; obtain ⟨n, hn⟩ := bW.1 hf; exact ⟨n, by rw [hn]; exact hr⟩
  | regd keep ops =>
   simp only [step] at hr ⊢;cases hf : run D (.o base ops ρ) s with
   | none => rw [hf] at hr; cases hr
   | some x => rw [hf] at hr; obtain ⟨n, hn⟩ := bW.1 hf; exact ⟨n, by rw [hn]; exact hr⟩
  | seq a b =>
   simp only [step] at hr ⊢;cases hf : run D (.c base a ρ) s with
   | none => rw [hf] at hr; cases hr
   | some x =>
    rw [hf] at hr; obtain ⟨n, hn⟩ := bW.1 hf;cases x with
    | c e ρ' s' =>
     cases e with
     | normal =>
      obtain ⟨m, hm⟩ := bW.1 hr;exact ⟨max n m, by rw [mL (Nat.le_max_left n m) hn]; exact mL (Nat.le_max_right n m) hm⟩
     | exit _ => exact ⟨n, by rw [hn]; exact hr⟩
     | ret => exact ⟨n, by rw [hn]; exact hr⟩
    | o _ _ => cases hr
    | v _ _ => cases hr
  | cond x a b =>
   simp only [step] at hr ⊢;cases hx : x.ev ρ with
   | bool t =>
    rw [hx] at hr;cases t
    ·obtain ⟨n, hn⟩ := bW.1 hr;exact ⟨n, hn⟩
    ·obtain ⟨n, hn⟩ := bW.1 hr;exact ⟨n, hn⟩
   | _ => rw [hx] at hr; cases hr
  | block id b =>
   simp only [step] at hr ⊢;cases hf : run D (.c base b ρ) s with
   | none => rw [hf] at hr; cases hr
   | some x => rw [hf] at hr; obtain ⟨n, hn⟩ := bW.1 hf; exact ⟨n, by rw [hn]; exact hr⟩
  | scope b =>
   simp only [step] at hr ⊢;cases hf : run D (.c base b ρ) s with
   | none => rw [hf] at hr; cases hr
   | some x => rw [hf] at hr; obtain ⟨n, hn⟩ := bW.1 hf; exact ⟨n, by rw [hn]; exact hr⟩
  | loop keep b =>
   simp only [step] at hr ⊢;cases hf : run D (.c base b (restrict keep ρ)) s with
   | none => rw [hf] at hr; cases hr
   | some x =>
    rw [hf] at hr; obtain ⟨n, hn⟩ := bW.1 hf;cases x with
    | c e ρ' s' =>
     cases e with
     | normal =>
      simp only at hr;split at hr
      ·rename_i hc;obtain ⟨m, hm⟩ := bW.1 hr;exact ⟨max n m, by rw [mL (Nat.le_max_left n m) hn]; simp only; rw [if_pos hc]; exact mL (Nat.le_max_right n m) hm⟩
      ·cases hr
     | exit _ => exact ⟨n, by rw [hn]; exact hr⟩
     | ret => exact ⟨n, by rw [hn]; exact hr⟩
    | o _ _ => cases hr
    | v _ _ => cases hr
 | o base l ρ =>
  cases l with
  | nil => exact ⟨0, hr⟩
  | cons op rest =>
   simp only [step] at hr ⊢;cases hg : aM op.guard ρ with
   | none => rw [hg] at hr; cases hr
   | some gb =>
    rw [hg] at hr;cases gb with
    | false => exact bW.1 hr
    | true =>
     cases hq : al (run D) base ρ s op.op with
     | none => simp only [hq] at hr; cases hr
     | some q =>
      simp only [hq] at hr;obtain ⟨n, hn⟩ := Gp hq;obtain ⟨m, hm⟩ := bW.1 hr;exact ⟨max n m, by simp only [mM (fun _ _ _ h => mL (Nat.le_max_left n m) h) hn]; exact mL (Nat.le_max_right n m) hm⟩
 | f fn args =>
  simp only [step] at hr ⊢;cases hfc : D fn with
  | none => rw [hfc] at hr; cases hr
  | some fc =>
   rw [hfc] at hr;simp only at hr ⊢;by_cases hlen : args.length = fc.n
   ·simp only [if_pos hlen] at hr ⊢;cases hf : run D (.c s.loc.length fc.body (eh 0 args)) s with
    | none => rw [hf] at hr; cases hr
    | some x => rw [hf] at hr; obtain ⟨n, hn⟩ := bW.1 hf; exact ⟨n, by rw [hn]; exact hr⟩
   ·rw [if_neg hlen] at hr; cases hr
theorem cY (t : bz) (s : St) : run D t s = step D (run D) t s := by
 apply Option.ext;intro r;constructor
 ·intro h;obtain ⟨n, hn⟩ := bW.1 h;cases n with
  | zero => cases hn
  | succ n => exact u4 (fun _ _ _ h => qn h) hn
 ·intro h;obtain ⟨n, hn⟩ := Hb h;exact qn (n := n + 1) hn
noncomputable def rc (D : Nat → Option Fc) (base : Nat) (c : C) (ρ : Env) (s : St) : Option (Ex × Env × St) :=
 match run D (.c base c ρ) s with
 | some (.c e ρ' s') => some (e, ρ', s')
 | _ => none
noncomputable def ro (D : Nat → Option Fc) (base : Nat) (l : List Op) (ρ : Env) (s : St) : Option (Env × St) :=
 match run D (.o base l ρ) s with
 | some (.o ρ' s') => some (ρ', s')
 | _ => none
noncomputable def rf (D : Nat → Option Fc) (f : Nat) (args : List V) (s : St) : Option (V × St) :=
 match run D (.f f args) s with
 | some (.v v s') => some (v, s')
 | _ => none
theorem Cz {f : Nat} {args : List V} {s : St} {v : V} {s' : St} : rf D f args s = some (v, s') ↔ run D (.f f args) s = some (.v v s') := by
 unfold rf; constructor
 ·intro h; split at h
  ·rename_i hh; cases h; exact hh
  ·cases h
 ·intro h; rw [h]
section
variable {base : Nat} {ρ : Env} {s : St}
theorem So : rc D base .skip ρ s = some (.normal, ρ, s) := by simp only [rc, cY, step]
theorem FP {l : Nat} : rc D base (.label l) ρ s = some (.normal, ρ, s) := by simp only [rc, cY, step]
theorem Uv : rc D base .ret ρ s = some (.ret, ρ, s) := by simp only [rc, cY, step]
theorem RU {id : Nat} : rc D base (.exit id) ρ s = some (.exit id, ρ, s) := by simp only [rc, cY, step]
theorem UZ {keep : Option (List Nat)} {ops : List Op} : rc D base (.reg keep ops) ρ s = (ro D base ops ρ s).bind fun x => some (.normal, i6 keep x.1, x.2) := by
 simp only [rc, ro]; rw [cY]; simp only [step];cases run D (.o base ops ρ) s with
 | none => rfl
 | some x => cases x <;> rfl
theorem Sy {keep : Option (List Nat)} {ops : List Op} : rc D base (.regd keep ops) ρ s = (ro D base ops ρ s).bind fun x => some (.normal, i6 keep x.1, x.2) := by
 simp only [rc, ro]; rw [cY]; simp only [step];cases run D (.o base ops ρ) s with
 | none => rfl
 | some x => cases x <;> rfl
noncomputable def andThen (D : Nat → Option Fc) (base : Nat) (b : C) (x : Ex × Env × St) : Option (Ex × Env × St) :=
 match x with
 | (.normal, ρ, s) => rc D base b ρ s
 | x => some x
theorem tO {b : C} : andThen D base b (.normal, ρ, s) = rc D base b ρ s := rfl
theorem ye {b : C} : andThen D base b (.ret, ρ, s) = some (.ret, ρ, s) := rfl
theorem xT {b : C} {id : Nat} : andThen D base b (.exit id, ρ, s) = some (.exit id, ρ, s) := rfl
theorem Uh {a b : C} : rc D base (.seq a b) ρ s = (rc D base a ρ s).bind (andThen D base b) := by
 simp only [rc]; rw [cY]; simp only [step];cases run D (.c base a ρ) s with
 | none => rfl
 | some x =>
  cases x with
  | c e ρ' s' => cases e <;> rfl
  | _ => rfl
theorem Rv {x : Opd} {a b : C} : rc D base (.cond x a b) ρ s = match x.ev ρ with
 | .bool t => if t then rc D base a ρ s else rc D base b ρ s
 | _ => none := by
 simp only [rc]; rw [cY]; simp only [step];cases x.ev ρ with
 | bool t => cases t <;> rfl
 | _ => rfl
def J3 (id : Nat) (x : Ex × Env × St) : Ex × Env × St :=
 match x with
 | (.exit id', ρ, s) => (if id' = id then .normal else .exit id', ρ, s)
 | x => x
theorem Hy {id : Nat} {b : C} : rc D base (.block id b) ρ s = (rc D base b ρ s).bind fun x => some (J3 id x) := by
 simp only [rc]; rw [cY]; simp only [step];cases run D (.c base b ρ) s with
 | none => rfl
 | some x =>
  cases x with
  | c e ρ' s' => cases e <;> rfl
  | _ => rfl
theorem GM {b : C} : rc D base (.scope b) ρ s = rc D base b ρ s := by
 simp only [rc]; rw [cY]; simp only [step];cases run D (.c base b ρ) s with
 | none => rfl
 | some x =>
  cases x with
  | c e ρ' s' => cases e <;> rfl
  | _ => rfl
noncomputable def io (D : Nat → Option Fc) (base n : Nat) (keep : List Nat) (b : C) (x : Ex × Env × St) : Option (Ex × Env × St) :=
 match x with
 | (.normal, ρ, s) => if fF base n (restrict keep ρ) s then rc D base (.loop keep b) (restrict keep ρ) { s with loc := s.loc.take n } else none
 | x => some x
theorem vY {n : Nat} {keep : List Nat} {b : C} : io D base n keep b (.normal, ρ, s) = if fF base n (restrict keep ρ) s then rc D base (.loop keep b) (restrict keep ρ) { s with loc := s.loc.take n } else none := rfl
theorem Ff {n : Nat} {keep : List Nat} {b : C} : io D base n keep b (.ret, ρ, s) = some (.ret, ρ, s) := rfl
theorem Bp {n : Nat} {keep : List Nat} {b : C} {id : Nat} : io D base n keep b (.exit id, ρ, s) = some (.exit id, ρ, s) := rfl
theorem jH {ks : List Nat} {ρ : Env} {k : Nat} (h : k ∈ ks) : get (restrict ks ρ) k = get ρ k := by
 induction ks with
 | nil => cases h
 | cons j ks ih =>
  simp only [restrict, List.map_cons, get];by_cases hj : j = k
  ·rw [if_pos hj, hj]
  ·rw [if_neg hj];exact ih (by cases h with | head => exact absurd rfl hj | tail _ h => exact h)
theorem qW (ks : List Nat) (ρ : Env) : restrict ks (restrict ks ρ) = restrict ks ρ := by
 unfold restrict;apply List.map_congr_left;intro k hk;rw [show get (ks.map fun k => (k, get ρ k)) k = get ρ k from jH hk]
theorem rZ {keep : List Nat} {b : C} : rc D base (.loop keep b) ρ s = (rc D base b (restrict keep ρ) s).bind fun x => match x with
 | (.normal, ρ', s') => if fF base s.loc.length (restrict keep ρ') s' then rc D base (.loop keep b) ρ' { s' with loc := s'.loc.take s.loc.length } else none
 | x => some x := by
 simp only [rc]; rw [cY]; simp only [step];cases run D (.c base b (restrict keep ρ)) s with
 | none => rfl
 | some x =>
  cases x with
  | c e ρ' s' =>
   cases e with
   | normal =>
    simp only [Option.bind_some];by_cases hc : fF base s.loc.length (restrict keep ρ') s' = true
    ·rw [if_pos hc, if_pos hc]
    ·rw [if_neg hc, if_neg hc]
   | _ => rfl
  | _ => rfl
theorem rT {keep : List Nat} {b : C} : rc D base (.loop keep b) (restrict keep ρ) s = rc D base (.loop keep b) ρ s := by
 rw [rZ, rZ (ρ := ρ), qW]
theorem RD {keep : List Nat} {b : C} : rc D base (.loop keep b) ρ s = (rc D base b (restrict keep ρ) s).bind (io D base s.loc.length keep b) := by
 rw [rZ];congr 1;funext x;obtain ⟨e, ρ', s'⟩ := x;cases e with
 | normal => simp only [io, rT]
 | _ => rfl
theorem DX : ro D base [] ρ s = some (ρ, s) := by simp only [ro, cY, step]
noncomputable def rop (D : Nat → Option Fc) (base : Nat) (ρ : Env) (s : St) : Op' → Option (V × St)
 | .call f args => match f.ev ρ with
  | .fn g caps => rf D g (args.map (Opd.ev ρ) ++ caps) s
  | _ => none
 | .pcall f args => match f.ev ρ with
  | .fn g caps => if pOk base (bc base (args.map (Opd.ev ρ) ++ caps)) (args.map (Opd.ev ρ) ++ caps) s = true then
   (rf D g (args.map (Opd.ev ρ) ++ caps) (s.cut (bc base (args.map (Opd.ev ρ) ++ caps)))).bind fun x => if x.2 = s.cut (bc base (args.map (Opd.ev ρ) ++ caps)) ∧ x.1.flat = true then some (x.1, s) else none
   else none
  | _ => none
 | .callw f args w => if nA s (w.ev ρ) = true then
  match f.ev ρ with
  | .fn g caps => rf D g (args.map (Opd.ev ρ) ++ caps) s
  | _ => none
  else none
 | .callk p f args => match f.ev ρ with
  | .fn g caps => if pOk base (bc base (args.map (Opd.ev ρ) ++ caps)) (args.map (Opd.ev ρ) ++ caps) s = true then
   (rf D g (args.map (Opd.ev ρ) ++ caps) (s.cut (bc base (args.map (Opd.ev ρ) ++ caps)))).bind fun x => if wO p (s.cut (bc base (args.map (Opd.ev ρ) ++ caps))) x.2 then some (x.1, { x.2 with loc := s.loc }) else none
   else none
  | _ => none
 | o => evOp base ρ s o
theorem GZ {o : Op'} : al (run D) base ρ s o = rop D base ρ s o := by
 cases o with
 | call f args =>
  simp only [al, rop];cases f.ev ρ with
  | fn g caps =>
   simp only [rf];cases run D (.f g (args.map (Opd.ev ρ) ++ caps)) s with
   | none => rfl
   | some x => cases x <;> rfl
  | _ => rfl
 | pcall f args =>
  simp only [al, rop];cases f.ev ρ with
  | fn g caps =>
   simp only [rf];split
   ·cases run D (.f g (args.map (Opd.ev ρ) ++ caps)) (s.cut (bc base (args.map (Opd.ev ρ) ++ caps))) with
    | none => rfl
    | some x => cases x <;> rfl
   ·rfl
  | _ => rfl
 | callw f args w =>
  simp only [al, rop];split
  ·cases f.ev ρ with
   | fn g caps =>
    simp only [rf];cases run D (.f g (args.map (Opd.ev ρ) ++ caps)) s with
    | none => rfl
    | some x => cases x <;> rfl
   | _ => rfl
  ·rfl
 | callk p f args =>
  simp only [al, rop];cases f.ev ρ with
  | fn g caps =>
   simp only [rf];split
   ·cases run D (.f g (args.map (Opd.ev ρ) ++ caps)) (s.cut (bc base (args.map (Opd.ev ρ) ++ caps))) with
    | none => rfl
    | some x => cases x <;> rfl
   ·rfl
  | _ => rfl
 | _ => rfl
theorem qF {op : Op} {rest : List Op} : ro D base (op :: rest) ρ s = match aM op.guard ρ with
 | none => none
 | some false => ro D base rest (put op.dst (.tup []) ρ) s
 | some true => (rop D base ρ s op.op).bind fun x => ro D base rest (put op.dst x.1 ρ) x.2 := by
 unfold ro;rw [cY]; simp only [step, GZ];cases aM op.guard ρ with
 | none => rfl
 | some gb =>
  cases gb with
  | false => rfl
  | true =>
   cases rop D base ρ s op.op with
   | none => rfl
   | some x => rfl
def kc (n : Nat) (res : List RV) (x : Ex × Env × St) : Option (V × St) :=
 match x with
 | (.exit _, _, _) => none
 | (_, ρ, s) => match cj ρ s res with
  | some v => if v.locLt n ∧ n ≤ s.loc.length then some (v, { s with loc := s.loc.take n }) else none
  | none => none
theorem B4 {n : Nat} {res : List RV} : kc n res (.ret, ρ, s) = match cj ρ s res with
 | some v => if v.locLt n ∧ n ≤ s.loc.length then some (v, { s with loc := s.loc.take n }) else none
 | none => none := rfl
theorem xv {n : Nat} {res : List RV} : kc n res (.normal, ρ, s) = match cj ρ s res with
 | some v => if v.locLt n ∧ n ≤ s.loc.length then some (v, { s with loc := s.loc.take n }) else none
 | none => none := rfl
theorem Vo {f : Nat} {fc : Fc} (hf : D f = some fc) {args : List V} (hn : args.length = fc.n) :
 rf D f args s = (rc D s.loc.length fc.body (eh 0 args) s).bind (kc s.loc.length fc.res) := by
 unfold rf rc;rw [cY]; simp only [step, hf, hn, if_true];cases run D (.c s.loc.length fc.body (eh 0 args)) s with
 | none => rfl
 | some x =>
  cases x with
  | c e ρ' s' =>
   cases e with
   | exit _ => rfl
   | normal =>
    simp only [Option.bind_some, kc];cases cj ρ' s' fc.res with
    | none => rfl
    | some v =>
     simp only;by_cases hv : v.locLt s.loc.length = true ∧ s.loc.length ≤ s'.loc.length
     ·simp only [if_pos hv]
     ·simp only [if_neg hv]
   | ret =>
    simp only [Option.bind_some, kc];cases cj ρ' s' fc.res with
    | none => rfl
    | some v =>
     simp only;by_cases hv : v.locLt s.loc.length = true ∧ s.loc.length ≤ s'.loc.length
     ·simp only [if_pos hv]
     ·simp only [if_neg hv]
  | _ => rfl
end
end Go.Ab
namespace Go.Ab
variable {D : Nat → Option Fc} {base : Nat} {ρ : Env} {s : St}
theorem nd {α : Sort _} {a b : α} (h : a = b) : a = b := h
def aa {α β : Type} (x : Option α) (f : α → Option β) : Option β := x.bind f
theorem aS {α β : Type} {a : α} {f : α → Option β} : aa (some a) f = f a := nd rfl
theorem AZ {α β : Type} {f : α → Option β} : aa none f = none := nd rfl
@[congr] theorem U0 {α β : Type} {x y : Option α} {f : α → Option β} (h : x = y) : aa x f = aa y f := by rw [h]
theorem qt {α β : Type} {c : Prop} [Decidable c] {x y : Option α} {f : α → Option β} : aa (if c then x else y) f = if c then aa x f else aa y f := by split <;> rfl
def mN {α : Type} (v : V) (f : Bool → Option α) : Option α := match v with | .bool t => f t | _ => none
theorem AK {α : Type} {t : Bool} {f : Bool → Option α} : mN (.bool t) f = f t := nd rfl
@[congr] theorem U1 {α : Type} {v w : V} {f : Bool → Option α} (h : v = w) : mN v f = mN w f := by rw [h]
theorem GR {a b : C} : rc D base (.seq a b) ρ s = aa (rc D base a ρ s) (andThen D base b) := Uh
def mq (id : Nat) (x : Ex × Env × St) : Option (Ex × Env × St) := some (J3 id x)
theorem vB {id : Nat} : mq id (.normal, ρ, s) = some (.normal, ρ, s) := nd rfl
theorem AY {id : Nat} : mq id (.ret, ρ, s) = some (.ret, ρ, s) := nd rfl
theorem yC {id id' : Nat} : mq id (.exit id', ρ, s) = some (if id' = id then .normal else .exit id', ρ, s) := nd rfl
theorem Bv {id : Nat} {b : C} : rc D base (.block id b) ρ s = aa (rc D base b ρ s) (mq id) := Hy
theorem ap {keep : List Nat} {b : C} : rc D base (.loop keep b) ρ s = aa (rc D base b (restrict keep ρ) s) (io D base s.loc.length keep b) := RD
theorem ag {f : Nat} {fc : Fc} (hf : D f = some fc) {args : List V} (hn : args.length = fc.n) :
 rf D f args s = aa (rc D s.loc.length fc.body (eh 0 args) s) (kc s.loc.length fc.res) := Vo hf hn
theorem EM {x : Opd} {a b : C} : rc D base (.cond x a b) ρ s = mN (x.ev ρ) fun t => if t then rc D base a ρ s else rc D base b ρ s := by
 rw [Rv];cases x.ev ρ <;> rfl
def a7 (ρ ρ' : Env) : Prop := ∀ t, get ρ t = get ρ' t
theorem a7.ev {ρ ρ' : Env} (h : a7 ρ ρ') : Opd.ev ρ = Opd.ev ρ' := by
 funext x;cases x with
 | t n => exact h n
 | k v => rfl
theorem a7.put {ρ ρ' : Env} (h : a7 ρ ρ') (d : Option Nat) (v : V) : a7 (put d v ρ) (put d v ρ') := by
 intro t;cases d with
 | none => exact h t
 | some k => simp only [Ab.put, get, h t]
theorem a7.evOp {ρ ρ' : Env} (h : a7 ρ ρ') (o : Op') : evOp base ρ s o = evOp base ρ' s o := by
 have he := h.ev;cases o <;> simp only [Ab.evOp, he]
theorem a7.rop {ρ ρ' : Env} (h : a7 ρ ρ') (o : Op') : rop D base ρ s o = rop D base ρ' s o := by
 have he := h.ev;cases o with
 | call f args => simp only [Ab.rop, he]
 | pcall f args => simp only [Ab.rop, he]
 | callw f args w => simp only [Ab.rop, he]
 | callk p f args => simp only [Ab.rop, he]
 | _ => simp only [Ab.rop]; exact h.evOp _
theorem a7.guard {ρ ρ' : Env} (h : a7 ρ ρ') (g : Option (Nat × Bool)) : aM g ρ = aM g ρ' := by
 cases g with
 | none => rfl
 | some x => simp only [aM, h x.1]
theorem a7.restrict {ρ ρ' : Env} (h : a7 ρ ρ') (ks : List Nat) : restrict ks ρ = restrict ks ρ' := by
 simp only [Ab.restrict, h _]
theorem a7.ro {ks : List Nat} : ∀ (l : List Op) {ρ ρ' : Env} {s : St}, a7 ρ ρ' → (ro D base l ρ s).bind (fun x => some (Ex.normal, Ab.restrict ks x.1, x.2)) = (ro D base l ρ' s).bind (fun x => some (Ex.normal, Ab.restrict ks x.1, x.2))
 | [], ρ, ρ', s, h => by simp only [DX, Option.bind_some, h.restrict]
 | op :: l, ρ, ρ', s, h => by
  rw [qF, qF, h.guard];cases aM op.guard ρ' with
  | none => rfl
  | some b =>
   cases b with
   | false => exact a7.ro l (h.put _ _)
   | true =>
    simp only [h.rop];cases Ab.rop D base ρ' s op.op with
    | none => rfl
    | some x => exact a7.ro l (h.put _ _)
theorem a7.of_get {t : Nat} {v : V} (h : get ρ t = v) : a7 ρ ((t, v) :: ρ) := by
 intro k;simp only [get];split
 ·rename_i e; rw [← e, h]
 ·rfl
noncomputable def rg (D : Nat → Option Fc) (base : Nat) (ks : List Nat) (l : List Op) (ρ : Env) (s : St) : Option (Ex × Env × St) :=
 (ro D base l ρ s).bind fun x => some (Ex.normal, restrict ks x.1, x.2)
theorem T3 {ks : List Nat} : rg D base ks [] ρ s = some (Ex.normal, restrict ks ρ, s) := by simp only [rg, DX, Option.bind_some]
theorem VV {ks : List Nat} {d : Option Nat} {o : Op'} {rest : List Op} : rg D base ks (⟨d, none, o⟩ :: rest) ρ s = aa (rop D base ρ s o) fun x => rg D base ks rest (put d x.1 ρ) x.2 := by
 simp only [rg];rw [qF];simp only [aM];cases rop D base ρ s o <;> rfl
def an {α : Type} (v : V) (b : Bool) (A B C : Option α) : Option α :=
 match v with
 | .bool x => if x = b then A else B
 | .tup [] => C
 | _ => none
theorem yg {α : Type} {x b : Bool} {A B C : Option α} : an (.bool x) b A B C = if x = b then A else B := nd rfl
theorem Ac {α : Type} {b : Bool} {A B C : Option α} : an (.tup []) b A B C = C := nd rfl
@[congr] theorem TU {α : Type} {v w : V} {b : Bool} {A B C : Option α} (h : v = w) : an v b A B C = an w b A B C := by rw [h]
theorem tN {α : Type} {v : V} {b : Bool} {A B C A' B' C' : Option α} (hA : v = .bool b → A = A') (hB : v = .bool (!b) → B = B') (hC : v = .tup [] → C = C') : an v b A B C = an v b A' B' C' := by
 unfold an;split
 ·rename_i x;split
  ·rename_i h; exact hA (by rw [h])
  ·rename_i h; exact hB (by cases x <;> cases b <;> simp_all)
 ·exact hC rfl
 ·rfl
theorem V1 {ks : List Nat} {d : Option Nat} {t : Nat} {b : Bool} {o : Op'} {rest : List Op} : rg D base ks (⟨d, some (t, b), o⟩ :: rest) ρ s =
 an (get ρ t) b (aa (rop D base ρ s o) fun y => rg D base ks rest (put d y.1 ((t, .bool b) :: ρ)) y.2) (rg D base ks rest (put d (.tup []) ((t, .bool !b) :: ρ)) s) (rg D base ks rest (put d (.tup []) ((t, .tup []) :: ρ)) s) := by
 have h0 : rg D base ks (⟨d, some (t, b), o⟩ :: rest) ρ s = an (get ρ t) b (aa (rop D base ρ s o) fun y => rg D base ks rest (put d y.1 ρ) y.2) (rg D base ks rest (put d (.tup []) ρ) s) (rg D base ks rest (put d (.tup []) ρ) s) := by
  simp only [rg];rw [qF];simp only [aM];cases hv : get ρ t with
  | bool x =>
   simp only [an];by_cases hxb : x = b
   ·subst hxb;simp only [beq_self_eq_true, if_true];cases rop D base ρ s o <;> rfl
   ·have hxb' : (x == b) = false := by simp [hxb]
    simp only [hxb', if_neg hxb]
  | tup l => cases l <;> rfl
  | _ => rfl
 rw [h0];refine tN (fun hv => ?_) (fun hv => ?_) (fun hv => a7.ro rest ((a7.of_get hv).put _ _))
 ·cases rop D base ρ s o with
  | none => rfl
  | some y => exact a7.ro rest ((a7.of_get hv).put _ _)
 ·exact a7.ro rest ((a7.of_get hv).put _ _)
theorem Hu {t : Nat} {v : V} : put (some t) v ρ = (t, v) :: ρ := nd rfl
theorem GP {v : V} : put none v ρ = ρ := nd rfl
theorem GK {k t : Nat} {v : V} : get ((k, v) :: ρ) t = if k = t then v else get ρ t := nd rfl
theorem vX : restrict [] ρ = [] := nd rfl
theorem vr {k : Nat} {ks : List Nat} : restrict (k :: ks) ρ = (k, get ρ k) :: restrict ks ρ := nd rfl
theorem yy {ks : List Nat} : i6 (some ks) ρ = restrict ks ρ := nd rfl
theorem ym : i6 none ρ = ρ := nd rfl
theorem Wa {n : Nat} : Opd.ev ρ (.t n) = get ρ n := nd rfl
theorem Wf {v : V} : Opd.ev ρ (.k v) = v := nd rfl
theorem Ha {i : Nat} : eh i [] = [] := nd rfl
theorem C8 {i : Nat} {v : V} {l : List V} : eh i (v :: l) = (i, v) :: eh (i + 1) l := nd rfl
section ops
variable {x y a b c p i : Opd}
theorem QB : rop D base ρ s (.mv x) = some (x.ev ρ, s) := nd rfl
theorem yS : rop D base ρ s (.pick c a b) = mN (c.ev ρ) fun t => some (if t then a.ev ρ else b.ev ρ, s) := nd rfl
theorem vT {h : Bool} {z : V} : rop D base ρ s (.alloc h z) = some (.ptr (s.fresh h) [] z.tag, s.new h z) := nd rfl
theorem Ef {h : Bool} : rop D base ρ s (.box h x) = if (x.ev ρ).ok && aq h (x.ev ρ) then some (.ptr (s.fresh h) [] (x.ev ρ).tag, s.new h (x.ev ρ)) else none := nd rfl
def ldv (s : St) (t : Nat) : V → Option V
 | .ptr a path t' => if t' = t then s.read a path else none
 | _ => none
theorem SQ {t t' : Nat} {a : Loc} {path : List Nat} : ldv s t (.ptr a path t') = if t' = t then s.read a path else none := nd rfl
theorem Ar {t : Nat} : rop D base ρ s (.ld t p) = aa (ldv s t (p.ev ρ)) fun v => some (v, s) := by
 show evOp base ρ s (.ld t p) = _;simp only [evOp];cases p.ev ρ with
 | ptr a path t' =>
  simp only [ldv];split
  ·cases s.read a path <;> rfl
  ·rfl
 | _ => rfl
def stv (base : Nat) (s : St) (t : Nat) (x : V) : V → Option St
 | .ptr a path t' => if t' = t ∧ x.tag = t then s.write base a path x else none
 | _ => none
theorem RH {t t' : Nat} {a : Loc} {path : List Nat} {x : V} : stv base s t x (.ptr a path t') = if t' = t ∧ x.tag = t then s.write base a path x else none := nd rfl
theorem Bs {t : Nat} : rop D base ρ s (.st t p x) = aa (stv base s t (x.ev ρ) (p.ev ρ)) fun s' => some (.dead, s') := by
 show evOp base ρ s (.st t p x) = _;simp only [evOp];cases p.ev ρ with
 | ptr a path t' =>
  simp only [stv];split
  ·cases s.write base a path (x.ev ρ) <;> rfl
  ·rfl
 | _ => rfl
def ai : V → Option V
 | .ptr a p t => some (.ptr a p t)
 | .fn f l => some (.fn f l)
 | _ => none
theorem GF {t : Nat} {a : Loc} {path : List Nat} : ai (.ptr a path t) = some (.ptr a path t) := nd rfl
theorem Th {f : Nat} {l : List V} : ai (.fn f l) = some (.fn f l) := nd rfl
theorem y8 : rop D base ρ s (.nilc x) = aa (ai (x.ev ρ)) fun v => some (v, s) := by
 show evOp base ρ s (.nilc x) = _;simp only [evOp];cases x.ev ρ <;> rfl
theorem Fb {o : BinOp} : rop D base ρ s (.bin o x y) = aa (ab o (x.ev ρ) (y.ev ρ)) fun v => some (v, s) := by
 show evOp base ρ s (.bin o x y) = _;simp only [evOp];cases ab o (x.ev ρ) (y.ev ρ) <;> rfl
def eqv (neg : Bool) (t : Nat) (x y : V) : Option V := aa (cK t x y) fun b => some (.bool (if neg then !b else b))
theorem IE {neg : Bool} {t : Nat} : rop D base ρ s (.eq neg t x y) = aa (eqv neg t (x.ev ρ) (y.ev ρ)) fun v => some (v, s) := by
 show evOp base ρ s (.eq neg t x y) = _;simp only [evOp, eqv];cases cK t (x.ev ρ) (y.ev ρ) <;> rfl
theorem MM {o : UnOp} : rop D base ρ s (.un o x) = aa (vun o (x.ev ρ)) fun v => some (v, s) := by
 show evOp base ρ s (.un o x) = _;simp only [evOp];cases vun o (x.ev ρ) <;> rfl
def c9 (k : IntKind) : V → Option V
 | .int _ n => some (.int k (k.wrap n))
 | _ => none
theorem EU {k k' : IntKind} {n : Int} : c9 k (.int k' n) = some (.int k (k.wrap n)) := nd rfl
theorem z5 {k : IntKind} : rop D base ρ s (.conv k x) = aa (c9 k (x.ev ρ)) fun v => some (v, s) := by
 show evOp base ρ s (.conv k x) = _
 simp only [evOp];cases x.ev ρ <;> rfl
def vN (f : Nat) (caps : List V) : Option V := if caps.all (fun v => v.tag == 1) then some (.fn f caps) else none
theorem uY {f : Nat} {caps : List Opd} : rop D base ρ s (.mkfn f caps) = aa (vN f (caps.map (Opd.ev ρ))) fun v => some (v, s) := by
 show evOp base ρ s (.mkfn f caps) = _;simp only [evOp, vN];split <;> rfl
def to (h : Bool) (r e : Nat) (z : V) (s : St) : V → V → Option (V × St)
 | .int _ l, .int _ m => if 0 ≤ l ∧ l ≤ m ∧ m ≤ eV then
  some (.sl (s.fresh h) [] 0 l.toNat (some m.toNat) e, s.new h (.agg r (List.replicate l.toNat z)))
  else none
 | _, _ => none
theorem uP {h : Bool} {r e : Nat} {z : V} {n c : Opd} : rop D base ρ s (.mksl h r e z n c) = to h r e z s (n.ev ρ) (c.ev ρ) := by
 show evOp base ρ s (.mksl h r e z n c) = _;simp only [evOp];cases n.ev ρ with
 | int _ _ => cases c.ev ρ <;> rfl
 | _ => rfl
def gP (e : Nat) (lo hi mx : Option V) : V → Option V
 | .sl a path off len cap e' => if e' = e then
  aa (aj (cap.getD len) mx (cap.getD len)) fun m => aa (aj (jf mx.isSome m len) hi len) fun h => aa (aj h lo 0) fun l =>
   some (.sl a path (off + l) (h - l) (mf mx.isSome cap (m - l)) e)
  else none
 | .nils => aa (aj 0 mx 0) fun _ => aa (aj 0 hi 0) fun _ => aa (aj 0 lo 0) fun _ => some .nils
 | _ => none
theorem FF {e : Nat} {lo hi mx : Option Opd} : rop D base ρ s (.slc e x lo hi mx) = aa (gP e (lo.map (Opd.ev ρ)) (hi.map (Opd.ev ρ)) (mx.map (Opd.ev ρ)) (x.ev ρ)) fun v => some (v, s) := by
 show evOp base ρ s (.slc e x lo hi mx) = _;simp only [evOp];cases x.ev ρ with
 | sl a path off len cap e' =>
  simp only [gP];by_cases he : e' = e
  ·simp only [if_pos he, Option.isSome_map];cases h1 : aj (cap.getD len) (mx.map (Opd.ev ρ)) (cap.getD len) with
   | none => rfl
   | some m =>
    simp only [aS];cases h2 : aj (jf mx.isSome m len) (hi.map (Opd.ev ρ)) len with
    | none => rfl
    | some h =>
     simp only [aS];cases h3 : aj h (lo.map (Opd.ev ρ)) 0 <;> rfl
  ·simp only [if_neg he]; rfl
 | nils =>
  simp only [gP];cases aj 0 (mx.map (Opd.ev ρ)) 0 <;> cases aj 0 (hi.map (Opd.ev ρ)) 0 <;> cases aj 0 (lo.map (Opd.ev ρ)) 0 <;> rfl
 | _ => rfl
def tJ (lo hi : Option V) : V → Option V
 | .str b => aa (aj b.size hi b.size) fun h => aa (aj h lo 0) fun l => some (.str (b.extract l h))
 | _ => none
theorem tj {lo hi : Option Opd} : rop D base ρ s (.slstr x lo hi) = aa (tJ (lo.map (Opd.ev ρ)) (hi.map (Opd.ev ρ)) (x.ev ρ)) fun v => some (v, s) := by
 show evOp base ρ s (.slstr x lo hi) = _;simp only [evOp];cases x.ev ρ with
 | str b =>
  simp only [tJ];cases aj b.size (hi.map (Opd.ev ρ)) b.size with
  | none => rfl
  | some h => simp only [aS]; cases aj h (lo.map (Opd.ev ρ)) 0 <;> rfl
 | _ => rfl
def jW (s : St) (t n e : Nat) (lo hi mx : Option V) : V → Option V
 | .ptr a path t' => if t' = t ∧ (s.read a path).isSome = true then aa (aj n mx n) fun m => aa (aj m hi n) fun h => aa (aj h lo 0) fun l => some (.sl a path l (h - l) (some (m - l)) e) else none
 | _ => none
theorem xC {t n e : Nat} {lo hi mx : Option Opd} : rop D base ρ s (.slarr t n e x lo hi mx) = aa (jW s t n e (lo.map (Opd.ev ρ)) (hi.map (Opd.ev ρ)) (mx.map (Opd.ev ρ)) (x.ev ρ)) fun v => some (v, s) := by
 show evOp base ρ s (.slarr t n e x lo hi mx) = _;simp only [evOp];cases x.ev ρ with
 | ptr a path t' =>
  simp only [jW];by_cases he : t' = t ∧ (s.read a path).isSome = true
  ·simp only [if_pos he];cases aj n (mx.map (Opd.ev ρ)) n with
   | none => rfl
   | some m =>
    simp only [aS];cases aj m (hi.map (Opd.ev ρ)) n with
    | none => rfl
    | some h => simp only [aS]; cases aj h (lo.map (Opd.ev ρ)) 0 <;> rfl
  ·simp only [if_neg he]; rfl
 | _ => rfl
def ae (t f c : Nat) : V → Option V
 | .ptr a path t' => if t' = t then some (.ptr a (path ++ [f]) c) else none
 | _ => none
theorem Cn {t f c : Nat} : rop D base ρ s (.fad t f c x) = aa (ae t f c (x.ev ρ)) fun v => some (v, s) := by
 show evOp base ρ s (.fad t f c x) = _;simp only [evOp];cases x.ev ρ with
 | ptr a path t' => simp only [ae]; split <;> rfl
 | _ => rfl
def aY (t n e : Nat) : V → V → Option V
 | .ptr a path t', .int _ j => if t' = t ∧ 0 ≤ j ∧ j < n then some (.ptr a (path ++ [j.toNat]) e) else none
 | _, _ => none
theorem Ci {t n e : Nat} : rop D base ρ s (.iad t n e x i) = aa (aY t n e (x.ev ρ) (i.ev ρ)) fun v => some (v, s) := by
 show evOp base ρ s (.iad t n e x i) = _;simp only [evOp];cases x.ev ρ with
 | ptr a path t' =>
  cases i.ev ρ with
  | int k j => simp only [aY]; split <;> rfl
  | _ => rfl
 | _ => rfl
def d6 (e : Nat) : V → V → Option V
 | .sl a path off len _ e', .int _ j => if e' = e ∧ 0 ≤ j ∧ j < len then some (.ptr a (path ++ [off + j.toNat]) e) else none
 | _, _ => none
def sm (n e : Nat) : V → Option V
 | .sl a path off len _ e' => if e' = e ∧ 0 < n ∧ n ≤ len then some (.ptr a (path ++ [off]) e) else none
 | _ => none
theorem Ed {n e : Nat} : rop D base ρ s (.s2a n e x) = aa (sm n e (x.ev ρ)) fun v => some (v, s) := by
 show evOp base ρ s (.s2a n e x) = _;simp only [evOp];cases x.ev ρ with
 | sl a path off len cap e' => simp only [sm]; split <;> rfl
 | _ => rfl
def rY (s : St) (t n e u : Nat) : V → Option V
 | .ptr a q e' => if e' = e then (s.part n u a q).map (.agg t) else none
 | _ => none
theorem D8 {t n e u : Nat} : rop D base ρ s (.ldr t n e u x) = aa (rY s t n e u (x.ev ρ)) fun v => some (v, s) := by
 show evOp base ρ s (.ldr t n e u x) = _;simp only [evOp];cases x.ev ρ with
 | ptr a q e' =>
  simp only [rY];split
  ·cases s.part n u a q <;> rfl
  ·rfl
 | _ => rfl
theorem Di {e : Nat} : rop D base ρ s (.sad e x i) = aa (d6 e (x.ev ρ) (i.ev ρ)) fun v => some (v, s) := by
 show evOp base ρ s (.sad e x i) = _;simp only [evOp];cases x.ev ρ with
 | sl a path off len cap e' =>
  cases i.ev ρ with
  | int k j => simp only [d6]; split <;> rfl
  | _ => rfl
 | _ => rfl
def AX (t f : Nat) : V → Option V
 | .agg t' l => if t' = t then l[f]? else none
 | _ => none
theorem E2 {t f : Nat} : rop D base ρ s (.fld t f x) = aa (AX t f (x.ev ρ)) fun v => some (v, s) := by
 show evOp base ρ s (.fld t f x) = _;simp only [evOp];cases x.ev ρ with
 | agg t' l => simp only [AX]; split <;> (first | rfl | (cases l[f]? <;> rfl))
 | _ => rfl
def iq (t n : Nat) : V → V → Option V
 | .agg t' l, .int _ j => if t' = t ∧ 0 ≤ j ∧ j < n then l[j.toNat]? else none
 | _, _ => none
theorem Ej {t n : Nat} : rop D base ρ s (.idx t n x i) = aa (iq t n (x.ev ρ) (i.ev ρ)) fun v => some (v, s) := by
 show evOp base ρ s (.idx t n x i) = _;simp only [evOp];cases x.ev ρ with
 | agg t' l =>
  cases i.ev ρ with
  | int k j => simp only [iq]; split <;> (first | rfl | (cases l[j.toNat]? <;> rfl))
  | _ => rfl
 | _ => rfl
def vH : V → V → Option V
 | .str b, .int _ j => if 0 ≤ j then (b[j.toNat]?).map fun c => .int .u8 c.toNat else none
 | _, _ => none
theorem zs : rop D base ρ s (.sidx x i) = aa (vH (x.ev ρ) (i.ev ρ)) fun v => some (v, s) := by
 show evOp base ρ s (.sidx x i) = _;simp only [evOp];cases x.ev ρ with
 | str b =>
  cases i.ev ρ with
  | int k j =>
   simp only [vH];by_cases hj : 0 ≤ j
   ·simp only [if_pos hj]; cases b[j.toNat]? <;> rfl
   ·simp only [if_neg hj]; rfl
  | _ => rfl
 | _ => rfl
def aF (n : Nat) : V → Option V
 | .tup l => l[n]?
 | _ => none
theorem GO {l : List V} {n : Nat} : aF n (.tup l) = l[n]? := nd rfl
theorem Dg {n : Nat} : rop D base ρ s (.ext x n) = aa (aF n (x.ev ρ)) fun v => some (v, s) := by
 show evOp base ρ s (.ext x n) = _;simp only [evOp];cases x.ev ρ with
 | tup l => simp only [aF]; cases l[n]? <;> rfl
 | _ => rfl
theorem zT {n : Nat} : rop D base ρ s (.lenk n) = some (.int .i64 n, s) := nd rfl
theorem CO {q : Bool} : rop D base ρ s (.len q x) = aa (V.slen q (x.ev ρ)) fun n => some (.int .i64 n, s) := by
 show evOp base ρ s (.len q x) = _;simp only [evOp];cases V.slen q (x.ev ρ) <;> rfl
theorem E0 {e : Nat} : rop D base ρ s (.cpy e x y) = iO base e (x.ev ρ) (y.ev ρ) s := nd rfl
theorem Ck {mx : Bool} : rop D base ρ s (.mnx mx x y) = aa (i5 mx (x.ev ρ) (y.ev ρ)) fun v => some (v, s) := by
 show evOp base ρ s (.mnx mx x y) = _;simp only [evOp];cases i5 mx (x.ev ρ) (y.ev ρ) <;> rfl
theorem Do {h : Bool} {r e : Nat} : rop D base ρ s (.app h r e x y) = aG base h r e (x.ev ρ) (y.ev ρ) s := nd rfl
theorem CY {t : Nat} {l : List V} {ps : List (Nat × Opd)} : rop D base ρ s (.bld (.agg t l) ps) = aa (ak l (ps.map fun p => (p.1, p.2.ev ρ))) fun l' => some (.agg t l', s) := by
 show evOp base ρ s (.bld (.agg t l) ps) = _;simp only [evOp];cases ak l (ps.map fun p => (p.1, p.2.ev ρ)) <;> rfl
def m8 (h : Bool) (r e n : Nat) (z : V) (s : St) (ps : List (Nat × V)) : Option (V × St) :=
 aa (ak (List.replicate n z) ps) fun l' => if (e % 2 = 0 ∨ aq h (.agg 1 l')) then some (.sl (s.fresh h) [] 0 n (some n) e, s.new h (.agg r l')) else none
theorem xn {h : Bool} {r e n : Nat} {z : V} {ps : List (Nat × Opd)} : rop D base ρ s (.bsl h r e z n ps) = m8 h r e n z s (ps.map fun p => (p.1, p.2.ev ρ)) := by
 show evOp base ρ s (.bsl h r e z n ps) = _;simp only [evOp, m8];cases ak (List.replicate n z) (ps.map fun p => (p.1, p.2.ev ρ)) <;> rfl
noncomputable def sC (D : Nat → Option Fc) (args : List V) (s : St) : V → Option (V × St)
 | .fn g caps => rf D g (args ++ caps) s
 | _ => none
theorem Gm {args : List V} {g : Nat} {caps : List V} : sC D args s (.fn g caps) = rf D g (args ++ caps) s := nd rfl
theorem zM {f : Opd} {args : List Opd} : rop D base ρ s (.call f args) = sC D (args.map (Opd.ev ρ)) s (f.ev ρ) := by
 simp only [rop];cases f.ev ρ <;> rfl
noncomputable def ix (D : Nat → Option Fc) (k base g : Nat) (as : List V) (s : St) : Option V :=
 if (V.locLts k as && (decide (base ≤ k) && (decide (k ≤ s.loc.length) && ((s.loc.take k).drop base).all (ch k)))) = true then
  aa (rf D g as ⟨s.loc.take k, s.hp⟩) fun x => if x.2 = ⟨s.loc.take k, s.hp⟩ ∧ x.1.flat = true then some x.1 else none
 else none
noncomputable def wH (D : Nat → Option Fc) (base : Nat) (args : List V) (s : St) : V → Option V
 | .fn g caps => ix D (bc base (args ++ caps)) base g (args ++ caps) s
 | _ => none
theorem Co {args : List V} {g : Nat} {caps : List V} : wH D base args s (.fn g caps) = ix D (bc base (args ++ caps)) base g (args ++ caps) s := nd rfl
theorem ww {f : Opd} {args : List Opd} : rop D base ρ s (.pcall f args) = aa (wH D base (args.map (Opd.ev ρ)) s (f.ev ρ)) fun v => some (v, s) := by
 simp only [rop];cases f.ev ρ with
 | fn g caps =>
  show (if pOk base (bc base (args.map (Opd.ev ρ) ++ caps)) (args.map (Opd.ev ρ) ++ caps) s = true then
   (rf D g (args.map (Opd.ev ρ) ++ caps) (s.cut (bc base (args.map (Opd.ev ρ) ++ caps)))).bind fun x => if x.2 = s.cut (bc base (args.map (Opd.ev ρ) ++ caps)) ∧ x.1.flat = true then some (x.1, s) else none
   else none) = aa (ix D (bc base (args.map (Opd.ev ρ) ++ caps)) base g (args.map (Opd.ev ρ) ++ caps) s) _
  generalize hk : bc base (args.map (Opd.ev ρ) ++ caps) = k;unfold ix;by_cases hp : pOk base k (args.map (Opd.ev ρ) ++ caps) s = true
  ·rw [if_pos hp, if_pos (show (_ && _) = true from hp)]
   show (rf D g (args.map (Opd.ev ρ) ++ caps) ⟨s.loc.take k, s.hp⟩).bind _ = _;cases rf D g (args.map (Opd.ev ρ) ++ caps) ⟨s.loc.take k, s.hp⟩ with
   | none => rfl
   | some x =>
    show (if x.2 = s.cut k ∧ x.1.flat = true then some (x.1, s) else none) = aa (if x.2 = s.cut k ∧ x.1.flat = true then some x.1 else none) _
    by_cases hx : x.2 = s.cut k ∧ x.1.flat = true
    ·rw [if_pos hx, if_pos hx]; rfl
    ·rw [if_neg hx, if_neg hx]; rfl
  ·rw [if_neg hp, if_neg (show ¬ ((_ && _) = true) from hp)]; rfl
 | _ => rfl
theorem HL {k : IntKind} {n : Int} : V.flat (.int k n) = true := nd rfl
theorem BU {b : Bool} : V.flat (.bool b) = true := nd rfl
theorem FJ {b : ByteArray} : V.flat (.str b) = true := nd rfl
theorem FQ {t : Nat} {l : List V} : V.flat (.agg t l) = V.flats l := nd rfl
theorem HE {l : List V} : V.flat (.tup l) = V.flats l := nd rfl
theorem EG : V.flats [] = true := nd rfl
theorem AU {v : V} {l : List V} : V.flats (v :: l) = (v.flat && V.flats l) := nd rfl
theorem l6 {l : List V} (h : ∀ v ∈ l, v.flat = true) : V.flats l = true := by
 induction l with
 | nil => rfl
 | cons a l ih => simp only [V.flats, Bool.and_eq_true]; exact ⟨h a (by simp), ih fun v hv => h v (by simp [hv])⟩
theorem yM {l : List Bool} : V.flats (l.map V.bool) = true := l6 fun v hv => by obtain ⟨b, _, rfl⟩ := List.mem_map.1 hv; rfl
theorem Ax {k : IntKind} {l : List Int} : V.flats (l.map (V.int k)) = true := l6 fun v hv => by obtain ⟨b, _, rfl⟩ := List.mem_map.1 hv; rfl
def o5 (base : Nat) (s : St) (t : Nat) (x p : V) (l : List V) : Option St := if l.all (fun y => eo y p) = true then stv base s t x p else none
theorem DI {t : Nat} {l : List Opd} : rop D base ρ s (.sta t p x l) = aa (o5 base s t (x.ev ρ) (p.ev ρ) (l.map (Opd.ev ρ))) fun s' => some (.dead, s') := by
 show evOp base ρ s (.sta t p x l) = _;simp only [evOp, o5, List.all_map];show (if (l.all fun y => eo (y.ev ρ) (p.ev ρ)) = true then _ else none) = aa (if (l.all fun y => eo (y.ev ρ) (p.ev ρ)) = true then _ else none) _
 split
 ·have := @Bs D base ρ s x p t;exact this
 ·rfl
def uh (s : St) (t : Nat) (p r : V) : Option V := if iN r p = true then ldv s t p else none
theorem C6 {t : Nat} {r : Opd} : rop D base ρ s (.lda t p r) = aa (uh s t (p.ev ρ) (r.ev ρ)) fun v => some (v, s) := by
 show evOp base ρ s (.lda t p r) = _;simp only [evOp, uh];show (if iN (r.ev ρ) (p.ev ρ) = true then _ else none) = _
 split
 ·exact @Ar D base ρ s p t
 ·rfl
theorem B5 {a b : Loc} {q r : List Nat} {t u : Nat} : iN (.ptr a q t) (.ptr b r u) = decide (a = b) := nd rfl
noncomputable def sW (D : Nat → Option Fc) (args : List V) (s : St) (w f : V) : Option (V × St) := if nA s w = true then sC D args s f else none
theorem wY {f w : Opd} {args : List Opd} : rop D base ρ s (.callw f args w) = sW D (args.map (Opd.ev ρ)) s (w.ev ρ) (f.ev ρ) := by
 simp only [rop, sW];split
 ·cases f.ev ρ <;> rfl
 ·rfl
noncomputable def wS (D : Nat → Option Fc) (p : Bool) (k base g : Nat) (as : List V) (s : St) : Option (V × St) :=
 if (V.locLts k as && (decide (base ≤ k) && (decide (k ≤ s.loc.length) && ((s.loc.take k).drop base).all (ch k)))) = true then
  aa (rf D g as ⟨s.loc.take k, s.hp⟩) fun x => if x.2.loc = s.loc.take k ∧ (p = true → x.2.hp.take s.hp.length = s.hp) then some (x.1, ⟨s.loc, x.2.hp⟩) else none
 else none
noncomputable def xK (D : Nat → Option Fc) (p : Bool) (base : Nat) (args : List V) (s : St) : V → Option (V × St)
 | .fn g caps => wS D p (bc base (args ++ caps)) base g (args ++ caps) s
 | _ => none
theorem Dr {p : Bool} {args : List V} {g : Nat} {caps : List V} : xK D p base args s (.fn g caps) = wS D p (bc base (args ++ caps)) base g (args ++ caps) s := nd rfl
theorem xf {p : Bool} {f : Opd} {args : List Opd} : rop D base ρ s (.callk p f args) = xK D p base (args.map (Opd.ev ρ)) s (f.ev ρ) := by
 simp only [rop];cases f.ev ρ with
 | fn g caps => rfl
 | _ => rfl
def Ap (s : St) (t : Nat) : V → Option V
 | .ptr (.loc i) q t' => if t' = t then s.read (.loc i) q else none
 | _ => none
theorem Hc {i : Nat} {q : List Nat} {t t' : Nat} : Ap s t (.ptr (.loc i) q t') = if t' = t then s.read (.loc i) q else none := nd rfl
theorem E4 {t : Nat} : rop D base ρ s (.ldl t p) = aa (Ap s t (p.ev ρ)) fun v => some (v, s) := by
 show evOp base ρ s (.ldl t p) = _;simp only [evOp];cases p.ev ρ with
 | ptr a q t' =>
  cases a with
  | loc i =>
   simp only [Ap];split
   ·cases s.read (.loc i) q <;> rfl
   ·rfl
  | hp i => rfl
 | _ => rfl
def vO (base : Nat) (h : Bool) (r e : Nat) (s : St) (x y : V) (l : List V) : Option (V × St) := if l.all (fun z => fd z x) = true then aG base h r e x y s else none
theorem yZ {h : Bool} {r e : Nat} {x y : Opd} {l : List Opd} : rop D base ρ s (.appa h r e x y l) = vO base h r e s (x.ev ρ) (y.ev ρ) (l.map (Opd.ev ρ)) := by
 show evOp base ρ s (.appa h r e x y l) = _;simp only [evOp, vO, List.all_map];rfl
theorem GH {a b : Loc} {q r : List Nat} {t o l e : Nat} {c : Option Nat} : fd (.ptr a q t) (.sl b r o l c e) = decide (a ≠ b) := nd rfl
theorem Bg {a : Loc} {q : List Nat} {t : Nat} : fd (.ptr a q t) .nils = true := nd rfl
theorem HG {a : Loc} {q : List Nat} {t : Nat} : nA s (.ptr a q t) = (s.read a q).isSome := nd rfl
theorem C1 {a b : Loc} {q r : List Nat} {t u : Nat} : eo (.ptr a q t) (.ptr b r u) = decide (a ≠ b) := nd rfl
theorem Ro {i : Nat} {p : List Nat} {t : Nat} : V.lim1 (.ptr (.hp i) p t) = 0 := nd rfl
theorem Gj {i : Nat} {p : List Nat} {t : Nat} : V.lim1 (.ptr (.loc i) p t) = i + 1 := nd rfl
theorem RG {i : Nat} {p : List Nat} {o l : Nat} {c : Option Nat} {t : Nat} : V.lim1 (.sl (.loc i) p o l c t) = i + 1 := nd rfl
theorem FL {k : IntKind} {n : Int} : V.lim1 (.int k n) = 0 := nd rfl
theorem Dc {n : Bool} : V.lim1 (.bool n) = 0 := nd rfl
theorem Hq {t : Nat} {l : List V} : V.lim1 (.agg t l) = 0 := nd rfl
theorem Tf {t : Nat} {l : List V} : V.lim1 (.fn t l) = 0 := nd rfl
theorem GJ : qh base [] = base := nd rfl
theorem DN {v : V} {l : List V} : qh base (v :: l) = max v.lim1 (qh base l) := nd rfl
end ops
theorem m7 {α β γ : Type} {x : Option α} {f : α → Option β} {g : β → Option γ} : aa (aa x f) g = aa x fun a => aa (f a) g := by cases x <;> rfl
theorem yt {α β : Type} {v : V} {f : Bool → Option α} {g : α → Option β} : aa (mN v f) g = mN v fun t => aa (f t) g := by cases v <;> rfl
theorem CN {α β : Type} {c : Prop} [Decidable c] {x : Option α} {g : α → Option β} : aa (if c then x else none) g = if c then aa x g else none := by split <;> rfl
theorem uF {α β : Type} {x : Option α} {f g : α → Option β} (h : ∀ a, f a = g a) : aa x f = aa x g := by cases x <;> simp only [aa, Option.bind_none, Option.bind_some, h]
noncomputable def r1 (D : Nat → Option Fc) (base : Nat) (ρ : Env) (s : St) {α : Type} (o : Op') (K : V → St → Option α) : Option α :=
 match o with
 | .mv x => K (x.ev ρ) s
 | .pick c a b => mN (c.ev ρ) fun t => K (if t then a.ev ρ else b.ev ρ) s
 | .alloc h z => K (.ptr (s.fresh h) [] z.tag) (s.new h z)
 | .box h x => if (x.ev ρ).ok && aq h (x.ev ρ) then K (.ptr (s.fresh h) [] (x.ev ρ).tag) (s.new h (x.ev ρ)) else none
 | .ld t p => aa (ldv s t (p.ev ρ)) fun v => K v s
 | .st t p x => aa (stv base s t (x.ev ρ) (p.ev ρ)) fun s' => K .dead s'
 | .nilc x => aa (ai (x.ev ρ)) fun v => K v s
 | .bin o x y => aa (ab o (x.ev ρ) (y.ev ρ)) fun v => K v s
 | .un o x => aa (vun o (x.ev ρ)) fun v => K v s
 | .conv k x => aa (c9 k (x.ev ρ)) fun v => K v s
 | .fad t f c x => aa (ae t f c (x.ev ρ)) fun v => K v s
 | .iad t n e x i => aa (aY t n e (x.ev ρ) (i.ev ρ)) fun v => K v s
 | .sad e x i => aa (d6 e (x.ev ρ) (i.ev ρ)) fun v => K v s
 | .fld t f x => aa (AX t f (x.ev ρ)) fun v => K v s
 | .s2a n e x => aa (sm n e (x.ev ρ)) fun v => K v s
 | .ldr t n e u x => aa (rY s t n e u (x.ev ρ)) fun v => K v s
 | .idx t n x i => aa (iq t n (x.ev ρ) (i.ev ρ)) fun v => K v s
 | .sidx x i => aa (vH (x.ev ρ) (i.ev ρ)) fun v => K v s
 | .ext x n => aa (aF n (x.ev ρ)) fun v => K v s
 | .lenk n => K (.int .i64 n) s
 | .len q x => aa (V.slen q (x.ev ρ)) fun n => K (.int .i64 n) s
 | .slc e x lo hi mx => aa (gP e (lo.map (Opd.ev ρ)) (hi.map (Opd.ev ρ)) (mx.map (Opd.ev ρ)) (x.ev ρ)) fun v => K v s
 | .slarr t n e x lo hi mx => aa (jW s t n e (lo.map (Opd.ev ρ)) (hi.map (Opd.ev ρ)) (mx.map (Opd.ev ρ)) (x.ev ρ)) fun v => K v s
 | .eq neg t x y => aa (eqv neg t (x.ev ρ) (y.ev ρ)) fun v => K v s
 | .mkfn f caps => aa (vN f (caps.map (Opd.ev ρ))) fun v => K v s
 | .slstr x lo hi => aa (tJ (lo.map (Opd.ev ρ)) (hi.map (Opd.ev ρ)) (x.ev ρ)) fun v => K v s
 | .mksl h r e z n c => aa (to h r e z s (n.ev ρ) (c.ev ρ)) fun x => K x.1 x.2
 | .app h r e x y => aa (aG base h r e (x.ev ρ) (y.ev ρ) s) fun x => K x.1 x.2
 | .bsl h r e z n ps => aa (m8 h r e n z s (ps.map fun p => (p.1, p.2.ev ρ))) fun x => K x.1 x.2
 | .cpy e x y => aa (iO base e (x.ev ρ) (y.ev ρ) s) fun x => K x.1 x.2
 | .mnx mx x y => aa (i5 mx (x.ev ρ) (y.ev ρ)) fun v => K v s
 | .bld z ps => match z with
  | .agg t l => aa (ak l (ps.map fun p => (p.1, p.2.ev ρ))) fun l' => K (.agg t l') s
  | _ => none
 | .call f args => aa (sC D (args.map (Opd.ev ρ)) s (f.ev ρ)) fun x => K x.1 x.2
 | .pcall f args => aa (wH D base (args.map (Opd.ev ρ)) s (f.ev ρ)) fun v => K v s
 | .sta t p x l => aa (o5 base s t (x.ev ρ) (p.ev ρ) (l.map (Opd.ev ρ))) fun s' => K .dead s'
 | .callw f args w => aa (sW D (args.map (Opd.ev ρ)) s (w.ev ρ) (f.ev ρ)) fun x => K x.1 x.2
 | .lda t p r => aa (uh s t (p.ev ρ) (r.ev ρ)) fun v => K v s
 | .callk p f args => aa (xK D p base (args.map (Opd.ev ρ)) s (f.ev ρ)) fun x => K x.1 x.2
 | .ldl t p => aa (Ap s t (p.ev ρ)) fun v => K v s
 | .appa h r e x y l => aa (vO base h r e s (x.ev ρ) (y.ev ρ) (l.map (Opd.ev ρ))) fun x => K x.1 x.2
theorem EA {α : Type} {o : Op'} {K : V → St → Option α} : aa (rop D base ρ s o) (fun x => K x.1 x.2) = r1 D base ρ s o K := by
 cases o with
 | bld z ps =>
  cases z with
  | agg t l => simp only [r1, CY, m7, aS]
  | _ => rfl
 | pcall f args => simp only [r1, ww, m7, aS]
 | box h x => simp only [r1, Ef, CN, aS]
 | _ => simp only [r1, QB, yS, vT, Ar, Bs, y8, Fb, MM, z5, Cn, Ci, Di, E2, Ej, zs, Dg, zT, CO, FF, xC, zM, IE, uY, tj, uP, Do, E0, Ck, xn, DI, wY, C6, xf, E4, yZ, Ed, D8, m7, aS, yt]
noncomputable def rgO (D : Nat → Option Fc) (base : Nat) (ks : List Nat) : List Op → Env → St → Option (Ex × Env × St)
 | [], ρ, s => some (Ex.normal, restrict ks ρ, s)
 | op :: rest, ρ, s => match op.guard with
  | none => r1 D base ρ s op.op fun v s' => rgO D base ks rest (put op.dst v ρ) s'
  | some (t, b) => an (get ρ t) b (r1 D base ρ s op.op fun v s' => rgO D base ks rest (put op.dst v ((t, .bool b) :: ρ)) s') (rgO D base ks rest (put op.dst (.tup []) ((t, .bool !b) :: ρ)) s) (rgO D base ks rest (put op.dst (.tup []) ((t, .tup []) :: ρ)) s)
theorem ob {ks : List Nat} : ∀ {l : List Op} {ρ : Env} {s : St}, rg D base ks l ρ s = rgO D base ks l ρ s
 | [], ρ, s => by rw [T3]; rfl
 | ⟨d, none, o⟩ :: l, ρ, s => by
  rw [VV];simp only [rgO];rw [← EA];exact uF fun x => ob
 | ⟨d, some (t, b), o⟩ :: l, ρ, s => by
  rw [V1];simp only [rgO];refine tN (fun _ => ?_) (fun _ => ob) (fun _ => ob);rw [← EA];exact uF fun x => ob
theorem Ge {ks : List Nat} {l : List Op} : rc D base (.reg (some ks) l) ρ s = rgO D base ks l ρ s := UZ.trans ob
theorem DF {ks : List Nat} {l : List Op} : rc D base (.regd (some ks) l) ρ s = rgO D base ks l ρ s := Sy.trans ob
theorem BD {y d : Nat} : aj y none d = some d := nd rfl
theorem Cx {y d : Nat} {k : IntKind} {i : Int} : aj y (some (.int k i)) d = if 0 ≤ i ∧ i ≤ y then some i.toNat else none := nd rfl
theorem yV : s.fresh true = .hp s.hp.length := nd rfl
theorem Rn : s.fresh false = .loc s.loc.length := nd rfl
theorem JQ {v : V} : s.new true v = ⟨s.loc, s.hp ++ [.rw v]⟩ := nd rfl
theorem Vr {v : V} : s.new false v = ⟨s.loc ++ [.rw v], s.hp⟩ := nd rfl
theorem FH {v : V} : aq false v = true := nd rfl
theorem rV {v : V} : aq true v = v.locLt 0 := nd rfl
def Blk.rd (p : List Nat) : Option Blk → Option V
 | some (.rw v) => V.at p v
 | some (.ro v) => V.at p v
 | _ => none
theorem Bo {p : List Nat} {v : V} : Blk.rd p (some (.rw v)) = V.at p v := nd rfl
theorem LY {p : List Nat} {v : V} : Blk.rd p (some (.ro v)) = V.at p v := nd rfl
theorem wT {i : Nat} {p : List Nat} : s.read (.loc i) p = Blk.rd p s.loc[i]? := nd rfl
theorem kC {i : Nat} {p : List Nat} : s.read (.hp i) p = Blk.rd p s.hp[i]? := nd rfl
def Blk.wr (p : List Nat) (x : V) : Option Blk → Option Blk
 | some (.rw v) => (V.setAt p x v).map .rw
 | _ => none
theorem U9 {p : List Nat} {x v : V} : Blk.wr p x (some (.rw v)) = (V.setAt p x v).map .rw := nd rfl
theorem DR {i : Nat} {p : List Nat} {x : V} : s.write base (.loc i) p x = if x.locLt 0 || decide (base ≤ i) then (Blk.wr p x s.loc[i]?).map fun b => ⟨s.loc.set i b, s.hp⟩ else none := by
 simp only [St.write, St.at];cases s.loc[i]? with
 | none => simp [Blk.wr]
 | some b =>
  cases b with
  |rw v =>
   simp only [Blk.wr];rw [show (x.locLt 0 || decide (base ≤ i)) = ea base (.loc i) x from rfl]
   by_cases hc : ea base (.loc i) x = true
   ·rw [if_pos hc, if_pos hc]; cases V.setAt p x v <;> rfl
   ·rw [if_neg hc, if_neg hc]
  | _ => simp [Blk.wr]
theorem GY {i : Nat} {p : List Nat} {x : V} : s.write base (.hp i) p x = if x.locLt 0 then (Blk.wr p x s.hp[i]?).map fun b => ⟨s.loc, s.hp.set i b⟩ else none := by
 simp only [St.write, St.at];cases s.hp[i]? with
 | none => simp [Blk.wr]
 | some b =>
  cases b with
  |rw v =>
   simp only [Blk.wr];rw [show x.locLt 0 = ea base (.hp i) x from rfl]
   by_cases hc : ea base (.hp i) x = true
   ·rw [if_pos hc, if_pos hc]; cases V.setAt p x v <;> rfl
   ·rw [if_neg hc, if_neg hc]
  | _ => simp [Blk.wr]
theorem th {v : V} : V.at [] v = some v := nd rfl
theorem zG {i : Nat} {p : List Nat} {t : Nat} {l : List V} : V.at (i :: p) (.agg t l) = aa l[i]? (V.at p) := by
 simp only [V.at]; cases l[i]? <;> rfl
theorem Fs {x v : V} : V.setAt [] x v = some x := nd rfl
theorem AT {i : Nat} {p : List Nat} {t : Nat} {l : List V} {x : V} : V.setAt (i :: p) x (.agg t l) = aa l[i]? fun y => aa (V.setAt p x y) fun y' => some (.agg t (l.set i y')) := by
 simp only [V.setAt];cases l[i]? with
 | none => rfl
 | some y => simp only [aS]; cases V.setAt p x y <;> rfl
theorem z6 {α : Type} {l m : List α} {i : Nat} : (l ++ m)[l.length + i]? = m[i]? := by rw [List.getElem?_append_right (Nat.le_add_right _ _), Nat.add_sub_cancel_left]
theorem FI {α : Type} {l m : List α} : (l ++ m)[l.length]? = m[0]? := z6 (i := 0)
theorem zU {α : Type} {l m : List α} {i : Nat} {x : α} : (l ++ m).set (l.length + i) x = l ++ m.set i x := by rw [List.set_append_right _ _ (Nat.le_add_right _ _), Nat.add_sub_cancel_left]
theorem oP {α : Type} {l m : List α} {x : α} : (l ++ m).set l.length x = l ++ m.set 0 x := zU (i := 0)
theorem FR {α : Type} {l m : List α} {i : Nat} : (l ++ m).take (l.length + i) = l ++ m.take i := by rw [List.take_append, List.take_of_length_le (Nat.le_add_right _ _), Nat.add_sub_cancel_left]
theorem Cb {α : Type} {l m : List α} : (l ++ m).take l.length = l := by rw [List.take_append]; simp
theorem Hj {α : Type} {l m : List α} : (l ++ m).drop l.length = m := List.drop_left
theorem AV {b : Nat} : V.locLts b [] = true := by simp only [V.locLts]
theorem yz {b : Nat} {v : V} {l : List V} : V.locLts b (v :: l) = (v.locLt b && V.locLts b l) := by simp only [V.locLts]
section
variable {b : Nat}
theorem SV {x : Bool} : V.locLt b (.bool x) = true := by simp only [V.locLt]
theorem UH {k : IntKind} {x : Int} : V.locLt b (.int k x) = true := by simp only [V.locLt]
theorem T9 {x : ByteArray} : V.locLt b (.str x) = true := by simp only [V.locLt]
theorem SF : V.locLt b .nilp = true := by simp only [V.locLt]
theorem S7 : V.locLt b .nils = true := by simp only [V.locLt]
theorem SG : V.locLt b .nilf = true := by simp only [V.locLt]
theorem Rs : V.locLt b .dead = true := by simp only [V.locLt]
theorem U8 {i : Nat} {p : List Nat} {t : Nat} : V.locLt b (.ptr (.hp i) p t) = true := by simp only [V.locLt]
theorem RF {i : Nat} {p : List Nat} {o l e : Nat} {c : Option Nat} : V.locLt b (.sl (.hp i) p o l c e) = true := by simp only [V.locLt]
theorem Ti {i : Nat} {p : List Nat} {t : Nat} : V.locLt b (.ptr (.loc i) p t) = decide (i < b) := by simp only [V.locLt]
theorem HI {i : Nat} {p : List Nat} {o l e : Nat} {c : Option Nat} : V.locLt b (.sl (.loc i) p o l c e) = decide (i < b) := by simp only [V.locLt]
theorem U6 {f : Nat} {l : List V} : V.locLt b (.fn f l) = V.locLts b l := by simp only [V.locLt]
theorem Ub {l : List V} : V.locLt b (.tup l) = V.locLts b l := by simp only [V.locLt]
theorem wt {t : Nat} {l : List V} : V.locLt b (.agg t l) = (t % 2 == 0 || V.locLts b l) := by simp only [V.locLt]
end
theorem GC {b : Nat} {v : V} : ch b (.rw v) = v.locLt b := nd rfl
theorem GA {b : Nat} {v : V} : ch b (.ro v) = v.locLt b := nd rfl
theorem Aq {b : Nat} : ch b .dead = true := nd rfl
theorem yL {n : Nat} {res : List RV} : kc n res (.ret, ρ, s) = aa (cj ρ s res) fun v => if v.locLt n ∧ n ≤ s.loc.length then some (v, { s with loc := s.loc.take n }) else none := by
 rw [B4]; cases cj ρ s res <;> rfl
theorem uk {n : Nat} {res : List RV} : kc n res (.normal, ρ, s) = aa (cj ρ s res) fun v => if v.locLt n ∧ n ≤ s.loc.length then some (v, { s with loc := s.loc.take n }) else none := by
 rw [xv]; cases cj ρ s res <;> rfl
theorem VY {n : Nat} : RV.ev ρ s (.t n) = some (get ρ n) := nd rfl
theorem S5 {n q : Nat} : RV.ev ρ s (.cell n q) = ldv s q (get ρ n) := by
 simp only [RV.ev];cases get ρ n <;> rfl
theorem Bl : cj ρ s [] = some (.tup []) := nd rfl
theorem Cp {r : RV} : cj ρ s [r] = RV.ev ρ s r := by
 simp only [cj, List.mapM_cons, List.mapM_nil];cases RV.ev ρ s r <;> rfl
theorem Er {r q : RV} : cj ρ s [r, q] = aa (RV.ev ρ s r) fun a => aa (RV.ev ρ s q) fun b => if a.ok && b.ok then some (.tup [a, b]) else none := by
 simp only [cj, List.mapM_cons, List.mapM_nil];cases RV.ev ρ s r with
 | none => rfl
 | some a =>
  cases RV.ev ρ s q with
  | none => rfl
  | some b => simp [List.all, aS]
theorem yA {r q p : RV} : cj ρ s [r, q, p] = aa (RV.ev ρ s r) fun a => aa (RV.ev ρ s q) fun b => aa (RV.ev ρ s p) fun c => if a.ok && b.ok && c.ok then some (.tup [a, b, c]) else none := by
 simp only [cj, List.mapM_cons, List.mapM_nil];cases RV.ev ρ s r with
 | none => rfl
 | some a =>
  cases RV.ev ρ s q with
  | none => rfl
  | some b =>
   cases RV.ev ρ s p with
   | none => rfl
   | some c => simp [List.all, Bool.and_assoc, aS]
section
variable {c : Prop} [Decidable c]
theorem Bz {ρ' : Env} {s' : St} : (if c then some (Ex.normal, ρ, s) else some (Ex.normal, ρ', s')) = some (Ex.normal, if c then ρ else ρ', if c then s else s') := by split <;> rfl
theorem Hr {id : Nat} {ρ' : Env} {s' : St} : (if c then some (Ex.exit id, ρ, s) else some (Ex.exit id, ρ', s')) = some (Ex.exit id, if c then ρ else ρ', if c then s else s') := by split <;> rfl
theorem RO {ρ' : Env} {s' : St} : (if c then some (Ex.ret, ρ, s) else some (Ex.ret, ρ', s')) = some (Ex.ret, if c then ρ else ρ', if c then s else s') := by split <;> rfl
theorem Sm {k : Nat} {v v' : V} {ρ' : Env} : (if c then (k, v) :: ρ else (k, v') :: ρ') = (k, if c then v else v') :: (if c then ρ else ρ') := by split <;> rfl
theorem Um {v v' : V} {s' : St} : (if c then some (v, s) else some (v', s')) = some (if c then v else v', if c then s else s') := by split <;> rfl
theorem Ee {a b : Bool} : (if c then V.bool a else V.bool b) = V.bool (if c then a else b) := by split <;> rfl
theorem Hp {k : IntKind} {a b : Int} : (if c then V.int k a else V.int k b) = V.int k (if c then a else b) := by split <;> rfl
theorem GB {t : Nat} {l l' : List V} : (if c then V.agg t l else V.agg t l') = V.agg t (if c then l else l') := by split <;> rfl
theorem HV {l l' : List V} : (if c then V.tup l else V.tup l') = V.tup (if c then l else l') := by split <;> rfl
theorem D3 {v v' : V} {l l' : List V} : (if c then v :: l else v' :: l') = (if c then v else v') :: (if c then l else l') := by split <;> rfl
theorem DP {v v' : Blk} {l l' : List Blk} : (if c then v :: l else v' :: l') = (if c then v else v') :: (if c then l else l') := by split <;> rfl
theorem R8 {v v' : V} : (if c then Blk.rw v else Blk.rw v') = Blk.rw (if c then v else v') := by split <;> rfl
theorem TX {l l' h h' : List Blk} : (if c then St.mk l h else St.mk l' h') = St.mk (if c then l else l') (if c then h else h') := by split <;> rfl
theorem Rz {l m m' : List Blk} : (if c then l ++ m else l ++ m') = l ++ (if c then m else m') := by split <;> rfl
theorem DB {b : C} {y : Option (Ex × Env × St)} : aa (if c then some (.ret, ρ, s) else y) (andThen D base b) = if c then some (.ret, ρ, s) else aa y (andThen D base b) := by split <;> rfl
theorem Bb {b : C} {y : Option (Ex × Env × St)} : aa (if c then y else some (.ret, ρ, s)) (andThen D base b) = if c then aa y (andThen D base b) else some (.ret, ρ, s) := by split <;> rfl
theorem BO {b : C} {y : Option (Ex × Env × St)} {id : Nat} : aa (if c then some (.exit id, ρ, s) else y) (andThen D base b) = if c then some (.exit id, ρ, s) else aa y (andThen D base b) := by split <;> rfl
theorem yw {b : C} {y : Option (Ex × Env × St)} {id : Nat} : aa (if c then y else some (.exit id, ρ, s)) (andThen D base b) = if c then aa y (andThen D base b) else some (.exit id, ρ, s) := by split <;> rfl
theorem yd {n : Nat} {res : List RV} {x y : Option (Ex × Env × St)} : aa (if c then x else y) (kc n res) = if c then aa x (kc n res) else aa y (kc n res) := qt
theorem yv {id : Nat} {x y : Option (Ex × Env × St)} : aa (if c then x else y) (mq id) = if c then aa x (mq id) else aa y (mq id) := qt
theorem yp {n : Nat} {keep : List Nat} {b : C} {x y : Option (Ex × Env × St)} : aa (if c then x else y) (io D base n keep b) = if c then aa x (io D base n keep b) else aa y (io D base n keep b) := qt
end
theorem UW : St.mk s.loc s.hp = s := nd rfl
theorem BK : s.elems .nils = some [] := nd rfl
def zV (off len : Nat) : Option V → Option (List V)
 | some (.agg _ l) => if off + len ≤ l.length then some ((l.drop off).take len) else none
 | _ => none
theorem yQ {off len t : Nat} {l : List V} : zV off len (some (.agg t l)) = if off + len ≤ l.length then some ((l.drop off).take len) else none := nd rfl
theorem FG {a : Loc} {path : List Nat} {off len : Nat} {cap : Option Nat} {e : Nat} : s.elems (.sl a path off len cap e) = if len = 0 then some [] else zV off len (s.read a path) := by
 simp only [St.elems];cases s.read a path with
 | none => rfl
 | some v => cases v <;> rfl
section
variable {a : Loc} {p : List Nat} {off len e e' t t' n f u : Nat} {cap : Option Nat} {k k' : IntKind} {j m : Int} {b : Bool} {sb sc : ByteArray} {l : List V} {lo hi mx : Option V} {o : BinOp}
theorem Dw : V.slen false .nils = some 0 := nd rfl
theorem RQ : V.slen false (.sl a p off len cap e) = some len := nd rfl
theorem Gk : V.slen true (.str sb) = some sb.size := nd rfl
theorem R3 : d6 e (.sl a p off len cap e') (.int k j) = if e' = e ∧ 0 ≤ j ∧ j < len then some (.ptr a (p ++ [off + j.toNat]) e) else none := nd rfl
theorem HX : aY t n e (.ptr a p t') (.int k j) = if t' = t ∧ 0 ≤ j ∧ j < n then some (.ptr a (p ++ [j.toNat]) e) else none := nd rfl
theorem Hi : ae t f u (.ptr a p t') = if t' = t then some (.ptr a (p ++ [f]) u) else none := nd rfl
theorem G0 : AX t f (.agg t' l) = if t' = t then l[f]? else none := nd rfl
theorem F0 : iq t n (.agg t' l) (.int k j) = if t' = t ∧ 0 ≤ j ∧ j < n then l[j.toNat]? else none := nd rfl
theorem EB : vH (.str sb) (.int k j) = if 0 ≤ j then (sb[j.toNat]?).map fun c => .int .u8 c.toNat else none := nd rfl
theorem Rw : gP e lo hi mx (.sl a p off len cap e') = if e' = e then
 aa (aj (cap.getD len) mx (cap.getD len)) fun m => aa (aj (jf mx.isSome m len) hi len) fun h => aa (aj h lo 0) fun l =>
  some (.sl a p (off + l) (h - l) (mf mx.isSome cap (m - l)) e) else none := nd rfl
theorem Ei : gP e lo hi mx .nils = aa (aj 0 mx 0) fun _ => aa (aj 0 hi 0) fun _ => aa (aj 0 lo 0) fun _ => some .nils := nd rfl
theorem BA : tJ lo hi (.str sb) = aa (aj sb.size hi sb.size) fun h => aa (aj h lo 0) fun l => some (.str (sb.extract l h)) := nd rfl
theorem Rc {n e e' off len : Nat} {a : Loc} {path : List Nat} {c : Option Nat} : sm n e (.sl a path off len c e') = if e' = e ∧ 0 < n ∧ n ≤ len then some (.ptr a (path ++ [off]) e) else none := nd rfl
theorem FX {n u e e' : Nat} {a : Loc} {q : List Nat} : rY s t n e u (.ptr a q e') = if e' = e then (s.part n u a q).map (.agg t) else none := nd rfl
theorem BH : jW s t n e lo hi mx (.ptr a p t') = if t' = t ∧ (s.read a p).isSome = true then aa (aj n mx n) fun m => aa (aj m hi n) fun h => aa (aj h lo 0) fun l => some (.sl a p l (h - l) (some (m - l)) e) else none := nd rfl
theorem FK : ab o (.int k j) (.int k' m) = if BinOp.isShift o then shf o k j m else if k = k' then ui o k j m else none := nd rfl
theorem GG : ab o (.str sb) (.str sc) = uv o sb sc := nd rfl
theorem RT : vun .not (.bool b) = some (.bool !b) := nd rfl
theorem SA : vun .neg (.int k j) = some (.int k (k.wrap (0 - j))) := nd rfl
theorem SK : vun .xor (.int k j) = some (.int k (kp k (if k.signed then -1 else k.max) j)) := nd rfl
theorem FN : i5 b (.int k j) (.int k' m) = if k = k' then some (.int k (if b then max j m else min j m)) else none := nd rfl
theorem Ey {h : Bool} {r : Nat} {z : V} : to h r e z s (.int k j) (.int k' m) = if 0 ≤ j ∧ j ≤ m ∧ m ≤ eV then
 some (.sl (s.fresh h) [] 0 j.toNat (some m.toNat) e, s.new h (.agg r (List.replicate j.toNat z))) else none := nd rfl
theorem G8 : V.tag (.bool b) = 0 := nd rfl
theorem SX : V.tag (.int k j) = gJ k := nd rfl
theorem RM : V.tag (.str sb) = 2 := nd rfl
theorem Rl : V.tag (.agg t l) = t := nd rfl
theorem R4 : V.tag (.ptr a p t) = 1 := nd rfl
theorem GU : V.tag .nilp = 1 := nd rfl
theorem Uy : V.tag (.sl a p off len cap e) = 1 := nd rfl
theorem GQ : V.tag .nils = 1 := nd rfl
theorem UT : V.tag (.fn f l) = 1 := nd rfl
theorem HM : V.tag .nilf = 1 := nd rfl
theorem Sg : V.ok (.bool b) = true := nd rfl
theorem To : V.ok (.int k j) = true := nd rfl
theorem Ul : V.ok (.str sb) = true := nd rfl
theorem TA : V.ok (.agg t l) = true := nd rfl
theorem UP : V.ok (.ptr a p t) = true := nd rfl
theorem SJ : V.ok .nilp = true := nd rfl
theorem VE : V.ok (.sl a p off len cap e) = true := nd rfl
theorem RI : V.ok .nils = true := nd rfl
theorem Vv : V.ok (.fn f l) = true := nd rfl
theorem Sc : V.ok .nilf = true := nd rfl
end
theorem Sa : cK 1 .nilp .nilp = some true := nd rfl
theorem RB {a : Loc} {p : List Nat} {t : Nat} : cK 1 .nilp (.ptr a p t) = some false := nd rfl
theorem SN {a : Loc} {p : List Nat} {t : Nat} : cK 1 (.ptr a p t) .nilp = some false := nd rfl
theorem Hm : cK 3 .nils .nils = some true := nd rfl
theorem HQ {a : Loc} {p : List Nat} {o l e : Nat} {c : Option Nat} : cK 3 .nils (.sl a p o l c e) = some false := nd rfl
theorem HR {a : Loc} {p : List Nat} {o l e : Nat} {c : Option Nat} : cK 3 (.sl a p o l c e) .nils = some false := nd rfl
theorem Hw : cK 5 .nilf .nilf = some true := nd rfl
theorem Gt {f : Nat} {l : List V} : cK 5 .nilf (.fn f l) = some false := nd rfl
theorem Gv {f : Nat} {l : List V} : cK 5 (.fn f l) .nilf = some false := nd rfl
theorem Hs {t : Nat} {x y : V} (h1 : t ≠ 1) (h3 : t ≠ 3) (h5 : t ≠ 5) : cK t x y = if x.tag = t ∧ y.tag = t then veq x y else none := by
 unfold cK;split
 ·exact absurd rfl h1
 ·exact absurd rfl h3
 ·exact absurd rfl h5
 ·rfl
theorem FY {a b : Bool} : veq (.bool a) (.bool b) = some (a == b) := by simp only [veq]
theorem S4 {k k' : IntKind} {a b : Int} : veq (.int k a) (.int k' b) = if k = k' then some (decide (a = b)) else none := by simp only [veq]
theorem Rx {a b : ByteArray} : veq (.str a) (.str b) = some (a.toList == b.toList) := by simp only [veq]
theorem Rh {t t' : Nat} {l l' : List V} : veq (.agg t l) (.agg t' l') = if t = t' then cq l l' else none := by simp only [veq]
theorem Hh : cq [] [] = some true := by simp only [cq]
theorem CH {v v' : V} {l l' : List V} : cq (v :: l) (v' :: l') = aa (veq v v') fun b => if b = true then cq l l' else some false := by
 simp only [cq];cases veq v v' with
 | none => rfl
 | some b => cases b <;> rfl
attribute [go_sem] So FP Uv RU GR tO ye xT EM Bv vB AY yC GM vY Ff Bp
 yg Ac Hu GP GK vX vr yy ym Wa Wf Ha C8
 QB yS vT Ef Ar Bs y8 Fb IE MM z5 uY uP FF tj xC Cn Ci Di E2 Ej zs Dg zT CO Do E0 Ck CY xn zM ww DI wY C6 xf E4 yZ Ed D8 Rc FX vO GH Bg Dr wS Hc uh B5 HL BU FJ FQ HE EG AU yM Ax and_true o5 sW HG C1 ne_eq Loc.loc.injEq Loc.hp.injEq
 FN eqv vN Ey m8 BA SQ RH GF Th EU Rw Ei BH Hi HX R3 G0 F0 EB GO Gm Co ix bc GJ DN Ro Gj RG FL Dc Hq Tf Nat.le_refl Nat.le_add_right List.drop_length BD Cx Dw RQ Gk
 G8 SX RM Rl R4 GU Uy GQ UT HM Sg To Ul TA UP SJ VE RI Vv Sc
 yV Rn JQ Vr FH rV Bo LY wT kC U9 DR GY th zG Fs AT
 z6 FI zU oP FR Cb Hj
 AV yz SV UH T9 SF S7 SG Rs U8 RF Ti HI U6 Ub wt GC GA Aq
 VY S5 Bl Cp Er yA yL uk BK yQ FG
 UW Bz Hr RO Sm Um Ee Hp GB HV D3 DP R8 TX Rz DB Bb BO yw yd yv yp ite_self Bool.if_true_left Bool.if_true_right Bool.if_false_left Bool.if_false_right
 jf mf Option.isSome_none Option.isSome_some
 gJ FK GG ui shf uv BinOp.isShift RT SA SK Sa RB SN Hm HQ HR Hw Gt Gv Hs FY S4 Rx Rh Hh CH ak fF
 aS AZ AK Option.bind_some Option.bind_none Option.map_some Option.map_none Option.getD_some Option.getD_none
 List.map_cons List.map_nil List.cons_append List.nil_append List.append_assoc List.append_nil List.length_append List.length_cons List.length_nil List.getElem?_cons_zero List.getElem?_cons_succ List.getElem?_nil List.set_cons_zero List.set_cons_succ List.take_succ_cons List.take_zero List.take_length List.drop_zero List.drop_succ_cons
 List.all_cons List.all_nil Nat.zero_add Nat.add_zero if_true if_false ite_true ite_false Bool.true_and Bool.and_true Bool.false_or Bool.or_false Bool.true_or Bool.or_true Bool.false_and Bool.and_false Bool.not_true Bool.not_false
 eq_self true_and and_true false_and and_false true_or or_true false_or or_false Bool.false_eq_true not_true_eq_false not_false_eq_true decide_true decide_false decide_eq_true_eq decide_eq_false_iff_not Bool.not_eq_true Bool.not_eq_false Nat.reduceEqDiff Nat.reduceAdd Nat.reduceMod reduceIte Nat.le_refl Nat.le_add_right and_self or_self beq_self_eq_true reduceCtorEq
 Int.cast_ofNat_Int Int.reduceEq Int.reduceLT Int.reduceLE Int.reduceNeg Int.reduceToNat Int.reduceAdd Int.reduceSub Int.reduceMul Nat.reduceSub Nat.reduceMul Nat.reduceLT Nat.reduceLeDiff
instance (n : Nat) : OfNat Opd n := ⟨.t n⟩
def zi (n : Int) : Opd := .k (.int .i64 n)
def zf (n : Nat) : Opd := .k (.fn n [])
def zq (d : Nat) (o : Op') : Op := ⟨some d, none, o⟩
def zw (o : Op') : Op := ⟨none, none, o⟩
def zg (d t : Nat) (b : Bool) (o : Op') : Op := ⟨some d, some (t, b), o⟩
def zm (d : Nat) (x : Opd) : Op := ⟨some d, none, .mv x⟩
def zF (d t f u : Nat) (x : Opd) : Op := ⟨some d, none, .fad t f u x⟩
def zL (d t : Nat) (x : Opd) : Op := ⟨some d, none, .ld t x⟩
def zN (d : Nat) (x : Opd) : Op := ⟨some d, none, .nilc x⟩
def zB (d : Nat) (o : BinOp) (x y : Opd) : Op := ⟨some d, none, .bin o x y⟩
def zE (d : Nat) (x : Opd) (i : Nat) : Op := ⟨some d, none, .ext x i⟩
def zC (d : Nat) (f : Opd) (l : List Opd) : Op := ⟨some d, none, .call f l⟩
def zP (d : Nat) (x y z : Opd) : Op := ⟨some d, none, .pick x y z⟩
def zS (t : Nat) (x y : Opd) : Op := ⟨none, none, .st t x y⟩
def zR (ks : List Nat) (l : List Op) : C := .reg (some ks) l
def zD (ks : List Nat) (l : List Op) : C := .regd (some ks) l
abbrev OR := Option (Ex × Env × St)
theorem zr {base : Nat} {ρ : Env} {s : St} {ks : List Nat} {l : List Op} {x : OR} (h : rgO D base ks l ρ s = x := by kernel_rfl) : rc D base (.reg (some ks) l) ρ s = x := Ge.trans h
theorem zd {base : Nat} {ρ : Env} {s : St} {ks : List Nat} {l : List Op} {x : OR} (h : rgO D base ks l ρ s = x := by kernel_rfl) : rc D base (.regd (some ks) l) ρ s = x := DF.trans h
end Go.Ab
