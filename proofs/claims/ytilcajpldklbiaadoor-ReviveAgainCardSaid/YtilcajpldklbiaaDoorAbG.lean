/-
  YtilcajpldklbiaaDoorAbG: an abstract semantics of the program's code, and that what it tells holds of the program (part G).
-/
import Derived.Test.YtilcajpldklbiaaDoorAbA
import Derived.Attr
import Derived.KernelRfl
set_option maxRecDepth 100000
namespace Go.Ab
variable {D : Nat → Option Fc}
theorem nJ {f g : bB → St → Option Res} (h : ∀ t s r, f t s = some r → g t s = some r) {base : Nat} {ρ : Env} {s : St} {o : Op'} {q : V × St} (hq : al f base ρ s o = some q) : al g base ρ s o = some q := by
 cases o with
 | call fo args =>
  simp only [al] at hq ⊢;cases hx : fo.ev ρ with
  | fn k caps =>
   simp only [hx] at hq;cases hf : f (.f k (args.map (Opd.ev ρ) ++ caps)) s with
   | none => rw [hf] at hq; cases hq
   | some x => rw [hf] at hq; simp only [h _ _ _ hf]; exact hq
  | _ => rw [hx] at hq; cases hq
 | pcall fo args =>
  simp only [al] at hq ⊢;cases hx : fo.ev ρ with
  | fn k caps =>
   simp only [hx] at hq;by_cases hp : pOk base (bC base (args.map (Opd.ev ρ) ++ caps)) (args.map (Opd.ev ρ) ++ caps) s = true
   ·rw [if_pos hp] at hq;simp only [if_pos hp];cases hf : f (.f k (args.map (Opd.ev ρ) ++ caps)) (s.cut (bC base (args.map (Opd.ev ρ) ++ caps))) with
    | none => rw [hf] at hq; cases hq
    | some x => rw [hf] at hq; simp only [h _ _ _ hf]; exact hq
   ·rw [if_neg hp] at hq; cases hq
  | _ => rw [hx] at hq; cases hq
 | callw fo args w =>
  simp only [al] at hq ⊢;split at hq
  ·rename_i hw;rw [if_pos hw];cases hx : fo.ev ρ with
   | fn k caps =>
    simp only [hx] at hq;cases hf : f (.f k (args.map (Opd.ev ρ) ++ caps)) s with
    | none => rw [hf] at hq; cases hq
    | some x => rw [hf] at hq; simp only [h _ _ _ hf]; exact hq
   | _ => rw [hx] at hq; cases hq
  ·cases hq
 | callk p fo args =>
  simp only [al] at hq ⊢;cases hx : fo.ev ρ with
  | fn k caps =>
   simp only [hx] at hq;by_cases hp : pOk base (bC base (args.map (Opd.ev ρ) ++ caps)) (args.map (Opd.ev ρ) ++ caps) s = true
   ·rw [if_pos hp] at hq;simp only [if_pos hp];cases hf : f (.f k (args.map (Opd.ev ρ) ++ caps)) (s.cut (bC base (args.map (Opd.ev ρ) ++ caps))) with
    | none => rw [hf] at hq; cases hq
    | some x => rw [hf] at hq; simp only [h _ _ _ hf]; exact hq
   ·rw [if_neg hp] at hq; cases hq
  | _ => rw [hx] at hq; cases hq
 | _ => exact hq
theorem wL {f g : bB → St → Option Res} (h : ∀ t s r, f t s = some r → g t s = some r) {t : bB} {s : St} {r : Res} (hr : step D f t s = some r) : step D g t s = some r := by
 cases t with
 | c base c ρ =>
  cases c with
  | skip => exact hr
  | label _ => exact hr
  | ret => exact hr
  | exit _ => exact hr
  | reg keep ops =>
   simp only [step] at hr ⊢;cases hf : f (.o base ops ρ) s with
   | none => rw [hf] at hr; cases hr
   | some x => rw [hf] at hr; rw [h _ _ _ hf]; exact hr
  | regd keep ops =>
   simp only [step] at hr ⊢;cases hf : f (.o base ops ρ) s with
   | none => rw [hf] at hr; cases hr
   | some x => rw [hf] at hr; rw [h _ _ _ hf]; exact hr
  | seq a b =>
   simp only [step] at hr ⊢;cases hf : f (.c base a ρ) s with
   | none => rw [hf] at hr; cases hr
   | some x =>
    rw [hf] at hr; rw [h _ _ _ hf];cases x with
    | c e ρ' s' => cases e <;> first | exact h _ _ _ hr | exact hr
    | o _ _ => cases hr
    | v _ _ => cases hr
  | cond x a b =>
   simp only [step] at hr ⊢;cases hx : x.ev ρ with
   | bool t =>
    rw [hx] at hr;cases t
    ·exact h _ _ _ hr
    ·exact h _ _ _ hr
   | _ => rw [hx] at hr; cases hr
  | block id b =>
   simp only [step] at hr ⊢;cases hf : f (.c base b ρ) s with
   | none => rw [hf] at hr; cases hr
   | some x => rw [hf] at hr; rw [h _ _ _ hf]; exact hr
  | scope b =>
   simp only [step] at hr ⊢;cases hf : f (.c base b ρ) s with
   | none => rw [hf] at hr; cases hr
   | some x => rw [hf] at hr; rw [h _ _ _ hf]; exact hr
  | loop keep b =>
   simp only [step] at hr ⊢;cases hf : f (.c base b (restrict keep ρ)) s with
   | none => rw [hf] at hr; cases hr
   | some x =>
    rw [hf] at hr; rw [h _ _ _ hf];cases x with
    | c e ρ' s' =>
     cases e with
     | normal =>
      simp only at hr ⊢;split at hr
      ·rename_i hc; rw [if_pos hc]; exact h _ _ _ hr
      ·cases hr
     | exit _ => exact hr
     | ret => exact hr
    | o _ _ => cases hr
    | v _ _ => cases hr
 | o base l ρ =>
  cases l with
  | nil => exact hr
  | cons op rest =>
   simp only [step] at hr ⊢;cases hg : aK op.guard ρ with
   | none => rw [hg] at hr; cases hr
   | some gb =>
    rw [hg] at hr;cases gb with
    | false => exact h _ _ _ hr
    | true =>
     cases hq : al f base ρ s op.op with
     | none => simp only [hq] at hr; cases hr
     | some q =>
      simp only [hq] at hr;simp only [nJ h hq];exact h _ _ _ hr
 | f fn args =>
  simp only [step] at hr ⊢;cases hfc : D fn with
  | none => rw [hfc] at hr; cases hr
  | some fc =>
   rw [hfc] at hr;simp only at hr ⊢;by_cases hlen : args.length = fc.n
   ·rw [if_pos hlen] at hr ⊢;cases hf : f (.c s.loc.length fc.body (iW 0 args)) s with
    | none => rw [hf] at hr; cases hr
    | some x => rw [hf] at hr; rw [h _ _ _ hf]; exact hr
   ·rw [if_neg hlen] at hr; cases hr
theorem iy : ∀ (n : Nat) {t : bB} {s : St} {r : Res}, ev D n t s = some r → ev D (n + 1) t s = some r
 | 0, _, _, _, h => by cases h
 | n + 1, _, _, _, h => wL (fun _ _ _ h => iy n h) h
theorem nI {n m : Nat} (hnm : n ≤ m) {t : bB} {s : St} {r : Res} (h : ev D n t s = some r) : ev D m t s = some r := by
 induction hnm with
 | refl => exact h
 | step _ ih => exact iy _ ih
open Classical in
noncomputable def run (D : Nat → Option Fc) (t : bB) (s : St) : Option Res :=
 if h : ∃ n r, ev D n t s = some r then some h.choose_spec.choose else none
theorem bJ {t : bB} {s : St} {r : Res} : run D t s = some r ↔ ∃ n, ev D n t s = some r := by
 unfold run;constructor
 ·intro h;split at h
  ·rename_i hx;cases h;exact ⟨_, hx.choose_spec.choose_spec⟩
  ·cases h
 ·rintro ⟨n, hn⟩;have hx : ∃ n r, ev D n t s = some r := ⟨n, r, hn⟩;rw [dif_pos hx];have h1 := hx.choose_spec.choose_spec;have h2 := nI (Nat.le_max_left hx.choose n) h1;have h3 := nI (Nat.le_max_right hx.choose n) hn;rw [h2] at h3;exact h3
theorem xq {n : Nat} {t : bB} {s : St} {r : Res} (h : ev D n t s = some r) : run D t s = some r := bJ.2 ⟨n, h⟩
theorem GV {base : Nat} {ρ : Env} {s : St} {o : Op'} {q : V × St} (hq : al (run D) base ρ s o = some q) : ∃ n, al (ev D n) base ρ s o = some q := by
 cases o with
 | call fo args =>
  simp only [al] at hq ⊢;cases hx : fo.ev ρ with
  | fn k caps =>
   simp only [hx] at hq;cases hf : run D (.f k (args.map (Opd.ev ρ) ++ caps)) s with
   | none => rw [hf] at hq; cases hq
   | some x => rw [hf] at hq; obtain ⟨n, hn⟩ := bJ.1 hf; exact ⟨n, by simp only [hn]; exact hq⟩
  | _ => rw [hx] at hq; cases hq
 | pcall fo args =>
  simp only [al] at hq ⊢;cases hx : fo.ev ρ with
  | fn k caps =>
   simp only [hx] at hq;by_cases hp : pOk base (bC base (args.map (Opd.ev ρ) ++ caps)) (args.map (Opd.ev ρ) ++ caps) s = true
   ·rw [if_pos hp] at hq;simp only [if_pos hp];cases hf : run D (.f k (args.map (Opd.ev ρ) ++ caps)) (s.cut (bC base (args.map (Opd.ev ρ) ++ caps))) with
    | none => rw [hf] at hq; cases hq
    | some x => rw [hf] at hq; obtain ⟨n, hn⟩ := bJ.1 hf; exact ⟨n, by simp only [hn]; exact hq⟩
   ·rw [if_neg hp] at hq; cases hq
  | _ => rw [hx] at hq; cases hq
 | callw fo args w =>
  simp only [al] at hq ⊢;split at hq
  ·rename_i hw;simp only [if_pos hw];cases hx : fo.ev ρ with
   | fn k caps =>
    simp only [hx] at hq;cases hf : run D (.f k (args.map (Opd.ev ρ) ++ caps)) s with
    | none => rw [hf] at hq; cases hq
    | some x => rw [hf] at hq; obtain ⟨n, hn⟩ := bJ.1 hf; exact ⟨n, by simp only [hn]; exact hq⟩
   | _ => rw [hx] at hq; cases hq
  ·cases hq
 | callk p fo args =>
  simp only [al] at hq ⊢;cases hx : fo.ev ρ with
  | fn k caps =>
   simp only [hx] at hq;by_cases hp : pOk base (bC base (args.map (Opd.ev ρ) ++ caps)) (args.map (Opd.ev ρ) ++ caps) s = true
   ·rw [if_pos hp] at hq;simp only [if_pos hp];cases hf : run D (.f k (args.map (Opd.ev ρ) ++ caps)) (s.cut (bC base (args.map (Opd.ev ρ) ++ caps))) with
    | none => rw [hf] at hq; cases hq
    | some x => rw [hf] at hq; obtain ⟨n, hn⟩ := bJ.1 hf; exact ⟨n, by simp only [hn]; exact hq⟩
   ·rw [if_neg hp] at hq; cases hq
  | _ => rw [hx] at hq; cases hq
 | _ => exact ⟨0, hq⟩
theorem GI {t : bB} {s : St} {r : Res} (hr : step D (run D) t s = some r) : ∃ n, step D (ev D n) t s = some r := by
 cases t with
 | c base c ρ =>
  cases c with
  | skip => exact ⟨0, hr⟩
  | label _ => exact ⟨0, hr⟩
  | ret => exact ⟨0, hr⟩
  | exit _ => exact ⟨0, hr⟩
  | reg keep ops =>
   simp only [step] at hr ⊢;cases hf : run D (.o base ops ρ) s with
   | none => rw [hf] at hr; cases hr
   | some x => rw [hf] at hr; obtain ⟨n, hn⟩ := bJ.1 hf; exact ⟨n, by rw [hn]; exact hr⟩
  | regd keep ops =>
   simp only [step] at hr ⊢;cases hf : run D (.o base ops ρ) s with
   | none => rw [hf] at hr; cases hr
   | some x => rw [hf] at hr; obtain ⟨n, hn⟩ := bJ.1 hf; exact ⟨n, by rw [hn]; exact hr⟩
  | seq a b =>
   simp only [step] at hr ⊢;cases hf : run D (.c base a ρ) s with
   | none => rw [hf] at hr; cases hr
   | some x =>
    rw [hf] at hr; obtain ⟨n, hn⟩ := bJ.1 hf;cases x with
    | c e ρ' s' =>
     cases e with
     | normal =>
      obtain ⟨m, hm⟩ := bJ.1 hr;exact ⟨max n m, by rw [nI (Nat.le_max_left n m) hn]; exact nI (Nat.le_max_right n m) hm⟩
     | exit _ => exact ⟨n, by rw [hn]; exact hr⟩
     | ret => exact ⟨n, by rw [hn]; exact hr⟩
    | o _ _ => cases hr
    | v _ _ => cases hr
  | cond x a b =>
   simp only [step] at hr ⊢;cases hx : x.ev ρ with
   | bool t =>
    rw [hx] at hr;cases t
    ·obtain ⟨n, hn⟩ := bJ.1 hr;exact ⟨n, hn⟩
    ·obtain ⟨n, hn⟩ := bJ.1 hr;exact ⟨n, hn⟩
   | _ => rw [hx] at hr; cases hr
  | block id b =>
   simp only [step] at hr ⊢;cases hf : run D (.c base b ρ) s with
   | none => rw [hf] at hr; cases hr
   | some x => rw [hf] at hr; obtain ⟨n, hn⟩ := bJ.1 hf; exact ⟨n, by rw [hn]; exact hr⟩
  | scope b =>
   simp only [step] at hr ⊢;cases hf : run D (.c base b ρ) s with
   | none => rw [hf] at hr; cases hr
   | some x => rw [hf] at hr; obtain ⟨n, hn⟩ := bJ.1 hf; exact ⟨n, by rw [hn]; exact hr⟩
  | loop keep b =>
   simp only [step] at hr ⊢;cases hf : run D (.c base b (restrict keep ρ)) s with
   | none => rw [hf] at hr; cases hr
   | some x =>
    rw [hf] at hr; obtain ⟨n, hn⟩ := bJ.1 hf;cases x with
    | c e ρ' s' =>
     cases e with
     | normal =>
      simp only at hr;split at hr
      ·rename_i hc;obtain ⟨m, hm⟩ := bJ.1 hr;exact ⟨max n m, by rw [nI (Nat.le_max_left n m) hn]; simp only; rw [if_pos hc]; exact nI (Nat.le_max_right n m) hm⟩
      ·cases hr
     | exit _ => exact ⟨n, by rw [hn]; exact hr⟩
     | ret => exact ⟨n, by rw [hn]; exact hr⟩
    | o _ _ => cases hr
    | v _ _ => cases hr
 | o base l ρ =>
  cases l with
  | nil => exact ⟨0, hr⟩
  | cons op rest =>
   simp only [step] at hr ⊢;cases hg : aK op.guard ρ with
   | none => rw [hg] at hr; cases hr
   | some gb =>
    rw [hg] at hr;cases gb with
    | false => exact bJ.1 hr
    | true =>
     cases hq : al (run D) base ρ s op.op with
     | none => simp only [hq] at hr; cases hr
     | some q =>
      simp only [hq] at hr;obtain ⟨n, hn⟩ := GV hq;obtain ⟨m, hm⟩ := bJ.1 hr;exact ⟨max n m, by simp only [nJ (fun _ _ _ h => nI (Nat.le_max_left n m) h) hn]; exact nI (Nat.le_max_right n m) hm⟩
 | f fn args =>
  simp only [step] at hr ⊢;cases hfc : D fn with
  | none => rw [hfc] at hr; cases hr
  | some fc =>
   rw [hfc] at hr;simp only at hr ⊢;by_cases hlen : args.length = fc.n
   ·simp only [if_pos hlen] at hr ⊢;cases hf : run D (.c s.loc.length fc.body (iW 0 args)) s with
    | none => rw [hf] at hr; cases hr
    | some x => rw [hf] at hr; obtain ⟨n, hn⟩ := bJ.1 hf; exact ⟨n, by rw [hn]; exact hr⟩
   ·rw [if_neg hlen] at hr; cases hr
theorem cv (t : bB) (s : St) : run D t s = step D (run D) t s := by
 apply Option.ext;intro r;constructor
 ·intro h;obtain ⟨n, hn⟩ := bJ.1 h;cases n with
  | zero => cases hn
  | succ n => exact wL (fun _ _ _ h => xq h) hn
 ·intro h;obtain ⟨n, hn⟩ := GI h;exact xq (n := n + 1) hn
noncomputable def rc (D : Nat → Option Fc) (base : Nat) (c : C) (ρ : Env) (s : St) : Option (Ex × Env × St) :=
 match run D (.c base c ρ) s with
 | some (.c e ρ' s') => some (e, ρ', s')
 | _ => none
noncomputable def ro (D : Nat → Option Fc) (base : Nat) (l : List Op) (ρ : Env) (s : St) : Option (Env × St) :=
 match run D (.o base l ρ) s with
 | some (.o ρ' s') => some (ρ', s')
 | _ => none
noncomputable def rf (D : Nat → Option Fc) (f : Nat) (args : List V) (s : St) : Option (V × St) :=
 match run D (.f f args) s with
 | some (.v v s') => some (v, s')
 | _ => none
theorem LX {f : Nat} {args : List V} {s : St} {v : V} {s' : St} : rf D f args s = some (v, s') ↔ run D (.f f args) s = some (.v v s') := by
 unfold rf; constructor
 ·intro h; split at h
  ·rename_i hh; cases h; exact hh
  ·cases h
 ·intro h; rw [h]
section
variable {base : Nat} {ρ : Env} {s : St}
theorem Jz : rc D base .skip ρ s = some (.normal, ρ, s) := by simp only [rc, cv, step]
theorem He {l : Nat} : rc D base (.label l) ρ s = some (.normal, ρ, s) := by simp only [rc, cv, step]
theorem LP : rc D base .ret ρ s = some (.ret, ρ, s) := by simp only [rc, cv, step]
theorem I2 {id : Nat} : rc D base (.exit id) ρ s = some (.exit id, ρ, s) := by simp only [rc, cv, step]
theorem Mj {keep : Option (List Nat)} {ops : List Op} : rc D base (.reg keep ops) ρ s = (ro D base ops ρ s).bind fun x => some (.normal, mX keep x.1, x.2) := by
 simp only [rc, ro]; rw [cv]; simp only [step];cases run D (.o base ops ρ) s with
 | none => rfl
 | some x => cases x <;> rfl
theorem Ke {keep : Option (List Nat)} {ops : List Op} : rc D base (.regd keep ops) ρ s = (ro D base ops ρ s).bind fun x => some (.normal, mX keep x.1, x.2) := by
 simp only [rc, ro]; rw [cv]; simp only [step];cases run D (.o base ops ρ) s with
 | none => rfl
 | some x => cases x <;> rfl
noncomputable def andThen (D : Nat → Option Fc) (base : Nat) (b : C) (x : Ex × Env × St) : Option (Ex × Env × St) :=
 match x with
 | (.normal, ρ, s) => rc D base b ρ s
 | x => some x
theorem wq {b : C} : andThen D base b (.normal, ρ, s) = rc D base b ρ s := rfl
theorem A9 {b : C} : andThen D base b (.ret, ρ, s) = some (.ret, ρ, s) := rfl
theorem yK {b : C} {id : Nat} : andThen D base b (.exit id, ρ, s) = some (.exit id, ρ, s) := rfl
theorem Lr {a b : C} : rc D base (.seq a b) ρ s = (rc D base a ρ s).bind (andThen D base b) := by
 simp only [rc]; rw [cv]; simp only [step];cases run D (.c base a ρ) s with
 | none => rfl
 | some x =>
  cases x with
  | c e ρ' s' => cases e <;> rfl
  | _ => rfl
theorem KW {x : Opd} {a b : C} : rc D base (.cond x a b) ρ s = match x.ev ρ with
 | .bool t => if t then rc D base a ρ s else rc D base b ρ s
 | _ => none := by
 simp only [rc]; rw [cv]; simp only [step];cases x.ev ρ with
 | bool t => cases t <;> rfl
 | _ => rfl
def IM (id : Nat) (x : Ex × Env × St) : Ex × Env × St :=
 match x with
 | (.exit id', ρ, s) => (if id' = id then .normal else .exit id', ρ, s)
 | x => x
theorem HE {id : Nat} {b : C} : rc D base (.block id b) ρ s = (rc D base b ρ s).bind fun x => some (IM id x) := by
 simp only [rc]; rw [cv]; simp only [step];cases run D (.c base b ρ) s with
 | none => rfl
 | some x =>
  cases x with
  | c e ρ' s' => cases e <;> rfl
  | _ => rfl
theorem HV {b : C} : rc D base (.scope b) ρ s = rc D base b ρ s := by
 simp only [rc]; rw [cv]; simp only [step];cases run D (.c base b ρ) s with
 | none => rfl
 | some x =>
  cases x with
  | c e ρ' s' => cases e <;> rfl
  | _ => rfl
noncomputable def gd (D : Nat → Option Fc) (base n : Nat) (keep : List Nat) (b : C) (x : Ex × Env × St) : Option (Ex × Env × St) :=
 match x with
 | (.normal, ρ, s) => if iK base n (restrict keep ρ) s then rc D base (.loop keep b) (restrict keep ρ) { s with loc := s.loc.take n } else none
 | x => some x
theorem zm {n : Nat} {keep : List Nat} {b : C} : gd D base n keep b (.normal, ρ, s) = if iK base n (restrict keep ρ) s then rc D base (.loop keep b) (restrict keep ρ) { s with loc := s.loc.take n } else none := rfl
theorem D4 {n : Nat} {keep : List Nat} {b : C} : gd D base n keep b (.ret, ρ, s) = some (.ret, ρ, s) := rfl
theorem Dq {n : Nat} {keep : List Nat} {b : C} {id : Nat} : gd D base n keep b (.exit id, ρ, s) = some (.exit id, ρ, s) := rfl
theorem ju {ks : List Nat} {ρ : Env} {k : Nat} (h : k ∈ ks) : get (restrict ks ρ) k = get ρ k := by
 induction ks with
 | nil => cases h
 | cons j ks ih =>
  simp only [restrict, List.map_cons, get];by_cases hj : j = k
  ·rw [if_pos hj, hj]
  ·rw [if_neg hj];exact ih (by cases h with | head => exact absurd rfl hj | tail _ h => exact h)
theorem sn (ks : List Nat) (ρ : Env) : restrict ks (restrict ks ρ) = restrict ks ρ := by
 unfold restrict;apply List.map_congr_left;intro k hk;rw [show get (ks.map fun k => (k, get ρ k)) k = get ρ k from ju hk]
theorem tP {keep : List Nat} {b : C} : rc D base (.loop keep b) ρ s = (rc D base b (restrict keep ρ) s).bind fun x => match x with
 | (.normal, ρ', s') => if iK base s.loc.length (restrict keep ρ') s' then rc D base (.loop keep b) ρ' { s' with loc := s'.loc.take s.loc.length } else none
 | x => some x := by
 simp only [rc]; rw [cv]; simp only [step];cases run D (.c base b (restrict keep ρ)) s with
 | none => rfl
 | some x =>
  cases x with
  | c e ρ' s' =>
   cases e with
   | normal =>
    simp only [Option.bind_some];by_cases hc : iK base s.loc.length (restrict keep ρ') s' = true
    ·rw [if_pos hc, if_pos hc]
    ·rw [if_neg hc, if_neg hc]
   | _ => rfl
  | _ => rfl
theorem tM {keep : List Nat} {b : C} : rc D base (.loop keep b) (restrict keep ρ) s = rc D base (.loop keep b) ρ s := by
 rw [tP, tP (ρ := ρ), sn]
theorem IY {keep : List Nat} {b : C} : rc D base (.loop keep b) ρ s = (rc D base b (restrict keep ρ) s).bind (gd D base s.loc.length keep b) := by
 rw [tP];congr 1;funext x;obtain ⟨e, ρ', s'⟩ := x;cases e with
 | normal => simp only [gd, tM]
 | _ => rfl
theorem FC : ro D base [] ρ s = some (ρ, s) := by simp only [ro, cv, step]
noncomputable def rop (D : Nat → Option Fc) (base : Nat) (ρ : Env) (s : St) : Op' → Option (V × St)
 | .call f args => match f.ev ρ with
  | .fn g caps => rf D g (args.map (Opd.ev ρ) ++ caps) s
  | _ => none
 | .pcall f args => match f.ev ρ with
  | .fn g caps => if pOk base (bC base (args.map (Opd.ev ρ) ++ caps)) (args.map (Opd.ev ρ) ++ caps) s = true then
   (rf D g (args.map (Opd.ev ρ) ++ caps) (s.cut (bC base (args.map (Opd.ev ρ) ++ caps)))).bind fun x => if x.2 = s.cut (bC base (args.map (Opd.ev ρ) ++ caps)) ∧ x.1.flat = true then some (x.1, s) else none
   else none
  | _ => none
 | .callw f args w => if ym s (w.ev ρ) = true then
  match f.ev ρ with
  | .fn g caps => rf D g (args.map (Opd.ev ρ) ++ caps) s
  | _ => none
  else none
 | .callk p f args => match f.ev ρ with
  | .fn g caps => if pOk base (bC base (args.map (Opd.ev ρ) ++ caps)) (args.map (Opd.ev ρ) ++ caps) s = true then
   (rf D g (args.map (Opd.ev ρ) ++ caps) (s.cut (bC base (args.map (Opd.ev ρ) ++ caps)))).bind fun x => if Hl p (s.cut (bC base (args.map (Opd.ev ρ) ++ caps))) x.2 then some (x.1, { x.2 with loc := s.loc }) else none
   else none
  | _ => none
 | o => evOp base ρ s o
theorem Gd {o : Op'} : al (run D) base ρ s o = rop D base ρ s o := by
 cases o with
 | call f args =>
  simp only [al, rop];cases f.ev ρ with
  | fn g caps =>
   simp only [rf];cases run D (.f g (args.map (Opd.ev ρ) ++ caps)) s with
   | none => rfl
   | some x => cases x <;> rfl
  | _ => rfl
 | pcall f args =>
  simp only [al, rop];cases f.ev ρ with
  | fn g caps =>
   simp only [rf];split
   ·cases run D (.f g (args.map (Opd.ev ρ) ++ caps)) (s.cut (bC base (args.map (Opd.ev ρ) ++ caps))) with
    | none => rfl
    | some x => cases x <;> rfl
   ·rfl
  | _ => rfl
 | callw f args w =>
  simp only [al, rop];split
  ·cases f.ev ρ with
   | fn g caps =>
    simp only [rf];cases run D (.f g (args.map (Opd.ev ρ) ++ caps)) s with
    | none => rfl
    | some x => cases x <;> rfl
   | _ => rfl
  ·rfl
 | callk p f args =>
  simp only [al, rop];cases f.ev ρ with
  | fn g caps =>
   simp only [rf];split
   ·cases run D (.f g (args.map (Opd.ev ρ) ++ caps)) (s.cut (bC base (args.map (Opd.ev ρ) ++ caps))) with
    | none => rfl
    | some x => cases x <;> rfl
   ·rfl
  | _ => rfl
 | _ => rfl
theorem rO {op : Op} {rest : List Op} : ro D base (op :: rest) ρ s = match aK op.guard ρ with
 | none => none
 | some false => ro D base rest (put op.dst (.tup []) ρ) s
 | some true => (rop D base ρ s op.op).bind fun x => ro D base rest (put op.dst x.1 ρ) x.2 := by
 unfold ro;rw [cv]; simp only [step, Gd];cases aK op.guard ρ with
 | none => rfl
 | some gb =>
  cases gb with
  | false => rfl
  | true =>
   cases rop D base ρ s op.op with
   | none => rfl
   | some x => rfl
def jO (n : Nat) (res : List RV) (x : Ex × Env × St) : Option (V × St) :=
 match x with
 | (.exit _, _, _) => none
 | (_, ρ, s) => match cQ ρ s res with
  | some v => if v.locLt n ∧ n ≤ s.loc.length then some (v, { s with loc := s.loc.take n }) else none
  | none => none
theorem Fz {n : Nat} {res : List RV} : jO n res (.ret, ρ, s) = match cQ ρ s res with
 | some v => if v.locLt n ∧ n ≤ s.loc.length then some (v, { s with loc := s.loc.take n }) else none
 | none => none := rfl
theorem zG {n : Nat} {res : List RV} : jO n res (.normal, ρ, s) = match cQ ρ s res with
 | some v => if v.locLt n ∧ n ≤ s.loc.length then some (v, { s with loc := s.loc.take n }) else none
 | none => none := rfl
theorem Nd {f : Nat} {fc : Fc} (hf : D f = some fc) {args : List V} (hn : args.length = fc.n) :
 rf D f args s = (rc D s.loc.length fc.body (iW 0 args) s).bind (jO s.loc.length fc.res) := by
 unfold rf rc;rw [cv]; simp only [step, hf, hn, if_true];cases run D (.c s.loc.length fc.body (iW 0 args)) s with
 | none => rfl
 | some x =>
  cases x with
  | c e ρ' s' =>
   cases e with
   | exit _ => rfl
   | normal =>
    simp only [Option.bind_some, jO];cases cQ ρ' s' fc.res with
    | none => rfl
    | some v =>
     simp only;by_cases hv : v.locLt s.loc.length = true ∧ s.loc.length ≤ s'.loc.length
     ·simp only [if_pos hv]
     ·simp only [if_neg hv]
   | ret =>
    simp only [Option.bind_some, jO];cases cQ ρ' s' fc.res with
    | none => rfl
    | some v =>
     simp only;by_cases hv : v.locLt s.loc.length = true ∧ s.loc.length ≤ s'.loc.length
     ·simp only [if_pos hv]
     ·simp only [if_neg hv]
  | _ => rfl
end
end Go.Ab
namespace Go.Ab
variable {D : Nat → Option Fc} {base : Nat} {ρ : Env} {s : St}
theorem nd {α : Sort _} {a b : α} (h : a = b) : a = b := h
def ab {α β : Type} (x : Option α) (f : α → Option β) : Option β := x.bind f
theorem aM {α β : Type} {a : α} {f : α → Option β} : ab (some a) f = f a := nd rfl
theorem De {α β : Type} {f : α → Option β} : ab none f = none := nd rfl
@[congr] theorem Mz {α β : Type} {x y : Option α} {f : α → Option β} (h : x = y) : ab x f = ab y f := by rw [h]
theorem qD {α β : Type} {c : Prop} [Decidable c] {x y : Option α} {f : α → Option β} : ab (if c then x else y) f = if c then ab x f else ab y f := by split <;> rfl
def mr {α : Type} (v : V) (f : Bool → Option α) : Option α := match v with | .bool t => f t | _ => none
theorem Dg {α : Type} {t : Bool} {f : Bool → Option α} : mr (.bool t) f = f t := nd rfl
@[congr] theorem MA {α : Type} {v w : V} {f : Bool → Option α} (h : v = w) : mr v f = mr w f := by rw [h]
theorem HY {a b : C} : rc D base (.seq a b) ρ s = ab (rc D base a ρ s) (andThen D base b) := Lr
def ny (id : Nat) (x : Ex × Env × St) : Option (Ex × Env × St) := some (IM id x)
theorem xK {id : Nat} : ny id (.normal, ρ, s) = some (.normal, ρ, s) := nd rfl
theorem CI {id : Nat} : ny id (.ret, ρ, s) = some (.ret, ρ, s) := nd rfl
theorem AR {id id' : Nat} : ny id (.exit id', ρ, s) = some (if id' = id then .normal else .exit id', ρ, s) := nd rfl
theorem Dt {id : Nat} {b : C} : rc D base (.block id b) ρ s = ab (rc D base b ρ s) (ny id) := HE
theorem ac {keep : List Nat} {b : C} : rc D base (.loop keep b) ρ s = ab (rc D base b (restrict keep ρ) s) (gd D base s.loc.length keep b) := IY
theorem ae {f : Nat} {fc : Fc} (hf : D f = some fc) {args : List V} (hn : args.length = fc.n) :
 rf D f args s = ab (rc D s.loc.length fc.body (iW 0 args) s) (jO s.loc.length fc.res) := Nd hf hn
theorem DL {x : Opd} {a b : C} : rc D base (.cond x a b) ρ s = mr (x.ev ρ) fun t => if t then rc D base a ρ s else rc D base b ρ s := by
 rw [KW];cases x.ev ρ <;> rfl
def aV (ρ ρ' : Env) : Prop := ∀ t, get ρ t = get ρ' t
theorem aV.ev {ρ ρ' : Env} (h : aV ρ ρ') : Opd.ev ρ = Opd.ev ρ' := by
 funext x;cases x with
 | t n => exact h n
 | k v => rfl
theorem aV.put {ρ ρ' : Env} (h : aV ρ ρ') (d : Option Nat) (v : V) : aV (put d v ρ) (put d v ρ') := by
 intro t;cases d with
 | none => exact h t
 | some k => simp only [Ab.put, get, h t]
theorem aV.evOp {ρ ρ' : Env} (h : aV ρ ρ') (o : Op') : evOp base ρ s o = evOp base ρ' s o := by
 have he := h.ev;cases o <;> simp only [Ab.evOp, he]
theorem aV.rop {ρ ρ' : Env} (h : aV ρ ρ') (o : Op') : rop D base ρ s o = rop D base ρ' s o := by
 have he := h.ev;cases o with
 | call f args => simp only [Ab.rop, he]
 | pcall f args => simp only [Ab.rop, he]
 | callw f args w => simp only [Ab.rop, he]
 | callk p f args => simp only [Ab.rop, he]
 | _ => simp only [Ab.rop]; exact h.evOp _
theorem aV.guard {ρ ρ' : Env} (h : aV ρ ρ') (g : Option (Nat × Bool)) : aK g ρ = aK g ρ' := by
 cases g with
 | none => rfl
 | some x => simp only [aK, h x.1]
theorem aV.restrict {ρ ρ' : Env} (h : aV ρ ρ') (ks : List Nat) : restrict ks ρ = restrict ks ρ' := by
 simp only [Ab.restrict, h _]
theorem aV.ro {ks : List Nat} : ∀ (l : List Op) {ρ ρ' : Env} {s : St}, aV ρ ρ' → (ro D base l ρ s).bind (fun x => some (Ex.normal, Ab.restrict ks x.1, x.2)) = (ro D base l ρ' s).bind (fun x => some (Ex.normal, Ab.restrict ks x.1, x.2))
 | [], ρ, ρ', s, h => by simp only [FC, Option.bind_some, h.restrict]
 | op :: l, ρ, ρ', s, h => by
  rw [rO, rO, h.guard];cases aK op.guard ρ' with
  | none => rfl
  | some b =>
   cases b with
   | false => exact aV.ro l (h.put _ _)
   | true =>
    simp only [h.rop];cases Ab.rop D base ρ' s op.op with
    | none => rfl
    | some x => exact aV.ro l (h.put _ _)
theorem aV.of_get {t : Nat} {v : V} (h : get ρ t = v) : aV ρ ((t, v) :: ρ) := by
 intro k;simp only [get];split
 ·rename_i e; rw [← e, h]
 ·rfl
noncomputable def rg (D : Nat → Option Fc) (base : Nat) (ks : List Nat) (l : List Op) (ρ : Env) (s : St) : Option (Ex × Env × St) :=
 (ro D base l ρ s).bind fun x => some (Ex.normal, restrict ks x.1, x.2)
theorem LU {ks : List Nat} : rg D base ks [] ρ s = some (Ex.normal, restrict ks ρ, s) := by simp only [rg, FC, Option.bind_some]
theorem NO {ks : List Nat} {d : Option Nat} {o : Op'} {rest : List Op} : rg D base ks (⟨d, none, o⟩ :: rest) ρ s = ab (rop D base ρ s o) fun x => rg D base ks rest (put d x.1 ρ) x.2 := by
 simp only [rg];rw [rO];simp only [aK];cases rop D base ρ s o <;> rfl
def gA {α : Type} (v : V) (b : Bool) (A B C : Option α) : Option α :=
 match v with
 | .bool x => if x = b then A else B
 | .tup [] => C
 | _ => none
theorem Bd {α : Type} {x b : Bool} {A B C : Option α} : gA (.bool x) b A B C = if x = b then A else B := nd rfl
theorem C3 {α : Type} {b : Bool} {A B C : Option α} : gA (.tup []) b A B C = C := nd rfl
@[congr] theorem LC {α : Type} {v w : V} {b : Bool} {A B C : Option α} (h : v = w) : gA v b A B C = gA w b A B C := by rw [h]
theorem uK {α : Type} {v : V} {b : Bool} {A B C A' B' C' : Option α} (hA : v = .bool b → A = A') (hB : v = .bool (!b) → B = B') (hC : v = .tup [] → C = C') : gA v b A B C = gA v b A' B' C' := by
 unfold gA;split
 ·rename_i x;split
  ·rename_i h; exact hA (by rw [h])
  ·rename_i h; exact hB (by cases x <;> cases b <;> simp_all)
 ·exact hC rfl
 ·rfl
theorem NN {ks : List Nat} {d : Option Nat} {t : Nat} {b : Bool} {o : Op'} {rest : List Op} : rg D base ks (⟨d, some (t, b), o⟩ :: rest) ρ s =
 gA (get ρ t) b (ab (rop D base ρ s o) fun y => rg D base ks rest (put d y.1 ((t, .bool b) :: ρ)) y.2) (rg D base ks rest (put d (.tup []) ((t, .bool !b) :: ρ)) s) (rg D base ks rest (put d (.tup []) ((t, .tup []) :: ρ)) s) := by
 have h0 : rg D base ks (⟨d, some (t, b), o⟩ :: rest) ρ s = gA (get ρ t) b (ab (rop D base ρ s o) fun y => rg D base ks rest (put d y.1 ρ) y.2) (rg D base ks rest (put d (.tup []) ρ) s) (rg D base ks rest (put d (.tup []) ρ) s) := by
  simp only [rg];rw [rO];simp only [aK];cases hv : get ρ t with
  | bool x =>
   simp only [gA];by_cases hxb : x = b
   ·subst hxb;simp only [beq_self_eq_true, if_true];cases rop D base ρ s o <;> rfl
   ·have hxb' : (x == b) = false := by simp [hxb]
    simp only [hxb', if_neg hxb]
  | tup l => cases l <;> rfl
  | _ => rfl
 rw [h0];refine uK (fun hv => ?_) (fun hv => ?_) (fun hv => aV.ro rest ((aV.of_get hv).put _ _))
 ·cases rop D base ρ s o with
  | none => rfl
  | some y => exact aV.ro rest ((aV.of_get hv).put _ _)
 ·exact aV.ro rest ((aV.of_get hv).put _ _)
theorem Gl {t : Nat} {v : V} : put (some t) v ρ = (t, v) :: ρ := nd rfl
theorem Hp {v : V} : put none v ρ = ρ := nd rfl
theorem Ik {k t : Nat} {v : V} : get ((k, v) :: ρ) t = if k = t then v else get ρ t := nd rfl
theorem y9 : restrict [] ρ = [] := nd rfl
theorem xF {k : Nat} {ks : List Nat} : restrict (k :: ks) ρ = (k, get ρ k) :: restrict ks ρ := nd rfl
theorem AK {ks : List Nat} : mX (some ks) ρ = restrict ks ρ := nd rfl
theorem AP : mX none ρ = ρ := nd rfl
theorem NR {n : Nat} : Opd.ev ρ (.t n) = get ρ n := nd rfl
theorem NJ {v : V} : Opd.ev ρ (.k v) = v := nd rfl
theorem Iv {i : Nat} : iW i [] = [] := nd rfl
theorem FY {i : Nat} {v : V} {l : List V} : iW i (v :: l) = (i, v) :: iW (i + 1) l := nd rfl
section ops
variable {x y a b c p i : Opd}
theorem IF : rop D base ρ s (.mv x) = some (x.ev ρ, s) := nd rfl
theorem Cn : rop D base ρ s (.pick c a b) = mr (c.ev ρ) fun t => some (if t then a.ev ρ else b.ev ρ, s) := nd rfl
theorem yy {h : Bool} {z : V} : rop D base ρ s (.alloc h z) = some (.ptr (s.fresh h) [] z.tag, s.new h z) := nd rfl
theorem D3 {h : Bool} : rop D base ρ s (.box h x) = if (x.ev ρ).ok && aR h (x.ev ρ) then some (.ptr (s.fresh h) [] (x.ev ρ).tag, s.new h (x.ev ρ)) else none := nd rfl
def ldv (s : St) (t : Nat) : V → Option V
 | .ptr a path t' => if t' = t then s.read a path else none
 | _ => none
theorem Ju {t t' : Nat} {a : Loc} {path : List Nat} : ldv s t (.ptr a path t') = if t' = t then s.read a path else none := nd rfl
theorem Da {t : Nat} : rop D base ρ s (.ld t p) = ab (ldv s t (p.ev ρ)) fun v => some (v, s) := by
 show evOp base ρ s (.ld t p) = _;simp only [evOp];cases p.ev ρ with
 | ptr a path t' =>
  simp only [ldv];split
  ·cases s.read a path <;> rfl
  ·rfl
 | _ => rfl
def stv (base : Nat) (s : St) (t : Nat) (x : V) : V → Option St
 | .ptr a path t' => if t' = t ∧ x.tag = t then s.write base a path x else none
 | _ => none
theorem Jn {t t' : Nat} {a : Loc} {path : List Nat} {x : V} : stv base s t x (.ptr a path t') = if t' = t ∧ x.tag = t then s.write base a path x else none := nd rfl
theorem CY {t : Nat} : rop D base ρ s (.st t p x) = ab (stv base s t (x.ev ρ) (p.ev ρ)) fun s' => some (.dead, s') := by
 show evOp base ρ s (.st t p x) = _;simp only [evOp];cases p.ev ρ with
 | ptr a path t' =>
  simp only [stv];split
  ·cases s.write base a path (x.ev ρ) <;> rfl
  ·rfl
 | _ => rfl
def zb : V → Option V
 | .ptr a p t => some (.ptr a p t)
 | .fn f l => some (.fn f l)
 | _ => none
theorem HR {t : Nat} {a : Loc} {path : List Nat} : zb (.ptr a path t) = some (.ptr a path t) := nd rfl
theorem KF {f : Nat} {l : List V} : zb (.fn f l) = some (.fn f l) := nd rfl
theorem B7 : rop D base ρ s (.nilc x) = ab (zb (x.ev ρ)) fun v => some (v, s) := by
 show evOp base ρ s (.nilc x) = _;simp only [evOp];cases x.ev ρ <;> rfl
theorem EM {o : BinOp} : rop D base ρ s (.bin o x y) = ab (il o (x.ev ρ) (y.ev ρ)) fun v => some (v, s) := by
 show evOp base ρ s (.bin o x y) = _;simp only [evOp];cases il o (x.ev ρ) (y.ev ρ) <;> rfl
def eqv (neg : Bool) (t : Nat) (x y : V) : Option V := ab (bV t x y) fun b => some (.bool (if neg then !b else b))
theorem IR {neg : Bool} {t : Nat} : rop D base ρ s (.eq neg t x y) = ab (eqv neg t (x.ev ρ) (y.ev ρ)) fun v => some (v, s) := by
 show evOp base ρ s (.eq neg t x y) = _;simp only [evOp, eqv];cases bV t (x.ev ρ) (y.ev ρ) <;> rfl
theorem IC {o : UnOp} : rop D base ρ s (.un o x) = ab (vun o (x.ev ρ)) fun v => some (v, s) := by
 show evOp base ρ s (.un o x) = _;simp only [evOp];cases vun o (x.ev ρ) <;> rfl
def xR (k : IntKind) : V → Option V
 | .int _ n => some (.int k (k.wrap n))
 | _ => none
theorem Et {k k' : IntKind} {n : Int} : xR k (.int k' n) = some (.int k (k.wrap n)) := nd rfl
theorem Cc {k : IntKind} : rop D base ρ s (.conv k x) = ab (xR k (x.ev ρ)) fun v => some (v, s) := by
 show evOp base ρ s (.conv k x) = _
 simp only [evOp];cases x.ev ρ <;> rfl
def uO (f : Nat) (caps : List V) : Option V := if caps.all (fun v => v.tag == 1) then some (.fn f caps) else none
theorem wW {f : Nat} {caps : List Opd} : rop D base ρ s (.mkfn f caps) = ab (uO f (caps.map (Opd.ev ρ))) fun v => some (v, s) := by
 show evOp base ρ s (.mkfn f caps) = _;simp only [evOp, uO];split <;> rfl
def xS (h : Bool) (r e : Nat) (z : V) (s : St) : V → V → Option (V × St)
 | .int _ l, .int _ m => if 0 ≤ l ∧ l ≤ m ∧ m ≤ fB then
  some (.sl (s.fresh h) [] 0 l.toNat (some m.toNat) e, s.new h (.agg r (List.replicate l.toNat z)))
  else none
 | _, _ => none
theorem w7 {h : Bool} {r e : Nat} {z : V} {n c : Opd} : rop D base ρ s (.mksl h r e z n c) = xS h r e z s (n.ev ρ) (c.ev ρ) := by
 show evOp base ρ s (.mksl h r e z n c) = _;simp only [evOp];cases n.ev ρ with
 | int _ _ => cases c.ev ρ <;> rfl
 | _ => rfl
def eJ (e : Nat) (lo hi mx : Option V) : V → Option V
 | .sl a path off len cap e' => if e' = e then
  ab (ah (cap.getD len) mx (cap.getD len)) fun m => ab (ah (gj mx.isSome m len) hi len) fun h => ab (ah h lo 0) fun l =>
   some (.sl a path (off + l) (h - l) (kT mx.isSome cap (m - l)) e)
  else none
 | .nils => ab (ah 0 mx 0) fun _ => ab (ah 0 hi 0) fun _ => ab (ah 0 lo 0) fun _ => some .nils
 | _ => none
theorem Fi {e : Nat} {lo hi mx : Option Opd} : rop D base ρ s (.slc e x lo hi mx) = ab (eJ e (lo.map (Opd.ev ρ)) (hi.map (Opd.ev ρ)) (mx.map (Opd.ev ρ)) (x.ev ρ)) fun v => some (v, s) := by
 show evOp base ρ s (.slc e x lo hi mx) = _;simp only [evOp];cases x.ev ρ with
 | sl a path off len cap e' =>
  simp only [eJ];by_cases he : e' = e
  ·simp only [if_pos he, Option.isSome_map];cases h1 : ah (cap.getD len) (mx.map (Opd.ev ρ)) (cap.getD len) with
   | none => rfl
   | some m =>
    simp only [aM];cases h2 : ah (gj mx.isSome m len) (hi.map (Opd.ev ρ)) len with
    | none => rfl
    | some h =>
     simp only [aM];cases h3 : ah h (lo.map (Opd.ev ρ)) 0 <;> rfl
  ·simp only [if_neg he]; rfl
 | nils =>
  simp only [eJ];cases ah 0 (mx.map (Opd.ev ρ)) 0 <;> cases ah 0 (hi.map (Opd.ev ρ)) 0 <;> cases ah 0 (lo.map (Opd.ev ρ)) 0 <;> rfl
 | _ => rfl
def rm (lo hi : Option V) : V → Option V
 | .str b => ab (ah b.size hi b.size) fun h => ab (ah h lo 0) fun l => some (.str (b.extract l h))
 | _ => none
theorem uU {lo hi : Option Opd} : rop D base ρ s (.slstr x lo hi) = ab (rm (lo.map (Opd.ev ρ)) (hi.map (Opd.ev ρ)) (x.ev ρ)) fun v => some (v, s) := by
 show evOp base ρ s (.slstr x lo hi) = _;simp only [evOp];cases x.ev ρ with
 | str b =>
  simp only [rm];cases ah b.size (hi.map (Opd.ev ρ)) b.size with
  | none => rfl
  | some h => simp only [aM]; cases ah h (lo.map (Opd.ev ρ)) 0 <;> rfl
 | _ => rfl
def ri (s : St) (t n e : Nat) (lo hi mx : Option V) : V → Option V
 | .ptr a path t' => if t' = t ∧ (s.read a path).isSome = true then ab (ah n mx n) fun m => ab (ah m hi n) fun h => ab (ah h lo 0) fun l => some (.sl a path l (h - l) (some (m - l)) e) else none
 | _ => none
theorem xZ {t n e : Nat} {lo hi mx : Option Opd} : rop D base ρ s (.slarr t n e x lo hi mx) = ab (ri s t n e (lo.map (Opd.ev ρ)) (hi.map (Opd.ev ρ)) (mx.map (Opd.ev ρ)) (x.ev ρ)) fun v => some (v, s) := by
 show evOp base ρ s (.slarr t n e x lo hi mx) = _;simp only [evOp];cases x.ev ρ with
 | ptr a path t' =>
  simp only [ri];by_cases he : t' = t ∧ (s.read a path).isSome = true
  ·simp only [if_pos he];cases ah n (mx.map (Opd.ev ρ)) n with
   | none => rfl
   | some m =>
    simp only [aM];cases ah m (hi.map (Opd.ev ρ)) n with
    | none => rfl
    | some h => simp only [aM]; cases ah h (lo.map (Opd.ev ρ)) 0 <;> rfl
  ·simp only [if_neg he]; rfl
 | _ => rfl
def qQ (t f c : Nat) : V → Option V
 | .ptr a path t' => if t' = t then some (.ptr a (path ++ [f]) c) else none
 | _ => none
theorem E8 {t f c : Nat} : rop D base ρ s (.fad t f c x) = ab (qQ t f c (x.ev ρ)) fun v => some (v, s) := by
 show evOp base ρ s (.fad t f c x) = _;simp only [evOp];cases x.ev ρ with
 | ptr a path t' => simp only [qQ]; split <;> rfl
 | _ => rfl
def yi (t n e : Nat) : V → V → Option V
 | .ptr a path t', .int _ j => if t' = t ∧ 0 ≤ j ∧ j < n then some (.ptr a (path ++ [j.toNat]) e) else none
 | _, _ => none
theorem EG {t n e : Nat} : rop D base ρ s (.iad t n e x i) = ab (yi t n e (x.ev ρ) (i.ev ρ)) fun v => some (v, s) := by
 show evOp base ρ s (.iad t n e x i) = _;simp only [evOp];cases x.ev ρ with
 | ptr a path t' =>
  cases i.ev ρ with
  | int k j => simp only [yi]; split <;> rfl
  | _ => rfl
 | _ => rfl
def np (e : Nat) : V → V → Option V
 | .sl a path off len _ e', .int _ j => if e' = e ∧ 0 ≤ j ∧ j < len then some (.ptr a (path ++ [off + j.toNat]) e) else none
 | _, _ => none
def yo (n e : Nat) : V → Option V
 | .sl a path off len _ e' => if e' = e ∧ 0 < n ∧ n ≤ len then some (.ptr a (path ++ [off]) e) else none
 | _ => none
theorem DP {n e : Nat} : rop D base ρ s (.s2a n e x) = ab (yo n e (x.ev ρ)) fun v => some (v, s) := by
 show evOp base ρ s (.s2a n e x) = _;simp only [evOp];cases x.ev ρ with
 | sl a path off len cap e' => simp only [yo]; split <;> rfl
 | _ => rfl
def xT (s : St) (t n e u : Nat) : V → Option V
 | .ptr a q e' => if e' = e then (s.part n u a q).map (.agg t) else none
 | _ => none
theorem Ed {t n e u : Nat} : rop D base ρ s (.ldr t n e u x) = ab (xT s t n e u (x.ev ρ)) fun v => some (v, s) := by
 show evOp base ρ s (.ldr t n e u x) = _;simp only [evOp];cases x.ev ρ with
 | ptr a q e' =>
  simp only [xT];split
  ·cases s.part n u a q <;> rfl
  ·rfl
 | _ => rfl
theorem ET : rop D base ρ s .mkm = some (.mp (some s.hp.length), ⟨s.loc, s.hp ++ [.mp []]⟩) := nd rfl
theorem FU : rop D base ρ s (.mlk x i) = ab (gS (x.ev ρ) (i.ev ρ) s) fun v => some (v, s) := by
 show evOp base ρ s (.mlk x i) = _;simp only [evOp];cases gS (x.ev ρ) (i.ev ρ) s <;> rfl
theorem DV {y : Opd} : rop D base ρ s (.mup x i y) = ab (eG (x.ev ρ) (i.ev ρ) (y.ev ρ) s) fun s' => some (.dead, s') := by
 show evOp base ρ s (.mup x i y) = _;simp only [evOp];cases eG (x.ev ρ) (i.ev ρ) (y.ev ρ) s <;> rfl
def zc : Option Blk → Option (List Int)
 | some (.mp l) => some l
 | _ => none
theorem Mv {j : Nat} {n : Int} : gS (.mp (some j)) (.int .i64 n) s = ab (zc (s.hp[j]?)) fun l => some (.bool (decide (n ∈ l))) := by
 simp only [gS, St.mpAt, zc];cases s.hp[j]? with
 | none => rfl
 | some b => cases b <;> rfl
theorem Mk {j : Nat} {n : Int} : eG (.mp (some j)) (.int .i64 n) (.bool true) s = ab (zc (s.hp[j]?)) fun l => some ⟨s.loc, s.hp.set j (.mp (if n ∈ l then l else l ++ [n]))⟩ := by
 simp only [eG, St.mpAt, zc];cases s.hp[j]? with
 | none => rfl
 | some b => cases b <;> rfl
theorem ED {e : Nat} : rop D base ρ s (.sad e x i) = ab (np e (x.ev ρ) (i.ev ρ)) fun v => some (v, s) := by
 show evOp base ρ s (.sad e x i) = _;simp only [evOp];cases x.ev ρ with
 | sl a path off len cap e' =>
  cases i.ev ρ with
  | int k j => simp only [np]; split <;> rfl
  | _ => rfl
 | _ => rfl
def yt (t f : Nat) : V → Option V
 | .agg t' l => if t' = t then l[f]? else none
 | _ => none
theorem FX {t f : Nat} : rop D base ρ s (.fld t f x) = ab (yt t f (x.ev ρ)) fun v => some (v, s) := by
 show evOp base ρ s (.fld t f x) = _;simp only [evOp];cases x.ev ρ with
 | agg t' l => simp only [yt]; split <;> (first | rfl | (cases l[f]? <;> rfl))
 | _ => rfl
def y8 (t n : Nat) : V → V → Option V
 | .agg t' l, .int _ j => if t' = t ∧ 0 ≤ j ∧ j < n then l[j.toNat]? else none
 | _, _ => none
theorem Eb {t n : Nat} : rop D base ρ s (.idx t n x i) = ab (y8 t n (x.ev ρ) (i.ev ρ)) fun v => some (v, s) := by
 show evOp base ρ s (.idx t n x i) = _;simp only [evOp];cases x.ev ρ with
 | agg t' l =>
  cases i.ev ρ with
  | int k j => simp only [y8]; split <;> (first | rfl | (cases l[j.toNat]? <;> rfl))
  | _ => rfl
 | _ => rfl
def ut : V → V → Option V
 | .str b, .int _ j => if 0 ≤ j then (b[j.toNat]?).map fun c => .int .u8 c.toNat else none
 | _, _ => none
theorem Ch : rop D base ρ s (.sidx x i) = ab (ut (x.ev ρ) (i.ev ρ)) fun v => some (v, s) := by
 show evOp base ρ s (.sidx x i) = _;simp only [evOp];cases x.ev ρ with
 | str b =>
  cases i.ev ρ with
  | int k j =>
   simp only [ut];by_cases hj : 0 ≤ j
   ·simp only [if_pos hj]; cases b[j.toNat]? <;> rfl
   ·simp only [if_neg hj]; rfl
  | _ => rfl
 | _ => rfl
def zq (n : Nat) : V → Option V
 | .tup l => l[n]?
 | _ => none
theorem Ir {l : List V} {n : Nat} : zq n (.tup l) = l[n]? := nd rfl
theorem Ei {n : Nat} : rop D base ρ s (.ext x n) = ab (zq n (x.ev ρ)) fun v => some (v, s) := by
 show evOp base ρ s (.ext x n) = _;simp only [evOp];cases x.ev ρ with
 | tup l => simp only [zq]; cases l[n]? <;> rfl
 | _ => rfl
theorem B6 {n : Nat} : rop D base ρ s (.lenk n) = some (.int .i64 n, s) := nd rfl
theorem DO {q : Bool} : rop D base ρ s (.len q x) = ab (V.slen q (x.ev ρ)) fun n => some (.int .i64 n, s) := by
 show evOp base ρ s (.len q x) = _;simp only [evOp];cases V.slen q (x.ev ρ) <;> rfl
theorem DH {e : Nat} : rop D base ρ s (.cpy e x y) = dP base e (x.ev ρ) (y.ev ρ) s := nd rfl
theorem FO {mx : Bool} : rop D base ρ s (.mnx mx x y) = ab (iS mx (x.ev ρ) (y.ev ρ)) fun v => some (v, s) := by
 show evOp base ρ s (.mnx mx x y) = _;simp only [evOp];cases iS mx (x.ev ρ) (y.ev ρ) <;> rfl
theorem Fw {h : Bool} {r e : Nat} : rop D base ρ s (.app h r e x y) = aH base h r e (x.ev ρ) (y.ev ρ) s := nd rfl
theorem DM {t : Nat} {l : List V} {ps : List (Nat × Opd)} : rop D base ρ s (.bld (.agg t l) ps) = ab (aO l (ps.map fun p => (p.1, p.2.ev ρ))) fun l' => some (.agg t l', s) := by
 show evOp base ρ s (.bld (.agg t l) ps) = _;simp only [evOp];cases aO l (ps.map fun p => (p.1, p.2.ev ρ)) <;> rfl
def yR (h : Bool) (r e n : Nat) (z : V) (s : St) (ps : List (Nat × V)) : Option (V × St) :=
 ab (aO (List.replicate n z) ps) fun l' => if (e % 2 = 0 ∨ aR h (.agg 1 l')) then some (.sl (s.fresh h) [] 0 n (some n) e, s.new h (.agg r l')) else none
theorem ye {h : Bool} {r e n : Nat} {z : V} {ps : List (Nat × Opd)} : rop D base ρ s (.bsl h r e z n ps) = yR h r e n z s (ps.map fun p => (p.1, p.2.ev ρ)) := by
 show evOp base ρ s (.bsl h r e z n ps) = _;simp only [evOp, yR];cases aO (List.replicate n z) (ps.map fun p => (p.1, p.2.ev ρ)) <;> rfl
noncomputable def uP (D : Nat → Option Fc) (args : List V) (s : St) : V → Option (V × St)
 | .fn g caps => rf D g (args ++ caps) s
 | _ => none
theorem GH {args : List V} {g : Nat} {caps : List V} : uP D args s (.fn g caps) = rf D g (args ++ caps) s := nd rfl
theorem B8 {f : Opd} {args : List Opd} : rop D base ρ s (.call f args) = uP D (args.map (Opd.ev ρ)) s (f.ev ρ) := by
 simp only [rop];cases f.ev ρ <;> rfl
noncomputable def oS (D : Nat → Option Fc) (k base g : Nat) (as : List V) (s : St) : Option V :=
 if (V.locLts k as && (decide (base ≤ k) && (decide (k ≤ s.loc.length) && ((s.loc.take k).drop base).all (aZ k)))) = true then
  ab (rf D g as ⟨s.loc.take k, s.hp⟩) fun x => if x.2 = ⟨s.loc.take k, s.hp⟩ ∧ x.1.flat = true then some x.1 else none
 else none
noncomputable def uX (D : Nat → Option Fc) (base : Nat) (args : List V) (s : St) : V → Option V
 | .fn g caps => oS D (bC base (args ++ caps)) base g (args ++ caps) s
 | _ => none
theorem EJ {args : List V} {g : Nat} {caps : List V} : uX D base args s (.fn g caps) = oS D (bC base (args ++ caps)) base g (args ++ caps) s := nd rfl
theorem Al {f : Opd} {args : List Opd} : rop D base ρ s (.pcall f args) = ab (uX D base (args.map (Opd.ev ρ)) s (f.ev ρ)) fun v => some (v, s) := by
 simp only [rop];cases f.ev ρ with
 | fn g caps =>
  show (if pOk base (bC base (args.map (Opd.ev ρ) ++ caps)) (args.map (Opd.ev ρ) ++ caps) s = true then
   (rf D g (args.map (Opd.ev ρ) ++ caps) (s.cut (bC base (args.map (Opd.ev ρ) ++ caps)))).bind fun x => if x.2 = s.cut (bC base (args.map (Opd.ev ρ) ++ caps)) ∧ x.1.flat = true then some (x.1, s) else none
   else none) = ab (oS D (bC base (args.map (Opd.ev ρ) ++ caps)) base g (args.map (Opd.ev ρ) ++ caps) s) _
  generalize hk : bC base (args.map (Opd.ev ρ) ++ caps) = k;unfold oS;by_cases hp : pOk base k (args.map (Opd.ev ρ) ++ caps) s = true
  ·rw [if_pos hp, if_pos (show (_ && _) = true from hp)]
   show (rf D g (args.map (Opd.ev ρ) ++ caps) ⟨s.loc.take k, s.hp⟩).bind _ = _;cases rf D g (args.map (Opd.ev ρ) ++ caps) ⟨s.loc.take k, s.hp⟩ with
   | none => rfl
   | some x =>
    show (if x.2 = s.cut k ∧ x.1.flat = true then some (x.1, s) else none) = ab (if x.2 = s.cut k ∧ x.1.flat = true then some x.1 else none) _
    by_cases hx : x.2 = s.cut k ∧ x.1.flat = true
    ·rw [if_pos hx, if_pos hx]; rfl
    ·rw [if_neg hx, if_neg hx]; rfl
  ·rw [if_neg hp, if_neg (show ¬ ((_ && _) = true) from hp)]; rfl
 | _ => rfl
theorem GN {k : IntKind} {n : Int} : V.flat (.int k n) = true := nd rfl
theorem Fd {b : Bool} : V.flat (.bool b) = true := nd rfl
theorem Ig : V.flat (.mp none) = true := nd rfl
theorem Hj {b : ByteArray} : V.flat (.str b) = true := nd rfl
theorem HN {t : Nat} {l : List V} : V.flat (.agg t l) = V.flats l := nd rfl
theorem GZ {l : List V} : V.flat (.tup l) = V.flats l := nd rfl
theorem FT : V.flats [] = true := nd rfl
theorem CG {v : V} {l : List V} : V.flats (v :: l) = (v.flat && V.flats l) := nd rfl
theorem zY {l : List V} (h : ∀ v ∈ l, v.flat = true) : V.flats l = true := by
 induction l with
 | nil => rfl
 | cons a l ih => simp only [V.flats, Bool.and_eq_true]; exact ⟨h a (by simp), ih fun v hv => h v (by simp [hv])⟩
theorem Bb {l : List Bool} : V.flats (l.map V.bool) = true := zY fun v hv => by obtain ⟨b, _, rfl⟩ := List.mem_map.1 hv; rfl
theorem Cs {k : IntKind} {l : List Int} : V.flats (l.map (V.int k)) = true := zY fun v hv => by obtain ⟨b, _, rfl⟩ := List.mem_map.1 hv; rfl
def yE (base : Nat) (s : St) (t : Nat) (x p : V) (l : List V) : Option St := if l.all (fun y => dL y p) = true then stv base s t x p else none
theorem Ew {t : Nat} {l : List Opd} : rop D base ρ s (.sta t p x l) = ab (yE base s t (x.ev ρ) (p.ev ρ) (l.map (Opd.ev ρ))) fun s' => some (.dead, s') := by
 show evOp base ρ s (.sta t p x l) = _;simp only [evOp, yE, List.all_map];show (if (l.all fun y => dL (y.ev ρ) (p.ev ρ)) = true then _ else none) = ab (if (l.all fun y => dL (y.ev ρ) (p.ev ρ)) = true then _ else none) _
 split
 ·have := @CY D base ρ s x p t;exact this
 ·rfl
def zN (s : St) (t : Nat) (p r : V) : Option V := if gX r p = true then ldv s t p else none
theorem Ep {t : Nat} {r : Opd} : rop D base ρ s (.lda t p r) = ab (zN s t (p.ev ρ) (r.ev ρ)) fun v => some (v, s) := by
 show evOp base ρ s (.lda t p r) = _;simp only [evOp, zN];show (if gX (r.ev ρ) (p.ev ρ) = true then _ else none) = _
 split
 ·exact @Da D base ρ s p t
 ·rfl
theorem Fh {a b : Loc} {q r : List Nat} {t u : Nat} : gX (.ptr a q t) (.ptr b r u) = decide (a = b) := nd rfl
noncomputable def qK (D : Nat → Option Fc) (args : List V) (s : St) (w f : V) : Option (V × St) := if ym s w = true then uP D args s f else none
theorem Aq {f w : Opd} {args : List Opd} : rop D base ρ s (.callw f args w) = qK D (args.map (Opd.ev ρ)) s (w.ev ρ) (f.ev ρ) := by
 simp only [rop, qK];split
 ·cases f.ev ρ <;> rfl
 ·rfl
noncomputable def vq (D : Nat → Option Fc) (p : Bool) (k base g : Nat) (as : List V) (s : St) : Option (V × St) :=
 if (V.locLts k as && (decide (base ≤ k) && (decide (k ≤ s.loc.length) && ((s.loc.take k).drop base).all (aZ k)))) = true then
  ab (rf D g as ⟨s.loc.take k, s.hp⟩) fun x => if x.2.loc = s.loc.take k ∧ (p = true → x.2.hp.take s.hp.length = s.hp) then some (x.1, ⟨s.loc, x.2.hp⟩) else none
 else none
noncomputable def us (D : Nat → Option Fc) (p : Bool) (base : Nat) (args : List V) (s : St) : V → Option (V × St)
 | .fn g caps => vq D p (bC base (args ++ caps)) base g (args ++ caps) s
 | _ => none
theorem EP {p : Bool} {args : List V} {g : Nat} {caps : List V} : us D p base args s (.fn g caps) = vq D p (bC base (args ++ caps)) base g (args ++ caps) s := nd rfl
theorem Ad {p : Bool} {f : Opd} {args : List Opd} : rop D base ρ s (.callk p f args) = us D p base (args.map (Opd.ev ρ)) s (f.ev ρ) := by
 simp only [rop];cases f.ev ρ with
 | fn g caps => rfl
 | _ => rfl
def yd (s : St) (t : Nat) : V → Option V
 | .ptr (.loc i) q t' => if t' = t then s.read (.loc i) q else none
 | _ => none
theorem Gt {i : Nat} {q : List Nat} {t t' : Nat} : yd s t (.ptr (.loc i) q t') = if t' = t then s.read (.loc i) q else none := nd rfl
theorem EQ {t : Nat} : rop D base ρ s (.ldl t p) = ab (yd s t (p.ev ρ)) fun v => some (v, s) := by
 show evOp base ρ s (.ldl t p) = _;simp only [evOp];cases p.ev ρ with
 | ptr a q t' =>
  cases a with
  | loc i =>
   simp only [yd];split
   ·cases s.read (.loc i) q <;> rfl
   ·rfl
  | hp i => rfl
 | _ => rfl
def uT (base : Nat) (h : Bool) (r e : Nat) (s : St) (x y : V) (l : List V) : Option (V × St) := if l.all (fun z => eE z x) = true then aH base h r e x y s else none
theorem BI {h : Bool} {r e : Nat} {x y : Opd} {l : List Opd} : rop D base ρ s (.appa h r e x y l) = uT base h r e s (x.ev ρ) (y.ev ρ) (l.map (Opd.ev ρ)) := by
 show evOp base ρ s (.appa h r e x y l) = _;simp only [evOp, uT, List.all_map];rfl
theorem GS {a b : Loc} {q r : List Nat} {t o l e : Nat} {c : Option Nat} : eE (.ptr a q t) (.sl b r o l c e) = decide (a ≠ b) := nd rfl
theorem DD {a : Loc} {q : List Nat} {t : Nat} : eE (.ptr a q t) .nils = true := nd rfl
theorem HH {a : Loc} {q : List Nat} {t : Nat} : ym s (.ptr a q t) = (s.read a q).isSome := nd rfl
theorem DF {a b : Loc} {q r : List Nat} {t u : Nat} : dL (.ptr a q t) (.ptr b r u) = decide (a ≠ b) := nd rfl
theorem KZ {i : Nat} {p : List Nat} {t : Nat} : V.lim1 (.ptr (.hp i) p t) = 0 := nd rfl
theorem GT {i : Nat} {p : List Nat} {t : Nat} : V.lim1 (.ptr (.loc i) p t) = i + 1 := nd rfl
theorem Jd {i : Nat} {p : List Nat} {o l : Nat} {c : Option Nat} {t : Nat} : V.lim1 (.sl (.loc i) p o l c t) = i + 1 := nd rfl
theorem G8 {k : IntKind} {n : Int} : V.lim1 (.int k n) = 0 := nd rfl
theorem DT {n : Bool} : V.lim1 (.bool n) = 0 := nd rfl
theorem Ib {t : Nat} {l : List V} : V.lim1 (.agg t l) = 0 := nd rfl
theorem KP {t : Nat} {l : List V} : V.lim1 (.fn t l) = 0 := nd rfl
theorem It : yL base [] = base := nd rfl
theorem E1 {v : V} {l : List V} : yL base (v :: l) = max v.lim1 (yL base l) := nd rfl
end ops
theorem nV {α β γ : Type} {x : Option α} {f : α → Option β} {g : β → Option γ} : ab (ab x f) g = ab x fun a => ab (f a) g := by cases x <;> rfl
theorem Bk {α β : Type} {v : V} {f : Bool → Option α} {g : α → Option β} : ab (mr v f) g = mr v fun t => ab (f t) g := by cases v <;> rfl
theorem Ek {α β : Type} {c : Prop} [Decidable c] {x : Option α} {g : α → Option β} : ab (if c then x else none) g = if c then ab x g else none := by split <;> rfl
theorem xo {α β : Type} {x : Option α} {f g : α → Option β} (h : ∀ a, f a = g a) : ab x f = ab x g := by cases x <;> simp only [ab, Option.bind_none, Option.bind_some, h]
noncomputable def r1 (D : Nat → Option Fc) (base : Nat) (ρ : Env) (s : St) {α : Type} (o : Op') (K : V → St → Option α) : Option α :=
 match o with
 | .mv x => K (x.ev ρ) s
 | .pick c a b => mr (c.ev ρ) fun t => K (if t then a.ev ρ else b.ev ρ) s
 | .alloc h z => K (.ptr (s.fresh h) [] z.tag) (s.new h z)
 | .box h x => if (x.ev ρ).ok && aR h (x.ev ρ) then K (.ptr (s.fresh h) [] (x.ev ρ).tag) (s.new h (x.ev ρ)) else none
 | .ld t p => ab (ldv s t (p.ev ρ)) fun v => K v s
 | .st t p x => ab (stv base s t (x.ev ρ) (p.ev ρ)) fun s' => K .dead s'
 | .nilc x => ab (zb (x.ev ρ)) fun v => K v s
 | .bin o x y => ab (il o (x.ev ρ) (y.ev ρ)) fun v => K v s
 | .un o x => ab (vun o (x.ev ρ)) fun v => K v s
 | .conv k x => ab (xR k (x.ev ρ)) fun v => K v s
 | .fad t f c x => ab (qQ t f c (x.ev ρ)) fun v => K v s
 | .iad t n e x i => ab (yi t n e (x.ev ρ) (i.ev ρ)) fun v => K v s
 | .sad e x i => ab (np e (x.ev ρ) (i.ev ρ)) fun v => K v s
 | .fld t f x => ab (yt t f (x.ev ρ)) fun v => K v s
 | .s2a n e x => ab (yo n e (x.ev ρ)) fun v => K v s
 | .ldr t n e u x => ab (xT s t n e u (x.ev ρ)) fun v => K v s
 | .mkm => K (.mp (some s.hp.length)) ⟨s.loc, s.hp ++ [.mp []]⟩
 | .mlk x i => ab (gS (x.ev ρ) (i.ev ρ) s) fun v => K v s
 | .mup x i y => ab (eG (x.ev ρ) (i.ev ρ) (y.ev ρ) s) fun s' => K .dead s'
 | .idx t n x i => ab (y8 t n (x.ev ρ) (i.ev ρ)) fun v => K v s
 | .sidx x i => ab (ut (x.ev ρ) (i.ev ρ)) fun v => K v s
 | .ext x n => ab (zq n (x.ev ρ)) fun v => K v s
 | .lenk n => K (.int .i64 n) s
 | .len q x => ab (V.slen q (x.ev ρ)) fun n => K (.int .i64 n) s
 | .slc e x lo hi mx => ab (eJ e (lo.map (Opd.ev ρ)) (hi.map (Opd.ev ρ)) (mx.map (Opd.ev ρ)) (x.ev ρ)) fun v => K v s
 | .slarr t n e x lo hi mx => ab (ri s t n e (lo.map (Opd.ev ρ)) (hi.map (Opd.ev ρ)) (mx.map (Opd.ev ρ)) (x.ev ρ)) fun v => K v s
 | .eq neg t x y => ab (eqv neg t (x.ev ρ) (y.ev ρ)) fun v => K v s
 | .mkfn f caps => ab (uO f (caps.map (Opd.ev ρ))) fun v => K v s
 | .slstr x lo hi => ab (rm (lo.map (Opd.ev ρ)) (hi.map (Opd.ev ρ)) (x.ev ρ)) fun v => K v s
 | .mksl h r e z n c => ab (xS h r e z s (n.ev ρ) (c.ev ρ)) fun x => K x.1 x.2
 | .app h r e x y => ab (aH base h r e (x.ev ρ) (y.ev ρ) s) fun x => K x.1 x.2
 | .bsl h r e z n ps => ab (yR h r e n z s (ps.map fun p => (p.1, p.2.ev ρ))) fun x => K x.1 x.2
 | .cpy e x y => ab (dP base e (x.ev ρ) (y.ev ρ) s) fun x => K x.1 x.2
 | .mnx mx x y => ab (iS mx (x.ev ρ) (y.ev ρ)) fun v => K v s
 | .bld z ps => match z with
  | .agg t l => ab (aO l (ps.map fun p => (p.1, p.2.ev ρ))) fun l' => K (.agg t l') s
  | _ => none
 | .call f args => ab (uP D (args.map (Opd.ev ρ)) s (f.ev ρ)) fun x => K x.1 x.2
 | .pcall f args => ab (uX D base (args.map (Opd.ev ρ)) s (f.ev ρ)) fun v => K v s
 | .sta t p x l => ab (yE base s t (x.ev ρ) (p.ev ρ) (l.map (Opd.ev ρ))) fun s' => K .dead s'
 | .callw f args w => ab (qK D (args.map (Opd.ev ρ)) s (w.ev ρ) (f.ev ρ)) fun x => K x.1 x.2
 | .lda t p r => ab (zN s t (p.ev ρ) (r.ev ρ)) fun v => K v s
 | .callk p f args => ab (us D p base (args.map (Opd.ev ρ)) s (f.ev ρ)) fun x => K x.1 x.2
 | .ldl t p => ab (yd s t (p.ev ρ)) fun v => K v s
 | .appa h r e x y l => ab (uT base h r e s (x.ev ρ) (y.ev ρ) (l.map (Opd.ev ρ))) fun x => K x.1 x.2
theorem E5 {α : Type} {o : Op'} {K : V → St → Option α} : ab (rop D base ρ s o) (fun x => K x.1 x.2) = r1 D base ρ s o K := by
 cases o with
 | bld z ps =>
  cases z with
  | agg t l => simp only [r1, DM, nV, aM]
  | _ => rfl
 | pcall f args => simp only [r1, Al, nV, aM]
 | box h x => simp only [r1, D3, Ek, aM]
 | _ => simp only [r1, IF, Cn, yy, Da, CY, B7, EM, IC, Cc, E8, EG, ED, FX, Eb, Ch, Ei, B6, DO, Fi, xZ, B8, IR, wW, uU, w7, Fw, DH, FO, ye, Ew, Aq, Ep, Ad, EQ, BI, DP, Ed, ET, FU, DV, nV, aM, Bk]
noncomputable def rgO (D : Nat → Option Fc) (base : Nat) (ks : List Nat) : List Op → Env → St → Option (Ex × Env × St)
 | [], ρ, s => some (Ex.normal, restrict ks ρ, s)
 | op :: rest, ρ, s => match op.guard with
  | none => r1 D base ρ s op.op fun v s' => rgO D base ks rest (put op.dst v ρ) s'
  | some (t, b) => gA (get ρ t) b (r1 D base ρ s op.op fun v s' => rgO D base ks rest (put op.dst v ((t, .bool b) :: ρ)) s') (rgO D base ks rest (put op.dst (.tup []) ((t, .bool !b) :: ρ)) s) (rgO D base ks rest (put op.dst (.tup []) ((t, .tup []) :: ρ)) s)
theorem oO {ks : List Nat} : ∀ {l : List Op} {ρ : Env} {s : St}, rg D base ks l ρ s = rgO D base ks l ρ s
 | [], ρ, s => by rw [LU]; rfl
 | ⟨d, none, o⟩ :: l, ρ, s => by
  rw [NO];simp only [rgO];rw [← E5];exact xo fun x => oO
 | ⟨d, some (t, b), o⟩ :: l, ρ, s => by
  rw [NN];simp only [rgO];refine uK (fun _ => ?_) (fun _ => oO) (fun _ => oO);rw [← E5];exact xo fun x => oO
theorem HK {ks : List Nat} {l : List Op} : rc D base (.reg (some ks) l) ρ s = rgO D base ks l ρ s := Mj.trans oO
theorem Ee {ks : List Nat} {l : List Op} : rc D base (.regd (some ks) l) ρ s = rgO D base ks l ρ s := Ke.trans oO
theorem C1 {y d : Nat} : ah y none d = some d := nd rfl
theorem FI {y d : Nat} {k : IntKind} {i : Int} : ah y (some (.int k i)) d = if 0 ≤ i ∧ i ≤ y then some i.toNat else none := nd rfl
theorem IZ : s.fresh true = .hp s.hp.length := nd rfl
theorem Jx : s.fresh false = .loc s.loc.length := nd rfl
theorem Nk {v : V} : s.new true v = ⟨s.loc, s.hp ++ [.rw v]⟩ := nd rfl
theorem ME {v : V} : s.new false v = ⟨s.loc ++ [.rw v], s.hp⟩ := nd rfl
theorem Hw {v : V} : aR false v = true := nd rfl
theorem yv {v : V} : aR true v = v.locLt 0 := nd rfl
def Blk.rd (p : List Nat) : Option Blk → Option V
 | some (.rw v) => V.at p v
 | some (.ro v) => V.at p v
 | _ => none
theorem ue {p : List Nat} {v : V} : Blk.rd p (some (.rw v)) = V.at p v := nd rfl
theorem IG {p : List Nat} {v : V} : Blk.rd p (some (.ro v)) = V.at p v := nd rfl
theorem tX {i : Nat} {p : List Nat} : s.read (.loc i) p = Blk.rd p s.loc[i]? := nd rfl
theorem my {i : Nat} {p : List Nat} : s.read (.hp i) p = Blk.rd p s.hp[i]? := nd rfl
def Blk.wr (p : List Nat) (x : V) : Option Blk → Option Blk
 | some (.rw v) => (V.setAt p x v).map .rw
 | _ => none
theorem MM {p : List Nat} {x v : V} : Blk.wr p x (some (.rw v)) = (V.setAt p x v).map .rw := nd rfl
theorem D9 {i : Nat} {p : List Nat} {x : V} : s.write base (.loc i) p x = if x.locLt 0 || decide (base ≤ i) then (Blk.wr p x s.loc[i]?).map fun b => ⟨s.loc.set i b, s.hp⟩ else none := by
 simp only [St.write, St.at];cases s.loc[i]? with
 | none => simp [Blk.wr]
 | some b =>
  cases b with
  |rw v =>
   simp only [Blk.wr];rw [show (x.locLt 0 || decide (base ≤ i)) = cL base (.loc i) x from rfl]
   by_cases hc : cL base (.loc i) x = true
   ·rw [if_pos hc, if_pos hc]; cases V.setAt p x v <;> rfl
   ·rw [if_neg hc, if_neg hc]
  | _ => simp [Blk.wr]
theorem G6 {i : Nat} {p : List Nat} {x : V} : s.write base (.hp i) p x = if x.locLt 0 then (Blk.wr p x s.hp[i]?).map fun b => ⟨s.loc, s.hp.set i b⟩ else none := by
 simp only [St.write, St.at];cases s.hp[i]? with
 | none => simp [Blk.wr]
 | some b =>
  cases b with
  |rw v =>
   simp only [Blk.wr];rw [show x.locLt 0 = cL base (.hp i) x from rfl]
   by_cases hc : cL base (.hp i) x = true
   ·rw [if_pos hc, if_pos hc]; cases V.setAt p x v <;> rfl
   ·rw [if_neg hc, if_neg hc]
  | _ => simp [Blk.wr]
theorem nq {v : V} : V.at [] v = some v := nd rfl
theorem vP {i : Nat} {p : List Nat} {t : Nat} {l : List V} : V.at (i :: p) (.agg t l) = ab l[i]? (V.at p) := by
 simp only [V.at]; cases l[i]? <;> rfl
theorem DJ {x v : V} : V.setAt [] x v = some x := nd rfl
theorem Dp {i : Nat} {p : List Nat} {t : Nat} {l : List V} {x : V} : V.setAt (i :: p) x (.agg t l) = ab l[i]? fun y => ab (V.setAt p x y) fun y' => some (.agg t (l.set i y')) := by
 simp only [V.setAt];cases l[i]? with
 | none => rfl
 | some y => simp only [aM]; cases V.setAt p x y <;> rfl
theorem Bv {α : Type} {l m : List α} {i : Nat} : (l ++ m)[l.length + i]? = m[i]? := by rw [List.getElem?_append_right (Nat.le_add_right _ _), Nat.add_sub_cancel_left]
theorem Gq {α : Type} {l m : List α} : (l ++ m)[l.length]? = m[0]? := Bv (i := 0)
theorem BE {α : Type} {l m : List α} {i : Nat} {x : α} : (l ++ m).set (l.length + i) x = l ++ m.set i x := by rw [List.set_append_right _ _ (Nat.le_add_right _ _), Nat.add_sub_cancel_left]
theorem pF {α : Type} {l m : List α} {x : α} : (l ++ m).set l.length x = l ++ m.set 0 x := BE (i := 0)
theorem HA {α : Type} {l m : List α} {i : Nat} : (l ++ m).take (l.length + i) = l ++ m.take i := by rw [List.take_append, List.take_of_length_le (Nat.le_add_right _ _), Nat.add_sub_cancel_left]
theorem Ff {α : Type} {l m : List α} : (l ++ m).take l.length = l := by rw [List.take_append]; simp
theorem Hr {α : Type} {l m : List α} : (l ++ m).drop l.length = m := List.drop_left
theorem Dc {b : Nat} : V.locLts b [] = true := by simp only [V.locLts]
theorem Bf {b : Nat} {v : V} {l : List V} : V.locLts b (v :: l) = (v.locLt b && V.locLts b l) := by simp only [V.locLts]
section
variable {b : Nat}
theorem JA {x : Bool} : V.locLt b (.bool x) = true := by simp only [V.locLt]
theorem Lo {k : IntKind} {x : Int} : V.locLt b (.int k x) = true := by simp only [V.locLt]
theorem Mo {x : ByteArray} : V.locLt b (.str x) = true := by simp only [V.locLt]
theorem JU : V.locLt b .nilp = true := by simp only [V.locLt]
theorem J3 : V.locLt b .nils = true := by simp only [V.locLt]
theorem MP {o : Option Nat} : V.locLt b (.mp o) = true := by simp only [V.locLt]
theorem K8 : V.locLt b .nilf = true := by simp only [V.locLt]
theorem JE : V.locLt b .dead = true := by simp only [V.locLt]
theorem MQ {i : Nat} {p : List Nat} {t : Nat} : V.locLt b (.ptr (.hp i) p t) = true := by simp only [V.locLt]
theorem Ji {i : Nat} {p : List Nat} {o l e : Nat} {c : Option Nat} : V.locLt b (.sl (.hp i) p o l c e) = true := by simp only [V.locLt]
theorem LB {i : Nat} {p : List Nat} {t : Nat} : V.locLt b (.ptr (.loc i) p t) = decide (i < b) := by simp only [V.locLt]
theorem Gn {i : Nat} {p : List Nat} {o l e : Nat} {c : Option Nat} : V.locLt b (.sl (.loc i) p o l c e) = decide (i < b) := by simp only [V.locLt]
theorem Na {f : Nat} {l : List V} : V.locLt b (.fn f l) = V.locLts b l := by simp only [V.locLt]
theorem LQ {l : List V} : V.locLt b (.tup l) = V.locLts b l := by simp only [V.locLt]
theorem yX {t : Nat} {l : List V} : V.locLt b (.agg t l) = (t % 2 == 0 || V.locLts b l) := by simp only [V.locLt]
end
theorem Ge {b : Nat} {v : V} : aZ b (.rw v) = v.locLt b := nd rfl
theorem HT {b : Nat} {l : List Int} : aZ b (.mp l) = true := nd rfl
theorem GU {b : Nat} {v : V} : aZ b (.ro v) = v.locLt b := nd rfl
theorem C2 {b : Nat} : aZ b .dead = true := nd rfl
theorem Ba {n : Nat} {res : List RV} : jO n res (.ret, ρ, s) = ab (cQ ρ s res) fun v => if v.locLt n ∧ n ≤ s.loc.length then some (v, { s with loc := s.loc.take n }) else none := by
 rw [Fz]; cases cQ ρ s res <;> rfl
theorem wF {n : Nat} {res : List RV} : jO n res (.normal, ρ, s) = ab (cQ ρ s res) fun v => if v.locLt n ∧ n ≤ s.loc.length then some (v, { s with loc := s.loc.take n }) else none := by
 rw [zG]; cases cQ ρ s res <;> rfl
theorem NH {n : Nat} : RV.ev ρ s (.t n) = some (get ρ n) := nd rfl
theorem JO {n q : Nat} : RV.ev ρ s (.cell n q) = ldv s q (get ρ n) := by
 simp only [RV.ev];cases get ρ n <;> rfl
theorem DB : cQ ρ s [] = some (.tup []) := nd rfl
theorem ES {r : RV} : cQ ρ s [r] = RV.ev ρ s r := by
 simp only [cQ, List.mapM_cons, List.mapM_nil];cases RV.ev ρ s r <;> rfl
theorem FS {r q : RV} : cQ ρ s [r, q] = ab (RV.ev ρ s r) fun a => ab (RV.ev ρ s q) fun b => if a.ok && b.ok then some (.tup [a, b]) else none := by
 simp only [cQ, List.mapM_cons, List.mapM_nil];cases RV.ev ρ s r with
 | none => rfl
 | some a =>
  cases RV.ev ρ s q with
  | none => rfl
  | some b => simp [List.all, aM]
theorem AJ {r q p : RV} : cQ ρ s [r, q, p] = ab (RV.ev ρ s r) fun a => ab (RV.ev ρ s q) fun b => ab (RV.ev ρ s p) fun c => if a.ok && b.ok && c.ok then some (.tup [a, b, c]) else none := by
 simp only [cQ, List.mapM_cons, List.mapM_nil];cases RV.ev ρ s r with
 | none => rfl
 | some a =>
  cases RV.ev ρ s q with
  | none => rfl
  | some b =>
   cases RV.ev ρ s p with
   | none => rfl
   | some c => simp [List.all, Bool.and_assoc, aM]
section
variable {c : Prop} [Decidable c]
theorem CT {ρ' : Env} {s' : St} : (if c then some (Ex.normal, ρ, s) else some (Ex.normal, ρ', s')) = some (Ex.normal, if c then ρ else ρ', if c then s else s') := by split <;> rfl
theorem HU {id : Nat} {ρ' : Env} {s' : St} : (if c then some (Ex.exit id, ρ, s) else some (Ex.exit id, ρ', s')) = some (Ex.exit id, if c then ρ else ρ', if c then s else s') := by split <;> rfl
theorem Jp {ρ' : Env} {s' : St} : (if c then some (Ex.ret, ρ, s) else some (Ex.ret, ρ', s')) = some (Ex.ret, if c then ρ else ρ', if c then s else s') := by split <;> rfl
theorem JH {k : Nat} {v v' : V} {ρ' : Env} : (if c then (k, v) :: ρ else (k, v') :: ρ') = (k, if c then v else v') :: (if c then ρ else ρ') := by split <;> rfl
theorem Mx {v v' : V} {s' : St} : (if c then some (v, s) else some (v', s')) = some (if c then v else v', if c then s else s') := by split <;> rfl
theorem EI {a b : Bool} : (if c then V.bool a else V.bool b) = V.bool (if c then a else b) := by split <;> rfl
theorem HF {k : IntKind} {a b : Int} : (if c then V.int k a else V.int k b) = V.int k (if c then a else b) := by split <;> rfl
theorem Gy {t : Nat} {l l' : List V} : (if c then V.agg t l else V.agg t l') = V.agg t (if c then l else l') := by split <;> rfl
theorem HS {l l' : List V} : (if c then V.tup l else V.tup l') = V.tup (if c then l else l') := by split <;> rfl
theorem FP {v v' : V} {l l' : List V} : (if c then v :: l else v' :: l') = (if c then v else v') :: (if c then l else l') := by split <;> rfl
theorem FD {v v' : Blk} {l l' : List Blk} : (if c then v :: l else v' :: l') = (if c then v else v') :: (if c then l else l') := by split <;> rfl
theorem Kq {v v' : V} : (if c then Blk.rw v else Blk.rw v') = Blk.rw (if c then v else v') := by split <;> rfl
theorem LZ {l l' h h' : List Blk} : (if c then St.mk l h else St.mk l' h') = St.mk (if c then l else l') (if c then h else h') := by split <;> rfl
theorem Jt {l m m' : List Blk} : (if c then l ++ m else l ++ m') = l ++ (if c then m else m') := by split <;> rfl
theorem Ec {b : C} {y : Option (Ex × Env × St)} : ab (if c then some (.ret, ρ, s) else y) (andThen D base b) = if c then some (.ret, ρ, s) else ab y (andThen D base b) := by split <;> rfl
theorem Cz {b : C} {y : Option (Ex × Env × St)} : ab (if c then y else some (.ret, ρ, s)) (andThen D base b) = if c then ab y (andThen D base b) else some (.ret, ρ, s) := by split <;> rfl
theorem C0 {b : C} {y : Option (Ex × Env × St)} {id : Nat} : ab (if c then some (.exit id, ρ, s) else y) (andThen D base b) = if c then some (.exit id, ρ, s) else ab y (andThen D base b) := by split <;> rfl
theorem AG {b : C} {y : Option (Ex × Env × St)} {id : Nat} : ab (if c then y else some (.exit id, ρ, s)) (andThen D base b) = if c then ab y (andThen D base b) else some (.exit id, ρ, s) := by split <;> rfl
theorem Bo {n : Nat} {res : List RV} {x y : Option (Ex × Env × St)} : ab (if c then x else y) (jO n res) = if c then ab x (jO n res) else ab y (jO n res) := qD
theorem A0 {id : Nat} {x y : Option (Ex × Env × St)} : ab (if c then x else y) (ny id) = if c then ab x (ny id) else ab y (ny id) := qD
theorem AH {n : Nat} {keep : List Nat} {b : C} {x y : Option (Ex × Env × St)} : ab (if c then x else y) (gd D base n keep b) = if c then ab x (gd D base n keep b) else ab y (gd D base n keep b) := qD
end
theorem Mw : St.mk s.loc s.hp = s := nd rfl
theorem Cw : s.elems .nils = some [] := nd rfl
def Bt (off len : Nat) : Option V → Option (List V)
 | some (.agg _ l) => if off + len ≤ l.length then some ((l.drop off).take len) else none
 | _ => none
theorem Bp {off len t : Nat} {l : List V} : Bt off len (some (.agg t l)) = if off + len ≤ l.length then some ((l.drop off).take len) else none := nd rfl
theorem Hk {a : Loc} {path : List Nat} {off len : Nat} {cap : Option Nat} {e : Nat} : s.elems (.sl a path off len cap e) = if len = 0 then some [] else Bt off len (s.read a path) := by
 simp only [St.elems];cases s.read a path with
 | none => rfl
 | some v => cases v <;> rfl
section
variable {a : Loc} {p : List Nat} {off len e e' t t' n f u : Nat} {cap : Option Nat} {k k' : IntKind} {j m : Int} {b : Bool} {sb sc : ByteArray} {l : List V} {lo hi mx : Option V} {o : BinOp}
theorem Fb : V.slen false .nils = some 0 := nd rfl
theorem Kc : V.slen false (.sl a p off len cap e) = some len := nd rfl
theorem GW : V.slen true (.str sb) = some sb.size := nd rfl
theorem JW : np e (.sl a p off len cap e') (.int k j) = if e' = e ∧ 0 ≤ j ∧ j < len then some (.ptr a (p ++ [off + j.toNat]) e) else none := nd rfl
theorem Ii : yi t n e (.ptr a p t') (.int k j) = if t' = t ∧ 0 ≤ j ∧ j < n then some (.ptr a (p ++ [j.toNat]) e) else none := nd rfl
theorem GK : qQ t f u (.ptr a p t') = if t' = t then some (.ptr a (p ++ [f]) u) else none := nd rfl
theorem Hc : yt t f (.agg t' l) = if t' = t then l[f]? else none := nd rfl
theorem GX : y8 t n (.agg t' l) (.int k j) = if t' = t ∧ 0 ≤ j ∧ j < n then l[j.toNat]? else none := nd rfl
theorem FN : ut (.str sb) (.int k j) = if 0 ≤ j then (sb[j.toNat]?).map fun c => .int .u8 c.toNat else none := nd rfl
theorem JP : eJ e lo hi mx (.sl a p off len cap e') = if e' = e then
 ab (ah (cap.getD len) mx (cap.getD len)) fun m => ab (ah (gj mx.isSome m len) hi len) fun h => ab (ah h lo 0) fun l =>
  some (.sl a p (off + l) (h - l) (kT mx.isSome cap (m - l)) e) else none := nd rfl
theorem DI : eJ e lo hi mx .nils = ab (ah 0 mx 0) fun _ => ab (ah 0 hi 0) fun _ => ab (ah 0 lo 0) fun _ => some .nils := nd rfl
theorem CL : rm lo hi (.str sb) = ab (ah sb.size hi sb.size) fun h => ab (ah h lo 0) fun l => some (.str (sb.extract l h)) := nd rfl
theorem I0 {n e e' off len : Nat} {a : Loc} {path : List Nat} {c : Option Nat} : yo n e (.sl a path off len c e') = if e' = e ∧ 0 < n ∧ n ≤ len then some (.ptr a (path ++ [off]) e) else none := nd rfl
theorem GY {n u e e' : Nat} {a : Loc} {q : List Nat} : xT s t n e u (.ptr a q e') = if e' = e then (s.part n u a q).map (.agg t) else none := nd rfl
theorem Dy : ri s t n e lo hi mx (.ptr a p t') = if t' = t ∧ (s.read a p).isSome = true then ab (ah n mx n) fun m => ab (ah m hi n) fun h => ab (ah h lo 0) fun l => some (.sl a p l (h - l) (some (m - l)) e) else none := nd rfl
theorem Gx : il o (.int k j) (.int k' m) = if BinOp.isShift o then shf o k j m else if k = k' then wJ o k j m else none := nd rfl
theorem Ho : il o (.str sb) (.str sc) = wb o sb sc := nd rfl
theorem Jo : vun .not (.bool b) = some (.bool !b) := nd rfl
theorem KH : vun .neg (.int k j) = some (.int k (k.wrap (0 - j))) := nd rfl
theorem Jy : vun .xor (.int k j) = some (.int k (kG k (if k.signed then -1 else k.max) j)) := nd rfl
theorem G4 : iS b (.int k j) (.int k' m) = if k = k' then some (.int k (if b then max j m else min j m)) else none := nd rfl
theorem Ev {h : Bool} {r : Nat} {z : V} : xS h r e z s (.int k j) (.int k' m) = if 0 ≤ j ∧ j ≤ m ∧ m ≤ fB then
 some (.sl (s.fresh h) [] 0 j.toNat (some m.toNat) e, s.new h (.agg r (List.replicate j.toNat z))) else none := nd rfl
theorem Hh : V.tag (.bool b) = 0 := nd rfl
theorem KB : V.tag (.int k j) = fq k := nd rfl
theorem Ks : V.tag (.str sb) = 2 := nd rfl
theorem Ja : V.tag (.agg t l) = t := nd rfl
theorem KR : V.tag (.ptr a p t) = 1 := nd rfl
theorem Ic : V.tag .nilp = 1 := nd rfl
theorem Mi : V.tag (.sl a p off len cap e) = 1 := nd rfl
theorem GO : V.tag .nils = 1 := nd rfl
theorem Li : V.tag (.fn f l) = 1 := nd rfl
theorem G7 : V.tag .nilf = 1 := nd rfl
theorem LJ {o : Option Nat} : V.tag (.mp o) = 1 := nd rfl
theorem ML {o : Option Nat} : V.ok (.mp o) = true := nd rfl
theorem JI {m : List Int} : zc (some (.mp m)) = some m := nd rfl
theorem Km : V.ok (.bool b) = true := nd rfl
theorem Mf : V.ok (.int k j) = true := nd rfl
theorem K9 : V.ok (.str sb) = true := nd rfl
theorem LH : V.ok (.agg t l) = true := nd rfl
theorem LO : V.ok (.ptr a p t) = true := nd rfl
theorem KL : V.ok .nilp = true := nd rfl
theorem Nu : V.ok (.sl a p off len cap e) = true := nd rfl
theorem Ku : V.ok .nils = true := nd rfl
theorem No : V.ok (.fn f l) = true := nd rfl
theorem Jh : V.ok .nilf = true := nd rfl
end
theorem JV : bV 1 .nilp .nilp = some true := nd rfl
theorem Jr {a : Loc} {p : List Nat} {t : Nat} : bV 1 .nilp (.ptr a p t) = some false := nd rfl
theorem JN {a : Loc} {p : List Nat} {t : Nat} : bV 1 (.ptr a p t) .nilp = some false := nd rfl
theorem Iu : bV 3 .nils .nils = some true := nd rfl
theorem HB {a : Loc} {p : List Nat} {o l e : Nat} {c : Option Nat} : bV 3 .nils (.sl a p o l c e) = some false := nd rfl
theorem Is {a : Loc} {p : List Nat} {o l e : Nat} {c : Option Nat} : bV 3 (.sl a p o l c e) .nils = some false := nd rfl
theorem G5 : bV 5 .nilf .nilf = some true := nd rfl
theorem Il {f : Nat} {l : List V} : bV 5 .nilf (.fn f l) = some false := nd rfl
theorem Hy {f : Nat} {l : List V} : bV 5 (.fn f l) .nilf = some false := nd rfl
theorem GJ {t : Nat} {x y : V} (h1 : t ≠ 1) (h3 : t ≠ 3) (h5 : t ≠ 5) : bV t x y = if x.tag = t ∧ y.tag = t then veq x y else none := by
 unfold bV;split
 ·exact absurd rfl h1
 ·exact absurd rfl h3
 ·exact absurd rfl h5
 ·rfl
theorem GA {a b : Bool} : veq (.bool a) (.bool b) = some (a == b) := by simp only [veq]
theorem Js {k k' : IntKind} {a b : Int} : veq (.int k a) (.int k' b) = if k = k' then some (decide (a = b)) else none := by simp only [veq]
theorem IV {a b : ByteArray} : veq (.str a) (.str b) = some (a.toList == b.toList) := by simp only [veq]
theorem Ky {t t' : Nat} {l l' : List V} : veq (.agg t l) (.agg t' l') = if t = t' then bZ l l' else none := by simp only [veq]
theorem GM : bZ [] [] = some true := by simp only [bZ]
theorem DK {v v' : V} {l l' : List V} : bZ (v :: l) (v' :: l') = ab (veq v v') fun b => if b = true then bZ l l' else some false := by
 simp only [bZ];cases veq v v' with
 | none => rfl
 | some b => cases b <;> rfl
attribute [go_sem] Jz He LP I2 HY wq A9 yK DL Dt xK CI AR HV zm D4 Dq
 Bd C3 Gl Hp Ik y9 xF AK AP NR NJ Iv FY
 IF Cn yy D3 Da CY B7 EM IR IC Cc wW w7 Fi uU xZ E8 EG ED FX Eb Ch Ei B6 DO Fw DH FO DM ye B8 Al Ew Aq Ep Ad EQ BI DP Ed ET FU DV Mv Mk JI LJ ML MP HT I0 GY uT GS DD EP vq Gt zN Fh GN Fd Hj Ig HN GZ FT CG Bb Cs and_true yE qK HH DF ne_eq Loc.loc.injEq Loc.hp.injEq
 G4 eqv uO Ev yR CL Ju Jn HR KF Et JP DI Dy GK Ii JW Hc GX FN Ir GH EJ oS bC It E1 KZ GT Jd G8 DT Ib KP Nat.le_refl Nat.le_add_right List.drop_length C1 FI Fb Kc GW
 Hh KB Ks Ja KR Ic Mi GO Li G7 Km Mf K9 LH LO KL Nu Ku No Jh
 IZ Jx Nk ME Hw yv ue IG tX my MM D9 G6 nq vP DJ Dp
 Bv Gq BE pF HA Ff Hr
 Dc Bf JA Lo Mo JU J3 K8 JE MQ Ji LB Gn Na LQ yX Ge GU C2
 NH JO DB ES FS AJ Ba wF Cw Bp Hk
 Mw CT HU Jp JH Mx EI HF Gy HS FP FD Kq LZ Jt Ec Cz C0 AG Bo A0 AH ite_self Bool.if_true_left Bool.if_true_right Bool.if_false_left Bool.if_false_right
 gj kT Option.isSome_none Option.isSome_some
 fq Gx Ho wJ shf wb BinOp.isShift Jo KH Jy JV Jr JN Iu HB Is G5 Il Hy GJ GA Js IV Ky GM DK aO iK
 aM De Dg Option.bind_some Option.bind_none Option.map_some Option.map_none Option.getD_some Option.getD_none
 List.map_cons List.map_nil List.cons_append List.nil_append List.append_assoc List.append_nil List.length_append List.length_cons List.length_nil List.getElem?_cons_zero List.getElem?_cons_succ List.getElem?_nil List.set_cons_zero List.set_cons_succ List.take_succ_cons List.take_zero List.take_length List.drop_zero List.drop_succ_cons
 List.all_cons List.all_nil Nat.zero_add Nat.add_zero if_true if_false ite_true ite_false Bool.true_and Bool.and_true Bool.false_or Bool.or_false Bool.true_or Bool.or_true Bool.false_and Bool.and_false Bool.not_true Bool.not_false
 eq_self true_and and_true false_and and_false true_or or_true false_or or_false Bool.false_eq_true not_true_eq_false not_false_eq_true decide_true decide_false decide_eq_true_eq decide_eq_false_iff_not Bool.not_eq_true Bool.not_eq_false Nat.reduceEqDiff Nat.reduceAdd Nat.reduceMod reduceIte Nat.le_refl Nat.le_add_right and_self or_self beq_self_eq_true reduceCtorEq
 Int.cast_ofNat_Int Int.reduceEq Int.reduceLT Int.reduceLE Int.reduceNeg Int.reduceToNat Int.reduceAdd Int.reduceSub Int.reduceMul Nat.reduceSub Nat.reduceMul Nat.reduceLT Nat.reduceLeDiff
instance (n : Nat) : OfNat Opd n := ⟨.t n⟩
abbrev zf (n : Nat) : Opd := .k (.fn n [])
abbrev zv (t : Nat) (b : Bool) (o : Op') : Op := ⟨none, some (t, b), o⟩
abbrev OR := Option (Ex × Env × St)
def oif {α : Type} (c : Bool) (x : Option α) : Option α := if c then x else none
noncomputable abbrev peG : List (Nat × V) → Env → Nat → V
 | [], ρ, t => get ρ t
 | (k, v) :: l, ρ, t => match Nat.beq k t with | true => v | false => peG l ρ t
noncomputable abbrev peE (l : List (Nat × V)) (ρ : Env) : Opd → V
 | .t n => peG l ρ n
 | .k v => v
noncomputable abbrev peL (l : List (Nat × V)) (ρ : Env) : List Opd → List V
 | [] => []
 | x :: r => peE l ρ x :: peL l ρ r
noncomputable abbrev peO (l : List (Nat × V)) (ρ : Env) : Option Opd → Option V
 | none => none
 | some x => some (peE l ρ x)
noncomputable abbrev peP (l : List (Nat × V)) (ρ : Env) : List (Nat × Opd) → List (Nat × V)
 | [] => []
 | (n, x) :: r => (n, peE l ρ x) :: peP l ρ r
noncomputable abbrev peR (l : List (Nat × V)) (ρ : Env) : List Nat → Env
 | [] => []
 | k :: r => (k, peG l ρ k) :: peR l ρ r
noncomputable abbrev peK : List (Nat × Option (Option Bool)) → Nat → Option (Option Bool)
 | [], _ => none
 | (k, v) :: l, t => match Nat.beq k t with | true => v | false => peK l t
noncomputable abbrev AA (g : List (Nat × Option (Option Bool))) : Opd → Option (Option Bool)
 | .t n => peK g n
 | .k (.bool x) => some (some x)
 | .k _ => none
noncomputable abbrev peB : Bool → Bool → Bool
 | true, true => true
 | false, false => true
 | _, _ => false
noncomputable abbrev peN : Bool → Bool
 | true => false
 | false => true
noncomputable abbrev pG (d : Option Nat) (v : V) (l : List (Nat × V)) : List (Nat × V) := match d with
 | some k => (k, v) :: l
 | none => l
noncomputable abbrev pB (d : Option Nat) (v : Option (Option Bool)) (l : List (Nat × Option (Option Bool))) : List (Nat × Option (Option Bool)) := match d with
 | some k => (k, v) :: l
 | none => l
noncomputable abbrev peW (g : List (Nat × Option (Option Bool))) : Op' → Option (Option Bool)
 | .mv x => AA g x
 | .pick c a b => match AA g c with
  | some (some true) => AA g a
  | some (some false) => AA g b
  | _ => none
 | _ => none
noncomputable abbrev pe1 (D : Nat → Option Fc) (base : Nat) (g : List (Nat × Option (Option Bool))) (l : List (Nat × V)) (ρ : Env) (s : St) (o : Op') (K : V → St → OR) : OR :=
 match o with
 | .mv x => K (peE l ρ x) s
 | .pick c a b => match AA g c with
  | some (some true) => K (peE l ρ a) s
  | some (some false) => K (peE l ρ b) s
  | some none => none
  | none => mr (peE l ρ c) fun t => K (if t = true then peE l ρ a else peE l ρ b) s
 | .alloc h z => K (.ptr (s.fresh h) [] z.tag) (s.new h z)
 | .box h x => oif (V.ok (peE l ρ x) && aR h (peE l ρ x)) (K (.ptr (s.fresh h) [] (V.tag (peE l ρ x))) (s.new h (peE l ρ x)))
 | .ld t p => ab (ldv s t (peE l ρ p)) fun v => K v s
 | .st t p x => ab (stv base s t (peE l ρ x) (peE l ρ p)) fun s' => K .dead s'
 | .nilc x => ab (zb (peE l ρ x)) fun v => K v s
 | .bin o x y => ab (il o (peE l ρ x) (peE l ρ y)) fun v => K v s
 | .un o x => ab (vun o (peE l ρ x)) fun v => K v s
 | .conv k x => ab (xR k (peE l ρ x)) fun v => K v s
 | .fad t f c x => ab (qQ t f c (peE l ρ x)) fun v => K v s
 | .iad t n e x i => ab (yi t n e (peE l ρ x) (peE l ρ i)) fun v => K v s
 | .sad e x i => ab (np e (peE l ρ x) (peE l ρ i)) fun v => K v s
 | .fld t f x => ab (yt t f (peE l ρ x)) fun v => K v s
 | .s2a n e x => ab (yo n e (peE l ρ x)) fun v => K v s
 | .ldr t n e u x => ab (xT s t n e u (peE l ρ x)) fun v => K v s
 | .idx t n x i => ab (y8 t n (peE l ρ x) (peE l ρ i)) fun v => K v s
 | .sidx x i => ab (ut (peE l ρ x) (peE l ρ i)) fun v => K v s
 | .ext x n => ab (zq n (peE l ρ x)) fun v => K v s
 | .lenk n => K (.int .i64 n) s
 | .len q x => ab (V.slen q (peE l ρ x)) fun n => K (.int .i64 n) s
 | .slc e x lo hi mx => ab (eJ e (peO l ρ lo) (peO l ρ hi) (peO l ρ mx) (peE l ρ x)) fun v => K v s
 | .slarr t n e x lo hi mx => ab (ri s t n e (peO l ρ lo) (peO l ρ hi) (peO l ρ mx) (peE l ρ x)) fun v => K v s
 | .eq neg t x y => ab (eqv neg t (peE l ρ x) (peE l ρ y)) fun v => K v s
 | .mkfn f caps => ab (uO f (peL l ρ caps)) fun v => K v s
 | .slstr x lo hi => ab (rm (peO l ρ lo) (peO l ρ hi) (peE l ρ x)) fun v => K v s
 | .mksl h r e z n c => ab (xS h r e z s (peE l ρ n) (peE l ρ c)) fun x => K x.1 x.2
 | .app h r e x y => ab (aH base h r e (peE l ρ x) (peE l ρ y) s) fun x => K x.1 x.2
 | .bsl h r e z n ps => ab (yR h r e n z s (peP l ρ ps)) fun x => K x.1 x.2
 | .cpy e x y => ab (dP base e (peE l ρ x) (peE l ρ y) s) fun x => K x.1 x.2
 | .mnx mx x y => ab (iS mx (peE l ρ x) (peE l ρ y)) fun v => K v s
 | .bld (.agg t l3) ps => ab (aO l3 (peP l ρ ps)) fun l' => K (.agg t l') s
 | .call (.k (.fn f [])) args => ab (rf D f (peL l ρ args) s) fun x => K x.1 x.2
 | .call f args => ab (uP D (peL l ρ args) s (peE l ρ f)) fun x => K x.1 x.2
 | .pcall (.k (.fn f [])) args => ab (oS D (bC base (peL l ρ args)) base f (peL l ρ args) s) fun v => K v s
 | .pcall f args => ab (uX D base (peL l ρ args) s (peE l ρ f)) fun v => K v s
 | .sta t p x l2 => ab (yE base s t (peE l ρ x) (peE l ρ p) (peL l ρ l2)) fun s' => K .dead s'
 | .callw f args w => ab (qK D (peL l ρ args) s (peE l ρ w) (peE l ρ f)) fun x => K x.1 x.2
 | .lda t p r => ab (zN s t (peE l ρ p) (peE l ρ r)) fun v => K v s
 | .callk p (.k (.fn f [])) args => ab (vq D p (bC base (peL l ρ args)) base f (peL l ρ args) s) fun x => K x.1 x.2
 | .callk p f args => ab (us D p base (peL l ρ args) s (peE l ρ f)) fun x => K x.1 x.2
 | .ldl t p => ab (yd s t (peE l ρ p)) fun v => K v s
 | .mkm => K (.mp (some s.hp.length)) ⟨s.loc, s.hp ++ [.mp []]⟩
 | .mlk x i => ab (gS (peE l ρ x) (peE l ρ i) s) fun v => K v s
 | .mup x i y => ab (eG (peE l ρ x) (peE l ρ i) (peE l ρ y) s) fun s' => K .dead s'
 | .appa h r e x y l2 => ab (uT base h r e s (peE l ρ x) (peE l ρ y) (peL l ρ l2)) fun x => K x.1 x.2
 | _ => none
noncomputable abbrev pe (D : Nat → Option Fc) (base : Nat) (ks : List Nat) : List Op → List (Nat × Option (Option Bool)) → List (Nat × V) → Env → St → OR
 | [], _, l, ρ, s => some (.normal, peR l ρ ks, s)
 | ⟨d, none, o⟩ :: r, g, l, ρ, s => pe1 D base g l ρ s o fun v s' => pe D base ks r (pB d (peW g o) g) (pG d v l) ρ s'
 | ⟨d, some (t, x), o⟩ :: r, g, l, ρ, s => match peK g t with
  | none => gA (peG l ρ t) x
   (pe1 D base ((t, some (some x)) :: g) ((t, .bool x) :: l) ρ s o fun v s' => pe D base ks r (pB d (peW ((t, some (some x)) :: g) o) ((t, some (some x)) :: g)) (pG d v ((t, .bool x) :: l)) ρ s')
   (pe D base ks r (pB d (some none) ((t, some (some (peN x))) :: g)) (pG d (.tup []) ((t, .bool (peN x)) :: l)) ρ s)
   (pe D base ks r (pB d (some none) ((t, some none) :: g)) (pG d (.tup []) ((t, .tup []) :: l)) ρ s)
  | some none => pe D base ks r (pB d (some none) g) (pG d (.tup []) l) ρ s
  | some (some y) => match peB x y with
   | true => pe1 D base g l ρ s o fun v s' => pe D base ks r (pB d (peW g o) g) (pG d v l) ρ s'
   | false => pe D base ks r (pB d (some none) g) (pG d (.tup []) l) ρ s
noncomputable abbrev peC (D : Nat → Option Fc) (base : Nat) (ρ : Env) (s : St) : C → OR
 | .reg (some ks) l => pe D base ks l [] [] ρ s
 | .regd (some ks) l => pe D base ks l [] [] ρ s
 | _ => none
abbrev lV {β : Type} (x : Nat) (k : Nat → β) : β := match x with
 | 0 => k 0
 | n + 1 => k (Nat.succ n)
abbrev dN {β : Type} : Nat → Nat → (Nat → Nat → β) → β
 | 0, x, k => k 0 x
 | f + 1, x, k => lV (Nat.mod x 16) fun m => lV (Nat.div x 16) fun y => match Nat.ble 8 m with
  | false => k m y
  | true => dN f y fun v z => lV (Nat.add (Nat.sub m 8) (Nat.mul 8 v)) fun w => k w z
abbrev pR {α : Type} (d : α) : List α → Nat → α
 | [], _ => d
 | a :: l, n => match n with
  | 0 => a
  | n + 1 => pR d l n
abbrev dB {β : Type} (x : Nat) (k : Bool → Nat → β) : β := dN 30 x fun n x => match Nat.beq n 0 with
 | true => k false x
 | false => k true x
abbrev IQ {α β : Type} (p : Nat → (α → Nat → β) → β) : Nat → Nat → (List α → Nat → β) → β
 | 0, x, k => k [] x
 | n + 1, x, k => p x fun a x => IQ p n x fun l x => k (a :: l) x
abbrev jo {α β : Type} (p : Nat → (α → Nat → β) → β) (x : Nat) (k : List α → Nat → β) : β := dN 30 x fun n x => IQ p n x k
abbrev dKs {β : Type} : Nat → Nat → Nat → (List Nat → Nat → β) → β
 | 0, _, x, k => k [] x
 | n + 1, p, x, k => dN 30 x fun v x => lV (Nat.add p v) fun v => dKs n v x fun l x => k (v :: l) x
abbrev dIK (i : Nat) : IntKind := pR .u64 [.i8, .i16, .i32, .i64, .u8, .u16, .u32] i
abbrev dBO (i : Nat) : BinOp := pR .geq [.add, .sub, .mul, .quo, .rem, .and, .or, .xor, .shl, .shr, .andNot, .eql, .neq, .lss, .leq, .gtr] i
abbrev dUO (i : Nat) : UnOp := pR .plus [.neg, .xor, .not] i
abbrev dV {β : Type} : Nat → Nat → (V → Nat → β) → β
 | 0, x, k => k .dead x
 | f + 1, x, k => dN 30 x fun t x => pR (k .dead x) [
  k (.bool false) x,
  k (.bool true) x,
  dN 30 x fun n x => k (.int .i64 (Int.ofNat n)) x,
  dN 30 x fun n x => k (.int .i64 (-(Int.ofNat n))) x,
  dN 30 x fun i x => dN 30 x fun n x => k (.int (dIK i) (Int.ofNat n)) x,
  k .nilp x,
  k .nils x,
  k .nilf x,
  dN 30 x fun t x => jo (dV f) x fun l x => k (.agg t l) x,
  dN 30 x fun t x => dN 30 x fun n x => dV f x fun v x => k (.agg t (List.replicate n v)) x,
  dN 30 x fun g x => k (.fn g []) x,
  dN 30 x fun i x => dN 30 x fun t x => k (.ptr (.hp i) [] t) x,
  jo (dN 30) x fun l x => k (.str ⟨⟨l.map UInt8.ofNat⟩⟩) x,
  k .dead x,
  dN 30 x fun i x => dN 30 x fun n x => k (.int (dIK i) (-(Int.ofNat n))) x,
  k (.mp none) x] t
abbrev dO {β : Type} (d x : Nat) (k : Opd → Nat → β) : β := dN 30 x fun e x => match e with
 | 0 => dV 9 x fun v x => k (.k v) x
 | e + 1 => match Nat.beq (Nat.mod e 2) 0 with
  | true => lV (Nat.sub d (Nat.div e 2)) fun t => k (.t t) x
  | false => lV (Nat.div e 2) fun t => k (.t t) x
abbrev dOo {β : Type} (d x : Nat) (k : Option Opd → Nat → β) : β := dN 30 x fun e x => match Nat.beq e 0 with
 | true => k none x
 | false => dO d x fun o x => k (some o) x
abbrev IL {β : Type} (d x : Nat) (k : Nat × Opd → Nat → β) : β := dN 30 x fun i x => dO d x fun o x => k (i, o) x
abbrev dOp {β : Type} (d : Nat) (c : Nat) (x : Nat) (k : Op' → Nat → β) : β := pR (dO d x fun a x => dO d x fun b x => dO d x fun c x => k (.mup a b c) x) [
 dO d x fun a x => k (.mv a) x,
 dN 30 x fun o x => dO d x fun a x => dO d x fun b x => k (.bin (dBO o) a b) x,
 dN 30 x fun t x => dN 30 x fun f x => dN 30 x fun u x => dO d x fun a x => k (.fad t f u a) x,
 dN 30 x fun t x => dO d x fun a x => k (.ld t a) x,
 dO d x fun a x => k (.nilc a) x,
 dO d x fun f x => jo (dO d) x fun l x => k (.call f l) x,
 dN 30 x fun t x => dO d x fun a x => dO d x fun b x => k (.st t a b) x,
 dO d x fun a x => dN 30 x fun i x => k (.ext a i) x,
 dO d x fun c x => dO d x fun a x => dO d x fun b x => k (.pick c a b) x,
 dN 30 x fun t x => dN 30 x fun n x => dN 30 x fun e x => dO d x fun a x => dO d x fun b x => k (.iad t n e a b) x,
 dB x fun h x => dV 9 x fun z x => k (.alloc h z) x,
 dV 9 x fun z x => jo (IL d) x fun l x => k (.bld z l) x,
 dB x fun h x => dO d x fun a x => k (.box h a) x,
 dN 30 x fun e x => dO d x fun a x => dO d x fun b x => k (.sad e a b) x,
 dB x fun q x => dO d x fun a x => k (.len q a) x,
 dN 30 x fun i x => dO d x fun a x => k (.conv (dIK i) a) x,
 dN 30 x fun i x => dO d x fun a x => k (.un (dUO i) a) x,
 dB x fun h x => dN 30 x fun r x => dN 30 x fun e x => dV 9 x fun z x => dN 30 x fun n x => jo (IL d) x fun l x => k (.bsl h r e z n l) x,
 dB x fun h x => dN 30 x fun r x => dN 30 x fun e x => dO d x fun a x => dO d x fun b x => k (.app h r e a b) x,
 dB x fun g x => dN 30 x fun t x => dO d x fun a x => dO d x fun b x => k (.eq g t a b) x,
 dN 30 x fun t x => dN 30 x fun n x => dO d x fun a x => dO d x fun b x => k (.idx t n a b) x,
 dN 30 x fun t x => dN 30 x fun n x => dN 30 x fun e x => dO d x fun a x => dOo d x fun l x => dOo d x fun h x => dOo d x fun m x => k (.slarr t n e a l h m) x,
 dB x fun p x => dO d x fun f x => jo (dO d) x fun l x => k (.callk p f l) x,
 dN 30 x fun t x => dO d x fun a x => k (.ldl t a) x,
 dO d x fun f x => jo (dO d) x fun l x => k (.pcall f l) x,
 dN 30 x fun t x => dO d x fun a x => dO d x fun b x => jo (dO d) x fun l x => k (.sta t a b l) x,
 dN 30 x fun e x => dO d x fun a x => dOo d x fun l x => dOo d x fun h x => dOo d x fun m x => k (.slc e a l h m) x,
 dB x fun h x => dN 30 x fun r x => dN 30 x fun e x => dV 9 x fun z x => dO d x fun a x => dO d x fun b x => k (.mksl h r e z a b) x,
 dN 30 x fun t x => dO d x fun a x => dO d x fun b x => k (.lda t a b) x,
 dB x fun m x => dO d x fun a x => dO d x fun b x => k (.mnx m a b) x,
 dB x fun h x => dN 30 x fun r x => dN 30 x fun e x => dO d x fun a x => dO d x fun b x => jo (dO d) x fun l x => k (.appa h r e a b l) x,
 dN 30 x fun n x => dN 30 x fun e x => dO d x fun a x => k (.s2a n e a) x,
 dN 30 x fun t x => dN 30 x fun n x => dN 30 x fun e x => dN 30 x fun u x => dO d x fun a x => k (.ldr t n e u a) x,
 dO d x fun f x => jo (dO d) x fun l x => dO d x fun w x => k (.callw f l w) x,
 dN 30 x fun t x => dN 30 x fun f x => dO d x fun a x => k (.fld t f a) x,
 dO d x fun a x => dO d x fun b x => k (.sidx a b) x,
 dN 30 x fun n x => k (.lenk n) x,
 dO d x fun a x => dOo d x fun l x => dOo d x fun h x => k (.slstr a l h) x,
 dN 30 x fun f x => jo (dO d) x fun l x => k (.mkfn f l) x,
 dN 30 x fun e x => dO d x fun a x => dO d x fun b x => k (.cpy e a b) x,
 k .mkm x,
 dO d x fun a x => dO d x fun b x => k (.mlk a b) x] c
abbrev NL {β : Type} (m d x : Nat) (k : Option Nat → Nat → Nat → β) : β := pR (dN 30 x fun e x => match Nat.ble e d with
 | true => k (some e) d x
 | false => k (some e) e x) [lV (Nat.add d 1) fun d => k (some d) d x, k none d x] m
abbrev dGd {β : Type} (m : Nat) (g : Option (Nat × Bool)) (x : Nat) (k : Option (Nat × Bool) → Option (Nat × Bool) → Nat → β) : β := pR (dN 30 x fun e x => match Nat.beq (Nat.mod e 2) 0 with
 | true => lV (Nat.div e 2) fun t => k (some (t, false)) (some (t, false)) x
 | false => lV (Nat.div e 2) fun t => k (some (t, true)) (some (t, true)) x) [k none g x, k g g x] m
abbrev Ll {β : Type} : Nat → Nat → Option (Nat × Bool) → Nat → (List Op → Nat → β) → β
 | 0, _, _, x, k => k [] x
 | n + 1, d, g, x, k => dN 30 x fun h x => NL (Nat.mod h 3) d x fun od d' x => dGd (Nat.mod (Nat.div h 3) 3) g x fun og g' x => dOp d (Nat.div h 9) x fun o x => Ll n d' g' x fun l x => k (⟨od, og, o⟩ :: l) x
abbrev dR (x : Nat) : C := dN 30 x fun a x => dN 30 x fun n x => dKs n 0 x fun ks x => Ll (Nat.div a 2) 0 none x fun l _ => match Nat.beq (Nat.mod a 2) 0 with
 | true => .reg (some ks) l
 | false => .regd (some ks) l
abbrev qU : List Nat → Nat → Nat
 | [], _ => 0
 | a :: _, 0 => a
 | _ :: l, n + 1 => qU l n
def rgn (r : List Nat) (k : Nat) : C := dR (qU r k)
abbrev Mh : List C → Nat → C
 | [], _ => .skip
 | a :: _, 0 => a
 | _ :: l, n + 1 => Mh l n
abbrev dC {β : Type} (r : List Nat) (bs : List C) : Nat → Nat → Nat → (C → Nat → Nat → β) → β
 | 0, n, x, k => k .skip n x
 | f + 1, n, x, k => dN 30 x fun c x => pR (dC r bs f n x fun a n x => k (.scope a) n x) [
  lV (Nat.add n 1) fun m => k (rgn r n) m x,
  dC r bs f n x fun a n x => dC r bs f n x fun b n x => k (.seq a b) n x,
  dO 0 x fun o x => dC r bs f n x fun a n x => dC r bs f n x fun b n x => k (.cond o a b) n x,
  k .skip n x,
  k .ret n x,
  dN 30 x fun i x => dC r bs f n x fun a n x => k (.block i a) n x,
  dN 30 x fun m x => dKs m 0 x fun ks x => dN 30 x fun i x => k (.loop ks (Mh bs i)) n x,
  dN 30 x fun i x => k (.exit i) n x,
  dN 30 x fun i x => lV (Nat.add i 1) fun m => k (rgn r i) m x,
  dN 30 x fun i x => k (.label i) n x] c
abbrev dRV {β : Type} (x : Nat) (k : RV → Nat → β) : β := dN 30 x fun c x => dN 30 x fun a x => match Nat.beq c 0 with
 | true => k (.t a) x
 | false => dN 30 x fun t x => k (.cell a t) x
abbrev dF (r : List Nat) (bs : List C) (x : Nat) : Fc := dN 30 x fun n x => jo dRV x fun l x => dC r bs 999 0 x fun c _ _ => ⟨n, c, l⟩
structure HdP {α : Sort _} (a r : α) : Prop where
 h : a = r
@[reducible] def vC (r : List Nat) (bs : List C) (x : Nat) {c : C} (_h : HdP (dC r bs 999 0 x fun c _ _ => c) c := by (with_reducible conv => arg 1; reduce); (try dsimp only [Int.reduceOfNat, Nat.reduceSucc]); exact ⟨rfl⟩) : C := c
@[reducible] def vF (r : List Nat) (bs : List C) (x : Nat) {c : Fc} (_h : HdP (dF r bs x) c := by (with_reducible conv => arg 1; reduce); (try dsimp only [Int.reduceOfNat, Nat.reduceSucc]); exact ⟨rfl⟩) : Fc := c
attribute [go_sem] vC vF
noncomputable abbrev rgC (D : Nat → Option Fc) (b : Nat) (ρ : Env) (s : St) : C → OR
 | .reg (some ks) l => rgO D b ks l ρ s
 | .regd (some ks) l => rgO D b ks l ρ s
 | c => rc D b c ρ s
theorem Fs {b : Nat} : ∀ {c : C}, rc D b c ρ s = rgC D b ρ s c
 | .reg (some _) _ => HK
 | .regd (some _) _ => Ee
 | .reg none _ | .regd none _ | .skip | .seq _ _ | .cond _ _ _ | .block _ _ | .loop _ _ | .exit _ | .scope _ | .label _ | .ret => rfl
noncomputable abbrev um (D : Nat → Option Fc) (b : Nat) (ρ : Env) (s : St) : Nat → List Nat → List (Nat × OR)
 | _, [] => []
 | k, x :: l => (k, peC D b ρ s (dR x)) :: lV (Nat.add k 1) fun k => um D b ρ s k l
abbrev cjl (D : Nat → Option Fc) (b : Nat) (ρ : Env) (s : St) (r : List Nat) : List (Nat × OR) → Prop
 | [] => True
 | [(k, x)] => rc D b (rgn r k) ρ s = x
 | (k, x) :: y :: l => rc D b (rgn r k) ρ s = x ∧ cjl D b ρ s r (y :: l)
@[reducible] def ZA (D : Nat → Option Fc) (b : Nat) (ρ : Env) (s : St) (r : List Nat) {l : List (Nat × OR)} (_h : HdP (um D b ρ s 0 r) l := by (conv => arg 1; arg 6; whnf); (with_reducible conv => arg 1; reduce); (try dsimp only [Int.reduceOfNat, Nat.reduceSucc, oif]); exact ⟨rfl⟩) {P : Prop} (_h2 : HdP (cjl D b ρ s r l) P := by dsimp only [cjl]; exact ⟨rfl⟩) : Prop := P
theorem IB {b : Nat} {r : List Nat} : ∀ {l : List Nat} {k : Nat}, (∀ j, j < l.length → qU r (k + j) = qU l j) → (l.map fun x => rgC D b ρ s (dR x)) = (l.map fun x => peC D b ρ s (dR x)) → cjl D b ρ s r (um D b ρ s k l)
 | [], _, _, _ => trivial
 | [x], k, h, e => by
  have h0 := h 0 (by simp);simp only [List.map_cons, List.cons.injEq] at e;show rc D b (dR (qU r k)) ρ s = _;rw [show qU r k = x from h0, Fs]; exact e.1
 | x :: y :: l, k, h, e => by
  have h0 := h 0 (by simp);simp only [List.map_cons, List.cons.injEq] at e;have h1 := IB (b := b) (r := r) (l := y :: l) (k := k + 1) (fun j hj => by
   have := h (j + 1) (by simpa using hj);rw [show k + 1 + j = k + (j + 1) by omega]; exact this) (by simpa using e.2)
  show rc D b (rgn r k) ρ s = peC D b ρ s (dR x) ∧ cjl D b ρ s r (um D b ρ s (k + 1) (y :: l));refine ⟨?_, h1⟩;show rc D b (dR (qU r k)) ρ s = _;rw [show qU r k = x from h0, Fs]; exact e.1
theorem za {b : Nat} {r : List Nat} {l : List (Nat × OR)} {h : HdP (um D b ρ s 0 r) l} {P : Prop} {h2 : HdP (cjl D b ρ s r l) P} (e : (r.map fun x => rgC D b ρ s (dR x)) = (r.map fun x => peC D b ρ s (dR x)) := by kernel_rfl) : @ZA D b ρ s r l h P h2 := by
 have := IB (k := 0) (fun j _ => by rw [Nat.zero_add]) e;rw [h.h, h2.h] at this; exact this
def lkT : List (Nat × Fc) → Nat → Option Fc
 | [], _ => none
 | p :: l, g => match Nat.beq p.1 g with
  | true => some p.2
  | false => lkT l g
theorem Bs : ∀ {l : List (Nat × Fc)} {g : Nat} {fc : Fc}, lkT l g = some fc → (g, fc) ∈ l
 | [], _, _, h => by cases h
 | p :: l, g, fc, h => by
  simp only [lkT] at h;split at h
  ·rename_i e;cases h;rw [← Nat.eq_of_beq_eq_true e];exact List.mem_cons_self
  ·exact List.mem_cons_of_mem _ (Bs h)
theorem Jb {l : List (Nat × Fc)} {p : Nat → Fc → Bool} (h : (l.all fun x => p x.1 x.2) = true) {g : Nat} {fc : Fc} (hg : lkT l g = some fc) : p g fc = true := List.all_eq_true.1 h _ (Bs hg)
end Go.Ab
