/-
  YtmimfopnhmmlbaaDoorAbG: an abstract semantics of the program's code, and that what it tells holds of the program (part G).
-/
import Derived.Test.YtmimfopnhmmlbaaDoorAbA
import Derived.Attr
import Derived.KernelRfl
set_option maxRecDepth 100000
namespace Go.Ab
variable {D : Nat → Option Fc}
theorem mR {f g : br → St → Option Res} (h : ∀ t s r, f t s = some r → g t s = some r) {base : Nat} {ρ : Env} {s : St} {o : Op'} {q : V × St} (hq : am f base ρ s o = some q) : am g base ρ s o = some q := by
 cases o with
 | call fo args =>
  simp only [am] at hq ⊢;cases hx : fo.ev ρ with
  | fn k caps =>
   simp only [hx] at hq;cases hf : f (.f k (args.map (Opd.ev ρ) ++ caps)) s with
   | none => rw [hf] at hq; cases hq
   | some x => rw [hf] at hq; simp only [h _ _ _ hf]; exact hq
  | _ => rw [hx] at hq; cases hq
 | pcall fo args =>
  simp only [am] at hq ⊢;cases hx : fo.ev ρ with
  | fn k caps =>
   simp only [hx] at hq;by_cases hp : pOk base (bc base (args.map (Opd.ev ρ) ++ caps)) (args.map (Opd.ev ρ) ++ caps) s = true
   ·rw [if_pos hp] at hq;simp only [if_pos hp];cases hf : f (.f k (args.map (Opd.ev ρ) ++ caps)) (s.cut (bc base (args.map (Opd.ev ρ) ++ caps))) with
    | none => rw [hf] at hq; cases hq
    | some x => rw [hf] at hq; simp only [h _ _ _ hf]; exact hq
   ·rw [if_neg hp] at hq; cases hq
  | _ => rw [hx] at hq; cases hq
 | callw fo args w =>
  simp only [am] at hq ⊢;split at hq
  ·rename_i hw;rw [if_pos hw];cases hx : fo.ev ρ with
   | fn k caps =>
    simp only [hx] at hq;cases hf : f (.f k (args.map (Opd.ev ρ) ++ caps)) s with
    | none => rw [hf] at hq; cases hq
    | some x => rw [hf] at hq; simp only [h _ _ _ hf]; exact hq
   | _ => rw [hx] at hq; cases hq
  ·cases hq
 | callk p fo args =>
  simp only [am] at hq ⊢;cases hx : fo.ev ρ with
  | fn k caps =>
   simp only [hx] at hq;by_cases hp : pOk base (bc base (args.map (Opd.ev ρ) ++ caps)) (args.map (Opd.ev ρ) ++ caps) s = true
   ·rw [if_pos hp] at hq;simp only [if_pos hp];cases hf : f (.f k (args.map (Opd.ev ρ) ++ caps)) (s.cut (bc base (args.map (Opd.ev ρ) ++ caps))) with
    | none => rw [hf] at hq; cases hq
    | some x => rw [hf] at hq; simp only [h _ _ _ hf]; exact hq
   ·rw [if_neg hp] at hq; cases hq
  | _ => rw [hx] at hq; cases hq
 | _ => exact hq
theorem uO {f g : br → St → Option Res} (h : ∀ t s r, f t s = some r → g t s = some r) {t : br} {s : St} {r : Res} (hr : step D f t s = some r) : step D g t s = some r := by
 cases t with
 | c base c ρ =>
  cases c with
  | skip => exact hr
  | label _ => exact hr
  | ret => exact hr
  | exit _ => exact hr
  | reg keep ops =>
   simp only [step] at hr ⊢;cases hf : f (.o base ops ρ) s with
   | none => rw [hf] at hr; cases hr
   | some x => rw [hf] at hr; rw [h _ _ _ hf]; exact hr
  | regd keep ops =>
   simp only [step] at hr ⊢;cases hf : f (.o base ops ρ) s with
   | none => rw [hf] at hr; cases hr
   | some x => rw [hf] at hr; rw [h _ _ _ hf]; exact hr
  | seq a b =>
   simp only [step] at hr ⊢;cases hf : f (.c base a ρ) s with
   | none => rw [hf] at hr; cases hr
   | some x =>
    rw [hf] at hr; rw [h _ _ _ hf];cases x with
    | c e ρ' s' => cases e <;> first | exact h _ _ _ hr | exact hr
    | o _ _ => cases hr
    | v _ _ => cases hr
  | cond x a b =>
   simp only [step] at hr ⊢;cases hx : x.ev ρ with
   | bool t =>
    rw [hx] at hr;cases t
    ·exact h _ _ _ hr
    ·exact h _ _ _ hr
   | _ => rw [hx] at hr; cases hr
  | block id b =>
   simp only [step] at hr ⊢;cases hf : f (.c base b ρ) s with
   | none => rw [hf] at hr; cases hr
   | some x => rw [hf] at hr; rw [h _ _ _ hf]; exact hr
  | scope b =>
   simp only [step] at hr ⊢;cases hf : f (.c base b ρ) s with
   | none => rw [hf] at hr; cases hr
   | some x => rw [hf] at hr; rw [h _ _ _ hf]; exact hr
  | loop keep b =>
   simp only [step] at hr ⊢;cases hf : f (.c base b (restrict keep ρ)) s with
   | none => rw [hf] at hr; cases hr
   | some x =>
    rw [hf] at hr; rw [h _ _ _ hf];cases x with
    | c e ρ' s' =>
     cases e with
     | normal =>
      simp only at hr ⊢;split at hr
      ·rename_i hc; rw [if_pos hc]; exact h _ _ _ hr
      ·cases hr
     | exit _ => exact hr
     | ret => exact hr
    | o _ _ => cases hr
    | v _ _ => cases hr
 | o base l ρ =>
  cases l with
  | nil => exact hr
  | cons op rest =>
   simp only [step] at hr ⊢;cases hg : aK op.guard ρ with
   | none => rw [hg] at hr; cases hr
   | some gb =>
    rw [hg] at hr;cases gb with
    | false => exact h _ _ _ hr
    | true =>
     cases hq : am f base ρ s op.op with
     | none => simp only [hq] at hr; cases hr
     | some q =>
      simp only [hq] at hr;simp only [mR h hq];exact h _ _ _ hr
 | f fn args =>
  simp only [step] at hr ⊢;cases hfc : D fn with
  | none => rw [hfc] at hr; cases hr
  | some fc =>
   rw [hfc] at hr;simp only at hr ⊢;by_cases hlen : args.length = fc.n
   ·rw [if_pos hlen] at hr ⊢;cases hf : f (.c s.loc.length fc.body (eu 0 args)) s with
    | none => rw [hf] at hr; cases hr
    | some x => rw [hf] at hr; rw [h _ _ _ hf]; exact hr
   ·rw [if_neg hlen] at hr; cases hr
theorem jo : ∀ (n : Nat) {t : br} {s : St} {r : Res}, ev D n t s = some r → ev D (n + 1) t s = some r
 | 0, _, _, _, h => by cases h
 | n + 1, _, _, _, h => uO (fun _ _ _ h => jo n h) h
theorem mK {n m : Nat} (hnm : n ≤ m) {t : br} {s : St} {r : Res} (h : ev D n t s = some r) : ev D m t s = some r := by
 induction hnm with
 | refl => exact h
 | step _ ih => exact jo _ ih
open Classical in
noncomputable def run (D : Nat → Option Fc) (t : br) (s : St) : Option Res :=
 if h : ∃ n r, ev D n t s = some r then some h.choose_spec.choose else none
theorem bU {t : br} {s : St} {r : Res} : run D t s = some r ↔ ∃ n, ev D n t s = some r := by
 unfold run;constructor
 ·intro h;split at h
  ·rename_i hx;cases h;exact ⟨_, hx.choose_spec.choose_spec⟩
  ·cases h
 ·rintro ⟨n, hn⟩;have hx : ∃ n r, ev D n t s = some r := ⟨n, r, hn⟩;rw [dif_pos hx];have h1 := hx.choose_spec.choose_spec;have h2 := mK (Nat.le_max_left hx.choose n) h1;have h3 := mK (Nat.le_max_right hx.choose n) hn;rw [h2] at h3;exact h3
theorem pV {n : Nat} {t : br} {s : St} {r : Res} (h : ev D n t s = some r) : run D t s = some r := bU.2 ⟨n, h⟩
theorem Hb {base : Nat} {ρ : Env} {s : St} {o : Op'} {q : V × St} (hq : am (run D) base ρ s o = some q) : ∃ n, am (ev D n) base ρ s o = some q := by
 cases o with
 | call fo args =>
  simp only [am] at hq ⊢;cases hx : fo.ev ρ with
  | fn k caps =>
   simp only [hx] at hq;cases hf : run D (.f k (args.map (Opd.ev ρ) ++ caps)) s with
   | none => rw [hf] at hq; cases hq
   | some x => rw [hf] at hq; obtain ⟨n, hn⟩ := bU.1 hf; exact ⟨n, by simp only [hn]; exact hq⟩
  | _ => rw [hx] at hq; cases hq
 | pcall fo args =>
  simp only [am] at hq ⊢;cases hx : fo.ev ρ with
  | fn k caps =>
   simp only [hx] at hq;by_cases hp : pOk base (bc base (args.map (Opd.ev ρ) ++ caps)) (args.map (Opd.ev ρ) ++ caps) s = true
   ·rw [if_pos hp] at hq;simp only [if_pos hp];cases hf : run D (.f k (args.map (Opd.ev ρ) ++ caps)) (s.cut (bc base (args.map (Opd.ev ρ) ++ caps))) with
    | none => rw [hf] at hq; cases hq
    | some x => rw [hf] at hq; obtain ⟨n, hn⟩ := bU.1 hf; exact ⟨n, by simp only [hn]; exact hq⟩
   ·rw [if_neg hp] at hq; cases hq
  | _ => rw [hx] at hq; cases hq
 | callw fo args w =>
  simp only [am] at hq ⊢;split at hq
  ·rename_i hw;simp only [if_pos hw];cases hx : fo.ev ρ with
   | fn k caps =>
    simp only [hx] at hq;cases hf : run D (.f k (args.map (Opd.ev ρ) ++ caps)) s with
    | none => rw [hf] at hq; cases hq
    | some x => rw [hf] at hq; obtain ⟨n, hn⟩ := bU.1 hf; exact ⟨n, by simp only [hn]; exact hq⟩
   | _ => rw [hx] at hq; cases hq
  ·cases hq
 | callk p fo args =>
  simp only [am] at hq ⊢;cases hx : fo.ev ρ with
  | fn k caps =>
   simp only [hx] at hq;by_cases hp : pOk base (bc base (args.map (Opd.ev ρ) ++ caps)) (args.map (Opd.ev ρ) ++ caps) s = true
   ·rw [if_pos hp] at hq;simp only [if_pos hp];cases hf : run D (.f k (args.map (Opd.ev ρ) ++ caps)) (s.cut (bc base (args.map (Opd.ev ρ) ++ caps))) with
    | none => rw [hf] at hq; cases hq
    | some x => rw [hf] at hq; obtain ⟨n, hn⟩ := bU.1 hf; exact ⟨n, by simp only [hn]; exact hq⟩
   ·rw [if_neg hp] at hq; cases hq
  | _ => rw [hx] at hq; cases hq
 | _ => exact ⟨0, hq⟩
theorem Hc {t : br} {s : St} {r : Res} (hr : step D (run D) t s = some r) : ∃ n, step D (ev D n) t s = some r := by
 cases t with
 | c base c ρ =>
  cases c with
  | skip => exact ⟨0, hr⟩
  | label _ => exact ⟨0, hr⟩
  | ret => exact ⟨0, hr⟩
  | exit _ => exact ⟨0, hr⟩
  | reg keep ops =>
   simp only [step] at hr ⊢;cases hf : run D (.o base ops ρ) s with
   | none => rw [hf] at hr; cases hr
   | some x => rw [hf] at hr; obtain ⟨n, hn⟩ := bU.1 hf; exact ⟨n, by rw [hn]; exact hr⟩
  | regd keep ops =>
   simp only [step] at hr ⊢;cases hf : run D (.o base ops ρ) s with
   | none => rw [hf] at hr; cases hr
   | some x => rw [hf] at hr; obtain ⟨n, hn⟩ := bU.1 hf; exact ⟨n, by rw [hn]; exact hr⟩
  | seq a b =>
   simp only [step] at hr ⊢;cases hf : run D (.c base a ρ) s with
   | none => rw [hf] at hr; cases hr
   | some x =>
    rw [hf] at hr; obtain ⟨n, hn⟩ := bU.1 hf;cases x with
    | c e ρ' s' =>
     cases e with
     | normal =>
      obtain ⟨m, hm⟩ := bU.1 hr;exact ⟨max n m, by rw [mK (Nat.le_max_left n m) hn]; exact mK (Nat.le_max_right n m) hm⟩
     | exit _ => exact ⟨n, by rw [hn]; exact hr⟩
     | ret => exact ⟨n, by rw [hn]; exact hr⟩
    | o _ _ => cases hr
    | v _ _ => cases hr
  | cond x a b =>
   simp only [step] at hr ⊢;cases hx : x.ev ρ with
   | bool t =>
    rw [hx] at hr;cases t
    ·obtain ⟨n, hn⟩ := bU.1 hr;exact ⟨n, hn⟩
    ·obtain ⟨n, hn⟩ := bU.1 hr;exact ⟨n, hn⟩
   | _ => rw [hx] at hr; cases hr
  | block id b =>
   simp only [step] at hr ⊢;cases hf : run D (.c base b ρ) s with
   | none => rw [hf] at hr; cases hr
   | some x => rw [hf] at hr; obtain ⟨n, hn⟩ := bU.1 hf; exact ⟨n, by rw [hn]; exact hr⟩
  | scope b =>
   simp only [step] at hr ⊢;cases hf : run D (.c base b ρ) s with
   | none => rw [hf] at hr; cases hr
   | some x => rw [hf] at hr; obtain ⟨n, hn⟩ := bU.1 hf; exact ⟨n, by rw [hn]; exact hr⟩
  | loop keep b =>
   simp only [step] at hr ⊢;cases hf : run D (.c base b (restrict keep ρ)) s with
   | none => rw [hf] at hr; cases hr
   | some x =>
    rw [hf] at hr; obtain ⟨n, hn⟩ := bU.1 hf;cases x with
    | c e ρ' s' =>
     cases e with
     | normal =>
      simp only at hr;split at hr
      ·rename_i hc;obtain ⟨m, hm⟩ := bU.1 hr;exact ⟨max n m, by rw [mK (Nat.le_max_left n m) hn]; simp only; rw [if_pos hc]; exact mK (Nat.le_max_right n m) hm⟩
      ·cases hr
     | exit _ => exact ⟨n, by rw [hn]; exact hr⟩
     | ret => exact ⟨n, by rw [hn]; exact hr⟩
    | o _ _ => cases hr
    | v _ _ => cases hr
 | o base l ρ =>
  cases l with
  | nil => exact ⟨0, hr⟩
  | cons op rest =>
   simp only [step] at hr ⊢;cases hg : aK op.guard ρ with
   | none => rw [hg] at hr; cases hr
   | some gb =>
    rw [hg] at hr;cases gb with
    | false => exact bU.1 hr
    | true =>
     cases hq : am (run D) base ρ s op.op with
     | none => simp only [hq] at hr; cases hr
     | some q =>
      simp only [hq] at hr;obtain ⟨n, hn⟩ := Hb hq;obtain ⟨m, hm⟩ := bU.1 hr;exact ⟨max n m, by simp only [mR (fun _ _ _ h => mK (Nat.le_max_left n m) h) hn]; exact mK (Nat.le_max_right n m) hm⟩
 | f fn args =>
  simp only [step] at hr ⊢;cases hfc : D fn with
  | none => rw [hfc] at hr; cases hr
  | some fc =>
   rw [hfc] at hr;simp only at hr ⊢;by_cases hlen : args.length = fc.n
   ·simp only [if_pos hlen] at hr ⊢;cases hf : run D (.c s.loc.length fc.body (eu 0 args)) s with
    | none => rw [hf] at hr; cases hr
    | some x => rw [hf] at hr; obtain ⟨n, hn⟩ := bU.1 hf; exact ⟨n, by rw [hn]; exact hr⟩
   ·rw [if_neg hlen] at hr; cases hr
theorem da (t : br) (s : St) : run D t s = step D (run D) t s := by
 apply Option.ext;intro r;constructor
 ·intro h;obtain ⟨n, hn⟩ := bU.1 h;cases n with
  | zero => cases hn
  | succ n => exact uO (fun _ _ _ h => pV h) hn
 ·intro h;obtain ⟨n, hn⟩ := Hc h;exact pV (n := n + 1) hn
noncomputable def rc (D : Nat → Option Fc) (base : Nat) (c : C) (ρ : Env) (s : St) : Option (Ex × Env × St) :=
 match run D (.c base c ρ) s with
 | some (.c e ρ' s') => some (e, ρ', s')
 | _ => none
noncomputable def ro (D : Nat → Option Fc) (base : Nat) (l : List Op) (ρ : Env) (s : St) : Option (Env × St) :=
 match run D (.o base l ρ) s with
 | some (.o ρ' s') => some (ρ', s')
 | _ => none
noncomputable def rf (D : Nat → Option Fc) (f : Nat) (args : List V) (s : St) : Option (V × St) :=
 match run D (.f f args) s with
 | some (.v v s') => some (v, s')
 | _ => none
theorem Fb {f : Nat} {args : List V} {s : St} {v : V} {s' : St} : rf D f args s = some (v, s') ↔ run D (.f f args) s = some (.v v s') := by
 unfold rf; constructor
 ·intro h; split at h
  ·rename_i hh; cases h; exact hh
  ·cases h
 ·intro h; rw [h]
section
variable {base : Nat} {ρ : Env} {s : St}
theorem RL : rc D base .skip ρ s = some (.normal, ρ, s) := by simp only [rc, da, step]
theorem GN {l : Nat} : rc D base (.label l) ρ s = some (.normal, ρ, s) := by simp only [rc, da, step]
theorem UQ : rc D base .ret ρ s = some (.ret, ρ, s) := by simp only [rc, da, step]
theorem Tb {id : Nat} : rc D base (.exit id) ρ s = some (.exit id, ρ, s) := by simp only [rc, da, step]
theorem UG {keep : Option (List Nat)} {ops : List Op} : rc D base (.reg keep ops) ρ s = (ro D base ops ρ s).bind fun x => some (.normal, i4 keep x.1, x.2) := by
 simp only [rc, ro]; rw [da]; simp only [step];cases run D (.o base ops ρ) s with
 | none => rfl
 | some x => cases x <;> rfl
theorem Rt {keep : Option (List Nat)} {ops : List Op} : rc D base (.regd keep ops) ρ s = (ro D base ops ρ s).bind fun x => some (.normal, i4 keep x.1, x.2) := by
 simp only [rc, ro]; rw [da]; simp only [step];cases run D (.o base ops ρ) s with
 | none => rfl
 | some x => cases x <;> rfl
noncomputable def andThen (D : Nat → Option Fc) (base : Nat) (b : C) (x : Ex × Env × St) : Option (Ex × Env × St) :=
 match x with
 | (.normal, ρ, s) => rc D base b ρ s
 | x => some x
theorem tY {b : C} : andThen D base b (.normal, ρ, s) = rc D base b ρ s := rfl
theorem yK {b : C} : andThen D base b (.ret, ρ, s) = some (.ret, ρ, s) := rfl
theorem xW {b : C} {id : Nat} : andThen D base b (.exit id, ρ, s) = some (.exit id, ρ, s) := rfl
theorem Uj {a b : C} : rc D base (.seq a b) ρ s = (rc D base a ρ s).bind (andThen D base b) := by
 simp only [rc]; rw [da]; simp only [step];cases run D (.c base a ρ) s with
 | none => rfl
 | some x =>
  cases x with
  | c e ρ' s' => cases e <;> rfl
  | _ => rfl
theorem SM {x : Opd} {a b : C} : rc D base (.cond x a b) ρ s = match x.ev ρ with
 | .bool t => if t then rc D base a ρ s else rc D base b ρ s
 | _ => none := by
 simp only [rc]; rw [da]; simp only [step];cases x.ev ρ with
 | bool t => cases t <;> rfl
 | _ => rfl
def Qi (id : Nat) (x : Ex × Env × St) : Ex × Env × St :=
 match x with
 | (.exit id', ρ, s) => (if id' = id then .normal else .exit id', ρ, s)
 | x => x
theorem Hx {id : Nat} {b : C} : rc D base (.block id b) ρ s = (rc D base b ρ s).bind fun x => some (Qi id x) := by
 simp only [rc]; rw [da]; simp only [step];cases run D (.c base b ρ) s with
 | none => rfl
 | some x =>
  cases x with
  | c e ρ' s' => cases e <;> rfl
  | _ => rfl
theorem G8 {b : C} : rc D base (.scope b) ρ s = rc D base b ρ s := by
 simp only [rc]; rw [da]; simp only [step];cases run D (.c base b ρ) s with
 | none => rfl
 | some x =>
  cases x with
  | c e ρ' s' => cases e <;> rfl
  | _ => rfl
noncomputable def ic (D : Nat → Option Fc) (base n : Nat) (keep : List Nat) (b : C) (x : Ex × Env × St) : Option (Ex × Env × St) :=
 match x with
 | (.normal, ρ, s) => if fC base n (restrict keep ρ) s then rc D base (.loop keep b) (restrict keep ρ) { s with loc := s.loc.take n } else none
 | x => some x
theorem wW {n : Nat} {keep : List Nat} {b : C} : ic D base n keep b (.normal, ρ, s) = if fC base n (restrict keep ρ) s then rc D base (.loop keep b) (restrict keep ρ) { s with loc := s.loc.take n } else none := rfl
theorem Ct {n : Nat} {keep : List Nat} {b : C} : ic D base n keep b (.ret, ρ, s) = some (.ret, ρ, s) := rfl
theorem Bb {n : Nat} {keep : List Nat} {b : C} {id : Nat} : ic D base n keep b (.exit id, ρ, s) = some (.exit id, ρ, s) := rfl
theorem jJ {ks : List Nat} {ρ : Env} {k : Nat} (h : k ∈ ks) : get (restrict ks ρ) k = get ρ k := by
 induction ks with
 | nil => cases h
 | cons j ks ih =>
  simp only [restrict, List.map_cons, get];by_cases hj : j = k
  ·rw [if_pos hj, hj]
  ·rw [if_neg hj];exact ih (by cases h with | head => exact absurd rfl hj | tail _ h => exact h)
theorem qT (ks : List Nat) (ρ : Env) : restrict ks (restrict ks ρ) = restrict ks ρ := by
 unfold restrict;apply List.map_congr_left;intro k hk;rw [show get (ks.map fun k => (k, get ρ k)) k = get ρ k from jJ hk]
theorem si {keep : List Nat} {b : C} : rc D base (.loop keep b) ρ s = (rc D base b (restrict keep ρ) s).bind fun x => match x with
 | (.normal, ρ', s') => if fC base s.loc.length (restrict keep ρ') s' then rc D base (.loop keep b) ρ' { s' with loc := s'.loc.take s.loc.length } else none
 | x => some x := by
 simp only [rc]; rw [da]; simp only [step];cases run D (.c base b (restrict keep ρ)) s with
 | none => rfl
 | some x =>
  cases x with
  | c e ρ' s' =>
   cases e with
   | normal =>
    simp only [Option.bind_some];by_cases hc : fC base s.loc.length (restrict keep ρ') s' = true
    ·rw [if_pos hc, if_pos hc]
    ·rw [if_neg hc, if_neg hc]
   | _ => rfl
  | _ => rfl
theorem rC {keep : List Nat} {b : C} : rc D base (.loop keep b) (restrict keep ρ) s = rc D base (.loop keep b) ρ s := by
 rw [si, si (ρ := ρ), qT]
theorem Rz {keep : List Nat} {b : C} : rc D base (.loop keep b) ρ s = (rc D base b (restrict keep ρ) s).bind (ic D base s.loc.length keep b) := by
 rw [si];congr 1;funext x;obtain ⟨e, ρ', s'⟩ := x;cases e with
 | normal => simp only [ic, rC]
 | _ => rfl
theorem DH : ro D base [] ρ s = some (ρ, s) := by simp only [ro, da, step]
noncomputable def rop (D : Nat → Option Fc) (base : Nat) (ρ : Env) (s : St) : Op' → Option (V × St)
 | .call f args => match f.ev ρ with
  | .fn g caps => rf D g (args.map (Opd.ev ρ) ++ caps) s
  | _ => none
 | .pcall f args => match f.ev ρ with
  | .fn g caps => if pOk base (bc base (args.map (Opd.ev ρ) ++ caps)) (args.map (Opd.ev ρ) ++ caps) s = true then
   (rf D g (args.map (Opd.ev ρ) ++ caps) (s.cut (bc base (args.map (Opd.ev ρ) ++ caps)))).bind fun x => if x.2 = s.cut (bc base (args.map (Opd.ev ρ) ++ caps)) ∧ x.1.flat = true then some (x.1, s) else none
   else none
  | _ => none
 | .callw f args w => if nB s (w.ev ρ) = true then
  match f.ev ρ with
  | .fn g caps => rf D g (args.map (Opd.ev ρ) ++ caps) s
  | _ => none
  else none
 | .callk p f args => match f.ev ρ with
  | .fn g caps => if pOk base (bc base (args.map (Opd.ev ρ) ++ caps)) (args.map (Opd.ev ρ) ++ caps) s = true then
   (rf D g (args.map (Opd.ev ρ) ++ caps) (s.cut (bc base (args.map (Opd.ev ρ) ++ caps)))).bind fun x => if xC p (s.cut (bc base (args.map (Opd.ev ρ) ++ caps))) x.2 then some (x.1, { x.2 with loc := s.loc }) else none
   else none
  | _ => none
 | o => evOp base ρ s o
theorem HB {o : Op'} : am (run D) base ρ s o = rop D base ρ s o := by
 cases o with
 | call f args =>
  simp only [am, rop];cases f.ev ρ with
  | fn g caps =>
   simp only [rf];cases run D (.f g (args.map (Opd.ev ρ) ++ caps)) s with
   | none => rfl
   | some x => cases x <;> rfl
  | _ => rfl
 | pcall f args =>
  simp only [am, rop];cases f.ev ρ with
  | fn g caps =>
   simp only [rf];split
   ·cases run D (.f g (args.map (Opd.ev ρ) ++ caps)) (s.cut (bc base (args.map (Opd.ev ρ) ++ caps))) with
    | none => rfl
    | some x => cases x <;> rfl
   ·rfl
  | _ => rfl
 | callw f args w =>
  simp only [am, rop];split
  ·cases f.ev ρ with
   | fn g caps =>
    simp only [rf];cases run D (.f g (args.map (Opd.ev ρ) ++ caps)) s with
    | none => rfl
    | some x => cases x <;> rfl
   | _ => rfl
  ·rfl
 | callk p f args =>
  simp only [am, rop];cases f.ev ρ with
  | fn g caps =>
   simp only [rf];split
   ·cases run D (.f g (args.map (Opd.ev ρ) ++ caps)) (s.cut (bc base (args.map (Opd.ev ρ) ++ caps))) with
    | none => rfl
    | some x => cases x <;> rfl
   ·rfl
  | _ => rfl
 | _ => rfl
theorem qO {op : Op} {rest : List Op} : ro D base (op :: rest) ρ s = match aK op.guard ρ with
 | none => none
 | some false => ro D base rest (put op.dst (.tup []) ρ) s
 | some true => (rop D base ρ s op.op).bind fun x => ro D base rest (put op.dst x.1 ρ) x.2 := by
 unfold ro;rw [da]; simp only [step, HB];cases aK op.guard ρ with
 | none => rfl
 | some gb =>
  cases gb with
  | false => rfl
  | true =>
   cases rop D base ρ s op.op with
   | none => rfl
   | some x => rfl
def j0 (n : Nat) (res : List RV) (x : Ex × Env × St) : Option (V × St) :=
 match x with
 | (.exit _, _, _) => none
 | (_, ρ, s) => match cg ρ s res with
  | some v => if v.locLt n ∧ n ≤ s.loc.length then some (v, { s with loc := s.loc.take n }) else none
  | none => none
theorem EW {n : Nat} {res : List RV} : j0 n res (.ret, ρ, s) = match cg ρ s res with
 | some v => if v.locLt n ∧ n ≤ s.loc.length then some (v, { s with loc := s.loc.take n }) else none
 | none => none := rfl
theorem xQ {n : Nat} {res : List RV} : j0 n res (.normal, ρ, s) = match cg ρ s res with
 | some v => if v.locLt n ∧ n ≤ s.loc.length then some (v, { s with loc := s.loc.take n }) else none
 | none => none := rfl
theorem Vp {f : Nat} {fc : Fc} (hf : D f = some fc) {args : List V} (hn : args.length = fc.n) :
 rf D f args s = (rc D s.loc.length fc.body (eu 0 args) s).bind (j0 s.loc.length fc.res) := by
 unfold rf rc;rw [da]; simp only [step, hf, hn, if_true];cases run D (.c s.loc.length fc.body (eu 0 args)) s with
 | none => rfl
 | some x =>
  cases x with
  | c e ρ' s' =>
   cases e with
   | exit _ => rfl
   | normal =>
    simp only [Option.bind_some, j0];cases cg ρ' s' fc.res with
    | none => rfl
    | some v =>
     simp only;by_cases hv : v.locLt s.loc.length = true ∧ s.loc.length ≤ s'.loc.length
     ·simp only [if_pos hv]
     ·simp only [if_neg hv]
   | ret =>
    simp only [Option.bind_some, j0];cases cg ρ' s' fc.res with
    | none => rfl
    | some v =>
     simp only;by_cases hv : v.locLt s.loc.length = true ∧ s.loc.length ≤ s'.loc.length
     ·simp only [if_pos hv]
     ·simp only [if_neg hv]
  | _ => rfl
end
end Go.Ab
namespace Go.Ab
variable {D : Nat → Option Fc} {base : Nat} {ρ : Env} {s : St}
theorem nd {α : Sort _} {a b : α} (h : a = b) : a = b := h
def aa {α β : Type} (x : Option α) (f : α → Option β) : Option β := x.bind f
theorem aS {α β : Type} {a : α} {f : α → Option β} : aa (some a) f = f a := nd rfl
theorem Af {α β : Type} {f : α → Option β} : aa none f = none := nd rfl
@[congr] theorem Vg {α β : Type} {x y : Option α} {f : α → Option β} (h : x = y) : aa x f = aa y f := by rw [h]
theorem pR {α β : Type} {c : Prop} [Decidable c] {x y : Option α} {f : α → Option β} : aa (if c then x else y) f = if c then aa x f else aa y f := by split <;> rfl
def mL {α : Type} (v : V) (f : Bool → Option α) : Option α := match v with | .bool t => f t | _ => none
theorem Bf {α : Type} {t : Bool} {f : Bool → Option α} : mL (.bool t) f = f t := nd rfl
@[congr] theorem Vf {α : Type} {v w : V} {f : Bool → Option α} (h : v = w) : mL v f = mL w f := by rw [h]
theorem HP {a b : C} : rc D base (.seq a b) ρ s = aa (rc D base a ρ s) (andThen D base b) := Uj
def md (id : Nat) (x : Ex × Env × St) : Option (Ex × Env × St) := some (Qi id x)
theorem vo {id : Nat} : md id (.normal, ρ, s) = some (.normal, ρ, s) := nd rfl
theorem BK {id : Nat} : md id (.ret, ρ, s) = some (.ret, ρ, s) := nd rfl
theorem yM {id id' : Nat} : md id (.exit id', ρ, s) = some (if id' = id then .normal else .exit id', ρ, s) := nd rfl
theorem BE {id : Nat} {b : C} : rc D base (.block id b) ρ s = aa (rc D base b ρ s) (md id) := Hx
theorem au {keep : List Nat} {b : C} : rc D base (.loop keep b) ρ s = aa (rc D base b (restrict keep ρ) s) (ic D base s.loc.length keep b) := Rz
theorem ag {f : Nat} {fc : Fc} (hf : D f = some fc) {args : List V} (hn : args.length = fc.n) :
 rf D f args s = aa (rc D s.loc.length fc.body (eu 0 args) s) (j0 s.loc.length fc.res) := Vp hf hn
theorem BX {x : Opd} {a b : C} : rc D base (.cond x a b) ρ s = mL (x.ev ρ) fun t => if t then rc D base a ρ s else rc D base b ρ s := by
 rw [SM];cases x.ev ρ <;> rfl
def aW (ρ ρ' : Env) : Prop := ∀ t, get ρ t = get ρ' t
theorem aW.ev {ρ ρ' : Env} (h : aW ρ ρ') : Opd.ev ρ = Opd.ev ρ' := by
 funext x;cases x with
 | t n => exact h n
 | k v => rfl
theorem aW.put {ρ ρ' : Env} (h : aW ρ ρ') (d : Option Nat) (v : V) : aW (put d v ρ) (put d v ρ') := by
 intro t;cases d with
 | none => exact h t
 | some k => simp only [Ab.put, get, h t]
theorem aW.evOp {ρ ρ' : Env} (h : aW ρ ρ') (o : Op') : evOp base ρ s o = evOp base ρ' s o := by
 have he := h.ev;cases o <;> simp only [Ab.evOp, he]
theorem aW.rop {ρ ρ' : Env} (h : aW ρ ρ') (o : Op') : rop D base ρ s o = rop D base ρ' s o := by
 have he := h.ev;cases o with
 | call f args => simp only [Ab.rop, he]
 | pcall f args => simp only [Ab.rop, he]
 | callw f args w => simp only [Ab.rop, he]
 | callk p f args => simp only [Ab.rop, he]
 | _ => simp only [Ab.rop]; exact h.evOp _
theorem aW.guard {ρ ρ' : Env} (h : aW ρ ρ') (g : Option (Nat × Bool)) : aK g ρ = aK g ρ' := by
 cases g with
 | none => rfl
 | some x => simp only [aK, h x.1]
theorem aW.restrict {ρ ρ' : Env} (h : aW ρ ρ') (ks : List Nat) : restrict ks ρ = restrict ks ρ' := by
 simp only [Ab.restrict, h _]
theorem aW.ro {ks : List Nat} : ∀ (l : List Op) {ρ ρ' : Env} {s : St}, aW ρ ρ' → (ro D base l ρ s).bind (fun x => some (Ex.normal, Ab.restrict ks x.1, x.2)) = (ro D base l ρ' s).bind (fun x => some (Ex.normal, Ab.restrict ks x.1, x.2))
 | [], ρ, ρ', s, h => by simp only [DH, Option.bind_some, h.restrict]
 | op :: l, ρ, ρ', s, h => by
  rw [qO, qO, h.guard];cases aK op.guard ρ' with
  | none => rfl
  | some b =>
   cases b with
   | false => exact aW.ro l (h.put _ _)
   | true =>
    simp only [h.rop];cases Ab.rop D base ρ' s op.op with
    | none => rfl
    | some x => exact aW.ro l (h.put _ _)
theorem aW.of_get {t : Nat} {v : V} (h : get ρ t = v) : aW ρ ((t, v) :: ρ) := by
 intro k;simp only [get];split
 ·rename_i e; rw [← e, h]
 ·rfl
noncomputable def rg (D : Nat → Option Fc) (base : Nat) (ks : List Nat) (l : List Op) (ρ : Env) (s : St) : Option (Ex × Env × St) :=
 (ro D base l ρ s).bind fun x => some (Ex.normal, restrict ks x.1, x.2)
theorem TN {ks : List Nat} : rg D base ks [] ρ s = some (Ex.normal, restrict ks ρ, s) := by simp only [rg, DH, Option.bind_some]
theorem Wg {ks : List Nat} {d : Option Nat} {o : Op'} {rest : List Op} : rg D base ks (⟨d, none, o⟩ :: rest) ρ s = aa (rop D base ρ s o) fun x => rg D base ks rest (put d x.1 ρ) x.2 := by
 simp only [rg];rw [qO];simp only [aK];cases rop D base ρ s o <;> rfl
def ao {α : Type} (v : V) (b : Bool) (A B C : Option α) : Option α :=
 match v with
 | .bool x => if x = b then A else B
 | .tup [] => C
 | _ => none
theorem yj {α : Type} {x b : Bool} {A B C : Option α} : ao (.bool x) b A B C = if x = b then A else B := nd rfl
theorem BL {α : Type} {b : Bool} {A B C : Option α} : ao (.tup []) b A B C = C := nd rfl
@[congr] theorem Vc {α : Type} {v w : V} {b : Bool} {A B C : Option α} (h : v = w) : ao v b A B C = ao w b A B C := by rw [h]
theorem tb {α : Type} {v : V} {b : Bool} {A B C A' B' C' : Option α} (hA : v = .bool b → A = A') (hB : v = .bool (!b) → B = B') (hC : v = .tup [] → C = C') : ao v b A B C = ao v b A' B' C' := by
 unfold ao;split
 ·rename_i x;split
  ·rename_i h; exact hA (by rw [h])
  ·rename_i h; exact hB (by cases x <;> cases b <;> simp_all)
 ·exact hC rfl
 ·rfl
theorem Wr {ks : List Nat} {d : Option Nat} {t : Nat} {b : Bool} {o : Op'} {rest : List Op} : rg D base ks (⟨d, some (t, b), o⟩ :: rest) ρ s =
 ao (get ρ t) b (aa (rop D base ρ s o) fun y => rg D base ks rest (put d y.1 ((t, .bool b) :: ρ)) y.2) (rg D base ks rest (put d (.tup []) ((t, .bool !b) :: ρ)) s) (rg D base ks rest (put d (.tup []) ((t, .tup []) :: ρ)) s) := by
 have h0 : rg D base ks (⟨d, some (t, b), o⟩ :: rest) ρ s = ao (get ρ t) b (aa (rop D base ρ s o) fun y => rg D base ks rest (put d y.1 ρ) y.2) (rg D base ks rest (put d (.tup []) ρ) s) (rg D base ks rest (put d (.tup []) ρ) s) := by
  simp only [rg];rw [qO];simp only [aK];cases hv : get ρ t with
  | bool x =>
   simp only [ao];by_cases hxb : x = b
   ·subst hxb;simp only [beq_self_eq_true, if_true];cases rop D base ρ s o <;> rfl
   ·have hxb' : (x == b) = false := by simp [hxb]
    simp only [hxb', if_neg hxb]
  | tup l => cases l <;> rfl
  | _ => rfl
 rw [h0];refine tb (fun hv => ?_) (fun hv => ?_) (fun hv => aW.ro rest ((aW.of_get hv).put _ _))
 ·cases rop D base ρ s o with
  | none => rfl
  | some y => exact aW.ro rest ((aW.of_get hv).put _ _)
 ·exact aW.ro rest ((aW.of_get hv).put _ _)
theorem FM {t : Nat} {v : V} : put (some t) v ρ = (t, v) :: ρ := nd rfl
theorem GG {v : V} : put none v ρ = ρ := nd rfl
theorem Hh {k t : Nat} {v : V} : get ((k, v) :: ρ) t = if k = t then v else get ρ t := nd rfl
theorem xh : restrict [] ρ = [] := nd rfl
theorem vp {k : Nat} {ks : List Nat} : restrict (k :: ks) ρ = (k, get ρ k) :: restrict ks ρ := nd rfl
theorem yS {ks : List Nat} : i4 (some ks) ρ = restrict ks ρ := nd rfl
theorem yC : i4 none ρ = ρ := nd rfl
theorem We {n : Nat} : Opd.ev ρ (.t n) = get ρ n := nd rfl
theorem Wh {v : V} : Opd.ev ρ (.k v) = v := nd rfl
theorem HD {i : Nat} : eu i [] = [] := nd rfl
theorem FF {i : Nat} {v : V} {l : List V} : eu i (v :: l) = (i, v) :: eu (i + 1) l := nd rfl
section ops
variable {x y a b c p i : Opd}
theorem My : rop D base ρ s (.mv x) = some (x.ev ρ, s) := nd rfl
theorem z6 : rop D base ρ s (.pick c a b) = mL (c.ev ρ) fun t => some (if t then a.ev ρ else b.ev ρ, s) := nd rfl
theorem w9 {h : Bool} {z : V} : rop D base ρ s (.alloc h z) = some (.ptr (s.fresh h) [] z.tag, s.new h z) := nd rfl
theorem Fy {h : Bool} : rop D base ρ s (.box h x) = if (x.ev ρ).ok && ap h (x.ev ρ) then some (.ptr (s.fresh h) [] (x.ev ρ).tag, s.new h (x.ev ρ)) else none := nd rfl
def ldv (s : St) (t : Nat) : V → Option V
 | .ptr a path t' => if t' = t then s.read a path else none
 | _ => none
theorem Sq {t t' : Nat} {a : Loc} {path : List Nat} : ldv s t (.ptr a path t') = if t' = t then s.read a path else none := nd rfl
theorem Ay {t : Nat} : rop D base ρ s (.ld t p) = aa (ldv s t (p.ev ρ)) fun v => some (v, s) := by
 show evOp base ρ s (.ld t p) = _;simp only [evOp];cases p.ev ρ with
 | ptr a path t' =>
  simp only [ldv];split
  ·cases s.read a path <;> rfl
  ·rfl
 | _ => rfl
def stv (base : Nat) (s : St) (t : Nat) (x : V) : V → Option St
 | .ptr a path t' => if t' = t ∧ x.tag = t then s.write base a path x else none
 | _ => none
theorem Rv {t t' : Nat} {a : Loc} {path : List Nat} {x : V} : stv base s t x (.ptr a path t') = if t' = t ∧ x.tag = t then s.write base a path x else none := nd rfl
theorem BU {t : Nat} : rop D base ρ s (.st t p x) = aa (stv base s t (x.ev ρ) (p.ev ρ)) fun s' => some (.dead, s') := by
 show evOp base ρ s (.st t p x) = _;simp only [evOp];cases p.ev ρ with
 | ptr a path t' =>
  simp only [stv];split
  ·cases s.write base a path (x.ev ρ) <;> rfl
  ·rfl
 | _ => rfl
def ai : V → Option V
 | .ptr a p t => some (.ptr a p t)
 | .fn f l => some (.fn f l)
 | _ => none
theorem Hq {t : Nat} {a : Loc} {path : List Nat} : ai (.ptr a path t) = some (.ptr a path t) := nd rfl
theorem Sl {f : Nat} {l : List V} : ai (.fn f l) = some (.fn f l) := nd rfl
theorem zZ : rop D base ρ s (.nilc x) = aa (ai (x.ev ρ)) fun v => some (v, s) := by
 show evOp base ρ s (.nilc x) = _;simp only [evOp];cases x.ev ρ <;> rfl
theorem Cm {o : BinOp} : rop D base ρ s (.bin o x y) = aa (ab o (x.ev ρ) (y.ev ρ)) fun v => some (v, s) := by
 show evOp base ρ s (.bin o x y) = _;simp only [evOp];cases ab o (x.ev ρ) (y.ev ρ) <;> rfl
def eqv (neg : Bool) (t : Nat) (x y : V) : Option V := aa (cG t x y) fun b => some (.bool (if neg then !b else b))
theorem Ph {neg : Bool} {t : Nat} : rop D base ρ s (.eq neg t x y) = aa (eqv neg t (x.ev ρ) (y.ev ρ)) fun v => some (v, s) := by
 show evOp base ρ s (.eq neg t x y) = _;simp only [evOp, eqv];cases cG t (x.ev ρ) (y.ev ρ) <;> rfl
theorem QN {o : UnOp} : rop D base ρ s (.un o x) = aa (vun o (x.ev ρ)) fun v => some (v, s) := by
 show evOp base ρ s (.un o x) = _;simp only [evOp];cases vun o (x.ev ρ) <;> rfl
def cX (k : IntKind) : V → Option V
 | .int _ n => some (.int k (k.wrap n))
 | _ => none
theorem E8 {k k' : IntKind} {n : Int} : cX k (.int k' n) = some (.int k (k.wrap n)) := nd rfl
theorem zX {k : IntKind} : rop D base ρ s (.conv k x) = aa (cX k (x.ev ρ)) fun v => some (v, s) := by
 show evOp base ρ s (.conv k x) = _
 simp only [evOp];cases x.ev ρ <;> rfl
def vW (f : Nat) (caps : List V) : Option V := if caps.all (fun v => v.tag == 1) then some (.fn f caps) else none
theorem vi {f : Nat} {caps : List Opd} : rop D base ρ s (.mkfn f caps) = aa (vW f (caps.map (Opd.ev ρ))) fun v => some (v, s) := by
 show evOp base ρ s (.mkfn f caps) = _;simp only [evOp, vW];split <;> rfl
def tu (h : Bool) (r e : Nat) (z : V) (s : St) : V → V → Option (V × St)
 | .int _ l, .int _ m => if 0 ≤ l ∧ l ≤ m ∧ m ≤ eX then
  some (.sl (s.fresh h) [] 0 l.toNat (some m.toNat) e, s.new h (.agg r (List.replicate l.toNat z)))
  else none
 | _, _ => none
theorem uS {h : Bool} {r e : Nat} {z : V} {n c : Opd} : rop D base ρ s (.mksl h r e z n c) = tu h r e z s (n.ev ρ) (c.ev ρ) := by
 show evOp base ρ s (.mksl h r e z n c) = _;simp only [evOp];cases n.ev ρ with
 | int _ _ => cases c.ev ρ <;> rfl
 | _ => rfl
def hJ (e : Nat) (lo hi mx : Option V) : V → Option V
 | .sl a path off len cap e' => if e' = e then
  aa (ak (cap.getD len) mx (cap.getD len)) fun m => aa (ak (iZ mx.isSome m len) hi len) fun h => aa (ak h lo 0) fun l =>
   some (.sl a path (off + l) (h - l) (ms mx.isSome cap (m - l)) e)
  else none
 | .nils => aa (ak 0 mx 0) fun _ => aa (ak 0 hi 0) fun _ => aa (ak 0 lo 0) fun _ => some .nils
 | _ => none
theorem DK {e : Nat} {lo hi mx : Option Opd} : rop D base ρ s (.slc e x lo hi mx) = aa (hJ e (lo.map (Opd.ev ρ)) (hi.map (Opd.ev ρ)) (mx.map (Opd.ev ρ)) (x.ev ρ)) fun v => some (v, s) := by
 show evOp base ρ s (.slc e x lo hi mx) = _;simp only [evOp];cases x.ev ρ with
 | sl a path off len cap e' =>
  simp only [hJ];by_cases he : e' = e
  ·simp only [if_pos he, Option.isSome_map];cases h1 : ak (cap.getD len) (mx.map (Opd.ev ρ)) (cap.getD len) with
   | none => rfl
   | some m =>
    simp only [aS];cases h2 : ak (iZ mx.isSome m len) (hi.map (Opd.ev ρ)) len with
    | none => rfl
    | some h =>
     simp only [aS];cases h3 : ak h (lo.map (Opd.ev ρ)) 0 <;> rfl
  ·simp only [if_neg he]; rfl
 | nils =>
  simp only [hJ];cases ak 0 (mx.map (Opd.ev ρ)) 0 <;> cases ak 0 (hi.map (Opd.ev ρ)) 0 <;> cases ak 0 (lo.map (Opd.ev ρ)) 0 <;> rfl
 | _ => rfl
def sN (lo hi : Option V) : V → Option V
 | .str b => aa (ak b.size hi b.size) fun h => aa (ak h lo 0) fun l => some (.str (b.extract l h))
 | _ => none
theorem tn {lo hi : Option Opd} : rop D base ρ s (.slstr x lo hi) = aa (sN (lo.map (Opd.ev ρ)) (hi.map (Opd.ev ρ)) (x.ev ρ)) fun v => some (v, s) := by
 show evOp base ρ s (.slstr x lo hi) = _;simp only [evOp];cases x.ev ρ with
 | str b =>
  simp only [sN];cases ak b.size (hi.map (Opd.ev ρ)) b.size with
  | none => rfl
  | some h => simp only [aS]; cases ak h (lo.map (Opd.ev ρ)) 0 <;> rfl
 | _ => rfl
def j8 (s : St) (t n e : Nat) (lo hi mx : Option V) : V → Option V
 | .ptr a path t' => if t' = t ∧ (s.read a path).isSome = true then aa (ak n mx n) fun m => aa (ak m hi n) fun h => aa (ak h lo 0) fun l => some (.sl a path l (h - l) (some (m - l)) e) else none
 | _ => none
theorem wM {t n e : Nat} {lo hi mx : Option Opd} : rop D base ρ s (.slarr t n e x lo hi mx) = aa (j8 s t n e (lo.map (Opd.ev ρ)) (hi.map (Opd.ev ρ)) (mx.map (Opd.ev ρ)) (x.ev ρ)) fun v => some (v, s) := by
 show evOp base ρ s (.slarr t n e x lo hi mx) = _;simp only [evOp];cases x.ev ρ with
 | ptr a path t' =>
  simp only [j8];by_cases he : t' = t ∧ (s.read a path).isSome = true
  ·simp only [if_pos he];cases ak n (mx.map (Opd.ev ρ)) n with
   | none => rfl
   | some m =>
    simp only [aS];cases ak m (hi.map (Opd.ev ρ)) n with
    | none => rfl
    | some h => simp only [aS]; cases ak h (lo.map (Opd.ev ρ)) 0 <;> rfl
  ·simp only [if_neg he]; rfl
 | _ => rfl
def ae (t f c : Nat) : V → Option V
 | .ptr a path t' => if t' = t then some (.ptr a (path ++ [f]) c) else none
 | _ => none
theorem E1 {t f c : Nat} : rop D base ρ s (.fad t f c x) = aa (ae t f c (x.ev ρ)) fun v => some (v, s) := by
 show evOp base ρ s (.fad t f c x) = _;simp only [evOp];cases x.ev ρ with
 | ptr a path t' => simp only [ae]; split <;> rfl
 | _ => rfl
def aX (t n e : Nat) : V → V → Option V
 | .ptr a path t', .int _ j => if t' = t ∧ 0 ≤ j ∧ j < n then some (.ptr a (path ++ [j.toNat]) e) else none
 | _, _ => none
theorem B8 {t n e : Nat} : rop D base ρ s (.iad t n e x i) = aa (aX t n e (x.ev ρ) (i.ev ρ)) fun v => some (v, s) := by
 show evOp base ρ s (.iad t n e x i) = _;simp only [evOp];cases x.ev ρ with
 | ptr a path t' =>
  cases i.ev ρ with
  | int k j => simp only [aX]; split <;> rfl
  | _ => rfl
 | _ => rfl
def ef (e : Nat) : V → V → Option V
 | .sl a path off len _ e', .int _ j => if e' = e ∧ 0 ≤ j ∧ j < len then some (.ptr a (path ++ [off + j.toNat]) e) else none
 | _, _ => none
def so (n e : Nat) : V → Option V
 | .sl a path off len _ e' => if e' = e ∧ 0 < n ∧ n ≤ len then some (.ptr a (path ++ [off]) e) else none
 | _ => none
theorem FA {n e : Nat} : rop D base ρ s (.s2a n e x) = aa (so n e (x.ev ρ)) fun v => some (v, s) := by
 show evOp base ρ s (.s2a n e x) = _;simp only [evOp];cases x.ev ρ with
 | sl a path off len cap e' => simp only [so]; split <;> rfl
 | _ => rfl
def rO (s : St) (t n e u : Nat) : V → Option V
 | .ptr a q e' => if e' = e then (s.part n u a q).map (.agg t) else none
 | _ => none
theorem Ck {t n e u : Nat} : rop D base ρ s (.ldr t n e u x) = aa (rO s t n e u (x.ev ρ)) fun v => some (v, s) := by
 show evOp base ρ s (.ldr t n e u x) = _;simp only [evOp];cases x.ev ρ with
 | ptr a q e' =>
  simp only [rO];split
  ·cases s.part n u a q <;> rfl
  ·rfl
 | _ => rfl
theorem EC {e : Nat} : rop D base ρ s (.sad e x i) = aa (ef e (x.ev ρ) (i.ev ρ)) fun v => some (v, s) := by
 show evOp base ρ s (.sad e x i) = _;simp only [evOp];cases x.ev ρ with
 | sl a path off len cap e' =>
  cases i.ev ρ with
  | int k j => simp only [ef]; split <;> rfl
  | _ => rfl
 | _ => rfl
def AT (t f : Nat) : V → Option V
 | .agg t' l => if t' = t then l[f]? else none
 | _ => none
theorem Db {t f : Nat} : rop D base ρ s (.fld t f x) = aa (AT t f (x.ev ρ)) fun v => some (v, s) := by
 show evOp base ρ s (.fld t f x) = _;simp only [evOp];cases x.ev ρ with
 | agg t' l => simp only [AT]; split <;> (first | rfl | (cases l[f]? <;> rfl))
 | _ => rfl
def ib (t n : Nat) : V → V → Option V
 | .agg t' l, .int _ j => if t' = t ∧ 0 ≤ j ∧ j < n then l[j.toNat]? else none
 | _, _ => none
theorem DV {t n : Nat} : rop D base ρ s (.idx t n x i) = aa (ib t n (x.ev ρ) (i.ev ρ)) fun v => some (v, s) := by
 show evOp base ρ s (.idx t n x i) = _;simp only [evOp];cases x.ev ρ with
 | agg t' l =>
  cases i.ev ρ with
  | int k j => simp only [ib]; split <;> (first | rfl | (cases l[j.toNat]? <;> rfl))
  | _ => rfl
 | _ => rfl
def vT : V → V → Option V
 | .str b, .int _ j => if 0 ≤ j then (b[j.toNat]?).map fun c => .int .u8 c.toNat else none
 | _, _ => none
theorem yY : rop D base ρ s (.sidx x i) = aa (vT (x.ev ρ) (i.ev ρ)) fun v => some (v, s) := by
 show evOp base ρ s (.sidx x i) = _;simp only [evOp];cases x.ev ρ with
 | str b =>
  cases i.ev ρ with
  | int k j =>
   simp only [vT];by_cases hj : 0 ≤ j
   ·simp only [if_pos hj]; cases b[j.toNat]? <;> rfl
   ·simp only [if_neg hj]; rfl
  | _ => rfl
 | _ => rfl
def aF (n : Nat) : V → Option V
 | .tup l => l[n]?
 | _ => none
theorem HE {l : List V} {n : Nat} : aF n (.tup l) = l[n]? := nd rfl
theorem Dk {n : Nat} : rop D base ρ s (.ext x n) = aa (aF n (x.ev ρ)) fun v => some (v, s) := by
 show evOp base ρ s (.ext x n) = _;simp only [evOp];cases x.ev ρ with
 | tup l => simp only [aF]; cases l[n]? <;> rfl
 | _ => rfl
theorem zk {n : Nat} : rop D base ρ s (.lenk n) = some (.int .i64 n, s) := nd rfl
theorem Fv {q : Bool} : rop D base ρ s (.len q x) = aa (V.slen q (x.ev ρ)) fun n => some (.int .i64 n, s) := by
 show evOp base ρ s (.len q x) = _;simp only [evOp];cases V.slen q (x.ev ρ) <;> rfl
theorem Fl {e : Nat} : rop D base ρ s (.cpy e x y) = iN base e (x.ev ρ) (y.ev ρ) s := nd rfl
theorem Es {mx : Bool} : rop D base ρ s (.mnx mx x y) = aa (iT mx (x.ev ρ) (y.ev ρ)) fun v => some (v, s) := by
 show evOp base ρ s (.mnx mx x y) = _;simp only [evOp];cases iT mx (x.ev ρ) (y.ev ρ) <;> rfl
theorem CU {h : Bool} {r e : Nat} : rop D base ρ s (.app h r e x y) = aG base h r e (x.ev ρ) (y.ev ρ) s := nd rfl
theorem CO {t : Nat} {l : List V} {ps : List (Nat × Opd)} : rop D base ρ s (.bld (.agg t l) ps) = aa (aj l (ps.map fun p => (p.1, p.2.ev ρ))) fun l' => some (.agg t l', s) := by
 show evOp base ρ s (.bld (.agg t l) ps) = _;simp only [evOp];cases aj l (ps.map fun p => (p.1, p.2.ev ρ)) <;> rfl
def nc (h : Bool) (r e n : Nat) (z : V) (s : St) (ps : List (Nat × V)) : Option (V × St) :=
 aa (aj (List.replicate n z) ps) fun l' => if (e % 2 = 0 ∨ ap h (.agg 1 l')) then some (.sl (s.fresh h) [] 0 n (some n) e, s.new h (.agg r l')) else none
theorem wD {h : Bool} {r e n : Nat} {z : V} {ps : List (Nat × Opd)} : rop D base ρ s (.bsl h r e z n ps) = nc h r e n z s (ps.map fun p => (p.1, p.2.ev ρ)) := by
 show evOp base ρ s (.bsl h r e z n ps) = _;simp only [evOp, nc];cases aj (List.replicate n z) (ps.map fun p => (p.1, p.2.ev ρ)) <;> rfl
noncomputable def sF (D : Nat → Option Fc) (args : List V) (s : St) : V → Option (V × St)
 | .fn g caps => rf D g (args ++ caps) s
 | _ => none
theorem HC {args : List V} {g : Nat} {caps : List V} : sF D args s (.fn g caps) = rf D g (args ++ caps) s := nd rfl
theorem zh {f : Opd} {args : List Opd} : rop D base ρ s (.call f args) = sF D (args.map (Opd.ev ρ)) s (f.ev ρ) := by
 simp only [rop];cases f.ev ρ <;> rfl
noncomputable def iO (D : Nat → Option Fc) (k base g : Nat) (as : List V) (s : St) : Option V :=
 if (V.locLts k as && (decide (base ≤ k) && (decide (k ≤ s.loc.length) && ((s.loc.take k).drop base).all (bG k)))) = true then
  aa (rf D g as ⟨s.loc.take k, s.hp⟩) fun x => if x.2 = ⟨s.loc.take k, s.hp⟩ ∧ x.1.flat = true then some x.1 else none
 else none
noncomputable def xF (D : Nat → Option Fc) (base : Nat) (args : List V) (s : St) : V → Option V
 | .fn g caps => iO D (bc base (args ++ caps)) base g (args ++ caps) s
 | _ => none
theorem C4 {args : List V} {g : Nat} {caps : List V} : xF D base args s (.fn g caps) = iO D (bc base (args ++ caps)) base g (args ++ caps) s := nd rfl
theorem we {f : Opd} {args : List Opd} : rop D base ρ s (.pcall f args) = aa (xF D base (args.map (Opd.ev ρ)) s (f.ev ρ)) fun v => some (v, s) := by
 simp only [rop];cases f.ev ρ with
 | fn g caps =>
  show (if pOk base (bc base (args.map (Opd.ev ρ) ++ caps)) (args.map (Opd.ev ρ) ++ caps) s = true then
   (rf D g (args.map (Opd.ev ρ) ++ caps) (s.cut (bc base (args.map (Opd.ev ρ) ++ caps)))).bind fun x => if x.2 = s.cut (bc base (args.map (Opd.ev ρ) ++ caps)) ∧ x.1.flat = true then some (x.1, s) else none
   else none) = aa (iO D (bc base (args.map (Opd.ev ρ) ++ caps)) base g (args.map (Opd.ev ρ) ++ caps) s) _
  generalize hk : bc base (args.map (Opd.ev ρ) ++ caps) = k;unfold iO;by_cases hp : pOk base k (args.map (Opd.ev ρ) ++ caps) s = true
  ·rw [if_pos hp, if_pos (show (_ && _) = true from hp)]
   show (rf D g (args.map (Opd.ev ρ) ++ caps) ⟨s.loc.take k, s.hp⟩).bind _ = _;cases rf D g (args.map (Opd.ev ρ) ++ caps) ⟨s.loc.take k, s.hp⟩ with
   | none => rfl
   | some x =>
    show (if x.2 = s.cut k ∧ x.1.flat = true then some (x.1, s) else none) = aa (if x.2 = s.cut k ∧ x.1.flat = true then some x.1 else none) _
    by_cases hx : x.2 = s.cut k ∧ x.1.flat = true
    ·rw [if_pos hx, if_pos hx]; rfl
    ·rw [if_neg hx, if_neg hx]; rfl
  ·rw [if_neg hp, if_neg (show ¬ ((_ && _) = true) from hp)]; rfl
 | _ => rfl
theorem Gm {k : IntKind} {n : Int} : V.flat (.int k n) = true := nd rfl
theorem D5 {b : Bool} : V.flat (.bool b) = true := nd rfl
theorem HY {b : ByteArray} : V.flat (.str b) = true := nd rfl
theorem FZ {t : Nat} {l : List V} : V.flat (.agg t l) = V.flats l := nd rfl
theorem GO {l : List V} : V.flat (.tup l) = V.flats l := nd rfl
theorem B5 : V.flats [] = true := nd rfl
theorem Ah {v : V} {l : List V} : V.flats (v :: l) = (v.flat && V.flats l) := nd rfl
theorem ma {l : List V} (h : ∀ v ∈ l, v.flat = true) : V.flats l = true := by
 induction l with
 | nil => rfl
 | cons a l ih => simp only [V.flats, Bool.and_eq_true]; exact ⟨h a (by simp), ih fun v hv => h v (by simp [hv])⟩
theorem yo {l : List Bool} : V.flats (l.map V.bool) = true := ma fun v hv => by obtain ⟨b, _, rfl⟩ := List.mem_map.1 hv; rfl
theorem Bk {k : IntKind} {l : List Int} : V.flats (l.map (V.int k)) = true := ma fun v hv => by obtain ⟨b, _, rfl⟩ := List.mem_map.1 hv; rfl
def oN (base : Nat) (s : St) (t : Nat) (x p : V) (l : List V) : Option St := if l.all (fun y => eo y p) = true then stv base s t x p else none
theorem CQ {t : Nat} {l : List Opd} : rop D base ρ s (.sta t p x l) = aa (oN base s t (x.ev ρ) (p.ev ρ) (l.map (Opd.ev ρ))) fun s' => some (.dead, s') := by
 show evOp base ρ s (.sta t p x l) = _;simp only [evOp, oN, List.all_map];show (if (l.all fun y => eo (y.ev ρ) (p.ev ρ)) = true then _ else none) = aa (if (l.all fun y => eo (y.ev ρ) (p.ev ρ)) = true then _ else none) _
 split
 ·have := @BU D base ρ s x p t;exact this
 ·rfl
def uh (s : St) (t : Nat) (p r : V) : Option V := if iM r p = true then ldv s t p else none
theorem Fx {t : Nat} {r : Opd} : rop D base ρ s (.lda t p r) = aa (uh s t (p.ev ρ) (r.ev ρ)) fun v => some (v, s) := by
 show evOp base ρ s (.lda t p r) = _;simp only [evOp, uh];show (if iM (r.ev ρ) (p.ev ρ) = true then _ else none) = _
 split
 ·exact @Ay D base ρ s p t
 ·rfl
theorem D6 {a b : Loc} {q r : List Nat} {t u : Nat} : iM (.ptr a q t) (.ptr b r u) = decide (a = b) := nd rfl
noncomputable def sA (D : Nat → Option Fc) (args : List V) (s : St) (w f : V) : Option (V × St) := if nB s w = true then sF D args s f else none
theorem xK {f w : Opd} {args : List Opd} : rop D base ρ s (.callw f args w) = sA D (args.map (Opd.ev ρ)) s (w.ev ρ) (f.ev ρ) := by
 simp only [rop, sA];split
 ·cases f.ev ρ <;> rfl
 ·rfl
noncomputable def xp (D : Nat → Option Fc) (p : Bool) (k base g : Nat) (as : List V) (s : St) : Option (V × St) :=
 if (V.locLts k as && (decide (base ≤ k) && (decide (k ≤ s.loc.length) && ((s.loc.take k).drop base).all (bG k)))) = true then
  aa (rf D g as ⟨s.loc.take k, s.hp⟩) fun x => if x.2.loc = s.loc.take k ∧ (p = true → x.2.hp.take s.hp.length = s.hp) then some (x.1, ⟨s.loc, x.2.hp⟩) else none
 else none
noncomputable def xO (D : Nat → Option Fc) (p : Bool) (base : Nat) (args : List V) (s : St) : V → Option (V × St)
 | .fn g caps => xp D p (bc base (args ++ caps)) base g (args ++ caps) s
 | _ => none
theorem Do {p : Bool} {args : List V} {g : Nat} {caps : List V} : xO D p base args s (.fn g caps) = xp D p (bc base (args ++ caps)) base g (args ++ caps) s := nd rfl
theorem wV {p : Bool} {f : Opd} {args : List Opd} : rop D base ρ s (.callk p f args) = xO D p base (args.map (Opd.ev ρ)) s (f.ev ρ) := by
 simp only [rop];cases f.ev ρ with
 | fn g caps => rfl
 | _ => rfl
def AO (s : St) (t : Nat) : V → Option V
 | .ptr (.loc i) q t' => if t' = t then s.read (.loc i) q else none
 | _ => none
theorem Gk {i : Nat} {q : List Nat} {t t' : Nat} : AO s t (.ptr (.loc i) q t') = if t' = t then s.read (.loc i) q else none := nd rfl
theorem Dx {t : Nat} : rop D base ρ s (.ldl t p) = aa (AO s t (p.ev ρ)) fun v => some (v, s) := by
 show evOp base ρ s (.ldl t p) = _;simp only [evOp];cases p.ev ρ with
 | ptr a q t' =>
  cases a with
  | loc i =>
   simp only [AO];split
   ·cases s.read (.loc i) q <;> rfl
   ·rfl
  | hp i => rfl
 | _ => rfl
def vU (base : Nat) (h : Bool) (r e : Nat) (s : St) (x y : V) (l : List V) : Option (V × St) := if l.all (fun z => fe z x) = true then aG base h r e x y s else none
theorem zj {h : Bool} {r e : Nat} {x y : Opd} {l : List Opd} : rop D base ρ s (.appa h r e x y l) = vU base h r e s (x.ev ρ) (y.ev ρ) (l.map (Opd.ev ρ)) := by
 show evOp base ρ s (.appa h r e x y l) = _;simp only [evOp, vU, List.all_map];rfl
theorem Ia {a b : Loc} {q r : List Nat} {t o l e : Nat} {c : Option Nat} : fe (.ptr a q t) (.sl b r o l c e) = decide (a ≠ b) := nd rfl
theorem BH {a : Loc} {q : List Nat} {t : Nat} : fe (.ptr a q t) .nils = true := nd rfl
theorem Hl {a : Loc} {q : List Nat} {t : Nat} : nB s (.ptr a q t) = (s.read a q).isSome := nd rfl
theorem E2 {a b : Loc} {q r : List Nat} {t u : Nat} : eo (.ptr a q t) (.ptr b r u) = decide (a ≠ b) := nd rfl
theorem R3 {i : Nat} {p : List Nat} {t : Nat} : V.lim1 (.ptr (.hp i) p t) = 0 := nd rfl
theorem GZ {i : Nat} {p : List Nat} {t : Nat} : V.lim1 (.ptr (.loc i) p t) = i + 1 := nd rfl
theorem Su {i : Nat} {p : List Nat} {o l : Nat} {c : Option Nat} {t : Nat} : V.lim1 (.sl (.loc i) p o l c t) = i + 1 := nd rfl
theorem HG {k : IntKind} {n : Int} : V.lim1 (.int k n) = 0 := nd rfl
theorem D4 {n : Bool} : V.lim1 (.bool n) = 0 := nd rfl
theorem GM {t : Nat} {l : List V} : V.lim1 (.agg t l) = 0 := nd rfl
theorem RM {t : Nat} {l : List V} : V.lim1 (.fn t l) = 0 := nd rfl
theorem GC : pX base [] = base := nd rfl
theorem DB {v : V} {l : List V} : pX base (v :: l) = max v.lim1 (pX base l) := nd rfl
end ops
theorem nq {α β γ : Type} {x : Option α} {f : α → Option β} {g : β → Option γ} : aa (aa x f) g = aa x fun a => aa (f a) g := by cases x <;> rfl
theorem yh {α β : Type} {v : V} {f : Bool → Option α} {g : α → Option β} : aa (mL v f) g = mL v fun t => aa (f t) g := by cases v <;> rfl
theorem Fo {α β : Type} {c : Prop} [Decidable c] {x : Option α} {g : α → Option β} : aa (if c then x else none) g = if c then aa x g else none := by split <;> rfl
theorem vh {α β : Type} {x : Option α} {f g : α → Option β} (h : ∀ a, f a = g a) : aa x f = aa x g := by cases x <;> simp only [aa, Option.bind_none, Option.bind_some, h]
noncomputable def r1 (D : Nat → Option Fc) (base : Nat) (ρ : Env) (s : St) {α : Type} (o : Op') (K : V → St → Option α) : Option α :=
 match o with
 | .mv x => K (x.ev ρ) s
 | .pick c a b => mL (c.ev ρ) fun t => K (if t then a.ev ρ else b.ev ρ) s
 | .alloc h z => K (.ptr (s.fresh h) [] z.tag) (s.new h z)
 | .box h x => if (x.ev ρ).ok && ap h (x.ev ρ) then K (.ptr (s.fresh h) [] (x.ev ρ).tag) (s.new h (x.ev ρ)) else none
 | .ld t p => aa (ldv s t (p.ev ρ)) fun v => K v s
 | .st t p x => aa (stv base s t (x.ev ρ) (p.ev ρ)) fun s' => K .dead s'
 | .nilc x => aa (ai (x.ev ρ)) fun v => K v s
 | .bin o x y => aa (ab o (x.ev ρ) (y.ev ρ)) fun v => K v s
 | .un o x => aa (vun o (x.ev ρ)) fun v => K v s
 | .conv k x => aa (cX k (x.ev ρ)) fun v => K v s
 | .fad t f c x => aa (ae t f c (x.ev ρ)) fun v => K v s
 | .iad t n e x i => aa (aX t n e (x.ev ρ) (i.ev ρ)) fun v => K v s
 | .sad e x i => aa (ef e (x.ev ρ) (i.ev ρ)) fun v => K v s
 | .fld t f x => aa (AT t f (x.ev ρ)) fun v => K v s
 | .s2a n e x => aa (so n e (x.ev ρ)) fun v => K v s
 | .ldr t n e u x => aa (rO s t n e u (x.ev ρ)) fun v => K v s
 | .idx t n x i => aa (ib t n (x.ev ρ) (i.ev ρ)) fun v => K v s
 | .sidx x i => aa (vT (x.ev ρ) (i.ev ρ)) fun v => K v s
 | .ext x n => aa (aF n (x.ev ρ)) fun v => K v s
 | .lenk n => K (.int .i64 n) s
 | .len q x => aa (V.slen q (x.ev ρ)) fun n => K (.int .i64 n) s
 | .slc e x lo hi mx => aa (hJ e (lo.map (Opd.ev ρ)) (hi.map (Opd.ev ρ)) (mx.map (Opd.ev ρ)) (x.ev ρ)) fun v => K v s
 | .slarr t n e x lo hi mx => aa (j8 s t n e (lo.map (Opd.ev ρ)) (hi.map (Opd.ev ρ)) (mx.map (Opd.ev ρ)) (x.ev ρ)) fun v => K v s
 | .eq neg t x y => aa (eqv neg t (x.ev ρ) (y.ev ρ)) fun v => K v s
 | .mkfn f caps => aa (vW f (caps.map (Opd.ev ρ))) fun v => K v s
 | .slstr x lo hi => aa (sN (lo.map (Opd.ev ρ)) (hi.map (Opd.ev ρ)) (x.ev ρ)) fun v => K v s
 | .mksl h r e z n c => aa (tu h r e z s (n.ev ρ) (c.ev ρ)) fun x => K x.1 x.2
 | .app h r e x y => aa (aG base h r e (x.ev ρ) (y.ev ρ) s) fun x => K x.1 x.2
 | .bsl h r e z n ps => aa (nc h r e n z s (ps.map fun p => (p.1, p.2.ev ρ))) fun x => K x.1 x.2
 | .cpy e x y => aa (iN base e (x.ev ρ) (y.ev ρ) s) fun x => K x.1 x.2
 | .mnx mx x y => aa (iT mx (x.ev ρ) (y.ev ρ)) fun v => K v s
 | .bld z ps => match z with
  | .agg t l => aa (aj l (ps.map fun p => (p.1, p.2.ev ρ))) fun l' => K (.agg t l') s
  | _ => none
 | .call f args => aa (sF D (args.map (Opd.ev ρ)) s (f.ev ρ)) fun x => K x.1 x.2
 | .pcall f args => aa (xF D base (args.map (Opd.ev ρ)) s (f.ev ρ)) fun v => K v s
 | .sta t p x l => aa (oN base s t (x.ev ρ) (p.ev ρ) (l.map (Opd.ev ρ))) fun s' => K .dead s'
 | .callw f args w => aa (sA D (args.map (Opd.ev ρ)) s (w.ev ρ) (f.ev ρ)) fun x => K x.1 x.2
 | .lda t p r => aa (uh s t (p.ev ρ) (r.ev ρ)) fun v => K v s
 | .callk p f args => aa (xO D p base (args.map (Opd.ev ρ)) s (f.ev ρ)) fun x => K x.1 x.2
 | .ldl t p => aa (AO s t (p.ev ρ)) fun v => K v s
 | .appa h r e x y l => aa (vU base h r e s (x.ev ρ) (y.ev ρ) (l.map (Opd.ev ρ))) fun x => K x.1 x.2
theorem EX {α : Type} {o : Op'} {K : V → St → Option α} : aa (rop D base ρ s o) (fun x => K x.1 x.2) = r1 D base ρ s o K := by
 cases o with
 | bld z ps =>
  cases z with
  | agg t l => simp only [r1, CO, nq, aS]
  | _ => rfl
 | pcall f args => simp only [r1, we, nq, aS]
 | box h x => simp only [r1, Fy, Fo, aS]
 | _ => simp only [r1, My, z6, w9, Ay, BU, zZ, Cm, QN, zX, E1, B8, EC, Db, DV, yY, Dk, zk, Fv, DK, wM, zh, Ph, vi, tn, uS, CU, Fl, Es, wD, CQ, xK, Fx, wV, Dx, zj, FA, Ck, nq, aS, yh]
noncomputable def rgO (D : Nat → Option Fc) (base : Nat) (ks : List Nat) : List Op → Env → St → Option (Ex × Env × St)
 | [], ρ, s => some (Ex.normal, restrict ks ρ, s)
 | op :: rest, ρ, s => match op.guard with
  | none => r1 D base ρ s op.op fun v s' => rgO D base ks rest (put op.dst v ρ) s'
  | some (t, b) => ao (get ρ t) b (r1 D base ρ s op.op fun v s' => rgO D base ks rest (put op.dst v ((t, .bool b) :: ρ)) s') (rgO D base ks rest (put op.dst (.tup []) ((t, .bool !b) :: ρ)) s) (rgO D base ks rest (put op.dst (.tup []) ((t, .tup []) :: ρ)) s)
theorem oh {ks : List Nat} : ∀ {l : List Op} {ρ : Env} {s : St}, rg D base ks l ρ s = rgO D base ks l ρ s
 | [], ρ, s => by rw [TN]; rfl
 | ⟨d, none, o⟩ :: l, ρ, s => by
  rw [Wg];simp only [rgO];rw [← EX];exact vh fun x => oh
 | ⟨d, some (t, b), o⟩ :: l, ρ, s => by
  rw [Wr];simp only [rgO];refine tb (fun _ => ?_) (fun _ => oh) (fun _ => oh);rw [← EX];exact vh fun x => oh
theorem GJ {ks : List Nat} {l : List Op} : rc D base (.reg (some ks) l) ρ s = rgO D base ks l ρ s := UG.trans oh
theorem D7 {ks : List Nat} {l : List Op} : rc D base (.regd (some ks) l) ρ s = rgO D base ks l ρ s := Rt.trans oh
theorem Aq {y d : Nat} : ak y none d = some d := nd rfl
theorem C0 {y d : Nat} {k : IntKind} {i : Int} : ak y (some (.int k i)) d = if 0 ≤ i ∧ i ≤ y then some i.toNat else none := nd rfl
theorem zv : s.fresh true = .hp s.hp.length := nd rfl
theorem SV : s.fresh false = .loc s.loc.length := nd rfl
theorem Pp {v : V} : s.new true v = ⟨s.loc, s.hp ++ [.rw v]⟩ := nd rfl
theorem VM {v : V} : s.new false v = ⟨s.loc ++ [.rw v], s.hp⟩ := nd rfl
theorem HL {v : V} : ap false v = true := nd rfl
theorem sm {v : V} : ap true v = v.locLt 0 := nd rfl
def Blk.rd (p : List Nat) : Option Blk → Option V
 | some (.rw v) => V.at p v
 | some (.ro v) => V.at p v
 | _ => none
theorem BI {p : List Nat} {v : V} : Blk.rd p (some (.rw v)) = V.at p v := nd rfl
theorem P9 {p : List Nat} {v : V} : Blk.rd p (some (.ro v)) = V.at p v := nd rfl
theorem wA {i : Nat} {p : List Nat} : s.read (.loc i) p = Blk.rd p s.loc[i]? := nd rfl
theorem kx {i : Nat} {p : List Nat} : s.read (.hp i) p = Blk.rd p s.hp[i]? := nd rfl
def Blk.wr (p : List Nat) (x : V) : Option Blk → Option Blk
 | some (.rw v) => (V.setAt p x v).map .rw
 | _ => none
theorem V8 {p : List Nat} {x v : V} : Blk.wr p x (some (.rw v)) = (V.setAt p x v).map .rw := nd rfl
theorem BY {i : Nat} {p : List Nat} {x : V} : s.write base (.loc i) p x = if x.locLt 0 || decide (base ≤ i) then (Blk.wr p x s.loc[i]?).map fun b => ⟨s.loc.set i b, s.hp⟩ else none := by
 simp only [St.write, St.at];cases s.loc[i]? with
 | none => simp [Blk.wr]
 | some b =>
  cases b with
  |rw v =>
   simp only [Blk.wr];rw [show (x.locLt 0 || decide (base ≤ i)) = eg base (.loc i) x from rfl]
   by_cases hc : eg base (.loc i) x = true
   ·rw [if_pos hc, if_pos hc]; cases V.setAt p x v <;> rfl
   ·rw [if_neg hc, if_neg hc]
  | _ => simp [Blk.wr]
theorem FS {i : Nat} {p : List Nat} {x : V} : s.write base (.hp i) p x = if x.locLt 0 then (Blk.wr p x s.hp[i]?).map fun b => ⟨s.loc, s.hp.set i b⟩ else none := by
 simp only [St.write, St.at];cases s.hp[i]? with
 | none => simp [Blk.wr]
 | some b =>
  cases b with
  |rw v =>
   simp only [Blk.wr];rw [show x.locLt 0 = eg base (.hp i) x from rfl]
   by_cases hc : eg base (.hp i) x = true
   ·rw [if_pos hc, if_pos hc]; cases V.setAt p x v <;> rfl
   ·rw [if_neg hc, if_neg hc]
  | _ => simp [Blk.wr]
theorem tE {v : V} : V.at [] v = some v := nd rfl
theorem yW {i : Nat} {p : List Nat} {t : Nat} {l : List V} : V.at (i :: p) (.agg t l) = aa l[i]? (V.at p) := by
 simp only [V.at]; cases l[i]? <;> rfl
theorem D1 {x v : V} : V.setAt [] x v = some x := nd rfl
theorem BS {i : Nat} {p : List Nat} {t : Nat} {l : List V} {x : V} : V.setAt (i :: p) x (.agg t l) = aa l[i]? fun y => aa (V.setAt p x y) fun y' => some (.agg t (l.set i y')) := by
 simp only [V.setAt];cases l[i]? with
 | none => rfl
 | some y => simp only [aS]; cases V.setAt p x y <;> rfl
theorem zz {α : Type} {l m : List α} {i : Nat} : (l ++ m)[l.length + i]? = m[i]? := by rw [List.getElem?_append_right (Nat.le_add_right _ _), Nat.add_sub_cancel_left]
theorem FK {α : Type} {l m : List α} : (l ++ m)[l.length]? = m[0]? := zz (i := 0)
theorem zs {α : Type} {l m : List α} {i : Nat} {x : α} : (l ++ m).set (l.length + i) x = l ++ m.set i x := by rw [List.set_append_right _ _ (Nat.le_add_right _ _), Nat.add_sub_cancel_left]
theorem pe {α : Type} {l m : List α} {x : α} : (l ++ m).set l.length x = l ++ m.set 0 x := zs (i := 0)
theorem Hj {α : Type} {l m : List α} {i : Nat} : (l ++ m).take (l.length + i) = l ++ m.take i := by rw [List.take_append, List.take_of_length_le (Nat.le_add_right _ _), Nat.add_sub_cancel_left]
theorem CM {α : Type} {l m : List α} : (l ++ m).take l.length = l := by rw [List.take_append]; simp
theorem HX {α : Type} {l m : List α} : (l ++ m).drop l.length = m := List.drop_left
theorem Bq {b : Nat} : V.locLts b [] = true := by simp only [V.locLts]
theorem yQ {b : Nat} {v : V} {l : List V} : V.locLts b (v :: l) = (v.locLt b && V.locLts b l) := by simp only [V.locLts]
section
variable {b : Nat}
theorem Ss {x : Bool} : V.locLt b (.bool x) = true := by simp only [V.locLt]
theorem Tx {k : IntKind} {x : Int} : V.locLt b (.int k x) = true := by simp only [V.locLt]
theorem US {x : ByteArray} : V.locLt b (.str x) = true := by simp only [V.locLt]
theorem RF : V.locLt b .nilp = true := by simp only [V.locLt]
theorem SL : V.locLt b .nils = true := by simp only [V.locLt]
theorem Te : V.locLt b .nilf = true := by simp only [V.locLt]
theorem Tv : V.locLt b .dead = true := by simp only [V.locLt]
theorem Vj {i : Nat} {p : List Nat} {t : Nat} : V.locLt b (.ptr (.hp i) p t) = true := by simp only [V.locLt]
theorem Rx {i : Nat} {p : List Nat} {o l e : Nat} {c : Option Nat} : V.locLt b (.sl (.hp i) p o l c e) = true := by simp only [V.locLt]
theorem UW {i : Nat} {p : List Nat} {t : Nat} : V.locLt b (.ptr (.loc i) p t) = decide (i < b) := by simp only [V.locLt]
theorem FY {i : Nat} {p : List Nat} {o l e : Nat} {c : Option Nat} : V.locLt b (.sl (.loc i) p o l c e) = decide (i < b) := by simp only [V.locLt]
theorem Vk {f : Nat} {l : List V} : V.locLt b (.fn f l) = V.locLts b l := by simp only [V.locLt]
theorem Uc {l : List V} : V.locLt b (.tup l) = V.locLts b l := by simp only [V.locLt]
theorem tJ {t : Nat} {l : List V} : V.locLt b (.agg t l) = (t % 2 == 0 || V.locLts b l) := by simp only [V.locLt]
end
theorem Hs {b : Nat} {v : V} : bG b (.rw v) = v.locLt b := nd rfl
theorem F8 {b : Nat} {v : V} : bG b (.ro v) = v.locLt b := nd rfl
theorem Az {b : Nat} : bG b .dead = true := nd rfl
theorem yT {n : Nat} {res : List RV} : j0 n res (.ret, ρ, s) = aa (cg ρ s res) fun v => if v.locLt n ∧ n ≤ s.loc.length then some (v, { s with loc := s.loc.take n }) else none := by
 rw [EW]; cases cg ρ s res <;> rfl
theorem uC {n : Nat} {res : List RV} : j0 n res (.normal, ρ, s) = aa (cg ρ s res) fun v => if v.locLt n ∧ n ≤ s.loc.length then some (v, { s with loc := s.loc.take n }) else none := by
 rw [xQ]; cases cg ρ s res <;> rfl
theorem Wl {n : Nat} : RV.ev ρ s (.t n) = some (get ρ n) := nd rfl
theorem RY {n q : Nat} : RV.ev ρ s (.cell n q) = ldv s q (get ρ n) := by
 simp only [RV.ev];cases get ρ n <;> rfl
theorem BB : cg ρ s [] = some (.tup []) := nd rfl
theorem Ep {r : RV} : cg ρ s [r] = RV.ev ρ s r := by
 simp only [cg, List.mapM_cons, List.mapM_nil];cases RV.ev ρ s r <;> rfl
theorem EM {r q : RV} : cg ρ s [r, q] = aa (RV.ev ρ s r) fun a => aa (RV.ev ρ s q) fun b => if a.ok && b.ok then some (.tup [a, b]) else none := by
 simp only [cg, List.mapM_cons, List.mapM_nil];cases RV.ev ρ s r with
 | none => rfl
 | some a =>
  cases RV.ev ρ s q with
  | none => rfl
  | some b => simp [List.all, aS]
theorem yk {r q p : RV} : cg ρ s [r, q, p] = aa (RV.ev ρ s r) fun a => aa (RV.ev ρ s q) fun b => aa (RV.ev ρ s p) fun c => if a.ok && b.ok && c.ok then some (.tup [a, b, c]) else none := by
 simp only [cg, List.mapM_cons, List.mapM_nil];cases RV.ev ρ s r with
 | none => rfl
 | some a =>
  cases RV.ev ρ s q with
  | none => rfl
  | some b =>
   cases RV.ev ρ s p with
   | none => rfl
   | some c => simp [List.all, Bool.and_assoc, aS]
section
variable {c : Prop} [Decidable c]
theorem Br {ρ' : Env} {s' : St} : (if c then some (Ex.normal, ρ, s) else some (Ex.normal, ρ', s')) = some (Ex.normal, if c then ρ else ρ', if c then s else s') := by split <;> rfl
theorem Gy {id : Nat} {ρ' : Env} {s' : St} : (if c then some (Ex.exit id, ρ, s) else some (Ex.exit id, ρ', s')) = some (Ex.exit id, if c then ρ else ρ', if c then s else s') := by split <;> rfl
theorem R8 {ρ' : Env} {s' : St} : (if c then some (Ex.ret, ρ, s) else some (Ex.ret, ρ', s')) = some (Ex.ret, if c then ρ else ρ', if c then s else s') := by split <;> rfl
theorem R0 {k : Nat} {v v' : V} {ρ' : Env} : (if c then (k, v) :: ρ else (k, v') :: ρ') = (k, if c then v else v') :: (if c then ρ else ρ') := by split <;> rfl
theorem TX {v v' : V} {s' : St} : (if c then some (v, s) else some (v', s')) = some (if c then v else v', if c then s else s') := by split <;> rfl
theorem EK {a b : Bool} : (if c then V.bool a else V.bool b) = V.bool (if c then a else b) := by split <;> rfl
theorem FN {k : IntKind} {a b : Int} : (if c then V.int k a else V.int k b) = V.int k (if c then a else b) := by split <;> rfl
theorem Ga {t : Nat} {l l' : List V} : (if c then V.agg t l else V.agg t l') = V.agg t (if c then l else l') := by split <;> rfl
theorem Gv {l l' : List V} : (if c then V.tup l else V.tup l') = V.tup (if c then l else l') := by split <;> rfl
theorem E0 {v v' : V} {l l' : List V} : (if c then v :: l else v' :: l') = (if c then v else v') :: (if c then l else l') := by split <;> rfl
theorem Dr {v v' : Blk} {l l' : List Blk} : (if c then v :: l else v' :: l') = (if c then v else v') :: (if c then l else l') := by split <;> rfl
theorem Tr {v v' : V} : (if c then Blk.rw v else Blk.rw v') = Blk.rw (if c then v else v') := by split <;> rfl
theorem TK {l l' h h' : List Blk} : (if c then St.mk l h else St.mk l' h') = St.mk (if c then l else l') (if c then h else h') := by split <;> rfl
theorem Rs {l m m' : List Blk} : (if c then l ++ m else l ++ m') = l ++ (if c then m else m') := by split <;> rfl
theorem Co {b : C} {y : Option (Ex × Env × St)} : aa (if c then some (.ret, ρ, s) else y) (andThen D base b) = if c then some (.ret, ρ, s) else aa y (andThen D base b) := by split <;> rfl
theorem Bj {b : C} {y : Option (Ex × Env × St)} : aa (if c then y else some (.ret, ρ, s)) (andThen D base b) = if c then aa y (andThen D base b) else some (.ret, ρ, s) := by split <;> rfl
theorem Aj {b : C} {y : Option (Ex × Env × St)} {id : Nat} : aa (if c then some (.exit id, ρ, s) else y) (andThen D base b) = if c then some (.exit id, ρ, s) else aa y (andThen D base b) := by split <;> rfl
theorem yU {b : C} {y : Option (Ex × Env × St)} {id : Nat} : aa (if c then y else some (.exit id, ρ, s)) (andThen D base b) = if c then aa y (andThen D base b) else some (.exit id, ρ, s) := by split <;> rfl
theorem yE {n : Nat} {res : List RV} {x y : Option (Ex × Env × St)} : aa (if c then x else y) (j0 n res) = if c then aa x (j0 n res) else aa y (j0 n res) := pR
theorem yD {id : Nat} {x y : Option (Ex × Env × St)} : aa (if c then x else y) (md id) = if c then aa x (md id) else aa y (md id) := pR
theorem yL {n : Nat} {keep : List Nat} {b : C} {x y : Option (Ex × Env × St)} : aa (if c then x else y) (ic D base n keep b) = if c then aa x (ic D base n keep b) else aa y (ic D base n keep b) := pR
end
theorem U3 : St.mk s.loc s.hp = s := nd rfl
theorem An : s.elems .nils = some [] := nd rfl
def yZ (off len : Nat) : Option V → Option (List V)
 | some (.agg _ l) => if off + len ≤ l.length then some ((l.drop off).take len) else none
 | _ => none
theorem yr {off len t : Nat} {l : List V} : yZ off len (some (.agg t l)) = if off + len ≤ l.length then some ((l.drop off).take len) else none := nd rfl
theorem GR {a : Loc} {path : List Nat} {off len : Nat} {cap : Option Nat} {e : Nat} : s.elems (.sl a path off len cap e) = if len = 0 then some [] else yZ off len (s.read a path) := by
 simp only [St.elems];cases s.read a path with
 | none => rfl
 | some v => cases v <;> rfl
section
variable {a : Loc} {p : List Nat} {off len e e' t t' n f u : Nat} {cap : Option Nat} {k k' : IntKind} {j m : Int} {b : Bool} {sb sc : ByteArray} {l : List V} {lo hi mx : Option V} {o : BinOp}
theorem EF : V.slen false .nils = some 0 := nd rfl
theorem SB : V.slen false (.sl a p off len cap e) = some len := nd rfl
theorem He : V.slen true (.str sb) = some sb.size := nd rfl
theorem Sj : ef e (.sl a p off len cap e') (.int k j) = if e' = e ∧ 0 ≤ j ∧ j < len then some (.ptr a (p ++ [off + j.toNat]) e) else none := nd rfl
theorem FL : aX t n e (.ptr a p t') (.int k j) = if t' = t ∧ 0 ≤ j ∧ j < n then some (.ptr a (p ++ [j.toNat]) e) else none := nd rfl
theorem Hg : ae t f u (.ptr a p t') = if t' = t then some (.ptr a (p ++ [f]) u) else none := nd rfl
theorem HK : AT t f (.agg t' l) = if t' = t then l[f]? else none := nd rfl
theorem Gp : ib t n (.agg t' l) (.int k j) = if t' = t ∧ 0 ≤ j ∧ j < n then l[j.toNat]? else none := nd rfl
theorem EE : vT (.str sb) (.int k j) = if 0 ≤ j then (sb[j.toNat]?).map fun c => .int .u8 c.toNat else none := nd rfl
theorem Ta : hJ e lo hi mx (.sl a p off len cap e') = if e' = e then
 aa (ak (cap.getD len) mx (cap.getD len)) fun m => aa (ak (iZ mx.isSome m len) hi len) fun h => aa (ak h lo 0) fun l =>
  some (.sl a p (off + l) (h - l) (ms mx.isSome cap (m - l)) e) else none := nd rfl
theorem BZ : hJ e lo hi mx .nils = aa (ak 0 mx 0) fun _ => aa (ak 0 hi 0) fun _ => aa (ak 0 lo 0) fun _ => some .nils := nd rfl
theorem Ba : sN lo hi (.str sb) = aa (ak sb.size hi sb.size) fun h => aa (ak h lo 0) fun l => some (.str (sb.extract l h)) := nd rfl
theorem SJ {n e e' off len : Nat} {a : Loc} {path : List Nat} {c : Option Nat} : so n e (.sl a path off len c e') = if e' = e ∧ 0 < n ∧ n ≤ len then some (.ptr a (path ++ [off]) e) else none := nd rfl
theorem GT {n u e e' : Nat} {a : Loc} {q : List Nat} : rO s t n e u (.ptr a q e') = if e' = e then (s.part n u a q).map (.agg t) else none := nd rfl
theorem AJ : j8 s t n e lo hi mx (.ptr a p t') = if t' = t ∧ (s.read a p).isSome = true then aa (ak n mx n) fun m => aa (ak m hi n) fun h => aa (ak h lo 0) fun l => some (.sl a p l (h - l) (some (m - l)) e) else none := nd rfl
theorem Hf : ab o (.int k j) (.int k' m) = if BinOp.isShift o then shf o k j m else if k = k' then tS o k j m else none := nd rfl
theorem Gx : ab o (.str sb) (.str sc) = ux o sb sc := nd rfl
theorem RG : vun .not (.bool b) = some (.bool !b) := nd rfl
theorem RH : vun .neg (.int k j) = some (.int k (k.wrap (0 - j))) := nd rfl
theorem Tq : vun .xor (.int k j) = some (.int k (kh k (if k.signed then -1 else k.max) j)) := nd rfl
theorem Hn : iT b (.int k j) (.int k' m) = if k = k' then some (.int k (if b then max j m else min j m)) else none := nd rfl
theorem Dd {h : Bool} {r : Nat} {z : V} : tu h r e z s (.int k j) (.int k' m) = if 0 ≤ j ∧ j ≤ m ∧ m ≤ eX then
 some (.sl (s.fresh h) [] 0 j.toNat (some m.toNat) e, s.new h (.agg r (List.replicate j.toNat z))) else none := nd rfl
theorem Gr : V.tag (.bool b) = 0 := nd rfl
theorem SQ : V.tag (.int k j) = gQ k := nd rfl
theorem Ti : V.tag (.str sb) = 2 := nd rfl
theorem RN : V.tag (.agg t l) = t := nd rfl
theorem Sb : V.tag (.ptr a p t) = 1 := nd rfl
theorem Hi : V.tag .nilp = 1 := nd rfl
theorem U9 : V.tag (.sl a p off len cap e) = 1 := nd rfl
theorem FX : V.tag .nils = 1 := nd rfl
theorem TV : V.tag (.fn f l) = 1 := nd rfl
theorem HO : V.tag .nilf = 1 := nd rfl
theorem Tk : V.ok (.bool b) = true := nd rfl
theorem TZ : V.ok (.int k j) = true := nd rfl
theorem T7 : V.ok (.str sb) = true := nd rfl
theorem TP : V.ok (.agg t l) = true := nd rfl
theorem UE : V.ok (.ptr a p t) = true := nd rfl
theorem S8 : V.ok .nilp = true := nd rfl
theorem Vu : V.ok (.sl a p off len cap e) = true := nd rfl
theorem RK : V.ok .nils = true := nd rfl
theorem Vv : V.ok (.fn f l) = true := nd rfl
theorem R5 : V.ok .nilf = true := nd rfl
end
theorem RA : cG 1 .nilp .nilp = some true := nd rfl
theorem Sv {a : Loc} {p : List Nat} {t : Nat} : cG 1 .nilp (.ptr a p t) = some false := nd rfl
theorem Sx {a : Loc} {p : List Nat} {t : Nat} : cG 1 (.ptr a p t) .nilp = some false := nd rfl
theorem HU : cG 3 .nils .nils = some true := nd rfl
theorem Hp {a : Loc} {p : List Nat} {o l e : Nat} {c : Option Nat} : cG 3 .nils (.sl a p o l c e) = some false := nd rfl
theorem GY {a : Loc} {p : List Nat} {o l e : Nat} {c : Option Nat} : cG 3 (.sl a p o l c e) .nils = some false := nd rfl
theorem GV : cG 5 .nilf .nilf = some true := nd rfl
theorem Ht {f : Nat} {l : List V} : cG 5 .nilf (.fn f l) = some false := nd rfl
theorem Ge {f : Nat} {l : List V} : cG 5 (.fn f l) .nilf = some false := nd rfl
theorem HQ {t : Nat} {x y : V} (h1 : t ≠ 1) (h3 : t ≠ 3) (h5 : t ≠ 5) : cG t x y = if x.tag = t ∧ y.tag = t then veq x y else none := by
 unfold cG;split
 ·exact absurd rfl h1
 ·exact absurd rfl h3
 ·exact absurd rfl h5
 ·rfl
theorem Gw {a b : Bool} : veq (.bool a) (.bool b) = some (a == b) := by simp only [veq]
theorem So {k k' : IntKind} {a b : Int} : veq (.int k a) (.int k' b) = if k = k' then some (decide (a = b)) else none := by simp only [veq]
theorem S9 {a b : ByteArray} : veq (.str a) (.str b) = some (a.toList == b.toList) := by simp only [veq]
theorem Sm {t t' : Nat} {l l' : List V} : veq (.agg t l) (.agg t' l') = if t = t' then co l l' else none := by simp only [veq]
theorem Gd : co [] [] = some true := by simp only [co]
theorem DS {v v' : V} {l l' : List V} : co (v :: l) (v' :: l') = aa (veq v v') fun b => if b = true then co l l' else some false := by
 simp only [co];cases veq v v' with
 | none => rfl
 | some b => cases b <;> rfl
attribute [go_sem] RL GN UQ Tb HP tY yK xW BX BE vo BK yM G8 wW Ct Bb
 yj BL FM GG Hh xh vp yS yC We Wh HD FF
 My z6 w9 Fy Ay BU zZ Cm Ph QN zX vi uS DK tn wM E1 B8 EC Db DV yY Dk zk Fv CU Fl Es CO wD zh we CQ xK Fx wV Dx zj FA Ck SJ GT vU Ia BH Do xp Gk uh D6 Gm D5 HY FZ GO B5 Ah yo Bk and_true oN sA Hl E2 ne_eq Loc.loc.injEq Loc.hp.injEq
 Hn eqv vW Dd nc Ba Sq Rv Hq Sl E8 Ta BZ AJ Hg FL Sj HK Gp EE HE HC C4 iO bc GC DB R3 GZ Su HG D4 GM RM Nat.le_refl Nat.le_add_right List.drop_length Aq C0 EF SB He
 Gr SQ Ti RN Sb Hi U9 FX TV HO Tk TZ T7 TP UE S8 Vu RK Vv R5
 zv SV Pp VM HL sm BI P9 wA kx V8 BY FS tE yW D1 BS
 zz FK zs pe Hj CM HX
 Bq yQ Ss Tx US RF SL Te Tv Vj Rx UW FY Vk Uc tJ Hs F8 Az
 Wl RY BB Ep EM yk yT uC An yr GR
 U3 Br Gy R8 R0 TX EK FN Ga Gv E0 Dr Tr TK Rs Co Bj Aj yU yE yD yL ite_self Bool.if_true_left Bool.if_true_right Bool.if_false_left Bool.if_false_right
 iZ ms Option.isSome_none Option.isSome_some
 gQ Hf Gx tS shf ux BinOp.isShift RG RH Tq RA Sv Sx HU Hp GY GV Ht Ge HQ Gw So S9 Sm Gd DS aj fC
 aS Af Bf Option.bind_some Option.bind_none Option.map_some Option.map_none Option.getD_some Option.getD_none
 List.map_cons List.map_nil List.cons_append List.nil_append List.append_assoc List.append_nil List.length_append List.length_cons List.length_nil List.getElem?_cons_zero List.getElem?_cons_succ List.getElem?_nil List.set_cons_zero List.set_cons_succ List.take_succ_cons List.take_zero List.take_length List.drop_zero List.drop_succ_cons
 List.all_cons List.all_nil Nat.zero_add Nat.add_zero if_true if_false ite_true ite_false Bool.true_and Bool.and_true Bool.false_or Bool.or_false Bool.true_or Bool.or_true Bool.false_and Bool.and_false Bool.not_true Bool.not_false
 eq_self true_and and_true false_and and_false true_or or_true false_or or_false Bool.false_eq_true not_true_eq_false not_false_eq_true decide_true decide_false decide_eq_true_eq decide_eq_false_iff_not Bool.not_eq_true Bool.not_eq_false Nat.reduceEqDiff Nat.reduceAdd Nat.reduceMod reduceIte Nat.le_refl Nat.le_add_right and_self or_self beq_self_eq_true reduceCtorEq
 Int.cast_ofNat_Int Int.reduceEq Int.reduceLT Int.reduceLE Int.reduceNeg Int.reduceToNat Int.reduceAdd Int.reduceSub Int.reduceMul Nat.reduceSub Nat.reduceMul Nat.reduceLT Nat.reduceLeDiff
instance (n : Nat) : OfNat Opd n := ⟨.t n⟩
def zi (n : Int) : Opd := .k (.int .i64 n)
def zf (n : Nat) : Opd := .k (.fn n [])
def zq (d : Nat) (o : Op') : Op := ⟨some d, none, o⟩
def zw (o : Op') : Op := ⟨none, none, o⟩
def zg (d t : Nat) (b : Bool) (o : Op') : Op := ⟨some d, some (t, b), o⟩
def zm (d : Nat) (x : Opd) : Op := ⟨some d, none, .mv x⟩
def zF (d t f u : Nat) (x : Opd) : Op := ⟨some d, none, .fad t f u x⟩
def zL (d t : Nat) (x : Opd) : Op := ⟨some d, none, .ld t x⟩
def zN (d : Nat) (x : Opd) : Op := ⟨some d, none, .nilc x⟩
def zB (d : Nat) (o : BinOp) (x y : Opd) : Op := ⟨some d, none, .bin o x y⟩
def zE (d : Nat) (x : Opd) (i : Nat) : Op := ⟨some d, none, .ext x i⟩
def zC (d : Nat) (f : Opd) (l : List Opd) : Op := ⟨some d, none, .call f l⟩
def zP (d : Nat) (x y z : Opd) : Op := ⟨some d, none, .pick x y z⟩
def zS (t : Nat) (x y : Opd) : Op := ⟨none, none, .st t x y⟩
def zR (ks : List Nat) (l : List Op) : C := .reg (some ks) l
def zD (ks : List Nat) (l : List Op) : C := .regd (some ks) l
abbrev OR := Option (Ex × Env × St)
theorem zr {base : Nat} {ρ : Env} {s : St} {ks : List Nat} {l : List Op} {x : OR} (h : rgO D base ks l ρ s = x := by kernel_rfl) : rc D base (.reg (some ks) l) ρ s = x := GJ.trans h
theorem zd {base : Nat} {ρ : Env} {s : St} {ks : List Nat} {l : List Op} {x : OR} (h : rgO D base ks l ρ s = x := by kernel_rfl) : rc D base (.regd (some ks) l) ρ s = x := D7.trans h
end Go.Ab
