/-
  YtmimfopnhmmlbaaGreatDoorAbG: an abstract semantics of the program's code, and that what it tells holds of the program (part G).
-/
import Derived.Test.YtmimfopnhmmlbaaGreatDoorAbA
import Derived.Attr
import Derived.KernelRfl
set_option maxRecDepth 100000
namespace Go.Ab
variable {D : Nat → Option Fc}
theorem oc {f g : bl → St → Option Res} (h : ∀ t s r, f t s = some r → g t s = some r) {base : Nat} {ρ : Env} {s : St} {o : Op'} {q : V × St} (hq : ak f base ρ s o = some q) : ak g base ρ s o = some q := by
 cases o with
 | call fo args =>
  simp only [ak] at hq ⊢;cases hx : fo.ev ρ with
  | fn k caps =>
   simp only [hx] at hq;cases hf : f (.f k (args.map (Opd.ev ρ) ++ caps)) s with
   | none => rw [hf] at hq; cases hq
   | some x => rw [hf] at hq; simp only [h _ _ _ hf]; exact hq
  | _ => rw [hx] at hq; cases hq
 | pcall fo args =>
  simp only [ak] at hq ⊢;cases hx : fo.ev ρ with
  | fn k caps =>
   simp only [hx] at hq;by_cases hp : pOk base (bd base (args.map (Opd.ev ρ) ++ caps)) (args.map (Opd.ev ρ) ++ caps) s = true
   ·rw [if_pos hp] at hq;simp only [if_pos hp];cases hf : f (.f k (args.map (Opd.ev ρ) ++ caps)) (s.cut (bd base (args.map (Opd.ev ρ) ++ caps))) with
    | none => rw [hf] at hq; cases hq
    | some x => rw [hf] at hq; simp only [h _ _ _ hf]; exact hq
   ·rw [if_neg hp] at hq; cases hq
  | _ => rw [hx] at hq; cases hq
 | callw fo args w =>
  simp only [ak] at hq ⊢;split at hq
  ·rename_i hw;rw [if_pos hw];cases hx : fo.ev ρ with
   | fn k caps =>
    simp only [hx] at hq;cases hf : f (.f k (args.map (Opd.ev ρ) ++ caps)) s with
    | none => rw [hf] at hq; cases hq
    | some x => rw [hf] at hq; simp only [h _ _ _ hf]; exact hq
   | _ => rw [hx] at hq; cases hq
  ·cases hq
 | callk p fo args =>
  simp only [ak] at hq ⊢;cases hx : fo.ev ρ with
  | fn k caps =>
   simp only [hx] at hq;by_cases hp : pOk base (bd base (args.map (Opd.ev ρ) ++ caps)) (args.map (Opd.ev ρ) ++ caps) s = true
   ·rw [if_pos hp] at hq;simp only [if_pos hp];cases hf : f (.f k (args.map (Opd.ev ρ) ++ caps)) (s.cut (bd base (args.map (Opd.ev ρ) ++ caps))) with
    | none => rw [hf] at hq; cases hq
    | some x => rw [hf] at hq; simp only [h _ _ _ hf]; exact hq
   ·rw [if_neg hp] at hq; cases hq
  | _ => rw [hx] at hq; cases hq
 | _ => exact hq
theorem xI {f g : bl → St → Option Res} (h : ∀ t s r, f t s = some r → g t s = some r) {t : bl} {s : St} {r : Res} (hr : step D f t s = some r) : step D g t s = some r := by
 cases t with
 | c base c ρ =>
  cases c with
  | skip => exact hr
  | label _ => exact hr
  | ret => exact hr
  | exit _ => exact hr
  | reg keep ops =>
   simp only [step] at hr ⊢;cases hf : f (.o base ops ρ) s with
   | none => rw [hf] at hr; cases hr
   | some x => rw [hf] at hr; rw [h _ _ _ hf]; exact hr
  | regd keep ops =>
   simp only [step] at hr ⊢;cases hf : f (.o base ops ρ) s with
   | none => rw [hf] at hr; cases hr
   | some x => rw [hf] at hr; rw [h _ _ _ hf]; exact hr
  | seq a b =>
   simp only [step] at hr ⊢;cases hf : f (.c base a ρ) s with
   | none => rw [hf] at hr; cases hr
   | some x =>
    rw [hf] at hr; rw [h _ _ _ hf];cases x with
    | c e ρ' s' => cases e <;> first | exact h _ _ _ hr | exact hr
    | o _ _ => cases hr
    | v _ _ => cases hr
  | cond x a b =>
   simp only [step] at hr ⊢;cases hx : x.ev ρ with
   | bool t =>
    rw [hx] at hr;cases t
    ·exact h _ _ _ hr
    ·exact h _ _ _ hr
   | _ => rw [hx] at hr; cases hr
  | block id b =>
   simp only [step] at hr ⊢;cases hf : f (.c base b ρ) s with
   | none => rw [hf] at hr; cases hr
   | some x => rw [hf] at hr; rw [h _ _ _ hf]; exact hr
  | scope b =>
   simp only [step] at hr ⊢;cases hf : f (.c base b ρ) s with
   | none => rw [hf] at hr; cases hr
   | some x => rw [hf] at hr; rw [h _ _ _ hf]; exact hr
  | loop keep b =>
   simp only [step] at hr ⊢;cases hf : f (.c base b (restrict keep ρ)) s with
   | none => rw [hf] at hr; cases hr
   | some x =>
    rw [hf] at hr; rw [h _ _ _ hf];cases x with
    | c e ρ' s' =>
     cases e with
     | normal =>
      simp only at hr ⊢;split at hr
      ·rename_i hc; rw [if_pos hc]; exact h _ _ _ hr
      ·cases hr
     | exit _ => exact hr
     | ret => exact hr
    | o _ _ => cases hr
    | v _ _ => cases hr
 | o base l ρ =>
  cases l with
  | nil => exact hr
  | cons op rest =>
   simp only [step] at hr ⊢;cases hg : aH op.guard ρ with
   | none => rw [hg] at hr; cases hr
   | some gb =>
    rw [hg] at hr;cases gb with
    | false => exact h _ _ _ hr
    | true =>
     cases hq : ak f base ρ s op.op with
     | none => simp only [hq] at hr; cases hr
     | some q =>
      simp only [hq] at hr;simp only [oc h hq];exact h _ _ _ hr
 | f fn args =>
  simp only [step] at hr ⊢;cases hfc : D fn with
  | none => rw [hfc] at hr; cases hr
  | some fc =>
   rw [hfc] at hr;simp only at hr ⊢;by_cases hlen : args.length = fc.n
   ·rw [if_pos hlen] at hr ⊢;cases hf : f (.c s.loc.length fc.body (dL 0 args)) s with
    | none => rw [hf] at hr; cases hr
    | some x => rw [hf] at hr; rw [h _ _ _ hf]; exact hr
   ·rw [if_neg hlen] at hr; cases hr
theorem i4 : ∀ (n : Nat) {t : bl} {s : St} {r : Res}, ev D n t s = some r → ev D (n + 1) t s = some r
 | 0, _, _, _, h => by cases h
 | n + 1, _, _, _, h => xI (fun _ _ _ h => i4 n h) h
theorem oe {n m : Nat} (hnm : n ≤ m) {t : bl} {s : St} {r : Res} (h : ev D n t s = some r) : ev D m t s = some r := by
 induction hnm with
 | refl => exact h
 | step _ ih => exact i4 _ ih
open Classical in
noncomputable def run (D : Nat → Option Fc) (t : bl) (s : St) : Option Res :=
 if h : ∃ n r, ev D n t s = some r then some h.choose_spec.choose else none
theorem bH {t : bl} {s : St} {r : Res} : run D t s = some r ↔ ∃ n, ev D n t s = some r := by
 unfold run;constructor
 ·intro h;split at h
  ·rename_i hx;cases h;exact ⟨_, hx.choose_spec.choose_spec⟩
  ·cases h
 ·rintro ⟨n, hn⟩;have hx : ∃ n r, ev D n t s = some r := ⟨n, r, hn⟩;rw [dif_pos hx];have h1 := hx.choose_spec.choose_spec;have h2 := oe (Nat.le_max_left hx.choose n) h1;have h3 := oe (Nat.le_max_right hx.choose n) hn;rw [h2] at h3;exact h3
theorem rS {n : Nat} {t : bl} {s : St} {r : Res} (h : ev D n t s = some r) : run D t s = some r := bH.2 ⟨n, h⟩
theorem HR {base : Nat} {ρ : Env} {s : St} {o : Op'} {q : V × St} (hq : ak (run D) base ρ s o = some q) : ∃ n, ak (ev D n) base ρ s o = some q := by
 cases o with
 | call fo args =>
  simp only [ak] at hq ⊢;cases hx : fo.ev ρ with
  | fn k caps =>
   simp only [hx] at hq;cases hf : run D (.f k (args.map (Opd.ev ρ) ++ caps)) s with
   | none => rw [hf] at hq; cases hq
   | some x => rw [hf] at hq; obtain ⟨n, hn⟩ := bH.1 hf; exact ⟨n, by simp only [hn]; exact hq⟩
  | _ => rw [hx] at hq; cases hq
 | pcall fo args =>
  simp only [ak] at hq ⊢;cases hx : fo.ev ρ with
  | fn k caps =>
   simp only [hx] at hq;by_cases hp : pOk base (bd base (args.map (Opd.ev ρ) ++ caps)) (args.map (Opd.ev ρ) ++ caps) s = true
   ·rw [if_pos hp] at hq;simp only [if_pos hp];cases hf : run D (.f k (args.map (Opd.ev ρ) ++ caps)) (s.cut (bd base (args.map (Opd.ev ρ) ++ caps))) with
    | none => rw [hf] at hq; cases hq
    | some x => rw [hf] at hq; obtain ⟨n, hn⟩ := bH.1 hf; exact ⟨n, by simp only [hn]; exact hq⟩
   ·rw [if_neg hp] at hq; cases hq
  | _ => rw [hx] at hq; cases hq
 | callw fo args w =>
  simp only [ak] at hq ⊢;split at hq
  ·rename_i hw;simp only [if_pos hw];cases hx : fo.ev ρ with
   | fn k caps =>
    simp only [hx] at hq;cases hf : run D (.f k (args.map (Opd.ev ρ) ++ caps)) s with
    | none => rw [hf] at hq; cases hq
    | some x => rw [hf] at hq; obtain ⟨n, hn⟩ := bH.1 hf; exact ⟨n, by simp only [hn]; exact hq⟩
   | _ => rw [hx] at hq; cases hq
  ·cases hq
 | callk p fo args =>
  simp only [ak] at hq ⊢;cases hx : fo.ev ρ with
  | fn k caps =>
   simp only [hx] at hq;by_cases hp : pOk base (bd base (args.map (Opd.ev ρ) ++ caps)) (args.map (Opd.ev ρ) ++ caps) s = true
   ·rw [if_pos hp] at hq;simp only [if_pos hp];cases hf : run D (.f k (args.map (Opd.ev ρ) ++ caps)) (s.cut (bd base (args.map (Opd.ev ρ) ++ caps))) with
    | none => rw [hf] at hq; cases hq
    | some x => rw [hf] at hq; obtain ⟨n, hn⟩ := bH.1 hf; exact ⟨n, by simp only [hn]; exact hq⟩
   ·rw [if_neg hp] at hq; cases hq
  | _ => rw [hx] at hq; cases hq
 | _ => exact ⟨0, hq⟩
theorem Jt {t : bl} {s : St} {r : Res} (hr : step D (run D) t s = some r) : ∃ n, step D (ev D n) t s = some r := by
 cases t with
 | c base c ρ =>
  cases c with
  | skip => exact ⟨0, hr⟩
  | label _ => exact ⟨0, hr⟩
  | ret => exact ⟨0, hr⟩
  | exit _ => exact ⟨0, hr⟩
  | reg keep ops =>
   simp only [step] at hr ⊢;cases hf : run D (.o base ops ρ) s with
   | none => rw [hf] at hr; cases hr
   | some x => rw [hf] at hr; obtain ⟨n, hn⟩ := bH.1 hf; exact ⟨n, by rw [hn]; exact hr⟩
  | regd keep ops =>
   simp only [step] at hr ⊢;cases hf : run D (.o base ops ρ) s with
   | none => rw [hf] at hr; cases hr
   | some x => rw [hf] at hr; obtain ⟨n, hn⟩ := bH.1 hf; exact ⟨n, by rw [hn]; exact hr⟩
  | seq a b =>
   simp only [step] at hr ⊢;cases hf : run D (.c base a ρ) s with
   | none => rw [hf] at hr; cases hr
   | some x =>
    rw [hf] at hr; obtain ⟨n, hn⟩ := bH.1 hf;cases x with
    | c e ρ' s' =>
     cases e with
     | normal =>
      obtain ⟨m, hm⟩ := bH.1 hr;exact ⟨max n m, by rw [oe (Nat.le_max_left n m) hn]; exact oe (Nat.le_max_right n m) hm⟩
     | exit _ => exact ⟨n, by rw [hn]; exact hr⟩
     | ret => exact ⟨n, by rw [hn]; exact hr⟩
    | o _ _ => cases hr
    | v _ _ => cases hr
  | cond x a b =>
   simp only [step] at hr ⊢;cases hx : x.ev ρ with
   | bool t =>
    rw [hx] at hr;cases t
    ·obtain ⟨n, hn⟩ := bH.1 hr;exact ⟨n, hn⟩
    ·obtain ⟨n, hn⟩ := bH.1 hr;exact ⟨n, hn⟩
   | _ => rw [hx] at hr; cases hr
  | block id b =>
   simp only [step] at hr ⊢;cases hf : run D (.c base b ρ) s with
   | none => rw [hf] at hr; cases hr
   | some x => rw [hf] at hr; obtain ⟨n, hn⟩ := bH.1 hf; exact ⟨n, by rw [hn]; exact hr⟩
  | scope b =>
   simp only [step] at hr ⊢;cases hf : run D (.c base b ρ) s with
   | none => rw [hf] at hr; cases hr
   | some x => rw [hf] at hr; obtain ⟨n, hn⟩ := bH.1 hf; exact ⟨n, by rw [hn]; exact hr⟩
  | loop keep b =>
   simp only [step] at hr ⊢;cases hf : run D (.c base b (restrict keep ρ)) s with
   | none => rw [hf] at hr; cases hr
   | some x =>
    rw [hf] at hr; obtain ⟨n, hn⟩ := bH.1 hf;cases x with
    | c e ρ' s' =>
     cases e with
     | normal =>
      simp only at hr;split at hr
      ·rename_i hc;obtain ⟨m, hm⟩ := bH.1 hr;exact ⟨max n m, by rw [oe (Nat.le_max_left n m) hn]; simp only; rw [if_pos hc]; exact oe (Nat.le_max_right n m) hm⟩
      ·cases hr
     | exit _ => exact ⟨n, by rw [hn]; exact hr⟩
     | ret => exact ⟨n, by rw [hn]; exact hr⟩
    | o _ _ => cases hr
    | v _ _ => cases hr
 | o base l ρ =>
  cases l with
  | nil => exact ⟨0, hr⟩
  | cons op rest =>
   simp only [step] at hr ⊢;cases hg : aH op.guard ρ with
   | none => rw [hg] at hr; cases hr
   | some gb =>
    rw [hg] at hr;cases gb with
    | false => exact bH.1 hr
    | true =>
     cases hq : ak (run D) base ρ s op.op with
     | none => simp only [hq] at hr; cases hr
     | some q =>
      simp only [hq] at hr;obtain ⟨n, hn⟩ := HR hq;obtain ⟨m, hm⟩ := bH.1 hr;exact ⟨max n m, by simp only [oc (fun _ _ _ h => oe (Nat.le_max_left n m) h) hn]; exact oe (Nat.le_max_right n m) hm⟩
 | f fn args =>
  simp only [step] at hr ⊢;cases hfc : D fn with
  | none => rw [hfc] at hr; cases hr
  | some fc =>
   rw [hfc] at hr;simp only at hr ⊢;by_cases hlen : args.length = fc.n
   ·simp only [if_pos hlen] at hr ⊢;cases hf : run D (.c s.loc.length fc.body (dL 0 args)) s with
    | none => rw [hf] at hr; cases hr
    | some x => rw [hf] at hr; obtain ⟨n, hn⟩ := bH.1 hf; exact ⟨n, by rw [hn]; exact hr⟩
   ·rw [if_neg hlen] at hr; cases hr
theorem cj (t : bl) (s : St) : run D t s = step D (run D) t s := by
 apply Option.ext;intro r;constructor
 ·intro h;obtain ⟨n, hn⟩ := bH.1 h;cases n with
  | zero => cases hn
  | succ n => exact xI (fun _ _ _ h => rS h) hn
 ·intro h;obtain ⟨n, hn⟩ := Jt h;exact rS (n := n + 1) hn
noncomputable def rc (D : Nat → Option Fc) (base : Nat) (c : C) (ρ : Env) (s : St) : Option (Ex × Env × St) :=
 match run D (.c base c ρ) s with
 | some (.c e ρ' s') => some (e, ρ', s')
 | _ => none
noncomputable def ro (D : Nat → Option Fc) (base : Nat) (l : List Op) (ρ : Env) (s : St) : Option (Env × St) :=
 match run D (.o base l ρ) s with
 | some (.o ρ' s') => some (ρ', s')
 | _ => none
noncomputable def rf (D : Nat → Option Fc) (f : Nat) (args : List V) (s : St) : Option (V × St) :=
 match run D (.f f args) s with
 | some (.v v s') => some (v, s')
 | _ => none
theorem ET {f : Nat} {args : List V} {s : St} {v : V} {s' : St} : rf D f args s = some (v, s') ↔ run D (.f f args) s = some (.v v s') := by
 unfold rf; constructor
 ·intro h; split at h
  ·rename_i hh; cases h; exact hh
  ·cases h
 ·intro h; rw [h]
section
variable {base : Nat} {ρ : Env} {s : St}
theorem Lq : rc D base .skip ρ s = some (.normal, ρ, s) := by simp only [rc, cj, step]
theorem JK {l : Nat} : rc D base (.label l) ρ s = some (.normal, ρ, s) := by simp only [rc, cj, step]
theorem MW : rc D base .ret ρ s = some (.ret, ρ, s) := by simp only [rc, cj, step]
theorem KX {id : Nat} : rc D base (.exit id) ρ s = some (.exit id, ρ, s) := by simp only [rc, cj, step]
theorem NK {keep : Option (List Nat)} {ops : List Op} : rc D base (.reg keep ops) ρ s = (ro D base ops ρ s).bind fun x => some (.normal, iL keep x.1, x.2) := by
 simp only [rc, ro]; rw [cj]; simp only [step];cases run D (.o base ops ρ) s with
 | none => rfl
 | some x => cases x <;> rfl
theorem Kj {keep : Option (List Nat)} {ops : List Op} : rc D base (.regd keep ops) ρ s = (ro D base ops ρ s).bind fun x => some (.normal, iL keep x.1, x.2) := by
 simp only [rc, ro]; rw [cj]; simp only [step];cases run D (.o base ops ρ) s with
 | none => rfl
 | some x => cases x <;> rfl
noncomputable def andThen (D : Nat → Option Fc) (base : Nat) (b : C) (x : Ex × Env × St) : Option (Ex × Env × St) :=
 match x with
 | (.normal, ρ, s) => rc D base b ρ s
 | x => some x
theorem wN {b : C} : andThen D base b (.normal, ρ, s) = rc D base b ρ s := rfl
theorem A9 {b : C} : andThen D base b (.ret, ρ, s) = some (.ret, ρ, s) := rfl
theorem yt {b : C} {id : Nat} : andThen D base b (.exit id, ρ, s) = some (.exit id, ρ, s) := rfl
theorem NP {a b : C} : rc D base (.seq a b) ρ s = (rc D base a ρ s).bind (andThen D base b) := by
 simp only [rc]; rw [cj]; simp only [step];cases run D (.c base a ρ) s with
 | none => rfl
 | some x =>
  cases x with
  | c e ρ' s' => cases e <;> rfl
  | _ => rfl
theorem KE {x : Opd} {a b : C} : rc D base (.cond x a b) ρ s = match x.ev ρ with
 | .bool t => if t then rc D base a ρ s else rc D base b ρ s
 | _ => none := by
 simp only [rc]; rw [cj]; simp only [step];cases x.ev ρ with
 | bool t => cases t <;> rfl
 | _ => rfl
def J1 (id : Nat) (x : Ex × Env × St) : Ex × Env × St :=
 match x with
 | (.exit id', ρ, s) => (if id' = id then .normal else .exit id', ρ, s)
 | x => x
theorem IE {id : Nat} {b : C} : rc D base (.block id b) ρ s = (rc D base b ρ s).bind fun x => some (J1 id x) := by
 simp only [rc]; rw [cj]; simp only [step];cases run D (.c base b ρ) s with
 | none => rfl
 | some x =>
  cases x with
  | c e ρ' s' => cases e <;> rfl
  | _ => rfl
theorem IA {b : C} : rc D base (.scope b) ρ s = rc D base b ρ s := by
 simp only [rc]; rw [cj]; simp only [step];cases run D (.c base b ρ) s with
 | none => rfl
 | some x =>
  cases x with
  | c e ρ' s' => cases e <;> rfl
  | _ => rfl
noncomputable def gP (D : Nat → Option Fc) (base n : Nat) (keep : List Nat) (b : C) (x : Ex × Env × St) : Option (Ex × Env × St) :=
 match x with
 | (.normal, ρ, s) => if eS base n (restrict keep ρ) s then rc D base (.loop keep b) (restrict keep ρ) { s with loc := s.loc.take n } else none
 | x => some x
theorem z8 {n : Nat} {keep : List Nat} {b : C} : gP D base n keep b (.normal, ρ, s) = if eS base n (restrict keep ρ) s then rc D base (.loop keep b) (restrict keep ρ) { s with loc := s.loc.take n } else none := rfl
theorem Fu {n : Nat} {keep : List Nat} {b : C} : gP D base n keep b (.ret, ρ, s) = some (.ret, ρ, s) := rfl
theorem Di {n : Nat} {keep : List Nat} {b : C} {id : Nat} : gP D base n keep b (.exit id, ρ, s) = some (.exit id, ρ, s) := rfl
theorem jK {ks : List Nat} {ρ : Env} {k : Nat} (h : k ∈ ks) : get (restrict ks ρ) k = get ρ k := by
 induction ks with
 | nil => cases h
 | cons j ks ih =>
  simp only [restrict, List.map_cons, get];by_cases hj : j = k
  ·rw [if_pos hj, hj]
  ·rw [if_neg hj];exact ih (by cases h with | head => exact absurd rfl hj | tail _ h => exact h)
theorem td (ks : List Nat) (ρ : Env) : restrict ks (restrict ks ρ) = restrict ks ρ := by
 unfold restrict;apply List.map_congr_left;intro k hk;rw [show get (ks.map fun k => (k, get ρ k)) k = get ρ k from jK hk]
theorem uB {keep : List Nat} {b : C} : rc D base (.loop keep b) ρ s = (rc D base b (restrict keep ρ) s).bind fun x => match x with
 | (.normal, ρ', s') => if eS base s.loc.length (restrict keep ρ') s' then rc D base (.loop keep b) ρ' { s' with loc := s'.loc.take s.loc.length } else none
 | x => some x := by
 simp only [rc]; rw [cj]; simp only [step];cases run D (.c base b (restrict keep ρ)) s with
 | none => rfl
 | some x =>
  cases x with
  | c e ρ' s' =>
   cases e with
   | normal =>
    simp only [Option.bind_some];by_cases hc : eS base s.loc.length (restrict keep ρ') s' = true
    ·rw [if_pos hc, if_pos hc]
    ·rw [if_neg hc, if_neg hc]
   | _ => rfl
  | _ => rfl
theorem uk {keep : List Nat} {b : C} : rc D base (.loop keep b) (restrict keep ρ) s = rc D base (.loop keep b) ρ s := by
 rw [uB, uB (ρ := ρ), td]
theorem KY {keep : List Nat} {b : C} : rc D base (.loop keep b) ρ s = (rc D base b (restrict keep ρ) s).bind (gP D base s.loc.length keep b) := by
 rw [uB];congr 1;funext x;obtain ⟨e, ρ', s'⟩ := x;cases e with
 | normal => simp only [gP, uk]
 | _ => rfl
theorem He : ro D base [] ρ s = some (ρ, s) := by simp only [ro, cj, step]
noncomputable def rop (D : Nat → Option Fc) (base : Nat) (ρ : Env) (s : St) : Op' → Option (V × St)
 | .call f args => match f.ev ρ with
  | .fn g caps => rf D g (args.map (Opd.ev ρ) ++ caps) s
  | _ => none
 | .pcall f args => match f.ev ρ with
  | .fn g caps => if pOk base (bd base (args.map (Opd.ev ρ) ++ caps)) (args.map (Opd.ev ρ) ++ caps) s = true then
   (rf D g (args.map (Opd.ev ρ) ++ caps) (s.cut (bd base (args.map (Opd.ev ρ) ++ caps)))).bind fun x => if x.2 = s.cut (bd base (args.map (Opd.ev ρ) ++ caps)) ∧ x.1.flat = true then some (x.1, s) else none
   else none
  | _ => none
 | .callw f args w => if oJ s (w.ev ρ) = true then
  match f.ev ρ with
  | .fn g caps => rf D g (args.map (Opd.ev ρ) ++ caps) s
  | _ => none
  else none
 | .callk p f args => match f.ev ρ with
  | .fn g caps => if pOk base (bd base (args.map (Opd.ev ρ) ++ caps)) (args.map (Opd.ev ρ) ++ caps) s = true then
   (rf D g (args.map (Opd.ev ρ) ++ caps) (s.cut (bd base (args.map (Opd.ev ρ) ++ caps)))).bind fun x => if At p (s.cut (bd base (args.map (Opd.ev ρ) ++ caps))) x.2 then some (x.1, { x.2 with loc := s.loc }) else none
   else none
  | _ => none
 | o => evOp base ρ s o
theorem IW {o : Op'} : ak (run D) base ρ s o = rop D base ρ s o := by
 cases o with
 | call f args =>
  simp only [ak, rop];cases f.ev ρ with
  | fn g caps =>
   simp only [rf];cases run D (.f g (args.map (Opd.ev ρ) ++ caps)) s with
   | none => rfl
   | some x => cases x <;> rfl
  | _ => rfl
 | pcall f args =>
  simp only [ak, rop];cases f.ev ρ with
  | fn g caps =>
   simp only [rf];split
   ·cases run D (.f g (args.map (Opd.ev ρ) ++ caps)) (s.cut (bd base (args.map (Opd.ev ρ) ++ caps))) with
    | none => rfl
    | some x => cases x <;> rfl
   ·rfl
  | _ => rfl
 | callw f args w =>
  simp only [ak, rop];split
  ·cases f.ev ρ with
   | fn g caps =>
    simp only [rf];cases run D (.f g (args.map (Opd.ev ρ) ++ caps)) s with
    | none => rfl
    | some x => cases x <;> rfl
   | _ => rfl
  ·rfl
 | callk p f args =>
  simp only [ak, rop];cases f.ev ρ with
  | fn g caps =>
   simp only [rf];split
   ·cases run D (.f g (args.map (Opd.ev ρ) ++ caps)) (s.cut (bd base (args.map (Opd.ev ρ) ++ caps))) with
    | none => rfl
    | some x => cases x <;> rfl
   ·rfl
  | _ => rfl
 | _ => rfl
theorem sT {op : Op} {rest : List Op} : ro D base (op :: rest) ρ s = match aH op.guard ρ with
 | none => none
 | some false => ro D base rest (put op.dst (.tup []) ρ) s
 | some true => (rop D base ρ s op.op).bind fun x => ro D base rest (put op.dst x.1 ρ) x.2 := by
 unfold ro;rw [cj]; simp only [step, IW];cases aH op.guard ρ with
 | none => rfl
 | some gb =>
  cases gb with
  | false => rfl
  | true =>
   cases rop D base ρ s op.op with
   | none => rfl
   | some x => rfl
def kg (n : Nat) (res : List RV) (x : Ex × Env × St) : Option (V × St) :=
 match x with
 | (.exit _, _, _) => none
 | (_, ρ, s) => match bM ρ s res with
  | some v => if v.locLt n ∧ n ≤ s.loc.length then some (v, { s with loc := s.loc.take n }) else none
  | none => none
theorem FG {n : Nat} {res : List RV} : kg n res (.ret, ρ, s) = match bM ρ s res with
 | some v => if v.locLt n ∧ n ≤ s.loc.length then some (v, { s with loc := s.loc.take n }) else none
 | none => none := rfl
theorem AL {n : Nat} {res : List RV} : kg n res (.normal, ρ, s) = match bM ρ s res with
 | some v => if v.locLt n ∧ n ≤ s.loc.length then some (v, { s with loc := s.loc.take n }) else none
 | none => none := rfl
theorem OU {f : Nat} {fc : Fc} (hf : D f = some fc) {args : List V} (hn : args.length = fc.n) :
 rf D f args s = (rc D s.loc.length fc.body (dL 0 args) s).bind (kg s.loc.length fc.res) := by
 unfold rf rc;rw [cj]; simp only [step, hf, hn, if_true];cases run D (.c s.loc.length fc.body (dL 0 args)) s with
 | none => rfl
 | some x =>
  cases x with
  | c e ρ' s' =>
   cases e with
   | exit _ => rfl
   | normal =>
    simp only [Option.bind_some, kg];cases bM ρ' s' fc.res with
    | none => rfl
    | some v =>
     simp only;by_cases hv : v.locLt s.loc.length = true ∧ s.loc.length ≤ s'.loc.length
     ·simp only [if_pos hv]
     ·simp only [if_neg hv]
   | ret =>
    simp only [Option.bind_some, kg];cases bM ρ' s' fc.res with
    | none => rfl
    | some v =>
     simp only;by_cases hv : v.locLt s.loc.length = true ∧ s.loc.length ≤ s'.loc.length
     ·simp only [if_pos hv]
     ·simp only [if_neg hv]
  | _ => rfl
end
end Go.Ab
namespace Go.Ab
variable {D : Nat → Option Fc} {base : Nat} {ρ : Env} {s : St}
theorem nd {α : Sort _} {a b : α} (h : a = b) : a = b := h
def ac {α β : Type} (x : Option α) (f : α → Option β) : Option β := x.bind f
theorem aL {α β : Type} {a : α} {f : α → Option β} : ac (some a) f = f a := nd rfl
theorem Dp {α β : Type} {f : α → Option β} : ac none f = none := nd rfl
@[congr] theorem Ow {α β : Type} {x y : Option α} {f : α → Option β} (h : x = y) : ac x f = ac y f := by rw [h]
theorem ri {α β : Type} {c : Prop} [Decidable c] {x y : Option α} {f : α → Option β} : ac (if c then x else y) f = if c then ac x f else ac y f := by split <;> rfl
def mM {α : Type} (v : V) (f : Bool → Option α) : Option α := match v with | .bool t => f t | _ => none
theorem Ez {α : Type} {t : Bool} {f : Bool → Option α} : mM (.bool t) f = f t := nd rfl
@[congr] theorem Ox {α : Type} {v w : V} {f : Bool → Option α} (h : v = w) : mM v f = mM w f := by rw [h]
theorem IG {a b : C} : rc D base (.seq a b) ρ s = ac (rc D base a ρ s) (andThen D base b) := NP
def ns (id : Nat) (x : Ex × Env × St) : Option (Ex × Env × St) := some (J1 id x)
theorem xW {id : Nat} : ns id (.normal, ρ, s) = some (.normal, ρ, s) := nd rfl
theorem Ei {id : Nat} : ns id (.ret, ρ, s) = some (.ret, ρ, s) := nd rfl
theorem Bg {id id' : Nat} : ns id (.exit id', ρ, s) = some (if id' = id then .normal else .exit id', ρ, s) := nd rfl
theorem CZ {id : Nat} {b : C} : rc D base (.block id b) ρ s = ac (rc D base b ρ s) (ns id) := IE
theorem ah {keep : List Nat} {b : C} : rc D base (.loop keep b) ρ s = ac (rc D base b (restrict keep ρ) s) (gP D base s.loc.length keep b) := KY
theorem ae {f : Nat} {fc : Fc} (hf : D f = some fc) {args : List V} (hn : args.length = fc.n) :
 rf D f args s = ac (rc D s.loc.length fc.body (dL 0 args) s) (kg s.loc.length fc.res) := OU hf hn
theorem GA {x : Opd} {a b : C} : rc D base (.cond x a b) ρ s = mM (x.ev ρ) fun t => if t then rc D base a ρ s else rc D base b ρ s := by
 rw [KE];cases x.ev ρ <;> rfl
def aV (ρ ρ' : Env) : Prop := ∀ t, get ρ t = get ρ' t
theorem aV.ev {ρ ρ' : Env} (h : aV ρ ρ') : Opd.ev ρ = Opd.ev ρ' := by
 funext x;cases x with
 | t n => exact h n
 | k v => rfl
theorem aV.put {ρ ρ' : Env} (h : aV ρ ρ') (d : Option Nat) (v : V) : aV (put d v ρ) (put d v ρ') := by
 intro t;cases d with
 | none => exact h t
 | some k => simp only [Ab.put, get, h t]
theorem aV.evOp {ρ ρ' : Env} (h : aV ρ ρ') (o : Op') : evOp base ρ s o = evOp base ρ' s o := by
 have he := h.ev;cases o <;> simp only [Ab.evOp, he]
theorem aV.rop {ρ ρ' : Env} (h : aV ρ ρ') (o : Op') : rop D base ρ s o = rop D base ρ' s o := by
 have he := h.ev;cases o with
 | call f args => simp only [Ab.rop, he]
 | pcall f args => simp only [Ab.rop, he]
 | callw f args w => simp only [Ab.rop, he]
 | callk p f args => simp only [Ab.rop, he]
 | _ => simp only [Ab.rop]; exact h.evOp _
theorem aV.guard {ρ ρ' : Env} (h : aV ρ ρ') (g : Option (Nat × Bool)) : aH g ρ = aH g ρ' := by
 cases g with
 | none => rfl
 | some x => simp only [aH, h x.1]
theorem aV.restrict {ρ ρ' : Env} (h : aV ρ ρ') (ks : List Nat) : restrict ks ρ = restrict ks ρ' := by
 simp only [Ab.restrict, h _]
theorem aV.ro {ks : List Nat} : ∀ (l : List Op) {ρ ρ' : Env} {s : St}, aV ρ ρ' → (ro D base l ρ s).bind (fun x => some (Ex.normal, Ab.restrict ks x.1, x.2)) = (ro D base l ρ' s).bind (fun x => some (Ex.normal, Ab.restrict ks x.1, x.2))
 | [], ρ, ρ', s, h => by simp only [He, Option.bind_some, h.restrict]
 | op :: l, ρ, ρ', s, h => by
  rw [sT, sT, h.guard];cases aH op.guard ρ' with
  | none => rfl
  | some b =>
   cases b with
   | false => exact aV.ro l (h.put _ _)
   | true =>
    simp only [h.rop];cases Ab.rop D base ρ' s op.op with
    | none => rfl
    | some x => exact aV.ro l (h.put _ _)
theorem aV.of_get {t : Nat} {v : V} (h : get ρ t = v) : aV ρ ((t, v) :: ρ) := by
 intro k;simp only [get];split
 ·rename_i e; rw [← e, h]
 ·rfl
noncomputable def rg (D : Nat → Option Fc) (base : Nat) (ks : List Nat) (l : List Op) (ρ : Env) (s : St) : Option (Ex × Env × St) :=
 (ro D base l ρ s).bind fun x => some (Ex.normal, restrict ks x.1, x.2)
theorem Nd {ks : List Nat} : rg D base ks [] ρ s = some (Ex.normal, restrict ks ρ, s) := by simp only [rg, He, Option.bind_some]
theorem Pq {ks : List Nat} {d : Option Nat} {o : Op'} {rest : List Op} : rg D base ks (⟨d, none, o⟩ :: rest) ρ s = ac (rop D base ρ s o) fun x => rg D base ks rest (put d x.1 ρ) x.2 := by
 simp only [rg];rw [sT];simp only [aH];cases rop D base ρ s o <;> rfl
def hZ {α : Type} (v : V) (b : Bool) (A B C : Option α) : Option α :=
 match v with
 | .bool x => if x = b then A else B
 | .tup [] => C
 | _ => none
theorem BL {α : Type} {x b : Bool} {A B C : Option α} : hZ (.bool x) b A B C = if x = b then A else B := nd rfl
theorem Eu {α : Type} {b : Bool} {A B C : Option α} : hZ (.tup []) b A B C = C := nd rfl
@[congr] theorem N7 {α : Type} {v w : V} {b : Bool} {A B C : Option α} (h : v = w) : hZ v b A B C = hZ w b A B C := by rw [h]
theorem uQ {α : Type} {v : V} {b : Bool} {A B C A' B' C' : Option α} (hA : v = .bool b → A = A') (hB : v = .bool (!b) → B = B') (hC : v = .tup [] → C = C') : hZ v b A B C = hZ v b A' B' C' := by
 unfold hZ;split
 ·rename_i x;split
  ·rename_i h; exact hA (by rw [h])
  ·rename_i h; exact hB (by cases x <;> cases b <;> simp_all)
 ·exact hC rfl
 ·rfl
theorem Px {ks : List Nat} {d : Option Nat} {t : Nat} {b : Bool} {o : Op'} {rest : List Op} : rg D base ks (⟨d, some (t, b), o⟩ :: rest) ρ s =
 hZ (get ρ t) b (ac (rop D base ρ s o) fun y => rg D base ks rest (put d y.1 ((t, .bool b) :: ρ)) y.2) (rg D base ks rest (put d (.tup []) ((t, .bool !b) :: ρ)) s) (rg D base ks rest (put d (.tup []) ((t, .tup []) :: ρ)) s) := by
 have h0 : rg D base ks (⟨d, some (t, b), o⟩ :: rest) ρ s = hZ (get ρ t) b (ac (rop D base ρ s o) fun y => rg D base ks rest (put d y.1 ρ) y.2) (rg D base ks rest (put d (.tup []) ρ) s) (rg D base ks rest (put d (.tup []) ρ) s) := by
  simp only [rg];rw [sT];simp only [aH];cases hv : get ρ t with
  | bool x =>
   simp only [hZ];by_cases hxb : x = b
   ·subst hxb;simp only [beq_self_eq_true, if_true];cases rop D base ρ s o <;> rfl
   ·have hxb' : (x == b) = false := by simp [hxb]
    simp only [hxb', if_neg hxb]
  | tup l => cases l <;> rfl
  | _ => rfl
 rw [h0];refine uQ (fun hv => ?_) (fun hv => ?_) (fun hv => aV.ro rest ((aV.of_get hv).put _ _))
 ·cases rop D base ρ s o with
  | none => rfl
  | some y => exact aV.ro rest ((aV.of_get hv).put _ _)
 ·exact aV.ro rest ((aV.of_get hv).put _ _)
theorem II {t : Nat} {v : V} : put (some t) v ρ = (t, v) :: ρ := nd rfl
theorem Id {v : V} : put none v ρ = ρ := nd rfl
theorem HK {k t : Nat} {v : V} : get ((k, v) :: ρ) t = if k = t then v else get ρ t := nd rfl
theorem zp : restrict [] ρ = [] := nd rfl
theorem xT {k : Nat} {ks : List Nat} : restrict (k :: ks) ρ = (k, get ρ k) :: restrict ks ρ := nd rfl
theorem BA {ks : List Nat} : iL (some ks) ρ = restrict ks ρ := nd rfl
theorem Bc : iL none ρ = ρ := nd rfl
theorem Pw {n : Nat} : Opd.ev ρ (.t n) = get ρ n := nd rfl
theorem PE {v : V} : Opd.ev ρ (.k v) = v := nd rfl
theorem JM {i : Nat} : dL i [] = [] := nd rfl
theorem GO {i : Nat} {v : V} {l : List V} : dL i (v :: l) = (i, v) :: dL (i + 1) l := nd rfl
section ops
variable {x y a b c p i : Opd}
theorem Kc : rop D base ρ s (.mv x) = some (x.ev ρ, s) := nd rfl
theorem BP : rop D base ρ s (.pick c a b) = mM (c.ev ρ) fun t => some (if t then a.ev ρ else b.ev ρ, s) := nd rfl
theorem zV {h : Bool} {z : V} : rop D base ρ s (.alloc h z) = some (.ptr (s.fresh h) [] z.tag, s.new h z) := nd rfl
theorem GJ {h : Bool} : rop D base ρ s (.box h x) = if (x.ev ρ).ok && aN h (x.ev ρ) then some (.ptr (s.fresh h) [] (x.ev ρ).tag, s.new h (x.ev ρ)) else none := nd rfl
def ldv (s : St) (t : Nat) : V → Option V
 | .ptr a path t' => if t' = t then s.read a path else none
 | _ => none
theorem KG {t t' : Nat} {a : Loc} {path : List Nat} : ldv s t (.ptr a path t') = if t' = t then s.read a path else none := nd rfl
theorem DR {t : Nat} : rop D base ρ s (.ld t p) = ac (ldv s t (p.ev ρ)) fun v => some (v, s) := by
 show evOp base ρ s (.ld t p) = _;simp only [evOp];cases p.ev ρ with
 | ptr a path t' =>
  simp only [ldv];split
  ·cases s.read a path <;> rfl
  ·rfl
 | _ => rfl
def stv (base : Nat) (s : St) (t : Nat) (x : V) : V → Option St
 | .ptr a path t' => if t' = t ∧ x.tag = t then s.write base a path x else none
 | _ => none
theorem LW {t t' : Nat} {a : Loc} {path : List Nat} {x : V} : stv base s t x (.ptr a path t') = if t' = t ∧ x.tag = t then s.write base a path x else none := nd rfl
theorem C3 {t : Nat} : rop D base ρ s (.st t p x) = ac (stv base s t (x.ev ρ) (p.ev ρ)) fun s' => some (.dead, s') := by
 show evOp base ρ s (.st t p x) = _;simp only [evOp];cases p.ev ρ with
 | ptr a path t' =>
  simp only [stv];split
  ·cases s.write base a path (x.ev ρ) <;> rfl
  ·rfl
 | _ => rfl
def AE : V → Option V
 | .ptr a p t => some (.ptr a p t)
 | .fn f l => some (.fn f l)
 | _ => none
theorem Il {t : Nat} {a : Loc} {path : List Nat} : AE (.ptr a path t) = some (.ptr a path t) := nd rfl
theorem Kf {f : Nat} {l : List V} : AE (.fn f l) = some (.fn f l) := nd rfl
theorem Cr : rop D base ρ s (.nilc x) = ac (AE (x.ev ρ)) fun v => some (v, s) := by
 show evOp base ρ s (.nilc x) = _;simp only [evOp];cases x.ev ρ <;> rfl
theorem Fd {o : BinOp} : rop D base ρ s (.bin o x y) = ac (iA o (x.ev ρ) (y.ev ρ)) fun v => some (v, s) := by
 show evOp base ρ s (.bin o x y) = _;simp only [evOp];cases iA o (x.ev ρ) (y.ev ρ) <;> rfl
def eqv (neg : Bool) (t : Nat) (x y : V) : Option V := ac (bW t x y) fun b => some (.bool (if neg then !b else b))
theorem J4 {neg : Bool} {t : Nat} : rop D base ρ s (.eq neg t x y) = ac (eqv neg t (x.ev ρ) (y.ev ρ)) fun v => some (v, s) := by
 show evOp base ρ s (.eq neg t x y) = _;simp only [evOp, eqv];cases bW t (x.ev ρ) (y.ev ρ) <;> rfl
theorem JW {o : UnOp} : rop D base ρ s (.un o x) = ac (vun o (x.ev ρ)) fun v => some (v, s) := by
 show evOp base ρ s (.un o x) = _;simp only [evOp];cases vun o (x.ev ρ) <;> rfl
def ym (k : IntKind) : V → Option V
 | .int _ n => some (.int k (k.wrap n))
 | _ => none
theorem Fv {k k' : IntKind} {n : Int} : ym k (.int k' n) = some (.int k (k.wrap n)) := nd rfl
theorem Cq {k : IntKind} : rop D base ρ s (.conv k x) = ac (ym k (x.ev ρ)) fun v => some (v, s) := by
 show evOp base ρ s (.conv k x) = _
 simp only [evOp];cases x.ev ρ <;> rfl
def vQ (f : Nat) (caps : List V) : Option V := if caps.all (fun v => v.tag == 1) then some (.fn f caps) else none
theorem xF {f : Nat} {caps : List Opd} : rop D base ρ s (.mkfn f caps) = ac (vQ f (caps.map (Opd.ev ρ))) fun v => some (v, s) := by
 show evOp base ρ s (.mkfn f caps) = _;simp only [evOp, vQ];split <;> rfl
def yh (h : Bool) (r e : Nat) (z : V) (s : St) : V → V → Option (V × St)
 | .int _ l, .int _ m => if 0 ≤ l ∧ l ≤ m ∧ m ≤ eu then
  some (.sl (s.fresh h) [] 0 l.toNat (some m.toNat) e, s.new h (.agg r (List.replicate l.toNat z)))
  else none
 | _, _ => none
theorem xa {h : Bool} {r e : Nat} {z : V} {n c : Opd} : rop D base ρ s (.mksl h r e z n c) = yh h r e z s (n.ev ρ) (c.ev ρ) := by
 show evOp base ρ s (.mksl h r e z n c) = _;simp only [evOp];cases n.ev ρ with
 | int _ _ => cases c.ev ρ <;> rfl
 | _ => rfl
def dE (e : Nat) (lo hi mx : Option V) : V → Option V
 | .sl a path off len cap e' => if e' = e then
  ac (ai (cap.getD len) mx (cap.getD len)) fun m => ac (ai (fZ mx.isSome m len) hi len) fun h => ac (ai h lo 0) fun l =>
   some (.sl a path (off + l) (h - l) (ki mx.isSome cap (m - l)) e)
  else none
 | .nils => ac (ai 0 mx 0) fun _ => ac (ai 0 hi 0) fun _ => ac (ai 0 lo 0) fun _ => some .nils
 | _ => none
theorem EN {e : Nat} {lo hi mx : Option Opd} : rop D base ρ s (.slc e x lo hi mx) = ac (dE e (lo.map (Opd.ev ρ)) (hi.map (Opd.ev ρ)) (mx.map (Opd.ev ρ)) (x.ev ρ)) fun v => some (v, s) := by
 show evOp base ρ s (.slc e x lo hi mx) = _;simp only [evOp];cases x.ev ρ with
 | sl a path off len cap e' =>
  simp only [dE];by_cases he : e' = e
  ·simp only [if_pos he, Option.isSome_map];cases h1 : ai (cap.getD len) (mx.map (Opd.ev ρ)) (cap.getD len) with
   | none => rfl
   | some m =>
    simp only [aL];cases h2 : ai (fZ mx.isSome m len) (hi.map (Opd.ev ρ)) len with
    | none => rfl
    | some h =>
     simp only [aL];cases h3 : ai h (lo.map (Opd.ev ρ)) 0 <;> rfl
  ·simp only [if_neg he]; rfl
 | nils =>
  simp only [dE];cases ai 0 (mx.map (Opd.ev ρ)) 0 <;> cases ai 0 (hi.map (Opd.ev ρ)) 0 <;> cases ai 0 (lo.map (Opd.ev ρ)) 0 <;> rfl
 | _ => rfl
def sg (lo hi : Option V) : V → Option V
 | .str b => ac (ai b.size hi b.size) fun h => ac (ai h lo 0) fun l => some (.str (b.extract l h))
 | _ => none
theorem uI {lo hi : Option Opd} : rop D base ρ s (.slstr x lo hi) = ac (sg (lo.map (Opd.ev ρ)) (hi.map (Opd.ev ρ)) (x.ev ρ)) fun v => some (v, s) := by
 show evOp base ρ s (.slstr x lo hi) = _;simp only [evOp];cases x.ev ρ with
 | str b =>
  simp only [sg];cases ai b.size (hi.map (Opd.ev ρ)) b.size with
  | none => rfl
  | some h => simp only [aL]; cases ai h (lo.map (Opd.ev ρ)) 0 <;> rfl
 | _ => rfl
def rZ (s : St) (t n e : Nat) (lo hi mx : Option V) : V → Option V
 | .ptr a path t' => if t' = t ∧ (s.read a path).isSome = true then ac (ai n mx n) fun m => ac (ai m hi n) fun h => ac (ai h lo 0) fun l => some (.sl a path l (h - l) (some (m - l)) e) else none
 | _ => none
theorem yP {t n e : Nat} {lo hi mx : Option Opd} : rop D base ρ s (.slarr t n e x lo hi mx) = ac (rZ s t n e (lo.map (Opd.ev ρ)) (hi.map (Opd.ev ρ)) (mx.map (Opd.ev ρ)) (x.ev ρ)) fun v => some (v, s) := by
 show evOp base ρ s (.slarr t n e x lo hi mx) = _;simp only [evOp];cases x.ev ρ with
 | ptr a path t' =>
  simp only [rZ];by_cases he : t' = t ∧ (s.read a path).isSome = true
  ·simp only [if_pos he];cases ai n (mx.map (Opd.ev ρ)) n with
   | none => rfl
   | some m =>
    simp only [aL];cases ai m (hi.map (Opd.ev ρ)) n with
    | none => rfl
    | some h => simp only [aL]; cases ai h (lo.map (Opd.ev ρ)) 0 <;> rfl
  ·simp only [if_neg he]; rfl
 | _ => rfl
def y8 (t f c : Nat) : V → Option V
 | .ptr a path t' => if t' = t then some (.ptr a (path ++ [f]) c) else none
 | _ => none
theorem ES {t f c : Nat} : rop D base ρ s (.fad t f c x) = ac (y8 t f c (x.ev ρ)) fun v => some (v, s) := by
 show evOp base ρ s (.fad t f c x) = _;simp only [evOp];cases x.ev ρ with
 | ptr a path t' => simp only [y8]; split <;> rfl
 | _ => rfl
def yU (t n e : Nat) : V → V → Option V
 | .ptr a path t', .int _ j => if t' = t ∧ 0 ≤ j ∧ j < n then some (.ptr a (path ++ [j.toNat]) e) else none
 | _, _ => none
theorem Gj {t n e : Nat} : rop D base ρ s (.iad t n e x i) = ac (yU t n e (x.ev ρ) (i.ev ρ)) fun v => some (v, s) := by
 show evOp base ρ s (.iad t n e x i) = _;simp only [evOp];cases x.ev ρ with
 | ptr a path t' =>
  cases i.ev ρ with
  | int k j => simp only [yU]; split <;> rfl
  | _ => rfl
 | _ => rfl
def jR (e : Nat) : V → V → Option V
 | .sl a path off len _ e', .int _ j => if e' = e ∧ 0 ≤ j ∧ j < len then some (.ptr a (path ++ [off + j.toNat]) e) else none
 | _, _ => none
def AN (n e : Nat) : V → Option V
 | .sl a path off len _ e' => if e' = e ∧ 0 < n ∧ n ≤ len then some (.ptr a (path ++ [off]) e) else none
 | _ => none
theorem FD {n e : Nat} : rop D base ρ s (.s2a n e x) = ac (AN n e (x.ev ρ)) fun v => some (v, s) := by
 show evOp base ρ s (.s2a n e x) = _;simp only [evOp];cases x.ev ρ with
 | sl a path off len cap e' => simp only [AN]; split <;> rfl
 | _ => rfl
def zU (s : St) (t n e u : Nat) : V → Option V
 | .ptr a q e' => if e' = e then (s.part n u a q).map (.agg t) else none
 | _ => none
theorem FR {t n e u : Nat} : rop D base ρ s (.ldr t n e u x) = ac (zU s t n e u (x.ev ρ)) fun v => some (v, s) := by
 show evOp base ρ s (.ldr t n e u x) = _;simp only [evOp];cases x.ev ρ with
 | ptr a q e' =>
  simp only [zU];split
  ·cases s.part n u a q <;> rfl
  ·rfl
 | _ => rfl
theorem Hc : rop D base ρ s .mkm = some (.mp (some s.hp.length), ⟨s.loc, s.hp ++ [.mp []]⟩) := nd rfl
theorem EM : rop D base ρ s (.mlk x i) = ac (iu (x.ev ρ) (i.ev ρ) s) fun v => some (v, s) := by
 show evOp base ρ s (.mlk x i) = _;simp only [evOp];cases iu (x.ev ρ) (i.ev ρ) s <;> rfl
theorem FO {y : Opd} : rop D base ρ s (.mup x i y) = ac (eK (x.ev ρ) (i.ev ρ) (y.ev ρ) s) fun s' => some (.dead, s') := by
 show evOp base ρ s (.mup x i y) = _;simp only [evOp];cases eK (x.ev ρ) (i.ev ρ) (y.ev ρ) s <;> rfl
def An : Option Blk → Option (List Int)
 | some (.mp l) => some l
 | _ => none
theorem Nr {j : Nat} {n : Int} : iu (.mp (some j)) (.int .i64 n) s = ac (An (s.hp[j]?)) fun l => some (.bool (decide (n ∈ l))) := by
 simp only [iu, St.mpAt, An];cases s.hp[j]? with
 | none => rfl
 | some b => cases b <;> rfl
theorem MM {j : Nat} {n : Int} : eK (.mp (some j)) (.int .i64 n) (.bool true) s = ac (An (s.hp[j]?)) fun l => some ⟨s.loc, s.hp.set j (.mp (if n ∈ l then l else l ++ [n]))⟩ := by
 simp only [eK, St.mpAt, An];cases s.hp[j]? with
 | none => rfl
 | some b => cases b <;> rfl
theorem Gh {e : Nat} : rop D base ρ s (.sad e x i) = ac (jR e (x.ev ρ) (i.ev ρ)) fun v => some (v, s) := by
 show evOp base ρ s (.sad e x i) = _;simp only [evOp];cases x.ev ρ with
 | sl a path off len cap e' =>
  cases i.ev ρ with
  | int k j => simp only [jR]; split <;> rfl
  | _ => rfl
 | _ => rfl
def zg (t f : Nat) : V → Option V
 | .agg t' l => if t' = t then l[f]? else none
 | _ => none
theorem Fw {t f : Nat} : rop D base ρ s (.fld t f x) = ac (zg t f (x.ev ρ)) fun v => some (v, s) := by
 show evOp base ρ s (.fld t f x) = _;simp only [evOp];cases x.ev ρ with
 | agg t' l => simp only [zg]; split <;> (first | rfl | (cases l[f]? <;> rfl))
 | _ => rfl
def zJ (t n : Nat) : V → V → Option V
 | .agg t' l, .int _ j => if t' = t ∧ 0 ≤ j ∧ j < n then l[j.toNat]? else none
 | _, _ => none
theorem Ga {t n : Nat} : rop D base ρ s (.idx t n x i) = ac (zJ t n (x.ev ρ) (i.ev ρ)) fun v => some (v, s) := by
 show evOp base ρ s (.idx t n x i) = _;simp only [evOp];cases x.ev ρ with
 | agg t' l =>
  cases i.ev ρ with
  | int k j => simp only [zJ]; split <;> (first | rfl | (cases l[j.toNat]? <;> rfl))
  | _ => rfl
 | _ => rfl
def vo : V → V → Option V
 | .str b, .int _ j => if 0 ≤ j then (b[j.toNat]?).map fun c => .int .u8 c.toNat else none
 | _, _ => none
theorem CF : rop D base ρ s (.sidx x i) = ac (vo (x.ev ρ) (i.ev ρ)) fun v => some (v, s) := by
 show evOp base ρ s (.sidx x i) = _;simp only [evOp];cases x.ev ρ with
 | str b =>
  cases i.ev ρ with
  | int k j =>
   simp only [vo];by_cases hj : 0 ≤ j
   ·simp only [if_pos hj]; cases b[j.toNat]? <;> rfl
   ·simp only [if_neg hj]; rfl
  | _ => rfl
 | _ => rfl
def Aa (n : Nat) : V → Option V
 | .tup l => l[n]?
 | _ => none
theorem Jc {l : List V} {n : Nat} : Aa n (.tup l) = l[n]? := nd rfl
theorem Hb {n : Nat} : rop D base ρ s (.ext x n) = ac (Aa n (x.ev ρ)) fun v => some (v, s) := by
 show evOp base ρ s (.ext x n) = _;simp only [evOp];cases x.ev ρ with
 | tup l => simp only [Aa]; cases l[n]? <;> rfl
 | _ => rfl
theorem Cm {n : Nat} : rop D base ρ s (.lenk n) = some (.int .i64 n, s) := nd rfl
theorem EH {q : Bool} : rop D base ρ s (.len q x) = ac (V.slen q (x.ev ρ)) fun n => some (.int .i64 n, s) := by
 show evOp base ρ s (.len q x) = _;simp only [evOp];cases V.slen q (x.ev ρ) <;> rfl
theorem EF {e : Nat} : rop D base ρ s (.cpy e x y) = eY base e (x.ev ρ) (y.ev ρ) s := nd rfl
theorem GX {mx : Bool} : rop D base ρ s (.mnx mx x y) = ac (jk mx (x.ev ρ) (y.ev ρ)) fun v => some (v, s) := by
 show evOp base ρ s (.mnx mx x y) = _;simp only [evOp];cases jk mx (x.ev ρ) (y.ev ρ) <;> rfl
theorem EO {h : Bool} {r e : Nat} : rop D base ρ s (.app h r e x y) = aJ base h r e (x.ev ρ) (y.ev ρ) s := nd rfl
theorem EX {t : Nat} {l : List V} {ps : List (Nat × Opd)} : rop D base ρ s (.bld (.agg t l) ps) = ac (aO l (ps.map fun p => (p.1, p.2.ev ρ))) fun l' => some (.agg t l', s) := by
 show evOp base ρ s (.bld (.agg t l) ps) = _;simp only [evOp];cases aO l (ps.map fun p => (p.1, p.2.ev ρ)) <;> rfl
def zG (h : Bool) (r e n : Nat) (z : V) (s : St) (ps : List (Nat × V)) : Option (V × St) :=
 ac (aO (List.replicate n z) ps) fun l' => if (e % 2 = 0 ∨ aN h (.agg 1 l')) then some (.sl (s.fresh h) [] 0 n (some n) e, s.new h (.agg r l')) else none
theorem zT {h : Bool} {r e n : Nat} {z : V} {ps : List (Nat × Opd)} : rop D base ρ s (.bsl h r e z n ps) = zG h r e n z s (ps.map fun p => (p.1, p.2.ev ρ)) := by
 show evOp base ρ s (.bsl h r e z n ps) = _;simp only [evOp, zG];cases aO (List.replicate n z) (ps.map fun p => (p.1, p.2.ev ρ)) <;> rfl
noncomputable def vU (D : Nat → Option Fc) (args : List V) (s : St) : V → Option (V × St)
 | .fn g caps => rf D g (args ++ caps) s
 | _ => none
theorem JQ {args : List V} {g : Nat} {caps : List V} : vU D args s (.fn g caps) = rf D g (args ++ caps) s := nd rfl
theorem BQ {f : Opd} {args : List Opd} : rop D base ρ s (.call f args) = vU D (args.map (Opd.ev ρ)) s (f.ev ρ) := by
 simp only [rop];cases f.ev ρ <;> rfl
noncomputable def pw (D : Nat → Option Fc) (k base g : Nat) (as : List V) (s : St) : Option V :=
 if (V.locLts k as && (decide (base ≤ k) && (decide (k ≤ s.loc.length) && ((s.loc.take k).drop base).all (a8 k)))) = true then
  ac (rf D g as ⟨s.loc.take k, s.hp⟩) fun x => if x.2 = ⟨s.loc.take k, s.hp⟩ ∧ x.1.flat = true then some x.1 else none
 else none
noncomputable def uY (D : Nat → Option Fc) (base : Nat) (args : List V) (s : St) : V → Option V
 | .fn g caps => pw D (bd base (args ++ caps)) base g (args ++ caps) s
 | _ => none
theorem GK {args : List V} {g : Nat} {caps : List V} : uY D base args s (.fn g caps) = pw D (bd base (args ++ caps)) base g (args ++ caps) s := nd rfl
theorem yD {f : Opd} {args : List Opd} : rop D base ρ s (.pcall f args) = ac (uY D base (args.map (Opd.ev ρ)) s (f.ev ρ)) fun v => some (v, s) := by
 simp only [rop];cases f.ev ρ with
 | fn g caps =>
  show (if pOk base (bd base (args.map (Opd.ev ρ) ++ caps)) (args.map (Opd.ev ρ) ++ caps) s = true then
   (rf D g (args.map (Opd.ev ρ) ++ caps) (s.cut (bd base (args.map (Opd.ev ρ) ++ caps)))).bind fun x => if x.2 = s.cut (bd base (args.map (Opd.ev ρ) ++ caps)) ∧ x.1.flat = true then some (x.1, s) else none
   else none) = ac (pw D (bd base (args.map (Opd.ev ρ) ++ caps)) base g (args.map (Opd.ev ρ) ++ caps) s) _
  generalize hk : bd base (args.map (Opd.ev ρ) ++ caps) = k;unfold pw;by_cases hp : pOk base k (args.map (Opd.ev ρ) ++ caps) s = true
  ·rw [if_pos hp, if_pos (show (_ && _) = true from hp)]
   show (rf D g (args.map (Opd.ev ρ) ++ caps) ⟨s.loc.take k, s.hp⟩).bind _ = _;cases rf D g (args.map (Opd.ev ρ) ++ caps) ⟨s.loc.take k, s.hp⟩ with
   | none => rfl
   | some x =>
    show (if x.2 = s.cut k ∧ x.1.flat = true then some (x.1, s) else none) = ac (if x.2 = s.cut k ∧ x.1.flat = true then some x.1 else none) _
    by_cases hx : x.2 = s.cut k ∧ x.1.flat = true
    ·rw [if_pos hx, if_pos hx]; rfl
    ·rw [if_neg hx, if_neg hx]; rfl
  ·rw [if_neg hp, if_neg (show ¬ ((_ && _) = true) from hp)]; rfl
 | _ => rfl
theorem Jo {k : IntKind} {n : Int} : V.flat (.int k n) = true := nd rfl
theorem Ha {b : Bool} : V.flat (.bool b) = true := nd rfl
theorem JN : V.flat (.mp none) = true := nd rfl
theorem Jm {b : ByteArray} : V.flat (.str b) = true := nd rfl
theorem Hy {t : Nat} {l : List V} : V.flat (.agg t l) = V.flats l := nd rfl
theorem JA {l : List V} : V.flat (.tup l) = V.flats l := nd rfl
theorem EY : V.flats [] = true := nd rfl
theorem Df {v : V} {l : List V} : V.flats (v :: l) = (v.flat && V.flats l) := nd rfl
theorem yC {l : List V} (h : ∀ v ∈ l, v.flat = true) : V.flats l = true := by
 induction l with
 | nil => rfl
 | cons a l ih => simp only [V.flats, Bool.and_eq_true]; exact ⟨h a (by simp), ih fun v hv => h v (by simp [hv])⟩
theorem Bf {l : List Bool} : V.flats (l.map V.bool) = true := yC fun v hv => by obtain ⟨b, _, rfl⟩ := List.mem_map.1 hv; rfl
theorem DO {k : IntKind} {l : List Int} : V.flats (l.map (V.int k)) = true := yC fun v hv => by obtain ⟨b, _, rfl⟩ := List.mem_map.1 hv; rfl
def zo (base : Nat) (s : St) (t : Nat) (x p : V) (l : List V) : Option St := if l.all (fun y => dK y p) = true then stv base s t x p else none
theorem Gw {t : Nat} {l : List Opd} : rop D base ρ s (.sta t p x l) = ac (zo base s t (x.ev ρ) (p.ev ρ) (l.map (Opd.ev ρ))) fun s' => some (.dead, s') := by
 show evOp base ρ s (.sta t p x l) = _;simp only [evOp, zo, List.all_map];show (if (l.all fun y => dK (y.ev ρ) (p.ev ρ)) = true then _ else none) = ac (if (l.all fun y => dK (y.ev ρ) (p.ev ρ)) = true then _ else none) _
 split
 ·have := @C3 D base ρ s x p t;exact this
 ·rfl
def yT (s : St) (t : Nat) (p r : V) : Option V := if iz r p = true then ldv s t p else none
theorem Fa {t : Nat} {r : Opd} : rop D base ρ s (.lda t p r) = ac (yT s t (p.ev ρ) (r.ev ρ)) fun v => some (v, s) := by
 show evOp base ρ s (.lda t p r) = _;simp only [evOp, yT];show (if iz (r.ev ρ) (p.ev ρ) = true then _ else none) = _
 split
 ·exact @DR D base ρ s p t
 ·rfl
theorem F8 {a b : Loc} {q r : List Nat} {t u : Nat} : iz (.ptr a q t) (.ptr b r u) = decide (a = b) := nd rfl
noncomputable def sj (D : Nat → Option Fc) (args : List V) (s : St) (w f : V) : Option (V × St) := if oJ s w = true then vU D args s f else none
theorem zr {f w : Opd} {args : List Opd} : rop D base ρ s (.callw f args w) = sj D (args.map (Opd.ev ρ)) s (w.ev ρ) (f.ev ρ) := by
 simp only [rop, sj];split
 ·cases f.ev ρ <;> rfl
 ·rfl
noncomputable def vg (D : Nat → Option Fc) (p : Bool) (k base g : Nat) (as : List V) (s : St) : Option (V × St) :=
 if (V.locLts k as && (decide (base ≤ k) && (decide (k ≤ s.loc.length) && ((s.loc.take k).drop base).all (a8 k)))) = true then
  ac (rf D g as ⟨s.loc.take k, s.hp⟩) fun x => if x.2.loc = s.loc.take k ∧ (p = true → x.2.hp.take s.hp.length = s.hp) then some (x.1, ⟨s.loc, x.2.hp⟩) else none
 else none
noncomputable def vf (D : Nat → Option Fc) (p : Bool) (base : Nat) (args : List V) (s : St) : V → Option (V × St)
 | .fn g caps => vg D p (bd base (args ++ caps)) base g (args ++ caps) s
 | _ => none
theorem EG {p : Bool} {args : List V} {g : Nat} {caps : List V} : vf D p base args s (.fn g caps) = vg D p (bd base (args ++ caps)) base g (args ++ caps) s := nd rfl
theorem z7 {p : Bool} {f : Opd} {args : List Opd} : rop D base ρ s (.callk p f args) = vf D p base (args.map (Opd.ev ρ)) s (f.ev ρ) := by
 simp only [rop];cases f.ev ρ with
 | fn g caps => rfl
 | _ => rfl
def Aw (s : St) (t : Nat) : V → Option V
 | .ptr (.loc i) q t' => if t' = t then s.read (.loc i) q else none
 | _ => none
theorem JG {i : Nat} {q : List Nat} {t t' : Nat} : Aw s t (.ptr (.loc i) q t') = if t' = t then s.read (.loc i) q else none := nd rfl
theorem EC {t : Nat} : rop D base ρ s (.ldl t p) = ac (Aw s t (p.ev ρ)) fun v => some (v, s) := by
 show evOp base ρ s (.ldl t p) = _;simp only [evOp];cases p.ev ρ with
 | ptr a q t' =>
  cases a with
  | loc i =>
   simp only [Aw];split
   ·cases s.read (.loc i) q <;> rfl
   ·rfl
  | hp i => rfl
 | _ => rfl
def u4 (base : Nat) (h : Bool) (r e : Nat) (s : St) (x y : V) (l : List V) : Option (V × St) := if l.all (fun z => eD z x) = true then aJ base h r e x y s else none
theorem CD {h : Bool} {r e : Nat} {x y : Opd} {l : List Opd} : rop D base ρ s (.appa h r e x y l) = u4 base h r e s (x.ev ρ) (y.ev ρ) (l.map (Opd.ev ρ)) := by
 show evOp base ρ s (.appa h r e x y l) = _;simp only [evOp, u4, List.all_map];rfl
theorem Hs {a b : Loc} {q r : List Nat} {t o l e : Nat} {c : Option Nat} : eD (.ptr a q t) (.sl b r o l c e) = decide (a ≠ b) := nd rfl
theorem DQ {a : Loc} {q : List Nat} {t : Nat} : eD (.ptr a q t) .nils = true := nd rfl
theorem JB {a : Loc} {q : List Nat} {t : Nat} : oJ s (.ptr a q t) = (s.read a q).isSome := nd rfl
theorem Fq {a b : Loc} {q r : List Nat} {t u : Nat} : dK (.ptr a q t) (.ptr b r u) = decide (a ≠ b) := nd rfl
theorem Mg {i : Nat} {p : List Nat} {t : Nat} : V.lim1 (.ptr (.hp i) p t) = 0 := nd rfl
theorem Hk {i : Nat} {p : List Nat} {t : Nat} : V.lim1 (.ptr (.loc i) p t) = i + 1 := nd rfl
theorem KB {i : Nat} {p : List Nat} {o l : Nat} {c : Option Nat} {t : Nat} : V.lim1 (.sl (.loc i) p o l c t) = i + 1 := nd rfl
theorem I3 {k : IntKind} {n : Int} : V.lim1 (.int k n) = 0 := nd rfl
theorem Gd {n : Bool} : V.lim1 (.bool n) = 0 := nd rfl
theorem HJ {t : Nat} {l : List V} : V.lim1 (.agg t l) = 0 := nd rfl
theorem K4 {t : Nat} {l : List V} : V.lim1 (.fn t l) = 0 := nd rfl
theorem Jd : rY base [] = base := nd rfl
theorem GF {v : V} {l : List V} : rY base (v :: l) = max v.lim1 (rY base l) := nd rfl
end ops
theorem oR {α β γ : Type} {x : Option α} {f : α → Option β} {g : β → Option γ} : ac (ac x f) g = ac x fun a => ac (f a) g := by cases x <;> rfl
theorem Bd {α β : Type} {v : V} {f : Bool → Option α} {g : α → Option β} : ac (mM v f) g = mM v fun t => ac (f t) g := by cases v <;> rfl
theorem EV {α β : Type} {c : Prop} [Decidable c] {x : Option α} {g : α → Option β} : ac (if c then x else none) g = if c then ac x g else none := by split <;> rfl
theorem xO {α β : Type} {x : Option α} {f g : α → Option β} (h : ∀ a, f a = g a) : ac x f = ac x g := by cases x <;> simp only [ac, Option.bind_none, Option.bind_some, h]
noncomputable def r1 (D : Nat → Option Fc) (base : Nat) (ρ : Env) (s : St) {α : Type} (o : Op') (K : V → St → Option α) : Option α :=
 match o with
 | .mv x => K (x.ev ρ) s
 | .pick c a b => mM (c.ev ρ) fun t => K (if t then a.ev ρ else b.ev ρ) s
 | .alloc h z => K (.ptr (s.fresh h) [] z.tag) (s.new h z)
 | .box h x => if (x.ev ρ).ok && aN h (x.ev ρ) then K (.ptr (s.fresh h) [] (x.ev ρ).tag) (s.new h (x.ev ρ)) else none
 | .ld t p => ac (ldv s t (p.ev ρ)) fun v => K v s
 | .st t p x => ac (stv base s t (x.ev ρ) (p.ev ρ)) fun s' => K .dead s'
 | .nilc x => ac (AE (x.ev ρ)) fun v => K v s
 | .bin o x y => ac (iA o (x.ev ρ) (y.ev ρ)) fun v => K v s
 | .un o x => ac (vun o (x.ev ρ)) fun v => K v s
 | .conv k x => ac (ym k (x.ev ρ)) fun v => K v s
 | .fad t f c x => ac (y8 t f c (x.ev ρ)) fun v => K v s
 | .iad t n e x i => ac (yU t n e (x.ev ρ) (i.ev ρ)) fun v => K v s
 | .sad e x i => ac (jR e (x.ev ρ) (i.ev ρ)) fun v => K v s
 | .fld t f x => ac (zg t f (x.ev ρ)) fun v => K v s
 | .s2a n e x => ac (AN n e (x.ev ρ)) fun v => K v s
 | .ldr t n e u x => ac (zU s t n e u (x.ev ρ)) fun v => K v s
 | .mkm => K (.mp (some s.hp.length)) ⟨s.loc, s.hp ++ [.mp []]⟩
 | .mlk x i => ac (iu (x.ev ρ) (i.ev ρ) s) fun v => K v s
 | .mup x i y => ac (eK (x.ev ρ) (i.ev ρ) (y.ev ρ) s) fun s' => K .dead s'
 | .idx t n x i => ac (zJ t n (x.ev ρ) (i.ev ρ)) fun v => K v s
 | .sidx x i => ac (vo (x.ev ρ) (i.ev ρ)) fun v => K v s
 | .ext x n => ac (Aa n (x.ev ρ)) fun v => K v s
 | .lenk n => K (.int .i64 n) s
 | .len q x => ac (V.slen q (x.ev ρ)) fun n => K (.int .i64 n) s
 | .slc e x lo hi mx => ac (dE e (lo.map (Opd.ev ρ)) (hi.map (Opd.ev ρ)) (mx.map (Opd.ev ρ)) (x.ev ρ)) fun v => K v s
 | .slarr t n e x lo hi mx => ac (rZ s t n e (lo.map (Opd.ev ρ)) (hi.map (Opd.ev ρ)) (mx.map (Opd.ev ρ)) (x.ev ρ)) fun v => K v s
 | .eq neg t x y => ac (eqv neg t (x.ev ρ) (y.ev ρ)) fun v => K v s
 | .mkfn f caps => ac (vQ f (caps.map (Opd.ev ρ))) fun v => K v s
 | .slstr x lo hi => ac (sg (lo.map (Opd.ev ρ)) (hi.map (Opd.ev ρ)) (x.ev ρ)) fun v => K v s
 | .mksl h r e z n c => ac (yh h r e z s (n.ev ρ) (c.ev ρ)) fun x => K x.1 x.2
 | .app h r e x y => ac (aJ base h r e (x.ev ρ) (y.ev ρ) s) fun x => K x.1 x.2
 | .bsl h r e z n ps => ac (zG h r e n z s (ps.map fun p => (p.1, p.2.ev ρ))) fun x => K x.1 x.2
 | .cpy e x y => ac (eY base e (x.ev ρ) (y.ev ρ) s) fun x => K x.1 x.2
 | .mnx mx x y => ac (jk mx (x.ev ρ) (y.ev ρ)) fun v => K v s
 | .bld z ps => match z with
  | .agg t l => ac (aO l (ps.map fun p => (p.1, p.2.ev ρ))) fun l' => K (.agg t l') s
  | _ => none
 | .call f args => ac (vU D (args.map (Opd.ev ρ)) s (f.ev ρ)) fun x => K x.1 x.2
 | .pcall f args => ac (uY D base (args.map (Opd.ev ρ)) s (f.ev ρ)) fun v => K v s
 | .sta t p x l => ac (zo base s t (x.ev ρ) (p.ev ρ) (l.map (Opd.ev ρ))) fun s' => K .dead s'
 | .callw f args w => ac (sj D (args.map (Opd.ev ρ)) s (w.ev ρ) (f.ev ρ)) fun x => K x.1 x.2
 | .lda t p r => ac (yT s t (p.ev ρ) (r.ev ρ)) fun v => K v s
 | .callk p f args => ac (vf D p base (args.map (Opd.ev ρ)) s (f.ev ρ)) fun x => K x.1 x.2
 | .ldl t p => ac (Aw s t (p.ev ρ)) fun v => K v s
 | .appa h r e x y l => ac (u4 base h r e s (x.ev ρ) (y.ev ρ) (l.map (Opd.ev ρ))) fun x => K x.1 x.2
theorem Fo {α : Type} {o : Op'} {K : V → St → Option α} : ac (rop D base ρ s o) (fun x => K x.1 x.2) = r1 D base ρ s o K := by
 cases o with
 | bld z ps =>
  cases z with
  | agg t l => simp only [r1, EX, oR, aL]
  | _ => rfl
 | pcall f args => simp only [r1, yD, oR, aL]
 | box h x => simp only [r1, GJ, EV, aL]
 | _ => simp only [r1, Kc, BP, zV, DR, C3, Cr, Fd, JW, Cq, ES, Gj, Gh, Fw, Ga, CF, Hb, Cm, EH, EN, yP, BQ, J4, xF, uI, xa, EO, EF, GX, zT, Gw, zr, Fa, z7, EC, CD, FD, FR, Hc, EM, FO, oR, aL, Bd]
noncomputable def rgO (D : Nat → Option Fc) (base : Nat) (ks : List Nat) : List Op → Env → St → Option (Ex × Env × St)
 | [], ρ, s => some (Ex.normal, restrict ks ρ, s)
 | op :: rest, ρ, s => match op.guard with
  | none => r1 D base ρ s op.op fun v s' => rgO D base ks rest (put op.dst v ρ) s'
  | some (t, b) => hZ (get ρ t) b (r1 D base ρ s op.op fun v s' => rgO D base ks rest (put op.dst v ((t, .bool b) :: ρ)) s') (rgO D base ks rest (put op.dst (.tup []) ((t, .bool !b) :: ρ)) s) (rgO D base ks rest (put op.dst (.tup []) ((t, .tup []) :: ρ)) s)
theorem pk {ks : List Nat} : ∀ {l : List Op} {ρ : Env} {s : St}, rg D base ks l ρ s = rgO D base ks l ρ s
 | [], ρ, s => by rw [Nd]; rfl
 | ⟨d, none, o⟩ :: l, ρ, s => by
  rw [Pq];simp only [rgO];rw [← Fo];exact xO fun x => pk
 | ⟨d, some (t, b), o⟩ :: l, ρ, s => by
  rw [Px];simp only [rgO];refine uQ (fun _ => ?_) (fun _ => pk) (fun _ => pk);rw [← Fo];exact xO fun x => pk
theorem Jq {ks : List Nat} {l : List Op} : rc D base (.reg (some ks) l) ρ s = rgO D base ks l ρ s := NK.trans pk
theorem Fi {ks : List Nat} {l : List Op} : rc D base (.regd (some ks) l) ρ s = rgO D base ks l ρ s := Kj.trans pk
theorem En {y d : Nat} : ai y none d = some d := nd rfl
theorem FV {y d : Nat} {k : IntKind} {i : Int} : ai y (some (.int k i)) d = if 0 ≤ i ∧ i ≤ y then some i.toNat else none := nd rfl
theorem CE : s.fresh true = .hp s.hp.length := nd rfl
theorem KO : s.fresh false = .loc s.loc.length := nd rfl
theorem J6 {v : V} : s.new true v = ⟨s.loc, s.hp ++ [.rw v]⟩ := nd rfl
theorem OX {v : V} : s.new false v = ⟨s.loc ++ [.rw v], s.hp⟩ := nd rfl
theorem HE {v : V} : aN false v = true := nd rfl
theorem tR {v : V} : aN true v = v.locLt 0 := nd rfl
def Blk.rd (p : List Nat) : Option Blk → Option V
 | some (.rw v) => V.at p v
 | some (.ro v) => V.at p v
 | _ => none
theorem Dh {p : List Nat} {v : V} : Blk.rd p (some (.rw v)) = V.at p v := nd rfl
theorem JT {p : List Nat} {v : V} : Blk.rd p (some (.ro v)) = V.at p v := nd rfl
theorem zB {i : Nat} {p : List Nat} : s.read (.loc i) p = Blk.rd p s.loc[i]? := nd rfl
theorem lI {i : Nat} {p : List Nat} : s.read (.hp i) p = Blk.rd p s.hp[i]? := nd rfl
def Blk.wr (p : List Nat) (x : V) : Option Blk → Option Blk
 | some (.rw v) => (V.setAt p x v).map .rw
 | _ => none
theorem OJ {p : List Nat} {x v : V} : Blk.wr p x (some (.rw v)) = (V.setAt p x v).map .rw := nd rfl
theorem E1 {i : Nat} {p : List Nat} {x : V} : s.write base (.loc i) p x = if x.locLt 0 || decide (base ≤ i) then (Blk.wr p x s.loc[i]?).map fun b => ⟨s.loc.set i b, s.hp⟩ else none := by
 simp only [St.write, St.at];cases s.loc[i]? with
 | none => simp [Blk.wr]
 | some b =>
  cases b with
  |rw v =>
   simp only [Blk.wr];rw [show (x.locLt 0 || decide (base ≤ i)) = cX base (.loc i) x from rfl]
   by_cases hc : cX base (.loc i) x = true
   ·rw [if_pos hc, if_pos hc]; cases V.setAt p x v <;> rfl
   ·rw [if_neg hc, if_neg hc]
  | _ => simp [Blk.wr]
theorem HS {i : Nat} {p : List Nat} {x : V} : s.write base (.hp i) p x = if x.locLt 0 then (Blk.wr p x s.hp[i]?).map fun b => ⟨s.loc, s.hp.set i b⟩ else none := by
 simp only [St.write, St.at];cases s.hp[i]? with
 | none => simp [Blk.wr]
 | some b =>
  cases b with
  |rw v =>
   simp only [Blk.wr];rw [show x.locLt 0 = cX base (.hp i) x from rfl]
   by_cases hc : cX base (.hp i) x = true
   ·rw [if_pos hc, if_pos hc]; cases V.setAt p x v <;> rfl
   ·rw [if_neg hc, if_neg hc]
  | _ => simp [Blk.wr]
theorem uG {v : V} : V.at [] v = some v := nd rfl
theorem BV {i : Nat} {p : List Nat} {t : Nat} {l : List V} : V.at (i :: p) (.agg t l) = ac l[i]? (V.at p) := by
 simp only [V.at]; cases l[i]? <;> rfl
theorem Hf {x v : V} : V.setAt [] x v = some x := nd rfl
theorem Ek {i : Nat} {p : List Nat} {t : Nat} {l : List V} {x : V} : V.setAt (i :: p) x (.agg t l) = ac l[i]? fun y => ac (V.setAt p x y) fun y' => some (.agg t (l.set i y')) := by
 simp only [V.setAt];cases l[i]? with
 | none => rfl
 | some y => simp only [aL]; cases V.setAt p x y <;> rfl
theorem Cd {α : Type} {l m : List α} {i : Nat} : (l ++ m)[l.length + i]? = m[i]? := by rw [List.getElem?_append_right (Nat.le_add_right _ _), Nat.add_sub_cancel_left]
theorem I2 {α : Type} {l m : List α} : (l ++ m)[l.length]? = m[0]? := Cd (i := 0)
theorem CI {α : Type} {l m : List α} {i : Nat} {x : α} : (l ++ m).set (l.length + i) x = l ++ m.set i x := by rw [List.set_append_right _ _ (Nat.le_add_right _ _), Nat.add_sub_cancel_left]
theorem qc {α : Type} {l m : List α} {x : α} : (l ++ m).set l.length x = l ++ m.set 0 x := CI (i := 0)
theorem Jv {α : Type} {l m : List α} {i : Nat} : (l ++ m).take (l.length + i) = l ++ m.take i := by rw [List.take_append, List.take_of_length_le (Nat.le_add_right _ _), Nat.add_sub_cancel_left]
theorem EL {α : Type} {l m : List α} : (l ++ m).take l.length = l := by rw [List.take_append]; simp
theorem Hm {α : Type} {l m : List α} : (l ++ m).drop l.length = m := List.drop_left
theorem D1 {b : Nat} : V.locLts b [] = true := by simp only [V.locLts]
theorem BC {b : Nat} {v : V} {l : List V} : V.locLts b (v :: l) = (v.locLt b && V.locLts b l) := by simp only [V.locLts]
section
variable {b : Nat}
theorem LK {x : Bool} : V.locLt b (.bool x) = true := by simp only [V.locLt]
theorem ND {k : IntKind} {x : Int} : V.locLt b (.int k x) = true := by simp only [V.locLt]
theorem MQ {x : ByteArray} : V.locLt b (.str x) = true := by simp only [V.locLt]
theorem Lt : V.locLt b .nilp = true := by simp only [V.locLt]
theorem MD : V.locLt b .nils = true := by simp only [V.locLt]
theorem OC {o : Option Nat} : V.locLt b (.mp o) = true := by simp only [V.locLt]
theorem Ln : V.locLt b .nilf = true := by simp only [V.locLt]
theorem Md : V.locLt b .dead = true := by simp only [V.locLt]
theorem OZ {i : Nat} {p : List Nat} {t : Nat} : V.locLt b (.ptr (.hp i) p t) = true := by simp only [V.locLt]
theorem LT {i : Nat} {p : List Nat} {o l e : Nat} {c : Option Nat} : V.locLt b (.sl (.hp i) p o l c e) = true := by simp only [V.locLt]
theorem ML {i : Nat} {p : List Nat} {t : Nat} : V.locLt b (.ptr (.loc i) p t) = decide (i < b) := by simp only [V.locLt]
theorem IC {i : Nat} {p : List Nat} {o l e : Nat} {c : Option Nat} : V.locLt b (.sl (.loc i) p o l c e) = decide (i < b) := by simp only [V.locLt]
theorem O2 {f : Nat} {l : List V} : V.locLt b (.fn f l) = V.locLts b l := by simp only [V.locLt]
theorem Nj {l : List V} : V.locLt b (.tup l) = V.locLts b l := by simp only [V.locLt]
theorem vu {t : Nat} {l : List V} : V.locLt b (.agg t l) = (t % 2 == 0 || V.locLts b l) := by simp only [V.locLt]
end
theorem Js {b : Nat} {v : V} : a8 b (.rw v) = v.locLt b := nd rfl
theorem JD {b : Nat} {l : List Int} : a8 b (.mp l) = true := nd rfl
theorem HG {b : Nat} {v : V} : a8 b (.ro v) = v.locLt b := nd rfl
theorem Ew {b : Nat} : a8 b .dead = true := nd rfl
theorem Bw {n : Nat} {res : List RV} : kg n res (.ret, ρ, s) = ac (bM ρ s res) fun v => if v.locLt n ∧ n ≤ s.loc.length then some (v, { s with loc := s.loc.take n }) else none := by
 rw [FG]; cases bM ρ s res <;> rfl
theorem wJ {n : Nat} {res : List RV} : kg n res (.normal, ρ, s) = ac (bM ρ s res) fun v => if v.locLt n ∧ n ≤ s.loc.length then some (v, { s with loc := s.loc.take n }) else none := by
 rw [AL]; cases bM ρ s res <;> rfl
theorem PC {n : Nat} : RV.ev ρ s (.t n) = some (get ρ n) := nd rfl
theorem LV {n q : Nat} : RV.ev ρ s (.cell n q) = ldv s q (get ρ n) := by
 simp only [RV.ev];cases get ρ n <;> rfl
theorem D4 : bM ρ s [] = some (.tup []) := nd rfl
theorem GE {r : RV} : bM ρ s [r] = RV.ev ρ s r := by
 simp only [bM, List.mapM_cons, List.mapM_nil];cases RV.ev ρ s r <;> rfl
theorem Gl {r q : RV} : bM ρ s [r, q] = ac (RV.ev ρ s r) fun a => ac (RV.ev ρ s q) fun b => if a.ok && b.ok then some (.tup [a, b]) else none := by
 simp only [bM, List.mapM_cons, List.mapM_nil];cases RV.ev ρ s r with
 | none => rfl
 | some a =>
  cases RV.ev ρ s q with
  | none => rfl
  | some b => simp [List.all, aL]
theorem Bu {r q p : RV} : bM ρ s [r, q, p] = ac (RV.ev ρ s r) fun a => ac (RV.ev ρ s q) fun b => ac (RV.ev ρ s p) fun c => if a.ok && b.ok && c.ok then some (.tup [a, b, c]) else none := by
 simp only [bM, List.mapM_cons, List.mapM_nil];cases RV.ev ρ s r with
 | none => rfl
 | some a =>
  cases RV.ev ρ s q with
  | none => rfl
  | some b =>
   cases RV.ev ρ s p with
   | none => rfl
   | some c => simp [List.all, Bool.and_assoc, aL]
section
variable {c : Prop} [Decidable c]
theorem Dx {ρ' : Env} {s' : St} : (if c then some (Ex.normal, ρ, s) else some (Ex.normal, ρ', s')) = some (Ex.normal, if c then ρ else ρ', if c then s else s') := by split <;> rfl
theorem Im {id : Nat} {ρ' : Env} {s' : St} : (if c then some (Ex.exit id, ρ, s) else some (Ex.exit id, ρ', s')) = some (Ex.exit id, if c then ρ else ρ', if c then s else s') := by split <;> rfl
theorem Lh {ρ' : Env} {s' : St} : (if c then some (Ex.ret, ρ, s) else some (Ex.ret, ρ', s')) = some (Ex.ret, if c then ρ else ρ', if c then s else s') := by split <;> rfl
theorem Mh {k : Nat} {v v' : V} {ρ' : Env} : (if c then (k, v) :: ρ else (k, v') :: ρ') = (k, if c then v else v') :: (if c then ρ else ρ') := by split <;> rfl
theorem Nc {v v' : V} {s' : St} : (if c then some (v, s) else some (v', s')) = some (if c then v else v', if c then s else s') := by split <;> rfl
theorem Fx {a b : Bool} : (if c then V.bool a else V.bool b) = V.bool (if c then a else b) := by split <;> rfl
theorem Je {k : IntKind} {a b : Int} : (if c then V.int k a else V.int k b) = V.int k (if c then a else b) := by split <;> rfl
theorem JC {t : Nat} {l l' : List V} : (if c then V.agg t l else V.agg t l') = V.agg t (if c then l else l') := by split <;> rfl
theorem I9 {l l' : List V} : (if c then V.tup l else V.tup l') = V.tup (if c then l else l') := by split <;> rfl
theorem Gt {v v' : V} {l l' : List V} : (if c then v :: l else v' :: l') = (if c then v else v') :: (if c then l else l') := by split <;> rfl
theorem Gr {v v' : Blk} {l l' : List Blk} : (if c then v :: l else v' :: l') = (if c then v else v') :: (if c then l else l') := by split <;> rfl
theorem Mi {v v' : V} : (if c then Blk.rw v else Blk.rw v') = Blk.rw (if c then v else v') := by split <;> rfl
theorem Nk {l l' h h' : List Blk} : (if c then St.mk l h else St.mk l' h') = St.mk (if c then l else l') (if c then h else h') := by split <;> rfl
theorem Kz {l m m' : List Blk} : (if c then l ++ m else l ++ m') = l ++ (if c then m else m') := by split <;> rfl
theorem GC {b : C} {y : Option (Ex × Env × St)} : ac (if c then some (.ret, ρ, s) else y) (andThen D base b) = if c then some (.ret, ρ, s) else ac y (andThen D base b) := by split <;> rfl
theorem DG {b : C} {y : Option (Ex × Env × St)} : ac (if c then y else some (.ret, ρ, s)) (andThen D base b) = if c then ac y (andThen D base b) else some (.ret, ρ, s) := by split <;> rfl
theorem Ef {b : C} {y : Option (Ex × Env × St)} {id : Nat} : ac (if c then some (.exit id, ρ, s) else y) (andThen D base b) = if c then some (.exit id, ρ, s) else ac y (andThen D base b) := by split <;> rfl
theorem Bx {b : C} {y : Option (Ex × Env × St)} {id : Nat} : ac (if c then y else some (.exit id, ρ, s)) (andThen D base b) = if c then ac y (andThen D base b) else some (.exit id, ρ, s) := by split <;> rfl
theorem Bt {n : Nat} {res : List RV} {x y : Option (Ex × Env × St)} : ac (if c then x else y) (kg n res) = if c then ac x (kg n res) else ac y (kg n res) := ri
theorem Bi {id : Nat} {x y : Option (Ex × Env × St)} : ac (if c then x else y) (ns id) = if c then ac x (ns id) else ac y (ns id) := ri
theorem Bk {n : Nat} {keep : List Nat} {b : C} {x y : Option (Ex × Env × St)} : ac (if c then x else y) (gP D base n keep b) = if c then ac x (gP D base n keep b) else ac y (gP D base n keep b) := ri
end
theorem Nq : St.mk s.loc s.hp = s := nd rfl
theorem DB : s.elems .nils = some [] := nd rfl
def Co (off len : Nat) : Option V → Option (List V)
 | some (.agg _ l) => if off + len ≤ l.length then some ((l.drop off).take len) else none
 | _ => none
theorem Bv {off len t : Nat} {l : List V} : Co off len (some (.agg t l)) = if off + len ≤ l.length then some ((l.drop off).take len) else none := nd rfl
theorem Hv {a : Loc} {path : List Nat} {off len : Nat} {cap : Option Nat} {e : Nat} : s.elems (.sl a path off len cap e) = if len = 0 then some [] else Co off len (s.read a path) := by
 simp only [St.elems];cases s.read a path with
 | none => rfl
 | some v => cases v <;> rfl
section
variable {a : Loc} {p : List Nat} {off len e e' t t' n f u : Nat} {cap : Option Nat} {k k' : IntKind} {j m : Int} {b : Bool} {sb sc : ByteArray} {l : List V} {lo hi mx : Option V} {o : BinOp}
theorem FM : V.slen false .nils = some 0 := nd rfl
theorem KT : V.slen false (.sl a p off len cap e) = some len := nd rfl
theorem IL : V.slen true (.str sb) = some sb.size := nd rfl
theorem Ky : jR e (.sl a p off len cap e') (.int k j) = if e' = e ∧ 0 ≤ j ∧ j < len then some (.ptr a (p ++ [off + j.toNat]) e) else none := nd rfl
theorem Jr : yU t n e (.ptr a p t') (.int k j) = if t' = t ∧ 0 ≤ j ∧ j < n then some (.ptr a (p ++ [j.toNat]) e) else none := nd rfl
theorem Iu : y8 t f u (.ptr a p t') = if t' = t then some (.ptr a (p ++ [f]) u) else none := nd rfl
theorem I5 : zg t f (.agg t' l) = if t' = t then l[f]? else none := nd rfl
theorem IX : zJ t n (.agg t' l) (.int k j) = if t' = t ∧ 0 ≤ j ∧ j < n then l[j.toNat]? else none := nd rfl
theorem Fz : vo (.str sb) (.int k j) = if 0 ≤ j then (sb[j.toNat]?).map fun c => .int .u8 c.toNat else none := nd rfl
theorem Ko : dE e lo hi mx (.sl a p off len cap e') = if e' = e then
 ac (ai (cap.getD len) mx (cap.getD len)) fun m => ac (ai (fZ mx.isSome m len) hi len) fun h => ac (ai h lo 0) fun l =>
  some (.sl a p (off + l) (h - l) (ki mx.isSome cap (m - l)) e) else none := nd rfl
theorem FW : dE e lo hi mx .nils = ac (ai 0 mx 0) fun _ => ac (ai 0 hi 0) fun _ => ac (ai 0 lo 0) fun _ => some .nils := nd rfl
theorem C6 : sg lo hi (.str sb) = ac (ai sb.size hi sb.size) fun h => ac (ai h lo 0) fun l => some (.str (sb.extract l h)) := nd rfl
theorem Li {n e e' off len : Nat} {a : Loc} {path : List Nat} {c : Option Nat} : AN n e (.sl a path off len c e') = if e' = e ∧ 0 < n ∧ n ≤ len then some (.ptr a (path ++ [off]) e) else none := nd rfl
theorem Ij {n u e e' : Nat} {a : Loc} {q : List Nat} : zU s t n e u (.ptr a q e') = if e' = e then (s.part n u a q).map (.agg t) else none := nd rfl
theorem DK : rZ s t n e lo hi mx (.ptr a p t') = if t' = t ∧ (s.read a p).isSome = true then ac (ai n mx n) fun m => ac (ai m hi n) fun h => ac (ai h lo 0) fun l => some (.sl a p l (h - l) (some (m - l)) e) else none := nd rfl
theorem Hu : iA o (.int k j) (.int k' m) = if BinOp.isShift o then shf o k j m else if k = k' then wj o k j m else none := nd rfl
theorem IZ : iA o (.str sb) (.str sc) = wW o sb sc := nd rfl
theorem LG : vun .not (.bool b) = some (.bool !b) := nd rfl
theorem K7 : vun .neg (.int k j) = some (.int k (k.wrap (0 - j))) := nd rfl
theorem Km : vun .xor (.int k j) = some (.int k (eQ k (if k.signed then -1 else k.max) j)) := nd rfl
theorem Iz : jk b (.int k j) (.int k' m) = if k = k' then some (.int k (if b then max j m else min j m)) else none := nd rfl
theorem Gg {h : Bool} {r : Nat} {z : V} : yh h r e z s (.int k j) (.int k' m) = if 0 ≤ j ∧ j ≤ m ∧ m ≤ eu then
 some (.sl (s.fresh h) [] 0 j.toNat (some m.toNat) e, s.new h (.agg r (List.replicate j.toNat z))) else none := nd rfl
theorem Ie : V.tag (.bool b) = 0 := nd rfl
theorem Kr : V.tag (.int k j) = fF k := nd rfl
theorem KK : V.tag (.str sb) = 2 := nd rfl
theorem K9 : V.tag (.agg t l) = t := nd rfl
theorem Lc : V.tag (.ptr a p t) = 1 := nd rfl
theorem HB : V.tag .nilp = 1 := nd rfl
theorem NY : V.tag (.sl a p off len cap e) = 1 := nd rfl
theorem IB : V.tag .nils = 1 := nd rfl
theorem NU : V.tag (.fn f l) = 1 := nd rfl
theorem HO : V.tag .nilf = 1 := nd rfl
theorem N4 {o : Option Nat} : V.tag (.mp o) = 1 := nd rfl
theorem O6 {o : Option Nat} : V.ok (.mp o) = true := nd rfl
theorem Ms {m : List Int} : An (some (.mp m)) = some m := nd rfl
theorem KP : V.ok (.bool b) = true := nd rfl
theorem Nm : V.ok (.int k j) = true := nd rfl
theorem Nw : V.ok (.str sb) = true := nd rfl
theorem Ov : V.ok (.agg t l) = true := nd rfl
theorem Ni : V.ok (.ptr a p t) = true := nd rfl
theorem Kg : V.ok .nilp = true := nd rfl
theorem OQ : V.ok (.sl a p off len cap e) = true := nd rfl
theorem K8 : V.ok .nils = true := nd rfl
theorem Pa : V.ok (.fn f l) = true := nd rfl
theorem Mp : V.ok .nilf = true := nd rfl
end
theorem Mr : bW 1 .nilp .nilp = some true := nd rfl
theorem KW {a : Loc} {p : List Nat} {t : Nat} : bW 1 .nilp (.ptr a p t) = some false := nd rfl
theorem K6 {a : Loc} {p : List Nat} {t : Nat} : bW 1 (.ptr a p t) .nilp = some false := nd rfl
theorem HX : bW 3 .nils .nils = some true := nd rfl
theorem IM {a : Loc} {p : List Nat} {o l e : Nat} {c : Option Nat} : bW 3 .nils (.sl a p o l c e) = some false := nd rfl
theorem IR {a : Loc} {p : List Nat} {o l e : Nat} {c : Option Nat} : bW 3 (.sl a p o l c e) .nils = some false := nd rfl
theorem JE : bW 5 .nilf .nilf = some true := nd rfl
theorem IT {f : Nat} {l : List V} : bW 5 .nilf (.fn f l) = some false := nd rfl
theorem Ia {f : Nat} {l : List V} : bW 5 (.fn f l) .nilf = some false := nd rfl
theorem Jy {t : Nat} {x y : V} (h1 : t ≠ 1) (h3 : t ≠ 3) (h5 : t ≠ 5) : bW t x y = if x.tag = t ∧ y.tag = t then veq x y else none := by
 unfold bW;split
 ·exact absurd rfl h1
 ·exact absurd rfl h3
 ·exact absurd rfl h5
 ·rfl
theorem HM {a b : Bool} : veq (.bool a) (.bool b) = some (a == b) := by simp only [veq]
theorem MA {k k' : IntKind} {a b : Int} : veq (.int k a) (.int k' b) = if k = k' then some (decide (a = b)) else none := by simp only [veq]
theorem LI {a b : ByteArray} : veq (.str a) (.str b) = some (a.toList == b.toList) := by simp only [veq]
theorem Mx {t t' : Nat} {l l' : List V} : veq (.agg t l) (.agg t' l') = if t = t' then bB l l' else none := by simp only [veq]
theorem IU : bB [] [] = some true := by simp only [bB]
theorem GM {v v' : V} {l l' : List V} : bB (v :: l) (v' :: l') = ac (veq v v') fun b => if b = true then bB l l' else some false := by
 simp only [bB];cases veq v v' with
 | none => rfl
 | some b => cases b <;> rfl
attribute [go_sem] Lq JK MW KX IG wN A9 yt GA CZ xW Ei Bg IA z8 Fu Di
 BL Eu II Id HK zp xT BA Bc Pw PE JM GO
 Kc BP zV GJ DR C3 Cr Fd J4 JW Cq xF xa EN uI yP ES Gj Gh Fw Ga CF Hb Cm EH EO EF GX EX zT BQ yD Gw zr Fa z7 EC CD FD FR Hc EM FO Nr MM Ms N4 O6 OC JD Li Ij u4 Hs DQ EG vg JG yT F8 Jo Ha Jm JN Hy JA EY Df Bf DO and_true zo sj JB Fq ne_eq Loc.loc.injEq Loc.hp.injEq
 Iz eqv vQ Gg zG C6 KG LW Il Kf Fv Ko FW DK Iu Jr Ky I5 IX Fz Jc JQ GK pw bd Jd GF Mg Hk KB I3 Gd HJ K4 Nat.le_refl Nat.le_add_right List.drop_length En FV FM KT IL
 Ie Kr KK K9 Lc HB NY IB NU HO KP Nm Nw Ov Ni Kg OQ K8 Pa Mp
 CE KO J6 OX HE tR Dh JT zB lI OJ E1 HS uG BV Hf Ek
 Cd I2 CI qc Jv EL Hm
 D1 BC LK ND MQ Lt MD Ln Md OZ LT ML IC O2 Nj vu Js HG Ew
 PC LV D4 GE Gl Bu Bw wJ DB Bv Hv
 Nq Dx Im Lh Mh Nc Fx Je JC I9 Gt Gr Mi Nk Kz GC DG Ef Bx Bt Bi Bk ite_self Bool.if_true_left Bool.if_true_right Bool.if_false_left Bool.if_false_right
 fZ ki Option.isSome_none Option.isSome_some
 fF Hu IZ wj shf wW BinOp.isShift LG K7 Km Mr KW K6 HX IM IR JE IT Ia Jy HM MA LI Mx IU GM aO eS
 aL Dp Ez Option.bind_some Option.bind_none Option.map_some Option.map_none Option.getD_some Option.getD_none
 List.map_cons List.map_nil List.cons_append List.nil_append List.append_assoc List.append_nil List.length_append List.length_cons List.length_nil List.getElem?_cons_zero List.getElem?_cons_succ List.getElem?_nil List.set_cons_zero List.set_cons_succ List.take_succ_cons List.take_zero List.take_length List.drop_zero List.drop_succ_cons
 List.all_cons List.all_nil Nat.zero_add Nat.add_zero if_true if_false ite_true ite_false Bool.true_and Bool.and_true Bool.false_or Bool.or_false Bool.true_or Bool.or_true Bool.false_and Bool.and_false Bool.not_true Bool.not_false
 eq_self true_and and_true false_and and_false true_or or_true false_or or_false Bool.false_eq_true not_true_eq_false not_false_eq_true decide_true decide_false decide_eq_true_eq decide_eq_false_iff_not Bool.not_eq_true Bool.not_eq_false Nat.reduceEqDiff Nat.reduceAdd Nat.reduceMod reduceIte Nat.le_refl Nat.le_add_right and_self or_self beq_self_eq_true reduceCtorEq
 Int.cast_ofNat_Int Int.reduceEq Int.reduceLT Int.reduceLE Int.reduceNeg Int.reduceToNat Int.reduceAdd Int.reduceSub Int.reduceMul Nat.reduceSub Nat.reduceMul Nat.reduceLT Nat.reduceLeDiff
instance (n : Nat) : OfNat Opd n := ⟨.t n⟩
abbrev zf (n : Nat) : Opd := .k (.fn n [])
abbrev OR := Option (Ex × Env × St)
def oif {α : Type} (c : Bool) (x : Option α) : Option α := if c then x else none
noncomputable abbrev peG : List (Nat × V) → Env → Nat → V
 | [], ρ, t => get ρ t
 | (k, v) :: l, ρ, t => match Nat.beq k t with | true => v | false => peG l ρ t
noncomputable abbrev peE (l : List (Nat × V)) (ρ : Env) : Opd → V
 | .t n => peG l ρ n
 | .k v => v
noncomputable abbrev peL (l : List (Nat × V)) (ρ : Env) : List Opd → List V
 | [] => []
 | x :: r => peE l ρ x :: peL l ρ r
noncomputable abbrev peO (l : List (Nat × V)) (ρ : Env) : Option Opd → Option V
 | none => none
 | some x => some (peE l ρ x)
noncomputable abbrev peP (l : List (Nat × V)) (ρ : Env) : List (Nat × Opd) → List (Nat × V)
 | [] => []
 | (n, x) :: r => (n, peE l ρ x) :: peP l ρ r
noncomputable abbrev peR (l : List (Nat × V)) (ρ : Env) : List Nat → Env
 | [] => []
 | k :: r => (k, peG l ρ k) :: peR l ρ r
noncomputable abbrev peK : List (Nat × Option (Option Bool)) → Nat → Option (Option Bool)
 | [], _ => none
 | (k, v) :: l, t => match Nat.beq k t with | true => v | false => peK l t
noncomputable abbrev yS (g : List (Nat × Option (Option Bool))) : Opd → Option (Option Bool)
 | .t n => peK g n
 | .k (.bool x) => some (some x)
 | .k _ => none
noncomputable abbrev peB : Bool → Bool → Bool
 | true, true => true
 | false, false => true
 | _, _ => false
noncomputable abbrev peN : Bool → Bool
 | true => false
 | false => true
noncomputable abbrev pW (d : Option Nat) (v : V) (l : List (Nat × V)) : List (Nat × V) := match d with
 | some k => (k, v) :: l
 | none => l
noncomputable abbrev qx (d : Option Nat) (v : Option (Option Bool)) (l : List (Nat × Option (Option Bool))) : List (Nat × Option (Option Bool)) := match d with
 | some k => (k, v) :: l
 | none => l
noncomputable abbrev peW (g : List (Nat × Option (Option Bool))) : Op' → Option (Option Bool)
 | .mv x => yS g x
 | .pick c a b => match yS g c with
  | some (some true) => yS g a
  | some (some false) => yS g b
  | _ => none
 | _ => none
noncomputable abbrev pe1 (D : Nat → Option Fc) (base : Nat) (g : List (Nat × Option (Option Bool))) (l : List (Nat × V)) (ρ : Env) (s : St) (o : Op') (K : V → St → OR) : OR :=
 match o with
 | .mv x => K (peE l ρ x) s
 | .pick c a b => match yS g c with
  | some (some true) => K (peE l ρ a) s
  | some (some false) => K (peE l ρ b) s
  | some none => none
  | none => mM (peE l ρ c) fun t => K (if t = true then peE l ρ a else peE l ρ b) s
 | .alloc h z => K (.ptr (s.fresh h) [] z.tag) (s.new h z)
 | .box h x => oif (V.ok (peE l ρ x) && aN h (peE l ρ x)) (K (.ptr (s.fresh h) [] (V.tag (peE l ρ x))) (s.new h (peE l ρ x)))
 | .ld t p => ac (ldv s t (peE l ρ p)) fun v => K v s
 | .st t p x => ac (stv base s t (peE l ρ x) (peE l ρ p)) fun s' => K .dead s'
 | .nilc x => ac (AE (peE l ρ x)) fun v => K v s
 | .bin o x y => ac (iA o (peE l ρ x) (peE l ρ y)) fun v => K v s
 | .un o x => ac (vun o (peE l ρ x)) fun v => K v s
 | .conv k x => ac (ym k (peE l ρ x)) fun v => K v s
 | .fad t f c x => ac (y8 t f c (peE l ρ x)) fun v => K v s
 | .iad t n e x i => ac (yU t n e (peE l ρ x) (peE l ρ i)) fun v => K v s
 | .sad e x i => ac (jR e (peE l ρ x) (peE l ρ i)) fun v => K v s
 | .fld t f x => ac (zg t f (peE l ρ x)) fun v => K v s
 | .s2a n e x => ac (AN n e (peE l ρ x)) fun v => K v s
 | .ldr t n e u x => ac (zU s t n e u (peE l ρ x)) fun v => K v s
 | .idx t n x i => ac (zJ t n (peE l ρ x) (peE l ρ i)) fun v => K v s
 | .sidx x i => ac (vo (peE l ρ x) (peE l ρ i)) fun v => K v s
 | .ext x n => ac (Aa n (peE l ρ x)) fun v => K v s
 | .lenk n => K (.int .i64 n) s
 | .len q x => ac (V.slen q (peE l ρ x)) fun n => K (.int .i64 n) s
 | .slc e x lo hi mx => ac (dE e (peO l ρ lo) (peO l ρ hi) (peO l ρ mx) (peE l ρ x)) fun v => K v s
 | .slarr t n e x lo hi mx => ac (rZ s t n e (peO l ρ lo) (peO l ρ hi) (peO l ρ mx) (peE l ρ x)) fun v => K v s
 | .eq neg t x y => ac (eqv neg t (peE l ρ x) (peE l ρ y)) fun v => K v s
 | .mkfn f caps => ac (vQ f (peL l ρ caps)) fun v => K v s
 | .slstr x lo hi => ac (sg (peO l ρ lo) (peO l ρ hi) (peE l ρ x)) fun v => K v s
 | .mksl h r e z n c => ac (yh h r e z s (peE l ρ n) (peE l ρ c)) fun x => K x.1 x.2
 | .app h r e x y => ac (aJ base h r e (peE l ρ x) (peE l ρ y) s) fun x => K x.1 x.2
 | .bsl h r e z n ps => ac (zG h r e n z s (peP l ρ ps)) fun x => K x.1 x.2
 | .cpy e x y => ac (eY base e (peE l ρ x) (peE l ρ y) s) fun x => K x.1 x.2
 | .mnx mx x y => ac (jk mx (peE l ρ x) (peE l ρ y)) fun v => K v s
 | .bld (.agg t l3) ps => ac (aO l3 (peP l ρ ps)) fun l' => K (.agg t l') s
 | .call (.k (.fn f [])) args => ac (rf D f (peL l ρ args) s) fun x => K x.1 x.2
 | .call f args => ac (vU D (peL l ρ args) s (peE l ρ f)) fun x => K x.1 x.2
 | .pcall (.k (.fn f [])) args => ac (pw D (bd base (peL l ρ args)) base f (peL l ρ args) s) fun v => K v s
 | .pcall f args => ac (uY D base (peL l ρ args) s (peE l ρ f)) fun v => K v s
 | .sta t p x l2 => ac (zo base s t (peE l ρ x) (peE l ρ p) (peL l ρ l2)) fun s' => K .dead s'
 | .callw f args w => ac (sj D (peL l ρ args) s (peE l ρ w) (peE l ρ f)) fun x => K x.1 x.2
 | .lda t p r => ac (yT s t (peE l ρ p) (peE l ρ r)) fun v => K v s
 | .callk p (.k (.fn f [])) args => ac (vg D p (bd base (peL l ρ args)) base f (peL l ρ args) s) fun x => K x.1 x.2
 | .callk p f args => ac (vf D p base (peL l ρ args) s (peE l ρ f)) fun x => K x.1 x.2
 | .ldl t p => ac (Aw s t (peE l ρ p)) fun v => K v s
 | .mkm => K (.mp (some s.hp.length)) ⟨s.loc, s.hp ++ [.mp []]⟩
 | .mlk x i => ac (iu (peE l ρ x) (peE l ρ i) s) fun v => K v s
 | .mup x i y => ac (eK (peE l ρ x) (peE l ρ i) (peE l ρ y) s) fun s' => K .dead s'
 | .appa h r e x y l2 => ac (u4 base h r e s (peE l ρ x) (peE l ρ y) (peL l ρ l2)) fun x => K x.1 x.2
 | _ => none
noncomputable abbrev pe (D : Nat → Option Fc) (base : Nat) (ks : List Nat) : List Op → List (Nat × Option (Option Bool)) → List (Nat × V) → Env → St → OR
 | [], _, l, ρ, s => some (.normal, peR l ρ ks, s)
 | ⟨d, none, o⟩ :: r, g, l, ρ, s => pe1 D base g l ρ s o fun v s' => pe D base ks r (qx d (peW g o) g) (pW d v l) ρ s'
 | ⟨d, some (t, x), o⟩ :: r, g, l, ρ, s => match peK g t with
  | none => hZ (peG l ρ t) x
   (pe1 D base ((t, some (some x)) :: g) ((t, .bool x) :: l) ρ s o fun v s' => pe D base ks r (qx d (peW ((t, some (some x)) :: g) o) ((t, some (some x)) :: g)) (pW d v ((t, .bool x) :: l)) ρ s')
   (pe D base ks r (qx d (some none) ((t, some (some (peN x))) :: g)) (pW d (.tup []) ((t, .bool (peN x)) :: l)) ρ s)
   (pe D base ks r (qx d (some none) ((t, some none) :: g)) (pW d (.tup []) ((t, .tup []) :: l)) ρ s)
  | some none => pe D base ks r (qx d (some none) g) (pW d (.tup []) l) ρ s
  | some (some y) => match peB x y with
   | true => pe1 D base g l ρ s o fun v s' => pe D base ks r (qx d (peW g o) g) (pW d v l) ρ s'
   | false => pe D base ks r (qx d (some none) g) (pW d (.tup []) l) ρ s
noncomputable abbrev peC (D : Nat → Option Fc) (base : Nat) (ρ : Env) (s : St) : C → OR
 | .reg (some ks) l => pe D base ks l [] [] ρ s
 | .regd (some ks) l => pe D base ks l [] [] ρ s
 | _ => none
abbrev mw {β : Type} (x : Nat) (k : Nat → β) : β := match x with
 | 0 => k 0
 | n + 1 => k (Nat.succ n)
abbrev dN {β : Type} : Nat → Nat → (Nat → Nat → β) → β
 | 0, x, k => k 0 x
 | f + 1, x, k => mw (Nat.mod x 16) fun m => mw (Nat.div x 16) fun y => match Nat.ble 8 m with
  | false => k m y
  | true => dN f y fun v z => mw (Nat.add (Nat.sub m 8) (Nat.mul 8 v)) fun w => k w z
abbrev pV {α : Type} (d : α) : List α → Nat → α
 | [], _ => d
 | a :: l, n => match n with
  | 0 => a
  | n + 1 => pV d l n
abbrev dB {β : Type} (x : Nat) (k : Bool → Nat → β) : β := dN 30 x fun n x => match Nat.beq n 0 with
 | true => k false x
 | false => k true x
abbrev J3 {α β : Type} (p : Nat → (α → Nat → β) → β) : Nat → Nat → (List α → Nat → β) → β
 | 0, x, k => k [] x
 | n + 1, x, k => p x fun a x => J3 p n x fun l x => k (a :: l) x
abbrev jH {α β : Type} (p : Nat → (α → Nat → β) → β) (x : Nat) (k : List α → Nat → β) : β := dN 30 x fun n x => J3 p n x k
abbrev dKs {β : Type} : Nat → Nat → Nat → (List Nat → Nat → β) → β
 | 0, _, x, k => k [] x
 | n + 1, p, x, k => dN 30 x fun v x => mw (Nat.add p v) fun v => dKs n v x fun l x => k (v :: l) x
abbrev dIK (i : Nat) : IntKind := pV .u64 [.i8, .i16, .i32, .i64, .u8, .u16, .u32] i
abbrev dBO (i : Nat) : BinOp := pV .geq [.add, .sub, .mul, .quo, .rem, .and, .or, .xor, .shl, .shr, .andNot, .eql, .neq, .lss, .leq, .gtr] i
abbrev dUO (i : Nat) : UnOp := pV .plus [.neg, .xor, .not] i
abbrev dV {β : Type} : Nat → Nat → (V → Nat → β) → β
 | 0, x, k => k .dead x
 | f + 1, x, k => dN 30 x fun t x => pV (k .dead x) [
  k (.bool false) x,
  k (.bool true) x,
  dN 30 x fun n x => k (.int .i64 (Int.ofNat n)) x,
  dN 30 x fun n x => k (.int .i64 (-(Int.ofNat n))) x,
  dN 30 x fun i x => dN 30 x fun n x => k (.int (dIK i) (Int.ofNat n)) x,
  k .nilp x,
  k .nils x,
  k .nilf x,
  dN 30 x fun t x => jH (dV f) x fun l x => k (.agg t l) x,
  dN 30 x fun t x => dN 30 x fun n x => dV f x fun v x => k (.agg t (List.replicate n v)) x,
  dN 30 x fun g x => k (.fn g []) x,
  dN 30 x fun i x => dN 30 x fun t x => k (.ptr (.hp i) [] t) x,
  jH (dN 30) x fun l x => k (.str ⟨⟨l.map UInt8.ofNat⟩⟩) x,
  k .dead x,
  dN 30 x fun i x => dN 30 x fun n x => k (.int (dIK i) (-(Int.ofNat n))) x,
  k (.mp none) x] t
abbrev dO {β : Type} (d x : Nat) (k : Opd → Nat → β) : β := dN 30 x fun e x => match e with
 | 0 => dV 9 x fun v x => k (.k v) x
 | e + 1 => match Nat.beq (Nat.mod e 2) 0 with
  | true => mw (Nat.sub d (Nat.div e 2)) fun t => k (.t t) x
  | false => mw (Nat.div e 2) fun t => k (.t t) x
abbrev dOo {β : Type} (d x : Nat) (k : Option Opd → Nat → β) : β := dN 30 x fun e x => match Nat.beq e 0 with
 | true => k none x
 | false => dO d x fun o x => k (some o) x
abbrev Ka {β : Type} (d x : Nat) (k : Nat × Opd → Nat → β) : β := dN 30 x fun i x => dO d x fun o x => k (i, o) x
abbrev dOp {β : Type} (d : Nat) (c : Nat) (x : Nat) (k : Op' → Nat → β) : β := pV (dO d x fun a x => dO d x fun b x => dO d x fun c x => k (.mup a b c) x) [
 dO d x fun a x => k (.mv a) x,
 dN 30 x fun o x => dO d x fun a x => dO d x fun b x => k (.bin (dBO o) a b) x,
 dN 30 x fun t x => dN 30 x fun f x => dN 30 x fun u x => dO d x fun a x => k (.fad t f u a) x,
 dN 30 x fun t x => dO d x fun a x => k (.ld t a) x,
 dO d x fun a x => k (.nilc a) x,
 dO d x fun f x => jH (dO d) x fun l x => k (.call f l) x,
 dN 30 x fun t x => dO d x fun a x => dO d x fun b x => k (.st t a b) x,
 dO d x fun a x => dN 30 x fun i x => k (.ext a i) x,
 dO d x fun c x => dO d x fun a x => dO d x fun b x => k (.pick c a b) x,
 dN 30 x fun t x => dN 30 x fun n x => dN 30 x fun e x => dO d x fun a x => dO d x fun b x => k (.iad t n e a b) x,
 dB x fun h x => dV 9 x fun z x => k (.alloc h z) x,
 dV 9 x fun z x => jH (Ka d) x fun l x => k (.bld z l) x,
 dB x fun h x => dO d x fun a x => k (.box h a) x,
 dN 30 x fun e x => dO d x fun a x => dO d x fun b x => k (.sad e a b) x,
 dB x fun q x => dO d x fun a x => k (.len q a) x,
 dN 30 x fun i x => dO d x fun a x => k (.conv (dIK i) a) x,
 dN 30 x fun i x => dO d x fun a x => k (.un (dUO i) a) x,
 dB x fun h x => dN 30 x fun r x => dN 30 x fun e x => dV 9 x fun z x => dN 30 x fun n x => jH (Ka d) x fun l x => k (.bsl h r e z n l) x,
 dB x fun h x => dN 30 x fun r x => dN 30 x fun e x => dO d x fun a x => dO d x fun b x => k (.app h r e a b) x,
 dB x fun g x => dN 30 x fun t x => dO d x fun a x => dO d x fun b x => k (.eq g t a b) x,
 dN 30 x fun t x => dN 30 x fun n x => dO d x fun a x => dO d x fun b x => k (.idx t n a b) x,
 dN 30 x fun t x => dN 30 x fun n x => dN 30 x fun e x => dO d x fun a x => dOo d x fun l x => dOo d x fun h x => dOo d x fun m x => k (.slarr t n e a l h m) x,
 dB x fun p x => dO d x fun f x => jH (dO d) x fun l x => k (.callk p f l) x,
 dN 30 x fun t x => dO d x fun a x => k (.ldl t a) x,
 dO d x fun f x => jH (dO d) x fun l x => k (.pcall f l) x,
 dN 30 x fun t x => dO d x fun a x => dO d x fun b x => jH (dO d) x fun l x => k (.sta t a b l) x,
 dN 30 x fun e x => dO d x fun a x => dOo d x fun l x => dOo d x fun h x => dOo d x fun m x => k (.slc e a l h m) x,
 dB x fun h x => dN 30 x fun r x => dN 30 x fun e x => dV 9 x fun z x => dO d x fun a x => dO d x fun b x => k (.mksl h r e z a b) x,
 dN 30 x fun t x => dO d x fun a x => dO d x fun b x => k (.lda t a b) x,
 dB x fun m x => dO d x fun a x => dO d x fun b x => k (.mnx m a b) x,
 dB x fun h x => dN 30 x fun r x => dN 30 x fun e x => dO d x fun a x => dO d x fun b x => jH (dO d) x fun l x => k (.appa h r e a b l) x,
 dN 30 x fun n x => dN 30 x fun e x => dO d x fun a x => k (.s2a n e a) x,
 dN 30 x fun t x => dN 30 x fun n x => dN 30 x fun e x => dN 30 x fun u x => dO d x fun a x => k (.ldr t n e u a) x,
 dO d x fun f x => jH (dO d) x fun l x => dO d x fun w x => k (.callw f l w) x,
 dN 30 x fun t x => dN 30 x fun f x => dO d x fun a x => k (.fld t f a) x,
 dO d x fun a x => dO d x fun b x => k (.sidx a b) x,
 dN 30 x fun n x => k (.lenk n) x,
 dO d x fun a x => dOo d x fun l x => dOo d x fun h x => k (.slstr a l h) x,
 dN 30 x fun f x => jH (dO d) x fun l x => k (.mkfn f l) x,
 dN 30 x fun e x => dO d x fun a x => dO d x fun b x => k (.cpy e a b) x,
 k .mkm x,
 dO d x fun a x => dO d x fun b x => k (.mlk a b) x] c
abbrev Pm {β : Type} (m d x : Nat) (k : Option Nat → Nat → Nat → β) : β := pV (dN 30 x fun e x => match Nat.ble e d with
 | true => k (some e) d x
 | false => k (some e) e x) [mw (Nat.add d 1) fun d => k (some d) d x, k none d x] m
abbrev dGd {β : Type} (m : Nat) (g : Option (Nat × Bool)) (x : Nat) (k : Option (Nat × Bool) → Option (Nat × Bool) → Nat → β) : β := pV (dN 30 x fun e x => match Nat.beq (Nat.mod e 2) 0 with
 | true => mw (Nat.div e 2) fun t => k (some (t, false)) (some (t, false)) x
 | false => mw (Nat.div e 2) fun t => k (some (t, true)) (some (t, true)) x) [k none g x, k g g x] m
abbrev Nz {β : Type} : Nat → Nat → Option (Nat × Bool) → Nat → (List Op → Nat → β) → β
 | 0, _, _, x, k => k [] x
 | n + 1, d, g, x, k => dN 30 x fun h x => Pm (Nat.mod h 3) d x fun od d' x => dGd (Nat.mod (Nat.div h 3) 3) g x fun og g' x => dOp d (Nat.div h 9) x fun o x => Nz n d' g' x fun l x => k (⟨od, og, o⟩ :: l) x
abbrev dR (x : Nat) : C := dN 30 x fun a x => dN 30 x fun n x => dKs n 0 x fun ks x => Nz (Nat.div a 2) 0 none x fun l _ => match Nat.beq (Nat.mod a 2) 0 with
 | true => .reg (some ks) l
 | false => .regd (some ks) l
abbrev sn : List Nat → Nat → Nat
 | [], _ => 0
 | a :: _, 0 => a
 | _ :: l, n + 1 => sn l n
def rgn (r : List Nat) (k : Nat) : C := dR (sn r k)
abbrev Ou : List C → Nat → C
 | [], _ => .skip
 | a :: _, 0 => a
 | _ :: l, n + 1 => Ou l n
abbrev dC {β : Type} (r : List Nat) (bs : List C) : Nat → Nat → Nat → (C → Nat → Nat → β) → β
 | 0, n, x, k => k .skip n x
 | f + 1, n, x, k => dN 30 x fun c x => pV (dC r bs f n x fun a n x => k (.scope a) n x) [
  mw (Nat.add n 1) fun m => k (rgn r n) m x,
  dC r bs f n x fun a n x => dC r bs f n x fun b n x => k (.seq a b) n x,
  dO 0 x fun o x => dC r bs f n x fun a n x => dC r bs f n x fun b n x => k (.cond o a b) n x,
  k .skip n x,
  k .ret n x,
  dN 30 x fun i x => dC r bs f n x fun a n x => k (.block i a) n x,
  dN 30 x fun m x => dKs m 0 x fun ks x => dN 30 x fun i x => k (.loop ks (Ou bs i)) n x,
  dN 30 x fun i x => k (.exit i) n x,
  dN 30 x fun i x => mw (Nat.add i 1) fun m => k (rgn r i) m x,
  dN 30 x fun i x => k (.label i) n x] c
abbrev dRV {β : Type} (x : Nat) (k : RV → Nat → β) : β := dN 30 x fun c x => dN 30 x fun a x => match Nat.beq c 0 with
 | true => k (.t a) x
 | false => dN 30 x fun t x => k (.cell a t) x
abbrev dF (r : List Nat) (bs : List C) (x : Nat) : Fc := dN 30 x fun n x => jH dRV x fun l x => dC r bs 999 0 x fun c _ _ => ⟨n, c, l⟩
structure HdP {α : Sort _} (a r : α) : Prop where
 h : a = r
@[reducible] def vC (r : List Nat) (bs : List C) (x : Nat) {c : C} (_h : HdP (dC r bs 999 0 x fun c _ _ => c) c := by (with_reducible conv => arg 1; reduce); (try dsimp only [Int.reduceOfNat, Nat.reduceSucc]); exact ⟨rfl⟩) : C := c
@[reducible] def vF (r : List Nat) (bs : List C) (x : Nat) {c : Fc} (_h : HdP (dF r bs x) c := by (with_reducible conv => arg 1; reduce); (try dsimp only [Int.reduceOfNat, Nat.reduceSucc]); exact ⟨rfl⟩) : Fc := c
attribute [go_sem] vC vF
noncomputable abbrev rgC (D : Nat → Option Fc) (b : Nat) (ρ : Env) (s : St) : C → OR
 | .reg (some ks) l => rgO D b ks l ρ s
 | .regd (some ks) l => rgO D b ks l ρ s
 | c => rc D b c ρ s
theorem Hd {b : Nat} : ∀ {c : C}, rc D b c ρ s = rgC D b ρ s c
 | .reg (some _) _ => Jq
 | .regd (some _) _ => Fi
 | .reg none _ | .regd none _ | .skip | .seq _ _ | .cond _ _ _ | .block _ _ | .loop _ _ | .exit _ | .scope _ | .label _ | .ret => rfl
noncomputable abbrev vG (D : Nat → Option Fc) (b : Nat) (ρ : Env) (s : St) : Nat → List Nat → List (Nat × OR)
 | _, [] => []
 | k, x :: l => (k, peC D b ρ s (dR x)) :: mw (Nat.add k 1) fun k => vG D b ρ s k l
abbrev cjl (D : Nat → Option Fc) (b : Nat) (ρ : Env) (s : St) (r : List Nat) : List (Nat × OR) → Prop
 | [] => True
 | [(k, x)] => rc D b (rgn r k) ρ s = x
 | (k, x) :: y :: l => rc D b (rgn r k) ρ s = x ∧ cjl D b ρ s r (y :: l)
@[reducible] def ZA (D : Nat → Option Fc) (b : Nat) (ρ : Env) (s : St) (r : List Nat) {l : List (Nat × OR)} (_h : HdP (vG D b ρ s 0 r) l := by (conv => arg 1; arg 6; whnf); (with_reducible conv => arg 1; reduce); (try dsimp only [Int.reduceOfNat, Nat.reduceSucc, oif]); exact ⟨rfl⟩) {P : Prop} (_h2 : HdP (cjl D b ρ s r l) P := by dsimp only [cjl]; exact ⟨rfl⟩) : Prop := P
theorem JV {b : Nat} {r : List Nat} : ∀ {l : List Nat} {k : Nat}, (∀ j, j < l.length → sn r (k + j) = sn l j) → (l.map fun x => rgC D b ρ s (dR x)) = (l.map fun x => peC D b ρ s (dR x)) → cjl D b ρ s r (vG D b ρ s k l)
 | [], _, _, _ => trivial
 | [x], k, h, e => by
  have h0 := h 0 (by simp);simp only [List.map_cons, List.cons.injEq] at e;show rc D b (dR (sn r k)) ρ s = _;rw [show sn r k = x from h0, Hd]; exact e.1
 | x :: y :: l, k, h, e => by
  have h0 := h 0 (by simp);simp only [List.map_cons, List.cons.injEq] at e;have h1 := JV (b := b) (r := r) (l := y :: l) (k := k + 1) (fun j hj => by
   have := h (j + 1) (by simpa using hj);rw [show k + 1 + j = k + (j + 1) by omega]; exact this) (by simpa using e.2)
  show rc D b (rgn r k) ρ s = peC D b ρ s (dR x) ∧ cjl D b ρ s r (vG D b ρ s (k + 1) (y :: l));refine ⟨?_, h1⟩;show rc D b (dR (sn r k)) ρ s = _;rw [show sn r k = x from h0, Hd]; exact e.1
theorem za {b : Nat} {r : List Nat} {l : List (Nat × OR)} {h : HdP (vG D b ρ s 0 r) l} {P : Prop} {h2 : HdP (cjl D b ρ s r l) P} (e : (r.map fun x => rgC D b ρ s (dR x)) = (r.map fun x => peC D b ρ s (dR x)) := by kernel_rfl) : @ZA D b ρ s r l h P h2 := by
 have := JV (k := 0) (fun j _ => by rw [Nat.zero_add]) e;rw [h.h, h2.h] at this; exact this
def lkT : List (Nat × Fc) → Nat → Option Fc
 | [], _ => none
 | p :: l, g => match Nat.beq p.1 g with
  | true => some p.2
  | false => lkT l g
theorem Cs : ∀ {l : List (Nat × Fc)} {g : Nat} {fc : Fc}, lkT l g = some fc → (g, fc) ∈ l
 | [], _, _, h => by cases h
 | p :: l, g, fc, h => by
  simp only [lkT] at h;split at h
  ·rename_i e;cases h;rw [← Nat.eq_of_beq_eq_true e];exact List.mem_cons_self
  ·exact List.mem_cons_of_mem _ (Cs h)
theorem BS {l : List (Nat × Fc)} {p : Nat → Fc → Bool} (h : (l.all fun x => p x.1 x.2) = true) {g : Nat} {fc : Fc} (hg : lkT l g = some fc) : p g fc = true := List.all_eq_true.1 h _ (Cs hg)
end Go.Ab
