/-
  YtmimfopnhmmlbaaGreatDoorAbF: an abstract semantics of the program's code, and that what it tells holds of the program (part F).
-/
import Derived.Test.YtmimfopnhmmlbaaGreatDoorAbD
import Derived.Test.YtmimfopnhmmlbaaGreatDoorAbC
import Derived.OpenShut
import Derived.FnData
set_option maxRecDepth 100000
namespace Go.Ab
structure Sft where
 g : List Blk
 l : List Blk
 h : List Blk
def Sft.a (F : Sft) : Loc → Loc
 | .loc i => .loc (i + F.l.length)
 | .hp i => if i < F.g.length then .hp i else .hp (i + F.h.length)
def Sft.j (F : Sft) (i : Nat) : Nat := if i < F.g.length then i else i + F.h.length
theorem qh {F : Sft} {i : Nat} : F.a (.hp i) = .hp (F.j i) := by
 simp only [Sft.a, Sft.j];split <;> rfl
mutual
def Sft.v (F : Sft) : V → V
 | .mp (some i) => .mp (some (F.j i))
 | .ptr a p t => .ptr (F.a a) p t
 | .sl a p o l c e => .sl (F.a a) p o l c e
 | .fn f caps => .fn f (F.vs caps)
 | .agg t l => .agg t (F.vs l)
 | .tup l => .tup (F.vs l)
 | v => v
def Sft.vs (F : Sft) : List V → List V
 | [] => []
 | v :: l => F.v v :: F.vs l
end
def Sft.b (F : Sft) : Blk → Blk
 | .dead => .dead
 | .ro v => .ro (F.v v)
 | .rw v => .rw (F.v v)
 | .mp l => .mp l
def Sft.s (F : Sft) (s : St) : St := ⟨F.l ++ s.loc.map F.b, F.g ++ F.h ++ (s.hp.drop F.g.length).map F.b⟩
def Sft.e (F : Sft) (ρ : Env) : Env := ρ.map fun p => (p.1, F.v p.2)
structure Sft.Ok (F : Sft) : Prop where
 ro : ∀ b ∈ F.g, ∃ v, b = .ro v ∧ v.flat = true
def Sft.In (F : Sft) (s : St) : Prop := s.hp.take F.g.length = F.g
section
variable {F : Sft}
theorem aA : ∀ (l : List V), F.vs l = l.map F.v
 | [] => by simp [Sft.vs]
 | v :: l => by simp [Sft.vs, aA l]
theorem l9 (ρ : Env) : F.e ρ = ρ.map fun p => (p.1, F.v p.2) := rfl
mutual
theorem cR : ∀ {v : V}, v.flat = true → F.v v = v
 | .ptr _ _ _, h => by simp [V.flat] at h
 | .sl _ _ _ _ _ _, h => by simp [V.flat] at h
 | .fn f caps, h => by simp only [V.flat] at h; simp only [Sft.v, fa h]
 | .agg t l, h => by simp only [V.flat] at h; simp only [Sft.v, fa h]
 | .tup l, h => by simp only [V.flat] at h; simp only [Sft.v, fa h]
 | .mp (some _), h => by simp [V.flat] at h
 | .mp none, _ => by simp [Sft.v]
 | .dead, _ | .bool _, _ | .int _ _, _ | .str _, _ | .nilp, _ | .nils, _ | .nilf, _ => by simp [Sft.v]
theorem fa : ∀ {l : List V}, V.flats l = true → F.vs l = l
 | [], _ => by simp [Sft.vs]
 | v :: l, h => by
  simp only [V.flats, Bool.and_eq_true] at h;simp only [Sft.vs, cR h.1, fa h.2]
end
theorem yR {v : V} (h : v.clos F.g.length = true) : F.v v = v := by
 unfold V.clos at h;split at h
 ·simp only [decide_eq_true_eq] at h;simp only [Sft.v, Sft.a, if_pos h]
 ·exact cR h
mutual
theorem pn {b : Nat} : ∀ (v : V), (F.v v).locLt (b + F.l.length) = v.locLt b
 | .ptr (.loc i) _ _ => by simp [Sft.v, Sft.a, V.locLt]
 | .ptr (.hp i) _ _ => by simp only [Sft.v, Sft.a]; split <;> simp [V.locLt]
 | .sl (.loc i) _ _ _ _ _ => by simp [Sft.v, Sft.a, V.locLt]
 | .sl (.hp i) _ _ _ _ _ => by simp only [Sft.v, Sft.a]; split <;> simp [V.locLt]
 | .fn f caps => by simp only [Sft.v, V.locLt, lM caps]
 | .agg t l => by simp only [Sft.v, V.locLt, lM l]
 | .tup l => by simp only [Sft.v, V.locLt, lM l]
 | .mp (some _) | .mp none => by simp [Sft.v, V.locLt]
 | .dead | .bool _ | .int _ _ | .str _ | .nilp | .nils | .nilf => by simp [Sft.v, V.locLt]
theorem lM {b : Nat} : ∀ (l : List V), V.locLts (b + F.l.length) (F.vs l) = V.locLts b l
 | [] => by simp [Sft.vs, V.locLts]
 | v :: l => by simp only [Sft.vs, V.locLts, pn v, lM l]
end
mutual
theorem eG : ∀ (v : V), (F.v v).locLt 0 = v.locLt 0
 | .ptr (.loc i) _ _ => by simp [Sft.v, Sft.a, V.locLt]
 | .ptr (.hp i) _ _ => by simp only [Sft.v, Sft.a]; split <;> simp [V.locLt]
 | .sl (.loc i) _ _ _ _ _ => by simp [Sft.v, Sft.a, V.locLt]
 | .sl (.hp i) _ _ _ _ _ => by simp only [Sft.v, Sft.a]; split <;> simp [V.locLt]
 | .fn f caps => by simp only [Sft.v, V.locLt, ft caps]
 | .agg t l => by simp only [Sft.v, V.locLt, ft l]
 | .tup l => by simp only [Sft.v, V.locLt, ft l]
 | .mp (some _) | .mp none => by simp [Sft.v, V.locLt]
 | .dead | .bool _ | .int _ _ | .str _ | .nilp | .nils | .nilf => by simp [Sft.v, V.locLt]
theorem ft : ∀ (l : List V), V.locLts 0 (F.vs l) = V.locLts 0 l
 | [] => by simp [Sft.vs, V.locLts]
 | v :: l => by simp only [Sft.vs, V.locLts, eG v, ft l]
end
theorem kB {o : Option Nat} : F.v (.mp o) = .mp (o.map F.j) := by cases o <;> simp [Sft.v]
theorem dY (v : V) : (F.v v).tag = v.tag := by
 cases v with
 | mp o => rw [kB]; rfl
 | _ => rfl
theorem uM (v : V) : (F.v v).ok = v.ok := by
 cases v with
 | mp o => rw [kB]; rfl
 | _ => rfl
theorem nI {h : Bool} (v : V) : aQ h (F.v v) = aQ h v := by simp only [aQ, eG]
theorem jb : ∀ (ρ : Env) (t : Nat), get (F.e ρ) t = F.v (get ρ t)
 | [], _ => rfl
 | (k, v) :: r, t => by
  simp only [l9, List.map_cons, get];split
  ·rfl
  ·exact jb r t
theorem kz (ks : List Nat) (ρ : Env) : restrict ks (F.e ρ) = F.e (restrict ks ρ) := by
 simp only [restrict, l9, List.map_map];apply List.map_congr_left;intro k _;simp only [Function.comp];rw [← l9, jb]
theorem uw (k : Option (List Nat)) (ρ : Env) : iO k (F.e ρ) = F.e (iO k ρ) := by
 cases k with
 | none => rfl
 | some ks => exact kz ks ρ
theorem E4 (d : Option Nat) (v : V) (ρ : Env) : put d (F.v v) (F.e ρ) = F.e (put d v ρ) := by cases d <;> rfl
theorem vr : ∀ (l : List V) (i : Nat), dJ i (l.map F.v) = F.e (dJ i l)
 | [], _ => rfl
 | v :: l, i => by simp only [List.map_cons, dJ, vr l, l9]
theorem af {ρ : Env} {x : Opd} (h : x.clos F.g.length = true) : x.ev (F.e ρ) = F.v (x.ev ρ) := by
 cases x with
 | t n => exact jb ρ n
 | k v => exact (yR h).symm
theorem uN : ∀ {p : List Nat} {v u : V}, V.at p v = some u → V.at p (F.v v) = some (F.v u)
 | [], v, u, h => by simp only [V.at, Option.some.injEq] at h ⊢; rw [h]
 | i :: p, v, u, h => by
  cases v with
  | agg t l =>
   simp only [V.at] at h;cases hy : l[i]? with
   | none => rw [hy] at h; cases h
   | some y =>
    rw [hy] at h;simp only [Sft.v, V.at, aA, List.getElem?_map, hy, Option.map_some];exact uN h
  | _ => cases h
theorem pw : ∀ {p : List Nat} {x v u : V}, V.setAt p x v = some u → V.setAt p (F.v x) (F.v v) = some (F.v u)
 | [], x, v, u, h => by simp only [V.setAt, Option.some.injEq] at h ⊢; rw [h]
 | i :: p, x, v, u, h => by
  cases v with
  | agg t l =>
   simp only [V.setAt] at h;cases hy : l[i]? with
   | none => rw [hy] at h; cases h
   | some y =>
    rw [hy] at h;simp only at h;cases hq : V.setAt p x y with
    | none => rw [hq] at h; cases h
    | some y' =>
     rw [hq] at h;simp only [Option.some.injEq] at h;subst h;simp only [Sft.v, V.setAt, aA, List.getElem?_map, hy, Option.map_some, pw hq, List.map_set]
  | _ => cases h
theorem In.len {s : St} (h : F.In s) : F.g.length ≤ s.hp.length := by
 have := congrArg List.length h;simp at this;omega
theorem pJ (hF : F.Ok) {s : St} (hs : F.In s) {a : Loc} {b : Blk} (h : s.at a = some b) : (F.s s).at (F.a a) = some (F.b b) := by
 cases a with
 | loc i =>
  simp only [St.at] at h;simp only [Sft.a, St.at, Sft.s];rw [List.getElem?_append_right (by omega), Nat.add_sub_cancel, List.getElem?_map, h]; rfl
 | hp i =>
  simp only [St.at] at h;have hl := In.len hs;simp only [Sft.a];by_cases hi : i < F.g.length
  ·rw [if_pos hi];simp only [St.at, Sft.s];have hg : F.g[i]? = some b := by
    rw [← hs, List.getElem?_take, if_pos hi]; exact h
   rw [List.append_assoc, List.getElem?_append_left hi, hg];obtain ⟨v, rfl, hv⟩ := hF.ro b (List.mem_of_getElem? hg);simp only [Sft.b, cR hv]
  ·rw [if_neg hi];simp only [St.at, Sft.s];rw [List.getElem?_append_right (by simp; omega)];have e : i + F.h.length - (F.g ++ F.h).length = i - F.g.length := by simp; omega
   rw [e, List.getElem?_map, List.getElem?_drop, show F.g.length + (i - F.g.length) = i by omega, h]; rfl
theorem db (hF : F.Ok) {s : St} (hs : F.In s) {a : Loc} {p : List Nat} {u : V} (h : s.read a p = some u) : (F.s s).read (F.a a) p = some (F.v u) := by
 unfold St.read at h ⊢;cases hb : s.at a with
 | none => rw [hb] at h; cases h
 | some b =>
  rw [hb] at h;rw [pJ hF hs hb];cases b with
  | dead => cases h
  | mp v => cases h
  | ro v => exact uN h
  |rw v => exact uN h
theorem Qq (hF : F.Ok) {s : St} (hs : F.In s) {i : Nat} {v : Blk} (h : s.hp[i]? = some v) (hm : v.mut = true) : F.g.length ≤ i := by
 apply Classical.byContradiction;intro hi;have hg : F.g[i]? = some v := by rw [← hs, List.getElem?_take, if_pos (by omega)]; exact h
 obtain ⟨_, h1, _⟩ := hF.ro _ (List.mem_of_getElem? hg);subst h1;cases hm
theorem Hw (hF : F.Ok) {s : St} (hs : F.In s) {a : Loc} {v : Blk} (h : s.at a = some v) (hm : v.mut = true) (b : Blk) : F.s (s.set a b) = (F.s s).set (F.a a) (F.b b) ∧ F.In (s.set a b) := by
 cases a with
 | loc i =>
  refine ⟨?_, hs⟩;simp only [St.set, Sft.s, Sft.a, List.map_set];rw [List.set_append_right _ _ (by omega), Nat.add_sub_cancel]
 | hp i =>
  have hi := Qq hF hs h hm;have hl := In.len hs;constructor
  ·simp only [St.set, Sft.s, Sft.a];rw [if_neg (by omega)];simp only [St.mk.injEq, true_and];rw [List.set_append_right _ _ (by simp; omega)];have e : i + F.h.length - (F.g ++ F.h).length = i - F.g.length := by simp; omega
   rw [e, List.drop_set, if_neg (by omega), List.map_set]
  ·simp only [Sft.In, St.set];rw [List.take_set_of_le hi];exact hs
theorem qj (hF : F.Ok) {s : St} (hs : F.In s) {a : Loc} {v : V} (h : s.at a = some (.rw v)) (b : Blk) : F.s (s.set a b) = (F.s s).set (F.a a) (F.b b) ∧ F.In (s.set a b) := Hw hF hs h rfl b
theorem lL (hF : F.Ok) {base : Nat} {s s' : St} (hs : F.In s) {a : Loc} {p : List Nat} {x : V} (h : s.write base a p x = some s') : (F.s s).write (base + F.l.length) (F.a a) p (F.v x) = some (F.s s') ∧ F.In s' := by
 unfold St.write at h ⊢;cases hb : s.at a with
 | none => rw [hb] at h; cases h
 | some b =>
  rw [hb] at h;rw [pJ hF hs hb];cases b with
  | dead => cases h
  | mp v => cases h
  | ro v => cases h
  |rw v =>
   simp only at h;by_cases hm : cY base a x = true
   ·rw [if_pos hm] at h;have hm' : cY (base + F.l.length) (F.a a) (F.v x) = true := by
     cases a with
     | loc i => simp only [cY, Sft.a, eG] at hm ⊢; simpa using hm
     | hp i =>
      have h0 : x.locLt 0 = true := hm;simp only [Sft.a];split <;> (simp only [cY, eG]; exact h0)
    cases hq : V.setAt p x v with
    | none => rw [hq] at h; cases h
    | some v' =>
     rw [hq] at h;simp only [Option.some.injEq] at h;subst h;obtain ⟨g1, g2⟩ := qj hF hs hb (.rw v');refine ⟨?_, g2⟩;simp only [Sft.b, if_pos hm', pw hq];rw [g1]; rfl
   ·rw [if_neg hm] at h; cases h
theorem kH {s : St} (hs : F.In s) (h : Bool) (v : V) : F.s (s.new h v) = (F.s s).new h (F.v v) ∧ (F.s s).fresh h = F.a (s.fresh h) ∧ F.In (s.new h v) := by
 have hl := In.len hs;cases h with
 | false =>
  refine ⟨?_, ?_, hs⟩
  ·simp [St.new, Sft.s, Sft.b]
  ·simp only [St.fresh, Sft.s, Sft.a];simp; omega
 | true =>
  refine ⟨?_, ?_, ?_⟩
  ·simp only [St.new, Sft.s, if_true];rw [List.drop_append_of_le_length hl, List.map_append, ← List.append_assoc]; rfl
  ·simp only [St.fresh, Sft.s, Sft.a, if_true];rw [if_neg (by omega)];simp; omega
  ·simp only [Sft.In, St.new, if_true];rw [List.take_append_of_le_length hl];exact hs
theorem KK {s : St} (hs : F.In s) (n : Nat) : F.s { s with loc := s.loc.take n } = { F.s s with loc := (F.s s).loc.take (n + F.l.length) } ∧ F.In { s with loc := s.loc.take n } := by
 refine ⟨?_, hs⟩;simp only [Sft.s, St.mk.injEq, and_true];rw [List.take_append (l₁ := F.l), List.take_of_length_le (l := F.l) (by omega), Nat.add_sub_cancel, List.map_take]
theorem vo (s : St) : (F.s s).loc.length = s.loc.length + F.l.length := by simp [Sft.s]; omega
end
end Go.Ab
namespace Go.Ab
variable {F : Sft}
mutual
theorem wE : ∀ {x y : V} {b : Bool}, veq x y = some b → veq (F.v x) (F.v y) = some b
 | .bool _, y, b, h => by cases y <;> simp [veq, Sft.v] at h ⊢; exact h
 | .int _ _, y, b, h => by cases y <;> simp [veq, Sft.v] at h ⊢; exact h
 | .str _, y, b, h => by cases y <;> simp [veq, Sft.v] at h ⊢; exact h
 | .agg t l, y, b, h => by
  cases y with
  | agg t' l' =>
   simp only [veq, Sft.v] at h ⊢;split at h
   ·rename_i ht; rw [if_pos ht]; exact sL h
   ·cases h
  | _ => simp [veq] at h
 | .dead, y, b, h | .ptr _ _ _, y, b, h | .sl _ _ _ _ _ _, y, b, h | .fn _ _, y, b, h | .tup _, y, b, h | .nilp, y, b, h | .nils, y, b, h | .nilf, y, b, h => by cases y <;> simp [veq] at h
theorem sL : ∀ {x y : List V} {b : Bool}, bB x y = some b → bB (F.vs x) (F.vs y) = some b
 | [], y, b, h => by cases y <;> simp [bB, Sft.vs] at h ⊢; exact h
 | v :: l, y, b, h => by
  cases y with
  | nil => simp [bB] at h
  | cons v' l' =>
   simp only [bB, Sft.vs] at h ⊢;cases hv : veq v v' with
   | none => rw [hv] at h; cases h
   | some q =>
    rw [hv] at h;rw [wE hv];cases q with
    | true => exact sL h
    | false => exact h
end
theorem uS {t : Nat} {x y : V} (h1 : t ≠ 1) (h3 : t ≠ 3) (h5 : t ≠ 5) : cd t x y = if x.tag = t ∧ y.tag = t then veq x y else none := by
 unfold cd;split <;> first | rfl | (exact absurd rfl h1) | (exact absurd rfl h3) | (exact absurd rfl h5)
theorem A9 {t : Nat} {x y : V} {b : Bool} (h : cd t x y = some b) : cd t (F.v x) (F.v y) = some b := by
 by_cases h1 : t = 1
 ·subst h1;simp only [cd] at h ⊢;split at h <;> simp_all [Sft.v]
 ·by_cases h3 : t = 3
  ·subst h3;simp only [cd] at h ⊢;split at h <;> simp_all [Sft.v]
  ·by_cases h5 : t = 5
   ·subst h5;simp only [cd] at h ⊢;split at h <;> simp_all [Sft.v]
   ·rw [uS h1 h3 h5] at h ⊢;rw [dY, dY];split at h
    ·rename_i ht; rw [if_pos ht]; exact wE h
    ·cases h
theorem y9 {o : BinOp} {x y v : V} (h : iH o x y = some v) : iH o (F.v x) (F.v y) = some v ∧ F.v v = v := by
 unfold iH at h;split at h
 ·rename_i k a k' b;refine ⟨h, ?_⟩;split at h
  ·unfold shf at h; split at h
   ·cases h
   ·split at h <;> cases h <;> rfl
  ·split at h
   ·unfold wK at h; split at h <;> (first | (cases h; rfl) | (split at h <;> cases h; rfl) | cases h)
   ·cases h
 ·refine ⟨h, ?_⟩;unfold xm at h; split at h <;> (first | (cases h; rfl) | (split at h <;> cases h; rfl) | cases h)
 ·cases h
theorem Eo {o : UnOp} {x v : V} (h : vun o x = some v) : vun o (F.v x) = some v ∧ F.v v = v := by
 unfold vun at h;split at h <;> (first | (cases h; exact ⟨rfl, rfl⟩) | cases h)
theorem Bq (hF : F.Ok) {s : St} (hs : F.In s) {n u : Nat} {a : Loc} {q : List Nat} {l : List V} (h : s.part n u a q = some l) : (F.s s).part n u (F.a a) q = some (l.map F.v) := by
 unfold St.part at h ⊢;cases hr : s.read a q.dropLast with
 | none => rw [hr] at h; cases h
 | some v =>
  rw [hr] at h;rw [db hF hs hr];cases v with
  | agg t L =>
   simp only at h;simp only [Sft.v, aA, List.length_map];split at h
   ·rename_i hh;rw [if_pos hh];simp only [Option.some.injEq] at h;subst h;rw [List.map_take, List.map_drop]
   ·cases h
  | _ => cases h
theorem i6 (hF : F.Ok) {s : St} (hs : F.In s) {v : V} {l : List V} (h : s.elems v = some l) : (F.s s).elems (F.v v) = some (l.map F.v) := by
 unfold St.elems at h;split at h
 ·simp only [Option.some.injEq] at h; subst h; rfl
 ·rename_i a p off len c e;simp only [Sft.v, St.elems];by_cases hz : len = 0
  ·rw [if_pos hz] at h ⊢; simp only [Option.some.injEq] at h; subst h; rfl
  ·rw [if_neg hz] at h ⊢;cases hr : s.read a p with
   | none => rw [hr] at h; cases h
   | some u =>
    rw [hr] at h;rw [db hF hs hr];cases u with
    | agg t L =>
     simp only at h;simp only [Sft.v, aA, List.length_map];split at h
     ·rename_i hh;rw [if_pos hh];simp only [Option.some.injEq] at h;subst h;rw [List.map_take, List.map_drop]
     ·cases h
    | _ => cases h
 ·simp only [Option.some.injEq] at h; subst h;simp only [Sft.v, St.elems, List.map_map]; rfl
 ·cases h
theorem rE {e : Nat} (v : V) : (F.v v).slIs e = v.slIs e := by
 cases v with
 | mp o => rw [kB]; rfl
 | _ => rfl
theorem rC {e : Nat} (v : V) : (F.v v).elIs e = v.elIs e := by
 cases v with
 | mp o => rw [kB]; rfl
 | _ => rfl
theorem Br {q : Bool} {v : V} {n : Nat} (h : V.slen q v = some n) : V.slen q (F.v v) = some n := by
 unfold V.slen at h;split at h <;> (first | exact h | cases h)
theorem bn {y d n : Nat} {x : Option V} (h : ai y x d = some n) : ai y (x.map F.v) d = some n := by
 unfold ai at h;split at h
 ·exact h
 ·exact h
 ·cases h
theorem fb : ∀ {ps : List (Nat × V)} {l l' : List V}, aP l ps = some l' → aP (l.map F.v) (ps.map fun p => (p.1, F.v p.2)) = some (l'.map F.v)
 | [], l, l', h => by simp only [aP, Option.some.injEq] at h; subst h; rfl
 | (i, x) :: r, l, l', h => by
  simp only [aP] at h;simp only [List.map_cons, aP, List.getElem?_map];cases hy : l[i]? with
  | none => rw [hy] at h; cases h
  | some y =>
   rw [hy] at h;simp only [Option.map_some, uM, dY] at h ⊢;split at h
   ·rename_i hc;rw [if_pos hc];have := fb h;rw [List.map_set] at this;exact this
   ·cases h
theorem zG {mx : Bool} {x y v : V} (h : js mx x y = some v) : js mx (F.v x) (F.v y) = some v ∧ F.v v = v := by
 unfold js at h;split at h
 ·refine ⟨h, ?_⟩;split at h
  ·cases h; rfl
  ·cases h
 ·cases h
theorem kR {h : Bool} {l : List V} : aQ h (.agg 1 (l.map F.v)) = aQ h (.agg 1 l) := by
 rw [← aA];exact nI (F := F) (.agg 1 l)
theorem mw (hF : F.Ok) {base : Nat} {h : Bool} {r e : Nat} {x y v : V} {s s' : St} (hs : F.In s) (hv : aK base h r e x y s = some (v, s')) :
 aK (base + F.l.length) h r e (F.v x) (F.v y) (F.s s) = some (F.v v, F.s s') ∧ F.In s' := by
 unfold aK at hv ⊢;rw [rE, rC];by_cases hc : (x.slIs e && y.elIs e) = true
 ·rw [if_pos hc] at hv ⊢;cases hx : s.elems x with
  | none => rw [hx] at hv; cases hv
  | some old =>
   cases hy : s.elems y with
   | none => rw [hx, hy] at hv; cases hv
   | some new =>
    rw [hx, hy] at hv;rw [i6 hF hs hx, i6 hF hs hy];simp only [List.length_map] at hv ⊢;by_cases h0 : new.length = 0
    ·rw [if_pos h0] at hv ⊢;simp only [Option.some.injEq, Prod.mk.injEq] at hv;obtain ⟨rfl, rfl⟩ := hv;exact ⟨rfl, hs⟩
    ·rw [if_neg h0] at hv ⊢;rw [← List.map_append, kR];by_cases hm : old.length + new.length ≤ eI ∧ (e % 2 = 0 ∨ aQ h (.agg 1 (old ++ new)) = true)
     ·rw [if_pos hm] at hv ⊢;have key : ∀ s1 : St, F.In s1 → some (V.sl (s1.fresh h) [] 0 (old.length + new.length) none e, s1.new h (.agg r (old ++ new))) = some (v, s') →
       some (V.sl ((F.s s1).fresh h) [] 0 (old.length + new.length) none e, (F.s s1).new h (.agg r ((old ++ new).map F.v))) = some (F.v v, F.s s') ∧ F.In s' := by
       intro s1 h1 hh;simp only [Option.some.injEq, Prod.mk.injEq] at hh;obtain ⟨rfl, rfl⟩ := hh;obtain ⟨k1, k2, k3⟩ := kH h1 h (.agg r (old ++ new));refine ⟨?_, k3⟩;rw [k1, k2];simp only [Sft.v, aA]
      cases x with
      | nils => exact key s hs hv
      | sl a p o l c e' =>
       simp only [Sft.v] at hv ⊢;split at hv
       ·rename_i hk;rw [if_pos hk];exact key s hs hv
       ·rename_i hk;rw [if_neg hk];by_cases hp : p = []
        ·rw [if_pos hp] at hv ⊢;cases ha : s.at a with
         | none => rw [ha] at hv; cases hv
         | some b =>
          rw [ha] at hv;rw [pJ hF hs ha];cases b with
          |rw u =>
           obtain ⟨g1, g2⟩ := qj hF hs ha .dead;have := key _ g2 hv;rw [g1] at this;exact this
          | _ => cases hv
        ·rw [if_neg hp] at hv; cases hv
      | _ => cases hv
     ·rw [if_neg hm] at hv; cases hv
 ·rw [if_neg hc] at hv; cases hv
theorem xl (hF : F.Ok) {base : Nat} {e : Nat} {x y v : V} {s s' : St} (hs : F.In s) (hv : fj base e x y s = some (v, s')) :
 fj (base + F.l.length) e (F.v x) (F.v y) (F.s s) = some (F.v v, F.s s') ∧ F.In s' := by
 unfold fj at hv ⊢;rw [rE, rC];by_cases hc : (x.slIs e && y.elIs e) = true
 ·rw [if_pos hc] at hv ⊢;cases hy : s.elems y with
  | none => rw [hy] at hv; cases hv
  | some ys =>
   rw [hy] at hv;rw [i6 hF hs hy];simp only at hv ⊢;cases x with
   | nils =>
    simp only [Option.some.injEq, Prod.mk.injEq] at hv;obtain ⟨rfl, rfl⟩ := hv;exact ⟨rfl, hs⟩
   | sl a p o l c e' =>
    simp only [Sft.v, List.length_map] at hv ⊢;by_cases h0 : min ys.length l = 0
    ·rw [if_pos h0] at hv ⊢;simp only [Option.some.injEq, Prod.mk.injEq] at hv;obtain ⟨rfl, rfl⟩ := hv;exact ⟨rfl, hs⟩
    ·rw [if_neg h0] at hv ⊢;cases hr : s.read a p with
     | none => rw [hr] at hv; cases hv
     | some u =>
      rw [hr] at hv;rw [db hF hs hr];cases u with
      | agg t L =>
       simp only at hv;simp only [Sft.v, aA, List.length_map];by_cases hb : o + l ≤ L.length
       ·rw [if_pos hb] at hv ⊢;cases hw : s.write base a p (.agg t (L.take o ++ ys.take (min ys.length l) ++ L.drop (o + min ys.length l))) with
        | none => rw [hw] at hv; cases hv
        | some s1 =>
         rw [hw] at hv;simp only [Option.some.injEq, Prod.mk.injEq] at hv;obtain ⟨rfl, rfl⟩ := hv;obtain ⟨g1, g2⟩ := lL hF hs hw;simp only [Sft.v, aA, List.map_append, List.map_take, List.map_drop] at g1;rw [g1];exact ⟨rfl, g2⟩
       ·rw [if_neg hb] at hv; cases hv
      | _ => cases hv
   | _ => cases hv
 ·rw [if_neg hc] at hv; cases hv
theorem qJ {ρ : Env} {xs : List Opd} (h : ∀ x ∈ xs, x.clos F.g.length = true) : xs.map (Opd.ev (F.e ρ)) = (xs.map (Opd.ev ρ)).map F.v := by
 rw [List.map_map];exact List.map_congr_left fun x hx => af (h x hx)
theorem cZ {ρ : Env} {x : Option Opd} (h : ∀ y ∈ oL x, y.clos F.g.length = true) : x.map (Opd.ev (F.e ρ)) = (x.map (Opd.ev ρ)).map F.v := by
 cases x with
 | none => rfl
 | some y => simp only [Option.map_some]; rw [af (h y (by simp [oL]))]
theorem td {a b : Loc} (h : F.a a = F.a b) : a = b := by
 cases a with
 | loc i => cases b with
  | loc j => simp only [Sft.a, Loc.loc.injEq] at h; rw [show i = j by omega]
  | hp j => simp only [Sft.a] at h; split at h <;> cases h
 | hp i => cases b with
  | loc j => simp only [Sft.a] at h; split at h <;> cases h
  | hp j =>
   simp only [Sft.a] at h;split at h <;> split at h <;> simp only [Loc.hp.injEq] at h <;> rw [show i = j by omega]
theorem xq {x y : V} (h : iG x y = true) : iG (F.v x) (F.v y) = true := by
 cases x with
 | ptr a q t =>
  cases y with
  | ptr b r u =>
   simp only [iG, decide_eq_true_eq] at h;simp only [Sft.v, iG, decide_eq_true_eq];rw [h]
  | _ => cases h
 | _ => cases h
theorem wX {x y : V} (h : dM x y = true) : dM (F.v x) (F.v y) = true := by
 cases x with
 | ptr a p t => cases y with
  | ptr b q u =>
   simp only [dM, decide_eq_true_eq] at h;simp only [Sft.v, dM, decide_eq_true_eq];exact fun e => h (td e)
  | _ => cases h
 | _ => cases h
theorem wN {x y : V} (h : eN x y = true) : eN (F.v x) (F.v y) = true := by
 cases x with
 | ptr a p t => cases y with
  | sl b q o l c u =>
   simp only [eN, decide_eq_true_eq] at h;simp only [Sft.v, eN, decide_eq_true_eq];exact fun e => h (td e)
  | nils => rfl
  | _ => cases h
 | _ => cases h
theorem Oq (hF : F.Ok) {s : St} (hs : F.In s) {v : V} (h : pb s v = true) : pb (F.s s) (F.v v) = true := by
 cases v with
 | ptr a p t =>
  simp only [pb, Option.isSome_iff_exists] at h;obtain ⟨u, hu⟩ := h;simp only [Sft.v, pb, db hF hs hu, Option.isSome_some]
 | _ => cases h
theorem rJ (hF : F.Ok) {s : St} (hs : F.In s) {v : V} {i : Nat} {l : List Int} (h : s.mpAt v = some (i, l)) : (F.s s).mpAt (F.v v) = some (F.j i, l) ∧ s.at (.hp i) = some (.mp l) := by
 unfold St.mpAt at h;split at h
 ·rename_i j;split at h
  ·rename_i h1;simp only [Option.some.injEq, Prod.mk.injEq] at h;obtain ⟨rfl, rfl⟩ := h;have := pJ hF hs (a := .hp j) h1;rw [qh] at this;refine ⟨?_, h1⟩;simp only [Sft.v, St.mpAt];rw [show (F.s s).hp[F.j j]? = some (.mp _) from this]
  ·cases h
 ·cases h
theorem DE {s : St} (hs : F.In s) : F.s ⟨s.loc, s.hp ++ [.mp []]⟩ = ⟨(F.s s).loc, (F.s s).hp ++ [.mp []]⟩ ∧ (F.s s).hp.length = F.j s.hp.length ∧ F.In ⟨s.loc, s.hp ++ [.mp []]⟩ := by
 have hl := In.len hs;refine ⟨?_, ?_, ?_⟩
 ·simp only [Sft.s];rw [List.drop_append_of_le_length hl, List.map_append, ← List.append_assoc]; rfl
 ·simp only [Sft.s, Sft.j];rw [if_neg (by omega)];simp; omega
 ·simp only [Sft.In];rw [List.take_append_of_le_length hl];exact hs
theorem z9 (hF : F.Ok) {s : St} (hs : F.In s) {x k v : V} (h : ix x k s = some v) : ix (F.v x) (F.v k) (F.s s) = some (F.v v) := by
 unfold ix at h;split at h
 ·rename_i i l n hm;simp only [Option.some.injEq] at h;subst h;simp only [ix, (rJ hF hs hm).1, Sft.v]
 ·cases h
theorem y8 (hF : F.Ok) {s s' : St} (hs : F.In s) {x k y : V} (h : eU x k y s = some s') : eU (F.v x) (F.v k) (F.v y) (F.s s) = some (F.s s') ∧ F.In s' := by
 unfold eU at h;split at h
 ·rename_i i l n hm;simp only [Option.some.injEq] at h;subst h;obtain ⟨m1, m2⟩ := rJ hF hs hm;obtain ⟨g1, g2⟩ := Hw hF hs m2 rfl (.mp (if n ∈ l then l else l ++ [n]))
  refine ⟨?_, g2⟩;simp only [eU, m1, Sft.v];have := g1;rw [qh] at this;simp only [St.set, Sft.b] at this;rw [this]
 ·cases h
section ops
variable (hF : F.Ok) {base : Nat} {ρ : Env} {s s' : St} {v : V} (hs : F.In s)
include hF hs
theorem zV {o : Op'} (hc : o.clos F.g.length = true) (h : evOp base ρ s o = some (v, s')) : evOp (base + F.l.length) (F.e ρ) (F.s s) o = some (F.v v, F.s s') ∧ F.In s' := by
 simp only [Op'.clos, Bool.and_eq_true, List.all_eq_true] at hc;obtain ⟨ho, hz⟩ := hc;have fin : ∀ {u : V} {a : Option (V × St)}, some (u, s) = some (v, s') → a = some (F.v u, F.s s) → a = some (F.v v, F.s s') ∧ F.In s' := by
  intro u a h1 h2;simp only [Option.some.injEq, Prod.mk.injEq] at h1;obtain ⟨rfl, rfl⟩ := h1;exact ⟨h2, hs⟩
 cases o with
 | mv x =>
  simp only [evOp] at h ⊢;exact fin h (by rw [af (ho x (by simp [aa]))])
 | pick x y z =>
  simp only [evOp] at h ⊢;rw [af (ho x (by simp [aa])), af (ho y (by simp [aa])), af (ho z (by simp [aa]))];cases hx : x.ev ρ with
  | bool t => rw [hx] at h; simp only [Sft.v] at h ⊢; exact fin h (by cases t <;> rfl)
  | _ => rw [hx] at h; cases h
 | alloc hh z =>
  simp only [zOf] at hz;simp only [evOp, Option.some.injEq, Prod.mk.injEq] at h ⊢;obtain ⟨rfl, rfl⟩ := h;obtain ⟨g1, g2, g3⟩ := kH hs hh z;rw [g1, g2, cR hz];exact ⟨⟨rfl, rfl⟩, g3⟩
 | box hh x =>
  simp only [evOp] at h ⊢;rw [af (ho x (by simp [aa])), uM, nI, dY];split at h
  ·rename_i hk;rw [if_pos hk];simp only [Option.some.injEq, Prod.mk.injEq] at h ⊢;obtain ⟨rfl, rfl⟩ := h;obtain ⟨g1, g2, g3⟩ := kH hs hh (x.ev ρ);rw [g1, g2];exact ⟨⟨rfl, rfl⟩, g3⟩
  ·cases h
 | ld t p =>
  simp only [evOp] at h ⊢;rw [af (ho p (by simp [aa]))];cases hx : p.ev ρ with
  | ptr a q t' =>
   rw [hx] at h;simp only [Sft.v] at h ⊢;split at h
   ·rename_i ht;rw [if_pos ht];cases hr : s.read a q with
    | none => rw [hr] at h; cases h
    | some u => rw [hr] at h; rw [db hF hs hr]; exact fin h rfl
   ·cases h
  | _ => rw [hx] at h; cases h
 | st t p x =>
  simp only [evOp] at h ⊢;rw [af (ho p (by simp [aa])), af (ho x (by simp [aa])), dY];cases hx : p.ev ρ with
  | ptr a q t' =>
   rw [hx] at h;simp only [Sft.v] at h ⊢;split at h
   ·rename_i ht;rw [if_pos ht];cases hr : s.write base a q (x.ev ρ) with
    | none => rw [hr] at h; cases h
    | some s1 =>
     rw [hr] at h;obtain ⟨g1, g2⟩ := lL hF hs hr;rw [g1];simp only [Option.some.injEq, Prod.mk.injEq] at h ⊢;obtain ⟨rfl, rfl⟩ := h;exact ⟨⟨rfl, rfl⟩, g2⟩
   ·cases h
  | _ => rw [hx] at h; cases h
 | nilc x =>
  simp only [evOp] at h ⊢;rw [af (ho x (by simp [aa]))];cases hx : x.ev ρ with
  | ptr a q t' => rw [hx] at h; simp only [Sft.v] at h ⊢; exact fin h rfl
  | fn f l => rw [hx] at h; simp only [Sft.v] at h ⊢; exact fin h rfl
  | _ => rw [hx] at h; cases h
 | bin o x y =>
  simp only [evOp] at h ⊢;rw [af (ho x (by simp [aa])), af (ho y (by simp [aa]))];cases hx : iH o (x.ev ρ) (y.ev ρ) with
  | none => rw [hx] at h; cases h
  | some u =>
   rw [hx] at h;obtain ⟨g1, g2⟩ := y9 (F := F) hx;rw [g1];exact fin h (by rw [g2])
 | eq neg t x y =>
  simp only [evOp] at h ⊢;rw [af (ho x (by simp [aa])), af (ho y (by simp [aa]))];cases hx : cd t (x.ev ρ) (y.ev ρ) with
  | none => rw [hx] at h; cases h
  | some u =>
   rw [hx] at h;rw [A9 hx];exact fin h rfl
 | un o x =>
  simp only [evOp] at h ⊢;rw [af (ho x (by simp [aa]))];cases hx : vun o (x.ev ρ) with
  | none => rw [hx] at h; cases h
  | some u =>
   rw [hx] at h;obtain ⟨g1, g2⟩ := Eo (F := F) hx;rw [g1];exact fin h (by rw [g2])
 | conv k x =>
  simp only [evOp] at h ⊢;rw [af (ho x (by simp [aa]))];cases hx : x.ev ρ with
  | int k' n => rw [hx] at h; simp only [Sft.v] at h ⊢; exact fin h rfl
  | _ => rw [hx] at h; cases h
 | mkfn f caps =>
  simp only [evOp] at h ⊢;rw [qJ (fun x hx => ho x (by simpa [aa] using hx))];have ht : ((caps.map (Opd.ev ρ)).map F.v).all (fun v => v.tag == 1) = (caps.map (Opd.ev ρ)).all (fun v => v.tag == 1) := by
   rw [List.all_map]; congr 1; funext u; simp only [Function.comp, dY]
  rw [ht];split at h
  ·rename_i hk;rw [if_pos hk];exact fin h (by simp only [Sft.v, aA])
  ·cases h
 | mksl hh r e z n m =>
  simp only [zOf] at hz;simp only [evOp] at h ⊢;rw [af (ho n (by simp [aa])), af (ho m (by simp [aa]))];cases hx : n.ev ρ with
  | int k l =>
   cases hy : m.ev ρ with
   | int k' l' =>
    rw [hx, hy] at h;simp only [Sft.v] at h ⊢;split at h
    ·rename_i hk;rw [if_pos hk];simp only [Option.some.injEq, Prod.mk.injEq] at h ⊢;obtain ⟨rfl, rfl⟩ := h;obtain ⟨g1, g2, g3⟩ := kH hs hh (.agg r (List.replicate l.toNat z));rw [g1, g2];refine ⟨⟨rfl, ?_⟩, g3⟩;simp only [Sft.v, aA, List.map_replicate, cR hz]
    ·cases h
   | _ => rw [hx, hy] at h; cases h
  | _ => rw [hx] at h; cases h
 | slc e x lo hi mx =>
  simp only [evOp] at h ⊢;rw [af (ho x (by simp [aa])), cZ (x := lo) (fun y hy => ho y (by simp [aa, hy])), cZ (x := hi) (fun y hy => ho y (by simp [aa, hy])), cZ (x := mx) (fun y hy => ho y (by simp [aa, hy]))];cases hx : x.ev ρ with
  | sl a p off len cap e' =>
   rw [hx] at h;simp only [Sft.v] at h ⊢;split at h
   ·rename_i he;rw [if_pos he];cases h1 : ai (cap.getD len) (mx.map (Opd.ev ρ)) (cap.getD len) with
    | none => rw [h1] at h; cases h
    | some m1 =>
     rw [h1] at h;rw [bn h1];simp only at h ⊢;cases h2 : ai (fT mx.isSome m1 len) (hi.map (Opd.ev ρ)) len with
     | none => rw [h2] at h; cases h
     | some h1' =>
      rw [h2] at h;rw [bn h2];simp only at h ⊢;cases h3 : ai h1' (lo.map (Opd.ev ρ)) 0 with
      | none => rw [h3] at h; cases h
      | some l1 =>
       rw [h3] at h;rw [bn h3];exact fin h rfl
   ·cases h
  | nils =>
   rw [hx] at h;simp only [Sft.v] at h ⊢;cases h1 : ai 0 (mx.map (Opd.ev ρ)) 0 with
   | none => rw [h1] at h; cases h
   | some m1 =>
    cases h2 : ai 0 (hi.map (Opd.ev ρ)) 0 with
    | none => rw [h1, h2] at h; cases h
    | some m2 =>
     cases h3 : ai 0 (lo.map (Opd.ev ρ)) 0 with
     | none => rw [h1, h2, h3] at h; cases h
     | some m3 =>
      rw [h1, h2, h3] at h;rw [bn h1, bn h2, bn h3];exact fin h rfl
  | _ => rw [hx] at h; cases h
 | slstr x lo hi =>
  simp only [evOp] at h ⊢;rw [af (ho x (by simp [aa])), cZ (x := lo) (fun y hy => ho y (by simp [aa, hy])), cZ (x := hi) (fun y hy => ho y (by simp [aa, hy]))];cases hx : x.ev ρ with
  | str b =>
   rw [hx] at h;simp only [Sft.v] at h ⊢;cases h2 : ai b.size (hi.map (Opd.ev ρ)) b.size with
   | none => rw [h2] at h; cases h
   | some h1' =>
    rw [h2] at h;rw [bn h2];simp only at h ⊢;cases h3 : ai h1' (lo.map (Opd.ev ρ)) 0 with
    | none => rw [h3] at h; cases h
    | some l1 =>
     rw [h3] at h;rw [bn h3];exact fin h rfl
  | _ => rw [hx] at h; cases h
 | slarr t n e x lo hi mx =>
  simp only [evOp] at h ⊢;rw [af (ho x (by simp [aa])), cZ (x := lo) (fun y hy => ho y (by simp [aa, hy])), cZ (x := hi) (fun y hy => ho y (by simp [aa, hy])), cZ (x := mx) (fun y hy => ho y (by simp [aa, hy]))];cases hx : x.ev ρ with
  | ptr a p t' =>
   rw [hx] at h;simp only [Sft.v] at h ⊢;split at h
   ·rename_i he;have he' : t' = t ∧ ((F.s s).read (F.a a) p).isSome = true := by
     refine ⟨he.1, ?_⟩;obtain ⟨u, hu⟩ := Option.isSome_iff_exists.1 he.2;rw [db hF hs hu]; rfl
    rw [if_pos he'];cases h1 : ai n (mx.map (Opd.ev ρ)) n with
    | none => rw [h1] at h; cases h
    | some m1 =>
     rw [h1] at h;rw [bn h1];simp only at h ⊢;cases h2 : ai m1 (hi.map (Opd.ev ρ)) n with
     | none => rw [h2] at h; cases h
     | some h1' =>
      rw [h2] at h;rw [bn h2];simp only at h ⊢;cases h3 : ai h1' (lo.map (Opd.ev ρ)) 0 with
      | none => rw [h3] at h; cases h
      | some l1 =>
       rw [h3] at h;rw [bn h3];exact fin h rfl
   ·cases h
  | _ => rw [hx] at h; cases h
 | fad t f c x =>
  simp only [evOp] at h ⊢;rw [af (ho x (by simp [aa]))];cases hx : x.ev ρ with
  | ptr a q t' =>
   rw [hx] at h; simp only [Sft.v] at h ⊢;split at h
   ·rename_i ht; rw [if_pos ht]; exact fin h rfl
   ·cases h
  | _ => rw [hx] at h; cases h
 | iad t n e x i =>
  simp only [evOp] at h ⊢;rw [af (ho x (by simp [aa])), af (ho i (by simp [aa]))];cases hx : x.ev ρ with
  | ptr a q t' =>
   cases hy : i.ev ρ with
   | int k j =>
    rw [hx, hy] at h; simp only [Sft.v] at h ⊢;split at h
    ·rename_i ht; rw [if_pos ht]; exact fin h rfl
    ·cases h
   | _ => rw [hx, hy] at h; cases h
  | _ => rw [hx] at h; cases h
 | sad e x i =>
  simp only [evOp] at h ⊢;rw [af (ho x (by simp [aa])), af (ho i (by simp [aa]))];cases hx : x.ev ρ with
  | sl a q off len cap e' =>
   cases hy : i.ev ρ with
   | int k j =>
    rw [hx, hy] at h; simp only [Sft.v] at h ⊢;split at h
    ·rename_i ht; rw [if_pos ht]; exact fin h rfl
    ·cases h
   | _ => rw [hx, hy] at h; cases h
  | _ => rw [hx] at h; cases h
 | s2a n e x =>
  simp only [evOp] at h ⊢;rw [af (ho x (by simp [aa]))];cases hx : x.ev ρ with
  | sl a q off len cap e' =>
   rw [hx] at h; simp only [Sft.v] at h ⊢;split at h
   ·rename_i ht; rw [if_pos ht]; exact fin h rfl
   ·cases h
  | _ => rw [hx] at h; cases h
 | ldr t n e u p =>
  simp only [evOp] at h ⊢;rw [af (ho p (by simp [aa]))];cases hx : p.ev ρ with
  | ptr a q e' =>
   rw [hx] at h;simp only [Sft.v] at h ⊢;split at h
   ·rename_i ht;rw [if_pos ht];cases hr : s.part n u a q with
    | none => rw [hr] at h; cases h
    | some l => rw [hr] at h; rw [Bq hF hs hr]; exact fin h (by simp only [Sft.v, aA])
   ·cases h
  | _ => rw [hx] at h; cases h
 | fld t f x =>
  simp only [evOp] at h ⊢;rw [af (ho x (by simp [aa]))];cases hx : x.ev ρ with
  | agg t' l =>
   rw [hx] at h; simp only [Sft.v] at h ⊢;split at h
   ·rename_i ht;rw [if_pos ht, aA, List.getElem?_map];cases hl : l[f]? with
    | none => rw [hl] at h; cases h
    | some u => rw [hl] at h; exact fin h rfl
   ·cases h
  | _ => rw [hx] at h; cases h
 | idx t n x i =>
  simp only [evOp] at h ⊢;rw [af (ho x (by simp [aa])), af (ho i (by simp [aa]))];cases hx : x.ev ρ with
  | agg t' l =>
   cases hy : i.ev ρ with
   | int k j =>
    rw [hx, hy] at h; simp only [Sft.v] at h ⊢;split at h
    ·rename_i ht;rw [if_pos ht, aA, List.getElem?_map];cases hl : l[j.toNat]? with
     | none => rw [hl] at h; cases h
     | some u => rw [hl] at h; exact fin h rfl
    ·cases h
   | _ => rw [hx, hy] at h; cases h
  | _ => rw [hx] at h; cases h
 | sidx x i =>
  simp only [evOp] at h ⊢;rw [af (ho x (by simp [aa])), af (ho i (by simp [aa]))];cases hx : x.ev ρ with
  | str b =>
   cases hy : i.ev ρ with
   | int k j =>
    rw [hx, hy] at h; simp only [Sft.v] at h ⊢;split at h
    ·rename_i ht;rw [if_pos ht];cases hl : b[j.toNat]? with
     | none => rw [hl] at h; cases h
     | some u => rw [hl] at h; exact fin h rfl
    ·cases h
   | _ => rw [hx, hy] at h; cases h
  | _ => rw [hx] at h; cases h
 |ext x i =>
  simp only [evOp] at h ⊢;rw [af (ho x (by simp [aa]))];cases hx : x.ev ρ with
  | tup l =>
   rw [hx] at h; simp only [Sft.v] at h ⊢;rw [aA, List.getElem?_map];cases hl : l[i]? with
   | none => rw [hl] at h; cases h
   | some u => rw [hl] at h; exact fin h rfl
  | _ => rw [hx] at h; cases h
 | lenk n => simp only [evOp] at h ⊢; exact fin h rfl
 | len q x =>
  simp only [evOp] at h ⊢;rw [af (ho x (by simp [aa]))];cases hx : V.slen q (x.ev ρ) with
  | none => rw [hx] at h; cases h
  | some n => rw [hx] at h; rw [Br hx]; exact fin h rfl
 | app hh r e x y =>
  simp only [evOp] at h ⊢;rw [af (ho x (by simp [aa])), af (ho y (by simp [aa]))];exact mw hF hs h
 | bld z ps =>
  simp only [zOf] at hz;simp only [evOp] at h ⊢;cases z with
  | agg t l =>
   simp only at h ⊢;have e1 : ps.map (fun p => (p.1, p.2.ev (F.e ρ))) = (ps.map fun p => (p.1, p.2.ev ρ)).map fun p => (p.1, F.v p.2) := by
    rw [List.map_map];exact List.map_congr_left fun p hp => by simp only [Function.comp]; rw [af (ho p.2 (by simp only [aa]; exact List.mem_map.2 ⟨p, hp, rfl⟩))]
   rw [e1];cases hx : aP l (ps.map fun p => (p.1, p.2.ev ρ)) with
   | none => rw [hx] at h; cases h
   | some l' =>
    rw [hx] at h;have := fb (F := F) hx;simp only [V.flat] at hz;rw [← aA l, fa hz] at this;rw [this];exact fin h (by simp only [Sft.v, aA])
  | _ => cases h
 | bsl hh r e z n ps =>
  simp only [zOf] at hz;simp only [evOp] at h ⊢;have e1 : ps.map (fun p => (p.1, p.2.ev (F.e ρ))) = (ps.map fun p => (p.1, p.2.ev ρ)).map fun p => (p.1, F.v p.2) := by
   rw [List.map_map];exact List.map_congr_left fun p hp => by simp only [Function.comp]; rw [af (ho p.2 (by simp only [aa]; exact List.mem_map.2 ⟨p, hp, rfl⟩))]
  rw [e1];cases hx : aP (List.replicate n z) (ps.map fun p => (p.1, p.2.ev ρ)) with
  | none => rw [hx] at h; cases h
  | some l' =>
   rw [hx] at h;have := fb (F := F) hx;rw [List.map_replicate, cR hz] at this;rw [this];simp only [kR] at h ⊢;split at h
   ·rename_i hk;rw [if_pos hk];simp only [Option.some.injEq, Prod.mk.injEq] at h ⊢;obtain ⟨rfl, rfl⟩ := h;obtain ⟨g1, g2, g3⟩ := kH hs hh (.agg r l');rw [g1, g2];refine ⟨⟨rfl, ?_⟩, g3⟩;simp only [Sft.v, aA]
   ·cases h
 | cpy e x y =>
  simp only [evOp] at h ⊢;rw [af (ho x (by simp [aa])), af (ho y (by simp [aa]))];exact xl hF hs h
 | mnx mx x y =>
  simp only [evOp] at h ⊢;rw [af (ho x (by simp [aa])), af (ho y (by simp [aa]))];cases hx : js mx (x.ev ρ) (y.ev ρ) with
  | none => rw [hx] at h; cases h
  | some u =>
   rw [hx] at h;obtain ⟨g1, g2⟩ := zG (F := F) hx;rw [g1];exact fin h (by rw [g2])
 | lda t p r =>
  simp only [evOp] at h ⊢;rw [af (ho p (by simp [aa])), af (ho r (by simp [aa]))];split at h
  ·rename_i hle;rw [if_pos (xq hle)];cases hx : p.ev ρ with
   | ptr a q t' =>
    rw [hx] at h;simp only [Sft.v] at h ⊢;split at h
    ·rename_i ht;rw [if_pos ht];cases hr : s.read a q with
     | none => rw [hr] at h; cases h
     | some u => rw [hr] at h; rw [db hF hs hr]; exact fin h rfl
    ·cases h
   | _ => rw [hx] at h; cases h
  ·cases h
 | call f l => cases h
 | pcall f l => cases h
 | sta t p x l =>
  simp only [evOp] at h ⊢;split at h
  ·rename_i hall;have hall' : (l.all fun y => dM (y.ev (F.e ρ)) (p.ev (F.e ρ))) = true := by
    rw [List.all_eq_true] at hall ⊢;intro y hy;rw [af (ho p (by simp [aa])), af (ho y (by simp [aa, hy]))];exact wX (hall y hy)
   rw [if_pos hall'];rw [af (ho p (by simp [aa])), af (ho x (by simp [aa])), dY];cases hx : p.ev ρ with
   | ptr a q t' =>
    rw [hx] at h;simp only [Sft.v] at h ⊢;split at h
    ·rename_i ht;rw [if_pos ht];cases hr : s.write base a q (x.ev ρ) with
     | none => rw [hr] at h; cases h
     | some s1 =>
      rw [hr] at h;obtain ⟨g1, g2⟩ := lL hF hs hr;rw [g1];simp only [Option.some.injEq, Prod.mk.injEq] at h ⊢;obtain ⟨rfl, rfl⟩ := h;exact ⟨⟨rfl, rfl⟩, g2⟩
    ·cases h
   | _ => rw [hx] at h; cases h
  ·cases h
 | callw f l w => cases h
 | callk b f l => cases h
 | appa hh r e x y l =>
  simp only [evOp] at h ⊢;split at h
  ·rename_i hall;have hall' : (l.all fun z => eN (z.ev (F.e ρ)) (x.ev (F.e ρ))) = true := by
    rw [List.all_eq_true] at hall ⊢;intro z hz;rw [af (ho x (by simp [aa])), af (ho z (by simp [aa, hz]))];exact wN (hall z hz)
   rw [if_pos hall', af (ho x (by simp [aa])), af (ho y (by simp [aa]))];exact mw hF hs h
  ·cases h
 | ldl t p =>
  simp only [evOp] at h ⊢;rw [af (ho p (by simp [aa]))];cases hx : p.ev ρ with
  | ptr a q t' =>
   cases a with
   | loc i =>
    rw [hx] at h;simp only at h;split at h
    ·rename_i ht;cases hr : s.read (.loc i) q with
     | none => rw [hr] at h; cases h
     | some u =>
      rw [hr] at h;have g := db hF hs hr;obtain ⟨j, hj⟩ : ∃ j, F.a (.loc i) = .loc j := ⟨_, rfl⟩;rw [hj] at g;simp only [Sft.v, hj];rw [if_pos ht, g];exact fin h rfl
    ·cases h
   | hp i => rw [hx] at h; cases h
  | _ => rw [hx] at h; cases h
 | mkm =>
  simp only [evOp, Option.some.injEq, Prod.mk.injEq] at h ⊢;obtain ⟨rfl, rfl⟩ := h;obtain ⟨g1, g2, g3⟩ := DE hs;rw [g1, g2];exact ⟨⟨by simp [Sft.v], rfl⟩, g3⟩
 | mlk x k =>
  simp only [evOp] at h ⊢;rw [af (ho x (by simp [aa])), af (ho k (by simp [aa]))];cases hx : ix (x.ev ρ) (k.ev ρ) s with
  | none => rw [hx] at h; cases h
  | some u => rw [hx] at h; rw [z9 hF hs hx]; exact fin h rfl
 | mup x k y =>
  simp only [evOp] at h ⊢;rw [af (ho x (by simp [aa])), af (ho k (by simp [aa])), af (ho y (by simp [aa]))];cases hx : eU (x.ev ρ) (k.ev ρ) (y.ev ρ) s with
  | none => rw [hx] at h; cases h
  | some s1 =>
   rw [hx] at h;obtain ⟨g1, g2⟩ := y8 hF hs hx;rw [g1];simp only [Option.some.injEq, Prod.mk.injEq] at h ⊢;obtain ⟨rfl, rfl⟩ := h;exact ⟨⟨rfl, rfl⟩, g2⟩
end ops
def Op.closd (g : Nat) (o : Op) : Bool := o.op.clos g
def C.clos (g : Nat) : C → Bool
 | .reg _ l => l.all (Op.closd g)
 | .regd _ l => l.all (Op.closd g)
 | .seq a b => a.clos g && b.clos g
 | .cond x a b => x.clos g && a.clos g && b.clos g
 | .block _ b => b.clos g
 | .loop _ b => b.clos g
 | .scope b => b.clos g
 | _ => true
def Sft.t (F : Sft) : br → br
 | .c base c ρ => .c (base + F.l.length) c (F.e ρ)
 | .o base l ρ => .o (base + F.l.length) l (F.e ρ)
 | .f f args => .f f (F.vs args)
def Sft.r (F : Sft) : Res → Res
 | .c e ρ s => .c e (F.e ρ) (F.s s)
 | .o ρ s => .o (F.e ρ) (F.s s)
 | .v v s => .v (F.v v) (F.s s)
def Res.st : Res → St
 | .c _ _ s => s
 | .o _ s => s
 | .v _ s => s
def br.clos (g : Nat) : br → Bool
 | .c _ cc _ => cc.clos g
 | .o _ l _ => l.all (Op.closd g)
 | .f _ _ => true
theorem LE {g : Option (Nat × Bool)} {ρ : Env} {b : Bool} (h : aJ g ρ = some b) : aJ g (F.e ρ) = some b := by
 cases g with
 | none => exact h
 | some x =>
  simp only [aJ, jb] at h ⊢;cases hg : get ρ x.1 with
  | bool y => rw [hg] at h; exact h
  | tup l =>
   rw [hg] at h;cases l with
   | nil => exact h
   | cons _ _ => cases h
  | _ => rw [hg] at h; cases h
theorem Qf (hF : F.Ok) {ρ : Env} {s : St} (hs : F.In s) {r : RV} {v : V} (h : r.ev ρ s = some v) : r.ev (F.e ρ) (F.s s) = some (F.v v) := by
 cases r with
 | t n => simp only [RV.ev, Option.some.injEq, jb] at h ⊢; rw [h]
 | cell n q =>
  simp only [RV.ev, jb] at h ⊢;cases hg : get ρ n with
  | ptr a p t =>
   rw [hg] at h;simp only [Sft.v] at h ⊢;split at h
   ·rename_i ht; rw [if_pos ht]; exact db hF hs h
   ·cases h
  | _ => rw [hg] at h; cases h
theorem KS (hF : F.Ok) {ρ : Env} {s : St} (hs : F.In s) : ∀ {l : List RV} {vs : List V}, l.mapM (RV.ev ρ s) = some vs → l.mapM (RV.ev (F.e ρ) (F.s s)) = some (vs.map F.v)
 | [], vs, h => by simp only [List.mapM_nil, Option.pure_def, Option.some.injEq] at h ⊢; subst h; rfl
 | r :: l, vs, h => by
  rw [List.mapM_cons] at h ⊢;cases hr : r.ev ρ s with
  | none => rw [hr] at h; simp at h
  | some v =>
   cases hl : l.mapM (RV.ev ρ s) with
   | none => rw [hr, hl] at h; simp at h
   | some vs' =>
    rw [hr, hl] at h;simp at h;subst h;rw [Qf hF hs hr, KS hF hs hl];rfl
theorem PM (hF : F.Ok) {ρ : Env} {s : St} (hs : F.In s) {l : List RV} {v : V} (h : bP ρ s l = some v) : bP (F.e ρ) (F.s s) l = some (F.v v) := by
 unfold bP at h ⊢;cases hl : l.mapM (RV.ev ρ s) with
 | none => rw [hl] at h; cases h
 | some vs =>
  rw [hl] at h;rw [KS hF hs hl]
  match vs, h with
  | [u], h => simp only [Option.some.injEq] at h; subst h; rfl
  | [], h => simp at h; subst h; rfl
  | u :: u' :: vs, h =>
   simp only [List.map_cons] at h ⊢;have e : (F.v u :: F.v u' :: vs.map F.v).all V.ok = (u :: u' :: vs).all V.ok := by
    simp only [List.all_cons, uM, List.all_map];congr 3;funext x; exact uM x
   rw [e];split at h
   ·rename_i hk;rw [if_pos hk];simp only [Option.some.injEq] at h;subst h;simp only [Sft.v, Sft.vs, aA]
   ·cases h
theorem Di {n : Nat} (b : Blk) : a8 (n + F.l.length) (F.b b) = a8 n b := by
 cases b with
 | dead => rfl
 | ro v => exact pn v
 |rw v => exact pn v
 | mp l => rfl
theorem LC {base n : Nat} {ρ : Env} {s : St} (h : eZ base n ρ s = true) : eZ (base + F.l.length) (n + F.l.length) (F.e ρ) (F.s s) = true := by
 simp only [eZ, Bool.and_eq_true, decide_eq_true_eq, List.all_eq_true] at h ⊢;obtain ⟨⟨h1, h2⟩, h3⟩ := h;refine ⟨⟨by rw [vo]; omega, ?_⟩, ?_⟩
 ·intro p hp;simp only [l9, List.mem_map] at hp;obtain ⟨q, hq, rfl⟩ := hp;simp only [pn];exact h2 q hq
 ·intro b hb;have e : ((F.s s).loc.take (n + F.l.length)).drop (base + F.l.length) = ((s.loc.take n).drop base).map F.b := by
   simp only [Sft.s];rw [List.take_append, List.take_of_length_le (by omega), Nat.add_sub_cancel, Nat.add_comm base, ← List.drop_drop, List.drop_left, List.map_drop, List.map_take]
  rw [e, List.mem_map] at hb;obtain ⟨c, hc, rfl⟩ := hb;rw [Di];exact h3 c hc
theorem NS (v : V) : v.lim1 = 0 ∧ (F.v v).lim1 = 0 ∨ 0 < v.lim1 ∧ (F.v v).lim1 = v.lim1 + F.l.length := by
 cases v with
 | ptr a p t =>
  cases a with
  | loc i => right; simp only [Sft.v, Sft.a, V.lim1]; omega
  | hp i => left; simp only [Sft.v, Sft.a]; split <;> simp [V.lim1]
 | sl a p o l c t =>
  cases a with
  | loc i => right; simp only [Sft.v, Sft.a, V.lim1]; omega
  | hp i => left; simp only [Sft.v, Sft.a]; split <;> simp [V.lim1]
 | mp o => left; simp [kB, V.lim1]
 | _ => left; simp [Sft.v, V.lim1]
theorem FE {base : Nat} : ∀ {l : List V}, rT (base + F.l.length) (l.map F.v) = rT base l + F.l.length
 | [] => rfl
 | v :: l => by
  simp only [List.map_cons, rT, FE (l := l)];rcases NS (F := F) v with h | h
  ·rw [h.1, h.2]; omega
  ·rw [h.2]; omega
theorem Gt {base : Nat} {l : List V} : be (base + F.l.length) (l.map F.v) = be base l + F.l.length := by
 unfold be;rw [← aA, lM, aA, FE];split <;> rfl
theorem KJ {k : Nat} {s : St} (_hk : k ≤ s.loc.length) : (F.s s).cut (k + F.l.length) = F.s (s.cut k) := by
 simp only [St.cut, Sft.s];rw [List.take_append, List.take_of_length_le (by omega), Nat.add_sub_cancel, List.map_take]
theorem KQ {base k : Nat} {l : List V} {s : St} (h : pOk base k l s = true) : pOk (base + F.l.length) (k + F.l.length) (l.map F.v) (F.s s) = true := by
 simp only [pOk, Bool.and_eq_true, decide_eq_true_eq, List.all_eq_true] at h ⊢;obtain ⟨h1, h2, h3, h4⟩ := h;refine ⟨by rw [← aA, lM]; exact h1, by omega, by rw [vo]; omega, ?_⟩;intro b hb;have e : ((F.s s).loc.take (k + F.l.length)).drop (base + F.l.length) = ((s.loc.take k).drop base).map F.b := by
  simp only [Sft.s];rw [List.take_append, List.take_of_length_le (by omega), Nat.add_sub_cancel, Nat.add_comm base, ← List.drop_drop, List.drop_left, List.map_drop, List.map_take]
 rw [e, List.mem_map] at hb;obtain ⟨c, hc, rfl⟩ := hb;rw [Di];exact h4 c hc
def Ep (D : Nat → Option Fc) (g : Nat) : Prop := ∀ f fc, D f = some fc → fc.body.clos g = true
theorem NP {p : Bool} {s s2 : St} (hs : F.In s) (h : zS p s s2) : zS p (F.s s) (F.s s2) := by
 obtain ⟨h1, h2⟩ := h;refine ⟨by simp only [Sft.s, h1], fun hp => ?_⟩;have h3 := h2 hp;have hl := In.len hs;have hlen : (F.s s).hp.length = F.g.length + F.h.length + (s.hp.length - F.g.length) := by simp [Sft.s]; omega
 rw [hlen];simp only [Sft.s];rw [List.append_assoc, List.append_assoc, show F.g.length + F.h.length + (s.hp.length - F.g.length) = F.g.length + (F.h.length + (s.hp.length - F.g.length)) by omega, List.take_length_add_append, List.take_length_add_append, ← List.map_take, List.take_drop,
  show F.g.length + (s.hp.length - F.g.length) = s.hp.length by omega, h3]
theorem shift {D : Nat → Option Fc} (hF : F.Ok) (hD : Ep D F.g.length) : ∀ n t s r, t.clos F.g.length = true → F.In s → ev D n t s = some r → ev D n (F.t t) (F.s s) = some (F.r r) ∧ F.In r.st := by
 intro n
 induction n with
 | zero => intro t s r _ _ h; cases h
 | succ n ih =>
  intro t s r ht hs h;simp only [ev] at h ⊢;cases t with
  | c base c ρ =>
   simp only [Sft.t];simp only [br.clos] at ht;cases c with
   | skip => simp only [step, Option.some.injEq] at h ⊢; subst h; exact ⟨rfl, hs⟩
   | label _ => simp only [step, Option.some.injEq] at h ⊢; subst h; exact ⟨rfl, hs⟩
   | ret => simp only [step, Option.some.injEq] at h ⊢; subst h; exact ⟨rfl, hs⟩
   | exit _ => simp only [step, Option.some.injEq] at h ⊢; subst h; exact ⟨rfl, hs⟩
   | reg keep ops =>
    simp only [C.clos] at ht;simp only [step] at h ⊢;cases hx : ev D n (.o base ops ρ) s with
    | none => rw [hx] at h; cases h
    | some y =>
     rw [hx] at h;obtain ⟨g1, g2⟩ := ih (.o base ops ρ) s y ht hs hx;simp only [Sft.t] at g1;rw [g1];cases y with
     | o ρ1 s1 =>
      simp only [Option.some.injEq] at h;subst h;simp only [Sft.r, uw];exact ⟨trivial, g2⟩
     | _ => cases h
   | regd keep ops =>
    simp only [C.clos] at ht;simp only [step] at h ⊢;cases hx : ev D n (.o base ops ρ) s with
    | none => rw [hx] at h; cases h
    | some y =>
     rw [hx] at h;obtain ⟨g1, g2⟩ := ih (.o base ops ρ) s y ht hs hx;simp only [Sft.t] at g1;rw [g1];cases y with
     | o ρ1 s1 =>
      simp only [Option.some.injEq] at h;subst h;simp only [Sft.r, uw];exact ⟨trivial, g2⟩
     | _ => cases h
   | seq a b =>
    simp only [C.clos, Bool.and_eq_true] at ht;simp only [step] at h ⊢;cases hx : ev D n (.c base a ρ) s with
    | none => rw [hx] at h; cases h
    | some y =>
     rw [hx] at h;obtain ⟨g1, g2⟩ := ih (.c base a ρ) s y ht.1 hs hx;simp only [Sft.t] at g1;rw [g1];cases y with
     | c e1 ρ1 s1 =>
      cases e1 with
      | normal => exact ih (.c base b ρ1) s1 r ht.2 g2 h
      | exit id => simp only [Option.some.injEq] at h; subst h; exact ⟨rfl, g2⟩
      | ret => simp only [Option.some.injEq] at h; subst h; exact ⟨rfl, g2⟩
     | _ => cases h
   | cond x a b =>
    simp only [C.clos, Bool.and_eq_true] at ht;simp only [step] at h ⊢;rw [af ht.1.1];cases hx : x.ev ρ with
    | bool t =>
     rw [hx] at h;simp only [Sft.v] at h ⊢;cases t with
     | true => exact ih (.c base a ρ) s r ht.1.2 hs h
     | false => exact ih (.c base b ρ) s r ht.2 hs h
    | _ => rw [hx] at h; cases h
   | block id b =>
    simp only [C.clos] at ht;simp only [step] at h ⊢;cases hx : ev D n (.c base b ρ) s with
    | none => rw [hx] at h; cases h
    | some y =>
     rw [hx] at h;obtain ⟨g1, g2⟩ := ih (.c base b ρ) s y ht hs hx;simp only [Sft.t] at g1;rw [g1];cases y with
     | c e1 ρ1 s1 =>
      cases e1 with
      | normal => simp only [Option.some.injEq] at h; subst h; exact ⟨rfl, g2⟩
      | exit id => simp only [Option.some.injEq] at h; subst h; exact ⟨rfl, g2⟩
      | ret => simp only [Option.some.injEq] at h; subst h; exact ⟨rfl, g2⟩
     | _ => cases h
   | scope b =>
    simp only [C.clos] at ht;simp only [step] at h ⊢;cases hx : ev D n (.c base b ρ) s with
    | none => rw [hx] at h; cases h
    | some y =>
     rw [hx] at h;obtain ⟨g1, g2⟩ := ih (.c base b ρ) s y ht hs hx;simp only [Sft.t] at g1;rw [g1];cases y with
     | c e1 ρ1 s1 => simp only [Option.some.injEq] at h; subst h; exact ⟨rfl, g2⟩
     | _ => cases h
   | loop keep b =>
    have ht' := ht;simp only [C.clos] at ht;simp only [step] at h ⊢;rw [kz];cases hx : ev D n (.c base b (restrict keep ρ)) s with
    | none => rw [hx] at h; cases h
    | some y =>
     rw [hx] at h;obtain ⟨g1, g2⟩ := ih (.c base b (restrict keep ρ)) s y ht hs hx;simp only [Sft.t] at g1;rw [g1];cases y with
     | c e1 ρ1 s1 =>
      cases e1 with
      | normal =>
       simp only [Sft.r] at h ⊢;split at h
       ·rename_i hsc;rw [kz, vo, if_pos (LC hsc)];obtain ⟨g3, g4⟩ := KK g2 s.loc.length;have := ih (.c base (.loop keep b) ρ1) _ r ht' g4 h;rw [g3] at this;exact this
       ·cases h
      | exit id => simp only [Option.some.injEq] at h; subst h; exact ⟨rfl, g2⟩
      | ret => simp only [Option.some.injEq] at h; subst h; exact ⟨rfl, g2⟩
     | _ => cases h
  | o base l ρ =>
   simp only [Sft.t];simp only [br.clos] at ht;cases l with
   | nil => simp only [step, Option.some.injEq] at h ⊢; subst h; exact ⟨rfl, hs⟩
   | cons op rest =>
    simp only [List.all_cons, Bool.and_eq_true] at ht;simp only [step] at h ⊢;cases hg : aJ op.guard ρ with
    | none => rw [hg] at h; cases h
    | some gb =>
     rw [hg] at h;rw [LE hg];cases gb with
     | false =>
      have := ih (.o base rest (put op.dst (.tup []) ρ)) s r ht.2 hs h;simp only [Sft.t, ← E4, Sft.v, Sft.vs] at this;exact this
     | true =>
      simp only at h ⊢;have key : ∀ v s1, ak (ev D n) base ρ s op.op = some (v, s1) → ak (ev D n) (base + F.l.length) (F.e ρ) (F.s s) op.op = some (F.v v, F.s s1) ∧ F.In s1 := by
       intro v s1 hh;have hcl := ht.1;unfold Op.closd at hcl;cases ho : op.op with
       | call f args =>
        rw [ho] at hh hcl;simp only [Op'.clos, Bool.and_eq_true, List.all_eq_true, aa] at hcl;simp only [ak] at hh ⊢;rw [af (hcl.1 f (by simp)), qJ (fun x hx => hcl.1 x (by simp [hx]))];cases hf : f.ev ρ with
        | fn k caps =>
         rw [hf] at hh;simp only [Sft.v, aA] at hh ⊢;cases hy : ev D n (.f k (args.map (Opd.ev ρ) ++ caps)) s with
         | none => rw [hy] at hh; cases hh
         | some y =>
          rw [hy] at hh;obtain ⟨g1, g2⟩ := ih (.f k (args.map (Opd.ev ρ) ++ caps)) s y rfl hs hy;simp only [Sft.t, aA, List.map_append] at g1;rw [g1];cases y with
          | v v1 s2 =>
           simp only [Option.some.injEq, Prod.mk.injEq] at hh;obtain ⟨rfl, rfl⟩ := hh;exact ⟨rfl, g2⟩
          | _ => cases hh
        | _ => rw [hf] at hh; cases hh
       | callw f args wi =>
        rw [ho] at hh hcl;simp only [Op'.clos, Bool.and_eq_true, List.all_eq_true, aa] at hcl;simp only [ak] at hh ⊢;split at hh
        ·rename_i hlive;have hlive' : pb (F.s s) (wi.ev (F.e ρ)) = true := by
          rw [af (hcl.1 wi (by simp))];exact Oq hF hs hlive
         rw [if_pos hlive', af (hcl.1 f (by simp)), qJ (fun x hx => hcl.1 x (by simp [hx]))];cases hf : f.ev ρ with
         | fn k caps =>
          rw [hf] at hh;simp only [Sft.v, aA] at hh ⊢;cases hy : ev D n (.f k (args.map (Opd.ev ρ) ++ caps)) s with
          | none => rw [hy] at hh; cases hh
          | some y =>
           rw [hy] at hh;obtain ⟨g1, g2⟩ := ih (.f k (args.map (Opd.ev ρ) ++ caps)) s y rfl hs hy;simp only [Sft.t, aA, List.map_append] at g1;rw [g1];cases y with
           | v v1 s2 =>
            simp only [Option.some.injEq, Prod.mk.injEq] at hh;obtain ⟨rfl, rfl⟩ := hh;exact ⟨rfl, g2⟩
           | _ => cases hh
         | _ => rw [hf] at hh; cases hh
        ·cases hh
       | callk p f args =>
        rw [ho] at hh hcl;simp only [Op'.clos, Bool.and_eq_true, List.all_eq_true, aa] at hcl;simp only [ak] at hh ⊢;rw [af (hcl.1 f (by simp)), qJ (fun x hx => hcl.1 x (by simp [hx]))];cases hf : f.ev ρ with
        | fn k caps =>
         rw [hf] at hh;simp only [Sft.v, aA] at hh ⊢;rw [← List.map_append, Gt];generalize hk : be base (args.map (Opd.ev ρ) ++ caps) = kk at *;by_cases hp : pOk base kk (args.map (Opd.ev ρ) ++ caps) s = true
         ·rw [if_pos hp] at hh;rw [if_pos (KQ hp)];have hle : kk ≤ s.loc.length := by
           simp only [pOk, Bool.and_eq_true, decide_eq_true_eq] at hp; exact hp.2.2.1
          rw [KJ hle];cases hy : ev D n (.f k (args.map (Opd.ev ρ) ++ caps)) (s.cut kk) with
          | none => rw [hy] at hh; cases hh
          | some y =>
           rw [hy] at hh;obtain ⟨g1, g2⟩ := ih (.f k (args.map (Opd.ev ρ) ++ caps)) (s.cut kk) y rfl hs hy;simp only [Sft.t, aA] at g1;rw [g1];cases y with
           | v v1 s2 =>
            simp only [Sft.r] at hh ⊢;split at hh
            ·rename_i hkp;simp only [Option.some.injEq, Prod.mk.injEq] at hh;obtain ⟨rfl, rfl⟩ := hh;rw [if_pos (NP (show F.In (s.cut kk) from hs) hkp)]
             exact ⟨rfl, g2⟩
            ·cases hh
           | _ => cases hh
         ·rw [if_neg hp] at hh; cases hh
        | _ => rw [hf] at hh; cases hh
       | pcall f args =>
        rw [ho] at hh hcl;simp only [Op'.clos, Bool.and_eq_true, List.all_eq_true, aa] at hcl;simp only [ak] at hh ⊢;rw [af (hcl.1 f (by simp)), qJ (fun x hx => hcl.1 x (by simp [hx]))];cases hf : f.ev ρ with
        | fn k caps =>
         rw [hf] at hh;simp only [Sft.v, aA] at hh ⊢;rw [← List.map_append, Gt];generalize hk : be base (args.map (Opd.ev ρ) ++ caps) = kk at *;by_cases hp : pOk base kk (args.map (Opd.ev ρ) ++ caps) s = true
         ·rw [if_pos hp] at hh;rw [if_pos (KQ hp)];have hle : kk ≤ s.loc.length := by
           simp only [pOk, Bool.and_eq_true, decide_eq_true_eq] at hp; exact hp.2.2.1
          rw [KJ hle];cases hy : ev D n (.f k (args.map (Opd.ev ρ) ++ caps)) (s.cut kk) with
          | none => rw [hy] at hh; cases hh
          | some y =>
           rw [hy] at hh;obtain ⟨g1, g2⟩ := ih (.f k (args.map (Opd.ev ρ) ++ caps)) (s.cut kk) y rfl hs hy;simp only [Sft.t, aA] at g1;rw [g1];cases y with
           | v v1 s2 =>
            simp only [Sft.r] at hh ⊢;split at hh
            ·rename_i hss;obtain ⟨rfl, hfl⟩ := hss;simp only [Option.some.injEq, Prod.mk.injEq] at hh;obtain ⟨rfl, rfl⟩ := hh;rw [cR hfl];exact ⟨by rw [if_pos ⟨rfl, hfl⟩], hs⟩
            ·cases hh
           | _ => cases hh
         ·rw [if_neg hp] at hh; cases hh
        | _ => rw [hf] at hh; cases hh
       | _ => rw [ho] at hh hcl; exact zV (base := base) (ρ := ρ) hF hs hcl hh
      cases hq : ak (ev D n) base ρ s op.op with
      | none => rw [hq] at h; cases h
      | some q =>
       obtain ⟨v, s1⟩ := q;rw [hq] at h;obtain ⟨g1, g2⟩ := key v s1 hq;rw [g1];have := ih (.o base rest (put op.dst v ρ)) s1 r ht.2 g2 h;simp only [Sft.t, ← E4] at this;exact this
  | f f args =>
   simp only [Sft.t];simp only [step] at h ⊢;cases hd : D f with
   | none => rw [hd] at h; cases h
   | some fc =>
    rw [hd] at h;simp only [aA, List.length_map] at h ⊢;by_cases hl : args.length = fc.n
    ·rw [if_pos hl] at h ⊢;cases hx : ev D n (.c s.loc.length fc.body (dJ 0 args)) s with
     | none => rw [hx] at h; cases h
     | some y =>
      rw [hx] at h;obtain ⟨g1, g2⟩ := ih (.c s.loc.length fc.body (dJ 0 args)) s y (hD f fc hd) hs hx;simp only [Sft.t, ← vr] at g1;rw [vo, g1];cases y with
      | c e1 ρ1 s1 =>
       have fin : (match bP ρ1 s1 fc.res with
        | some v => if v.locLt s.loc.length = true ∧ s.loc.length ≤ s1.loc.length then some (Res.v v { s1 with loc := s1.loc.take s.loc.length }) else none
        | none => none) = some r → (match bP (F.e ρ1) (F.s s1) fc.res with
        | some v => if v.locLt (s.loc.length + F.l.length) = true ∧ s.loc.length + F.l.length ≤ (F.s s1).loc.length then some (Res.v v { F.s s1 with loc := (F.s s1).loc.take (s.loc.length + F.l.length) }) else none
        | none => none) = some (F.r r) ∧ F.In r.st := by
        intro hr;cases hro : bP ρ1 s1 fc.res with
        | none => rw [hro] at hr; cases hr
        | some v =>
         rw [hro] at hr;rw [PM (s := s1) hF g2 hro];simp only [pn, vo] at hr ⊢;split at hr
         ·rename_i hh;rw [if_pos ⟨hh.1, by omega⟩];simp only [Option.some.injEq] at hr;subst hr;obtain ⟨g3, g4⟩ := KK g2 s.loc.length;refine ⟨?_, g4⟩;simp only [Sft.r];exact congrArg (fun z => some (Res.v (F.v v) z)) g3.symm
         ·cases hr
       cases e1 with
       | exit id => cases h
       | normal => exact fin h
       | ret => exact fin h
      | _ => cases h
    ·rw [if_neg hl] at h; cases h
theorem An {D : Nat → Option Fc} {G : List Blk} (hG : ∀ b ∈ G, ∃ v, b = .ro v ∧ v.flat = true) (hD : Ep D G.length) {f : Nat} {args : List V} {n : Nat} {v : V} (ha : V.flats args = true) (hv : v.flat = true)
 (h : ev D n (.f f args) ⟨[], G⟩ = some (.v v ⟨[], G⟩)) {s : St} (hs : G <+: s.hp) : rf D f args s = some (v, s) := by
 obtain ⟨x, hx⟩ := hs;obtain ⟨g1, g2⟩ := shift (F := ⟨G, s.loc, x⟩) ⟨hG⟩ hD n (.f f args) ⟨[], G⟩ _ rfl (by simp [Sft.In]) h;rw [Fw];refine rN (n := n) ?_;simp only [Sft.t, fa ha, Sft.r, cR hv, Sft.s, List.map_nil, List.append_nil, List.drop_length, hx] at g1;exact g1
end Go.Ab
namespace Go.Ab
theorem ym {H : Type} {enc : TypeId × Value → H} {P : Program} {w : World} {base : Nat} {spare : Nat → Bool} {held : Bool} {fuel t e : Nat} {n : Nat} {k : IntKind} {cs : List Value} {ls : List Int} {ps : List MemPlace}
 (ht : P.underlying t = some (.array n e)) (he : P.underlying e = some (.int k)) (h1 : P.cellsOf e = 1) (h2 : P.cellsOf t = n)
 (h : DataW.trod enc P w base spare held fuel t cs = some (.agg (ls.map fun x => .lit (.int k x)), ps)) : cs = ls.map (Value.int k) := by
 obtain ⟨xs, m, rfl, hx, hlen, hn, hel⟩ := DataW.trod_array ht h;simp only [Prod.mk.injEq, DataW.agg.injEq] at hx;have hl : ls.length = n := by
  have := congrArg List.length hx.1;simp only [List.length_map] at this;omega
 apply List.ext_getElem?;intro i;by_cases hi : i < n
 ·have hxi : i < xs.length := by omega
  have hci : i < cs.length := by omega
  have hli : i < ls.length := by omega
  have g := hel i hi;rw [h1, Nat.mul_one, List.getElem?_eq_getElem hxi] at g;obtain ⟨v, g1, g2, _⟩ := DataW.trod_int he g;have g3 : xs[i].1 = .lit (.int k ls[i]) := by
   have := congrArg (fun l => l[i]?) hx.1;simp only [List.getElem?_map, List.getElem?_eq_getElem hxi, List.getElem?_eq_getElem hli, Option.map_some, Option.some.injEq] at this;exact this.symm
  rw [g2] at g3;simp only [DataW.lit.injEq, Lit.int.injEq, true_and] at g3;have g4 : cs[i] = .int k v := by
   have := congrArg (fun l => l[0]?) g1;simp only [List.getElem?_take, List.getElem?_drop, Nat.add_zero, Nat.zero_lt_one, if_true, List.getElem?_eq_getElem hci, List.getElem?_cons_zero, Option.some.injEq] at this;exact this
  rw [List.getElem?_eq_getElem hci, List.getElem?_map, List.getElem?_eq_getElem hli, g4, g3];rfl
 ·rw [List.getElem?_eq_none (by omega), List.getElem?_eq_none (by simp; omega)]
end Go.Ab
namespace Go.Ab
end Go.Ab
