/-
  Ab23: a run stands wherever it stands: behind more blocks it tells the same, its own blocks moved on.
-/
import Derived.Test.YtfdaihhnlohckaaDoorAb3
namespace Go.Ab

structure Sft where
  g : List Blk
  l : List Blk
  h : List Blk

def Sft.a (F : Sft) : Loc → Loc
  | .loc i => .loc (i + F.l.length)
  | .hp i => if i < F.g.length then .hp i else .hp (i + F.h.length)
mutual
def Sft.v (F : Sft) : V → V
  | .ptr a p t => .ptr (F.a a) p t
  | .sl a p o l c e => .sl (F.a a) p o l c e
  | .fn f caps => .fn f (F.vs caps)
  | .agg t l => .agg t (F.vs l)
  | .tup l => .tup (F.vs l)
  | v => v
def Sft.vs (F : Sft) : List V → List V
  | [] => []
  | v :: l => F.v v :: F.vs l
end
def Sft.b (F : Sft) : Blk → Blk
  | .dead => .dead
  | .ro v => .ro (F.v v)
  | .rw v => .rw (F.v v)
def Sft.s (F : Sft) (s : St) : St := ⟨F.l ++ s.loc.map F.b, F.g ++ F.h ++ (s.hp.drop F.g.length).map F.b⟩
def Sft.e (F : Sft) (ρ : Env) : Env := ρ.map fun p => (p.1, F.v p.2)

mutual
/-- No reference in it. -/
def V.flat : V → Bool
  | .ptr _ _ _ => false
  | .sl _ _ _ _ _ _ => false
  | .fn _ caps => V.flats caps
  | .agg _ l => V.flats l
  | .tup l => V.flats l
  | _ => true
def V.flats : List V → Bool
  | [] => true
  | v :: l => v.flat && V.flats l
end
/-- What stands in the code: no reference, or one to a variable of the program. -/
def V.clos (g : Nat) : V → Bool
  | .ptr (.hp i) _ _ => decide (i < g)
  | v => v.flat

/-- The program's variables: read alone, without references. -/
structure Sft.Ok (F : Sft) : Prop where
  ro : ∀ b ∈ F.g, ∃ v, b = .ro v ∧ v.flat = true
def Sft.In (F : Sft) (s : St) : Prop := s.hp.take F.g.length = F.g

section
variable {F : Sft}
theorem vs_map : ∀ (l : List V), F.vs l = l.map F.v
  | [] => by simp [Sft.vs]
  | v :: l => by simp [Sft.vs, vs_map l]
theorem e_map (ρ : Env) : F.e ρ = ρ.map fun p => (p.1, F.v p.2) := rfl

mutual
theorem v_flat : ∀ {v : V}, v.flat = true → F.v v = v
  | .ptr _ _ _, h => by simp [V.flat] at h
  | .sl _ _ _ _ _ _, h => by simp [V.flat] at h
  | .fn f caps, h => by simp only [V.flat] at h; simp only [Sft.v, vs_flat h]
  | .agg t l, h => by simp only [V.flat] at h; simp only [Sft.v, vs_flat h]
  | .tup l, h => by simp only [V.flat] at h; simp only [Sft.v, vs_flat h]
  | .dead, _ | .bool _, _ | .int _ _, _ | .str _, _ | .nilp, _ | .nils, _ | .nilf, _ => by simp [Sft.v]
theorem vs_flat : ∀ {l : List V}, V.flats l = true → F.vs l = l
  | [], _ => by simp [Sft.vs]
  | v :: l, h => by
    simp only [V.flats, Bool.and_eq_true] at h
    simp only [Sft.vs, v_flat h.1, vs_flat h.2]
end
theorem v_clos {v : V} (h : v.clos F.g.length = true) : F.v v = v := by
  unfold V.clos at h
  split at h
  · simp only [decide_eq_true_eq] at h
    simp only [Sft.v, Sft.a, if_pos h]
  · exact v_flat h

mutual
theorem locLt_v {b : Nat} : ∀ (v : V), (F.v v).locLt (b + F.l.length) = v.locLt b
  | .ptr (.loc i) _ _ => by simp [Sft.v, Sft.a, V.locLt]
  | .ptr (.hp i) _ _ => by simp only [Sft.v, Sft.a]; split <;> simp [V.locLt]
  | .sl (.loc i) _ _ _ _ _ => by simp [Sft.v, Sft.a, V.locLt]
  | .sl (.hp i) _ _ _ _ _ => by simp only [Sft.v, Sft.a]; split <;> simp [V.locLt]
  | .fn f caps => by simp only [Sft.v, V.locLt, locLts_v caps]
  | .agg t l => by simp only [Sft.v, V.locLt, locLts_v l]
  | .tup l => by simp only [Sft.v, V.locLt, locLts_v l]
  | .dead | .bool _ | .int _ _ | .str _ | .nilp | .nils | .nilf => by simp [Sft.v, V.locLt]
theorem locLts_v {b : Nat} : ∀ (l : List V), V.locLts (b + F.l.length) (F.vs l) = V.locLts b l
  | [] => by simp [Sft.vs, V.locLts]
  | v :: l => by simp only [Sft.vs, V.locLts, locLt_v v, locLts_v l]
end
mutual
theorem locLt0_v : ∀ (v : V), (F.v v).locLt 0 = v.locLt 0
  | .ptr (.loc i) _ _ => by simp [Sft.v, Sft.a, V.locLt]
  | .ptr (.hp i) _ _ => by simp only [Sft.v, Sft.a]; split <;> simp [V.locLt]
  | .sl (.loc i) _ _ _ _ _ => by simp [Sft.v, Sft.a, V.locLt]
  | .sl (.hp i) _ _ _ _ _ => by simp only [Sft.v, Sft.a]; split <;> simp [V.locLt]
  | .fn f caps => by simp only [Sft.v, V.locLt, locLts0_v caps]
  | .agg t l => by simp only [Sft.v, V.locLt, locLts0_v l]
  | .tup l => by simp only [Sft.v, V.locLt, locLts0_v l]
  | .dead | .bool _ | .int _ _ | .str _ | .nilp | .nils | .nilf => by simp [Sft.v, V.locLt]
theorem locLts0_v : ∀ (l : List V), V.locLts 0 (F.vs l) = V.locLts 0 l
  | [] => by simp [Sft.vs, V.locLts]
  | v :: l => by simp only [Sft.vs, V.locLts, locLt0_v v, locLts0_v l]
end
theorem tag_v (v : V) : (F.v v).tag = v.tag := by cases v <;> rfl
theorem ok_v (v : V) : (F.v v).ok = v.ok := by cases v <;> rfl
theorem mayNew_v {h : Bool} (v : V) : mayNew h (F.v v) = mayNew h v := by simp only [mayNew, locLt0_v]
theorem get_e : ∀ (ρ : Env) (t : Nat), get (F.e ρ) t = F.v (get ρ t)
  | [], _ => rfl
  | (k, v) :: r, t => by
    simp only [e_map, List.map_cons, get]
    split
    · rfl
    · exact get_e r t
theorem restrict_e (ks : List Nat) (ρ : Env) : restrict ks (F.e ρ) = F.e (restrict ks ρ) := by
  simp only [restrict, e_map, List.map_map]
  apply List.map_congr_left
  intro k _
  simp only [Function.comp]
  rw [← e_map, get_e]
theorem keepOf_e (k : Option (List Nat)) (ρ : Env) : keepOf k (F.e ρ) = F.e (keepOf k ρ) := by
  cases k with
  | none => rfl
  | some ks => exact restrict_e ks ρ
theorem put_e (d : Option Nat) (v : V) (ρ : Env) : put d (F.v v) (F.e ρ) = F.e (put d v ρ) := by cases d <;> rfl
theorem env0_e : ∀ (l : List V) (i : Nat), env0 i (l.map F.v) = F.e (env0 i l)
  | [], _ => rfl
  | v :: l, i => by simp only [List.map_cons, env0, env0_e l, e_map]

def Opd.clos (g : Nat) : Opd → Bool
  | .t _ => true
  | .k v => v.clos g
theorem opd_e {ρ : Env} {x : Opd} (h : x.clos F.g.length = true) : x.ev (F.e ρ) = F.v (x.ev ρ) := by
  cases x with
  | t n => exact get_e ρ n
  | k v => exact (v_clos h).symm

/-! ### Memory -/
theorem at_v : ∀ {p : List Nat} {v u : V}, V.at p v = some u → V.at p (F.v v) = some (F.v u)
  | [], v, u, h => by simp only [V.at, Option.some.injEq] at h ⊢; rw [h]
  | i :: p, v, u, h => by
    cases v with
    | agg t l =>
      simp only [V.at] at h
      cases hy : l[i]? with
      | none => rw [hy] at h; cases h
      | some y =>
        rw [hy] at h
        simp only [Sft.v, V.at, vs_map, List.getElem?_map, hy, Option.map_some]
        exact at_v h
    | _ => cases h
theorem setAt_v : ∀ {p : List Nat} {x v u : V}, V.setAt p x v = some u → V.setAt p (F.v x) (F.v v) = some (F.v u)
  | [], x, v, u, h => by simp only [V.setAt, Option.some.injEq] at h ⊢; rw [h]
  | i :: p, x, v, u, h => by
    cases v with
    | agg t l =>
      simp only [V.setAt] at h
      cases hy : l[i]? with
      | none => rw [hy] at h; cases h
      | some y =>
        rw [hy] at h
        simp only at h
        cases hq : V.setAt p x y with
        | none => rw [hq] at h; cases h
        | some y' =>
          rw [hq] at h
          simp only [Option.some.injEq] at h
          subst h
          simp only [Sft.v, V.setAt, vs_map, List.getElem?_map, hy, Option.map_some, setAt_v hq, List.map_set]
    | _ => cases h

theorem In.len {s : St} (h : F.In s) : F.g.length ≤ s.hp.length := by
  have := congrArg List.length h
  simp at this
  omega
theorem at_s (hF : F.Ok) {s : St} (hs : F.In s) {a : Loc} {b : Blk} (h : s.at a = some b) : (F.s s).at (F.a a) = some (F.b b) := by
  cases a with
  | loc i =>
    simp only [St.at] at h
    simp only [Sft.a, St.at, Sft.s]
    rw [List.getElem?_append_right (by omega), Nat.add_sub_cancel, List.getElem?_map, h]; rfl
  | hp i =>
    simp only [St.at] at h
    have hl := In.len hs
    simp only [Sft.a]
    by_cases hi : i < F.g.length
    · rw [if_pos hi]
      simp only [St.at, Sft.s]
      have hg : F.g[i]? = some b := by
        rw [← hs, List.getElem?_take, if_pos hi]; exact h
      rw [List.append_assoc, List.getElem?_append_left hi, hg]
      obtain ⟨v, rfl, hv⟩ := hF.ro b (List.mem_of_getElem? hg)
      simp only [Sft.b, v_flat hv]
    · rw [if_neg hi]
      simp only [St.at, Sft.s]
      rw [List.getElem?_append_right (by simp; omega)]
      have e : i + F.h.length - (F.g ++ F.h).length = i - F.g.length := by simp; omega
      rw [e, List.getElem?_map, List.getElem?_drop, show F.g.length + (i - F.g.length) = i by omega, h]; rfl
theorem read_s (hF : F.Ok) {s : St} (hs : F.In s) {a : Loc} {p : List Nat} {u : V} (h : s.read a p = some u) : (F.s s).read (F.a a) p = some (F.v u) := by
  unfold St.read at h ⊢
  cases hb : s.at a with
  | none => rw [hb] at h; cases h
  | some b =>
    rw [hb] at h
    rw [at_s hF hs hb]
    cases b with
    | dead => cases h
    | ro v => exact at_v h
    | rw v => exact at_v h
theorem notG (hF : F.Ok) {s : St} (hs : F.In s) {i : Nat} {v : V} (h : s.hp[i]? = some (.rw v)) : F.g.length ≤ i := by
  apply Classical.byContradiction
  intro hi
  have hg : F.g[i]? = some (.rw v) := by rw [← hs, List.getElem?_take, if_pos (by omega)]; exact h
  obtain ⟨_, h1, _⟩ := hF.ro _ (List.mem_of_getElem? hg)
  cases h1
theorem set_s (hF : F.Ok) {s : St} (hs : F.In s) {a : Loc} {v : V} (h : s.at a = some (.rw v)) (b : Blk) : F.s (s.set a b) = (F.s s).set (F.a a) (F.b b) ∧ F.In (s.set a b) := by
  cases a with
  | loc i =>
    refine ⟨?_, hs⟩
    simp only [St.set, Sft.s, Sft.a, List.map_set]
    rw [List.set_append_right _ _ (by omega), Nat.add_sub_cancel]
  | hp i =>
    have hi := notG hF hs h
    have hl := In.len hs
    constructor
    · simp only [St.set, Sft.s, Sft.a]
      rw [if_neg (by omega)]
      simp only [St.mk.injEq, true_and]
      rw [List.set_append_right _ _ (by simp; omega)]
      have e : i + F.h.length - (F.g ++ F.h).length = i - F.g.length := by simp; omega
      rw [e, List.drop_set, if_neg (by omega), List.map_set]
    · simp only [Sft.In, St.set]
      rw [List.take_set_of_le hi]
      exact hs
theorem write_s (hF : F.Ok) {base : Nat} {s s' : St} (hs : F.In s) {a : Loc} {p : List Nat} {x : V} (h : s.write base a p x = some s') : (F.s s).write (base + F.l.length) (F.a a) p (F.v x) = some (F.s s') ∧ F.In s' := by
  unfold St.write at h ⊢
  cases hb : s.at a with
  | none => rw [hb] at h; cases h
  | some b =>
    rw [hb] at h
    rw [at_s hF hs hb]
    cases b with
    | dead => cases h
    | ro v => cases h
    | rw v =>
      simp only at h
      by_cases hm : mayLie base a x = true
      · rw [if_pos hm] at h
        have hm' : mayLie (base + F.l.length) (F.a a) (F.v x) = true := by
          cases a with
          | loc i => simp only [mayLie, Sft.a, locLt0_v] at hm ⊢; simpa using hm
          | hp i =>
            have h0 : x.locLt 0 = true := hm
            simp only [Sft.a]
            split <;> (simp only [mayLie, locLt0_v]; exact h0)
        cases hq : V.setAt p x v with
        | none => rw [hq] at h; cases h
        | some v' =>
          rw [hq] at h
          simp only [Option.some.injEq] at h
          subst h
          obtain ⟨g1, g2⟩ := set_s hF hs hb (.rw v')
          refine ⟨?_, g2⟩
          simp only [Sft.b, if_pos hm', setAt_v hq]
          rw [g1]; rfl
      · rw [if_neg hm] at h; cases h
theorem new_s {s : St} (hs : F.In s) (h : Bool) (v : V) : F.s (s.new h v) = (F.s s).new h (F.v v) ∧ (F.s s).fresh h = F.a (s.fresh h) ∧ F.In (s.new h v) := by
  have hl := In.len hs
  cases h with
  | false =>
    refine ⟨?_, ?_, hs⟩
    · simp [St.new, Sft.s, Sft.b]
    · simp only [St.fresh, Sft.s, Sft.a]
      simp; omega
  | true =>
    refine ⟨?_, ?_, ?_⟩
    · simp only [St.new, Sft.s, if_true]
      rw [List.drop_append_of_le_length hl, List.map_append, ← List.append_assoc]; rfl
    · simp only [St.fresh, Sft.s, Sft.a, if_true]
      rw [if_neg (by omega)]
      simp; omega
    · simp only [Sft.In, St.new, if_true]
      rw [List.take_append_of_le_length hl]
      exact hs
theorem cut_s {s : St} (hs : F.In s) (n : Nat) : F.s { s with loc := s.loc.take n } = { F.s s with loc := (F.s s).loc.take (n + F.l.length) } ∧ F.In { s with loc := s.loc.take n } := by
  refine ⟨?_, hs⟩
  simp only [Sft.s, St.mk.injEq, and_true]
  rw [List.take_append (l₁ := F.l), List.take_of_length_le (l := F.l) (by omega), Nat.add_sub_cancel, List.map_take]
theorem len_s (s : St) : (F.s s).loc.length = s.loc.length + F.l.length := by simp [Sft.s]; omega
end
end Go.Ab
