/-
  Ab33: two blocks that stand side by side change places: each operation does the same.
-/
import Derived.Test.YtpbpgbedkmbfkaaAb17
namespace Go.Ab
mutual
/-- No reference in it. -/
def V.flat : V → Bool
  | .ptr _ _ _ => false
  | .sl _ _ _ _ _ _ => false
  | .fn _ caps => V.flats caps
  | .agg _ l => V.flats l
  | .tup l => V.flats l
  | _ => true
def V.flats : List V → Bool
  | [] => true
  | v :: l => v.flat && V.flats l
end
/-- What stands in the code: no reference, or one to a variable of the program. -/
def V.clos (g : Nat) : V → Bool
  | .ptr (.hp i) _ _ => decide (i < g)
  | v => v.flat

def Opd.clos (g : Nat) : Opd → Bool
  | .t _ => true
  | .k v => v.clos g
def zOf : Op' → Option V
  | .alloc _ z => some z
  | .mksl _ _ _ z _ _ => some z
  | .bld z _ => some z
  | .bsl _ _ _ z _ _ => some z
  | _ => none
def Op'.clos (g : Nat) (o : Op') : Bool := (opdsOf o).all (Opd.clos g) && (match zOf o with | some z => z.flat | none => true)

end Go.Ab
namespace Go.Ab.Sw
open Go.Ab

structure Swp where
  h : Bool
  i : Nat
def sw (i j : Nat) : Nat := if j = i then i + 1 else if j = i + 1 then i else j
theorem sw_sw (i j : Nat) : sw i (sw i j) = j := by
  unfold sw
  by_cases h1 : j = i
  · subst h1; simp
  · by_cases h2 : j = i + 1
    · subst h2; simp
    · simp [h1, h2]
theorem sw_lt {i n j : Nat} (hi : i + 1 < n) : sw i j < n ↔ j < n := by
  unfold sw
  by_cases h1 : j = i
  · subst h1; simp; omega
  · by_cases h2 : j = i + 1
    · subst h2; simp; omega
    · simp [h1, h2]
def Swp.a (F : Swp) : Loc → Loc
  | .loc j => if F.h then .loc j else .loc (sw F.i j)
  | .hp j => if F.h then .hp (sw F.i j) else .hp j
mutual
def Swp.v (F : Swp) : V → V
  | .ptr a p t => .ptr (F.a a) p t
  | .sl a p o l c e => .sl (F.a a) p o l c e
  | .fn f caps => .fn f (F.vs caps)
  | .agg t l => .agg t (F.vs l)
  | .tup l => .tup (F.vs l)
  | v => v
def Swp.vs (F : Swp) : List V → List V
  | [] => []
  | v :: l => F.v v :: F.vs l
end
def Swp.b (F : Swp) : Blk → Blk
  | .dead => .dead
  | .ro v => .ro (F.v v)
  | .rw v => .rw (F.v v)
/-- A row with the i-th and the next one changed. -/
def swl {α : Type} (i : Nat) (l : List α) : List α := match l[i]?, l[i + 1]? with
  | some x, some y => (l.set i y).set (i + 1) x
  | _, _ => l
theorem swl_len {α : Type} (i : Nat) (l : List α) : (swl i l).length = l.length := by unfold swl; split <;> simp
theorem swl_out {α : Type} {i : Nat} {l : List α} (hi : l.length ≤ i) : swl i l = l := by
  unfold swl
  rw [List.getElem?_eq_none hi]
theorem swl_get {α : Type} {i : Nat} {l : List α} (hi : i + 1 ≠ l.length) (j : Nat) : (swl i l)[sw i j]? = l[j]? := by
  by_cases hin : i + 1 < l.length
  · unfold swl
    rw [List.getElem?_eq_getElem (show i < l.length by omega), List.getElem?_eq_getElem hin]
    simp only
    unfold sw
    by_cases h1 : j = i
    · subst h1
      rw [if_pos rfl, List.getElem?_set_self (by simpa using hin), List.getElem?_eq_getElem (by omega)]
    · rw [if_neg h1]
      by_cases h2 : j = i + 1
      · subst h2
        rw [if_pos rfl, List.getElem?_set_ne (by omega), List.getElem?_set_self (by omega), List.getElem?_eq_getElem hin]
      · rw [if_neg h2, List.getElem?_set_ne (by omega), List.getElem?_set_ne (by omega)]
  · rw [swl_out (by omega)]
    unfold sw
    by_cases h1 : j = i
    · subst h1; rw [if_pos rfl, List.getElem?_eq_none (by omega), List.getElem?_eq_none (by omega)]
    · rw [if_neg h1]
      by_cases h2 : j = i + 1
      · subst h2; rw [if_pos rfl, List.getElem?_eq_none (by omega), List.getElem?_eq_none (by omega)]
      · rw [if_neg h2]
theorem swl_ext {α : Type} {i : Nat} {l m : List α} (hi : i + 1 ≠ l.length) (h : ∀ j, m[sw i j]? = l[j]?) : m = swl i l := by
  apply List.ext_getElem?
  intro j
  have := h (sw i j)
  rw [sw_sw] at this
  rw [this, ← swl_get hi (sw i j), sw_sw]
theorem swl_swl {α : Type} {i : Nat} {l : List α} (hi : i + 1 ≠ l.length) : swl i (swl i l) = l := by
  symm
  apply swl_ext (by rw [swl_len]; exact hi)
  intro j
  have := swl_get hi (sw i j)
  rw [sw_sw] at this
  exact this.symm
theorem swl_set {α : Type} {i : Nat} {l : List α} (hi : i + 1 ≠ l.length) (j : Nat) (x : α) : swl i (l.set j x) = (swl i l).set (sw i j) x := by
  symm
  apply swl_ext (by simpa using hi)
  intro k
  by_cases e : j = k
  · subst e
    by_cases hj : j < l.length
    · have hg := swl_get hi j
      rw [List.getElem?_eq_getElem hj] at hg
      rw [List.getElem?_set_self (List.getElem?_eq_some_iff.1 hg).1, List.getElem?_set_self hj]
    · have hg : (swl i l)[sw i j]? = none := by rw [swl_get hi j]; exact List.getElem?_eq_none (by omega)
      rw [List.getElem?_eq_none (by rw [List.length_set]; exact List.getElem?_eq_none_iff.1 hg), List.getElem?_eq_none (by simp; omega)]
  · rw [List.getElem?_set_ne (by intro h; apply e; have := congrArg (sw i) h; rwa [sw_sw, sw_sw] at this), swl_get hi, List.getElem?_set_ne e]
theorem swl_app {α : Type} {i : Nat} {l : List α} {x : α} (hi : i + 1 ≠ l.length) (hi2 : i ≠ l.length) : swl i (l ++ [x]) = swl i l ++ [x] := by
  by_cases hin : i + 1 < l.length
  · symm
    apply swl_ext (by simp; omega)
    intro k
    by_cases hk : k < l.length
    · rw [List.getElem?_append_left (by rw [swl_len]; exact (sw_lt hin).2 hk), swl_get hi, List.getElem?_append_left hk]
    · have e : sw i k = k := by unfold sw; rw [if_neg (by omega), if_neg (by omega)]
      rw [e, List.getElem?_append_right (by rw [swl_len]; omega), List.getElem?_append_right (by omega), swl_len]
  · rw [swl_out (l := l) (by omega), swl_out (l := l ++ [x]) (by rw [List.length_append, List.length_singleton]; omega)]
theorem swl_map {α β : Type} (f : α → β) (i : Nat) (l : List α) : (swl i l).map f = swl i (l.map f) := by
  unfold swl
  rw [List.getElem?_map, List.getElem?_map]
  cases l[i]? with
  | none => rfl
  | some x =>
    cases l[i + 1]? with
    | none => rfl
    | some y => simp
def Swp.s (F : Swp) (s : St) : St := if F.h then ⟨s.loc.map F.b, (swl F.i s.hp).map F.b⟩ else ⟨(swl F.i s.loc).map F.b, s.hp.map F.b⟩
def Swp.e (F : Swp) (ρ : Env) : Env := ρ.map fun p => (p.1, F.v p.2)
/-- How many blocks of its kind there are. -/
def Swp.n (F : Swp) (s : St) : Nat := if F.h then s.hp.length else s.loc.length
/-- It stands within, or behind. -/
def Swp.In (F : Swp) (s : St) : Prop := F.i + 1 ≠ F.n s
structure Swp.Ok (F : Swp) (base : Nat) : Prop where
  lo : F.h = false → base ≤ F.i
section
variable {F : Swp}
theorem vs_map : ∀ (l : List V), F.vs l = l.map F.v
  | [] => by simp [Swp.vs]
  | v :: l => by simp [Swp.vs, vs_map l]
theorem e_map (ρ : Env) : F.e ρ = ρ.map fun p => (p.1, F.v p.2) := rfl

mutual
theorem v_flat : ∀ {v : V}, v.flat = true → F.v v = v
  | .ptr _ _ _, h => by simp [V.flat] at h
  | .sl _ _ _ _ _ _, h => by simp [V.flat] at h
  | .fn f caps, h => by simp only [V.flat] at h; simp only [Swp.v, vs_flat h]
  | .agg t l, h => by simp only [V.flat] at h; simp only [Swp.v, vs_flat h]
  | .tup l, h => by simp only [V.flat] at h; simp only [Swp.v, vs_flat h]
  | .dead, _ | .bool _, _ | .int _ _, _ | .str _, _ | .nilp, _ | .nils, _ | .nilf, _ => by simp [Swp.v]
theorem vs_flat : ∀ {l : List V}, V.flats l = true → F.vs l = l
  | [], _ => by simp [Swp.vs]
  | v :: l, h => by
    simp only [V.flats, Bool.and_eq_true] at h
    simp only [Swp.vs, v_flat h.1, vs_flat h.2]
end
theorem v_clos {v : V} (h : v.clos 0 = true) : F.v v = v := by
  unfold V.clos at h
  split at h
  · simp only [decide_eq_true_eq] at h
    omega
  · exact v_flat h

mutual
theorem locLt0_v : ∀ (v : V), (F.v v).locLt 0 = v.locLt 0
  | .ptr (.loc i) _ _ => by simp only [Swp.v, Swp.a]; split <;> simp [V.locLt]
  | .ptr (.hp i) _ _ => by simp only [Swp.v, Swp.a]; split <;> simp [V.locLt]
  | .sl (.loc i) _ _ _ _ _ => by simp only [Swp.v, Swp.a]; split <;> simp [V.locLt]
  | .sl (.hp i) _ _ _ _ _ => by simp only [Swp.v, Swp.a]; split <;> simp [V.locLt]
  | .fn f caps => by simp only [Swp.v, V.locLt, locLts0_v caps]
  | .agg t l => by simp only [Swp.v, V.locLt, locLts0_v l]
  | .tup l => by simp only [Swp.v, V.locLt, locLts0_v l]
  | .dead | .bool _ | .int _ _ | .str _ | .nilp | .nils | .nilf => by simp [Swp.v, V.locLt]
theorem locLts0_v : ∀ (l : List V), V.locLts 0 (F.vs l) = V.locLts 0 l
  | [] => by simp [Swp.vs, V.locLts]
  | v :: l => by simp only [Swp.vs, V.locLts, locLt0_v v, locLts0_v l]
end
theorem tag_v (v : V) : (F.v v).tag = v.tag := by cases v <;> rfl
theorem ok_v (v : V) : (F.v v).ok = v.ok := by cases v <;> rfl
theorem mayNew_v {h : Bool} (v : V) : mayNew h (F.v v) = mayNew h v := by simp only [mayNew, locLt0_v]
theorem get_e : ∀ (ρ : Env) (t : Nat), get (F.e ρ) t = F.v (get ρ t)
  | [], _ => rfl
  | (k, v) :: r, t => by
    simp only [e_map, List.map_cons, get]
    split
    · rfl
    · exact get_e r t
theorem restrict_e (ks : List Nat) (ρ : Env) : restrict ks (F.e ρ) = F.e (restrict ks ρ) := by
  simp only [restrict, e_map, List.map_map]
  apply List.map_congr_left
  intro k _
  simp only [Function.comp]
  rw [← e_map, get_e]
theorem keepOf_e (k : Option (List Nat)) (ρ : Env) : keepOf k (F.e ρ) = F.e (keepOf k ρ) := by
  cases k with
  | none => rfl
  | some ks => exact restrict_e ks ρ
theorem put_e (d : Option Nat) (v : V) (ρ : Env) : put d (F.v v) (F.e ρ) = F.e (put d v ρ) := by cases d <;> rfl
theorem env0_e : ∀ (l : List V) (i : Nat), env0 i (l.map F.v) = F.e (env0 i l)
  | [], _ => rfl
  | v :: l, i => by simp only [List.map_cons, env0, env0_e l, e_map]

theorem opd_e {ρ : Env} {x : Opd} (h : x.clos 0 = true) : x.ev (F.e ρ) = F.v (x.ev ρ) := by
  cases x with
  | t n => exact get_e ρ n
  | k v => exact (v_clos h).symm

/-! ### Memory -/
theorem at_v : ∀ {p : List Nat} {v u : V}, V.at p v = some u → V.at p (F.v v) = some (F.v u)
  | [], v, u, h => by simp only [V.at, Option.some.injEq] at h ⊢; rw [h]
  | i :: p, v, u, h => by
    cases v with
    | agg t l =>
      simp only [V.at] at h
      cases hy : l[i]? with
      | none => rw [hy] at h; cases h
      | some y =>
        rw [hy] at h
        simp only [Swp.v, V.at, vs_map, List.getElem?_map, hy, Option.map_some]
        exact at_v h
    | _ => cases h
theorem setAt_v : ∀ {p : List Nat} {x v u : V}, V.setAt p x v = some u → V.setAt p (F.v x) (F.v v) = some (F.v u)
  | [], x, v, u, h => by simp only [V.setAt, Option.some.injEq] at h ⊢; rw [h]
  | i :: p, x, v, u, h => by
    cases v with
    | agg t l =>
      simp only [V.setAt] at h
      cases hy : l[i]? with
      | none => rw [hy] at h; cases h
      | some y =>
        rw [hy] at h
        simp only at h
        cases hq : V.setAt p x y with
        | none => rw [hq] at h; cases h
        | some y' =>
          rw [hq] at h
          simp only [Option.some.injEq] at h
          subst h
          simp only [Swp.v, V.setAt, vs_map, List.getElem?_map, hy, Option.map_some, setAt_v hq, List.map_set]
    | _ => cases h


theorem at_s {s : St} (hs : F.In s) {a : Loc} {b : Blk} (h : s.at a = some b) : (F.s s).at (F.a a) = some (F.b b) := by
  unfold Swp.In Swp.n at hs
  obtain ⟨hh, i⟩ := F
  cases hh with
  | true =>
    simp only [if_true] at hs
    cases a with
    | loc j => simp only [St.at] at h; simp only [Swp.a, Swp.s, if_true, St.at, List.getElem?_map, h]; rfl
    | hp j => simp only [St.at] at h; simp only [Swp.a, Swp.s, if_true, St.at, List.getElem?_map, swl_get hs, h]; rfl
  | false =>
    simp only [Bool.false_eq_true, if_false] at hs
    cases a with
    | loc j => simp only [St.at] at h; simp only [Swp.a, Swp.s, Bool.false_eq_true, if_false, St.at, List.getElem?_map, swl_get hs, h]; rfl
    | hp j => simp only [St.at] at h; simp only [Swp.a, Swp.s, Bool.false_eq_true, if_false, St.at, List.getElem?_map, h]; rfl
theorem read_s {s : St} (hs : F.In s) {a : Loc} {p : List Nat} {u : V} (h : s.read a p = some u) : (F.s s).read (F.a a) p = some (F.v u) := by
  unfold St.read at h ⊢
  cases hb : s.at a with
  | none => rw [hb] at h; cases h
  | some b =>
    rw [hb] at h
    rw [at_s hs hb]
    cases b with
    | dead => cases h
    | ro v => exact at_v h
    | rw v => exact at_v h
theorem set_s {s : St} (hs : F.In s) {a : Loc} (b : Blk) : F.s (s.set a b) = (F.s s).set (F.a a) (F.b b) ∧ F.In (s.set a b) := by
  unfold Swp.In Swp.n at hs ⊢
  obtain ⟨hh, i⟩ := F
  cases hh with
  | true =>
    simp only [if_true] at hs ⊢
    cases a with
    | loc j => exact ⟨by simp [St.set, Swp.s, Swp.a, List.map_set], by simpa [St.set] using hs⟩
    | hp j => exact ⟨by simp [St.set, Swp.s, Swp.a, swl_set hs, List.map_set], by simpa [St.set] using hs⟩
  | false =>
    simp only [Bool.false_eq_true, if_false] at hs ⊢
    cases a with
    | loc j => exact ⟨by simp [St.set, Swp.s, Swp.a, swl_set hs, List.map_set], by simpa [St.set] using hs⟩
    | hp j => exact ⟨by simp [St.set, Swp.s, Swp.a, List.map_set], by simpa [St.set] using hs⟩
theorem write_s {base : Nat} (hF : F.Ok base) {s s' : St} (hs : F.In s) {a : Loc} {p : List Nat} {x : V} (h : s.write base a p x = some s') : (F.s s).write base (F.a a) p (F.v x) = some (F.s s') ∧ F.In s' := by
  unfold St.write at h ⊢
  cases hb : s.at a with
  | none => rw [hb] at h; cases h
  | some b =>
    rw [hb] at h
    rw [at_s hs hb]
    cases b with
    | dead => cases h
    | ro v => cases h
    | rw v =>
      simp only at h
      by_cases hm : mayLie base a x = true
      · rw [if_pos hm] at h
        have hm' : mayLie base (F.a a) (F.v x) = true := by
          have hlo := hF.lo
          cases a with
          | loc j =>
            simp only [Swp.a]
            split
            · simp only [mayLie, locLt0_v] at hm ⊢; exact hm
            · rename_i hh
              have := hlo (by simpa using hh)
              simp only [mayLie, locLt0_v, Bool.or_eq_true, decide_eq_true_eq] at hm ⊢
              rcases hm with hm | hm
              · exact .inl hm
              · right
                unfold sw
                split
                · omega
                · split <;> omega
          | hp j =>
            have h0 : x.locLt 0 = true := hm
            simp only [Swp.a]
            split <;> (simp only [mayLie, locLt0_v]; exact h0)
        cases hq : V.setAt p x v with
        | none => rw [hq] at h; cases h
        | some v' =>
          rw [hq] at h
          simp only [Option.some.injEq] at h
          subst h
          obtain ⟨g1, g2⟩ := set_s (a := a) hs (.rw v')
          refine ⟨?_, g2⟩
          simp only [Swp.b, if_pos hm', setAt_v hq]
          rw [g1]; rfl
      · rw [if_neg hm] at h; cases h
theorem new_s {s : St} (hs : F.In s) (h : Bool) (v : V) (hI : F.In (s.new h v)) : F.s (s.new h v) = (F.s s).new h (F.v v) ∧ (F.s s).fresh h = F.a (s.fresh h) ∧ F.In (s.new h v) := by
  have hI' := hI
  unfold Swp.In Swp.n at hs hI
  obtain ⟨hh, i⟩ := F
  cases hh with
  | true =>
    simp only [if_true] at hs hI
    cases h with
    | false => exact ⟨by simp [St.new, Swp.s, Swp.b], by simp [St.fresh, Swp.s, Swp.a], hI'⟩
    | true =>
      have h2 : i ≠ s.hp.length := by simpa [St.new] using hI
      refine ⟨by simp [St.new, Swp.s, Swp.b, swl_app hs h2], ?_, hI'⟩
      simp only [St.fresh, Swp.s, Swp.a, if_true, List.length_map, swl_len]
      congr 1
      unfold sw; rw [if_neg (by omega), if_neg (by omega)]
  | false =>
    simp only [Bool.false_eq_true, if_false] at hs hI
    cases h with
    | true => exact ⟨by simp [St.new, Swp.s, Swp.b], by simp [St.fresh, Swp.s, Swp.a], hI'⟩
    | false =>
      have h2 : i ≠ s.loc.length := by simpa [St.new] using hI
      refine ⟨by simp [St.new, Swp.s, Swp.b, swl_app hs h2], ?_, hI'⟩
      simp only [St.fresh, Swp.s, Swp.a, Bool.false_eq_true, if_false, List.length_map, swl_len]
      congr 1
      unfold sw; rw [if_neg (by omega), if_neg (by omega)]
end
variable {F : Swp}


mutual
theorem veq_v : ∀ {x y : V} {b : Bool}, veq x y = some b → veq (F.v x) (F.v y) = some b
  | .bool _, y, b, h => by cases y <;> simp [veq, Swp.v] at h ⊢; exact h
  | .int _ _, y, b, h => by cases y <;> simp [veq, Swp.v] at h ⊢; exact h
  | .str _, y, b, h => by cases y <;> simp [veq, Swp.v] at h ⊢; exact h
  | .agg t l, y, b, h => by
    cases y with
    | agg t' l' =>
      simp only [veq, Swp.v] at h ⊢
      split at h
      · rename_i ht; rw [if_pos ht]; exact veqs_v h
      · cases h
    | _ => simp [veq] at h
  | .dead, y, b, h | .ptr _ _ _, y, b, h | .sl _ _ _ _ _ _, y, b, h | .fn _ _, y, b, h | .tup _, y, b, h | .nilp, y, b, h | .nils, y, b, h | .nilf, y, b, h => by cases y <;> simp [veq] at h
theorem veqs_v : ∀ {x y : List V} {b : Bool}, veqs x y = some b → veqs (F.vs x) (F.vs y) = some b
  | [], y, b, h => by cases y <;> simp [veqs, Swp.vs] at h ⊢; exact h
  | v :: l, y, b, h => by
    cases y with
    | nil => simp [veqs] at h
    | cons v' l' =>
      simp only [veqs, Swp.vs] at h ⊢
      cases hv : veq v v' with
      | none => rw [hv] at h; cases h
      | some q =>
        rw [hv] at h
        rw [veq_v hv]
        cases q with
        | true => exact veqs_v h
        | false => exact h
end
theorem veqT_gen {t : Nat} {x y : V} (h1 : t ≠ 1) (h3 : t ≠ 3) (h5 : t ≠ 5) : veqT t x y = if x.tag = t ∧ y.tag = t then veq x y else none := by
  unfold veqT
  split <;> first | rfl | (exact absurd rfl h1) | (exact absurd rfl h3) | (exact absurd rfl h5)
theorem veqT_v {t : Nat} {x y : V} {b : Bool} (h : veqT t x y = some b) : veqT t (F.v x) (F.v y) = some b := by
  by_cases h1 : t = 1
  · subst h1
    simp only [veqT] at h ⊢
    split at h <;> simp_all [Swp.v]
  · by_cases h3 : t = 3
    · subst h3
      simp only [veqT] at h ⊢
      split at h <;> simp_all [Swp.v]
    · by_cases h5 : t = 5
      · subst h5
        simp only [veqT] at h ⊢
        split at h <;> simp_all [Swp.v]
      · rw [veqT_gen h1 h3 h5] at h ⊢
        rw [tag_v, tag_v]
        split at h
        · rename_i ht; rw [if_pos ht]; exact veq_v h
        · cases h
theorem vbin_v {o : BinOp} {x y v : V} (h : vbin o x y = some v) : vbin o (F.v x) (F.v y) = some v ∧ F.v v = v := by
  unfold vbin at h
  split at h
  · rename_i k a k' b
    refine ⟨h, ?_⟩
    split at h
    · unfold shf at h; split at h
      · cases h
      · split at h <;> cases h <;> rfl
    · split at h
      · unfold ibin at h; split at h <;> (first | (cases h; rfl) | (split at h <;> cases h; rfl) | cases h)
      · cases h
  · refine ⟨h, ?_⟩
    unfold sbin at h; split at h <;> (first | (cases h; rfl) | (split at h <;> cases h; rfl) | cases h)
  · cases h
theorem vun_v {o : UnOp} {x v : V} (h : vun o x = some v) : vun o (F.v x) = some v ∧ F.v v = v := by
  unfold vun at h
  split at h <;> (first | (cases h; exact ⟨rfl, rfl⟩) | cases h)
theorem elems_s {s : St} (hs : F.In s) {v : V} {l : List V} (h : s.elems v = some l) : (F.s s).elems (F.v v) = some (l.map F.v) := by
  unfold St.elems at h
  split at h
  · simp only [Option.some.injEq] at h; subst h; rfl
  · rename_i a p off len c e
    simp only [Swp.v, St.elems]
    by_cases hz : len = 0
    · rw [if_pos hz] at h ⊢; simp only [Option.some.injEq] at h; subst h; rfl
    · rw [if_neg hz] at h ⊢
      cases hr : s.read a p with
      | none => rw [hr] at h; cases h
      | some u =>
        rw [hr] at h
        rw [read_s hs hr]
        cases u with
        | agg t L =>
          simp only at h
          simp only [Swp.v, vs_map, List.length_map]
          split at h
          · rename_i hh
            rw [if_pos hh]
            simp only [Option.some.injEq] at h
            subst h
            rw [List.map_take, List.map_drop]
          · cases h
        | _ => cases h
  · simp only [Option.some.injEq] at h; subst h
    simp only [Swp.v, St.elems, List.map_map]; rfl
  · cases h
theorem slIs_v {e : Nat} (v : V) : (F.v v).slIs e = v.slIs e := by cases v <;> rfl
theorem elIs_v {e : Nat} (v : V) : (F.v v).elIs e = v.elIs e := by cases v <;> rfl
theorem slen_v {q : Bool} {v : V} {n : Nat} (h : V.slen q v = some n) : V.slen q (F.v v) = some n := by
  unfold V.slen at h
  split at h <;> (first | exact h | cases h)
theorem bound_v {y d n : Nat} {x : Option V} (h : bound y x d = some n) : bound y (x.map F.v) d = some n := by
  unfold bound at h
  split at h
  · exact h
  · exact h
  · cases h
theorem setParts_v : ∀ {ps : List (Nat × V)} {l l' : List V}, setParts l ps = some l' → setParts (l.map F.v) (ps.map fun p => (p.1, F.v p.2)) = some (l'.map F.v)
  | [], l, l', h => by simp only [setParts, Option.some.injEq] at h; subst h; rfl
  | (i, x) :: r, l, l', h => by
    simp only [setParts] at h
    simp only [List.map_cons, setParts, List.getElem?_map]
    cases hy : l[i]? with
    | none => rw [hy] at h; cases h
    | some y =>
      rw [hy] at h
      simp only [Option.map_some, ok_v, tag_v] at h ⊢
      split at h
      · rename_i hc
        rw [if_pos hc]
        have := setParts_v h
        rw [List.map_set] at this
        exact this
      · cases h
theorem vmnx_v {mx : Bool} {x y v : V} (h : vmnx mx x y = some v) : vmnx mx (F.v x) (F.v y) = some v ∧ F.v v = v := by
  unfold vmnx at h
  split at h
  · refine ⟨h, ?_⟩
    split at h
    · cases h; rfl
    · cases h
  · cases h
theorem mayNew_agg {h : Bool} {l : List V} : mayNew h (.agg 1 (l.map F.v)) = mayNew h (.agg 1 l) := by
  rw [← vs_map]
  exact mayNew_v (F := F) (.agg 1 l)
theorem vappend_s {base : Nat} {h : Bool} {r e : Nat} {x y v : V} {s s' : St} (hs : F.In s) (hI : F.In s') (hv : vappend base h r e x y s = some (v, s')) :
    vappend (base) h r e (F.v x) (F.v y) (F.s s) = some (F.v v, F.s s') ∧ F.In s' := by
  unfold vappend at hv ⊢
  rw [slIs_v, elIs_v]
  by_cases hc : (x.slIs e && y.elIs e) = true
  · rw [if_pos hc] at hv ⊢
    cases hx : s.elems x with
    | none => rw [hx] at hv; cases hv
    | some old =>
      cases hy : s.elems y with
      | none => rw [hx, hy] at hv; cases hv
      | some new =>
        rw [hx, hy] at hv
        rw [elems_s hs hx, elems_s hs hy]
        simp only [List.length_map] at hv ⊢
        by_cases h0 : new.length = 0
        · rw [if_pos h0] at hv ⊢
          simp only [Option.some.injEq, Prod.mk.injEq] at hv
          obtain ⟨rfl, rfl⟩ := hv
          exact ⟨rfl, hs⟩
        · rw [if_neg h0] at hv ⊢
          rw [← List.map_append, mayNew_agg]
          by_cases hm : old.length + new.length ≤ most ∧ (e % 2 = 0 ∨ mayNew h (.agg 1 (old ++ new)) = true)
          · rw [if_pos hm] at hv ⊢
            have key : ∀ s1 : St, F.In s1 → some (V.sl (s1.fresh h) [] 0 (old.length + new.length) none e, s1.new h (.agg r (old ++ new))) = some (v, s') →
                some (V.sl ((F.s s1).fresh h) [] 0 (old.length + new.length) none e, (F.s s1).new h (.agg r ((old ++ new).map F.v))) = some (F.v v, F.s s') ∧ F.In s' := by
              intro s1 h1 hh
              simp only [Option.some.injEq, Prod.mk.injEq] at hh
              obtain ⟨rfl, rfl⟩ := hh
              obtain ⟨k1, k2, k3⟩ := new_s h1 h (.agg r (old ++ new)) hI
              refine ⟨?_, k3⟩
              rw [k1, k2]
              simp only [Swp.v, vs_map]
            cases x with
            | nils => exact key s hs hv
            | sl a p o l c e' =>
              simp only [Swp.v] at hv ⊢
              split at hv
              · rename_i hk
                rw [if_pos hk]
                exact key s hs hv
              · rename_i hk
                rw [if_neg hk]
                by_cases hp : p = []
                · rw [if_pos hp] at hv ⊢
                  cases ha : s.at a with
                  | none => rw [ha] at hv; cases hv
                  | some b =>
                    rw [ha] at hv
                    rw [at_s hs ha]
                    cases b with
                    | rw u =>
                      obtain ⟨g1, g2⟩ := set_s (a := a) hs .dead
                      have := key _ g2 hv
                      rw [g1] at this
                      exact this
                    | _ => cases hv
                · rw [if_neg hp] at hv; cases hv
            | _ => cases hv
          · rw [if_neg hm] at hv; cases hv
  · rw [if_neg hc] at hv; cases hv
theorem vcopy_s {base : Nat} (hF : F.Ok base) {e : Nat} {x y v : V} {s s' : St} (hs : F.In s) (hv : vcopy base e x y s = some (v, s')) :
    vcopy (base) e (F.v x) (F.v y) (F.s s) = some (F.v v, F.s s') ∧ F.In s' := by
  unfold vcopy at hv ⊢
  rw [slIs_v, elIs_v]
  by_cases hc : (x.slIs e && y.elIs e) = true
  · rw [if_pos hc] at hv ⊢
    cases hy : s.elems y with
    | none => rw [hy] at hv; cases hv
    | some ys =>
      rw [hy] at hv
      rw [elems_s hs hy]
      simp only at hv ⊢
      cases x with
      | nils =>
        simp only [Option.some.injEq, Prod.mk.injEq] at hv
        obtain ⟨rfl, rfl⟩ := hv
        exact ⟨rfl, hs⟩
      | sl a p o l c e' =>
        simp only [Swp.v, List.length_map] at hv ⊢
        by_cases h0 : min ys.length l = 0
        · rw [if_pos h0] at hv ⊢
          simp only [Option.some.injEq, Prod.mk.injEq] at hv
          obtain ⟨rfl, rfl⟩ := hv
          exact ⟨rfl, hs⟩
        · rw [if_neg h0] at hv ⊢
          cases hr : s.read a p with
          | none => rw [hr] at hv; cases hv
          | some u =>
            rw [hr] at hv
            rw [read_s hs hr]
            cases u with
            | agg t L =>
              simp only at hv
              simp only [Swp.v, vs_map, List.length_map]
              by_cases hb : o + l ≤ L.length
              · rw [if_pos hb] at hv ⊢
                cases hw : s.write base a p (.agg t (L.take o ++ ys.take (min ys.length l) ++ L.drop (o + min ys.length l))) with
                | none => rw [hw] at hv; cases hv
                | some s1 =>
                  rw [hw] at hv
                  simp only [Option.some.injEq, Prod.mk.injEq] at hv
                  obtain ⟨rfl, rfl⟩ := hv
                  obtain ⟨g1, g2⟩ := write_s hF hs hw
                  simp only [Swp.v, vs_map, List.map_append, List.map_take, List.map_drop] at g1
                  rw [g1]
                  exact ⟨rfl, g2⟩
              · rw [if_neg hb] at hv; cases hv
            | _ => cases hv
      | _ => cases hv
  · rw [if_neg hc] at hv; cases hv

theorem ints_v {v : V} {k : IntKind} {n : Int} (h : v = .int k n) : F.v v = .int k n := by rw [h]; rfl
theorem map_e {ρ : Env} {xs : List Opd} (h : ∀ x ∈ xs, x.clos 0 = true) : xs.map (Opd.ev (F.e ρ)) = (xs.map (Opd.ev ρ)).map F.v := by
  rw [List.map_map]
  exact List.map_congr_left fun x hx => opd_e (h x hx)
theorem omap_e {ρ : Env} {x : Option Opd} (h : ∀ y ∈ oL x, y.clos 0 = true) : x.map (Opd.ev (F.e ρ)) = (x.map (Opd.ev ρ)).map F.v := by
  cases x with
  | none => rfl
  | some y => simp only [Option.map_some]; rw [opd_e (h y (by simp [oL]))]

theorem a_a (c : Loc) : F.a (F.a c) = c := by
  cases hF : F.h <;> cases c <;> simp [Swp.a, hF, sw_sw]
theorem a_inj {a b : Loc} (h : F.a a = F.a b) : a = b := by
  rw [← a_a (F := F) a, h, a_a]
theorem locEq_v {x y : V} (h : locEq x y = true) : locEq (F.v x) (F.v y) = true := by
  cases x with
  | ptr a q t =>
    cases y with
    | ptr b r u =>
      simp only [locEq, decide_eq_true_eq] at h
      simp only [Swp.v, locEq, decide_eq_true_eq]
      rw [h]
    | _ => cases h
  | _ => cases h
theorem locNe_v {x y : V} (h : locNe x y = true) : locNe (F.v x) (F.v y) = true := by
  cases x with
  | ptr a p t => cases y with
    | ptr b q u =>
      simp only [locNe, decide_eq_true_eq] at h
      simp only [Swp.v, locNe, decide_eq_true_eq]
      exact fun e => h (a_inj e)
    | _ => cases h
  | _ => cases h
section ops
variable {base : Nat} (hF : F.Ok base) {ρ : Env} {s s' : St} {v : V} (hs : F.In s)
include hF hs
theorem evOp_s (hI : F.In s') {o : Op'} (hc : o.clos 0 = true) (h : evOp base ρ s o = some (v, s')) : evOp (base) (F.e ρ) (F.s s) o = some (F.v v, F.s s') ∧ F.In s' := by
  simp only [Op'.clos, Bool.and_eq_true, List.all_eq_true] at hc
  obtain ⟨ho, hz⟩ := hc
  have fin : ∀ {u : V} {a : Option (V × St)}, some (u, s) = some (v, s') → a = some (F.v u, F.s s) → a = some (F.v v, F.s s') ∧ F.In s' := by
    intro u a h1 h2
    simp only [Option.some.injEq, Prod.mk.injEq] at h1
    obtain ⟨rfl, rfl⟩ := h1
    exact ⟨h2, hs⟩
  cases o with
  | mv x =>
    simp only [evOp] at h ⊢
    exact fin h (by rw [opd_e (ho x (by simp [opdsOf]))])
  | pick x y z =>
    simp only [evOp] at h ⊢
    rw [opd_e (ho x (by simp [opdsOf])), opd_e (ho y (by simp [opdsOf])), opd_e (ho z (by simp [opdsOf]))]
    cases hx : x.ev ρ with
    | bool t => rw [hx] at h; simp only [Swp.v] at h ⊢; exact fin h (by cases t <;> rfl)
    | _ => rw [hx] at h; cases h
  | alloc hh z =>
    simp only [zOf] at hz
    simp only [evOp, Option.some.injEq, Prod.mk.injEq] at h ⊢
    obtain ⟨rfl, rfl⟩ := h
    obtain ⟨g1, g2, g3⟩ := new_s hs hh z hI
    rw [g1, g2, v_flat hz]
    exact ⟨⟨rfl, rfl⟩, g3⟩
  | box hh x =>
    simp only [evOp] at h ⊢
    rw [opd_e (ho x (by simp [opdsOf])), ok_v, mayNew_v, tag_v]
    split at h
    · rename_i hk
      rw [if_pos hk]
      simp only [Option.some.injEq, Prod.mk.injEq] at h ⊢
      obtain ⟨rfl, rfl⟩ := h
      obtain ⟨g1, g2, g3⟩ := new_s hs hh (x.ev ρ) hI
      rw [g1, g2]
      exact ⟨⟨rfl, rfl⟩, g3⟩
    · cases h
  | ld t p =>
    simp only [evOp] at h ⊢
    rw [opd_e (ho p (by simp [opdsOf]))]
    cases hx : p.ev ρ with
    | ptr a q t' =>
      rw [hx] at h
      simp only [Swp.v] at h ⊢
      split at h
      · rename_i ht
        rw [if_pos ht]
        cases hr : s.read a q with
        | none => rw [hr] at h; cases h
        | some u => rw [hr] at h; rw [read_s hs hr]; exact fin h rfl
      · cases h
    | _ => rw [hx] at h; cases h
  | st t p x =>
    simp only [evOp] at h ⊢
    rw [opd_e (ho p (by simp [opdsOf])), opd_e (ho x (by simp [opdsOf])), tag_v]
    cases hx : p.ev ρ with
    | ptr a q t' =>
      rw [hx] at h
      simp only [Swp.v] at h ⊢
      split at h
      · rename_i ht
        rw [if_pos ht]
        cases hr : s.write base a q (x.ev ρ) with
        | none => rw [hr] at h; cases h
        | some s1 =>
          rw [hr] at h
          obtain ⟨g1, g2⟩ := write_s hF hs hr
          rw [g1]
          simp only [Option.some.injEq, Prod.mk.injEq] at h ⊢
          obtain ⟨rfl, rfl⟩ := h
          exact ⟨⟨rfl, rfl⟩, g2⟩
      · cases h
    | _ => rw [hx] at h; cases h
  | nilc x =>
    simp only [evOp] at h ⊢
    rw [opd_e (ho x (by simp [opdsOf]))]
    cases hx : x.ev ρ with
    | ptr a q t' => rw [hx] at h; simp only [Swp.v] at h ⊢; exact fin h rfl
    | fn f l => rw [hx] at h; simp only [Swp.v] at h ⊢; exact fin h rfl
    | _ => rw [hx] at h; cases h
  | bin o x y =>
    simp only [evOp] at h ⊢
    rw [opd_e (ho x (by simp [opdsOf])), opd_e (ho y (by simp [opdsOf]))]
    cases hx : vbin o (x.ev ρ) (y.ev ρ) with
    | none => rw [hx] at h; cases h
    | some u =>
      rw [hx] at h
      obtain ⟨g1, g2⟩ := vbin_v (F := F) hx
      rw [g1]
      exact fin h (by rw [g2])
  | eq neg t x y =>
    simp only [evOp] at h ⊢
    rw [opd_e (ho x (by simp [opdsOf])), opd_e (ho y (by simp [opdsOf]))]
    cases hx : veqT t (x.ev ρ) (y.ev ρ) with
    | none => rw [hx] at h; cases h
    | some u =>
      rw [hx] at h
      rw [veqT_v hx]
      exact fin h rfl
  | un o x =>
    simp only [evOp] at h ⊢
    rw [opd_e (ho x (by simp [opdsOf]))]
    cases hx : vun o (x.ev ρ) with
    | none => rw [hx] at h; cases h
    | some u =>
      rw [hx] at h
      obtain ⟨g1, g2⟩ := vun_v (F := F) hx
      rw [g1]
      exact fin h (by rw [g2])
  | conv k x =>
    simp only [evOp] at h ⊢
    rw [opd_e (ho x (by simp [opdsOf]))]
    cases hx : x.ev ρ with
    | int k' n => rw [hx] at h; simp only [Swp.v] at h ⊢; exact fin h rfl
    | _ => rw [hx] at h; cases h
  | mkfn f caps =>
    simp only [evOp] at h ⊢
    rw [map_e (fun x hx => ho x (by simpa [opdsOf] using hx))]
    have ht : ((caps.map (Opd.ev ρ)).map F.v).all (fun v => v.tag == 1) = (caps.map (Opd.ev ρ)).all (fun v => v.tag == 1) := by
      rw [List.all_map]; congr 1; funext u; simp only [Function.comp, tag_v]
    rw [ht]
    split at h
    · rename_i hk
      rw [if_pos hk]
      exact fin h (by simp only [Swp.v, vs_map])
    · cases h
  | mksl hh r e z n m =>
    simp only [zOf] at hz
    simp only [evOp] at h ⊢
    rw [opd_e (ho n (by simp [opdsOf])), opd_e (ho m (by simp [opdsOf]))]
    cases hx : n.ev ρ with
    | int k l =>
      cases hy : m.ev ρ with
      | int k' l' =>
        rw [hx, hy] at h
        simp only [Swp.v] at h ⊢
        split at h
        · rename_i hk
          rw [if_pos hk]
          simp only [Option.some.injEq, Prod.mk.injEq] at h ⊢
          obtain ⟨rfl, rfl⟩ := h
          obtain ⟨g1, g2, g3⟩ := new_s hs hh (.agg r (List.replicate l.toNat z)) hI
          rw [g1, g2]
          refine ⟨⟨rfl, ?_⟩, g3⟩
          simp only [Swp.v, vs_map, List.map_replicate, v_flat hz]
        · cases h
      | _ => rw [hx, hy] at h; cases h
    | _ => rw [hx] at h; cases h
  | slc e x lo hi mx =>
    simp only [evOp] at h ⊢
    rw [opd_e (ho x (by simp [opdsOf])), omap_e (x := lo) (fun y hy => ho y (by simp [opdsOf, hy])), omap_e (x := hi) (fun y hy => ho y (by simp [opdsOf, hy])), omap_e (x := mx) (fun y hy => ho y (by simp [opdsOf, hy]))]
    cases hx : x.ev ρ with
    | sl a p off len cap e' =>
      rw [hx] at h
      simp only [Swp.v] at h ⊢
      split at h
      · rename_i he
        rw [if_pos he]
        cases h1 : bound (cap.getD len) (mx.map (Opd.ev ρ)) (cap.getD len) with
        | none => rw [h1] at h; cases h
        | some m1 =>
          rw [h1] at h
          rw [bound_v h1]
          simp only at h ⊢
          cases h2 : bound (hbnd mx.isSome m1 len) (hi.map (Opd.ev ρ)) len with
          | none => rw [h2] at h; cases h
          | some h1' =>
            rw [h2] at h
            rw [bound_v h2]
            simp only at h ⊢
            cases h3 : bound h1' (lo.map (Opd.ev ρ)) 0 with
            | none => rw [h3] at h; cases h
            | some l1 =>
              rw [h3] at h
              rw [bound_v h3]
              exact fin h rfl
      · cases h
    | nils =>
      rw [hx] at h
      simp only [Swp.v] at h ⊢
      cases h1 : bound 0 (mx.map (Opd.ev ρ)) 0 with
      | none => rw [h1] at h; cases h
      | some m1 =>
        cases h2 : bound 0 (hi.map (Opd.ev ρ)) 0 with
        | none => rw [h1, h2] at h; cases h
        | some m2 =>
          cases h3 : bound 0 (lo.map (Opd.ev ρ)) 0 with
          | none => rw [h1, h2, h3] at h; cases h
          | some m3 =>
            rw [h1, h2, h3] at h
            rw [bound_v h1, bound_v h2, bound_v h3]
            exact fin h rfl
    | _ => rw [hx] at h; cases h
  | slstr x lo hi =>
    simp only [evOp] at h ⊢
    rw [opd_e (ho x (by simp [opdsOf])), omap_e (x := lo) (fun y hy => ho y (by simp [opdsOf, hy])), omap_e (x := hi) (fun y hy => ho y (by simp [opdsOf, hy]))]
    cases hx : x.ev ρ with
    | str b =>
      rw [hx] at h
      simp only [Swp.v] at h ⊢
      cases h2 : bound b.size (hi.map (Opd.ev ρ)) b.size with
      | none => rw [h2] at h; cases h
      | some h1' =>
        rw [h2] at h
        rw [bound_v h2]
        simp only at h ⊢
        cases h3 : bound h1' (lo.map (Opd.ev ρ)) 0 with
        | none => rw [h3] at h; cases h
        | some l1 =>
          rw [h3] at h
          rw [bound_v h3]
          exact fin h rfl
    | _ => rw [hx] at h; cases h
  | slarr t n e x lo hi mx =>
    simp only [evOp] at h ⊢
    rw [opd_e (ho x (by simp [opdsOf])), omap_e (x := lo) (fun y hy => ho y (by simp [opdsOf, hy])), omap_e (x := hi) (fun y hy => ho y (by simp [opdsOf, hy])), omap_e (x := mx) (fun y hy => ho y (by simp [opdsOf, hy]))]
    cases hx : x.ev ρ with
    | ptr a p t' =>
      rw [hx] at h
      simp only [Swp.v] at h ⊢
      split at h
      · rename_i he
        have he' : t' = t ∧ ((F.s s).read (F.a a) p).isSome = true := by
          refine ⟨he.1, ?_⟩
          obtain ⟨u, hu⟩ := Option.isSome_iff_exists.1 he.2
          rw [read_s hs hu]; rfl
        rw [if_pos he']
        cases h1 : bound n (mx.map (Opd.ev ρ)) n with
        | none => rw [h1] at h; cases h
        | some m1 =>
          rw [h1] at h
          rw [bound_v h1]
          simp only at h ⊢
          cases h2 : bound m1 (hi.map (Opd.ev ρ)) n with
          | none => rw [h2] at h; cases h
          | some h1' =>
            rw [h2] at h
            rw [bound_v h2]
            simp only at h ⊢
            cases h3 : bound h1' (lo.map (Opd.ev ρ)) 0 with
            | none => rw [h3] at h; cases h
            | some l1 =>
              rw [h3] at h
              rw [bound_v h3]
              exact fin h rfl
      · cases h
    | _ => rw [hx] at h; cases h
  | fad t f c x =>
    simp only [evOp] at h ⊢
    rw [opd_e (ho x (by simp [opdsOf]))]
    cases hx : x.ev ρ with
    | ptr a q t' =>
      rw [hx] at h; simp only [Swp.v] at h ⊢
      split at h
      · rename_i ht; rw [if_pos ht]; exact fin h rfl
      · cases h
    | _ => rw [hx] at h; cases h
  | iad t n e x i =>
    simp only [evOp] at h ⊢
    rw [opd_e (ho x (by simp [opdsOf])), opd_e (ho i (by simp [opdsOf]))]
    cases hx : x.ev ρ with
    | ptr a q t' =>
      cases hy : i.ev ρ with
      | int k j =>
        rw [hx, hy] at h; simp only [Swp.v] at h ⊢
        split at h
        · rename_i ht; rw [if_pos ht]; exact fin h rfl
        · cases h
      | _ => rw [hx, hy] at h; cases h
    | _ => rw [hx] at h; cases h
  | sad e x i =>
    simp only [evOp] at h ⊢
    rw [opd_e (ho x (by simp [opdsOf])), opd_e (ho i (by simp [opdsOf]))]
    cases hx : x.ev ρ with
    | sl a q off len cap e' =>
      cases hy : i.ev ρ with
      | int k j =>
        rw [hx, hy] at h; simp only [Swp.v] at h ⊢
        split at h
        · rename_i ht; rw [if_pos ht]; exact fin h rfl
        · cases h
      | _ => rw [hx, hy] at h; cases h
    | _ => rw [hx] at h; cases h
  | fld t f x =>
    simp only [evOp] at h ⊢
    rw [opd_e (ho x (by simp [opdsOf]))]
    cases hx : x.ev ρ with
    | agg t' l =>
      rw [hx] at h; simp only [Swp.v] at h ⊢
      split at h
      · rename_i ht
        rw [if_pos ht, vs_map, List.getElem?_map]
        cases hl : l[f]? with
        | none => rw [hl] at h; cases h
        | some u => rw [hl] at h; exact fin h rfl
      · cases h
    | _ => rw [hx] at h; cases h
  | idx t n x i =>
    simp only [evOp] at h ⊢
    rw [opd_e (ho x (by simp [opdsOf])), opd_e (ho i (by simp [opdsOf]))]
    cases hx : x.ev ρ with
    | agg t' l =>
      cases hy : i.ev ρ with
      | int k j =>
        rw [hx, hy] at h; simp only [Swp.v] at h ⊢
        split at h
        · rename_i ht
          rw [if_pos ht, vs_map, List.getElem?_map]
          cases hl : l[j.toNat]? with
          | none => rw [hl] at h; cases h
          | some u => rw [hl] at h; exact fin h rfl
        · cases h
      | _ => rw [hx, hy] at h; cases h
    | _ => rw [hx] at h; cases h
  | sidx x i =>
    simp only [evOp] at h ⊢
    rw [opd_e (ho x (by simp [opdsOf])), opd_e (ho i (by simp [opdsOf]))]
    cases hx : x.ev ρ with
    | str b =>
      cases hy : i.ev ρ with
      | int k j =>
        rw [hx, hy] at h; simp only [Swp.v] at h ⊢
        split at h
        · rename_i ht
          rw [if_pos ht]
          cases hl : b[j.toNat]? with
          | none => rw [hl] at h; cases h
          | some u => rw [hl] at h; exact fin h rfl
        · cases h
      | _ => rw [hx, hy] at h; cases h
    | _ => rw [hx] at h; cases h
  | ext x i =>
    simp only [evOp] at h ⊢
    rw [opd_e (ho x (by simp [opdsOf]))]
    cases hx : x.ev ρ with
    | tup l =>
      rw [hx] at h; simp only [Swp.v] at h ⊢
      rw [vs_map, List.getElem?_map]
      cases hl : l[i]? with
      | none => rw [hl] at h; cases h
      | some u => rw [hl] at h; exact fin h rfl
    | _ => rw [hx] at h; cases h
  | lenk n => simp only [evOp] at h ⊢; exact fin h rfl
  | len q x =>
    simp only [evOp] at h ⊢
    rw [opd_e (ho x (by simp [opdsOf]))]
    cases hx : V.slen q (x.ev ρ) with
    | none => rw [hx] at h; cases h
    | some n => rw [hx] at h; rw [slen_v hx]; exact fin h rfl
  | app hh r e x y =>
    simp only [evOp] at h ⊢
    rw [opd_e (ho x (by simp [opdsOf])), opd_e (ho y (by simp [opdsOf]))]
    exact vappend_s hs hI h
  | bld z ps =>
    simp only [zOf] at hz
    simp only [evOp] at h ⊢
    cases z with
    | agg t l =>
      simp only at h ⊢
      have e1 : ps.map (fun p => (p.1, p.2.ev (F.e ρ))) = (ps.map fun p => (p.1, p.2.ev ρ)).map fun p => (p.1, F.v p.2) := by
        rw [List.map_map]
        exact List.map_congr_left fun p hp => by simp only [Function.comp]; rw [opd_e (ho p.2 (by simp only [opdsOf]; exact List.mem_map.2 ⟨p, hp, rfl⟩))]
      rw [e1]
      cases hx : setParts l (ps.map fun p => (p.1, p.2.ev ρ)) with
      | none => rw [hx] at h; cases h
      | some l' =>
        rw [hx] at h
        have := setParts_v (F := F) hx
        simp only [V.flat] at hz
        rw [← vs_map l, vs_flat hz] at this
        rw [this]
        exact fin h (by simp only [Swp.v, vs_map])
    | _ => cases h
  | bsl hh r e z n ps =>
    simp only [zOf] at hz
    simp only [evOp] at h ⊢
    have e1 : ps.map (fun p => (p.1, p.2.ev (F.e ρ))) = (ps.map fun p => (p.1, p.2.ev ρ)).map fun p => (p.1, F.v p.2) := by
      rw [List.map_map]
      exact List.map_congr_left fun p hp => by simp only [Function.comp]; rw [opd_e (ho p.2 (by simp only [opdsOf]; exact List.mem_map.2 ⟨p, hp, rfl⟩))]
    rw [e1]
    cases hx : setParts (List.replicate n z) (ps.map fun p => (p.1, p.2.ev ρ)) with
    | none => rw [hx] at h; cases h
    | some l' =>
      rw [hx] at h
      have := setParts_v (F := F) hx
      rw [List.map_replicate, v_flat hz] at this
      rw [this]
      simp only [mayNew_agg] at h ⊢
      split at h
      · rename_i hk
        rw [if_pos hk]
        simp only [Option.some.injEq, Prod.mk.injEq] at h ⊢
        obtain ⟨rfl, rfl⟩ := h
        obtain ⟨g1, g2, g3⟩ := new_s hs hh (.agg r l') hI
        rw [g1, g2]
        refine ⟨⟨rfl, ?_⟩, g3⟩
        simp only [Swp.v, vs_map]
      · cases h
  | cpy e x y =>
    simp only [evOp] at h ⊢
    rw [opd_e (ho x (by simp [opdsOf])), opd_e (ho y (by simp [opdsOf]))]
    exact vcopy_s hF hs h
  | mnx mx x y =>
    simp only [evOp] at h ⊢
    rw [opd_e (ho x (by simp [opdsOf])), opd_e (ho y (by simp [opdsOf]))]
    cases hx : vmnx mx (x.ev ρ) (y.ev ρ) with
    | none => rw [hx] at h; cases h
    | some u =>
      rw [hx] at h
      obtain ⟨g1, g2⟩ := vmnx_v (F := F) hx
      rw [g1]
      exact fin h (by rw [g2])
  | lda t p r =>
    simp only [evOp] at h ⊢
    rw [opd_e (ho p (by simp [opdsOf])), opd_e (ho r (by simp [opdsOf]))]
    split at h
    · rename_i hle
      rw [if_pos (locEq_v hle)]
      cases hx : p.ev ρ with
      | ptr a q t' =>
        rw [hx] at h
        simp only [Swp.v] at h ⊢
        split at h
        · rename_i ht
          rw [if_pos ht]
          cases hr : s.read a q with
          | none => rw [hr] at h; cases h
          | some u => rw [hr] at h; rw [read_s hs hr]; exact fin h rfl
        · cases h
      | _ => rw [hx] at h; cases h
    · cases h
  | call f l => cases h
  | pcall f l => cases h
  | sta t p x l =>
    simp only [evOp] at h ⊢
    split at h
    · rename_i hall
      have hall' : (l.all fun y => locNe (y.ev (F.e ρ)) (p.ev (F.e ρ))) = true := by
        rw [List.all_eq_true] at hall ⊢
        intro y hy
        rw [opd_e (ho p (by simp [opdsOf])), opd_e (ho y (by simp [opdsOf, hy]))]
        exact locNe_v (hall y hy)
      rw [if_pos hall']
      rw [opd_e (ho p (by simp [opdsOf])), opd_e (ho x (by simp [opdsOf])), tag_v]
      cases hx : p.ev ρ with
      | ptr a q t' =>
        rw [hx] at h
        simp only [Swp.v] at h ⊢
        split at h
        · rename_i ht
          rw [if_pos ht]
          cases hr : s.write base a q (x.ev ρ) with
          | none => rw [hr] at h; cases h
          | some s1 =>
            rw [hr] at h
            obtain ⟨g1, g2⟩ := write_s hF hs hr
            rw [g1]
            simp only [Option.some.injEq, Prod.mk.injEq] at h ⊢
            obtain ⟨rfl, rfl⟩ := h
            exact ⟨⟨rfl, rfl⟩, g2⟩
        · cases h
      | _ => rw [hx] at h; cases h
    · cases h
  | callw f l w => cases h
end ops

/-! ### Code -/
end Go.Ab.Sw
