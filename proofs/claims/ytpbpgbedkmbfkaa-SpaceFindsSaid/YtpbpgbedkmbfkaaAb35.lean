/-
  Ab35: two operations that make something new may change places, but for the places of what they make.
-/
import Derived.Test.YtpbpgbedkmbfkaaAb34
namespace Go.Ab.Sw
open Go.Ab
variable {F : Swp} {T : Tab}

/-! ### No operation takes a block away -/
theorem new_len {s : St} {h : Bool} {z : V} : s.loc.length ≤ (s.new h z).loc.length ∧ s.hp.length ≤ (s.new h z).hp.length := by
  cases h <;> simp [St.new]
theorem set_len {s : St} {a : Loc} {b : Blk} : (s.set a b).loc.length = s.loc.length ∧ (s.set a b).hp.length = s.hp.length := by
  cases a <;> simp [St.set]
theorem write_len {base : Nat} {s s' : St} {a : Loc} {p : List Nat} {x : V} (h : s.write base a p x = some s') : s'.loc.length = s.loc.length ∧ s'.hp.length = s.hp.length := by
  unfold St.write at h
  split at h
  · split at h
    · split at h
      · simp only [Option.some.injEq] at h
        subst h
        exact set_len
      · cases h
    · cases h
  · cases h
def Le (s s' : St) : Prop := s.loc.length ≤ s'.loc.length ∧ s.hp.length ≤ s'.hp.length
theorem Le.refl (s : St) : Le s s := ⟨Nat.le_refl _, Nat.le_refl _⟩
theorem Le.trans {s s' s'' : St} (h : Le s s') (h' : Le s' s'') : Le s s'' := ⟨Nat.le_trans h.1 h'.1, Nat.le_trans h.2 h'.2⟩
theorem Le.n {s s' : St} (h : Le s s') : F.n s ≤ F.n s' := by
  unfold Swp.n; split
  · exact h.2
  · exact h.1
theorem write_le {base : Nat} {s s' : St} {a : Loc} {p : List Nat} {x : V} (h : s.write base a p x = some s') : Le s s' := by
  have := write_len h
  exact ⟨by omega, by omega⟩
theorem set_le {s : St} {a : Loc} {b : Blk} : Le s (s.set a b) := ⟨by rw [set_len.1]; exact Nat.le_refl _, by rw [set_len.2]; exact Nat.le_refl _⟩
theorem new_le {s : St} {h : Bool} {z : V} : Le s (s.new h z) := new_len
theorem vappend_len {base : Nat} {h : Bool} {r e : Nat} {x y v : V} {s s' : St} (hv : vappend base h r e x y s = some (v, s')) : Le s s' := by
  unfold vappend at hv
  repeat' split at hv
  all_goals first
    | (simp only [Option.some.injEq, Prod.mk.injEq] at hv; rw [← hv.2]; first | exact .refl _ | exact new_le | exact set_le.trans new_le)
    | cases hv
theorem vcopy_len {base e : Nat} {x y v : V} {s s' : St} (hv : vcopy base e x y s = some (v, s')) : Le s s' := by
  unfold vcopy at hv
  repeat' split at hv
  all_goals first
    | (simp only [Option.some.injEq, Prod.mk.injEq] at hv; rw [← hv.2]; first | exact .refl _ | (apply write_le; assumption))
    | cases hv
theorem evOp_len {base : Nat} {ρ : Env} {s s' : St} {v : V} {o : Op'} (h : evOp base ρ s o = some (v, s')) : Le s s' := by
  cases o with
  | app hh r e x y => exact vappend_len (base := base) h
  | cpy e x y => exact vcopy_len (base := base) h
  | _ =>
    simp only [evOp] at h
    repeat' split at h
    all_goals first
      | (simp only [Option.some.injEq, Prod.mk.injEq] at h; rw [← h.2]; first | exact .refl _ | exact new_le | (apply write_le; assumption))
      | cases h

/-! ### Nothing leads to what isn't there -/
def Cl (ρ : Env) (s : St) : Prop := ∀ F : Swp, F.n s ≤ F.i → (∀ t, F.v (get ρ t) = get ρ t) ∧ F.s s = s
mutual
theorem v_in {B : BM} (hi : ∀ a x, B.at a = some x → F.a a = a) : ∀ {v : V} {cs : List Value}, CR T B v cs → F.v v = v
  | .dead, _, _ | .bool _, _, _ | .int _ _, _, _ | .str _, _, _ | .nilp, _, _ | .nils, _, _ | .nilf, _, _ => by simp only [Swp.v]
  | .tup _, _, hc => by simp [CR] at hc
  | .ptr _ _ _, _, hc => by
    simp only [CR] at hc
    obtain ⟨ad, r, o, h1, _⟩ := hc
    simp only [Swp.v, hi _ _ h1]
  | .sl _ _ _ _ _ _, _, hc => by
    simp only [CR] at hc
    obtain ⟨ad, r, o, u, c', ad', h1, _⟩ := hc
    simp only [Swp.v, hi _ _ h1]
  | .fn _ l, _, hc => by
    simp only [CR] at hc
    obtain ⟨vs, h1, _⟩ := hc
    simp only [Swp.v, vs_in hi h1]
  | .agg _ l, _, hc => by
    simp only [CR] at hc
    simp only [Swp.v, vs_in hi hc]
theorem vs_in {B : BM} (hi : ∀ a x, B.at a = some x → F.a a = a) : ∀ {l : List V} {cs : List Value}, CRs T B l cs → F.vs l = l
  | [], _, _ => by simp only [Swp.vs]
  | v :: l, _, hc => by
    simp only [CRs] at hc
    obtain ⟨a, b, _, h2, h3⟩ := hc
    simp only [Swp.vs, v_in hi h2, vs_in hi h3]
end
theorem All2_in {B : BM} (hi : ∀ a x, B.at a = some x → F.a a = a) : ∀ {l : List V} {m : List Value}, All2 (VR1 T B) l m → F.vs l = l
  | [], [], _ => by simp only [Swp.vs]
  | v :: l, _ :: _, h => by simp only [Swp.vs, v_in hi h.1.2.1, All2_in hi h.2]
  | [], _ :: _, h => h.elim
  | _ :: _, [], h => h.elim
theorem VR_in {B : BM} (hi : ∀ a x, B.at a = some x → F.a a = a) {v : V} {x : Value} (h : VR T B v x) : F.v v = v := by
  cases v with
  | dead => simp only [Swp.v]
  | tup l =>
    obtain ⟨xs, _, h2⟩ := h
    simp only [Swp.v, All2_in hi h2]
  | _ => exact v_in hi h.2.1
theorem sw_low {i j : Nat} (h : j < i) : sw i j = j := by unfold sw; rw [if_neg (by omega), if_neg (by omega)]
theorem isSome_lt {l : List Blk} {j : Nat} : l[j]?.isSome = true ↔ j < l.length := by
  by_cases h : j < l.length
  · simp [List.getElem?_eq_getElem h, h]
  · simp [List.getElem?_eq_none (show l.length ≤ j by omega), h]
theorem a_low {s : St} (hn : F.n s ≤ F.i) {a : Loc} (h : (s.at a).isSome = true) : F.a a = a := by
  unfold Swp.n at hn
  cases a with
  | loc j =>
    simp only [St.at, isSome_lt] at h
    simp only [Swp.a]
    split
    · rfl
    · rename_i hh; rw [if_neg hh] at hn; rw [sw_low (by omega)]
  | hp j =>
    simp only [St.at, isSome_lt] at h
    simp only [Swp.a]
    split
    · rename_i hh; rw [if_pos hh] at hn; rw [sw_low (by omega)]
    · rfl
theorem map_id {l : List Blk} (h : ∀ (i : Nat) (b : Blk), l[i]? = some b → F.b b = b) : l.map F.b = l := by
  apply List.ext_getElem?
  intro i
  rw [List.getElem?_map]
  cases hx : l[i]? with
  | none => rfl
  | some b => rw [Option.map_some, h i b hx]
theorem s_id {s : St} (hn : F.n s ≤ F.i) (h : ∀ a b, s.at a = some b → F.b b = b) : F.s s = s := by
  have h1 : s.loc.map F.b = s.loc := map_id fun i b hb => h (.loc i) b hb
  have h2 : s.hp.map F.b = s.hp := map_id fun i b hb => h (.hp i) b hb
  unfold Swp.n at hn
  unfold Swp.s
  split
  · rename_i hh; rw [if_pos hh] at hn; rw [swl_out hn, h1, h2]
  · rename_i hh; rw [if_neg hh] at hn; rw [swl_out hn, h1, h2]
theorem cl_of {B0 : Nat} {B : BM} {ρ : Env} {s : St} {tmps : Array Value} {w : World} (he : ER T B ρ tmps) (hs : SR T B0 B s w) : Cl ρ s := by
  intro F hn
  have hi : ∀ a x, B.at a = some x → F.a a = a := by
    intro a x hx
    refine a_low hn ?_
    cases a with
    | loc j =>
      have := (List.getElem?_eq_some_iff.1 (show B.loc[j]? = some x from hx)).1
      simp only [St.at, isSome_lt]; rw [← hs.lenL]; exact this
    | hp j =>
      have := (List.getElem?_eq_some_iff.1 (show B.hp[j]? = some x from hx)).1
      simp only [St.at, isSome_lt]; rw [← hs.lenH]; exact this
  refine ⟨fun t => VR_in hi (he t), s_id hn fun a b hb => ?_⟩
  have hBa : ∃ ar, B.at a = some ar := by
    cases a with
    | loc j =>
      have := (List.getElem?_eq_some_iff.1 (show s.loc[j]? = some b from hb)).1
      exact ⟨B.loc[j]'(by rw [hs.lenL]; exact this), List.getElem?_eq_getElem _⟩
    | hp j =>
      have := (List.getElem?_eq_some_iff.1 (show s.hp[j]? = some b from hb)).1
      exact ⟨B.hp[j]'(by rw [hs.lenH]; exact this), List.getElem?_eq_getElem _⟩
  obtain ⟨ar, har⟩ := hBa
  have hk := hs.blk a b ar hb har
  cases b with
  | dead => rfl
  | ro v => obtain ⟨_, _, c, e, fr, cs, _, h4, _⟩ := hk; simp only [Swp.b, v_in hi h4]
  | rw v => obtain ⟨_, _, c, e, cs, _, h4, _⟩ := hk; simp only [Swp.b, v_in hi h4]

/-! ### The operations that look at slots and memory alone -/
def eqB (o : Op) : Bool := (match o.op with | .call .. | .pcall .. | .callw .. => false | _ => true) && o.op.clos 0
theorem eqB_ev {rec : Task → St → Option Res} {base : Nat} {ρ : Env} {s : St} {o : Op} (h : eqB o = true) : ropF rec base ρ s o.op = evOp base ρ s o.op := by
  simp only [eqB, Bool.and_eq_true] at h
  cases ho : o.op with
  | call _ _ => rw [ho] at h; cases h.1
  | pcall _ _ => rw [ho] at h; cases h.1
  | callw _ _ _ => rw [ho] at h; cases h.1
  | _ => rfl
section eqs
variable {rec : Task → St → Option Res} {base : Nat}
theorem guard_v {g : Option (Nat × Bool)} {ρ ρ' : Env} (hρ : ∀ t, F.v (get ρ t) = get ρ' t) {b : Bool} (h : guardOk g ρ = some b) : guardOk g ρ' = some b := by
  cases g with
  | none => exact h
  | some x =>
    obtain ⟨t, wn⟩ := x
    simp only [guardOk] at h ⊢
    rw [← hρ t]
    cases hx : get ρ t with
    | tup l =>
      rw [hx] at h
      cases l with
      | nil => simpa only [Swp.v, Swp.vs] using h
      | cons a l => cases h
    | bool c => rw [hx] at h; simpa only [Swp.v] using h
    | _ => rw [hx] at h; cases h
theorem same_e {ρ ρ' : Env} (hρ : ∀ t, F.v (get ρ t) = get ρ' t) : Same (F.e ρ) ρ' := fun t => by rw [get_e]; exact hρ t
theorem put_vv {ρ ρ' : Env} (hρ : ∀ t, F.v (get ρ t) = get ρ' t) (d : Option Nat) (v : V) : ∀ t, F.v (get (put d v ρ) t) = get (put d (F.v v) ρ') t := by
  intro t
  cases d with
  | none => exact hρ t
  | some k =>
    simp only [put, get]
    split
    · rfl
    · exact hρ t
theorem step_v {o : Op} (ho : eqB o = true) (hF : F.Ok base) {x y x' : Env × St} (hx : F.In x.2) (hy : F.In y.2) (hρ : ∀ t, F.v (get x.1 t) = get x'.1 t) (hs : F.s x.2 = x'.2) (h : stepO rec base o x = some y) :
    ∃ y', stepO rec base o x' = some y' ∧ (∀ t, F.v (get y.1 t) = get y'.1 t) ∧ F.s y.2 = y'.2 := by
  obtain ⟨ρ, s⟩ := x
  obtain ⟨ρ', s'⟩ := x'
  simp only at hρ hs hx
  subst hs
  unfold stepO valO at *
  simp only at h ⊢
  cases hg : guardOk o.guard ρ with
  | none => rw [hg] at h; cases h
  | some b =>
    rw [hg] at h
    rw [guard_v hρ hg]
    cases b with
    | false =>
      simp only [Option.some.injEq] at h ⊢
      subst h
      refine ⟨_, rfl, ?_, rfl⟩
      have := put_vv hρ o.dst (.tup [])
      simpa only [Swp.v, Swp.vs] using this
    | true =>
      simp only at h ⊢
      rw [eqB_ev ho] at h
      rw [eqB_ev ho]
      cases hr : evOp base ρ s o.op with
      | none => rw [hr] at h; cases h
      | some q =>
        obtain ⟨v, s1⟩ := q
        rw [hr] at h
        simp only [Option.some.injEq] at h
        subst h
        simp only [eqB, Bool.and_eq_true] at ho
        have e := (evOp_s hF hx hy ho.2 hr).1
        rw [(same_e hρ).evOp] at e
        rw [e]
        exact ⟨_, rfl, put_vv hρ o.dst v, rfl⟩
theorem step_le {o : Op} (ho : eqB o = true) {x y : Env × St} (h : stepO rec base o x = some y) : Le x.2 y.2 := by
  unfold stepO valO at h
  cases hg : guardOk o.guard x.1 with
  | none => rw [hg] at h; cases h
  | some b =>
    rw [hg] at h
    cases b with
    | false =>
      simp only [Option.some.injEq] at h
      subst h; exact .refl _
    | true =>
      simp only at h
      rw [eqB_ev ho] at h
      cases hr : evOp base x.1 x.2 o.op with
      | none => rw [hr] at h; cases h
      | some q =>
        rw [hr] at h
        simp only [Option.some.injEq] at h
        subst h
        exact evOp_len hr
theorem evl_v (hF : F.Ok base) : ∀ {l : List Op}, (∀ o ∈ l, eqB o = true) → ∀ {x y x' : Env × St}, F.i + 1 < F.n x.2 → (∀ t, F.v (get x.1 t) = get x'.1 t) → F.s x.2 = x'.2 → evl rec base l x = some y →
    ∃ y', evl rec base l x' = some y' ∧ (∀ t, F.v (get y.1 t) = get y'.1 t) ∧ F.s y.2 = y'.2 ∧ F.i + 1 < F.n y.2
  | [], _, x, y, x', hx, hρ, hs, h => by
    simp only [evl, Option.some.injEq] at h
    subst h
    exact ⟨x', rfl, hρ, hs, hx⟩
  | o :: l, ho, x, y, x', hx, hρ, hs, h => by
    simp only [evl] at h ⊢
    cases hq : stepO rec base o x with
    | none => rw [hq] at h; cases h
    | some q =>
      rw [hq] at h
      have hle : F.n x.2 ≤ F.n q.2 := (step_le (ho o List.mem_cons_self) hq).n
      obtain ⟨q', e1, e2, e3⟩ := step_v (ho o List.mem_cons_self) hF (show F.In x.2 by unfold Swp.In; omega) (show F.In q.2 by unfold Swp.In; omega) hρ hs hq
      rw [e1]
      exact evl_v hF (fun o ho' => ho o (List.mem_cons_of_mem _ ho')) (by omega) e2 e3 h
theorem cl_step {o : Op} (ho : eqB o = true) {x y : Env × St} (hb : base ≤ x.2.loc.length) (hc : Cl x.1 x.2) (h : stepO rec base o x = some y) : Cl y.1 y.2 := by
  intro F hn
  have hle := step_le ho h
  have hnx : F.n x.2 ≤ F.i := Nat.le_trans hle.n hn
  obtain ⟨h1, h2⟩ := hc F hnx
  have hF : F.Ok base := ⟨fun hh => by unfold Swp.n at hnx; rw [hh] at hnx; simp only [Bool.false_eq_true, if_false] at hnx; omega⟩
  obtain ⟨y', e1, e2, e3⟩ := step_v ho hF (show F.In x.2 by unfold Swp.In; omega) (show F.In y.2 by unfold Swp.In; omega) h1 h2 h
  rw [h] at e1
  cases e1
  exact ⟨e2, e3⟩
end eqs
end Go.Ab.Sw
