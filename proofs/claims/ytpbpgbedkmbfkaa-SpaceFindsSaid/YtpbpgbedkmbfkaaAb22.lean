/-
  Ab22: from an abstract run that tells true, for whatever comes in, to the model's call, and to the row's form.
-/
import Derived.Test.YtpbpgbedkmbfkaaAb21
import Derived.SizedLaws
namespace Go.Ab
open Go.RowKit

def Sh.agg : Sh → Bool
  | .st _ _ | .arr _ _ _ => true
  | _ => false
theorem fits_agg {hp : List Blk} {sh : Sh} {v : V} (h : sh.Fits hp v) : isAggV v = sh.agg := by
  cases sh with
  | bool => obtain ⟨b, rfl⟩ := h; rfl
  | int k => obtain ⟨n, rfl, _⟩ := h; rfl
  | str => obtain ⟨s, rfl, _⟩ := h; rfl
  | st t l => obtain ⟨vs, rfl, _⟩ := h; rfl
  | arr t n e => obtain ⟨vs, rfl, _⟩ := h; rfl
  | sl r e => rcases h with rfl | ⟨i, l, c, rfl, _⟩ <;> rfl
theorem okWide_agg {c : Cfg} {W : World} {r : Reach} {base t : Nat} {v : Value} {sh : Sh} (hk : shOk c sh t = true) (h : Value.okWide c.P W r base t v) : sh.agg = isAggX v := by
  have leaf : ∀ d, c.P.underlying t = some d → d.isRow = false → (∀ m, d ≠ .interface m) → (∀ a b, d ≠ .map a b) → Value.okWide c.P W r base t v → isAggX v = false := by
    intro d hu hd _ _ h
    unfold Value.okWide at h
    rw [hu] at h
    have h' : Cell.okWide c.P W r base t v := by cases d <;> simp_all [TypeDesc.isRow]
    cases v with
    | agg cs =>
      unfold Cell.okWide at h'
      rw [hu] at h'
      cases d <;> simp_all [Cell.ok]
    | _ => rfl
  cases sh with
  | bool =>
    simp only [shOk, Bool.and_eq_true] at hk
    obtain ⟨_, hk⟩ := hk
    split at hk
    · rename_i hu; exact (leaf _ hu rfl (by simp) (by simp) h).symm
    · cases hk
  | int k =>
    simp only [shOk, Bool.and_eq_true] at hk
    obtain ⟨_, hk⟩ := hk
    split at hk
    · rename_i hu; exact (leaf _ hu rfl (by simp) (by simp) h).symm
    · cases hk
  | str =>
    simp only [shOk, Bool.and_eq_true] at hk
    obtain ⟨_, hk⟩ := hk
    split at hk
    · rename_i hu; exact (leaf _ hu rfl (by simp) (by simp) h).symm
    · cases hk
  | sl rr e =>
    simp only [shOk, Bool.and_eq_true] at hk
    obtain ⟨_, hk⟩ := hk
    split at hk
    · rename_i hu; exact (leaf _ hu rfl (by simp) (by simp) h).symm
    · cases hk
  | st q l =>
    simp only [shOk, Bool.and_eq_true] at hk
    obtain ⟨_, hk⟩ := hk
    split at hk
    · rename_i hu
      unfold Value.okWide at h
      rw [hu] at h
      obtain ⟨cs, rfl, _⟩ := h
      rfl
    · cases hk
  | arr q n e =>
    simp only [shOk, Bool.and_eq_true] at hk
    obtain ⟨_, hk⟩ := hk
    split at hk
    · rename_i hu
      unfold Value.okWide at h
      rw [hu] at h
      obtain ⟨cs, rfl, _⟩ := h
      rfl
    · cases hk

section
variable {c : Cfg} (hT : tabOk c.T = true) (hm : tmOk c = true) {H : Type} {enc : TypeId × Value → H} {w : World}
include hT hm
/-- All arguments. -/
theorem open_args {r : Reach} {base : Nat} : ∀ {shs : List Sh} {ts : List TypeId} {xs : List Value} {ds : List (DataW H)} {p : List MemPlace}, shOkL c shs ts = true → DataW.TrodAll enc c.P w 0 (fun _ => true) true ts xs ds p →
    (∀ (j : Nat) t v, ts[j]? = some t → xs[j]? = some v → Value.okWide c.P w r base t v) → ∀ B hp, Inv c.T w B hp →
    Opened c w B hp fun B' hp' => ∃ vs, All2 (VR c.T B') vs xs ∧ Sh.FitsL hp' shs vs
  | [], [], [], [], p, _, _, _, B, hp, hI => ⟨B, hp, hI, Ext.refl _, List.prefix_rfl, [], trivial, trivial⟩
  | h :: l, t :: ts, x :: xs, d :: ds, p, hk, hA, hv, B, hp, hI => by
    simp only [shOkL, Bool.and_eq_true] at hk
    obtain ⟨p1, p2, ⟨fuel, h1⟩, h2, rfl⟩ := hA
    obtain ⟨B1, hp1, hI1, he1, hx1, v, g1, g2, g3, g4⟩ := open_trod hT hm fuel h t _ _ hk.1 h1 B hp hI
    obtain ⟨B2, hp2, hI2, he2, hx2, vs, g5, g6⟩ := open_args hk.2 h2 (fun j t v ht hv' => hv (j + 1) t v (by simpa using ht) (by simpa using hv')) B1 hp1 hI1
    refine ⟨B2, hp2, hI2, he1.trans he2, hx1.trans hx2, v :: vs, ⟨?_, g5⟩, Sh.Fits.mono hx2 g4, g6⟩
    refine VR_of1 ⟨g1, CR_move (fun _ _ => he2.at) g3, ?_⟩
    rw [fits_agg g4]
    exact okWide_agg hk.1 (hv 0 t x rfl rfl)
  | [], _ :: _, _, _, _, hk, _, _, _, _, _ => by simp [shOkL] at hk
  | _ :: _, [], _, _, _, hk, _, _, _, _, _ => by simp [shOkL] at hk
  | [], [], _ :: _, _, _, _, h, _, _, _, _ => by cases h
  | [], [], [], _ :: _, _, _, h, _, _, _, _ => by cases h
  | _ :: _, _ :: _, [], _, _, _, h, _, _, _, _ => by cases h
  | _ :: _, _ :: _, _ :: _, [], _, _, h, _, _, _, _ => by cases h
end

/-- A loop, by a measure: each round goes on at a lesser state of the same answer, or ends with it. -/
theorem loop_run {D : Nat → Option Fc} {base : Nat} {keep : List Nat} {b : C} {α : Type} (ρ : α → Env) (σ : α → St) (F : α → Option (Ex × Env × St)) (μ : α → Nat) (I : α → Prop)
    (h : ∀ x, I x → (∃ y, I y ∧ μ y < μ x ∧ F x = F y ∧ obind (rc D base b (restrict keep (ρ x)) (σ x)) (again D base (σ x).loc.length keep b) = rc D base (.loop keep b) (ρ y) (σ y)) ∨
      obind (rc D base b (restrict keep (ρ x)) (σ x)) (again D base (σ x).loc.length keep b) = F x) (x : α) (hx : I x) : rc D base (.loop keep b) (ρ x) (σ x) = F x := by
  have key : ∀ n x, μ x = n → I x → rc D base (.loop keep b) (ρ x) (σ x) = F x := by
    intro n
    induction n using Nat.strongRecOn with
    | _ n ih =>
      intro x hn hx
      rw [rc_loop_o]
      rcases h x hx with ⟨y, h1, h2, h3, h4⟩ | h1
      · rw [h4, h3]; exact ih (μ y) (by omega) y rfl h1
      · exact h1
  exact key _ x rfl hx

theorem loop_runs {D : Nat → Option Fc} {base : Nat} {keep : List Nat} {b : C} {α : Type} (ρ : α → Env) (σ : α → St) (F : α → Option (Ex × Env × St)) (μ : α → Nat) (I : α → Prop) (x : α)
    (h : ∀ x, I x → (∃ y, I y ∧ μ y < μ x ∧ F x = F y ∧ obind (rc D base b (restrict keep (ρ x)) (σ x)) (again D base (σ x).loc.length keep b) = rc D base (.loop keep b) (ρ y) (σ y)) ∨
      obind (rc D base b (restrict keep (ρ x)) (σ x)) (again D base (σ x).loc.length keep b) = F x) (hx : I x) {ρ0 : Env} {s0 : St} (hρ : ρ0 = ρ x) (hs : s0 = σ x) : rc D base (.loop keep b) ρ0 s0 = F x := by
  subst hρ; subst hs
  exact loop_run ρ σ F μ I h x hx

/-- A loop of which only what holds behind it is told. -/
theorem loop_ex {D : Nat → Option Fc} {base : Nat} {keep : List Nat} {b : C} {α : Type} (ρ : α → Env) (σ : α → St) (Q : Ex × Env × St → Prop) (μ : α → Nat) (I : α → Prop) (x : α)
    (h : ∀ x, I x → (∃ y, I y ∧ μ y < μ x ∧ obind (rc D base b (restrict keep (ρ x)) (σ x)) (again D base (σ x).loc.length keep b) = rc D base (.loop keep b) (ρ y) (σ y)) ∨
      ∃ r, obind (rc D base b (restrict keep (ρ x)) (σ x)) (again D base (σ x).loc.length keep b) = some r ∧ Q r) (hx : I x) {ρ0 : Env} {s0 : St} (hρ : ρ0 = ρ x) (hs : s0 = σ x) : ∃ r, rc D base (.loop keep b) ρ0 s0 = some r ∧ Q r := by
  subst hρ; subst hs
  have key : ∀ n x, μ x = n → I x → ∃ r, rc D base (.loop keep b) (ρ x) (σ x) = some r ∧ Q r := by
    intro n
    induction n using Nat.strongRecOn with
    | _ n ih =>
      intro x hn hx
      rw [rc_loop_o]
      rcases h x hx with ⟨y, h1, h2, h4⟩ | ⟨r, h1, h2⟩
      · rw [h4]; exact ih (μ y) (by omega) y rfl h1
      · exact ⟨r, h1, h2⟩
  exact key _ x rfl hx

/-! ### Slices that are read -/
theorem at_append : ∀ {p q : List Nat} {v u : V}, V.at p v = some u → V.at (p ++ q) v = V.at q u
  | [], q, v, u, h => by simp only [V.at, Option.some.injEq] at h; subst h; rfl
  | i :: p, q, v, u, h => by
    cases v with
    | agg t l =>
      simp only [V.at] at h
      cases hy : l[i]? with
      | none => rw [hy] at h; cases h
      | some y =>
        rw [hy] at h
        simp only [List.cons_append, V.at, hy]
        exact at_append h
    | _ => cases h
theorem read_append {s : St} {a : Loc} {p q : List Nat} {u : V} (h : s.read a p = some u) : s.read a (p ++ q) = V.at q u := by
  unfold St.read at h ⊢
  split at h
  · exact at_append h
  · exact at_append h
  · cases h
/-- More blocks, the old ones as they were. -/
structure More (s s' : St) : Prop where
  loc : s.loc <+: s'.loc
  hp : s.hp <+: s'.hp
theorem More.refl (s : St) : More s s := ⟨List.prefix_rfl, List.prefix_rfl⟩
theorem More.app (s : St) (l h : List Blk) : More s ⟨s.loc ++ l, s.hp ++ h⟩ := ⟨List.prefix_append _ _, List.prefix_append _ _⟩
theorem More.loc' (s : St) (l : List Blk) : More s ⟨s.loc ++ l, s.hp⟩ := ⟨List.prefix_append _ _, List.prefix_rfl⟩
theorem More.trans {s s' s'' : St} (h : More s s') (h' : More s' s'') : More s s'' := ⟨h.loc.trans h'.loc, h.hp.trans h'.hp⟩
theorem More.at {s s' : St} (h : More s s') {a : Loc} {b : Blk} (hb : s.at a = some b) : s'.at a = some b := by
  cases a with
  | loc i => exact prefix_get h.loc hb
  | hp i => exact prefix_get h.hp hb
theorem More.read {s s' : St} (h : More s s') {a : Loc} {p : List Nat} {u : V} (hr : s.read a p = some u) : s'.read a p = some u := by
  unfold St.read at hr ⊢
  cases hs : s.at a with
  | none => rw [hs] at hr; cases hr
  | some b => rw [h.at hs]; rw [hs] at hr; exact hr
theorem More.len {s s' : St} (h : More s s') : s.loc.length ≤ s'.loc.length := h.loc.length_le

/-- A slice's elements, all there. -/
def RS (s : St) (e : Nat) (v : V) (l : List V) : Prop :=
  (v = .nils ∧ l = []) ∨ ∃ a p off cp, v = .sl a p off l.length cp e ∧ (∀ c, cp = some c → l.length ≤ c) ∧ v.locLt s.loc.length = true ∧
    (l = [] ∨ ∃ r L, s.read a p = some (.agg r L) ∧ (∀ (j : Nat) x, l[j]? = some x → L[off + j]? = some x))
theorem rs_of_fits {hp : List Blk} {r : Nat} {sh : Sh} {v : V} (h : (Sh.sl r sh).Fits hp v) : ∃ l, RS ⟨[], hp⟩ sh.tag v l ∧ v.locLt 0 = true ∧ l.length ≤ maxLen ∧ ∀ x ∈ l, sh.Fits hp x := by
  rcases h with rfl | ⟨i, l, c, rfl, h1, h2, h3, h4⟩
  · exact ⟨[], .inl ⟨rfl, rfl⟩, by simp [V.locLt], by simp, by simp⟩
  · refine ⟨l, .inr ⟨.hp i, [], 0, some c, rfl, fun k hk => (by cases hk; exact h1), by simp [V.locLt], ?_⟩, by simp [V.locLt], by omega, h4⟩
    rcases h3 with h3 | h3
    · exact .inl h3
    · exact .inr ⟨r, l, by simp only [read_hp, h3, rd_ro, at_nil], fun j x hx => by rw [Nat.zero_add]; exact hx⟩
theorem RS.more {s s' : St} {e : Nat} {v : V} {l : List V} (h : RS s e v l) (hm : More s s') : RS s' e v l := by
  rcases h with h | ⟨a, p, off, cp, rfl, h1, h2, h3⟩
  · exact .inl h
  · refine .inr ⟨a, p, off, cp, rfl, h1, locLt_mono hm.len h2, ?_⟩
    rcases h3 with h3 | ⟨r, L, h4, h5⟩
    · exact .inl h3
    · exact .inr ⟨r, L, hm.read h4, h5⟩
section
variable {s : St} {e : Nat} {v : V} {l : List V}
theorem RS.slen (h : RS s e v l) : V.slen false v = some l.length := by
  rcases h with ⟨rfl, rfl⟩ | ⟨a, p, off, c, rfl, _⟩ <;> rfl
/-- An element's place. -/
def elp (v : V) (j : Nat) : V := match v with
  | .sl a p off _ _ e => .ptr a (p ++ [off + j]) e
  | _ => .dead
theorem RS.sad (h : RS s e v l) {j : Nat} (hj : j < l.length) {k : IntKind} : sadv e v (.int k (j : Int)) = some (elp v j) := by
  rcases h with ⟨rfl, rfl⟩ | ⟨a, p, off, c, rfl, _⟩
  · simp at hj
  · simp only [sadv, elp, Int.toNat_natCast]
    rw [if_pos ⟨trivial, by omega, by omega⟩]
theorem RS.ld (h : RS s e v l) {j : Nat} (hj : j < l.length) : ldv s e (elp v j) = some l[j] := by
  rcases h with ⟨rfl, rfl⟩ | ⟨a, p, off, c, rfl, _, _, h⟩
  · simp at hj
  · rcases h with h | ⟨r, L, h1, h2⟩
    · subst h; simp at hj
    · simp only [ldv, elp, if_true]
      rw [read_append h1]
      simp only [at_cons, h2 j l[j] (by simp [hj]), obind_some, at_nil]
theorem RS.locLt (h : RS s e v l) : v.locLt s.loc.length = true := by
  rcases h with ⟨rfl, rfl⟩ | ⟨a, p, off, c, rfl, _, h, _⟩
  · simp [V.locLt]
  · exact h
theorem RS.ok (h : RS s e v l) : v.ok = true := by
  rcases h with ⟨rfl, rfl⟩ | ⟨a, p, off, c, rfl, _⟩ <;> rfl
theorem RS.tag (h : RS s e v l) : v.tag = 1 := by
  rcases h with ⟨rfl, rfl⟩ | ⟨a, p, off, c, rfl, _⟩ <;> rfl
theorem RS.elems (h : RS s e v l) : s.elems v = some l := by
  rcases h with ⟨rfl, rfl⟩ | ⟨a, p, off, c, rfl, _, _, h⟩
  · rfl
  · simp only [St.elems]
    rcases h with h | ⟨r, L, h1, h2⟩
    · subst h; rfl
    · by_cases hl : l.length = 0
      · rw [if_pos hl, List.length_eq_zero_iff.1 hl]
      · rw [if_neg hl, h1]
        simp only
        have h3 := h2 (l.length - 1) (l[l.length - 1]'(by omega)) (by simp)
        have h4 := (List.getElem?_eq_some_iff.1 h3).1
        rw [if_pos (by omega)]
        refine congrArg some ?_
        apply List.ext_getElem?
        intro j
        rw [List.getElem?_take]
        split
        · rename_i hj
          rw [List.getElem?_drop, h2 j l[j] (by simp [hj])]
          simp [hj]
        · rw [List.getElem?_eq_none (by omega)]
theorem RS.take (h : RS s e v l) {n : Nat} (hn : n ≤ l.length) {k : IntKind} : ∃ v', slcv e none (some (.int k (n : Int))) none v = some v' ∧ RS s e v' (l.take n) ∧ (v.locLt 0 = true → v'.locLt 0 = true) := by
  rcases h with ⟨rfl, rfl⟩ | ⟨a, p, off, cp, rfl, hc, hlt, h⟩
  · have : n = 0 := by simpa using hn
    subst this
    exact ⟨.nils, by simp [slcv, bound, obind_some], .inl ⟨rfl, rfl⟩, fun h => h⟩
  · have hl : (l.take n).length = n := by simp [hn]
    have hn' : n ≤ cp.getD l.length := by
      cases cp with
      | none => exact hn
      | some c => exact Nat.le_trans hn (hc c rfl)
    refine ⟨.sl a p off n (ncap false cp (cp.getD l.length)) e, ?_, .inr ⟨a, p, off, _, by rw [hl], ?_, ?_, ?_⟩, ?_⟩
    · simp only [slcv, if_true, bound, obind_some, hbnd, Option.isSome_none, Bool.false_eq_true, if_false]
      rw [if_pos ⟨by omega, by omega⟩]
      simp [obind_some]
    · intro c hk
      rw [hl]
      cases cp with
      | none => simp [ncap] at hk
      | some c' =>
        simp only [ncap, Option.isSome_some, Bool.or_true, if_true, Option.some.injEq, Option.getD_some] at hk hn'
        omega
    · cases a
      · simpa [V.locLt] using hlt
      · simp [V.locLt]
    · rcases h with h | ⟨r, L, h1, h2⟩
      · left; simp [h]
      · right
        refine ⟨r, L, h1, fun j x hx => ?_⟩
        rw [List.getElem?_take] at hx
        split at hx
        · exact h2 j x hx
        · cases hx
    · intro hz
      cases a
      · simp [V.locLt] at hz
      · simp [V.locLt]
end

theorem RS.at_loc {L : List Blk} {hp : List Blk} {i r e n : Nat} {l : List V} (h : L[i]? = some (.rw (.agg r l))) (hn : n = l.length) {cp : Option Nat} (hc : ∀ c, cp = some c → n ≤ c) : RS ⟨L, hp⟩ e (.sl (.loc i) [] 0 n cp e) l := by
  subst hn
  refine .inr ⟨.loc i, [], 0, cp, rfl, hc, ?_, .inr ⟨r, l, ?_, fun j x hx => by rw [Nat.zero_add]; exact hx⟩⟩
  · simp only [V.locLt]; exact decide_eq_true (List.getElem?_eq_some_iff.1 h).1
  · simp only [read_loc, h, rd_rw, at_nil]
theorem bools_of {l : List V} (h : ∀ x ∈ l, ∃ b, x = .bool b) : ∃ lb : List Bool, l = lb.map .bool := by
  induction l with
  | nil => exact ⟨[], rfl⟩
  | cons v l ih =>
    obtain ⟨b, rfl⟩ := h v List.mem_cons_self
    obtain ⟨lb, rfl⟩ := ih (fun x hx => h x (List.mem_cons_of_mem _ hx))
    exact ⟨b :: lb, rfl⟩

section
variable {hp : List Blk} {a b c d : Sh} {vs : List V}
theorem fits0 (h : Sh.FitsL hp [] vs) : vs = [] := by
  cases vs with
  | nil => rfl
  | cons _ _ => exact h.elim
theorem fitsC {l : List Sh} (h : Sh.FitsL hp (a :: l) vs) : ∃ x r, vs = x :: r ∧ a.Fits hp x ∧ Sh.FitsL hp l r := by
  cases vs with
  | nil => exact h.elim
  | cons x r => exact ⟨x, r, rfl, h.1, h.2⟩
theorem fits1 (h : Sh.FitsL hp [a] vs) : ∃ x, vs = [x] ∧ a.Fits hp x := by
  obtain ⟨x, r, rfl, h1, h2⟩ := fitsC h
  rw [fits0 h2]
  exact ⟨x, rfl, h1⟩
theorem fits2 (h : Sh.FitsL hp [a, b] vs) : ∃ x y, vs = [x, y] ∧ a.Fits hp x ∧ b.Fits hp y := by
  obtain ⟨x, r, rfl, h1, h2⟩ := fitsC h
  obtain ⟨y, rfl, h3⟩ := fits1 h2
  exact ⟨x, y, rfl, h1, h3⟩
theorem fits3 (h : Sh.FitsL hp [a, b, c] vs) : ∃ x y z, vs = [x, y, z] ∧ a.Fits hp x ∧ b.Fits hp y ∧ c.Fits hp z := by
  obtain ⟨x, r, rfl, h1, h2⟩ := fitsC h
  obtain ⟨y, z, rfl, h3, h4⟩ := fits2 h2
  exact ⟨x, y, z, rfl, h1, h3, h4⟩
theorem arr2 {t : Nat} {v : V} (h : (Sh.arr t 2 a).Fits hp v) : ∃ x y, v = .agg t [x, y] ∧ a.Fits hp x ∧ a.Fits hp y := by
  obtain ⟨vs, rfl, hn, hl⟩ := h
  match vs, hn with
  | [x, y], _ => exact ⟨x, y, rfl, hl x (by simp), hl y (by simp)⟩
end

theorem inv_nil (T : Tab) (w : World) : Inv T w ⟨[], []⟩ [] := by
  refine ⟨⟨rfl, rfl, ?_, ?_, ?_, ?_⟩, by simp⟩
  · intro a b ar hs; cases a <;> simp [St.at] at hs
  · intro a a' ar ar' v b' hs; cases a <;> simp [St.at] at hs
  · intro a v ar hs; cases a <;> simp [St.at] at hs
  · intro i b hi; simp at hi

/-- The law's call. -/
theorem law_calls {c : Cfg} {D : Nat → Option Fc} (hC : Ctx c D) {f : Nat} {shs : List Sh} {ts : List TypeId} (hok : shOkL c shs ts = true) {H : Type} {enc : TypeId × Value → H} {W : World} {r : Reach} {base : Nat} {args : Array Value} {ds : List (DataW H)} {p : List MemPlace}
    {gB : BM} {ghp : List Blk} (hI : Inv c.T W gB ghp) (hG : GlobR c.gl gB) (hA : DataW.TrodAll enc c.P W 0 (fun _ => true) true ts args.toList ds p)
    (hv : ∀ (j : Nat) t v, ts[j]? = some t → args.toList[j]? = some v → Value.okWide c.P W r base t v)
    (law : ∀ hp vs, ghp <+: hp → Sh.FitsL hp shs vs → ∃ s', rf D f vs ⟨[], hp⟩ = some (.bool true, s')) :
    Calls c.P f args W fun e W' => e = .returned (.bool true) ∧ Below W.heap.size W W' := by
  obtain ⟨B, hp, hI2, he, hx, vs, h1, h2⟩ := open_args hC.hT hC.hm hok hA hv gB ghp hI
  obtain ⟨s', hs⟩ := law hp vs hx h2
  refine (calls_of_rf hC hs h1 hI2.sr (hG.ext he) (Nat.le_refl _)).mono ?_
  rintro e W' ⟨x, B', rfl, g1, g2⟩
  rw [vr_bool] at g1
  subst g1
  refine ⟨rfl, g2.frm.os, g2.frm.tape, g2.frm.output, g2.frm.size, fun k hk => g2.frm.block k hk ?_⟩
  rintro ⟨a, v, ar, q1, _, _⟩
  cases a with
  | loc i => simp [St.at] at q1
  | hp i => exact hI2.ro v (List.mem_of_getElem? (show hp[i]? = some (.rw v) from q1))

/-- The arguments read behind the call as they did. -/
theorem args_back {P : Program} (hl : laidOutB P = true) {H : Type} {enc : TypeId × Value → H} {W W' : World} (hb : Below W.heap.size W W') : ∀ {ts : List TypeId} {xs : List Value} {ds : List (DataW H)} {p : List MemPlace},
    ts.all (fun t => P.readableRec t && decide (t < P.types.size)) = true → DataW.TrodAll enc P W 0 (fun _ => true) true ts xs ds p → DataW.TrodAll enc P W' 0 (fun b => decide (b < W.heap.size)) true ts xs ds p
  | [], [], [], _, _, h => h
  | t :: ts, x :: xs, d :: ds, p, hk, hA => by
    simp only [List.all_cons, Bool.and_eq_true, decide_eq_true_eq] at hk
    obtain ⟨p1, p2, h1, h2, rfl⟩ := hA
    refine ⟨p1, p2, Below.trod hl hk.1.1 hk.1.2 h1 hb ?_, args_back hl hb (by simpa using hk.2) h2, rfl⟩
    obtain ⟨m, hm⟩ := h1
    exact DataW.trod_lt m _ _ _ hm
  | [], _ :: _, _, _, _, h => by cases h
  | [], [], _ :: _, _, _, h => by cases h
  | _ :: _, [], _, _, _, h => by cases h
  | _ :: _, _ :: _, [], _, _, h => by cases h
end Go.Ab
