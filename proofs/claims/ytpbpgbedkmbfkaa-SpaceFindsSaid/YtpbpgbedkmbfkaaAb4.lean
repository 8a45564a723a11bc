/-
  Ab4: what the abstract values, and the abstract memory, stand for in the model's worlds.
-/
import Derived.Test.YtpbpgbedkmbfkaaAb2
import Derived.Below
import Derived.Deep.MidRow
namespace Go.Ab

/-! ### Layouts by tags -/
inductive TI where
  | st (fs : List Nat)
  | arr (n e : Nat)
  | row (e : Nat)
  deriving DecidableEq, Inhabited

abbrev Tab := List (Nat × TI × Nat)

def Tab.find (T : Tab) (t : Nat) : Option (TI × Nat) :=
  match T with
  | [] => none
  | (k, x) :: r => if k = t then some x else Tab.find r t
def Tab.info (T : Tab) (t : Nat) : Option TI := (T.find t).map (·.1)
def Tab.size (T : Tab) (t : Nat) : Nat := match T.find t with | some x => x.2 | none => 1
def Tab.sum (T : Tab) : List Nat → Nat
  | [] => 0
  | t :: r => T.size t + T.sum r

def Tab.noRow (T : Tab) (t : Nat) : Bool := match T.find t with
  | some (.row _, _) => false
  | _ => true
def tiOk (T : Tab) (t : Nat) (x : TI × Nat) : Bool :=
  decide (20 ≤ t) && match x.1 with
    | .st fs => decide (x.2 = T.sum fs) && fs.all (fun c => decide (0 < T.size c) && T.noRow c) && (decide (t % 2 = 1) || fs.all (fun c => decide (c % 2 = 0)))
    | .arr n e => decide (x.2 = n * T.size e) && decide (0 < T.size e) && T.noRow e && (decide (t % 2 = 1) || decide (e % 2 = 0))
    | .row e => decide (0 < T.size e) && T.noRow e && (decide (t % 2 = 1) || decide (e % 2 = 0))
def tabOk (T : Tab) : Bool := T.all fun p => tiOk T p.1 p.2

theorem Tab.find_mem {T : Tab} {t : Nat} {x : TI × Nat} (h : T.find t = some x) : (t, x) ∈ T := by
  induction T with
  | nil => cases h
  | cons p r ih =>
    obtain ⟨k, y⟩ := p
    simp only [Tab.find] at h
    by_cases hk : k = t
    · rw [if_pos hk] at h; cases h; subst hk; exact List.mem_cons_self
    · rw [if_neg hk] at h; exact List.mem_cons_of_mem _ (ih h)

theorem tiOk_of {T : Tab} (hT : tabOk T = true) {t : Nat} {x : TI × Nat} (h : T.find t = some x) : tiOk T t x = true :=
  List.all_eq_true.1 hT _ (Tab.find_mem h)

structure StOk (T : Tab) (t : Nat) (fs : List Nat) : Prop where
  ge : 20 ≤ t
  size : T.size t = T.sum fs
  pos : ∀ c ∈ fs, 0 < T.size c
  nr : ∀ c ∈ fs, T.noRow c = true
  pf : t % 2 = 0 → ∀ c ∈ fs, c % 2 = 0
structure ArrOk (T : Tab) (t n e : Nat) : Prop where
  ge : 20 ≤ t
  size : T.size t = n * T.size e
  pos : 0 < T.size e
  nr : T.noRow e = true
  pf : t % 2 = 0 → e % 2 = 0
structure RowOk (T : Tab) (t e : Nat) : Prop where
  ge : 20 ≤ t
  pos : 0 < T.size e
  nr : T.noRow e = true
  pf : t % 2 = 0 → e % 2 = 0

theorem stOk {T : Tab} (hT : tabOk T = true) {t : Nat} {fs : List Nat} (h : T.info t = some (.st fs)) : StOk T t fs := by
  unfold Tab.info at h
  cases hf : T.find t with
  | none => rw [hf] at h; cases h
  | some x =>
    obtain ⟨ti, sz⟩ := x
    rw [hf] at h
    cases h
    have h1 := tiOk_of hT hf
    simp only [tiOk, Bool.and_eq_true, Bool.or_eq_true, decide_eq_true_eq, List.all_eq_true] at h1
    refine ⟨h1.1, by unfold Tab.size; rw [hf]; exact h1.2.1.1, fun c hc => (h1.2.1.2 c hc).1, fun c hc => (h1.2.1.2 c hc).2, fun hp c hc => ?_⟩
    rcases h1.2.2 with h2 | h2
    · omega
    · exact h2 c hc
theorem arrOk {T : Tab} (hT : tabOk T = true) {t n e : Nat} (h : T.info t = some (.arr n e)) : ArrOk T t n e := by
  unfold Tab.info at h
  cases hf : T.find t with
  | none => rw [hf] at h; cases h
  | some x =>
    obtain ⟨ti, sz⟩ := x
    rw [hf] at h
    cases h
    have h1 := tiOk_of hT hf
    simp only [tiOk, Bool.and_eq_true, Bool.or_eq_true, decide_eq_true_eq] at h1
    refine ⟨h1.1, by unfold Tab.size; rw [hf]; exact h1.2.1.1.1, h1.2.1.1.2, h1.2.1.2, fun hp => ?_⟩
    rcases h1.2.2 with h2 | h2
    · omega
    · exact h2
theorem rowOk {T : Tab} (hT : tabOk T = true) {t e : Nat} (h : T.info t = some (.row e)) : RowOk T t e := by
  unfold Tab.info at h
  cases hf : T.find t with
  | none => rw [hf] at h; cases h
  | some x =>
    obtain ⟨ti, sz⟩ := x
    rw [hf] at h
    cases h
    have h1 := tiOk_of hT hf
    simp only [tiOk, Bool.and_eq_true, Bool.or_eq_true, decide_eq_true_eq] at h1
    refine ⟨h1.1, h1.2.1.1, h1.2.1.2, fun hp => ?_⟩
    rcases h1.2.2 with h2 | h2
    · omega
    · exact h2

theorem size_leaf {T : Tab} (hT : tabOk T = true) {t : Nat} (ht : t < 20) : T.size t = 1 := by
  unfold Tab.size
  cases hf : T.find t with
  | none => rfl
  | some x =>
    have h1 := tiOk_of hT hf
    simp only [tiOk, Bool.and_eq_true, decide_eq_true_eq] at h1
    omega
theorem info_leaf {T : Tab} (hT : tabOk T = true) {t : Nat} (ht : t < 20) : T.info t = none := by
  unfold Tab.info
  cases hf : T.find t with
  | none => rfl
  | some x =>
    have h1 := tiOk_of hT hf
    simp only [tiOk, Bool.and_eq_true, decide_eq_true_eq] at h1
    omega

/-- The element's tag of an array or a row. -/
def Tab.elem (T : Tab) (t : Nat) : Option Nat :=
  match T.info t with
  | some (.arr _ e) => some e
  | some (.row e) => some e
  | _ => none

/-- Where a path leads, in cells, and to what. -/
def offOf (T : Tab) : Nat → List Nat → Option (Nat × Nat)
  | t, [] => some (0, t)
  | t, i :: p => match T.info t with
    | some (.st fs) => match fs[i]? with
      | some c => (offOf T c p).map fun x => (T.sum (fs.take i) + x.1, x.2)
      | none => none
    | some (.arr n e) => if i < n then (offOf T e p).map fun x => (i * T.size e + x.1, x.2) else none
    | some (.row e) => (offOf T e p).map fun x => (i * T.size e + x.1, x.2)
    | none => none

/-! ### Values -/
def aggOk (T : Tab) (t : Nat) (l : List V) : Prop :=
  match T.info t with
  | some (.st fs) => l.map V.tag = fs
  | some (.arr n e) => l.length = n ∧ ∀ x ∈ l, x.tag = e
  | some (.row e) => ∀ x ∈ l, x.tag = e
  | none => False

mutual
def V.wf (T : Tab) : V → Prop
  | .dead => False
  | .tup _ => False
  | .agg t l => aggOk T t l ∧ V.wfs T l
  | _ => True
def V.wfs (T : Tab) : List V → Prop
  | [] => True
  | v :: l => v.wf T ∧ V.wfs T l
end

theorem wfs_iff {T : Tab} {l : List V} : V.wfs T l ↔ ∀ x ∈ l, x.wf T := by
  induction l with
  | nil => simp [V.wfs]
  | cons v l ih => simp [V.wfs, ih]

structure BM where
  loc : List (Addr × Nat)
  hp : List (Addr × Nat)

def BM.at (B : BM) : Loc → Option (Addr × Nat)
  | .loc i => B.loc[i]?
  | .hp i => B.hp[i]?

mutual
/-- The cells that a value stands for. -/
def CR (T : Tab) (B : BM) : V → List Value → Prop
  | .dead, _ => False
  | .tup _, _ => False
  | .bool b, cs => cs = [.bool b]
  | .int k n, cs => cs = [.int k n]
  | .str s, cs => cs = [.string s]
  | .nilp, cs => cs = [.pointer none]
  | .ptr a p t, cs => ∃ ad r o, B.at a = some (ad, r) ∧ offOf T r p = some (o, t) ∧ cs = [.pointer (some ⟨ad.block, ad.off + o, none⟩)]
  | .nils, cs => cs = [.slice none 0 0]
  | .sl a p off len cap e, cs => ∃ ad r o u c' ad', B.at a = some (ad, r) ∧ offOf T r p = some (o, u) ∧ T.elem u = some e ∧ (∀ n e, T.info u = some (.arr n e) → off + len ≤ n) ∧ len ≤ c' ∧ (∀ c, cap = some c → c' = c) ∧
      (c' = 0 ∨ ad' = ⟨ad.block, ad.off + (o + off * T.size e), none⟩) ∧ (∀ N, ad.spot = some N → ad.off + (o + off * T.size e) + c' * T.size e ≤ N) ∧ cs = [.slice (some ad') len c']
  | .fn f caps, cs => ∃ vs : Array Value, CRs T B caps vs.toList ∧ V.wfs T caps ∧ (∀ v ∈ caps, v.tag = 1) ∧ cs = [.func (.func f) #[] vs]
  | .nilf, cs => cs = [.nilFunc]
  | .agg _ l, cs => CRs T B l cs
def CRs (T : Tab) (B : BM) : List V → List Value → Prop
  | [], cs => cs = []
  | v :: l, cs => ∃ a b, cs = a ++ b ∧ CR T B v a ∧ CRs T B l b
end

theorem size_pos {T : Tab} (hT : tabOk T = true) {t i : Nat} {ti : TI} (h : T.info t = some ti) (hi : i < 20) : t ≠ i := by
  intro he
  subst he
  rw [info_leaf hT hi] at h
  cases h

theorem itag_lt (k : IntKind) : itag k < 20 := by cases k <;> decide

theorem noRow_iff {T : Tab} {t : Nat} (h : T.noRow t = true) (e : Nat) : T.info t ≠ some (.row e) := by
  unfold Tab.noRow at h
  unfold Tab.info
  intro hi
  cases hf : T.find t with
  | none => rw [hf] at hi; cases hi
  | some x =>
    obtain ⟨ti, sz⟩ := x
    rw [hf] at hi h
    cases hi
    cases h

theorem sum_const {T : Tab} {e : Nat} : ∀ {l : List V}, (∀ x ∈ l, x.tag = e) → T.sum (l.map V.tag) = l.length * T.size e
  | [], _ => by simp [Tab.sum]
  | v :: l, h => by
    rw [List.map_cons, Tab.sum, sum_const (fun x hx => h x (List.mem_cons_of_mem _ hx)), h v List.mem_cons_self, List.length_cons, Nat.succ_mul]
    omega

mutual
theorem CR_len {T : Tab} {B : BM} (hT : tabOk T = true) : ∀ {v : V} {cs : List Value}, v.wf T → CR T B v cs → T.noRow v.tag = true → cs.length = T.size v.tag
  | .dead, _, _, h, _ => by simp [CR] at h
  | .tup _, _, _, h, _ => by simp [CR] at h
  | .bool _, _, _, h, _ => by simp only [CR] at h; subst h; exact (size_leaf hT (t := 0) (by decide)).symm
  | .int k _, _, _, h, _ => by simp only [CR] at h; subst h; exact (size_leaf hT (itag_lt k)).symm
  | .str _, _, _, h, _ => by simp only [CR] at h; subst h; exact (size_leaf hT (t := 2) (by decide)).symm
  | .nilp, _, _, h, _ => by simp only [CR] at h; subst h; exact (size_leaf hT (t := 1) (by decide)).symm
  | .ptr _ _ _, _, _, h, _ => by simp only [CR] at h; obtain ⟨_, _, _, _, _, rfl⟩ := h; exact (size_leaf hT (t := 1) (by decide)).symm
  | .nils, _, _, h, _ => by simp only [CR] at h; subst h; exact (size_leaf hT (t := 1) (by decide)).symm
  | .sl _ _ _ _ _ _, _, _, h, _ => by simp only [CR] at h; obtain ⟨_, _, _, _, _, _, _, _, _, _, _, _, _, _, rfl⟩ := h; exact (size_leaf hT (t := 1) (by decide)).symm
  | .fn _ _, _, _, h, _ => by simp only [CR] at h; obtain ⟨_, _, _, _, rfl⟩ := h; exact (size_leaf hT (t := 1) (by decide)).symm
  | .nilf, _, _, h, _ => by simp only [CR] at h; subst h; exact (size_leaf hT (t := 1) (by decide)).symm
  | .agg t l, cs, hw, h, hr => by
    simp only [CR] at h
    simp only [V.wf] at hw
    have hl := CRs_len hT hw.2 h
    unfold aggOk at hw
    simp only [V.tag] at hr ⊢
    cases hi : T.info t with
    | none => rw [hi] at hw; exact hw.1.elim
    | some ti =>
      rw [hi] at hw
      cases ti with
      | st fs =>
        simp only at hw
        have hok := stOk hT hi
        rw [hl (fun x hx => hok.nr _ (by rw [← hw.1]; exact List.mem_map_of_mem hx)), hok.size, ← hw.1]
      | arr n e =>
        simp only at hw
        have hok := arrOk hT hi
        rw [hl (fun x hx => by rw [hw.1.2 x hx]; exact hok.nr), hok.size, sum_const hw.1.2, hw.1.1]
      | row e => exact absurd hi (noRow_iff hr e)
theorem CRs_len {T : Tab} {B : BM} (hT : tabOk T = true) : ∀ {l : List V} {cs : List Value}, V.wfs T l → CRs T B l cs → (∀ x ∈ l, T.noRow x.tag = true) → cs.length = T.sum (l.map V.tag)
  | [], _, _, h, _ => by simp only [CRs] at h; subst h; rfl
  | v :: l, _, hw, h, hr => by
    simp only [CRs] at h
    obtain ⟨a, b, rfl, ha, hb⟩ := h
    simp only [V.wfs] at hw
    rw [List.length_append, CR_len hT hw.1 ha (hr v List.mem_cons_self), CRs_len hT hw.2 hb (fun x hx => hr x (List.mem_cons_of_mem _ hx))]
    rfl
end

/-- An element's cells among all. -/
theorem CRs_split {T : Tab} {B : BM} (hT : tabOk T = true) : ∀ {l : List V} {cs : List Value} {i : Nat} {y : V}, V.wfs T l → CRs T B l cs → (∀ x ∈ l, T.noRow x.tag = true) → l[i]? = some y →
    ∃ a b c, cs = a ++ b ++ c ∧ a.length = T.sum ((l.take i).map V.tag) ∧ y.wf T ∧ CR T B y b ∧ ∀ y' b', CR T B y' b' → CRs T B (l.set i y') (a ++ b' ++ c)
  | [], _, _, _, _, _, _, h => by simp at h
  | v :: l, cs, 0, y, hw, h, hr, hy => by
    simp only [List.getElem?_cons_zero, Option.some.injEq] at hy
    subst hy
    simp only [CRs] at h
    obtain ⟨a, b, rfl, ha, hb⟩ := h
    simp only [V.wfs] at hw
    refine ⟨[], a, b, by simp, rfl, hw.1, ha, fun y' b' hy' => ?_⟩
    simp only [List.set_cons_zero, CRs]
    exact ⟨b', b, by simp, hy', hb⟩
  | v :: l, cs, i + 1, y, hw, h, hr, hy => by
    simp only [List.getElem?_cons_succ] at hy
    simp only [CRs] at h
    obtain ⟨a, b, rfl, ha, hb⟩ := h
    simp only [V.wfs] at hw
    obtain ⟨a1, b1, c1, rfl, hl, hwy, hcy, hset⟩ := CRs_split hT hw.2 hb (fun x hx => hr x (List.mem_cons_of_mem _ hx)) hy
    refine ⟨a ++ a1, b1, c1, by simp, ?_, hwy, hcy, fun y' b' hy' => ?_⟩
    · rw [List.length_append, CR_len hT hw.1 ha (hr v List.mem_cons_self), hl]
      rfl
    · simp only [List.set_cons_succ, CRs]
      exact ⟨a, a1 ++ b' ++ c1, by simp, ha, hset _ _ hy'⟩

theorem wfs_set {T : Tab} {l : List V} {i : Nat} {y : V} (h : V.wfs T l) (hy : y.wf T) : V.wfs T (l.set i y) := by
  rw [wfs_iff] at *
  intro x hx
  rcases List.mem_or_eq_of_mem_set hx with h1 | h1
  · exact h x h1
  · rw [h1]; exact hy

theorem map_set_same {l : List V} {i : Nat} {y y' : V} (hy : l[i]? = some y) (ht : y'.tag = y.tag) : (l.set i y').map V.tag = l.map V.tag := by
  apply List.ext_getElem?
  intro j
  simp only [List.getElem?_map, List.getElem?_set]
  by_cases hj : i = j
  · subst hj
    by_cases hl : i < l.length
    · have := (List.getElem?_eq_some_iff.1 hy).2
      simp [hl, ht, this]
    · rw [List.getElem?_eq_none (by omega)] at hy; cases hy
  · simp [hj]

/-- What a path leads to: its cells, and what storing there does. -/
theorem at_cells {T : Tab} {B : BM} (hT : tabOk T = true) : ∀ {p : List Nat} {v u : V} {cs : List Value} {o t : Nat}, v.wf T → CR T B v cs → V.at p v = some u → offOf T v.tag p = some (o, t) →
    ∃ a b c, cs = a ++ b ++ c ∧ a.length = o ∧ u.wf T ∧ u.tag = t ∧ CR T B u b ∧ (p ≠ [] → T.noRow t = true) ∧
      ∀ x d, x.wf T → x.tag = t → CR T B x d → ∃ v', V.setAt p x v = some v' ∧ v'.wf T ∧ v'.tag = v.tag ∧ CR T B v' (a ++ d ++ c)
  | [], v, u, cs, o, t, hw, hc, hat, ho => by
    simp only [V.at, Option.some.injEq] at hat
    simp only [offOf, Option.some.injEq, Prod.mk.injEq] at ho
    subst hat
    obtain ⟨rfl, rfl⟩ := ho
    exact ⟨[], cs, [], by simp, rfl, hw, rfl, hc, fun h => absurd rfl h, fun x d hx ht hd => ⟨x, rfl, hx, ht, by simpa using hd⟩⟩
  | i :: p, v, u, cs, o, t, hw, hc, hat, ho => by
    cases v with
    | agg q l =>
      simp only [V.at] at hat
      cases hy : l[i]? with
      | none => rw [hy] at hat; cases hat
      | some y =>
        rw [hy] at hat
        simp only [V.wf] at hw
        simp only [CR] at hc
        obtain ⟨hag, hwl⟩ := hw
        simp only [V.tag, offOf] at ho
        have hym : y ∈ l := List.mem_of_getElem? hy
        have hil : i < l.length := (List.getElem?_eq_some_iff.1 hy).1
        -- the element's tag and its offset
        have key : ∃ o1, offOf T y.tag p = some (o1, t) ∧ o = T.sum ((l.take i).map V.tag) + o1 ∧ (∀ x ∈ l, T.noRow x.tag = true) ∧ ∀ y' : V, y'.tag = y.tag → aggOk T q (l.set i y') := by
          unfold aggOk at hag ⊢
          cases hi : T.info q with
          | none => rw [hi] at hag; exact hag.elim
          | some ti =>
            rw [hi] at hag ho
            cases ti with
            | st fs =>
              simp only at hag ho
              have hok := stOk hT hi
              have hfi : fs[i]? = some y.tag := by rw [← hag, List.getElem?_map, hy]; rfl
              rw [hfi] at ho
              simp only [Option.map_eq_some_iff] at ho
              obtain ⟨x, hx, hxe⟩ := ho
              obtain ⟨o1, t1⟩ := x
              cases hxe
              refine ⟨o1, hx, by rw [← hag, List.map_take], fun x hx => hok.nr _ (by rw [← hag]; exact List.mem_map_of_mem hx), fun y' hy' => ?_⟩
              rw [map_set_same hy hy']; exact hag
            | arr n e =>
              simp only at hag ho
              have hok := arrOk hT hi
              by_cases hin : i < n
              · rw [if_pos hin] at ho
                simp only [Option.map_eq_some_iff] at ho
                obtain ⟨x, hx, hxe⟩ := ho
                obtain ⟨o1, t1⟩ := x
                cases hxe
                refine ⟨o1, by rw [hag.2 y hym]; exact hx, ?_, fun x hx => by rw [hag.2 x hx]; exact hok.nr, fun y' hy' => ⟨by rw [List.length_set]; exact hag.1, fun x hx => ?_⟩⟩
                · rw [sum_const (fun x hx => hag.2 x (List.mem_of_mem_take hx)), List.length_take, Nat.min_eq_left (by omega)]
                · rcases List.mem_or_eq_of_mem_set hx with h1 | h1
                  · exact hag.2 x h1
                  · rw [h1, hy']; exact hag.2 y hym
              · rw [if_neg hin] at ho; cases ho
            | row e =>
              simp only at hag ho
              have hok := rowOk hT hi
              simp only [Option.map_eq_some_iff] at ho
              obtain ⟨x, hx, hxe⟩ := ho
              obtain ⟨o1, t1⟩ := x
              cases hxe
              refine ⟨o1, by rw [hag y hym]; exact hx, ?_, fun x hx => by rw [hag x hx]; exact hok.nr, fun y' hy' => fun x hx => ?_⟩
              · rw [sum_const (fun x hx => hag x (List.mem_of_mem_take hx)), List.length_take, Nat.min_eq_left (by omega)]
              · rcases List.mem_or_eq_of_mem_set hx with h1 | h1
                · exact hag x h1
                · rw [h1, hy']; exact hag y hym
        obtain ⟨o1, ho1, hoe, hnr, hset⟩ := key
        obtain ⟨a, b, c, rfl, hal, hwy, hcy, hput⟩ := CRs_split hT hwl hc hnr hy
        obtain ⟨a1, b1, c1, rfl, ha1, hwu, htu, hcu, hnru, hput1⟩ := at_cells hT hwy hcy hat ho1
        refine ⟨a ++ a1, b1, c1 ++ c, by simp, by rw [List.length_append, hal, ha1, hoe], hwu, htu, hcu, fun _ => ?_, fun x d hx ht hd => ?_⟩
        · cases p with
          | nil =>
            simp only [V.at, Option.some.injEq] at hat
            subst hat
            rw [← htu]; exact hnr _ hym
          | cons j p => exact hnru (by simp)
        · obtain ⟨y', hy', hwy', hty', hcy'⟩ := hput1 x d hx ht hd
          refine ⟨.agg q (l.set i y'), by simp only [V.setAt, hy, hy'], ?_, rfl, ?_⟩
          · simp only [V.wf]; exact ⟨hset y' hty', wfs_set hwl hwy'⟩
          · simp only [CR]
            have := hput y' _ hcy'
            simpa using this
    | _ => simp [V.at] at hat
end Go.Ab
