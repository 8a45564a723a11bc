/-
  Ab19: a region whose operations' order is drawn.
-/
import Derived.Test.YtpbpgbedkmbfkaaAb37
namespace Go.Ab

def edgesOf (q : Oper) : List Nat := q.after.toList.filterMap fun e => if Region.binds .any e then some e.on else none
theorem mem_edges {q : Oper} {d : Nat} : d ∈ edgesOf q ↔ ∃ e ∈ q.after, Region.binds .any e = true ∧ e.on = d := by
  unfold edgesOf
  rw [List.mem_filterMap]
  constructor
  · rintro ⟨e, he, h⟩
    split at h
    · rename_i hb; exact ⟨e, by simpa using he, hb, by simpa using h⟩
    · cases h
  · rintro ⟨e, he, hb, rfl⟩
    exact ⟨e, by simpa using he, by rw [if_pos hb]⟩

def nub (l : List Nat) : List Nat := l.foldl (fun acc x => if acc.contains x then acc else x :: acc) []
def mkR : List Oper → List (List Nat) → List (List Nat)
  | [], acc => acc
  | q :: m, acc => mkR m (acc ++ [nub (edgesOf q ++ (edgesOf q).flatMap fun d => acc.getD d [])])
def rowOk2 (l : List Op) (es : List (List Nat)) (R : List (List Nat)) (j : Nat) : Bool :=
  (es.getD j []).all (fun d => decide (d < j)) && (R.getD j []).all (fun i => (es.getD j []).contains i || (es.getD j []).any fun d => (R.getD d []).contains i) &&
    (List.range j).all fun i => (R.getD j []).contains i || commB (l.getD i default) (l.getD j default) || (Sw.swB (l.getD i default) (l.getD j default) && l.all Sw.eqB)
def orderOk (l : List Op) (qs : List Oper) : Bool :=
  decide (l.length = qs.length) && (List.range l.length).all (rowOk2 l (qs.map edgesOf) (mkR qs []))

structure Row (l : List Op) (es R : List (List Nat)) (j : Nat) : Prop where
  back : ∀ d ∈ es.getD j [], d < j
  chain : ∀ i ∈ R.getD j [], i ∈ es.getD j [] ∨ ∃ d ∈ es.getD j [], i ∈ R.getD d []
  com : ∀ i, i < j → i ∉ R.getD j [] → commB (l.getD i default) (l.getD j default) = true ∨ (Sw.swB (l.getD i default) (l.getD j default) = true ∧ ∀ o ∈ l, Sw.eqB o = true)
theorem row_of {l : List Op} {es R : List (List Nat)} {j : Nat} (h : rowOk2 l es R j = true) : Row l es R j := by
  unfold rowOk2 at h
  simp only [Bool.and_eq_true, List.all_eq_true, decide_eq_true_eq, Bool.or_eq_true, List.contains_eq_mem, List.any_eq_true, List.mem_range] at h
  refine ⟨h.1.1, h.1.2, fun i hi hn => ?_⟩
  rcases h.2 i hi with (h1 | h1) | h1
  · exact absurd h1 hn
  · exact .inl h1
  · exact .inr h1

section drawn
variable {c : Cfg} (hT : tabOk c.T = true) (hm : tmOk c = true) {rec : Task → St → Option Res} (hR : CallSim c rec)
  {l : List Op} {qs : Array Oper} {nt : Nat}

theorem opsOk_get {c : Cfg} {all : Array Oper} {nt : Nat} : ∀ {l : List Op} {m : List Oper} {j : Nat} {q : Oper}, opsOk c all nt l m = true → m[j]? = some q → opOk1 c all nt (l.getD j default) q = true
  | [], [], j, q, _, h => by simp at h
  | o :: l, p :: m, 0, q, hk, h => by
    simp only [opsOk, Bool.and_eq_true] at hk
    simp only [List.getElem?_cons_zero, Option.some.injEq] at h
    subst h
    exact hk.1
  | o :: l, p :: m, j + 1, q, hk, h => by
    simp only [opsOk, Bool.and_eq_true] at hk
    simp only [List.getElem?_cons_succ] at h
    have := opsOk_get hk.2 h
    simpa using this
  | [], _ :: _, _, _, hk, _ => by cases hk
  | _ :: _, [], _, _, hk, _ => by cases hk

theorem reach_done {l : List Op} {es R : List (List Nat)} {n : Nat} (hrow : ∀ j, j < n → Row l es R j) {rem : List Nat} (hcl : ∀ j, j < n → j ∉ rem → ∀ d ∈ es.getD j [], d ∉ rem) :
    ∀ j, j < n → (∀ d ∈ es.getD j [], d ∉ rem) → ∀ i ∈ R.getD j [], i ∉ rem := by
  intro j
  induction j using Nat.strongRecOn with
  | _ j ih =>
    intro hj hd i hi
    rcases (hrow j hj).chain i hi with h | ⟨d, h1, h2⟩
    · exact hd i h
    · have hdj := (hrow j hj).back d h1
      exact ih d hdj (by omega) (hcl d (by omega) (hd d h1)) i h2

include hT hm hR in
theorem any_sim {base B0 : Nat} {Q : Exit → Act → World → Prop} (hok : opsOk c qs nt l qs.toList = true) (hord : orderOk l qs.toList = true) : ∀ (fuel : Nat) (rem : List Nat) (listed : Array Bool) {B : BM} {ρ ρ' : Env} {s s' : St} {a : Act} {w : World},
    rem.length ≤ fuel → rem.Pairwise (· < ·) → (∀ i ∈ rem, i < qs.size) → listed.size = qs.size → (∀ i, listed.getD i true = false ↔ i ∈ rem) → (∀ j, j < qs.size → j ∉ rem → ∀ d ∈ edgesOf (qs.getD j default), d ∉ rem) →
    Sim c B0 base B ρ s nt a w → evl rec base (rem.map fun i => l.getD i default) (ρ, s) = some (ρ', s') → (∀ a' w' B', Aft c B0 base B s w a nt ρ' s' B' a' w' → Q .normal a' w') → wpAny c.P .any qs Q fuel listed a w := by
  simp only [orderOk, Bool.and_eq_true, decide_eq_true_eq, List.all_eq_true, List.mem_range] at hord
  obtain ⟨hlen, hrows⟩ := hord
  have hlen' : l.length = qs.size := by simpa using hlen
  have hrow : ∀ j, j < qs.size → Row l (qs.toList.map edgesOf) (mkR qs.toList []) j := fun j hj => row_of (hrows j (by omega))
  have hes : ∀ j, j < qs.size → (qs.toList.map edgesOf).getD j [] = edgesOf (qs.getD j default) := by
    intro j hj
    simp [List.getD_eq_getElem?_getD, Array.getD_eq_getD_getElem?, hj]
  intro fuel
  induction fuel with
  | zero =>
    intro rem listed B ρ ρ' s s' a w hf _ _ _ hli _ h he hQ
    have hr : rem = [] := by cases rem <;> simp_all
    subst hr
    simp only [List.map_nil, evl, Option.some.injEq, Prod.mk.injEq] at he
    obtain ⟨rfl, rfl⟩ := he
    refine ⟨?_, hQ a w B ⟨rfl, h.er, .refl h.sr, h.nt⟩⟩
    apply List.eq_nil_iff_forall_not_mem.2
    intro i hi
    have := (hli i).1 (mem_ready.1 hi).1
    cases this
  | succ fuel ih =>
    intro rem listed B ρ ρ' s s' a w hf hs hlt hsz hli hcl h he hQ
    have hli' : ∀ i, listed.getD i false = true → i ∉ rem := by
      intro i hi hm
      have h1 := (hli i).2 hm
      simp only [Array.getD_eq_getD_getElem?] at hi h1
      cases hx : listed[i]? with
      | none => rw [hx] at hi; cases hi
      | some b => rw [hx] at hi h1; simp only [Option.getD_some] at hi h1; rw [hi] at h1; cases h1
    have hli2 : ∀ i, i < qs.size → i ∉ rem → listed.getD i false = true := by
      intro i hi hn
      have h1 : ¬ listed.getD i true = false := fun e => hn ((hli i).1 e)
      simp only [Array.getD_eq_getD_getElem?] at h1 ⊢
      rw [Array.getElem?_eq_getElem (by omega)] at h1 ⊢
      simpa using h1
    refine ⟨fun hnil => ?_, fun j hj => ?_⟩
    · cases rem with
      | nil =>
        simp only [List.map_nil, evl, Option.some.injEq, Prod.mk.injEq] at he
        obtain ⟨rfl, rfl⟩ := he
        exact hQ a w B ⟨rfl, h.er, .refl h.sr, h.nt⟩
      | cons i rest =>
        exfalso
        have hi := hlt i List.mem_cons_self
        have : i ∈ Region.ready .any qs listed := by
          refine mem_ready.2 ⟨(hli i).2 List.mem_cons_self, qs[i], by simp [hi], fun e he1 hb => hli2 _ ?_ ?_⟩
          · have := (hrow i hi).back e.on (by rw [hes i hi]; exact mem_edges.2 ⟨e, by simpa [hi] using he1, hb, rfl⟩)
            omega
          · have hlt2 := (hrow i hi).back e.on (by rw [hes i hi]; exact mem_edges.2 ⟨e, by simpa [hi] using he1, hb, rfl⟩)
            intro hmem
            rcases List.mem_cons.1 hmem with h1 | h1
            · omega
            · have := (List.pairwise_cons.1 hs).1 _ h1
              omega
        rw [hnil] at this
        cases this
    · obtain ⟨hj1, q, hjq, hj2⟩ := mem_ready.1 hj
      have hjr := (hli j).1 hj1
      have hjn := hlt j hjr
      have hqd : qs.getD j default = q := by simp [Array.getD_eq_getD_getElem?, hjq]
      have hedge : ∀ d ∈ (qs.toList.map edgesOf).getD j [], d ∉ rem := by
        intro d hd
        rw [hes j hjn, hqd] at hd
        obtain ⟨e, h1, h2, h3⟩ := mem_edges.1 hd
        rw [← h3]
        exact hli' _ (hj2 e h1 h2)
      have hrd := reach_done hrow (rem := rem) (fun k hk hkn d hd => hcl k hk hkn d (by rw [← hes k hk]; exact hd)) j hjn hedge
      obtain ⟨l1, l2, hl⟩ := List.append_of_mem hjr
      subst hl
      have hcomm0 : ∀ i ∈ l1, commB (l.getD i default) (l.getD j default) = true ∨ (Sw.swB (l.getD i default) (l.getD j default) = true ∧ ∀ o ∈ l, Sw.eqB o = true) := by
        intro i hi
        have hij : i < j := by
          rw [List.pairwise_append] at hs
          exact hs.2.2 i hi j List.mem_cons_self
        exact (hrow j hjn).com i hij (fun hin => hrd i hin (List.mem_append_left _ hi))
      rw [List.map_append, List.map_cons] at he
      have hcomm : (∀ y ∈ (l1.map fun i => l.getD i default), commB y (l.getD j default) = true) ∨ ((∀ y ∈ (l1.map fun i => l.getD i default), commB y (l.getD j default) = true ∨ Sw.swB y (l.getD j default) = true) ∧ ∀ o ∈ (l1.map fun i => l.getD i default) ++ l.getD j default :: l2.map fun i => l.getD i default, Sw.eqB o = true) := by
        by_cases hall : ∀ o ∈ l, Sw.eqB o = true
        · right
          constructor
          · intro y hy
            obtain ⟨i, hi, rfl⟩ := List.mem_map.1 hy
            exact (hcomm0 i hi).imp id (fun h => h.1)
          · have hget : ∀ i, i ∈ l1 ++ j :: l2 → Sw.eqB (l.getD i default) = true := by
              intro i hi
              have := hlt i hi
              refine hall _ ?_
              rw [List.getD_eq_getElem?_getD, List.getElem?_eq_getElem (by omega), Option.getD_some]
              exact List.getElem_mem _
            intro o ho
            rcases List.mem_append.1 ho with h1 | h1
            · obtain ⟨i, hi, rfl⟩ := List.mem_map.1 h1
              exact hget i (List.mem_append_left _ hi)
            · rcases List.mem_cons.1 h1 with rfl | h1
              · exact hget j (List.mem_append_right _ List.mem_cons_self)
              · obtain ⟨i, hi, rfl⟩ := List.mem_map.1 h1
                exact hget i (List.mem_append_right _ (List.mem_cons_of_mem _ hi))
        · left
          intro y hy
          obtain ⟨i, hi, rfl⟩ := List.mem_map.1 hy
          exact (hcomm0 i hi).resolve_right (fun h => hall h.2)
      obtain ⟨⟨ρ1, s1⟩, ⟨ρ2, s2⟩, e1, e2, e3⟩ := Sw.bubble3 hcomm (Sw.cl_of h.er h.sr) h.hb he
      have hone := one_sim hT hm hR h (all := qs) (Q := Q) (opsOk_get hok (j := j) (by simpa using hjq)) e1 (K := wpAny c.P .any qs Q fuel (listed.setIfInBounds j true)) (fun a' w' B' ha => by
        refine ih (l1 ++ l2) (listed.setIfInBounds j true) ?_ ?_ ?_ ?_ ?_ ?_ (ha.sim h) (by rw [List.map_append]; exact e2) (fun a2 w2 B2 ha2 => by
          obtain ⟨B3, h3⟩ := e3.back h.sr h.hb (ha.trans ha2)
          exact hQ a2 w2 B3 h3)
        · simp only [List.length_append, List.length_cons] at hf ⊢; omega
        · rw [List.pairwise_append] at hs ⊢
          exact ⟨hs.1, (List.pairwise_cons.1 hs.2.1).2, fun x hx y hy => hs.2.2 x hx y (List.mem_cons_of_mem _ hy)⟩
        · intro i hi
          refine hlt i ?_
          rcases List.mem_append.1 hi with h1 | h1
          · exact List.mem_append_left _ h1
          · exact List.mem_append_right _ (List.mem_cons_of_mem _ h1)
        · simpa using hsz
        · intro i
          by_cases hij : j = i
          · subst hij
            constructor
            · intro hx
              simp [Array.getD_eq_getD_getElem?, show j < listed.size by omega] at hx
            · intro hx
              exfalso
              rw [List.pairwise_append] at hs
              rcases List.mem_append.1 hx with h1 | h1
              · have := hs.2.2 j h1 j List.mem_cons_self; omega
              · have := (List.pairwise_cons.1 hs.2.1).1 j h1; omega
          · rw [getD_set_ne true hij, hli i, List.mem_append, List.mem_append, List.mem_cons]
            constructor
            · rintro (h1 | h1 | h1)
              · exact .inl h1
              · exact absurd h1.symm hij
              · exact .inr h1
            · rintro (h1 | h1)
              · exact .inl h1
              · exact .inr (.inr h1)
        · intro k hk hkn d hd hdm
          have hdm' : d ∈ l1 ++ j :: l2 := by
            rcases List.mem_append.1 hdm with h1 | h1
            · exact List.mem_append_left _ h1
            · exact List.mem_append_right _ (List.mem_cons_of_mem _ h1)
          by_cases hkj : k = j
          · subst hkj
            exact hedge d (by rw [hes k hk]; exact hd) hdm'
          · refine hcl k hk (fun hkm => hkn ?_) d hd hdm'
            rcases List.mem_append.1 hkm with h1 | h1
            · exact List.mem_append_left _ h1
            · rcases List.mem_cons.1 h1 with h2 | h2
              · exact absurd h2 hkj
              · exact List.mem_append_right _ h2)
      unfold wpOp
      rw [hjq]
      exact hone

include hT hm hR in
theorem drawn_sim {base B0 id : Nat} {Q : Exit → Act → World → Prop} (hP : c.P.follows .mixedOrders = true) (hok : opsOk c qs nt l qs.toList = true) (hord : orderOk l qs.toList = true) {B : BM} {ρ ρ' : Env} {s s' : St} {a : Act} {w : World}
    (h : Sim c B0 base B ρ s nt a w) (he : evl rec base l (ρ, s) = some (ρ', s')) (hQ : ∀ a' w' B', Aft c B0 base B s w a nt ρ' s' B' a' w' → Q .normal a' w') : (Code.region id qs true).wp c.P Q a w := by
  refine wp_region_any hP ?_
  have hlen : l.length = qs.size := by
    simp only [orderOk, Bool.and_eq_true, decide_eq_true_eq] at hord
    simpa using hord.1
  have hd := Stp.drawn (base := base) h.sr (w.drawn + 1)
  have hmap : ((List.range qs.size).map fun i => l.getD i default) = l := by
    rw [← hlen]
    apply List.ext_getElem?
    intro i
    simp only [List.getElem?_map]
    by_cases hi : i < l.length
    · simp [List.getD_eq_getElem?_getD, hi]
    · rw [List.getElem?_eq_none (by simpa using hi), List.getElem?_eq_none (by omega)]; rfl
  refine any_sim hT hm hR hok hord qs.size (List.range qs.size) (Array.replicate qs.size false) (by simp) List.pairwise_lt_range (fun i hi => List.mem_range.1 hi) (by simp) (fun i => ?_) (fun j hj hn => absurd (List.mem_range.2 hj) hn) (B := B) (ρ := ρ) (s := s)
    ⟨h.er, h.gr, hd.sr, h.hb, h.h0, h.lv, h.nt⟩ (by rw [hmap]; exact he) (fun a' w' B' ha => hQ a' w' B' ⟨ha.df, ha.er, hd.trans ha.st, ha.nt⟩)
  rw [List.mem_range]
  by_cases hi : i < qs.size
  · simp [Array.getD_eq_getD_getElem?, hi]
  · simp [Array.getD_eq_getD_getElem?, hi]
end drawn
end Go.Ab
