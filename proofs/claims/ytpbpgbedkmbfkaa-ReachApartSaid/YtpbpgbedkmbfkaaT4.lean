/-
  YtpbpgbedkmbfkaaT4: what functions of the program compute (ReachJ, ReachK, ReachL, ReachM, ReachN).
-/
import Derived.Test.YtpbpgbedkmbfkaaT3
import Derived.Test.YtpbpgbedkmbfkaaAbE
set_option maxRecDepth 100000
namespace Go.Proofs.Ytpbpgbedkmbfkaa
open Go.Ab

/-- The first of some of which it holds. -/
theorem first_of {α : Type} {l : List α} {p : α → Bool} (d : α) (h : l.any p = true) : ∃ q, q < l.length ∧ p (l.getD q d) = true ∧ ∀ j, j < q → p (l.getD j d) = false := by
  induction l with
  | nil => simp at h
  | cons x l ih =>
    by_cases hx : p x = true
    · exact ⟨0, by simp, by simpa using hx, fun j hj => by omega⟩
    · have hx' : p x = false := by simpa using hx
      simp only [List.any_cons, hx', Bool.false_or] at h
      obtain ⟨q, h1, h2, h3⟩ := ih h
      refine ⟨q + 1, by simp; omega, by simpa using h2, fun j hj => ?_⟩
      cases j with
      | zero => simpa using hx'
      | succ j => simpa using h3 j (by omega)
theorem index_int {s : St} {v : V} {l : List Int} (hmax : l.length ≤ 1000) (h : RS s 10 v (l.map (V.int .i64))) {k : Nat} {caps : List V} (hcl : V.locLts s.loc.length caps = true) {p : Int → Bool} (hp : ∀ x ∈ l, rf D k ((V.int .i64) x :: caps) s = some (.bool (p x), s)) :
    ∃ z : Int, (0 ≤ z ↔ l.any p = true) ∧ rf D f_slices_IndexFunc_int [v, .fn k caps] s = some (.int .i64 z, s) := by
  have hlt := h.locLt
  have hs := h.slen
  rw [List.length_map] at hs
  have step : ∀ i, i < l.length → p (l.getD i 0) = false → obind (rc D s.loc.length b_slices_IndexFunc_int_0 (restrict [0, 1, 7, 8] [(0, v), (1, .fn k caps), (7, .int .i64 (l.length : Nat)), (8, .int .i64 i)]) s) (again D s.loc.length s.loc.length [0, 1, 7, 8] b_slices_IndexFunc_int_0) =
      rc D s.loc.length (.loop [0, 1, 7, 8] b_slices_IndexFunc_int_0) [(0, v), (1, .fn k caps), (7, .int .i64 (l.length : Nat)), (8, .int .i64 (i + 1 : Nat))] s := by
    intro i hi hpi
    have d1 : (i : Int) < (l.length : Nat) := by omega
    have d4 : IntKind.i64.wrap ((i : Int) + 1) = (i : Int) + 1 := i64_id (by omega) (by omega)
    have hg := get_map (f := (V.int .i64)) hi 0
    have hc := hp _ (getD_mem hi 0)
    rw [hpi] at hc
    have q1 := h.sadq hg (k := .i64)
    have q2 := h.ldq hg (t := 10) (q := [])
    generalize (V.int .i64) (l.getD i 0) = x at *
    simp only [go_sem, b_slices_IndexFunc_int_0, d1, q1, q2, hc, d4, hlt, hcl]
    rfl
  by_cases hany : l.any p = true
  · obtain ⟨q, hq, hpq, hbef⟩ := first_of 0 hany
    refine ⟨q, ⟨fun _ => hany, fun _ => by omega⟩, ?_⟩
    have loop : rc D s.loc.length (.loop [0, 1, 7, 8] b_slices_IndexFunc_int_0) [(0, v), (1, .fn k caps), (7, .int .i64 (l.length : Nat)), (8, .int .i64 0)] s = some (.ret, [(4, .int .i64 q)], s) := by
      refine loop_runs (fun x : Nat => [(0, v), (1, .fn k caps), (7, .int .i64 (l.length : Nat)), (8, .int .i64 x)]) (fun _ => s) (fun _ => _) (fun x => q - x) (fun x => x ≤ q) 0 ?_ (Nat.zero_le _) rfl rfl
      intro i hi
      by_cases c : i < q
      · exact .inl ⟨i + 1, by omega, by omega, rfl, step i (by omega) (hbef i c)⟩
      · right
        have : i = q := by omega
        subst this
        have d1 : (i : Int) < (l.length : Nat) := by omega
        have hg := get_map (f := (V.int .i64)) hq 0
        have hc := hp _ (getD_mem hq 0)
        rw [hpq] at hc
        have q1 := h.sadq hg (k := .i64)
        have q2 := h.ldq hg (t := 10) (q := [])
        generalize (V.int .i64) (l.getD i 0) = x at *
        simp only [go_sem, b_slices_IndexFunc_int_0, d1, q1, q2, hc]
    rw [rf_o D_slices_IndexFunc_int rfl]
    simp only [go_sem, hs, loop]
  · have hno : ∀ x ∈ l, p x = false := by
      intro x hx
      cases e : p x
      · rfl
      · exact absurd (List.any_eq_true.2 ⟨x, hx, e⟩) hany
    refine ⟨-1, ⟨fun h => by omega, fun h => absurd h hany⟩, ?_⟩
    have loop : rc D s.loc.length (.loop [0, 1, 7, 8] b_slices_IndexFunc_int_0) [(0, v), (1, .fn k caps), (7, .int .i64 (l.length : Nat)), (8, .int .i64 0)] s = some (.exit 0, [(0, v), (1, .fn k caps), (7, .int .i64 (l.length : Nat)), (8, .int .i64 (l.length : Nat)), (9, .bool false)], s) := by
      refine loop_runs (fun x : Nat => [(0, v), (1, .fn k caps), (7, .int .i64 (l.length : Nat)), (8, .int .i64 x)]) (fun _ => s) (fun _ => _) (fun x => l.length - x) (fun x => x ≤ l.length) 0 ?_ (Nat.zero_le _) rfl rfl
      intro i hi
      by_cases c : i < l.length
      · exact .inl ⟨i + 1, by omega, by omega, rfl, step i c (hno _ (getD_mem c 0))⟩
      · right
        have : i = l.length := by omega
        subst this
        have d1 : ¬ ((l.length : Nat) : Int) < (l.length : Nat) := by omega
        simp only [go_sem, b_slices_IndexFunc_int_0, d1]
    rw [rf_o D_slices_IndexFunc_int rfl]
    simp only [go_sem, hs, loop]
theorem contains_int {s : St} {v : V} {l : List Int} (hmax : l.length ≤ 1000) (h : RS s 10 v (l.map (V.int .i64))) {k : Nat} {caps : List V} (hcl : V.locLts s.loc.length caps = true) {p : Int → Bool} (hp : ∀ x ∈ l, rf D k ((V.int .i64) x :: caps) s = some (.bool (p x), s)) :
    rf D f_slices_ContainsFunc_int [v, .fn k caps] s = some (.bool (l.any p), s) := by
  obtain ⟨z, hz, hi⟩ := index_int hmax h hcl hp
  rw [rf_o D_slices_ContainsFunc_int rfl]
  cases ha : l.any p
  · have hz' : ¬ 0 ≤ z := fun e => by rw [hz.1 e] at ha; cases ha
    simp only [go_sem, hi, hz']
  · have hz' := hz.2 ha
    simp only [go_sem, hi, hz']
theorem index_uint64 {s : St} {v : V} {l : List Int} (hmax : l.length ≤ 1000) (h : RS s 18 v (l.map (V.int .u64))) {k : Nat} {caps : List V} (hcl : V.locLts s.loc.length caps = true) {p : Int → Bool} (hp : ∀ x ∈ l, rf D k ((V.int .u64) x :: caps) s = some (.bool (p x), s)) :
    ∃ z : Int, (0 ≤ z ↔ l.any p = true) ∧ rf D f_slices_IndexFunc_uint64 [v, .fn k caps] s = some (.int .i64 z, s) := by
  have hlt := h.locLt
  have hs := h.slen
  rw [List.length_map] at hs
  have step : ∀ i, i < l.length → p (l.getD i 0) = false → obind (rc D s.loc.length b_slices_IndexFunc_uint64_0 (restrict [0, 1, 7, 8] [(0, v), (1, .fn k caps), (7, .int .i64 (l.length : Nat)), (8, .int .i64 i)]) s) (again D s.loc.length s.loc.length [0, 1, 7, 8] b_slices_IndexFunc_uint64_0) =
      rc D s.loc.length (.loop [0, 1, 7, 8] b_slices_IndexFunc_uint64_0) [(0, v), (1, .fn k caps), (7, .int .i64 (l.length : Nat)), (8, .int .i64 (i + 1 : Nat))] s := by
    intro i hi hpi
    have d1 : (i : Int) < (l.length : Nat) := by omega
    have d4 : IntKind.i64.wrap ((i : Int) + 1) = (i : Int) + 1 := i64_id (by omega) (by omega)
    have hg := get_map (f := (V.int .u64)) hi 0
    have hc := hp _ (getD_mem hi 0)
    rw [hpi] at hc
    have q1 := h.sadq hg (k := .i64)
    have q2 := h.ldq hg (t := 18) (q := [])
    generalize (V.int .u64) (l.getD i 0) = x at *
    simp only [go_sem, b_slices_IndexFunc_uint64_0, d1, q1, q2, hc, d4, hlt, hcl]
    rfl
  by_cases hany : l.any p = true
  · obtain ⟨q, hq, hpq, hbef⟩ := first_of 0 hany
    refine ⟨q, ⟨fun _ => hany, fun _ => by omega⟩, ?_⟩
    have loop : rc D s.loc.length (.loop [0, 1, 7, 8] b_slices_IndexFunc_uint64_0) [(0, v), (1, .fn k caps), (7, .int .i64 (l.length : Nat)), (8, .int .i64 0)] s = some (.ret, [(4, .int .i64 q)], s) := by
      refine loop_runs (fun x : Nat => [(0, v), (1, .fn k caps), (7, .int .i64 (l.length : Nat)), (8, .int .i64 x)]) (fun _ => s) (fun _ => _) (fun x => q - x) (fun x => x ≤ q) 0 ?_ (Nat.zero_le _) rfl rfl
      intro i hi
      by_cases c : i < q
      · exact .inl ⟨i + 1, by omega, by omega, rfl, step i (by omega) (hbef i c)⟩
      · right
        have : i = q := by omega
        subst this
        have d1 : (i : Int) < (l.length : Nat) := by omega
        have hg := get_map (f := (V.int .u64)) hq 0
        have hc := hp _ (getD_mem hq 0)
        rw [hpq] at hc
        have q1 := h.sadq hg (k := .i64)
        have q2 := h.ldq hg (t := 18) (q := [])
        generalize (V.int .u64) (l.getD i 0) = x at *
        simp only [go_sem, b_slices_IndexFunc_uint64_0, d1, q1, q2, hc]
    rw [rf_o D_slices_IndexFunc_uint64 rfl]
    simp only [go_sem, hs, loop]
  · have hno : ∀ x ∈ l, p x = false := by
      intro x hx
      cases e : p x
      · rfl
      · exact absurd (List.any_eq_true.2 ⟨x, hx, e⟩) hany
    refine ⟨-1, ⟨fun h => by omega, fun h => absurd h hany⟩, ?_⟩
    have loop : rc D s.loc.length (.loop [0, 1, 7, 8] b_slices_IndexFunc_uint64_0) [(0, v), (1, .fn k caps), (7, .int .i64 (l.length : Nat)), (8, .int .i64 0)] s = some (.exit 0, [(0, v), (1, .fn k caps), (7, .int .i64 (l.length : Nat)), (8, .int .i64 (l.length : Nat)), (9, .bool false)], s) := by
      refine loop_runs (fun x : Nat => [(0, v), (1, .fn k caps), (7, .int .i64 (l.length : Nat)), (8, .int .i64 x)]) (fun _ => s) (fun _ => _) (fun x => l.length - x) (fun x => x ≤ l.length) 0 ?_ (Nat.zero_le _) rfl rfl
      intro i hi
      by_cases c : i < l.length
      · exact .inl ⟨i + 1, by omega, by omega, rfl, step i c (hno _ (getD_mem c 0))⟩
      · right
        have : i = l.length := by omega
        subst this
        have d1 : ¬ ((l.length : Nat) : Int) < (l.length : Nat) := by omega
        simp only [go_sem, b_slices_IndexFunc_uint64_0, d1]
    rw [rf_o D_slices_IndexFunc_uint64 rfl]
    simp only [go_sem, hs, loop]
theorem contains_uint64 {s : St} {v : V} {l : List Int} (hmax : l.length ≤ 1000) (h : RS s 18 v (l.map (V.int .u64))) {k : Nat} {caps : List V} (hcl : V.locLts s.loc.length caps = true) {p : Int → Bool} (hp : ∀ x ∈ l, rf D k ((V.int .u64) x :: caps) s = some (.bool (p x), s)) :
    rf D f_slices_ContainsFunc_uint64 [v, .fn k caps] s = some (.bool (l.any p), s) := by
  obtain ⟨z, hz, hi⟩ := index_uint64 hmax h hcl hp
  rw [rf_o D_slices_ContainsFunc_uint64 rfl]
  cases ha : l.any p
  · have hz' : ¬ 0 ≤ z := fun e => by rw [hz.1 e] at ha; cases ha
    simp only [go_sem, hi, hz']
  · have hz' := hz.2 ha
    simp only [go_sem, hi, hz']
theorem index_api_Object {s : St} {v : V} {l : List Obj} (hmax : l.length ≤ 1000) (h : RS s 26 v (l.map Obj.v)) {k : Nat} {caps : List V} (hcl : V.locLts s.loc.length caps = true) {p : Obj → Bool} (hp : ∀ x ∈ l, rf D k (Obj.v x :: caps) s = some (.bool (p x), s)) :
    ∃ z : Int, (0 ≤ z ↔ l.any p = true) ∧ rf D f_slices_IndexFunc_api_Object [v, .fn k caps] s = some (.int .i64 z, s) := by
  have hlt := h.locLt
  have hs := h.slen
  rw [List.length_map] at hs
  have step : ∀ i, i < l.length → p (l.getD i noObj) = false → obind (rc D s.loc.length b_slices_IndexFunc_api_Object_0 (restrict [0, 1, 7, 8] [(0, v), (1, .fn k caps), (7, .int .i64 (l.length : Nat)), (8, .int .i64 i)]) s) (again D s.loc.length s.loc.length [0, 1, 7, 8] b_slices_IndexFunc_api_Object_0) =
      rc D s.loc.length (.loop [0, 1, 7, 8] b_slices_IndexFunc_api_Object_0) [(0, v), (1, .fn k caps), (7, .int .i64 (l.length : Nat)), (8, .int .i64 (i + 1 : Nat))] s := by
    intro i hi hpi
    have d1 : (i : Int) < (l.length : Nat) := by omega
    have d4 : IntKind.i64.wrap ((i : Int) + 1) = (i : Int) + 1 := i64_id (by omega) (by omega)
    have hg := get_map (f := Obj.v) hi noObj
    have hc := hp _ (getD_mem hi noObj)
    rw [hpi] at hc
    have q1 := h.sadq hg (k := .i64)
    have q2 := h.ldq hg (t := 26) (q := [])
    generalize Obj.v (l.getD i noObj) = x at *
    simp only [go_sem, b_slices_IndexFunc_api_Object_0, d1, q1, q2, hc, d4, hlt, hcl]
    rfl
  by_cases hany : l.any p = true
  · obtain ⟨q, hq, hpq, hbef⟩ := first_of noObj hany
    refine ⟨q, ⟨fun _ => hany, fun _ => by omega⟩, ?_⟩
    have loop : rc D s.loc.length (.loop [0, 1, 7, 8] b_slices_IndexFunc_api_Object_0) [(0, v), (1, .fn k caps), (7, .int .i64 (l.length : Nat)), (8, .int .i64 0)] s = some (.ret, [(4, .int .i64 q)], s) := by
      refine loop_runs (fun x : Nat => [(0, v), (1, .fn k caps), (7, .int .i64 (l.length : Nat)), (8, .int .i64 x)]) (fun _ => s) (fun _ => _) (fun x => q - x) (fun x => x ≤ q) 0 ?_ (Nat.zero_le _) rfl rfl
      intro i hi
      by_cases c : i < q
      · exact .inl ⟨i + 1, by omega, by omega, rfl, step i (by omega) (hbef i c)⟩
      · right
        have : i = q := by omega
        subst this
        have d1 : (i : Int) < (l.length : Nat) := by omega
        have hg := get_map (f := Obj.v) hq noObj
        have hc := hp _ (getD_mem hq noObj)
        rw [hpq] at hc
        have q1 := h.sadq hg (k := .i64)
        have q2 := h.ldq hg (t := 26) (q := [])
        generalize Obj.v (l.getD i noObj) = x at *
        simp only [go_sem, b_slices_IndexFunc_api_Object_0, d1, q1, q2, hc]
    rw [rf_o D_slices_IndexFunc_api_Object rfl]
    simp only [go_sem, hs, loop]
  · have hno : ∀ x ∈ l, p x = false := by
      intro x hx
      cases e : p x
      · rfl
      · exact absurd (List.any_eq_true.2 ⟨x, hx, e⟩) hany
    refine ⟨-1, ⟨fun h => by omega, fun h => absurd h hany⟩, ?_⟩
    have loop : rc D s.loc.length (.loop [0, 1, 7, 8] b_slices_IndexFunc_api_Object_0) [(0, v), (1, .fn k caps), (7, .int .i64 (l.length : Nat)), (8, .int .i64 0)] s = some (.exit 0, [(0, v), (1, .fn k caps), (7, .int .i64 (l.length : Nat)), (8, .int .i64 (l.length : Nat)), (9, .bool false)], s) := by
      refine loop_runs (fun x : Nat => [(0, v), (1, .fn k caps), (7, .int .i64 (l.length : Nat)), (8, .int .i64 x)]) (fun _ => s) (fun _ => _) (fun x => l.length - x) (fun x => x ≤ l.length) 0 ?_ (Nat.zero_le _) rfl rfl
      intro i hi
      by_cases c : i < l.length
      · exact .inl ⟨i + 1, by omega, by omega, rfl, step i c (hno _ (getD_mem c noObj))⟩
      · right
        have : i = l.length := by omega
        subst this
        have d1 : ¬ ((l.length : Nat) : Int) < (l.length : Nat) := by omega
        simp only [go_sem, b_slices_IndexFunc_api_Object_0, d1]
    rw [rf_o D_slices_IndexFunc_api_Object rfl]
    simp only [go_sem, hs, loop]
theorem contains_api_Object {s : St} {v : V} {l : List Obj} (hmax : l.length ≤ 1000) (h : RS s 26 v (l.map Obj.v)) {k : Nat} {caps : List V} (hcl : V.locLts s.loc.length caps = true) {p : Obj → Bool} (hp : ∀ x ∈ l, rf D k (Obj.v x :: caps) s = some (.bool (p x), s)) :
    rf D f_slices_ContainsFunc_api_Object [v, .fn k caps] s = some (.bool (l.any p), s) := by
  obtain ⟨z, hz, hi⟩ := index_api_Object hmax h hcl hp
  rw [rf_o D_slices_ContainsFunc_api_Object rfl]
  cases ha : l.any p
  · have hz' : ¬ 0 ≤ z := fun e => by rw [hz.1 e] at ha; cases ha
    simp only [go_sem, hi, hz']
  · have hz' := hz.2 ha
    simp only [go_sem, hi, hz']
end Go.Proofs.Ytpbpgbedkmbfkaa
namespace Go.Proofs.Ytpbpgbedkmbfkaa
open Go.Ab

/-- Two threads that meet: at the first n objects. -/
def meetN (x y : Nat → Bool) (i k : Int) (n : Nat) : Bool := (x n && (y n || decide ((n : Int) = k))) || (y n && decide ((n : Int) = i))
def meets (x y : Nat → Bool) (i k : Int) : Bool := (List.range 49).any (meetN x y i k)
theorem meets_comm (x y : Nat → Bool) (i k : Int) : meets x y i k = meets y x k i := by
  unfold meets
  congr 1
  funext n
  unfold meetN
  cases x n <;> cases y n <;> simp
theorem meets_some {x y : Nat → Bool} {i k : Int} (h : meets x y i k = true) : ∃ q, q < 49 ∧ meetN x y i k q = true ∧ ∀ j, j < q → meetN x y i k j = false := by
  obtain ⟨q, h1, h2, h3⟩ := first_of 0 h
  simp only [List.length_range] at h1
  refine ⟨q, h1, ?_, fun j hj => ?_⟩
  · simpa [List.getD_eq_getElem?_getD, h1] using h2
  · have := h3 j hj
    simpa [List.getD_eq_getElem?_getD, show j < 49 by omega] using this
theorem meets_none {x y : Nat → Bool} {i k : Int} (h : meets x y i k = false) : ∀ j, j < 49 → meetN x y i k j = false := by
  intro j hj
  cases e : meetN x y i k j
  · rfl
  · exact absurd (List.any_eq_true.2 ⟨j, List.mem_range.2 hj, e⟩) (by unfold meets at h; rw [h]; simp)
section apart
variable {W : List Obj} {F : Int → Nat → Bool} (hF : ∀ id s, rf D f_reach_Of [worldV W, .int .i64 id] s = some (.agg 32 (bt (F id)), s))
/-- One round of the inmost loop. -/
theorem apart_step {s : St} {w xl il n : Nat} {x y : Nat → Bool} {i k : Int} (hx : s.loc[xl]? = some (.rw (.agg 32 (bt x)))) (hi : s.loc[il]? = some (.rw (.int .i64 i))) (hlx : xl < s.loc.length) (hli : il < s.loc.length) (hn : n < 49) :
    ∀ r, r = meetN x y i k n →
    obind (rc D s.loc.length b_reach_Apart_1_1_0 (restrict [0, 2, 3, 6, 11] [(0, .int .i64 k), (2, .ptr (.loc xl) [] 32), (3, .ptr (.loc il) [] 10), (6, .ptr (.loc s.loc.length) [] 32), (11, .int .i64 n)]) ⟨s.loc ++ [.rw (.agg 32 (bt y))], s.hp⟩) (again D s.loc.length (s.loc.length + 1) [0, 2, 3, 6, 11] b_reach_Apart_1_1_0) =
      if r then some (.ret, [(5, .bool true)], ⟨s.loc ++ [.rw (.agg 32 (bt y))], s.hp⟩) else
      rc D s.loc.length (.loop [0, 2, 3, 6, 11] b_reach_Apart_1_1_0) [(0, .int .i64 k), (2, .ptr (.loc xl) [] 32), (3, .ptr (.loc il) [] 10), (6, .ptr (.loc s.loc.length) [] 32), (11, .int .i64 (n + 1 : Nat))] ⟨s.loc ++ [.rw (.agg 32 (bt y))], s.hp⟩ := by
  intro r hr
  have d1 : (n : Int) < 49 := by omega
  have d2 : (0 : Int) ≤ n := by omega
  have d4 : IntKind.i64.wrap ((n : Int) + 1) = (n : Int) + 1 := i64_id (by omega) (by omega)
  have gx := bt_get (g := x) hn
  have gy := bt_get (g := y) hn
  have hx' : (s.loc ++ [Blk.rw (V.agg 32 (bt y))])[xl]? = some (.rw (.agg 32 (bt x))) := by rw [List.getElem?_append_left hlx]; exact hx
  have hi' : (s.loc ++ [Blk.rw (V.agg 32 (bt y))])[il]? = some (.rw (.int .i64 i)) := by rw [List.getElem?_append_left hli]; exact hi
  have m1 : xl < s.loc.length + 1 := by omega
  have m2 : il < s.loc.length + 1 := by omega
  have m3 : s.loc.length < s.loc.length + 1 := by omega
  have hy' : (s.loc ++ [Blk.rw (V.agg 32 (bt y))])[s.loc.length]? = some (.rw (.agg 32 (bt y))) := by simp
  subst hr
  unfold meetN
  generalize bt x = X at *
  generalize bt y = Y at *
  generalize x n = xn at *
  generalize y n = yn at *
  cases xn <;> cases yn
  · simp only [Bool.false_and, Bool.or_self, Bool.false_eq_true, if_false]
    simp only [go_sem, b_reach_Apart_1_1_0, d1, d2, d4, Int.toNat_natCast, hx', hi', gx, gy, m1, m2, m3]
    rfl
  · by_cases g : (n : Int) = i
    · subst g
      rw [decide_eq_true rfl]
      simp only [Bool.false_and, Bool.true_and, Bool.false_or, if_true]
      simp only [go_sem, b_reach_Apart_1_1_0, d1, d2, d4, Int.toNat_natCast, hx', hi', gx, gy, m1, m2, m3]
    · rw [decide_eq_false g]
      simp only [Bool.false_and, Bool.true_and, Bool.false_or, Bool.false_eq_true, if_false]
      simp only [go_sem, b_reach_Apart_1_1_0, d1, d2, d4, Int.toNat_natCast, hx', hi', gx, gy, m1, m2, m3, g]
      rfl
  · by_cases g : (n : Int) = k
    · subst g
      rw [decide_eq_true rfl]
      simp only [Bool.false_and, Bool.true_and, Bool.false_or, Bool.or_false, if_true]
      simp only [go_sem, b_reach_Apart_1_1_0, d1, d2, d4, Int.toNat_natCast, hx', hi', gx, gy, m1, m2, m3]
    · rw [decide_eq_false g]
      simp only [Bool.false_and, Bool.true_and, Bool.false_or, Bool.false_eq_true, if_false]
      simp only [go_sem, b_reach_Apart_1_1_0, d1, d2, d4, Int.toNat_natCast, hx', hi', gx, gy, m1, m2, m3, g]
      rfl
  · simp only [Bool.true_and, Bool.true_or, if_true]
    simp only [go_sem, b_reach_Apart_1_1_0, d1, d2, d4, Int.toNat_natCast, hx', hi', gx, gy, m1, m2, m3]
include hF in
theorem rf_Apart11 {s : St} {w xl il : Nat} {x : Nat → Bool} {i k : Int} (hw : s.loc[w]? = some (.rw (worldV W))) (hx : s.loc[xl]? = some (.rw (.agg 32 (bt x)))) (hi : s.loc[il]? = some (.rw (.int .i64 i))) :
    rf D f_reach_Apart_1_1 [.int .i64 k, .ptr (.loc w) [] 30, .ptr (.loc xl) [] 32, .ptr (.loc il) [] 10] s = some (.bool (meets x (F k) i k), s) := by
  have hlx := (List.getElem?_eq_some_iff.1 hx).1
  have hli := (List.getElem?_eq_some_iff.1 hi).1
  have hof := fun s => hF k s
  have hst := fun n hn r hr => apart_step (w := w) (y := F k) (k := k) hx hi hlx hli (n := n) hn r hr
  cases hm : meets x (F k) i k
  · have hno := meets_none hm
    have loop : rc D s.loc.length (.loop [0, 2, 3, 6, 11] b_reach_Apart_1_1_0) [(0, .int .i64 k), (2, .ptr (.loc xl) [] 32), (3, .ptr (.loc il) [] 10), (6, .ptr (.loc s.loc.length) [] 32), (11, .int .i64 0)] ⟨s.loc ++ [.rw (.agg 32 (bt (F k)))], s.hp⟩ =
        some (.exit 0, [(0, .int .i64 k), (2, .ptr (.loc xl) [] 32), (3, .ptr (.loc il) [] 10), (6, .ptr (.loc s.loc.length) [] 32), (11, .int .i64 49), (12, .bool false)], ⟨s.loc ++ [.rw (.agg 32 (bt (F k)))], s.hp⟩) := by
      refine loop_runs (fun n : Nat => [(0, .int .i64 k), (2, .ptr (.loc xl) [] 32), (3, .ptr (.loc il) [] 10), (6, .ptr (.loc s.loc.length) [] 32), (11, .int .i64 n)]) (fun _ => ⟨s.loc ++ [.rw (.agg 32 (bt (F k)))], s.hp⟩) (fun _ => _) (fun n => 49 - n) (fun n => n ≤ 49) 0 ?_ (Nat.zero_le _) rfl rfl
      intro n hn
      by_cases c : n < 49
      · refine .inl ⟨n + 1, by omega, by omega, rfl, ?_⟩
        have := hst n c false (hno n c).symm
        simp only [Bool.false_eq_true, if_false] at this
        simpa only [List.length_append, List.length_cons, List.length_nil, Nat.zero_add] using this
      · right
        have : n = 49 := by omega
        subst this
        simp only [go_sem, b_reach_Apart_1_1_0]
    simp only [worldV] at *
    generalize bt (F k) = TK at *
    rw [rf_o D_reach_Apart_1_1 rfl]
    simp only [go_sem, hw, hof, loop]
  · obtain ⟨q, hq, hmq, hbef⟩ := meets_some hm
    have loop : rc D s.loc.length (.loop [0, 2, 3, 6, 11] b_reach_Apart_1_1_0) [(0, .int .i64 k), (2, .ptr (.loc xl) [] 32), (3, .ptr (.loc il) [] 10), (6, .ptr (.loc s.loc.length) [] 32), (11, .int .i64 0)] ⟨s.loc ++ [.rw (.agg 32 (bt (F k)))], s.hp⟩ =
        some (.ret, [(5, .bool true)], ⟨s.loc ++ [.rw (.agg 32 (bt (F k)))], s.hp⟩) := by
      refine loop_runs (fun n : Nat => [(0, .int .i64 k), (2, .ptr (.loc xl) [] 32), (3, .ptr (.loc il) [] 10), (6, .ptr (.loc s.loc.length) [] 32), (11, .int .i64 n)]) (fun _ => ⟨s.loc ++ [.rw (.agg 32 (bt (F k)))], s.hp⟩) (fun _ => _) (fun n => q - n) (fun n => n ≤ q) 0 ?_ (Nat.zero_le _) rfl rfl
      intro n hn
      by_cases c : n < q
      · refine .inl ⟨n + 1, by omega, by omega, rfl, ?_⟩
        have := hst n (by omega) false (hbef n c).symm
        simp only [Bool.false_eq_true, if_false] at this
        simpa only [List.length_append, List.length_cons, List.length_nil, Nat.zero_add] using this
      · right
        have : n = q := by omega
        subst this
        have := hst n hq true hmq.symm
        simp only [if_true] at this
        simpa only [List.length_append, List.length_cons, List.length_nil, Nat.zero_add] using this
    simp only [worldV] at *
    generalize bt (F k) = TK at *
    rw [rf_o D_reach_Apart_1_1 rfl]
    simp only [go_sem, hw, hof, loop]
include hF in
theorem rf_Apart1 {s : St} {w bl : Nat} {vb : V} {b : List Int} {i : Int} (hw : s.loc[w]? = some (.rw (worldV W))) (hb : s.loc[bl]? = some (.rw vb)) (hr : RS s 10 vb (b.map (V.int .i64))) (hbl : b.length ≤ 1000) :
    rf D f_reach_Apart_1 [.int .i64 i, .ptr (.loc w) [] 30, .ptr (.loc bl) [] 1] s = some (.bool (b.any fun k => meets (F i) (F k) i k), s) := by
  have hlw := (List.getElem?_eq_some_iff.1 hw).1
  have hlb := (List.getElem?_eq_some_iff.1 hb).1
  have hof := fun s => hF i s
  have hw' : (s.loc ++ [Blk.rw (V.int .i64 i), Blk.rw (V.agg 32 (bt (F i)))])[w]? = some (.rw (worldV W)) := by rw [List.getElem?_append_left hlw]; exact hw
  have hw1 : (s.loc ++ [Blk.rw (V.int .i64 i)])[w]? = some (.rw (worldV W)) := by rw [List.getElem?_append_left hlw]; exact hw
  have hb' : (s.loc ++ [Blk.rw (V.int .i64 i), Blk.rw (V.agg 32 (bt (F i)))])[bl]? = some (.rw vb) := by rw [List.getElem?_append_left hlb]; exact hb
  have hr' : RS ⟨s.loc ++ [Blk.rw (V.int .i64 i), Blk.rw (V.agg 32 (bt (F i)))], s.hp⟩ 10 vb (b.map (V.int .i64)) := hr.more ⟨List.prefix_append _ _, List.prefix_rfl⟩
  have hcon := contains_int hbl hr' (k := f_reach_Apart_1_1) (caps := [.ptr (.loc w) [] 30, .ptr (.loc (s.loc.length + 1)) [] 32, .ptr (.loc s.loc.length) [] 10]) (by simp [V.locLts, V.locLt]; omega)
    (p := fun k => meets (F i) (F k) i k) (fun k _ => rf_Apart11 hF (k := k) (i := i) hw' (by simp) (by simp))
  have ht := hr.tag
  simp only [worldV] at *
  generalize (b.any fun k => meets (F i) (F k) i k) = r at *
  generalize bt (F i) = TI at *
  rw [rf_o D_reach_Apart_1 rfl]
  simp only [go_sem, hw1, hof, hb', hcon]
include hF in
theorem rf_Apart {s : St} {va vb : V} {a b : List Int} (ha : RS s 10 va (a.map (V.int .i64))) (hr : RS s 10 vb (b.map (V.int .i64))) (hal : a.length ≤ 1000) (hbl : b.length ≤ 1000) :
    rf D f_reach_Apart [worldV W, va, vb] s = some (.bool (!(a.any fun i => b.any fun k => meets (F i) (F k) i k)), s) := by
  have hm : More s ⟨s.loc ++ [Blk.rw (worldV W), Blk.rw vb], s.hp⟩ := ⟨List.prefix_append _ _, List.prefix_rfl⟩
  have hcon := contains_int hal (ha.more hm) (k := f_reach_Apart_1) (caps := [.ptr (.loc s.loc.length) [] 30, .ptr (.loc (s.loc.length + 1)) [] 1]) (by simp [V.locLts, V.locLt])
    (p := fun i => b.any fun k => meets (F i) (F k) i k) (fun i _ => rf_Apart1 hF (i := i) (by simp) (by simp) (hr.more hm) hbl)
  have hok := hr.ok
  have hlt := hr.locLt
  have ht := hr.tag
  simp only [worldV] at *
  generalize (a.any fun i => b.any fun k => meets (F i) (F k) i k) = r at *
  rw [rf_o D_reach_Apart rfl]
  simp only [go_sem, hok, ht, hlt, hcon]
end apart
end Go.Proofs.Ytpbpgbedkmbfkaa
namespace Go.Proofs.Ytpbpgbedkmbfkaa
open Go.Ab

section rapart
variable {W : List Obj} {F : Int → Nat → Bool} (hF : ∀ id s, rf D f_steadfastref23_Of [worldV W, .int .i64 id] s = some (.agg 32 (bt (F id)), s))
  {s : St} {va vb : V} {a b : List Int} (ha : RS s 10 va (a.map (V.int .i64))) (hb : RS s 10 vb (b.map (V.int .i64)))
abbrev Lc (s : St) (W : List Obj) (X : List Blk) : St := ⟨s.loc ++ (.rw (worldV W) :: X), s.hp⟩
theorem more_lc {X : List Blk} : More s (Lc s W X) := ⟨List.prefix_append _ _, List.prefix_rfl⟩
include ha hb
/-- The inmost loop: two threads. -/
theorem r_inner {i k : Nat} (hi : i < a.length) (hk : k < b.length) (hal : a.length ≤ 1000) (hbl : b.length ≤ 1000) (x y : Nat → Bool) :
    rc D s.loc.length (.loop [1, 2, 3, 7, 8, 9, 10, 11] b_steadfastref23_Apart_2) [(1, va), (2, vb), (3, .ptr (.loc s.loc.length) [] 30), (7, .int .i64 i), (8, .ptr (.loc (s.loc.length + 1)) [] 32), (9, .int .i64 k), (10, .ptr (.loc (s.loc.length + 2)) [] 32), (11, .int .i64 0)] (Lc s W [.rw (.agg 32 (bt x)), .rw (.agg 32 (bt y))]) =
      if meets x y (a.getD i 0) (b.getD k 0) then some (.ret, [(6, .bool false)], Lc s W [.rw (.agg 32 (bt x)), .rw (.agg 32 (bt y))]) else
        some (.exit 4, [(1, va), (2, vb), (3, .ptr (.loc s.loc.length) [] 30), (7, .int .i64 i), (8, .ptr (.loc (s.loc.length + 1)) [] 32), (9, .int .i64 k), (10, .ptr (.loc (s.loc.length + 2)) [] 32), (11, .int .i64 49), (37, .bool false)], Lc s W [.rw (.agg 32 (bt x)), .rw (.agg 32 (bt y))]) := by
  have ha' := ha.more (more_lc (W := W) (X := [.rw (.agg 32 (bt x)), .rw (.agg 32 (bt y))]))
  have hb' := hb.more (more_lc (W := W) (X := [.rw (.agg 32 (bt x)), .rw (.agg 32 (bt y))]))
  have ga := get_map (f := V.int .i64) hi 0
  have gb := get_map (f := V.int .i64) hk 0
  have qa1 := ha'.sadq ga (k := .i64)
  have qa2 := ha'.ldq ga (t := 10) (q := [])
  have qb1 := hb'.sadq gb (k := .i64)
  have qb2 := hb'.ldq gb (t := 10) (q := [])
  have la := locLt_mono (v := va) (show s.loc.length ≤ s.loc.length + 3 by omega) ha.locLt
  have lb := locLt_mono (v := vb) (show s.loc.length ≤ s.loc.length + 3 by omega) hb.locLt
  have m0 : s.loc.length < s.loc.length + 3 := by omega
  have m1 : s.loc.length + 1 < s.loc.length + 3 := by omega
  have m2 : s.loc.length + 2 < s.loc.length + 3 := by omega
  generalize a.getD i 0 = ai at *
  generalize b.getD k 0 = bk at *
  have step : ∀ n, n < 49 → ∀ r, r = meetN x y ai bk n →
      obind (rc D s.loc.length b_steadfastref23_Apart_2 (restrict [1, 2, 3, 7, 8, 9, 10, 11] [(1, va), (2, vb), (3, .ptr (.loc s.loc.length) [] 30), (7, .int .i64 i), (8, .ptr (.loc (s.loc.length + 1)) [] 32), (9, .int .i64 k), (10, .ptr (.loc (s.loc.length + 2)) [] 32), (11, .int .i64 n)]) (Lc s W [.rw (.agg 32 (bt x)), .rw (.agg 32 (bt y))])) (again D s.loc.length (s.loc.length + 3) [1, 2, 3, 7, 8, 9, 10, 11] b_steadfastref23_Apart_2) =
        if r then some (.ret, [(6, .bool false)], Lc s W [.rw (.agg 32 (bt x)), .rw (.agg 32 (bt y))]) else
        rc D s.loc.length (.loop [1, 2, 3, 7, 8, 9, 10, 11] b_steadfastref23_Apart_2) [(1, va), (2, vb), (3, .ptr (.loc s.loc.length) [] 30), (7, .int .i64 i), (8, .ptr (.loc (s.loc.length + 1)) [] 32), (9, .int .i64 k), (10, .ptr (.loc (s.loc.length + 2)) [] 32), (11, .int .i64 (n + 1 : Nat))] (Lc s W [.rw (.agg 32 (bt x)), .rw (.agg 32 (bt y))]) := by
    intro n hn r hr
    have d1 : (n : Int) < 49 := by omega
    have d2 : (0 : Int) ≤ n := by omega
    have d4 : IntKind.i64.wrap ((n : Int) + 1) = (n : Int) + 1 := i64_id (by omega) (by omega)
    have gx := bt_get (g := x) hn
    have gy := bt_get (g := y) hn
    subst hr
    unfold meetN
    simp only [Lc, worldV] at *
    generalize bt x = X at *
    generalize bt y = Y at *
    generalize x n = xn at *
    generalize y n = yn at *
    generalize W.map Obj.v = WV at *
    cases xn <;> cases yn
    · simp only [Bool.false_and, Bool.or_self, Bool.false_eq_true, if_false]
      simp only [go_sem, b_steadfastref23_Apart_2, d1, d2, d4, Int.toNat_natCast, gx, gy, la, lb, m0, m1, m2]
      rfl
    · by_cases g : (n : Int) = ai
      · subst g
        rw [decide_eq_true rfl]
        simp only [Bool.false_and, Bool.true_and, Bool.false_or, if_true]
        simp only [go_sem, b_steadfastref23_Apart_2, d1, d2, d4, Int.toNat_natCast, gx, gy, qa1, qa2]
      · rw [decide_eq_false g]
        simp only [Bool.false_and, Bool.true_and, Bool.false_or, Bool.false_eq_true, if_false]
        simp only [go_sem, b_steadfastref23_Apart_2, d1, d2, d4, Int.toNat_natCast, gx, gy, qa1, qa2, g, la, lb, m0, m1, m2]
        rfl
    · by_cases g : (n : Int) = bk
      · subst g
        rw [decide_eq_true rfl]
        simp only [Bool.false_and, Bool.true_and, Bool.false_or, Bool.or_false, if_true]
        simp only [go_sem, b_steadfastref23_Apart_2, d1, d2, d4, Int.toNat_natCast, gx, gy, qb1, qb2]
      · rw [decide_eq_false g]
        simp only [Bool.false_and, Bool.true_and, Bool.false_or, Bool.false_eq_true, if_false]
        simp only [go_sem, b_steadfastref23_Apart_2, d1, d2, d4, Int.toNat_natCast, gx, gy, qb1, qb2, g, la, lb, m0, m1, m2]
        rfl
    · simp only [Bool.true_and, Bool.true_or, if_true]
      simp only [go_sem, b_steadfastref23_Apart_2, d1, d2, d4, Int.toNat_natCast, gx, gy]
  have hlen : (Lc s W [.rw (.agg 32 (bt x)), .rw (.agg 32 (bt y))]).loc.length = s.loc.length + 3 := by simp [Lc]
  cases hm : meets x y ai bk
  · have hno := meets_none hm
    rw [if_neg (by simp)]
    refine loop_runs (fun n : Nat => [(1, va), (2, vb), (3, .ptr (.loc s.loc.length) [] 30), (7, .int .i64 i), (8, .ptr (.loc (s.loc.length + 1)) [] 32), (9, .int .i64 k), (10, .ptr (.loc (s.loc.length + 2)) [] 32), (11, .int .i64 n)]) (fun _ => Lc s W [.rw (.agg 32 (bt x)), .rw (.agg 32 (bt y))]) (fun _ => _) (fun n => 49 - n) (fun n => n ≤ 49) 0 ?_ (Nat.zero_le _) rfl rfl
    intro n hn
    by_cases c : n < 49
    · refine .inl ⟨n + 1, by omega, by omega, rfl, ?_⟩
      have := step n c false (hno n c).symm
      simp only [Bool.false_eq_true, if_false] at this
      rw [hlen]
      exact this
    · right
      have : n = 49 := by omega
      subst this
      simp only [Lc, worldV] at *
      generalize W.map Obj.v = WV at *
      simp only [go_sem, b_steadfastref23_Apart_2]
  · obtain ⟨q, hq, hmq, hbef⟩ := meets_some hm
    rw [if_pos rfl]
    refine loop_runs (fun n : Nat => [(1, va), (2, vb), (3, .ptr (.loc s.loc.length) [] 30), (7, .int .i64 i), (8, .ptr (.loc (s.loc.length + 1)) [] 32), (9, .int .i64 k), (10, .ptr (.loc (s.loc.length + 2)) [] 32), (11, .int .i64 n)]) (fun _ => Lc s W [.rw (.agg 32 (bt x)), .rw (.agg 32 (bt y))]) (fun _ => _) (fun n => q - n) (fun n => n ≤ q) 0 ?_ (Nat.zero_le _) rfl rfl
    intro n hn
    by_cases c : n < q
    · refine .inl ⟨n + 1, by omega, by omega, rfl, ?_⟩
      have := step n (by omega) false (hbef n c).symm
      simp only [Bool.false_eq_true, if_false] at this
      rw [hlen]
      exact this
    · right
      have : n = q := by omega
      subst this
      have := step n hq true hmq.symm
      simp only [if_true] at this
      rw [hlen]
      exact this
omit ha hb in
theorem flats_bt (g : Nat → Bool) : V.flats (bt g) = true := by rw [← bl_map]; exact flats_bools
include hF
theorem r_mid {i : Nat} (hi : i < a.length) (hal : a.length ≤ 1000) (hbl : b.length ≤ 1000) (x : Nat → Bool) :
    ∃ Y : List Blk, rc D s.loc.length (.loop [1, 2, 3, 7, 8, 9] b_steadfastref23_Apart_1) [(1, va), (2, vb), (3, .ptr (.loc s.loc.length) [] 30), (7, .int .i64 i), (8, .ptr (.loc (s.loc.length + 1)) [] 32), (9, .int .i64 0)] (Lc s W [.rw (.agg 32 (bt x))]) =
      if b.any fun k => meets x (F k) (a.getD i 0) k then some (.ret, [(6, .bool false)], Lc s W (.rw (.agg 32 (bt x)) :: Y)) else
        some (.exit 2, [(1, va), (2, vb), (3, .ptr (.loc s.loc.length) [] 30), (7, .int .i64 i), (8, .ptr (.loc (s.loc.length + 1)) [] 32), (9, .int .i64 (b.length : Nat)), (27, .bool false)], Lc s W [.rw (.agg 32 (bt x))]) := by
  have hb' := hb.more (more_lc (W := W) (X := [.rw (.agg 32 (bt x))]))
  have la := locLt_mono (v := va) (show s.loc.length ≤ s.loc.length + 2 by omega) ha.locLt
  have lb := locLt_mono (v := vb) (show s.loc.length ≤ s.loc.length + 2 by omega) hb.locLt
  have m0 : s.loc.length < s.loc.length + 2 := by omega
  have m1 : s.loc.length + 1 < s.loc.length + 2 := by omega
  have hlen : (Lc s W [.rw (.agg 32 (bt x))]).loc.length = s.loc.length + 2 := by simp [Lc]
  have hs := hb.slen
  rw [List.length_map] at hs
  have step : ∀ k, k < b.length → ∀ r, r = meets x (F (b.getD k 0)) (a.getD i 0) (b.getD k 0) →
      obind (rc D s.loc.length b_steadfastref23_Apart_1 (restrict [1, 2, 3, 7, 8, 9] [(1, va), (2, vb), (3, .ptr (.loc s.loc.length) [] 30), (7, .int .i64 i), (8, .ptr (.loc (s.loc.length + 1)) [] 32), (9, .int .i64 k)]) (Lc s W [.rw (.agg 32 (bt x))])) (again D s.loc.length (s.loc.length + 2) [1, 2, 3, 7, 8, 9] b_steadfastref23_Apart_1) =
        if r then some (.ret, [(6, .bool false)], Lc s W [.rw (.agg 32 (bt x)), .rw (.agg 32 (bt (F (b.getD k 0))))]) else
        rc D s.loc.length (.loop [1, 2, 3, 7, 8, 9] b_steadfastref23_Apart_1) [(1, va), (2, vb), (3, .ptr (.loc s.loc.length) [] 30), (7, .int .i64 i), (8, .ptr (.loc (s.loc.length + 1)) [] 32), (9, .int .i64 (k + 1 : Nat))] (Lc s W [.rw (.agg 32 (bt x))]) := by
    intro k hk r hr
    have hin := r_inner (W := W) ha hb hi hk hal hbl x (F (b.getD k 0))
    rw [← hr] at hin
    have gb := get_map (f := V.int .i64) hk 0
    have qb1 := hb'.sadq gb (k := .i64)
    have qb2 := hb'.ldq gb (t := 10) (q := [])
    have d1 : (k : Int) < (b.length : Nat) := by omega
    have d4 : IntKind.i64.wrap ((k : Int) + 1) = (k : Int) + 1 := i64_id (by omega) (by omega)
    have hof := fun s => hF (b.getD k 0) s
    have hfl := flats_bt (F (b.getD k 0))
    generalize b.getD k 0 = bk at *
    generalize bt (F bk) = TK at *
    simp only [Lc, worldV] at *
    generalize W.map Obj.v = WV at *
    cases r
    · simp only [Bool.false_eq_true, if_false] at hin ⊢
      simp only [go_sem, b_steadfastref23_Apart_1, hs, d1, qb1, qb2, hof, hfl, hin, d4, la, lb, m0, m1]
      rfl
    · simp only [if_true] at hin ⊢
      simp only [go_sem, b_steadfastref23_Apart_1, hs, d1, qb1, qb2, hof, hfl, hin]
  by_cases hany : (b.any fun k => meets x (F k) (a.getD i 0) k) = true
  · obtain ⟨q, hq, hmq, hbef⟩ := first_of 0 hany
    refine ⟨[.rw (.agg 32 (bt (F (b.getD q 0))))], ?_⟩
    rw [if_pos hany]
    refine loop_runs (fun k : Nat => [(1, va), (2, vb), (3, .ptr (.loc s.loc.length) [] 30), (7, .int .i64 i), (8, .ptr (.loc (s.loc.length + 1)) [] 32), (9, .int .i64 k)]) (fun _ => Lc s W [.rw (.agg 32 (bt x))]) (fun _ => _) (fun k => q - k) (fun k => k ≤ q) 0 ?_ (Nat.zero_le _) rfl rfl
    intro k hk
    by_cases c : k < q
    · refine .inl ⟨k + 1, by omega, by omega, rfl, ?_⟩
      have := step k (by omega) false (hbef k c).symm
      simp only [Bool.false_eq_true, if_false] at this
      rw [hlen]
      exact this
    · right
      have : k = q := by omega
      subst this
      have := step k hq true hmq.symm
      simp only [if_true] at this
      rw [hlen]
      exact this
  · refine ⟨[], ?_⟩
    rw [if_neg hany]
    have hno : ∀ k, k < b.length → meets x (F (b.getD k 0)) (a.getD i 0) (b.getD k 0) = false := by
      intro k hk
      cases e : meets x (F (b.getD k 0)) (a.getD i 0) (b.getD k 0)
      · rfl
      · exact absurd ((List.any_eq_true (p := fun k => meets x (F k) (a.getD i 0) k)).2 ⟨_, getD_mem hk 0, e⟩) hany
    refine loop_runs (fun k : Nat => [(1, va), (2, vb), (3, .ptr (.loc s.loc.length) [] 30), (7, .int .i64 i), (8, .ptr (.loc (s.loc.length + 1)) [] 32), (9, .int .i64 k)]) (fun _ => Lc s W [.rw (.agg 32 (bt x))]) (fun _ => _) (fun k => b.length - k) (fun k => k ≤ b.length) 0 ?_ (Nat.zero_le _) rfl rfl
    intro k hk
    by_cases c : k < b.length
    · refine .inl ⟨k + 1, by omega, by omega, rfl, ?_⟩
      have := step k c false (hno k c).symm
      simp only [Bool.false_eq_true, if_false] at this
      rw [hlen]
      exact this
    · right
      have : k = b.length := by omega
      subst this
      have d1 : ¬ ((b.length : Nat) : Int) < (b.length : Nat) := by omega
      simp only [Lc, worldV] at *
      generalize W.map Obj.v = WV at *
      simp only [go_sem, b_steadfastref23_Apart_1, hs, d1]
theorem rf_rApart (hal : a.length ≤ 1000) (hbl : b.length ≤ 1000) :
    rf D f_steadfastref23_Apart [worldV W, va, vb] s = some (.bool (!(a.any fun i => b.any fun k => meets (F i) (F k) i k)), s) := by
  have ha' := ha.more (more_lc (W := W) (X := []))
  have la := locLt_mono (v := va) (show s.loc.length ≤ s.loc.length + 1 by omega) ha.locLt
  have lb := locLt_mono (v := vb) (show s.loc.length ≤ s.loc.length + 1 by omega) hb.locLt
  have m0 : s.loc.length < s.loc.length + 1 := by omega
  have hlen : (Lc s W []).loc.length = s.loc.length + 1 := by simp [Lc]
  have hs := ha.slen
  rw [List.length_map] at hs
  have step : ∀ i, i < a.length → ∀ r, r = (b.any fun k => meets (F (a.getD i 0)) (F k) (a.getD i 0) k) →
      ∃ Y : List Blk, obind (rc D s.loc.length b_steadfastref23_Apart_0 (restrict [1, 2, 3, 7] [(1, va), (2, vb), (3, .ptr (.loc s.loc.length) [] 30), (7, .int .i64 i)]) (Lc s W [])) (again D s.loc.length (s.loc.length + 1) [1, 2, 3, 7] b_steadfastref23_Apart_0) =
        if r then some (.ret, [(6, .bool false)], Lc s W Y) else
        rc D s.loc.length (.loop [1, 2, 3, 7] b_steadfastref23_Apart_0) [(1, va), (2, vb), (3, .ptr (.loc s.loc.length) [] 30), (7, .int .i64 (i + 1 : Nat))] (Lc s W []) := by
    intro i hi r hr
    obtain ⟨Y, hin⟩ := r_mid hF ha hb hi hal hbl (F (a.getD i 0))
    rw [← hr] at hin
    refine ⟨.rw (.agg 32 (bt (F (a.getD i 0)))) :: Y, ?_⟩
    have ga := get_map (f := V.int .i64) hi 0
    have qa1 := ha'.sadq ga (k := .i64)
    have qa2 := ha'.ldq ga (t := 10) (q := [])
    have d1 : (i : Int) < (a.length : Nat) := by omega
    have d4 : IntKind.i64.wrap ((i : Int) + 1) = (i : Int) + 1 := i64_id (by omega) (by omega)
    have hof := fun s => hF (a.getD i 0) s
    have hfl := flats_bt (F (a.getD i 0))
    generalize a.getD i 0 = ai at *
    generalize bt (F ai) = TI at *
    simp only [Lc, worldV] at *
    generalize W.map Obj.v = WV at *
    cases r
    · simp only [Bool.false_eq_true, if_false] at hin ⊢
      simp only [go_sem, b_steadfastref23_Apart_0, hs, d1, qa1, qa2, hof, hfl, hin, d4, la, lb, m0]
      rfl
    · simp only [if_true] at hin ⊢
      simp only [go_sem, b_steadfastref23_Apart_0, hs, d1, qa1, qa2, hof, hfl, hin]
  by_cases hany : (a.any fun i => b.any fun k => meets (F i) (F k) i k) = true
  · obtain ⟨q, hq, hmq, hbef⟩ := first_of 0 hany
    obtain ⟨Y, hY⟩ := step q hq true hmq.symm
    have loop : rc D s.loc.length (.loop [1, 2, 3, 7] b_steadfastref23_Apart_0) [(1, va), (2, vb), (3, .ptr (.loc s.loc.length) [] 30), (7, .int .i64 0)] (Lc s W []) = some (.ret, [(6, .bool false)], Lc s W Y) := by
      refine loop_runs (fun k : Nat => [(1, va), (2, vb), (3, .ptr (.loc s.loc.length) [] 30), (7, .int .i64 k)]) (fun _ => Lc s W []) (fun _ => _) (fun k => q - k) (fun k => k ≤ q) 0 ?_ (Nat.zero_le _) rfl rfl
      intro k hk
      by_cases c : k < q
      · refine .inl ⟨k + 1, by omega, by omega, rfl, ?_⟩
        obtain ⟨_, this⟩ := step k (by omega) false (hbef k c).symm
        simp only [Bool.false_eq_true, if_false] at this
        rw [hlen]
        exact this
      · right
        have : k = q := by omega
        subst this
        simp only [if_true] at hY
        rw [hlen]
        exact hY
    rw [hany]
    simp only [Lc, worldV] at *
    generalize W.map Obj.v = WV at *
    rw [rf_o D_steadfastref23_Apart rfl]
    simp only [go_sem, loop]
  · have hno : ∀ k, k < a.length → (b.any fun q => meets (F (a.getD k 0)) (F q) (a.getD k 0) q) = false := by
      intro k hk
      cases e : (b.any fun q => meets (F (a.getD k 0)) (F q) (a.getD k 0) q)
      · rfl
      · exact absurd ((List.any_eq_true (p := fun i => b.any fun k => meets (F i) (F k) i k)).2 ⟨_, getD_mem hk 0, e⟩) hany
    have loop : rc D s.loc.length (.loop [1, 2, 3, 7] b_steadfastref23_Apart_0) [(1, va), (2, vb), (3, .ptr (.loc s.loc.length) [] 30), (7, .int .i64 0)] (Lc s W []) = some (.exit 0, [(1, va), (2, vb), (3, .ptr (.loc s.loc.length) [] 30), (7, .int .i64 (a.length : Nat)), (15, .bool false)], Lc s W []) := by
      refine loop_runs (fun k : Nat => [(1, va), (2, vb), (3, .ptr (.loc s.loc.length) [] 30), (7, .int .i64 k)]) (fun _ => Lc s W []) (fun _ => _) (fun k => a.length - k) (fun k => k ≤ a.length) 0 ?_ (Nat.zero_le _) rfl rfl
      intro k hk
      by_cases c : k < a.length
      · refine .inl ⟨k + 1, by omega, by omega, rfl, ?_⟩
        obtain ⟨_, this⟩ := step k c false (hno k c).symm
        simp only [Bool.false_eq_true, if_false] at this
        rw [hlen]
        exact this
      · right
        have : k = a.length := by omega
        subst this
        have d1 : ¬ ((a.length : Nat) : Int) < (a.length : Nat) := by omega
        simp only [Lc, worldV] at *
        generalize W.map Obj.v = WV at *
        simp only [go_sem, b_steadfastref23_Apart_0, hs, d1]
    have hany' : (a.any fun i => b.any fun k => meets (F i) (F k) i k) = false := by simpa using hany
    rw [hany']
    simp only [Lc, worldV] at *
    generalize W.map Obj.v = WV at *
    rw [rf_o D_steadfastref23_Apart rfl]
    simp only [go_sem, loop]
end rapart
end Go.Proofs.Ytpbpgbedkmbfkaa
namespace Go.Proofs.Ytpbpgbedkmbfkaa
open Go.Ab

def capK (kd c : Int) : Bool := (capOf c).may && decide ((capsOf c).kind = kd)
def objK (kd : Int) (o : Obj) : Bool := decide (o.kind = 2) && o.l.any (capK kd)
theorem rf_Holds11 {s : St} {kl : Nat} {kd c : Int} (hk : s.loc[kl]? = some (.rw (.int .i64 kd))) (h0 : 0 ≤ c) (h1 : c ≤ 18446744073709551615) :
    rf D f_reach_Holds_1_1 [.int .u64 c, .ptr (.loc kl) [] 10] s = some (.bool (capK kd c), s) := by
  have hlk := (List.getElem?_eq_some_iff.1 hk).1
  have hc := fun s => rf_caps_Of c h0 h1 s
  unfold capK
  generalize (capOf c).may = m at *
  generalize capsOf c = y at *
  have hk' : ∀ X, (s.loc ++ [X])[kl]? = some (.rw (.int .i64 kd)) := fun X => by rw [List.getElem?_append_left hlk]; exact hk
  simp only [Cap.v] at hc
  rw [rf_o D_reach_Holds_1_1 rfl]
  cases m
  · simp only [go_sem, hc]
  · by_cases g : y.kind = kd
    · simp only [go_sem, hc, hk', g]
    · simp only [go_sem, hc, hk', g]
theorem rf_Holds1 {s : St} {kl : Nat} {kd : Int} {o : Obj} (hk : s.loc[kl]? = some (.rw (.int .i64 kd))) (h8 : o.l.length = 8) (hw : ∀ x ∈ o.l, 0 ≤ x ∧ x ≤ 18446744073709551615) :
    rf D f_reach_Holds_1 [o.v, .ptr (.loc kl) [] 10] s = some (.bool (objK kd o), s) := by
  have hlk := (List.getElem?_eq_some_iff.1 hk).1
  have hk' : (s.loc ++ [Blk.rw o.v])[kl]? = some (.rw (.int .i64 kd)) := by rw [List.getElem?_append_left hlk]; exact hk
  have hr : RS ⟨s.loc ++ [.rw o.v], s.hp⟩ 18 (.sl (.loc s.loc.length) [2] 0 8 (some 8) 18) (o.l.map (V.int .u64)) := by
    refine .inr ⟨.loc s.loc.length, [2], 0, some 8, by simp [h8], fun c hc => by cases hc; simp [h8], by simp [V.locLt], .inr ⟨24, o.l.map (V.int .u64), ?_, fun j x hx => by rw [Nat.zero_add]; exact hx⟩⟩
    simp [go_sem, Obj.v]
  have hcon := contains_uint64 (by omega) hr (k := f_reach_Holds_1_1) (caps := [.ptr (.loc kl) [] 10]) (by simp [V.locLts, V.locLt]; omega) (p := capK kd) (fun c hc => rf_Holds11 hk' (hw c hc).1 (hw c hc).2)
  unfold objK
  simp only [Obj.v] at *
  rw [rf_o D_reach_Holds_1 rfl]
  by_cases g : o.kind = 2
  · rw [decide_eq_true g, Bool.true_and]
    generalize o.l.any (capK kd) = r at *
    simp only [g] at *
    simp only [go_sem, hcon]
  · rw [decide_eq_false g, Bool.false_and]
    simp only [go_sem, g]
theorem rf_Holds {W : List Obj} (hW : OkW W) (kd : Int) (s : St) : rf D f_reach_Holds [worldV W, .int .i64 kd] s = some (.bool (W.any (objK kd)), s) := by
  have hr : RS ⟨s.loc ++ [.rw (worldV W), .rw (.int .i64 kd)], s.hp⟩ 26 (.sl (.loc s.loc.length) [] 0 49 (some 49) 26) (W.map Obj.v) :=
    RS.at_loc (L := s.loc ++ [.rw (worldV W), .rw (.int .i64 kd)]) (i := s.loc.length) (r := 30) (n := 49) (cp := some 49) (by simp [worldV]) (by simp [hW.len]) (fun c hc => by cases hc; exact Nat.le_refl _)
  have hcon := contains_api_Object (by rw [hW.len]; omega) hr (k := f_reach_Holds_1) (caps := [.ptr (.loc (s.loc.length + 1)) [] 10]) (by simp [V.locLts, V.locLt]) (p := objK kd) (fun o ho => rf_Holds1 (by simp) (hW.l8 o ho) (hW.words o ho))
  generalize W.any (objK kd) = r at *
  simp only [worldV] at *
  generalize W.map Obj.v = WV at *
  rw [rf_o D_reach_Holds rfl]
  simp only [go_sem, hcon]
/-! ### The document's -/
theorem h_inner {W : List Obj} (hW : OkW W) {i : Nat} (hi : i < 49) (kd : Int) (s : St) :
    ∃ Y : List Blk, rc D s.loc.length (.loop [1, 2, 5, 6] b_steadfastref23_Holds_1) [(1, .int .i64 kd), (2, .ptr (.loc s.loc.length) [] 30), (5, .int .i64 i), (6, .int .i64 0)] (Lc s W []) =
      if objK kd (objAt W i) then some (.ret, [(4, .bool true)], Lc s W Y) else
        some (.exit 2, [(1, .int .i64 kd), (2, .ptr (.loc s.loc.length) [] 30), (5, .int .i64 i), (6, .int .i64 8), (14, .bool false)], Lc s W []) := by
  have c1 : (i : Int) < 49 := by omega
  have c2 : (0 : Int) ≤ i := by omega
  have hg := objAt_get hW hi
  have hmem := objAt_mem hW hi
  have h8 := hW.l8 _ hmem
  have hwd := hW.words _ hmem
  have m0 : s.loc.length < s.loc.length + 1 := by omega
  have hlen : (Lc s W []).loc.length = s.loc.length + 1 := by simp
  have step : ∀ k, k < 8 → ∀ r, r = (decide ((objAt W i).kind = 2) && capK kd ((objAt W i).l.getD k 0)) →
      obind (rc D s.loc.length b_steadfastref23_Holds_1 (restrict [1, 2, 5, 6] [(1, .int .i64 kd), (2, .ptr (.loc s.loc.length) [] 30), (5, .int .i64 i), (6, .int .i64 k)]) (Lc s W [])) (again D s.loc.length (s.loc.length + 1) [1, 2, 5, 6] b_steadfastref23_Holds_1) =
        if r then some (.ret, [(4, .bool true)], Lc s W [.rw (capsOf ((objAt W i).l.getD k 0)).v]) else
        rc D s.loc.length (.loop [1, 2, 5, 6] b_steadfastref23_Holds_1) [(1, .int .i64 kd), (2, .ptr (.loc s.loc.length) [] 30), (5, .int .i64 i), (6, .int .i64 (k + 1 : Nat))] (Lc s W []) := by
    intro k hk r hr
    have d1 : (k : Int) < 8 := by omega
    have d2 : (0 : Int) ≤ k := by omega
    have d4 : IntKind.i64.wrap ((k : Int) + 1) = (k : Int) + 1 := i64_id (by omega) (by omega)
    have hl := get_map (f := V.int .u64) (l := (objAt W i).l) (i := k) (by omega) 0
    have hwr := hwd _ (getD_mem (l := (objAt W i).l) (i := k) (by omega) 0)
    have hc := fun s => rf_ref07_Of _ hwr.1 hwr.2 s
    subst hr
    unfold capK
    generalize (objAt W i).l.getD k 0 = c at *
    generalize (capOf c).may = m at *
    generalize capsOf c = y at *
    simp only [Lc, worldV, Obj.v, Cap.v] at *
    generalize (objAt W i).kind = ok at *
    generalize (objAt W i).ver = ver at *
    generalize (objAt W i).l = l at *
    generalize W.map _ = WV at *
    by_cases g1 : ok = 2
    · rw [decide_eq_true g1, Bool.true_and]
      simp only [g1] at hg
      cases m
      · simp only [Bool.false_and, Bool.false_eq_true, if_false]
        simp only [go_sem, b_steadfastref23_Holds_1, d1, d2, c1, c2, Int.toNat_natCast, hg, hl, hc, d4, m0]
        rfl
      · by_cases g2 : y.kind = kd
        · rw [decide_eq_true g2]
          simp only [Bool.and_self, if_true]
          simp only [go_sem, b_steadfastref23_Holds_1, d1, d2, c1, c2, Int.toNat_natCast, hg, hl, hc, g2]
        · rw [decide_eq_false g2]
          simp only [Bool.and_false, Bool.false_eq_true, if_false]
          simp only [go_sem, b_steadfastref23_Holds_1, d1, d2, c1, c2, Int.toNat_natCast, hg, hl, hc, g2, d4, m0]
          rfl
    · rw [decide_eq_false g1, Bool.false_and]
      simp only [Bool.false_eq_true, if_false]
      simp only [go_sem, b_steadfastref23_Holds_1, d1, d2, c1, c2, Int.toNat_natCast, hg, hl, hc, g1, d4, m0]
      rfl
  have done : objK kd (objAt W i) = false → rc D s.loc.length (.loop [1, 2, 5, 6] b_steadfastref23_Holds_1) [(1, .int .i64 kd), (2, .ptr (.loc s.loc.length) [] 30), (5, .int .i64 i), (6, .int .i64 0)] (Lc s W []) =
      some (.exit 2, [(1, .int .i64 kd), (2, .ptr (.loc s.loc.length) [] 30), (5, .int .i64 i), (6, .int .i64 8), (14, .bool false)], Lc s W []) := by
    intro hno
    refine loop_runs (fun k : Nat => [(1, .int .i64 kd), (2, .ptr (.loc s.loc.length) [] 30), (5, .int .i64 i), (6, .int .i64 k)]) (fun _ => Lc s W []) (fun _ => _) (fun k => 8 - k) (fun k => k ≤ 8) 0 ?_ (Nat.zero_le _) rfl rfl
    intro k hk
    by_cases c : k < 8
    · refine .inl ⟨k + 1, by omega, by omega, rfl, ?_⟩
      have hf : (decide ((objAt W i).kind = 2) && capK kd ((objAt W i).l.getD k 0)) = false := by
        cases e : decide ((objAt W i).kind = 2)
        · rfl
        · unfold objK at hno
          rw [e, Bool.true_and] at hno
          rw [Bool.true_and]
          cases e2 : capK kd ((objAt W i).l.getD k 0)
          · rfl
          · exact absurd ((List.any_eq_true (p := capK kd)).2 ⟨_, getD_mem (by omega) 0, e2⟩) (by rw [hno]; simp)
      have := step k c false hf.symm
      simp only [Bool.false_eq_true, if_false] at this
      rw [hlen]
      exact this
    · right
      have : k = 8 := by omega
      subst this
      simp only [Lc, worldV] at *
      generalize W.map _ = WV at *
      simp only [go_sem, b_steadfastref23_Holds_1]
  cases hm : objK kd (objAt W i)
  · exact ⟨[], by rw [if_neg (by simp)]; exact done hm⟩
  · unfold objK at hm
    simp only [Bool.and_eq_true] at hm
    obtain ⟨q, hq, hmq, hbef⟩ := first_of 0 hm.2
    refine ⟨[.rw (capsOf ((objAt W i).l.getD q 0)).v], ?_⟩
    rw [if_pos rfl]
    refine loop_runs (fun k : Nat => [(1, .int .i64 kd), (2, .ptr (.loc s.loc.length) [] 30), (5, .int .i64 i), (6, .int .i64 k)]) (fun _ => Lc s W []) (fun _ => _) (fun k => q - k) (fun k => k ≤ q) 0 ?_ (Nat.zero_le _) rfl rfl
    intro k hk
    by_cases c : k < q
    · refine .inl ⟨k + 1, by omega, by omega, rfl, ?_⟩
      have := step k (by omega) false (by rw [hbef k c, Bool.and_false])
      simp only [Bool.false_eq_true, if_false] at this
      rw [hlen]
      exact this
    · right
      have : k = q := by omega
      subst this
      have := step k (by omega) true (by rw [hmq, hm.1]; rfl)
      simp only [if_true] at this
      rw [hlen]
      exact this
theorem rf_rHolds {W : List Obj} (hW : OkW W) (kd : Int) (s : St) : rf D f_steadfastref23_Holds [worldV W, .int .i64 kd] s = some (.bool (W.any (objK kd)), s) := by
  have m0 : s.loc.length < s.loc.length + 1 := by omega
  have hlen : (Lc s W []).loc.length = s.loc.length + 1 := by simp
  have step : ∀ i, i < 49 → ∀ r, r = objK kd (objAt W i) →
      ∃ Y : List Blk, obind (rc D s.loc.length b_steadfastref23_Holds_0 (restrict [1, 2, 5] [(1, .int .i64 kd), (2, .ptr (.loc s.loc.length) [] 30), (5, .int .i64 i)]) (Lc s W [])) (again D s.loc.length (s.loc.length + 1) [1, 2, 5] b_steadfastref23_Holds_0) =
        if r then some (.ret, [(4, .bool true)], Lc s W Y) else
        rc D s.loc.length (.loop [1, 2, 5] b_steadfastref23_Holds_0) [(1, .int .i64 kd), (2, .ptr (.loc s.loc.length) [] 30), (5, .int .i64 (i + 1 : Nat))] (Lc s W []) := by
    intro i hi r hr
    obtain ⟨Y, hin⟩ := h_inner hW hi kd s
    rw [← hr] at hin
    refine ⟨Y, ?_⟩
    have d1 : (i : Int) < 49 := by omega
    have d4 : IntKind.i64.wrap ((i : Int) + 1) = (i : Int) + 1 := i64_id (by omega) (by omega)
    simp only [Lc, worldV] at *
    generalize W.map Obj.v = WV at *
    cases r
    · simp only [Bool.false_eq_true, if_false] at hin ⊢
      simp only [go_sem, b_steadfastref23_Holds_0, d1, hin, d4, m0]
      rfl
    · simp only [if_true] at hin ⊢
      simp only [go_sem, b_steadfastref23_Holds_0, d1, hin]
  have hWl := hW.len
  by_cases hany : W.any (objK kd) = true
  · obtain ⟨q, hq, hmq, hbef⟩ := first_of noObj hany
    obtain ⟨Y, hY⟩ := step q (by omega) true hmq.symm
    have loop : rc D s.loc.length (.loop [1, 2, 5] b_steadfastref23_Holds_0) [(1, .int .i64 kd), (2, .ptr (.loc s.loc.length) [] 30), (5, .int .i64 0)] (Lc s W []) = some (.ret, [(4, .bool true)], Lc s W Y) := by
      refine loop_runs (fun k : Nat => [(1, .int .i64 kd), (2, .ptr (.loc s.loc.length) [] 30), (5, .int .i64 k)]) (fun _ => Lc s W []) (fun _ => _) (fun k => q - k) (fun k => k ≤ q) 0 ?_ (Nat.zero_le _) rfl rfl
      intro k hk
      by_cases c : k < q
      · refine .inl ⟨k + 1, by omega, by omega, rfl, ?_⟩
        obtain ⟨_, this⟩ := step k (by omega) false (hbef k c).symm
        simp only [Bool.false_eq_true, if_false] at this
        rw [hlen]
        exact this
      · right
        have : k = q := by omega
        subst this
        simp only [if_true] at hY
        rw [hlen]
        exact hY
    rw [hany]
    simp only [Lc, worldV] at *
    generalize W.map Obj.v = WV at *
    rw [rf_o D_steadfastref23_Holds rfl]
    simp only [go_sem, loop]
  · have hno : ∀ k, k < 49 → objK kd (objAt W k) = false := by
      intro k hk
      cases e : objK kd (objAt W k)
      · rfl
      · exact absurd ((List.any_eq_true (p := objK kd)).2 ⟨_, objAt_mem hW hk, e⟩) hany
    have loop : rc D s.loc.length (.loop [1, 2, 5] b_steadfastref23_Holds_0) [(1, .int .i64 kd), (2, .ptr (.loc s.loc.length) [] 30), (5, .int .i64 0)] (Lc s W []) = some (.exit 0, [(1, .int .i64 kd), (2, .ptr (.loc s.loc.length) [] 30), (5, .int .i64 49), (10, .bool false)], Lc s W []) := by
      refine loop_runs (fun k : Nat => [(1, .int .i64 kd), (2, .ptr (.loc s.loc.length) [] 30), (5, .int .i64 k)]) (fun _ => Lc s W []) (fun _ => _) (fun k => 49 - k) (fun k => k ≤ 49) 0 ?_ (Nat.zero_le _) rfl rfl
      intro k hk
      by_cases c : k < 49
      · refine .inl ⟨k + 1, by omega, by omega, rfl, ?_⟩
        obtain ⟨_, this⟩ := step k c false (hno k c).symm
        simp only [Bool.false_eq_true, if_false] at this
        rw [hlen]
        exact this
      · right
        have : k = 49 := by omega
        subst this
        simp only [Lc, worldV] at *
        generalize W.map Obj.v = WV at *
        simp only [go_sem, b_steadfastref23_Holds_0]
    have hany' : W.any (objK kd) = false := by simpa using hany
    rw [hany']
    simp only [Lc, worldV] at *
    generalize W.map Obj.v = WV at *
    rw [rf_o D_steadfastref23_Holds rfl]
    simp only [go_sem, loop]
end Go.Proofs.Ytpbpgbedkmbfkaa
namespace Go.Proofs.Ytpbpgbedkmbfkaa
open Go.Ab

theorem ints_of {hp : List Blk} {v : V} (h : (Sh.sl 38 (.int .i64)).Fits hp v) : ∃ l : List Int, RS ⟨[], hp⟩ 10 v (l.map (V.int .i64)) ∧ v.locLt 0 = true := by
  obtain ⟨l, hrs, hlt, hlen, hfit⟩ := rs_of_fits h
  obtain ⟨la, rfl, _⟩ := map_of (f := V.int .i64) (P := fun _ => True) (fun x hx => by
    obtain ⟨n, rfl, _, _⟩ := hfit x hx
    exact ⟨n, rfl, trivial⟩)
  exact ⟨la, hrs, hlt⟩
/-- The first eight of some, if there are more. -/
theorem eight {hp : List Blk} {v : V} {l : List Int} (h : RS ⟨[], hp⟩ 10 v (l.map (V.int .i64))) (hl : v.locLt 0 = true) :
    ∃ (v' : V) (l' : List Int), (8 < l.length → slcv 10 none (some (.int .i64 8)) none v = some v') ∧ (¬ 8 < l.length → v' = v) ∧ RS ⟨[], hp⟩ 10 v' (l'.map (V.int .i64)) ∧ v'.locLt 0 = true ∧ l'.length ≤ 8 := by
  by_cases g : 8 < l.length
  · obtain ⟨v', h1, h2, h3⟩ := h.take (n := 8) (by simp; omega) (k := .i64)
    refine ⟨v', l.take 8, fun _ => h1, fun h => absurd g h, ?_, h3 hl, by simp; omega⟩
    rw [List.map_take]
    exact h2
  · exact ⟨v, l, fun h => absurd h g, fun _ => rfl, h, hl, by omega⟩
theorem any_swap {α : Type} {p : α → α → Bool} (hp : ∀ x y, p x y = p y x) (a b : List α) : (a.any fun x => b.any fun y => p x y) = (b.any fun x => a.any fun y => p x y) := by
  rw [Bool.eq_iff_iff]
  simp only [List.any_eq_true]
  constructor
  · rintro ⟨x, hx, y, hy, h⟩; exact ⟨y, hy, x, hx, by rw [hp]; exact h⟩
  · rintro ⟨x, hx, y, hy, h⟩; exact ⟨y, hy, x, hx, by rw [hp]; exact h⟩
theorem law_ReachApart : ∀ hp vs, Sh.FitsL hp [(.sl 28 (.st 26 [(.int .i64), (.int .i64), (.arr 24 8 (.int .u64))])), (.arr 23 2 (.sl 38 (.int .i64))), (.int .i64)] vs → ∃ s', rf D f_steadfastlaw23_ReachApart vs ⟨[], hp⟩ = some (.bool true, s') := by
  intro hp vs hf
  obtain ⟨v, y, z, rfl, h1, h2, ⟨kd, rfl, _, _⟩⟩ := fits3 hf
  obtain ⟨W, hW, hw⟩ := rf_world h1
  obtain ⟨va, vb, rfl, ha, hb⟩ := arr2 h2
  obtain ⟨a, hra, hla⟩ := ints_of ha
  obtain ⟨b, hrb, hlb⟩ := ints_of hb
  obtain ⟨va', a', ca1, ca2, hra', hla', ha8⟩ := eight hra hla
  obtain ⟨vb', b', cb1, cb2, hrb', hlb', hb8⟩ := eight hrb hlb
  obtain ⟨F, hF⟩ : ∃ F : Int → List Bool, ∀ id, (F id).length = 49 ∧ (∀ s, rf D f_reach_Of [worldV W, .int .i64 id] s = some (.agg 32 ((F id).map .bool), s)) ∧ ∀ s, rf D f_steadfastref23_Of [worldV W, .int .i64 id] s = some (.agg 32 ((F id).map .bool), s) :=
    ⟨fun id => (of_both W hW.ok id).choose, fun id => (of_both W hW.ok id).choose_spec⟩
  have hF1 : ∀ id s, rf D f_reach_Of [worldV W, .int .i64 id] s = some (.agg 32 (bt fun j => (F id).getD j false), s) := fun id s => by rw [(hF id).2.1 s, bt_of (hF id).1]
  have hF2 : ∀ id s, rf D f_steadfastref23_Of [worldV W, .int .i64 id] s = some (.agg 32 (bt fun j => (F id).getD j false), s) := fun id s => by rw [(hF id).2.2 s, bt_of (hF id).1]
  have p1 := rf_Apart (F := fun id j => (F id).getD j false) hF1 hra' hrb' (by omega) (by omega)
  have p2 := rf_rApart (F := fun id j => (F id).getD j false) hF2 hra' hrb' (by omega) (by omega)
  have p3 := rf_Apart (F := fun id j => (F id).getD j false) hF1 hrb' hra' (by omega) (by omega)
  rw [any_swap (p := fun i k => meets (fun j => (F i).getD j false) (fun j => (F k).getD j false) i k) (fun x y => meets_comm _ _ _ _) b' a'] at p3
  have p4 := fun s => rf_Holds hW.ok kd s
  have p5 := fun s => rf_rHolds hW.ok kd s
  have hw' := fun L => hw ⟨L, hp⟩ rfl
  have hsh := fun s => rf_shown s
  have sa := hra.slen
  have sb := hrb.slen
  rw [List.length_map] at sa sb
  refine ⟨⟨[], hp⟩, ?_⟩
  generalize (a'.any fun i => b'.any fun k => meets (fun j => (F i).getD j false) (fun j => (F k).getD j false) i k) = r1 at *
  generalize W.any (objK kd) = r2 at *
  simp only [worldV] at *
  generalize W.map Obj.v = WV at *
  rw [rf_o D_steadfastlaw23_ReachApart rfl]
  by_cases ga : 8 < a.length
  · have ga' : (8 : Int) < (a.length : Nat) := by omega
    have ca := ca1 ga
    by_cases gb : 8 < b.length
    · have gb' : (8 : Int) < (b.length : Nat) := by omega
      have cb := cb1 gb
      simp only [go_sem, hsh, hw', sa, sb, ga', gb', ca, cb]
      simp only [go_sem, p1, p2, p3, p4, p5, hla', hlb']
    · have gb' : ¬ (8 : Int) < (b.length : Nat) := by omega
      obtain rfl := cb2 gb
      simp only [go_sem, hsh, hw', sa, sb, ga', gb', ca]
      simp only [go_sem, p1, p2, p3, p4, p5, hla', hlb']
  · have ga' : ¬ (8 : Int) < (a.length : Nat) := by omega
    obtain rfl := ca2 ga
    by_cases gb : 8 < b.length
    · have gb' : (8 : Int) < (b.length : Nat) := by omega
      have cb := cb1 gb
      simp only [go_sem, hsh, hw', sa, sb, ga', gb', cb]
      simp only [go_sem, p1, p2, p3, p4, p5, hla', hlb']
    · have gb' : ¬ (8 : Int) < (b.length : Nat) := by omega
      obtain rfl := cb2 gb
      simp only [go_sem, hsh, hw', sa, sb, ga', gb']
      simp only [go_sem, p1, p2, p3, p4, p5, hla', hlb']
end Go.Proofs.Ytpbpgbedkmbfkaa
