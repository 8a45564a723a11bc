/-
  Queue: what queue.Next, queue.Mine and the reference's functions compute, and that the laws of layer 19 tell true.
-/
import Derived.Test.YtfdaihhnlohckaaCode
import Derived.Test.YtfdaihhnlohckaaAb22
import Derived.KernelRfl
import Derived.IntWalk
set_option maxRecDepth 100000
namespace Go.Proofs.Ytfdaihhnlohckaa
open Go.Ab
def mine (id core cores : Int) : Bool := decide (1 ≤ cores) && decide (0 ≤ id) && decide (id.tmod cores = core)
theorem rf_Mine (id core cores : Int) (s : St) : rf D f_queue_Mine [.int .i64 id, .int .i64 core, .int .i64 cores] s = some (.bool (mine id core cores), s) := by
  rw [rf_o D_queue_Mine rfl]
  simp only [go_sem]
  unfold mine
  by_cases h1 : 1 ≤ cores <;> by_cases h2 : 0 ≤ id <;> simp [h1, h2, go_sem]
  rw [if_neg (by omega)]
  simp [go_sem]
theorem rf_refMine (id core cores : Int) (s : St) : rf D f_steadfastref19_Mine [.int .i64 id, .int .i64 core, .int .i64 cores] s = some (.bool (mine id core cores), s) := by
  rw [rf_o D_steadfastref19_Mine rfl]
  simp only [go_sem]
  unfold mine
  by_cases h1 : 1 ≤ cores <;> by_cases h2 : 0 ≤ id <;> simp [h1, h2, go_sem]
  rw [if_neg (by omega)]
  simp [go_sem]

def fromM (l : List Bool) (core cores : Int) (i : Nat) : Option Nat := (List.range' i (l.length - i)).find? (fun j => l.getD j false && mine j core cores)
theorem fromM_step (l : List Bool) (core cores : Int) (i : Nat) (h : i < l.length) : fromM l core cores i = if l[i] && mine i core cores then some i else fromM l core cores (i + 1) := by
  unfold fromM
  rw [show l.length - i = (l.length - (i + 1)) + 1 by omega, List.range'_succ, List.find?_cons]
  rw [show l.getD i false = l[i] by simp [List.getD_eq_getElem?_getD, h]]
  cases (l[i] && mine i core cores) <;> simp
theorem fromM_end (l : List Bool) (core cores : Int) (i : Nat) (h : l.length ≤ i) : fromM l core cores i = none := by
  unfold fromM
  rw [show l.length - i = 0 by omega]; rfl

theorem rf_from (l : List Bool) (core cores : Int) (s : St) (v : V) (hl : l.length ≤ 9223372036854775807) (a b c : Nat) (ha : s.loc[a]? = some (.rw v)) (hb : s.loc[b]? = some (.rw (.int .i64 core))) (hc : s.loc[c]? = some (.rw (.int .i64 cores)))
   (hv : RS s 0 v (l.map V.bool)) (i : Nat) : rf D f_queue_Next_1 [.int .i64 i, .ptr (.loc a) [] 1, .ptr (.loc b) [] 10, .ptr (.loc c) [] 10] s = some (match fromM l core cores i with
     | some j => .tup [.int .i64 j, .bool true]
     | none => .tup [.int .i64 0, .bool false], s) := by
  have hr : s.loc.take s.loc.length = s.loc := List.take_length
  have a1 := (List.getElem?_eq_some_iff.1 ha).1
  have a2 := (List.getElem?_eq_some_iff.1 hb).1
  have a3 := (List.getElem?_eq_some_iff.1 hc).1
  have hn := hv.slen
  rw [List.length_map] at hn
  rw [rf_o D_queue_Next_1 rfl]
  simp only [go_sem]
  rw [loop_runs (fun i : Nat => [(1, .ptr (.loc a) [] 1), (2, .ptr (.loc b) [] 10), (3, .ptr (.loc c) [] 10), (7, .int .i64 i)]) (fun _ => s)
    (fun j => match fromM l core cores j with
     | some j => some (.ret, [(5, .int .i64 j), (6, .bool true)], s)
     | none => some (.exit 0, [(1, .ptr (.loc a) [] 1), (2, .ptr (.loc b) [] 10), (3, .ptr (.loc c) [] 10), (7, .int .i64 (max i l.length : Nat)), (12, .bool false)], s)) (fun j => l.length - j) (fun j => i ≤ j ∧ j ≤ max i l.length) i ?_ ⟨Nat.le_refl _, Nat.le_max_left _ _⟩ ?_ ?_]
  · cases fromM l core cores i <;> simp [go_sem, hr]
  · intro j hj
    by_cases hlt : j < l.length
    · have h4 := hv.sad (k := .i64) (j := j) (by simpa using hlt)
      have h5 := hv.ld (j := j) (by simpa using hlt)
      rw [List.getElem_map] at h5
      have c1 : (j : Int) < l.length := by omega
      have c3 : IntKind.i64.wrap ((j : Int) + 1) = (j : Int) + 1 := by rw [IntWalk.i64_in _ (by omega)]
      rw [fromM_step l core cores j hlt]
      simp only [go_sem, b_queue_Next_1_0, ha, hb, hc, hn, h4, h5, rf_Mine, c1]
      cases hb1 : l[j]
      · left; exact ⟨j + 1, by omega, by omega, by simp, by simp [go_sem, c3, a1, a2, a3]⟩
      · cases hb2 : mine j core cores
        · left; exact ⟨j + 1, by omega, by omega, by simp, by simp [go_sem, c3, a1, a2, a3]⟩
        · right; simp [go_sem]
    · right
      have hj' : j = max i l.length := by omega
      rw [fromM_end l core cores j (by omega)]
      have c1 : ¬ ((j : Int) < l.length) := by omega
      simp only [go_sem, b_queue_Next_1_0, ha, hn, c1]
      simp [← hj']
  · rfl
  · rfl

def nextM (l : List Bool) (core cores last : Int) : Nat × Int :=
  if cores < 1 ∨ 8 < cores ∨ core < 0 ∨ cores ≤ core then (0, 1) else
  match (if 0 ≤ last ∧ last < l.length then fromM l core cores (last + 1).toNat else none) with
  | some j => (j, 0)
  | none => match fromM l core cores 0 with
    | some j => (j, 0)
    | none => (0, 50)

theorem rf_Next (l : List Bool) (core cores last : Int) (s : St) (v : V) (hl : l.length ≤ 9223372036854775807) (hv : RS s 0 v (l.map V.bool)) :
    rf D f_queue_Next [v, .int .i64 core, .int .i64 cores, .int .i64 last] s = some (.tup [.int .i64 (nextM l core cores last).1, .int .i64 (nextM l core cores last).2], s) := by
  have hr : s.loc.take s.loc.length = s.loc := List.take_length
  have hn := hv.slen
  rw [List.length_map] at hn
  have hok := hv.ok
  have htag := hv.tag
  have hf := fun i => rf_from l core cores ⟨s.loc ++ [.rw v, .rw (.int .i64 core), .rw (.int .i64 cores)], s.hp⟩ v hl s.loc.length (s.loc.length + 1) (s.loc.length + 2) (by simp) (by simp) (by simp) (hv.more (.loc' s _)) i
  have hf0 : rf D f_queue_Next_1 [.int .i64 0, _, _, _] _ = _ := hf 0
  rw [rf_o D_queue_Next rfl]
  simp only [go_sem, hok, htag]
  unfold nextM
  by_cases h1 : cores < 1
  · simp [h1, go_sem]
  by_cases h2 : 8 < cores
  · simp [h1, h2, go_sem]
  by_cases h3 : core < 0
  · simp [h1, h2, h3, go_sem]
  by_cases h4 : cores ≤ core
  · simp [h1, h2, h3, h4, go_sem]
  simp only [h1, h2, h3, h4, go_sem, hn]
  by_cases h5 : 0 ≤ last ∧ last < l.length
  · obtain ⟨m, rfl⟩ : ∃ m : Nat, last = m := ⟨last.toNat, by omega⟩
    have c3 : IntKind.i64.wrap ((m : Int) + 1) = ((m + 1 : Nat) : Int) := by rw [IntWalk.i64_in _ (by omega)]; rfl
    have h6 : (m : Int) < l.length := h5.2
    have e : ((m : Int) + 1).toNat = m + 1 := by omega
    simp only [go_sem, h6, h5.1, c3, hf, e]
    cases fromM l core cores (m + 1) with
    | some j => simp [go_sem]
    | none =>
      simp only [go_sem, hf0]
      cases fromM l core cores 0 <;> simp [go_sem]
  · rw [if_neg h5]
    by_cases h6 : 0 ≤ last
    · have h7 : ¬ last < l.length := fun h => h5 ⟨h6, h⟩
      simp only [go_sem, h6, h7, hf0]
      cases fromM l core cores 0 <;> simp [go_sem]
    · simp only [go_sem, h6, hf0]
      cases fromM l core cores 0 <;> simp [go_sem]

/-- The reference's loop: the first one behind 'last', or else the first one at all. -/
def refLoop (l : List Bool) (core cores last : Int) (first : Int) (i : Nat) : Int ⊕ Int :=
  if h : i < l.length then
    if l[i] && mine i core cores then
      if last < i then .inl i else refLoop l core cores last (if first < 0 then i else first) (i + 1)
    else refLoop l core cores last first (i + 1)
  else .inr first
termination_by l.length - i

theorem rf_refNext0 (l : List Bool) (core cores last : Int) (s : St) (v : V) (hl : l.length ≤ 9223372036854775807) (hv : RS s 0 v (l.map V.bool)) :
    rf D f_steadfastref19_Next [v, .int .i64 core, .int .i64 cores, .int .i64 last] s = some (
      if cores < 1 ∨ 8 < cores ∨ core < 0 ∨ cores ≤ core then .tup [.int .i64 0, .int .i64 1] else
      match refLoop l core cores last (-1) 0 with
      | .inl j => .tup [.int .i64 j, .int .i64 0]
      | .inr j => if j < 0 then .tup [.int .i64 0, .int .i64 50] else .tup [.int .i64 j, .int .i64 0], s) := by
  have hn := hv.slen
  rw [List.length_map] at hn
  have hlt := hv.locLt
  have hr : s.loc.take s.loc.length = s.loc := List.take_length
  rw [rf_o D_steadfastref19_Next rfl]
  simp only [go_sem]
  by_cases h1 : cores < 1
  · simp [h1, go_sem]
  by_cases h2 : 8 < cores
  · simp [h1, h2, go_sem]
  by_cases h3 : core < 0
  · simp [h1, h2, h3, go_sem]
  by_cases h4 : cores ≤ core
  · simp [h1, h2, h3, h4, go_sem]
  simp only [h1, h2, h3, h4, go_sem]
  rw [loop_runs (fun x : Int × Nat => [(0, v), (1, .int .i64 core), (2, .int .i64 cores), (3, .int .i64 last), (10, .int .i64 x.1), (11, .int .i64 x.2)]) (fun _ => s)
    (fun x => match refLoop l core cores last x.1 x.2 with
     | .inl j => some (.ret, [(8, .int .i64 j), (9, .int .i64 0)], s)
     | .inr j => some (.exit 0, [(0, v), (1, .int .i64 core), (2, .int .i64 cores), (3, .int .i64 last), (10, .int .i64 j), (11, .int .i64 l.length), (30, .bool false)], s)) (fun x => l.length - x.2) (fun x => x.2 ≤ l.length) (-1, 0) ?_ (Nat.zero_le _) ?_ ?_]
  · cases refLoop l core cores last (-1) 0 with
    | inl j => simp [go_sem, hr]
    | inr j => by_cases hj : j < 0 <;> simp [go_sem, hr, hj]
  · rintro ⟨first, j⟩ hj
    simp only at hj
    by_cases hlt2 : j < l.length
    · have h7 := hv.sad (k := .i64) (j := j) (by simpa using hlt2)
      have h8 := hv.ld (j := j) (by simpa using hlt2)
      rw [List.getElem_map] at h8
      have c1 : (j : Int) < l.length := by omega
      have c3 : IntKind.i64.wrap ((j : Int) + 1) = (j : Int) + 1 := by rw [IntWalk.i64_in _ (by omega)]
      have e1 : refLoop l core cores last first j = if l[j] && mine j core cores then
          if last < j then .inl (j : Int) else refLoop l core cores last (if first < 0 then (j : Int) else first) (j + 1)
        else refLoop l core cores last first (j + 1) := by
        rw [refLoop, dif_pos hlt2]
      simp only [e1]
      simp only [go_sem, b_steadfastref19_Next_0, hn, h7, h8, rf_refMine, c1]
      cases hb1 : l[j]
      · left; exact ⟨(first, j + 1), by simp only; omega, by simp only; omega, by simp, by simp [go_sem, c3, hlt]⟩
      · cases hb2 : mine j core cores
        · left; exact ⟨(first, j + 1), by simp only; omega, by simp only; omega, by simp, by simp [go_sem, c3, hlt]⟩
        · by_cases hl1 : last < j
          · right; simp [go_sem, hl1]
          · left
            refine ⟨(if first < 0 then (j : Int) else first, j + 1), by simp only; omega, by simp only; omega, by simp [hl1], ?_⟩
            by_cases hf : first < 0 <;> simp [go_sem, hl1, hf, c3, hlt]
    · right
      have hj' : j = l.length := by omega
      subst hj'
      have c1 : ¬ ((l.length : Int) < l.length) := by omega
      have e1 : refLoop l core cores last first l.length = .inr first := by rw [refLoop, dif_neg hlt2]
      simp only [e1]
      simp only [go_sem, b_steadfastref19_Next_0, hn, c1]
  · rfl
  · rfl

/-! ### The plain law -/
theorem refLoop_pos (l : List Bool) (core cores last : Int) : ∀ d first i, l.length - i = d → i ≤ l.length → 0 ≤ first → refLoop l core cores last first i =
    (match fromM l core cores (max i (last + 1).toNat) with | some j => .inl (j : Int) | none => .inr first) := by
  intro d
  induction d with
  | zero =>
    intro first i hd hi hf
    rw [refLoop, dif_neg (by omega), fromM_end _ _ _ _ (by omega)]
  | succ d ih =>
    intro first i hd hi hf
    have h : i < l.length := by omega
    have h1 := ih first (i + 1) (by omega) (by omega) hf
    rw [refLoop, dif_pos h]
    by_cases hm : (l[i] && mine i core cores) = true
    · rw [if_pos hm]
      by_cases hl : last < i
      · rw [if_pos hl, show max i (last + 1).toNat = i by omega, fromM_step _ _ _ _ h, if_pos hm]
      · rw [if_neg hl, if_neg (by omega), h1, show max (i + 1) (last + 1).toNat = max i (last + 1).toNat by omega]
    · rw [if_neg hm, h1]
      by_cases hl : last < i
      · rw [show max i (last + 1).toNat = i by omega, fromM_step _ _ _ _ h, if_neg hm, show max (i + 1) (last + 1).toNat = i + 1 by omega]
      · rw [show max (i + 1) (last + 1).toNat = max i (last + 1).toNat by omega]
theorem refLoop_neg (l : List Bool) (core cores last : Int) : ∀ d i, l.length - i = d → i ≤ l.length → refLoop l core cores last (-1) i =
    (match fromM l core cores (max i (last + 1).toNat) with | some j => .inl (j : Int) | none => match fromM l core cores i with | some j => .inr (j : Int) | none => .inr (-1)) := by
  intro d
  induction d with
  | zero =>
    intro i hd hi
    rw [refLoop, dif_neg (by omega), fromM_end _ _ _ _ (by omega), fromM_end _ _ _ _ (by omega)]
  | succ d ih =>
    intro i hd hi
    have h : i < l.length := by omega
    have h1 := ih (i + 1) (by omega) (by omega)
    rw [refLoop, dif_pos h]
    by_cases hm : (l[i] && mine i core cores) = true
    · rw [if_pos hm]
      by_cases hl : last < i
      · rw [if_pos hl, show max i (last + 1).toNat = i by omega, fromM_step _ _ _ _ h, if_pos hm]
      · rw [if_neg hl, if_pos (by omega), refLoop_pos l core cores last d i (i + 1) (by omega) (by omega) (by omega), show max (i + 1) (last + 1).toNat = max i (last + 1).toNat by omega, fromM_step _ _ _ i h, if_pos hm]
    · rw [if_neg hm, h1, fromM_step _ _ _ i h, if_neg hm]
      by_cases hl : last < i
      · rw [show max i (last + 1).toNat = i by omega, fromM_step _ _ _ i h, if_neg hm, show max (i + 1) (last + 1).toNat = i + 1 by omega]
      · rw [show max (i + 1) (last + 1).toNat = max i (last + 1).toNat by omega]
theorem rf_refNext (l : List Bool) (core cores last : Int) (s : St) (v : V) (hl : l.length ≤ 9223372036854775807) (hv : RS s 0 v (l.map V.bool)) :
    rf D f_steadfastref19_Next [v, .int .i64 core, .int .i64 cores, .int .i64 last] s = some (.tup [.int .i64 (nextM l core cores last).1, .int .i64 (nextM l core cores last).2], s) := by
  rw [rf_refNext0 l core cores last s v hl hv]
  unfold nextM
  by_cases hc : cores < 1 ∨ 8 < cores ∨ core < 0 ∨ cores ≤ core
  · rw [if_pos hc, if_pos hc]; rfl
  · rw [if_neg hc, if_neg hc, refLoop_neg l core cores last _ 0 rfl (Nat.zero_le _), Nat.zero_max]
    by_cases h1 : 0 ≤ last ∧ last < l.length
    · rw [if_pos h1]
      cases fromM l core cores (last + 1).toNat with
      | some j => rfl
      | none => cases fromM l core cores 0 with
        | some j => simp only; rw [if_neg (by omega)]
        | none => rfl
    · rw [if_neg h1]
      by_cases h2 : 0 ≤ last
      · rw [fromM_end l core cores (last + 1).toNat (by omega)]
        cases fromM l core cores 0 with
        | some j => simp only; rw [if_neg (by omega)]
        | none => rfl
      · rw [show (last + 1).toNat = 0 by omega]
        cases fromM l core cores 0 with
        | some j => rfl
        | none => rfl

theorem rf_few (l : List Bool) (s : St) (v : V) (hv : RS s 0 v (l.map V.bool)) : ∃ v', rf D f_steadfastlaw19_few [v] s = some (v', s) ∧ RS s 0 v' ((l.take 100).map V.bool) := by
  have hn := hv.slen
  rw [List.length_map] at hn
  have hlt := hv.locLt
  have hr : s.loc.take s.loc.length = s.loc := List.take_length
  by_cases h : (100 : Int) < l.length
  · obtain ⟨v', h1, h2, _⟩ := hv.take (n := 100) (by simp; omega) (k := .i64)
    have hlt' := h2.locLt
    refine ⟨v', ?_, by rw [List.map_take]; exact h2⟩
    rw [rf_o D_steadfastlaw19_few rfl]
    simp only [go_sem, hn, h]
    have h1' : slcv 0 none (some (.int .i64 100)) none v = some v' := h1
    simp only [go_sem, h1', hlt', hr]
  · refine ⟨v, ?_, by rw [List.take_of_length_le (by omega)]; exact hv⟩
    rw [rf_o D_steadfastlaw19_few rfl]
    simp only [go_sem, hn, h, hlt, hr]

theorem rf_shown (s : St) : rf D f_steadfastlaw19_shown [] s = some (.bool true, s) := by
  have rs : ∀ (L : List Blk) (x : List Bool), RS ⟨L ++ [.rw (.agg 20 (x.map .bool))], s.hp⟩ 0 (.sl (.loc L.length) [] 0 x.length (some x.length) 0) (x.map .bool) := fun L x =>
    RS.at_loc (i := L.length) (r := 20) (l := x.map .bool) (by simp) (by simp) (by simp)
  have h1 := rf_Next [true, true, true] 0 1 0 _ _ (by decide) (rs s.loc _)
  have h2 := rf_Next [true, true, true] 0 1 2 _ _ (by decide) (rs (s.loc ++ [.rw (.agg 20 [.bool true, .bool true, .bool true])]) _)
  have h3 := rf_Next [true, true] 1 2 1 _ _ (by decide) (rs (s.loc ++ [.rw (.agg 20 [.bool true, .bool true, .bool true]), .rw (.agg 20 [.bool true, .bool true, .bool true])]) _)
  have h4 := rf_Next [true] 1 2 0 _ _ (by decide) (rs (s.loc ++ [.rw (.agg 20 [.bool true, .bool true, .bool true]), .rw (.agg 20 [.bool true, .bool true, .bool true]), .rw (.agg 20 [.bool true, .bool true])]) _)
  have h5 := rf_Next [true] 2 2 0 _ _ (by decide) (rs (s.loc ++ [.rw (.agg 20 [.bool true, .bool true, .bool true]), .rw (.agg 20 [.bool true, .bool true, .bool true]), .rw (.agg 20 [.bool true, .bool true]), .rw (.agg 20 [.bool true])]) _)
  rw [show nextM [true, true, true] 0 1 0 = (1, 0) by decide] at h1
  rw [show nextM [true, true, true] 0 1 2 = (0, 0) by decide] at h2
  rw [show nextM [true, true] 1 2 1 = (1, 0) by decide] at h3
  rw [show nextM [true] 1 2 0 = (0, 50) by decide] at h4
  rw [show nextM [true] 2 2 0 = (0, 1) by decide] at h5
  simp only [List.map_cons, List.map_nil, List.length_cons, List.length_nil, List.append_assoc, List.cons_append, List.nil_append, List.length_append, Nat.zero_add, Nat.reduceAdd] at h1 h2 h3 h4 h5
  rw [rf_o D_steadfastlaw19_shown rfl]
  simp only [go_sem, h1, h2, h3, h4, h5, List.replicate]

theorem law_QueueNexts (hp : List Blk) (vs : List V) (h : Sh.FitsL hp [.sl 20 .bool, .arr 22 2 (.int .i64), .int .i64] vs) : ∃ s', rf D f_steadfastlaw19_QueueNexts vs ⟨[], hp⟩ = some (.bool true, s') := by
  obtain ⟨r, x, la, rfl, h1, h2, ⟨last, rfl, _⟩⟩ := fits3 h
  obtain ⟨x0, x1, rfl, ⟨a, rfl, _⟩, ⟨b, rfl, _⟩⟩ := arr2 h2
  obtain ⟨l, hl, hlt, hlen, hall⟩ := rs_of_fits h1
  obtain ⟨lb, rfl⟩ := bools_of hall
  refine ⟨⟨[], hp⟩, ?_⟩
  obtain ⟨v', e1, e2⟩ := rf_few lb ⟨[.rw (.agg 22 [.int .i64 a, .int .i64 b])], hp⟩ r (hl.more (.loc' ⟨[], hp⟩ _))
  have hl100 : (lb.take 100).length ≤ 9223372036854775807 := by simp; omega
  have e3 := rf_Next (lb.take 100) a b last _ _ hl100 e2
  have e4 := rf_refNext (lb.take 100) a b last _ _ hl100 e2
  rw [rf_o D_steadfastlaw19_QueueNexts rfl]
  simp [go_sem, rf_shown, rf_Mine, rf_refMine, e1, e3, e4]

/-! ### Which core -/
theorem fromM_some {l : List Bool} {core cores : Int} {i j : Nat} (h : fromM l core cores i = some j) : i ≤ j ∧ ∃ hj : j < l.length, l[j] = true ∧ mine j core cores = true := by
  unfold fromM at h
  have h1 := List.find?_some h
  have h2 := List.mem_of_find?_eq_some h
  rw [List.mem_range'_1] at h2
  simp only [Bool.and_eq_true] at h1
  have hj : j < l.length := by omega
  refine ⟨h2.1, hj, ?_, h1.2⟩
  simpa [List.getD_eq_getElem?_getD, hj] using h1.1
theorem nextM_ok {l : List Bool} {core cores last : Int} (h : (nextM l core cores last).2 = 0) : ∃ hj : (nextM l core cores last).1 < l.length, l[(nextM l core cores last).1] = true ∧ mine (nextM l core cores last).1 core cores = true := by
  unfold nextM at h ⊢
  by_cases hc : cores < 1 ∨ 8 < cores ∨ core < 0 ∨ cores ≤ core
  · rw [if_pos hc] at h; cases h
  · rw [if_neg hc] at h
    simp only [if_neg hc]
    cases h1 : (if 0 ≤ last ∧ last < l.length then fromM l core cores (last + 1).toNat else none) with
    | some j =>
      simp only
      split at h1
      · exact (fromM_some h1).2
      · cases h1
    | none =>
      rw [h1] at h
      simp only at h ⊢
      cases h2 : fromM l core cores 0 with
      | some j => exact (fromM_some h2).2
      | none => rw [h2] at h; cases h
theorem mine_inj {i : Nat} {c d : Int} {n : Int} (h : mine i c n = true) (h' : mine i d n = true) : c = d := by
  simp only [mine, Bool.and_eq_true, decide_eq_true_eq] at h h'
  rw [← h.2, ← h'.2]
theorem map_set' (t : List Bool) (i : Nat) (b : Bool) : (t.map V.bool).set i (.bool b) = (t.set i b).map V.bool := by rw [List.map_set]

/-- 1 .. 8 cores. -/
theorem cores_of (n : Int) : ∃ c : Nat, 1 ≤ c ∧ c ≤ 8 ∧ IntKind.i64.wrap ((if n.tmod 8 < 0 then IntKind.i64.wrap (0 - n.tmod 8) else n.tmod 8) + 1) = c := by
  have h1 := Int.tmod_lt_of_pos n (show (0 : Int) < 8 by decide)
  have h2 : -8 < n.tmod 8 := by
    have := Int.lt_tmod_of_pos n (show (0 : Int) < 8 by decide)
    exact this
  refine ⟨(n.tmod 8).natAbs + 1, by omega, by omega, ?_⟩
  split
  · rw [IntWalk.i64_in (0 - n.tmod 8) (by omega), IntWalk.i64_in _ (by omega)]; omega
  · rw [IntWalk.i64_in _ (by omega)]; omega

theorem coresA (l : List Bool) (hl100 : l.length ≤ 100) (v : V) (last : Int) (hp : List Blk) (e2 : ∀ L, RS ⟨L, hp⟩ 0 v (l.map .bool)) (hlt0 : v.locLt 0 = true) (c : Nat) (hc1 : 1 ≤ c) (hc8 : c ≤ 8) :
    ∃ r, rc D 0 (.loop [0, 2, 7, 8, 9, 10] b_steadfastlaw19_QueueCores_0) [(0, v), (2, .int .i64 last), (7, .bool true), (8, .int .i64 c), (9, .sl (.loc 0) [] 0 l.length (some l.length) 0), (10, .int .i64 0)] ⟨[.rw (.agg 20 (List.replicate l.length (.bool false)))], hp⟩ = some r ∧
      ∃ told, r = (.exit 0, [(0, v), (2, .int .i64 last), (7, .bool true), (8, .int .i64 c), (9, .sl (.loc 0) [] 0 l.length (some l.length) 0), (10, .int .i64 c), (32, .bool false)], ⟨[.rw (.agg 20 told)], hp⟩) := by
  refine loop_ex (fun x : Nat × List Bool => [(0, v), (2, .int .i64 last), (7, .bool true), (8, .int .i64 c), (9, .sl (.loc 0) [] 0 l.length (some l.length) 0), (10, .int .i64 x.1)]) (fun x => ⟨[.rw (.agg 20 (x.2.map .bool))], hp⟩) _ (fun x => c - x.1)
    (fun x => x.1 ≤ c ∧ x.2.length = l.length ∧ ∀ i : Nat, x.2[i]? = some true → ∃ d : Nat, d < x.1 ∧ mine i d c = true) (0, List.replicate l.length false) ?_ ?_ ?_ ?_
  · rintro ⟨d, told⟩ ⟨h1, h2, h3⟩
    simp only at h1 h2 h3
    by_cases hd : d < c
    · left
      have e3 := rf_Next l d c last ⟨[.rw (.agg 20 (told.map .bool))], hp⟩ v (by omega) (e2 _)
      have c1 : (d : Int) < c := by omega
      have c3 : IntKind.i64.wrap ((d : Int) + 1) = (d : Int) + 1 := by rw [IntWalk.i64_in _ (by omega)]
      have hn := (e2 [.rw (.agg 20 (told.map .bool))]).slen
      rw [List.length_map] at hn
      have hlt1 : v.locLt 1 = true := locLt_mono (Nat.zero_le _) hlt0
      by_cases h0 : (nextM l d c last).2 = 0
      · obtain ⟨hj, hj1, hj2⟩ := nextM_ok h0
        generalize (nextM l d c last).1 = j at hj hj1 hj2 e3
        rw [h0] at e3
        have hnt : told[j]? = some false := by
          have hjt : j < told.length := by omega
          rw [List.getElem?_eq_getElem hjt]
          cases hb : told[j] with
          | false => rfl
          | true =>
            obtain ⟨d', hd', hm⟩ := h3 j (by rw [List.getElem?_eq_getElem hjt, hb])
            have := mine_inj hm hj2
            omega
        have c2 : (j : Int) < l.length := by omega
        have c4 : ¬ ((j : Int) < 0) := by omega
        have c5 : ¬ ((l.length : Int) ≤ j) := by omega
        have c6 : (0 : Int) ≤ j := by omega
        refine ⟨(d + 1, told.set j true), ⟨by simp only; omega, by simp [h2], ?_⟩, by simp only; omega, ?_⟩
        · intro i hi
          simp only [List.getElem?_set] at hi
          split at hi
          · rename_i hij
            subst hij
            exact ⟨d, by simp, hj2⟩
          · obtain ⟨d', hd', hm⟩ := h3 i hi
            exact ⟨d', by simp only; omega, hm⟩
        · have hnt2 : (told.map V.bool)[j]? = some (.bool false) := by rw [List.getElem?_map, hnt]; rfl
          simp only [go_sem, b_steadfastlaw19_QueueCores_0, e3, c1, c2, c3, c4, c5, c6, hn, hnt2, hlt1, map_set', Int.toNat_natCast]
          rfl
      · refine ⟨(d + 1, told), ⟨by simp only; omega, h2, fun i hi => ?_⟩, by simp only; omega, ?_⟩
        · obtain ⟨d', hd', hm⟩ := h3 i hi
          exact ⟨d', by simp only; omega, hm⟩
        · simp only [go_sem, b_steadfastlaw19_QueueCores_0, e3, c1, c3, h0, hlt1]
          rfl
    · right
      have hdc : d = c := by omega
      subst hdc
      refine ⟨_, ?_, told.map .bool, rfl⟩
      have c1 : ¬ ((d : Int) < d) := by omega
      simp only [go_sem, b_steadfastlaw19_QueueCores_0, c1]
  · exact ⟨Nat.zero_le _, by simp, fun i hi => by
      rw [List.getElem?_replicate] at hi
      split at hi <;> cases hi⟩
  · rfl
  · simp

/-- How many cores have a thread. -/
def count (i : Nat) (c : Int) : Nat → Nat
  | 0 => 0
  | d + 1 => count i c d + if mine i d c then 1 else 0
theorem count_one (i c : Nat) (hc1 : 1 ≤ c) : ∀ d, d ≤ c → count i c d = if i % c < d then 1 else 0
  | 0, _ => by simp [count]
  | d + 1, h => by
    rw [count, count_one i c hc1 d (by omega)]
    have : mine i d c = decide (i % c = d) := by
      simp only [mine]
      have h1 : (1 : Int) ≤ c := by omega
      have h2 : (0 : Int) ≤ i := by omega
      have h3 : (i : Int).tmod c = ((i % c : Nat) : Int) := by rw [Int.tmod_eq_emod_of_nonneg (by omega)]; rfl
      simp only [h1, h2, h3, decide_true, Bool.true_and]
      congr 1
      exact propext ⟨fun h => by omega, fun h => by omega⟩
    rw [this]
    by_cases h1 : i % c < d
    · rw [if_pos h1, if_neg (by simp; omega), if_pos (by omega)]
    · by_cases h2 : i % c = d
      · simp [h2]
      · rw [if_neg h1, if_neg (by simpa using h2), if_neg (by omega)]

theorem coresB (v : V) (hp : List Blk) (L : List Blk) (hltL : v.locLt L.length = true) (hL : (L.all (blkLt L.length)) = true) (c i : Nat) (hc1 : 1 ≤ c) (hc8 : c ≤ 8) :
    rc D 0 (.loop [0, 7, 8, 13, 14, 15] b_steadfastlaw19_QueueCores_2) [(0, v), (7, .bool true), (8, .int .i64 c), (13, .int .i64 i), (14, .int .i64 0), (15, .int .i64 0)] ⟨L, hp⟩ =
      some (.exit 4, [(0, v), (7, .bool true), (8, .int .i64 c), (13, .int .i64 i), (14, .int .i64 1), (15, .int .i64 c), (70, .bool false)], ⟨L, hp⟩) := by
  rw [loop_runs (fun d : Nat => [(0, v), (7, .bool true), (8, .int .i64 c), (13, .int .i64 i), (14, .int .i64 (count i c d)), (15, .int .i64 d)]) (fun _ => ⟨L, hp⟩)
    (fun _ => some (.exit 4, [(0, v), (7, .bool true), (8, .int .i64 c), (13, .int .i64 i), (14, .int .i64 1), (15, .int .i64 c), (70, .bool false)], ⟨L, hp⟩)) (fun d => c - d) (fun d => d ≤ c) 0 ?_ (Nat.zero_le _) ?_ ?_]
  · intro d hd
    by_cases hlt : d < c
    · left
      have c1 : (d : Int) < c := by omega
      have c3 : IntKind.i64.wrap ((d : Int) + 1) = (d : Int) + 1 := by rw [IntWalk.i64_in _ (by omega)]
      have hk := count_one i c hc1 d hd
      have c4 : IntKind.i64.wrap ((count i c d : Int) + 1) = (count i c d : Int) + 1 := by
        rw [IntWalk.i64_in _ (by split at hk <;> omega)]
      refine ⟨d + 1, by omega, by omega, rfl, ?_⟩
      cases hm : mine i d c <;> simp [go_sem, b_steadfastlaw19_QueueCores_2, rf_Mine, c1, c3, c4, hm, count, hltL, hL]
    · right
      have : d = c := by omega
      subst this
      have c1 : ¬ ((d : Int) < d) := by omega
      have hk := count_one i d hc1 d (Nat.le_refl _)
      rw [if_pos (Nat.mod_lt _ hc1)] at hk
      simp only [go_sem, b_steadfastlaw19_QueueCores_2, c1, hk]
  · rfl
  · rfl
theorem coresC (v : V) (len : Nat) (hlen : len ≤ 100) (hv : V.slen false v = some len) (hp : List Blk) (hlt0 : v.locLt 0 = true) (told : List V) (c : Nat) (hc1 : 1 ≤ c) (hc8 : c ≤ 8) :
    rc D 0 (.loop [0, 7, 8, 13] b_steadfastlaw19_QueueCores_1) [(0, v), (7, .bool true), (8, .int .i64 c), (13, .int .i64 0)] ⟨[.rw (.agg 20 told)], hp⟩ =
      some (.exit 2, [(0, v), (7, .bool true), (8, .int .i64 c), (13, .int .i64 len), (65, .bool false)], ⟨[.rw (.agg 20 told)], hp⟩) := by
  have hlt1 : v.locLt 1 = true := locLt_mono (Nat.zero_le _) hlt0
  rw [loop_runs (fun i : Nat => [(0, v), (7, .bool true), (8, .int .i64 c), (13, .int .i64 i)]) (fun _ => ⟨[.rw (.agg 20 told)], hp⟩)
    (fun _ => some (.exit 2, [(0, v), (7, .bool true), (8, .int .i64 c), (13, .int .i64 len), (65, .bool false)], ⟨[.rw (.agg 20 told)], hp⟩)) (fun i => len - i) (fun i => i ≤ len) 0 ?_ (Nat.zero_le _) ?_ ?_]
  · intro i hi
    by_cases hlt : i < len
    · left
      have c1 : (i : Int) < len := by omega
      have c3 : IntKind.i64.wrap ((i : Int) + 1) = (i : Int) + 1 := by rw [IntWalk.i64_in _ (by omega)]
      have hB := coresB v hp [.rw (.agg 20 told)] hlt1 (by simp [blkLt, V.locLt]) c i hc1 hc8
      refine ⟨i + 1, by omega, by omega, rfl, ?_⟩
      simp only [go_sem, b_steadfastlaw19_QueueCores_1, c1, c3, hv, hB, hlt1]
      rfl
    · right
      have : i = len := by omega
      subst this
      have c1 : ¬ ((i : Int) < i) := by omega
      simp only [go_sem, b_steadfastlaw19_QueueCores_1, c1, hv]
  · rfl
  · rfl
theorem law_QueueCores (hp : List Blk) (vs : List V) (h : Sh.FitsL hp [.sl 20 .bool, .int .i64, .int .i64] vs) : ∃ s', rf D f_steadfastlaw19_QueueCores vs ⟨[], hp⟩ = some (.bool true, s') := by
  obtain ⟨r, x, la, rfl, h1, ⟨n, rfl, _⟩, ⟨last, rfl, _⟩⟩ := fits3 h
  obtain ⟨l0, hl, hlt, hlen, hall⟩ := rs_of_fits h1
  obtain ⟨lb0, rfl⟩ := bools_of hall
  refine ⟨⟨[], hp⟩, ?_⟩
  obtain ⟨v, e1, e2⟩ := rf_few lb0 ⟨[], hp⟩ r hl
  have hl100 : (lb0.take 100).length ≤ 100 := by simp; omega
  generalize lb0.take 100 = l at e2 hl100
  have hn := e2.slen
  rw [List.length_map] at hn
  have hlt0 := e2.locLt
  simp only [List.length_nil] at hlt0
  obtain ⟨c, hc1, hc8, hc⟩ := cores_of n
  have hmost : (l.length : Int) ≤ (most : Int) := by simp only [most]; omega
  have hk0 : (0 : Int) ≤ l.length := by omega
  obtain ⟨_, hA, told, rfl⟩ := coresA l hl100 v last hp (fun L => e2.more (.loc' ⟨[], hp⟩ L)) hlt0 c hc1 hc8
  rw [rf_o D_steadfastlaw19_QueueCores rfl]
  simp only [go_sem, rf_shown, e1, hn, hc, hmost, hk0, Int.le_refl, Int.toNat_natCast, hA]
  have hC := coresC v l.length hl100 hn hp hlt0 told c hc1 hc8
  simp only [go_sem, hC]

/-! ### Turns -/
def cand (l : List Bool) (d c : Int) (i : Nat) : Bool := l.getD i false && mine i d c
theorem fromM_none {l : List Bool} {d c : Int} {i : Nat} (h : fromM l d c i = none) : ∀ j, i ≤ j → j < l.length → cand l d c j = false := by
  intro j h1 h2
  unfold fromM at h
  have := List.find?_eq_none.1 h j (by rw [List.mem_range'_1]; omega)
  simpa [cand] using this
theorem fromM_first {l : List Bool} {d c : Int} : ∀ (n i j : Nat), l.length - i = n → fromM l d c i = some j → cand l d c j = true ∧ ∀ k, i ≤ k → k < j → cand l d c k = false := by
  intro n
  induction n with
  | zero =>
    intro i j hn h
    rw [fromM_end _ _ _ _ (by omega)] at h; cases h
  | succ n ih =>
    intro i j hn h
    have hi : i < l.length := by omega
    rw [fromM_step _ _ _ _ hi] at h
    have hc : cand l d c i = (l[i] && mine i d c) := by simp [cand, List.getD_eq_getElem?_getD, hi]
    by_cases hm : (l[i] && mine i d c) = true
    · rw [if_pos hm] at h
      cases h
      exact ⟨by rw [hc]; exact hm, fun k h1 h2 => by omega⟩
    · rw [if_neg hm] at h
      obtain ⟨h1, h2⟩ := ih (i + 1) j (by omega) h
      refine ⟨h1, fun k h3 h4 => ?_⟩
      by_cases hk : k = i
      · subst hk; rw [hc]; simpa using hm
      · exact h2 k (by omega) h4
theorem next_cases (l : List Bool) (d c last : Int) (hv : ¬ (c < 1 ∨ 8 < c ∨ d < 0 ∨ c ≤ d)) :
    ((∀ i, i < l.length → cand l d c i = false) ∧ nextM l d c last = (0, 50)) ∨
    ∃ j : Nat, nextM l d c last = (j, 0) ∧ j < l.length ∧ cand l d c j = true ∧
      ((0 ≤ last ∧ last < j ∧ ∀ k : Nat, last < k → k < j → cand l d c k = false) ∨
       ((0 ≤ last → last < l.length → ∀ k : Nat, last < k → k < l.length → cand l d c k = false) ∧ ∀ k, k < j → cand l d c k = false)) := by
  unfold nextM
  simp only [if_neg hv]
  cases h1 : (if 0 ≤ last ∧ last < l.length then fromM l d c (last + 1).toNat else none) with
  | some j =>
    right
    split at h1
    · rename_i hl
      obtain ⟨h2, h3, h4, h5⟩ := fromM_some h1
      have h6 := fromM_first _ _ _ rfl h1
      refine ⟨j, rfl, h3, h6.1, .inl ⟨hl.1, by omega, fun k h7 h8 => h6.2 k (by omega) h8⟩⟩
    · cases h1
  | none =>
    simp only
    cases h2 : fromM l d c 0 with
    | some j =>
      right
      obtain ⟨_, h3, _⟩ := fromM_some h2
      have h6 := fromM_first _ _ _ rfl h2
      refine ⟨j, rfl, h3, h6.1, .inr ⟨fun h7 h8 k h9 h10 => ?_, fun k hk => h6.2 k (Nat.zero_le _) hk⟩⟩
      rw [if_pos ⟨h7, h8⟩] at h1
      exact fromM_none h1 k (by omega) h10
    | none =>
      left
      exact ⟨fun i hi => fromM_none h2 i (Nat.zero_le _) hi, rfl⟩

theorem count_le : ∀ {a b : List Bool}, a.length = b.length → (∀ i : Nat, a[i]? = some true → b[i]? = some true) → a.count true ≤ b.count true
  | [], [], _, _ => Nat.le_refl _
  | x :: a, y :: b, h, hi => by
    have ih := count_le (a := a) (b := b) (by simpa using h) (fun i hh => by simpa using hi (i + 1) (by simpa using hh))
    have h0 := hi 0
    simp only [List.getElem?_cons_zero, Option.some.injEq] at h0
    cases x <;> cases y <;> simp_all <;> omega
  | [], _ :: _, h, _ => by simp at h
  | _ :: _, [], h, _ => by simp at h
def candL (l : List Bool) (d c : Int) : List Bool := (List.range l.length).map (cand l d c)
theorem candL_len (l : List Bool) (d c : Int) : (candL l d c).length = l.length := by simp [candL]
theorem candL_get (l : List Bool) (d c : Int) (i : Nat) (h : i < l.length) : (candL l d c)[i]? = some (cand l d c i) := by simp [candL, h]
theorem count_set_true {t : List Bool} {j : Nat} (h : t[j]? = some false) : (t.set j true).count true = t.count true + 1 := by
  obtain ⟨hj, hv⟩ := List.getElem?_eq_some_iff.1 h
  rw [List.count_set hj]
  simp [hv]

/-- What has been told: from a on, around the end. -/
def Seen (l : List Bool) (d c : Int) (a last : Nat) (seen : List Bool) : Prop :=
  seen.length = l.length ∧ ∀ i, i < l.length → (seen[i]? = some true ↔ cand l d c i = true ∧ (if a ≤ last then a ≤ i ∧ i ≤ last else a ≤ i ∨ i ≤ last))
theorem seen_next {l : List Bool} {d c : Int} (hv : ¬ (c < 1 ∨ 8 < c ∨ d < 0 ∨ c ≤ d)) {a last : Nat} (hla : last < l.length) {seen : List Bool} (hs : Seen l d c a last seen) (hk : seen.count true < (candL l d c).count true) :
    ∃ j : Nat, nextM l d c last = (j, 0) ∧ j < l.length ∧ cand l d c j = true ∧ seen[j]? = some false ∧ Seen l d c a j (seen.set j true) := by
  obtain ⟨h1, h2⟩ := hs
  -- one that has not been told
  have hex : ∃ i, i < l.length ∧ cand l d c i = true ∧ seen[i]? ≠ some true := by
    apply Classical.byContradiction
    intro hn
    have := count_le (a := candL l d c) (b := seen) (by rw [candL_len, h1]) (fun i hi => by
      have hil : i < l.length := by have := (List.getElem?_eq_some_iff.1 hi).1; rwa [candL_len] at this
      rw [candL_get l d c i hil] at hi
      apply Classical.byContradiction
      intro hh
      exact hn ⟨i, hil, by simpa using hi, hh⟩)
    omega
  obtain ⟨u, hu1, hu2, hu3⟩ := hex
  have hu4 : ¬ (if a ≤ last then a ≤ u ∧ u ≤ last else a ≤ u ∨ u ≤ last) := fun hc => hu3 ((h2 u hu1).2 ⟨hu2, hc⟩)
  rcases next_cases l d c last hv with ⟨h3, _⟩ | ⟨j, h3, h4, h5, h6⟩
  · rw [h3 u hu1] at hu2; cases hu2
  · refine ⟨j, h3, h4, h5, ?_⟩
    have key : ¬ (if a ≤ last then a ≤ j ∧ j ≤ last else a ≤ j ∨ j ≤ last) ∧ (∀ i, i < l.length → i ≠ j → cand l d c i = true → ((if a ≤ j then a ≤ i ∧ i ≤ j else a ≤ i ∨ i ≤ j) ↔ (if a ≤ last then a ≤ i ∧ i ≤ last else a ≤ i ∨ i ≤ last))) := by
      rcases h6 with ⟨_, h7, h8⟩ | ⟨h7, h8⟩
      · have h8' : ∀ k : Nat, last < k → k < j → cand l d c k = false := fun k hk => h8 k (by omega)
        by_cases hal : a ≤ last
        · refine ⟨by rw [if_pos hal]; omega, fun i hi hij hc => ?_⟩
          rw [if_pos hal, if_pos (by omega)]
          by_cases hil : last < i ∧ i < j
          · rw [h8' i hil.1 hil.2] at hc; cases hc
          · omega
        · have hja : j < a := by
            rw [if_neg hal] at hu4
            apply Classical.byContradiction
            intro hh
            rw [h8' u (by omega) (by omega)] at hu2
            cases hu2
          refine ⟨by rw [if_neg hal]; omega, fun i hi hij hc => ?_⟩
          rw [if_neg hal, if_neg (by omega)]
          by_cases hil : last < i ∧ i < j
          · rw [h8' i hil.1 hil.2] at hc; cases hc
          · omega
      · have h7' : ∀ k : Nat, last < k → k < l.length → cand l d c k = false := fun k hk => h7 (by omega) (by omega) k (by omega)
        have hul : ¬ last < u := fun hh => by rw [h7' u hh hu1] at hu2; cases hu2
        have huj : j ≤ u := by
          apply Classical.byContradiction
          intro hh
          rw [h8 u (by omega)] at hu2; cases hu2
        by_cases hal : a ≤ last
        · rw [if_pos hal] at hu4
          refine ⟨by rw [if_pos hal]; omega, fun i hi hij hc => ?_⟩
          rw [if_pos hal, if_neg (by omega)]
          have hi1 : ¬ last < i := fun hh => by rw [h7' i hh hi] at hc; cases hc
          have hi2 : ¬ i < j := fun hh => by rw [h8 i hh] at hc; cases hc
          omega
        · rw [if_neg hal] at hu4; omega
    have hjf : seen[j]? = some false := by
      have hjs : j < seen.length := by omega
      rw [List.getElem?_eq_getElem hjs]
      cases hb : seen[j] with
      | false => rfl
      | true => exact absurd ((h2 j h4).1 (by rw [List.getElem?_eq_getElem hjs, hb])).2 key.1
    refine ⟨hjf, by simp [h1], fun i hi => ?_⟩
    by_cases hij : j = i
    · subst hij
      rw [List.getElem?_set_self (by omega)]
      simp only [true_iff]
      refine ⟨h5, ?_⟩
      split <;> omega
    · rw [List.getElem?_set_ne hij, h2 i hi]
      constructor
      · rintro ⟨hc, hh⟩; exact ⟨hc, (key.2 i hi (Ne.symm hij) hc).2 hh⟩
      · rintro ⟨hc, hh⟩; exact ⟨hc, (key.2 i hi (Ne.symm hij) hc).1 hh⟩

theorem candL_take {l : List Bool} {d c : Int} {i : Nat} (h : i < l.length) : ((candL l d c).take (i + 1)).count true = ((candL l d c).take i).count true + (if cand l d c i then 1 else 0) := by
  rw [List.take_add_one, candL_get l d c i h, List.count_append]
  simp only [Option.toList_some]
  cases cand l d c i <;> simp
theorem turnsA (l : List Bool) (hl : l.length ≤ 100) (v : V) (last : Int) (X : Blk) (hX : blkLt 1 X = true) (hp : List Blk) (e2 : RS ⟨[X], hp⟩ 0 v (l.map .bool)) (c d : Nat) :
    rc D 0 (.loop [0, 2, 7, 8, 9, 10, 11] b_steadfastlaw19_QueueTurns_0) [(0, v), (2, .int .i64 last), (7, .bool true), (8, .int .i64 c), (9, .int .i64 d), (10, .int .i64 0), (11, .int .i64 0)] ⟨[X], hp⟩ =
      some (.exit 0, [(0, v), (2, .int .i64 last), (7, .bool true), (8, .int .i64 c), (9, .int .i64 d), (10, .int .i64 ((candL l d c).count true : Nat)), (11, .int .i64 l.length), (41, .bool false)], ⟨[X], hp⟩) := by
  have hn := e2.slen
  rw [List.length_map] at hn
  have hlt := e2.locLt
  simp only [List.length_cons, List.length_nil, Nat.zero_add] at hlt
  rw [loop_runs (fun i : Nat => [(0, v), (2, .int .i64 last), (7, .bool true), (8, .int .i64 c), (9, .int .i64 d), (10, .int .i64 (((candL l d c).take i).count true : Nat)), (11, .int .i64 i)]) (fun _ => ⟨[X], hp⟩)
    (fun _ => some (.exit 0, [(0, v), (2, .int .i64 last), (7, .bool true), (8, .int .i64 c), (9, .int .i64 d), (10, .int .i64 ((candL l d c).count true : Nat)), (11, .int .i64 l.length), (41, .bool false)], ⟨[X], hp⟩)) (fun i => l.length - i) (fun i => i ≤ l.length) 0 ?_ (Nat.zero_le _) ?_ ?_]
  · intro i hi
    by_cases hil : i < l.length
    · left
      have h7 := e2.sad (k := .i64) (j := i) (by simpa using hil)
      have h8 := e2.ld (j := i) (by simpa using hil)
      rw [List.getElem_map] at h8
      have c1 : (i : Int) < l.length := by omega
      have c3 : IntKind.i64.wrap ((i : Int) + 1) = (i : Int) + 1 := by rw [IntWalk.i64_in _ (by omega)]
      have hk : ((candL l d c).take i).count true ≤ 100 := Nat.le_trans List.count_le_length (by simp; omega)
      have c4 : IntKind.i64.wrap ((((candL l d c).take i).count true : Nat) + 1 : Int) = ((((candL l d c).take i).count true : Nat) : Int) + 1 := by rw [IntWalk.i64_in _ (by omega)]
      have hc : cand l d c i = (l[i] && mine i d c) := by simp [cand, List.getD_eq_getElem?_getD, hil]
      refine ⟨i + 1, by omega, by omega, rfl, ?_⟩
      simp only [candL_take hil, hc]
      simp only [go_sem, b_steadfastlaw19_QueueTurns_0, hn, h7, h8, rf_Mine, c1]
      cases hb1 : l[i]
      · simp only [go_sem, c3, hlt, hX]; rfl
      · cases hb2 : mine i d c
        · simp only [go_sem, c3, hlt, hX]; rfl
        · simp only [go_sem, c3, c4, hlt, hX]; rfl
    · right
      have hj' : i = l.length := by omega
      subst hj'
      have c1 : ¬ ((l.length : Int) < l.length) := by omega
      rw [List.take_of_length_le (by rw [candL_len]; exact Nat.le_refl _)]
      simp only [go_sem, b_steadfastlaw19_QueueTurns_0, hn, c1]
  · rfl
  · rfl

theorem turnsB (l : List Bool) (hl : l.length ≤ 100) (v : V) (last : Int) (X : Blk) (hX : blkLt 2 X = true) (hp : List Blk) (e2 : ∀ Y, RS ⟨[X, Y], hp⟩ 0 v (l.map .bool)) (c d : Nat) (hv : ¬ ((c : Int) < 1 ∨ 8 < (c : Int) ∨ (d : Int) < 0 ∨ (c : Int) ≤ d)) :
    ∃ r, rc D 0 (.loop [0, 2, 7, 8, 9, 10, 12, 13] b_steadfastlaw19_QueueTurns_1) [(0, v), (2, .int .i64 last), (7, .bool true), (8, .int .i64 c), (9, .int .i64 d), (10, .int .i64 ((candL l d c).count true : Nat)), (12, .sl (.loc 1) [] 0 l.length (some l.length) 0), (13, .int .i64 0)] ⟨[X, .rw (.agg 20 ((List.replicate l.length false).map .bool))], hp⟩ = some r ∧
      ∃ la Y x1 x2, r = (.exit 2, [(0, v), (2, .int .i64 la), (7, .bool true), (8, .int .i64 c), (9, .int .i64 d), (10, .int .i64 ((candL l d c).count true : Nat)), x1, x2, (61, .bool false)], ⟨[X, Y], hp⟩) := by
  refine loop_ex (fun x : Nat × Int × List Bool => [(0, v), (2, .int .i64 x.2.1), (7, .bool true), (8, .int .i64 c), (9, .int .i64 d), (10, .int .i64 ((candL l d c).count true : Nat)), (12, .sl (.loc 1) [] 0 l.length (some l.length) 0), (13, .int .i64 x.1)]) (fun x => ⟨[X, .rw (.agg 20 (x.2.2.map .bool))], hp⟩) _ (fun x => (candL l d c).count true - x.1)
    (fun x => x.1 ≤ (candL l d c).count true ∧ x.2.2.count true = x.1 ∧ x.2.2.length = l.length ∧ (x.1 = 0 → x.2.2 = List.replicate l.length false) ∧ (x.1 ≠ 0 → ∃ (a la : Nat), la < l.length ∧ x.2.1 = la ∧ Seen l d c a la x.2.2)) (0, last, List.replicate l.length false) ?_ ?_ ?_ ?_
  · rintro ⟨k, la, seen⟩ ⟨h1, h2, h3, h4, h5⟩
    simp only at h1 h2 h3 h4 h5
    have hk100 : (candL l d c).count true ≤ 100 := Nat.le_trans List.count_le_length (by rw [candL_len]; exact hl)
    have e3 := rf_Next l d c la ⟨[X, .rw (.agg 20 (seen.map .bool))], hp⟩ v (by omega) (e2 _)
    have hn := (e2 (.rw (.agg 20 (seen.map .bool)))).slen
    rw [List.length_map] at hn
    have hlt := (e2 (.rw (.agg 20 (seen.map .bool)))).locLt
    simp only [List.length_cons, List.length_nil, Nat.zero_add, Nat.reduceAdd] at hlt
    by_cases hk : k < (candL l d c).count true
    · left
      have c1 : (k : Int) < ((candL l d c).count true : Nat) := by omega
      have c3 : IntKind.i64.wrap ((k : Int) + 1) = (k : Int) + 1 := by rw [IntWalk.i64_in _ (by omega)]
      have key : ∃ j : Nat, nextM l d c la = (j, 0) ∧ j < l.length ∧ cand l d c j = true ∧ seen[j]? = some false ∧ ∃ a : Nat, Seen l d c a j (seen.set j true) := by
        by_cases hk0 : k = 0
        · have hs := h4 hk0
          subst hs
          have hfalse : ∀ i : Nat, i < l.length → (List.replicate l.length false)[i]? = some false := fun i hi => by simp [hi]
          rcases next_cases l d c la hv with ⟨h6, _⟩ | ⟨j, h6, h7, h8, _⟩
          · have : (candL l d c).count true = 0 := by
              rw [List.count_eq_zero]
              intro hm
              simp only [candL, List.mem_map, List.mem_range] at hm
              obtain ⟨i, hi, hh⟩ := hm
              rw [h6 i hi] at hh; cases hh
            omega
          · refine ⟨j, h6, h7, h8, hfalse j h7, j, by simp, fun i hi => ?_⟩
            rw [if_pos (Nat.le_refl _)]
            by_cases hij : j = i
            · subst hij
              rw [List.getElem?_set_self (by simpa using h7)]
              simp [h8]
            · rw [List.getElem?_set_ne hij, hfalse i hi]
              constructor
              · intro hh; cases hh
              · rintro ⟨_, hh⟩; omega
        · obtain ⟨a, la', h6, rfl, h7⟩ := h5 hk0
          obtain ⟨j, g1, g2, g3, g4, g5⟩ := seen_next hv h6 h7 (by omega)
          exact ⟨j, g1, g2, g3, g4, a, g5⟩
      obtain ⟨j, g1, g2, g3, g4, a, g5⟩ := key
      rw [g1] at e3
      simp only at e3
      have h7 := (e2 (.rw (.agg 20 (seen.map .bool)))).sad (k := .i64) (j := j) (by simpa using g2)
      have h8 := (e2 (.rw (.agg 20 (seen.map .bool)))).ld (j := j) (by simpa using g2)
      rw [List.getElem_map] at h8
      have g3' := g3
      simp only [cand, List.getD_eq_getElem?_getD, List.getElem?_eq_getElem g2, Option.getD_some, Bool.and_eq_true] at g3'
      have hm := g3'.2
      simp only [mine, Bool.and_eq_true, decide_eq_true_eq] at hm
      rw [g3'.1] at h8
      have c2 : (j : Int) < l.length := by omega
      have c4 : ¬ ((j : Int) < 0) := by omega
      have c5 : ¬ ((l.length : Int) ≤ j) := by omega
      have c6 : (0 : Int) ≤ j := by omega
      have c7 : ¬ ((c : Int) = 0) := by omega
      have hnt2 : (seen.map V.bool)[j]? = some (.bool false) := by rw [List.getElem?_map, g4]; rfl
      refine ⟨(k + 1, (j : Int), seen.set j true), ⟨by simp only; omega, by simp only; rw [count_set_true g4, h2], by simp [h3], fun h => by simp at h, fun _ => ⟨a, j, g2, rfl, g5⟩⟩, by simp only; omega, ?_⟩
      simp only [go_sem, b_steadfastlaw19_QueueTurns_1, e3, c1, c2, c3, c4, c5, c6, c7, hn, h7, h8, hnt2, hlt, hX, map_set', Int.toNat_natCast, hm.2]
      rfl
    · right
      have hkc : k = (candL l d c).count true := by omega
      have c1 : ¬ ((k : Int) < ((candL l d c).count true : Nat)) := by omega
      refine ⟨_, ?_, la, .rw (.agg 20 (seen.map .bool)), (12, .sl (.loc 1) [] 0 l.length (some l.length) 0), (13, .int .i64 k), rfl⟩
      simp only [go_sem, b_steadfastlaw19_QueueTurns_1, c1]
  · exact ⟨Nat.zero_le _, by simp [List.count_replicate], by simp, fun _ => rfl, fun h => absurd rfl h⟩
  · rfl
  · rfl

theorem law_QueueTurns (hp : List Blk) (vs : List V) (h : Sh.FitsL hp [.sl 20 .bool, .arr 22 2 (.int .i64), .int .i64] vs) : ∃ s', rf D f_steadfastlaw19_QueueTurns vs ⟨[], hp⟩ = some (.bool true, s') := by
  obtain ⟨r, x, la, rfl, h1, h2, ⟨last, rfl, _⟩⟩ := fits3 h
  obtain ⟨x0, x1, rfl, ⟨a, rfl, _⟩, ⟨b, rfl, _⟩⟩ := arr2 h2
  obtain ⟨l0, hl, hlt, hlen, hall⟩ := rs_of_fits h1
  obtain ⟨lb0, rfl⟩ := bools_of hall
  refine ⟨⟨[], hp⟩, ?_⟩
  obtain ⟨v, e1, e2⟩ := rf_few lb0 ⟨[.rw (.agg 22 [.int .i64 a, .int .i64 b])], hp⟩ r (hl.more (.loc' ⟨[], hp⟩ _))
  have hl100 : (lb0.take 100).length ≤ 100 := by simp; omega
  generalize lb0.take 100 = l at e2 hl100
  have hn := e2.slen
  rw [List.length_map] at hn
  obtain ⟨c, hc1, hc8, hc⟩ := cores_of b
  obtain ⟨d, hd1, hd2⟩ : ∃ d : Nat, d < c ∧ (if a.tmod c < 0 then IntKind.i64.wrap (0 - a.tmod c) else a.tmod c) = d := by
    have g1 := Int.tmod_lt_of_pos a (show (0 : Int) < c by omega)
    have g2 := Int.lt_tmod_of_pos a (show (0 : Int) < c by omega)
    refine ⟨(a.tmod c).natAbs, by omega, ?_⟩
    split
    · rw [IntWalk.i64_in _ (by omega)]; omega
    · omega
  have hv : ¬ ((c : Int) < 1 ∨ 8 < (c : Int) ∨ (d : Int) < 0 ∨ (c : Int) ≤ d) := by omega
  have hc0 : ¬ ((c : Int) = 0) := by omega
  have hmost : (l.length : Int) ≤ (most : Int) := by simp only [most]; omega
  have hk0 : (0 : Int) ≤ l.length := by omega
  have hA := turnsA l hl100 v last (.rw (.agg 22 [.int .i64 a, .int .i64 b])) (by simp [blkLt, V.locLt]) hp e2 c d
  obtain ⟨_, hB, la, Y, y1, y2, rfl⟩ := turnsB l hl100 v last (.rw (.agg 22 [.int .i64 a, .int .i64 b])) (by simp [blkLt, V.locLt]) hp (fun Y => e2.more (.loc' _ [Y])) c d hv
  have e3 := rf_Next l d c la ⟨[.rw (.agg 22 [.int .i64 a, .int .i64 b]), Y], hp⟩ v (by omega) (e2.more (.loc' _ [Y]))
  have hfin : decide ((nextM l d c la).2 = 50) = decide (((candL l d c).count true : Int) = 0) := by
    rcases next_cases l d c la hv with ⟨h6, h7⟩ | ⟨j, h6, h7, h8, _⟩
    · rw [h7]
      have : (candL l d c).count true = 0 := by
        rw [List.count_eq_zero]
        intro hm
        simp only [candL, List.mem_map, List.mem_range] at hm
        obtain ⟨i, hi, hh⟩ := hm
        rw [h6 i hi] at hh; cases hh
      simp [this]
    · rw [h6]
      have : 0 < (candL l d c).count true := by
        rw [List.count_pos_iff]
        exact List.mem_map.2 ⟨j, List.mem_range.2 h7, h8⟩
      simp; omega
  rw [List.map_replicate] at hB
  rw [rf_o D_steadfastlaw19_QueueTurns rfl]
  simp only [go_sem, rf_shown, e1, hn, hc, hc0, hd2, hmost, hk0, Int.le_refl, Int.toNat_natCast, hA, hB, e3, hfin]
end Go.Proofs.Ytfdaihhnlohckaa
