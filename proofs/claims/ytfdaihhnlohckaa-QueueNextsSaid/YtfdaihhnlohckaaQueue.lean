/-
  Queue: what queue.Next, queue.Mine and the reference's functions compute, and that the laws of layer 19 tell true.
-/
import Derived.Test.YtfdaihhnlohckaaCode
import Derived.Test.YtfdaihhnlohckaaAb22
import Derived.KernelRfl
import Derived.IntWalk
set_option maxRecDepth 100000
namespace Go.Proofs.Ytfdaihhnlohckaa
open Go.Ab
def mine (id core cores : Int) : Bool := decide (1 ≤ cores) && decide (0 ≤ id) && decide (id.tmod cores = core)
theorem rf_Mine (id core cores : Int) (s : St) : rf D f_queue_Mine [.int .i64 id, .int .i64 core, .int .i64 cores] s = some (.bool (mine id core cores), s) := by
  rw [rf_o D_queue_Mine rfl]
  simp only [go_sem]
  unfold mine
  by_cases h1 : 1 ≤ cores <;> by_cases h2 : 0 ≤ id <;> simp [h1, h2, go_sem]
  rw [if_neg (by omega)]
  simp [go_sem]
theorem rf_refMine (id core cores : Int) (s : St) : rf D f_steadfastref19_Mine [.int .i64 id, .int .i64 core, .int .i64 cores] s = some (.bool (mine id core cores), s) := by
  rw [rf_o D_steadfastref19_Mine rfl]
  simp only [go_sem]
  unfold mine
  by_cases h1 : 1 ≤ cores <;> by_cases h2 : 0 ≤ id <;> simp [h1, h2, go_sem]
  rw [if_neg (by omega)]
  simp [go_sem]

def fromM (l : List Bool) (core cores : Int) (i : Nat) : Option Nat := (List.range' i (l.length - i)).find? (fun j => l.getD j false && mine j core cores)
theorem fromM_step (l : List Bool) (core cores : Int) (i : Nat) (h : i < l.length) : fromM l core cores i = if l[i] && mine i core cores then some i else fromM l core cores (i + 1) := by
  unfold fromM
  rw [show l.length - i = (l.length - (i + 1)) + 1 by omega, List.range'_succ, List.find?_cons]
  rw [show l.getD i false = l[i] by simp [List.getD_eq_getElem?_getD, h]]
  cases (l[i] && mine i core cores) <;> simp
theorem fromM_end (l : List Bool) (core cores : Int) (i : Nat) (h : l.length ≤ i) : fromM l core cores i = none := by
  unfold fromM
  rw [show l.length - i = 0 by omega]; rfl

theorem rf_from (l : List Bool) (core cores : Int) (s : St) (v : V) (hl : l.length ≤ 9223372036854775807) (a b c : Nat) (ha : s.loc[a]? = some (.rw v)) (hb : s.loc[b]? = some (.rw (.int .i64 core))) (hc : s.loc[c]? = some (.rw (.int .i64 cores)))
   (hv : RS s 0 v (l.map V.bool)) (i : Nat) : rf D f_queue_Next_1 [.int .i64 i, .ptr (.loc a) [] 1, .ptr (.loc b) [] 10, .ptr (.loc c) [] 10] s = some (match fromM l core cores i with
     | some j => .tup [.int .i64 j, .bool true]
     | none => .tup [.int .i64 0, .bool false], s) := by
  have hr : s.loc.take s.loc.length = s.loc := List.take_length
  have a1 := (List.getElem?_eq_some_iff.1 ha).1
  have a2 := (List.getElem?_eq_some_iff.1 hb).1
  have a3 := (List.getElem?_eq_some_iff.1 hc).1
  have hn := hv.slen
  rw [List.length_map] at hn
  rw [rf_o D_queue_Next_1 rfl]
  simp only [go_sem]
  rw [loop_runs (fun i : Nat => [(1, .ptr (.loc a) [] 1), (2, .ptr (.loc b) [] 10), (3, .ptr (.loc c) [] 10), (7, .int .i64 i)]) (fun _ => s)
    (fun j => match fromM l core cores j with
     | some j => some (.ret, [(5, .int .i64 j), (6, .bool true)], s)
     | none => some (.exit 0, [(1, .ptr (.loc a) [] 1), (2, .ptr (.loc b) [] 10), (3, .ptr (.loc c) [] 10), (7, .int .i64 (max i l.length : Nat)), (12, .bool false)], s)) (fun j => l.length - j) (fun j => i ≤ j ∧ j ≤ max i l.length) i ?_ ⟨Nat.le_refl _, Nat.le_max_left _ _⟩ ?_ ?_]
  · cases fromM l core cores i <;> simp [go_sem, hr]
  · intro j hj
    by_cases hlt : j < l.length
    · have h4 := hv.sad (k := .i64) (j := j) (by simpa using hlt)
      have h5 := hv.ld (j := j) (by simpa using hlt)
      rw [List.getElem_map] at h5
      have c1 : (j : Int) < l.length := by omega
      have c3 : IntKind.i64.wrap ((j : Int) + 1) = (j : Int) + 1 := by rw [IntWalk.i64_in _ (by omega)]
      rw [fromM_step l core cores j hlt]
      simp only [go_sem, b_queue_Next_1_0, ha, hb, hc, hn, h4, h5, rf_Mine, c1]
      cases hb1 : l[j]
      · left; exact ⟨j + 1, by omega, by omega, by simp, by simp [go_sem, c3, a1, a2, a3]⟩
      · cases hb2 : mine j core cores
        · left; exact ⟨j + 1, by omega, by omega, by simp, by simp [go_sem, c3, a1, a2, a3]⟩
        · right; simp [go_sem]
    · right
      have hj' : j = max i l.length := by omega
      rw [fromM_end l core cores j (by omega)]
      have c1 : ¬ ((j : Int) < l.length) := by omega
      simp only [go_sem, b_queue_Next_1_0, ha, hn, c1]
      simp [← hj']
  · rfl
  · rfl

def nextM (l : List Bool) (core cores last : Int) : Nat × Int :=
  if cores < 1 ∨ 8 < cores ∨ core < 0 ∨ cores ≤ core then (0, 1) else
  match (if 0 ≤ last ∧ last < l.length then fromM l core cores (last + 1).toNat else none) with
  | some j => (j, 0)
  | none => match fromM l core cores 0 with
    | some j => (j, 0)
    | none => (0, 50)

theorem rf_Next (l : List Bool) (core cores last : Int) (s : St) (v : V) (hl : l.length ≤ 9223372036854775807) (hv : RS s 0 v (l.map V.bool)) :
    rf D f_queue_Next [v, .int .i64 core, .int .i64 cores, .int .i64 last] s = some (.tup [.int .i64 (nextM l core cores last).1, .int .i64 (nextM l core cores last).2], s) := by
  have hr : s.loc.take s.loc.length = s.loc := List.take_length
  have hn := hv.slen
  rw [List.length_map] at hn
  have hok := hv.ok
  have htag := hv.tag
  have hf := fun i => rf_from l core cores ⟨s.loc ++ [.rw v, .rw (.int .i64 core), .rw (.int .i64 cores)], s.hp⟩ v hl s.loc.length (s.loc.length + 1) (s.loc.length + 2) (by simp) (by simp) (by simp) (hv.more (.loc' s _)) i
  have hf0 : rf D f_queue_Next_1 [.int .i64 0, _, _, _] _ = _ := hf 0
  rw [rf_o D_queue_Next rfl]
  simp only [go_sem, hok, htag]
  unfold nextM
  by_cases h1 : cores < 1
  · simp [h1, go_sem]
  by_cases h2 : 8 < cores
  · simp [h1, h2, go_sem]
  by_cases h3 : core < 0
  · simp [h1, h2, h3, go_sem]
  by_cases h4 : cores ≤ core
  · simp [h1, h2, h3, h4, go_sem]
  simp only [h1, h2, h3, h4, go_sem, hn]
  by_cases h5 : 0 ≤ last ∧ last < l.length
  · obtain ⟨m, rfl⟩ : ∃ m : Nat, last = m := ⟨last.toNat, by omega⟩
    have c3 : IntKind.i64.wrap ((m : Int) + 1) = ((m + 1 : Nat) : Int) := by rw [IntWalk.i64_in _ (by omega)]; rfl
    have h6 : (m : Int) < l.length := h5.2
    have e : ((m : Int) + 1).toNat = m + 1 := by omega
    simp only [go_sem, h6, h5.1, c3, hf, e]
    cases fromM l core cores (m + 1) with
    | some j => simp [go_sem]
    | none =>
      simp only [go_sem, hf0]
      cases fromM l core cores 0 <;> simp [go_sem]
  · rw [if_neg h5]
    by_cases h6 : 0 ≤ last
    · have h7 : ¬ last < l.length := fun h => h5 ⟨h6, h⟩
      simp only [go_sem, h6, h7, hf0]
      cases fromM l core cores 0 <;> simp [go_sem]
    · simp only [go_sem, h6, hf0]
      cases fromM l core cores 0 <;> simp [go_sem]

/-- The reference's loop: the first one behind 'last', or else the first one at all. -/
def refLoop (l : List Bool) (core cores last : Int) (first : Int) (i : Nat) : Int ⊕ Int :=
  if h : i < l.length then
    if l[i] && mine i core cores then
      if last < i then .inl i else refLoop l core cores last (if first < 0 then i else first) (i + 1)
    else refLoop l core cores last first (i + 1)
  else .inr first
termination_by l.length - i

theorem rf_refNext0 (l : List Bool) (core cores last : Int) (s : St) (v : V) (hl : l.length ≤ 9223372036854775807) (hv : RS s 0 v (l.map V.bool)) :
    rf D f_steadfastref19_Next [v, .int .i64 core, .int .i64 cores, .int .i64 last] s = some (
      if cores < 1 ∨ 8 < cores ∨ core < 0 ∨ cores ≤ core then .tup [.int .i64 0, .int .i64 1] else
      match refLoop l core cores last (-1) 0 with
      | .inl j => .tup [.int .i64 j, .int .i64 0]
      | .inr j => if j < 0 then .tup [.int .i64 0, .int .i64 50] else .tup [.int .i64 j, .int .i64 0], s) := by
  have hn := hv.slen
  rw [List.length_map] at hn
  have hlt := hv.locLt
  have hr : s.loc.take s.loc.length = s.loc := List.take_length
  rw [rf_o D_steadfastref19_Next rfl]
  simp only [go_sem]
  by_cases h1 : cores < 1
  · simp [h1, go_sem]
  by_cases h2 : 8 < cores
  · simp [h1, h2, go_sem]
  by_cases h3 : core < 0
  · simp [h1, h2, h3, go_sem]
  by_cases h4 : cores ≤ core
  · simp [h1, h2, h3, h4, go_sem]
  simp only [h1, h2, h3, h4, go_sem]
  rw [loop_runs (fun x : Int × Nat => [(0, v), (1, .int .i64 core), (2, .int .i64 cores), (3, .int .i64 last), (10, .int .i64 x.1), (11, .int .i64 x.2)]) (fun _ => s)
    (fun x => match refLoop l core cores last x.1 x.2 with
     | .inl j => some (.ret, [(8, .int .i64 j), (9, .int .i64 0)], s)
     | .inr j => some (.exit 0, [(0, v), (1, .int .i64 core), (2, .int .i64 cores), (3, .int .i64 last), (10, .int .i64 j), (11, .int .i64 l.length), (30, .bool false)], s)) (fun x => l.length - x.2) (fun x => x.2 ≤ l.length) (-1, 0) ?_ (Nat.zero_le _) ?_ ?_]
  · cases refLoop l core cores last (-1) 0 with
    | inl j => simp [go_sem, hr]
    | inr j => by_cases hj : j < 0 <;> simp [go_sem, hr, hj]
  · rintro ⟨first, j⟩ hj
    simp only at hj
    by_cases hlt2 : j < l.length
    · have h7 := hv.sad (k := .i64) (j := j) (by simpa using hlt2)
      have h8 := hv.ld (j := j) (by simpa using hlt2)
      rw [List.getElem_map] at h8
      have c1 : (j : Int) < l.length := by omega
      have c3 : IntKind.i64.wrap ((j : Int) + 1) = (j : Int) + 1 := by rw [IntWalk.i64_in _ (by omega)]
      have e1 : refLoop l core cores last first j = if l[j] && mine j core cores then
          if last < j then .inl (j : Int) else refLoop l core cores last (if first < 0 then (j : Int) else first) (j + 1)
        else refLoop l core cores last first (j + 1) := by
        rw [refLoop, dif_pos hlt2]
      simp only [e1]
      simp only [go_sem, b_steadfastref19_Next_0, hn, h7, h8, rf_refMine, c1]
      cases hb1 : l[j]
      · left; exact ⟨(first, j + 1), by simp only; omega, by simp only; omega, by simp, by simp [go_sem, c3, hlt]⟩
      · cases hb2 : mine j core cores
        · left; exact ⟨(first, j + 1), by simp only; omega, by simp only; omega, by simp, by simp [go_sem, c3, hlt]⟩
        · by_cases hl1 : last < j
          · right; simp [go_sem, hl1]
          · left
            refine ⟨(if first < 0 then (j : Int) else first, j + 1), by simp only; omega, by simp only; omega, by simp [hl1], ?_⟩
            by_cases hf : first < 0 <;> simp [go_sem, hl1, hf, c3, hlt]
    · right
      have hj' : j = l.length := by omega
      subst hj'
      have c1 : ¬ ((l.length : Int) < l.length) := by omega
      have e1 : refLoop l core cores last first l.length = .inr first := by rw [refLoop, dif_neg hlt2]
      simp only [e1]
      simp only [go_sem, b_steadfastref19_Next_0, hn, c1]
  · rfl
  · rfl

/-! ### The plain law -/
theorem refLoop_pos (l : List Bool) (core cores last : Int) : ∀ d first i, l.length - i = d → i ≤ l.length → 0 ≤ first → refLoop l core cores last first i =
    (match fromM l core cores (max i (last + 1).toNat) with | some j => .inl (j : Int) | none => .inr first) := by
  intro d
  induction d with
  | zero =>
    intro first i hd hi hf
    rw [refLoop, dif_neg (by omega), fromM_end _ _ _ _ (by omega)]
  | succ d ih =>
    intro first i hd hi hf
    have h : i < l.length := by omega
    have h1 := ih first (i + 1) (by omega) (by omega) hf
    rw [refLoop, dif_pos h]
    by_cases hm : (l[i] && mine i core cores) = true
    · rw [if_pos hm]
      by_cases hl : last < i
      · rw [if_pos hl, show max i (last + 1).toNat = i by omega, fromM_step _ _ _ _ h, if_pos hm]
      · rw [if_neg hl, if_neg (by omega), h1, show max (i + 1) (last + 1).toNat = max i (last + 1).toNat by omega]
    · rw [if_neg hm, h1]
      by_cases hl : last < i
      · rw [show max i (last + 1).toNat = i by omega, fromM_step _ _ _ _ h, if_neg hm, show max (i + 1) (last + 1).toNat = i + 1 by omega]
      · rw [show max (i + 1) (last + 1).toNat = max i (last + 1).toNat by omega]
theorem refLoop_neg (l : List Bool) (core cores last : Int) : ∀ d i, l.length - i = d → i ≤ l.length → refLoop l core cores last (-1) i =
    (match fromM l core cores (max i (last + 1).toNat) with | some j => .inl (j : Int) | none => match fromM l core cores i with | some j => .inr (j : Int) | none => .inr (-1)) := by
  intro d
  induction d with
  | zero =>
    intro i hd hi
    rw [refLoop, dif_neg (by omega), fromM_end _ _ _ _ (by omega), fromM_end _ _ _ _ (by omega)]
  | succ d ih =>
    intro i hd hi
    have h : i < l.length := by omega
    have h1 := ih (i + 1) (by omega) (by omega)
    rw [refLoop, dif_pos h]
    by_cases hm : (l[i] && mine i core cores) = true
    · rw [if_pos hm]
      by_cases hl : last < i
      · rw [if_pos hl, show max i (last + 1).toNat = i by omega, fromM_step _ _ _ _ h, if_pos hm]
      · rw [if_neg hl, if_pos (by omega), refLoop_pos l core cores last d i (i + 1) (by omega) (by omega) (by omega), show max (i + 1) (last + 1).toNat = max i (last + 1).toNat by omega, fromM_step _ _ _ i h, if_pos hm]
    · rw [if_neg hm, h1, fromM_step _ _ _ i h, if_neg hm]
      by_cases hl : last < i
      · rw [show max i (last + 1).toNat = i by omega, fromM_step _ _ _ i h, if_neg hm, show max (i + 1) (last + 1).toNat = i + 1 by omega]
      · rw [show max (i + 1) (last + 1).toNat = max i (last + 1).toNat by omega]
theorem rf_refNext (l : List Bool) (core cores last : Int) (s : St) (v : V) (hl : l.length ≤ 9223372036854775807) (hv : RS s 0 v (l.map V.bool)) :
    rf D f_steadfastref19_Next [v, .int .i64 core, .int .i64 cores, .int .i64 last] s = some (.tup [.int .i64 (nextM l core cores last).1, .int .i64 (nextM l core cores last).2], s) := by
  rw [rf_refNext0 l core cores last s v hl hv]
  unfold nextM
  by_cases hc : cores < 1 ∨ 8 < cores ∨ core < 0 ∨ cores ≤ core
  · rw [if_pos hc, if_pos hc]; rfl
  · rw [if_neg hc, if_neg hc, refLoop_neg l core cores last _ 0 rfl (Nat.zero_le _), Nat.zero_max]
    by_cases h1 : 0 ≤ last ∧ last < l.length
    · rw [if_pos h1]
      cases fromM l core cores (last + 1).toNat with
      | some j => rfl
      | none => cases fromM l core cores 0 with
        | some j => simp only; rw [if_neg (by omega)]
        | none => rfl
    · rw [if_neg h1]
      by_cases h2 : 0 ≤ last
      · rw [fromM_end l core cores (last + 1).toNat (by omega)]
        cases fromM l core cores 0 with
        | some j => simp only; rw [if_neg (by omega)]
        | none => rfl
      · rw [show (last + 1).toNat = 0 by omega]
        cases fromM l core cores 0 with
        | some j => rfl
        | none => rfl

theorem rf_few (l : List Bool) (s : St) (v : V) (hv : RS s 0 v (l.map V.bool)) : ∃ v', rf D f_steadfastlaw19_few [v] s = some (v', s) ∧ RS s 0 v' ((l.take 100).map V.bool) := by
  have hn := hv.slen
  rw [List.length_map] at hn
  have hlt := hv.locLt
  have hr : s.loc.take s.loc.length = s.loc := List.take_length
  by_cases h : (100 : Int) < l.length
  · obtain ⟨v', h1, h2, _⟩ := hv.take (n := 100) (by simp; omega) (k := .i64)
    have hlt' := h2.locLt
    refine ⟨v', ?_, by rw [List.map_take]; exact h2⟩
    rw [rf_o D_steadfastlaw19_few rfl]
    simp only [go_sem, hn, h]
    have h1' : slcv 0 none (some (.int .i64 100)) none v = some v' := h1
    simp only [go_sem, h1', hlt', hr]
  · refine ⟨v, ?_, by rw [List.take_of_length_le (by omega)]; exact hv⟩
    rw [rf_o D_steadfastlaw19_few rfl]
    simp only [go_sem, hn, h, hlt, hr]

theorem rf_shown (s : St) : rf D f_steadfastlaw19_shown [] s = some (.bool true, s) := by
  have rs : ∀ (L : List Blk) (x : List Bool), RS ⟨L ++ [.rw (.agg 20 (x.map .bool))], s.hp⟩ 0 (.sl (.loc L.length) [] 0 x.length (some x.length) 0) (x.map .bool) := fun L x =>
    RS.at_loc (i := L.length) (r := 20) (l := x.map .bool) (by simp) (by simp) (by simp)
  have h1 := rf_Next [true, true, true] 0 1 0 _ _ (by decide) (rs s.loc _)
  have h2 := rf_Next [true, true, true] 0 1 2 _ _ (by decide) (rs (s.loc ++ [.rw (.agg 20 [.bool true, .bool true, .bool true])]) _)
  have h3 := rf_Next [true, true] 1 2 1 _ _ (by decide) (rs (s.loc ++ [.rw (.agg 20 [.bool true, .bool true, .bool true]), .rw (.agg 20 [.bool true, .bool true, .bool true])]) _)
  have h4 := rf_Next [true] 1 2 0 _ _ (by decide) (rs (s.loc ++ [.rw (.agg 20 [.bool true, .bool true, .bool true]), .rw (.agg 20 [.bool true, .bool true, .bool true]), .rw (.agg 20 [.bool true, .bool true])]) _)
  have h5 := rf_Next [true] 2 2 0 _ _ (by decide) (rs (s.loc ++ [.rw (.agg 20 [.bool true, .bool true, .bool true]), .rw (.agg 20 [.bool true, .bool true, .bool true]), .rw (.agg 20 [.bool true, .bool true]), .rw (.agg 20 [.bool true])]) _)
  rw [show nextM [true, true, true] 0 1 0 = (1, 0) by decide] at h1
  rw [show nextM [true, true, true] 0 1 2 = (0, 0) by decide] at h2
  rw [show nextM [true, true] 1 2 1 = (1, 0) by decide] at h3
  rw [show nextM [true] 1 2 0 = (0, 50) by decide] at h4
  rw [show nextM [true] 2 2 0 = (0, 1) by decide] at h5
  simp only [List.map_cons, List.map_nil, List.length_cons, List.length_nil, List.append_assoc, List.cons_append, List.nil_append, List.length_append, Nat.zero_add, Nat.reduceAdd] at h1 h2 h3 h4 h5
  rw [rf_o D_steadfastlaw19_shown rfl]
  simp only [go_sem, h1, h2, h3, h4, h5, List.replicate]
  rfl

theorem law_QueueNexts (hp : List Blk) (vs : List V) (h : Sh.FitsL hp [.sl 20 .bool, .arr 22 2 (.int .i64), .int .i64] vs) : ∃ s', rf D f_steadfastlaw19_QueueNexts vs ⟨[], hp⟩ = some (.bool true, s') := by
  obtain ⟨r, x, la, rfl, h1, h2, ⟨last, rfl, _⟩⟩ := fits3 h
  obtain ⟨x0, x1, rfl, ⟨a, rfl, _⟩, ⟨b, rfl, _⟩⟩ := arr2 h2
  obtain ⟨l, hl, hlt, hlen, hall⟩ := rs_of_fits h1
  obtain ⟨lb, rfl⟩ := bools_of hall
  refine ⟨⟨[], hp⟩, ?_⟩
  obtain ⟨v', e1, e2⟩ := rf_few lb ⟨[.rw (.agg 22 [.int .i64 a, .int .i64 b])], hp⟩ r (hl.more (.loc' ⟨[], hp⟩ _))
  have hl100 : (lb.take 100).length ≤ 9223372036854775807 := by simp; omega
  have e3 := rf_Next (lb.take 100) a b last _ _ hl100 e2
  have e4 := rf_refNext (lb.take 100) a b last _ _ hl100 e2
  rw [rf_o D_steadfastlaw19_QueueNexts rfl]
  simp [go_sem, rf_shown, rf_Mine, rf_refMine, e1, e3, e4]
end Go.Proofs.Ytfdaihhnlohckaa
