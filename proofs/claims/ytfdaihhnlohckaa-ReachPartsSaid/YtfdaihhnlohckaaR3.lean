/-
  ReachC: the world that a row of objects makes.
-/
import Derived.Test.YtfdaihhnlohckaaR2
import Derived.Test.YtfdaihhnlohckaaClo
import Derived.Test.YtfdaihhnlohckaaAb24
import Derived.Test.YtfdaihhnlohckaaR0
import Derived.Test.YtfdaihhnlohckaaAb27
set_option maxRecDepth 100000
namespace Go.Proofs.Ytfdaihhnlohckaa
open Go.Ab

theorem map_of {α : Type} {f : α → V} {P : α → Prop} {l : List V} (h : ∀ x ∈ l, ∃ a, x = f a ∧ P a) : ∃ la : List α, l = la.map f ∧ ∀ a ∈ la, P a := by
  induction l with
  | nil => exact ⟨[], rfl, by simp⟩
  | cons x l ih =>
    obtain ⟨a, rfl, ha⟩ := h x (List.mem_cons_self ..)
    obtain ⟨la, rfl, hl⟩ := ih fun y hy => h y (List.mem_cons_of_mem _ hy)
    refine ⟨a :: la, rfl, fun y hy => ?_⟩
    rcases List.mem_cons.1 hy with rfl | hy
    · exact ha
    · exact hl y hy
structure OkO (o : Obj) : Prop where
  l8 : o.l.length = 8
  words : ∀ x ∈ o.l, 0 ≤ x ∧ x ≤ 18446744073709551615
theorem obj_of {hp : List Blk} {v : V} (h : (Sh.st 26 [.int .i64, .int .i64, .arr 24 8 (.int .u64)]).Fits hp v) : ∃ o : Obj, v = o.v ∧ OkO o ∧ (-9223372036854775808 ≤ o.kind ∧ o.kind ≤ 9223372036854775807) ∧ (-9223372036854775808 ≤ o.ver ∧ o.ver ≤ 9223372036854775807) := by
  obtain ⟨vs, rfl, h⟩ := h
  obtain ⟨x, y, z, rfl, ⟨k, rfl, hk⟩, ⟨w, rfl, hw⟩, ⟨ws, rfl, hn, hl⟩⟩ := fits3 h
  obtain ⟨l, rfl, hl'⟩ := map_of (f := V.int .u64) (P := fun x => 0 ≤ x ∧ x ≤ 18446744073709551615) (fun x hx => by
    obtain ⟨n, rfl, h1, h2⟩ := hl x hx
    exact ⟨n, rfl, h1, h2⟩)
  refine ⟨⟨k, w, l⟩, rfl, ⟨by simpa using hn, hl'⟩, hk, hw⟩

def zeroObj : Obj := ⟨0, 0, List.replicate 8 0⟩
structure Small (W : List Obj) : Prop where
  ok : OkW W
  kind : ∀ o ∈ W, 0 ≤ o.kind ∧ o.kind ≤ 4
  ver : ∀ o ∈ W, 0 ≤ o.ver ∧ o.ver ≤ 99
theorem small_zero : Small (List.replicate 49 zeroObj) := by
  refine ⟨⟨by simp, ?_, ?_⟩, ?_, ?_⟩ <;> intro o ho <;> rw [List.eq_of_mem_replicate ho]
  · rfl
  · intro x hx; rw [List.eq_of_mem_replicate hx]; omega
  · simp [zeroObj]
  · simp [zeroObj]
theorem Small.set {W : List Obj} (h : Small W) (i : Nat) {o : Obj} (ho : OkO o) (hk : 0 ≤ o.kind ∧ o.kind ≤ 4) (hv : 0 ≤ o.ver ∧ o.ver ≤ 99) : Small (W.set i o) := by
  refine ⟨⟨by simp [h.ok.len], ?_, ?_⟩, ?_, ?_⟩ <;> intro q hq <;> rcases List.mem_or_eq_of_mem_set hq with hq | rfl
  · exact h.ok.l8 _ hq
  · exact ho.l8
  · exact h.ok.words _ hq
  · exact ho.words
  · exact h.kind _ hq
  · exact hk
  · exact h.ver _ hq
  · exact hv
def absm (k m : Int) : Int := if Int.tmod k m < 0 then -(Int.tmod k m) else Int.tmod k m
theorem absm_le (k : Int) {m : Int} (hm : 0 < m) : 0 ≤ absm k m ∧ absm k m < m := by
  have h1 := Int.tmod_lt_of_pos k hm
  have h2 := Int.lt_tmod_of_pos k hm
  unfold absm
  split <;> omega
theorem neg_tmod (k : Int) {m : Int} (h0 : 0 < m) (h1 : m < 1000000) : IntKind.i64.wrap (0 - k.tmod m) = -k.tmod m := by
  have := Int.tmod_lt_of_pos k h0
  have := Int.lt_tmod_of_pos k h0
  rw [Int.zero_sub]
  exact i64_id (by omega) (by omega)
def wStep (lo : List Obj) (i : Nat) (W : List Obj) : List Obj :=
  if absm (lo.getD i zeroObj).kind 5 = 0 then W else W.set i ⟨absm (lo.getD i zeroObj).kind 5, absm (lo.getD i zeroObj).ver 100, (lo.getD i zeroObj).l⟩
def wAt (lo : List Obj) : Nat → List Obj
  | 0 => List.replicate 49 zeroObj
  | i + 1 => wStep lo i (wAt lo i)
theorem small_at {lo : List Obj} (h : ∀ o ∈ lo, OkO o) : ∀ i, i ≤ lo.length → Small (wAt lo i)
  | 0, _ => small_zero
  | i + 1, hi => by
    have ih := small_at h i (by omega)
    unfold wAt wStep
    split
    · exact ih
    · have hm : lo.getD i zeroObj ∈ lo := by
        rw [List.getD_eq_getElem?_getD, List.getElem?_eq_getElem (by omega)]
        exact List.getElem_mem _
      have h1 := absm_le (lo.getD i zeroObj).kind (m := 5) (by omega)
      have h2 := absm_le (lo.getD i zeroObj).ver (m := 100) (by omega)
      refine ih.set i ⟨(h _ hm).l8, (h _ hm).words⟩ ?_ ?_
      · simp only; omega
      · simp only; omega
theorem rf_world {hp : List Blk} {v : V} (h : (Sh.sl 28 (.st 26 [.int .i64, .int .i64, .arr 24 8 (.int .u64)])).Fits hp v) :
    ∃ W, Small W ∧ ∀ s : St, s.hp = hp → rf D f_steadfastlaw23_world [v] s = some (worldV W, s) := by
  obtain ⟨l, hrs, hlt, hlen, hfit⟩ := rs_of_fits h
  obtain ⟨lo, rfl, hlo⟩ := map_of (f := Obj.v) (fun x hx => obj_of (hfit x hx))
  refine ⟨wAt lo (min lo.length 49), small_at (fun o ho => (hlo o ho).1) _ (by omega), ?_⟩
  rintro ⟨sl, hp'⟩ hh
  simp only at hh
  subst hh
  have hr : ∀ L, RS ⟨L, hp'⟩ 26 v (lo.map Obj.v) := fun L => hrs.more ⟨by simp, List.prefix_rfl⟩
  have loop : rc D sl.length (.loop [0, 2, 3, 4] b_steadfastlaw23_world_0) [(0, v), (2, .ptr (.loc sl.length) [] 30), (3, .ptr (.loc (sl.length + 1)) [] 30), (4, .int .i64 0)] ⟨sl ++ [.rw (worldV (List.replicate 49 zeroObj)), .rw (worldV (List.replicate 49 zeroObj))], hp'⟩ =
      some (.exit 0, [(0, v), (2, .ptr (.loc sl.length) [] 30), (3, .ptr (.loc (sl.length + 1)) [] 30), (4, .int .i64 (min lo.length 49 : Nat)), (15, .bool false)], ⟨sl ++ [.rw (worldV (List.replicate 49 zeroObj)), .rw (worldV (wAt lo (min lo.length 49)))], hp'⟩) := by
    refine loop_runs (fun x : Nat => [(0, v), (2, .ptr (.loc sl.length) [] 30), (3, .ptr (.loc (sl.length + 1)) [] 30), (4, .int .i64 x)]) (fun x => ⟨sl ++ [.rw (worldV (List.replicate 49 zeroObj)), .rw (worldV (wAt lo x))], hp'⟩) (fun _ => _) (fun x => 49 - x)
      (fun x => x ≤ 49 ∧ x ≤ lo.length) 0 ?_ ?_ ?_ ?_
    · rintro i ⟨hi, hi2⟩
      have hrr := hr (sl ++ [.rw (worldV (List.replicate 49 zeroObj)), .rw (worldV (wAt lo i))])
      have hs := hrr.slen
      rw [List.length_map] at hs
      by_cases c1 : i < lo.length
      · by_cases c2 : i < 49
        · left
          have hW := (small_at (fun o ho => (hlo o ho).1) i hi2).ok
          have d1 : (i : Int) < lo.length := by omega
          have d2 : (i : Int) < 49 := by omega
          have d3 : (0 : Int) ≤ i := by omega
          have d4 : IntKind.i64.wrap ((i : Int) + 1) = (i : Int) + 1 := i64_id (by omega) (by omega)
          have e1 := locLt_mono (v := v) (show 0 ≤ sl.length + 2 by omega) hlt
          have e2 : sl.length < sl.length + 2 := by omega
          have e3 : sl.length + 1 < sl.length + 2 := by omega
          have hg := get_map (f := Obj.v) c1 zeroObj
          have hk := absm_le (lo.getD i zeroObj).kind (m := 5) (by omega)
          have hv := absm_le (lo.getD i zeroObj).ver (m := 100) (by omega)
          have hwg := objAt_get hW c2
          refine ⟨i + 1, ⟨by omega, by omega⟩, by omega, rfl, ?_⟩
          simp only [wAt, wStep]
          generalize lo.getD i zeroObj = o at hg hk hv ⊢
          obtain ⟨k, w, ws⟩ := o
          simp only [Obj.v] at hg
          have q1 := neg_tmod k (m := 5) (by omega) (by omega)
          have q2 := neg_tmod w (m := 100) (by omega) (by omega)
          simp only [worldV] at *
          simp only [go_sem, b_steadfastlaw23_world_0, hs, d1, d2, d3, hrr.sadq hg, hrr.fadq hg, hrr.ldq hg, q1, q2, absm]
          by_cases hz : (if k.tmod 5 < 0 then -k.tmod 5 else k.tmod 5) = 0
          · simp only [hz, go_sem, d4, e1, e2, e3]
            rfl
          · simp only [hz, go_sem, d4, e1, e2, e3, Int.toNat_natCast, hwg, List.map_set, Obj.v]
            rfl
        · right
          have hm : min lo.length 49 = i := by omega
          have d1 : (i : Int) < lo.length := by omega
          have d2 : ¬ (i : Int) < 49 := by omega
          simp only [go_sem, b_steadfastlaw23_world_0, hs, d1, d2, hm]
      · right
        have hm : min lo.length 49 = i := by omega
        have d1 : ¬ (i : Int) < lo.length := by omega
        simp only [go_sem, b_steadfastlaw23_world_0, hs, d1, hm]
    · exact ⟨Nat.zero_le _, Nat.zero_le _⟩
    · rfl
    · rfl
  simp only [worldV, zeroObj, Obj.v, List.map_replicate] at loop
  rw [rf_o D_steadfastlaw23_world rfl]
  simp only [go_sem, loop]
  rfl
end Go.Proofs.Ytfdaihhnlohckaa
