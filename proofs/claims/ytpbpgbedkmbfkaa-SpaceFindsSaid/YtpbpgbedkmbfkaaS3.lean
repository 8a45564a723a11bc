/-
  SpcC: the document's examples; the laws SpaceHeights and SpaceFinds.
-/
import Derived.Test.YtpbpgbedkmbfkaaS2
import Derived.Test.YtpbpgbedkmbfkaaM15
set_option maxRecDepth 100000
namespace Go.Proofs.Ytpbpgbedkmbfkaa
open Go.Ab

theorem rf_word15 (k i b : Int) (s : St) : rf D f_steadfastlaw15_word [.int .i64 k, .int .i64 i, .int .i64 b] s = some (.int .u64 (capWord ⟨k, 3, i, 0, b⟩), s) := by
  have hw := fun s => rf_ref07_Word ⟨k, 3, i, 0, b⟩ s
  generalize capWord ⟨k, 3, i, 0, b⟩ = w at *
  simp only [Cap.v] at hw
  rw [rf_o D_steadfastlaw15_word rfl]
  simp only [go_sem, hw]
def exO : List Obj := [⟨1, 0, zl⟩, ⟨2, 0, [0, 0, 0, 49, 0, 0, 0, 0]⟩]
theorem okL_of {lo : List Obj} (h : ∀ o ∈ lo, OkO o) : OkL (lnM lo) := by
  constructor
  · intro i
    unfold lnM
    split
    · rename_i hh
      exact (h _ (getD_mem (by omega) zeroObj)).l8
    · rfl
  · intro i x hx
    unfold lnM at hx
    split at hx
    · rename_i hh
      exact (h _ (getD_mem (by omega) zeroObj)).words x hx
    · have := List.eq_of_mem_replicate (show x ∈ List.replicate 8 0 from hx)
      omega
theorem exO_ok : ∀ o ∈ exO, OkO o := by
  intro o ho
  simp only [exO, List.mem_cons, List.not_mem_nil, or_false] at ho
  rcases ho with rfl | rfl
  · exact ⟨rfl, fun x hx => by have := List.eq_of_mem_replicate (show x ∈ List.replicate 8 0 from hx); omega⟩
  · refine ⟨rfl, fun x hx => ?_⟩
    simp only [List.mem_cons, List.not_mem_nil, or_false] at hx
    omega
theorem ex_f1 : findF (entM 100 exO) (lnM exO) 49 5 = ⟨0, 0, 3⟩ := by kernel_rfl
theorem ex_f2 : findF (entM 100 exO) (lnM exO) 49 8 = ⟨40, 0, 0⟩ := by kernel_rfl
theorem ex_f3 : findF (entM 100 exO) (lnM exO) 281474976710962 29 = ⟨0, 0, 3⟩ := by kernel_rfl
theorem ex_f4 : findF (entM 100 exO) (lnM exO) 281474976710962 0 = ⟨40, 0, 0⟩ := by kernel_rfl
theorem ex_f5 : findF (entM 100 exO) (lnM exO) 306 0 = ⟨40, 0, 0⟩ := by kernel_rfl
theorem ex_w1 : capWord ⟨1, 3, 0, 0, 0⟩ = 49 := by kernel_rfl
theorem ex_w2 : capWord ⟨2, 3, 1, 0, 1⟩ = 281474976710962 := by kernel_rfl
theorem ex_w3 : capWord ⟨2, 3, 1, 0, 0⟩ = 306 := by kernel_rfl
theorem rf_shown15 (s : St) : ∃ more, rf D f_steadfastlaw15_shown [] s = some (.bool true, ⟨s.loc, s.hp ++ more⟩) := by
  have w1 := fun s => rf_word15 1 0 0 s
  have w2 := fun s => rf_word15 2 1 1 s
  have w3 := fun s => rf_word15 2 1 0 s
  rw [ex_w1] at w1
  rw [ex_w2] at w2
  rw [ex_w3] at w3
  have hrs : RS ⟨s.loc ++ [.rw (.agg 28 (exO.map Obj.v))], s.hp⟩ 26 (.sl (.loc s.loc.length) [] 0 2 (some 2) 26) (exO.map Obj.v) :=
    RS.at_loc (L := s.loc ++ [.rw (.agg 28 (exO.map Obj.v))]) (i := s.loc.length) (r := 28) (n := 2) (cp := some 2) (by simp) rfl (fun c hc => by cases hc; exact Nat.le_refl _)
  obtain ⟨w, S, X, _, _, _, _, hm⟩ := rf_made15 hrs
  simp only at hm
  have hP := prgM (H := s.hp) (t := entM 100 exO) (ls := lnM exO) (w := w) (S := S) (X := X) (fun i _ hk => entM_line hk)
  have hL := okL_of exO_ok
  have f1 := fun L => rf_Find (s := ⟨s.loc ++ L, s.hp ++ madeH s.hp.length (entM 100 exO) (lnM exO) w S X⟩) hP hL 5 (by omega) 49 (by omega) (by omega)
  have f2 := fun L => rf_Find (s := ⟨s.loc ++ L, s.hp ++ madeH s.hp.length (entM 100 exO) (lnM exO) w S X⟩) hP hL 8 (by omega) 49 (by omega) (by omega)
  have f3 := fun L => rf_Find (s := ⟨s.loc ++ L, s.hp ++ madeH s.hp.length (entM 100 exO) (lnM exO) w S X⟩) hP hL 29 (by omega) 281474976710962 (by omega) (by omega)
  have f4 := fun L => rf_Find (s := ⟨s.loc ++ L, s.hp ++ madeH s.hp.length (entM 100 exO) (lnM exO) w S X⟩) hP hL 0 (by omega) 281474976710962 (by omega) (by omega)
  have f5 := fun L => rf_Find (s := ⟨s.loc ++ L, s.hp ++ madeH s.hp.length (entM 100 exO) (lnM exO) w S X⟩) hP hL 0 (by omega) 306 (by omega) (by omega)
  simp only [ex_f1, ex_f2, ex_f3, ex_f4, ex_f5] at f1 f2 f3 f4 f5
  refine ⟨madeH s.hp.length (entM 100 exO) (lnM exO) w S X, ?_⟩
  generalize madeH s.hp.length (entM 100 exO) (lnM exO) w S X = mh at *
  simp only [FR.v, plV, show ¬ ((40 : Int) = 0) by decide, if_true, if_false, Nat.reduceMod, Int.cast_ofNat_Int, Int.natCast_zero] at f1 f2 f3 f4 f5
  simp only [exO, List.map_cons, List.map_nil, Obj.v, zl, List.replicate, List.map_cons, List.map_nil] at hm
  rw [rf_o D_steadfastlaw15_shown rfl]
  simp only [go_sem, w1, List.replicate]
  simp only [go_sem, hm]
  simp only [go_sem, f1, f2, f3, f4, f5, w2, w3]
theorem open_objs {hp : List Blk} {v : V} (h : (Sh.sl 28 (.st 26 [.int .i64, .int .i64, .arr 24 8 (.int .u64)])).Fits hp v) :
    ∃ lo : List Obj, (∀ L more, RS ⟨L, hp ++ more⟩ 26 v (lo.map Obj.v)) ∧ (∀ o ∈ lo, OkO o) := by
  obtain ⟨l, hrs, hlt, hlen, hfit⟩ := rs_of_fits h
  obtain ⟨lo, rfl, hlo⟩ := map_of (f := Obj.v) (fun x hx => obj_of (hfit x hx))
  exact ⟨lo, fun L more => hrs.more ⟨by simp, List.prefix_append _ _⟩, fun o ho => (hlo o ho).1⟩
theorem law_SpaceHeights : ∀ hp vs, Sh.FitsL hp [(.int .u64)] vs → ∃ s', rf D f_steadfastlaw15_SpaceHeights vs ⟨[], hp⟩ = some (.bool true, s') := by
  intro hp vs hf
  obtain ⟨v, rfl, ⟨c, rfl, hc0, hc1⟩⟩ := fits1 hf
  have hc0' : (0 : Int) ≤ c := hc0
  have hc1' : c ≤ 18446744073709551615 := hc1
  obtain ⟨more, hsh⟩ := rf_shown15 ⟨[], hp⟩
  have h1 := fun s => rf_Height c hc0' hc1' s
  have h2 := fun s => rf_rHeight c hc0' hc1' s
  refine ⟨⟨[], hp ++ more⟩, ?_⟩
  generalize heightOf c = e at *
  simp only at hsh
  rw [rf_o D_steadfastlaw15_SpaceHeights rfl]
  simp only [go_sem, hsh, h1, h2]
theorem law_SpaceFinds : ∀ hp vs, Sh.FitsL hp [(.sl 28 (.st 26 [(.int .i64), (.int .i64), (.arr 24 8 (.int .u64))])), (.int .u64), (.int .u64)] vs → ∃ s', rf D f_steadfastlaw15_SpaceFinds vs ⟨[], hp⟩ = some (.bool true, s') := by
  intro hp vs hf
  obtain ⟨v, y, z, rfl, h1, ⟨c, rfl, hc0, hc1⟩, ⟨n, rfl, hn0, hn1⟩⟩ := fits3 hf
  have hc0' : (0 : Int) ≤ c := hc0
  have hc1' : c ≤ 18446744073709551615 := hc1
  have hn0' : (0 : Int) ≤ n := hn0
  have hn1' : n ≤ 18446744073709551615 := hn1
  obtain ⟨n, rfl⟩ : ∃ k : Nat, n = k := ⟨n.toNat, by omega⟩
  obtain ⟨lo, hrs, hlo⟩ := open_objs h1
  obtain ⟨more, hsh⟩ := rf_shown15 ⟨[], hp⟩
  obtain ⟨w, S, X, _, _, _, _, hm⟩ := rf_made15 (hrs [] more)
  have ht : ∀ i, i < 49 → (entM 100 lo i).kind ≠ 0 → (entM 100 lo i).line = 20 + i := fun i _ hk => entM_line hk
  have hP := prgM (H := hp ++ more) (ls := lnM lo) (w := w) (S := S) (X := X) ht
  have hD := docM (H := hp ++ more) (ls := lnM lo) (w := w) (S := S) (X := X) ht
  have hL := okL_of hlo
  have f1 := fun L => rf_Find (s := ⟨L, (hp ++ more) ++ madeH (hp ++ more).length (entM 100 lo) (lnM lo) w S X⟩) hP hL n (by omega) c hc0' hc1'
  have f2 := fun L => rf_rFind (s := ⟨L, (hp ++ more) ++ madeH (hp ++ more).length (entM 100 lo) (lnM lo) w S X⟩) hD hL n (by omega) c hc0' hc1'
  simp only at hsh hm f1 f2
  generalize hp ++ more = H at *
  generalize madeH H.length (entM 100 lo) (lnM lo) w S X = mh at *
  generalize findF (entM 100 lo) (lnM lo) c n = fr at *
  refine ⟨⟨[], H ++ mh⟩, ?_⟩
  simp only [FR.v, plV] at *
  rw [rf_o D_steadfastlaw15_SpaceFinds rfl]
  by_cases he : fr.e = 0
  · simp only [he, if_true] at f1 f2
    simp only [go_sem, hsh, hm, f1, f2]
  · simp only [he, if_false] at f1 f2
    simp only [go_sem, hsh, hm, f1, f2]
end Go.Proofs.Ytpbpgbedkmbfkaa
