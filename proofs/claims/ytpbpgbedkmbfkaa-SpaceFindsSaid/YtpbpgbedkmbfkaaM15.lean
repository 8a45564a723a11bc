/-
  Made15: a store made of a row of objects, and the document's.
-/
import Derived.Test.YtpbpgbedkmbfkaaMA
set_option maxRecDepth 100000
namespace Go.Proofs.Ytpbpgbedkmbfkaa
open Go.Ab

theorem made15_loop0 {s : St} {v : V} {lo : List Obj} (h : RS s 26 v (lo.map Obj.v)) :
    rc D s.loc.length (.loop [0, 4, 5, 6] b_steadfastlaw15_made_0) [(0, v), (4, .sl (.loc s.loc.length) [] 0 100 (some 100) 24), (5, .ptr (.loc (s.loc.length + 1)) [] 48), (6, .int .i64 0)] ⟨s.loc ++ [.rw (.agg 58 (tab 100 fun _ => lnV zl)), .rw (tabV fun _ => noEnt)], s.hp⟩ =
      some (.exit 0, [(0, v), (4, .sl (.loc s.loc.length) [] 0 100 (some 100) 24), (5, .ptr (.loc (s.loc.length + 1)) [] 48), (6, .int .i64 (min lo.length 49 : Nat)), (28, .bool false)], ⟨s.loc ++ [.rw (.agg 58 (tab 100 fun j => lnV (lnM lo j))), .rw (tabV (entM 100 lo))], s.hp⟩) := by
  have hr : ∀ X, RS ⟨s.loc ++ X, s.hp⟩ 26 v (lo.map Obj.v) := fun X => h.more ⟨List.prefix_append _ _, List.prefix_rfl⟩
  have hlt := h.locLt
  refine loop_runs (fun x : Nat => [(0, v), (4, .sl (.loc s.loc.length) [] 0 100 (some 100) 24), (5, .ptr (.loc (s.loc.length + 1)) [] 48), (6, .int .i64 x)])
    (fun x => ⟨s.loc ++ [.rw (.agg 58 (tab 100 fun j => lnV (lnI lo x j))), .rw (tabV (entI 100 lo x))], s.hp⟩) (fun _ => _) (fun x => 49 - x) (fun x => x ≤ 49 ∧ x ≤ lo.length) 0 ?_ ⟨Nat.zero_le _, Nat.zero_le _⟩ rfl (by simp only [lnI_zero]; rfl)
  rintro i ⟨hi, hi2⟩
  have hrr := fun a b => hr [.rw (.agg 58 a), .rw (.agg 48 b)]
  have hs := h.slen
  rw [List.length_map] at hs
  by_cases c1 : i < lo.length
  · by_cases c2 : i < 49
    · left
      have d1 : (i : Int) < lo.length := by omega
      have d2 : (i : Int) < 49 := by omega
      have d3 : (0 : Int) ≤ i := by omega
      have d4 : IntKind.i64.wrap ((i : Int) + 1) = (i : Int) + 1 := i64_id (by omega) (by omega)
      have d5 : IntKind.i64.wrap (20 + (i : Int)) = ((20 + i : Nat) : Int) := by rw [i64_id (by omega) (by omega)]; omega
      have e1 := locLt_mono (v := v) (show s.loc.length ≤ s.loc.length + 2 by omega) hlt
      have e2 : s.loc.length < s.loc.length + 2 := by omega
      have e3 : s.loc.length + 1 < s.loc.length + 2 := by omega
      have hg := get_map (f := Obj.v) c1 zeroObj
      have hT1 : ∀ b, ((tab 49 fun j => (entI 100 lo i j).v).set i b)[i]? = some b := fun b => List.getElem?_set_self (by rw [tab_len]; exact c2)
      have hT0 := tab_get (f := fun j => (entI 100 lo i j).v) c2
      have hA0 := tab_get (f := fun j => lnV (lnI lo i j)) (show 20 + i < 100 by omega)
      have q1 := neg_tmod (lo.getD i zeroObj).kind (m := 5) (by omega) (by omega)
      have q2 := neg_tmod (lo.getD i zeroObj).ver (m := 100) (by omega) (by omega)
      have sa := sad_all (a := .loc s.loc.length) (e := 24) (show 20 + i < 100 by omega)
      have hem : entM 100 lo i = ⟨absm (lo.getD i zeroObj).kind 5, absm (lo.getD i zeroObj).ver 100, if absm (lo.getD i zeroObj).kind 5 = 0 then 0 else 20 + i⟩ := if_pos c1
      refine ⟨i + 1, ⟨by omega, by omega⟩, by omega, rfl, ?_⟩
      by_cases hz : absm (lo.getD i zeroObj).kind 5 = 0
      · have hln : lnM lo (20 + i) = zl := by unfold lnM; rw [if_neg]; rw [Nat.add_sub_cancel_left]; exact fun h => h.2.2.2 hz
        rw [if_pos hz] at hem
        have hes := entI_step (congrArg Ent.v hem)
        simp only [tabV]
        rw [← lnI_same hln, ← hes, ← tab_set]
        simp only [Ent.v, lnV] at *
        generalize tab 100 (fun j => V.agg 24 ((lnI lo i j).map (V.int .u64))) = A at *
        generalize tab 49 (fun j => V.agg 42 [.int .i64 (entI 100 lo i j).kind, .int .i64 (entI 100 lo i j).ver, .int .i64 (entI 100 lo i j).line]) = T at *
        have hrr := hrr A T
        generalize lo.getD i zeroObj = o at *
        obtain ⟨k, w, ws⟩ := o
        simp only [Obj.v, absm] at *
        simp only [go_sem, b_steadfastlaw15_made_0, hs, d1, d2, d3, hrr.sadq hg, hrr.fadq hg, hrr.ldq hg, q1, q2]
        rw [Int.toNat_natCast]
        simp only [go_sem, hT0, hz, d4, e1, e2, e3]
        rfl
      · have hln : lnM lo (20 + i) = (lo.getD i zeroObj).l := by unfold lnM; rw [if_pos]; rw [Nat.add_sub_cancel_left]; rw [Nat.add_sub_cancel_left]; exact ⟨by omega, by omega, by omega, hz⟩
        have d6 : ((20 + i : Nat) : Int) = 20 + (i : Int) := by omega
        rw [if_neg hz, ← d6] at hem
        have hes := entI_step (congrArg Ent.v hem)
        have hls := lnI_step (lo := lo) (i := i)
        simp only [tabV]
        rw [← hls, ← hes, ← tab_set, ← tab_set, hln]
        simp only [Ent.v, lnV] at *
        generalize tab 100 (fun j => V.agg 24 ((lnI lo i j).map (V.int .u64))) = A at *
        generalize tab 49 (fun j => V.agg 42 [.int .i64 (entI 100 lo i j).kind, .int .i64 (entI 100 lo i j).ver, .int .i64 (entI 100 lo i j).line]) = T at *
        have hrr := hrr A
        generalize lo.getD i zeroObj = o at *
        obtain ⟨k, w, ws⟩ := o
        simp only [Obj.v, absm] at *
        have hr1 := hrr T
        have hr2 := hrr (T.set i (.agg 42 [.int .i64 (if k.tmod 5 < 0 then -k.tmod 5 else k.tmod 5), .int .i64 (if w.tmod 100 < 0 then -w.tmod 100 else w.tmod 100), .int .i64 ((20 + i : Nat) : Int)]))
        simp only [go_sem, b_steadfastlaw15_made_0, hs, d1, d2, d3, hr1.sadq hg, hr1.fadq hg, hr1.ldq hg, q1, q2]
        rw [Int.toNat_natCast]
        simp only [go_sem, hT0, hz, d2, d3, d5]
        rw [Int.toNat_natCast]
        simp only [go_sem, hT1, d5, List.set_set, hr2.sadq hg, hr2.fadq hg, hr2.ldq hg, sa, hA0, d4, e1, e2, e3]
        rfl
    · right
      have hm : i = min lo.length 49 := by omega
      have d1 : (i : Int) < lo.length := by omega
      have d2 : ¬ (i : Int) < 49 := by omega
      simp only [tabV]
      rw [lnI_end hm, entI_end hm, ← hm]
      simp only [go_sem, b_steadfastlaw15_made_0, hs, d1, d2]
  · right
    have hm : i = min lo.length 49 := by omega
    have d1 : ¬ (i : Int) < lo.length := by omega
    simp only [tabV]
    rw [lnI_end hm, entI_end hm, ← hm]
    simp only [go_sem, b_steadfastlaw15_made_0, hs, d1]
theorem made15_loop1 (s : St) (P4 P5 : V) (L : List Blk) (hL : L.length = 2) (h4 : P4.locLt (s.loc.length + 3) = true) (h5 : P5.locLt (s.loc.length + 3) = true) (hb : L.all (blkLt (s.loc.length + 3)) = true) :
    rc D s.loc.length (.loop [4, 5, 9, 10] b_steadfastlaw15_made_1) [(4, P4), (5, P5), (9, .ptr (.loc (s.loc.length + 2)) [] 50), (10, .int .i64 0)] ⟨s.loc ++ (L ++ [.rw (.agg 50 (tab 8 fun _ => .int .i64 0))]), s.hp⟩ =
      some (.exit 2, [(4, P4), (5, P5), (9, .ptr (.loc (s.loc.length + 2)) [] 50), (10, .int .i64 8), (74, .bool false)], ⟨s.loc ++ (L ++ [.rw (dirV dir10)]), s.hp⟩) := by
  match L, hL with
  | [b0, b1], _ =>
  simp only [List.all_cons, List.all_nil, Bool.and_true, Bool.and_eq_true] at hb
  obtain ⟨hb0, hb1⟩ := hb
  have hend : (tab 8 fun j => V.int .i64 (if j < 8 then dir10 j else 0)) = tab 8 fun j => V.int .i64 (dir10 j) := tab_congr fun j hj => by rw [if_pos hj]
  refine loop_runs (fun x : Nat => [(4, P4), (5, P5), (9, .ptr (.loc (s.loc.length + 2)) [] 50), (10, .int .i64 x)])
    (fun x => ⟨s.loc ++ [b0, b1, .rw (.agg 50 (tab 8 fun j => .int .i64 (if j < x then dir10 j else 0)))], s.hp⟩) (fun _ => _) (fun x => 8 - x) (fun x => x ≤ 8) 0 ?_ (Nat.zero_le _) rfl rfl
  intro i hi
  by_cases c1 : i < 8
  · left
    have d1 : (i : Int) < 8 := by omega
    have d2 : (0 : Int) ≤ i := by omega
    have d4 : IntKind.i64.wrap ((i : Int) + 1) = (i : Int) + 1 := i64_id (by omega) (by omega)
    have d5 : IntKind.i64.wrap (10 + (i : Int)) = 10 + (i : Int) := i64_id (by omega) (by omega)
    have hA0 := tab_get (f := fun j => V.int .i64 (if j < i then dir10 j else 0)) c1
    have hset : (tab 8 fun j => V.int .i64 (if j < i then dir10 j else 0)).set i (.int .i64 (10 + i)) = tab 8 fun j => V.int .i64 (if j < i + 1 then dir10 j else 0) := by
      rw [tab_set]
      apply tab_congr
      intro j _
      by_cases e : j = i
      · subst e; rw [upd_self]; simp [dir10, c1]
      · rw [upd_ne e]
        by_cases h2 : j < i
        · rw [if_pos h2, if_pos (by omega)]
        · rw [if_neg h2, if_neg (by omega)]
    have e2 : s.loc.length + 2 < s.loc.length + 3 := by omega
    refine ⟨i + 1, by omega, by omega, rfl, ?_⟩
    rw [← hset]
    generalize tab 8 (fun j => V.int .i64 (if j < i then dir10 j else 0)) = A at *
    simp only [go_sem, b_steadfastlaw15_made_1, d1, d2, d5]
    rw [Int.toNat_natCast]
    simp only [go_sem, hA0, d4, h4, h5, hb0, hb1, e2]
    rfl
  · right
    have : i = 8 := by omega
    subst this
    simp only [dirV]
    rw [hend]
    simp only [go_sem, b_steadfastlaw15_made_1]
theorem rf_made15 {s : St} {v : V} {lo : List Obj} (h : RS s 26 v (lo.map Obj.v)) :
    ∃ (w : List Nat) (S : List Int) (X : List Blk), OkS w ∧ (∀ j, j < 1024 → bit w j = true → 10 ≤ j ∧ j < 100) ∧ bit w 18 = true ∧ Alike 10 100 w S ∧
      rf D f_steadfastlaw15_made [v] s = some (.tup [.ptr (.hp (s.hp.length + 7)) [] 43, .ptr (.hp (s.hp.length + 10 + X.length)) [] 31], ⟨s.loc, s.hp ++ madeH s.hp.length (entM 100 lo) (lnM lo) w S X⟩) := by
  have l0 := made15_loop0 h
  have ht : ∀ i, i < 49 → (entM 100 lo i).kind ≠ 0 → (entM 100 lo i).line = 20 + i := fun i _ hk => entM_line hk
  generalize entM 100 lo = t at *
  generalize lnM lo = ls at *
  have l1 := made15_loop1 s (.sl (.loc s.loc.length) [] 0 100 (some 100) 24) (.ptr (.loc (s.loc.length + 1)) [] 48) [.rw (.agg 58 (tab 100 fun j => lnV (ls j))), .rw (tabV t)] rfl (by simp only [go_sem]; simp) (by simp only [go_sem]; simp) (by simp only [tabV]; simp only [go_sem])
  have hnv := rf_nvm_Of (n := 100) (a := s.loc.length) (ls := ls) (by omega) (by omega) ⟨s.loc ++ [.rw (.agg 58 (tab 100 fun j => lnV (ls j))), .rw (tabV t), .rw (dirV dir10)], s.hp⟩ (by simp)
  have hr3 := rf_ref03_Of (n := 100) (a := s.loc.length) (ls := ls) (by omega) (by omega) ⟨s.loc ++ [.rw (.agg 58 (tab 100 fun j => lnV (ls j))), .rw (tabV t), .rw (dirV dir10)], s.hp ++ [.rw (.agg 57 (tab 100 fun i => nlV (lnV (ls i)) (lnV (ls i)) .nils zfl)), .rw (memV s.hp.length 100 false false 0 0)]⟩ (by simp)
  simp only [List.length_append, List.length_cons, List.length_nil] at hnv hr3
  obtain ⟨w0, ok0, hb0, hob⟩ := rf_objects_Of (m := s.hp.length + 1) (k := s.hp.length) (n := 100) (off := false) (burns := false) (left := 0) (steps := 0) ⟨s.loc ++ [.rw (.agg 58 (tab 100 fun j => lnV (ls j))), .rw (tabV t), .rw (dirV dir10)], s.hp ++ [.rw (.agg 57 (tab 100 fun i => nlV (lnV (ls i)) (lnV (ls i)) .nils zfl)), .rw (memV s.hp.length 100 false false 0 0), .rw (.agg 58 []), .rw (.agg 58 (tab 100 fun i => lnV (ls i))), .rw (.agg 53 (tab 100 fun _ => .nils)), .rw (rmV (s.hp.length + 3) 100 (s.hp.length + 4) false (-1) 0)]⟩ (by simp) 10 (by omega) (by omega) (by omega) t dir10
  obtain ⟨w, htk, okw, hin, h18⟩ := take_all ht ok0 hb0
  rcases hob with ⟨hn, _⟩ | ⟨w', okw', htk', hob⟩
  · exact absurd (hn.symm.trans htk) (by simp)
  have hww : w' = w := by
    have := htk'.symm.trans htk
    simpa using this
  subst hww
  simp only [List.length_append, List.length_cons, List.length_nil] at hob
  have hr10 := rf_ref10_Of (m := s.hp.length + 5) (k := s.hp.length + 3) (k2 := s.hp.length + 4) (n := 100) (off := false) (left := -1) (count := 0) ⟨s.loc ++ [.rw (.agg 58 (tab 100 fun j => lnV (ls j))), .rw (tabV t), .rw (dirV dir10)], s.hp ++ [.rw (.agg 57 (tab 100 fun i => nlV (lnV (ls i)) (lnV (ls i)) .nils zfl)), .rw (memV s.hp.length 100 false false 0 0), .rw (.agg 58 []), .rw (.agg 58 (tab 100 fun i => lnV (ls i))), .rw (.agg 53 (tab 100 fun _ => .nils)), .rw (rmV (s.hp.length + 3) 100 (s.hp.length + 4) false (-1) 0), .rw (frV 10 100 w' (w16 [])), .rw (StF.v ⟨s.hp.length + 1, s.hp.length + 6, t, t, dir10, fun _ => noEnt, false⟩ (shOf t (fun _ => noEnt) false))]⟩ (by simp) 10 (by omega) (by omega) (by omega) t dir10 (allL_in ht) w0 ok0 hb0
  rcases hr10 with ⟨hn, _⟩ | ⟨w2, S, X, htk2, hal, hr10⟩
  · exact absurd (hn.symm.trans htk) (by simp)
  have hww : w2 = w' := by
    have := htk2.symm.trans htk
    simpa using this
  subst hww
  simp only [List.length_append, List.length_cons, List.length_nil] at hr10
  refine ⟨w2, S, X, okw, hin, h18, hal, ?_⟩
  have z1 : V.agg 48 (List.replicate 49 (.agg 42 [.int .i64 0, .int .i64 0, .int .i64 0])) = tabV fun _ => noEnt := by rw [tab_rep]; rfl
  have z2 : List.replicate 100 (V.agg 24 (List.replicate 8 (.int .u64 0))) = tab 100 fun _ => lnV zl := by rw [tab_rep]; rfl
  have z3 : List.replicate 8 (V.int .i64 0) = tab 8 fun _ => V.int .i64 0 := tab_rep _ _
  have hmost : (100 : Int) ≤ (most : Nat) := by unfold most; omega
  simp only [madeH]
  rw [rf_o D_steadfastlaw15_made rfl]
  simp only [tabV, dirV, rmV] at *
  simp only [List.append_assoc, List.cons_append, List.nil_append, Nat.zero_add, Nat.reduceAdd, Nat.add_assoc] at l1 hnv hr3 hob hr10
  simp only [go_sem, z1, z2, hmost, l0]
  simp only [go_sem, z3, l1]
  simp only [go_sem, hnv]
  simp only [go_sem, hr3]
  simp only [go_sem, hob]
  simp only [go_sem, hr10]
  rw [Nat.add_assoc s.hp.length 10 X.length]
end Go.Proofs.Ytpbpgbedkmbfkaa
