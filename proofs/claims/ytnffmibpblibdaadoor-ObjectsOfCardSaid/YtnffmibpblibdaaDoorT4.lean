/-
  YtnffmibpblibdaaDoorT4: what functions of the program compute (ObjC, ObjD, FraQ, SofB, LobH).
-/
import Derived.Test.YtnffmibpblibdaaDoorT1
import Derived.Test.YtnffmibpblibdaaDoorT2
import Derived.Test.YtnffmibpblibdaaDoorT3
set_option maxRecDepth 100000
namespace Go.Proofs.YtnffmibpblibdaaDoor
open Go.Ab

/-- A slice of numbers that was appended to, and what is behind it. -/
structure Apd (L0 : List Blk) (X : List Blk) (v : V) (l : List Int) : Prop where
  at' : (l = [] ∧ v = .nils) ∨ (∃ Y, X = Y ++ [.rw (.agg 38 (l.map (.int .i64)))] ∧ v = .sl (.hp (L0.length + Y.length)) [] 0 l.length none 10)
theorem Apd.push {L0 X : List Blk} {v : V} {l : List Int} (h : Apd L0 X v l) {loc : List Blk} (hl : l.length < 1000) (x : Int) {y : V} (hy : y = .nils ∨ ∃ a p o n c, y = .sl a p o n c 10) (hyl : St.elems ⟨loc, L0 ++ X⟩ y = some [.int .i64 x]) {base : Nat} :
    ∃ X' v', vappend base true 38 10 v y ⟨loc, L0 ++ X⟩ = some (v', ⟨loc, L0 ++ X'⟩) ∧ Apd L0 X' v' (l ++ [x]) := by
  rcases h.at' with ⟨rfl, rfl⟩ | ⟨Y, rfl, rfl⟩
  · refine ⟨X ++ [.rw (.agg 38 [.int .i64 x])], _, ?_, ⟨.inr ⟨X, rfl, rfl⟩⟩⟩
    rw [app_nils hy hyl (by simp) (by simp [most]) rfl]
    simp only [go_sem]
  · refine ⟨Y ++ [.dead] ++ [.rw (.agg 38 ((l ++ [x]).map (.int .i64)))], _, ?_, ⟨.inr ⟨Y ++ [.dead], rfl, rfl⟩⟩⟩
    have e1 : St.elems ⟨loc, L0 ++ (Y ++ [.rw (.agg 38 (l.map (.int .i64)))])⟩ (.sl (.hp (L0.length + Y.length)) [] 0 l.length none 10) = some (l.map (.int .i64)) :=
      elems_whole (t := 38) (by rw [← List.append_assoc, ← List.length_append]; simp only [go_sem]) (by simp)
    have e2 : St.at ⟨loc, L0 ++ (Y ++ [.rw (.agg 38 (l.map (.int .i64)))])⟩ (.hp (L0.length + Y.length)) = some (.rw (.agg 38 (l.map (.int .i64)))) := by
      rw [← List.append_assoc, ← List.length_append]; simp [St.at]
    rw [app_may hy e1 hyl (by simp) (by simp [most]; omega) rfl e2]
    have e3 : (St.set ⟨loc, L0 ++ (Y ++ [.rw (.agg 38 (l.map (.int .i64)))])⟩ (.hp (L0.length + Y.length)) .dead) = ⟨loc, L0 ++ (Y ++ [.dead])⟩ := by
      simp only [St.set]
      rw [← List.append_assoc, ← List.length_append, List.set_append_right _ _ (Nat.le_refl _)]
      simp
    rw [e3]
    simp only [go_sem]
    simp
theorem Apd.elems {L0 X : List Blk} {v : V} {l : List Int} (h : Apd L0 X v l) {loc : List Blk} : St.elems ⟨loc, L0 ++ X⟩ v = some (l.map (.int .i64)) := by
  rcases h.at' with ⟨rfl, rfl⟩ | ⟨Y, rfl, rfl⟩
  · rfl
  · exact elems_whole (t := 38) (by rw [← List.append_assoc, ← List.length_append]; simp only [go_sem]) (by simp)
theorem linesF_snoc (t : Nat → Ent) : ∀ (n i : Nat), linesF t i (n + 1) = linesF t i n ++ if (t (i + n)).kind = 0 then [] else [(t (i + n)).line]
  | 0, i => by simp only [linesF, Nat.add_zero]; split <;> rfl
  | n + 1, i => by
    rw [linesF, linesF_snoc t n (i + 1), linesF, show i + 1 + n = i + (n + 1) by omega]
    split <;> simp
theorem linesF_len (t : Nat → Ent) : ∀ (n i : Nat), (linesF t i n).length ≤ n
  | 0, i => Nat.le_refl _
  | n + 1, i => by
    have := linesF_len t n (i + 1)
    simp only [linesF]
    split
    · omega
    · simp only [List.length_cons]; omega
theorem rf_rlines (t : Nat → Ent) (s : St) : ∃ X v, Apd s.hp X v (linesF t 0 49) ∧ rf D f_steadfastref10_lines [tabV t] s = some (v, ⟨s.loc, s.hp ++ X⟩) := by
  have loop : ∃ r, rc D s.loc.length (.loop [1, 3, 4] b_steadfastref10_lines_0) [(1, .ptr (.loc s.loc.length) [] 48), (3, .nils), (4, .int .i64 0)] ⟨s.loc ++ [.rw (tabV t)], s.hp⟩ = some r ∧
      ∃ X v, Apd s.hp X v (linesF t 0 49) ∧ r = (.exit 0, [(1, .ptr (.loc s.loc.length) [] 48), (3, v), (4, .int .i64 49), (6, .bool false)], ⟨s.loc ++ [.rw (tabV t)], s.hp ++ X⟩) := by
    refine loop_ex (fun x : Nat × List Blk × V => [(1, .ptr (.loc s.loc.length) [] 48), (3, x.2.2), (4, .int .i64 x.1)]) (fun x => ⟨s.loc ++ [.rw (tabV t)], s.hp ++ x.2.1⟩) _ (fun x => 49 - x.1)
      (fun x => x.1 ≤ 49 ∧ Apd s.hp x.2.1 x.2.2 (linesF t 0 x.1)) (0, [], .nils) ?_ ⟨by simp only; omega, ⟨.inl ⟨rfl, rfl⟩⟩⟩ rfl (by simp)
    rintro ⟨i, X, v⟩ ⟨hi, ha⟩
    simp only at hi ha
    by_cases c1 : i < 49
    · left
      have d1 : (i : Int) < 49 := by omega
      have d2 : (0 : Int) ≤ i := by omega
      have d4 : IntKind.i64.wrap ((i : Int) + 1) = (i : Int) + 1 := i64_id (by omega) (by omega)
      have d5 : s.loc.length < s.loc.length + 1 := Nat.lt_succ_self _
      have g1 := tab_get (f := fun i => (t i).v) c1
      have hsn := linesF_snoc t i 0
      rw [Nat.zero_add] at hsn
      have hv : v.locLt (s.loc.length + 1) = true := by
        rcases ha.at' with ⟨_, rfl⟩ | ⟨Y, _, rfl⟩ <;> simp only [go_sem]
      by_cases hk : (t i).kind = 0
      · rw [if_pos hk, List.append_nil] at hsn
        refine ⟨(i + 1, X, v), ⟨by simp only; omega, by simp only; rw [hsn]; exact ha⟩, by simp only; omega, ?_⟩
        simp only [tabV, Ent.v] at *
        simp only [hk] at g1
        generalize tab 49 (fun i => V.agg 42 [.int .i64 (t i).kind, .int .i64 (t i).ver, .int .i64 (t i).line]) = T at *
        simp only [go_sem, b_steadfastref10_lines_0, d1, d2]
        rw [Int.toNat_natCast]
        simp only [go_sem, g1, d4, hv, d5]
        rfl
      · rw [if_neg hk] at hsn
        have hll := linesF_len t i 0
        obtain ⟨X', v', e1, ha'⟩ := ha.push (loc := s.loc ++ [.rw (tabV t), .rw (.agg 38 [.int .i64 (t i).line])]) (by omega) (t i).line (y := .sl (.loc (s.loc.length + 1)) [] 0 1 (some 1) 10) (.inr ⟨_, _, _, _, _, rfl⟩)
          (elems_whole (t := 38) (by simp only [go_sem]) rfl) (base := s.loc.length)
        have hv' : v'.locLt (s.loc.length + 1) = true := by
          rcases ha'.at' with ⟨_, rfl⟩ | ⟨Y, _, rfl⟩ <;> simp only [go_sem]
        refine ⟨(i + 1, X', v'), ⟨by simp only; omega, by simp only; rw [hsn]; exact ha'⟩, by simp only; omega, ?_⟩
        simp only [tabV, Ent.v] at *
        generalize tab 49 (fun i => V.agg 42 [.int .i64 (t i).kind, .int .i64 (t i).ver, .int .i64 (t i).line]) = T at *
        simp only [go_sem, b_steadfastref10_lines_0, d1, d2]
        rw [Int.toNat_natCast]
        simp only [go_sem, g1, hk, d1, d2]
        rw [Int.toNat_natCast]
        simp only [go_sem, g1, d4, List.replicate, e1, hv', d5]
        rfl
    · right
      have : i = 49 := by omega
      subst this
      refine ⟨_, ?_, X, v, ha, rfl⟩
      simp only [go_sem, b_steadfastref10_lines_0]
  obtain ⟨_, hl, X, v, ha, rfl⟩ := loop
  refine ⟨X, v, ha, ?_⟩
  have hv : v.locLt s.loc.length = true := by
    rcases ha.at' with ⟨_, rfl⟩ | ⟨Y, _, rfl⟩ <;> simp only [go_sem]
  simp only [tabV] at *
  rw [rf_o D_steadfastref10_lines rfl]
  simp only [go_sem, hl, hv]
end Go.Proofs.YtnffmibpblibdaaDoor
namespace Go.Proofs.YtnffmibpblibdaaDoor
open Go.Ab

/-- A set of lines and a row of states that tell the same. -/
structure Alike (f : Int) (n : Nat) (w : List Nat) (S : List Int) : Prop where
  len : (S.length : Int) = n - f
  ok : OkS w
  eq : ∀ k : Nat, k < S.length → S.getD k 0 = if bit w (f.toNat + k) then 0 else 1
theorem Alike.st {f : Int} {n : Nat} {w : List Nat} {S : List Int} (h : Alike f n w S) (h0 : 0 ≤ f) (x : Int) : stS f S x = stOf f n w (w16 []) x := by
  have hl := h.len
  unfold stS stOf
  by_cases c1 : x < f
  · rw [if_pos (.inl c1), if_pos (.inl c1)]
  · by_cases c2 : (n : Int) ≤ x
    · rw [if_pos (.inr (by omega)), if_pos (.inr c2)]
    · rw [if_neg (by omega), if_neg (by omega), h.eq _ (by omega), bit_nil]
      have : f.toNat + (x - f).toNat = x.toNat := by omega
      rw [this]; simp
theorem Alike.take {f : Int} {n : Nat} {w : List Nat} {S : List Int} (h : Alike f n w S) (h0 : 0 ≤ f) (h1 : n ≤ 1024) {x : Int} (hx : stOf f n w (w16 []) x = 0) : Alike f n (flip w x.toNat) (S.set (x - f).toNat 1) := by
  have hl := h.len
  have hr := line_of (show stOf f n w (w16 []) x ≠ -1 by rw [hx]; decide)
  have hb : bit w x.toNat = true := by
    unfold stOf at hx
    rw [if_neg (by omega), bit_nil] at hx
    split at hx
    · assumption
    · simp at hx
  refine ⟨by rw [List.length_set]; exact hl, h.ok.flip (by omega), fun k hk => ?_⟩
  rw [List.length_set] at hk
  rw [getD_setI (by omega), bit_flip h.ok (by omega)]
  by_cases e : (x - f).toNat = k
  · have : x.toNat = f.toNat + k := by omega
    rw [if_pos e, ← this, hb]; simp
  · have : ¬ x.toNat = f.toNat + k := by omega
    rw [if_neg e, h.eq k hk]; simp [this]
structure InI (ls : List Int) : Prop where
  lt : ∀ x ∈ ls, x ≤ 9223372036854775807
theorem tab8 (d : Nat → Int) : tab 8 (fun i => V.int .i64 (d i)) = (dirF d 0 8).map (.int .i64) := rfl
theorem refOf_loop (L H : List Blk) (P6 P7 P0 v12 : V) (b c : Nat) (f : Int) (n : Nat) (ls : List Int) (h0 : 0 ≤ f) (h1 : n ≤ 1024) (w0 : List Nat) (S0 : List Int) (hA : Alike f n w0 S0) (base : Nat)
    (hH : Rf ⟨L, H⟩ b c f S0) (hv : ∀ k, k < ls.length → sadv 10 v12 (.int .i64 (k : Int)) = some (elp v12 k) ∧ (∀ H', ldv ⟨L, H'⟩ 10 (elp v12 k) = some (.int .i64 (ls.getD k 0)))) (hsl : V.slen false v12 = some ls.length) (hls : InI ls)
    (hll : ls.length < 1000) (hs6 : scrubOk base L.length [(0, P0), (6, P6), (7, P7), (10, .ptr (.hp b) [] 21), (12, v12), (13, .int .i64 0)] ⟨L, []⟩ = true) :
    ∃ r, rc D base (.loop [0, 6, 7, 10, 12, 13] b_steadfastref10_Of_0) [(0, P0), (6, P6), (7, P7), (10, .ptr (.hp b) [] 21), (12, v12), (13, .int .i64 0)] ⟨L, H⟩ = some r ∧
      ((takeL f n ls w0 = none ∧ ∃ S' : List Int, r = (.ret, [(8, .nilp), (9, .int .i64 21)], ⟨L, H.set c (.rw (.agg 38 (S'.map (.int .i64))))⟩)) ∨
       (∃ (w : List Nat) (S' : List Int), takeL f n ls w0 = some w ∧ Alike f n w S' ∧ r = (.exit 0, [(0, P0), (6, P6), (7, P7), (10, .ptr (.hp b) [] 21), (12, v12), (13, .int .i64 ls.length), (33, .bool false)], ⟨L, H.set c (.rw (.agg 38 (S'.map (.int .i64))))⟩))) := by
  have hc := (List.getElem?_eq_some_iff.1 hH.sb).1
  have hlen0 := hA.len
  refine loop_ex (fun x : Nat × List Nat × List Int => [(0, P0), (6, P6), (7, P7), (10, .ptr (.hp b) [] 21), (12, v12), (13, .int .i64 x.1)]) (fun x => ⟨L, H.set c (.rw (.agg 38 (x.2.2.map (.int .i64))))⟩) _ (fun x => ls.length - x.1)
    (fun x => x.1 ≤ ls.length ∧ Alike f n x.2.1 x.2.2 ∧ takeL f n ls w0 = takeL f n (ls.drop x.1) x.2.1) (0, w0, S0) ?_ ⟨by simp only; omega, hA, rfl⟩ rfl (by simp only; rw [set_same hH.sb])
  rintro ⟨i, w, S⟩ ⟨hi, hal, htk⟩
  simp only at hi hal htk
  have hbc : b ≠ c := by
    intro e
    subst e
    have := hH.rb.symm.trans hH.sb
    simp [rfV] at this
  have hlen := hal.len
  have hR : Rf ⟨L, H.set c (.rw (.agg 38 (S.map (.int .i64))))⟩ b c f S := ⟨by rw [List.getElem?_set_ne (Ne.symm hbc)]; have := hH.rb; rw [show S.length = S0.length by omega]; exact this, List.getElem?_set_self hc, h0, by omega⟩
  simp only [scrubOk, List.all_cons, List.all_nil, Bool.and_true, Bool.and_eq_true, decide_eq_true_eq] at hs6
  obtain ⟨⟨_, g1, g2, g3, _, g5, _⟩, g7⟩ := hs6
  rw [List.take_length] at g7
  by_cases c1 : i < ls.length
  · obtain ⟨q1, q2⟩ := hv i c1
    have d1 : (i : Int) < ls.length := by omega
    have d4 : IntKind.i64.wrap ((i : Int) + 1) = (i : Int) + 1 := i64_id (by omega) (by omega)
    have hx : ls.drop i = ls.getD i 0 :: ls.drop (i + 1) := by
      rw [List.getD_eq_getElem?_getD, List.getElem?_eq_getElem c1, Option.getD_some]
      exact List.drop_eq_getElem_cons c1
    rw [hx] at htk
    simp only [takeL] at htk
    have hxi := hls.lt _ (getD_mem c1 0)
    generalize ls.getD i 0 = x at *
    have hst := hal.st h0 x
    have r1 := rf_rTake hR x hxi
    rw [rf_rturn hR x hxi 0 1, hst] at r1
    by_cases hz : stOf f n w (w16 []) x = 0
    · left
      rw [if_pos hz] at htk
      rw [hz] at r1
      simp only [show ¬ ((0 : Int) < 0) by decide, if_false, ne_eq, not_true_eq_false, List.set_set] at r1
      refine ⟨(i + 1, flip w x.toNat, S.set (x - f).toNat 1), ⟨by simp only; omega, hal.take h0 h1 hz, htk⟩, by simp only; omega, ?_⟩
      simp only
      generalize S.set (x - f).toNat 1 = S2 at *
      simp only [go_sem, b_steadfastref10_Of_0, hsl, d1, q1, q2, r1, d4, g1, g2, g3, g5, g7]
      rfl
    · right
      rw [if_neg hz] at htk
      have hr : rf D f_steadfastref04_Frames_Take [.ptr (.hp b) [] 21, .int .i64 x] ⟨L, H.set c (.rw (.agg 38 (S.map (.int .i64))))⟩ = some (.int .i64 1, ⟨L, H.set c (.rw (.agg 38 (S.map (.int .i64))))⟩) ∨
          rf D f_steadfastref04_Frames_Take [.ptr (.hp b) [] 21, .int .i64 x] ⟨L, H.set c (.rw (.agg 38 (S.map (.int .i64))))⟩ = some (.int .i64 3, ⟨L, H.set c (.rw (.agg 38 (S.map (.int .i64))))⟩) := by
        rw [r1]
        by_cases hn : stOf f n w (w16 []) x < 0
        · left; rw [if_pos hn]
        · right; rw [if_neg hn, if_pos hz]
      refine ⟨_, ?_, .inl ⟨htk, S, rfl⟩⟩
      rcases hr with hr | hr <;> simp only [go_sem, b_steadfastref10_Of_0, hsl, d1, q1, q2, hr]
  · right
    have : i = ls.length := by omega
    subst this
    have d1 : ¬ ((ls.length : Nat) : Int) < ls.length := by omega
    refine ⟨_, ?_, .inr ⟨w, S, by rw [htk, List.drop_length]; rfl, hal, rfl⟩⟩
    simp only [go_sem, b_steadfastref10_Of_0, hsl, d1]
structure RstF where
  m : Nat
  fr : Nat
  work : Nat → Ent
  base : Nat → Ent
  dir : Nat → Int
  mark : Nat → Ent
  marked : Bool
def RstF.v (x : RstF) : V := .agg 31 [.ptr (.hp x.m) [] 33, .ptr (.hp x.fr) [] 21, tabV x.work, tabV x.base, dirV x.dir, tabV x.mark, .bool x.marked]
theorem dirF_len (d : Nat → Int) : (dirF d 0 8).length = 8 := rfl
theorem getElem_map_at {ls : List Int} {k : Nat} (h : k < ls.length) : (ls.map (V.int .i64))[k]? = some (.int .i64 (ls.getD k 0)) := get_map h 0
/-- What was appended, as the loop reads it. -/
theorem app_dir (L0 H : List Blk) (t d : V) (dd : Nat → Int) (hd : d = dirV dd) {X : List Blk} {v : V} {l1 : List Int} (h : Apd H X v l1) (hl1 : l1.length ≤ 49) {base : Nat} :
    ∃ X', X'.length = X.length ∧ vappend base false 38 10 v (.sl (.loc (L0.length + 1)) [] 0 8 (some 8) 10) ⟨L0 ++ [.rw t, .rw d], H ++ X⟩ =
      some (.sl (.loc (L0.length + 2)) [] 0 (l1 ++ dirF dd 0 8).length none 10, ⟨L0 ++ [.rw t, .rw d, .rw (.agg 38 ((l1 ++ dirF dd 0 8).map (.int .i64)))], H ++ X'⟩) := by
  subst hd
  have hy : St.elems ⟨L0 ++ [.rw t, .rw (dirV dd)], H ++ X⟩ (.sl (.loc (L0.length + 1)) [] 0 8 (some 8) 10) = some ((dirF dd 0 8).map (.int .i64)) :=
    elems_whole (t := 50) (by simp only [go_sem, dirV, tab8]) rfl
  have hne : (dirF dd 0 8).map (V.int .i64) ≠ [] := by intro h; cases h
  have hx := h.elems (loc := L0 ++ [.rw t, .rw (dirV dd)])
  rcases h.at' with ⟨rfl, rfl⟩ | ⟨Y, rfl, rfl⟩
  · refine ⟨X, rfl, ?_⟩
    rw [app_nils (.inr ⟨_, _, _, _, _, rfl⟩) hy hne (by simp [dirF_len, most]) rfl]
    simp only [go_sem]
    simp
  · refine ⟨Y ++ [.dead], by simp, ?_⟩
    have e2 : St.at ⟨L0 ++ [.rw t, .rw (dirV dd)], H ++ (Y ++ [.rw (.agg 38 (l1.map (.int .i64)))])⟩ (.hp (H.length + Y.length)) = some (.rw (.agg 38 (l1.map (.int .i64)))) := by
      rw [← List.append_assoc, ← List.length_append]; simp [St.at]
    rw [app_may (.inr ⟨_, _, _, _, _, rfl⟩) hx hy hne (by simp [dirF_len, most]; omega) rfl e2]
    have e3 : (St.set ⟨L0 ++ [.rw t, .rw (dirV dd)], H ++ (Y ++ [.rw (.agg 38 (l1.map (.int .i64)))])⟩ (.hp (H.length + Y.length)) .dead) = ⟨L0 ++ [.rw t, .rw (dirV dd)], H ++ (Y ++ [.dead])⟩ := by
      simp only [St.set]
      rw [← List.append_assoc, ← List.length_append, List.set_append_right _ _ (Nat.le_refl _)]
      simp
    rw [e3]
    simp only [go_sem]
    simp
theorem alike0 {f : Int} {n : Nat} {w0 : List Nat} (h0 : 0 ≤ f) (h1 : f ≤ n) (h2 : n ≤ 1024) (hok : OkS w0) (hbit : ∀ j : Nat, j < 1024 → bit w0 j = (decide (f ≤ j) && decide ((j : Int) < n))) : Alike f n w0 (List.replicate (n - f).toNat 0) := by
  refine ⟨by rw [List.length_replicate]; omega, hok, fun k hk => ?_⟩
  rw [List.length_replicate] at hk
  rw [hbit _ (by omega)]
  have e1 : decide (f ≤ ((f.toNat + k : Nat) : Int)) = true := decide_eq_true (by omega)
  have e2 : decide (((f.toNat + k : Nat) : Int) < n) = true := decide_eq_true (by omega)
  rw [e1, e2]
  simp [List.getD_eq_getElem?_getD, hk]
theorem rf_ref10_Of {m k k2 n : Nat} {off : Bool} {left count : Int} (s : St) (hm : s.hp[m]? = some (.rw (rmV k n k2 off left count))) (f : Int) (h0 : 0 ≤ f) (h1 : f ≤ n) (h2 : n ≤ 1024) (t : Nat → Ent) (d : Nat → Int) (hI : InI (allL t d))
    (w0 : List Nat) (hok0 : OkS w0) (hbit0 : ∀ j : Nat, j < 1024 → bit w0 j = (decide (f ≤ j) && decide ((j : Int) < n))) :
    (takeL f n (allL t d) w0 = none ∧ ∃ more, rf D f_steadfastref10_Of [.ptr (.hp m) [] 33, .int .i64 f, tabV t, dirV d] s = some (.tup [.nilp, .int .i64 21], ⟨s.loc, s.hp ++ more⟩)) ∨
    (∃ (w : List Nat) (S : List Int) (X : List Blk), takeL f n (allL t d) w0 = some w ∧ Alike f n w S ∧ rf D f_steadfastref10_Of [.ptr (.hp m) [] 33, .int .i64 f, tabV t, dirV d] s = some (.tup [.ptr (.hp (s.hp.length + 2 + X.length)) [] 31, .int .i64 0],
      ⟨s.loc, s.hp ++ ([.rw (.agg 38 (S.map (.int .i64))), .rw (rfV f s.hp.length S.length)] ++ X ++ [.rw (RstF.v ⟨m, s.hp.length + 1, t, t, d, fun _ => noEnt, false⟩)])⟩)) := by
  have hA := alike0 h0 h1 h2 hok0 hbit0
  have hnew := fun L => rf_rNew_ok f n h0 h1 (by omega) ⟨s.loc ++ L, s.hp⟩
  have hrl : (List.replicate ((n : Int) - f).toNat (V.int .i64 0)) = (List.replicate ((n : Int) - f).toNat (0 : Int)).map (.int .i64) := by rw [List.map_replicate]
  rw [hrl] at hnew
  have hlr : (List.replicate ((n : Int) - f).toNat (0 : Int)).length = ((n : Int) - f).toNat := List.length_replicate
  generalize List.replicate ((n : Int) - f).toNat (0 : Int) = S0 at *
  rw [← hlr] at hnew
  obtain ⟨X, v, hap, hlines⟩ := rf_rlines t ⟨s.loc ++ [.rw (tabV t), .rw (dirV d)], s.hp ++ [.rw (.agg 38 (S0.map (.int .i64))), .rw (rfV f s.hp.length S0.length)]⟩
  simp only at hap hlines
  have hll := linesF_len t 49 0
  obtain ⟨X', hX', happ⟩ := app_dir (base := s.loc.length) s.loc _ (tabV t) (dirV d) d rfl hap hll
  have hal : (linesF t 0 49 ++ dirF d 0 8).length ≤ 57 := by rw [List.length_append, dirF_len]; omega
  simp only [allL] at hI ⊢
  generalize hls : linesF t 0 49 ++ dirF d 0 8 = ls at *
  obtain ⟨r, e, q⟩ := refOf_loop (s.loc ++ [.rw (tabV t), .rw (dirV d), .rw (.agg 38 (ls.map (.int .i64)))]) (s.hp ++ [.rw (.agg 38 (S0.map (.int .i64))), .rw (rfV f s.hp.length S0.length)] ++ X')
    (.ptr (.loc s.loc.length) [] 48) (.ptr (.loc (s.loc.length + 1)) [] 50) (.ptr (.hp m) [] 33) (.sl (.loc (s.loc.length + 2)) [] 0 ls.length none 10) (s.hp.length + 1) s.hp.length f n ls h0 h2 w0 S0 hA s.loc.length
    ⟨by simp, by simp, h0, by have := hA.len; omega⟩
    (fun k hk => ⟨by simp [sadv, elp, hk], fun H' => by simp only [elp, go_sem, Nat.zero_add, getElem_map_at hk]⟩) rfl hI (by omega) (by simp only [tabV, dirV]; simp only [go_sem]; simp)
  have z1 : V.agg 48 (List.replicate 49 (.agg 42 [.int .i64 0, .int .i64 0, .int .i64 0])) = tabV fun _ => noEnt := by rw [tab_rep]; rfl
  have hset : ∀ b : Blk, (s.hp ++ [Blk.rw (.agg 38 (S0.map (.int .i64))), Blk.rw (rfV f s.hp.length S0.length)] ++ X').set s.hp.length b = s.hp ++ ([b, Blk.rw (rfV f s.hp.length S0.length)] ++ X') := by
    intro b
    rw [List.append_assoc, List.set_append_right _ _ (Nat.le_refl _)]
    simp
  rcases q with ⟨hn, S', rfl⟩ | ⟨w, S', hw, hal', rfl⟩
  · left
    refine ⟨hn, [.rw (.agg 38 (S'.map (.int .i64))), .rw (rfV f s.hp.length S0.length)] ++ X', ?_⟩
    rw [hset] at e
    rw [rf_o D_steadfastref10_Of rfl]
    simp only [rmV, tabV, dirV, rfV] at *
    simp only [go_sem] at *
    simp only [go_sem, hm, hnew, hlines, happ, e]
  · right
    have hSS : S'.length = S0.length := by have := hal'.len; have := hA.len; omega
    refine ⟨w, S', X', hw, hal', ?_⟩
    rw [hset] at e
    rw [rf_o D_steadfastref10_Of rfl, hSS]
    simp only [rmV, tabV, dirV, rfV, RstF.v] at *
    simp only [go_sem] at *
    simp only [go_sem, hm, hnew, hlines, happ, z1, e]
    rw [show s.hp.length + (X'.length + 1 + 1) = s.hp.length + 2 + X'.length by omega]
end Go.Proofs.YtnffmibpblibdaaDoor
namespace Go.Proofs.YtnffmibpblibdaaDoor
open Go.Ab
/-- The document's frames: block b, its row in block c. -/
structure FrQ (hp : List Blk) (b c : Nat) (A : AF) : Prop where
  ok : A.Ok
  ne : b ≠ c
  row : ∃ S : List Int, hp[b]? = some (.rw (rfV A.f c S.length)) ∧ hp[c]? = some (.rw (.agg 38 (S.map (.int .i64)))) ∧ S.length = A.l - A.f ∧ ∀ k, k < S.length → S.getD k 0 = A.st (A.f + k)
def FtQ (b c : Nat) : Ft := fun j => j = b ∨ j = c
theorem FrQ.eqv {hp hp' : List Blk} {b c : Nat} {A : AF} (h : FrQ hp b c A) (he : Eqv hp hp' (FtQ b c)) : FrQ hp' b c A := by
  obtain ⟨S, h1, h2, h3⟩ := h.row
  exact ⟨h.ok, h.ne, S, by rw [he b (.inl rfl)]; exact h1, by rw [he c (.inr rfl)]; exact h2, h3⟩
theorem FrQ.inn {hp : List Blk} {b c : Nat} {A : AF} (h : FrQ hp b c A) : Inn hp (FtQ b c) := by
  obtain ⟨S, h1, h2, h3⟩ := h.row
  rintro j (rfl | rfl)
  · exact lt_of_get h1
  · exact lt_of_get h2
theorem FrQ.rf {hp : List Blk} {b c : Nat} {A : AF} (h : FrQ hp b c A) : ∃ S : List Int, (∀ L, Rf ⟨L, hp⟩ b c A.f S) ∧ S.length = A.l - A.f ∧ (∀ k, k < S.length → S.getD k 0 = A.st (A.f + k)) ∧ ∀ line, stS A.f S line = A.state line := by
  obtain ⟨S, h1, h2, h3, h4⟩ := h.row
  have hl := h.ok.l1
  have hfl := h.ok.fl
  refine ⟨S, fun L => ⟨h1, h2, by omega, by omega⟩, h3, h4, fun line => ?_⟩
  unfold stS AF.state
  by_cases c1 : line < A.f ∨ (A.l : Int) ≤ line
  · rw [if_pos (by omega), if_pos c1]
  · rw [if_neg (by omega), if_neg c1, h4 _ (by omega)]
    congr 1; omega
theorem FrQ.set {hp : List Blk} {b c : Nat} {A : AF} (h : FrQ hp b c A) {S : List Int} (h1 : ∀ L, Rf ⟨L, hp⟩ b c A.f S) (h3 : S.length = A.l - A.f) (h4 : ∀ k, k < S.length → S.getD k 0 = A.st (A.f + k)) {k : Nat} (hk : k < S.length) {y : Int} (hy : y = 0 ∨ y = 1 ∨ y = 2) :
    FrQ (hp.set c (.rw (.agg 38 ((S.set k y).map (.int .i64))))) b c (A.put (A.f + k) y) ∧ Chg hp (hp.set c (.rw (.agg 38 ((S.set k y).map (.int .i64))))) (FtQ b c) (FtQ b c) := by
  have hb := (h1 []).rb
  have hc := (h1 []).sb
  refine ⟨⟨h.ok.put hy, h.ne, S.set k y, ?_, List.getElem?_set_self (lt_of_get hc), by rw [List.length_set]; exact h3, fun j hj => ?_⟩, chg_set.mono (fun _ h => .inr h) fun _ => .inr⟩
  · rw [List.getElem?_set_ne (Ne.symm h.ne), List.length_set]; exact hb
  · rw [List.length_set] at hj
    rw [getD_setI hk]
    simp only [AF.put]
    by_cases e : k = j
    · subst e; rw [if_pos rfl, upd_self]
    · rw [if_neg e, upd_ne (by omega)]; exact h4 j hj
theorem rf_fq_turn {hp : List Blk} {b c : Nat} {A : AF} (h : FrQ hp b c A) (line : Int) (hl : line ≤ 9223372036854775807) (x y : Int) (hx : 0 ≤ x) (hy : y = 0 ∨ y = 1 ∨ y = 2) (L : List Blk) :
    ∃ hp', rf D f_steadfastref04_Frames_turn [.ptr (.hp b) [] 21, .int .i64 line, .int .i64 x, .int .i64 y] ⟨L, hp⟩ = some (.int .i64 (A.turn line x y).2, ⟨L, hp'⟩) ∧ FrQ hp' b c (A.turn line x y).1 ∧ Chg hp hp' (FtQ b c) (FtQ b c) := by
  obtain ⟨S, h1, h2, h3, h4⟩ := h.rf
  have e := rf_rturn (h1 L) line hl x y
  rw [h4] at e
  unfold AF.turn
  by_cases c1 : A.state line < 0
  · rw [if_pos c1] at e ⊢
    exact ⟨hp, e, h, .refl _ _⟩
  · rw [if_neg c1] at e ⊢
    by_cases c2 : A.state line ≠ x
    · rw [if_pos c2] at e ⊢
      exact ⟨hp, e, h, .refl _ _⟩
    · rw [if_neg c2] at e ⊢
      have hr : (A.f : Int) ≤ line ∧ line < A.l := by
        unfold AF.state at c1
        split at c1 <;> omega
      obtain ⟨q1, q2⟩ := h.set h1 h2 h3 (k := (line - A.f).toNat) (by omega) hy
      rw [show A.f + (line - A.f).toNat = line.toNat by omega] at q1
      exact ⟨_, e, q1, q2⟩
theorem rf_fq_Take {hp : List Blk} {b c : Nat} {A : AF} (h : FrQ hp b c A) (line : Int) (hl : line ≤ 9223372036854775807) (L : List Blk) :
    ∃ hp', rf D f_steadfastref04_Frames_Take [.ptr (.hp b) [] 21, .int .i64 line] ⟨L, hp⟩ = some (.int .i64 (A.turn line 0 1).2, ⟨L, hp'⟩) ∧ FrQ hp' b c (A.turn line 0 1).1 ∧ Chg hp hp' (FtQ b c) (FtQ b c) := by
  obtain ⟨S, h1, _⟩ := h.rf
  rw [rf_rTake (h1 L) line hl]
  exact rf_fq_turn h line hl 0 1 (by decide) (.inr (.inl rfl)) L
theorem nz_cnt {A : AF} {S : List Int} (h4 : ∀ k, k < S.length → S.getD k 0 = A.st (A.f + k)) : ∀ n, n ≤ S.length → nz S n = A.cnt A.f n
  | 0, _ => rfl
  | n + 1, hn => by
    have key : ∀ m i, A.cnt i (m + 1) = A.cnt i m + if A.st (i + m) = 0 then 1 else 0 := by
      intro m
      induction m with
      | zero => intro i; simp [AF.cnt]
      | succ m ih =>
        intro i
        rw [AF.cnt, ih (i + 1), AF.cnt, show i + 1 + m = i + (m + 1) by omega]; omega
    rw [key, nz, nz_cnt h4 n (by omega), h4 n (by omega)]
theorem rf_fq_Left {hp : List Blk} {b c : Nat} {A : AF} (h : FrQ hp b c A) (L : List Blk) : rf D f_steadfastref04_Frames_Left [.ptr (.hp b) [] 21] ⟨L, hp⟩ = some (.int .i64 A.left, ⟨L, hp⟩) := by
  obtain ⟨S, h1, h2, h3, _⟩ := h.rf
  rw [rf_rLeft (h1 L), nz_cnt h3 _ (Nat.le_refl _), h2]
  rfl
theorem firstFrom_is {A : AF} : ∀ {n i k : Nat}, i ≤ k → k < i + n → A.st k = 0 → (∀ j, i ≤ j → j < k → A.st j ≠ 0) → A.firstFrom i n = some k
  | 0, i, k, h1, h2, _, _ => by omega
  | n + 1, i, k, h1, h2, h3, h4 => by
    simp only [AF.firstFrom]
    by_cases e : i = k
    · subst e; rw [if_pos h3]
    · rw [if_neg (h4 i (Nat.le_refl _) (by omega))]
      exact firstFrom_is (by omega) (by omega) h3 fun j hj => h4 j (by omega)
theorem firstFrom_no {A : AF} : ∀ {n i : Nat}, (∀ j, i ≤ j → j < i + n → A.st j ≠ 0) → A.firstFrom i n = none
  | 0, i, _ => rfl
  | n + 1, i, h => by
    simp only [AF.firstFrom]
    rw [if_neg (h i (Nat.le_refl _) (by omega))]
    exact firstFrom_no fun j hj hj2 => h j (by omega) (by omega)
end Go.Proofs.YtnffmibpblibdaaDoor
namespace Go.Proofs.YtnffmibpblibdaaDoor
open Go.Ab
def AS.r (x : AS) (m fr : Nat) : RstF := ⟨m, fr, x.work, x.base, x.dir, x.mark, x.is⟩
theorem rf_ref10_Of_err {m k k2 n : Nat} {off : Bool} {left count : Int} (s : St) (hm : s.hp[m]? = some (.rw (rmV k n k2 off left count))) (f : Int) (h : f < 0 ∨ (n : Int) < f ∨ 1024 < n) (t : Nat → Ent) (d : Nat → Int) :
    rf D f_steadfastref10_Of [.ptr (.hp m) [] 33, .int .i64 f, tabV t, dirV d] s = some (.tup [.nilp, .int .i64 1], s) := by
  have hnew := fun L => rf_rNew_err f n (by omega) ⟨s.loc ++ L, s.hp⟩
  rw [rf_o D_steadfastref10_Of rfl]
  simp only [rmV, tabV, dirV] at *
  simp only [go_sem, hm, hnew]
theorem alike_fq {f n : Nat} (hf : f ≤ n) (hn : n ≤ 1024) {w : List Nat} {S : List Int} (h : Alike f n w S) {A : AF} (hA : BitA A w) (h1 : A.f = f) (h2 : A.l = n) : S.length = A.l - A.f ∧ ∀ k, k < S.length → S.getD k 0 = A.st (A.f + k) := by
  have hl := h.len
  have hl' : S.length = A.l - A.f := by rw [h1, h2]; omega
  refine ⟨hl', fun k hk => ?_⟩
  rw [h.eq k hk, h1, Int.toNat_natCast]
  rw [hA.bits _ (by omega)]
  have hr : A.inr (f + k) = true := inr_of.2 (by omega)
  rw [hr, Bool.true_and]
  rcases hA.two (f + k) with e | e <;> simp [e]
theorem rf_sq_Of {m k k2 n : Nat} {off : Bool} {left count : Int} {hp : List Blk} (L : List Blk) (hn : n ≤ 1024) (hm : hp[m]? = some (.rw (rmV k n k2 off left count))) (from' : Int) (t : Nat → Ent) (d : Nat → Int) (hI : InI (allL t d)) :
    ((from' < 0 ∨ (n : Int) < from') ∧ rf D f_steadfastref10_Of [.ptr (.hp m) [] 33, .int .i64 from', tabV t, dirV d] ⟨L, hp⟩ = some (.tup [.nilp, .int .i64 1], ⟨L, hp⟩)) ∨
    (0 ≤ from' ∧ from' ≤ n ∧ (af0 from'.toNat n).takes (allL t d) = none ∧ ∃ more, rf D f_steadfastref10_Of [.ptr (.hp m) [] 33, .int .i64 from', tabV t, dirV d] ⟨L, hp⟩ = some (.tup [.nilp, .int .i64 21], ⟨L, hp ++ more⟩)) ∨
    (0 ≤ from' ∧ from' ≤ n ∧ ∃ A' more b, (af0 from'.toNat n).takes (allL t d) = some A' ∧ rf D f_steadfastref10_Of [.ptr (.hp m) [] 33, .int .i64 from', tabV t, dirV d] ⟨L, hp⟩ = some (.tup [.ptr (.hp b) [] 31, .int .i64 0], ⟨L, hp ++ more⟩) ∧
      (hp ++ more)[b]? = some (.rw (RstF.v ⟨m, hp.length + 1, t, t, d, fun _ => noEnt, false⟩)) ∧ FrQ (hp ++ more) (hp.length + 1) hp.length A' ∧ hp.length + 1 < b) := by
  by_cases h0 : from' < 0 ∨ (n : Int) < from'
  · exact .inl ⟨h0, rf_ref10_Of_err ⟨L, hp⟩ hm from' (by omega) t d⟩
  · right
    obtain ⟨f, rfl⟩ : ∃ f : Nat, from' = f := ⟨from'.toNat, by omega⟩
    rw [Int.toNat_natCast]
    obtain ⟨w0, ok0, b0, _⟩ := rf_New_ok f n (by omega) (by omega) (by omega) ⟨L, hp⟩
    have hB := bitA0 (f := f) (l := n) (by omega) hn ok0 b0
    rcases rf_ref10_Of ⟨L, hp⟩ hm f (by omega) (by omega) hn t d hI w0 ok0 b0 with ⟨hs, more, e⟩ | ⟨w, S, X, hs, hal, e⟩
    · left
      refine ⟨by omega, by omega, ?_, more, e⟩
      rcases takeL_takes (ls := allL t d) hB with ⟨_, q⟩ | ⟨_, _, q, _⟩
      · exact q
      · have : takeL f n (allL t d) w0 = some _ := q
        rw [hs] at this; cases this
    · right
      refine ⟨by omega, by omega, ?_⟩
      rcases takeL_takes (ls := allL t d) hB with ⟨q, _⟩ | ⟨w', A', q, q2, q3⟩
      · have : takeL f n (allL t d) w0 = none := q
        rw [hs] at this; cases this
      · have q : takeL f n (allL t d) w0 = some w' := q
        rw [hs] at q; cases q
        obtain ⟨h1, h2, _, _⟩ := takes_some q2
        have h1 : A'.f = f := h1
        have h2 : A'.l = n := h2
        obtain ⟨g1, g2⟩ := alike_fq (show f ≤ n by omega) hn hal q3 h1 h2
        refine ⟨A', _, _, q2, e, ?_, ⟨q3.ok, by omega, S, ?_, ?_, g1, g2⟩, by simp only; omega⟩
        · simp only
          rw [show hp.length + 2 + X.length = hp.length + (2 + X.length) by omega, app_get]
          rw [List.getElem?_append_right (by simp; omega)]
          simp [show 2 + X.length - (X.length + 1 + 1) = 0 by omega]
        · rw [app_get, h1]; simp
        · rw [app_get0]; simp
/-- The document's objects: the store's block, its frames'. -/
structure StoT (hp : List Blk) (b m fr c : Nat) (x : AS) : Prop where
  st : hp[b]? = some (.rw ((x.r m fr).v))
  fq : FrQ hp fr c x.A
theorem veqs_self : ∀ {l : List V}, (∀ v ∈ l, veq v v = some true) → veqs l l = some true
  | [], _ => rfl
  | v :: l, h => by
    simp only [veqs, h v List.mem_cons_self]
    exact veqs_self fun w hw => h w (List.mem_cons_of_mem _ hw)
theorem veqs_tab (t : Nat → Ent) : veqs (tab 49 fun i => (t i).v) (tab 49 fun i => (t i).v) = some true := veqs_self fun v hv => by
  obtain ⟨i, _, rfl⟩ := List.mem_map.1 hv
  simp [Ent.v, veq, veqs]
theorem veqs_dir (d : Nat → Int) : veqs (tab 8 fun i => .int .i64 (d i)) (tab 8 fun i => .int .i64 (d i)) = some true := veqs_self fun v hv => by
  obtain ⟨i, _, rfl⟩ := List.mem_map.1 hv
  simp [veq]
theorem flats_of : ∀ {l : List V}, (∀ v ∈ l, v.flat = true) → V.flats l = true
  | [], _ => by simp [V.flats]
  | v :: l, h => by simp only [V.flats, h v List.mem_cons_self, flats_of fun w hw => h w (List.mem_cons_of_mem _ hw), Bool.and_self]
theorem flats_tab (t : Nat → Ent) : V.flats (tab 49 fun i => (t i).v) = true := flats_of fun v hv => by
  obtain ⟨i, _, rfl⟩ := List.mem_map.1 hv
  simp [Ent.v, V.flat, V.flats]
theorem rf_like {hp L : List Blk} {Fm : Ft} {a m fr b m2 fr2 c : Nat} {x : AS} (h : StoQ hp Fm a m fr x) (h2 : StoT hp b m2 fr2 c x) : rf D f_steadfastlaw10_like [.ptr (.hp a) [] 43, .ptr (.hp b) [] 31] ⟨L, hp⟩ = some (.bool true, ⟨L, hp⟩) := by
  have hb := rf_sp_Base h
  have hm := rf_sp_Marked h
  have ht := rf_sp_Table h
  have hl := rf_sp_Left h
  have hl2 := rf_fq_Left h2.fq
  have hs := h2.st
  have q1 := veqs_tab x.work
  have q2 := veqs_tab x.base
  have q3 := veqs_tab x.mark
  have q4 := veqs_dir x.dir
  have q5 := flats_tab x.work
  rw [rf_o D_steadfastlaw10_like rfl]
  cases hi : x.is
  · simp only [AS.r, RstF.v, hi, Bool.false_eq_true, if_false, tabV, dirV] at *
    simp only [go_sem, hb, hm, ht, hl, hl2, hs, q1, q2, q3, q4, q5]
  · simp only [AS.r, RstF.v, hi, if_true, tabV, dirV] at *
    simp only [go_sem, hb, hm, ht, hl, hl2, hs, q1, q2, q3, q4, q5]
end Go.Proofs.YtnffmibpblibdaaDoor
namespace Go.Proofs.YtnffmibpblibdaaDoor
open Go.Ab
theorem ent_of {hp : List Blk} {v : V} (h : (Sh.st 42 [.int .i64, .int .i64, .int .i64]).Fits hp v) : ∃ e : Ent, v = e.v ∧ e.line ≤ 9223372036854775807 := by
  obtain ⟨vs, rfl, h⟩ := h
  obtain ⟨x, y, z, rfl, hx, hy, hz⟩ := fits3 h
  obtain ⟨k, rfl, _⟩ := i_of hx
  obtain ⟨w, rfl, _⟩ := i_of hy
  obtain ⟨l, rfl, _, hl⟩ := i_of hz
  exact ⟨⟨k, w, l⟩, rfl, hl⟩
theorem tab_of {hp : List Blk} {v : V} (h : (Sh.arr 48 49 (.st 42 [.int .i64, .int .i64, .int .i64])).Fits hp v) : ∃ t : Nat → Ent, v = tabV t ∧ ∀ i, i < 49 → (t i).line ≤ 9223372036854775807 := by
  obtain ⟨vs, rfl, hn, hl⟩ := h
  obtain ⟨l, rfl, hl'⟩ := map_of (f := Ent.v) (fun x hx => ent_of (hl x hx))
  rw [List.length_map] at hn
  refine ⟨fun i => l.getD i noEnt, ?_, fun i hi => hl' _ (getD_mem (by omega) noEnt)⟩
  rw [tab_map _ l noEnt, hn]; rfl
theorem dir_of {hp : List Blk} {v : V} (h : (Sh.arr 50 8 (.int .i64)).Fits hp v) : ∃ d : Nat → Int, v = dirV d ∧ ∀ i, i < 8 → d i ≤ 9223372036854775807 := by
  obtain ⟨vs, rfl, hn, hl⟩ := h
  obtain ⟨l, rfl, hl'⟩ := map_of (f := V.int .i64) (P := fun x => -9223372036854775808 ≤ x ∧ x ≤ 9223372036854775807) (fun x hx => i_of (hl x hx))
  rw [List.length_map] at hn
  refine ⟨fun i => l.getD i 0, ?_, fun i hi => (hl' _ (getD_mem (by omega) 0)).2⟩
  rw [tab_map _ l 0, hn]; rfl
theorem inI_of {t : Nat → Ent} {d : Nat → Int} (ht : ∀ i, i < 49 → (t i).line ≤ 9223372036854775807) (hd : ∀ i, i < 8 → d i ≤ 9223372036854775807) : InI (allL t d) := by
  have key : ∀ (n i : Nat), i + n = 49 → ∀ x ∈ linesF t i n, x ≤ 9223372036854775807 := by
    intro n
    induction n with
    | zero => intro i _ x hx; cases hx
    | succ n ih =>
      intro i hin x hx
      simp only [linesF] at hx
      split at hx
      · exact ih (i + 1) (by omega) x hx
      · rcases List.mem_cons.1 hx with rfl | hx
        · exact ht i (by omega)
        · exact ih (i + 1) (by omega) x hx
  refine ⟨fun x hx => ?_⟩
  rcases List.mem_append.1 hx with hx | hx
  · exact key 49 0 rfl x hx
  · have : x = d 0 ∨ x = d 1 ∨ x = d 2 ∨ x = d 3 ∨ x = d 4 ∨ x = d 5 ∨ x = d 6 ∨ x = d 7 := by simpa [dirF] using hx
    rcases this with rfl | rfl | rfl | rfl | rfl | rfl | rfl | rfl <;> exact hd _ (by decide)
theorem rf_ref03_New {n : Nat} (h0 : 64 ≤ n) (h1 : n ≤ 1024) (s : St) : rf D f_steadfastref03_New [.int .i64 n] s =
    some (.tup [.ptr (.hp (s.hp.length + 3)) [] 33, .int .i64 0], ⟨s.loc, s.hp ++ [.rw (.agg 58 []), .rw (.agg 58 (tab n fun _ => lnV zl)), .rw (.agg 53 (tab n fun _ => .nils)), .rw (rmV (s.hp.length + 1) n (s.hp.length + 2) false (-1) 0)]⟩) := by
  have c1 : ¬ (n : Int) < 64 := by omega
  have c2 : ¬ 1024 < (n : Int) := by omega
  have c3 : (0 : Int) ≤ n := by omega
  have hm : (n : Int) ≤ (most : Nat) := by unfold most; omega
  have h := fun L => rf_ref03_Of (a := s.loc.length) (ls := fun _ => zl) h0 h1 ⟨s.loc ++ [.rw (.agg 58 (tab n fun _ => lnV zl))] ++ L, s.hp⟩ (by simp)
  have h := h []
  have e : List.replicate n (V.agg 24 (List.replicate 8 (.int .u64 0))) = tab n fun _ => lnV zl := by rw [tab_rep]; rfl
  simp only [List.append_nil] at h
  rw [rf_o D_steadfastref03_New rfl]
  simp only [go_sem, c1, c2, c3, hm, Int.le_refl, Int.toNat_natCast, e, h]
  rfl
theorem law_ObjectsOf : ∀ hp vs, G <+: hp → Sh.FitsL hp [(.arr 48 49 (.st 42 [(.int .i64), (.int .i64), (.int .i64)])), (.arr 50 8 (.int .i64)), (.int .i64)] vs → ∃ s', rf D f_steadfastlaw10_ObjectsOf vs ⟨[], hp⟩ = some (.bool true, s') := by
  intro hp vs hpre hf
  obtain ⟨v0, v1, v2, rfl, h0, h1, h2⟩ := fits3 hf
  obtain ⟨t, rfl, ht⟩ := tab_of h0
  obtain ⟨d, rfl, hd⟩ := dir_of h1
  obtain ⟨fr', rfl, _, _⟩ := i_of h2
  have hI := inI_of ht hd
  have hG := glob_of hpre
  obtain ⟨more, hsh⟩ := rf_shown10 (s := ⟨[.rw (tabV t), .rw (dirV d)], hp⟩) hG
  have hG1 : (hp ++ more)[0]? = some (.ro globV_0) := by rw [List.getElem?_append_left (lt_of_get hG)]; exact hG
  simp only at hsh
  generalize hp ++ more = H at *
  obtain ⟨m1, hl1, e1, hM⟩ := rf_mp_New (n := 100) (by decide) (by decide) H [.rw (tabV t), .rw (dirV d)]
  have hG2 : (H ++ m1)[0]? = some (.ro globV_0) := by rw [List.getElem?_append_left (lt_of_get hG1)]; exact hG1
  have e2 := rf_ref03_New (n := 100) (by decide) (by decide) ⟨[.rw (tabV t), .rw (dirV d)], H ++ m1⟩
  simp only at e2
  have hM2 := hM.chg (chg_app0 (H ++ m1) [.rw (.agg 58 []), .rw (.agg 58 (tab 100 fun _ => lnV zl)), .rw (.agg 53 (tab 100 fun _ => .nils)), .rw (rmV ((H ++ m1).length + 1) 100 ((H ++ m1).length + 2) false (-1) 0)] (fun _ => False)) (fun _ h => h.elim)
  have hG3 : ∀ X, (H ++ m1 ++ X)[0]? = some (.ro globV_0) := fun X => by rw [List.getElem?_append_left (lt_of_get hG2)]; exact hG2
  have hrm : ∀ Y, (H ++ m1 ++ [.rw (.agg 58 []), .rw (.agg 58 (tab 100 fun _ => lnV zl)), .rw (.agg 53 (tab 100 fun _ => .nils)), .rw (rmV ((H ++ m1).length + 1) 100 ((H ++ m1).length + 2) false (-1) 0)] ++ Y)[(H ++ m1).length + 3]? = some (.rw (rmV ((H ++ m1).length + 1) 100 ((H ++ m1).length + 2) false (-1) 0)) := fun Y => by
    rw [List.append_assoc, app_get]; rfl
  have hz : ¬ (fun j => j = H.length ∨ j = H.length + 1) 0 := by
    have := lt_of_get hG1
    simp only; omega
  have hG4 := hG3 [.rw (.agg 58 []), .rw (.agg 58 (tab 100 fun _ => lnV zl)), .rw (.agg 53 (tab 100 fun _ => .nils)), .rw (rmV ((H ++ m1).length + 1) 100 ((H ++ m1).length + 2) false (-1) 0)]
  generalize hH2 : H ++ m1 ++ [.rw (.agg 58 []), .rw (.agg 58 (tab 100 fun _ => lnV zl)), .rw (.agg 53 (tab 100 fun _ => .nils)), .rw (rmV ((H ++ m1).length + 1) 100 ((H ++ m1).length + 2) false (-1) 0)] = H2 at *
  rw [show ((100 : Nat) : Int) = 100 from rfl] at e1 e2
  have p := rf_sp_Of hM2 hG4 hz fr' t d [.rw (tabV t), .rw (dirV d)]
  have q := fun Y => rf_sq_Of (hp := H2 ++ Y) [.rw (tabV t), .rw (dirV d)] (n := 100) (by decide) (hrm Y) fr' t d hI
  have hn : (am0 100 fun _ => zl).n = 100 := rfl
  rw [hn] at p
  rcases p with ⟨p1, p2⟩ | ⟨p1, p2, p3, mo, p4⟩ | ⟨p1, p2, A', mo, p3, p4, p5⟩
  · rcases q [] with ⟨q1, q2⟩ | ⟨q1, q2, _⟩ | ⟨q1, q2, _⟩
    · rw [List.append_nil] at q2
      refine ⟨⟨[], H2⟩, ?_⟩
      simp only [List.length_append] at q2
      simp only [tabV, dirV] at *
      rw [rf_o D_steadfastlaw10_ObjectsOf rfl]
      simp only [go_sem, hsh, e1, e2, p2, q2]
    · omega
    · omega
  · rcases q mo with ⟨q1, q2⟩ | ⟨q1, q2, q3, mo2, q4⟩ | ⟨q1, q2, A2, mo2, b, q3, _⟩
    · omega
    · refine ⟨⟨[], H2 ++ mo ++ mo2⟩, ?_⟩
      simp only [List.length_append] at q4
      simp only [tabV, dirV] at *
      rw [rf_o D_steadfastlaw10_ObjectsOf rfl]
      simp only [go_sem, hsh, e1, e2, p4, q4]
    · rw [p3] at q3; cases q3
  · rcases q mo with ⟨q1, q2⟩ | ⟨q1, q2, q3, mo2, q4⟩ | ⟨q1, q2, A2, mo2, b, q3, q4, q5, q6, q7⟩
    · omega
    · rw [p3] at q3; cases q3
    · rw [p3] at q3; cases q3
      have h5 : StoQ (H2 ++ mo ++ mo2) _ _ _ _ _ := p5.chg (chg_app0 (H2 ++ mo) mo2 (fun _ => False)) (fun _ h => h.elim) id
      have hlk := rf_like (L := [.rw (tabV t), .rw (dirV d)]) h5 (x := as0 (am0 100 fun _ => zl) A' t d) ⟨q5, q6⟩
      refine ⟨⟨[], H2 ++ mo ++ mo2⟩, ?_⟩
      clear p5 h5 q5
      rw [List.append_assoc] at hlk
      simp only [List.length_append] at q4
      simp only [tabV, dirV] at *
      rw [rf_o D_steadfastlaw10_ObjectsOf rfl]
      simp only [go_sem, hsh, e1, e2, p4, q4, hlk]
end Go.Proofs.YtnffmibpblibdaaDoor
