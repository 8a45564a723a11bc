/-
  ObjD: the document's Of.
-/
import Derived.Test.YtpbpgbedkmbfkaaO3
set_option maxRecDepth 100000
namespace Go.Proofs.Ytpbpgbedkmbfkaa
open Go.Ab

/-- A set of lines and a row of states that tell the same. -/
structure Alike (f : Int) (n : Nat) (w : List Nat) (S : List Int) : Prop where
  len : (S.length : Int) = n - f
  ok : OkS w
  eq : ∀ k : Nat, k < S.length → S.getD k 0 = if bit w (f.toNat + k) then 0 else 1
theorem Alike.st {f : Int} {n : Nat} {w : List Nat} {S : List Int} (h : Alike f n w S) (h0 : 0 ≤ f) (x : Int) : stS f S x = stOf f n w (w16 []) x := by
  have hl := h.len
  unfold stS stOf
  by_cases c1 : x < f
  · rw [if_pos (.inl c1), if_pos (.inl c1)]
  · by_cases c2 : (n : Int) ≤ x
    · rw [if_pos (.inr (by omega)), if_pos (.inr c2)]
    · rw [if_neg (by omega), if_neg (by omega), h.eq _ (by omega), bit_nil]
      have : f.toNat + (x - f).toNat = x.toNat := by omega
      rw [this]; simp
theorem Alike.take {f : Int} {n : Nat} {w : List Nat} {S : List Int} (h : Alike f n w S) (h0 : 0 ≤ f) (h1 : n ≤ 1024) {x : Int} (hx : stOf f n w (w16 []) x = 0) : Alike f n (flip w x.toNat) (S.set (x - f).toNat 1) := by
  have hl := h.len
  have hr := line_of (show stOf f n w (w16 []) x ≠ -1 by rw [hx]; decide)
  have hb : bit w x.toNat = true := by
    unfold stOf at hx
    rw [if_neg (by omega), bit_nil] at hx
    split at hx
    · assumption
    · simp at hx
  refine ⟨by rw [List.length_set]; exact hl, h.ok.flip (by omega), fun k hk => ?_⟩
  rw [List.length_set] at hk
  rw [getD_setI (by omega), bit_flip h.ok (by omega)]
  by_cases e : (x - f).toNat = k
  · have : x.toNat = f.toNat + k := by omega
    rw [if_pos e, ← this, hb]; simp
  · have : ¬ x.toNat = f.toNat + k := by omega
    rw [if_neg e, h.eq k hk]; simp [this]
structure InI (ls : List Int) : Prop where
  lt : ∀ x ∈ ls, x ≤ 9223372036854775807
theorem tab8 (d : Nat → Int) : tab 8 (fun i => V.int .i64 (d i)) = (dirF d 0 8).map (.int .i64) := rfl
theorem refOf_loop (L H : List Blk) (P6 P7 P0 v12 : V) (b c : Nat) (f : Int) (n : Nat) (ls : List Int) (h0 : 0 ≤ f) (h1 : n ≤ 1024) (w0 : List Nat) (S0 : List Int) (hA : Alike f n w0 S0) (base : Nat)
    (hH : Rf ⟨L, H⟩ b c f S0) (hv : ∀ k, k < ls.length → sadv 10 v12 (.int .i64 (k : Int)) = some (elp v12 k) ∧ (∀ H', ldv ⟨L, H'⟩ 10 (elp v12 k) = some (.int .i64 (ls.getD k 0)))) (hsl : V.slen false v12 = some ls.length) (hls : InI ls)
    (hll : ls.length < 1000) (hs6 : scrubOk base L.length [(0, P0), (6, P6), (7, P7), (10, .ptr (.hp b) [] 21), (12, v12), (13, .int .i64 0)] ⟨L, []⟩ = true) :
    ∃ r, rc D base (.loop [0, 6, 7, 10, 12, 13] b_steadfastref10_Of_0) [(0, P0), (6, P6), (7, P7), (10, .ptr (.hp b) [] 21), (12, v12), (13, .int .i64 0)] ⟨L, H⟩ = some r ∧
      ((takeL f n ls w0 = none ∧ ∃ S' : List Int, r = (.ret, [(8, .nilp), (9, .int .i64 21)], ⟨L, H.set c (.rw (.agg 38 (S'.map (.int .i64))))⟩)) ∨
       (∃ (w : List Nat) (S' : List Int), takeL f n ls w0 = some w ∧ Alike f n w S' ∧ r = (.exit 0, [(0, P0), (6, P6), (7, P7), (10, .ptr (.hp b) [] 21), (12, v12), (13, .int .i64 ls.length), (33, .bool false)], ⟨L, H.set c (.rw (.agg 38 (S'.map (.int .i64))))⟩))) := by
  have hc := (List.getElem?_eq_some_iff.1 hH.sb).1
  have hlen0 := hA.len
  refine loop_ex (fun x : Nat × List Nat × List Int => [(0, P0), (6, P6), (7, P7), (10, .ptr (.hp b) [] 21), (12, v12), (13, .int .i64 x.1)]) (fun x => ⟨L, H.set c (.rw (.agg 38 (x.2.2.map (.int .i64))))⟩) _ (fun x => ls.length - x.1)
    (fun x => x.1 ≤ ls.length ∧ Alike f n x.2.1 x.2.2 ∧ takeL f n ls w0 = takeL f n (ls.drop x.1) x.2.1) (0, w0, S0) ?_ ⟨by simp only; omega, hA, rfl⟩ rfl (by simp only; rw [set_same hH.sb])
  rintro ⟨i, w, S⟩ ⟨hi, hal, htk⟩
  simp only at hi hal htk
  have hbc : b ≠ c := by
    intro e
    subst e
    have := hH.rb.symm.trans hH.sb
    simp [rfV] at this
  have hlen := hal.len
  have hR : Rf ⟨L, H.set c (.rw (.agg 38 (S.map (.int .i64))))⟩ b c f S := ⟨by rw [List.getElem?_set_ne (Ne.symm hbc)]; have := hH.rb; rw [show S.length = S0.length by omega]; exact this, List.getElem?_set_self hc, h0, by omega⟩
  simp only [scrubOk, List.all_cons, List.all_nil, Bool.and_true, Bool.and_eq_true, decide_eq_true_eq] at hs6
  obtain ⟨⟨_, g1, g2, g3, _, g5, _⟩, g7⟩ := hs6
  rw [List.take_length] at g7
  by_cases c1 : i < ls.length
  · obtain ⟨q1, q2⟩ := hv i c1
    have d1 : (i : Int) < ls.length := by omega
    have d4 : IntKind.i64.wrap ((i : Int) + 1) = (i : Int) + 1 := i64_id (by omega) (by omega)
    have hx : ls.drop i = ls.getD i 0 :: ls.drop (i + 1) := by
      rw [List.getD_eq_getElem?_getD, List.getElem?_eq_getElem c1, Option.getD_some]
      exact List.drop_eq_getElem_cons c1
    rw [hx] at htk
    simp only [takeL] at htk
    have hxi := hls.lt _ (getD_mem c1 0)
    generalize ls.getD i 0 = x at *
    have hst := hal.st h0 x
    have r1 := rf_rTake hR x hxi
    rw [rf_rturn hR x hxi 0 1, hst] at r1
    by_cases hz : stOf f n w (w16 []) x = 0
    · left
      rw [if_pos hz] at htk
      rw [hz] at r1
      simp only [show ¬ ((0 : Int) < 0) by decide, if_false, ne_eq, not_true_eq_false, List.set_set] at r1
      refine ⟨(i + 1, flip w x.toNat, S.set (x - f).toNat 1), ⟨by simp only; omega, hal.take h0 h1 hz, htk⟩, by simp only; omega, ?_⟩
      simp only
      generalize S.set (x - f).toNat 1 = S2 at *
      simp only [go_sem, b_steadfastref10_Of_0, hsl, d1, q1, q2, r1, d4, g1, g2, g3, g5, g7]
      rfl
    · right
      rw [if_neg hz] at htk
      have hr : rf D f_steadfastref04_Frames_Take [.ptr (.hp b) [] 21, .int .i64 x] ⟨L, H.set c (.rw (.agg 38 (S.map (.int .i64))))⟩ = some (.int .i64 1, ⟨L, H.set c (.rw (.agg 38 (S.map (.int .i64))))⟩) ∨
          rf D f_steadfastref04_Frames_Take [.ptr (.hp b) [] 21, .int .i64 x] ⟨L, H.set c (.rw (.agg 38 (S.map (.int .i64))))⟩ = some (.int .i64 3, ⟨L, H.set c (.rw (.agg 38 (S.map (.int .i64))))⟩) := by
        rw [r1]
        by_cases hn : stOf f n w (w16 []) x < 0
        · left; rw [if_pos hn]
        · right; rw [if_neg hn, if_pos hz]
      refine ⟨_, ?_, .inl ⟨htk, S, rfl⟩⟩
      rcases hr with hr | hr <;> simp only [go_sem, b_steadfastref10_Of_0, hsl, d1, q1, q2, hr]
  · right
    have : i = ls.length := by omega
    subst this
    have d1 : ¬ ((ls.length : Nat) : Int) < ls.length := by omega
    refine ⟨_, ?_, .inr ⟨w, S, by rw [htk, List.drop_length]; rfl, hal, rfl⟩⟩
    simp only [go_sem, b_steadfastref10_Of_0, hsl, d1]
structure RstF where
  m : Nat
  fr : Nat
  work : Nat → Ent
  base : Nat → Ent
  dir : Nat → Int
  mark : Nat → Ent
  marked : Bool
def RstF.v (x : RstF) : V := .agg 31 [.ptr (.hp x.m) [] 33, .ptr (.hp x.fr) [] 21, tabV x.work, tabV x.base, dirV x.dir, tabV x.mark, .bool x.marked]
theorem dirF_len (d : Nat → Int) : (dirF d 0 8).length = 8 := rfl
theorem getElem_map_at {ls : List Int} {k : Nat} (h : k < ls.length) : (ls.map (V.int .i64))[k]? = some (.int .i64 (ls.getD k 0)) := get_map h 0
/-- What was appended, as the loop reads it. -/
theorem app_dir (L0 H : List Blk) (t d : V) (dd : Nat → Int) (hd : d = dirV dd) {X : List Blk} {v : V} {l1 : List Int} (h : Apd H X v l1) (hl1 : l1.length ≤ 49) {base : Nat} :
    ∃ X', X'.length = X.length ∧ vappend base false 38 10 v (.sl (.loc (L0.length + 1)) [] 0 8 (some 8) 10) ⟨L0 ++ [.rw t, .rw d], H ++ X⟩ =
      some (.sl (.loc (L0.length + 2)) [] 0 (l1 ++ dirF dd 0 8).length none 10, ⟨L0 ++ [.rw t, .rw d, .rw (.agg 38 ((l1 ++ dirF dd 0 8).map (.int .i64)))], H ++ X'⟩) := by
  subst hd
  have hy : St.elems ⟨L0 ++ [.rw t, .rw (dirV dd)], H ++ X⟩ (.sl (.loc (L0.length + 1)) [] 0 8 (some 8) 10) = some ((dirF dd 0 8).map (.int .i64)) :=
    elems_whole (t := 50) (by simp only [go_sem, dirV, tab8]) rfl
  have hne : (dirF dd 0 8).map (V.int .i64) ≠ [] := by intro h; cases h
  have hx := h.elems (loc := L0 ++ [.rw t, .rw (dirV dd)])
  rcases h.at' with ⟨rfl, rfl⟩ | ⟨Y, rfl, rfl⟩
  · refine ⟨X, rfl, ?_⟩
    rw [app_nils (.inr ⟨_, _, _, _, _, rfl⟩) hy hne (by simp [dirF_len, most]) rfl]
    simp only [go_sem]
    simp
  · refine ⟨Y ++ [.dead], by simp, ?_⟩
    have e2 : St.at ⟨L0 ++ [.rw t, .rw (dirV dd)], H ++ (Y ++ [.rw (.agg 38 (l1.map (.int .i64)))])⟩ (.hp (H.length + Y.length)) = some (.rw (.agg 38 (l1.map (.int .i64)))) := by
      rw [← List.append_assoc, ← List.length_append]; simp [St.at]
    rw [app_may (.inr ⟨_, _, _, _, _, rfl⟩) hx hy hne (by simp [dirF_len, most]; omega) rfl e2]
    have e3 : (St.set ⟨L0 ++ [.rw t, .rw (dirV dd)], H ++ (Y ++ [.rw (.agg 38 (l1.map (.int .i64)))])⟩ (.hp (H.length + Y.length)) .dead) = ⟨L0 ++ [.rw t, .rw (dirV dd)], H ++ (Y ++ [.dead])⟩ := by
      simp only [St.set]
      rw [← List.append_assoc, ← List.length_append, List.set_append_right _ _ (Nat.le_refl _)]
      simp
    rw [e3]
    simp only [go_sem]
    simp
theorem alike0 {f : Int} {n : Nat} {w0 : List Nat} (h0 : 0 ≤ f) (h1 : f ≤ n) (h2 : n ≤ 1024) (hok : OkS w0) (hbit : ∀ j : Nat, j < 1024 → bit w0 j = (decide (f ≤ j) && decide ((j : Int) < n))) : Alike f n w0 (List.replicate (n - f).toNat 0) := by
  refine ⟨by rw [List.length_replicate]; omega, hok, fun k hk => ?_⟩
  rw [List.length_replicate] at hk
  rw [hbit _ (by omega)]
  have e1 : decide (f ≤ ((f.toNat + k : Nat) : Int)) = true := decide_eq_true (by omega)
  have e2 : decide (((f.toNat + k : Nat) : Int) < n) = true := decide_eq_true (by omega)
  rw [e1, e2]
  simp [List.getD_eq_getElem?_getD, hk]
theorem rf_ref10_Of {m k k2 n : Nat} {off : Bool} {left count : Int} (s : St) (hm : s.hp[m]? = some (.rw (rmV k n k2 off left count))) (f : Int) (h0 : 0 ≤ f) (h1 : f ≤ n) (h2 : n ≤ 1024) (t : Nat → Ent) (d : Nat → Int) (hI : InI (allL t d))
    (w0 : List Nat) (hok0 : OkS w0) (hbit0 : ∀ j : Nat, j < 1024 → bit w0 j = (decide (f ≤ j) && decide ((j : Int) < n))) :
    (takeL f n (allL t d) w0 = none ∧ ∃ more, rf D f_steadfastref10_Of [.ptr (.hp m) [] 33, .int .i64 f, tabV t, dirV d] s = some (.tup [.nilp, .int .i64 21], ⟨s.loc, s.hp ++ more⟩)) ∨
    (∃ (w : List Nat) (S : List Int) (X : List Blk), takeL f n (allL t d) w0 = some w ∧ Alike f n w S ∧ rf D f_steadfastref10_Of [.ptr (.hp m) [] 33, .int .i64 f, tabV t, dirV d] s = some (.tup [.ptr (.hp (s.hp.length + 2 + X.length)) [] 31, .int .i64 0],
      ⟨s.loc, s.hp ++ ([.rw (.agg 38 (S.map (.int .i64))), .rw (rfV f s.hp.length S.length)] ++ X ++ [.rw (RstF.v ⟨m, s.hp.length + 1, t, t, d, fun _ => noEnt, false⟩)])⟩)) := by
  have hA := alike0 h0 h1 h2 hok0 hbit0
  have hnew := fun L => rf_rNew_ok f n h0 h1 (by omega) ⟨s.loc ++ L, s.hp⟩
  have hrl : (List.replicate ((n : Int) - f).toNat (V.int .i64 0)) = (List.replicate ((n : Int) - f).toNat (0 : Int)).map (.int .i64) := by rw [List.map_replicate]
  rw [hrl] at hnew
  have hlr : (List.replicate ((n : Int) - f).toNat (0 : Int)).length = ((n : Int) - f).toNat := List.length_replicate
  generalize List.replicate ((n : Int) - f).toNat (0 : Int) = S0 at *
  rw [← hlr] at hnew
  obtain ⟨X, v, hap, hlines⟩ := rf_rlines t ⟨s.loc ++ [.rw (tabV t), .rw (dirV d)], s.hp ++ [.rw (.agg 38 (S0.map (.int .i64))), .rw (rfV f s.hp.length S0.length)]⟩
  simp only at hap hlines
  have hll := linesF_len t 49 0
  obtain ⟨X', hX', happ⟩ := app_dir (base := s.loc.length) s.loc _ (tabV t) (dirV d) d rfl hap hll
  have hal : (linesF t 0 49 ++ dirF d 0 8).length ≤ 57 := by rw [List.length_append, dirF_len]; omega
  simp only [allL] at hI ⊢
  generalize hls : linesF t 0 49 ++ dirF d 0 8 = ls at *
  obtain ⟨r, e, q⟩ := refOf_loop (s.loc ++ [.rw (tabV t), .rw (dirV d), .rw (.agg 38 (ls.map (.int .i64)))]) (s.hp ++ [.rw (.agg 38 (S0.map (.int .i64))), .rw (rfV f s.hp.length S0.length)] ++ X')
    (.ptr (.loc s.loc.length) [] 48) (.ptr (.loc (s.loc.length + 1)) [] 50) (.ptr (.hp m) [] 33) (.sl (.loc (s.loc.length + 2)) [] 0 ls.length none 10) (s.hp.length + 1) s.hp.length f n ls h0 h2 w0 S0 hA s.loc.length
    ⟨by simp, by simp, h0, by have := hA.len; omega⟩
    (fun k hk => ⟨by simp [sadv, elp, hk], fun H' => by simp only [elp, go_sem, Nat.zero_add, getElem_map_at hk]⟩) rfl hI (by omega) (by simp only [tabV, dirV]; simp only [go_sem]; simp)
  have z1 : V.agg 48 (List.replicate 49 (.agg 42 [.int .i64 0, .int .i64 0, .int .i64 0])) = tabV fun _ => noEnt := by rw [tab_rep]; rfl
  have hset : ∀ b : Blk, (s.hp ++ [Blk.rw (.agg 38 (S0.map (.int .i64))), Blk.rw (rfV f s.hp.length S0.length)] ++ X').set s.hp.length b = s.hp ++ ([b, Blk.rw (rfV f s.hp.length S0.length)] ++ X') := by
    intro b
    rw [List.append_assoc, List.set_append_right _ _ (Nat.le_refl _)]
    simp
  rcases q with ⟨hn, S', rfl⟩ | ⟨w, S', hw, hal', rfl⟩
  · left
    refine ⟨hn, [.rw (.agg 38 (S'.map (.int .i64))), .rw (rfV f s.hp.length S0.length)] ++ X', ?_⟩
    rw [hset] at e
    rw [rf_o D_steadfastref10_Of rfl]
    simp only [rmV, tabV, dirV, rfV] at *
    simp only [go_sem] at *
    simp only [go_sem, hm, hnew, hlines, happ, e]
  · right
    have hSS : S'.length = S0.length := by have := hal'.len; have := hA.len; omega
    refine ⟨w, S', X', hw, hal', ?_⟩
    rw [hset] at e
    rw [rf_o D_steadfastref10_Of rfl, hSS]
    simp only [rmV, tabV, dirV, rfV, RstF.v] at *
    simp only [go_sem] at *
    simp only [go_sem, hm, hnew, hlines, happ, z1, e]
    rw [show s.hp.length + (X'.length + 1 + 1) = s.hp.length + 2 + X'.length by omega]
end Go.Proofs.Ytpbpgbedkmbfkaa
