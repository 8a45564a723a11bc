/-
  YtpbpgbedkmbfkaaT3: what functions of the program compute (ObjD, ObjE, ObjF, MadeA, Made18).
-/
import Derived.Test.YtpbpgbedkmbfkaaT2
set_option maxRecDepth 100000
namespace Go.Proofs.Ytpbpgbedkmbfkaa
open Go.Ab

/-- A set of lines and a row of states that tell the same. -/
structure Alike (f : Int) (n : Nat) (w : List Nat) (S : List Int) : Prop where
  len : (S.length : Int) = n - f
  ok : OkS w
  eq : ∀ k : Nat, k < S.length → S.getD k 0 = if bit w (f.toNat + k) then 0 else 1
theorem Alike.st {f : Int} {n : Nat} {w : List Nat} {S : List Int} (h : Alike f n w S) (h0 : 0 ≤ f) (x : Int) : stS f S x = stOf f n w (w16 []) x := by
  have hl := h.len
  unfold stS stOf
  by_cases c1 : x < f
  · rw [if_pos (.inl c1), if_pos (.inl c1)]
  · by_cases c2 : (n : Int) ≤ x
    · rw [if_pos (.inr (by omega)), if_pos (.inr c2)]
    · rw [if_neg (by omega), if_neg (by omega), h.eq _ (by omega), bit_nil]
      have : f.toNat + (x - f).toNat = x.toNat := by omega
      rw [this]; simp
theorem Alike.take {f : Int} {n : Nat} {w : List Nat} {S : List Int} (h : Alike f n w S) (h0 : 0 ≤ f) (h1 : n ≤ 1024) {x : Int} (hx : stOf f n w (w16 []) x = 0) : Alike f n (flip w x.toNat) (S.set (x - f).toNat 1) := by
  have hl := h.len
  have hr := line_of (show stOf f n w (w16 []) x ≠ -1 by rw [hx]; decide)
  have hb : bit w x.toNat = true := by
    unfold stOf at hx
    rw [if_neg (by omega), bit_nil] at hx
    split at hx
    · assumption
    · simp at hx
  refine ⟨by rw [List.length_set]; exact hl, h.ok.flip (by omega), fun k hk => ?_⟩
  rw [List.length_set] at hk
  rw [getD_setI (by omega), bit_flip h.ok (by omega)]
  by_cases e : (x - f).toNat = k
  · have : x.toNat = f.toNat + k := by omega
    rw [if_pos e, ← this, hb]; simp
  · have : ¬ x.toNat = f.toNat + k := by omega
    rw [if_neg e, h.eq k hk]; simp [this]
structure InI (ls : List Int) : Prop where
  lt : ∀ x ∈ ls, x ≤ 9223372036854775807
theorem tab8 (d : Nat → Int) : tab 8 (fun i => V.int .i64 (d i)) = (dirF d 0 8).map (.int .i64) := rfl
theorem refOf_loop (L H : List Blk) (P6 P7 P0 v12 : V) (b c : Nat) (f : Int) (n : Nat) (ls : List Int) (h0 : 0 ≤ f) (h1 : n ≤ 1024) (w0 : List Nat) (S0 : List Int) (hA : Alike f n w0 S0) (base : Nat)
    (hH : Rf ⟨L, H⟩ b c f S0) (hv : ∀ k, k < ls.length → sadv 10 v12 (.int .i64 (k : Int)) = some (elp v12 k) ∧ (∀ H', ldv ⟨L, H'⟩ 10 (elp v12 k) = some (.int .i64 (ls.getD k 0)))) (hsl : V.slen false v12 = some ls.length) (hls : InI ls)
    (hll : ls.length < 1000) (hs6 : scrubOk base L.length [(0, P0), (6, P6), (7, P7), (10, .ptr (.hp b) [] 21), (12, v12), (13, .int .i64 0)] ⟨L, []⟩ = true) :
    ∃ r, rc D base (.loop [0, 6, 7, 10, 12, 13] b_steadfastref10_Of_0) [(0, P0), (6, P6), (7, P7), (10, .ptr (.hp b) [] 21), (12, v12), (13, .int .i64 0)] ⟨L, H⟩ = some r ∧
      ((takeL f n ls w0 = none ∧ ∃ S' : List Int, r = (.ret, [(8, .nilp), (9, .int .i64 21)], ⟨L, H.set c (.rw (.agg 38 (S'.map (.int .i64))))⟩)) ∨
       (∃ (w : List Nat) (S' : List Int), takeL f n ls w0 = some w ∧ Alike f n w S' ∧ r = (.exit 0, [(0, P0), (6, P6), (7, P7), (10, .ptr (.hp b) [] 21), (12, v12), (13, .int .i64 ls.length), (33, .bool false)], ⟨L, H.set c (.rw (.agg 38 (S'.map (.int .i64))))⟩))) := by
  have hc := (List.getElem?_eq_some_iff.1 hH.sb).1
  have hlen0 := hA.len
  refine loop_ex (fun x : Nat × List Nat × List Int => [(0, P0), (6, P6), (7, P7), (10, .ptr (.hp b) [] 21), (12, v12), (13, .int .i64 x.1)]) (fun x => ⟨L, H.set c (.rw (.agg 38 (x.2.2.map (.int .i64))))⟩) _ (fun x => ls.length - x.1)
    (fun x => x.1 ≤ ls.length ∧ Alike f n x.2.1 x.2.2 ∧ takeL f n ls w0 = takeL f n (ls.drop x.1) x.2.1) (0, w0, S0) ?_ ⟨by simp only; omega, hA, rfl⟩ rfl (by simp only; rw [set_same hH.sb])
  rintro ⟨i, w, S⟩ ⟨hi, hal, htk⟩
  simp only at hi hal htk
  have hbc : b ≠ c := by
    intro e
    subst e
    have := hH.rb.symm.trans hH.sb
    simp [rfV] at this
  have hlen := hal.len
  have hR : Rf ⟨L, H.set c (.rw (.agg 38 (S.map (.int .i64))))⟩ b c f S := ⟨by rw [List.getElem?_set_ne (Ne.symm hbc)]; have := hH.rb; rw [show S.length = S0.length by omega]; exact this, List.getElem?_set_self hc, h0, by omega⟩
  simp only [scrubOk, List.all_cons, List.all_nil, Bool.and_true, Bool.and_eq_true, decide_eq_true_eq] at hs6
  obtain ⟨⟨_, g1, g2, g3, _, g5, _⟩, g7⟩ := hs6
  rw [List.take_length] at g7
  by_cases c1 : i < ls.length
  · obtain ⟨q1, q2⟩ := hv i c1
    have d1 : (i : Int) < ls.length := by omega
    have d4 : IntKind.i64.wrap ((i : Int) + 1) = (i : Int) + 1 := i64_id (by omega) (by omega)
    have hx : ls.drop i = ls.getD i 0 :: ls.drop (i + 1) := by
      rw [List.getD_eq_getElem?_getD, List.getElem?_eq_getElem c1, Option.getD_some]
      exact List.drop_eq_getElem_cons c1
    rw [hx] at htk
    simp only [takeL] at htk
    have hxi := hls.lt _ (getD_mem c1 0)
    generalize ls.getD i 0 = x at *
    have hst := hal.st h0 x
    have r1 := rf_rTake hR x hxi
    rw [rf_rturn hR x hxi 0 1, hst] at r1
    by_cases hz : stOf f n w (w16 []) x = 0
    · left
      rw [if_pos hz] at htk
      rw [hz] at r1
      simp only [show ¬ ((0 : Int) < 0) by decide, if_false, ne_eq, not_true_eq_false, List.set_set] at r1
      refine ⟨(i + 1, flip w x.toNat, S.set (x - f).toNat 1), ⟨by simp only; omega, hal.take h0 h1 hz, htk⟩, by simp only; omega, ?_⟩
      simp only
      generalize S.set (x - f).toNat 1 = S2 at *
      simp only [go_sem, b_steadfastref10_Of_0, hsl, d1, q1, q2, r1, d4, g1, g2, g3, g5, g7]
      rfl
    · right
      rw [if_neg hz] at htk
      have hr : rf D f_steadfastref04_Frames_Take [.ptr (.hp b) [] 21, .int .i64 x] ⟨L, H.set c (.rw (.agg 38 (S.map (.int .i64))))⟩ = some (.int .i64 1, ⟨L, H.set c (.rw (.agg 38 (S.map (.int .i64))))⟩) ∨
          rf D f_steadfastref04_Frames_Take [.ptr (.hp b) [] 21, .int .i64 x] ⟨L, H.set c (.rw (.agg 38 (S.map (.int .i64))))⟩ = some (.int .i64 3, ⟨L, H.set c (.rw (.agg 38 (S.map (.int .i64))))⟩) := by
        rw [r1]
        by_cases hn : stOf f n w (w16 []) x < 0
        · left; rw [if_pos hn]
        · right; rw [if_neg hn, if_pos hz]
      refine ⟨_, ?_, .inl ⟨htk, S, rfl⟩⟩
      rcases hr with hr | hr <;> simp only [go_sem, b_steadfastref10_Of_0, hsl, d1, q1, q2, hr]
  · right
    have : i = ls.length := by omega
    subst this
    have d1 : ¬ ((ls.length : Nat) : Int) < ls.length := by omega
    refine ⟨_, ?_, .inr ⟨w, S, by rw [htk, List.drop_length]; rfl, hal, rfl⟩⟩
    simp only [go_sem, b_steadfastref10_Of_0, hsl, d1]
structure RstF where
  m : Nat
  fr : Nat
  work : Nat → Ent
  base : Nat → Ent
  dir : Nat → Int
  mark : Nat → Ent
  marked : Bool
def RstF.v (x : RstF) : V := .agg 31 [.ptr (.hp x.m) [] 33, .ptr (.hp x.fr) [] 21, tabV x.work, tabV x.base, dirV x.dir, tabV x.mark, .bool x.marked]
theorem dirF_len (d : Nat → Int) : (dirF d 0 8).length = 8 := rfl
theorem getElem_map_at {ls : List Int} {k : Nat} (h : k < ls.length) : (ls.map (V.int .i64))[k]? = some (.int .i64 (ls.getD k 0)) := get_map h 0
/-- What was appended, as the loop reads it. -/
theorem app_dir (L0 H : List Blk) (t d : V) (dd : Nat → Int) (hd : d = dirV dd) {X : List Blk} {v : V} {l1 : List Int} (h : Apd H X v l1) (hl1 : l1.length ≤ 49) {base : Nat} :
    ∃ X', X'.length = X.length ∧ vappend base false 38 10 v (.sl (.loc (L0.length + 1)) [] 0 8 (some 8) 10) ⟨L0 ++ [.rw t, .rw d], H ++ X⟩ =
      some (.sl (.loc (L0.length + 2)) [] 0 (l1 ++ dirF dd 0 8).length none 10, ⟨L0 ++ [.rw t, .rw d, .rw (.agg 38 ((l1 ++ dirF dd 0 8).map (.int .i64)))], H ++ X'⟩) := by
  subst hd
  have hy : St.elems ⟨L0 ++ [.rw t, .rw (dirV dd)], H ++ X⟩ (.sl (.loc (L0.length + 1)) [] 0 8 (some 8) 10) = some ((dirF dd 0 8).map (.int .i64)) :=
    elems_whole (t := 50) (by simp only [go_sem, dirV, tab8]) rfl
  have hne : (dirF dd 0 8).map (V.int .i64) ≠ [] := by intro h; cases h
  have hx := h.elems (loc := L0 ++ [.rw t, .rw (dirV dd)])
  rcases h.at' with ⟨rfl, rfl⟩ | ⟨Y, rfl, rfl⟩
  · refine ⟨X, rfl, ?_⟩
    rw [app_nils (.inr ⟨_, _, _, _, _, rfl⟩) hy hne (by simp [dirF_len, most]) rfl]
    simp only [go_sem]
    simp
  · refine ⟨Y ++ [.dead], by simp, ?_⟩
    have e2 : St.at ⟨L0 ++ [.rw t, .rw (dirV dd)], H ++ (Y ++ [.rw (.agg 38 (l1.map (.int .i64)))])⟩ (.hp (H.length + Y.length)) = some (.rw (.agg 38 (l1.map (.int .i64)))) := by
      rw [← List.append_assoc, ← List.length_append]; simp [St.at]
    rw [app_may (.inr ⟨_, _, _, _, _, rfl⟩) hx hy hne (by simp [dirF_len, most]; omega) rfl e2]
    have e3 : (St.set ⟨L0 ++ [.rw t, .rw (dirV dd)], H ++ (Y ++ [.rw (.agg 38 (l1.map (.int .i64)))])⟩ (.hp (H.length + Y.length)) .dead) = ⟨L0 ++ [.rw t, .rw (dirV dd)], H ++ (Y ++ [.dead])⟩ := by
      simp only [St.set]
      rw [← List.append_assoc, ← List.length_append, List.set_append_right _ _ (Nat.le_refl _)]
      simp
    rw [e3]
    simp only [go_sem]
    simp
theorem alike0 {f : Int} {n : Nat} {w0 : List Nat} (h0 : 0 ≤ f) (h1 : f ≤ n) (h2 : n ≤ 1024) (hok : OkS w0) (hbit : ∀ j : Nat, j < 1024 → bit w0 j = (decide (f ≤ j) && decide ((j : Int) < n))) : Alike f n w0 (List.replicate (n - f).toNat 0) := by
  refine ⟨by rw [List.length_replicate]; omega, hok, fun k hk => ?_⟩
  rw [List.length_replicate] at hk
  rw [hbit _ (by omega)]
  have e1 : decide (f ≤ ((f.toNat + k : Nat) : Int)) = true := decide_eq_true (by omega)
  have e2 : decide (((f.toNat + k : Nat) : Int) < n) = true := decide_eq_true (by omega)
  rw [e1, e2]
  simp [List.getD_eq_getElem?_getD, hk]
theorem rf_ref10_Of {m k k2 n : Nat} {off : Bool} {left count : Int} (s : St) (hm : s.hp[m]? = some (.rw (rmV k n k2 off left count))) (f : Int) (h0 : 0 ≤ f) (h1 : f ≤ n) (h2 : n ≤ 1024) (t : Nat → Ent) (d : Nat → Int) (hI : InI (allL t d))
    (w0 : List Nat) (hok0 : OkS w0) (hbit0 : ∀ j : Nat, j < 1024 → bit w0 j = (decide (f ≤ j) && decide ((j : Int) < n))) :
    (takeL f n (allL t d) w0 = none ∧ ∃ more, rf D f_steadfastref10_Of [.ptr (.hp m) [] 33, .int .i64 f, tabV t, dirV d] s = some (.tup [.nilp, .int .i64 21], ⟨s.loc, s.hp ++ more⟩)) ∨
    (∃ (w : List Nat) (S : List Int) (X : List Blk), takeL f n (allL t d) w0 = some w ∧ Alike f n w S ∧ rf D f_steadfastref10_Of [.ptr (.hp m) [] 33, .int .i64 f, tabV t, dirV d] s = some (.tup [.ptr (.hp (s.hp.length + 2 + X.length)) [] 31, .int .i64 0],
      ⟨s.loc, s.hp ++ ([.rw (.agg 38 (S.map (.int .i64))), .rw (rfV f s.hp.length S.length)] ++ X ++ [.rw (RstF.v ⟨m, s.hp.length + 1, t, t, d, fun _ => noEnt, false⟩)])⟩)) := by
  have hA := alike0 h0 h1 h2 hok0 hbit0
  have hnew := fun L => rf_rNew_ok f n h0 h1 (by omega) ⟨s.loc ++ L, s.hp⟩
  have hrl : (List.replicate ((n : Int) - f).toNat (V.int .i64 0)) = (List.replicate ((n : Int) - f).toNat (0 : Int)).map (.int .i64) := by rw [List.map_replicate]
  rw [hrl] at hnew
  have hlr : (List.replicate ((n : Int) - f).toNat (0 : Int)).length = ((n : Int) - f).toNat := List.length_replicate
  generalize List.replicate ((n : Int) - f).toNat (0 : Int) = S0 at *
  rw [← hlr] at hnew
  obtain ⟨X, v, hap, hlines⟩ := rf_rlines t ⟨s.loc ++ [.rw (tabV t), .rw (dirV d)], s.hp ++ [.rw (.agg 38 (S0.map (.int .i64))), .rw (rfV f s.hp.length S0.length)]⟩
  simp only at hap hlines
  have hll := linesF_len t 49 0
  obtain ⟨X', hX', happ⟩ := app_dir (base := s.loc.length) s.loc _ (tabV t) (dirV d) d rfl hap hll
  have hal : (linesF t 0 49 ++ dirF d 0 8).length ≤ 57 := by rw [List.length_append, dirF_len]; omega
  simp only [allL] at hI ⊢
  generalize hls : linesF t 0 49 ++ dirF d 0 8 = ls at *
  obtain ⟨r, e, q⟩ := refOf_loop (s.loc ++ [.rw (tabV t), .rw (dirV d), .rw (.agg 38 (ls.map (.int .i64)))]) (s.hp ++ [.rw (.agg 38 (S0.map (.int .i64))), .rw (rfV f s.hp.length S0.length)] ++ X')
    (.ptr (.loc s.loc.length) [] 48) (.ptr (.loc (s.loc.length + 1)) [] 50) (.ptr (.hp m) [] 33) (.sl (.loc (s.loc.length + 2)) [] 0 ls.length none 10) (s.hp.length + 1) s.hp.length f n ls h0 h2 w0 S0 hA s.loc.length
    ⟨by simp, by simp, h0, by have := hA.len; omega⟩
    (fun k hk => ⟨by simp [sadv, elp, hk], fun H' => by simp only [elp, go_sem, Nat.zero_add, getElem_map_at hk]⟩) rfl hI (by omega) (by simp only [tabV, dirV]; simp only [go_sem]; simp)
  have z1 : V.agg 48 (List.replicate 49 (.agg 42 [.int .i64 0, .int .i64 0, .int .i64 0])) = tabV fun _ => noEnt := by rw [tab_rep]; rfl
  have hset : ∀ b : Blk, (s.hp ++ [Blk.rw (.agg 38 (S0.map (.int .i64))), Blk.rw (rfV f s.hp.length S0.length)] ++ X').set s.hp.length b = s.hp ++ ([b, Blk.rw (rfV f s.hp.length S0.length)] ++ X') := by
    intro b
    rw [List.append_assoc, List.set_append_right _ _ (Nat.le_refl _)]
    simp
  rcases q with ⟨hn, S', rfl⟩ | ⟨w, S', hw, hal', rfl⟩
  · left
    refine ⟨hn, [.rw (.agg 38 (S'.map (.int .i64))), .rw (rfV f s.hp.length S0.length)] ++ X', ?_⟩
    rw [hset] at e
    rw [rf_o D_steadfastref10_Of rfl]
    simp only [rmV, tabV, dirV, rfV] at *
    simp only [go_sem] at *
    simp only [go_sem, hm, hnew, hlines, happ, e]
  · right
    have hSS : S'.length = S0.length := by have := hal'.len; have := hA.len; omega
    refine ⟨w, S', X', hw, hal', ?_⟩
    rw [hset] at e
    rw [rf_o D_steadfastref10_Of rfl, hSS]
    simp only [rmV, tabV, dirV, rfV, RstF.v] at *
    simp only [go_sem] at *
    simp only [go_sem, hm, hnew, hlines, happ, z1, e]
    rw [show s.hp.length + (X'.length + 1 + 1) = s.hp.length + 2 + X'.length by omega]
end Go.Proofs.Ytpbpgbedkmbfkaa
namespace Go.Proofs.Ytpbpgbedkmbfkaa
open Go.Ab

theorem rf_ref08_Names (kind ver line id w : Int) (h0 : 0 ≤ w) (h1 : w ≤ 18446744073709551615) (s : St) :
    rf D f_steadfastref08_Names [.agg 42 [.int .i64 kind, .int .i64 ver, .int .i64 line], .int .i64 id, .int .u64 w] s = some (.int .i64 (entryNames kind ver id w), s) := by
  have hc := fun s => rf_ref07_Of w h0 h1 s
  have hk : (capOf w).may = true → (capsOf w).kind ≤ 6 := fun h => by
    have := ((may_iff _).1 h).k
    unfold capsOf; rw [if_pos h]; exact this.2
  rw [rf_o D_steadfastref08_Names rfl]
  unfold entryNames
  generalize capsOf w = y at hc hk ⊢
  generalize (capOf w).may = m at hc hk ⊢
  simp only [Cap.v] at hc
  simp only [go_sem, hc]
  cases m
  · simp [go_sem]
  · have hk := hk rfl
    by_cases g1 : y.kind = 5
    · simp [go_sem, g1]
    · by_cases g1' : y.kind = 6
      · simp [go_sem, g1']
      · have g6 : ¬ 4 < y.kind := by omega
        by_cases g2 : y.id = id
        · by_cases g3 : y.ver = ver
          · by_cases g4 : kind = 0
            · simp [go_sem, g1, g1', g2, g3, g4, g6]
            · by_cases g5 : y.kind = kind
              · subst g5; simp [go_sem, g1, g1', g2, g3, g4, g6]
              · simp [go_sem, g1, g1', g2, g3, g4, g5, g6]
          · simp [go_sem, g1, g1', g2, g3, g6]
        · simp [go_sem, g1, g1', g2, g6]
/-- Whose capability a word is: the error, and the number. -/
def nmE (t : Nat → Ent) (c : Int) : Int := entryNames (t (capsOf c).id.toNat).kind (t (capsOf c).id.toNat).ver (capsOf c).id c
def nmId (t : Nat → Ent) (c : Int) : Int := if nmE t c = 0 then (capsOf c).id else 0
theorem capsOf_id (c : Int) : 0 ≤ (capsOf c).id ∧ (capsOf c).id ≤ 48 := by
  unfold capsOf
  split
  · rename_i h; exact may_id h
  · exact ⟨Int.le_refl _, by decide⟩
theorem nmE_no {t : Nat → Ent} {c : Int} (h : (capOf c).may = false) : nmE t c = 31 := by
  unfold nmE entryNames; rw [h]; rfl
theorem rf_Names {s : St} {a : Nat} {x : StF} {sh : Nat → Bool} (h : s.hp[a]? = some (.rw (x.v sh))) (c : Int) (h0 : 0 ≤ c) (h1 : c ≤ 18446744073709551615) :
    rf D f_objects_Store_Names [.ptr (.hp a) [] 43, .int .u64 c] s = some (.tup [.int .i64 (nmId x.work c), .int .i64 (nmE x.work c)], s) := by
  have hc := fun s => rf_caps_Of c h0 h1 s
  have hid := capsOf_id c
  have hno := nmE_no (t := x.work) (c := c)
  unfold nmId
  have hn : nmE x.work c = entryNames (x.work (capsOf c).id.toNat).kind (x.work (capsOf c).id.toNat).ver (capsOf c).id c := rfl
  obtain ⟨i, hi⟩ : ∃ i : Nat, (capsOf c).id = i := ⟨(capsOf c).id.toNat, by omega⟩
  rw [hi, Int.toNat_natCast] at hn
  have g1 := tab_get (f := fun i => (x.work i).v) (show i < 49 by omega)
  have hen := fun s => rf_entry_Names (x.work i).kind (x.work i).ver (x.work i).line i c h0 h1 s
  rw [← hn] at hen
  have c1 : (i : Int) < 49 := by omega
  have c2 : (0 : Int) ≤ i := by omega
  simp only [hi] at hc ⊢
  obtain ⟨m, fr, work, base, dir, mark, marked⟩ := x
  simp only [StF.v, tabV, Cap.v, Ent.v] at *
  simp only [hi] at hc
  generalize nmE work c = e at *
  generalize tab 49 (fun i => V.agg 42 [.int .i64 (work i).kind, .int .i64 (work i).ver, .int .i64 (work i).line]) = T at *
  rw [rf_o D_objects_Store_Names rfl]
  by_cases hm : (capOf c).may = true
  · simp only [hm] at hc
    simp only [go_sem, hc, h, c1, c2]
    rw [Int.toNat_natCast]
    by_cases he : e = 0
    · subst he
      simp only [go_sem, g1, hen]
    · simp only [go_sem, g1, hen, he]
  · have hm' : (capOf c).may = false := by simpa using hm
    have he := hno hm'
    subst he
    simp only [hm'] at hc
    simp only [go_sem, hc]
theorem rf_rNames {s : St} {a : Nat} {x : RstF} (h : s.hp[a]? = some (.rw x.v)) (c : Int) (h0 : 0 ≤ c) (h1 : c ≤ 18446744073709551615) :
    rf D f_steadfastref10_Store_Names [.ptr (.hp a) [] 31, .int .u64 c] s = some (.tup [.int .i64 (nmId x.work c), .int .i64 (nmE x.work c)], s) := by
  have hc := fun s => rf_ref07_Of c h0 h1 s
  have hid := capsOf_id c
  have hno := nmE_no (t := x.work) (c := c)
  unfold nmId
  have hn : nmE x.work c = entryNames (x.work (capsOf c).id.toNat).kind (x.work (capsOf c).id.toNat).ver (capsOf c).id c := rfl
  obtain ⟨i, hi⟩ : ∃ i : Nat, (capsOf c).id = i := ⟨(capsOf c).id.toNat, by omega⟩
  rw [hi, Int.toNat_natCast] at hn
  have g1 := tab_get (f := fun i => (x.work i).v) (show i < 49 by omega)
  have hen := fun s => rf_ref08_Names (x.work i).kind (x.work i).ver (x.work i).line i c h0 h1 s
  rw [← hn] at hen
  have c1 : (i : Int) < 49 := by omega
  have c2 : (0 : Int) ≤ i := by omega
  simp only [hi] at hc ⊢
  obtain ⟨m, fr, work, base, dir, mark, marked⟩ := x
  simp only [RstF.v, tabV, Cap.v, Ent.v] at *
  simp only [hi] at hc
  generalize nmE work c = e at *
  generalize tab 49 (fun i => V.agg 42 [.int .i64 (work i).kind, .int .i64 (work i).ver, .int .i64 (work i).line]) = T at *
  rw [rf_o D_steadfastref10_Store_Names rfl]
  by_cases hm : (capOf c).may = true
  · simp only [hm] at hc
    simp only [go_sem, hc, h, c1, c2]
    rw [Int.toNat_natCast]
    by_cases he : e = 0
    · subst he
      simp only [go_sem, g1, hen]
    · simp only [go_sem, g1, hen, he]
  · have hm' : (capOf c).may = false := by simpa using hm
    have he := hno hm'
    subst he
    simp only [hm'] at hc
    simp only [go_sem, hc]
/-! ### Get -/
/-- The program's objects, to be read: the store's block, its memory's lines. -/
structure Prg (hp : List Blk) (a : Nat) (x : StF) (sh : Nat → Bool) (k n : Nat) (T : List V) (ls : Nat → List Int) : Prop where
  st : hp[a]? = some (.rw (x.v sh))
  mb : ∃ burns left steps, hp[x.m]? = some (.rw (memV k n false burns left steps))
  kb : hp[k]? = some (.rw (.agg 57 T))
  ln : ∀ i, i < 49 → (x.work i).kind ≠ 0 → 0 ≤ (x.work i).line ∧ (x.work i).line < n ∧ ∃ su si fl, T[(x.work i).line.toNat]? = some (nlV (lnV (ls (x.work i).line.toNat)) su si fl)
/-- The document's. -/
structure Doc (hp : List Blk) (a : Nat) (x : RstF) (k k2 n : Nat) (T T2 : List V) (ls : Nat → List Int) : Prop where
  st : hp[a]? = some (.rw x.v)
  mb : ∃ left count, hp[x.m]? = some (.rw (rmV k n k2 false left count))
  kb : hp[k]? = some (.rw (.agg 58 T))
  kb2 : hp[k2]? = some (.rw (.agg 53 T2))
  ln : ∀ i, i < 49 → (x.work i).kind ≠ 0 → 0 ≤ (x.work i).line ∧ (x.work i).line < n ∧ T[(x.work i).line.toNat]? = some (lnV (ls (x.work i).line.toNat)) ∧ T2[(x.work i).line.toNat]? = some .nils
def gE (t : Nat → Ent) (id : Int) : Int := if id < 0 ∨ 49 ≤ id then 1 else if (t id.toNat).kind = 0 then 30 else 0
def gO (t : Nat → Ent) (ls : Nat → List Int) (id : Int) : Obj := if gE t id = 0 then ⟨(t id.toNat).kind, (t id.toNat).ver, ls (t id.toNat).line.toNat⟩ else ⟨0, 0, zl⟩
theorem rf_is_s {s : St} {a : Nat} {x : StF} {sh : Nat → Bool} (h : s.hp[a]? = some (.rw (x.v sh))) (id : Int) : rf D f_objects_Store_is [.ptr (.hp a) [] 43, .int .i64 id] s = some (.int .i64 (gE x.work id), s) := by
  obtain ⟨m, fr, work, base, dir, mark, marked⟩ := x
  simp only [StF.v, tabV] at *
  unfold gE
  rw [rf_o D_objects_Store_is rfl]
  by_cases c1 : id < 0
  · simp only [go_sem, c1]
  · by_cases c2 : 49 ≤ id
    · simp only [go_sem, c1, c2]
    · obtain ⟨i, rfl⟩ : ∃ i : Nat, id = i := ⟨id.toNat, by omega⟩
      have g1 := tab_get (f := fun i => (work i).v) (show i < 49 by omega)
      simp only [Ent.v] at *
      generalize tab 49 (fun i => V.agg 42 [.int .i64 (work i).kind, .int .i64 (work i).ver, .int .i64 (work i).line]) = T at *
      have d1 : (i : Int) < 49 := by omega
      have d2 : (0 : Int) ≤ i := by omega
      rw [if_neg (by omega), Int.toNat_natCast]
      by_cases hk : (work i).kind = 0
      · simp only [hk] at *
        simp only [go_sem, c1, c2, h, d1, d2]
        rw [Int.toNat_natCast]
        simp only [go_sem, g1]
      · simp only [go_sem, c1, c2, h, d1, d2]
        rw [Int.toNat_natCast]
        simp only [go_sem, g1, hk]
theorem rf_Get {s : St} {a k n : Nat} {x : StF} {sh : Nat → Bool} {T : List V} {ls : Nat → List Int} (h : Prg s.hp a x sh k n T ls) (id : Int) :
    rf D f_objects_Store_Get [.ptr (.hp a) [] 43, .int .i64 id] s = some (.tup [(gO x.work ls id).v, .int .i64 (gE x.work id)], s) := by
  have his := fun L => rf_is_s (s := ⟨s.loc ++ L, s.hp⟩) h.st id
  obtain ⟨burns, left, steps, hmb⟩ := h.mb
  have hst := h.st
  have hkb := h.kb
  unfold gO
  by_cases he : gE x.work id = 0
  · have hr : 0 ≤ id ∧ id < 49 ∧ (x.work id.toNat).kind ≠ 0 := by
      unfold gE at he
      split at he
      · cases he
      · split at he
        · cases he
        · rename_i h1 h2; exact ⟨by omega, by omega, h2⟩
    obtain ⟨i, rfl⟩ : ∃ i : Nat, id = i := ⟨id.toNat, by omega⟩
    rw [Int.toNat_natCast] at hr
    obtain ⟨h1, h2, su, si, fl, hT⟩ := h.ln i (by omega) hr.2.2
    obtain ⟨q, hq⟩ : ∃ q : Nat, (x.work i).line = q := ⟨(x.work i).line.toNat, by omega⟩
    rw [hq, Int.toNat_natCast] at hT
    rw [hq] at h2
    have hld0 := rf_nvm_Load (i := q) s hmb hkb hT (by omega)
    have g1 := tab_get (f := fun i => (x.work i).v) (show i < 49 by omega)
    have d1 : (i : Int) < 49 := by omega
    have d2 : (0 : Int) ≤ i := by omega
    rw [he] at his
    obtain ⟨m, fr, work, base, dir, mark, marked⟩ := x
    simp only [StF.v, tabV, Ent.v, Obj.v, lnV] at *
    rw [hq] at g1
    simp only [he, if_true, Int.toNat_natCast, hq]
    generalize tab 49 (fun i => V.agg 42 [.int .i64 (work i).kind, .int .i64 (work i).ver, .int .i64 (work i).line]) = W at *
    rw [rf_o D_objects_Store_Get rfl]
    simp only [go_sem, his, hst, d1, d2]
    rw [Int.toNat_natCast]
    simp only [go_sem, g1, hst, hld0]
  · simp only [he, if_false]
    have e : (Obj.mk 0 0 zl).v = .agg 26 [.int .i64 0, .int .i64 0, .agg 24 (List.replicate 8 (.int .u64 0))] := rfl
    rw [e]
    generalize gE x.work id = ee at *
    rw [rf_o D_objects_Store_Get rfl]
    simp only [go_sem, his, he]
theorem rf_is_r {s : St} {a : Nat} {x : RstF} (h : s.hp[a]? = some (.rw x.v)) (id : Int) : rf D f_steadfastref10_Store_is [.ptr (.hp a) [] 31, .int .i64 id] s = some (.int .i64 (gE x.work id), s) := by
  obtain ⟨m, fr, work, base, dir, mark, marked⟩ := x
  simp only [RstF.v, tabV] at *
  unfold gE
  rw [rf_o D_steadfastref10_Store_is rfl]
  by_cases c1 : id < 0
  · simp only [go_sem, c1]
  · by_cases c2 : 49 ≤ id
    · simp only [go_sem, c1, c2]
    · obtain ⟨i, rfl⟩ : ∃ i : Nat, id = i := ⟨id.toNat, by omega⟩
      have g1 := tab_get (f := fun i => (work i).v) (show i < 49 by omega)
      simp only [Ent.v] at *
      generalize tab 49 (fun i => V.agg 42 [.int .i64 (work i).kind, .int .i64 (work i).ver, .int .i64 (work i).line]) = T at *
      have d1 : (i : Int) < 49 := by omega
      have d2 : (0 : Int) ≤ i := by omega
      rw [if_neg (by omega), Int.toNat_natCast]
      by_cases hk : (work i).kind = 0
      · simp only [hk] at *
        simp only [go_sem, c1, c2, h, d1, d2]
        rw [Int.toNat_natCast]
        simp only [go_sem, g1]
      · simp only [go_sem, c1, c2, h, d1, d2]
        rw [Int.toNat_natCast]
        simp only [go_sem, g1, hk]
theorem rf_rGet {s : St} {a k k2 n : Nat} {x : RstF} {T T2 : List V} {ls : Nat → List Int} (h : Doc s.hp a x k k2 n T T2 ls) (id : Int) :
    rf D f_steadfastref10_Store_Get [.ptr (.hp a) [] 31, .int .i64 id] s = some (.tup [(gO x.work ls id).v, .int .i64 (gE x.work id)], s) := by
  have his := fun L => rf_is_r (s := ⟨s.loc ++ L, s.hp⟩) h.st id
  obtain ⟨left, count, hmb⟩ := h.mb
  have hst := h.st
  have hkb := h.kb
  have hkb2 := h.kb2
  unfold gO
  by_cases he : gE x.work id = 0
  · have hr : 0 ≤ id ∧ id < 49 ∧ (x.work id.toNat).kind ≠ 0 := by
      unfold gE at he
      split at he
      · cases he
      · split at he
        · cases he
        · rename_i h1 h2; exact ⟨by omega, by omega, h2⟩
    obtain ⟨i, rfl⟩ : ∃ i : Nat, id = i := ⟨id.toNat, by omega⟩
    rw [Int.toNat_natCast] at hr
    obtain ⟨h1, h2, hT, hT2⟩ := h.ln i (by omega) hr.2.2
    obtain ⟨q, hq⟩ : ∃ q : Nat, (x.work i).line = q := ⟨(x.work i).line.toNat, by omega⟩
    rw [hq, Int.toNat_natCast] at hT hT2
    rw [hq] at h2
    have hld0 := rf_ref03_Load0 (i := q) s hmb hkb hT hkb2 hT2 (by omega)
    have g1 := tab_get (f := fun i => (x.work i).v) (show i < 49 by omega)
    have d1 : (i : Int) < 49 := by omega
    have d2 : (0 : Int) ≤ i := by omega
    rw [he] at his
    obtain ⟨m, fr, work, base, dir, mark, marked⟩ := x
    simp only [RstF.v, tabV, Ent.v, Obj.v, lnV] at *
    rw [hq] at g1
    simp only [he, if_true, Int.toNat_natCast, hq]
    generalize tab 49 (fun i => V.agg 42 [.int .i64 (work i).kind, .int .i64 (work i).ver, .int .i64 (work i).line]) = W at *
    rw [rf_o D_steadfastref10_Store_Get rfl]
    simp only [go_sem, his, hst, d1, d2]
    rw [Int.toNat_natCast]
    simp only [go_sem, g1, hst, hld0, d1, d2]
    rw [Int.toNat_natCast]
    simp only [go_sem, g1]
  · simp only [he, if_false]
    have e : (Obj.mk 0 0 zl).v = .agg 26 [.int .i64 0, .int .i64 0, .agg 24 (List.replicate 8 (.int .u64 0))] := rfl
    rw [e]
    generalize gE x.work id = ee at *
    rw [rf_o D_steadfastref10_Store_Get rfl]
    simp only [go_sem, his, he]
end Go.Proofs.Ytpbpgbedkmbfkaa
namespace Go.Proofs.Ytpbpgbedkmbfkaa
open Go.Ab

theorem neg_tmod (k : Int) {m : Int} (h0 : 0 < m) (h1 : m < 1000000000) : IntKind.i64.wrap (0 - k.tmod m) = -k.tmod m := by
  have := Int.tmod_lt_of_pos k h0
  have := Int.lt_tmod_of_pos k h0
  rw [Int.zero_sub]
  exact i64_id (by omega) (by omega)
/-- The entry of the object i. -/
def entM (M : Int) (lo : List Obj) (i : Nat) : Ent :=
  if i < lo.length then ⟨absm (lo.getD i zeroObj).kind 5, absm (lo.getD i zeroObj).ver M, if absm (lo.getD i zeroObj).kind 5 = 0 then 0 else 20 + i⟩ else noEnt
/-- What stands in the line j. -/
def lnM (lo : List Obj) (j : Nat) : List Int :=
  if 20 ≤ j ∧ j < 69 ∧ j < 20 + lo.length ∧ absm (lo.getD (j - 20) zeroObj).kind 5 ≠ 0 then (lo.getD (j - 20) zeroObj).l else zl
theorem entM_line {M : Int} {lo : List Obj} {i : Nat} (h : (entM M lo i).kind ≠ 0) : (entM M lo i).line = 20 + i := by
  unfold entM at h ⊢
  split
  · rename_i hi
    rw [if_pos hi] at h
    simp only at h ⊢
    rw [if_neg h]
  · rename_i hi
    rw [if_neg hi] at h
    exact absurd rfl h
theorem entM_range {M : Int} (hM : 0 < M) (lo : List Obj) (i : Nat) : 0 ≤ (entM M lo i).kind ∧ (entM M lo i).kind ≤ 4 ∧ 0 ≤ (entM M lo i).ver ∧ (entM M lo i).ver < M := by
  unfold entM
  split
  · have h1 := absm_le (lo.getD i zeroObj).kind (m := 5) (by omega)
    have h2 := absm_le (lo.getD i zeroObj).ver hM
    simp only; omega
  · simp only [noEnt]; omega
def dir10 (i : Nat) : Int := if i < 8 then 10 + i else 0
/-- The lines from 20 on can be taken. -/
theorem take20 {t : Nat → Ent} (ht : ∀ i, i < 49 → (t i).kind ≠ 0 → (t i).line = 20 + i) (rest : List Int) : ∀ (n i : Nat) (w : List Nat), i + n = 49 → OkS w → (∀ j, 20 + i ≤ j → j < 69 → bit w j = true) →
    ∃ w', takeL 10 100 (linesF t i n ++ rest) w = takeL 10 100 rest w' ∧ OkS w' ∧ (∀ j, j < 1024 → (bit w' j = true → bit w j = true) ∧ (j < 20 ∨ 69 ≤ j → bit w' j = bit w j))
  | 0, i, w, _, hok, _ => ⟨w, rfl, hok, fun j _ => ⟨id, fun _ => rfl⟩⟩
  | n + 1, i, w, hin, hok, hb => by
    simp only [linesF]
    by_cases hk : (t i).kind = 0
    · rw [if_pos hk]
      exact take20 ht rest n (i + 1) w (by omega) hok fun j h1 h2 => hb j (by omega) h2
    · rw [if_neg hk, ht i (by omega) hk, List.cons_append]
      have hbi := hb (20 + i) (Nat.le_refl _) (by omega)
      have hst : stOf 10 100 w (w16 []) (20 + i) = 0 := by
        unfold stOf
        rw [if_neg (by omega), show ((20 : Int) + i).toNat = 20 + i by omega, hbi]; rfl
      simp only [takeL]
      rw [if_pos hst, show ((20 : Int) + i).toNat = 20 + i by omega]
      obtain ⟨w', e, hok', hb'⟩ := take20 ht rest n (i + 1) (flip w (20 + i)) (by omega) (hok.flip (by omega)) (fun j h1 h2 => by
        rw [bit_flip hok (by omega), hb j (by omega) h2]
        have : ¬ 20 + i = j := by omega
        simp [this])
      refine ⟨w', e, hok', fun j hj => ⟨fun h => ?_, fun h => ?_⟩⟩
      · have h2 := (hb' j hj).1 h
        rw [bit_flip hok (by omega)] at h2
        by_cases e2 : 20 + i = j
        · subst e2; exact hbi
        · simpa [e2] using h2
      · rw [(hb' j hj).2 h, bit_flip hok (by omega)]
        have : ¬ 20 + i = j := by omega
        simp [this]
/-- The lines from 10 on can be taken. -/
theorem take10 : ∀ (n i : Nat) (w : List Nat), i + n = 8 → OkS w → (∀ j, 10 + i ≤ j → j < 18 → bit w j = true) →
    ∃ w', takeL 10 100 (dirF dir10 i n) w = some w' ∧ OkS w' ∧ (∀ j, j < 1024 → (bit w' j = true → bit w j = true) ∧ (18 ≤ j → bit w' j = bit w j))
  | 0, i, w, _, hok, _ => ⟨w, rfl, hok, fun j _ => ⟨id, fun _ => rfl⟩⟩
  | n + 1, i, w, hin, hok, hb => by
    have hd : dir10 i = 10 + i := if_pos (by omega)
    simp only [dirF, takeL]
    have hbi := hb (10 + i) (Nat.le_refl _) (by omega)
    have hst : stOf 10 100 w (w16 []) (10 + i) = 0 := by
      unfold stOf
      rw [if_neg (by omega), show ((10 : Int) + i).toNat = 10 + i by omega, hbi]; rfl
    rw [hd, if_pos hst, show ((10 : Int) + i).toNat = 10 + i by omega]
    obtain ⟨w', e, hok', hb'⟩ := take10 n (i + 1) (flip w (10 + i)) (by omega) (hok.flip (by omega)) (fun j h1 h2 => by
      rw [bit_flip hok (by omega), hb j (by omega) h2]
      have : ¬ 10 + i = j := by omega
      simp [this])
    refine ⟨w', e, hok', fun j hj => ⟨fun h => ?_, fun h => ?_⟩⟩
    · have h2 := (hb' j hj).1 h
      rw [bit_flip hok (by omega)] at h2
      by_cases e2 : 10 + i = j
      · subst e2; exact hbi
      · simpa [e2] using h2
    · rw [(hb' j hj).2 h, bit_flip hok (by omega)]
      have : ¬ 10 + i = j := by omega
      simp [this]
theorem take_all {t : Nat → Ent} (ht : ∀ i, i < 49 → (t i).kind ≠ 0 → (t i).line = 20 + i) {w0 : List Nat} (hok : OkS w0) (hb : ∀ j : Nat, j < 1024 → bit w0 j = (decide ((10 : Int) ≤ j) && decide ((j : Int) < (100 : Nat)))) :
    ∃ w, takeL 10 100 (allL t dir10) w0 = some w ∧ OkS w ∧ (∀ j, j < 1024 → bit w j = true → 10 ≤ j ∧ j < 100) ∧ bit w 18 = true := by
  obtain ⟨w1, e1, ok1, b1⟩ := take20 ht (dirF dir10 0 8) 49 0 w0 rfl hok (fun j h1 h2 => by rw [hb j (by omega)]; simp; omega)
  obtain ⟨w2, e2, ok2, b2⟩ := take10 8 0 w1 rfl ok1 (fun j h1 h2 => by rw [(b1 j (by omega)).2 (.inl (by omega)), hb j (by omega)]; simp; omega)
  refine ⟨w2, by rw [allL, e1, e2], ok2, fun j hj h => ?_, ?_⟩
  · have := (b1 j hj).1 ((b2 j hj).1 h)
    rw [hb j hj] at this
    simp at this
    omega
  · rw [(b2 18 (by omega)).2 (by omega), (b1 18 (by omega)).2 (.inl (by omega)), hb 18 (by omega)]; rfl
theorem allL_in {t : Nat → Ent} (ht : ∀ i, i < 49 → (t i).kind ≠ 0 → (t i).line = 20 + i) : InI (allL t dir10) := by
  have key : ∀ (n i : Nat), i + n = 49 → ∀ x ∈ linesF t i n, x ≤ 9223372036854775807 := by
    intro n
    induction n with
    | zero => intro i _ x hx; cases hx
    | succ n ih =>
      intro i hin x hx
      simp only [linesF] at hx
      split at hx
      · exact ih (i + 1) (by omega) x hx
      · rename_i hk
        rcases List.mem_cons.1 hx with rfl | hx
        · rw [ht i (by omega) hk]; omega
        · exact ih (i + 1) (by omega) x hx
  refine ⟨fun x hx => ?_⟩
  rcases List.mem_append.1 hx with hx | hx
  · exact key 49 0 rfl x hx
  · have : x = 10 ∨ x = 11 ∨ x = 12 ∨ x = 13 ∨ x = 14 ∨ x = 15 ∨ x = 16 ∨ x = 17 := by simpa [dirF, dir10] using hx
    omega
end Go.Proofs.Ytpbpgbedkmbfkaa
namespace Go.Proofs.Ytpbpgbedkmbfkaa
open Go.Ab

def madeH (h : Nat) (t : Nat → Ent) (ls : Nat → List Int) (w : List Nat) (S : List Int) (X : List Blk) : List Blk :=
  [.rw (.agg 57 (tab 100 fun i => nlV (lnV (ls i)) (lnV (ls i)) .nils zfl)), .rw (memV h 100 false false 0 0),
   .rw (.agg 58 []), .rw (.agg 58 (tab 100 fun i => lnV (ls i))), .rw (.agg 53 (tab 100 fun _ => .nils)), .rw (rmV (h + 3) 100 (h + 4) false (-1) 0),
   .rw (frV 10 100 w (w16 [])), .rw (StF.v ⟨h + 1, h + 6, t, t, dir10, fun _ => noEnt, false⟩ (shOf t (fun _ => noEnt) false)),
   .rw (.agg 38 (S.map (.int .i64))), .rw (rfV 10 (h + 8) S.length)] ++ X ++ [.rw (RstF.v ⟨h + 5, h + 9, t, t, dir10, fun _ => noEnt, false⟩)]
theorem madeH_at {H : List Blk} {t : Nat → Ent} {ls : Nat → List Int} {w : List Nat} {S : List Int} {X : List Blk} (i : Nat) (hi : i < 10) : (H ++ madeH H.length t ls w S X)[H.length + i]? = (madeH H.length t ls w S X)[i]? := by
  rw [List.getElem?_append_right (by omega), Nat.add_sub_cancel_left]
theorem prgM {H : List Blk} {t : Nat → Ent} {ls : Nat → List Int} {w : List Nat} {S : List Int} {X : List Blk} (ht : ∀ i, i < 49 → (t i).kind ≠ 0 → (t i).line = 20 + i) :
    Prg (H ++ madeH H.length t ls w S X) (H.length + 7) ⟨H.length + 1, H.length + 6, t, t, dir10, fun _ => noEnt, false⟩ (shOf t (fun _ => noEnt) false) H.length 100 (tab 100 fun i => nlV (lnV (ls i)) (lnV (ls i)) .nils zfl) ls := by
  refine ⟨by rw [madeH_at 7 (by omega)]; rfl, ⟨false, 0, 0, by simp only; rw [madeH_at 1 (by omega)]; rfl⟩, by have := madeH_at (H := H) (t := t) (ls := ls) (w := w) (S := S) (X := X) 0 (by omega); rw [Nat.add_zero] at this; rw [this]; rfl, fun i hi hk => ?_⟩
  simp only at hk ⊢
  rw [ht i hi hk]
  refine ⟨by omega, by omega, lnV (ls (20 + i)), .nils, zfl, ?_⟩
  rw [show ((20 : Int) + i).toNat = 20 + i by omega, tab_get (by omega)]
theorem docM {H : List Blk} {t : Nat → Ent} {ls : Nat → List Int} {w : List Nat} {S : List Int} {X : List Blk} (ht : ∀ i, i < 49 → (t i).kind ≠ 0 → (t i).line = 20 + i) :
    Doc (H ++ madeH H.length t ls w S X) (H.length + 10 + X.length) ⟨H.length + 5, H.length + 9, t, t, dir10, fun _ => noEnt, false⟩ (H.length + 3) (H.length + 4) 100 (tab 100 fun i => lnV (ls i)) (tab 100 fun _ => .nils) ls := by
  refine ⟨?_, ⟨-1, 0, by simp only; rw [madeH_at 5 (by omega)]; rfl⟩, by rw [madeH_at 3 (by omega)]; rfl, by rw [madeH_at 4 (by omega)]; rfl, fun i hi hk => ?_⟩
  · rw [List.getElem?_append_right (by omega), show H.length + 10 + X.length - H.length = 10 + X.length by omega]
    unfold madeH
    rw [List.getElem?_append_right (by simp; omega), List.length_append]
    simp only [List.length_cons, List.length_nil, Nat.zero_add, Nat.reduceAdd]
    rw [Nat.sub_self]
    rfl
  · simp only at hk ⊢
    rw [ht i hi hk]
    refine ⟨by omega, by omega, ?_, ?_⟩
    · rw [show ((20 : Int) + i).toNat = 20 + i by omega, tab_get (by omega)]
    · rw [show ((20 : Int) + i).toNat = 20 + i by omega, tab_get (by omega)]
def entI (M : Int) (lo : List Obj) (i : Nat) (j : Nat) : Ent := if j < i then entM M lo j else noEnt
def lnI (lo : List Obj) (i : Nat) (j : Nat) : List Int := if j < 20 + i then lnM lo j else zl
theorem entI_step {M : Int} {lo : List Obj} {i : Nat} {e : V} (he : (entM M lo i).v = e) : tab 49 (upd (fun j => (entI M lo i j).v) i e) = tab 49 fun j => (entI M lo (i + 1) j).v := by
  apply tab_congr
  intro j _
  by_cases e2 : j = i
  · subst e2
    rw [upd_self, ← he]
    simp [entI]
  · rw [upd_ne e2]
    unfold entI
    by_cases h2 : j < i
    · rw [if_pos h2, if_pos (by omega)]
    · rw [if_neg h2, if_neg (by omega)]
theorem lnI_step {lo : List Obj} {i : Nat} : tab 100 (upd (fun j => lnV (lnI lo i j)) (20 + i) (lnV (lnM lo (20 + i)))) = tab 100 fun j => lnV (lnI lo (i + 1) j) := by
  apply tab_congr
  intro j _
  by_cases e2 : j = 20 + i
  · subst e2
    rw [upd_self]
    unfold lnI
    rw [if_pos (by omega)]
  · rw [upd_ne e2]
    unfold lnI
    by_cases h2 : j < 20 + i
    · rw [if_pos h2, if_pos (by omega)]
    · rw [if_neg h2, if_neg (by omega)]
theorem lnI_same {lo : List Obj} {i : Nat} (h : lnM lo (20 + i) = zl) : (tab 100 fun j => lnV (lnI lo i j)) = tab 100 fun j => lnV (lnI lo (i + 1) j) := by
  apply tab_congr
  intro j _
  unfold lnI
  by_cases h2 : j < 20 + i
  · rw [if_pos h2, if_pos (by omega)]
  · rw [if_neg h2]
    by_cases h3 : j < 20 + (i + 1)
    · rw [if_pos h3, show j = 20 + i by omega, h]
    · rw [if_neg h3]
theorem lnI_zero {lo : List Obj} : (tab 100 fun j => lnV (lnI lo 0 j)) = tab 100 fun _ => lnV zl := by
  apply tab_congr
  intro j _
  unfold lnI
  by_cases h2 : j < 20 + 0
  · rw [if_pos h2]; unfold lnM; rw [if_neg (by omega)]
  · rw [if_neg h2]
theorem lnI_end {lo : List Obj} {i : Nat} (hi : i = min lo.length 49) : (tab 100 fun j => lnV (lnI lo i j)) = tab 100 fun j => lnV (lnM lo j) := by
  apply tab_congr
  intro j _
  unfold lnI
  by_cases h2 : j < 20 + i
  · rw [if_pos h2]
  · rw [if_neg h2]; unfold lnM; rw [if_neg (by omega)]
theorem entI_end {M : Int} {lo : List Obj} {i : Nat} (hi : i = min lo.length 49) : (tab 49 fun j => (entI M lo i j).v) = tab 49 fun j => (entM M lo j).v := by
  apply tab_congr
  intro j hj
  unfold entI
  by_cases h2 : j < i
  · rw [if_pos h2]
  · rw [if_neg h2]; unfold entM; rw [if_neg (by omega)]
end Go.Proofs.Ytpbpgbedkmbfkaa
namespace Go.Proofs.Ytpbpgbedkmbfkaa
open Go.Ab

theorem made18_loop0 {s : St} {v : V} {lo : List Obj} (h : RS s 26 v (lo.map Obj.v)) :
    rc D s.loc.length (.loop [0, 4, 5, 6] b_steadfastlaw18_made_0) [(0, v), (4, .sl (.loc s.loc.length) [] 0 100 (some 100) 24), (5, .ptr (.loc (s.loc.length + 1)) [] 48), (6, .int .i64 0)] ⟨s.loc ++ [.rw (.agg 58 (tab 100 fun _ => lnV zl)), .rw (tabV fun _ => noEnt)], s.hp⟩ =
      some (.exit 0, [(0, v), (4, .sl (.loc s.loc.length) [] 0 100 (some 100) 24), (5, .ptr (.loc (s.loc.length + 1)) [] 48), (6, .int .i64 (min lo.length 49 : Nat)), (28, .bool false)], ⟨s.loc ++ [.rw (.agg 58 (tab 100 fun j => lnV (lnM lo j))), .rw (tabV (entM 16777216 lo))], s.hp⟩) := by
  have hr : ∀ X, RS ⟨s.loc ++ X, s.hp⟩ 26 v (lo.map Obj.v) := fun X => h.more ⟨List.prefix_append _ _, List.prefix_rfl⟩
  have hlt := h.locLt
  refine loop_runs (fun x : Nat => [(0, v), (4, .sl (.loc s.loc.length) [] 0 100 (some 100) 24), (5, .ptr (.loc (s.loc.length + 1)) [] 48), (6, .int .i64 x)])
    (fun x => ⟨s.loc ++ [.rw (.agg 58 (tab 100 fun j => lnV (lnI lo x j))), .rw (tabV (entI 16777216 lo x))], s.hp⟩) (fun _ => _) (fun x => 49 - x) (fun x => x ≤ 49 ∧ x ≤ lo.length) 0 ?_ ⟨Nat.zero_le _, Nat.zero_le _⟩ rfl (by simp only [lnI_zero]; rfl)
  rintro i ⟨hi, hi2⟩
  have hrr := fun a b => hr [.rw (.agg 58 a), .rw (.agg 48 b)]
  have hs := h.slen
  rw [List.length_map] at hs
  by_cases c1 : i < lo.length
  · by_cases c2 : i < 49
    · left
      have d1 : (i : Int) < lo.length := by omega
      have d2 : (i : Int) < 49 := by omega
      have d3 : (0 : Int) ≤ i := by omega
      have d4 : IntKind.i64.wrap ((i : Int) + 1) = (i : Int) + 1 := i64_id (by omega) (by omega)
      have d5 : IntKind.i64.wrap (20 + (i : Int)) = ((20 + i : Nat) : Int) := by rw [i64_id (by omega) (by omega)]; omega
      have e1 := locLt_mono (v := v) (show s.loc.length ≤ s.loc.length + 2 by omega) hlt
      have e2 : s.loc.length < s.loc.length + 2 := by omega
      have e3 : s.loc.length + 1 < s.loc.length + 2 := by omega
      have hg := get_map (f := Obj.v) c1 zeroObj
      have hT1 : ∀ b, ((tab 49 fun j => (entI 16777216 lo i j).v).set i b)[i]? = some b := fun b => List.getElem?_set_self (by rw [tab_len]; exact c2)
      have hT0 := tab_get (f := fun j => (entI 16777216 lo i j).v) c2
      have hA0 := tab_get (f := fun j => lnV (lnI lo i j)) (show 20 + i < 100 by omega)
      have q1 := neg_tmod (lo.getD i zeroObj).kind (m := 5) (by omega) (by omega)
      have q2 := neg_tmod (lo.getD i zeroObj).ver (m := 16777216) (by omega) (by omega)
      have sa := sad_all (a := .loc s.loc.length) (e := 24) (show 20 + i < 100 by omega)
      have hem : entM 16777216 lo i = ⟨absm (lo.getD i zeroObj).kind 5, absm (lo.getD i zeroObj).ver 16777216, if absm (lo.getD i zeroObj).kind 5 = 0 then 0 else 20 + i⟩ := if_pos c1
      refine ⟨i + 1, ⟨by omega, by omega⟩, by omega, rfl, ?_⟩
      by_cases hz : absm (lo.getD i zeroObj).kind 5 = 0
      · have hln : lnM lo (20 + i) = zl := by unfold lnM; rw [if_neg]; rw [Nat.add_sub_cancel_left]; exact fun h => h.2.2.2 hz
        rw [if_pos hz] at hem
        have hes := entI_step (congrArg Ent.v hem)
        simp only [tabV]
        rw [← lnI_same hln, ← hes, ← tab_set]
        simp only [Ent.v, lnV] at *
        generalize tab 100 (fun j => V.agg 24 ((lnI lo i j).map (V.int .u64))) = A at *
        generalize tab 49 (fun j => V.agg 42 [.int .i64 (entI 16777216 lo i j).kind, .int .i64 (entI 16777216 lo i j).ver, .int .i64 (entI 16777216 lo i j).line]) = T at *
        have hrr := hrr A T
        generalize lo.getD i zeroObj = o at *
        obtain ⟨k, w, ws⟩ := o
        simp only [Obj.v, absm] at *
        simp only [go_sem, b_steadfastlaw18_made_0, hs, d1, d2, d3, hrr.sadq hg, hrr.fadq hg, hrr.ldq hg, q1, q2]
        rw [Int.toNat_natCast]
        simp only [go_sem, hT0, hz, d4, e1, e2, e3]
        rfl
      · have hln : lnM lo (20 + i) = (lo.getD i zeroObj).l := by unfold lnM; rw [if_pos]; rw [Nat.add_sub_cancel_left]; rw [Nat.add_sub_cancel_left]; exact ⟨by omega, by omega, by omega, hz⟩
        have d6 : ((20 + i : Nat) : Int) = 20 + (i : Int) := by omega
        rw [if_neg hz, ← d6] at hem
        have hes := entI_step (congrArg Ent.v hem)
        have hls := lnI_step (lo := lo) (i := i)
        simp only [tabV]
        rw [← hls, ← hes, ← tab_set, ← tab_set, hln]
        simp only [Ent.v, lnV] at *
        generalize tab 100 (fun j => V.agg 24 ((lnI lo i j).map (V.int .u64))) = A at *
        generalize tab 49 (fun j => V.agg 42 [.int .i64 (entI 16777216 lo i j).kind, .int .i64 (entI 16777216 lo i j).ver, .int .i64 (entI 16777216 lo i j).line]) = T at *
        have hrr := hrr A
        generalize lo.getD i zeroObj = o at *
        obtain ⟨k, w, ws⟩ := o
        simp only [Obj.v, absm] at *
        have hr1 := hrr T
        have hr2 := hrr (T.set i (.agg 42 [.int .i64 (if k.tmod 5 < 0 then -k.tmod 5 else k.tmod 5), .int .i64 (if w.tmod 16777216 < 0 then -w.tmod 16777216 else w.tmod 16777216), .int .i64 ((20 + i : Nat) : Int)]))
        simp only [go_sem, b_steadfastlaw18_made_0, hs, d1, d2, d3, hr1.sadq hg, hr1.fadq hg, hr1.ldq hg, q1, q2]
        rw [Int.toNat_natCast]
        simp only [go_sem, hT0, hz, d2, d3, d5]
        rw [Int.toNat_natCast]
        simp only [go_sem, hT1, d5, List.set_set, hr2.sadq hg, hr2.fadq hg, hr2.ldq hg, sa, hA0, d4, e1, e2, e3]
        rfl
    · right
      have hm : i = min lo.length 49 := by omega
      have d1 : (i : Int) < lo.length := by omega
      have d2 : ¬ (i : Int) < 49 := by omega
      simp only [tabV]
      rw [lnI_end hm, entI_end hm, ← hm]
      simp only [go_sem, b_steadfastlaw18_made_0, hs, d1, d2]
  · right
    have hm : i = min lo.length 49 := by omega
    have d1 : ¬ (i : Int) < lo.length := by omega
    simp only [tabV]
    rw [lnI_end hm, entI_end hm, ← hm]
    simp only [go_sem, b_steadfastlaw18_made_0, hs, d1]
theorem made18_loop1 (s : St) (P4 P5 : V) (L : List Blk) (hL : L.length = 2) (h4 : P4.locLt (s.loc.length + 3) = true) (h5 : P5.locLt (s.loc.length + 3) = true) (hb : L.all (blkLt (s.loc.length + 3)) = true) :
    rc D s.loc.length (.loop [4, 5, 9, 10] b_steadfastlaw18_made_1) [(4, P4), (5, P5), (9, .ptr (.loc (s.loc.length + 2)) [] 50), (10, .int .i64 0)] ⟨s.loc ++ (L ++ [.rw (.agg 50 (tab 8 fun _ => .int .i64 0))]), s.hp⟩ =
      some (.exit 2, [(4, P4), (5, P5), (9, .ptr (.loc (s.loc.length + 2)) [] 50), (10, .int .i64 8), (74, .bool false)], ⟨s.loc ++ (L ++ [.rw (dirV dir10)]), s.hp⟩) := by
  match L, hL with
  | [b0, b1], _ =>
  simp only [List.all_cons, List.all_nil, Bool.and_true, Bool.and_eq_true] at hb
  obtain ⟨hb0, hb1⟩ := hb
  have hend : (tab 8 fun j => V.int .i64 (if j < 8 then dir10 j else 0)) = tab 8 fun j => V.int .i64 (dir10 j) := tab_congr fun j hj => by rw [if_pos hj]
  refine loop_runs (fun x : Nat => [(4, P4), (5, P5), (9, .ptr (.loc (s.loc.length + 2)) [] 50), (10, .int .i64 x)])
    (fun x => ⟨s.loc ++ [b0, b1, .rw (.agg 50 (tab 8 fun j => .int .i64 (if j < x then dir10 j else 0)))], s.hp⟩) (fun _ => _) (fun x => 8 - x) (fun x => x ≤ 8) 0 ?_ (Nat.zero_le _) rfl rfl
  intro i hi
  by_cases c1 : i < 8
  · left
    have d1 : (i : Int) < 8 := by omega
    have d2 : (0 : Int) ≤ i := by omega
    have d4 : IntKind.i64.wrap ((i : Int) + 1) = (i : Int) + 1 := i64_id (by omega) (by omega)
    have d5 : IntKind.i64.wrap (10 + (i : Int)) = 10 + (i : Int) := i64_id (by omega) (by omega)
    have hA0 := tab_get (f := fun j => V.int .i64 (if j < i then dir10 j else 0)) c1
    have hset : (tab 8 fun j => V.int .i64 (if j < i then dir10 j else 0)).set i (.int .i64 (10 + i)) = tab 8 fun j => V.int .i64 (if j < i + 1 then dir10 j else 0) := by
      rw [tab_set]
      apply tab_congr
      intro j _
      by_cases e : j = i
      · subst e; rw [upd_self]; simp [dir10, c1]
      · rw [upd_ne e]
        by_cases h2 : j < i
        · rw [if_pos h2, if_pos (by omega)]
        · rw [if_neg h2, if_neg (by omega)]
    have e2 : s.loc.length + 2 < s.loc.length + 3 := by omega
    refine ⟨i + 1, by omega, by omega, rfl, ?_⟩
    rw [← hset]
    generalize tab 8 (fun j => V.int .i64 (if j < i then dir10 j else 0)) = A at *
    simp only [go_sem, b_steadfastlaw18_made_1, d1, d2, d5]
    rw [Int.toNat_natCast]
    simp only [go_sem, hA0, d4, h4, h5, hb0, hb1, e2]
    rfl
  · right
    have : i = 8 := by omega
    subst this
    simp only [dirV]
    rw [hend]
    simp only [go_sem, b_steadfastlaw18_made_1]
theorem rf_made18 {s : St} {v : V} {lo : List Obj} (h : RS s 26 v (lo.map Obj.v)) :
    ∃ (w : List Nat) (S : List Int) (X : List Blk), OkS w ∧ (∀ j, j < 1024 → bit w j = true → 10 ≤ j ∧ j < 100) ∧ bit w 18 = true ∧ Alike 10 100 w S ∧
      rf D f_steadfastlaw18_made [v] s = some (.tup [.ptr (.hp (s.hp.length + 7)) [] 43, .ptr (.hp (s.hp.length + 10 + X.length)) [] 31], ⟨s.loc, s.hp ++ madeH s.hp.length (entM 16777216 lo) (lnM lo) w S X⟩) := by
  have l0 := made18_loop0 h
  have ht : ∀ i, i < 49 → (entM 16777216 lo i).kind ≠ 0 → (entM 16777216 lo i).line = 20 + i := fun i _ hk => entM_line hk
  generalize entM 16777216 lo = t at *
  generalize lnM lo = ls at *
  have l1 := made18_loop1 s (.sl (.loc s.loc.length) [] 0 100 (some 100) 24) (.ptr (.loc (s.loc.length + 1)) [] 48) [.rw (.agg 58 (tab 100 fun j => lnV (ls j))), .rw (tabV t)] rfl (by simp only [go_sem]; simp) (by simp only [go_sem]; simp) (by simp only [tabV]; simp only [go_sem])
  have hnv := rf_nvm_Of (n := 100) (a := s.loc.length) (ls := ls) (by omega) (by omega) ⟨s.loc ++ [.rw (.agg 58 (tab 100 fun j => lnV (ls j))), .rw (tabV t), .rw (dirV dir10)], s.hp⟩ (by simp)
  have hr3 := rf_ref03_Of (n := 100) (a := s.loc.length) (ls := ls) (by omega) (by omega) ⟨s.loc ++ [.rw (.agg 58 (tab 100 fun j => lnV (ls j))), .rw (tabV t), .rw (dirV dir10)], s.hp ++ [.rw (.agg 57 (tab 100 fun i => nlV (lnV (ls i)) (lnV (ls i)) .nils zfl)), .rw (memV s.hp.length 100 false false 0 0)]⟩ (by simp)
  simp only [List.length_append, List.length_cons, List.length_nil] at hnv hr3
  obtain ⟨w0, ok0, hb0, hob⟩ := rf_objects_Of (m := s.hp.length + 1) (k := s.hp.length) (n := 100) (off := false) (burns := false) (left := 0) (steps := 0) ⟨s.loc ++ [.rw (.agg 58 (tab 100 fun j => lnV (ls j))), .rw (tabV t), .rw (dirV dir10)], s.hp ++ [.rw (.agg 57 (tab 100 fun i => nlV (lnV (ls i)) (lnV (ls i)) .nils zfl)), .rw (memV s.hp.length 100 false false 0 0), .rw (.agg 58 []), .rw (.agg 58 (tab 100 fun i => lnV (ls i))), .rw (.agg 53 (tab 100 fun _ => .nils)), .rw (rmV (s.hp.length + 3) 100 (s.hp.length + 4) false (-1) 0)]⟩ (by simp) 10 (by omega) (by omega) (by omega) t dir10
  obtain ⟨w, htk, okw, hin, h18⟩ := take_all ht ok0 hb0
  rcases hob with ⟨hn, _⟩ | ⟨w', okw', htk', hob⟩
  · exact absurd (hn.symm.trans htk) (by simp)
  have hww : w' = w := by
    have := htk'.symm.trans htk
    simpa using this
  subst hww
  simp only [List.length_append, List.length_cons, List.length_nil] at hob
  have hr10 := rf_ref10_Of (m := s.hp.length + 5) (k := s.hp.length + 3) (k2 := s.hp.length + 4) (n := 100) (off := false) (left := -1) (count := 0) ⟨s.loc ++ [.rw (.agg 58 (tab 100 fun j => lnV (ls j))), .rw (tabV t), .rw (dirV dir10)], s.hp ++ [.rw (.agg 57 (tab 100 fun i => nlV (lnV (ls i)) (lnV (ls i)) .nils zfl)), .rw (memV s.hp.length 100 false false 0 0), .rw (.agg 58 []), .rw (.agg 58 (tab 100 fun i => lnV (ls i))), .rw (.agg 53 (tab 100 fun _ => .nils)), .rw (rmV (s.hp.length + 3) 100 (s.hp.length + 4) false (-1) 0), .rw (frV 10 100 w' (w16 [])), .rw (StF.v ⟨s.hp.length + 1, s.hp.length + 6, t, t, dir10, fun _ => noEnt, false⟩ (shOf t (fun _ => noEnt) false))]⟩ (by simp) 10 (by omega) (by omega) (by omega) t dir10 (allL_in ht) w0 ok0 hb0
  rcases hr10 with ⟨hn, _⟩ | ⟨w2, S, X, htk2, hal, hr10⟩
  · exact absurd (hn.symm.trans htk) (by simp)
  have hww : w2 = w' := by
    have := htk2.symm.trans htk
    simpa using this
  subst hww
  simp only [List.length_append, List.length_cons, List.length_nil] at hr10
  refine ⟨w2, S, X, okw, hin, h18, hal, ?_⟩
  have z1 : V.agg 48 (List.replicate 49 (.agg 42 [.int .i64 0, .int .i64 0, .int .i64 0])) = tabV fun _ => noEnt := by rw [tab_rep]; rfl
  have z2 : List.replicate 100 (V.agg 24 (List.replicate 8 (.int .u64 0))) = tab 100 fun _ => lnV zl := by rw [tab_rep]; rfl
  have z3 : List.replicate 8 (V.int .i64 0) = tab 8 fun _ => V.int .i64 0 := tab_rep _ _
  have hmost : (100 : Int) ≤ (most : Nat) := by unfold most; omega
  simp only [madeH]
  rw [rf_o D_steadfastlaw18_made rfl]
  simp only [tabV, dirV, rmV] at *
  simp only [List.append_assoc, List.cons_append, List.nil_append, Nat.zero_add, Nat.reduceAdd, Nat.add_assoc] at l1 hnv hr3 hob hr10
  simp only [go_sem, z1, z2, hmost, l0]
  simp only [go_sem, z3, l1]
  simp only [go_sem, hnv]
  simp only [go_sem, hr3]
  simp only [go_sem, hob]
  simp only [go_sem, hr10]
  rw [Nat.add_assoc s.hp.length 10 X.length]
end Go.Proofs.Ytpbpgbedkmbfkaa
