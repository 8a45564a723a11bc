/-
  ObjB: objects made of what was committed.
-/
import Derived.Test.YtpbpgbedkmbfkaaO1
set_option maxRecDepth 100000
namespace Go.Proofs.Ytpbpgbedkmbfkaa
open Go.Ab

/-- Lines taken one behind the other. -/
def takeL (f l : Int) : List Int → List Nat → Option (List Nat)
  | [], w => some w
  | x :: r, w => if stOf f l w (w16 []) x = 0 then takeL f l r (flip w x.toNat) else none
def linesF (t : Nat → Ent) : Nat → Nat → List Int
  | _, 0 => []
  | i, n + 1 => if (t i).kind = 0 then linesF t (i + 1) n else (t i).line :: linesF t (i + 1) n
def dirF (d : Nat → Int) : Nat → Nat → List Int
  | _, 0 => []
  | i, n + 1 => d i :: dirF d (i + 1) n
def allL (t : Nat → Ent) (d : Nat → Int) : List Int := linesF t 0 49 ++ dirF d 0 8
theorem takeL_in {f l : Int} (h0 : 0 ≤ f) (h1 : l ≤ 1024) : ∀ {ls : List Int} {w w' : List Nat}, takeL f l ls w = some w' → ∀ x ∈ ls, 0 ≤ x ∧ x < 1024
  | [], _, _, _, x, hx => by cases hx
  | y :: r, w, w', h, x, hx => by
    simp only [takeL] at h
    split at h
    · rename_i hz
      rcases List.mem_cons.1 hx with rfl | hx
      · have := line_of (show stOf f l w (w16 []) x ≠ -1 by rw [hz]; decide)
        omega
      · exact takeL_in h0 h1 h x hx
    · cases h
theorem linesF_mem (t : Nat → Ent) : ∀ (n i k : Nat), i ≤ k → k < i + n → (t k).kind ≠ 0 → (t k).line ∈ linesF t i n
  | 0, i, k, h1, h2, _ => by omega
  | n + 1, i, k, h1, h2, h3 => by
    simp only [linesF]
    by_cases e : i = k
    · subst e; rw [if_neg h3]; exact List.mem_cons_self
    · have := linesF_mem t n (i + 1) k (by omega) (by omega) h3
      split
      · exact this
      · exact List.mem_cons_of_mem _ this
theorem ok_takes {f l : Int} (h0 : 0 ≤ f) (h1 : l ≤ 1024) {w : List Nat} (hw : OkS w) {x : Int} (hx : stOf f l w (w16 []) x = 0) : OkS (flip w x.toNat) := by
  have := line_of (show stOf f l w (w16 []) x ≠ -1 by rw [hx]; decide)
  exact hw.flip (by omega)
theorem takeL_ok {f l : Int} (h0 : 0 ≤ f) (h1 : l ≤ 1024) : ∀ {ls : List Int} {w w' : List Nat}, OkS w → takeL f l ls w = some w' → OkS w'
  | [], _, _, hw, h => by cases h; exact hw
  | y :: r, w, w', hw, h => by
    simp only [takeL] at h
    split at h
    · rename_i hz
      exact takeL_ok h0 h1 (ok_takes h0 h1 hw hz) h
    · cases h
theorem inE_no {st : Int} (h : st ≠ 0) : ¬ inE st 0 = 0 := by
  unfold inE; split <;> simp_all
theorem objOf_loop0 (L0 H : List Blk) (t : Nat → Ent) (d : Nat → Int) (f : Int) (l : Nat) (X : V) (h0 : 0 ≤ f) (h1 : l ≤ 1024) (w0 : List Nat) (hw0 : OkS w0) (rest : List Int) :
    ∃ r, rc D L0.length (.loop [7, 10, 12, 34, 35] b_objects_Of_0) [(7, .ptr (.loc (L0.length + 1)) [] 50), (10, .ptr (.hp H.length) [] 80), (12, .ptr (.hp (H.length + 1)) [] 43), (34, tabV t), (35, .int .i64 0)]
        ⟨L0 ++ [.rw (tabV t), .rw (dirV d)], H ++ [.rw (frV f l w0 (w16 [])), .rw X]⟩ = some r ∧
      ((takeL f l (linesF t 0 49 ++ rest) w0 = none ∧ ∃ (L' : List Blk) (w : List Nat), r = (.ret, [(8, .nilp), (9, .int .i64 21)], ⟨L0 ++ L', H ++ [.rw (frV f l w (w16 [])), .rw X]⟩)) ∨
       (∃ w, OkS w ∧ takeL f l (linesF t 0 49 ++ rest) w0 = takeL f l rest w ∧ r = (.exit 0, [(7, .ptr (.loc (L0.length + 1)) [] 50), (10, .ptr (.hp H.length) [] 80), (12, .ptr (.hp (H.length + 1)) [] 43), (34, tabV t), (35, .int .i64 49), (36, .bool false)],
          ⟨L0 ++ [.rw (tabV t), .rw (dirV d)], H ++ [.rw (frV f l w (w16 [])), .rw X]⟩))) := by
  refine loop_ex (fun x : Nat × List Nat => [(7, .ptr (.loc (L0.length + 1)) [] 50), (10, .ptr (.hp H.length) [] 80), (12, .ptr (.hp (H.length + 1)) [] 43), (34, tabV t), (35, .int .i64 x.1)])
    (fun x => ⟨L0 ++ [.rw (tabV t), .rw (dirV d)], H ++ [.rw (frV f l x.2 (w16 [])), .rw X]⟩) _ (fun x => 49 - x.1)
    (fun x => x.1 ≤ 49 ∧ OkS x.2 ∧ takeL f l (linesF t 0 49 ++ rest) w0 = takeL f l (linesF t x.1 (49 - x.1) ++ rest) x.2) (0, w0) ?_ ⟨by simp only; omega, hw0, rfl⟩ rfl rfl
  rintro ⟨i, w⟩ ⟨hi, hok, htk⟩
  simp only at hi hok htk
  by_cases c1 : i < 49
  · have d1 : (i : Int) < 49 := by omega
    have d2 : (0 : Int) ≤ i := by omega
    have d5 : L0.length + 1 < L0.length + 2 := by omega
    have d4 : IntKind.i64.wrap ((i : Int) + 1) = (i : Int) + 1 := i64_id (by omega) (by omega)
    have g1 := tab_get (f := fun i => (t i).v) c1
    have hl : linesF t i (49 - i) = if (t i).kind = 0 then linesF t (i + 1) (49 - (i + 1)) else (t i).line :: linesF t (i + 1) (49 - (i + 1)) := by
      rw [show 49 - i = (49 - (i + 1)) + 1 by omega]; rfl
    rw [hl] at htk
    by_cases hk : (t i).kind = 0
    · left
      rw [if_pos hk] at htk
      refine ⟨(i + 1, w), ⟨by simp only; omega, hok, htk⟩, by simp only; omega, ?_⟩
      simp only [tabV, Ent.v, dirV] at *
      simp only [hk] at g1
      generalize tab 49 (fun i => V.agg 42 [.int .i64 (t i).kind, .int .i64 (t i).ver, .int .i64 (t i).line]) = T at *
      simp only [go_sem, b_objects_Of_0, d1, d2]
      rw [Int.toNat_natCast]
      simp only [go_sem, g1, d4, d5]
      rfl
    · rw [if_neg hk, List.cons_append] at htk
      simp only [takeL] at htk
      have hfr : ∀ L : List Blk, Fr ⟨L, H ++ [.rw (frV f l w (w16 [])), .rw X]⟩ H.length f l w (w16 []) := fun L => ⟨by simp, h0, by omega, hok, ok_nil⟩
      by_cases hst : stOf f l w (w16 []) (t i).line = 0
      · left
        rw [if_pos hst] at htk
        have r1 := fun L => rf_Take_ok (hfr L) (t i).line hst
        refine ⟨(i + 1, flip w (t i).line.toNat), ⟨by simp only; omega, ok_takes h0 (by omega) hok hst, htk⟩, by simp only; omega, ?_⟩
        simp only [tabV, Ent.v, dirV] at *
        generalize tab 49 (fun i => V.agg 42 [.int .i64 (t i).kind, .int .i64 (t i).ver, .int .i64 (t i).line]) = T at *
        simp only [app_set0, List.set_cons_zero] at r1
        simp only [go_sem, b_objects_Of_0, d1, d2]
        rw [Int.toNat_natCast]
        simp only [go_sem, g1, hk, r1, d4, d5]
        rfl
      · right
        rw [if_neg hst] at htk
        have r1 := fun L => rf_Take_no (hfr L) (t i).line hst
        have hne := inE_no hst
        refine ⟨_, ?_, .inl ⟨htk, [.rw (tabV t), .rw (dirV d), .rw (t i).v], w, rfl⟩⟩
        simp only [tabV, Ent.v, dirV] at *
        generalize tab 49 (fun i => V.agg 42 [.int .i64 (t i).kind, .int .i64 (t i).ver, .int .i64 (t i).line]) = T at *
        simp only [go_sem, b_objects_Of_0, d1, d2]
        rw [Int.toNat_natCast]
        simp only [go_sem, g1, hk, r1, hne]
  · right
    have : i = 49 := by omega
    subst this
    refine ⟨_, ?_, .inr ⟨w, hok, by rw [htk]; rfl, rfl⟩⟩
    simp only [tabV]
    simp only [go_sem, b_objects_Of_0]
theorem objOf_loop1 (L0 H : List Blk) (t : Nat → Ent) (d : Nat → Int) (f : Int) (l : Nat) (X : V) (h0 : 0 ≤ f) (h1 : l ≤ 1024) (w0 : List Nat) (hw0 : OkS w0) :
    ∃ r, rc D L0.length (.loop [10, 12, 49, 50] b_objects_Of_1) [(10, .ptr (.hp H.length) [] 80), (12, .ptr (.hp (H.length + 1)) [] 43), (49, dirV d), (50, .int .i64 0)]
        ⟨L0 ++ [.rw (tabV t), .rw (dirV d)], H ++ [.rw (frV f l w0 (w16 [])), .rw X]⟩ = some r ∧
      ((takeL f l (dirF d 0 8) w0 = none ∧ ∃ (L' : List Blk) (w : List Nat), r = (.ret, [(8, .nilp), (9, .int .i64 21)], ⟨L0 ++ L', H ++ [.rw (frV f l w (w16 [])), .rw X]⟩)) ∨
       (∃ w, takeL f l (dirF d 0 8) w0 = some w ∧ r = (.exit 2, [(10, .ptr (.hp H.length) [] 80), (12, .ptr (.hp (H.length + 1)) [] 43), (49, dirV d), (50, .int .i64 8), (51, .bool false)],
          ⟨L0 ++ [.rw (tabV t), .rw (dirV d)], H ++ [.rw (frV f l w (w16 [])), .rw X]⟩))) := by
  refine loop_ex (fun x : Nat × List Nat => [(10, .ptr (.hp H.length) [] 80), (12, .ptr (.hp (H.length + 1)) [] 43), (49, dirV d), (50, .int .i64 x.1)])
    (fun x => ⟨L0 ++ [.rw (tabV t), .rw (dirV d)], H ++ [.rw (frV f l x.2 (w16 [])), .rw X]⟩) _ (fun x => 8 - x.1)
    (fun x => x.1 ≤ 8 ∧ OkS x.2 ∧ takeL f l (dirF d 0 8) w0 = takeL f l (dirF d x.1 (8 - x.1)) x.2) (0, w0) ?_ ⟨by simp only; omega, hw0, rfl⟩ rfl rfl
  rintro ⟨i, w⟩ ⟨hi, hok, htk⟩
  simp only at hi hok htk
  by_cases c1 : i < 8
  · have d1 : (i : Int) < 8 := by omega
    have d2 : (0 : Int) ≤ i := by omega
    have d4 : IntKind.i64.wrap ((i : Int) + 1) = (i : Int) + 1 := i64_id (by omega) (by omega)
    have g1 := tab_get (f := fun i => V.int .i64 (d i)) c1
    have hl : dirF d i (8 - i) = d i :: dirF d (i + 1) (8 - (i + 1)) := by
      rw [show 8 - i = (8 - (i + 1)) + 1 by omega]; rfl
    rw [hl] at htk
    simp only [takeL] at htk
    have hfr : ∀ L : List Blk, Fr ⟨L, H ++ [.rw (frV f l w (w16 [])), .rw X]⟩ H.length f l w (w16 []) := fun L => ⟨by simp, h0, by omega, hok, ok_nil⟩
    by_cases hst : stOf f l w (w16 []) (d i) = 0
    · left
      rw [if_pos hst] at htk
      have r1 := fun L => rf_Take_ok (hfr L) (d i) hst
      refine ⟨(i + 1, flip w (d i).toNat), ⟨by simp only; omega, ok_takes h0 (by omega) hok hst, htk⟩, by simp only; omega, ?_⟩
      simp only [tabV, dirV] at *
      generalize tab 8 (fun i => V.int .i64 (d i)) = T at *
      simp only [app_set0, List.set_cons_zero] at r1
      simp only [go_sem, b_objects_Of_1, d1, d2]
      rw [Int.toNat_natCast]
      simp only [go_sem, g1, r1, d4]
      rfl
    · right
      rw [if_neg hst] at htk
      have r1 := fun L => rf_Take_no (hfr L) (d i) hst
      have hne := inE_no hst
      refine ⟨_, ?_, .inl ⟨htk, [.rw (tabV t), .rw (dirV d)], w, rfl⟩⟩
      simp only [tabV, dirV] at *
      generalize tab 8 (fun i => V.int .i64 (d i)) = T at *
      simp only [go_sem, b_objects_Of_1, d1, d2]
      rw [Int.toNat_natCast]
      simp only [go_sem, g1, r1, hne]
  · right
    have : i = 8 := by omega
    subst this
    refine ⟨_, ?_, .inr ⟨w, by rw [htk]; rfl, rfl⟩⟩
    simp only [dirV]
    simp only [go_sem, b_objects_Of_1]
theorem bits_ext {w w' : List Nat} (h : OkS w) (h' : OkS w') (hb : ∀ j, j < 1024 → bit w j = bit w' j) : w = w' := by
  apply List.ext_getElem?
  intro q
  by_cases hq : q < 16
  · have e : w.getD q 0 = w'.getD q 0 := by
      apply Nat.eq_of_testBit_eq
      intro k
      by_cases hk : k < 64
      · have := hb (64 * q + k) (by omega)
        unfold bit at this
        rw [show (64 * q + k) / 64 = q by omega, show (64 * q + k) % 64 = k by omega] at this
        exact this
      · have h2 : 2 ^ 64 ≤ 2 ^ k := Nat.pow_le_pow_right (by decide) (by omega)
        rw [Nat.testBit_lt_two_pow (Nat.lt_of_lt_of_le (h.get hq) h2), Nat.testBit_lt_two_pow (Nat.lt_of_lt_of_le (h'.get hq) h2)]
    have hl := h.len
    have hl' := h'.len
    rw [List.getD_eq_getElem?_getD, List.getD_eq_getElem?_getD, List.getElem?_eq_getElem (by omega), List.getElem?_eq_getElem (by omega)] at e
    rw [List.getElem?_eq_getElem (by omega), List.getElem?_eq_getElem (by omega)]
    exact congrArg some e
  · rw [List.getElem?_eq_none (by rw [h.len]; omega), List.getElem?_eq_none (by rw [h'.len]; omega)]
theorem inL_none : InL fun _ => noEnt := ⟨fun _ _ h => absurd rfl h⟩
/-- Objects made: of what is told by takeL. -/
theorem rf_objects_Of {m k n : Nat} {off burns : Bool} {left steps : Int} (s : St) (hm : s.hp[m]? = some (.rw (memV k n off burns left steps))) (f : Int) (h0 : 0 ≤ f) (h1 : f ≤ n) (h2 : n ≤ 1024) (t : Nat → Ent) (d : Nat → Int) :
    ∃ w0, OkS w0 ∧ (∀ j : Nat, j < 1024 → bit w0 j = (decide (f ≤ j) && decide ((j : Int) < n))) ∧
      ((takeL f n (allL t d) w0 = none ∧ ∃ more, rf D f_objects_Of [.ptr (.hp m) [] 59, .int .i64 f, tabV t, dirV d] s = some (.tup [.nilp, .int .i64 21], ⟨s.loc, s.hp ++ more⟩)) ∨
       (∃ w, OkS w ∧ takeL f n (allL t d) w0 = some w ∧ rf D f_objects_Of [.ptr (.hp m) [] 59, .int .i64 f, tabV t, dirV d] s = some (.tup [.ptr (.hp (s.hp.length + 1)) [] 43, .int .i64 0],
          ⟨s.loc, s.hp ++ [.rw (frV f n w (w16 [])), .rw ((⟨m, s.hp.length, t, t, d, fun _ => noEnt, false⟩ : StF).v (shOf t (fun _ => noEnt) false))]⟩))) := by
  have hln := fun L => rf_nvm_Lines ⟨s.loc ++ L, s.hp⟩ hm
  obtain ⟨w0, hok0, hbit0, _⟩ := rf_New_ok f n h0 h1 (by omega) s
  have hnew : ∀ L, rf D f_frames_New [.int .i64 f, .int .i64 n] ⟨s.loc ++ L, s.hp⟩ = some (.tup [.ptr (.hp s.hp.length) [] 80, .int .i64 0], ⟨s.loc ++ L, s.hp ++ [.rw (frV f n w0 (w16 []))]⟩) := by
    intro L
    obtain ⟨w1, hok1, hbit1, e⟩ := rf_New_ok f n h0 h1 (by omega) ⟨s.loc ++ L, s.hp⟩
    rw [bits_ext hok0 hok1 fun j hj => by rw [hbit0 j hj, hbit1 j hj]]
    exact e
  refine ⟨w0, hok0, hbit0, ?_⟩
  obtain ⟨r0, e0, q0⟩ := objOf_loop0 s.loc s.hp t d f n ((⟨m, s.hp.length, t, t, d, fun _ => noEnt, false⟩ : StF).v (fun _ => false)) h0 h2 w0 hok0 (dirF d 0 8)
  have z1 : V.agg 48 (List.replicate 49 (.agg 42 [.int .i64 0, .int .i64 0, .int .i64 0])) = tabV fun _ => noEnt := by rw [tab_rep]; rfl
  have z2 := sh_none
  simp only [allL]
  rcases q0 with ⟨hn, L', w, rfl⟩ | ⟨w, hok, hw, rfl⟩
  · left
    refine ⟨hn, [.rw (frV f n w (w16 [])), .rw ((⟨m, s.hp.length, t, t, d, fun _ => noEnt, false⟩ : StF).v (fun _ => false))], ?_⟩
    rw [rf_o D_objects_Of rfl]
    simp only [StF.v, tabV, dirV, shV] at *
    simp only [go_sem, hln, hnew, z1, z2, e0]
  · obtain ⟨r1, e1, q1⟩ := objOf_loop1 s.loc s.hp t d f n ((⟨m, s.hp.length, t, t, d, fun _ => noEnt, false⟩ : StF).v (fun _ => false)) h0 h2 w hok
    rw [hw]
    rcases q1 with ⟨hn, L', w', rfl⟩ | ⟨w', hw', rfl⟩
    · left
      refine ⟨hn, [.rw (frV f n w' (w16 [])), .rw ((⟨m, s.hp.length, t, t, d, fun _ => noEnt, false⟩ : StF).v (fun _ => false))], ?_⟩
      rw [rf_o D_objects_Of rfl]
      simp only [StF.v, tabV, dirV, shV] at *
      simp only [go_sem, hln, hnew, z1, z2, e0, e1]
    · right
      have hin : InL t := ⟨fun i hi hk => takeL_in h0 (by omega) (hw.trans hw') _ (List.mem_append_left _ (linesF_mem t 49 0 i (by omega) (by omega) hk))⟩
      have rs := fun L => rf_share (s := ⟨s.loc ++ L, s.hp ++ [.rw (frV f n w' (w16 [])), .rw ((⟨m, s.hp.length, t, t, d, fun _ => noEnt, false⟩ : StF).v (fun _ => false))]⟩) (a := s.hp.length + 1) (x := ⟨m, s.hp.length, t, t, d, fun _ => noEnt, false⟩) (sh := fun _ => false) (by simp) hin (fun h => absurd h (by simp))
      refine ⟨w', takeL_ok h0 (by omega) hok hw', hw', ?_⟩
      rw [rf_o D_objects_Of rfl]
      simp only [StF.v, tabV, dirV, shV] at *
      simp only [go_sem, hln, hnew, z1, z2, e0, e1, rs]
end Go.Proofs.Ytpbpgbedkmbfkaa
