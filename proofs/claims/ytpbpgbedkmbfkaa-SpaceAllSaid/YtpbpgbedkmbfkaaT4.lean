/-
  YtpbpgbedkmbfkaaT4: what functions of the program compute (SpcA, SpcB, SpcC).
-/
import Derived.Test.YtpbpgbedkmbfkaaT3
set_option maxRecDepth 100000
namespace Go.Proofs.Ytpbpgbedkmbfkaa
open Go.Ab

def heightOf (w : Int) : Int := if (capsOf w).kind = 1 then 0 else if (capsOf w).kind = 2 ∧ ((capsOf w).badge = 1 ∨ (capsOf w).badge = 2) then (capsOf w).badge else -1
theorem capsOf_no {w : Int} (h : (capOf w).may = false) : capsOf w = noCap := by unfold capsOf; rw [h]; rfl
theorem rf_Height (w : Int) (h0 : 0 ≤ w) (h1 : w ≤ 18446744073709551615) (s : St) : rf D f_space_Height [.int .u64 w] s = some (.int .i64 (heightOf w), s) := by
  have hc := fun s => rf_caps_Of w h0 h1 s
  have hno := capsOf_no (w := w)
  unfold heightOf
  generalize (capOf w).may = m at *
  generalize capsOf w = c at *
  rw [rf_o D_space_Height rfl]
  cases m
  · have := hno rfl
    subst this
    simp only [Cap.v, noCap] at *
    simp only [go_sem, hc]
  · simp only [Cap.v] at *
    by_cases g1 : c.kind = 1
    · simp only [go_sem, hc, g1]
    · by_cases g2 : c.kind = 2
      · by_cases g3 : c.badge = 1
        · simp only [go_sem, hc, g1, g2, g3]
        · by_cases g4 : c.badge = 2
          · simp only [go_sem, hc, g1, g2, g3, g4]
          · simp only [go_sem, hc, g1, g2, g3, g4]
      · simp only [go_sem, hc, g1, g2]
theorem rf_rHeight (w : Int) (h0 : 0 ≤ w) (h1 : w ≤ 18446744073709551615) (s : St) : rf D f_steadfastref15_Height [.int .u64 w] s = some (.int .i64 (heightOf w), s) := by
  have hc := fun s => rf_ref07_Of w h0 h1 s
  have hno := capsOf_no (w := w)
  unfold heightOf
  generalize (capOf w).may = m at *
  generalize capsOf w = c at *
  rw [rf_o D_steadfastref15_Height rfl]
  cases m
  · have := hno rfl
    subst this
    simp only [Cap.v, noCap] at *
    simp only [go_sem, hc]
  · simp only [Cap.v] at *
    by_cases g1 : c.kind = 1
    · simp only [go_sem, hc, g1]
    · by_cases g2 : c.kind = 2
      · by_cases g3 : c.badge = 1
        · simp only [go_sem, hc, g1, g2, g3]
        · by_cases g4 : c.badge = 2
          · simp only [go_sem, hc, g1, g2, g3, g4]
          · simp only [go_sem, hc, g1, g2, g3, g4]
      · simp only [go_sem, hc, g1, g2]
/-- What is found. -/
structure FR where
  e : Int
  id : Int
  r : Int
def slotOf (ls : Nat → List Int) (t : Nat → Ent) (id : Int) (n h : Nat) : Int := (gO t ls id).l.getD (n / 2 ^ (3 * h) % 8) 0
def findR (t : Nat → Ent) (ls : Nat → List Int) (n : Nat) : Nat → Int → Int → FR
  | 0, c, r => if heightOf c ≠ 0 then ⟨40, 0, 0⟩ else if nmE t c ≠ 0 then ⟨nmE t c, 0, 0⟩ else ⟨0, nmId t c, iand .i64 r (capsOf c).rights⟩
  | h + 1, c, r => if heightOf c ≠ h + 1 then ⟨40, 0, 0⟩ else if nmE t c ≠ 0 then ⟨nmE t c, 0, 0⟩ else if gE t (nmId t c) ≠ 0 then ⟨gE t (nmId t c), 0, 0⟩ else
      findR t ls n h (slotOf ls t (nmId t c) n (h + 1)) (iand .i64 r (capsOf c).rights)
def findF (t : Nat → Ent) (ls : Nat → List Int) (sp : Int) (n : Nat) : FR :=
  if heightOf sp < 0 ∨ 8 * 8 ^ (heightOf sp).toNat ≤ n then ⟨40, 0, 0⟩ else findR t ls n (heightOf sp).toNat sp 15
def plV (a b c : Int) : V := .agg 42 [.int .i64 a, .int .i64 b, .int .i64 c]
def FR.v (x : FR) (n : Nat) : V := if x.e = 0 then plV x.id (n % 8 : Nat) x.r else plV 0 0 0
theorem height_le (w : Int) : -1 ≤ heightOf w ∧ heightOf w ≤ 2 := by
  unfold heightOf
  split
  · omega
  · split
    · rename_i h; omega
    · omega
/-- The lines' words are words. -/
structure OkL (ls : Nat → List Int) : Prop where
  l8 : ∀ i, (ls i).length = 8
  word : ∀ i, ∀ x ∈ ls i, 0 ≤ x ∧ x ≤ 18446744073709551615
theorem gO_ok {t : Nat → Ent} {ls : Nat → List Int} (h : OkL ls) (id : Int) : (gO t ls id).l.length = 8 ∧ ∀ x ∈ (gO t ls id).l, 0 ≤ x ∧ x ≤ 18446744073709551615 := by
  unfold gO
  split
  · exact ⟨h.l8 _, h.word _⟩
  · refine ⟨rfl, fun x hx => ?_⟩
    have := List.eq_of_mem_replicate (show x ∈ List.replicate 8 0 from hx)
    omega
theorem slot_ok {t : Nat → Ent} {ls : Nat → List Int} (h : OkL ls) (id : Int) (n k : Nat) : 0 ≤ slotOf ls t id n k ∧ slotOf ls t id n k ≤ 18446744073709551615 := by
  have := gO_ok (t := t) h id
  exact this.2 _ (getD_mem (by rw [this.1]; omega) 0)
theorem find_loop {s : St} {a k m : Nat} {x : StF} {sh : Nat → Bool} {T : List V} {ls : Nat → List Int} (hP : Prg s.hp a x sh k m T ls) (hls : OkL ls) (n : Nat) (hn : n < 18446744073709551616) : ∀ (h : Nat), h ≤ 2 → ∀ (c r id0 : Int), 0 ≤ c → c ≤ 18446744073709551615 →
    ∃ res, rc D s.loc.length (.loop [0, 2, 6, 8, 9, 10] b_space_Find_0) [(0, .ptr (.hp a) [] 43), (2, .int .u64 n), (6, .ptr (.loc s.loc.length) [] 42), (8, .int .i64 h), (9, .ptr (.loc (s.loc.length + 1)) [] 42), (10, .int .u64 c)] ⟨s.loc ++ [.rw (plV 0 0 0), .rw (plV id0 (n % 8 : Nat) r)], s.hp⟩ = some res ∧
      (((findR x.work ls n h c r).e = 0 ∧ ∃ i X, res = (.exit 0, [(0, .ptr (.hp a) [] 43), (2, .int .u64 n), (6, .ptr (.loc s.loc.length) [] 42), (8, .int .i64 0), (9, .ptr (.loc (s.loc.length + 1)) [] 42), (11, i), (63, .bool true)], ⟨s.loc ++ (.rw (plV 0 0 0) :: .rw (plV (findR x.work ls n h c r).id (n % 8 : Nat) (findR x.work ls n h c r).r) :: X), s.hp⟩)) ∨
        ((findR x.work ls n h c r).e ≠ 0 ∧ ∃ X, res = (.ret, [(6, .ptr (.loc s.loc.length) [] 42), (7, .int .i64 (findR x.work ls n h c r).e)], ⟨s.loc ++ (.rw (plV 0 0 0) :: X), s.hp⟩))) := by
  intro h
  induction h with
  | zero =>
    intro _ c r id0 h0 h1
    have hh := fun s => rf_Height c h0 h1 s
    have hN := fun L => rf_Names (s := ⟨s.loc ++ L, s.hp⟩) hP.st c h0 h1
    have hc := fun s => rf_caps_Of c h0 h1 s
    simp only [findR]
    by_cases g1 : heightOf c = 0
    · rw [if_neg (by simpa using g1)]
      rw [g1] at hh
      by_cases g2 : nmE x.work c = 0
      · rw [if_neg (by simpa using g2)]
        rw [g2] at hN
        refine ⟨_, ?_, .inl ⟨rfl, .int .i64 (nmId x.work c), [.rw (capsOf c).v], rfl⟩⟩
        rw [rc_loop_o]
        simp only [plV, Cap.v] at *
        have e12 : ¬ (s.loc.length + 1 = s.loc.length) := by omega
        have e13 : ¬ (s.loc.length + 2 = s.loc.length + 1) := by omega
        have e14 : ¬ (s.loc.length + 2 = s.loc.length) := by omega
        simp only [go_sem, b_space_Find_0, hh, hN, hc, e12, e13, e14]
      · rw [if_pos g2]
        refine ⟨_, ?_, .inr ⟨g2, [.rw (plV id0 (n % 8 : Nat) r)], rfl⟩⟩
        rw [rc_loop_o]
        generalize nmE x.work c = e at *
        simp only [plV] at *
        simp only [go_sem, b_space_Find_0, hh, hN, g2]
    · rw [if_pos g1]
      refine ⟨_, ?_, .inr ⟨by decide, [.rw (plV id0 (n % 8 : Nat) r)], rfl⟩⟩
      rw [rc_loop_o]
      generalize heightOf c = e at *
      simp only [plV] at *
      simp only [go_sem, b_space_Find_0, hh, g1]
  | succ h ih =>
    intro hh2 c r id0 h0 h1
    have hh := fun s => rf_Height c h0 h1 s
    have hN := fun L => rf_Names (s := ⟨s.loc ++ L, s.hp⟩) hP.st c h0 h1
    have hc := fun s => rf_caps_Of c h0 h1 s
    have hG := fun L => rf_Get (s := ⟨s.loc ++ L, s.hp⟩) hP (nmId x.work c)
    have hgo := gO_ok (t := x.work) hls (nmId x.work c)
    have hq := get_map (f := V.int .u64) (l := (gO x.work ls (nmId x.work c)).l) (i := n / 2 ^ (3 * (h + 1)) % 8) (by rw [hgo.1]; omega) 0
    have hsl := slot_ok (t := x.work) hls (nmId x.work c) n (h + 1)
    have ih := ih (by omega) (slotOf ls x.work (nmId x.work c) n (h + 1)) (iand .i64 r (capsOf c).rights) (nmId x.work c) hsl.1 hsl.2
    have e0 : ((h + 1 : Nat) : Int) = (h : Int) + 1 := by omega
    have e1 : IntKind.i64.wrap (3 * ((h : Int) + 1)) = ((3 * (h + 1) : Nat) : Int) := by rw [i64_id (by omega) (by omega)]; omega
    have e2 : ishr .u64 (n : Int) ((3 * (h + 1) : Nat) : Int) = ((n / 2 ^ (3 * (h + 1)) : Nat) : Int) := by
      rw [ishr_two (n : Int) (3 * (h + 1)) (by omega), Int.natCast_ediv, Int.natCast_pow]; rfl
    have e3 : ((n / 2 ^ (3 * (h + 1)) : Nat) : Int).tmod 8 = ((n / 2 ^ (3 * (h + 1)) % 8 : Nat) : Int) := by
      rw [show (8 : Int) = ((8 : Nat) : Int) by rfl, ← Int.ofNat_tmod]
    have e4 : IntKind.i64.wrap ((h : Int) + 1 - 1) = h := by rw [i64_id (by omega) (by omega)]; omega
    have e5 : n / 2 ^ (3 * (h + 1)) % 8 < 8 := Nat.mod_lt _ (by decide)
    simp only [findR]
    simp only [slotOf] at *
    generalize n / 2 ^ (3 * (h + 1)) % 8 = q at *
    generalize n / 2 ^ (3 * (h + 1)) = q2 at *
    generalize 3 * (h + 1) = q3 at *
    have e6 : (0 : Int) ≤ q := by omega
    have e7 : (q : Int) < 8 := by omega
    have e8 : ¬ (q3 : Int) < 0 := by omega
    have e9 : ¬ ((h : Int) + 1) = 0 := by omega
    have e12 : ¬ (s.loc.length + 1 = s.loc.length) := by omega
    have e13 : ¬ (s.loc.length + 2 = s.loc.length + 1) := by omega
    have e14 : ¬ (s.loc.length + 2 = s.loc.length) := by omega
    have e10 : s.loc.length < s.loc.length + 2 := by omega
    have e11 : s.loc.length + 1 < s.loc.length + 2 := by omega
    by_cases g1 : heightOf c = h + 1
    · rw [if_neg (by simpa using g1)]
      rw [g1] at hh
      by_cases g2 : nmE x.work c = 0
      · rw [if_neg (by simpa using g2)]
        rw [g2] at hN
        by_cases g3 : gE x.work (nmId x.work c) = 0
        · rw [if_neg (by simpa using g3)]
          rw [g3] at hG
          obtain ⟨res, er, hres⟩ := ih
          refine ⟨res, ?_, hres⟩
          rw [← er, rc_loop_o]
          generalize nmId x.work c = id at *
          generalize gO x.work ls id = o at *
          simp only [plV, Cap.v, Obj.v] at *
          simp only [go_sem, b_space_Find_0, e0, hh, hN, hc, hG, e9, e1, e2, e3, e6, e7, e8, e12, e13, e14]
          rw [Int.toNat_natCast]
          simp only [go_sem, hq, e4, e10, e11]
        · rw [if_pos g3]
          refine ⟨_, ?_, .inr ⟨g3, [.rw (plV (nmId x.work c) (n % 8 : Nat) (iand .i64 r (capsOf c).rights)), .rw (capsOf c).v, .rw (gO x.work ls (nmId x.work c)).v], rfl⟩⟩
          rw [rc_loop_o]
          generalize nmId x.work c = id at *
          generalize gO x.work ls id = o at *
          generalize gE x.work id = e at *
          simp only [plV, Cap.v, Obj.v] at *
          simp only [go_sem, b_space_Find_0, e0, hh, hN, hc, hG, g3, e9, e12, e13, e14]
      · rw [if_pos g2]
        refine ⟨_, ?_, .inr ⟨g2, [.rw (plV id0 (n % 8 : Nat) r)], rfl⟩⟩
        rw [rc_loop_o]
        generalize nmE x.work c = e at *
        simp only [plV] at *
        simp only [go_sem, b_space_Find_0, e0, hh, hN, g2]
    · rw [if_pos g1]
      refine ⟨_, ?_, .inr ⟨by decide, [.rw (plV id0 (n % 8 : Nat) r)], rfl⟩⟩
      rw [rc_loop_o]
      generalize heightOf c = e at *
      simp only [plV] at *
      simp only [go_sem, b_space_Find_0, e0, hh, g1]
theorem find_head {n : Nat} {h : Nat} : n / 2 ^ (3 * (h + 1)) = 0 ↔ ¬ 8 * 8 ^ h ≤ n := by
  have e : 2 ^ (3 * (h + 1)) = 8 * 8 ^ h := by
    rw [Nat.pow_mul, show (2 : Nat) ^ 3 = 8 by decide, Nat.pow_succ, Nat.mul_comm]
  rw [e, Nat.div_eq_zero_iff]
  have : 0 < 8 ^ h := Nat.pow_pos (by decide)
  omega
theorem rf_Find {s : St} {a k m : Nat} {x : StF} {sh : Nat → Bool} {T : List V} {ls : Nat → List Int} (hP : Prg s.hp a x sh k m T ls) (hls : OkL ls) (n : Nat) (hn : n < 18446744073709551616) (c : Int) (h0 : 0 ≤ c) (h1 : c ≤ 18446744073709551615) :
    rf D f_space_Find [.ptr (.hp a) [] 43, .int .u64 c, .int .u64 n] s = some (.tup [(findF x.work ls c n).v n, .int .i64 (findF x.work ls c n).e], s) := by
  have hh := fun s => rf_Height c h0 h1 s
  have hle := height_le c
  unfold findF
  by_cases g1 : heightOf c < 0
  · rw [if_pos (.inl g1)]
    generalize heightOf c = hc at *
    simp only [FR.v, plV]
    rw [rf_o D_space_Find rfl]
    simp only [go_sem, hh, g1]
  · obtain ⟨h, eh⟩ : ∃ h : Nat, heightOf c = h := ⟨(heightOf c).toNat, by omega⟩
    rw [eh] at hh hle g1 ⊢
    have hh2 : h ≤ 2 := by omega
    have e0 : IntKind.i64.wrap ((h : Int) + 1) = (h : Int) + 1 := i64_id (by omega) (by omega)
    have e1 : IntKind.i64.wrap (3 * ((h : Int) + 1)) = ((3 * (h + 1) : Nat) : Int) := by rw [i64_id (by omega) (by omega)]; omega
    have e2 : ishr .u64 (n : Int) ((3 * (h + 1) : Nat) : Int) = ((n / 2 ^ (3 * (h + 1)) : Nat) : Int) := by
      rw [ishr_two (n : Int) (3 * (h + 1)) (by omega), Int.natCast_ediv, Int.natCast_pow]; rfl
    have e3 : (n : Int).tmod 8 = ((n % 8 : Nat) : Int) := by
      rw [show (8 : Int) = ((8 : Nat) : Int) by rfl, ← Int.ofNat_tmod]
    have e4 : IntKind.i64.wrap ((n % 8 : Nat) : Int) = ((n % 8 : Nat) : Int) := i64_id (by omega) (by omega)
    have e8 : ¬ ((3 * (h + 1) : Nat) : Int) < 0 := by omega
    have hd := find_head (n := n) (h := h)
    rw [Int.toNat_natCast]
    by_cases g2 : 8 * 8 ^ h ≤ n
    · rw [if_pos (.inr g2)]
      have g3 : ¬ ((n / 2 ^ (3 * (h + 1)) : Nat) : Int) = 0 := by
        intro e
        exact (hd.1 (by omega)) g2
      generalize n / 2 ^ (3 * (h + 1)) = q2 at *
      generalize 3 * (h + 1) = q3 at *
      simp only [FR.v, plV]
      rw [rf_o D_space_Find rfl]
      simp only [go_sem, hh, g1, e0, e1, e2, e8, g3]
    · have g3 : n / 2 ^ (3 * (h + 1)) = 0 := hd.2 g2
      rw [g3] at e2
      rw [if_neg (by omega)]
      obtain ⟨res, er, hres⟩ := find_loop hP hls n hn h hh2 c 15 0 h0 h1
      generalize findR x.work ls n h c 15 = fr at *
      generalize 3 * (h + 1) = q3 at *
      simp only [plV, FR.v] at *
      generalize n % 8 = q4 at *
      rw [rf_o D_space_Find rfl]
      rcases hres with ⟨he, i, X, rfl⟩ | ⟨he, X, rfl⟩
      · simp only [he, if_true]
        simp only [go_sem, hh, g1, e0, e1, e2, e3, e4, e8, er]
      · simp only [he, if_false]
        simp only [go_sem, hh, g1, e0, e1, e2, e3, e4, e8, er]
end Go.Proofs.Ytpbpgbedkmbfkaa
namespace Go.Proofs.Ytpbpgbedkmbfkaa
open Go.Ab

theorem rfind_loop {s : St} {a k k2 m : Nat} {x : RstF} {T T2 : List V} {ls : Nat → List Int} (hP : Doc s.hp a x k k2 m T T2 ls) (hls : OkL ls) (n : Nat) (hn : n < 18446744073709551616) : ∀ (h : Nat), h ≤ 2 → ∀ (c r : Int), 0 ≤ c → c ≤ 18446744073709551615 →
    ∃ X, rc D s.loc.length (.loop [0, 2, 6, 8, 9, 10, 11] b_steadfastref15_Find_0) [(0, .ptr (.hp a) [] 31), (2, .int .u64 n), (6, .ptr (.loc s.loc.length) [] 42), (8, .ptr (.loc (s.loc.length + 1)) [] 42), (9, .int .i64 h), (10, .int .u64 c), (11, .int .i64 r)] ⟨s.loc ++ [.rw (plV 0 0 0), .rw (plV 0 0 0)], s.hp⟩ =
      some (.ret, [(6, .ptr (.loc s.loc.length) [] 42), (7, .int .i64 (findR x.work ls n h c r).e)], ⟨s.loc ++ (.rw ((findR x.work ls n h c r).v n) :: X), s.hp⟩) := by
  intro h
  induction h with
  | zero =>
    intro _ c r h0 h1
    have hh := fun s => rf_rHeight c h0 h1 s
    have hN := fun L => rf_rNames (s := ⟨s.loc ++ L, s.hp⟩) hP.st c h0 h1
    have hc := fun s => rf_ref07_Of c h0 h1 s
    have e3 : (n : Int).tmod 8 = ((n % 8 : Nat) : Int) := by
      rw [show (8 : Int) = ((8 : Nat) : Int) by rfl, ← Int.ofNat_tmod]
    have e4 : IntKind.i64.wrap ((n % 8 : Nat) : Int) = ((n % 8 : Nat) : Int) := i64_id (by omega) (by omega)
    simp only [findR]
    by_cases g1 : heightOf c = 0
    · rw [if_neg (by simpa using g1)]
      rw [g1] at hh
      by_cases g2 : nmE x.work c = 0
      · rw [if_neg (by simpa using g2)]
        rw [g2] at hN
        simp only [FR.v, if_true]
        refine ⟨[.rw (plV 0 0 0), .rw (capsOf c).v], ?_⟩
        rw [rc_loop_o]
        simp only [plV, Cap.v] at *
        simp only [go_sem, b_steadfastref15_Find_0, hh, hN, hc, e3, e4]
      · rw [if_pos g2]
        simp only [FR.v, g2, if_false]
        refine ⟨[.rw (plV 0 0 0)], ?_⟩
        rw [rc_loop_o]
        generalize nmE x.work c = e at *
        simp only [plV] at *
        simp only [go_sem, b_steadfastref15_Find_0, hh, hN, g2]
    · rw [if_pos g1]
      simp only [FR.v, show ¬ ((40 : Int) = 0) by decide, if_false]
      refine ⟨[.rw (plV 0 0 0)], ?_⟩
      rw [rc_loop_o]
      generalize heightOf c = e at *
      simp only [plV] at *
      simp only [go_sem, b_steadfastref15_Find_0, hh, g1]
  | succ h ih =>
    intro hh2 c r h0 h1
    have hh := fun s => rf_rHeight c h0 h1 s
    have hN := fun L => rf_rNames (s := ⟨s.loc ++ L, s.hp⟩) hP.st c h0 h1
    have hc := fun s => rf_ref07_Of c h0 h1 s
    have hG := fun L => rf_rGet (s := ⟨s.loc ++ L, s.hp⟩) hP (nmId x.work c)
    have hgo := gO_ok (t := x.work) hls (nmId x.work c)
    have hq := get_map (f := V.int .u64) (l := (gO x.work ls (nmId x.work c)).l) (i := n / 2 ^ (3 * (h + 1)) % 8) (by rw [hgo.1]; omega) 0
    have hsl := slot_ok (t := x.work) hls (nmId x.work c) n (h + 1)
    have ih := ih (by omega) (slotOf ls x.work (nmId x.work c) n (h + 1)) (iand .i64 r (capsOf c).rights) hsl.1 hsl.2
    have e0 : ((h + 1 : Nat) : Int) = (h : Int) + 1 := by omega
    have e1 : IntKind.i64.wrap (3 * ((h : Int) + 1)) = ((3 * (h + 1) : Nat) : Int) := by rw [i64_id (by omega) (by omega)]; omega
    have e2 : ishr .u64 (n : Int) ((3 * (h + 1) : Nat) : Int) = ((n / 2 ^ (3 * (h + 1)) : Nat) : Int) := by
      rw [ishr_two (n : Int) (3 * (h + 1)) (by omega), Int.natCast_ediv, Int.natCast_pow]; rfl
    have e3 : ((n / 2 ^ (3 * (h + 1)) : Nat) : Int).tmod 8 = ((n / 2 ^ (3 * (h + 1)) % 8 : Nat) : Int) := by
      rw [show (8 : Int) = ((8 : Nat) : Int) by rfl, ← Int.ofNat_tmod]
    have e4 : IntKind.i64.wrap ((h : Int) + 1 - 1) = h := by rw [i64_id (by omega) (by omega)]; omega
    have e5 : n / 2 ^ (3 * (h + 1)) % 8 < 8 := Nat.mod_lt _ (by decide)
    simp only [findR]
    simp only [slotOf] at *
    generalize n / 2 ^ (3 * (h + 1)) % 8 = q at *
    generalize n / 2 ^ (3 * (h + 1)) = q2 at *
    generalize 3 * (h + 1) = q3 at *
    have e6 : (0 : Int) ≤ q := by omega
    have e7 : (q : Int) < 8 := by omega
    have e8 : ¬ (q3 : Int) < 0 := by omega
    have e9 : ¬ ((h : Int) + 1) = 0 := by omega
    have e10 : s.loc.length < s.loc.length + 2 := by omega
    have e11 : s.loc.length + 1 < s.loc.length + 2 := by omega
    by_cases g1 : heightOf c = h + 1
    · rw [if_neg (by simpa using g1)]
      rw [g1] at hh
      by_cases g2 : nmE x.work c = 0
      · rw [if_neg (by simpa using g2)]
        rw [g2] at hN
        by_cases g3 : gE x.work (nmId x.work c) = 0
        · rw [if_neg (by simpa using g3)]
          rw [g3] at hG
          obtain ⟨X, er⟩ := ih
          refine ⟨X, ?_⟩
          rw [← er, rc_loop_o]
          generalize nmId x.work c = id at *
          generalize gO x.work ls id = o at *
          simp only [plV, Cap.v, Obj.v] at *
          simp only [go_sem, b_steadfastref15_Find_0, e0, hh, hN, hc, hG, e9, e1, e2, e3, e6, e7, e8]
          rw [Int.toNat_natCast]
          simp only [go_sem, hq, e4, e10, e11]
        · rw [if_pos g3]
          simp only [FR.v, g3, if_false]
          refine ⟨[.rw (plV 0 0 0), .rw (capsOf c).v, .rw (gO x.work ls (nmId x.work c)).v], ?_⟩
          rw [rc_loop_o]
          generalize nmId x.work c = id at *
          generalize gO x.work ls id = o at *
          generalize gE x.work id = e at *
          simp only [plV, Cap.v, Obj.v] at *
          simp only [go_sem, b_steadfastref15_Find_0, e0, hh, hN, hc, hG, g3, e9]
      · rw [if_pos g2]
        simp only [FR.v, g2, if_false]
        refine ⟨[.rw (plV 0 0 0)], ?_⟩
        rw [rc_loop_o]
        generalize nmE x.work c = e at *
        simp only [plV] at *
        simp only [go_sem, b_steadfastref15_Find_0, e0, hh, hN, g2]
    · rw [if_pos g1]
      simp only [FR.v, show ¬ ((40 : Int) = 0) by decide, if_false]
      refine ⟨[.rw (plV 0 0 0)], ?_⟩
      rw [rc_loop_o]
      generalize heightOf c = e at *
      simp only [plV] at *
      simp only [go_sem, b_steadfastref15_Find_0, e0, hh, g1]
theorem rf_rFind {s : St} {a k k2 m : Nat} {x : RstF} {T T2 : List V} {ls : Nat → List Int} (hP : Doc s.hp a x k k2 m T T2 ls) (hls : OkL ls) (n : Nat) (hn : n < 18446744073709551616) (c : Int) (h0 : 0 ≤ c) (h1 : c ≤ 18446744073709551615) :
    rf D f_steadfastref15_Find [.ptr (.hp a) [] 31, .int .u64 c, .int .u64 n] s = some (.tup [(findF x.work ls c n).v n, .int .i64 (findF x.work ls c n).e], s) := by
  have hh := fun s => rf_rHeight c h0 h1 s
  have hle := height_le c
  unfold findF
  by_cases g1 : heightOf c < 0
  · rw [if_pos (.inl g1)]
    generalize heightOf c = hc at *
    simp only [FR.v, plV]
    rw [rf_o D_steadfastref15_Find rfl]
    simp only [go_sem, hh, g1]
  · obtain ⟨h, eh⟩ : ∃ h : Nat, heightOf c = h := ⟨(heightOf c).toNat, by omega⟩
    rw [eh] at hh hle g1 ⊢
    have hh2 : h ≤ 2 := by omega
    have e1 : IntKind.i64.wrap (3 * (h : Int)) = ((3 * h : Nat) : Int) := by rw [i64_id (by omega) (by omega)]; omega
    have e2 : ishl .u64 8 ((3 * h : Nat) : Int) = ((8 * 8 ^ h : Nat) : Int) := by
      rw [ishl_two 8 (3 * h) (by omega)]
      have : h = 0 ∨ h = 1 ∨ h = 2 := by omega
      rcases this with rfl | rfl | rfl <;> rfl
    have e8 : ¬ ((3 * h : Nat) : Int) < 0 := by omega
    rw [Int.toNat_natCast]
    obtain ⟨X, er⟩ := rfind_loop hP hls n hn h hh2 c 15 h0 h1
    by_cases g2 : 8 * 8 ^ h ≤ n
    · rw [if_pos (.inr g2)]
      have g3 : ((8 * 8 ^ h : Nat) : Int) ≤ n := by omega
      generalize 8 * 8 ^ h = q2 at *
      generalize 3 * h = q3 at *
      simp only [FR.v, plV]
      rw [rf_o D_steadfastref15_Find rfl]
      simp only [go_sem, hh, g1, e1, e2, e8, g3]
    · have g3 : ¬ ((8 * 8 ^ h : Nat) : Int) ≤ n := by omega
      rw [if_neg (by omega)]
      generalize 8 * 8 ^ h = q2 at *
      generalize 3 * h = q3 at *
      generalize findR x.work ls n h c 15 = fr at *
      simp only [FR.v, plV] at *
      by_cases he : fr.e = 0
      · simp only [he, if_true] at *
        rw [rf_o D_steadfastref15_Find rfl]
        simp only [go_sem, hh, g1, e1, e2, e8, g3, er]
      · simp only [he, if_false] at *
        rw [rf_o D_steadfastref15_Find rfl]
        simp only [go_sem, hh, g1, e1, e2, e8, g3, er]
end Go.Proofs.Ytpbpgbedkmbfkaa
namespace Go.Proofs.Ytpbpgbedkmbfkaa
open Go.Ab

theorem rf_word15 (k i b : Int) (s : St) : rf D f_steadfastlaw15_word [.int .i64 k, .int .i64 i, .int .i64 b] s = some (.int .u64 (capWord ⟨k, 3, i, 0, b⟩), s) := by
  have hw := fun s => rf_ref07_Word ⟨k, 3, i, 0, b⟩ s
  generalize capWord ⟨k, 3, i, 0, b⟩ = w at *
  simp only [Cap.v] at hw
  rw [rf_o D_steadfastlaw15_word rfl]
  simp only [go_sem, hw]
def exO : List Obj := [⟨1, 0, zl⟩, ⟨2, 0, [0, 0, 0, 49, 0, 0, 0, 0]⟩]
theorem okL_of {lo : List Obj} (h : ∀ o ∈ lo, OkO o) : OkL (lnM lo) := by
  constructor
  · intro i
    unfold lnM
    split
    · rename_i hh
      exact (h _ (getD_mem (by omega) zeroObj)).l8
    · rfl
  · intro i x hx
    unfold lnM at hx
    split at hx
    · rename_i hh
      exact (h _ (getD_mem (by omega) zeroObj)).words x hx
    · have := List.eq_of_mem_replicate (show x ∈ List.replicate 8 0 from hx)
      omega
theorem exO_ok : ∀ o ∈ exO, OkO o := by
  intro o ho
  simp only [exO, List.mem_cons, List.not_mem_nil, or_false] at ho
  rcases ho with rfl | rfl
  · exact ⟨rfl, fun x hx => by have := List.eq_of_mem_replicate (show x ∈ List.replicate 8 0 from hx); omega⟩
  · refine ⟨rfl, fun x hx => ?_⟩
    simp only [List.mem_cons, List.not_mem_nil, or_false] at hx
    omega
theorem ex_f1 : findF (entM 100 exO) (lnM exO) 49 5 = ⟨0, 0, 3⟩ := by kernel_rfl
theorem ex_f2 : findF (entM 100 exO) (lnM exO) 49 8 = ⟨40, 0, 0⟩ := by kernel_rfl
theorem ex_f3 : findF (entM 100 exO) (lnM exO) 281474976710962 29 = ⟨0, 0, 3⟩ := by kernel_rfl
theorem ex_f4 : findF (entM 100 exO) (lnM exO) 281474976710962 0 = ⟨40, 0, 0⟩ := by kernel_rfl
theorem ex_f5 : findF (entM 100 exO) (lnM exO) 306 0 = ⟨40, 0, 0⟩ := by kernel_rfl
theorem ex_w1 : capWord ⟨1, 3, 0, 0, 0⟩ = 49 := by kernel_rfl
theorem ex_w2 : capWord ⟨2, 3, 1, 0, 1⟩ = 281474976710962 := by kernel_rfl
theorem ex_w3 : capWord ⟨2, 3, 1, 0, 0⟩ = 306 := by kernel_rfl
theorem rf_shown15 (s : St) : ∃ more, rf D f_steadfastlaw15_shown [] s = some (.bool true, ⟨s.loc, s.hp ++ more⟩) := by
  have w1 := fun s => rf_word15 1 0 0 s
  have w2 := fun s => rf_word15 2 1 1 s
  have w3 := fun s => rf_word15 2 1 0 s
  rw [ex_w1] at w1
  rw [ex_w2] at w2
  rw [ex_w3] at w3
  have hrs : RS ⟨s.loc ++ [.rw (.agg 28 (exO.map Obj.v))], s.hp⟩ 26 (.sl (.loc s.loc.length) [] 0 2 (some 2) 26) (exO.map Obj.v) :=
    RS.at_loc (L := s.loc ++ [.rw (.agg 28 (exO.map Obj.v))]) (i := s.loc.length) (r := 28) (n := 2) (cp := some 2) (by simp) rfl (fun c hc => by cases hc; exact Nat.le_refl _)
  obtain ⟨w, S, X, _, _, _, _, hm⟩ := rf_made15 hrs
  simp only at hm
  have hP := prgM (H := s.hp) (t := entM 100 exO) (ls := lnM exO) (w := w) (S := S) (X := X) (fun i _ hk => entM_line hk)
  have hL := okL_of exO_ok
  have f1 := fun L => rf_Find (s := ⟨s.loc ++ L, s.hp ++ madeH s.hp.length (entM 100 exO) (lnM exO) w S X⟩) hP hL 5 (by omega) 49 (by omega) (by omega)
  have f2 := fun L => rf_Find (s := ⟨s.loc ++ L, s.hp ++ madeH s.hp.length (entM 100 exO) (lnM exO) w S X⟩) hP hL 8 (by omega) 49 (by omega) (by omega)
  have f3 := fun L => rf_Find (s := ⟨s.loc ++ L, s.hp ++ madeH s.hp.length (entM 100 exO) (lnM exO) w S X⟩) hP hL 29 (by omega) 281474976710962 (by omega) (by omega)
  have f4 := fun L => rf_Find (s := ⟨s.loc ++ L, s.hp ++ madeH s.hp.length (entM 100 exO) (lnM exO) w S X⟩) hP hL 0 (by omega) 281474976710962 (by omega) (by omega)
  have f5 := fun L => rf_Find (s := ⟨s.loc ++ L, s.hp ++ madeH s.hp.length (entM 100 exO) (lnM exO) w S X⟩) hP hL 0 (by omega) 306 (by omega) (by omega)
  simp only [ex_f1, ex_f2, ex_f3, ex_f4, ex_f5] at f1 f2 f3 f4 f5
  refine ⟨madeH s.hp.length (entM 100 exO) (lnM exO) w S X, ?_⟩
  generalize madeH s.hp.length (entM 100 exO) (lnM exO) w S X = mh at *
  simp only [FR.v, plV, show ¬ ((40 : Int) = 0) by decide, if_true, if_false, Nat.reduceMod, Int.cast_ofNat_Int, Int.natCast_zero] at f1 f2 f3 f4 f5
  simp only [exO, List.map_cons, List.map_nil, Obj.v, zl, List.replicate, List.map_cons, List.map_nil] at hm
  rw [rf_o D_steadfastlaw15_shown rfl]
  simp only [go_sem, w1, List.replicate]
  simp only [go_sem, hm]
  simp only [go_sem, f1, f2, f3, f4, f5, w2, w3]
theorem open_objs {hp : List Blk} {v : V} (h : (Sh.sl 28 (.st 26 [.int .i64, .int .i64, .arr 24 8 (.int .u64)])).Fits hp v) :
    ∃ lo : List Obj, (∀ L more, RS ⟨L, hp ++ more⟩ 26 v (lo.map Obj.v)) ∧ (∀ o ∈ lo, OkO o) := by
  obtain ⟨l, hrs, hlt, hlen, hfit⟩ := rs_of_fits h
  obtain ⟨lo, rfl, hlo⟩ := map_of (f := Obj.v) (fun x hx => obj_of (hfit x hx))
  exact ⟨lo, fun L more => hrs.more ⟨by simp, List.prefix_append _ _⟩, fun o ho => (hlo o ho).1⟩
theorem law_SpaceHeights : ∀ hp vs, Sh.FitsL hp [(.int .u64)] vs → ∃ s', rf D f_steadfastlaw15_SpaceHeights vs ⟨[], hp⟩ = some (.bool true, s') := by
  intro hp vs hf
  obtain ⟨v, rfl, ⟨c, rfl, hc0, hc1⟩⟩ := fits1 hf
  have hc0' : (0 : Int) ≤ c := hc0
  have hc1' : c ≤ 18446744073709551615 := hc1
  obtain ⟨more, hsh⟩ := rf_shown15 ⟨[], hp⟩
  have h1 := fun s => rf_Height c hc0' hc1' s
  have h2 := fun s => rf_rHeight c hc0' hc1' s
  refine ⟨⟨[], hp ++ more⟩, ?_⟩
  generalize heightOf c = e at *
  simp only at hsh
  rw [rf_o D_steadfastlaw15_SpaceHeights rfl]
  simp only [go_sem, hsh, h1, h2]
theorem law_SpaceFinds : ∀ hp vs, Sh.FitsL hp [(.sl 28 (.st 26 [(.int .i64), (.int .i64), (.arr 24 8 (.int .u64))])), (.int .u64), (.int .u64)] vs → ∃ s', rf D f_steadfastlaw15_SpaceFinds vs ⟨[], hp⟩ = some (.bool true, s') := by
  intro hp vs hf
  obtain ⟨v, y, z, rfl, h1, ⟨c, rfl, hc0, hc1⟩, ⟨n, rfl, hn0, hn1⟩⟩ := fits3 hf
  have hc0' : (0 : Int) ≤ c := hc0
  have hc1' : c ≤ 18446744073709551615 := hc1
  have hn0' : (0 : Int) ≤ n := hn0
  have hn1' : n ≤ 18446744073709551615 := hn1
  obtain ⟨n, rfl⟩ : ∃ k : Nat, n = k := ⟨n.toNat, by omega⟩
  obtain ⟨lo, hrs, hlo⟩ := open_objs h1
  obtain ⟨more, hsh⟩ := rf_shown15 ⟨[], hp⟩
  obtain ⟨w, S, X, _, _, _, _, hm⟩ := rf_made15 (hrs [] more)
  have ht : ∀ i, i < 49 → (entM 100 lo i).kind ≠ 0 → (entM 100 lo i).line = 20 + i := fun i _ hk => entM_line hk
  have hP := prgM (H := hp ++ more) (ls := lnM lo) (w := w) (S := S) (X := X) ht
  have hD := docM (H := hp ++ more) (ls := lnM lo) (w := w) (S := S) (X := X) ht
  have hL := okL_of hlo
  have f1 := fun L => rf_Find (s := ⟨L, (hp ++ more) ++ madeH (hp ++ more).length (entM 100 lo) (lnM lo) w S X⟩) hP hL n (by omega) c hc0' hc1'
  have f2 := fun L => rf_rFind (s := ⟨L, (hp ++ more) ++ madeH (hp ++ more).length (entM 100 lo) (lnM lo) w S X⟩) hD hL n (by omega) c hc0' hc1'
  simp only at hsh hm f1 f2
  generalize hp ++ more = H at *
  generalize madeH H.length (entM 100 lo) (lnM lo) w S X = mh at *
  generalize findF (entM 100 lo) (lnM lo) c n = fr at *
  refine ⟨⟨[], H ++ mh⟩, ?_⟩
  simp only [FR.v, plV] at *
  rw [rf_o D_steadfastlaw15_SpaceFinds rfl]
  by_cases he : fr.e = 0
  · simp only [he, if_true] at f1 f2
    simp only [go_sem, hsh, hm, f1, f2]
  · simp only [he, if_false] at f1 f2
    simp only [go_sem, hsh, hm, f1, f2]
end Go.Proofs.Ytpbpgbedkmbfkaa
