/-
  SpcB: where an address leads, as the document says.
-/
import Derived.Test.YtpbpgbedkmbfkaaS1
set_option maxRecDepth 100000
namespace Go.Proofs.Ytpbpgbedkmbfkaa
open Go.Ab

theorem rfind_loop {s : St} {a k k2 m : Nat} {x : RstF} {T T2 : List V} {ls : Nat → List Int} (hP : Doc s.hp a x k k2 m T T2 ls) (hls : OkL ls) (n : Nat) (hn : n < 18446744073709551616) : ∀ (h : Nat), h ≤ 2 → ∀ (c r : Int), 0 ≤ c → c ≤ 18446744073709551615 →
    ∃ X, rc D s.loc.length (.loop [0, 2, 6, 8, 9, 10, 11] b_steadfastref15_Find_0) [(0, .ptr (.hp a) [] 31), (2, .int .u64 n), (6, .ptr (.loc s.loc.length) [] 42), (8, .ptr (.loc (s.loc.length + 1)) [] 42), (9, .int .i64 h), (10, .int .u64 c), (11, .int .i64 r)] ⟨s.loc ++ [.rw (plV 0 0 0), .rw (plV 0 0 0)], s.hp⟩ =
      some (.ret, [(6, .ptr (.loc s.loc.length) [] 42), (7, .int .i64 (findR x.work ls n h c r).e)], ⟨s.loc ++ (.rw ((findR x.work ls n h c r).v n) :: X), s.hp⟩) := by
  intro h
  induction h with
  | zero =>
    intro _ c r h0 h1
    have hh := fun s => rf_rHeight c h0 h1 s
    have hN := fun L => rf_rNames (s := ⟨s.loc ++ L, s.hp⟩) hP.st c h0 h1
    have hc := fun s => rf_ref07_Of c h0 h1 s
    have e3 : (n : Int).tmod 8 = ((n % 8 : Nat) : Int) := by
      rw [show (8 : Int) = ((8 : Nat) : Int) by rfl, ← Int.ofNat_tmod]
    have e4 : IntKind.i64.wrap ((n % 8 : Nat) : Int) = ((n % 8 : Nat) : Int) := i64_id (by omega) (by omega)
    simp only [findR]
    by_cases g1 : heightOf c = 0
    · rw [if_neg (by simpa using g1)]
      rw [g1] at hh
      by_cases g2 : nmE x.work c = 0
      · rw [if_neg (by simpa using g2)]
        rw [g2] at hN
        simp only [FR.v, if_true]
        refine ⟨[.rw (plV 0 0 0), .rw (capsOf c).v], ?_⟩
        rw [rc_loop_o]
        simp only [plV, Cap.v] at *
        simp only [go_sem, b_steadfastref15_Find_0, hh, hN, hc, e3, e4]
      · rw [if_pos g2]
        simp only [FR.v, g2, if_false]
        refine ⟨[.rw (plV 0 0 0)], ?_⟩
        rw [rc_loop_o]
        generalize nmE x.work c = e at *
        simp only [plV] at *
        simp only [go_sem, b_steadfastref15_Find_0, hh, hN, g2]
    · rw [if_pos g1]
      simp only [FR.v, show ¬ ((40 : Int) = 0) by decide, if_false]
      refine ⟨[.rw (plV 0 0 0)], ?_⟩
      rw [rc_loop_o]
      generalize heightOf c = e at *
      simp only [plV] at *
      simp only [go_sem, b_steadfastref15_Find_0, hh, g1]
  | succ h ih =>
    intro hh2 c r h0 h1
    have hh := fun s => rf_rHeight c h0 h1 s
    have hN := fun L => rf_rNames (s := ⟨s.loc ++ L, s.hp⟩) hP.st c h0 h1
    have hc := fun s => rf_ref07_Of c h0 h1 s
    have hG := fun L => rf_rGet (s := ⟨s.loc ++ L, s.hp⟩) hP (nmId x.work c)
    have hgo := gO_ok (t := x.work) hls (nmId x.work c)
    have hq := get_map (f := V.int .u64) (l := (gO x.work ls (nmId x.work c)).l) (i := n / 2 ^ (3 * (h + 1)) % 8) (by rw [hgo.1]; omega) 0
    have hsl := slot_ok (t := x.work) hls (nmId x.work c) n (h + 1)
    have ih := ih (by omega) (slotOf ls x.work (nmId x.work c) n (h + 1)) (iand .i64 r (capsOf c).rights) hsl.1 hsl.2
    have e0 : ((h + 1 : Nat) : Int) = (h : Int) + 1 := by omega
    have e1 : IntKind.i64.wrap (3 * ((h : Int) + 1)) = ((3 * (h + 1) : Nat) : Int) := by rw [i64_id (by omega) (by omega)]; omega
    have e2 : ishr .u64 (n : Int) ((3 * (h + 1) : Nat) : Int) = ((n / 2 ^ (3 * (h + 1)) : Nat) : Int) := by
      rw [ishr_two (n : Int) (3 * (h + 1)) (by omega), Int.natCast_ediv, Int.natCast_pow]; rfl
    have e3 : ((n / 2 ^ (3 * (h + 1)) : Nat) : Int).tmod 8 = ((n / 2 ^ (3 * (h + 1)) % 8 : Nat) : Int) := by
      rw [show (8 : Int) = ((8 : Nat) : Int) by rfl, ← Int.ofNat_tmod]
    have e4 : IntKind.i64.wrap ((h : Int) + 1 - 1) = h := by rw [i64_id (by omega) (by omega)]; omega
    have e5 : n / 2 ^ (3 * (h + 1)) % 8 < 8 := Nat.mod_lt _ (by decide)
    simp only [findR]
    simp only [slotOf] at *
    generalize n / 2 ^ (3 * (h + 1)) % 8 = q at *
    generalize n / 2 ^ (3 * (h + 1)) = q2 at *
    generalize 3 * (h + 1) = q3 at *
    have e6 : (0 : Int) ≤ q := by omega
    have e7 : (q : Int) < 8 := by omega
    have e8 : ¬ (q3 : Int) < 0 := by omega
    have e9 : ¬ ((h : Int) + 1) = 0 := by omega
    have e10 : s.loc.length < s.loc.length + 2 := by omega
    have e11 : s.loc.length + 1 < s.loc.length + 2 := by omega
    by_cases g1 : heightOf c = h + 1
    · rw [if_neg (by simpa using g1)]
      rw [g1] at hh
      by_cases g2 : nmE x.work c = 0
      · rw [if_neg (by simpa using g2)]
        rw [g2] at hN
        by_cases g3 : gE x.work (nmId x.work c) = 0
        · rw [if_neg (by simpa using g3)]
          rw [g3] at hG
          obtain ⟨X, er⟩ := ih
          refine ⟨X, ?_⟩
          rw [← er, rc_loop_o]
          generalize nmId x.work c = id at *
          generalize gO x.work ls id = o at *
          simp only [plV, Cap.v, Obj.v] at *
          simp only [go_sem, b_steadfastref15_Find_0, e0, hh, hN, hc, hG, e9, e1, e2, e3, e6, e7, e8]
          rw [Int.toNat_natCast]
          simp only [go_sem, hq, e4, e10, e11]
        · rw [if_pos g3]
          simp only [FR.v, g3, if_false]
          refine ⟨[.rw (plV 0 0 0), .rw (capsOf c).v, .rw (gO x.work ls (nmId x.work c)).v], ?_⟩
          rw [rc_loop_o]
          generalize nmId x.work c = id at *
          generalize gO x.work ls id = o at *
          generalize gE x.work id = e at *
          simp only [plV, Cap.v, Obj.v] at *
          simp only [go_sem, b_steadfastref15_Find_0, e0, hh, hN, hc, hG, g3, e9]
      · rw [if_pos g2]
        simp only [FR.v, g2, if_false]
        refine ⟨[.rw (plV 0 0 0)], ?_⟩
        rw [rc_loop_o]
        generalize nmE x.work c = e at *
        simp only [plV] at *
        simp only [go_sem, b_steadfastref15_Find_0, e0, hh, hN, g2]
    · rw [if_pos g1]
      simp only [FR.v, show ¬ ((40 : Int) = 0) by decide, if_false]
      refine ⟨[.rw (plV 0 0 0)], ?_⟩
      rw [rc_loop_o]
      generalize heightOf c = e at *
      simp only [plV] at *
      simp only [go_sem, b_steadfastref15_Find_0, e0, hh, g1]
theorem rf_rFind {s : St} {a k k2 m : Nat} {x : RstF} {T T2 : List V} {ls : Nat → List Int} (hP : Doc s.hp a x k k2 m T T2 ls) (hls : OkL ls) (n : Nat) (hn : n < 18446744073709551616) (c : Int) (h0 : 0 ≤ c) (h1 : c ≤ 18446744073709551615) :
    rf D f_steadfastref15_Find [.ptr (.hp a) [] 31, .int .u64 c, .int .u64 n] s = some (.tup [(findF x.work ls c n).v n, .int .i64 (findF x.work ls c n).e], s) := by
  have hh := fun s => rf_rHeight c h0 h1 s
  have hle := height_le c
  unfold findF
  by_cases g1 : heightOf c < 0
  · rw [if_pos (.inl g1)]
    generalize heightOf c = hc at *
    simp only [FR.v, plV]
    rw [rf_o D_steadfastref15_Find rfl]
    simp only [go_sem, hh, g1]
  · obtain ⟨h, eh⟩ : ∃ h : Nat, heightOf c = h := ⟨(heightOf c).toNat, by omega⟩
    rw [eh] at hh hle g1 ⊢
    have hh2 : h ≤ 2 := by omega
    have e1 : IntKind.i64.wrap (3 * (h : Int)) = ((3 * h : Nat) : Int) := by rw [i64_id (by omega) (by omega)]; omega
    have e2 : ishl .u64 8 ((3 * h : Nat) : Int) = ((8 * 8 ^ h : Nat) : Int) := by
      rw [ishl_two 8 (3 * h) (by omega)]
      have : h = 0 ∨ h = 1 ∨ h = 2 := by omega
      rcases this with rfl | rfl | rfl <;> rfl
    have e8 : ¬ ((3 * h : Nat) : Int) < 0 := by omega
    rw [Int.toNat_natCast]
    obtain ⟨X, er⟩ := rfind_loop hP hls n hn h hh2 c 15 h0 h1
    by_cases g2 : 8 * 8 ^ h ≤ n
    · rw [if_pos (.inr g2)]
      have g3 : ((8 * 8 ^ h : Nat) : Int) ≤ n := by omega
      generalize 8 * 8 ^ h = q2 at *
      generalize 3 * h = q3 at *
      simp only [FR.v, plV]
      rw [rf_o D_steadfastref15_Find rfl]
      simp only [go_sem, hh, g1, e1, e2, e8, g3]
    · have g3 : ¬ ((8 * 8 ^ h : Nat) : Int) ≤ n := by omega
      rw [if_neg (by omega)]
      generalize 8 * 8 ^ h = q2 at *
      generalize 3 * h = q3 at *
      generalize findR x.work ls n h c 15 = fr at *
      simp only [FR.v, plV] at *
      by_cases he : fr.e = 0
      · simp only [he, if_true] at *
        rw [rf_o D_steadfastref15_Find rfl]
        simp only [go_sem, hh, g1, e1, e2, e8, g3, er]
      · simp only [he, if_false] at *
        rw [rf_o D_steadfastref15_Find rfl]
        simp only [go_sem, hh, g1, e1, e2, e8, g3, er]
end Go.Proofs.Ytpbpgbedkmbfkaa
