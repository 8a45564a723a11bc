/-
  ObjC: the document's objects, made of what was committed.
-/
import Derived.Test.YtpbpgbedkmbfkaaO2
set_option maxRecDepth 100000
namespace Go.Proofs.Ytpbpgbedkmbfkaa
open Go.Ab

/-- A slice of numbers that was appended to, and what is behind it. -/
structure Apd (L0 : List Blk) (X : List Blk) (v : V) (l : List Int) : Prop where
  at' : (l = [] ∧ v = .nils) ∨ (∃ Y, X = Y ++ [.rw (.agg 38 (l.map (.int .i64)))] ∧ v = .sl (.hp (L0.length + Y.length)) [] 0 l.length none 10)
theorem Apd.push {L0 X : List Blk} {v : V} {l : List Int} (h : Apd L0 X v l) {loc : List Blk} (hl : l.length < 1000) (x : Int) {y : V} (hy : y = .nils ∨ ∃ a p o n c, y = .sl a p o n c 10) (hyl : St.elems ⟨loc, L0 ++ X⟩ y = some [.int .i64 x]) {base : Nat} :
    ∃ X' v', vappend base true 38 10 v y ⟨loc, L0 ++ X⟩ = some (v', ⟨loc, L0 ++ X'⟩) ∧ Apd L0 X' v' (l ++ [x]) := by
  rcases h.at' with ⟨rfl, rfl⟩ | ⟨Y, rfl, rfl⟩
  · refine ⟨X ++ [.rw (.agg 38 [.int .i64 x])], _, ?_, ⟨.inr ⟨X, rfl, rfl⟩⟩⟩
    rw [app_nils hy hyl (by simp) (by simp [most]) rfl]
    simp only [go_sem]
  · refine ⟨Y ++ [.dead] ++ [.rw (.agg 38 ((l ++ [x]).map (.int .i64)))], _, ?_, ⟨.inr ⟨Y ++ [.dead], rfl, rfl⟩⟩⟩
    have e1 : St.elems ⟨loc, L0 ++ (Y ++ [.rw (.agg 38 (l.map (.int .i64)))])⟩ (.sl (.hp (L0.length + Y.length)) [] 0 l.length none 10) = some (l.map (.int .i64)) :=
      elems_whole (t := 38) (by rw [← List.append_assoc, ← List.length_append]; simp only [go_sem]) (by simp)
    have e2 : St.at ⟨loc, L0 ++ (Y ++ [.rw (.agg 38 (l.map (.int .i64)))])⟩ (.hp (L0.length + Y.length)) = some (.rw (.agg 38 (l.map (.int .i64)))) := by
      rw [← List.append_assoc, ← List.length_append]; simp [St.at]
    rw [app_may hy e1 hyl (by simp) (by simp [most]; omega) rfl e2]
    have e3 : (St.set ⟨loc, L0 ++ (Y ++ [.rw (.agg 38 (l.map (.int .i64)))])⟩ (.hp (L0.length + Y.length)) .dead) = ⟨loc, L0 ++ (Y ++ [.dead])⟩ := by
      simp only [St.set]
      rw [← List.append_assoc, ← List.length_append, List.set_append_right _ _ (Nat.le_refl _)]
      simp
    rw [e3]
    simp only [go_sem]
    simp
theorem Apd.elems {L0 X : List Blk} {v : V} {l : List Int} (h : Apd L0 X v l) {loc : List Blk} : St.elems ⟨loc, L0 ++ X⟩ v = some (l.map (.int .i64)) := by
  rcases h.at' with ⟨rfl, rfl⟩ | ⟨Y, rfl, rfl⟩
  · rfl
  · exact elems_whole (t := 38) (by rw [← List.append_assoc, ← List.length_append]; simp only [go_sem]) (by simp)
theorem linesF_snoc (t : Nat → Ent) : ∀ (n i : Nat), linesF t i (n + 1) = linesF t i n ++ if (t (i + n)).kind = 0 then [] else [(t (i + n)).line]
  | 0, i => by simp only [linesF, Nat.add_zero]; split <;> rfl
  | n + 1, i => by
    rw [linesF, linesF_snoc t n (i + 1), linesF, show i + 1 + n = i + (n + 1) by omega]
    split <;> simp
theorem linesF_len (t : Nat → Ent) : ∀ (n i : Nat), (linesF t i n).length ≤ n
  | 0, i => Nat.le_refl _
  | n + 1, i => by
    have := linesF_len t n (i + 1)
    simp only [linesF]
    split
    · omega
    · simp only [List.length_cons]; omega
theorem rf_rlines (t : Nat → Ent) (s : St) : ∃ X v, Apd s.hp X v (linesF t 0 49) ∧ rf D f_steadfastref10_lines [tabV t] s = some (v, ⟨s.loc, s.hp ++ X⟩) := by
  have loop : ∃ r, rc D s.loc.length (.loop [1, 3, 4] b_steadfastref10_lines_0) [(1, .ptr (.loc s.loc.length) [] 48), (3, .nils), (4, .int .i64 0)] ⟨s.loc ++ [.rw (tabV t)], s.hp⟩ = some r ∧
      ∃ X v, Apd s.hp X v (linesF t 0 49) ∧ r = (.exit 0, [(1, .ptr (.loc s.loc.length) [] 48), (3, v), (4, .int .i64 49), (6, .bool false)], ⟨s.loc ++ [.rw (tabV t)], s.hp ++ X⟩) := by
    refine loop_ex (fun x : Nat × List Blk × V => [(1, .ptr (.loc s.loc.length) [] 48), (3, x.2.2), (4, .int .i64 x.1)]) (fun x => ⟨s.loc ++ [.rw (tabV t)], s.hp ++ x.2.1⟩) _ (fun x => 49 - x.1)
      (fun x => x.1 ≤ 49 ∧ Apd s.hp x.2.1 x.2.2 (linesF t 0 x.1)) (0, [], .nils) ?_ ⟨by simp only; omega, ⟨.inl ⟨rfl, rfl⟩⟩⟩ rfl (by simp)
    rintro ⟨i, X, v⟩ ⟨hi, ha⟩
    simp only at hi ha
    by_cases c1 : i < 49
    · left
      have d1 : (i : Int) < 49 := by omega
      have d2 : (0 : Int) ≤ i := by omega
      have d4 : IntKind.i64.wrap ((i : Int) + 1) = (i : Int) + 1 := i64_id (by omega) (by omega)
      have d5 : s.loc.length < s.loc.length + 1 := Nat.lt_succ_self _
      have g1 := tab_get (f := fun i => (t i).v) c1
      have hsn := linesF_snoc t i 0
      rw [Nat.zero_add] at hsn
      have hv : v.locLt (s.loc.length + 1) = true := by
        rcases ha.at' with ⟨_, rfl⟩ | ⟨Y, _, rfl⟩ <;> simp only [go_sem]
      by_cases hk : (t i).kind = 0
      · rw [if_pos hk, List.append_nil] at hsn
        refine ⟨(i + 1, X, v), ⟨by simp only; omega, by simp only; rw [hsn]; exact ha⟩, by simp only; omega, ?_⟩
        simp only [tabV, Ent.v] at *
        simp only [hk] at g1
        generalize tab 49 (fun i => V.agg 42 [.int .i64 (t i).kind, .int .i64 (t i).ver, .int .i64 (t i).line]) = T at *
        simp only [go_sem, b_steadfastref10_lines_0, d1, d2]
        rw [Int.toNat_natCast]
        simp only [go_sem, g1, d4, hv, d5]
        rfl
      · rw [if_neg hk] at hsn
        have hll := linesF_len t i 0
        obtain ⟨X', v', e1, ha'⟩ := ha.push (loc := s.loc ++ [.rw (tabV t), .rw (.agg 38 [.int .i64 (t i).line])]) (by omega) (t i).line (y := .sl (.loc (s.loc.length + 1)) [] 0 1 (some 1) 10) (.inr ⟨_, _, _, _, _, rfl⟩)
          (elems_whole (t := 38) (by simp only [go_sem]) rfl) (base := s.loc.length)
        have hv' : v'.locLt (s.loc.length + 1) = true := by
          rcases ha'.at' with ⟨_, rfl⟩ | ⟨Y, _, rfl⟩ <;> simp only [go_sem]
        refine ⟨(i + 1, X', v'), ⟨by simp only; omega, by simp only; rw [hsn]; exact ha'⟩, by simp only; omega, ?_⟩
        simp only [tabV, Ent.v] at *
        generalize tab 49 (fun i => V.agg 42 [.int .i64 (t i).kind, .int .i64 (t i).ver, .int .i64 (t i).line]) = T at *
        simp only [go_sem, b_steadfastref10_lines_0, d1, d2]
        rw [Int.toNat_natCast]
        simp only [go_sem, g1, hk, d1, d2]
        rw [Int.toNat_natCast]
        simp only [go_sem, g1, d4, List.replicate, e1, hv', d5]
        rfl
    · right
      have : i = 49 := by omega
      subst this
      refine ⟨_, ?_, X, v, ha, rfl⟩
      simp only [go_sem, b_steadfastref10_lines_0]
  obtain ⟨_, hl, X, v, ha, rfl⟩ := loop
  refine ⟨X, v, ha, ?_⟩
  have hv : v.locLt s.loc.length = true := by
    rcases ha.at' with ⟨_, rfl⟩ | ⟨Y, _, rfl⟩ <;> simp only [go_sem]
  simp only [tabV] at *
  rw [rf_o D_steadfastref10_lines rfl]
  simp only [go_sem, hl, hv]
end Go.Proofs.Ytpbpgbedkmbfkaa
