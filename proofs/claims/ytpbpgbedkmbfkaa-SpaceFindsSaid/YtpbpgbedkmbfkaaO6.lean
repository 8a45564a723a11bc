/-
  ObjF: the table and the lines that a row of objects makes; they can be taken.
-/
import Derived.Test.YtpbpgbedkmbfkaaO5
set_option maxRecDepth 100000
namespace Go.Proofs.Ytpbpgbedkmbfkaa
open Go.Ab

theorem neg_tmod (k : Int) {m : Int} (h0 : 0 < m) (h1 : m < 1000000000) : IntKind.i64.wrap (0 - k.tmod m) = -k.tmod m := by
  have := Int.tmod_lt_of_pos k h0
  have := Int.lt_tmod_of_pos k h0
  rw [Int.zero_sub]
  exact i64_id (by omega) (by omega)
/-- The entry of the object i. -/
def entM (M : Int) (lo : List Obj) (i : Nat) : Ent :=
  if i < lo.length then ⟨absm (lo.getD i zeroObj).kind 5, absm (lo.getD i zeroObj).ver M, if absm (lo.getD i zeroObj).kind 5 = 0 then 0 else 20 + i⟩ else noEnt
/-- What stands in the line j. -/
def lnM (lo : List Obj) (j : Nat) : List Int :=
  if 20 ≤ j ∧ j < 69 ∧ j < 20 + lo.length ∧ absm (lo.getD (j - 20) zeroObj).kind 5 ≠ 0 then (lo.getD (j - 20) zeroObj).l else zl
theorem entM_line {M : Int} {lo : List Obj} {i : Nat} (h : (entM M lo i).kind ≠ 0) : (entM M lo i).line = 20 + i := by
  unfold entM at h ⊢
  split
  · rename_i hi
    rw [if_pos hi] at h
    simp only at h ⊢
    rw [if_neg h]
  · rename_i hi
    rw [if_neg hi] at h
    exact absurd rfl h
theorem entM_range {M : Int} (hM : 0 < M) (lo : List Obj) (i : Nat) : 0 ≤ (entM M lo i).kind ∧ (entM M lo i).kind ≤ 4 ∧ 0 ≤ (entM M lo i).ver ∧ (entM M lo i).ver < M := by
  unfold entM
  split
  · have h1 := absm_le (lo.getD i zeroObj).kind (m := 5) (by omega)
    have h2 := absm_le (lo.getD i zeroObj).ver hM
    simp only; omega
  · simp only [noEnt]; omega
def dir10 (i : Nat) : Int := if i < 8 then 10 + i else 0
/-- The lines from 20 on can be taken. -/
theorem take20 {t : Nat → Ent} (ht : ∀ i, i < 49 → (t i).kind ≠ 0 → (t i).line = 20 + i) (rest : List Int) : ∀ (n i : Nat) (w : List Nat), i + n = 49 → OkS w → (∀ j, 20 + i ≤ j → j < 69 → bit w j = true) →
    ∃ w', takeL 10 100 (linesF t i n ++ rest) w = takeL 10 100 rest w' ∧ OkS w' ∧ (∀ j, j < 1024 → (bit w' j = true → bit w j = true) ∧ (j < 20 ∨ 69 ≤ j → bit w' j = bit w j))
  | 0, i, w, _, hok, _ => ⟨w, rfl, hok, fun j _ => ⟨id, fun _ => rfl⟩⟩
  | n + 1, i, w, hin, hok, hb => by
    simp only [linesF]
    by_cases hk : (t i).kind = 0
    · rw [if_pos hk]
      exact take20 ht rest n (i + 1) w (by omega) hok fun j h1 h2 => hb j (by omega) h2
    · rw [if_neg hk, ht i (by omega) hk, List.cons_append]
      have hbi := hb (20 + i) (Nat.le_refl _) (by omega)
      have hst : stOf 10 100 w (w16 []) (20 + i) = 0 := by
        unfold stOf
        rw [if_neg (by omega), show ((20 : Int) + i).toNat = 20 + i by omega, hbi]; rfl
      simp only [takeL]
      rw [if_pos hst, show ((20 : Int) + i).toNat = 20 + i by omega]
      obtain ⟨w', e, hok', hb'⟩ := take20 ht rest n (i + 1) (flip w (20 + i)) (by omega) (hok.flip (by omega)) (fun j h1 h2 => by
        rw [bit_flip hok (by omega), hb j (by omega) h2]
        have : ¬ 20 + i = j := by omega
        simp [this])
      refine ⟨w', e, hok', fun j hj => ⟨fun h => ?_, fun h => ?_⟩⟩
      · have h2 := (hb' j hj).1 h
        rw [bit_flip hok (by omega)] at h2
        by_cases e2 : 20 + i = j
        · subst e2; exact hbi
        · simpa [e2] using h2
      · rw [(hb' j hj).2 h, bit_flip hok (by omega)]
        have : ¬ 20 + i = j := by omega
        simp [this]
/-- The lines from 10 on can be taken. -/
theorem take10 : ∀ (n i : Nat) (w : List Nat), i + n = 8 → OkS w → (∀ j, 10 + i ≤ j → j < 18 → bit w j = true) →
    ∃ w', takeL 10 100 (dirF dir10 i n) w = some w' ∧ OkS w' ∧ (∀ j, j < 1024 → (bit w' j = true → bit w j = true) ∧ (18 ≤ j → bit w' j = bit w j))
  | 0, i, w, _, hok, _ => ⟨w, rfl, hok, fun j _ => ⟨id, fun _ => rfl⟩⟩
  | n + 1, i, w, hin, hok, hb => by
    have hd : dir10 i = 10 + i := if_pos (by omega)
    simp only [dirF, takeL]
    have hbi := hb (10 + i) (Nat.le_refl _) (by omega)
    have hst : stOf 10 100 w (w16 []) (10 + i) = 0 := by
      unfold stOf
      rw [if_neg (by omega), show ((10 : Int) + i).toNat = 10 + i by omega, hbi]; rfl
    rw [hd, if_pos hst, show ((10 : Int) + i).toNat = 10 + i by omega]
    obtain ⟨w', e, hok', hb'⟩ := take10 n (i + 1) (flip w (10 + i)) (by omega) (hok.flip (by omega)) (fun j h1 h2 => by
      rw [bit_flip hok (by omega), hb j (by omega) h2]
      have : ¬ 10 + i = j := by omega
      simp [this])
    refine ⟨w', e, hok', fun j hj => ⟨fun h => ?_, fun h => ?_⟩⟩
    · have h2 := (hb' j hj).1 h
      rw [bit_flip hok (by omega)] at h2
      by_cases e2 : 10 + i = j
      · subst e2; exact hbi
      · simpa [e2] using h2
    · rw [(hb' j hj).2 h, bit_flip hok (by omega)]
      have : ¬ 10 + i = j := by omega
      simp [this]
theorem take_all {t : Nat → Ent} (ht : ∀ i, i < 49 → (t i).kind ≠ 0 → (t i).line = 20 + i) {w0 : List Nat} (hok : OkS w0) (hb : ∀ j : Nat, j < 1024 → bit w0 j = (decide ((10 : Int) ≤ j) && decide ((j : Int) < (100 : Nat)))) :
    ∃ w, takeL 10 100 (allL t dir10) w0 = some w ∧ OkS w ∧ (∀ j, j < 1024 → bit w j = true → 10 ≤ j ∧ j < 100) ∧ bit w 18 = true := by
  obtain ⟨w1, e1, ok1, b1⟩ := take20 ht (dirF dir10 0 8) 49 0 w0 rfl hok (fun j h1 h2 => by rw [hb j (by omega)]; simp; omega)
  obtain ⟨w2, e2, ok2, b2⟩ := take10 8 0 w1 rfl ok1 (fun j h1 h2 => by rw [(b1 j (by omega)).2 (.inl (by omega)), hb j (by omega)]; simp; omega)
  refine ⟨w2, by rw [allL, e1, e2], ok2, fun j hj h => ?_, ?_⟩
  · have := (b1 j hj).1 ((b2 j hj).1 h)
    rw [hb j hj] at this
    simp at this
    omega
  · rw [(b2 18 (by omega)).2 (by omega), (b1 18 (by omega)).2 (.inl (by omega)), hb 18 (by omega)]; rfl
theorem allL_in {t : Nat → Ent} (ht : ∀ i, i < 49 → (t i).kind ≠ 0 → (t i).line = 20 + i) : InI (allL t dir10) := by
  have key : ∀ (n i : Nat), i + n = 49 → ∀ x ∈ linesF t i n, x ≤ 9223372036854775807 := by
    intro n
    induction n with
    | zero => intro i _ x hx; cases hx
    | succ n ih =>
      intro i hin x hx
      simp only [linesF] at hx
      split at hx
      · exact ih (i + 1) (by omega) x hx
      · rename_i hk
        rcases List.mem_cons.1 hx with rfl | hx
        · rw [ht i (by omega) hk]; omega
        · exact ih (i + 1) (by omega) x hx
  refine ⟨fun x hx => ?_⟩
  rcases List.mem_append.1 hx with hx | hx
  · exact key 49 0 rfl x hx
  · have : x = 10 ∨ x = 11 ∨ x = 12 ∨ x = 13 ∨ x = 14 ∨ x = 15 ∨ x = 16 ∨ x = 17 := by simpa [dirF, dir10] using hx
    omega
end Go.Proofs.Ytpbpgbedkmbfkaa
