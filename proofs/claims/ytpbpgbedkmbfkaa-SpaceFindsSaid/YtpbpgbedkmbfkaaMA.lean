/-
  MadeA: the heap behind a store that was made, as it is read.
-/
import Derived.Test.YtpbpgbedkmbfkaaO6
set_option maxRecDepth 100000
namespace Go.Proofs.Ytpbpgbedkmbfkaa
open Go.Ab

def madeH (h : Nat) (t : Nat → Ent) (ls : Nat → List Int) (w : List Nat) (S : List Int) (X : List Blk) : List Blk :=
  [.rw (.agg 57 (tab 100 fun i => nlV (lnV (ls i)) (lnV (ls i)) .nils zfl)), .rw (memV h 100 false false 0 0),
   .rw (.agg 58 []), .rw (.agg 58 (tab 100 fun i => lnV (ls i))), .rw (.agg 53 (tab 100 fun _ => .nils)), .rw (rmV (h + 3) 100 (h + 4) false (-1) 0),
   .rw (frV 10 100 w (w16 [])), .rw (StF.v ⟨h + 1, h + 6, t, t, dir10, fun _ => noEnt, false⟩ (shOf t (fun _ => noEnt) false)),
   .rw (.agg 38 (S.map (.int .i64))), .rw (rfV 10 (h + 8) S.length)] ++ X ++ [.rw (RstF.v ⟨h + 5, h + 9, t, t, dir10, fun _ => noEnt, false⟩)]
theorem madeH_at {H : List Blk} {t : Nat → Ent} {ls : Nat → List Int} {w : List Nat} {S : List Int} {X : List Blk} (i : Nat) (hi : i < 10) : (H ++ madeH H.length t ls w S X)[H.length + i]? = (madeH H.length t ls w S X)[i]? := by
  rw [List.getElem?_append_right (by omega), Nat.add_sub_cancel_left]
theorem prgM {H : List Blk} {t : Nat → Ent} {ls : Nat → List Int} {w : List Nat} {S : List Int} {X : List Blk} (ht : ∀ i, i < 49 → (t i).kind ≠ 0 → (t i).line = 20 + i) :
    Prg (H ++ madeH H.length t ls w S X) (H.length + 7) ⟨H.length + 1, H.length + 6, t, t, dir10, fun _ => noEnt, false⟩ (shOf t (fun _ => noEnt) false) H.length 100 (tab 100 fun i => nlV (lnV (ls i)) (lnV (ls i)) .nils zfl) ls := by
  refine ⟨by rw [madeH_at 7 (by omega)]; rfl, ⟨false, 0, 0, by simp only; rw [madeH_at 1 (by omega)]; rfl⟩, by have := madeH_at (H := H) (t := t) (ls := ls) (w := w) (S := S) (X := X) 0 (by omega); rw [Nat.add_zero] at this; rw [this]; rfl, fun i hi hk => ?_⟩
  simp only at hk ⊢
  rw [ht i hi hk]
  refine ⟨by omega, by omega, lnV (ls (20 + i)), .nils, zfl, ?_⟩
  rw [show ((20 : Int) + i).toNat = 20 + i by omega, tab_get (by omega)]
theorem docM {H : List Blk} {t : Nat → Ent} {ls : Nat → List Int} {w : List Nat} {S : List Int} {X : List Blk} (ht : ∀ i, i < 49 → (t i).kind ≠ 0 → (t i).line = 20 + i) :
    Doc (H ++ madeH H.length t ls w S X) (H.length + 10 + X.length) ⟨H.length + 5, H.length + 9, t, t, dir10, fun _ => noEnt, false⟩ (H.length + 3) (H.length + 4) 100 (tab 100 fun i => lnV (ls i)) (tab 100 fun _ => .nils) ls := by
  refine ⟨?_, ⟨-1, 0, by simp only; rw [madeH_at 5 (by omega)]; rfl⟩, by rw [madeH_at 3 (by omega)]; rfl, by rw [madeH_at 4 (by omega)]; rfl, fun i hi hk => ?_⟩
  · rw [List.getElem?_append_right (by omega), show H.length + 10 + X.length - H.length = 10 + X.length by omega]
    unfold madeH
    rw [List.getElem?_append_right (by simp; omega), List.length_append]
    simp only [List.length_cons, List.length_nil, Nat.zero_add, Nat.reduceAdd]
    rw [Nat.sub_self]
    rfl
  · simp only at hk ⊢
    rw [ht i hi hk]
    refine ⟨by omega, by omega, ?_, ?_⟩
    · rw [show ((20 : Int) + i).toNat = 20 + i by omega, tab_get (by omega)]
    · rw [show ((20 : Int) + i).toNat = 20 + i by omega, tab_get (by omega)]
def entI (M : Int) (lo : List Obj) (i : Nat) (j : Nat) : Ent := if j < i then entM M lo j else noEnt
def lnI (lo : List Obj) (i : Nat) (j : Nat) : List Int := if j < 20 + i then lnM lo j else zl
theorem entI_step {M : Int} {lo : List Obj} {i : Nat} {e : V} (he : (entM M lo i).v = e) : tab 49 (upd (fun j => (entI M lo i j).v) i e) = tab 49 fun j => (entI M lo (i + 1) j).v := by
  apply tab_congr
  intro j _
  by_cases e2 : j = i
  · subst e2
    rw [upd_self, ← he]
    simp [entI]
  · rw [upd_ne e2]
    unfold entI
    by_cases h2 : j < i
    · rw [if_pos h2, if_pos (by omega)]
    · rw [if_neg h2, if_neg (by omega)]
theorem lnI_step {lo : List Obj} {i : Nat} : tab 100 (upd (fun j => lnV (lnI lo i j)) (20 + i) (lnV (lnM lo (20 + i)))) = tab 100 fun j => lnV (lnI lo (i + 1) j) := by
  apply tab_congr
  intro j _
  by_cases e2 : j = 20 + i
  · subst e2
    rw [upd_self]
    unfold lnI
    rw [if_pos (by omega)]
  · rw [upd_ne e2]
    unfold lnI
    by_cases h2 : j < 20 + i
    · rw [if_pos h2, if_pos (by omega)]
    · rw [if_neg h2, if_neg (by omega)]
theorem lnI_same {lo : List Obj} {i : Nat} (h : lnM lo (20 + i) = zl) : (tab 100 fun j => lnV (lnI lo i j)) = tab 100 fun j => lnV (lnI lo (i + 1) j) := by
  apply tab_congr
  intro j _
  unfold lnI
  by_cases h2 : j < 20 + i
  · rw [if_pos h2, if_pos (by omega)]
  · rw [if_neg h2]
    by_cases h3 : j < 20 + (i + 1)
    · rw [if_pos h3, show j = 20 + i by omega, h]
    · rw [if_neg h3]
theorem lnI_zero {lo : List Obj} : (tab 100 fun j => lnV (lnI lo 0 j)) = tab 100 fun _ => lnV zl := by
  apply tab_congr
  intro j _
  unfold lnI
  by_cases h2 : j < 20 + 0
  · rw [if_pos h2]; unfold lnM; rw [if_neg (by omega)]
  · rw [if_neg h2]
theorem lnI_end {lo : List Obj} {i : Nat} (hi : i = min lo.length 49) : (tab 100 fun j => lnV (lnI lo i j)) = tab 100 fun j => lnV (lnM lo j) := by
  apply tab_congr
  intro j _
  unfold lnI
  by_cases h2 : j < 20 + i
  · rw [if_pos h2]
  · rw [if_neg h2]; unfold lnM; rw [if_neg (by omega)]
theorem entI_end {M : Int} {lo : List Obj} {i : Nat} (hi : i = min lo.length 49) : (tab 49 fun j => (entI M lo i j).v) = tab 49 fun j => (entM M lo j).v := by
  apply tab_congr
  intro j hj
  unfold entI
  by_cases h2 : j < i
  · rw [if_pos h2]
  · rw [if_neg h2]; unfold entM; rw [if_neg (by omega)]
end Go.Proofs.Ytpbpgbedkmbfkaa
