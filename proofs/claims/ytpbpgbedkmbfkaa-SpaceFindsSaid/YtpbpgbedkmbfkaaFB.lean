/-
  FrmB: the document frames: a row of states (picked out of FramesL).
-/
import Derived.Test.YtpbpgbedkmbfkaaFA
set_option maxRecDepth 100000
namespace Go.Proofs.Ytpbpgbedkmbfkaa
open Go.Ab
def rfV (f : Int) (c n : Nat) : V := .agg 21 [.int .i64 f, .sl (.hp c) [] 0 n (some n) 10]
/-- The document's frames: block b, its row in block c. -/
structure Rf (s : St) (b c : Nat) (f : Int) (S : List Int) : Prop where
  rb : s.hp[b]? = some (.rw (rfV f c S.length))
  sb : s.hp[c]? = some (.rw (.agg 38 (S.map (.int .i64))))
  f0 : 0 ≤ f
  n : f + S.length ≤ 1024
def stS (f : Int) (S : List Int) (line : Int) : Int := if line < f ∨ (S.length : Int) ≤ line - f then -1 else S.getD (line - f).toNat 0
theorem sad_r {c n k : Nat} (h : k < n) : sadv 10 (.sl (.hp c) [] 0 n (some n) 10) (.int .i64 (k : Int)) = some (.ptr (.hp c) [k] 10) := by
  simp [sadv, h]
theorem rf_rState {s : St} {b c : Nat} {f : Int} {S : List Int} (h : Rf s b c f S) (line : Int) (hl : line ≤ 9223372036854775807) :
    rf D f_steadfastref04_Frames_State [.ptr (.hp b) [] 21, .int .i64 line] s = some (.int .i64 (stS f S line), s) := by
  have hb := h.rb
  have hc := h.sb
  have h0 := h.f0
  have hn := h.n
  unfold stS
  simp only [rfV] at hb
  by_cases c1 : line < f
  · rw [if_pos (.inl c1), rf_o D_steadfastref04_Frames_State rfl]
    simp only [go_sem, hb, c1]
  · have e1 : IntKind.i64.wrap (line - f) = line - f := i64_id (by omega) (by omega)
    by_cases c2 : (S.length : Int) ≤ line - f
    · rw [if_pos (.inr c2), rf_o D_steadfastref04_Frames_State rfl]
      simp only [go_sem, hb, c1, e1, c2]
    · obtain ⟨k, hk⟩ : ∃ k : Nat, line - f = k := ⟨(line - f).toNat, by omega⟩
      rw [if_neg (by omega)]
      rw [hk] at e1 c2 ⊢
      have hkl : k < S.length := by omega
      have hg := get_map (f := V.int .i64) (l := S) hkl 0
      rw [Int.toNat_natCast, rf_o D_steadfastref04_Frames_State rfl]
      simp only [go_sem, hb, c1, hk, e1, c2, sad_r hkl, hc, hg]
theorem rf_rturn {s : St} {b c : Nat} {f : Int} {S : List Int} (h : Rf s b c f S) (line : Int) (hl : line ≤ 9223372036854775807) (x y : Int) :
    rf D f_steadfastref04_Frames_turn [.ptr (.hp b) [] 21, .int .i64 line, .int .i64 x, .int .i64 y] s =
      if stS f S line < 0 then some (.int .i64 1, s) else if stS f S line ≠ x then some (.int .i64 3, s) else
        some (.int .i64 0, ⟨s.loc, s.hp.set c (.rw (.agg 38 ((S.set (line - f).toNat y).map (.int .i64))))⟩) := by
  have e := rf_rState h line hl
  have hb := h.rb
  have hc := h.sb
  have h0 := h.f0
  have hn := h.n
  simp only [rfV] at hb
  rw [rf_o D_steadfastref04_Frames_turn rfl]
  by_cases c1 : stS f S line < 0
  · rw [if_pos c1]
    generalize stS f S line = t at *
    simp only [go_sem, e, c1]
  · rw [if_neg c1]
    by_cases c2 : stS f S line = x
    · have hin : ¬ (line < f ∨ (S.length : Int) ≤ line - f) := fun hh => by
        unfold stS at c1
        rw [if_pos hh] at c1
        exact c1 (by decide)
      obtain ⟨k, hk⟩ : ∃ k : Nat, line - f = k := ⟨(line - f).toNat, by omega⟩
      have hkl : k < S.length := by omega
      have hg := get_map (f := V.int .i64) (l := S) hkl 0
      have e1 : IntKind.i64.wrap (line - f) = k := by rw [hk]; exact i64_id (by omega) (by omega)
      rw [if_neg (by simp [c2]), hk, Int.toNat_natCast, List.map_set]
      subst c2
      generalize stS f S line = t at *
      simp only [go_sem, e, c1, hb, e1, sad_r hkl, hc, hg]
    · rw [if_pos c2]
      generalize stS f S line = t at *
      simp only [go_sem, e, c1, c2]
theorem rf_rTake {s : St} {b c : Nat} {f : Int} {S : List Int} (h : Rf s b c f S) (line : Int) (hl : line ≤ 9223372036854775807) :
    rf D f_steadfastref04_Frames_Take [.ptr (.hp b) [] 21, .int .i64 line] s = rf D f_steadfastref04_Frames_turn [.ptr (.hp b) [] 21, .int .i64 line, .int .i64 0, .int .i64 1] s := by
  rw [rf_rturn h line hl 0 1]
  have e := rf_rturn h line hl 0 1
  rw [rf_o D_steadfastref04_Frames_Take rfl]
  by_cases c1 : stS f S line < 0
  · rw [if_pos c1] at e ⊢
    simp only [go_sem, e]
  · rw [if_neg c1] at e ⊢
    by_cases c2 : stS f S line = 0
    · rw [if_neg (by simp [c2])] at e ⊢
      simp only [go_sem, e]
    · rw [if_pos c2] at e ⊢
      simp only [go_sem, e]
theorem getD_setI {B : List Int} {i j : Nat} {v : Int} (hi : i < B.length) : (B.set i v).getD j 0 = if i = j then v else B.getD j 0 := by
  rw [List.getD_eq_getElem?_getD, List.getD_eq_getElem?_getD, List.getElem?_set]
  by_cases h : i = j
  · subst h; simp [hi]
  · simp [h]
theorem set_same {l : List Blk} {a : Nat} {x : Blk} (h : l[a]? = some x) : l.set a x = l := by
  have ha := (List.getElem?_eq_some_iff.1 h).1
  apply List.ext_getElem?
  intro j
  by_cases e : a = j
  · subst e; rw [List.getElem?_set_self ha]; exact h.symm
  · rw [List.getElem?_set_ne e]
theorem rf_rNew_err (f l : Int) (h : f < 0 ∨ l < f ∨ 1024 < l) (s : St) : rf D f_steadfastref04_New [.int .i64 f, .int .i64 l] s = some (.tup [.nilp, .int .i64 1], s) := by
  rw [rf_o D_steadfastref04_New rfl]
  by_cases h1 : f < 0
  · simp only [go_sem, h1]
  · by_cases h2 : l < f
    · simp only [go_sem, h1, h2]
    · have h3 : 1024 < l := by omega
      simp only [go_sem, h1, h2, h3]
theorem rf_rNew_ok (f l : Int) (h0 : 0 ≤ f) (h1 : f ≤ l) (h2 : l ≤ 1024) (s : St) :
    rf D f_steadfastref04_New [.int .i64 f, .int .i64 l] s = some (.tup [.ptr (.hp (s.hp.length + 1)) [] 21, .int .i64 0], ⟨s.loc, s.hp ++ [.rw (.agg 38 (List.replicate (l - f).toNat (.int .i64 0))), .rw (rfV f s.hp.length (l - f).toNat)]⟩) := by
  have c1 : ¬ f < 0 := by omega
  have c2 : ¬ l < f := by omega
  have c3 : ¬ 1024 < l := by omega
  obtain ⟨n, hn⟩ : ∃ n : Nat, l - f = n := ⟨(l - f).toNat, by omega⟩
  have e1 : IntKind.i64.wrap (l - f) = n := by rw [hn]; exact i64_id (by omega) (by omega)
  have hm : (n : Int) ≤ (most : Nat) := by unfold most; omega
  have d0 : (0 : Int) ≤ n := by omega
  rw [hn, Int.toNat_natCast, rf_o D_steadfastref04_New rfl]
  simp only [rfV]
  simp only [go_sem, c1, c2, c3, e1, hm, d0, Int.le_refl]
  rw [Int.toNat_natCast]
end Go.Proofs.Ytpbpgbedkmbfkaa
