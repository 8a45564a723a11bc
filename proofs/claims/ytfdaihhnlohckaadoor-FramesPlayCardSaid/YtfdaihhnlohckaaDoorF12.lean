/-
  FramesL: the document's answer: a row of states.
-/
import Derived.Test.YtfdaihhnlohckaaDoorF11
set_option maxRecDepth 100000
namespace Go.Proofs.YtfdaihhnlohckaaDoor
open Go.Ab

def rfV (f : Int) (c n : Nat) : V := .agg 21 [.int .i64 f, .sl (.hp c) [] 0 n (some n) 10]
/-- The document's frames: block b, its row in block c. -/
structure Rf (s : St) (b c : Nat) (f : Int) (S : List Int) : Prop where
  rb : s.hp[b]? = some (.rw (rfV f c S.length))
  sb : s.hp[c]? = some (.rw (.agg 38 (S.map (.int .i64))))
  f0 : 0 ≤ f
  n : f + S.length ≤ 1024
def stS (f : Int) (S : List Int) (line : Int) : Int := if line < f ∨ (S.length : Int) ≤ line - f then -1 else S.getD (line - f).toNat 0
theorem sad_r {c n k : Nat} (h : k < n) : sadv 10 (.sl (.hp c) [] 0 n (some n) 10) (.int .i64 (k : Int)) = some (.ptr (.hp c) [k] 10) := by
  simp [sadv, h]
theorem rf_rState {s : St} {b c : Nat} {f : Int} {S : List Int} (h : Rf s b c f S) (line : Int) (hl : line ≤ 9223372036854775807) :
    rf D f_steadfastref04_Frames_State [.ptr (.hp b) [] 21, .int .i64 line] s = some (.int .i64 (stS f S line), s) := by
  have hb := h.rb
  have hc := h.sb
  have h0 := h.f0
  have hn := h.n
  unfold stS
  simp only [rfV] at hb
  by_cases c1 : line < f
  · rw [if_pos (.inl c1), rf_o D_steadfastref04_Frames_State rfl]
    simp only [go_sem, hb, c1]
  · have e1 : IntKind.i64.wrap (line - f) = line - f := i64_id (by omega) (by omega)
    by_cases c2 : (S.length : Int) ≤ line - f
    · rw [if_pos (.inr c2), rf_o D_steadfastref04_Frames_State rfl]
      simp only [go_sem, hb, c1, e1, c2]
    · obtain ⟨k, hk⟩ : ∃ k : Nat, line - f = k := ⟨(line - f).toNat, by omega⟩
      rw [if_neg (by omega)]
      rw [hk] at e1 c2 ⊢
      have hkl : k < S.length := by omega
      have hg := get_map (f := V.int .i64) (l := S) hkl 0
      rw [Int.toNat_natCast, rf_o D_steadfastref04_Frames_State rfl]
      simp only [go_sem, hb, c1, hk, e1, c2, sad_r hkl, hc, hg]
theorem rf_rturn {s : St} {b c : Nat} {f : Int} {S : List Int} (h : Rf s b c f S) (line : Int) (hl : line ≤ 9223372036854775807) (x y : Int) :
    rf D f_steadfastref04_Frames_turn [.ptr (.hp b) [] 21, .int .i64 line, .int .i64 x, .int .i64 y] s =
      if stS f S line < 0 then some (.int .i64 1, s) else if stS f S line ≠ x then some (.int .i64 3, s) else
        some (.int .i64 0, ⟨s.loc, s.hp.set c (.rw (.agg 38 ((S.set (line - f).toNat y).map (.int .i64))))⟩) := by
  have e := rf_rState h line hl
  have hb := h.rb
  have hc := h.sb
  have h0 := h.f0
  have hn := h.n
  simp only [rfV] at hb
  rw [rf_o D_steadfastref04_Frames_turn rfl]
  by_cases c1 : stS f S line < 0
  · rw [if_pos c1]
    generalize stS f S line = t at *
    simp only [go_sem, e, c1]
  · rw [if_neg c1]
    by_cases c2 : stS f S line = x
    · have hin : ¬ (line < f ∨ (S.length : Int) ≤ line - f) := fun hh => by
        unfold stS at c1
        rw [if_pos hh] at c1
        exact c1 (by decide)
      obtain ⟨k, hk⟩ : ∃ k : Nat, line - f = k := ⟨(line - f).toNat, by omega⟩
      have hkl : k < S.length := by omega
      have hg := get_map (f := V.int .i64) (l := S) hkl 0
      have e1 : IntKind.i64.wrap (line - f) = k := by rw [hk]; exact i64_id (by omega) (by omega)
      rw [if_neg (by simp [c2]), hk, Int.toNat_natCast, List.map_set]
      subst c2
      generalize stS f S line = t at *
      simp only [go_sem, e, c1, hb, e1, sad_r hkl, hc, hg]
    · rw [if_pos c2]
      generalize stS f S line = t at *
      simp only [go_sem, e, c1, c2]
theorem rf_rTake {s : St} {b c : Nat} {f : Int} {S : List Int} (h : Rf s b c f S) (line : Int) (hl : line ≤ 9223372036854775807) :
    rf D f_steadfastref04_Frames_Take [.ptr (.hp b) [] 21, .int .i64 line] s = rf D f_steadfastref04_Frames_turn [.ptr (.hp b) [] 21, .int .i64 line, .int .i64 0, .int .i64 1] s := by
  rw [rf_rturn h line hl 0 1]
  have e := rf_rturn h line hl 0 1
  rw [rf_o D_steadfastref04_Frames_Take rfl]
  by_cases c1 : stS f S line < 0
  · rw [if_pos c1] at e ⊢
    simp only [go_sem, e]
  · rw [if_neg c1] at e ⊢
    by_cases c2 : stS f S line = 0
    · rw [if_neg (by simp [c2])] at e ⊢
      simp only [go_sem, e]
    · rw [if_pos c2] at e ⊢
      simp only [go_sem, e]
theorem rf_rFree {s : St} {b c : Nat} {f : Int} {S : List Int} (h : Rf s b c f S) (line : Int) (hl : line ≤ 9223372036854775807) :
    rf D f_steadfastref04_Frames_Free [.ptr (.hp b) [] 21, .int .i64 line] s = rf D f_steadfastref04_Frames_turn [.ptr (.hp b) [] 21, .int .i64 line, .int .i64 1, .int .i64 0] s := by
  rw [rf_rturn h line hl 1 0]
  have e := rf_rturn h line hl 1 0
  rw [rf_o D_steadfastref04_Frames_Free rfl]
  by_cases c1 : stS f S line < 0
  · rw [if_pos c1] at e ⊢
    simp only [go_sem, e]
  · rw [if_neg c1] at e ⊢
    by_cases c2 : stS f S line = 1
    · rw [if_neg (by simp [c2])] at e ⊢
      simp only [go_sem, e]
    · rw [if_pos c2] at e ⊢
      simp only [go_sem, e]
theorem rf_rLater {s : St} {b c : Nat} {f : Int} {S : List Int} (h : Rf s b c f S) (line : Int) (hl : line ≤ 9223372036854775807) :
    rf D f_steadfastref04_Frames_Later [.ptr (.hp b) [] 21, .int .i64 line] s = rf D f_steadfastref04_Frames_turn [.ptr (.hp b) [] 21, .int .i64 line, .int .i64 1, .int .i64 2] s := by
  rw [rf_rturn h line hl 1 2]
  have e := rf_rturn h line hl 1 2
  rw [rf_o D_steadfastref04_Frames_Later rfl]
  by_cases c1 : stS f S line < 0
  · rw [if_pos c1] at e ⊢
    simp only [go_sem, e]
  · rw [if_neg c1] at e ⊢
    by_cases c2 : stS f S line = 1
    · rw [if_neg (by simp [c2])] at e ⊢
      simp only [go_sem, e]
    · rw [if_pos c2] at e ⊢
      simp only [go_sem, e]

theorem rf_rAlloc {s : St} {b c : Nat} {f : Int} {S : List Int} (h : Rf s b c f S) :
    (∃ k : Nat, k < S.length ∧ S.getD k 0 = 0 ∧ (∀ j, j < k → S.getD j 0 ≠ 0) ∧ rf D f_steadfastref04_Frames_Alloc [.ptr (.hp b) [] 21] s = some (.tup [.int .i64 (f + k), .int .i64 0], ⟨s.loc, s.hp.set c (.rw (.agg 38 ((S.set k 1).map (.int .i64))))⟩)) ∨
      ((∀ j, j < S.length → S.getD j 0 ≠ 0) ∧ rf D f_steadfastref04_Frames_Alloc [.ptr (.hp b) [] 21] s = some (.tup [.int .i64 0, .int .i64 10], s)) := by
  have hb := h.rb
  have hc := h.sb
  have h0 := h.f0
  have hn := h.n
  simp only [rfV] at hb
  have hbc : b ≠ c := fun e => by
    subst e
    rw [hb] at hc
    simp at hc
  have hsb : ∀ x, (s.hp.set c x)[b]? = s.hp[b]? := fun x => List.getElem?_set_ne (Ne.symm hbc)
  have loop : ∃ r, rc D s.loc.length (.loop [0, 4] b_steadfastref04_Frames_Alloc_0) [(0, .ptr (.hp b) [] 21), (4, .int .i64 0)] s = some r ∧
      ((∃ k : Nat, k < S.length ∧ S.getD k 0 = 0 ∧ (∀ j, j < k → S.getD j 0 ≠ 0) ∧ r = (.ret, [(2, .int .i64 (f + k)), (3, .int .i64 0)], ⟨s.loc, s.hp.set c (.rw (.agg 38 ((S.set k 1).map (.int .i64))))⟩)) ∨
        ((∀ j, j < S.length → S.getD j 0 ≠ 0) ∧ r = (.exit 0, [(0, .ptr (.hp b) [] 21), (4, .int .i64 (S.length : Nat)), (11, .bool false)], s))) := by
    refine loop_ex (fun x : Nat => [(0, .ptr (.hp b) [] 21), (4, .int .i64 x)]) (fun _ => s) _ (fun x => S.length - x) (fun x => x ≤ S.length ∧ ∀ j, j < x → S.getD j 0 ≠ 0) 0 ?_ ⟨by omega, fun j hj => by omega⟩ rfl rfl
    rintro i ⟨hi, hz⟩
    by_cases c1 : i < S.length
    · have d1 : (i : Int) < (S.length : Nat) := by omega
      have d4 : IntKind.i64.wrap ((i : Int) + 1) = (i : Int) + 1 := i64_id (by omega) (by omega)
      have d5 : IntKind.i64.wrap (f + (i : Int)) = f + i := i64_id (by omega) (by omega)
      have hg := get_map (f := V.int .i64) (l := S) c1 0
      by_cases hx : S.getD i 0 = 0
      · right
        refine ⟨_, ?_, .inl ⟨i, c1, hx, hz, rfl⟩⟩
        rw [hx] at hg
        rw [List.map_set]
        simp only [go_sem, b_steadfastref04_Frames_Alloc_0, hb, d1, sad_r c1, hc, hg, hsb, d5]
      · left
        refine ⟨i + 1, ⟨by omega, fun j hj => ?_⟩, by omega, ?_⟩
        · by_cases hji : j = i
          · subst hji; exact hx
          · exact hz j (by omega)
        · generalize S.getD i 0 = x at *
          simp only [go_sem, b_steadfastref04_Frames_Alloc_0, hb, d1, sad_r c1, hc, hg, hx, d4]
          rfl
    · right
      have : i = S.length := by omega
      subst this
      refine ⟨_, ?_, .inr ⟨hz, rfl⟩⟩
      have d1 : ¬ ((S.length : Nat) : Int) < (S.length : Nat) := by omega
      simp only [go_sem, b_steadfastref04_Frames_Alloc_0, hb, d1]
  obtain ⟨r, hl, hr⟩ := loop
  rcases hr with ⟨k, h1, h2, h3, rfl⟩ | ⟨h1, rfl⟩
  · left
    refine ⟨k, h1, h2, h3, ?_⟩
    rw [rf_o D_steadfastref04_Frames_Alloc rfl]
    simp only [go_sem, hl]
  · right
    refine ⟨h1, ?_⟩
    rw [rf_o D_steadfastref04_Frames_Alloc rfl]
    simp only [go_sem, hl]
def nz (S : List Int) : Nat → Nat
  | 0 => 0
  | n + 1 => nz S n + if S.getD n 0 = 0 then 1 else 0
theorem nz_le (S : List Int) : ∀ n, nz S n ≤ n
  | 0 => Nat.le_refl _
  | n + 1 => by
    have := nz_le S n
    simp only [nz]
    split <;> omega
theorem rf_rLeft {s : St} {b c : Nat} {f : Int} {S : List Int} (h : Rf s b c f S) : rf D f_steadfastref04_Frames_Left [.ptr (.hp b) [] 21] s = some (.int .i64 (nz S S.length : Nat), s) := by
  have hb := h.rb
  have hc := h.sb
  have h0 := h.f0
  have hn := h.n
  simp only [rfV] at hb
  have loop : rc D s.loc.length (.loop [0, 3, 4] b_steadfastref04_Frames_Left_0) [(0, .ptr (.hp b) [] 21), (3, .int .i64 0), (4, .int .i64 0)] s =
      some (.exit 0, [(0, .ptr (.hp b) [] 21), (3, .int .i64 (nz S S.length : Nat)), (4, .int .i64 (S.length : Nat)), (11, .bool false)], s) := by
    refine loop_runs (fun x : Nat => [(0, .ptr (.hp b) [] 21), (3, .int .i64 (nz S x : Nat)), (4, .int .i64 x)]) (fun _ => s) (fun _ => _) (fun x => S.length - x) (fun x => x ≤ S.length) 0 ?_ (by omega) rfl rfl
    intro i hi
    by_cases c1 : i < S.length
    · left
      have d1 : (i : Int) < (S.length : Nat) := by omega
      have d4 : IntKind.i64.wrap ((i : Int) + 1) = (i : Int) + 1 := i64_id (by omega) (by omega)
      have hg := get_map (f := V.int .i64) (l := S) c1 0
      have hle := nz_le S i
      refine ⟨i + 1, by omega, by omega, rfl, ?_⟩
      simp only [nz]
      generalize S.getD i 0 = x at *
      generalize nz S i = n at *
      by_cases hx : x = 0
      · have d5 : IntKind.i64.wrap ((n : Int) + 1) = ((n + 1 : Nat) : Int) := by rw [i64_id (by omega) (by omega)]; omega
        rw [if_pos hx]
        simp only [go_sem, b_steadfastref04_Frames_Left_0, hb, d1, sad_r c1, hc, hg, hx, d4, d5]
        rfl
      · rw [if_neg hx, Nat.add_zero]
        simp only [go_sem, b_steadfastref04_Frames_Left_0, hb, d1, sad_r c1, hc, hg, hx, d4]
        rfl
    · right
      have : i = S.length := by omega
      subst this
      have d1 : ¬ ((S.length : Nat) : Int) < (S.length : Nat) := by omega
      simp only [go_sem, b_steadfastref04_Frames_Left_0, hb, d1]
  rw [rf_o D_steadfastref04_Frames_Left rfl]
  simp only [go_sem, loop]
theorem getD_setI {B : List Int} {i j : Nat} {v : Int} (hi : i < B.length) : (B.set i v).getD j 0 = if i = j then v else B.getD j 0 := by
  rw [List.getD_eq_getElem?_getD, List.getD_eq_getElem?_getD, List.getElem?_set]
  by_cases h : i = j
  · subst h; simp [hi]
  · simp [h]
theorem set_same {l : List Blk} {a : Nat} {x : Blk} (h : l[a]? = some x) : l.set a x = l := by
  have ha := (List.getElem?_eq_some_iff.1 h).1
  apply List.ext_getElem?
  intro j
  by_cases e : a = j
  · subst e; rw [List.getElem?_set_self ha]; exact h.symm
  · rw [List.getElem?_set_ne e]
theorem rf_rSettle {s : St} {b c : Nat} {f : Int} {S : List Int} (h : Rf s b c f S) :
    ∃ S' : List Int, S'.length = S.length ∧ (∀ j, j < S.length → S'.getD j 0 = if S.getD j 0 = 2 then 0 else S.getD j 0) ∧
      rf D f_steadfastref04_Frames_Settle [.ptr (.hp b) [] 21] s = some (.tup [], ⟨s.loc, s.hp.set c (.rw (.agg 38 (S'.map (.int .i64))))⟩) := by
  have hb := h.rb
  have hc := h.sb
  have h0 := h.f0
  have hn := h.n
  have hcl := (List.getElem?_eq_some_iff.1 hc).1
  simp only [rfV] at hb
  have hbc : b ≠ c := fun e => by
    subst e
    rw [hb] at hc
    simp at hc
  have hsb : ∀ x, (s.hp.set c x)[b]? = s.hp[b]? := fun x => List.getElem?_set_ne (Ne.symm hbc)
  have hsc : ∀ x, (s.hp.set c x)[c]? = some x := fun x => List.getElem?_set_self hcl
  have loop : ∃ r, rc D s.loc.length (.loop [0, 2] b_steadfastref04_Frames_Settle_0) [(0, .ptr (.hp b) [] 21), (2, .int .i64 0)] ⟨s.loc, s.hp.set c (.rw (.agg 38 (S.map (.int .i64))))⟩ = some r ∧
      ∃ S' : List Int, r = (.exit 0, [(0, .ptr (.hp b) [] 21), (2, .int .i64 (S.length : Nat)), (9, .bool false)], ⟨s.loc, s.hp.set c (.rw (.agg 38 (S'.map (.int .i64))))⟩) ∧ S'.length = S.length ∧ ∀ j, j < S.length → S'.getD j 0 = if S.getD j 0 = 2 then 0 else S.getD j 0 := by
    refine loop_ex (fun x : Nat × List Int => [(0, .ptr (.hp b) [] 21), (2, .int .i64 x.1)]) (fun x => ⟨s.loc, s.hp.set c (.rw (.agg 38 (x.2.map (.int .i64))))⟩) _ (fun x => S.length - x.1)
      (fun x => x.1 ≤ S.length ∧ x.2.length = S.length ∧ ∀ j, j < S.length → x.2.getD j 0 = if j < x.1 ∧ S.getD j 0 = 2 then 0 else S.getD j 0) (0, S) ?_ ⟨by simp, rfl, fun j hj => by simp⟩ rfl rfl
    rintro ⟨i, T⟩ ⟨hi, hT, hj⟩
    simp only at hi hT hj
    by_cases c1 : i < S.length
    · left
      have d1 : (i : Int) < (S.length : Nat) := by omega
      have d4 : IntKind.i64.wrap ((i : Int) + 1) = (i : Int) + 1 := i64_id (by omega) (by omega)
      have hg := get_map (f := V.int .i64) (l := T) (i := i) (by omega) 0
      have hii := hj i c1
      rw [if_neg (by omega)] at hii
      by_cases hx : T.getD i 0 = 2
      · refine ⟨(i + 1, T.set i 0), ⟨by simp only; omega, by simpa using hT, fun j h => ?_⟩, by simp only; omega, ?_⟩
        · simp only
          rw [getD_setI (by omega), hj j h]
          by_cases hij : i = j
          · subst hij
            rw [if_pos rfl, if_pos ⟨by omega, by rw [← hii]; exact hx⟩]
          · rw [if_neg hij]
            have : (j < i + 1 ∧ S.getD j 0 = 2) ↔ (j < i ∧ S.getD j 0 = 2) := ⟨fun h => ⟨by omega, h.2⟩, fun h => ⟨by omega, h.2⟩⟩
            simp only [this]
        · rw [hx] at hg
          simp only [List.map_set]
          simp only [go_sem, b_steadfastref04_Frames_Settle_0, hsb, hb, d1, sad_r c1, hsc, hg, d4, List.set_set]
          rfl
      · refine ⟨(i + 1, T), ⟨by simp only; omega, hT, fun j h => ?_⟩, by simp only; omega, ?_⟩
        · simp only
          rw [hj j h]
          by_cases hij : i = j
          · subst hij
            rw [hii] at hx
            rw [if_neg (fun h => hx h.2), if_neg (fun h => hx h.2)]
          · have : (j < i + 1 ∧ S.getD j 0 = 2) ↔ (j < i ∧ S.getD j 0 = 2) := ⟨fun h => ⟨by omega, h.2⟩, fun h => ⟨by omega, h.2⟩⟩
            simp only [this]
        · generalize T.getD i 0 = x at *
          simp only [go_sem, b_steadfastref04_Frames_Settle_0, hsb, hb, d1, sad_r c1, hsc, hg, hx, d4]
          rfl
    · right
      have : i = S.length := by omega
      subst this
      have d1 : ¬ ((S.length : Nat) : Int) < (S.length : Nat) := by omega
      refine ⟨_, ?_, T, rfl, hT, fun j h => ?_⟩
      · simp only [go_sem, b_steadfastref04_Frames_Settle_0, hsb, hb, d1]
      · rw [hj j h]
        simp [h]
  obtain ⟨_, hl, S', rfl, h1, h2⟩ := loop
  rw [set_same hc] at hl
  refine ⟨S', h1, h2, ?_⟩
  have hl' : rc D s.loc.length (.loop [0, 2] b_steadfastref04_Frames_Settle_0) [(0, .ptr (.hp b) [] 21), (2, .int .i64 0)] s = _ := hl
  rw [rf_o D_steadfastref04_Frames_Settle rfl]
  simp only [go_sem, hl']
theorem rf_rNew_err (f l : Int) (h : f < 0 ∨ l < f ∨ 1024 < l) (s : St) : rf D f_steadfastref04_New [.int .i64 f, .int .i64 l] s = some (.tup [.nilp, .int .i64 1], s) := by
  rw [rf_o D_steadfastref04_New rfl]
  by_cases h1 : f < 0
  · simp only [go_sem, h1]
  · by_cases h2 : l < f
    · simp only [go_sem, h1, h2]
    · have h3 : 1024 < l := by omega
      simp only [go_sem, h1, h2, h3]
theorem rf_rNew_ok (f l : Int) (h0 : 0 ≤ f) (h1 : f ≤ l) (h2 : l ≤ 1024) (s : St) :
    rf D f_steadfastref04_New [.int .i64 f, .int .i64 l] s = some (.tup [.ptr (.hp (s.hp.length + 1)) [] 21, .int .i64 0], ⟨s.loc, s.hp ++ [.rw (.agg 38 (List.replicate (l - f).toNat (.int .i64 0))), .rw (rfV f s.hp.length (l - f).toNat)]⟩) := by
  have c1 : ¬ f < 0 := by omega
  have c2 : ¬ l < f := by omega
  have c3 : ¬ 1024 < l := by omega
  obtain ⟨n, hn⟩ : ∃ n : Nat, l - f = n := ⟨(l - f).toNat, by omega⟩
  have e1 : IntKind.i64.wrap (l - f) = n := by rw [hn]; exact i64_id (by omega) (by omega)
  have hm : (n : Int) ≤ (most : Nat) := by unfold most; omega
  have d0 : (0 : Int) ≤ n := by omega
  rw [hn, Int.toNat_natCast, rf_o D_steadfastref04_New rfl]
  simp only [rfV]
  simp only [go_sem, c1, c2, c3, e1, hm, d0, Int.le_refl]
  rw [Int.toNat_natCast]
theorem rf_Clone {s : St} {a : Nat} {f l : Int} {wf wl : List Nat} (h : Fr s a f l wf wl) :
    rf D f_frames_Frames_Clone [.ptr (.hp a) [] 80] s = some (.ptr (.hp s.hp.length) [] 80, ⟨s.loc, s.hp ++ [.rw (frV f l wf wl)]⟩) := by
  have hb := h.blk
  simp only [frV] at hb ⊢
  rw [rf_o D_frames_Frames_Clone rfl]
  simp only [go_sem, hb]
end Go.Proofs.YtfdaihhnlohckaaDoor
