/-
  FramesC: how a line stands; Take, Free, Later; Alloc.
-/
import Derived.Test.YtfdaihhnlohckaaDoorF2
set_option maxRecDepth 100000
namespace Go.Proofs.YtfdaihhnlohckaaDoor
open Go.Ab

def stOf (f l : Int) (wf wl : List Nat) (line : Int) : Int :=
  if line < f ∨ l ≤ line then -1 else if bit wf line.toNat then 0 else if bit wl line.toNat then 2 else 1
/-- A block of frames. -/
structure Fr (s : St) (a : Nat) (f l : Int) (wf wl : List Nat) : Prop where
  blk : s.hp[a]? = some (.rw (frV f l wf wl))
  f0 : 0 ≤ f
  l1 : l ≤ 1024
  okf : OkS wf
  okl : OkS wl
theorem rf_State {s : St} {a : Nat} {f l : Int} {wf wl : List Nat} (h : Fr s a f l wf wl) (line : Int) :
    rf D f_frames_Frames_State [.ptr (.hp a) [] 80, .int .i64 line] s = some (.int .i64 (stOf f l wf wl line), s) := by
  have hb := h.blk
  have h0 := h.f0
  have h1 := h.l1
  unfold stOf
  simp only [frV] at hb
  by_cases c1 : line < f
  · rw [if_pos (.inl c1), rf_o D_frames_Frames_State rfl]
    simp only [go_sem, hb, c1]
  · by_cases c2 : l ≤ line
    · rw [if_pos (.inr c2), rf_o D_frames_Frames_State rfl]
      simp only [go_sem, hb, c1, c2]
    · rw [if_neg (by omega)]
      obtain ⟨i, rfl⟩ : ∃ i : Nat, line = i := ⟨line.toNat, by omega⟩
      have e1 := rf_has2 s a _ _ _ wf h.okf hb i (by omega)
      have e2 := rf_has3 s a _ _ _ wl h.okl hb i (by omega)
      rw [Int.toNat_natCast, rf_o D_frames_Frames_State rfl]
      simp only [go_sem, hb, c1, c2, e1]
      cases bit wf i
      · simp only [go_sem, e2]
      · simp only [go_sem]
def inE (st want : Int) : Int := if st = -1 then 1 else if st = want then 0 else 3
theorem rf_in {s : St} {a : Nat} {f l : Int} {wf wl : List Nat} (h : Fr s a f l wf wl) (line want : Int) :
    rf D f_frames_Frames_in [.ptr (.hp a) [] 80, .int .i64 line, .int .i64 want] s = some (.int .i64 (inE (stOf f l wf wl line) want), s) := by
  have e := rf_State h line
  unfold inE
  generalize stOf f l wf wl line = t at *
  rw [rf_o D_frames_Frames_in rfl]
  by_cases c1 : t = -1
  · simp only [go_sem, e, c1]
  · by_cases c2 : t = want
    · subst c2
      simp only [go_sem, e, c1]
    · simp only [go_sem, e, c1, c2]
theorem line_of {f l : Int} {wf wl : List Nat} {line : Int} (h : stOf f l wf wl line ≠ -1) : f ≤ line ∧ line < l := by
  unfold stOf at h
  split at h
  · exact absurd rfl h
  · omega
theorem rf_Take_ok {s : St} {a : Nat} {f l : Int} {wf wl : List Nat} (h : Fr s a f l wf wl) (line : Int) (ht : stOf f l wf wl line = 0) :
    rf D f_frames_Frames_Take [.ptr (.hp a) [] 80, .int .i64 line] s = some (.int .i64 0, ⟨s.loc, s.hp.set a (.rw (frV f l (flip wf line.toNat) wl))⟩) := by
  have e := rf_in h line 0
  rw [ht] at e
  have hl := line_of (show stOf f l wf wl line ≠ -1 by rw [ht]; decide)
  have h0 := h.f0
  have h1 := h.l1
  obtain ⟨i, rfl⟩ : ∃ i : Nat, line = i := ⟨line.toNat, by omega⟩
  have hb := h.blk
  simp only [frV] at hb ⊢
  have e1 := rf_turn2 s a _ _ _ wf h.okf hb i (by omega)
  rw [Int.toNat_natCast, rf_o D_frames_Frames_Take rfl]
  have hi : inE 0 0 = 0 := rfl
  simp only [go_sem, e, hi, e1]
theorem rf_Take_no {s : St} {a : Nat} {f l : Int} {wf wl : List Nat} (h : Fr s a f l wf wl) (line : Int) (ht : stOf f l wf wl line ≠ 0) :
    rf D f_frames_Frames_Take [.ptr (.hp a) [] 80, .int .i64 line] s = some (.int .i64 (inE (stOf f l wf wl line) 0), s) := by
  have e := rf_in h line 0
  have hn : ¬ inE (stOf f l wf wl line) 0 = 0 := by unfold inE; split <;> simp_all
  rw [rf_o D_frames_Frames_Take rfl]
  simp only [go_sem, e, hn]
theorem rf_Free_ok {s : St} {a : Nat} {f l : Int} {wf wl : List Nat} (h : Fr s a f l wf wl) (line : Int) (ht : stOf f l wf wl line = 1) :
    rf D f_frames_Frames_Free [.ptr (.hp a) [] 80, .int .i64 line] s = some (.int .i64 0, ⟨s.loc, s.hp.set a (.rw (frV f l (flip wf line.toNat) wl))⟩) := by
  have e := rf_in h line 1
  rw [ht] at e
  have hl := line_of (show stOf f l wf wl line ≠ -1 by rw [ht]; decide)
  have h0 := h.f0
  have h1 := h.l1
  obtain ⟨i, rfl⟩ : ∃ i : Nat, line = i := ⟨line.toNat, by omega⟩
  have hb := h.blk
  simp only [frV] at hb ⊢
  have e1 := rf_turn2 s a _ _ _ wf h.okf hb i (by omega)
  rw [Int.toNat_natCast, rf_o D_frames_Frames_Free rfl]
  have hi : inE 1 1 = 0 := rfl
  simp only [go_sem, e, hi, e1]
theorem rf_Free_no {s : St} {a : Nat} {f l : Int} {wf wl : List Nat} (h : Fr s a f l wf wl) (line : Int) (ht : stOf f l wf wl line ≠ 1) :
    rf D f_frames_Frames_Free [.ptr (.hp a) [] 80, .int .i64 line] s = some (.int .i64 (inE (stOf f l wf wl line) 1), s) := by
  have e := rf_in h line 1
  have hn : ¬ inE (stOf f l wf wl line) 1 = 0 := by unfold inE; split <;> simp_all
  rw [rf_o D_frames_Frames_Free rfl]
  simp only [go_sem, e, hn]
theorem rf_Later_ok {s : St} {a : Nat} {f l : Int} {wf wl : List Nat} (h : Fr s a f l wf wl) (line : Int) (ht : stOf f l wf wl line = 1) :
    rf D f_frames_Frames_Later [.ptr (.hp a) [] 80, .int .i64 line] s = some (.int .i64 0, ⟨s.loc, s.hp.set a (.rw (frV f l wf (flip wl line.toNat)))⟩) := by
  have e := rf_in h line 1
  rw [ht] at e
  have hl := line_of (show stOf f l wf wl line ≠ -1 by rw [ht]; decide)
  have h0 := h.f0
  have h1 := h.l1
  obtain ⟨i, rfl⟩ : ∃ i : Nat, line = i := ⟨line.toNat, by omega⟩
  have hb := h.blk
  simp only [frV] at hb ⊢
  have e1 := rf_turn3 s a _ _ _ wl h.okl hb i (by omega)
  rw [Int.toNat_natCast, rf_o D_frames_Frames_Later rfl]
  have hi : inE 1 1 = 0 := rfl
  simp only [go_sem, e, hi, e1]
theorem rf_Later_no {s : St} {a : Nat} {f l : Int} {wf wl : List Nat} (h : Fr s a f l wf wl) (line : Int) (ht : stOf f l wf wl line ≠ 1) :
    rf D f_frames_Frames_Later [.ptr (.hp a) [] 80, .int .i64 line] s = some (.int .i64 (inE (stOf f l wf wl line) 1), s) := by
  have e := rf_in h line 1
  have hn : ¬ inE (stOf f l wf wl line) 1 = 0 := by unfold inE; split <;> simp_all
  rw [rf_o D_frames_Frames_Later rfl]
  simp only [go_sem, e, hn]
/-- The first line of a set. -/
structure First (w : List Nat) (n : Nat) : Prop where
  lt : n < 1024
  set : bit w n = true
  less : ∀ j, j < n → bit w j = false
def Empty (w : List Nat) : Prop := ∀ j, j < 1024 → bit w j = false
theorem zero_bits {x : Nat} (h : x = 0) (i : Nat) : x.testBit i = false := by subst h; exact Nat.zero_testBit i
theorem rf_Alloc {s : St} {a : Nat} {f l : Int} {wf wl : List Nat} (h : Fr s a f l wf wl) (hG : s.hp[0]? = some (.ro globV_0)) :
    (∃ n, First wf n ∧ rf D f_frames_Frames_Alloc [.ptr (.hp a) [] 80] s = some (.tup [.int .i64 n, .int .i64 0], ⟨s.loc, s.hp.set a (.rw (frV f l (flip wf n) wl))⟩)) ∨
      (Empty wf ∧ rf D f_frames_Frames_Alloc [.ptr (.hp a) [] 80] s = some (.tup [.int .i64 0, .int .i64 10], s)) := by
  have hb := h.blk
  have hlen := h.okf.len
  simp only [frV] at hb ⊢
  have loop : ∃ r, rc D s.loc.length (.loop [0, 10, 11] b_frames_Frames_Alloc_0) [(0, .ptr (.hp a) [] 80), (10, .agg 78 (wf.map cN)), (11, .int .i64 0)] s = some r ∧
      ((∃ n : Nat, First wf n ∧ r = (.ret, [(2, .int .i64 n), (3, .int .i64 0)], ⟨s.loc, s.hp.set a (.rw (.agg 80 [.int .i64 f, .int .i64 l, .agg 78 ((flip wf n).map cN), .agg 78 (wl.map cN)]))⟩)) ∨
        (Empty wf ∧ r = (.exit 0, [(0, .ptr (.hp a) [] 80), (10, .agg 78 (wf.map cN)), (11, .int .i64 16), (12, .bool false)], s))) := by
    refine loop_ex (fun x : Nat => [(0, .ptr (.hp a) [] 80), (10, .agg 78 (wf.map cN)), (11, .int .i64 x)]) (fun _ => s) _ (fun x => 16 - x)
      (fun x => x ≤ 16 ∧ ∀ j, j < 64 * x → bit wf j = false) 0 ?_ ⟨by omega, fun j hj => by omega⟩ rfl rfl
    rintro i ⟨hi, hz⟩
    by_cases c1 : i < 16
    · have d1 : (i : Int) < 16 := by omega
      have d2 : (0 : Int) ≤ i := by omega
      have d4 : IntKind.i64.wrap ((i : Int) + 1) = (i : Int) + 1 := i64_id (by omega) (by omega)
      have hg := get_map (f := cN) (l := wf) (i := i) (by omega) 0
      have hlt := h.okf.get c1
      by_cases hw : wf.getD i 0 = 0
      · left
        refine ⟨i + 1, ⟨by omega, fun j hj => ?_⟩, by omega, ?_⟩
        · by_cases hj2 : j < 64 * i
          · exact hz j hj2
          · have e : j / 64 = i := by omega
            unfold bit
            rw [e]
            exact zero_bits hw _
        · rw [hw] at hg
          simp only [go_sem, b_frames_Frames_Alloc_0, d1, d2]
          rw [Int.toNat_natCast]
          simp only [go_sem, hg, d4]
          rfl
      · right
        obtain ⟨k, hk, htz⟩ := rf_tz _ hw hlt s hG
        have hk64 := hk.lt
        have hfirst : First wf (64 * i + k) := by
          refine ⟨by omega, ?_, fun j hj => ?_⟩
          · unfold bit
            rw [show (64 * i + k) / 64 = i by omega, show (64 * i + k) % 64 = k by omega]
            exact hk.set
          · by_cases hj2 : j < 64 * i
            · exact hz j hj2
            · unfold bit
              rw [show j / 64 = i by omega]
              exact hk.less _ (by omega)
        have e1 := rf_turn2 s a _ _ _ wf h.okf hb (64 * i + k) hfirst.lt
        refine ⟨_, ?_, .inl ⟨64 * i + k, hfirst, rfl⟩⟩
        have e2 : IntKind.i64.wrap (64 * (i : Int)) = 64 * (i : Int) := i64_id (by omega) (by omega)
        have e3 : IntKind.i64.wrap (64 * (i : Int) + (k : Int)) = ((64 * i + k : Nat) : Int) := by rw [i64_id (by omega) (by omega)]; omega
        have hw' : ¬ ((wf.getD i 0 : Nat) : Int) = 0 := by omega
        generalize 64 * i + k = n at *
        generalize wf.getD i 0 = x at *
        simp only [go_sem, b_frames_Frames_Alloc_0, d1, d2]
        rw [Int.toNat_natCast]
        simp only [go_sem, hg, hw', htz, e2, e3, e1]
    · right
      have : i = 16 := by omega
      subst this
      refine ⟨_, ?_, .inr ⟨fun j hj => hz j (by omega), rfl⟩⟩
      simp only [go_sem, b_frames_Frames_Alloc_0]
  obtain ⟨r, hl, hr⟩ := loop
  rcases hr with ⟨n, hn, rfl⟩ | ⟨hn, rfl⟩
  · left
    refine ⟨n, hn, ?_⟩
    rw [rf_o D_frames_Frames_Alloc rfl]
    simp only [go_sem, hb, hl]
  · right
    refine ⟨hn, ?_⟩
    rw [rf_o D_frames_Frames_Alloc rfl]
    simp only [go_sem, hb, hl]
end Go.Proofs.YtfdaihhnlohckaaDoor
