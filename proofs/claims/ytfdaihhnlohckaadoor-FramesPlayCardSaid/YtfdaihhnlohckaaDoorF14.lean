/-
  FramesN: each call, at both.
-/
import Derived.Test.YtfdaihhnlohckaaDoorF13
set_option maxRecDepth 100000
namespace Go.Proofs.YtfdaihhnlohckaaDoor
open Go.Ab

/-- What a call leaves. -/
def Keep (hp hp' : List Blk) (a c : Nat) : Prop := hp'.length = hp.length ∧ ∀ i, i ≠ a → i ≠ c → hp'[i]? = hp[i]?
theorem Keep.refl {hp : List Blk} {a c : Nat} : Keep hp hp a c := ⟨rfl, fun _ _ _ => rfl⟩
theorem keep_set {hp : List Blk} {a c : Nat} {x y : Blk} : Keep hp ((hp.set a x).set c y) a c :=
  ⟨by simp, fun i h1 h2 => by rw [List.getElem?_set_ne (Ne.symm h2), List.getElem?_set_ne (Ne.symm h1)]⟩
section
variable {hp : List Blk} {a b c : Nat} {f l : Int} {wf wl : List Nat} {S : List Int}
theorem Pl.rrA (h : Pl hp a b c f l wf wl S) {L : List Blk} {x : Blk} : Rf ⟨L, hp.set a x⟩ b c f S := by
  obtain ⟨h1, h2, _⟩ := h.ab
  exact ⟨by rw [List.getElem?_set_ne h1]; exact h.rb, by rw [List.getElem?_set_ne h2]; exact h.sb, h.f0, (h.rr (L := L)).n⟩
theorem Pl.zero (h : Pl hp a b c f l wf wl S) {k : Nat} (hk : k < S.length) : S.getD k 0 = 0 ↔ bit wf (f.toNat + k) = true := by
  rw [h.eq k hk]
  cases bit wf (f.toNat + k)
  · cases bit wl (f.toNat + k) <;> simp
  · simp
theorem Pl.allocs (h : Pl hp a b c f l wf wl S) (hG : hp[0]? = some (.ro globV_0)) (L : List Blk) : ∃ (x e : Int) (hp1 hp' : List Blk) (wf' : List Nat) (S' : List Int),
    rf D f_frames_Frames_Alloc [.ptr (.hp a) [] 80] ⟨L, hp⟩ = some (.tup [.int .i64 x, .int .i64 e], ⟨L, hp1⟩) ∧
    rf D f_steadfastref04_Frames_Alloc [.ptr (.hp b) [] 21] ⟨L, hp1⟩ = some (.tup [.int .i64 x, .int .i64 e], ⟨L, hp'⟩) ∧ Pl hp' a b c f l wf' wl S' ∧ Keep hp hp' a c := by
  have h0 := h.f0
  have hl := h.len
  have h1 := h.l1
  rcases rf_Alloc (h.fr (L := L)) hG with ⟨n, hn, ha⟩ | ⟨he, ha⟩
  · have hin := h.inf n hn.lt hn.set
    rcases rf_rAlloc (h.rrA (L := L) (x := .rw (frV f l (flip wf n) wl))) with ⟨k, k1, k2, k3, hr⟩ | ⟨k1, hr⟩
    · have hbk := (h.zero k1).1 k2
      have hnk : n = f.toNat + k := first_unique hn (by omega) hbk fun j hj => by
        cases hb : bit wf j
        · rfl
        · have g := h.inf j (by omega) hb
          have := (h.zero (k := j - f.toNat) (by omega)).2 (by rw [show f.toNat + (j - f.toNat) = j by omega]; exact hb)
          exact absurd this (k3 _ (by omega))
      have hx : f + (k : Int) = n := by omega
      rw [hx] at hr
      exact ⟨n, 0, _, _, _, _, ha, hr, h.take hnk k1 hn.set, keep_set⟩
    · have := (h.zero (k := n - f.toNat) (by omega)).2 (by rw [show f.toNat + (n - f.toNat) = n by omega]; exact hn.set)
      exact absurd this (k1 _ (by omega))
  · rcases rf_rAlloc (h.rr (L := L)) with ⟨k, k1, k2, k3, hr⟩ | ⟨k1, hr⟩
    · have hbk := (h.zero k1).1 k2
      rw [he _ (by omega)] at hbk
      cases hbk
    · exact ⟨0, 10, hp, hp, wf, S, ha, hr, h, .refl⟩
theorem stOf_one {f l : Int} {wf wl : List Nat} {line : Int} (h : stOf f l wf wl line = 1) : f ≤ line ∧ line < l ∧ bit wf line.toNat = false ∧ bit wl line.toNat = false := by
  unfold stOf at h
  split at h
  · cases h
  · cases hb : bit wf line.toNat
    · cases hc : bit wl line.toNat
      · exact ⟨by omega, by omega, rfl, rfl⟩
      · rw [hb, hc] at h; simp at h
    · rw [hb] at h; simp at h
theorem stOf_zero {f l : Int} {wf wl : List Nat} {line : Int} (h : stOf f l wf wl line = 0) : f ≤ line ∧ line < l ∧ bit wf line.toNat = true := by
  unfold stOf at h
  split at h
  · cases h
  · cases hb : bit wf line.toNat
    · cases hc : bit wl line.toNat <;> (rw [hb, hc] at h; simp at h)
    · exact ⟨by omega, by omega, rfl⟩
theorem stOf_neg {f l : Int} {wf wl : List Nat} {line : Int} : stOf f l wf wl line < 0 ↔ stOf f l wf wl line = -1 := by
  unfold stOf
  split
  · simp
  · cases bit wf line.toNat <;> cases bit wl line.toNat <;> simp
theorem inE_of {f l : Int} {wf wl : List Nat} {line x : Int} (h : stOf f l wf wl line ≠ x) : inE (stOf f l wf wl line) x = if stOf f l wf wl line < 0 then 1 else 3 := by
  unfold inE
  by_cases h1 : stOf f l wf wl line = -1
  · rw [if_pos h1, if_pos (stOf_neg.2 h1)]
  · rw [if_neg h1, if_neg h, if_neg (fun h2 => h1 (stOf_neg.1 h2))]
theorem Pl.takes (h : Pl hp a b c f l wf wl S) (line : Int) (hl : line ≤ 9223372036854775807) (L : List Blk) : ∃ (e : Int) (hp1 hp' : List Blk) (wf' : List Nat) (S' : List Int),
    rf D f_frames_Frames_Take [.ptr (.hp a) [] 80, .int .i64 line] ⟨L, hp⟩ = some (.int .i64 e, ⟨L, hp1⟩) ∧
    rf D f_steadfastref04_Frames_Take [.ptr (.hp b) [] 21, .int .i64 line] ⟨L, hp1⟩ = some (.int .i64 e, ⟨L, hp'⟩) ∧ Pl hp' a b c f l wf' wl S' ∧ Keep hp hp' a c := by
  have h0 := h.f0
  have hlen := h.len
  by_cases hs : stOf f l wf wl line = 0
  · obtain ⟨g1, g2, g3⟩ := stOf_zero hs
    have r1 := rf_Take_ok (h.fr (L := L)) line hs
    have r2 := (rf_rTake (h.rrA (L := L) (x := .rw (frV f l (flip wf line.toNat) wl))) line hl).trans (rf_rturn (h.rrA (L := L)) line hl 0 1)
    rw [h.same, hs, if_neg (by decide), if_neg (by simp)] at r2
    exact ⟨0, _, _, _, _, r1, r2, h.take (k := (line - f).toNat) (by omega) (by omega) g3, keep_set⟩
  · have r1 := rf_Take_no (h.fr (L := L)) line hs
    have r2 := (rf_rTake (h.rr (L := L)) line hl).trans (rf_rturn (h.rr (L := L)) line hl 0 1)
    rw [inE_of hs] at r1
    rw [h.same, if_pos hs] at r2
    refine ⟨_, hp, hp, wf, S, r1, ?_, h, .refl⟩
    rw [r2]
    split <;> rfl
theorem Pl.frees (h : Pl hp a b c f l wf wl S) (line : Int) (hl : line ≤ 9223372036854775807) (L : List Blk) : ∃ (e : Int) (hp1 hp' : List Blk) (wf' : List Nat) (S' : List Int),
    rf D f_frames_Frames_Free [.ptr (.hp a) [] 80, .int .i64 line] ⟨L, hp⟩ = some (.int .i64 e, ⟨L, hp1⟩) ∧
    rf D f_steadfastref04_Frames_Free [.ptr (.hp b) [] 21, .int .i64 line] ⟨L, hp1⟩ = some (.int .i64 e, ⟨L, hp'⟩) ∧ Pl hp' a b c f l wf' wl S' ∧ Keep hp hp' a c := by
  have h0 := h.f0
  have hlen := h.len
  by_cases hs : stOf f l wf wl line = 1
  · obtain ⟨g1, g2, g3, g4⟩ := stOf_one hs
    have r1 := rf_Free_ok (h.fr (L := L)) line hs
    have r2 := (rf_rFree (h.rrA (L := L) (x := .rw (frV f l (flip wf line.toNat) wl))) line hl).trans (rf_rturn (h.rrA (L := L)) line hl 1 0)
    rw [h.same, hs, if_neg (by decide), if_neg (by simp)] at r2
    exact ⟨0, _, _, _, _, r1, r2, h.free (k := (line - f).toNat) (by omega) (by omega) g3 g4, keep_set⟩
  · have r1 := rf_Free_no (h.fr (L := L)) line hs
    have r2 := (rf_rFree (h.rr (L := L)) line hl).trans (rf_rturn (h.rr (L := L)) line hl 1 0)
    rw [inE_of hs] at r1
    rw [h.same, if_pos hs] at r2
    refine ⟨_, hp, hp, wf, S, r1, ?_, h, .refl⟩
    rw [r2]
    split <;> rfl
theorem Pl.laters (h : Pl hp a b c f l wf wl S) (line : Int) (hl : line ≤ 9223372036854775807) (L : List Blk) : ∃ (e : Int) (hp1 hp' : List Blk) (wl' : List Nat) (S' : List Int),
    rf D f_frames_Frames_Later [.ptr (.hp a) [] 80, .int .i64 line] ⟨L, hp⟩ = some (.int .i64 e, ⟨L, hp1⟩) ∧
    rf D f_steadfastref04_Frames_Later [.ptr (.hp b) [] 21, .int .i64 line] ⟨L, hp1⟩ = some (.int .i64 e, ⟨L, hp'⟩) ∧ Pl hp' a b c f l wf wl' S' ∧ Keep hp hp' a c := by
  have h0 := h.f0
  have hlen := h.len
  by_cases hs : stOf f l wf wl line = 1
  · obtain ⟨g1, g2, g3, g4⟩ := stOf_one hs
    have r1 := rf_Later_ok (h.fr (L := L)) line hs
    have r2 := (rf_rLater (h.rrA (L := L) (x := .rw (frV f l wf (flip wl line.toNat)))) line hl).trans (rf_rturn (h.rrA (L := L)) line hl 1 2)
    rw [h.same, hs, if_neg (by decide), if_neg (by simp)] at r2
    exact ⟨0, _, _, _, _, r1, r2, h.later (k := (line - f).toNat) (by omega) (by omega) g3 g4, keep_set⟩
  · have r1 := rf_Later_no (h.fr (L := L)) line hs
    have r2 := (rf_rLater (h.rr (L := L)) line hl).trans (rf_rturn (h.rr (L := L)) line hl 1 2)
    rw [inE_of hs] at r1
    rw [h.same, if_pos hs] at r2
    refine ⟨_, hp, hp, wl, S, r1, ?_, h, .refl⟩
    rw [r2]
    split <;> rfl
theorem Pl.settles (h : Pl hp a b c f l wf wl S) (L : List Blk) : ∃ (hp1 hp' : List Blk) (wf' : List Nat) (S' : List Int),
    rf D f_frames_Frames_Settle [.ptr (.hp a) [] 80] ⟨L, hp⟩ = some (.tup [], ⟨L, hp1⟩) ∧
    rf D f_steadfastref04_Frames_Settle [.ptr (.hp b) [] 21] ⟨L, hp1⟩ = some (.tup [], ⟨L, hp'⟩) ∧ Pl hp' a b c f l wf' (w16 []) S' ∧ Keep hp hp' a c := by
  obtain ⟨w, hokw, hbw, r1⟩ := rf_Settle (h.fr (L := L))
  obtain ⟨S', s1, s2, r2⟩ := rf_rSettle (h.rrA (L := L) (x := .rw (frV f l w (w16 []))))
  exact ⟨_, _, _, _, r1, r2, h.settle hokw hbw s1 s2, keep_set⟩
end
end Go.Proofs.YtfdaihhnlohckaaDoor
