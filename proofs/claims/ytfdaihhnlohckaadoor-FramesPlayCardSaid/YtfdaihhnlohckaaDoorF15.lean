/-
  FramesO: what FramesPlay's loops want.
-/
import Derived.Test.YtfdaihhnlohckaaDoorF14
set_option maxRecDepth 100000
namespace Go.Proofs.YtfdaihhnlohckaaDoor
open Go.Ab

theorem pre_keep {hp0 hp hp' : List Blk} {a c : Nat} (h : hp0 <+: hp) (hk : Keep hp hp' a c) (ha : hp0.length ≤ a) (hc : hp0.length ≤ c) : hp0 <+: hp' := by
  have e : hp'.take hp0.length = hp0 := by
    apply List.ext_getElem?
    intro i
    rw [List.getElem?_take]
    by_cases hi : i < hp0.length
    · rw [if_pos hi, hk.2 i (by omega) (by omega)]
      obtain ⟨t, rfl⟩ := h
      rw [List.getElem?_append_left hi]
    · rw [if_neg hi, List.getElem?_eq_none (by omega)]
  rw [← e]
  exact List.take_prefix _ _
/-- An Alloc changes its own block alone. -/
theorem old_alloc {s : St} {a : Nat} {f l : Int} {wf wl : List Nat} (h : Fr s a f l wf wl) (hG : s.hp[0]? = some (.ro globV_0)) :
    ∃ (x e : Int) (hp' : List Blk) (wf' : List Nat), rf D f_frames_Frames_Alloc [.ptr (.hp a) [] 80] s = some (.tup [.int .i64 x, .int .i64 e], ⟨s.loc, hp'⟩) ∧ Fr ⟨s.loc, hp'⟩ a f l wf' wl ∧ Keep s.hp hp' a a := by
  have ha := (List.getElem?_eq_some_iff.1 h.blk).1
  rcases rf_Alloc h hG with ⟨n, hn, r⟩ | ⟨_, r⟩
  · exact ⟨n, 0, _, flip wf n, r, ⟨List.getElem?_set_self ha, h.f0, h.l1, h.okf.flip hn.lt, h.okl⟩, by simp, fun i h1 _ => List.getElem?_set_ne (Ne.symm h1)⟩
  · exact ⟨0, 10, s.hp, wf, r, h, .refl⟩
theorem old_settle {s : St} {a : Nat} {f l : Int} {wf wl : List Nat} (h : Fr s a f l wf wl) :
    ∃ hp' : List Blk, rf D f_frames_Frames_Settle [.ptr (.hp a) [] 80] s = some (.tup [], ⟨s.loc, hp'⟩) ∧ Keep s.hp hp' a a := by
  obtain ⟨w, _, _, r⟩ := rf_Settle h
  exact ⟨_, r, by simp, fun i h1 _ => List.getElem?_set_ne (Ne.symm h1)⟩
theorem Pl.clone {hp : List Blk} {a b c : Nat} {f l : Int} {wf wl : List Nat} {S : List Int} (h : Pl hp a b c f l wf wl S) (hG : hp[0]? = some (.ro globV_0)) (L : List Blk) :
    ∃ (hp1 hp2 hp3 : List Blk) (x e x' e' : Int), rf D f_frames_Frames_Clone [.ptr (.hp a) [] 80] ⟨L, hp⟩ = some (.ptr (.hp hp.length) [] 80, ⟨L, hp ++ [.rw (frV f l wf wl)]⟩) ∧
      rf D f_frames_Frames_Alloc [.ptr (.hp a) [] 80] ⟨L, hp ++ [.rw (frV f l wf wl)]⟩ = some (.tup [.int .i64 x, .int .i64 e], ⟨L, hp1⟩) ∧
      rf D f_frames_Frames_Alloc [.ptr (.hp a) [] 80] ⟨L, hp1⟩ = some (.tup [.int .i64 x', .int .i64 e'], ⟨L, hp2⟩) ∧
      rf D f_frames_Frames_Settle [.ptr (.hp a) [] 80] ⟨L, hp2⟩ = some (.tup [], ⟨L, hp3⟩) ∧
      Pl hp3 hp.length b c f l wf wl S ∧ (∀ i, i ≠ a → i < hp.length → hp3[i]? = hp[i]?) ∧ hp.length < hp3.length := by
  obtain ⟨n1, n2, n3⟩ := h.ab
  have la := (List.getElem?_eq_some_iff.1 h.fa).1
  have lb := (List.getElem?_eq_some_iff.1 h.rb).1
  have lc := (List.getElem?_eq_some_iff.1 h.sb).1
  have l0 := (List.getElem?_eq_some_iff.1 hG).1
  have a0 : a ≠ 0 := fun e => by
    subst e
    have := hG.symm.trans h.fa
    simp at this
  have ap : ∀ i, i < hp.length → (hp ++ [Blk.rw (frV f l wf wl)])[i]? = hp[i]? := fun i hi => List.getElem?_append_left hi
  have fr0 : Fr ⟨L, hp ++ [.rw (frV f l wf wl)]⟩ a f l wf wl := ⟨by rw [ap a la]; exact h.fa, h.f0, h.l1, h.okf, h.okl⟩
  obtain ⟨x, e, hp1, wf1, r1, fr1, k1⟩ := old_alloc fr0 (by rw [ap 0 l0]; exact hG)
  obtain ⟨x', e', hp2, wf2, r2, fr2, k2⟩ := old_alloc fr1 (by rw [k1.2 0 (Ne.symm a0) (Ne.symm a0), ap 0 l0]; exact hG)
  obtain ⟨hp3, r3, k3⟩ := old_settle fr2
  have kk : ∀ i, i ≠ a → hp3[i]? = (hp ++ [Blk.rw (frV f l wf wl)])[i]? := fun i hi => (k3.2 i hi hi).trans ((k2.2 i hi hi).trans (k1.2 i hi hi))
  have kl : hp3.length = (hp ++ [Blk.rw (frV f l wf wl)]).length := k3.1.trans (k2.1.trans k1.1)
  refine ⟨hp1, hp2, hp3, x, e, x', e', rf_Clone h.fr, r1, r2, r3, ⟨?_, ?_, ?_, h.f0, h.fl, h.l1, h.len, h.okf, h.okl, h.inf, h.inl, h.apart, h.eq⟩, fun i hi hl => ?_, by rw [kl]; simp⟩
  · rw [kk _ (by omega)]; simp
  · rw [kk _ (Ne.symm n1), ap b lb]; exact h.rb
  · rw [kk _ (Ne.symm n2), ap c lc]; exact h.sb
  · rw [kk i hi, ap i hl]
end Go.Proofs.YtfdaihhnlohckaaDoor
