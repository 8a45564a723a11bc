/-
  Ab16: the operations joined; letting go of locals; a list of operations.
-/
import Derived.Test.YtpbpgbedkmbfkaaAb15
import Derived.LoopN
import Derived.Scope
namespace Go.Ab

section join
variable {c : Cfg} (hT : tabOk c.T = true) (hm : tmOk c = true) {B0 base : Nat} {B : BM} {s s' : St} {w : World} {a : Act} {ρ : Env} {v : V}
  (hE : ER c.T B ρ a.tmps) (hG : GlobR c.gl B) (hS : SR c.T B0 B s w) (hb : base ≤ s.loc.length) (hB0 : B0 ≤ w.heap.size)
include hT hm hE hG hS hb hB0

theorem op_sim {o : Op'} {q : Oper} (hc : chkOp c o q.op = true) (he : evOp base ρ s o = some (v, s')) : OpOk c B0 base B s w a q v s' := by
  cases o with
  | mv x => exact sim_mv hE hG hS hc he
  | pick x y z => exact sim_pick hE hG hS hc he
  | alloc h z => exact sim_alloc hS hb hB0 hc he
  | box h x => exact sim_box hE hG hS hb hB0 hc he
  | ld t p => exact sim_ld hT hm hE hG hS hc he
  | st t p x => exact sim_st hT hm hE hG hS hc he
  | nilc x => exact sim_nilc hE hG hS hc he
  | bin o x y => exact sim_bin hE hG hS hc he
  | eq n t x y => exact sim_eq hT hm hE hG hS hc he
  | un o x => exact sim_un hE hG hS hc he
  | conv k x => exact sim_conv hE hG hS hc he
  | mkfn f l => exact sim_mkfn hT hE hG hS hc he
  | mksl h r e z n m => exact sim_mksl hT hm hE hG hS hb hB0 hc he
  | slc e x lo hi mx => exact sim_slc hT hm hE hG hS hc he
  | slstr x lo hi => exact sim_slstr hE hG hS hc he
  | slarr t n e x lo hi mx => exact sim_slarr hT hm hE hG hS hc he
  | fad t f u x => exact sim_fad hT hm hE hG hS hc he
  | iad t n e x y => exact sim_iad hT hm hE hG hS hc he
  | sad e x y => exact sim_sad hT hm hE hG hS hc he
  | fld t f x => exact sim_fld hT hm hE hG hS hc he
  | idx t n x y => exact sim_idx hT hm hE hG hS hc he
  | sidx x y => exact sim_sidx hE hG hS hc he
  | ext x i => exact sim_ext hE hG hS hc he
  | lenk n => exact sim_lenk hS hc he
  | len q x => exact sim_len hE hG hS hc he
  | app h r e x y => exact sim_app hT hm hE hG hS hb hB0 hc he
  | bld z ps => exact sim_bld hT hm hE hG hS hc he
  | bsl h r e z n ps => exact sim_bsl hT hm hE hG hS hb hB0 hc he
  | cpy e x y => exact sim_cpy hT hm hE hG hS hc he
  | mnx m x y => exact sim_mnx hE hG hS hc he
  | call f l => cases he
  | pcall f l => cases he
  | sta t p x l =>
    have hc' : chkOp c (.st t p x) q.op = true := hc
    have he' : evOp base ρ s (.st t p x) = some (v, s') := by
      simp only [evOp] at he ⊢
      split at he
      · exact he
      · cases he
    exact sim_st hT hm hE hG hS hc' he'
  | callw f l w => cases he
  | lda t p r =>
    have hc' : chkOp c (.ld t p) q.op = true := hc
    have he' : evOp base ρ s (.ld t p) = some (v, s') := by
      simp only [evOp] at he ⊢
      split at he
      · exact he
      · cases he
    exact sim_ld hT hm hE hG hS hc' he'
end join

/-! ### Letting go of locals -/
def BM.cut (B : BM) (n : Nat) : BM := { B with loc := B.loc.take n }

theorem cut_at {B : BM} {n : Nat} {a : Loc} {x : Addr × Nat} (h : ∀ i, a = .loc i → i < n) (hx : B.at a = some x) : (B.cut n).at a = some x := by
  cases a with
  | loc i => simp only [BM.at, BM.cut] at *; rw [List.getElem?_take, if_pos (h i rfl)]; exact hx
  | hp i => exact hx
theorem cut_atB {B : BM} {n : Nat} {a : Loc} {x : Addr × Nat} (hx : (B.cut n).at a = some x) : B.at a = some x ∧ ∀ i, a = .loc i → i < n := by
  cases a with
  | loc i =>
    simp only [BM.at, BM.cut, List.getElem?_take] at *
    split at hx
    · rename_i h; exact ⟨hx, fun j hj => by cases hj; exact h⟩
    · cases hx
  | hp i => exact ⟨hx, fun j hj => by cases hj⟩
theorem cut_atS {s : St} {n : Nat} {a : Loc} {x : Blk} (hx : (s.cut n).at a = some x) : s.at a = some x ∧ ∀ i, a = .loc i → i < n := by
  cases a with
  | loc i =>
    simp only [St.at, St.cut, List.getElem?_take] at *
    split at hx
    · rename_i h; exact ⟨hx, fun j hj => by cases hj; exact h⟩
    · cases hx
  | hp i => exact ⟨hx, fun j hj => by cases hj⟩

theorem VR1_cut {T : Tab} (hT : tabOk T = true) {B : BM} {n : Nat} {v : V} {x : Value} (h : VR1 T B v x) (hl : v.locLt n = true) : VR1 T (B.cut n) v x :=
  ⟨h.1, CR_cut hT (fun _ _ ha hx => cut_at ha hx) h.1 (.inr hl) h.2.1, h.2.2⟩
theorem All2_VR1_cut {T : Tab} (hT : tabOk T = true) {B : BM} {n : Nat} : ∀ {l : List V} {m : List Value}, All2 (VR1 T B) l m → V.locLts n l = true → All2 (VR1 T (B.cut n)) l m
  | [], [], _, _ => trivial
  | _ :: _, _ :: _, h, hl => by
    simp only [V.locLts, Bool.and_eq_true] at hl
    exact ⟨VR1_cut hT h.1 hl.1, All2_VR1_cut hT h.2 hl.2⟩
  | [], _ :: _, h, _ => h.elim
  | _ :: _, [], h, _ => h.elim
theorem VR_cut {T : Tab} (hT : tabOk T = true) {B : BM} {n : Nat} {v : V} {x : Value} (h : VR T B v x) (hl : v.locLt n = true) : VR T (B.cut n) v x := by
  cases v with
  | dead => trivial
  | tup l =>
    simp only [VR] at h ⊢
    obtain ⟨xs, h1, h2⟩ := h
    exact ⟨xs, h1, All2_VR1_cut hT h2 (by simpa only [V.locLt] using hl)⟩
  | _ => exact VR1_cut hT h hl

theorem SR_cut {T : Tab} (hT : tabOk T = true) {B0 : Nat} {B : BM} {s : St} {w : World} (h : SR T B0 B s w) {n : Nat} (hl : Lvl n s) : SR T B0 (B.cut n) (s.cut n) w := by
  refine ⟨by simp [BM.cut, St.cut, h.lenL], h.lenH, ?_, ?_, ?_, h.hpv⟩
  · intro a b ar hs hB
    obtain ⟨hs, hs'⟩ := cut_atS hs
    obtain ⟨hB, _⟩ := cut_atB hB
    have hb := h.blk a b ar hs hB
    have hlt : blkLt n b = true := by
      cases a with
      | loc i => exact hl i b (hs' i rfl) hs
      | hp i => exact blkLt_mono (Nat.zero_le _) (h.hpv i b hs)
    cases b with
    | dead => trivial
    | ro v =>
      obtain ⟨h1, h2, c, e, fr, cs, h3, h4, h5⟩ := hb
      exact ⟨h1, h2, c, e, fr, cs, h3, CR_cut hT (fun _ _ ha hx => cut_at ha hx) h1 (.inr hlt) h4, h5⟩
    | rw v =>
      obtain ⟨h1, h2, c, e, cs, h3, h4, h5⟩ := hb
      exact ⟨h1, h2, c, e, cs, h3, CR_cut hT (fun _ _ ha hx => cut_at ha hx) h1 (.inr hlt) h4, h5⟩
  · intro a a' ar ar' v b' h1 h2 h3 h4 h5 h6
    exact h.sep a a' ar ar' v b' (cut_atS h1).1 (cut_atB h2).1 (cut_atS h3).1 h4 (cut_atB h5).1 h6
  · intro a v ar h1 h2
    exact h.own a v ar (cut_atS h1).1 (cut_atB h2).1

theorem Stp.lens {T : Tab} {B0 base : Nat} {B B' : BM} {s s' : St} {w w' : World} (h : SR T B0 B s w) (h' : Stp T B0 base B s w B' s' w') : s.loc.length ≤ s'.loc.length ∧ w.heap.size ≤ w'.heap.size := by
  refine ⟨?_, h'.frm.size⟩
  rw [← h.lenL, ← h'.sr.lenL]
  exact h'.ext.loc.length_le

/-- A step, and then letting go of the locals from n on. -/
theorem Stp.cut {T : Tab} (hT : tabOk T = true) {B0 base : Nat} {B B' : BM} {s s' : St} {w w' : World} (h : SR T B0 B s w) (h' : Stp T B0 base B s w B' s' w') {n : Nat} (hn : s.loc.length ≤ n) (_hb : base ≤ n) (hl : Lvl n s') :
    Stp T B0 base B s w (B'.cut n) (s'.cut n) w' := by
  refine ⟨SR_cut hT h'.sr hl, ⟨?_, h'.ext.hp⟩, h'.frm, ?_, ?_⟩
  · obtain ⟨r, hr⟩ := h'.ext.loc
    simp only [BM.cut, ← hr]
    rw [List.take_append, List.take_of_length_le (by rw [h.lenL]; exact hn)]
    exact List.prefix_append _ _
  · intro k hk ho
    obtain ⟨a, v, ar, h1, h2, h3⟩ := ho
    exact h'.sub k hk ⟨a, v, ar, (cut_atS h1).1, (cut_atB h2).1, h3⟩
  · intro b hb2 hl2 i x hi hx
    simp only [St.cut, List.getElem?_take] at hx
    split at hx
    · exact h'.lvl b hb2 hl2 i x hi hx
    · cases hx

theorem Stp.base {T : Tab} {B0 base base' : Nat} {B B' : BM} {s s' : St} {w w' : World} (h : Stp T B0 base B s w B' s' w') (hb : base' ≤ base) : Stp T B0 base' B s w B' s' w' :=
  ⟨h.sr, h.ext, h.frm, h.sub, fun b hb2 => h.lvl b (Nat.le_trans hb2 hb)⟩

/-- All that stands for something leads to what is there. -/
theorem SR.lvl {T : Tab} {B0 : Nat} {B : BM} {s : St} {w : World} (h : SR T B0 B s w) : Lvl s.loc.length s := by
  intro i x _ hx
  have hi : i < B.loc.length := by rw [h.lenL]; exact (List.getElem?_eq_some_iff.1 hx).1
  have hb := h.blk (.loc i) x (B.loc[i]) hx (by simp [BM.at])
  rw [← h.lenL]
  cases x with
  | dead => rfl
  | ro v => obtain ⟨_, _, c, e, fr, cs, _, h4, _⟩ := hb; exact CR_locLt h4
  | rw v => obtain ⟨_, _, c, e, cs, _, h4, _⟩ := hb; exact CR_locLt h4
end Go.Ab
