/-
  Ab5: the abstract memory and the model's: reading, storing, making, letting go.
-/
import Derived.Test.YtpbpgbedkmbfkaaAb4
namespace Go.Ab
variable {T : Tab}

/-! ### What a map of blocks tells, as it grows -/
structure Ext (B B' : BM) : Prop where
  loc : B.loc <+: B'.loc
  hp : B.hp <+: B'.hp

theorem Ext.refl (B : BM) : Ext B B := ⟨List.prefix_rfl, List.prefix_rfl⟩
theorem Ext.trans {B B' B'' : BM} (h : Ext B B') (h' : Ext B' B'') : Ext B B'' := ⟨h.loc.trans h'.loc, h.hp.trans h'.hp⟩
theorem prefix_get {α : Type} {l m : List α} (h : l <+: m) {i : Nat} {x : α} (hx : l[i]? = some x) : m[i]? = some x := by
  obtain ⟨r, rfl⟩ := h
  rw [List.getElem?_append_left (List.getElem?_eq_some_iff.1 hx).1]
  exact hx
theorem Ext.at {B B' : BM} (h : Ext B B') {a : Loc} {x : Addr × Nat} (hx : B.at a = some x) : B'.at a = some x := by
  cases a with
  | loc i => exact prefix_get h.loc hx
  | hp i => exact prefix_get h.hp hx

mutual
theorem CR_move {B B' : BM} (h : ∀ a x, B.at a = some x → B'.at a = some x) : ∀ {v : V} {cs : List Value}, CR T B v cs → CR T B' v cs
  | .dead, _, hc => by simp [CR] at hc
  | .tup _, _, hc => by simp [CR] at hc
  | .bool _, _, hc => by simpa only [CR] using hc
  | .int _ _, _, hc => by simpa only [CR] using hc
  | .str _, _, hc => by simpa only [CR] using hc
  | .nilp, _, hc => by simpa only [CR] using hc
  | .nils, _, hc => by simpa only [CR] using hc
  | .nilf, _, hc => by simpa only [CR] using hc
  | .ptr _ _ _, _, hc => by
    simp only [CR] at hc ⊢
    obtain ⟨ad, r, o, h1, h2, h3⟩ := hc
    exact ⟨ad, r, o, h _ _ h1, h2, h3⟩
  | .sl _ _ _ _ _ _, _, hc => by
    simp only [CR] at hc ⊢
    obtain ⟨ad, r, o, u, c', ad', h1, h2⟩ := hc
    exact ⟨ad, r, o, u, c', ad', h _ _ h1, h2⟩
  | .fn _ l, _, hc => by
    simp only [CR] at hc ⊢
    obtain ⟨vs, h1, h2⟩ := hc
    exact ⟨vs, CRs_move h h1, h2⟩
  | .agg _ l, _, hc => by
    simp only [CR] at hc ⊢
    exact CRs_move h hc
theorem CRs_move {B B' : BM} (h : ∀ a x, B.at a = some x → B'.at a = some x) : ∀ {l : List V} {cs : List Value}, CRs T B l cs → CRs T B' l cs
  | [], _, hc => by simpa only [CRs] using hc
  | v :: l, _, hc => by
    simp only [CRs] at hc ⊢
    obtain ⟨a, b, h1, h2, h3⟩ := hc
    exact ⟨a, b, h1, CR_move h h2, CRs_move h h3⟩
end

mutual
/-- Let go of the locals from b on: what leads to none of them stands for the same. -/
theorem CR_cut (hT : tabOk T = true) {B B' : BM} {b : Nat} (h : ∀ a x, (∀ i, a = .loc i → i < b) → B.at a = some x → B'.at a = some x) : ∀ {v : V} {cs : List Value}, v.wf T → v.tag % 2 = 0 ∨ v.locLt b = true → CR T B v cs → CR T B' v cs
  | .dead, _, _, _, hc => by simp [CR] at hc
  | .tup _, _, _, _, hc => by simp [CR] at hc
  | .bool _, _, _, _, hc => by simpa only [CR] using hc
  | .int _ _, _, _, _, hc => by simpa only [CR] using hc
  | .str _, _, _, _, hc => by simpa only [CR] using hc
  | .nilp, _, _, _, hc => by simpa only [CR] using hc
  | .nils, _, _, _, hc => by simpa only [CR] using hc
  | .nilf, _, _, _, hc => by simpa only [CR] using hc
  | .ptr a _ _, _, _, hl, hc => by
    simp only [CR] at hc ⊢
    obtain ⟨ad, r, o, h1, h2, h3⟩ := hc
    refine ⟨ad, r, o, h _ _ (fun i hi => ?_) h1, h2, h3⟩
    subst hi
    rcases hl with hl | hl
    · simp [V.tag] at hl
    · simpa [V.locLt] using hl
  | .sl a _ _ _ _ _, _, _, hl, hc => by
    simp only [CR] at hc ⊢
    obtain ⟨ad, r, o, u, c', ad', h1, h2⟩ := hc
    refine ⟨ad, r, o, u, c', ad', h _ _ (fun i hi => ?_) h1, h2⟩
    subst hi
    rcases hl with hl | hl
    · simp [V.tag] at hl
    · simpa [V.locLt] using hl
  | .fn _ l, _, _, hl, hc => by
    simp only [CR] at hc ⊢
    obtain ⟨vs, h1, h2⟩ := hc
    rcases hl with hl | hl
    · simp [V.tag] at hl
    · simp only [V.locLt] at hl
      exact ⟨vs, CRs_cut hT h h2.1 (.inr hl) h1, h2⟩
  | .agg t l, _, hw, hl, hc => by
    simp only [CR] at hc ⊢
    simp only [V.wf] at hw
    refine CRs_cut hT h hw.2 ?_ hc
    simp only [V.tag, V.locLt, Bool.or_eq_true, beq_iff_eq] at hl
    have hl' : t % 2 = 0 ∨ V.locLts b l = true := by
      rcases hl with hl | hl | hl
      · exact .inl hl
      · exact .inl hl
      · exact .inr hl
    rcases hl' with hp | hp
    · left
      unfold aggOk at hw
      cases hi : T.info t with
      | none => rw [hi] at hw; exact hw.1.elim
      | some ti =>
        rw [hi] at hw
        cases ti with
        | st fs => exact fun x hx => (stOk hT hi).pf hp _ (by have := hw.1; simp only at this; rw [← this]; exact List.mem_map_of_mem hx)
        | arr n e => exact fun x hx => by rw [hw.1.2 x hx]; exact (arrOk hT hi).pf hp
        | row e => exact fun x hx => by rw [hw.1 x hx]; exact (rowOk hT hi).pf hp
    · exact .inr hp
theorem CRs_cut (hT : tabOk T = true) {B B' : BM} {b : Nat} (h : ∀ a x, (∀ i, a = .loc i → i < b) → B.at a = some x → B'.at a = some x) : ∀ {l : List V} {cs : List Value}, V.wfs T l → (∀ x ∈ l, x.tag % 2 = 0) ∨ V.locLts b l = true → CRs T B l cs → CRs T B' l cs
  | [], _, _, _, hc => by simpa only [CRs] using hc
  | v :: l, _, hw, hl, hc => by
    simp only [CRs] at hc ⊢
    obtain ⟨a, c, h1, h2, h3⟩ := hc
    simp only [V.wfs] at hw
    simp only [V.locLts, Bool.and_eq_true] at hl
    refine ⟨a, c, h1, CR_cut hT h hw.1 ?_ h2, CRs_cut hT h hw.2 ?_ h3⟩
    · exact hl.imp (fun h => h v List.mem_cons_self) (fun h => h.1)
    · exact hl.imp (fun h x hx => h x (List.mem_cons_of_mem _ hx)) (fun h => h.2)
end

mutual
/-- What stands for something leads to locals that are there. -/
theorem CR_locLt {B : BM} : ∀ {v : V} {cs : List Value}, CR T B v cs → v.locLt B.loc.length = true
  | .dead, _, hc => by simp [CR] at hc
  | .tup _, _, hc => by simp [CR] at hc
  | .bool _, _, _ => by simp only [V.locLt]
  | .int _ _, _, _ => by simp only [V.locLt]
  | .str _, _, _ => by simp only [V.locLt]
  | .nilp, _, _ => by simp only [V.locLt]
  | .nils, _, _ => by simp only [V.locLt]
  | .nilf, _, _ => by simp only [V.locLt]
  | .ptr (.hp _) _ _, _, _ => by simp only [V.locLt]
  | .sl (.hp _) _ _ _ _ _, _, _ => by simp only [V.locLt]
  | .ptr (.loc i) _ _, _, hc => by
    simp only [CR, BM.at] at hc
    obtain ⟨ad, r, o, h1, _⟩ := hc
    simp only [V.locLt, decide_eq_true_eq]
    exact (List.getElem?_eq_some_iff.1 h1).1
  | .sl (.loc i) _ _ _ _ _, _, hc => by
    simp only [CR, BM.at] at hc
    obtain ⟨ad, r, o, u, c', ad', h1, _⟩ := hc
    simp only [V.locLt, decide_eq_true_eq]
    exact (List.getElem?_eq_some_iff.1 h1).1
  | .fn _ l, _, hc => by
    simp only [CR] at hc
    obtain ⟨vs, h1, _⟩ := hc
    simp only [V.locLt]
    exact CRs_locLt h1
  | .agg t l, _, hc => by
    simp only [CR] at hc
    simp only [V.locLt, CRs_locLt hc, Bool.or_true]
theorem CRs_locLt {B : BM} : ∀ {l : List V} {cs : List Value}, CRs T B l cs → V.locLts B.loc.length l = true
  | [], _, _ => by simp only [V.locLts]
  | v :: l, _, hc => by
    simp only [CRs] at hc
    obtain ⟨a, b, _, h2, h3⟩ := hc
    simp only [V.locLts, CR_locLt h2, CRs_locLt h3, Bool.and_self]
end

mutual
theorem locLt_mono {a b : Nat} (h : a ≤ b) : ∀ {v : V}, v.locLt a = true → v.locLt b = true
  | .dead, _ => by simp only [V.locLt]
  | .bool _, _ => by simp only [V.locLt]
  | .int _ _, _ => by simp only [V.locLt]
  | .str _, _ => by simp only [V.locLt]
  | .nilp, _ => by simp only [V.locLt]
  | .nils, _ => by simp only [V.locLt]
  | .nilf, _ => by simp only [V.locLt]
  | .ptr (.hp _) _ _, _ => by simp only [V.locLt]
  | .sl (.hp _) _ _ _ _ _, _ => by simp only [V.locLt]
  | .ptr (.loc i) _ _, hl => by simp only [V.locLt, decide_eq_true_eq] at hl ⊢; omega
  | .sl (.loc i) _ _ _ _ _, hl => by simp only [V.locLt, decide_eq_true_eq] at hl ⊢; omega
  | .fn _ l, hl => by simp only [V.locLt] at hl ⊢; exact locLts_mono h hl
  | .tup l, hl => by simp only [V.locLt] at hl ⊢; exact locLts_mono h hl
  | .agg t l, hl => by
    simp only [V.locLt, Bool.or_eq_true] at hl ⊢
    exact hl.imp id (locLts_mono h)
theorem locLts_mono {a b : Nat} (h : a ≤ b) : ∀ {l : List V}, V.locLts a l = true → V.locLts b l = true
  | [], _ => by simp only [V.locLts]
  | v :: l, hl => by
    simp only [V.locLts, Bool.and_eq_true] at hl ⊢
    exact ⟨locLt_mono h hl.1, locLts_mono h hl.2⟩
end
theorem blkLt_mono {a b : Nat} (h : a ≤ b) {x : Blk} (hx : blkLt a x = true) : blkLt b x = true := by
  cases x with
  | dead => rfl
  | ro v => exact locLt_mono h hx
  | rw v => exact locLt_mono h hx

mutual
/-- Each cell is one. -/
theorem CR_one {B : BM} : ∀ {v : V} {cs : List Value}, CR T B v cs → ∀ x ∈ cs, x.oneCell' = true
  | .dead, _, hc => by simp [CR] at hc
  | .tup _, _, hc => by simp [CR] at hc
  | .bool _, _, hc => by simp only [CR] at hc; subst hc; simp [Value.oneCell']
  | .int _ _, _, hc => by simp only [CR] at hc; subst hc; simp [Value.oneCell']
  | .str _, _, hc => by simp only [CR] at hc; subst hc; simp [Value.oneCell']
  | .nilp, _, hc => by simp only [CR] at hc; subst hc; simp [Value.oneCell']
  | .nils, _, hc => by simp only [CR] at hc; subst hc; simp [Value.oneCell']
  | .nilf, _, hc => by simp only [CR] at hc; subst hc; simp [Value.oneCell']
  | .ptr _ _ _, _, hc => by simp only [CR] at hc; obtain ⟨_, _, _, _, _, rfl⟩ := hc; simp [Value.oneCell']
  | .sl _ _ _ _ _ _, _, hc => by simp only [CR] at hc; obtain ⟨_, _, _, _, _, _, _, _, _, _, _, _, _, _, rfl⟩ := hc; simp [Value.oneCell']
  | .fn _ l, _, hc => by simp only [CR] at hc; obtain ⟨_, _, _, _, rfl⟩ := hc; simp [Value.oneCell']
  | .agg t l, _, hc => by simp only [CR] at hc; exact CRs_one hc
theorem CRs_one {B : BM} : ∀ {l : List V} {cs : List Value}, CRs T B l cs → ∀ x ∈ cs, x.oneCell' = true
  | [], _, hc => by simp only [CRs] at hc; subst hc; simp
  | v :: l, _, hc => by
    simp only [CRs] at hc
    obtain ⟨a, b, rfl, h2, h3⟩ := hc
    intro x hx
    rcases List.mem_append.1 hx with h | h
    · exact CR_one h2 x h
    · exact CRs_one h3 x h
end

/-! ### Blocks -/
def Lies (c : Array Value) (o : Nat) (cs : List Value) : Prop := ∀ i x, cs[i]? = some x → c[o + i]? = some x

def BlkR (T : Tab) (B : BM) (w : World) (ar : Addr × Nat) : Blk → Prop
  | .dead => True
  | .ro v => v.wf T ∧ v.tag = ar.2 ∧ ∃ c e fr cs, w.heap[ar.1.block]? = some (.cells c e fr) ∧ CR T B v cs ∧ Lies c ar.1.off cs ∧ ar.1.spot = none
  | .rw v => v.wf T ∧ v.tag = ar.2 ∧ ∃ c e cs, w.heap[ar.1.block]? = some (.cells c e (0, 0)) ∧ CR T B v cs ∧ Lies c ar.1.off cs ∧ ar.1.spot = some c.size

structure SR (T : Tab) (B0 : Nat) (B : BM) (s : St) (w : World) : Prop where
  lenL : B.loc.length = s.loc.length
  lenH : B.hp.length = s.hp.length
  blk : ∀ a b ar, s.at a = some b → B.at a = some ar → BlkR T B w ar b
  sep : ∀ a a' ar ar' v b', s.at a = some (.rw v) → B.at a = some ar → s.at a' = some b' → b' ≠ .dead → B.at a' = some ar' → a ≠ a' → ar.1.block ≠ ar'.1.block
  own : ∀ a v ar, s.at a = some (.rw v) → B.at a = some ar → B0 ≤ ar.1.block
  hpv : ∀ (i : Nat) (b : Blk), s.hp[i]? = some b → blkLt 0 b = true

def Own (B : BM) (s : St) (k : Nat) : Prop := ∃ a v ar, s.at a = some (.rw v) ∧ B.at a = some ar ∧ ar.1.block = k

/-- The locals below b lead to locals below b. -/
def Lvl (b : Nat) (s : St) : Prop := ∀ i x, i < b → s.loc[i]? = some x → blkLt b x = true

structure Frm (O : Nat → Prop) (w w' : World) : Prop where
  os : w'.os = w.os
  tape : w'.tape = w.tape
  output : w'.output = w.output
  size : w.heap.size ≤ w'.heap.size
  block : ∀ k, k < w.heap.size → ¬ O k → w'.heap[k]? = w.heap[k]?

theorem Frm.refl (O : Nat → Prop) (w : World) : Frm O w w := ⟨rfl, rfl, rfl, Nat.le_refl _, fun _ _ _ => rfl⟩

/-- A step from one abstract memory to another, and what the model's world does. -/
structure Stp (T : Tab) (B0 base : Nat) (B : BM) (s : St) (w : World) (B' : BM) (s' : St) (w' : World) : Prop where
  sr : SR T B0 B' s' w'
  ext : Ext B B'
  frm : Frm (Own B s) w w'
  sub : ∀ k, k < w.heap.size → Own B' s' k → Own B s k
  lvl : ∀ b, b ≤ base → Lvl b s → Lvl b s'

theorem Stp.refl {B0 base : Nat} {B : BM} {s : St} {w : World} (h : SR T B0 B s w) : Stp T B0 base B s w B s w :=
  ⟨h, Ext.refl _, Frm.refl _ _, fun _ _ h => h, fun _ _ h => h⟩
theorem Stp.trans {B0 base : Nat} {B B' B'' : BM} {s s' s'' : St} {w w' w'' : World} (h : Stp T B0 base B s w B' s' w') (h' : Stp T B0 base B' s' w' B'' s'' w'') : Stp T B0 base B s w B'' s'' w'' :=
  ⟨h'.sr, h.ext.trans h'.ext,
    ⟨h'.frm.os.trans h.frm.os, h'.frm.tape.trans h.frm.tape, h'.frm.output.trans h.frm.output, Nat.le_trans h.frm.size h'.frm.size,
      fun k hk ho => (h'.frm.block k (Nat.lt_of_lt_of_le hk h.frm.size) (fun hx => ho (h.sub k hk hx))).trans (h.frm.block k hk ho)⟩,
    fun k hk ho => h.sub k hk (h'.sub k (Nat.lt_of_lt_of_le hk h.frm.size) ho),
    fun b hb hl => h'.lvl b hb (h.lvl b hb hl)⟩

/-! ### Reading -/
theorem cell?_of {w : World} {b : Nat} {c : Array Value} {e : TypeId} {fr : Nat × Nat} (h : w.heap[b]? = some (.cells c e fr)) (o : Nat) : w.cell? ⟨b, o, none⟩ = c[o]? := by
  simp [World.cell?, h]

/-- What is read at an address: its cells, which lie there. -/
theorem read_sim (hT : tabOk T = true) {B0 : Nat} {B : BM} {s : St} {w : World} (h : SR T B0 B s w) {a : Loc} {path : List Nat} {v : V} (hr : s.read a path = some v)
    {ad : Addr} {r o t : Nat} (hB : B.at a = some (ad, r)) (ho : offOf T r path = some (o, t)) :
    v.wf T ∧ v.tag = t ∧ ∃ cs, CR T B v cs ∧ w.rangeAt ad.block (ad.off + o) cs ∧ (path ≠ [] → T.noRow t = true) := by
  unfold St.read at hr
  have key : ∀ (u : V) (c : Array Value) (e : TypeId) (fr : Nat × Nat) (cs : List Value), u.wf T → u.tag = r → w.heap[ad.block]? = some (.cells c e fr) → CR T B u cs → Lies c ad.off cs → V.at path u = some v →
      v.wf T ∧ v.tag = t ∧ ∃ cs, CR T B v cs ∧ w.rangeAt ad.block (ad.off + o) cs ∧ (path ≠ [] → T.noRow t = true) := by
    intro u c e fr cs hw ht hb hc hl hat
    obtain ⟨x, y, z, rfl, hx, hwv, htv, hcv, hnr, _⟩ := at_cells hT hw hc hat (by rw [ht]; exact ho)
    refine ⟨hwv, htv, y, hcv, fun j u hu => ?_, hnr⟩
    rw [cell?_of hb]
    have := hl (o + j) u (by
      rw [List.append_assoc, List.getElem?_append_right (by omega), List.getElem?_append_left (by rw [hx, Nat.add_sub_cancel_left]; exact (List.getElem?_eq_some_iff.1 hu).1), hx, Nat.add_sub_cancel_left]
      exact hu)
    rw [← this, Nat.add_assoc]
  cases hs : s.at a with
  | none => rw [hs] at hr; cases hr
  | some b =>
    rw [hs] at hr
    have hb := h.blk a b _ hs hB
    cases b with
    | dead => cases hr
    | ro u =>
      obtain ⟨h1, h2, c, e, fr, cs, h3, h4, h5, _⟩ := hb
      exact key u c e fr cs h1 h2 h3 h4 h5 hr
    | rw u =>
      obtain ⟨h1, h2, c, e, cs, h3, h4, h5, _⟩ := hb
      exact key u c e (0, 0) cs h1 h2 h3 h4 h5 hr
end Go.Ab
