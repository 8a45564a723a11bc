/-
  Ab6: the abstract memory and the model's: storing, making, letting go.
-/
import Derived.Test.YtpbpgbedkmbfkaaAb5
namespace Go.Ab
variable {T : Tab}

theorem setCell_heap {w : World} {g o : Nat} {v : Value} {c : Array Value} {e : TypeId} {fr : Nat × Nat} (h : w.heap[g]? = some (.cells c e fr)) :
    (w.setCell ⟨g, o, none⟩ v).heap[g]? = some (.cells (c.setIfInBounds o v) e fr) := by
  simp [World.setCell, Array.getElem?_modify, h]

theorem setCells_heap (g : Nat) : ∀ (vs : List Value) (o : Nat) {w : World} {c : Array Value} {e : TypeId} {fr : Nat × Nat}, w.heap[g]? = some (.cells c e fr) → o + vs.length ≤ c.size →
    ∃ c', (w.setCells g o vs).heap[g]? = some (.cells c' e fr) ∧ c'.size = c.size ∧ ∀ j, c'[j]? = if o ≤ j ∧ j < o + vs.length then vs[j - o]? else c[j]?
  | [], o, w, c, e, fr, h, _ => ⟨c, h, rfl, fun j => by rw [if_neg (by simp only [List.length_nil]; omega)]⟩
  | v :: vs, o, w, c, e, fr, h, hl => by
    simp only [List.length_cons] at hl
    obtain ⟨c', h1, h2, h3⟩ := setCells_heap g vs (o + 1) (setCell_heap (o := o) (v := v) h) (by simp; omega)
    refine ⟨c', h1, by rw [h2]; simp, fun j => ?_⟩
    rw [h3 j]
    simp only [List.length_cons]
    by_cases hj : j = o
    · subst hj
      rw [if_neg (by omega), if_pos (by omega), Nat.sub_self]
      simp [show j < c.size by omega]
    · by_cases hj2 : o + 1 ≤ j ∧ j < o + 1 + vs.length
      · rw [if_pos hj2, if_pos (by omega), show j - o = (j - (o + 1)) + 1 by omega, List.getElem?_cons_succ]
      · rw [if_neg hj2, if_neg (by omega)]
        simp [Ne.symm hj]

theorem setCells_rest (g : Nat) : ∀ (vs : List Value) (o : Nat) (w : World), (w.setCells g o vs).heap.size = w.heap.size ∧ (w.setCells g o vs).tape = w.tape ∧ ∀ k, k ≠ g → (w.setCells g o vs).heap[k]? = w.heap[k]? := by
  intro vs
  induction vs with
  | nil => exact fun _ _ => ⟨rfl, rfl, fun _ _ => rfl⟩
  | cons v vs ih =>
    intro o w
    obtain ⟨h1, h2, h3⟩ := ih (o + 1) (w.setCell ⟨g, o, none⟩ v)
    refine ⟨h1.trans (by simp [World.setCell]), h2, fun k hk => (h3 k hk).trans ?_⟩
    simp [World.setCell, Array.getElem?_modify, Ne.symm hk]
theorem setCells_frm {O : Nat → Prop} {w : World} {g o : Nat} {vs : List Value} (hg : O g) : Frm O w (w.setCells g o vs) := by
  have hk := World.keptBut_setCells g (may := fun _ => True) vs o w (fun _ _ => trivial)
  obtain ⟨h1, h2, h3⟩ := setCells_rest g vs o w
  exact ⟨hk.1, h2, hk.2.1, by omega, fun k _ ho => h3 k (fun he => ho (he ▸ hg))⟩

theorem locLts_iff {b : Nat} {l : List V} : V.locLts b l = true ↔ ∀ x ∈ l, x.locLt b = true := by
  induction l with
  | nil => simp [V.locLts]
  | cons v l ih => simp [V.locLts, ih]
theorem setAt_locLt {b : Nat} : ∀ {p : List Nat} {x v v' : V}, V.setAt p x v = some v' → v.locLt b = true → x.locLt b = true → v'.locLt b = true
  | [], _, _, _, h, _, hx => by simp only [V.setAt, Option.some.injEq] at h; rw [← h]; exact hx
  | i :: p, x, v, v', h, hv, hx => by
    cases v with
    | agg t l =>
      simp only [V.setAt] at h
      cases hy : l[i]? with
      | none => rw [hy] at h; cases h
      | some y =>
        rw [hy] at h
        simp only at h
        cases hq : V.setAt p x y with
        | none => rw [hq] at h; cases h
        | some y' =>
          rw [hq] at h
          cases h
          simp only [V.locLt, Bool.or_eq_true] at hv ⊢
          rcases hv with hv | hv
          · exact .inl hv
          · right
            rw [locLts_iff] at hv ⊢
            intro z hz
            rcases List.mem_or_eq_of_mem_set hz with h1 | h1
            · exact hv z h1
            · rw [h1]; exact setAt_locLt hq (hv y (List.mem_of_getElem? hy)) hx
    | _ => simp [V.setAt] at h

theorem St.at_set_same {s : St} {a : Loc} {b b' : Blk} (h : s.at a = some b) : (s.set a b').at a = some b' := by
  cases a with
  | loc i => simp only [St.at] at h; simp only [St.set, St.at]; rw [List.getElem?_set_self (List.getElem?_eq_some_iff.1 h).1]
  | hp i => simp only [St.at] at h; simp only [St.set, St.at]; rw [List.getElem?_set_self (List.getElem?_eq_some_iff.1 h).1]
theorem St.at_set_other {s : St} {a a' : Loc} {b : Blk} (h : a ≠ a') : (s.set a b).at a' = s.at a' := by
  cases a with
  | loc i => cases a' with
    | loc j => simp only [St.set, St.at]; rw [List.getElem?_set_ne (fun e => h (by rw [e]))]
    | hp j => rfl
  | hp i => cases a' with
    | hp j => simp only [St.set, St.at]; rw [List.getElem?_set_ne (fun e => h (by rw [e]))]
    | loc j => rfl
theorem St.set_len {s : St} {a : Loc} {b : Blk} : (s.set a b).loc.length = s.loc.length ∧ (s.set a b).hp.length = s.hp.length := by
  cases a <;> simp [St.set]

theorem BlkR.of_heap {B : BM} {w w' : World} {ar : Addr × Nat} {b : Blk} (h : BlkR T B w ar b) (hb : b ≠ .dead → w'.heap[ar.1.block]? = w.heap[ar.1.block]?) : BlkR T B w' ar b := by
  cases b with
  | dead => trivial
  | ro v => simpa only [BlkR, hb (by simp)] using h
  | rw v => simpa only [BlkR, hb (by simp)] using h
theorem BlkR.ext {B B' : BM} {w : World} {ar : Addr × Nat} {b : Blk} (h : BlkR T B w ar b) (he : Ext B B') : BlkR T B' w ar b := by
  cases b with
  | dead => trivial
  | ro v =>
    obtain ⟨h1, h2, c, e, fr, cs, h3, h4, h5⟩ := h
    exact ⟨h1, h2, c, e, fr, cs, h3, CR_move (fun _ _ => he.at) h4, h5⟩
  | rw v =>
    obtain ⟨h1, h2, c, e, cs, h3, h4, h5, h6⟩ := h
    exact ⟨h1, h2, c, e, cs, h3, CR_move (fun _ _ => he.at) h4, h5, h6⟩
theorem BlkR.lt {B : BM} {w : World} {ar : Addr × Nat} {b : Blk} (h : BlkR T B w ar b) (hb : b ≠ .dead) : ar.1.block < w.heap.size := by
  cases b with
  | dead => exact absurd rfl hb
  | ro v => obtain ⟨_, _, c, e, fr, cs, h3, _⟩ := h; exact (Array.getElem?_eq_some_iff.1 h3).1
  | rw v => obtain ⟨_, _, c, e, cs, h3, _⟩ := h; exact (Array.getElem?_eq_some_iff.1 h3).1

/-- A store. -/
theorem write_sim (hT : tabOk T = true) {B0 base : Nat} {B : BM} {s s' : St} {w : World} (h : SR T B0 B s w) {a : Loc} {path : List Nat} {x u : V} (hr : s.read a path = some u) (hw : s.write base a path x = some s')
    {ad : Addr} {r o t : Nat} (hB : B.at a = some (ad, r)) (ho : offOf T r path = some (o, t)) (hxw : x.wf T) (hxt : x.tag = t) {cx : List Value} (hcx : CR T B x cx)
    (hlen : ∀ cu, CR T B u cu → cx.length = cu.length) (hpos : 0 < cx.length) :
    w.there ad.block (ad.off + o) cx.length ∧ Stp T B0 base B s w B s' (w.setCells ad.block (ad.off + o) cx) := by
  unfold St.write at hw
  cases hs : s.at a with
  | none => rw [hs] at hw; cases hw
  | some b =>
    cases b with
    | dead => rw [hs] at hw; cases hw
    | ro _ => rw [hs] at hw; cases hw
    | rw v =>
      rw [hs] at hw
      simp only at hw
      by_cases hml : mayLie base a x = true
      · rw [if_pos hml] at hw
        have hb := h.blk a _ _ hs hB
        obtain ⟨h1, h2, c, e, cs, h3, h4, h5, h6⟩ := hb
        have hat : V.at path v = some u := by unfold St.read at hr; rw [hs] at hr; exact hr
        obtain ⟨p1, p2, p3, rfl, hp1, hwu, htu, hcu, hnr, hput⟩ := at_cells hT h1 h4 hat (by rw [h2]; exact ho)
        obtain ⟨v', hv', hwv', htv', hcv'⟩ := hput x cx hxw hxt hcx
        rw [hv'] at hw
        simp only [Option.some.injEq] at hw
        subst hw
        have hl := hlen p2 hcu
        have hsize : ad.off + o + cx.length ≤ c.size := by
          have := h5 (o + (cx.length - 1)) (p2[cx.length - 1]'(by omega)) (by
            rw [List.append_assoc, List.getElem?_append_right (by omega), hp1, Nat.add_sub_cancel_left, List.getElem?_append_left (by omega), List.getElem?_eq_getElem])
          have := (Array.getElem?_eq_some_iff.1 this).1
          simp only at this
          omega
        have hnew : ∀ i y, (p1 ++ cx ++ p3)[i]? = some y → ∀ c' : Array Value, (∀ j, c'[j]? = if ad.off + o ≤ j ∧ j < ad.off + o + cx.length then cx[j - (ad.off + o)]? else c[j]?) → c'[ad.off + i]? = some y := by
          intro i y hy c' hc'
          rw [hc']
          rw [List.append_assoc] at hy
          by_cases hi1 : i < p1.length
          · rw [if_neg (by omega)]
            rw [List.getElem?_append_left hi1] at hy
            exact h5 i y (by rw [List.append_assoc, List.getElem?_append_left hi1]; exact hy)
          · rw [List.getElem?_append_right (by omega)] at hy
            by_cases hi2 : i - p1.length < cx.length
            · rw [List.getElem?_append_left hi2] at hy
              rw [if_pos (by omega), show ad.off + i - (ad.off + o) = i - p1.length by omega]
              exact hy
            · rw [List.getElem?_append_right (by omega)] at hy
              rw [if_neg (by omega)]
              exact h5 i y (by
                rw [List.append_assoc, List.getElem?_append_right (by omega), List.getElem?_append_right (by omega), ← hl]
                exact hy)
        obtain ⟨c', hc1, hc2, hc3⟩ := setCells_heap ad.block cx (ad.off + o) h3 hsize
        have hown : Own B s ad.block := ⟨a, v, (ad, r), hs, hB, rfl⟩
        have hfrm : Frm (Own B s) w (w.setCells ad.block (ad.off + o) cx) := setCells_frm hown
        have hlens := St.set_len (s := s) (a := a) (b := Blk.rw v')
        refine ⟨fun j hj => ?_, ?_, Ext.refl _, hfrm, ?_, ?_⟩
        · have hlt : ad.off + o + j < c.size := by omega
          constructor
          · rw [cell?_of h3, Array.getElem?_eq_getElem hlt]; rfl
          · simp [World.frozen?, h3]
        · refine ⟨by rw [hlens.1]; exact h.lenL, by rw [hlens.2]; exact h.lenH, ?_, ?_, ?_, ?_⟩
          · intro a2 b2 ar2 hs2 hB2
            by_cases ha : a = a2
            · subst ha
              rw [hB] at hB2
              cases hB2
              rw [St.at_set_same hs] at hs2
              cases hs2
              exact ⟨hwv', htv'.trans h2, c', e, _, hc1, hcv', fun i y hy => hnew i y hy c' hc3, by rw [hc2]; exact h6⟩
            · rw [St.at_set_other ha] at hs2
              refine (h.blk a2 b2 ar2 hs2 hB2).of_heap (fun hd => ?_)
              have hne : ad.block ≠ ar2.1.block := h.sep a a2 (ad, r) ar2 v b2 hs hB hs2 hd hB2 ha
              exact (setCells_rest ad.block cx (ad.off + o) w).2.2 _ (fun e => hne e.symm)
          · intro a1 a2 ar1 ar2 v1 b2 hs1 hB1 hs2 hd hB2 hne
            have g1 : ∃ v0, s.at a1 = some (.rw v0) := by
              by_cases ha : a = a1
              · exact ⟨v, ha ▸ hs⟩
              · rw [St.at_set_other ha] at hs1; exact ⟨v1, hs1⟩
            have g2 : ∃ b0, s.at a2 = some b0 ∧ b0 ≠ .dead := by
              by_cases ha : a = a2
              · exact ⟨_, ha ▸ hs, by simp⟩
              · rw [St.at_set_other ha] at hs2; exact ⟨b2, hs2, hd⟩
            obtain ⟨v0, g1⟩ := g1
            obtain ⟨b0, g2, g3⟩ := g2
            exact h.sep a1 a2 ar1 ar2 v0 b0 g1 hB1 g2 g3 hB2 hne
          · intro a1 v1 ar1 hs1 hB1
            by_cases ha : a = a1
            · exact h.own a1 v ar1 (ha ▸ hs) hB1
            · rw [St.at_set_other ha] at hs1; exact h.own a1 v1 ar1 hs1 hB1
          · intro i b2 hi
            cases a with
            | loc j => exact h.hpv i b2 hi
            | hp j =>
              simp only [St.set] at hi
              by_cases hij : j = i
              · subst hij
                have hlt : j < s.hp.length := (List.getElem?_eq_some_iff.1 (show s.hp[j]? = some (.rw v) from hs)).1
                rw [List.getElem?_set_self hlt] at hi
                cases hi
                exact setAt_locLt hv' (h.hpv j _ hs) hml
              · rw [List.getElem?_set_ne hij] at hi
                exact h.hpv i b2 hi
        · rintro k _ ⟨a1, v1, ar1, hs1, hB1, hk⟩
          by_cases ha : a = a1
          · exact ⟨a1, v, ar1, ha ▸ hs, hB1, hk⟩
          · rw [St.at_set_other ha] at hs1; exact ⟨a1, v1, ar1, hs1, hB1, hk⟩
        · intro b' hb' hlv i x' hi hx'
          cases a with
          | hp j => exact hlv i x' hi hx'
          | loc j =>
            simp only [St.set] at hx'
            by_cases hij : j = i
            · subst hij
              have hlt : j < s.loc.length := (List.getElem?_eq_some_iff.1 (show s.loc[j]? = some (.rw v) from hs)).1
              rw [List.getElem?_set_self hlt] at hx'
              cases hx'
              have hx0 : x.locLt b' = true := by
                simp only [mayLie, Bool.or_eq_true, decide_eq_true_eq] at hml
                rcases hml with hml | hml
                · exact locLt_mono (Nat.zero_le _) hml
                · omega
              exact setAt_locLt hv' (hlv j _ hi hs) hx0
            · rw [List.getElem?_set_ne hij] at hx'
              exact hlv i x' hi hx'
      · rw [if_neg hml] at hw; cases hw
/-- A new block. -/
def BM.push (B : BM) (h : Bool) (ar : Addr × Nat) : BM := if h then { B with hp := B.hp ++ [ar] } else { B with loc := B.loc ++ [ar] }
theorem BM.ext_push {B : BM} {h : Bool} {ar : Addr × Nat} : Ext B (B.push h ar) := by
  cases h
  · exact ⟨List.prefix_append _ _, List.prefix_rfl⟩
  · exact ⟨List.prefix_rfl, List.prefix_append _ _⟩

theorem getElem?_snoc {α : Type} {l : List α} {x y : α} {i : Nat} (h : (l ++ [x])[i]? = some y) : l[i]? = some y ∨ (i = l.length ∧ y = x) := by
  by_cases hi : i < l.length
  · rw [List.getElem?_append_left hi] at h; exact .inl h
  · rw [List.getElem?_append_right (by omega)] at h
    by_cases h0 : i - l.length = 0
    · rw [h0] at h
      simp only [List.getElem?_cons_zero, Option.some.injEq] at h
      exact .inr ⟨by omega, h.symm⟩
    · rw [List.getElem?_eq_none (by simp; omega)] at h; cases h

theorem new_at {s : St} {h : Bool} {v : V} {a : Loc} {b : Blk} (hs : (s.new h v).at a = some b) : s.at a = some b ∨ (a = s.fresh h ∧ b = .rw v) := by
  cases h with
  | false =>
    cases a with
    | hp i => exact .inl hs
    | loc i =>
      rcases getElem?_snoc (show (s.loc ++ [Blk.rw v])[i]? = some b from hs) with h1 | ⟨h1, h2⟩
      · exact .inl h1
      · exact .inr ⟨by rw [h1]; rfl, h2⟩
  | true =>
    cases a with
    | loc i => exact .inl hs
    | hp i =>
      rcases getElem?_snoc (show (s.hp ++ [Blk.rw v])[i]? = some b from hs) with h1 | ⟨h1, h2⟩
      · exact .inl h1
      · exact .inr ⟨by rw [h1]; rfl, h2⟩
theorem push_at {B : BM} {h : Bool} {ar x : Addr × Nat} {a : Loc} {s : St} (hL : B.loc.length = s.loc.length) (hH : B.hp.length = s.hp.length) (hs : (B.push h ar).at a = some x) : B.at a = some x ∨ (a = s.fresh h ∧ x = ar) := by
  cases h with
  | false =>
    cases a with
    | hp i => exact .inl hs
    | loc i =>
      rcases getElem?_snoc (show (B.loc ++ [ar])[i]? = some x from hs) with h1 | ⟨h1, h2⟩
      · exact .inl h1
      · exact .inr ⟨by rw [h1, hL]; rfl, h2⟩
  | true =>
    cases a with
    | loc i => exact .inl hs
    | hp i =>
      rcases getElem?_snoc (show (B.hp ++ [ar])[i]? = some x from hs) with h1 | ⟨h1, h2⟩
      · exact .inl h1
      · exact .inr ⟨by rw [h1, hH]; rfl, h2⟩
theorem fresh_none {s : St} {h : Bool} : s.at (s.fresh h) = none := by
  cases h <;> simp [St.fresh, St.at]
theorem fresh_noneB {B : BM} {s : St} {h : Bool} (hL : B.loc.length = s.loc.length) (hH : B.hp.length = s.hp.length) : B.at (s.fresh h) = none := by
  cases h <;> simp [St.fresh, BM.at, hL, hH]
theorem push_fresh {B : BM} {s : St} {h : Bool} {ar : Addr × Nat} (hL : B.loc.length = s.loc.length) (hH : B.hp.length = s.hp.length) : (B.push h ar).at (s.fresh h) = some ar := by
  cases h <;> simp [St.fresh, BM.at, BM.push, ← hL, ← hH]

/-- A new abstract block, where a block of the world's lies that none of the others has. -/
theorem adopt_sim {B0 base : Nat} {B : BM} {s : St} {w w' : World} (h : SR T B0 B s w) (hbase : base ≤ s.loc.length) {hf : Bool} {v : V} (hw : v.wf T) (hmay : mayNew hf v = true) {ad : Addr}
    (hbl : ∃ c e cs, w'.heap[ad.block]? = some (.cells c e (0, 0)) ∧ CR T B v cs ∧ Lies c ad.off cs ∧ ad.spot = some c.size) (hB0 : B0 ≤ ad.block)
    (hfrm : Frm (fun k => k = ad.block) w w') (hnew : ∀ a b ar, s.at a = some b → b ≠ .dead → B.at a = some ar → ar.1.block ≠ ad.block) {O : Nat → Prop} (hO : O ad.block ∨ w.heap.size ≤ ad.block)
    (hOsub : ∀ k, Own B s k → O k) :
    SR T B0 (B.push hf (ad, v.tag)) (s.new hf v) w' ∧ Frm O w w' ∧ (∀ k, k < w.heap.size → Own (B.push hf (ad, v.tag)) (s.new hf v) k → O k) ∧ ∀ b, b ≤ base → Lvl b s → Lvl b (s.new hf v) := by
  have hext : Ext B (B.push hf (ad, v.tag)) := BM.ext_push
  have hold : ∀ a b ar, s.at a = some b → (B.push hf (ad, v.tag)).at a = some ar → B.at a = some ar := by
    intro a b ar hs hB
    rcases push_at h.lenL h.lenH hB with h1 | ⟨h1, _⟩
    · exact h1
    · subst h1; rw [fresh_none] at hs; cases hs
  have hfr : ∀ ar, (B.push hf (ad, v.tag)).at (s.fresh hf) = some ar → ar = (ad, v.tag) := by
    intro ar hB
    rw [push_fresh h.lenL h.lenH] at hB
    exact (Option.some.inj hB).symm
  refine ⟨⟨?_, ?_, ?_, ?_, ?_, ?_⟩, ?_, ?_, ?_⟩
  · cases hf <;> simp [BM.push, St.new, h.lenL]
  · cases hf <;> simp [BM.push, St.new, h.lenH]
  · intro a b ar hs hB
    rcases new_at hs with h1 | ⟨h1, h2⟩
    · have hB' := hold a b ar h1 hB
      refine ((h.blk a b ar h1 hB').of_heap (fun hd => hfrm.block _ ((h.blk a b ar h1 hB').lt hd) (hnew a b ar h1 hd hB'))).ext hext
    · subst h1; subst h2
      rw [hfr ar hB]
      obtain ⟨c, e, cs, g1, g2, g3, g4⟩ := hbl
      exact ⟨hw, rfl, c, e, cs, g1, CR_move (fun _ _ => hext.at) g2, g3, g4⟩
  · intro a a' ar ar' u b' hs hB hs' hd hB' hne
    rcases new_at hs with h1 | ⟨h1, h2⟩
    · rcases new_at hs' with h1' | ⟨h1', h2'⟩
      · exact h.sep a a' ar ar' u b' h1 (hold _ _ _ h1 hB) h1' hd (hold _ _ _ h1' hB') hne
      · subst h1'
        rw [hfr ar' hB']
        exact hnew a _ ar h1 (by simp) (hold _ _ _ h1 hB)
    · subst h1
      rw [hfr ar hB]
      rcases new_at hs' with h1' | ⟨h1', h2'⟩
      · exact fun e => hnew a' b' ar' h1' hd (hold _ _ _ h1' hB') e.symm
      · exact absurd h1'.symm hne
  · intro a u ar hs hB
    rcases new_at hs with h1 | ⟨h1, h2⟩
    · exact h.own a u ar h1 (hold _ _ _ h1 hB)
    · subst h1; rw [hfr ar hB]; exact hB0
  · intro i b hi
    cases hf with
    | false => exact h.hpv i b hi
    | true =>
      rcases getElem?_snoc (show (s.hp ++ [Blk.rw v])[i]? = some b from hi) with h1 | ⟨h1, h2⟩
      · exact h.hpv i b h1
      · subst h2; exact hmay
  · refine ⟨hfrm.os, hfrm.tape, hfrm.output, hfrm.size, fun k hk ho => hfrm.block k hk (fun e => ?_)⟩
    subst e
    rcases hO with hO | hO
    · exact ho hO
    · omega
  · rintro k hk ⟨a, u, ar, hs, hB, he⟩
    rcases new_at hs with h1 | ⟨h1, h2⟩
    · exact hOsub k ⟨a, u, ar, h1, hold _ _ _ h1 hB, he⟩
    · subst h1
      rw [hfr ar hB] at he
      rcases hO with hO | hO
      · exact he ▸ hO
      · simp only at he; omega
  · intro b hb hl i x hi hx
    cases hf with
    | true => exact hl i x hi hx
    | false =>
      rcases getElem?_snoc (show (s.loc ++ [Blk.rw v])[i]? = some x from hx) with h1 | ⟨h1, _⟩
      · exact hl i x hi h1
      · omega

/-- A new block of the world's. -/
theorem new_sim {B0 base : Nat} {B : BM} {s : St} {w : World} (h : SR T B0 B s w) (hbase : base ≤ s.loc.length) (hB0 : B0 ≤ w.heap.size) {hf : Bool} {v : V} (hw : v.wf T) (hmay : mayNew hf v = true) {cs : List Value} (hc : CR T B v cs) {c : Array Value} (hl : Lies c 0 cs) (e : TypeId) :
    Stp T B0 base B s w (B.push hf (⟨w.heap.size, 0, some c.size⟩, v.tag)) (s.new hf v) (w.alloc (.cells c e)) := by
  have hlt : ∀ a b ar, s.at a = some b → b ≠ .dead → B.at a = some ar → ar.1.block < w.heap.size := fun a b ar hs hd hB => (h.blk a b ar hs hB).lt hd
  obtain ⟨h1, h2, h3, h4⟩ := adopt_sim (w' := w.alloc (.cells c e)) (O := Own B s) h hbase hw hmay (ad := ⟨w.heap.size, 0, some c.size⟩)
    ⟨c, e, cs, (by show (w.heap.push _)[w.heap.size]? = _; simp), hc, hl, rfl⟩ hB0 ⟨rfl, rfl, rfl, (by show w.heap.size ≤ (w.heap.push _).size; simp), fun k hk _ => (by show (w.heap.push _)[k]? = _; rw [Array.getElem?_push, if_neg (Nat.ne_of_lt hk)])⟩
    (fun a b ar hs hd hB e => by have := hlt a b ar hs hd hB; simp only at e; omega) (.inr (Nat.le_refl _)) (fun _ h => h)
  exact ⟨h1, BM.ext_push, h2, h3, h4⟩

/-- A block that is let go. -/
theorem kill_sr {B0 : Nat} {B : BM} {s : St} {w : World} (h : SR T B0 B s w) (a : Loc) : SR T B0 B (s.set a .dead) w := by
  have key : ∀ a' b, (s.set a .dead).at a' = some b → b = .dead ∨ (a ≠ a' ∧ s.at a' = some b) := by
    intro a' b hb
    by_cases ha : a = a'
    · subst ha
      left
      cases hs : s.at a with
      | none =>
        cases a with
        | loc i =>
          simp only [St.at] at hs
          simp only [St.at, St.set] at hb
          rw [List.set_eq_of_length_le (by simpa using List.getElem?_eq_none_iff.1 hs)] at hb
          rw [hs] at hb; cases hb
        | hp i =>
          simp only [St.at] at hs
          simp only [St.at, St.set] at hb
          rw [List.set_eq_of_length_le (by simpa using List.getElem?_eq_none_iff.1 hs)] at hb
          rw [hs] at hb; cases hb
      | some x =>
        rw [St.at_set_same hs] at hb
        exact (Option.some.inj hb).symm
    · rw [St.at_set_other ha] at hb
      exact .inr ⟨ha, hb⟩
  have hl := St.set_len (s := s) (a := a) (b := Blk.dead)
  refine ⟨by rw [hl.1]; exact h.lenL, by rw [hl.2]; exact h.lenH, ?_, ?_, ?_, ?_⟩
  · intro a' b ar hs hB
    rcases key _ _ hs with h1 | ⟨_, h1⟩
    · subst h1; trivial
    · exact h.blk a' b ar h1 hB
  · intro a1 a2 ar1 ar2 v b hs1 hB1 hs2 hd hB2 hne
    rcases key _ _ hs1 with h1 | ⟨_, h1⟩
    · cases h1
    · rcases key _ _ hs2 with h2 | ⟨_, h2⟩
      · exact absurd h2 hd
      · exact h.sep a1 a2 ar1 ar2 v b h1 hB1 h2 hd hB2 hne
  · intro a1 v ar hs hB
    rcases key _ _ hs with h1 | ⟨_, h1⟩
    · cases h1
    · exact h.own a1 v ar h1 hB
  · intro i b hi
    rcases key (.hp i) b hi with h1 | ⟨_, h1⟩
    · subst h1; rfl
    · exact h.hpv i b h1
theorem kill_own {B : BM} {s : St} {a : Loc} {k : Nat} {v : V} (hs : s.at a = some (.rw v)) (h : Own B (s.set a .dead) k) : Own B s k := by
  obtain ⟨a1, v1, ar, h1, h2, h3⟩ := h
  by_cases ha : a = a1
  · subst ha; rw [St.at_set_same hs] at h1; cases h1
  · rw [St.at_set_other ha] at h1; exact ⟨a1, v1, ar, h1, h2, h3⟩
theorem kill_lvl {s : St} {a : Loc} {b : Nat} (h : Lvl b s) : Lvl b (s.set a .dead) := by
  intro i x hi hx
  cases a with
  | hp j => exact h i x hi hx
  | loc j =>
    simp only [St.set] at hx
    by_cases hij : j = i
    · subst hij
      by_cases hl : j < s.loc.length
      · rw [List.getElem?_set_self hl] at hx; cases hx; rfl
      · rw [List.set_eq_of_length_le (by omega)] at hx; exact h j x hi hx
    · rw [List.getElem?_set_ne hij] at hx; exact h i x hi hx
end Go.Ab
