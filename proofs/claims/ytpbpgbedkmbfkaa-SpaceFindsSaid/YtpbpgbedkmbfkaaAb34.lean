/-
  Ab34: what stands for what, when two blocks have changed places.
-/
import Derived.Test.YtpbpgbedkmbfkaaAb33
import Derived.Test.YtpbpgbedkmbfkaaAb18
namespace Go.Ab.Sw
open Go.Ab
variable {F : Swp} {T : Tab}

def Swp.B (F : Swp) (B : BM) : BM := if F.h then ⟨B.loc, swl F.i B.hp⟩ else ⟨swl F.i B.loc, B.hp⟩
def Swp.InB (F : Swp) (B : BM) : Prop := F.i + 1 ≠ if F.h then B.hp.length else B.loc.length
theorem B_at {B : BM} (hB : F.InB B) (a : Loc) : (F.B B).at (F.a a) = B.at a := by
  unfold Swp.InB at hB
  obtain ⟨hh, i⟩ := F
  cases hh with
  | true =>
    simp only [if_true] at hB
    cases a with
    | loc j => simp [Swp.B, Swp.a, BM.at]
    | hp j => simp [Swp.B, Swp.a, BM.at, swl_get hB]
  | false =>
    simp only [Bool.false_eq_true, if_false] at hB
    cases a with
    | loc j => simp [Swp.B, Swp.a, BM.at, swl_get hB]
    | hp j => simp [Swp.B, Swp.a, BM.at]
theorem aggOk_tags {t : Nat} {l l' : List V} (h : l.map V.tag = l'.map V.tag) (ha : aggOk T t l) : aggOk T t l' := by
  have hl : l.length = l'.length := by simpa using congrArg List.length h
  have key : ∀ e, (∀ x ∈ l, x.tag = e) → ∀ x ∈ l', x.tag = e := by
    intro e he x hx
    have : x.tag ∈ l.map V.tag := by rw [h]; exact List.mem_map_of_mem hx
    obtain ⟨y, hy, e2⟩ := List.mem_map.1 this
    rw [← e2]; exact he y hy
  unfold aggOk at *
  split at ha
  · rw [← h]; exact ha
  · exact ⟨hl ▸ ha.1, key _ ha.2⟩
  · exact key _ ha
  · exact ha
theorem tags_v (l : List V) : (F.vs l).map V.tag = l.map V.tag := by
  rw [vs_map, List.map_map]; exact List.map_congr_left fun x _ => tag_v x
mutual
theorem wf_v : ∀ {v : V}, v.wf T → (F.v v).wf T
  | .fn f caps, _ => by simp only [Swp.v, V.wf]
  | .agg t l, h => by
    simp only [Swp.v, V.wf] at h ⊢
    exact ⟨aggOk_tags (tags_v l).symm h.1, wfs_v h.2⟩
  | .tup l, h => by simp only [V.wf] at h
  | .ptr _ _ _, _ => by simp only [Swp.v, V.wf]
  | .sl _ _ _ _ _ _, _ => by simp only [Swp.v, V.wf]
  | .dead, h => by simp only [V.wf] at h
  | .bool _, _ | .int _ _, _ | .str _, _ | .nilp, _ | .nils, _ | .nilf, _ => by simp only [Swp.v, V.wf]
theorem wfs_v : ∀ {l : List V}, V.wfs T l → V.wfs T (F.vs l)
  | [], _ => by simp only [Swp.vs, V.wfs]
  | v :: l, h => by
    simp only [Swp.vs, V.wfs] at h ⊢
    exact ⟨wf_v h.1, wfs_v h.2⟩
end
mutual
theorem CR_v {B : BM} (hB : F.InB B) : ∀ {v : V} {cs : List Value}, CR T B v cs → CR T (F.B B) (F.v v) cs
  | .dead, _, hc => by simp [CR] at hc
  | .tup _, _, hc => by simp [CR] at hc
  | .bool _, _, hc => by simpa only [CR, Swp.v] using hc
  | .int _ _, _, hc => by simpa only [CR, Swp.v] using hc
  | .str _, _, hc => by simpa only [CR, Swp.v] using hc
  | .nilp, _, hc => by simpa only [CR, Swp.v] using hc
  | .nils, _, hc => by simpa only [CR, Swp.v] using hc
  | .nilf, _, hc => by simpa only [CR, Swp.v] using hc
  | .ptr _ _ _, _, hc => by
    simp only [CR, Swp.v] at hc ⊢
    obtain ⟨ad, r, o, h1, h2, h3⟩ := hc
    exact ⟨ad, r, o, by rw [B_at hB]; exact h1, h2, h3⟩
  | .sl _ _ _ _ _ _, _, hc => by
    simp only [CR, Swp.v] at hc ⊢
    obtain ⟨ad, r, o, u, c', ad', h1, h2⟩ := hc
    exact ⟨ad, r, o, u, c', ad', by rw [B_at hB]; exact h1, h2⟩
  | .fn _ l, _, hc => by
    simp only [CR, Swp.v] at hc ⊢
    obtain ⟨vs, h1, h2, h3, h4⟩ := hc
    refine ⟨vs, CRs_v hB h1, wfs_v h2, fun v hv => ?_, h4⟩
    rw [vs_map, List.mem_map] at hv
    obtain ⟨u, hu, rfl⟩ := hv
    rw [tag_v]; exact h3 u hu
  | .agg _ l, _, hc => by
    simp only [CR, Swp.v] at hc ⊢
    exact CRs_v hB hc
theorem CRs_v {B : BM} (hB : F.InB B) : ∀ {l : List V} {cs : List Value}, CRs T B l cs → CRs T (F.B B) (F.vs l) cs
  | [], _, hc => by simpa only [CRs, Swp.vs] using hc
  | v :: l, _, hc => by
    simp only [CRs, Swp.vs] at hc ⊢
    obtain ⟨a, b, h1, h2, h3⟩ := hc
    exact ⟨a, b, h1, CR_v hB h2, CRs_v hB h3⟩
end
theorem isAgg_v (v : V) : isAggV (F.v v) = isAggV v := by cases v <;> rfl
theorem VR1_v {B : BM} (hB : F.InB B) {v : V} {x : Value} (h : VR1 T B v x) : VR1 T (F.B B) (F.v v) x := ⟨wf_v h.1, CR_v hB h.2.1, by rw [isAgg_v]; exact h.2.2⟩
theorem All2_VR1_v {B : BM} (hB : F.InB B) : ∀ {l : List V} {m : List Value}, All2 (VR1 T B) l m → All2 (VR1 T (F.B B)) (F.vs l) m
  | [], [], _ => trivial
  | _ :: _, _ :: _, h => ⟨VR1_v hB h.1, All2_VR1_v hB h.2⟩
  | [], _ :: _, h => h.elim
  | _ :: _, [], h => h.elim
theorem VR_v {B : BM} (hB : F.InB B) {v : V} {x : Value} (h : VR T B v x) : VR T (F.B B) (F.v v) x := by
  cases v with
  | dead => trivial
  | tup l =>
    simp only [VR, Swp.v] at h ⊢
    obtain ⟨xs, h1, h2⟩ := h
    exact ⟨xs, h1, All2_VR1_v hB h2⟩
  | _ => exact VR1_v hB h
theorem ER_v {B : BM} (hB : F.InB B) {ρ : Env} {tmps : Array Value} (h : ER T B ρ tmps) : ER T (F.B B) (F.e ρ) tmps := fun n => by rw [get_e]; exact VR_v hB (h n)
theorem inB_of {B0 : Nat} {B : BM} {s : St} {w : World} (h : SR T B0 B s w) (hs : F.In s) : F.InB B := by
  unfold Swp.In Swp.n at hs
  unfold Swp.InB
  rw [h.lenL, h.lenH]; exact hs
theorem s_at {s : St} (hs : F.In s) (a : Loc) : (F.s s).at (F.a a) = (s.at a).map F.b := by
  unfold Swp.In Swp.n at hs
  obtain ⟨hh, i⟩ := F
  cases hh with
  | true =>
    simp only [if_true] at hs
    cases a with
    | loc j => simp [Swp.s, Swp.a, St.at]
    | hp j => simp [Swp.s, Swp.a, St.at, swl_get hs]
  | false =>
    simp only [Bool.false_eq_true, if_false] at hs
    cases a with
    | loc j => simp [Swp.s, Swp.a, St.at, swl_get hs]
    | hp j => simp [Swp.s, Swp.a, St.at]
theorem blkLt0_b (b : Blk) : blkLt 0 (F.b b) = blkLt 0 b := by cases b <;> simp only [Swp.b, blkLt, locLt0_v]
theorem SR_v {B0 : Nat} {B : BM} {s : St} {w : World} (h : SR T B0 B s w) (hs : F.In s) : SR T B0 (F.B B) (F.s s) w := by
  have hB := inB_of h hs
  have get : ∀ {a b ar}, (F.s s).at a = some b → (F.B B).at a = some ar → ∃ b0, s.at (F.a a) = some b0 ∧ b = F.b b0 ∧ B.at (F.a a) = some ar := by
    intro a b ar h1 h2
    have e1 := s_at hs (F.a a)
    have e2 := B_at hB (F.a a)
    rw [a_a] at e1 e2
    rw [e1] at h1
    rw [e2] at h2
    cases hb : s.at (F.a a) with
    | none => rw [hb] at h1; cases h1
    | some b0 => rw [hb] at h1; cases h1; exact ⟨b0, rfl, rfl, h2⟩
  refine ⟨?_, ?_, ?_, ?_, ?_, ?_⟩
  · have := h.lenL
    unfold Swp.B Swp.s
    split <;> simp [swl_len, this]
  · have := h.lenH
    unfold Swp.B Swp.s
    split <;> simp [swl_len, this]
  · intro a b ar h1 h2
    obtain ⟨b0, g1, rfl, g2⟩ := get h1 h2
    have hb := h.blk _ _ _ g1 g2
    cases b0 with
    | dead => trivial
    | ro v =>
      obtain ⟨k1, k2, c, e, fr, cs, k3, k4, k5⟩ := hb
      exact ⟨wf_v k1, by rw [tag_v]; exact k2, c, e, fr, cs, k3, CR_v hB k4, k5⟩
    | rw v =>
      obtain ⟨k1, k2, c, e, cs, k3, k4, k5⟩ := hb
      exact ⟨wf_v k1, by rw [tag_v]; exact k2, c, e, cs, k3, CR_v hB k4, k5⟩
  · intro a a' ar ar' v b' h1 h2 h3 h4 h5 h6
    obtain ⟨b0, g1, e1, g2⟩ := get h1 h2
    obtain ⟨b1, g3, e3, g4⟩ := get h3 h5
    cases b0 <;> simp only [Swp.b] at e1 <;> cases e1
    refine h.sep _ _ _ _ _ b1 g1 g2 g3 (fun e => h4 (by rw [e3, e]; rfl)) g4 fun e => h6 (a_inj e)
  · intro a v ar h1 h2
    obtain ⟨b0, g1, e1, g2⟩ := get h1 h2
    cases b0 <;> simp only [Swp.b] at e1 <;> cases e1
    exact h.own _ _ _ g1 g2
  · intro i b hb
    have : ∃ (j : Nat) (b0 : Blk), s.hp[j]? = some b0 ∧ b = F.b b0 := by
      unfold Swp.s at hb
      split at hb
      · rename_i hh
        unfold Swp.In Swp.n at hs
        rw [if_pos hh] at hs
        simp only [List.getElem?_map] at hb
        have := swl_get hs (sw F.i i)
        rw [sw_sw] at this
        rw [this] at hb
        cases hx : s.hp[sw F.i i]? with
        | none => rw [hx] at hb; cases hb
        | some b0 => rw [hx] at hb; cases hb; exact ⟨_, b0, hx, rfl⟩
      · simp only [List.getElem?_map] at hb
        cases hx : s.hp[i]? with
        | none => rw [hx] at hb; cases hb
        | some b0 => rw [hx] at hb; cases hb; exact ⟨_, b0, hx, rfl⟩
    obtain ⟨j, b0, h1, rfl⟩ := this
    rw [blkLt0_b]
    exact h.hpv j b0 h1
theorem own_v {B : BM} {s : St} (hs : F.In s) (hB : F.InB B) {k : Nat} (h : Own (F.B B) (F.s s) k) : Own B s k := by
  obtain ⟨a, v, ar, h1, h2, h3⟩ := h
  have e1 := s_at hs (F.a a)
  have e2 := B_at hB (F.a a)
  rw [a_a] at e1 e2
  rw [e1] at h1
  rw [e2] at h2
  cases hb : s.at (F.a a) with
  | none => rw [hb] at h1; cases h1
  | some b0 =>
    rw [hb] at h1
    cases b0 <;> simp only [Option.map_some, Swp.b, Option.some.injEq] at h1 <;> cases h1
    exact ⟨_, _, ar, hb, h2, h3⟩
theorem prefix_swl {α : Type} {i : Nat} {l m : List α} (h : l <+: m) (hi : l.length ≤ i) : l <+: swl i m := by
  unfold swl
  split
  · obtain ⟨r, rfl⟩ := h
    rw [List.set_append_right _ _ hi, List.set_append_right _ _ (by omega)]
    exact List.prefix_append _ _
  · exact h
mutual
theorem locLt_low {b : Nat} (hb : F.h = true ∨ b ≤ F.i) : ∀ (v : V), (F.v v).locLt b = v.locLt b
  | .ptr (.loc i) _ _ => by
    simp only [Swp.v, Swp.a]
    split
    · rfl
    · rename_i hh
      have hb := hb.resolve_left hh
      simp only [V.locLt]
      apply decide_eq_decide.2
      unfold sw
      split
      · omega
      · split <;> omega
  | .ptr (.hp i) _ _ => by simp only [Swp.v, Swp.a]; split <;> simp [V.locLt]
  | .sl (.loc i) _ _ _ _ _ => by
    simp only [Swp.v, Swp.a]
    split
    · rfl
    · rename_i hh
      have hb := hb.resolve_left hh
      simp only [V.locLt]
      apply decide_eq_decide.2
      unfold sw
      split
      · omega
      · split <;> omega
  | .sl (.hp i) _ _ _ _ _ => by simp only [Swp.v, Swp.a]; split <;> simp [V.locLt]
  | .fn f caps => by simp only [Swp.v, V.locLt, locLts_low hb caps]
  | .agg t l => by simp only [Swp.v, V.locLt, locLts_low hb l]
  | .tup l => by simp only [Swp.v, V.locLt, locLts_low hb l]
  | .dead | .bool _ | .int _ _ | .str _ | .nilp | .nils | .nilf => by simp [Swp.v, V.locLt]
theorem locLts_low {b : Nat} (hb : F.h = true ∨ b ≤ F.i) : ∀ (l : List V), V.locLts b (F.vs l) = V.locLts b l
  | [] => by simp [Swp.vs, V.locLts]
  | v :: l => by simp only [Swp.vs, V.locLts, locLt_low hb v, locLts_low hb l]
end
theorem blkLt_low {b : Nat} (hb : F.h = true ∨ b ≤ F.i) (x : Blk) : blkLt b (F.b x) = blkLt b x := by cases x <;> simp only [Swp.b, blkLt, locLt_low hb]
theorem lvl_v {b : Nat} (hb : F.h = true ∨ b ≤ F.i) {s : St} (hs : F.In s) (h : Lvl b s) : Lvl b (F.s s) := by
  intro i x hi hx
  have : ∃ x0, s.loc[i]? = some x0 ∧ x = F.b x0 := by
    unfold Swp.s at hx
    split at hx
    · simp only [List.getElem?_map] at hx
      cases hy : s.loc[i]? with
      | none => rw [hy] at hx; cases hx
      | some x0 => rw [hy] at hx; cases hx; exact ⟨x0, rfl, rfl⟩
    · rename_i hh
      have hb := hb.resolve_left hh
      unfold Swp.In Swp.n at hs
      rw [if_neg hh] at hs
      simp only [List.getElem?_map] at hx
      have := swl_get hs i
      have e : sw F.i i = i := by unfold sw; rw [if_neg (by omega), if_neg (by omega)]
      rw [e] at this
      rw [this] at hx
      cases hy : s.loc[i]? with
      | none => rw [hy] at hx; cases hx
      | some x0 => rw [hy] at hx; cases hx; exact ⟨x0, rfl, rfl⟩
  obtain ⟨x0, h1, rfl⟩ := this
  rw [blkLt_low hb]
  exact h i x0 hi h1
/-- What holds behind a piece of code holds of the same with two new blocks changed. -/
theorem Aft_v {c : Cfg} {B0 base nt : Nat} {B B' : BM} {ρ' : Env} {s s' : St} {a a' : Act} {w w' : World} (hS : SR c.T B0 B s w) (hbase : base ≤ s.loc.length) (h : Aft c B0 base B s w a nt ρ' s' B' a' w') (hs : F.In s') (hn : F.n s ≤ F.i) :
    Aft c B0 base B s w a nt (F.e ρ') (F.s s') (F.B B') a' w' := by
  have hB := inB_of h.st.sr hs
  refine ⟨h.df, ER_v hB h.er, ⟨SR_v h.st.sr hs, ?_, h.st.frm, ?_, ?_⟩, h.nt⟩
  · have e := h.st.ext
    have l1 := hS.lenL
    have l2 := hS.lenH
    unfold Swp.n at hn
    unfold Swp.B
    split
    · rename_i hh
      rw [if_pos hh] at hn
      exact ⟨e.loc, prefix_swl e.hp (by rw [l2]; exact hn)⟩
    · rename_i hh
      rw [if_neg hh] at hn
      exact ⟨prefix_swl e.loc (by rw [l1]; exact hn), e.hp⟩
  · intro k hk ho
    exact h.st.sub k hk (own_v hs hB ho)
  · intro b hb hl
    refine lvl_v ?_ hs (h.st.lvl b hb hl)
    unfold Swp.n at hn
    by_cases hh : F.h = true
    · exact .inl hh
    · rw [if_neg hh] at hn; exact .inr (by omega)
end Go.Ab.Sw
