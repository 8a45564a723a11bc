/-
  Ab37: an operation done ahead of others, up to the places of what is new.
-/
import Derived.Test.YtpbpgbedkmbfkaaAb36
namespace Go.Ab.Sw
open Go.Ab
variable {F : Swp}

def swB (y x : Op) : Bool := apartB y x && (match newY y.op, newK x.op with | some h, some h' => h == h' | _, _ => false)
theorem new_fresh_n {F : Swp} {s : St} {h : Bool} {z : V} (hF : F.h = h) : F.n (s.new h z) = F.n s + 1 := by
  subst hF
  unfold Swp.n
  cases hh : F.h <;> simp [St.new]
theorem kill_n {F : Swp} (d : Option Loc) (s : St) : F.n (kill d s) = F.n s := by
  cases d with
  | none => rfl
  | some a =>
    unfold Swp.n kill
    split
    · exact set_len.2
    · exact set_len.1
theorem swl_two {α : Type} {l : List α} {a b : α} : swl l.length (l ++ [a, b]) = l ++ [b, a] := by
  unfold swl
  rw [List.getElem?_append_right (Nat.le_refl _), List.getElem?_append_right (by omega)]
  simp
/-- The last two blocks changed. -/
theorem s_two {F : Swp} {s0 : St} {h : Bool} {a b : V} (hh : F.h = h) (hi : F.i = F.n s0) (hs : F.s s0 = s0) (ha : F.v a = a) (hb : F.v b = b) : F.s ((s0.new h a).new h b) = (s0.new h b).new h a := by
  subst hh
  obtain ⟨fh, fi⟩ := F
  cases fh with
  | true =>
    simp only [Swp.n, if_true] at hi
    subst hi
    have h1 : s0.loc.map (Swp.b ⟨true, s0.hp.length⟩) = s0.loc := by
      have := congrArg St.loc hs
      simpa [Swp.s] using this
    have h2 : s0.hp.map (Swp.b ⟨true, s0.hp.length⟩) = s0.hp := by
      have := congrArg St.hp hs
      simp only [Swp.s, if_true] at this
      rwa [swl_out (Nat.le_refl _)] at this
    simp only [St.new, if_true, Swp.s, List.append_assoc, List.cons_append, List.nil_append, swl_two, List.map_append, List.map_cons, List.map_nil, h1, h2, Swp.b, ha, hb]
  | false =>
    simp only [Swp.n, Bool.false_eq_true, if_false] at hi
    subst hi
    have h1 : s0.hp.map (Swp.b ⟨false, s0.loc.length⟩) = s0.hp := by
      have := congrArg St.hp hs
      simpa [Swp.s] using this
    have h2 : s0.loc.map (Swp.b ⟨false, s0.loc.length⟩) = s0.loc := by
      have := congrArg St.loc hs
      simp only [Swp.s, Bool.false_eq_true, if_false] at this
      rwa [swl_out (Nat.le_refl _)] at this
    simp only [St.new, Bool.false_eq_true, if_false, Swp.s, List.append_assoc, List.cons_append, List.nil_append, swl_two, List.map_append, List.map_cons, List.map_nil, h1, h2, Swp.b, ha, hb]
theorem kill_new {d : Option Loc} {s : St} {h : Bool} {z : V} (hd : ∀ a, d = some a → (s.at a).isSome = true) : kill d (s.new h z) = (kill d s).new h z := by
  cases d with
  | none => rfl
  | some a =>
    have ha := hd a rfl
    cases a with
    | loc i =>
      simp only [St.at, isSome_lt] at ha
      cases h <;> simp [kill, St.set, St.new, ha]
    | hp i =>
      simp only [St.at, isSome_lt] at ha
      cases h <;> simp [kill, St.set, St.new, ha]
theorem kill_s {F : Swp} {d : Option Loc} {s : St} (hn : F.n s ≤ F.i) (hs : F.s s = s) (hd : ∀ a, d = some a → (s.at a).isSome = true) : F.s (kill d s) = kill d s := by
  cases d with
  | none => exact hs
  | some a =>
    have hI : F.In s := by unfold Swp.In; omega
    have := (set_s (F := F) (a := a) hI .dead).1
    simp only [kill, this, hs, a_low hn (hd a rfl), Swp.b]
mutual
theorem vv_v : ∀ (v : V), F.v (F.v v) = v
  | .ptr a p t => by simp only [Swp.v, a_a]
  | .sl a p o l c e => by simp only [Swp.v, a_a]
  | .fn f caps => by simp only [Swp.v, vvs_v caps]
  | .agg t l => by simp only [Swp.v, vvs_v l]
  | .tup l => by simp only [Swp.v, vvs_v l]
  | .dead | .bool _ | .int _ _ | .str _ | .nilp | .nils | .nilf => by simp only [Swp.v]
theorem vvs_v : ∀ (l : List V), F.vs (F.vs l) = l
  | [] => by simp only [Swp.vs]
  | v :: l => by simp only [Swp.vs, vv_v v, vvs_v l]
end
theorem bb_b (b : Blk) : F.b (F.b b) = b := by cases b <;> simp only [Swp.b, vv_v]
theorem ss_s {s : St} (hI : F.In s) : F.s (F.s s) = s := by
  have hm : ∀ l : List Blk, (l.map F.b).map F.b = l := fun l => by
    rw [List.map_map]
    exact (List.map_congr_left fun b _ => bb_b b).trans (List.map_id _)
  unfold Swp.In Swp.n at hI
  unfold Swp.s
  split
  · rename_i hh
    rw [if_pos hh] at hI
    simp only [swl_map, hm]
    rw [swl_swl (by simpa using hI)]
  · rename_i hh
    rw [if_neg hh] at hI
    simp only [swl_map, hm]
    rw [swl_swl (by simpa using hI)]
/-- How two runs differ: by blocks that have changed places. -/
inductive Rel (base : Nat) (s0 : St) : Env × St → Env × St → Prop where
  | same {r r' : Env × St} : Same r.1 r'.1 → r.2 = r'.2 → Rel base s0 r r'
  | step {r r1 r2 : Env × St} (F : Swp) : Rel base s0 r r1 → F.n s0 ≤ F.i → F.i + 1 < F.n r1.2 → (∀ t, F.v (get r1.1 t) = get r2.1 t) → F.s r1.2 = r2.2 → Rel base s0 r r2
theorem Rel.snoc {base : Nat} {s0 : St} {r r1 r2 : Env × St} (h : Rel base s0 r r1) (h1 : Same r1.1 r2.1) (h2 : r1.2 = r2.2) : Rel base s0 r r2 := by
  cases h with
  | same k1 k2 => exact .same (k1.trans h1) (k2.trans h2)
  | step F a b c d e => exact .step F a b c (fun t => (d t).trans (h1 t)) (e.trans h2)
theorem Rel.low {base : Nat} {s0 s1 : St} {r r' : Env × St} (h : Rel base s1 r r') (hl : Le s0 s1) : Rel base s0 r r' := by
  induction h with
  | same a b => exact .same a b
  | step F _ b c d e ih => exact .step F ih (Nat.le_trans hl.n b) c d e
section sw
variable {rec : Task → St → Option Res} {base : Nat}
theorem newY_ev {o : Op} {h : Bool} (hk : newY o.op = some h) {ρ : Env} {s : St} : ropF rec base ρ s o.op = evOp base ρ s o.op := by
  cases ho : o.op <;> rw [ho] at hk <;> first | rfl | cases hk
theorem newK_Y {o : Op'} {h : Bool} (hk : newK o = some h) : newY o = some h := by
  cases o <;> first | exact hk | cases hk
theorem valO_true {o : Op} {ρ : Env} {s : St} (hg : guardOk o.guard ρ = some true) : valO rec base o ρ s = ropF rec base ρ s o.op := by unfold valO; rw [hg]
theorem valO_false {o : Op} {ρ : Env} {s : St} (hg : guardOk o.guard ρ = some false) : valO rec base o ρ s = some (.tup [], s) := by unfold valO; rw [hg]
theorem swcomm {y x : Op} (hc : swB y x = true) (hyc : y.op.clos 0 = true) (hxc : x.op.clos 0 = true) {p p1 p2 : Env × St} (hcl : Cl p.1 p.2) (hb : base ≤ p.2.loc.length) (hy : stepO rec base y p = some p1) (hx : stepO rec base x p1 = some p2) :
    ∃ q1 q2, stepO rec base x p = some q1 ∧ stepO rec base y q1 = some q2 ∧ ((Same p2.1 q2.1 ∧ p2.2 = q2.2) ∨ ∃ F : Swp, F.Ok base ∧ F.n p.2 ≤ F.i ∧ F.i + 1 < F.n p2.2 ∧ (∀ t, F.v (get p2.1 t) = get q2.1 t) ∧ F.s p2.2 = q2.2) := by
  obtain ⟨ρ, s⟩ := p
  simp only [swB, apartB, Bool.and_eq_true] at hc
  obtain ⟨⟨⟨ha, hbb⟩, hd⟩, hk⟩ := hc
  split at hk
  case h_2 => cases hk
  rename_i h h' hyk hxk
  obtain rfl : h = h' := by simpa using hk
  simp only at hcl hb
  unfold stepO at hy hx
  cases hvy : valO rec base y ρ s with
  | none => rw [hvy] at hy; cases hy
  | some q =>
    obtain ⟨vy, sy⟩ := q
    rw [hvy] at hy
    simp only [Option.some.injEq] at hy
    subst hy
    rw [valO_put hbb] at hx
    cases hvx : valO rec base x ρ sy with
    | none => rw [hvx] at hx; cases hx
    | some q =>
      obtain ⟨vx, sx⟩ := q
      rw [hvx] at hx
      simp only [Option.some.injEq] at hx
      subst hx
      have same : Same (put x.dst vx (put y.dst vy ρ)) (put y.dst vy (put x.dst vx ρ)) := by
        intro t
        cases hx : x.dst with
        | none => rfl
        | some d =>
          cases hy : y.dst with
          | none => rfl
          | some d' =>
            rw [hx, hy] at hd
            simp only [ne_eq, decide_eq_true_eq] at hd
            simp only [put, get]
            split
            · rename_i e; subst e; rw [if_neg (fun e => hd e.symm)]
            · rfl
      have plain : ∀ s1, valO rec base x ρ s = some (vx, s1) → valO rec base y ρ s1 = some (vy, sx) →
          ∃ q1 q2, stepO rec base x (ρ, s) = some q1 ∧ stepO rec base y q1 = some q2 ∧ ((Same (put x.dst vx (put y.dst vy ρ)) q2.1 ∧ sx = q2.2) ∨ ∃ F : Swp, F.Ok base ∧ F.n s ≤ F.i ∧ F.i + 1 < F.n sx ∧ (∀ t, F.v (get (put x.dst vx (put y.dst vy ρ)) t) = get q2.1 t) ∧ F.s sx = q2.2) := by
        intro s1 k1 k2
        refine ⟨(put x.dst vx ρ, s1), (put y.dst vy (put x.dst vx ρ), sx), ?_, ?_, .inl ⟨same, rfl⟩⟩
        · simp only [stepO, k1]
        · simp only [stepO, valO_put ha, k2]
      cases hgx : guardOk x.guard ρ with
      | none => unfold valO at hvx; rw [hgx] at hvx; cases hvx
      | some gx =>
        cases gx with
        | false =>
          rw [valO_false hgx] at hvx
          simp only [Option.some.injEq, Prod.mk.injEq] at hvx
          obtain ⟨rfl, rfl⟩ := hvx
          exact plain s (valO_false hgx) hvy
        | true =>
          rw [valO_true hgx, newY_ev (newK_Y hxk)] at hvx
          obtain ⟨fx, zx, hfx, hallx⟩ := newK_form hxk hvx
          have hxs : valO rec base x ρ s = some (fx (s.fresh h), s.new h zx) := by rw [valO_true hgx, newY_ev (newK_Y hxk), hallx s]
          cases hgy : guardOk y.guard ρ with
          | none => unfold valO at hvy; rw [hgy] at hvy; cases hvy
          | some gy =>
            cases gy with
            | false =>
              rw [valO_false hgy] at hvy
              simp only [Option.some.injEq, Prod.mk.injEq] at hvy
              obtain ⟨rfl, rfl⟩ := hvy
              refine plain (s.new h zx) (by rw [hxs, hfx.veq]) ?_
              rw [valO_false hgy, hfx.seq]; rfl
            | true =>
              rw [valO_true hgy, newY_ev hyk] at hvy
              have form : (sy = s ∧ ∀ h2 z2, evOp base ρ (s.new h2 z2) y.op = some (vy, s.new h2 z2)) ∨ ∃ d f z, Form base ρ y.op h s vy sy d f z := by
                cases ho : y.op with
                | app h2 r e a b =>
                  rw [ho] at hyk hvy
                  simp only [newY, Option.some.injEq] at hyk
                  subst hyk
                  exact app_form hvy
                | alloc h2 z => rw [ho] at hyk hvy; obtain ⟨f, z, hf, _⟩ := newK_form (o := .alloc h2 z) (h := h) (show newK (.alloc h2 z) = some h from hyk) hvy; exact .inr ⟨none, f, z, hf⟩
                | box h2 z => rw [ho] at hyk hvy; obtain ⟨f, z, hf, _⟩ := newK_form (o := .box h2 z) (h := h) (show newK (.box h2 z) = some h from hyk) hvy; exact .inr ⟨none, f, z, hf⟩
                | bsl h2 r e z n ps => rw [ho] at hyk hvy; obtain ⟨f, z, hf, _⟩ := newK_form (o := .bsl h2 r e z n ps) (h := h) (show newK (.bsl h2 r e z n ps) = some h from hyk) hvy; exact .inr ⟨none, f, z, hf⟩
                | mksl h2 r e z n c => rw [ho] at hyk hvy; obtain ⟨f, z, hf, _⟩ := newK_form (o := .mksl h2 r e z n c) (h := h) (show newK (.mksl h2 r e z n c) = some h from hyk) hvy; exact .inr ⟨none, f, z, hf⟩
                | _ => rw [ho] at hyk; cases hyk
              rcases form with ⟨rfl, hall⟩ | ⟨d, fy, zy, hfy⟩
              · refine plain (sy.new h zx) (by rw [hxs, hfx.veq]) ?_
                rw [valO_true hgy, newY_ev hyk, hall, hfx.seq]; rfl
              · -- both have made a block
                have hn0 : ∀ F : Swp, F.n s ≤ F.i → F.In s := fun F hF => by unfold Swp.In; omega
                obtain ⟨F, hFh, hFi⟩ : ∃ F : Swp, F.h = h ∧ F.i = F.n s := ⟨⟨h, if h then s.hp.length else s.loc.length⟩, rfl, rfl⟩
                obtain ⟨hρ, hs⟩ := hcl F (by omega)
                have hI := hn0 F (by omega)
                have hOk : F.Ok base := ⟨fun hh => by rw [hFi]; unfold Swp.n; rw [hh]; simpa using hb⟩
                have hz1 := hfy.zeq hyc F hI hs hρ
                have hz2 : F.v zx = zx := by
                  obtain ⟨f2, z2, hf2, hall2⟩ := newK_form hxk (hallx s)
                  have e := (hall2 s).symm.trans (hallx s)
                  simp only [Option.some.injEq, Prod.mk.injEq] at e
                  have hzz : z2 = zx := by
                    have := e.2
                    cases h <;> simp [St.new] at this <;> exact this
                  rw [← hzz]
                  exact hf2.zeq hxc F hI hs hρ
                have hks := kill_s (F := F) (d := d) (s := s) (by omega) hs hfy.there
                have hkn : F.n (kill d s) = F.n s := kill_n d s
                have hsx : sx = ((kill d s).new h zy).new h zx := by rw [hfx.seq, hfy.seq]; rfl
                have hsy : (kill d (s.new h zx)).new h zy = ((kill d s).new h zx).new h zy := by rw [kill_new hfy.there]
                have hFs : F.s sx = (kill d (s.new h zx)).new h zy := by
                  rw [hsx, hsy]
                  exact s_two hFh (by rw [hkn]; exact hFi) hks hz1 hz2
                -- where the blocks stand
                have hfr0 : ∀ {s1 : St}, F.n s1 = F.n s → s1.fresh h = (if h then .hp (F.n s) else .loc (F.n s)) := by
                  intro s1 e
                  rw [← e]
                  unfold St.fresh Swp.n
                  rw [hFh]
                  cases h <;> rfl
                have hfr1 : ∀ {s1 : St}, F.n s1 = F.n s + 1 → s1.fresh h = (if h then .hp (F.n s + 1) else .loc (F.n s + 1)) := by
                  intro s1 e
                  rw [← e]
                  unfold St.fresh Swp.n
                  rw [hFh]
                  cases h <;> rfl
                have a0 : F.a (if h then .hp (F.n s) else .loc (F.n s)) = (if h then .hp (F.n s + 1) else .loc (F.n s + 1)) := by
                  cases h <;> simp [Swp.a, hFh, sw, hFi]
                have a1 : F.a (if h then .hp (F.n s + 1) else .loc (F.n s + 1)) = (if h then .hp (F.n s) else .loc (F.n s)) := by
                  rw [← a0, a_a]
                have hvy' : F.v vy = fy ((s.new h zx).fresh h) := by
                  rw [hfy.veq, hfy.ren, hfr0 rfl, hfr1 (new_fresh_n hFh), a0]
                have hvx' : F.v vx = fx (s.fresh h) := by
                  rw [hfx.veq, hfx.ren, hfr1 (by rw [hfy.seq, new_fresh_n hFh, hkn]), hfr0 rfl, a1]
                refine ⟨(put x.dst (fx (s.fresh h)) ρ, s.new h zx), (put y.dst (F.v vy) (put x.dst (F.v vx) ρ), (kill d (s.new h zx)).new h zy), ?_, ?_, .inr ⟨F, hOk, by simp only; omega, ?_, ?_, hFs⟩⟩
                · simp only [stepO, hxs]
                · simp only [stepO, valO_put ha, valO_true hgy, newY_ev hyk, hfy.more]
                  rw [hvy', hvx']
                · simp only [hsx]
                  rw [new_fresh_n hFh, new_fresh_n hFh, hkn]; omega
                · intro t
                  have e1 := put_vv (F := F) (ρ := put y.dst vy ρ) (ρ' := put y.dst (F.v vy) ρ) (put_vv (F := F) hρ y.dst vy) x.dst vx t
                  rw [e1]
                  cases hx : x.dst with
                  | none => rfl
                  | some dd =>
                    cases hy : y.dst with
                    | none => rfl
                    | some d' =>
                      rw [hx, hy] at hd
                      simp only [ne_eq, decide_eq_true_eq] at hd
                      simp only [put, get]
                      split
                      · rename_i e; subst e; rw [if_neg (fun e => hd e.symm)]
                      · rfl
theorem step_base {o : Op} (ho : eqB o = true) {x y : Env × St} (hb : base ≤ x.2.loc.length) (h : stepO rec base o x = some y) : base ≤ y.2.loc.length := Nat.le_trans hb (step_le ho h).1
/-- An operation, done ahead of those that the text puts before it. -/
theorem bubble2 {x : Op} : ∀ {l1 l2 : List Op} {p r : Env × St}, (∀ y ∈ l1, commB y x = true ∨ swB y x = true) → (∀ o ∈ l1 ++ x :: l2, eqB o = true) → Cl p.1 p.2 → base ≤ p.2.loc.length → evl rec base (l1 ++ x :: l2) p = some r →
    ∃ q r', stepO rec base x p = some q ∧ evl rec base (l1 ++ l2) q = some r' ∧ Rel base p.2 r r'
  | [], l2, p, r, _, _, _, _, h => by
    simp only [List.nil_append, evl] at h ⊢
    cases hq : stepO rec base x p with
    | none => rw [hq] at h; cases h
    | some q => rw [hq] at h; exact ⟨q, r, rfl, h, .same (.refl _) rfl⟩
  | y :: l1, l2, p, r, hc, he, hcl, hb, h => by
    simp only [List.cons_append, evl] at h
    cases hy : stepO rec base y p with
    | none => rw [hy] at h; cases h
    | some p1 =>
      rw [hy] at h
      have hey := he y List.mem_cons_self
      have hex := he x (by simp)
      obtain ⟨q, r', h1, h2, h3⟩ := bubble2 (fun z hz => hc z (List.mem_cons_of_mem _ hz)) (fun o ho => he o (by simpa using .inr (by simpa using ho))) (cl_step hey hb hcl hy) (step_base hey hb hy) h
      have h3' := h3.low (step_le hey hy)
      have hrest : ∀ o ∈ l1 ++ l2, eqB o = true := fun o ho => he o (by
        rcases List.mem_append.1 ho with h | h
        · simp [h]
        · simp [h])
      have fin : ∀ {q1 q2 : Env × St}, stepO rec base x p = some q1 → stepO rec base y q1 = some q2 → Same q.1 q2.1 → q.2 = q2.2 → ∃ q r', stepO rec base x p = some q ∧ evl rec base (y :: l1 ++ l2) q = some r' ∧ Rel base p.2 r r' := by
        intro q1 q2 k1 k2 k3 k4
        obtain ⟨r2, m1, m2, m3⟩ := evl_same k3 k4 h2
        exact ⟨q1, r2, k1, by simp only [List.cons_append, evl, k2]; exact m1, h3'.snoc m2 m3⟩
      rcases hc y List.mem_cons_self with hcm | hsw
      · obtain ⟨q1, q2, k1, k2, k3, k4⟩ := comm hcm hy h1
        exact fin k1 k2 k3 k4
      · simp only [eqB, Bool.and_eq_true] at hey hex
        obtain ⟨q1, q2, k1, k2, k3⟩ := swcomm hsw hey.2 hex.2 hcl hb hy h1
        rcases k3 with ⟨k3, k4⟩ | ⟨F, hOk, f1, f2, f3, f4⟩
        · exact fin k1 k2 k3 k4
        · obtain ⟨r2, m1, m2, m3, _⟩ := evl_v hOk hrest f2 f3 f4 h2
          have hr : F.i + 1 < F.n r'.2 := by
            obtain ⟨_, _, _, _, g⟩ := evl_v hOk hrest f2 f3 f4 h2
            exact g
          exact ⟨q1, r2, k1, by simp only [List.cons_append, evl, k2]; exact m1, .step F h3' f1 hr m2 m3⟩
/-- The same, of any operations that change places plainly. -/
theorem bubble3 {x : Op} {l1 l2 : List Op} {p r : Env × St} (hc : (∀ y ∈ l1, commB y x = true) ∨ ((∀ y ∈ l1, commB y x = true ∨ swB y x = true) ∧ ∀ o ∈ l1 ++ x :: l2, eqB o = true)) (hcl : Cl p.1 p.2) (hb : base ≤ p.2.loc.length) (h : evl rec base (l1 ++ x :: l2) p = some r) :
    ∃ q r', stepO rec base x p = some q ∧ evl rec base (l1 ++ l2) q = some r' ∧ Rel base p.2 r r' := by
  rcases hc with hc | ⟨hc, he⟩
  · obtain ⟨q, r', h1, h2, h3, h4⟩ := bubble hc h
    exact ⟨q, r', h1, h2, .same h3 h4⟩
  · exact bubble2 hc he hcl hb h
/-- What holds behind the one run holds behind the other. -/
theorem Rel.back {c : Cfg} {B0 base nt : Nat} {B : BM} {s0 : St} {a : Act} {w : World} (hS : SR c.T B0 B s0 w) (hbase : base ≤ s0.loc.length) {r r' : Env × St} (h : Rel base s0 r r') :
    ∀ {B' : BM} {a' : Act} {w' : World}, Aft c B0 base B s0 w a nt r'.1 r'.2 B' a' w' → ∃ B'', Aft c B0 base B s0 w a nt r.1 r.2 B'' a' w' := by
  induction h with
  | same h1 h2 =>
    intro B' a' w' ha
    exact ⟨B', ha.df, ha.er.same h1.symm, by rw [h2]; exact ha.st, ha.nt⟩
  | @step r1 r2 F _ hn hi hρ hs ih =>
    intro B' a' w' ha
    have hnn : F.n r2.2 = F.n r1.2 := by
      rw [← hs]
      unfold Swp.n Swp.s
      split <;> simp [swl_len]
    have hI1 : F.In r1.2 := by unfold Swp.In; omega
    have hI2 : F.In r2.2 := by unfold Swp.In; omega
    have h2 := Aft_v hS hbase ha hI2 hn
    have e1 : Same (F.e r2.1) r1.1 := fun t => by
      rw [get_e, ← hρ t]
      exact vv_v _
    have e2 : F.s r2.2 = r1.2 := by rw [← hs]; exact ss_s hI1
    rw [e2] at h2
    exact ih ⟨h2.df, h2.er.same e1, h2.st, h2.nt⟩
end sw
end Go.Ab.Sw
