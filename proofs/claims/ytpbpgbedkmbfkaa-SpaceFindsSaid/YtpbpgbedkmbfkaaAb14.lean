/-
  Ab14: the simulation of made slices, of equality, of append and copy.
-/
import Derived.Test.YtpbpgbedkmbfkaaAb13
import Derived.Laws.AppendOwn
namespace Go.Ab

section eqs
variable {P : Program} (w : World)
/-- The elements of two arrays, one behind the other. -/
def eqElems (d : Nat) (ty : TypeId) (xs ys : Array Value) (n : Nat) : List Nat → Sem Bool
  | [] => pure true
  | i :: r => do
    let a ← part ty xs (i * n)
    let b ← part ty ys (i * n)
    let q ← Op.equalIn d ty a b
    if (!q) = true then pure false else eqElems d ty xs ys n r

theorem run_equalIn_array (d : Nat) (t ety : TypeId) (len sz : Nat) (xs ys : Array Value) (ht : P.underlying t = some (.array len ety)) (hs : ∀ w, (sizeOf ety).run P w = .ok sz w) :
    (Op.equalIn (d + 1) t (.agg xs) (.agg ys)).run P w = (eqElems d ety xs ys sz (List.range len)).run P w := by
  simp only [Op.equalIn, Sem.run_bind, run_underlying ht, Result.andThen_ok, hs]
  rw [Std.Legacy.Range.forIn_eq_forIn_range']
  simp only [Std.Legacy.Range.size, Nat.sub_zero, Nat.add_sub_cancel, Nat.div_one]
  rw [List.range_eq_range']
  generalize List.range' 0 len = is
  induction is generalizing w with
  | nil => simp [eqElems]
  | cons i is ih =>
    simp only [List.forIn_cons, eqElems, Sem.run_bind]
    generalize (part ety xs (i * sz)).run P w = r1
    cases r1 with
    | ok a w1 =>
      simp only [Result.andThen_ok]
      generalize (part ety ys (i * sz)).run P w1 = r2
      cases r2 with
      | ok b w2 =>
        simp only [Result.andThen_ok]
        generalize (Op.equalIn d ety a b).run P w2 = r3
        cases r3 with
        | ok q w3 =>
          cases q
          · simp only [Result.andThen_ok, Bool.not_false, if_true, Sem.run_pure]
          · simp only [Result.andThen_ok, Bool.not_true, Bool.false_eq_true, if_false, Sem.run_pure]
            exact ih w3
        | halt x w3 => simp [Result.andThen]
      | halt x w2 => simp [Result.andThen]
    | halt x w1 => simp [Result.andThen]
end eqs

theorem info_ge {T : Tab} (hT : tabOk T = true) {t : Nat} {ti : TI} (h : T.info t = some ti) : 20 ≤ t := by
  by_cases ht : t < 20
  · rw [info_leaf hT ht] at h; cases h
  · omega
theorem tyLeaf {c : Cfg} (hT : tabOk c.T = true) {ty t : Nat} {i : TypeInfo} {d : TypeDesc} (hty : Ty c ty t i d) : (∀ k, t = itag k → d = .int k) ∧ (t = 0 → d = .bool) ∧ (t = 2 → d = .string) := by
  have h := hty.all
  unfold tyOk1 at h
  rw [hty.info, hty.under] at h
  simp only [Bool.and_eq_true, decide_eq_true_eq] at h
  have h5 := h.2
  have hrow := hty.row
  have big : 20 ≤ t → (∀ k, t = itag k → d = .int k) ∧ (t = 0 → d = .bool) ∧ (t = 2 → d = .string) := fun hge => ⟨fun k hk => by have := itag_lt k; omega, fun h => by omega, fun h => by omega⟩
  cases d with
  | bool => simp only [decide_eq_true_eq] at h5; subst h5; exact ⟨fun k hk => by cases k <;> simp [itag] at hk, fun _ => rfl, fun h => by omega⟩
  | int k => simp only [decide_eq_true_eq] at h5; subst h5; exact ⟨fun k' hk => by cases k <;> cases k' <;> simp [itag] at hk <;> rfl, fun h => by cases k <;> simp [itag] at h, fun h => by cases k <;> simp [itag] at h⟩
  | string => simp only [decide_eq_true_eq] at h5; subst h5; exact ⟨fun k hk => by cases k <;> simp [itag] at hk, fun h => by omega, fun _ => rfl⟩
  | pointer _ => simp only [decide_eq_true_eq] at h5; subst h5; exact ⟨fun k hk => by cases k <;> simp [itag] at hk, fun h => by omega, fun h => by omega⟩
  | slice _ => simp only [decide_eq_true_eq] at h5; subst h5; exact ⟨fun k hk => by cases k <;> simp [itag] at hk, fun h => by omega, fun h => by omega⟩
  | func _ _ _ => simp only [decide_eq_true_eq] at h5; subst h5; exact ⟨fun k hk => by cases k <;> simp [itag] at hk, fun h => by omega, fun h => by omega⟩
  | struct fs =>
    rcases hrow with ⟨_, ti, hti⟩ | ⟨hr, _⟩
    · exact big (info_ge hT hti)
    · simp [TypeDesc.isRow] at hr
  | array n e =>
    rcases hrow with ⟨_, ti, hti⟩ | ⟨hr, _⟩
    · exact big (info_ge hT hti)
    · simp [TypeDesc.isRow] at hr
  | _ => simp at h5

theorem veqs_step {l m : List V} {k : Nat} {b : Bool} {y z : V} (hy : l[k]? = some y) (hz : m[k]? = some z) (h : veqs (l.drop k) (m.drop k) = some b) :
    ∃ b0, veq y z = some b0 ∧ ((b0 = true ∧ veqs (l.drop (k + 1)) (m.drop (k + 1)) = some b) ∨ (b0 = false ∧ b = false)) := by
  have h1 : l.drop k = y :: l.drop (k + 1) := by
    obtain ⟨hlt, rfl⟩ := List.getElem?_eq_some_iff.1 hy
    exact List.drop_eq_getElem_cons hlt
  have h2 : m.drop k = z :: m.drop (k + 1) := by
    obtain ⟨hlt, rfl⟩ := List.getElem?_eq_some_iff.1 hz
    exact List.drop_eq_getElem_cons hlt
  rw [h1, h2] at h
  simp only [veqs] at h
  cases hv : veq y z with
  | none => rw [hv] at h; cases h
  | some b0 =>
    rw [hv] at h
    refine ⟨b0, rfl, ?_⟩
    cases b0 with
    | true => exact .inl ⟨rfl, h⟩
    | false => simp only [Option.some.injEq] at h; exact .inr ⟨rfl, h.symm⟩

theorem eq_sim {c : Cfg} (hT : tabOk c.T = true) (hm : tmOk c = true) {B : BM} (w : World) : ∀ (n : Nat) {d t ty : Nat} {v1 v2 : V} {x y : Value} {b : Bool}, n < d → c.T.fits n t = true → tg c.tm ty = some t → v1.tag = t → v2.tag = t →
    VR1 c.T B v1 x → VR1 c.T B v2 y → veq v1 v2 = some b → (Op.equalIn d ty x y).run c.P w = .ok b w := by
  intro n
  induction n with
  | zero =>
    intro d t ty v1 v2 x y b hd hf htg h1 h2 hx hy hv
    obtain ⟨d, rfl⟩ : ∃ k, d = k + 1 := ⟨d - 1, by omega⟩
    obtain ⟨i, de, hty⟩ := ty_of hT hm htg
    obtain ⟨q1, q2, q3⟩ := tyLeaf hT hty
    unfold veq at hv
    split at hv
    · rename_i a1 b1
      rw [vr_bool.1 (VR_of1 hx), vr_bool.1 (VR_of1 hy)]
      simp only [Option.some.injEq] at hv; subst hv
      exact run_equalIn_bool' w d ty a1 b1 (by rw [hty.under, q2 h1.symm])
    · rename_i k a1 k' b1
      by_cases hk : k = k'
      · subst hk
        rw [if_pos rfl] at hv
        simp only [Option.some.injEq] at hv; subst hv
        rw [vr_int.1 (VR_of1 hx), vr_int.1 (VR_of1 hy)]
        rw [run_equalIn_int w d ty k k a1 b1 (by rw [hty.under, q1 k h1.symm])]
        congr 1
      · rw [if_neg hk] at hv; cases hv
    · rename_i a1 b1
      rw [vr_str.1 (VR_of1 hx), vr_str.1 (VR_of1 hy)]
      simp only [Option.some.injEq] at hv; subst hv
      exact run_equalIn_string w d ty a1 b1 (by rw [hty.under, q3 h1.symm])
    · rename_i t1 l1 t2 l2
      simp only [V.tag] at h1
      simp only [Tab.fits, decide_eq_true_eq] at hf
      have := hx.1
      simp only [V.wf] at this
      unfold aggOk at this
      rw [h1, info_leaf hT hf] at this
      exact this.1.elim
    · cases hv
  | succ n ih =>
    intro d t ty v1 v2 x y b hd hf htg h1 h2 hx hy hv
    obtain ⟨d, rfl⟩ : ∃ k, d = k + 1 := ⟨d - 1, by omega⟩
    obtain ⟨i, de, hty⟩ := ty_of hT hm htg
    obtain ⟨q1, q2, q3⟩ := tyLeaf hT hty
    unfold veq at hv
    split at hv
    · rename_i a1 b1
      rw [vr_bool.1 (VR_of1 hx), vr_bool.1 (VR_of1 hy)]
      simp only [Option.some.injEq] at hv; subst hv
      exact run_equalIn_bool' w d ty a1 b1 (by rw [hty.under, q2 h1.symm])
    · rename_i k a1 k' b1
      by_cases hk : k = k'
      · subst hk
        rw [if_pos rfl] at hv
        simp only [Option.some.injEq] at hv; subst hv
        rw [vr_int.1 (VR_of1 hx), vr_int.1 (VR_of1 hy)]
        rw [run_equalIn_int w d ty k k a1 b1 (by rw [hty.under, q1 k h1.symm])]
        congr 1
      · rw [if_neg hk] at hv; cases hv
    · rename_i a1 b1
      rw [vr_str.1 (VR_of1 hx), vr_str.1 (VR_of1 hy)]
      simp only [Option.some.injEq] at hv; subst hv
      exact run_equalIn_string w d ty a1 b1 (by rw [hty.under, q3 h1.symm])
    · rename_i t1 l1 t2 l2
      simp only [V.tag] at h1 h2
      subst h1
      subst h2
      rw [if_pos rfl] at hv
      obtain ⟨xs, rfl, ha1, hw1, hc1⟩ := vr_agg.1 (VR_of1 hx)
      obtain ⟨ys, rfl, ha2, hw2, hc2⟩ := vr_agg.1 (VR_of1 hy)
      unfold aggOk at ha1 ha2
      simp only [Tab.fits] at hf
      cases hti : c.T.info t2 with
      | none => rw [hti] at ha1; exact ha1.elim
      | some ti =>
        rw [hti] at ha1 ha2 hf
        cases ti with
        | st ts =>
          simp only at ha1 ha2 hf
          obtain ⟨fs, rfl, hlen, hst, hfs⟩ := tyStruct hty hti
          have hok := stOk hT hti
          have hfo : c.P.fieldsOf ty = fs := by unfold Program.fieldsOf; rw [hty.under]
          rw [run_equalIn_struct w d ty xs ys (by rw [hfo]; exact hty.under) hst, hfo]
          have key : ∀ (m k : Nat), fs.size - k = m → ∀ b, veqs (l1.drop k) (l2.drop k) = some b → (Op.eqFields d xs ys (fs.toList.drop k)).run c.P w = .ok b w := by
            intro m
            induction m with
            | zero =>
              intro k hk b hb
              have hl1 : l1.length = fs.size := by rw [← hlen, ← ha1, List.length_map]
              have hl2 : l2.length = fs.size := by rw [← hlen, ← ha2, List.length_map]
              rw [List.drop_of_length_le (by omega), List.drop_of_length_le (by omega)] at hb
              simp only [veqs, Option.some.injEq] at hb
              subst hb
              rw [List.drop_of_length_le (by simp; omega)]
              simp [Op.eqFields]
            | succ m ihm =>
              intro k hk b hb
              have hl1 : l1.length = fs.size := by rw [← hlen, ← ha1, List.length_map]
              have hl2 : l2.length = fs.size := by rw [← hlen, ← ha2, List.length_map]
              have hkl : k < fs.size := by omega
              have hy1 : l1[k]? = some l1[k] := List.getElem?_eq_getElem (by omega)
              have hy2 : l2[k]? = some l2[k] := List.getElem?_eq_getElem (by omega)
              obtain ⟨b0, hb0, hb1⟩ := veqs_step hy1 hy2 hb
              obtain ⟨u, hu1, hu2, hu3, hu4⟩ := hfs k fs[k] (Array.getElem?_eq_getElem hkl)
              obtain ⟨i2, d2, hty2⟩ := ty_of hT hm hu3
              have ht1 : l1[k].tag = u := by
                have : ts[k]? = some l1[k].tag := by rw [← ha1, List.getElem?_map, hy1]; rfl
                rw [hu1] at this; exact (Option.some.inj this).symm
              have ht2 : l2[k].tag = u := by
                have : ts[k]? = some l2[k].tag := by rw [← ha2, List.getElem?_map, hy2]; rfl
                rw [hu1] at this; exact (Option.some.inj this).symm
              obtain ⟨p1, p2, p3, e1, e2, e3, e4, _⟩ := CRs_split hT hw1 hc1 (fun z hz => hok.nr _ (by rw [← ha1]; exact List.mem_map_of_mem hz)) hy1
              obtain ⟨r1, r2, r3, g1, g2, g3, g4, _⟩ := CRs_split hT hw2 hc2 (fun z hz => hok.nr _ (by rw [← ha2]; exact List.mem_map_of_mem hz)) hy2
              obtain ⟨a, ha, hva⟩ := run_part_any hT hty2 e3 ht1 e1 e4 (off := fs[k].offset) (by rw [e2, hu2, ← ha1, List.map_take]) w
              obtain ⟨b', hb', hvb⟩ := run_part_any hT hty2 g3 ht2 g1 g4 (off := fs[k].offset) (by rw [g2, hu2, ← ha2, List.map_take]) w
              have heq := ih (d := d) (by omega) (List.all_eq_true.1 hf u (List.mem_of_getElem? hu1)) hu3 ht1 ht2 hva hvb hb0
              have hdrop : fs.toList.drop k = fs[k] :: fs.toList.drop (k + 1) := by
                rw [List.drop_eq_getElem_cons (by simpa using hkl)]; simp
              have hname : fs[k].name ≠ "_" := by simpa using hu4
              rw [hdrop]
              simp only [Op.eqFields, if_pos hname, Sem.run_bind, ha, hb', heq, Result.andThen_ok]
              rcases hb1 with ⟨rfl, hb1⟩ | ⟨rfl, rfl⟩
              · simp only [Bool.not_true, Bool.false_eq_true, if_false]
                exact ihm (k + 1) (by omega) b hb1
              · simp
          exact key fs.size 0 rfl b (by simpa using hv)
        | arr m e =>
          simp only at ha1 ha2 hf
          obtain ⟨ety, rfl, hety⟩ := tyArray hty hti
          obtain ⟨i2, d2, hty2⟩ := ty_of hT hm hety
          have hok := arrOk hT hti
          rw [run_equalIn_array w d ty ety m (c.T.size e) xs ys hty.under (fun w => sizeOf_run hty2 w)]
          have key : ∀ (q k : Nat), m - k = q → k ≤ m → ∀ b, veqs (l1.drop k) (l2.drop k) = some b → (eqElems d ety xs ys (c.T.size e) (List.range' k (m - k))).run c.P w = .ok b w := by
            intro q
            induction q with
            | zero =>
              intro k hk hkm b hb
              rw [List.drop_of_length_le (by omega), List.drop_of_length_le (by omega)] at hb
              simp only [veqs, Option.some.injEq] at hb
              subst hb
              rw [hk]
              simp [eqElems]
            | succ q ihm =>
              intro k hk hkm b hb
              have hy1 : l1[k]? = some l1[k] := List.getElem?_eq_getElem (by omega)
              have hy2 : l2[k]? = some l2[k] := List.getElem?_eq_getElem (by omega)
              obtain ⟨b0, hb0, hb1⟩ := veqs_step hy1 hy2 hb
              have ht1 : l1[k].tag = e := ha1.2 _ (List.getElem_mem _)
              have ht2 : l2[k].tag = e := ha2.2 _ (List.getElem_mem _)
              obtain ⟨p1, p2, p3, e1, e2, e3, e4, _⟩ := CRs_split hT hw1 hc1 (fun z hz => by rw [ha1.2 z hz]; exact hok.nr) hy1
              obtain ⟨r1, r2, r3, g1, g2, g3, g4, _⟩ := CRs_split hT hw2 hc2 (fun z hz => by rw [ha2.2 z hz]; exact hok.nr) hy2
              obtain ⟨a, ha, hva⟩ := run_part_any hT hty2 e3 ht1 e1 e4 (off := k * c.T.size e) (by
                rw [e2, sum_const (fun z hz => ha1.2 z (List.mem_of_mem_take hz)), List.length_take, Nat.min_eq_left (by omega)]) w
              obtain ⟨b', hb', hvb⟩ := run_part_any hT hty2 g3 ht2 g1 g4 (off := k * c.T.size e) (by
                rw [g2, sum_const (fun z hz => ha2.2 z (List.mem_of_mem_take hz)), List.length_take, Nat.min_eq_left (by omega)]) w
              have heq := ih (d := d) (by omega) hf hety ht1 ht2 hva hvb hb0
              rw [hk, List.range'_succ]
              simp only [eqElems, Sem.run_bind, ha, hb', heq, Result.andThen_ok]
              rcases hb1 with ⟨rfl, hb1⟩ | ⟨rfl, rfl⟩
              · simp only [Bool.not_true, Bool.false_eq_true, if_false]
                have := ihm (k + 1) (by omega) (by omega) b hb1
                rw [show m - (k + 1) = q by omega] at this
                exact this
              · simp
          have := key m 0 (by omega) (by omega) b (by simpa using hv)
          rw [List.range_eq_range']
          simpa using this
        | row e => cases hf
    · cases hv

theorem equal_run {c : Cfg} (hT : tabOk c.T = true) (hm : tmOk c = true) {B : BM} (w : World) {t ty : Nat} {v1 v2 : V} {x y : Value} {b : Bool} (hf : c.T.fits 50 t = true) (htg : tg c.tm ty = some t) (h1 : v1.tag = t) (h2 : v2.tag = t)
    (hx : VR1 c.T B v1 x) (hy : VR1 c.T B v2 y) (hv : veq v1 v2 = some b) : (Op.equal ty x y).run c.P w = .ok b w := eq_sim hT hm w 50 (show 50 < Op.maxDepth by decide) hf htg h1 h2 hx hy hv

section nils
variable {P : Program} (w : World) (d : Nat) {ty : Nat}
theorem eqIn_pp {el : Nat} (hu : P.underlying ty = some (.pointer el)) (b : Option Addr) : (Op.equalIn (d + 1) ty (.pointer none) (.pointer b)).run P w = .ok b.isNone w := by
  cases b <;> simp [Op.equalIn, run_underlying hu]
theorem eqIn_pn {el : Nat} (hu : P.underlying ty = some (.pointer el)) (b : Option Addr) : (Op.equalIn (d + 1) ty (.pointer b) (.pointer none)).run P w = .ok b.isNone w := by
  cases b <;> simp [Op.equalIn, run_underlying hu]
theorem eqIn_ss {el : Nat} (hu : P.underlying ty = some (.slice el)) (b : Option Addr) (n m n' m' : Nat) : (Op.equalIn (d + 1) ty (.slice none n m) (.slice b n' m')).run P w = .ok b.isNone w := by
  cases b <;> simp [Op.equalIn, run_underlying hu]
theorem eqIn_sn {el : Nat} (hu : P.underlying ty = some (.slice el)) (b : Addr) (n m n' m' : Nat) : (Op.equalIn (d + 1) ty (.slice (some b) n m) (.slice none n' m')).run P w = .ok false w := by
  simp [Op.equalIn, run_underlying hu]
theorem eqIn_ff {p r : Array Nat} {v : Bool} (hu : P.underlying ty = some (.func p r v)) : (Op.equalIn (d + 1) ty .nilFunc .nilFunc).run P w = .ok true w := by
  simp [Op.equalIn, run_underlying hu]
theorem eqIn_fn {p r : Array Nat} {v : Bool} (hu : P.underlying ty = some (.func p r v)) (f : Fn) (x y : Array Value) : (Op.equalIn (d + 1) ty .nilFunc (.func f x y)).run P w = .ok false w := by
  simp [Op.equalIn, run_underlying hu]
theorem eqIn_nf {p r : Array Nat} {v : Bool} (hu : P.underlying ty = some (.func p r v)) (f : Fn) (x y : Array Value) : (Op.equalIn (d + 1) ty (.func f x y) .nilFunc).run P w = .ok false w := by
  simp [Op.equalIn, run_underlying hu]
end nils
theorem equal_def (ty : Nat) (x y : Value) : Op.equal ty x y = Op.equalIn (9999 + 1) ty x y := rfl

section sims
variable {c : Cfg} (hT : tabOk c.T = true) (hm : tmOk c = true) {B0 base : Nat} {B : BM} {s s' : St} {w : World} {a : Act} {ρ : Env} {v : V}
  (hE : ER c.T B ρ a.tmps) (hG : GlobR c.gl B) (hS : SR c.T B0 B s w) (hb : base ≤ s.loc.length) (hB0 : B0 ≤ w.heap.size)
include hE hG hS

include hT hm in
theorem sim_eq {neg : Bool} {t : Nat} {x y : Opd} {q : Oper} (hc : chkOp c (.eq neg t x y) q.op = true) (he : evOp base ρ s (.eq neg t x y) = some (v, s')) : OpOk c B0 base B s w a q v s' := by
  simp only [chkOp] at hc
  split at hc
  · rename_i o' ty x' y' ty' hq
    simp only [Bool.and_eq_true, decide_eq_true_eq] at hc
    obtain ⟨⟨⟨ho, hcx⟩, hcy⟩, hty⟩ := hc
    have hx := opd_sim hcx hE hG
    have hy := opd_sim hcy hE hG
    simp only [evOp] at he
    cases hv : veqT t (x.ev ρ) (y.ev ρ) with
    | none => rw [hv] at he; cases he
    | some b =>
      rw [hv] at he
      simp only [Option.some.injEq, Prod.mk.injEq] at he
      obtain ⟨rfl, rfl⟩ := he
      -- it is enough to say what the two operands give
      have fin : (eqGuard .eql ty x' y' (a.eval x') (a.eval y')).run c.P w = .ok () w → (eqGuard .neq ty x' y' (a.eval x') (a.eval y')).run c.P w = .ok () w →
          (Go.binOp .eql ty (a.eval x') (a.eval y')).run c.P w = .ok (.bool b) w → (Go.binOp .neq ty (a.eval x') (a.eval y')).run c.P w = .ok (.bool !b) w → OpOk c B0 base B s w a q (.bool (if neg then !b else b)) s := by
        intro g1 g2 g3 g4
        cases neg with
        | false =>
          simp only [Bool.false_eq_true, if_false] at ho ⊢
          subst ho
          exact pureOk hS (x := .bool b) (by simp [execOp, hq, g1, g3]) (vr_bool.2 rfl)
        | true =>
          simp only [if_true] at ho ⊢
          subst ho
          exact pureOk hS (x := .bool !b) (by simp [execOp, hq, g2, g4]) (vr_bool.2 rfl)
      unfold veqT at hv
      split at hv
      · -- pointers
        simp only at hty
        split at hty
        · rename_i el hu
          split at hv
          · rename_i h1 h2
            rw [h1, vr_nilp] at hx; rw [h2, vr_nilp] at hy
            simp only [Option.some.injEq] at hv; subst hv
            apply fin <;> simp [hx, hy, eqGuard, Go.binOp, equal_def, eqIn_pp _ _ hu]
          · rename_i h1 h2
            rw [h1, vr_nilp] at hx; rw [h2] at hy
            obtain ⟨_, _, _, _, _, hy⟩ := vr_ptr.1 hy
            simp only [Option.some.injEq] at hv; subst hv
            apply fin <;> simp [hx, hy, eqGuard, Go.binOp, equal_def, eqIn_pp _ _ hu]
          · rename_i h1 h2
            rw [h1] at hx; rw [h2, vr_nilp] at hy
            obtain ⟨_, _, _, _, _, hx⟩ := vr_ptr.1 hx
            simp only [Option.some.injEq] at hv; subst hv
            apply fin <;> simp [hx, hy, eqGuard, Go.binOp, equal_def, eqIn_pn _ _ hu]
          · cases hv
        · cases hty
      · simp only at hty
        split at hty
        · rename_i el hu
          split at hv
          · rename_i h1 h2
            rw [h1, vr_nils] at hx; rw [h2, vr_nils] at hy
            simp only [Option.some.injEq] at hv; subst hv
            apply fin <;> simp [hx, hy, eqGuard, Go.binOp, equal_def, eqIn_ss _ _ hu]
          · rename_i h1 h2
            rw [h1, vr_nils] at hx; rw [h2] at hy
            obtain ⟨_, _, _, _, _, _, _, _, _, _, _, _, _, _, hy⟩ := vr_sl.1 hy
            simp only [Option.some.injEq] at hv; subst hv
            apply fin <;> simp [hx, hy, eqGuard, Go.binOp, equal_def, eqIn_ss _ _ hu]
          · rename_i h1 h2
            rw [h1] at hx; rw [h2, vr_nils] at hy
            obtain ⟨_, _, _, _, _, _, _, _, _, _, _, _, _, _, hx⟩ := vr_sl.1 hx
            simp only [Option.some.injEq] at hv; subst hv
            apply fin <;> simp [hx, hy, eqGuard, Go.binOp, equal_def, eqIn_sn _ _ hu]
          · cases hv
        · cases hty
      · simp only at hty
        split at hty
        · rename_i _ _ _ hu
          split at hv
          · rename_i h1 h2
            rw [h1, vr_nilf] at hx; rw [h2, vr_nilf] at hy
            simp only [Option.some.injEq] at hv; subst hv
            apply fin <;> simp [hx, hy, eqGuard, Go.binOp, equal_def, eqIn_ff _ _ hu]
          · rename_i h1 h2
            rw [h1, vr_nilf] at hx; rw [h2] at hy
            obtain ⟨_, _, _, _, hy⟩ := vr_fn.1 hy
            simp only [Option.some.injEq] at hv; subst hv
            apply fin <;> simp [hx, hy, eqGuard, Go.binOp, equal_def, eqIn_fn _ _ hu]
          · rename_i h1 h2
            rw [h1] at hx; rw [h2, vr_nilf] at hy
            obtain ⟨_, _, _, _, hx⟩ := vr_fn.1 hx
            simp only [Option.some.injEq] at hv; subst hv
            apply fin <;> simp [hx, hy, eqGuard, Go.binOp, equal_def, eqIn_nf _ _ hu]
          · cases hv
        · cases hty
      · rename_i t' hn1 hn3 hn5
        split at hty
        · exact absurd rfl hn1
        · exact absurd rfl hn3
        · exact absurd rfl hn5
        simp only [Bool.and_eq_true, decide_eq_true_eq, Bool.not_eq_true'] at hty
        obtain ⟨⟨htg, hgt⟩, hfit⟩ := hty
        by_cases htags : (x.ev ρ).tag = t ∧ (y.ev ρ).tag = t
        · rw [if_pos htags] at hv
          have hv0 := hv
          unfold veq at hv
          split at hv
          · rename_i b1 b2 h1 h2
            have e := equal_run hT hm w hfit htg htags.1 htags.2 ((VR_ok (by rw [h1]; rfl)).1 hx) ((VR_ok (by rw [h2]; rfl)).1 hy) hv0
            rw [h1, vr_bool] at hx; rw [h2, vr_bool] at hy
            rw [hx, hy] at e
            apply fin <;> simp [hx, hy, eqGuard, Go.binOp, e]
          · rename_i k n k' m h1 h2
            rw [h1, vr_int] at hx; rw [h2, vr_int] at hy
            by_cases hk : k = k'
            · subst hk
              rw [if_pos rfl] at hv
              simp only [Option.some.injEq] at hv; subst hv
              apply fin <;> simp [hx, hy, eqGuard, Go.binOp, Op.intCmp]
              · rfl
              · rfl
            · rw [if_neg hk] at hv; cases hv
          · rename_i n m h1 h2
            rw [h1, vr_str] at hx; rw [h2, vr_str] at hy
            simp only [Option.some.injEq] at hv; subst hv
            apply fin <;> simp [hx, hy, eqGuard, Go.binOp, Op.stringOp]
          · rename_i t1 l1 t2 l2 h1 h2
            have e := equal_run hT hm w hfit htg htags.1 htags.2 ((VR_ok (by rw [h1]; rfl)).1 hx) ((VR_ok (by rw [h2]; rfl)).1 hy) hv0
            rw [h1] at hx; rw [h2] at hy
            obtain ⟨xs, hx, _⟩ := vr_agg.1 hx
            obtain ⟨ys, hy, _⟩ := vr_agg.1 hy
            rw [hx, hy] at e
            apply fin <;> simp [hx, hy, eqGuard, Go.binOp, e, hgt]
          · cases hv
        · rw [if_neg htags] at hv; cases hv
  · cases hc
end sims
end Go.Ab
