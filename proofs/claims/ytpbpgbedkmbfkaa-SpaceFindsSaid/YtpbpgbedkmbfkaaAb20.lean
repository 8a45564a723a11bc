/-
  Ab20: the printed code does what the model's code does: whole functions.
-/
import Derived.Test.YtpbpgbedkmbfkaaAb19
import Derived.LoopN
import Derived.Scope
namespace Go.Ab

/-! ### The check of code, and of functions -/
def chkC (c : Cfg) (nt : Nat) : C → Code → Bool
  | .skip, .skip => true
  | .reg _ ops, .region _ qs d => opsOk c qs nt ops qs.toList && (!d || orderOk ops qs.toList)
  | .regd _ ops, .region _ qs d => opsOk c qs nt ops qs.toList && (!d || orderOk ops qs.toList)
  | .seq a b, .seq a' b' => chkC c nt a a' && chkC c nt b b'
  | .cond x a b, .cond y a' b' => opdOk c.gl x y && chkC c nt a a' && chkC c nt b b'
  | .block id b, .block id' b' => decide (id = id') && chkC c nt b b'
  | .loop _ b, .loop b' => chkC c nt b b'
  | .exit id, .exit id' => decide (id = id')
  | .scope b, .scope b' => chkC c nt b b'
  | .label _, .label _ => true
  | .ret, .ret => true
  | _, _ => false
def rvOk (c : Cfg) : RV → ResultVar → Bool
  | .t n, .tmp m => decide (n = m)
  | .cell n q, .cell m ty => decide (n = m) && decide (tg c.tm ty = some q)
  | _, _ => false
def rvsOk (c : Cfg) : List RV → List ResultVar → Bool
  | [], [] => true
  | r :: l, q :: m => rvOk c r q && rvsOk c l m
  | _, _ => false
def fnOk (c : Cfg) (g : Nat) (fc : Fc) : Bool :=
  match c.P.funcs[g]? with
  | some fn => (fn.name != "runtime.NumGoroutine") && rvsOk c fc.res fn.results.toList && (match fn.body with
    | some b => chkC c fn.ntmps fc.body b
    | none => false)
  | none => false

def exOf : Ex → Exit
  | .normal => .normal
  | .exit id => .exit id
  | .ret => .ret

structure Ctx (c : Cfg) (D : Nat → Option Fc) : Prop where
  hT : tabOk c.T = true
  hm : tmOk c = true
  hP : c.P.follows .mixedOrders = true
  hD : ∀ g fc, D g = some fc → fnOk c g fc = true

def CodeSim (c : Cfg) (D : Nat → Option Fc) (n : Nat) : Prop :=
  ∀ (cc : C) (code : Code) (nt base : Nat) (ρ : Env) (s : St) (e : Ex) (ρ' : Env) (s' : St), chkC c nt cc code = true → ev D n (.c base cc ρ) s = some (.c e ρ' s') →
    ∀ (B0 : Nat) (B : BM) (a : Act) (w : World) (Q : Exit → Act → World → Prop), Sim c B0 base B ρ s nt a w → (∀ a' w' B', Aft c B0 base B s w a nt ρ' s' B' a' w' → Q (exOf e) a' w') → code.wp c.P Q a w
def LoopSim (c : Cfg) (D : Nat → Option Fc) (n : Nat) : Prop :=
  ∀ (keep : List Nat) (cc : C) (code : Code) (nt base : Nat) (ρ : Env) (s : St) (e : Ex) (ρ' : Env) (s' : St), chkC c nt cc code = true → ev D n (.c base (.loop keep cc) ρ) s = some (.c e ρ' s') →
    ∀ (B0 : Nat) (B : BM) (a : Act) (w : World) (Q : Exit → Act → World → Prop), Sim c B0 base B (restrict keep ρ) s nt a w → (∀ a' w' B', Aft c B0 base B s w a nt ρ' s' B' a' w' → Q (exOf e) a' w') → Code.rounds c.P code Q n a w

theorem Aft.of {c : Cfg} {B0 base nt : Nat} {B : BM} {ρ : Env} {s : St} {a : Act} {w : World} (h : Sim c B0 base B ρ s nt a w) : Aft c B0 base B s w a nt ρ s B a w := ⟨rfl, h.er, .refl h.sr, h.nt⟩
theorem Aft.keep {c : Cfg} {B0 base nt : Nat} {B B' : BM} {ρ' : Env} {s s' : St} {a a' : Act} {w w' : World} (h : Aft c B0 base B s w a nt ρ' s' B' a' w') (k : Option (List Nat)) : Aft c B0 base B s w a nt (keepOf k ρ') s' B' a' w' :=
  ⟨h.df, by cases k with
    | none => exact h.er
    | some ks => exact h.er.restrict ks, h.st, h.nt⟩

theorem get_restrict_not {ks : List Nat} {ρ : Env} {k : Nat} (h : k ∉ ks) : get (restrict ks ρ) k = .dead := by
  induction ks with
  | nil => rfl
  | cons j ks ih =>
    simp only [restrict, List.map_cons, get]
    rw [if_neg (fun e : j = k => h (by rw [e]; exact List.mem_cons_self))]
    exact ih (fun hk => h (List.mem_cons_of_mem _ hk))

/-- Behind a round: what is kept stands for the same when the round's locals are let go. -/
theorem scrub_sim {c : Cfg} (hT : tabOk c.T = true) {B0 base nt : Nat} {B B' : BM} {ρ0 ρ' : Env} {s s' : St} {a a' : Act} {w w' : World} {keep : List Nat} (h : Sim c B0 base B ρ0 s nt a w) (h' : Aft c B0 base B s w a nt ρ' s' B' a' w') (hs : scrubOk base s.loc.length (restrict keep ρ') s' = true) :
    Aft c B0 base B s w a nt (restrict keep ρ') (s'.cut s.loc.length) (B'.cut s.loc.length) a' w' := by
  simp only [scrubOk, Bool.and_eq_true, decide_eq_true_eq, List.all_eq_true] at hs
  obtain ⟨⟨h1, h2⟩, h3⟩ := hs
  have hl : Lvl s.loc.length s' := by
    intro i x hi hx
    by_cases hb : i < base
    · exact blkLt_mono h.hb (h'.st.lvl base (Nat.le_refl _) h.lv i x hb hx)
    · refine h3 x ?_
      rw [List.mem_iff_getElem?]
      refine ⟨i - base, ?_⟩
      rw [List.getElem?_drop, List.getElem?_take, show base + (i - base) = i by omega, if_pos hi]
      exact hx
  refine ⟨h'.df, fun t => ?_, Stp.cut hT h.sr h'.st (Nat.le_refl _) h.hb hl, h'.nt⟩
  by_cases ht : t ∈ keep
  · rw [get_restrict_mem ht]
    refine VR_cut hT (h'.er t) (h2 (t, get ρ' t) ?_)
    exact List.mem_map.2 ⟨t, ht, rfl⟩
  · rw [get_restrict_not ht]; trivial

theorem get_env0 : ∀ (l : List V) (i k : Nat), get (env0 i l) k = if i ≤ k then (l[k - i]?).getD .dead else .dead
  | [], i, k => by simp [env0, get]
  | v :: l, i, k => by
    simp only [env0, get]
    by_cases hk : i = k
    · subst hk; simp
    · rw [if_neg hk, get_env0 l (i + 1) k]
      by_cases h1 : i + 1 ≤ k
      · rw [if_pos h1, if_pos (by omega), show k - i = (k - (i + 1)) + 1 by omega, List.getElem?_cons_succ]
      · rw [if_neg h1, if_neg (by omega)]

theorem All2_get {α β : Type} {R : α → β → Prop} : ∀ {l : List α} {m : List β} {i : Nat} {x : α}, All2 R l m → l[i]? = some x → ∃ y, m[i]? = some y ∧ R x y
  | [], [], _, _, _, h => by simp at h
  | a :: l, b :: m, 0, x, h, hx => by
    simp only [List.getElem?_cons_zero, Option.some.injEq] at hx
    subst hx
    exact ⟨b, rfl, h.1⟩
  | a :: l, b :: m, i + 1, x, h, hx => by
    simp only [List.getElem?_cons_succ] at hx
    simpa using All2_get h.2 hx
  | [], _ :: _, _, _, h, _ => h.elim
  | _ :: _, [], _, _, h, _ => h.elim

theorem env0_er {T : Tab} {B : BM} {args : List V} {xs : Array Value} {k : Nat} (h : All2 (VR T B) args xs.toList) : ER T B (env0 0 args) (xs ++ Array.replicate k undef) := by
  intro n
  rw [get_env0, if_pos (Nat.zero_le _), Nat.sub_zero]
  cases hn : args[n]? with
  | none => trivial
  | some v =>
    obtain ⟨y, hy, hv⟩ := All2_get h hn
    rw [Array.getElem?_toList] at hy
    have hlt : n < xs.size := (Array.getElem?_eq_some_iff.1 hy).1
    rw [Array.getD_eq_getD_getElem?, Array.getElem?_append_left hlt, hy]
    exact hv

section res
variable {c : Cfg} (hT : tabOk c.T = true) (hm : tmOk c = true) {B0 : Nat} {B : BM} {s : St} {w : World} {ρ : Env} {tmps : Array Value} (hE : ER c.T B ρ tmps) (hS : SR c.T B0 B s w)
include hT hm hE hS
def rvRun (tmps : Array Value) : ResultVar → Sem Value
  | .tmp t => pure (tmps.getD t undef)
  | .cell a t => do loadVar t (← asAddr (tmps.getD a undef))
theorem rv_sim {r : RV} {q : ResultVar} {v : V} (hk : rvOk c r q = true) (hv : r.ev ρ s = some v) : ∃ x, (rvRun tmps q).run c.P w = .ok x w ∧ VR c.T B v x := by
  cases r with
  | t n =>
    cases q with
    | tmp m =>
      simp only [rvOk, decide_eq_true_eq] at hk
      subst hk
      simp only [RV.ev, Option.some.injEq] at hv
      subst hv
      exact ⟨_, by simp [rvRun], hE n⟩
    | cell _ _ => cases hk
  | cell n t =>
    cases q with
    | tmp _ => cases hk
    | cell m ty =>
      simp only [rvOk, Bool.and_eq_true, decide_eq_true_eq] at hk
      obtain ⟨rfl, hty⟩ := hk
      simp only [RV.ev] at hv
      have hx := hE n
      cases hg : get ρ n with
      | ptr a path t' =>
        rw [hg] at hv hx
        simp only at hv
        by_cases ht : t' = t
        · subst ht
          rw [if_pos rfl] at hv
          obtain ⟨ad, r, o, h1, h2, h3⟩ := vr_ptr.1 hx
          obtain ⟨g1, g2, cs, g3, g4, _⟩ := read_sim hT hS hv h1 h2
          obtain ⟨i, d, hti⟩ := ty_of hT hm hty
          obtain ⟨x, k1, k2⟩ := run_load_any hT hti g1 g2 g3 g4
          refine ⟨x, ?_, VR_of1 k2⟩
          simp only [Instr.loadAt, Instr.sureAddr, Sem.run_bind, Sem.run_pure, Result.andThen_ok] at k1
          simp only [rvRun, h3, asAddr, Sem.run_bind, Sem.run_pure, Result.andThen_ok]
          exact k1
        · rw [if_neg ht] at hv; cases hv
      | _ => rw [hg] at hv; cases hv
theorem rvs_sim : ∀ {l : List RV} {m : List ResultVar} {vs : List V}, rvsOk c l m = true → l.mapM (RV.ev ρ s) = some vs → ∃ xs, (m.mapM (rvRun tmps)).run c.P w = .ok xs w ∧ All2 (VR c.T B) vs xs
  | [], [], vs, _, h => by
    simp only [List.mapM_nil, Option.pure_def, Option.some.injEq] at h
    subst h
    exact ⟨[], by simp, trivial⟩
  | r :: l, q :: m, vs, hk, h => by
    simp only [rvsOk, Bool.and_eq_true] at hk
    rw [List.mapM_cons] at h
    cases hr : r.ev ρ s with
    | none => rw [hr] at h; simp at h
    | some v =>
      rw [hr] at h
      cases hl : l.mapM (RV.ev ρ s) with
      | none => rw [hl] at h; simp at h
      | some vs' =>
        rw [hl] at h
        simp at h
        subst h
        obtain ⟨x, g1, g2⟩ := rv_sim hT hm hE hS hk.1 hr
        obtain ⟨xs, g3, g4⟩ := rvs_sim hk.2 hl
        refine ⟨x :: xs, ?_, g2, g4⟩
        rw [List.mapM_cons]
        simp only [Sem.run_bind, g1, Result.andThen_ok, g3, Sem.run_pure]
  | [], _ :: _, _, hk, _ => by cases hk
  | _ :: _, [], _, hk, _ => by cases hk
theorem results_sim {fn : Func} {l : List RV} {v : V} (hk : rvsOk c l fn.results.toList = true) (h : resOf ρ s l = some v) : ∃ x, (results fn tmps).run c.P w = .ok x w ∧ VR c.T B v x := by
  unfold resOf at h
  cases hm' : l.mapM (RV.ev ρ s) with
  | none => rw [hm'] at h; cases h
  | some vs =>
    rw [hm'] at h
    obtain ⟨xs, g1, g2⟩ := rvs_sim hT hm hE hS hk hm'
    have hrun : (results fn tmps).run c.P w = .ok (if h : xs.toArray.size = 1 then xs.toArray[0] else .tuple xs.toArray) w := by
      have hf : ∀ f : ResultVar → Sem Value, (fn.results.mapM f) = List.toArray <$> (fn.results.toList.mapM f) := by
        intro f
        rw [← List.mapM_toArray, Array.toArray_toList]
      have e0 : results fn tmps = (fn.results.mapM (rvRun tmps) >>= fun vs => pure (if h : vs.size = 1 then vs[0] else .tuple vs)) := by
        unfold results
        congr 2
      rw [e0, hf]
      simp only [map_eq_pure_bind, bind_assoc, pure_bind, Sem.run_bind, g1, Result.andThen_ok, Sem.run_pure]
    have hone : ∀ {u : V} {y : Value}, vs = [u] → xs = [y] → some u = some v → ∃ x, (results fn tmps).run c.P w = .ok x w ∧ VR c.T B v x := by
      intro u y h1 h2 h3
      subst h1; subst h2
      cases h3
      exact ⟨y, by rw [hrun]; rfl, g2.1⟩
    have hmany : vs.length ≠ 1 → (if vs.all V.ok then some (V.tup vs) else none) = some v → ∃ x, (results fn tmps).run c.P w = .ok x w ∧ VR c.T B v x := by
      intro h1 h2
      have hlen := All2_len g2
      by_cases hok : vs.all V.ok = true
      · rw [if_pos hok] at h2
        cases h2
        refine ⟨.tuple xs.toArray, ?_, ?_⟩
        · rw [hrun, dif_neg (by simp only [List.size_toArray]; omega)]
        · refine ⟨xs.toArray, rfl, ?_⟩
          have key : ∀ {p : List V} {q : List Value}, All2 (VR c.T B) p q → p.all V.ok = true → All2 (VR1 c.T B) p q := by
            intro p
            induction p with
            | nil => intro q hq _; cases q with
              | nil => trivial
              | cons _ _ => exact hq.elim
            | cons u p ih =>
              intro q hq hall
              cases q with
              | nil => exact hq.elim
              | cons y q =>
                simp only [List.all_cons, Bool.and_eq_true] at hall
                exact ⟨(VR_ok hall.1).1 hq.1, ih hq.2 hall.2⟩
          exact key g2 hok
      · rw [if_neg hok] at h2; cases h2
    cases vs with
    | nil => exact hmany (by simp) h
    | cons u vs1 =>
      cases vs1 with
      | nil =>
        cases xs with
        | nil => exact g2.elim
        | cons y xs1 =>
          cases xs1 with
          | nil => exact hone rfl rfl h
          | cons _ _ => exact g2.2.elim
      | cons u2 vs2 => exact hmany (by simp) h
end res

theorem sim_all {c : Cfg} {D : Nat → Option Fc} (hC : Ctx c D) : ∀ n, CallSim c (ev D n) ∧ CodeSim c D n ∧ LoopSim c D n := by
  intro n
  induction n with
  | zero =>
    refine ⟨?_, ?_, ?_⟩
    · intro g args s v s' h; cases h
    · intro cc code nt base ρ s e ρ' s' _ h; cases h
    · intro keep cc code nt base ρ s e ρ' s' _ h; cases h
  | succ n ih =>
    obtain ⟨ihf, ihc, ihl⟩ := ih
    have hloop : LoopSim c D (n + 1) := by
      intro keep cc code nt base ρ s e ρ' s' hk he B0 B a w Q hs hQ
      rw [rounds_succ]
      simp only [ev, step] at he
      cases hb : ev D n (.c base cc (restrict keep ρ)) s with
      | none => rw [hb] at he; cases he
      | some x =>
        rw [hb] at he
        cases x with
        | c e1 ρ1 s1 =>
          refine ihc cc code nt base _ s e1 ρ1 s1 hk hb B0 B a w _ hs (fun a1 w1 B1 h1 => ?_)
          cases e1 with
          | normal =>
            simp only at he
            split at he
            · rename_i hsc
              have h2 := scrub_sim hC.hT hs h1 hsc
              exact ihl keep cc code nt base ρ1 _ e ρ' s' hk he B0 _ a1 w1 Q (h2.sim hs) (fun a3 w3 B3 h3 => hQ a3 w3 B3 (h2.trans h3))
            · cases he
          | exit id =>
            simp only [Option.some.injEq, Res.c.injEq] at he
            obtain ⟨rfl, rfl, rfl⟩ := he
            exact hQ _ _ _ h1
          | ret =>
            simp only [Option.some.injEq, Res.c.injEq] at he
            obtain ⟨rfl, rfl, rfl⟩ := he
            exact hQ _ _ _ h1
        | o _ _ => cases he
        | v _ _ => cases he
    refine ⟨?_, ?_, hloop⟩
    · intro g args s v s' he B0 B w xs hA hS hG h0
      simp only [ev, step] at he
      cases hd : D g with
      | none => rw [hd] at he; cases he
      | some fc =>
        rw [hd] at he
        simp only at he
        have hf := hC.hD g fc hd
        unfold fnOk at hf
        cases hfn : c.P.funcs[g]? with
        | none => rw [hfn] at hf; cases hf
        | some fn =>
          rw [hfn] at hf
          simp only [Bool.and_eq_true, bne_iff_ne, ne_eq] at hf
          obtain ⟨⟨hname, hres⟩, hbody⟩ := hf
          cases hb : fn.body with
          | none => rw [hb] at hbody; cases hbody
          | some code =>
            rw [hb] at hbody
            simp only at hbody
            refine ⟨⟨fn, hfn, hname, by rw [hb]; rfl⟩, ?_⟩
            by_cases hlen : args.length = fc.n
            · rw [if_pos hlen] at he
              cases hev : ev D n (.c s.loc.length fc.body (env0 0 args)) s with
              | none => rw [hev] at he; cases he
              | some x =>
                rw [hev] at he
                cases x with
                | c e1 ρ1 s1 =>
                  simp only at he
                  refine calls_of_wp hfn hb ?_
                  have hsim : Sim c B0 s.loc.length B (env0 0 args) s fn.ntmps { tmps := xs ++ Array.replicate (fn.ntmps - xs.size) undef, defers := [] } w :=
                    ⟨env0_er hA, hG, hS, Nat.le_refl _, h0, hS.lvl, by simp; omega⟩
                  refine ihc fc.body code fn.ntmps s.loc.length _ s e1 ρ1 s1 hbody hev B0 B _ w _ hsim (fun a1 w1 B1 h1 => ?_)
                  have fin : (match resOf ρ1 s1 fc.res with
                      | some v => if v.locLt s.loc.length = true ∧ s.loc.length ≤ s1.loc.length then some (Res.v v { s1 with loc := s1.loc.take s.loc.length }) else none
                      | none => none) = some (.v v s') → a1.defers = [] ∧ ∃ x, (results fn a1.tmps).run c.P w1 = .ok x w1 ∧ ∃ x' B', Ending.returned x = .returned x' ∧ VR c.T B' v x' ∧ Stp c.T B0 s.loc.length B s w B' s' w1 := by
                    intro hr
                    cases hro : resOf ρ1 s1 fc.res with
                    | none => rw [hro] at hr; cases hr
                    | some v1 =>
                      rw [hro] at hr
                      simp only at hr
                      by_cases hl : v1.locLt s.loc.length = true ∧ s.loc.length ≤ s1.loc.length
                      · rw [if_pos hl] at hr
                        simp only [Option.some.injEq, Res.v.injEq] at hr
                        obtain ⟨rfl, rfl⟩ := hr
                        obtain ⟨x, g1, g2⟩ := results_sim hC.hT hC.hm h1.er h1.st.sr hres hro
                        exact ⟨h1.df, x, g1, x, _, rfl, VR_cut hC.hT g2 hl.1, Stp.cut hC.hT hS h1.st (Nat.le_refl _) (Nat.le_refl _) (h1.st.lvl _ (Nat.le_refl _) hS.lvl)⟩
                      · rw [if_neg hl] at hr; cases hr
                  cases e1 with
                  | exit id => cases he
                  | normal => exact fin he
                  | ret => exact fin he
                | o _ _ => cases he
                | v _ _ => cases he
            · rw [if_neg hlen] at he; cases he
    · intro cc code nt base ρ s e ρ' s' hk he B0 B a w Q hs hQ
      cases cc with
      | skip =>
        cases code <;> first | (simp only [chkC, Bool.false_eq_true] at hk; done) | skip
        simp only [ev, step, Option.some.injEq, Res.c.injEq] at he
        obtain ⟨rfl, rfl, rfl⟩ := he
        exact wp_skip (hQ a w B (.of hs))
      | label l =>
        cases code <;> first | (simp only [chkC, Bool.false_eq_true] at hk; done) | skip
        simp only [ev, step, Option.some.injEq, Res.c.injEq] at he
        obtain ⟨rfl, rfl, rfl⟩ := he
        exact wp_label (hQ a w B (.of hs))
      | ret =>
        cases code <;> first | (simp only [chkC, Bool.false_eq_true] at hk; done) | skip
        simp only [ev, step, Option.some.injEq, Res.c.injEq] at he
        obtain ⟨rfl, rfl, rfl⟩ := he
        exact wp_ret (hQ a w B (.of hs))
      | exit id =>
        cases code <;> first | (simp only [chkC, Bool.false_eq_true] at hk; done) | skip
        rename_i id'
        simp only [chkC, decide_eq_true_eq] at hk
        subst hk
        simp only [ev, step, Option.some.injEq, Res.c.injEq] at he
        obtain ⟨rfl, rfl, rfl⟩ := he
        exact wp_exit (hQ a w B (.of hs))
      | reg keep ops =>
        cases code with
        | region id qs dr =>
          simp only [chkC, Bool.and_eq_true] at hk
          simp only [ev, step] at he
          cases ho : ev D n (.o base ops ρ) s with
          | none => rw [ho] at he; cases he
          | some x =>
            rw [ho] at he
            cases x with
            | o ρ1 s1 =>
              simp only [Option.some.injEq, Res.c.injEq] at he
              obtain ⟨rfl, rfl, rfl⟩ := he
              cases dr with
              | false => exact wp_region_list (list_sim hC.hT hC.hm ihf hk.1 hs (evl_of_ev ho) (fun a' w' B' h => hQ a' w' B' (h.keep keep)))
              | true => exact drawn_sim hC.hT hC.hm ihf hC.hP hk.1 (by simpa using hk.2) hs (evl_of_ev ho) (fun a' w' B' h => hQ a' w' B' (h.keep keep))
            | c _ _ _ => cases he
            | v _ _ => cases he
        | _ => simp [chkC] at hk
      | regd keep ops =>
        cases code with
        | region id qs dr =>
          simp only [chkC, Bool.and_eq_true] at hk
          simp only [ev, step] at he
          cases ho : ev D n (.o base ops ρ) s with
          | none => rw [ho] at he; cases he
          | some x =>
            rw [ho] at he
            cases x with
            | o ρ1 s1 =>
              simp only [Option.some.injEq, Res.c.injEq] at he
              obtain ⟨rfl, rfl, rfl⟩ := he
              cases dr with
              | false => exact wp_region_list (list_sim hC.hT hC.hm ihf hk.1 hs (evl_of_ev ho) (fun a' w' B' h => hQ a' w' B' (h.keep keep)))
              | true => exact drawn_sim hC.hT hC.hm ihf hC.hP hk.1 (by simpa using hk.2) hs (evl_of_ev ho) (fun a' w' B' h => hQ a' w' B' (h.keep keep))
            | c _ _ _ => cases he
            | v _ _ => cases he
        | _ => simp [chkC] at hk
      | seq x y =>
        cases code with
        | seq x' y' =>
          simp only [chkC, Bool.and_eq_true] at hk
          simp only [ev, step] at he
          refine wp_seq ?_
          cases hx : ev D n (.c base x ρ) s with
          | none => rw [hx] at he; cases he
          | some r =>
            rw [hx] at he
            cases r with
            | c e1 ρ1 s1 =>
              refine ihc x x' nt base ρ s e1 ρ1 s1 hk.1 hx B0 B a w _ hs (fun a1 w1 B1 h1 => ?_)
              cases e1 with
              | normal => exact ihc y y' nt base ρ1 s1 e ρ' s' hk.2 he B0 B1 a1 w1 Q (h1.sim hs) (fun a2 w2 B2 h2 => hQ a2 w2 B2 (h1.trans h2))
              | exit id =>
                simp only [Option.some.injEq, Res.c.injEq] at he
                obtain ⟨rfl, rfl, rfl⟩ := he
                exact hQ _ _ _ h1
              | ret =>
                simp only [Option.some.injEq, Res.c.injEq] at he
                obtain ⟨rfl, rfl, rfl⟩ := he
                exact hQ _ _ _ h1
            | o _ _ => cases he
            | v _ _ => cases he
        | _ => simp [chkC] at hk
      | cond x p q =>
        cases code with
        | cond x' p' q' =>
          simp only [chkC, Bool.and_eq_true] at hk
          simp only [ev, step] at he
          have hx := opd_sim hk.1.1 hs.er hs.gr
          cases hv : x.ev ρ with
          | bool t =>
            rw [hv] at he hx
            rw [vr_bool] at hx
            simp only at he
            refine wp_cond hx ?_
            cases t with
            | true => exact ihc p p' nt base ρ s e ρ' s' hk.1.2 he B0 B a w Q hs hQ
            | false => exact ihc q q' nt base ρ s e ρ' s' hk.2 he B0 B a w Q hs hQ
          | _ => rw [hv] at he; cases he
        | _ => simp [chkC] at hk
      | block id b =>
        cases code with
        | block id' b' =>
          simp only [chkC, Bool.and_eq_true, decide_eq_true_eq] at hk
          obtain ⟨rfl, hk⟩ := hk
          simp only [ev, step] at he
          refine wp_block ?_
          cases hx : ev D n (.c base b ρ) s with
          | none => rw [hx] at he; cases he
          | some r =>
            rw [hx] at he
            cases r with
            | c e1 ρ1 s1 =>
              refine ihc b b' nt base ρ s e1 ρ1 s1 hk hx B0 B a w _ hs (fun a1 w1 B1 h1 => ?_)
              cases e1 with
              | normal =>
                simp only [Option.some.injEq, Res.c.injEq] at he
                obtain ⟨rfl, rfl, rfl⟩ := he
                exact hQ _ _ _ h1
              | exit id1 =>
                simp only [Option.some.injEq, Res.c.injEq] at he
                obtain ⟨rfl, rfl, rfl⟩ := he
                show Exit.inBlock id Q (.exit id1) a1 w1
                simp only [Exit.inBlock]
                by_cases hid : id1 = id
                · rw [if_pos hid]
                  have := hQ _ _ _ h1
                  rw [if_pos hid] at this
                  exact this
                · rw [if_neg hid]
                  have := hQ _ _ _ h1
                  rw [if_neg hid] at this
                  exact this
              | ret =>
                simp only [Option.some.injEq, Res.c.injEq] at he
                obtain ⟨rfl, rfl, rfl⟩ := he
                exact hQ _ _ _ h1
            | o _ _ => cases he
            | v _ _ => cases he
        | _ => simp [chkC] at hk
      | loop keep b =>
        cases code with
        | loop b' =>
          simp only [chkC] at hk
          exact wp_loop_rounds (n + 1) (hloop keep b b' nt base ρ s e ρ' s' hk he B0 B a w Q ⟨hs.er.restrict keep, hs.gr, hs.sr, hs.hb, hs.h0, hs.lv, hs.nt⟩ hQ)
        | _ => simp [chkC] at hk
      | scope b =>
        cases code with
        | scope b' =>
          simp only [chkC] at hk
          simp only [ev, step] at he
          refine wp_scope_straight ?_
          cases hx : ev D n (.c base b ρ) s with
          | none => rw [hx] at he; cases he
          | some r =>
            rw [hx] at he
            cases r with
            | c e1 ρ1 s1 =>
              simp only [Option.some.injEq, Res.c.injEq] at he
              obtain ⟨rfl, rfl, rfl⟩ := he
              refine ihc b b' nt base ρ s e1 ρ1 s1 hk hx B0 B a w _ hs (fun a1 w1 B1 h1 => ?_)
              have := hQ _ _ _ h1
              cases e1 <;> exact this
            | o _ _ => cases he
            | v _ _ => cases he
        | _ => simp [chkC] at hk

/-- What the abstract run tells, the model's call does. -/
theorem calls_of_rf {c : Cfg} {D : Nat → Option Fc} (hC : Ctx c D) {g : Nat} {args : List V} {s s' : St} {v : V} (h : rf D g args s = some (v, s')) {B0 : Nat} {B : BM} {w : World} {xs : Array Value}
    (hA : All2 (VR c.T B) args xs.toList) (hS : SR c.T B0 B s w) (hG : GlobR c.gl B) (h0 : B0 ≤ w.heap.size) :
    Calls c.P g xs w fun e w' => ∃ x B', e = .returned x ∧ VR c.T B' v x ∧ Stp c.T B0 s.loc.length B s w B' s' w' := by
  obtain ⟨n, hn⟩ := run_iff.1 (rf_def.1 h)
  exact ((sim_all hC n).1 g args s v s' hn B0 B w xs hA hS hG h0).2
end Go.Ab
