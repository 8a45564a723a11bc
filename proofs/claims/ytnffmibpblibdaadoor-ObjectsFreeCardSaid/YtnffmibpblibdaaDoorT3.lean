/-
  YtnffmibpblibdaaDoorT3: what functions of the program compute (Sh10, SofA, LobA, LobU).
-/
import Derived.Test.YtnffmibpblibdaaDoorClo
import Derived.Test.YtnffmibpblibdaaDoorAbF
import Derived.Test.YtnffmibpblibdaaDoorT1
import Derived.Test.YtnffmibpblibdaaDoorT2
set_option maxRecDepth 100000
namespace Go.Proofs.YtnffmibpblibdaaDoor
open Go.Ab
theorem ev_shown10 : tellsT (ev D 6000 (.f f_steadfastlaw10_shown []) ⟨[], [.ro globV_0]⟩) = true := by kernel_rfl
theorem rf_shown10 {s : St} (h : s.hp[0]? = some (.ro globV_0)) : ∃ more, rf D f_steadfastlaw10_shown [] s = some (.bool true, ⟨s.loc, s.hp ++ more⟩) := by
  refine rf_true (G := [.ro globV_0]) ?_ D_clos rfl ev_shown10 ?_
  · intro b hb
    rw [List.mem_singleton.1 hb]
    exact ⟨_, rfl, by kernel_rfl⟩
  · obtain ⟨loc, hp⟩ := s
    cases hp with
    | nil => cases h
    | cons b t =>
      simp only [List.getElem?_cons_zero, Option.some.injEq] at h
      subst h
      exact ⟨t, rfl⟩
end Go.Proofs.YtnffmibpblibdaaDoor
namespace Go.Proofs.YtnffmibpblibdaaDoor
open Go.Ab
/-- Bits and states of frames, none of which is to be free later. -/
structure BitA (A : AF) (w : List Nat) : Prop where
  ok : A.Ok
  two : A.Two
  okw : OkS w
  bits : ∀ j, j < 1024 → bit w j = (A.inr j && decide (A.st j = 0))
theorem BitA.l2 {A : AF} {w : List Nat} (h : BitA A w) : ∀ j, j < 1024 → bit (w16 []) j = (A.inr j && decide (A.st j = 2)) := fun j _ => by
  rw [bit_nil]
  have := h.two j
  have : ¬ A.st j = 2 := by omega
  simp [this]
theorem BitA.st {A : AF} {w : List Nat} (h : BitA A w) (x : Int) : stOf A.f A.l w (w16 []) x = A.state x := state_of h.ok h.bits h.l2 x
theorem BitA.put {A : AF} {w : List Nat} (h : BitA A w) {x : Int} (hx : A.state x = 0) : BitA (A.put x.toNat 1) (flip w x.toNat) := by
  have hr := state_range (A := A) (line := x) (by omega)
  have e0 := state_in hr.1 hr.2
  refine ⟨h.ok.put (.inr (.inl rfl)), h.two.put (.inr rfl), h.okw.flip (by have := h.ok.l1; omega), bits_flip h.ok h.okw h.bits (inr_of.2 (by omega)) (by simp; omega)⟩
theorem takeL_takes : ∀ {ls : List Int} {A : AF} {w : List Nat}, BitA A w → (takeL A.f A.l ls w = none ∧ A.takes ls = none) ∨ ∃ w' A', takeL A.f A.l ls w = some w' ∧ A.takes ls = some A' ∧ BitA A' w'
  | [], A, w, h => .inr ⟨w, A, rfl, rfl, h⟩
  | x :: r, A, w, h => by
    simp only [takeL, AF.takes, h.st]
    by_cases hx : A.state x = 0
    · rw [if_pos hx, if_pos hx]
      exact takeL_takes (h.put hx)
    · rw [if_neg hx, if_neg hx]
      exact .inl ⟨rfl, rfl⟩
theorem bitA0 {f l : Nat} (h : f ≤ l) (h1 : l ≤ 1024) {w : List Nat} (hw : OkS w) (hb : ∀ j : Nat, j < 1024 → bit w j = (decide ((f : Int) ≤ j) && decide ((j : Int) < l))) : BitA (af0 f l) w :=
  ⟨af0_ok h h1, fun _ => .inl rfl, hw, fun j hj => by
    rw [hb j hj]
    simp only [AF.inr, af0, decide_true, Bool.and_true]
    congr 1
    · exact decide_eq_decide.2 (by omega)
    · exact decide_eq_decide.2 (by omega)⟩
theorem as0_ok {M : AM} (hM : M.Ok) {A' : AF} {f : Nat} (hf : f ≤ M.n) {t : Nat → Ent} {d : Nat → Int} (h : (af0 f M.n).takes (allL t d) = some A') : (as0 M A' t d).Ok ∧ A'.Two := by
  obtain ⟨h1, h2, h3, h4⟩ := takes_some h
  have ht : TabOk A' t := ⟨fun i hi hk => by
    have := h3 _ (List.mem_append_left _ (linesF_mem t 49 0 i (by omega) (by omega) hk))
    rw [h1, h2]; exact this⟩
  have two : A'.Two := fun j => by rw [h4 j]; split; exact .inr rfl; exact .inl rfl
  have hA : A'.Ok := ⟨by rw [h1, h2]; exact hf, by rw [h2]; exact hM.n1, fun j => by have := two j; omega⟩
  refine ⟨⟨hM, hA, h2, ht, ht, ⟨fun _ _ hk => absurd rfl hk⟩, fun j => by have := two j; simp only [as0]; omega⟩, two⟩
theorem rf_sp_Of {hp : List Blk} {F : Ft} {m : Nat} {M : AM} (h : MemP hp F m M) (hG : hp[0]? = some (.ro globV_0)) (hz : ¬ F 0) (from' : Int) (t : Nat → Ent) (d : Nat → Int) (L : List Blk) :
    ((from' < 0 ∨ (M.n : Int) < from') ∧ rf D f_objects_Of [.ptr (.hp m) [] 59, .int .i64 from', tabV t, dirV d] ⟨L, hp⟩ = some (.tup [.nilp, .int .i64 1], ⟨L, hp⟩)) ∨
    (0 ≤ from' ∧ from' ≤ M.n ∧ (af0 from'.toNat M.n).takes (allL t d) = none ∧ ∃ more, rf D f_objects_Of [.ptr (.hp m) [] 59, .int .i64 from', tabV t, dirV d] ⟨L, hp⟩ = some (.tup [.nilp, .int .i64 21], ⟨L, hp ++ more⟩)) ∨
    (0 ≤ from' ∧ from' ≤ M.n ∧ ∃ A' more, (af0 from'.toNat M.n).takes (allL t d) = some A' ∧ rf D f_objects_Of [.ptr (.hp m) [] 59, .int .i64 from', tabV t, dirV d] ⟨L, hp⟩ = some (.tup [.ptr (.hp (hp.length + 1)) [] 43, .int .i64 0], ⟨L, hp ++ more⟩) ∧
      StoQ (hp ++ more) F (hp.length + 1) m hp.length (as0 M A' t d)) := by
  have hln := rf_mp_Lines h
  by_cases h0 : from' < 0 ∨ (M.n : Int) < from'
  · exact .inl ⟨h0, rf_objects_Of_err ⟨L, hp⟩ (fun L' => hln (L ++ L')) from' (by omega) t d⟩
  · right
    obtain ⟨f, rfl⟩ : ∃ f : Nat, from' = f := ⟨from'.toNat, by omega⟩
    rw [Int.toNat_natCast]
    obtain ⟨w0, ok0, b0, hh⟩ := rf_objects_Of' ⟨L, hp⟩ (fun L' => hln (L ++ L')) f (by omega) (by omega) h.ok.n1 t d
    have hB := bitA0 (f := f) (l := M.n) (by omega) h.ok.n1 ok0 b0
    rcases hh with ⟨hn, more, e⟩ | ⟨w, hw, hs, e⟩
    · left
      refine ⟨by omega, by omega, ?_, more, e⟩
      rcases takeL_takes (ls := allL t d) hB with ⟨_, q⟩ | ⟨_, _, q, _⟩
      · exact q
      · have : takeL f M.n (allL t d) w0 = some _ := q
        rw [hn] at this; cases this
    · right
      refine ⟨by omega, by omega, ?_⟩
      rcases takeL_takes (ls := allL t d) hB with ⟨q, _⟩ | ⟨w', A', q, q2, q3⟩
      · have : takeL f M.n (allL t d) w0 = none := q
        rw [hs] at this; cases this
      · have q : takeL f M.n (allL t d) w0 = some w' := q
        rw [hs] at q; cases q
        obtain ⟨h1, h2, _, _⟩ := takes_some q2
        obtain ⟨ok, _⟩ := as0_ok h.ok (show f ≤ M.n by omega) q2
        refine ⟨A', _, q2, e, ⟨ok, ?_, ?_, ⟨ok.A, w, w16 [], ?_, q3.okw, ok_nil, q3.bits, q3.l2⟩, h.chg (chg_app0 hp _ (fun _ => False)) (fun _ h => h.elim), by omega, fun hf => ?_, fun hf => ?_, hz⟩⟩
        · rw [List.getElem?_append_left (lt_of_get hG)]; exact hG
        · simp; rfl
        · have e1 : (A'.f : Int) = f := by rw [h1]; rfl
          have e2 : (A'.l : Int) = M.n := by rw [h2]; rfl
          show (hp ++ _)[hp.length]? = some (.rw (frV A'.f A'.l w (w16 [])))
          rw [e1, e2]
          simp
        · have := h.inn _ hf; omega
        · have := h.inn _ hf; omega
end Go.Proofs.YtnffmibpblibdaaDoor
namespace Go.Proofs.YtnffmibpblibdaaDoor
open Go.Ab
/-- Which of n kinds. -/
def kd (c n : Int) : Int := (if c < 0 then -(c + 1) else c) % n
theorem kd_range (c : Int) {n : Int} (h : 0 < n) : 0 ≤ kd c n ∧ kd c n < n := ⟨Int.emod_nonneg _ (by omega), Int.emod_lt_of_pos _ h⟩
theorem rf_kind10 (c n : Int) (h0 : -9223372036854775808 ≤ c) (h1 : c ≤ 9223372036854775807) (hn : 0 < n) (s : St) : rf D f_steadfastlaw10_kind [.int .i64 c, .int .i64 n] s = some (.int .i64 (kd c n), s) := by
  have hn0 : ¬ n = 0 := by omega
  unfold kd
  rw [rf_o D_steadfastlaw10_kind rfl]
  by_cases hc : c < 0
  · have w1 : IntKind.i64.wrap (c + 1) = c + 1 := i64_id (by omega) (by omega)
    have w2 : IntKind.i64.wrap (0 - (c + 1)) = -(c + 1) := by rw [i64_id (by omega) (by omega)]; omega
    have w3 : (-(c + 1)).tmod n = (-(c + 1)) % n := Int.tmod_eq_emod_of_nonneg (by omega)
    simp only [go_sem, hc, w1, w2, hn0, w3]
  · have w3 : c.tmod n = c % n := Int.tmod_eq_emod_of_nonneg (by omega)
    simp only [go_sem, hc, hn0, w3]
def tbl10 (c : Nat) (i : Nat) : Ent := if i < c then ⟨1 + (i % 4 : Nat), i, 20 + i⟩ else noEnt
theorem rf_table10 (c : Nat) (hc : c ≤ 49) (s : St) : rf D f_steadfastlaw10_table [.int .i64 c] s = some (tabV (tbl10 c), s) := by
  have z1 : V.agg 48 (List.replicate 49 (.agg 42 [.int .i64 0, .int .i64 0, .int .i64 0])) = tabV fun _ => noEnt := by rw [tab_rep]; rfl
  have loop : rc D s.loc.length (.loop [0, 2, 3, 4] b_steadfastlaw10_table_0) [(0, .int .i64 c), (2, .ptr (.loc s.loc.length) [] 48), (3, .ptr (.loc (s.loc.length + 1)) [] 48), (4, .int .i64 0)] ⟨s.loc ++ [.rw (tabV fun _ => noEnt), .rw (tabV fun _ => noEnt)], s.hp⟩ =
      some (.exit 0, [(0, .int .i64 c), (2, .ptr (.loc s.loc.length) [] 48), (3, .ptr (.loc (s.loc.length + 1)) [] 48), (4, .int .i64 c), (12, .bool false)], ⟨s.loc ++ [.rw (tabV fun _ => noEnt), .rw (tabV (tbl10 c))], s.hp⟩) := by
    refine loop_runs (fun x : Nat => [(0, .int .i64 c), (2, .ptr (.loc s.loc.length) [] 48), (3, .ptr (.loc (s.loc.length + 1)) [] 48), (4, .int .i64 x)]) (fun x => ⟨s.loc ++ [.rw (tabV fun _ => noEnt), .rw (tabV (tbl10 x))], s.hp⟩) (fun _ => _) (fun x => c - x) (fun x => x ≤ c) 0 ?_ (by omega) rfl rfl
    intro i hi
    by_cases c1 : i < c
    · left
      have d1 : (i : Int) < c := by omega
      have d2 : (i : Int) < 49 := by omega
      have d3 : (0 : Int) ≤ i := by omega
      have d4 : IntKind.i64.wrap ((i : Int) + 1) = (i : Int) + 1 := i64_id (by omega) (by omega)
      have w1 : (i : Int).tmod 4 = ((i % 4 : Nat) : Int) := by rw [show (4 : Int) = ((4 : Nat) : Int) by rfl, ← Int.ofNat_tmod]
      have w2 : IntKind.i64.wrap (1 + ((i % 4 : Nat) : Int)) = 1 + ((i % 4 : Nat) : Int) := i64_id (by omega) (by omega)
      have w3 : IntKind.i64.wrap (20 + (i : Int)) = 20 + (i : Int) := i64_id (by omega) (by omega)
      have z2 : s.loc.length < s.loc.length + 2 := by omega
      have z3 : s.loc.length + 1 < s.loc.length + 2 := by omega
      have hup := updE_tab (t := tbl10 i) (i := i) (e := ⟨1 + (i % 4 : Nat), i, 20 + i⟩)
      have e : (tab 49 fun j => (updE (tbl10 i) i ⟨1 + (i % 4 : Nat), i, 20 + i⟩ j).v) = tab 49 fun j => (tbl10 (i + 1) j).v := by
        apply tab_congr
        intro j _
        unfold updE tbl10
        by_cases h1 : j = i
        · subst h1; rw [if_pos rfl, if_pos (by omega)]
        · rw [if_neg h1]
          by_cases h2 : j < i
          · rw [if_pos h2, if_pos (by omega)]
          · rw [if_neg h2, if_neg (by omega)]
      rw [e] at hup
      have g1 := tab_get (f := fun j => (tbl10 i j).v) (show i < 49 by omega)
      refine ⟨i + 1, by omega, by omega, rfl, ?_⟩
      simp only [tabV]
      rw [← hup]
      simp only [Ent.v] at *
      generalize tab 49 (fun j => V.agg 42 [.int .i64 (tbl10 i j).kind, .int .i64 (tbl10 i j).ver, .int .i64 (tbl10 i j).line]) = T at *
      generalize tab 49 (fun _ => V.agg 42 [.int .i64 noEnt.kind, .int .i64 noEnt.ver, .int .i64 noEnt.line]) = T0 at *
      generalize i % 4 = im at *
      simp only [go_sem, b_steadfastlaw10_table_0, d1, d2, d3, w1, w2, w3, d4, z2, z3]
      rw [Int.toNat_natCast]
      simp only [go_sem, g1, d4, z2, z3]
      rfl
    · right
      have : i = c := by omega
      subst this
      have d1 : ¬ (i : Int) < i := by omega
      simp only [tabV]
      simp only [go_sem, b_steadfastlaw10_table_0, d1]
  rw [rf_o D_steadfastlaw10_table rfl]
  simp only [tabV] at *
  simp only [go_sem, z1, loop]
def dir10 (i : Nat) : Int := if i < 8 then 10 + i else 0
theorem pre_glob {hp : List Blk} (h : hp[0]? = some (.ro globV_0)) : [Blk.ro globV_0] <+: hp := by
  cases hp with
  | nil => cases h
  | cons b t =>
    simp only [List.getElem?_cons_zero, Option.some.injEq] at h
    subst h
    exact ⟨t, rfl⟩
theorem ev_dir10 : ev D 500 (.f f_steadfastlaw10_dir []) ⟨[], [.ro globV_0]⟩ = some (.v (dirV dir10) ⟨[], [.ro globV_0]⟩) := by kernel_rfl
theorem rf_dir10 {s : St} (h : s.hp[0]? = some (.ro globV_0)) : rf D f_steadfastlaw10_dir [] s = some (dirV dir10, s) :=
  rf_anywhere0 (G := [.ro globV_0]) (fun b hb => by rw [List.mem_singleton.1 hb]; exact ⟨_, rfl, by kernel_rfl⟩) D_clos rfl rfl ev_dir10 (pre_glob h)
/-- New memory. -/
theorem rf_mp_New {n : Nat} (h0 : 64 ≤ n) (h1 : n ≤ 1024) (hp L : List Blk) : ∃ more, more.length = 2 ∧ rf D f_nvm_New [.int .i64 n] ⟨L, hp⟩ = some (.tup [.ptr (.hp (hp.length + 1)) [] 59, .int .i64 0], ⟨L, hp ++ more⟩) ∧
    MemP (hp ++ more) (fun j => j = hp.length ∨ j = hp.length + 1) (hp.length + 1) (am0 n fun _ => zl) := by
  refine ⟨_, rfl, rf_nvm_New h0 h1 ⟨L, hp⟩, ⟨h0, h1, fun _ _ => rfl, fun _ _ d hd => (by cases hd), Int.le_refl _, fun _ _ => Int.le_refl _, Int.le_refl _, by simp [am0]⟩, fun j hj => ?_, .inr rfl, hp.length, .inl rfl, by omega, ⟨some n, 0, ?_, .inr rfl, fun h => by simp [am0] at h⟩, fun _ => .nils, fun _ => 0, ?_, fun i hi => .nil⟩
  · simp; omega
  · simp; rfl
  · have e : (tab n fun _ => nlV zln zln .nils zfl) = tab (am0 n fun _ => zl).n fun i => plV ((am0 n fun _ => zl).S i) ((am0 n fun _ => zl).L i) .nils := rfl
    rw [← e]; simp
theorem am0_on (n : Nat) (S : Nat → List Int) : (am0 n S).On := ⟨rfl, rfl⟩
/-- The lines of a table of c objects are free at first. -/
theorem lines10 {c : Nat} : ∀ (n i : Nat), i + n = 49 → c ≤ 49 → linesF (tbl10 c) i n = ((List.range' i n).filter (· < c)).map fun j => (20 : Int) + (j : Nat)
  | 0, i, _, _ => rfl
  | n + 1, i, hi, hc => by
    simp only [linesF, List.range'_succ, List.filter_cons]
    by_cases h : i < c
    · have hk : ¬ (tbl10 c i).kind = 0 := by unfold tbl10; rw [if_pos h]; simp only; omega
      have hl : (tbl10 c i).line = 20 + (i : Nat) := by unfold tbl10; rw [if_pos h]
      rw [if_neg hk, hl, lines10 n (i + 1) (by omega) hc]
      simp [h]
    · have hk : (tbl10 c i).kind = 0 := by unfold tbl10; rw [if_neg h]; rfl
      rw [if_pos hk, lines10 n (i + 1) (by omega) hc]
      simp [h]
theorem all10 {c : Nat} (hc : c ≤ 49) (x : Int) : x ∈ allL (tbl10 c) dir10 ↔ (20 ≤ x ∧ x < 20 + c) ∨ (10 ≤ x ∧ x < 18) := by
  unfold allL
  rw [List.mem_append, lines10 49 0 rfl hc]
  have e : dirF dir10 0 8 = [10, 11, 12, 13, 14, 15, 16, 17] := rfl
  rw [e]
  simp only [List.mem_map, List.mem_filter, List.mem_range'_1, decide_eq_true_eq, List.mem_cons, List.not_mem_nil, or_false]
  constructor
  · rintro (⟨j, ⟨h1, h2⟩, rfl⟩ | h)
    · left; omega
    · right; omega
  · rintro (h | h)
    · left; exact ⟨(x - 20).toNat, ⟨by omega, by omega⟩, by omega⟩
    · right; omega
theorem nodup10 {c : Nat} (hc : c ≤ 49) : (allL (tbl10 c) dir10).Nodup := by
  unfold allL
  rw [lines10 49 0 rfl hc, List.nodup_append]
  refine ⟨?_, by decide, fun x hx y hy e => ?_⟩
  · rw [List.Nodup, List.pairwise_map]
    have hn : (List.range' 0 49).Nodup := by decide
    exact (List.Pairwise.filter _ hn).imp fun h e => h (by omega)
  · have e : dirF dir10 0 8 = [10, 11, 12, 13, 14, 15, 16, 17] := rfl
    rw [e] at hy
    simp only [List.mem_map] at hx
    obtain ⟨j, _, rfl⟩ := hx
    simp only [List.mem_cons, List.not_mem_nil, or_false] at hy
    omega
theorem take10 {c n : Nat} (hc : c ≤ 30) (hn : 64 ≤ n) : ∃ A', (af0 10 n).takes (allL (tbl10 c) dir10) = some A' ∧ A'.f = 10 ∧ A'.l = n ∧ ∀ j, A'.st j = if (20 ≤ j ∧ j < 20 + c) ∨ (10 ≤ j ∧ j < 18) then 1 else 0 := by
  obtain ⟨A', h⟩ := takes_ok (A := af0 10 n) (nodup10 (c := c) (by omega)) fun x hx => by
    rw [all10 (by omega)] at hx
    unfold AF.state af0
    rw [if_neg (by simp only; omega)]
  obtain ⟨h1, h2, _, h4⟩ := takes_some h
  refine ⟨A', h, h1, h2, fun j => ?_⟩
  rw [h4 j]
  have := all10 (c := c) (by omega) (j : Int)
  by_cases e : (j : Int) ∈ allL (tbl10 c) dir10
  · rw [if_pos e, if_pos (by rw [this] at e; omega)]
  · rw [if_neg e, if_neg (fun h => e (this.2 (by omega)))]; rfl
theorem tbl10_kind {c i : Nat} : (tbl10 c i).kind ≠ 0 ↔ i < c := by
  unfold tbl10
  split
  · rename_i h; simp only; constructor <;> intro <;> omega
  · rename_i h; simp [noEnt, h]
theorem inv10 {c n : Nat} (hc : c ≤ 30) {M : AM} (hM : M.Ok) (hn : M.n = n) {A' : AF} (h : (af0 10 n).takes (allL (tbl10 c) dir10) = some A') (hst : ∀ j, A'.st j = if (20 ≤ j ∧ j < 20 + c) ∨ (10 ≤ j ∧ j < 18) then 1 else 0) :
    Inv (as0 M A' (tbl10 c) dir10) ∧ (as0 M A' (tbl10 c) dir10).A.Two ∧ ∀ i, i < c → (as0 M A' (tbl10 c) dir10).own i = false := by
  subst hn
  obtain ⟨ok, two⟩ := as0_ok hM (show 10 ≤ M.n by have := hM.n0; omega) h
  have named : ∀ j : Nat, namedL (tbl10 c) j = true → 20 ≤ j ∧ j < 20 + c := fun j hj => by
    obtain ⟨i, hi, hk, hl⟩ := namedL_iff.1 hj
    have hic := tbl10_kind.1 hk
    unfold tbl10 at hl
    rw [if_pos hic] at hl
    simp only at hl
    omega
  have hsh : ∀ j : Nat, (as0 M A' (tbl10 c) dir10).sh j = namedL (tbl10 c) j := fun j => by rw [sh_iff ok]; simp [as0]
  have hown : ∀ i, i < c → (as0 M A' (tbl10 c) dir10).own i = false := fun i hi => by
    show (!(as0 M A' (tbl10 c) dir10).sh (tbl10 c i).line.toNat) = false
    rw [hsh]
    have : namedL (tbl10 c) (tbl10 c i).line.toNat = true := namedL_iff.2 ⟨i, by omega, tbl10_kind.2 hi, by unfold tbl10; rw [if_pos hi]; simp only; omega⟩
    rw [this]; rfl
  refine ⟨⟨ok, fun i hi => ?_, fun j hj => ?_, fun j hj => ?_, fun i j hi hj hne hk1 hk2 hl => ?_⟩, two, hown⟩
  · simp only [as0, tbl10]
    split
    · simp only; omega
    · simp [noEnt]
  · have := named j hj
    show A'.st j = 1
    rw [hst, if_pos (.inl this)]
  · rw [hsh] at hj
    have := named j hj
    show A'.st j = 1
    rw [hst, if_pos (.inl this)]
  · exact hown i (tbl10_kind.1 hk1)
/-- The store that a law of objects begins with. -/
theorem made10 {hp : List Blk} (L L2 : List Blk) (hG : hp[0]? = some (.ro globV_0)) {c n : Nat} (hc : c ≤ 30) (hn : 64 ≤ n) (hn1 : n ≤ 1024) :
    ∃ hp1 hp2 a A' Fm fr, rf D f_nvm_New [.int .i64 n] ⟨L, hp⟩ = some (.tup [.ptr (.hp (hp.length + 1)) [] 59, .int .i64 0], ⟨L, hp1⟩) ∧ hp1[0]? = some (.ro globV_0) ∧
      rf D f_objects_Of [.ptr (.hp (hp.length + 1)) [] 59, .int .i64 10, tabV (tbl10 c), dirV dir10] ⟨L2, hp1⟩ = some (.tup [.ptr (.hp a) [] 43, .int .i64 0], ⟨L2, hp2⟩) ∧
      StoQ hp2 Fm a (hp.length + 1) fr (as0 (am0 n fun _ => zl) A' (tbl10 c) dir10) ∧ Inv (as0 (am0 n fun _ => zl) A' (tbl10 c) dir10) ∧ A'.Two ∧ (∀ i, i < c → (as0 (am0 n fun _ => zl) A' (tbl10 c) dir10).own i = false) ∧
      A'.f = 10 ∧ A'.l = n ∧ (∀ j, A'.st j = if (20 ≤ j ∧ j < 20 + c) ∨ (10 ≤ j ∧ j < 18) then 1 else 0) ∧ hp <+: hp2 ∧ Above hp.length (StF3 a fr Fm) := by
  obtain ⟨m1, hl, e1, hM⟩ := rf_mp_New hn hn1 hp L
  have hG1 : (hp ++ m1)[0]? = some (.ro globV_0) := by rw [List.getElem?_append_left (lt_of_get hG)]; exact hG
  have hz : ¬ (fun j => j = hp.length ∨ j = hp.length + 1) 0 := by
    have := lt_of_get hG
    simp only; omega
  obtain ⟨A', hA, h1, h2, hst⟩ := take10 (c := c) (n := n) hc hn
  obtain ⟨i1, i2, i3⟩ := inv10 hc hM.ok rfl hA hst
  rcases rf_sp_Of hM hG1 hz 10 (tbl10 c) dir10 L2 with ⟨q, _⟩ | ⟨_, _, q, _⟩ | ⟨_, _, A2, more, q, q2, q3⟩
  · simp only [am0] at q; omega
  · have : (af0 10 n).takes (allL (tbl10 c) dir10) = none := q
    rw [hA] at this; cases this
  · have : (af0 10 n).takes (allL (tbl10 c) dir10) = some A2 := q
    rw [hA] at this; cases this
    refine ⟨hp ++ m1, _, _, A', _, _, e1, hG1, q2, q3, i1, i2, i3, h1, h2, hst, by rw [List.append_assoc]; exact List.prefix_append _ _, fun j hj => ?_⟩
    rcases hj with rfl | rfl | rfl | rfl <;> simp <;> omega
end Go.Proofs.YtnffmibpblibdaaDoor
namespace Go.Proofs.YtnffmibpblibdaaDoor
open Go.Ab
def uV (x : Int) : V := .int .u64 x
theorem left_pos {A : AF} (hA : A.Ok) {j : Nat} (h1 : A.f ≤ j) (h2 : j < A.l) (h3 : A.st j = 0) : A.left ≠ 0 := fun h => by
  have := AF.left_zero.1 h
  exact first_none hA this j h1 h2 h3
theorem rem8 (i : Nat) : (i : Int).tmod 8 = ((i % 8 : Nat) : Int) := by rw [show (8 : Int) = ((8 : Nat) : Int) by rfl, ← Int.ofNat_tmod]
theorem u_of {hp : List Blk} {v : V} (h : (Sh.int .u64).Fits hp v) : ∃ x : Int, v = uV x ∧ 0 ≤ x ∧ x ≤ 18446744073709551615 := by
  obtain ⟨n, rfl, h1, h2⟩ := h
  exact ⟨n, rfl, h1, h2⟩
theorem glob_of {hp : List Blk} (h : G <+: hp) : hp[0]? = some (.ro globV_0) := by
  obtain ⟨t, rfl⟩ := h
  rfl
theorem veqs_map {f : Int → V} (hf : ∀ a, veq (f a) (f a) = some true) : ∀ l : List Int, veqs (l.map f) (l.map f) = some true
  | [] => rfl
  | a :: l => by simp only [List.map_cons, veqs, hf, veqs_map hf l]
theorem i_of {hp : List Blk} {v : V} (h : (Sh.int .i64).Fits hp v) : ∃ x : Int, v = .int .i64 x ∧ -9223372036854775808 ≤ x ∧ x ≤ 9223372036854775807 := by
  obtain ⟨n, rfl, h1, h2⟩ := h
  exact ⟨n, rfl, h1, h2⟩
theorem nxt_ex {t : Nat → Ent} {i : Nat} (h1 : i < 49) (h2 : openB (t i) = true) : ∃ n, nxt t = some n ∧ n ≤ i := by
  cases h : nxt t with
  | none => rw [nxt_none h i h1] at h2; cases h2
  | some n =>
    refine ⟨n, rfl, ?_⟩
    have := (nxt_some h).2.2
    by_cases hn : n ≤ i
    · exact hn
    · rw [this i (by omega)] at h2; cases h2
section
variable {hp hp' : List Blk} {F G G' Fm : Ft} {a m fr : Nat} {x : AS}
theorem StoQ.chg (h : StoQ hp Fm a m fr x) (hc : Chg hp hp' G G') (ha : Apart G (StF3 a fr Fm)) (hg : ¬ G 0) : StoQ hp' Fm a m fr x :=
  ⟨h.ok, hc.get h.g hg, hc.get h.st fun e => ha a e (.inl rfl), h.fp.eqv (hc.old fr h.fp.lt fun e => ha fr e (.inr (.inl rfl))), h.mp.chg hc fun j h1 h2 => ha j h1 (.inr (.inr h2)), h.ne, h.na, h.nf, h.nz⟩
end
end Go.Proofs.YtnffmibpblibdaaDoor
