/-
  YtnffmibpblibdaaDoorT4: what functions of the program compute (LobI, LobM, LobN, LobO, LobP).
-/
import Derived.Test.YtnffmibpblibdaaDoorT3
import Derived.Test.YtnffmibpblibdaaDoorT2
set_option maxRecDepth 100000
namespace Go.Proofs.YtnffmibpblibdaaDoor
open Go.Ab
/-- A call of a law. -/
structure Cal where
  kind : Int
  id : Int
  word : Int
  v : Int
def Cal.val (o : Cal) : V := .agg 54 [.int .i64 o.kind, .int .i64 o.id, .int .i64 o.word, .int .u64 o.v]
structure Cal.Ok (o : Cal) : Prop where
  k : -9223372036854775808 ≤ o.kind ∧ o.kind ≤ 9223372036854775807
  i : -9223372036854775808 ≤ o.id ∧ o.id ≤ 9223372036854775807
  w : -9223372036854775808 ≤ o.word ∧ o.word ≤ 9223372036854775807
  u : 0 ≤ o.v ∧ o.v ≤ 18446744073709551615
def noCal : Cal := ⟨0, 0, 0, 0⟩
theorem cal_of {hp : List Blk} {v : V} (h : (Sh.st 54 [.int .i64, .int .i64, .int .i64, .int .u64]).Fits hp v) : ∃ o : Cal, v = o.val ∧ o.Ok := by
  obtain ⟨vs, rfl, h⟩ := h
  obtain ⟨x, r, rfl, hx, h⟩ := fitsC h
  obtain ⟨y, z, w, rfl, hy, hz, hw⟩ := fits3 h
  obtain ⟨k, rfl, hk⟩ := i_of hx
  obtain ⟨i, rfl, hi⟩ := i_of hy
  obtain ⟨q, rfl, hq⟩ := i_of hz
  obtain ⟨u, rfl, hu⟩ := u_of hw
  exact ⟨⟨k, i, q, u⟩, rfl, hk, hi, hq, hu⟩
/-- A call of the laws ObjectsKeep and ObjectsFree. -/
def AS.call3 (x : AS) (o : Cal) : AS :=
  if kd o.kind 3 = 0 then (x.set (kd o.id 20) (kd o.word 8) o.v).1 else if kd o.kind 3 = 1 then (x.make (1 + kd o.word 2)).1 else (x.ends (kd o.id 20)).1
theorem stp_call3 {x : AS} (h : Inv x) (on : x.M.On) (o : Cal) : Stp x (x.call3 o) := by
  obtain ⟨a0, a1⟩ := kd_range o.id (n := 20) (by decide)
  obtain ⟨b0, b1⟩ := kd_range o.word (n := 8) (by decide)
  obtain ⟨c0, c1⟩ := kd_range o.word (n := 2) (by decide)
  obtain ⟨i, hi⟩ : ∃ i : Nat, kd o.id 20 = i := ⟨(kd o.id 20).toNat, by omega⟩
  obtain ⟨w, hw⟩ : ∃ i : Nat, kd o.word 8 = i := ⟨(kd o.word 8).toNat, by omega⟩
  unfold AS.call3
  rw [hi, hw]
  split
  · exact stp_set h on (by omega) (by omega) o.v
  · split
    · exact stp_make h on (by unfold kindOk; omega)
    · exact stp_ends h on (by omega)
/-- Where the law ObjectsKeep stands. -/
structure Kp (x : AS) (marked : Bool) (kept : Nat → List Int) (i : Nat) : Prop where
  inv : Inv x
  on : x.M.On
  n : x.M.n = 100
  base : x.base = tbl10 12
  is : x.is = marked
  cnt : x.M.count ≤ 8 * i
  zero : ∀ j : Nat, namedL x.base j = true → x.M.now j = zl
  keep : marked = true → ∀ j : Nat, namedL x.mark j = true → x.M.now j = kept j
theorem Kp.call {x : AS} {marked : Bool} {kept : Nat → List Int} {i : Nat} (h : Kp x marked kept i) (o : Cal) : Kp (x.call3 o) marked kept (i + 1) := by
  have s := stp_call3 h.inv h.on o
  have hc := h.cnt
  have hc2 := s.cnt
  refine ⟨s.inv, s.on, by rw [s.n]; exact h.n, by rw [s.base]; exact h.base, by rw [s.is]; exact h.is, by omega, fun j hj => ?_, fun hm j hj => ?_⟩
  · rw [s.base] at hj
    rw [s.now j (by rw [sh_iff h.inv.ok, hj]; rfl)]; exact h.zero j hj
  · rw [s.mark] at hj
    rw [s.now j (by rw [sh_iff h.inv.ok, hj, h.is, hm]; simp)]; exact h.keep hm j hj
theorem Kp.mark {x : AS} {kept : Nat → List Int} {i : Nat} (h : Kp x false kept i) : Kp { x with mark := x.work, is := true } true x.M.now i := by
  obtain ⟨_, h2, _⟩ := marks_spec h.inv h.is
  exact ⟨h2, h.on, h.n, h.base, rfl, h.cnt, h.zero, fun _ _ _ => rfl⟩
def kpV (kept : Nat → List Int) : V := .agg 58 (tab 100 fun j => lnV (kept j))
section
variable {a m fr : Nat}
end
end Go.Proofs.YtnffmibpblibdaaDoor
namespace Go.Proofs.YtnffmibpblibdaaDoor
open Go.Ab
/-- Where the law ObjectsFree stands. -/
structure Fre (x : AS) (c : Nat) : Prop where
  inv : Inv x
  on : x.M.On
  fl : x.A.f = 10 ∧ x.A.l = 100
  dir : x.dir = dir10
  cnt : x.M.count ≤ c
  dl : ∀ j : Nat, 10 ≤ j → j < 18 → x.A.st j = 1 ∧ namedL x.work j = false
theorem Fre.step {x y : AS} {c : Nat} (h : Fre x c) (s : Stp x y) : Fre y (c + 8) :=
  ⟨s.inv, s.on, by rw [s.fl.1, s.fl.2]; exact h.fl, by rw [s.dir]; exact h.dir, by have := h.cnt; have := s.cnt; omega, fun j h1 h2 => s.st j (h.dl j h1 h2).1 (h.dl j h1 h2).2⟩
theorem Fre.marks {x : AS} {c : Nat} (h : Fre x c) : Fre x.marks.1 c ∧ x.marks.1.is = true := by
  cases hi : x.is
  · obtain ⟨e, h2, _⟩ := marks_spec h.inv hi
    rw [e]
    exact ⟨⟨h2, h.on, h.fl, h.dir, h.cnt, h.dl⟩, rfl⟩
  · have e : x.marks = (x, 3) := by unfold AS.marks; rw [if_pos hi]
    rw [e]; exact ⟨h, hi⟩
theorem namedD_iff {d : Nat → Int} {j : Nat} : namedD d j = true ↔ ∃ i, i < 8 ∧ d i = j := by
  unfold namedD
  rw [List.any_eq_true]
  constructor
  · rintro ⟨i, hi, h⟩
    exact ⟨i, List.mem_range.1 hi, of_decide_eq_true h⟩
  · rintro ⟨i, hi, h⟩
    exact ⟨i, List.mem_range.2 hi, decide_eq_true h⟩
/-- What a store names. -/
def AS.names (x : AS) (j : Nat) : Bool := namedL x.base j || namedL x.work j || namedD x.dir j
/-- A store whose free frames are those that nothing names. -/
structure Clean (x : AS) : Prop where
  ok : x.Ok
  fl : x.A.f = 10 ∧ x.A.l = 100
  dir : ∀ i, i < 8 → 10 ≤ x.dir i ∧ x.dir i < 100
  free : ∀ j : Nat, 10 ≤ j → j < 100 → (x.A.st j = 0 ↔ x.names j = false)
theorem clean_freed {x : AS} (ok : x.Ok) (hf : x.A.f = 10 ∧ x.A.l = 100) (hb : ∀ j : Nat, namedL x.base j = true → x.A.st j = 1) (hw : ∀ j : Nat, namedL x.work j = true → x.A.st j = 1) (hd : ∀ i, i < 8 → 10 ≤ x.dir i ∧ x.dir i < 100 ∧ x.A.st (x.dir i).toNat = 1) : Clean x.freed := by
  refine ⟨ok.freed, hf, fun i hi => ⟨(hd i hi).1, (hd i hi).2.1⟩, fun j h1 h2 => ?_⟩
  have hr : x.A.inr j = true := inr_of.2 (by omega)
  have hn : x.freed.names j = x.names j := rfl
  have hs := ok.s2 j
  have hs3 := ok.A.s3 j
  rw [hn]
  show (if x.A.inr j && !(x.names j) && decide (x.A.st j = 1) then 0 else x.A.st j) = 0 ↔ _
  rw [hr, Bool.true_and]
  cases hnm : x.names j
  · by_cases e : x.A.st j = 1
    · simp [e]
    · simp only [Bool.not_false, Bool.true_and, e, decide_false, Bool.false_eq_true, if_false, iff_true]; omega
  · have : x.A.st j = 1 := by
      unfold AS.names at hnm
      rw [Bool.or_eq_true, Bool.or_eq_true] at hnm
      rcases hnm with (h3 | h3) | h3
      · exact hb j h3
      · exact hw j h3
      · obtain ⟨i, hi, h4⟩ := namedD_iff.1 h3
        have := (hd i hi).2.2
        rw [h4] at this; exact this
    simp [this]
theorem clean_commit {x : AS} {c : Nat} (h : Fre x c) (hi : x.is = true) {d : Nat → Int} (hd : ∀ i, i < 8 → 10 ≤ d i ∧ d i < 100 ∧ x.A.st (d i).toNat = 1) : (x.commit d).2 = 0 ∧ (x.commit d).1.dir = d ∧ Clean (x.commit d).1 := by
  have e : x.commit d = (({ x with base := x.mark, dir := d, is := false } : AS).freed, 0) := by unfold AS.commit; rw [if_pos hi]
  rw [e]
  refine ⟨rfl, rfl, clean_freed ⟨h.inv.ok.M, h.inv.ok.A, h.inv.ok.l, h.inv.ok.w, h.inv.ok.k, h.inv.ok.k, h.inv.ok.s2⟩ h.fl (fun j hj => h.inv.s1 j ?_) h.inv.w1 hd⟩
  rw [sh_iff h.inv.ok, hi]
  have hj : namedL x.mark j = true := hj
  rw [hj]; simp
theorem clean_abort {x : AS} {c : Nat} (h : Fre x c) (hi : x.is = true) : x.abort.2 = 0 ∧ x.abort.1.dir = dir10 ∧ Clean x.abort.1 := by
  have e : x.abort = (({ x with is := false } : AS).freed, 0) := by unfold AS.abort; rw [if_pos hi]
  rw [e]
  refine ⟨rfl, h.dir, clean_freed ⟨h.inv.ok.M, h.inv.ok.A, h.inv.ok.l, h.inv.ok.w, h.inv.ok.b, h.inv.ok.k, h.inv.ok.s2⟩ h.fl (fun j hj => h.inv.s1 j ?_) h.inv.w1 fun i hi => ?_⟩
  · rw [sh_iff h.inv.ok]
    have hj : namedL x.base j = true := hj
    rw [hj]; simp
  · show 10 ≤ x.dir i ∧ x.dir i < 100 ∧ x.A.st (x.dir i).toNat = 1
    rw [h.dir]
    have : dir10 i = 10 + i := by unfold dir10; rw [if_pos hi]
    rw [this]
    exact ⟨by omega, by omega, (h.dl _ (by omega) (by omega)).1⟩
/-- Frames, where one more is taken. -/
theorem Fre.take {x : AS} {c : Nat} (h : Fre x c) : (x.take = (x, 0, 10)) ∨ ∃ k : Nat, 10 ≤ k ∧ k < 100 ∧ x.A.st k = 0 ∧ x.take = ({ x with A := x.A.put k 1 }, (k : Int), 0) ∧ Fre { x with A := x.A.put k 1 } c := by
  rcases take_spec h.inv with ⟨_, e⟩ | ⟨k, h1, h2, h3, e, h4, _⟩
  · exact .inl e
  · refine .inr ⟨k, by have := h.fl; omega, by have := h.fl; omega, h3, e, ⟨h4, h.on, h.fl, h.dir, h.cnt, fun j g1 g2 => ⟨?_, (h.dl j g1 g2).2⟩⟩⟩
    simp only [AF.put]
    have := (h.dl j g1 g2).1
    by_cases e : j = k
    · subst e; rw [upd_self]
    · rw [upd_ne e]; exact this
section
variable {a m fr : Nat}
theorem free_loop0 {H : List Blk} {v : V} {l : List Cal} (hl : ∀ o ∈ l, o.Ok) (hv : RS ⟨[], H⟩ 54 v (l.map Cal.val)) (hlt : v.locLt 0 = true) (cm : Bool) : ∀ (n i : Nat) {hp : List Blk} {Fm : Ft} {x : AS}, i + n = min l.length 60 → StoQ hp Fm a m fr x → Fre x (8 * i) → H <+: hp → Above H.length (StF3 a fr Fm) →
    ∃ hp' Fm' x', rc D 0 (.loop [0, 1, 8, 10] b_steadfastlaw10_ObjectsFree_0) [(0, v), (1, .bool cm), (8, .ptr (.hp a) [] 43), (10, .int .i64 i)] ⟨[], hp⟩ =
      some (.exit 0, [(0, v), (1, .bool cm), (8, .ptr (.hp a) [] 43), (10, .int .i64 (min l.length 60 : Nat)), (52, .bool false)], ⟨[], hp'⟩) ∧ StoQ hp' Fm' a m fr x' ∧ Fre x' (8 * min l.length 60) ∧ H <+: hp' ∧ Above H.length (StF3 a fr Fm')
  | 0, i, hp, Fm, x, hi, h, hK, p1, p2 => by
    have : i = min l.length 60 := by omega
    rw [this] at hK
    subst this
    refine ⟨hp, Fm, x, ?_, h, hK, p1, p2⟩
    have hs := hv.slen
    rw [List.length_map] at hs
    rw [rc_loop_o]
    by_cases c1 : ((min l.length 60 : Nat) : Int) < l.length
    · have c2 : ¬ ((min l.length 60 : Nat) : Int) < 60 := by omega
      generalize min l.length 60 = q at *
      simp only [go_sem, b_steadfastlaw10_ObjectsFree_0, hs, c1, c2]
    · generalize min l.length 60 = q at *
      simp only [go_sem, b_steadfastlaw10_ObjectsFree_0, hs, c1]
  | n + 1, i, hp, Fm, x, hi, h, hK, hpre, hab => by
    have hs := hv.slen
    rw [List.length_map] at hs
    have hil : i < l.length := by omega
    have ho := hl _ (getD_mem hil noCal)
    have hg : (l.map Cal.val)[i]? = some (l.getD i noCal).val := get_map hil noCal
    generalize l.getD i noCal = o at *
    have k1 := rf_kind10 o.kind 3 ho.k.1 ho.k.2 (by decide)
    have k2 := rf_kind10 o.id 20 ho.i.1 ho.i.2 (by decide)
    have k3 := rf_kind10 o.word 8 ho.w.1 ho.w.2 (by decide)
    have k4 := rf_kind10 o.word 2 ho.w.1 ho.w.2 (by decide)
    obtain ⟨b0, b1⟩ := kd_range o.kind (n := 3) (by decide)
    obtain ⟨c0, c1⟩ := kd_range o.word (n := 2) (by decide)
    have w1 : IntKind.i64.wrap (1 + kd o.word 2) = 1 + kd o.word 2 := i64_id (by omega) (by omega)
    -- marked, at the call 20
    have hmark : ∃ hp0 Fm0 x0, StoQ hp0 Fm0 a m fr x0 ∧ Fre x0 (8 * i) ∧ Chg hp hp0 (StF3 a fr Fm) (StF3 a fr Fm0) ∧ (((i : Int) = 20 ∧ ∃ e, rf D f_objects_Store_Mark [.ptr (.hp a) [] 43] ⟨[.rw o.val], hp⟩ = some (.int .i64 e, ⟨[.rw o.val], hp0⟩)) ∨ (¬ (i : Int) = 20 ∧ hp0 = hp)) := by
      by_cases hi20 : (i : Int) = 20
      · obtain ⟨hp0, g1, g2, g3⟩ := rf_sp_Mark h [.rw o.val]
        exact ⟨hp0, Fm, x.marks.1, g2, hK.marks.1, g3, .inl ⟨hi20, _, g1⟩⟩
      · exact ⟨hp, Fm, x, h, hK, .refl _ _, .inr ⟨hi20, rfl⟩⟩
    obtain ⟨hp0, Fm0, x0, hQ0, hK0, hC0, hm0⟩ := hmark
    obtain ⟨p01, p02⟩ := hC0.pre hpre hab
    have hcnt := hK0.cnt
    have hcall : ∃ hp1 Fm1, StoQ hp1 Fm1 a m fr (x0.call3 o) ∧ Chg hp0 hp1 (StF3 a fr Fm0) (StF3 a fr Fm1) ∧
        ((kd o.kind 3 = 0 ∧ ∃ e, rf D f_objects_Store_Set [.ptr (.hp a) [] 43, .int .i64 (kd o.id 20), .int .i64 (kd o.word 8), .int .u64 o.v] ⟨[.rw o.val], hp0⟩ = some (.int .i64 e, ⟨[.rw o.val], hp1⟩)) ∨
         (kd o.kind 3 = 1 ∧ ∃ e e2, rf D f_objects_Store_Make [.ptr (.hp a) [] 43, .int .i64 (1 + kd o.word 2)] ⟨[.rw o.val], hp0⟩ = some (.tup [.int .i64 e, .int .i64 e2], ⟨[.rw o.val], hp1⟩)) ∨
         (kd o.kind 3 = 2 ∧ ∃ e, rf D f_objects_Store_End [.ptr (.hp a) [] 43, .int .i64 (kd o.id 20)] ⟨[.rw o.val], hp0⟩ = some (.int .i64 e, ⟨[.rw o.val], hp1⟩))) := by
      unfold AS.call3
      by_cases z0 : kd o.kind 3 = 0
      · rw [if_pos z0]
        obtain ⟨hp1, Fm1, e1, e2, e3⟩ := rf_sp_Set hQ0 (by omega) (kd o.id 20) (kd o.word 8) o.v [.rw o.val]
        exact ⟨hp1, Fm1, e2, e3, .inl ⟨z0, _, e1⟩⟩
      · rw [if_neg z0]
        by_cases z1 : kd o.kind 3 = 1
        · rw [if_pos z1]
          obtain ⟨hp1, Fm1, e1, e2, e3⟩ := rf_sp_Make hQ0 (by omega) (1 + kd o.word 2) [.rw o.val]
          exact ⟨hp1, Fm1, e2, e3, .inr (.inl ⟨z1, _, _, e1⟩)⟩
        · rw [if_neg z1]
          obtain ⟨hp1, Fm1, e1, e2, e3⟩ := rf_sp_End hQ0 hK0.inv.v (kd o.id 20) [.rw o.val]
          exact ⟨hp1, Fm1, e2, e3, .inr (.inr ⟨by omega, _, e1⟩)⟩
    obtain ⟨hp1, Fm1, hQ1, hC1, hcase⟩ := hcall
    obtain ⟨p1, p2⟩ := hC1.pre p01 p02
    have hK1 := hK0.step (stp_call3 hK0.inv hK0.on o)
    have d1 : (i : Int) < l.length := by omega
    have d2 : (i : Int) < 60 := by omega
    have d4 : IntKind.i64.wrap ((i : Int) + 1) = ((i + 1 : Nat) : Int) := i64_id (by omega) (by omega)
    have hv1 : RS ⟨[], hp⟩ 54 v (l.map Cal.val) := hv.more ⟨List.nil_prefix, hpre⟩
    obtain ⟨hp3, Fm3, x3, r1, r2, r3, r4⟩ := free_loop0 hl hv hlt cm n (i + 1) (by omega) hQ1 (by rw [show 8 * (i + 1) = 8 * i + 8 by omega]; exact hK1) p1 p2
    refine ⟨hp3, Fm3, x3, ?_, r2, r3, r4⟩
    rw [← r1, rc_loop_o]
    clear r1 r2 r3 hK1 hK hQ1 h hK0 hQ0
    generalize kd o.kind 3 = z at *
    generalize kd o.id 20 = z2 at *
    generalize kd o.word 8 = z3 at *
    generalize kd o.word 2 = z4 at *
    simp only [Cal.val] at *
    rcases hm0 with ⟨m1, em, m2⟩ | ⟨m1, rfl⟩
    · have m1d : decide ((i : Int) = 20) = true := decide_eq_true m1
      rcases hcase with ⟨rfl, e, hc⟩ | ⟨rfl, e, e2, hc⟩ | ⟨rfl, e, hc⟩
      · simp only [go_sem, b_steadfastlaw10_ObjectsFree_0, hs, d1, d2, hv1.sadq hg, hv1.ldq hg, m1d, m2, k1, k2, k3, hc, d4, hlt]
      · simp only [go_sem, b_steadfastlaw10_ObjectsFree_0, hs, d1, d2, hv1.sadq hg, hv1.ldq hg, m1d, m2, k1, k4, w1, hc, d4, hlt]
      · simp only [go_sem, b_steadfastlaw10_ObjectsFree_0, hs, d1, d2, hv1.sadq hg, hv1.ldq hg, m1d, m2, k1, k2, hc, d4, hlt]
    · rcases hcase with ⟨rfl, e, hc⟩ | ⟨rfl, e, e2, hc⟩ | ⟨rfl, e, hc⟩
      · simp only [go_sem, b_steadfastlaw10_ObjectsFree_0, hs, d1, d2, hv1.sadq hg, hv1.ldq hg, m1, k1, k2, k3, hc, d4, hlt]
      · simp only [go_sem, b_steadfastlaw10_ObjectsFree_0, hs, d1, d2, hv1.sadq hg, hv1.ldq hg, m1, k1, k4, w1, hc, d4, hlt]
      · simp only [go_sem, b_steadfastlaw10_ObjectsFree_0, hs, d1, d2, hv1.sadq hg, hv1.ldq hg, m1, k1, k2, hc, d4, hlt]
end
end Go.Proofs.YtnffmibpblibdaaDoor
namespace Go.Proofs.YtnffmibpblibdaaDoor
open Go.Ab
/-- Lines for a dir are taken, as far as there are any. -/
structure Tkn (x : AS) (c : Nat) (d : Nat → Int) (k : Nat) : Prop where
  fre : Fre x c
  is : x.is = true
  d : ∀ i, i < k → 10 ≤ d i ∧ d i < 100 ∧ x.A.st (d i).toNat = 1
section
variable {a m fr : Nat}
theorem upd_dir {d : Nat → Int} {k : Nat} {y : Int} : (tab 8 fun i => V.int .i64 (d i)).set k (.int .i64 y) = tab 8 fun i => .int .i64 (upd d k y i) := by
  rw [tab_set]
  apply tab_congr
  intro i _
  unfold upd; split <;> rfl
theorem free_loop1 {c : Nat} : ∀ (n k : Nat) {hp : List Blk} {Fm : Ft} {x : AS} {d : Nat → Int}, k + n = 8 → StoQ hp Fm a m fr x → Tkn x c d k →
    ∃ hp' x' d', StoQ hp' Fm a m fr x' ∧ ((rc D 0 (.loop [8, 12, 14] b_steadfastlaw10_ObjectsFree_1) [(8, .ptr (.hp a) [] 43), (12, .ptr (.loc 0) [] 50), (14, .int .i64 k)] ⟨[.rw (dirV d)], hp⟩ = some (.ret, [(4, .bool true)], ⟨[.rw (dirV d')], hp'⟩)) ∨
      (Tkn x' c d' 8 ∧ rc D 0 (.loop [8, 12, 14] b_steadfastlaw10_ObjectsFree_1) [(8, .ptr (.hp a) [] 43), (12, .ptr (.loc 0) [] 50), (14, .int .i64 k)] ⟨[.rw (dirV d)], hp⟩ =
        some (.exit 3, [(8, .ptr (.hp a) [] 43), (12, .ptr (.loc 0) [] 50), (14, .int .i64 8), (98, .bool false)], ⟨[.rw (dirV d')], hp'⟩)))
  | 0, k, hp, Fm, x, d, hk, h, hT => by
    have : k = 8 := by omega
    subst this
    refine ⟨hp, x, d, h, .inr ⟨hT, ?_⟩⟩
    simp only [dirV]
    rw [rc_loop_o]
    simp only [go_sem, b_steadfastlaw10_ObjectsFree_1]
  | n + 1, k, hp, Fm, x, d, hk, h, hT => by
    have d1 : (k : Int) < 8 := by omega
    have d2 : (0 : Int) ≤ k := by omega
    have d4 : IntKind.i64.wrap ((k : Int) + 1) = ((k + 1 : Nat) : Int) := i64_id (by omega) (by omega)
    have g1 := tab_get (f := fun i => V.int .i64 (d i)) (show k < 8 by omega)
    obtain ⟨hp1, e1, e2, e3⟩ := rf_sp_Take h [.rw (dirV d)]
    rcases hT.fre.take with e | ⟨q, q1, q2, q3, e, hF⟩
    · rw [e] at e1 e2
      refine ⟨hp1, x, d, e2, .inl ?_⟩
      simp only [dirV] at *
      rw [rc_loop_o]
      simp only [go_sem, b_steadfastlaw10_ObjectsFree_1, d1, e1]
    · rw [e] at e1 e2
      simp only at e1 e2
      have hT1 : Tkn { x with A := x.A.put q 1 } c (upd d k q) (k + 1) := ⟨hF, hT.is, fun i hi => by
        by_cases e : i = k
        · subst e
          rw [upd_self, Int.toNat_natCast]
          exact ⟨by omega, by omega, upd_self⟩
        · rw [upd_ne e]
          obtain ⟨g1, g2, g3⟩ := hT.d i (by omega)
          refine ⟨g1, g2, ?_⟩
          simp only [AF.put]
          by_cases e : (d i).toNat = q
          · rw [e, upd_self]
          · rw [upd_ne e]; exact g3⟩
      obtain ⟨hp2, x2, d2', r1, r2⟩ := free_loop1 n (k + 1) (by omega) e2 hT1
      refine ⟨hp2, x2, d2', r1, ?_⟩
      have hup := upd_dir (d := d) (k := k) (y := q)
      have hstep : rc D 0 (.loop [8, 12, 14] b_steadfastlaw10_ObjectsFree_1) [(8, .ptr (.hp a) [] 43), (12, .ptr (.loc 0) [] 50), (14, .int .i64 k)] ⟨[.rw (dirV d)], hp⟩ =
          rc D 0 (.loop [8, 12, 14] b_steadfastlaw10_ObjectsFree_1) [(8, .ptr (.hp a) [] 43), (12, .ptr (.loc 0) [] 50), (14, .int .i64 (k + 1 : Nat))] ⟨[.rw (dirV (upd d k q))], hp1⟩ := by
        simp only [dirV] at *
        rw [← hup]
        generalize tab 8 (fun i => V.int .i64 (d i)) = T at *
        rw [rc_loop_o]
        simp only [go_sem, b_steadfastlaw10_ObjectsFree_1, d1, d2, e1, d4, Int.toNat_natCast, g1]
      rw [hstep]
      exact r2
/-- A row with the lines of a table's object. -/
def add1 (t : Nat → Ent) (f : Nat → Bool) (i : Nat) : Nat → Bool := if (t i).kind = 0 then f else upd f (t i).line.toNat true
def nmB (b w : Nat → Ent) : Nat → Nat → Bool
  | 0 => fun _ => false
  | i + 1 => add1 w (add1 b (nmB b w i) i) i
theorem add1_iff {t : Nat → Ent} {f : Nat → Bool} {i j : Nat} (h : (t i).kind ≠ 0 → 0 ≤ (t i).line) : add1 t f i j = (f j || (decide ((t i).kind ≠ 0) && decide ((t i).line = j))) := by
  unfold add1
  by_cases hk : (t i).kind = 0
  · rw [if_pos hk]; simp [hk]
  · rw [if_neg hk]
    have := h hk
    by_cases e : j = (t i).line.toNat
    · subst e; rw [upd_self]
      have : ((t i).line.toNat : Int) = (t i).line := by omega
      simp [hk, this]
    · rw [upd_ne e]
      have : ¬ (t i).line = j := by omega
      simp [this]
theorem nmB_iff {b w : Nat → Ent} {j : Nat} (hb : ∀ i, i < 49 → (b i).kind ≠ 0 → 0 ≤ (b i).line) (hw : ∀ i, i < 49 → (w i).kind ≠ 0 → 0 ≤ (w i).line) : ∀ n, n ≤ 49 → nmB b w n j = (((List.range n).any fun i => decide ((b i).kind ≠ 0) && decide ((b i).line = j)) || ((List.range n).any fun i => decide ((w i).kind ≠ 0) && decide ((w i).line = j)))
  | 0, _ => by simp [nmB]
  | n + 1, hn => by
    simp only [nmB]
    rw [add1_iff (hw n (by omega)), add1_iff (hb n (by omega)), nmB_iff hb hw n (by omega)]
    simp only [List.range_succ, List.any_append, List.any_cons, List.any_nil, Bool.or_false]
    ac_rfl
def bV (n : Nat) (f : Nat → Bool) : V := .agg 20 (tab n fun j => .bool (f j))
theorem bV_set {n : Nat} {f : Nat → Bool} {q : Nat} : (tab n fun j => V.bool (f j)).set q (.bool true) = tab n fun j => .bool (upd f q true j) := by
  rw [tab_set]
  apply tab_congr
  intro j _
  unfold upd; split <;> rfl
theorem free_loop2 {b w : Nat → Ent} (hb : ∀ i, i < 49 → (b i).kind ≠ 0 → 0 ≤ (b i).line ∧ (b i).line < 100) (hw : ∀ i, i < 49 → (w i).kind ≠ 0 → 0 ≤ (w i).line ∧ (w i).line < 100) (v : Int) (d1 d2 : List V) (hp : List Blk) :
    rc D 0 (.loop [8, 12, 13, 17, 18, 19, 20, 21] b_steadfastlaw10_ObjectsFree_2) [(8, .ptr (.hp a) [] 43), (12, .ptr (.loc 0) [] 50), (13, .int .i64 v), (17, .ptr (.loc 1) [] 48), (18, .ptr (.loc 2) [] 50), (19, .ptr (.loc 3) [] 48), (20, .sl (.loc 4) [] 0 100 (some 100) 0), (21, .int .i64 0)] ⟨[.rw (.agg 50 d1), .rw (tabV b), .rw (.agg 50 d2), .rw (tabV w), .rw (bV 100 fun _ => false)], hp⟩ =
      some (.exit 5, [(8, .ptr (.hp a) [] 43), (12, .ptr (.loc 0) [] 50), (13, .int .i64 v), (17, .ptr (.loc 1) [] 48), (18, .ptr (.loc 2) [] 50), (19, .ptr (.loc 3) [] 48), (20, .sl (.loc 4) [] 0 100 (some 100) 0), (21, .int .i64 49), (127, .bool false)], ⟨[.rw (.agg 50 d1), .rw (tabV b), .rw (.agg 50 d2), .rw (tabV w), .rw (bV 100 (nmB b w 49))], hp⟩) := by
  refine loop_runs (fun j : Nat => [(8, .ptr (.hp a) [] 43), (12, .ptr (.loc 0) [] 50), (13, .int .i64 v), (17, .ptr (.loc 1) [] 48), (18, .ptr (.loc 2) [] 50), (19, .ptr (.loc 3) [] 48), (20, .sl (.loc 4) [] 0 100 (some 100) 0), (21, .int .i64 j)]) (fun j => ⟨[.rw (.agg 50 d1), .rw (tabV b), .rw (.agg 50 d2), .rw (tabV w), .rw (bV 100 (nmB b w j))], hp⟩) (fun _ => _) (fun j => 49 - j) (fun j => j ≤ 49) 0 ?_ (by omega) rfl rfl
  intro j hj
  by_cases c : j < 49
  · left
    have e1 : (j : Int) < 49 := by omega
    have e2 : (0 : Int) ≤ j := by omega
    have e4 : IntKind.i64.wrap ((j : Int) + 1) = (j : Int) + 1 := i64_id (by omega) (by omega)
    have g1 := tab_get (f := fun i => (b i).v) c
    have g2 := tab_get (f := fun i => (w i).v) c
    have hbj := hb j c
    have hwj := hw j c
    refine ⟨j + 1, by omega, by omega, rfl, ?_⟩
    simp only [nmB]
    generalize nmB b w j = f at *
    simp only [tabV, Ent.v] at *
    generalize tab 49 (fun i => V.agg 42 [.int .i64 (b i).kind, .int .i64 (b i).ver, .int .i64 (b i).line]) = T1 at *
    generalize tab 49 (fun i => V.agg 42 [.int .i64 (w i).kind, .int .i64 (w i).ver, .int .i64 (w i).line]) = T2 at *
    unfold add1
    by_cases k1 : (b j).kind = 0
    · rw [if_pos k1]
      simp only [k1] at g1
      by_cases k2 : (w j).kind = 0
      · rw [if_pos k2]
        simp only [k2] at g2
        simp only [bV]
        simp only [go_sem, b_steadfastlaw10_ObjectsFree_2, e1, e2, Int.toNat_natCast, g1, g2, e4]
        rfl
      · rw [if_neg k2]
        obtain ⟨q, hq⟩ : ∃ q : Nat, (w j).line = q := ⟨(w j).line.toNat, by have := hwj k2; omega⟩
        have hq1 := hwj k2
        rw [hq] at g2 hq1 ⊢
        have q1 := hq1.1
        have q2 := hq1.2
        have hg := tab_get (f := fun i => V.bool (f i)) (show q < 100 by omega)
        simp only [bV]
        rw [Int.toNat_natCast, ← bV_set]
        generalize tab 100 (fun i => V.bool (f i)) = U at *
        simp only [go_sem, b_steadfastlaw10_ObjectsFree_2, e1, e2, Int.toNat_natCast, g1, g2, k2, q1, q2, hg, e4, Nat.zero_add]
        rfl
    · rw [if_neg k1]
      obtain ⟨p, hp'⟩ : ∃ q : Nat, (b j).line = q := ⟨(b j).line.toNat, by have := hbj k1; omega⟩
      have hp1 := hbj k1
      rw [hp'] at g1 hp1 ⊢
      have p1 := hp1.1
      have p2 := hp1.2
      have hg := tab_get (f := fun i => V.bool (f i)) (show p < 100 by omega)
      rw [Int.toNat_natCast]
      by_cases k2 : (w j).kind = 0
      · rw [if_pos k2]
        simp only [k2] at g2
        simp only [bV]
        rw [← bV_set]
        generalize tab 100 (fun i => V.bool (f i)) = U at *
        simp only [go_sem, b_steadfastlaw10_ObjectsFree_2, e1, e2, Int.toNat_natCast, g1, g2, k1, p1, p2, hg, e4, Nat.zero_add]
        rfl
      · rw [if_neg k2]
        obtain ⟨q, hq⟩ : ∃ q : Nat, (w j).line = q := ⟨(w j).line.toNat, by have := hwj k2; omega⟩
        have hq1 := hwj k2
        rw [hq] at g2 hq1 ⊢
        have q1 := hq1.1
        have q2 := hq1.2
        have hg2 := tab_get (f := fun i => V.bool (upd f p true i)) (show q < 100 by omega)
        have hup := bV_set (n := 100) (f := f) (q := p)
        simp only [bV]
        rw [Int.toNat_natCast, ← bV_set]
        rw [← hup] at hg2 ⊢
        generalize tab 100 (fun i => V.bool (f i)) = U at *
        simp only [go_sem, b_steadfastlaw10_ObjectsFree_2, e1, e2, Int.toNat_natCast, g1, g2, k1, k2, p1, p2, q1, q2, hg, hg2, e4, Nat.zero_add]
        rfl
  · right
    have : j = 49 := by omega
    subst this
    simp only [tabV, bV]
    simp only [go_sem, b_steadfastlaw10_ObjectsFree_2]
end
end Go.Proofs.YtnffmibpblibdaaDoor
namespace Go.Proofs.YtnffmibpblibdaaDoor
open Go.Ab
section
variable {a m fr : Nat}
/-- A row with the lines of a dir's first ones. -/
def nmD (d : Nat → Int) (f : Nat → Bool) : Nat → Nat → Bool
  | 0 => f
  | i + 1 => upd (nmD d f i) (d i).toNat true
theorem nmD_iff {d : Nat → Int} {f : Nat → Bool} {j : Nat} (hd : ∀ i, i < 8 → 0 ≤ d i) : ∀ n, n ≤ 8 → nmD d f n j = (f j || (List.range n).any fun i => decide (d i = j))
  | 0, _ => by simp [nmD]
  | n + 1, hn => by
    simp only [nmD, List.range_succ, List.any_append, List.any_cons, List.any_nil, Bool.or_false]
    have := hd n (by omega)
    by_cases e : j = (d n).toNat
    · subst e; rw [upd_self]
      have : ((d n).toNat : Int) = d n := by omega
      simp [this]
    · rw [upd_ne e, nmD_iff hd n (by omega)]
      have : ¬ d n = j := by omega
      simp [this]
theorem free_loop3 {d : Nat → Int} {f : Nat → Bool} (hd : ∀ i, i < 8 → 10 ≤ d i ∧ d i < 100) (v : Int) (d1 t1 t2 : List V) (hp : List Blk) :
    rc D 0 (.loop [8, 12, 13, 18, 20, 22] b_steadfastlaw10_ObjectsFree_3) [(8, .ptr (.hp a) [] 43), (12, .ptr (.loc 0) [] 50), (13, .int .i64 v), (18, .ptr (.loc 2) [] 50), (20, .sl (.loc 4) [] 0 100 (some 100) 0), (22, .int .i64 0)] ⟨[.rw (.agg 50 d1), .rw (.agg 48 t1), .rw (dirV d), .rw (.agg 48 t2), .rw (bV 100 f)], hp⟩ =
      some (.exit 7, [(8, .ptr (.hp a) [] 43), (12, .ptr (.loc 0) [] 50), (13, .int .i64 v), (18, .ptr (.loc 2) [] 50), (20, .sl (.loc 4) [] 0 100 (some 100) 0), (22, .int .i64 8), (153, .bool false)], ⟨[.rw (.agg 50 d1), .rw (.agg 48 t1), .rw (dirV d), .rw (.agg 48 t2), .rw (bV 100 (nmD d f 8))], hp⟩) := by
  refine loop_runs (fun j : Nat => [(8, .ptr (.hp a) [] 43), (12, .ptr (.loc 0) [] 50), (13, .int .i64 v), (18, .ptr (.loc 2) [] 50), (20, .sl (.loc 4) [] 0 100 (some 100) 0), (22, .int .i64 j)]) (fun j => ⟨[.rw (.agg 50 d1), .rw (.agg 48 t1), .rw (dirV d), .rw (.agg 48 t2), .rw (bV 100 (nmD d f j))], hp⟩) (fun _ => _) (fun j => 8 - j) (fun j => j ≤ 8) 0 ?_ (by omega) rfl rfl
  intro j hj
  by_cases c : j < 8
  · left
    have e1 : (j : Int) < 8 := by omega
    have e2 : (0 : Int) ≤ j := by omega
    have e4 : IntKind.i64.wrap ((j : Int) + 1) = (j : Int) + 1 := i64_id (by omega) (by omega)
    have g1 := tab_get (f := fun i => V.int .i64 (d i)) c
    have hdj := hd j c
    obtain ⟨q, hq⟩ : ∃ q : Nat, d j = q := ⟨(d j).toNat, by omega⟩
    have q1 : (0 : Int) ≤ q := by omega
    have q2 : (q : Int) < 100 := by omega
    refine ⟨j + 1, by omega, by omega, rfl, ?_⟩
    simp only [nmD]
    generalize nmD d f j = g at *
    have hg := tab_get (f := fun i => V.bool (g i)) (show q < 100 by omega)
    simp only [dirV, bV] at *
    rw [hq, Int.toNat_natCast, ← bV_set]
    rw [hq] at g1
    generalize tab 8 (fun i => V.int .i64 (d i)) = T1 at *
    generalize tab 100 (fun i => V.bool (g i)) = U at *
    simp only [go_sem, b_steadfastlaw10_ObjectsFree_3, e1, e2, Int.toNat_natCast, g1, q1, q2, hg, e4, Nat.zero_add]
    rfl
  · right
    have : j = 8 := by omega
    subst this
    simp only [dirV, bV]
    simp only [go_sem, b_steadfastlaw10_ObjectsFree_3]
theorem cnt_snoc {A : AF} : ∀ m i, A.cnt i (m + 1) = A.cnt i m + if A.st (i + m) = 0 then 1 else 0
  | 0, i => by simp [AF.cnt]
  | m + 1, i => by
    rw [AF.cnt, cnt_snoc m (i + 1), AF.cnt, show i + 1 + m = i + (m + 1) by omega]; omega
theorem free_loop4 {A : AF} {nm : Nat → Bool} (hA : ∀ j, 10 ≤ j → j < 100 → (A.st j = 0 ↔ nm j = false)) (v : Int) (d1 t1 d2 t2 : List V) (hp : List Blk) :
    rc D 0 (.loop [8, 12, 13, 18, 20, 23, 24] b_steadfastlaw10_ObjectsFree_4) [(8, .ptr (.hp a) [] 43), (12, .ptr (.loc 0) [] 50), (13, .int .i64 v), (18, .ptr (.loc 2) [] 50), (20, .sl (.loc 4) [] 0 100 (some 100) 0), (23, .int .i64 0), (24, .int .i64 10)] ⟨[.rw (.agg 50 d1), .rw (.agg 48 t1), .rw (.agg 50 d2), .rw (.agg 48 t2), .rw (bV 100 nm)], hp⟩ =
      some (.exit 9, [(8, .ptr (.hp a) [] 43), (12, .ptr (.loc 0) [] 50), (13, .int .i64 v), (18, .ptr (.loc 2) [] 50), (20, .sl (.loc 4) [] 0 100 (some 100) 0), (23, .int .i64 (A.cnt 10 90 : Nat)), (24, .int .i64 100), (162, .bool false)], ⟨[.rw (.agg 50 d1), .rw (.agg 48 t1), .rw (.agg 50 d2), .rw (.agg 48 t2), .rw (bV 100 nm)], hp⟩) := by
  refine loop_runs (fun j : Nat => [(8, .ptr (.hp a) [] 43), (12, .ptr (.loc 0) [] 50), (13, .int .i64 v), (18, .ptr (.loc 2) [] 50), (20, .sl (.loc 4) [] 0 100 (some 100) 0), (23, .int .i64 (A.cnt 10 j : Nat)), (24, .int .i64 (10 + j : Nat))]) (fun j => ⟨[.rw (.agg 50 d1), .rw (.agg 48 t1), .rw (.agg 50 d2), .rw (.agg 48 t2), .rw (bV 100 nm)], hp⟩) (fun _ => _) (fun j => 90 - j) (fun j => j ≤ 90) 0 ?_ (by omega) rfl rfl
  intro j hj
  by_cases c : j < 90
  · left
    have e1 : ((10 + j : Nat) : Int) < 100 := by omega
    have e2 : (0 : Int) ≤ ((10 + j : Nat) : Int) := by omega
    have e4 : IntKind.i64.wrap (((10 + j : Nat) : Int) + 1) = ((10 + (j + 1) : Nat) : Int) := by rw [i64_id (by omega) (by omega)]; omega
    have hcl := AF.cnt_le (A := A) j 10
    have e5 : IntKind.i64.wrap (((A.cnt 10 j : Nat) : Int) + 1) = ((A.cnt 10 j + 1 : Nat) : Int) := i64_id (by omega) (by omega)
    have hg := tab_get (f := fun i => V.bool (nm i)) (show 10 + j < 100 by omega)
    have hz := hA (10 + j) (by omega) (by omega)
    refine ⟨j + 1, by omega, by omega, rfl, ?_⟩
    simp only [cnt_snoc]
    generalize A.cnt 10 j = cc at *
    simp only [bV]
    generalize hU : tab 100 (fun i => V.bool (nm i)) = U at *
    generalize hq : 10 + j = q at *
    have e4' : ((10 + (j + 1) : Nat) : Int) = ((q + 1 : Nat) : Int) := by omega
    rw [e4'] at e4 ⊢
    cases hn : nm q
    · rw [hn] at hg
      rw [if_pos (hz.2 hn)]
      simp only [go_sem, b_steadfastlaw10_ObjectsFree_4, e1, e2, Int.toNat_natCast, hg, e4, e5, Nat.zero_add]
    · rw [hn] at hg
      rw [if_neg (fun h => by rw [hz.1 h] at hn; cases hn)]
      simp only [go_sem, b_steadfastlaw10_ObjectsFree_4, e1, e2, Int.toNat_natCast, hg, e4, Nat.zero_add]
  · right
    have : j = 90 := by omega
    subst this
    simp only [bV]
    rw [show ((10 + 90 : Nat) : Int) = 100 from rfl]
    simp only [go_sem, b_steadfastlaw10_ObjectsFree_4]
end
end Go.Proofs.YtnffmibpblibdaaDoor
namespace Go.Proofs.YtnffmibpblibdaaDoor
open Go.Ab
theorem veqs_d (d : Nat → Int) : veqs (tab 8 fun i => .int .i64 (d i)) (tab 8 fun i => .int .i64 (d i)) = some true := by
  have : (tab 8 fun i => V.int .i64 (d i)) = ((List.range 8).map d).map (.int .i64) := by unfold tab; rw [List.map_map]; rfl
  rw [this]
  exact veqs_map (fun a => by simp [veq]) _
theorem free_tail {hp : List Blk} {a m fr : Nat} {Fm : Ft} {x : AS} (h : StoQ hp Fm a m fr x) (hC : Clean x) (d1 : List V) :
    rc D 0 (.loop [8, 12, 13, 17, 18, 19, 20, 21] b_steadfastlaw10_ObjectsFree_2) [(8, .ptr (.hp a) [] 43), (12, .ptr (.loc 0) [] 50), (13, .int .i64 0), (17, .ptr (.loc 1) [] 48), (18, .ptr (.loc 2) [] 50), (19, .ptr (.loc 3) [] 48), (20, .sl (.loc 4) [] 0 100 (some 100) 0), (21, .int .i64 0)] ⟨[.rw (.agg 50 d1), .rw (tabV x.base), .rw (dirV x.dir), .rw (tabV x.work), .rw (bV 100 fun _ => false)], hp⟩ =
      some (.exit 5, [(8, .ptr (.hp a) [] 43), (12, .ptr (.loc 0) [] 50), (13, .int .i64 0), (17, .ptr (.loc 1) [] 48), (18, .ptr (.loc 2) [] 50), (19, .ptr (.loc 3) [] 48), (20, .sl (.loc 4) [] 0 100 (some 100) 0), (21, .int .i64 49), (127, .bool false)], ⟨[.rw (.agg 50 d1), .rw (tabV x.base), .rw (dirV x.dir), .rw (tabV x.work), .rw (bV 100 (nmB x.base x.work 49))], hp⟩) ∧
    rc D 0 (.loop [8, 12, 13, 18, 20, 22] b_steadfastlaw10_ObjectsFree_3) [(8, .ptr (.hp a) [] 43), (12, .ptr (.loc 0) [] 50), (13, .int .i64 0), (18, .ptr (.loc 2) [] 50), (20, .sl (.loc 4) [] 0 100 (some 100) 0), (22, .int .i64 0)] ⟨[.rw (.agg 50 d1), .rw (tabV x.base), .rw (dirV x.dir), .rw (tabV x.work), .rw (bV 100 (nmB x.base x.work 49))], hp⟩ =
      some (.exit 7, [(8, .ptr (.hp a) [] 43), (12, .ptr (.loc 0) [] 50), (13, .int .i64 0), (18, .ptr (.loc 2) [] 50), (20, .sl (.loc 4) [] 0 100 (some 100) 0), (22, .int .i64 8), (153, .bool false)], ⟨[.rw (.agg 50 d1), .rw (tabV x.base), .rw (dirV x.dir), .rw (tabV x.work), .rw (bV 100 (nmD x.dir (nmB x.base x.work 49) 8))], hp⟩) ∧
    rc D 0 (.loop [8, 12, 13, 18, 20, 23, 24] b_steadfastlaw10_ObjectsFree_4) [(8, .ptr (.hp a) [] 43), (12, .ptr (.loc 0) [] 50), (13, .int .i64 0), (18, .ptr (.loc 2) [] 50), (20, .sl (.loc 4) [] 0 100 (some 100) 0), (23, .int .i64 0), (24, .int .i64 10)] ⟨[.rw (.agg 50 d1), .rw (tabV x.base), .rw (dirV x.dir), .rw (tabV x.work), .rw (bV 100 (nmD x.dir (nmB x.base x.work 49) 8))], hp⟩ =
      some (.exit 9, [(8, .ptr (.hp a) [] 43), (12, .ptr (.loc 0) [] 50), (13, .int .i64 0), (18, .ptr (.loc 2) [] 50), (20, .sl (.loc 4) [] 0 100 (some 100) 0), (23, .int .i64 x.A.left), (24, .int .i64 100), (162, .bool false)], ⟨[.rw (.agg 50 d1), .rw (tabV x.base), .rw (dirV x.dir), .rw (tabV x.work), .rw (bV 100 (nmD x.dir (nmB x.base x.work 49) 8))], hp⟩) := by
  have hl := hC.fl
  have hb : ∀ i, i < 49 → (x.base i).kind ≠ 0 → 0 ≤ (x.base i).line ∧ (x.base i).line < 100 := fun i hi hk => by have := hC.ok.b.inn i hi hk; omega
  have hw : ∀ i, i < 49 → (x.work i).kind ≠ 0 → 0 ≤ (x.work i).line ∧ (x.work i).line < 100 := fun i hi hk => by have := hC.ok.w.inn i hi hk; omega
  have hleft : x.A.left = x.A.cnt 10 90 := by unfold AF.left; rw [hl.1, hl.2]
  refine ⟨free_loop2 hb hw 0 d1 _ hp, free_loop3 hC.dir 0 d1 _ _ hp, ?_⟩
  rw [hleft]
  refine free_loop4 (fun j h1 h2 => ?_) 0 d1 _ _ _ hp
  rw [hC.free j h1 h2]
  unfold AS.names
  rw [nmD_iff (fun i hi => by have := hC.dir i hi; omega) 8 (Nat.le_refl _), nmB_iff (fun i hi hk => (hb i hi hk).1) (fun i hi hk => (hw i hi hk).1) 49 (Nat.le_refl _)]
  rfl
theorem law_ObjectsFree : ∀ hp vs, G <+: hp → Sh.FitsL hp [(.sl 56 (.st 54 [(.int .i64), (.int .i64), (.int .i64), (.int .u64)])), .bool] vs → ∃ s', rf D f_steadfastlaw10_ObjectsFree vs ⟨[], hp⟩ = some (.bool true, s') := by
  intro hp vs hpre hf
  obtain ⟨v, v1, rfl, hv, ⟨cm, rfl⟩⟩ := fits2 hf
  obtain ⟨l0, hrs, hlt, hlen, hfit⟩ := rs_of_fits hv
  obtain ⟨l, rfl, hl⟩ := map_of (f := Cal.val) (fun x hx => cal_of (hfit x hx))
  have hG := glob_of hpre
  obtain ⟨more, hsh⟩ := rf_shown10 (s := ⟨[], hp⟩) hG
  have hG1 : (hp ++ more)[0]? = some (.ro globV_0) := by rw [List.getElem?_append_left (lt_of_get hG)]; exact hG
  have hrs1 : RS ⟨[], hp ++ more⟩ 54 v (l.map Cal.val) := hrs.more ⟨List.prefix_rfl, List.prefix_append _ _⟩
  simp only at hsh
  generalize hp ++ more = H at *
  obtain ⟨hp1, hp2, a, A', Fm, fr, e1, hG2, e2, hQ, hI, two, hown, hf1, hf2, hst, p1, p2⟩ := made10 [] [] hG1 (c := 12) (n := 100) (by decide) (by decide) (by decide)
  have htab := fun s => rf_table10 12 (by decide) s
  rw [show ((12 : Nat) : Int) = 12 from rfl] at htab
  rw [show ((100 : Nat) : Int) = 100 from rfl] at e1
  have hdir := rf_dir10 (s := ⟨[], hp1⟩) hG2
  generalize hx0 : as0 (am0 100 fun _ => zl) A' (tbl10 12) dir10 = x0 at *
  have hF : Fre x0 (8 * 0) := by
    refine ⟨hI, by rw [← hx0]; exact am0_on _ _, by rw [← hx0]; exact ⟨hf1, hf2⟩, by rw [← hx0]; rfl, by rw [← hx0]; simp [as0, am0], fun j h1 h2 => ⟨?_, ?_⟩⟩
    · rw [← hx0]; show A'.st j = 1; rw [hst, if_pos (.inr ⟨h1, h2⟩)]
    · rw [← hx0]
      show namedL (tbl10 12) j = false
      cases hn : namedL (tbl10 12) j
      · rfl
      · obtain ⟨i, hi, hk, hl⟩ := namedL_iff.1 hn
        have := tbl10_kind.1 hk
        unfold tbl10 at hl
        rw [if_pos this] at hl
        simp only at hl
        omega
  obtain ⟨hp3, Fm3, x3, r1, r2, r3, p3, p4⟩ := free_loop0 (m := H.length + 1) hl hrs1 hlt cm (min l.length 60) 0 (by omega) hQ hF p1 p2
  rw [show ((0 : Nat) : Int) = 0 from rfl] at r1
  obtain ⟨hp4, w1, w2, w3⟩ := rf_sp_Mark r2 []
  obtain ⟨hF4, his4⟩ := r3.marks
  generalize x3.marks.1 = x4 at *
  generalize x3.marks.2 = em at *
  have hG4 := w2.g
  have hdir4 := rf_dir10 (s := ⟨[], hp4⟩) hG4
  have hz : V.agg 50 (List.replicate 8 (.int .i64 0)) = .agg 50 (List.replicate 8 (.int .i64 0)) := rfl
  have hbz : V.agg 20 (List.replicate 100 (.bool false)) = bV 100 fun _ => false := by unfold bV; rw [tab_rep]
  have hm : (100 : Int) ≤ (most : Nat) := by decide
  have e100 : (100 : Int).toNat = 100 := rfl
  clear hI hQ hF hst two r2 r3 hfit
  cases cm
  · -- given up
    obtain ⟨hp5, u1, u2, u3⟩ := rf_sp_Take w2 [.rw (dirV dir10)]
    have hF5 : Fre x4.take.1 (8 * min l.length 60) ∧ x4.take.1.is = true := by
      rcases hF4.take with e | ⟨k, _, _, _, e, hF5⟩
      · rw [e]; exact ⟨hF4, his4⟩
      · rw [e]; exact ⟨hF5, his4⟩
    generalize x4.take.1 = x5 at *
    generalize x4.take.2.1 = et1 at *
    generalize x4.take.2.2 = et2 at *
    obtain ⟨hp6, g1, g2, g3⟩ := rf_sp_Abort u2 [.rw (dirV dir10)]
    obtain ⟨c1, c2, c3⟩ := clean_abort hF5.1 hF5.2
    rw [c1] at g1
    generalize x5.abort.1 = x6 at *
    obtain ⟨t1, t2, t3⟩ := free_tail g2 c3 (tab 8 fun i => V.int .i64 (dir10 i))
    have hbase := rf_sp_Base g2
    have htbl := rf_sp_Table g2
    have hleft := rf_sp_Left g2
    have hve := veqs_d dir10
    rw [c2] at t1 t2 t3 hbase
    refine ⟨⟨[], hp6⟩, ?_⟩
    clear u2 w2 hF4 hF5 g2 c3
    generalize nmD dir10 (nmB x6.base x6.work 49) 8 = NM2 at *
    generalize nmB x6.base x6.work 49 = NM1 at *
    simp only [tabV, Ent.v, dirV] at *
    rw [rf_o D_steadfastlaw10_ObjectsFree rfl]
    simp only [go_sem, hsh, e1, htab, hdir, e2, r1]
    simp only [go_sem, w1, hdir4, u1, g1]
    simp only [go_sem, hbase, htbl, hm, e100, hbz, t1, t2, t3, hve, hleft]
  · -- committed
    have hT : Tkn x4 (8 * min l.length 60) dir10 0 := ⟨hF4, his4, fun i hi => absurd hi (by omega)⟩
    obtain ⟨hp5, x5, d5, u1, u2 | ⟨hT5, u2⟩⟩ := free_loop1 8 0 rfl w2 hT
    · refine ⟨⟨[], hp5⟩, ?_⟩
      rw [show ((0 : Nat) : Int) = 0 from rfl] at u2
      clear u1 w2 hF4 hT
      simp only [tabV, Ent.v, dirV] at *
      rw [rf_o D_steadfastlaw10_ObjectsFree rfl]
      simp only [go_sem, hsh, e1, htab, hdir, e2, r1]
      simp only [go_sem, w1, hdir4, u2]
    · rw [show ((0 : Nat) : Int) = 0 from rfl] at u2
      obtain ⟨hp6, g1, g2, g3⟩ := rf_sp_Commit u1 d5 [.rw (dirV d5)]
      obtain ⟨c1, c2, c3⟩ := clean_commit hT5.fre hT5.is hT5.d
      rw [c1] at g1
      generalize (x5.commit d5).1 = x6 at *
      obtain ⟨t1, t2, t3⟩ := free_tail g2 c3 (tab 8 fun i => V.int .i64 (d5 i))
      have hbase := rf_sp_Base g2
      have htbl := rf_sp_Table g2
      have hleft := rf_sp_Left g2
      have hve := veqs_d d5
      rw [c2] at t1 t2 t3 hbase
      refine ⟨⟨[], hp6⟩, ?_⟩
      clear u1 w2 hF4 hT hT5 g2 c3
      generalize nmD d5 (nmB x6.base x6.work 49) 8 = NM2 at *
      generalize nmB x6.base x6.work 49 = NM1 at *
      simp only [tabV, Ent.v, dirV] at *
      rw [rf_o D_steadfastlaw10_ObjectsFree rfl]
      simp only [go_sem, hsh, e1, htab, hdir, e2, r1]
      simp only [go_sem, w1, hdir4, u2, g1]
      simp only [go_sem, hbase, htbl, hm, e100, hbz, t1, t2, t3, hve, hleft]
end Go.Proofs.YtnffmibpblibdaaDoor
