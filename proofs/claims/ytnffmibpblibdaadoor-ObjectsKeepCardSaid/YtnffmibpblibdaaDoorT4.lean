/-
  YtnffmibpblibdaaDoorT4: what functions of the program compute (LobI, LobJ, LobK, LobL).
-/
import Derived.Test.YtnffmibpblibdaaDoorT3
import Derived.Test.YtnffmibpblibdaaDoorT2
set_option maxRecDepth 100000
namespace Go.Proofs.YtnffmibpblibdaaDoor
open Go.Ab
/-- A call of a law. -/
structure Cal where
  kind : Int
  id : Int
  word : Int
  v : Int
def Cal.val (o : Cal) : V := .agg 54 [.int .i64 o.kind, .int .i64 o.id, .int .i64 o.word, .int .u64 o.v]
structure Cal.Ok (o : Cal) : Prop where
  k : -9223372036854775808 ≤ o.kind ∧ o.kind ≤ 9223372036854775807
  i : -9223372036854775808 ≤ o.id ∧ o.id ≤ 9223372036854775807
  w : -9223372036854775808 ≤ o.word ∧ o.word ≤ 9223372036854775807
  u : 0 ≤ o.v ∧ o.v ≤ 18446744073709551615
def noCal : Cal := ⟨0, 0, 0, 0⟩
theorem cal_of {hp : List Blk} {v : V} (h : (Sh.st 54 [.int .i64, .int .i64, .int .i64, .int .u64]).Fits hp v) : ∃ o : Cal, v = o.val ∧ o.Ok := by
  obtain ⟨vs, rfl, h⟩ := h
  obtain ⟨x, r, rfl, hx, h⟩ := fitsC h
  obtain ⟨y, z, w, rfl, hy, hz, hw⟩ := fits3 h
  obtain ⟨k, rfl, hk⟩ := i_of hx
  obtain ⟨i, rfl, hi⟩ := i_of hy
  obtain ⟨q, rfl, hq⟩ := i_of hz
  obtain ⟨u, rfl, hu⟩ := u_of hw
  exact ⟨⟨k, i, q, u⟩, rfl, hk, hi, hq, hu⟩
/-- A call of the laws ObjectsKeep and ObjectsFree. -/
def AS.call3 (x : AS) (o : Cal) : AS :=
  if kd o.kind 3 = 0 then (x.set (kd o.id 20) (kd o.word 8) o.v).1 else if kd o.kind 3 = 1 then (x.make (1 + kd o.word 2)).1 else (x.ends (kd o.id 20)).1
theorem stp_call3 {x : AS} (h : Inv x) (on : x.M.On) (o : Cal) : Stp x (x.call3 o) := by
  obtain ⟨a0, a1⟩ := kd_range o.id (n := 20) (by decide)
  obtain ⟨b0, b1⟩ := kd_range o.word (n := 8) (by decide)
  obtain ⟨c0, c1⟩ := kd_range o.word (n := 2) (by decide)
  obtain ⟨i, hi⟩ : ∃ i : Nat, kd o.id 20 = i := ⟨(kd o.id 20).toNat, by omega⟩
  obtain ⟨w, hw⟩ : ∃ i : Nat, kd o.word 8 = i := ⟨(kd o.word 8).toNat, by omega⟩
  unfold AS.call3
  rw [hi, hw]
  split
  · exact stp_set h on (by omega) (by omega) o.v
  · split
    · exact stp_make h on (by unfold kindOk; omega)
    · exact stp_ends h on (by omega)
/-- Where the law ObjectsKeep stands. -/
structure Kp (x : AS) (marked : Bool) (kept : Nat → List Int) (i : Nat) : Prop where
  inv : Inv x
  on : x.M.On
  n : x.M.n = 100
  base : x.base = tbl10 12
  is : x.is = marked
  cnt : x.M.count ≤ 8 * i
  zero : ∀ j : Nat, namedL x.base j = true → x.M.now j = zl
  keep : marked = true → ∀ j : Nat, namedL x.mark j = true → x.M.now j = kept j
theorem Kp.call {x : AS} {marked : Bool} {kept : Nat → List Int} {i : Nat} (h : Kp x marked kept i) (o : Cal) : Kp (x.call3 o) marked kept (i + 1) := by
  have s := stp_call3 h.inv h.on o
  have hc := h.cnt
  have hc2 := s.cnt
  refine ⟨s.inv, s.on, by rw [s.n]; exact h.n, by rw [s.base]; exact h.base, by rw [s.is]; exact h.is, by omega, fun j hj => ?_, fun hm j hj => ?_⟩
  · rw [s.base] at hj
    rw [s.now j (by rw [sh_iff h.inv.ok, hj]; rfl)]; exact h.zero j hj
  · rw [s.mark] at hj
    rw [s.now j (by rw [sh_iff h.inv.ok, hj, h.is, hm]; simp)]; exact h.keep hm j hj
theorem Kp.mark {x : AS} {kept : Nat → List Int} {i : Nat} (h : Kp x false kept i) : Kp { x with mark := x.work, is := true } true x.M.now i := by
  obtain ⟨_, h2, _⟩ := marks_spec h.inv h.is
  exact ⟨h2, h.on, h.n, h.base, rfl, h.cnt, h.zero, fun _ _ _ => rfl⟩
def kpV (kept : Nat → List Int) : V := .agg 58 (tab 100 fun j => lnV (kept j))
section
variable {a m fr : Nat}
/-- What every line has is kept. -/
theorem keep_loop1 {hp : List Blk} {Fm : Ft} {x : AS} (h : StoQ hp Fm a m fr x) (on : x.M.On) (hn : x.M.n = 100) (kept : Nat → List Int) (v w iv : V) (bo : Blk) (hv : v.locLt 0 = true) (hw : w.locLt 0 = true) (hi : iv.locLt 0 = true) (hbo : blkLt 2 bo = true) :
    rc D 0 (.loop [0, 1, 6, 8, 10, 11, 12, 14] b_steadfastlaw10_ObjectsKeep_1) [(0, v), (1, w), (6, .ptr (.hp m) [] 59), (8, .ptr (.hp a) [] 43), (10, .sl (.loc 0) [] 0 100 (some 100) 24), (11, .bool true), (12, iv), (14, .int .i64 0)] ⟨[.rw (kpV kept), bo], hp⟩ =
      some (.exit 3, [(0, v), (1, w), (6, .ptr (.hp m) [] 59), (8, .ptr (.hp a) [] 43), (10, .sl (.loc 0) [] 0 100 (some 100) 24), (11, .bool true), (12, iv), (14, .int .i64 100), (101, .bool false)], ⟨[.rw (kpV x.M.now), bo], hp⟩) := by
  have hv2 := locLt_mono (v := v) (show 0 ≤ 2 by omega) hv
  have hw2 := locLt_mono (v := w) (show 0 ≤ 2 by omega) hw
  have hi2 := locLt_mono (v := iv) (show 0 ≤ 2 by omega) hi
  refine loop_runs (fun j : Nat => [(0, v), (1, w), (6, .ptr (.hp m) [] 59), (8, .ptr (.hp a) [] 43), (10, .sl (.loc 0) [] 0 100 (some 100) 24), (11, .bool true), (12, iv), (14, .int .i64 j)]) (fun j => ⟨[.rw (kpV fun q => if q < j then x.M.now q else kept q), bo], hp⟩) (fun _ => _) (fun j => 100 - j) (fun j => j ≤ 100) 0 ?_ (by omega) rfl (by simp)
  intro j hj
  by_cases c : j < 100
  · left
    have d1 : (j : Int) < 100 := by omega
    have d2 : (0 : Int) ≤ j := by omega
    have d4 : IntKind.i64.wrap ((j : Int) + 1) = (j : Int) + 1 := i64_id (by omega) (by omega)
    have hl := rf_mp_Load h.mp j
    rw [load_on on (by omega)] at hl
    have g := tab_get (f := fun q => lnV (if q < j then x.M.now q else kept q)) c
    have hset : (tab 100 fun q => lnV (if q < j then x.M.now q else kept q)).set j (lnV (x.M.now j)) = tab 100 fun q => lnV (if q < j + 1 then x.M.now q else kept q) := by
      rw [tab_set]
      apply tab_congr
      intro q _
      by_cases e : q = j
      · subst e; rw [upd_self, if_pos (by omega)]
      · rw [upd_ne e]
        by_cases h2 : q < j
        · rw [if_pos h2, if_pos (by omega)]
        · rw [if_neg h2, if_neg (by omega)]
    refine ⟨j + 1, by omega, by omega, rfl, ?_⟩
    simp only [kpV]
    rw [← hset]
    have hT : ∀ T : List V, T.length = 100 → ∃ y, T[j]? = some y := fun T hT => ⟨_, List.getElem?_eq_getElem (by omega)⟩
    simp only [lnV] at *
    generalize (tab 100 fun q => V.agg 24 ((if q < j then x.M.now q else kept q).map (V.int .u64))) = T at *
    generalize (if j < j then x.M.now j else kept j) = kj at *
    simp only [go_sem, b_steadfastlaw10_ObjectsKeep_1, d1, d2, hl, Int.toNat_natCast, g, d4, hv2, hw2, hi2, hbo]
    simp
  · right
    have : j = 100 := by omega
    subst this
    have e : (tab 100 fun q => lnV (if q < 100 then x.M.now q else kept q)) = tab 100 fun q => lnV (x.M.now q) := tab_congr fun q hq => by rw [if_pos hq]
    simp only [kpV]
    rw [e]
    simp only [go_sem, b_steadfastlaw10_ObjectsKeep_1]
end
end Go.Proofs.YtnffmibpblibdaaDoor
namespace Go.Proofs.YtnffmibpblibdaaDoor
open Go.Ab
section
variable {a m fr : Nat}
theorem keep_loop0 {H : List Blk} {v : V} {l : List Cal} (hl : ∀ o ∈ l, o.Ok) (hv : RS ⟨[], H⟩ 54 v (l.map Cal.val)) (hlt : v.locLt 0 = true) {at' : Int} (h0 : -9223372036854775808 ≤ at') (h1 : at' ≤ 9223372036854775807) : ∀ (n i : Nat) {hp : List Blk} {Fm : Ft} {x : AS} {marked : Bool} {kept : Nat → List Int}, i + n = min l.length 80 → StoQ hp Fm a m fr x → Kp x marked kept i → H <+: hp → Above H.length (StF3 a fr Fm) →
    ∃ hp' Fm' x' marked' kept', rc D 0 (.loop [0, 1, 6, 8, 10, 11, 12] b_steadfastlaw10_ObjectsKeep_0) [(0, v), (1, .int .i64 at'), (6, .ptr (.hp m) [] 59), (8, .ptr (.hp a) [] 43), (10, .sl (.loc 0) [] 0 100 (some 100) 24), (11, .bool marked), (12, .int .i64 i)] ⟨[.rw (kpV kept)], hp⟩ =
      some (.exit 0, [(0, v), (1, .int .i64 at'), (6, .ptr (.hp m) [] 59), (8, .ptr (.hp a) [] 43), (10, .sl (.loc 0) [] 0 100 (some 100) 24), (11, .bool marked'), (12, .int .i64 (min l.length 80 : Nat)), (52, .bool false)], ⟨[.rw (kpV kept')], hp'⟩) ∧ StoQ hp' Fm' a m fr x' ∧ Kp x' marked' kept' (min l.length 80)
  | 0, i, hp, Fm, x, marked, kept, hi, h, hK, _, _ => by
    have : i = min l.length 80 := by omega
    rw [this] at hK
    subst this
    refine ⟨hp, Fm, x, marked, kept, ?_, h, hK⟩
    have hs := hv.slen
    rw [List.length_map] at hs
    rw [rc_loop_o]
    simp only [kpV]
    by_cases c1 : ((min l.length 80 : Nat) : Int) < l.length
    · have c2 : ¬ ((min l.length 80 : Nat) : Int) < 80 := by omega
      generalize min l.length 80 = q at *
      simp only [go_sem, b_steadfastlaw10_ObjectsKeep_0, hs, c1, c2]
    · generalize min l.length 80 = q at *
      simp only [go_sem, b_steadfastlaw10_ObjectsKeep_0, hs, c1]
  | n + 1, i, hp, Fm, x, marked, kept, hi, h, hK, hpre, hab => by
    have hs := hv.slen
    rw [List.length_map] at hs
    have hil : i < l.length := by omega
    have ho := hl _ (getD_mem hil noCal)
    have hg : (l.map Cal.val)[i]? = some (l.getD i noCal).val := get_map hil noCal
    generalize l.getD i noCal = o at *
    have hcnt := hK.cnt
    have hK1 := hK.call o
    have k1 := rf_kind10 o.kind 3 ho.k.1 ho.k.2 (by decide)
    have k2 := rf_kind10 o.id 20 ho.i.1 ho.i.2 (by decide)
    have k3 := rf_kind10 o.word 8 ho.w.1 ho.w.2 (by decide)
    have k4 := rf_kind10 o.word 2 ho.w.1 ho.w.2 (by decide)
    have k5 := rf_kind10 at' 80 h0 h1 (by decide)
    obtain ⟨b0, b1⟩ := kd_range o.kind (n := 3) (by decide)
    obtain ⟨c0, c1⟩ := kd_range o.word (n := 2) (by decide)
    have w1 : IntKind.i64.wrap (1 + kd o.word 2) = 1 + kd o.word 2 := i64_id (by omega) (by omega)
    -- the call
    have hcall : ∃ hp1 Fm1, StoQ hp1 Fm1 a m fr (x.call3 o) ∧ Chg hp hp1 (StF3 a fr Fm) (StF3 a fr Fm1) ∧
        ((kd o.kind 3 = 0 ∧ ∃ e, rf D f_objects_Store_Set [.ptr (.hp a) [] 43, .int .i64 (kd o.id 20), .int .i64 (kd o.word 8), .int .u64 o.v] ⟨[.rw (kpV kept), .rw o.val], hp⟩ = some (.int .i64 e, ⟨[.rw (kpV kept), .rw o.val], hp1⟩)) ∨
         (kd o.kind 3 = 1 ∧ ∃ e e2, rf D f_objects_Store_Make [.ptr (.hp a) [] 43, .int .i64 (1 + kd o.word 2)] ⟨[.rw (kpV kept), .rw o.val], hp⟩ = some (.tup [.int .i64 e, .int .i64 e2], ⟨[.rw (kpV kept), .rw o.val], hp1⟩)) ∨
         (kd o.kind 3 = 2 ∧ ∃ e, rf D f_objects_Store_End [.ptr (.hp a) [] 43, .int .i64 (kd o.id 20)] ⟨[.rw (kpV kept), .rw o.val], hp⟩ = some (.int .i64 e, ⟨[.rw (kpV kept), .rw o.val], hp1⟩))) := by
      unfold AS.call3
      by_cases z0 : kd o.kind 3 = 0
      · rw [if_pos z0]
        obtain ⟨hp1, Fm1, e1, e2, e3⟩ := rf_sp_Set h (by omega) (kd o.id 20) (kd o.word 8) o.v [.rw (kpV kept), .rw o.val]
        exact ⟨hp1, Fm1, e2, e3, .inl ⟨z0, _, e1⟩⟩
      · rw [if_neg z0]
        by_cases z1 : kd o.kind 3 = 1
        · rw [if_pos z1]
          obtain ⟨hp1, Fm1, e1, e2, e3⟩ := rf_sp_Make h (by omega) (1 + kd o.word 2) [.rw (kpV kept), .rw o.val]
          exact ⟨hp1, Fm1, e2, e3, .inr (.inl ⟨z1, _, _, e1⟩)⟩
        · rw [if_neg z1]
          obtain ⟨hp1, Fm1, e1, e2, e3⟩ := rf_sp_End h hK.inv.v (kd o.id 20) [.rw (kpV kept), .rw o.val]
          exact ⟨hp1, Fm1, e2, e3, .inr (.inr ⟨by omega, _, e1⟩)⟩
    obtain ⟨hp1, Fm1, hQ1, hC1, hcase⟩ := hcall
    obtain ⟨p1, p2⟩ := hC1.pre hpre hab
    have d1 : (i : Int) < l.length := by omega
    have d2 : (i : Int) < 80 := by omega
    have d4 : IntKind.i64.wrap ((i : Int) + 1) = ((i + 1 : Nat) : Int) := i64_id (by omega) (by omega)
    have hv1 : RS ⟨[.rw (kpV kept)], hp⟩ 54 v (l.map Cal.val) := hv.more ⟨List.nil_prefix, hpre⟩
    have l1 := locLt_mono (v := v) (show 0 ≤ 1 by omega) hlt
    by_cases hmk : marked = false ∧ (i : Int) = kd at' 80
    · obtain ⟨rfl, hma⟩ := hmk
      have hmk := marks_spec hK1.inv hK1.is
      obtain ⟨hp2, g1, g2, g3⟩ := rf_sp_Mark hQ1 [.rw (kpV kept), .rw o.val]
      rw [hmk.1] at g1 g2
      simp only at g1 g2
      have hK2 := hK1.mark
      obtain ⟨p3, p4⟩ := g3.pre p1 p2
      have hlp := keep_loop1 g2 hK2.on hK2.n kept v (.int .i64 at') (.int .i64 i) (.rw o.val) hlt rfl rfl rfl
      obtain ⟨hp3, Fm3, x3, mk3, kp3, r1, r2, r3⟩ := keep_loop0 hl hv hlt h0 h1 n (i + 1) (by omega) g2 hK2 p3 p4
      refine ⟨hp3, Fm3, x3, mk3, kp3, ?_, r2, r3⟩
      rw [← hma] at k5
      rw [← r1, rc_loop_o]
      clear r1 r2 r3 hK2 hK1 hK g2 hQ1 h hmk
      generalize kd o.kind 3 = z at *
      generalize kd o.id 20 = z2 at *
      generalize kd o.word 8 = z3 at *
      generalize kd o.word 2 = z4 at *
      simp only [Cal.val, kpV] at *
      rcases hcase with ⟨rfl, e, hc⟩ | ⟨rfl, e, e2, hc⟩ | ⟨rfl, e, hc⟩
      · simp only [go_sem, b_steadfastlaw10_ObjectsKeep_0, hs, d1, d2, hv1.sadq hg, hv1.ldq hg, k1, k2, k3, hc, k5, g1, hlp, d4, l1]
      · simp only [go_sem, b_steadfastlaw10_ObjectsKeep_0, hs, d1, d2, hv1.sadq hg, hv1.ldq hg, k1, k4, w1, hc, k5, g1, hlp, d4, l1]
      · simp only [go_sem, b_steadfastlaw10_ObjectsKeep_0, hs, d1, d2, hv1.sadq hg, hv1.ldq hg, k1, k2, hc, k5, g1, hlp, d4, l1]
    · obtain ⟨hp3, Fm3, x3, mk3, kp3, r1, r2, r3⟩ := keep_loop0 hl hv hlt h0 h1 n (i + 1) (by omega) hQ1 hK1 p1 p2
      refine ⟨hp3, Fm3, x3, mk3, kp3, ?_, r2, r3⟩
      rw [← r1, rc_loop_o]
      clear r1 r2 r3 hK1 hK hQ1 h
      generalize kd at' 80 = za at *
      generalize kd o.kind 3 = z at *
      generalize kd o.id 20 = z2 at *
      generalize kd o.word 8 = z3 at *
      generalize kd o.word 2 = z4 at *
      simp only [Cal.val, kpV] at *
      cases marked
      · have hne : ¬ (i : Int) = za := fun e => hmk ⟨rfl, e⟩
        rcases hcase with ⟨rfl, e, hc⟩ | ⟨rfl, e, e2, hc⟩ | ⟨rfl, e, hc⟩
        · simp only [go_sem, b_steadfastlaw10_ObjectsKeep_0, hs, d1, d2, hv1.sadq hg, hv1.ldq hg, k1, k2, k3, hc, k5, hne, d4, l1]
        · simp only [go_sem, b_steadfastlaw10_ObjectsKeep_0, hs, d1, d2, hv1.sadq hg, hv1.ldq hg, k1, k4, w1, hc, k5, hne, d4, l1]
        · simp only [go_sem, b_steadfastlaw10_ObjectsKeep_0, hs, d1, d2, hv1.sadq hg, hv1.ldq hg, k1, k2, hc, k5, hne, d4, l1]
      · rcases hcase with ⟨rfl, e, hc⟩ | ⟨rfl, e, e2, hc⟩ | ⟨rfl, e, hc⟩
        · simp only [go_sem, b_steadfastlaw10_ObjectsKeep_0, hs, d1, d2, hv1.sadq hg, hv1.ldq hg, k1, k2, k3, hc, d4, l1]
        · simp only [go_sem, b_steadfastlaw10_ObjectsKeep_0, hs, d1, d2, hv1.sadq hg, hv1.ldq hg, k1, k4, w1, hc, d4, l1]
        · simp only [go_sem, b_steadfastlaw10_ObjectsKeep_0, hs, d1, d2, hv1.sadq hg, hv1.ldq hg, k1, k2, hc, d4, l1]
end
end Go.Proofs.YtnffmibpblibdaaDoor
namespace Go.Proofs.YtnffmibpblibdaaDoor
open Go.Ab
section
variable {a m fr : Nat}
theorem veqs_u (l : List Int) : veqs (l.map (V.int .u64)) (l.map (V.int .u64)) = some true := veqs_map (fun a => by simp [veq]) l
theorem keep_loop2 {hp : List Blk} {Fm : Ft} {x : AS} {kept : Nat → List Int} {i0 : Nat} (h : StoQ hp Fm a m fr x) {marked : Bool} (hK : Kp x marked kept i0) (dv : List V) :
    rc D 0 (.loop [6, 10, 15, 17, 18, 19] b_steadfastlaw10_ObjectsKeep_2) [(6, .ptr (.hp m) [] 59), (10, .sl (.loc 0) [] 0 100 (some 100) 24), (15, .ptr (.loc 1) [] 48), (17, .ptr (.loc 3) [] 48), (18, .bool marked), (19, .int .i64 0)] ⟨[.rw (kpV kept), .rw (tabV x.base), .rw (.agg 50 dv), .rw (tabV (if marked then x.mark else fun _ => noEnt))], hp⟩ =
      some (.exit 5, [(6, .ptr (.hp m) [] 59), (10, .sl (.loc 0) [] 0 100 (some 100) 24), (15, .ptr (.loc 1) [] 48), (17, .ptr (.loc 3) [] 48), (18, .bool marked), (19, .int .i64 49), (127, .bool false)], ⟨[.rw (kpV kept), .rw (tabV x.base), .rw (.agg 50 dv), .rw (tabV (if marked then x.mark else fun _ => noEnt))], hp⟩) := by
  generalize hT : (if marked then x.mark else fun _ => noEnt) = tm
  refine loop_runs (fun j : Nat => [(6, .ptr (.hp m) [] 59), (10, .sl (.loc 0) [] 0 100 (some 100) 24), (15, .ptr (.loc 1) [] 48), (17, .ptr (.loc 3) [] 48), (18, .bool marked), (19, .int .i64 j)]) (fun j => ⟨[.rw (kpV kept), .rw (tabV x.base), .rw (.agg 50 dv), .rw (tabV tm)], hp⟩) (fun _ => _) (fun j => 49 - j) (fun j => j ≤ 49) 0 ?_ (by omega) rfl rfl
  intro j hj
  by_cases c : j < 49
  · left
    have d1 : (j : Int) < 49 := by omega
    have d2 : (0 : Int) ≤ j := by omega
    have d4 : IntKind.i64.wrap ((j : Int) + 1) = (j : Int) + 1 := i64_id (by omega) (by omega)
    have ld1 := rf_mp_Load h.mp (x.base j).line
    have ld2 := rf_mp_Load h.mp (tm j).line
    have g1 := tab_get (f := fun i => (x.base i).v) c
    have g2 := tab_get (f := fun i => (tm i).v) c
    have hl := hK.inv.ok.l
    have hn := hK.n
    have ez : zl.map (V.int .u64) = List.replicate 8 (.int .u64 0) := rfl
    have hvz : veqs (List.replicate 8 (V.int .u64 0)) (List.replicate 8 (V.int .u64 0)) = some true := rfl
    have hb : (x.base j).kind ≠ 0 → (x.M.load (x.base j).line).1 = zl := fun hk => by
      have hr := hK.inv.ok.b.inn j c hk
      obtain ⟨q, hq⟩ : ∃ q : Nat, (x.base j).line = q := ⟨(x.base j).line.toNat, by omega⟩
      rw [hq, load_on hK.on (by omega)]
      exact hK.zero q (namedL_iff.2 ⟨j, c, hk, hq⟩)
    have hm : marked = true → (tm j).kind ≠ 0 → ∃ q : Nat, q < 100 ∧ (tm j).line = q ∧ (x.M.load (tm j).line).1 = kept q := fun hmk hk => by
      have ht : tm = x.mark := by rw [← hT, hmk]; rfl
      rw [ht] at hk ⊢
      have hr := hK.inv.ok.k.inn j c hk
      obtain ⟨q, hq⟩ : ∃ q : Nat, (x.mark j).line = q := ⟨(x.mark j).line.toNat, by omega⟩
      refine ⟨q, by omega, hq, ?_⟩
      rw [hq, load_on hK.on (by omega)]
      exact hK.keep hmk q (namedL_iff.2 ⟨j, c, hk, hq⟩)
    refine ⟨j + 1, by omega, by omega, rfl, ?_⟩
    simp only [kpV, tabV, Ent.v, lnV] at *
    generalize tab 49 (fun i => V.agg 42 [.int .i64 (x.base i).kind, .int .i64 (x.base i).ver, .int .i64 (x.base i).line]) = T1 at *
    generalize tab 49 (fun i => V.agg 42 [.int .i64 (tm i).kind, .int .i64 (tm i).ver, .int .i64 (tm i).line]) = T2 at *
    generalize x.M.load (x.base j).line = L1 at *
    generalize x.M.load (tm j).line = L2 at *
    have hkq : ∀ q, q < 100 → (tab 100 fun j => V.agg 24 ((kept j).map (V.int .u64)))[q]? = some (.agg 24 ((kept q).map (.int .u64))) := fun q hq => tab_get hq
    generalize (tab 100 fun j => V.agg 24 ((kept j).map (V.int .u64))) = T3 at *
    by_cases k1 : (x.base j).kind = 0
    · simp only [k1] at g1
      cases marked
      · simp only [go_sem, b_steadfastlaw10_ObjectsKeep_2, d1, d2, Int.toNat_natCast, g1, ld1, g2, ld2, d4]
        rfl
      · by_cases k2 : (tm j).kind = 0
        · simp only [k2] at g2
          simp only [go_sem, b_steadfastlaw10_ObjectsKeep_2, d1, d2, Int.toNat_natCast, g1, ld1, g2, ld2, d4]
          rfl
        · obtain ⟨q, hq, hq2, hq3⟩ := hm rfl k2
          have hvq := veqs_u (kept q)
          have e1 : (q : Int) < 100 := by omega
          have e2 : (0 : Int) ≤ q := by omega
          have hkq := hkq q hq
          rw [hq2] at g2 ld2
          rw [hq3] at ld2
          simp only [go_sem, b_steadfastlaw10_ObjectsKeep_2, d1, d2, Int.toNat_natCast, g1, ld1, g2, ld2, k2, e1, e2, hkq, hvq, d4, Nat.zero_add]
          rfl
    · have hb := hb k1
      rw [hb, ez] at ld1
      cases marked
      · simp only [go_sem, b_steadfastlaw10_ObjectsKeep_2, d1, d2, Int.toNat_natCast, g1, k1, hvz, ld1, g2, ld2, d4]
        rfl
      · by_cases k2 : (tm j).kind = 0
        · simp only [k2] at g2
          simp only [go_sem, b_steadfastlaw10_ObjectsKeep_2, d1, d2, Int.toNat_natCast, g1, k1, hvz, ld1, g2, ld2, d4]
          rfl
        · obtain ⟨q, hq, hq2, hq3⟩ := hm rfl k2
          have hvq := veqs_u (kept q)
          have e1 : (q : Int) < 100 := by omega
          have e2 : (0 : Int) ≤ q := by omega
          have hkq := hkq q hq
          rw [hq2] at g2 ld2
          rw [hq3] at ld2
          simp only [go_sem, b_steadfastlaw10_ObjectsKeep_2, d1, d2, Int.toNat_natCast, g1, k1, hvz, ld1, g2, ld2, k2, e1, e2, hkq, hvq, d4, Nat.zero_add]
          rfl
  · right
    have : j = 49 := by omega
    subst this
    simp only [kpV, tabV]
    simp only [go_sem, b_steadfastlaw10_ObjectsKeep_2]
end
end Go.Proofs.YtnffmibpblibdaaDoor
namespace Go.Proofs.YtnffmibpblibdaaDoor
open Go.Ab
theorem law_ObjectsKeep : ∀ hp vs, G <+: hp → Sh.FitsL hp [(.sl 56 (.st 54 [(.int .i64), (.int .i64), (.int .i64), (.int .u64)])), (.int .i64)] vs → ∃ s', rf D f_steadfastlaw10_ObjectsKeep vs ⟨[], hp⟩ = some (.bool true, s') := by
  intro hp vs hpre hf
  obtain ⟨v, v1, rfl, hv, h1⟩ := fits2 hf
  obtain ⟨at', rfl, at0, at1⟩ := i_of h1
  obtain ⟨l0, hrs, hlt, hlen, hfit⟩ := rs_of_fits hv
  obtain ⟨l, rfl, hl⟩ := map_of (f := Cal.val) (fun x hx => cal_of (hfit x hx))
  have hG := glob_of hpre
  obtain ⟨more, hsh⟩ := rf_shown10 (s := ⟨[], hp⟩) hG
  have hG1 : (hp ++ more)[0]? = some (.ro globV_0) := by rw [List.getElem?_append_left (lt_of_get hG)]; exact hG
  have hrs1 : RS ⟨[], hp ++ more⟩ 54 v (l.map Cal.val) := hrs.more ⟨List.prefix_rfl, List.prefix_append _ _⟩
  simp only at hsh
  generalize hp ++ more = H at *
  obtain ⟨hp1, hp2, a, A', Fm, fr, e1, hG2, e2, hQ, hI, two, hown, hf1, hf2, hst, p1, p2⟩ := made10 [] [] hG1 (c := 12) (n := 100) (by decide) (by decide) (by decide)
  have htab := fun s => rf_table10 12 (by decide) s
  rw [show ((12 : Nat) : Int) = 12 from rfl] at htab
  rw [show ((100 : Nat) : Int) = 100 from rfl] at e1
  have hdir := rf_dir10 (s := ⟨[], hp1⟩) hG2
  generalize hx0 : as0 (am0 100 fun _ => zl) A' (tbl10 12) dir10 = x0 at *
  have hK : Kp x0 false (fun _ => zl) 0 := by
    refine ⟨hI, by rw [← hx0]; exact am0_on _ _, by rw [← hx0]; rfl, by rw [← hx0]; rfl, by rw [← hx0]; rfl, by rw [← hx0]; simp [as0, am0], fun j _ => by rw [← hx0]; rfl, fun h => by cases h⟩
  obtain ⟨hp3, Fm3, x3, mk3, kp3, r1, r2, r3⟩ := keep_loop0 (m := H.length + 1) hl hrs1 hlt at0 at1 (min l.length 80) 0 (by omega) hQ hK p1 p2
  rw [show ((0 : Nat) : Int) = 0 from rfl] at r1
  have hbase := rf_sp_Base r2
  have hmarked := rf_sp_Marked r2
  rw [r3.is] at hmarked
  have hlp := keep_loop2 r2 r3 (tab 8 fun i => V.int .i64 (x3.dir i))
  have hkp : V.agg 58 (List.replicate 100 (.agg 24 (List.replicate 8 (.int .u64 0)))) = kpV fun _ => zl := by unfold kpV; rw [tab_rep]; rfl
  have hm : (100 : Int) ≤ (most : Nat) := by decide
  refine ⟨⟨[], hp3⟩, ?_⟩
  clear hI hQ hK hst two r2 r3 hfit
  have e100 : (100 : Int).toNat = 100 := rfl
  simp only [tabV, Ent.v, dirV] at *
  rw [rf_o D_steadfastlaw10_ObjectsKeep rfl]
  simp only [go_sem, hsh, e1, htab, hdir, e2, hm, e100, hkp, r1]
  simp only [go_sem, hbase, hmarked, hlp]
end Go.Proofs.YtnffmibpblibdaaDoor
