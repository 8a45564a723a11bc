/-
  YtnffmibpblibdaaDoorT4: what functions of the program compute (LobB, LobC).
-/
import Derived.Test.YtnffmibpblibdaaDoorT3
set_option maxRecDepth 100000
namespace Go.Proofs.YtnffmibpblibdaaDoor
open Go.Ab
def uV (x : Int) : V := .int .u64 x
theorem left_pos {A : AF} (hA : A.Ok) {j : Nat} (h1 : A.f ≤ j) (h2 : j < A.l) (h3 : A.st j = 0) : A.left ≠ 0 := fun h => by
  have := AF.left_zero.1 h
  exact first_none hA this j h1 h2 h3
/-- The words of a line, behind the first i. -/
def wantL (l : List Int) : Nat → List Int
  | 0 => zl
  | i + 1 => (wantL l i).set (i % 8) (l.getD i 0)
theorem wantL_len (l : List Int) : ∀ i, (wantL l i).length = 8
  | 0 => rfl
  | i + 1 => by simp only [wantL, List.length_set]; exact wantL_len l i
/-- Where the law's loop stands. -/
structure Onc (x0 x : AS) (k : Nat) (i : Nat) (l : List Int) : Prop where
  inv : Inv x
  on : x.M.On
  kind : (x.work k).kind ≠ 0
  is : x.is = false
  now : x.M.now (x.work k).line.toNat = wantL l i
  left : (i = 0 ∧ x = x0) ∨ (x.own k = true ∧ x.A.left + 1 = x0.A.left ∧ ∃ q, x.A = x0.A.put q 1)
  cnt : x.M.count ≤ 8 * i
theorem rem8 (i : Nat) : (i : Int).tmod 8 = ((i % 8 : Nat) : Int) := by rw [show (8 : Int) = ((8 : Nat) : Int) by rfl, ← Int.ofNat_tmod]
theorem once_loop {H : List Blk} {a m fr k : Nat} {x0 : AS} (hk : k < 49) (h1 : x0.A.left ≠ 0) (hown0 : x0.own k = false) (hb : x0.A.left ≤ 1024) {v : V} {l : List Int} (hv : RS ⟨[], H⟩ 18 v (l.map uV)) (hlt : v.locLt 0 = true) : ∀ (n i : Nat) {hp : List Blk} {Fm : Ft} {x : AS}, i + n = min l.length 20 → StoQ hp Fm a m fr x → Onc x0 x k i l → H <+: hp → Above H.length (StF3 a fr Fm) →
    ∃ hp' Fm' x', rc D 0 (.loop [1, 8, 10, 11, 12, 13] b_steadfastlaw10_ObjectsOnce_0) [(1, v), (8, .ptr (.hp a) [] 43), (10, .int .i64 k), (11, .int .i64 x0.A.left), (12, .ptr (.loc 0) [] 24), (13, .int .i64 i)] ⟨[.rw (lnV (wantL l i))], hp⟩ =
      some (.exit 0, [(1, v), (8, .ptr (.hp a) [] 43), (10, .int .i64 k), (11, .int .i64 x0.A.left), (12, .ptr (.loc 0) [] 24), (13, .int .i64 (min l.length 20 : Nat)), (52, .bool false)], ⟨[.rw (lnV (wantL l (min l.length 20)))], hp'⟩) ∧ StoQ hp' Fm' a m fr x' ∧ Onc x0 x' k (min l.length 20) l
  | 0, i, hp, Fm, x, hi, h, ho, _, _ => by
    have : i = min l.length 20 := by omega
    rw [this] at ho
    subst this
    refine ⟨hp, Fm, x, ?_, h, ho⟩
    have hs := hv.slen
    rw [List.length_map] at hs
    rw [rc_loop_o]
    simp only [lnV]
    by_cases c1 : ((min l.length 20 : Nat) : Int) < l.length
    · have c2 : ¬ ((min l.length 20 : Nat) : Int) < 20 := by omega
      generalize min l.length 20 = q at *
      simp only [go_sem, b_steadfastlaw10_ObjectsOnce_0, hs, c1, c2]
    · generalize min l.length 20 = q at *
      simp only [go_sem, b_steadfastlaw10_ObjectsOnce_0, hs, c1]
  | n + 1, i, hp, Fm, x, hi, h, ho, hpre, hab => by
    have hs := hv.slen
    rw [List.length_map] at hs
    have hcnt := ho.cnt
    have hset := set_spec ho.inv ho.on hk ho.kind (show i % 8 < 8 by omega) (l.getD i 0)
    obtain ⟨hp1, Fm1, e1, e2, e3⟩ := rf_sp_Set h (by omega) k (i % 8 : Nat) (l.getD i 0) [.rw (lnV (wantL l i))]
    obtain ⟨p1, p2⟩ := e3.pre hpre hab
    have hcn := AS.set_count (x := x) k (i % 8 : Nat) (l.getD i 0)
    rcases hset with ⟨o1, o2, _⟩ | ⟨y, hy, hS⟩
    · rcases ho.left with ⟨_, rfl⟩ | ⟨o3, _⟩
      · exact absurd o2 h1
      · rw [o3] at o1; cases o1
    · rw [hy] at e1 e2 hcn
      simp only at e1 e2 hcn
      have hleft : y.A.left + 1 = x0.A.left ∧ ∃ q, y.A = x0.A.put q 1 := by
        rcases ho.left with ⟨_, rfl⟩ | ⟨o3, o4, o5⟩
        · by_cases o : x.own k = true
          · rw [hown0] at o; cases o
          · have o : x.own k = false := by simpa using o
            obtain ⟨q, _, _, _, _, hq⟩ := hS.more o
            exact ⟨hS.left o, q, hq⟩
        · rw [(hS.same o3).1]; exact ⟨o4, o5⟩
      have hO : Onc x0 y k (i + 1) l := by
        refine ⟨hS.inv, hS.on, by rw [hS.kv.1]; exact ho.kind, by rw [hS.is]; exact ho.is, by rw [hS.now, ho.now]; rfl, .inr ⟨hS.own, hleft.1, hleft.2⟩, by omega⟩
      obtain ⟨hp2, Fm2, x2, q1, q2, q3⟩ := once_loop hk h1 hown0 hb hv hlt n (i + 1) (by omega) e2 hO p1 p2
      refine ⟨hp2, Fm2, x2, ?_, q2, q3⟩
      have hleft2 := rf_sp_Left e2
      have w0 : IntKind.i64.wrap ((x0.A.left : Int) - 1) = (x0.A.left : Int) - 1 := i64_id (by omega) (by omega)
      have w1 : ((y.A.left : Nat) : Int) = (x0.A.left : Int) - 1 := by omega
      have d1 : (i : Int) < l.length := by omega
      have d2 : (i : Int) < 20 := by omega
      have d4 : IntKind.i64.wrap ((i : Int) + 1) = ((i + 1 : Nat) : Int) := i64_id (by omega) (by omega)
      have r8 := rem8 i
      have d5 : ((i % 8 : Nat) : Int) < 8 := by omega
      have d6 : (0 : Int) ≤ ((i % 8 : Nat) : Int) := by omega
      have hg : (l.map uV)[i]? = some (.int .u64 (l.getD i 0)) := get_map (f := uV) (by omega) 0
      have gw := get_map (f := V.int .u64) (l := wantL l i) (i := i % 8) (by rw [wantL_len]; omega) 0
      have hv1 : ∀ X, RS ⟨X, hp⟩ 18 v (l.map uV) := fun X => hv.more ⟨List.nil_prefix, hpre⟩
      have hv2 : ∀ X, RS ⟨X, hp1⟩ 18 v (l.map uV) := fun X => hv.more ⟨List.nil_prefix, p1⟩
      have hlt1 := locLt_mono (v := v) (show 0 ≤ 1 by omega) hlt
      rw [← q1, rc_loop_o]
      simp only [wantL, lnV, List.map_set]
      simp only [lnV] at e1
      rw [w1] at hleft2
      generalize l.getD i 0 = wd at *
      generalize (wantL l i) = W at *
      generalize hr : i % 8 = r at *
      have hv1 := hv1 [.rw (.agg 24 (W.map (V.int .u64)))]
      have hv2 := hv2 [.rw (.agg 24 (W.map (V.int .u64)))]
      simp only [go_sem, b_steadfastlaw10_ObjectsOnce_0, hs, d1, d2, r8, hv1.sadq hg, hv1.ldq hg, e1, hleft2, w0]
      simp only [go_sem, hv2.sadq hg, hv2.ldq hg, r8, d4, d5, d6, hlt1, hlt, Int.toNat_natCast, gw]
end Go.Proofs.YtnffmibpblibdaaDoor
namespace Go.Proofs.YtnffmibpblibdaaDoor
open Go.Ab
theorem u_of {hp : List Blk} {v : V} (h : (Sh.int .u64).Fits hp v) : ∃ x : Int, v = uV x ∧ 0 ≤ x ∧ x ≤ 18446744073709551615 := by
  obtain ⟨n, rfl, h1, h2⟩ := h
  exact ⟨n, rfl, h1, h2⟩
theorem glob_of {hp : List Blk} (h : G <+: hp) : hp[0]? = some (.ro globV_0) := by
  obtain ⟨t, rfl⟩ := h
  rfl
theorem veqs_map {f : Int → V} (hf : ∀ a, veq (f a) (f a) = some true) : ∀ l : List Int, veqs (l.map f) (l.map f) = some true
  | [] => rfl
  | a :: l => by simp only [List.map_cons, veqs, hf, veqs_map hf l]
theorem law_ObjectsOnce : ∀ hp vs, G <+: hp → Sh.FitsL hp [(.int .i64), (.sl 52 (.int .u64))] vs → ∃ s', rf D f_steadfastlaw10_ObjectsOnce vs ⟨[], hp⟩ = some (.bool true, s') := by
  intro hp vs hpre hf
  obtain ⟨v0, v, rfl, ⟨id, rfl, hid0, hid1⟩, hv⟩ := fits2 hf
  obtain ⟨l0, hrs, hlt, hlen, hfit⟩ := rs_of_fits hv
  obtain ⟨l, rfl, hl⟩ := map_of (f := uV) (fun x hx => u_of (hfit x hx))
  have hG := glob_of hpre
  obtain ⟨more, hsh⟩ := rf_shown10 (s := ⟨[], hp⟩) hG
  have hG1 : (hp ++ more)[0]? = some (.ro globV_0) := by rw [List.getElem?_append_left (lt_of_get hG)]; exact hG
  have hrs1 : RS ⟨[], hp ++ more⟩ 18 v (l.map uV) := hrs.more ⟨List.prefix_rfl, List.prefix_append _ _⟩
  simp only at hsh
  generalize hp ++ more = H at *
  obtain ⟨hp1, hp2, a, A', Fm, fr, e1, hG2, e2, hQ, hI, two, hown, hf1, hf2, hst, p1, p2⟩ := made10 [] [] hG1 (c := 12) (n := 100) (by decide) (by decide) (by decide)
  have hkd := rf_kind10 id 12 hid0 hid1 (by decide)
  obtain ⟨k0, k1⟩ := kd_range id (n := 12) (by decide)
  generalize kd id 12 = kk at *
  obtain ⟨k, rfl⟩ : ∃ k : Nat, kk = k := ⟨kk.toNat, by omega⟩
  have hk : k < 12 := by omega
  have htab := fun s => rf_table10 12 (by decide) s
  rw [show ((12 : Nat) : Int) = 12 from rfl] at htab
  rw [show ((100 : Nat) : Int) = 100 from rfl] at e1
  have hdir := rf_dir10 (s := ⟨[], hp1⟩) hG2
  generalize hx0 : as0 (am0 100 fun _ => zl) A' (tbl10 12) dir10 = x0 at *
  have hA : x0.A = A' := by rw [← hx0]; rfl
  have free : ∀ j, 32 ≤ j → j < 100 → x0.A.f ≤ j ∧ j < x0.A.l ∧ x0.A.st j = 0 := fun j h1 h2 => by
    rw [hA, hf1, hf2, hst]
    exact ⟨by omega, h2, if_neg (by omega)⟩
  have hl0 : x0.A.left ≠ 0 := by
    obtain ⟨h1, h2, h3⟩ := free 50 (by omega) (by omega)
    exact left_pos hI.ok.A h1 h2 h3
  have hb : x0.A.left ≤ 1024 := by
    have := AF.cnt_le (A := x0.A) (x0.A.l - x0.A.f) x0.A.f
    have := hI.ok.A.l1
    unfold AF.left; omega
  have hkind : (x0.work k).kind ≠ 0 := by rw [← hx0]; exact tbl10_kind.2 hk
  have hO : Onc x0 x0 k 0 l := ⟨hI, by rw [← hx0]; exact am0_on _ _, hkind, by rw [← hx0]; rfl, by rw [← hx0]; rfl, .inl ⟨rfl, rfl⟩, by rw [← hx0]; simp [as0, am0]⟩
  have hleft0 := rf_sp_Left hQ
  obtain ⟨hp3, Fm3, x, q1, q2, q3⟩ := once_loop (by omega) hl0 (hown k hk) hb hrs1 hlt (min l.length 20) 0 (by omega) hQ hO p1 p2
  -- behind the loop
  obtain ⟨q, hq, hq1, hq2, hq3⟩ := q3.inv.ln (i := k) (by omega) q3.kind
  have hget := rf_sp_Get q2 k
  have hgv : x.get k = (⟨(x.work k).kind, (x.work k).ver, wantL l (min l.length 20)⟩, 0) := by
    have hE : gE x.work k = 0 := by unfold gE; rw [if_neg (by omega), Int.toNat_natCast, if_neg q3.kind]
    unfold AS.get
    rw [if_neg (by simp [hE]), Int.toNat_natCast, hq, load_on q3.on hq2]
    have := q3.now
    rw [hq, Int.toNat_natCast] at this
    simp [this]
  rw [hgv] at hget
  have htbl := rf_sp_Table q2
  obtain ⟨hp4, w1, w2, w3⟩ := rf_sp_Mark q2 [.rw (lnV (wantL l (min l.length 20))), .rw (Obj.v ⟨(x.work k).kind, (x.work k).ver, wantL l (min l.length 20)⟩), .rw (tabV x.work)]
  have hmk : x.marks = ({ x with mark := x.work, is := true }, 0) := by unfold AS.marks; rw [if_neg (by simp [q3.is])]
  rw [hmk] at w1 w2
  simp only at w1 w2
  have hmI : Inv { x with mark := x.work, is := true } := by
    have hshm : ∀ j : Nat, AS.sh { x with mark := x.work, is := true } j = (namedL x.base j || namedL x.work j) := fun j => by rw [sh_iff w2.ok]; rfl
    refine ⟨w2.ok, q3.inv.v, q3.inv.w1, fun j hj => ?_, fun i j hi hj hne h1 h2 h3 => ?_⟩
    · rw [hshm, Bool.or_eq_true] at hj
      rcases hj with hj | hj
      · exact q3.inv.s1 j (by rw [sh_iff q3.inv.ok, hj]; rfl)
      · exact q3.inv.w1 j hj
    · obtain ⟨q', hq', _⟩ := q3.inv.ln hi h1
      show (!AS.sh { x with mark := x.work, is := true } (x.work i).line.toNat) = false
      rw [hshm, namedL_iff.2 ⟨i, hi, h1, by rw [hq']; rfl⟩]
      simp
  have hmo : AS.own { x with mark := x.work, is := true } k = false := by
    have hshm : ∀ j : Nat, AS.sh { x with mark := x.work, is := true } j = (namedL x.base j || namedL x.work j) := fun j => by rw [sh_iff w2.ok]; rfl
    show (!AS.sh { x with mark := x.work, is := true } (x.work k).line.toNat) = false
    rw [hshm, namedL_iff.2 ⟨k, by omega, q3.kind, by rw [hq]; rfl⟩]
    simp
  have hleft : x.A.left ≠ 0 := by
    rcases q3.left with ⟨_, e⟩ | ⟨_, _, q', e⟩
    · rw [e]; exact hl0
    · have hfr : ∀ j, j ≠ q' → 32 ≤ j → j < 100 → x.A.left ≠ 0 := fun j hj h1 h2 => by
        obtain ⟨f1, f2, f3⟩ := free j h1 h2
        refine left_pos q3.inv.ok.A (j := j) ?_ ?_ ?_
        · rw [e]; exact f1
        · rw [e]; exact f2
        · rw [e]; simp only [AF.put]; rw [upd_ne hj]; exact f3
      by_cases hq5 : q' = 50
      · exact hfr 51 (by omega) (by omega) (by omega)
      · exact hfr 50 (by omega) (by omega) (by omega)
  have hcnt := q3.cnt
  obtain ⟨hp5, Fm5, z1, z2, z3⟩ := rf_sp_Set w2 (by simp only; omega) k 0 5 [.rw (lnV (wantL l (min l.length 20))), .rw (Obj.v ⟨(x.work k).kind, (x.work k).ver, wantL l (min l.length 20)⟩), .rw (tabV x.work)]
  rcases set_spec hmI q3.on (show k < 49 by omega) q3.kind (show 0 < 8 by decide) 5 with ⟨_, o2, _⟩ | ⟨y, hy, hS⟩
  · exact absurd o2 hleft
  · obtain ⟨k', _, _, hk3, hk4, _⟩ := hS.more hmo
    have hy : AS.set { x with mark := x.work, is := true } k 0 5 = (y, 0) := hy
    rw [hy] at z1 z2
    simp only at z1 z2
    have htbl2 := rf_sp_Table z2
    have hne : ¬ (x.work k).line = (y.work k).line := by
      rw [hq, hk4]
      intro e
      have : q = k' := by omega
      subst this
      rw [show AS.A { x with mark := x.work, is := true } = x.A from rfl] at hk3
      omega
    have g1 := tab_get (f := fun i => (x.work i).v) (show k < 49 by omega)
    have g2 := tab_get (f := fun i => (y.work i).v) (show k < 49 by omega)
    have d1 : (k : Int) < 49 := by omega
    have d2 : (0 : Int) ≤ k := by omega
    have hve : ∀ W : List Int, veqs (W.map (V.int .u64)) (W.map (V.int .u64)) = some true := veqs_map fun a => by simp [veq]
    have ez : V.agg 24 (List.replicate 8 (.int .u64 0)) = lnV (wantL l 0) := rfl
    rw [show ((0 : Nat) : Int) = 0 from rfl] at q1
    refine ⟨⟨[], hp5⟩, ?_⟩
    clear hI hO hgv hfit hx0 hst free hmI hS
    generalize hW : wantL l (min l.length 20) = W at *
    simp only [tabV, Ent.v, lnV, Obj.v] at *
    rw [rf_o D_steadfastlaw10_ObjectsOnce rfl]
    simp only [go_sem, hsh, e1, htab, hdir, e2, hkd, hleft0, ez]
    simp only [go_sem, q1, hget, htbl, w1, z1, htbl2]
    simp only [go_sem, hve, d1, d2, Int.toNat_natCast, g1, g2, hne]
end Go.Proofs.YtnffmibpblibdaaDoor
