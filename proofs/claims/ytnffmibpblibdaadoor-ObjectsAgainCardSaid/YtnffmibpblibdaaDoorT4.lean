/-
  YtnffmibpblibdaaDoorT4: what functions of the program compute (LobG).
-/
import Derived.Test.YtnffmibpblibdaaDoorT3
set_option maxRecDepth 100000
namespace Go.Proofs.YtnffmibpblibdaaDoor
open Go.Ab
/-- A capability's word, of the object 0. -/
def w0 (k i : Int) : Int := k + i * 16777216
theorem cap_w0 {k i : Int} (h1 : 1 ≤ k) (h2 : k ≤ 4) (h3 : 0 ≤ i) (h4 : i ≤ 16777215) : capOf (w0 k i) = ⟨k, 0, 0, i, 0⟩ := by
  unfold capOf w0
  simp only [Cap.mk.injEq]
  omega
theorem may_w0 {k i : Int} (h1 : 1 ≤ k) (h2 : k ≤ 4) (h3 : 0 ≤ i) (h4 : i ≤ 16777215) : (capOf (w0 k i)).may = true := by
  rw [cap_w0 h1 h2 h3 h4]
  exact (may_iff _).2 ⟨by simp only; omega, by simp, by simp, by simp only; omega, by simp, by simp only; omega⟩
theorem word_w0 {k i : Int} (h1 : 1 ≤ k) (h2 : k ≤ 4) (h3 : 0 ≤ i) (h4 : i ≤ 16777215) : capWord ⟨k, 0, 0, i, 0⟩ = w0 k i ∧ capE ⟨k, 0, 0, i, 0⟩ = 0 := by
  have h := may_w0 h1 h2 h3 h4
  rw [cap_w0 h1 h2 h3 h4] at h
  unfold capWord capE
  rw [h]
  simp [Cap.word, w0]
theorem nm_w0 {t : Nat → Ent} {k i : Int} (h1 : 1 ≤ k) (h2 : k ≤ 4) (h3 : 0 ≤ i) (h4 : i ≤ 16777215) : nmE t (w0 k i) = if i ≠ (t 0).ver then 33 else if (t 0).kind = 0 then 30 else if k ≠ (t 0).kind then 31 else 0 := by
  have h := may_w0 h1 h2 h3 h4
  have hc : capsOf (w0 k i) = ⟨k, 0, 0, i, 0⟩ := by unfold capsOf; rw [if_pos h, cap_w0 h1 h2 h3 h4]
  unfold nmE entryNames
  rw [hc, h]
  have : ¬ 4 < k := by omega
  simp [this]
theorem nm_0 {t : Nat → Ent} : nmE t 0 = 31 := nmE_no (by decide)
structure Agn (x0 x : AS) (i : Nat) : Prop where
  inv : Inv x
  on : x.M.On
  none : ∀ j, (x.work j).kind = 0
  ver : (x.work 0).ver = i
  st : ∀ j, x.A.st j = x0.A.st j
  fl : x.A.f = x0.A.f ∧ x.A.l = x0.A.l
  cnt : x.M.count ≤ 16 * i
def old0 (k : Int) : Nat → Int
  | 0 => 0
  | i + 1 => w0 k i
theorem old0_range {k : Int} (h1 : 1 ≤ k) (h2 : k ≤ 4) {i : Nat} (hi : i ≤ 100) : 0 ≤ old0 k i ∧ old0 k i ≤ 18446744073709551615 := by
  cases i with
  | zero => simp [old0]
  | succ i => simp only [old0, w0]; omega
section
variable {a m fr : Nat}
theorem agn_loop {x0 : AS} (hfree : ∃ j, x0.A.f ≤ j ∧ j < x0.A.l ∧ x0.A.st j = 0) {k : Int} (hk1 : 1 ≤ k) (hk2 : k ≤ 4) (hko : kindOk k) {ln : Int} (h0 : -9223372036854775808 ≤ ln) (h1 : ln ≤ 9223372036854775807) (b : Blk) (hb : blkLt 1 b = true) {N : Nat} (hN : kd ln 21 = N) : ∀ (n i : Nat) {hp : List Blk} {Fm : Ft} {x : AS}, i + n = N → StoQ hp Fm a m fr x → Agn x0 x i →
    ∃ hp' , rc D 0 (.loop [1, 8, 10, 11, 12] b_steadfastlaw10_ObjectsAgain_0) [(1, .int .i64 ln), (8, .ptr (.hp a) [] 43), (10, .int .i64 k), (11, .int .u64 (old0 k i)), (12, .int .i64 i)] ⟨[b], hp⟩ =
      some (.exit 0, [(1, .int .i64 ln), (8, .ptr (.hp a) [] 43), (10, .int .i64 k), (11, .int .u64 (old0 k N)), (12, .int .i64 N), (51, .bool false)], ⟨[b], hp'⟩)
  | 0, i, hp, Fm, x, hi, h, hA => by
    have : i = N := by omega
    subst this
    refine ⟨hp, ?_⟩
    have hk := rf_kind10 ln 21 h0 h1 (by decide)
    rw [hN] at hk
    have d1 : ¬ (i : Int) < i := by omega
    generalize old0 k i = o at *
    rw [rc_loop_o]
    simp only [go_sem, b_steadfastlaw10_ObjectsAgain_0, hk, d1]
  | n + 1, i, hp, Fm, x, hi, h, hA => by
    have hNl : N < 21 := by have := (kd_range ln (n := 21) (by decide)).2; omega
    have hk := rf_kind10 ln 21 h0 h1 (by decide)
    rw [hN] at hk
    have hcnt := hA.cnt
    have hcs1 := AS.make_count (x := x) k
    obtain ⟨jf, f1, f2, f3⟩ := hfree
    have hl0 : x.A.left ≠ 0 := left_pos hA.inv.ok.A (by rw [hA.fl.1]; exact f1) (by rw [hA.fl.2]; exact f2) (by rw [hA.st]; exact f3)
    have hopen : openB (x.work 0) = true := by unfold openB; rw [hA.none, hA.ver]; simp; omega
    obtain ⟨n0, hn1, hn2⟩ := nxt_ex (by decide) hopen
    have : n0 = 0 := by omega
    subst this
    obtain ⟨hp1, Fm1, e1, e2, e3⟩ := rf_sp_Make h (by omega) k [b]
    rcases make_spec hA.inv hA.on hko hn1 with ⟨z, _⟩ | ⟨y, q, ey, hM⟩
    · exact absurd z hl0
    · rw [ey] at e1 e2 hcs1
      simp only at e1 e2 hcs1
      have hy0 : y.work 0 = ⟨k, i, q⟩ := by rw [hM.work, updE_self, hA.ver]
      have hkind : (y.work 0).kind ≠ 0 := by rw [hy0]; simp only; omega
      have hget := rf_sp_Get e2 0
      have hyl := hM.inv.ok.l
      have hgv : y.get 0 = (⟨k, i, zl⟩, 0) := by
        have hE : gE y.work 0 = 0 := by unfold gE; rw [if_neg (by omega), show (0 : Int).toNat = 0 from rfl, if_neg hkind]
        unfold AS.get
        rw [if_neg (by simp [hE]), show (0 : Int).toNat = 0 from rfl, hy0]
        have hq := hM.q0
        have e : y.A.l = x.A.l := by rw [hM.A]; rfl
        rw [load_on hM.on (i := q) (by omega), hM.now, if_pos rfl]
        simp
      rw [hgv] at hget
      -- its capability
      have hor := old0_range hk1 hk2 (i := i) (by omega)
      have hnm1 := rf_sp_Names e2 (old0 k i) hor.1 hor.2
      have hnmE : nmE y.work (old0 k i) ≠ 0 := by
        cases i with
        | zero => simp [old0, nm_0]
        | succ i =>
          simp only [old0]
          rw [nm_w0 hk1 hk2 (by omega) (by omega), hy0, if_pos (by simp only; omega)]; decide
      have hcw := rf_caps_Word ⟨k, 0, 0, i, 0⟩
      obtain ⟨hw1, hw2⟩ := word_w0 hk1 hk2 (i := i) (by omega) (by omega)
      rw [hw1, hw2] at hcw
      have hnm2 := rf_sp_Names e2 (w0 k i) (by unfold w0; omega) (by unfold w0; omega)
      have hnE2 : nmE y.work (w0 k i) = 0 := by
        rw [nm_w0 hk1 hk2 (by omega) (by omega), hy0]
        have : ¬ k = 0 := by omega
        simp [this]
      have hnI2 : nmId y.work (w0 k i) = 0 := by
        unfold nmId capsOf
        rw [if_pos hnE2, if_pos (may_w0 hk1 hk2 (by omega) (by omega)), cap_w0 hk1 hk2 (by omega) (by omega)]
      rw [hnE2, hnI2] at hnm2
      -- set, and ended
      obtain ⟨hp2, Fm2, g1, g2, g3⟩ := rf_sp_Set e2 (by omega) 0 3 9 [b, .rw (Obj.v ⟨k, i, zl⟩)]
      have hcs2 := AS.set_count (x := y) 0 3 9
      have hset := set_spec hM.inv hM.on (i := 0) (w := 3) (by decide) hkind (by decide) 9
      rw [show ((0 : Nat) : Int) = 0 from rfl, show ((3 : Nat) : Int) = 3 from rfl] at hset
      rcases hset with ⟨z, _⟩ | ⟨y2, ey2, hS⟩
      · rw [hM.own] at z; cases z
      · rw [ey2] at g1 g2 hcs2
        simp only at g1 g2 hcs2
        obtain ⟨hsA, hsW⟩ := hS.same hM.own
        have hk2' : (y2.work 0).kind ≠ 0 := by rw [hsW]; exact hkind
        obtain ⟨y3, ey3, hE3⟩ := ends_spec hS.inv (i := 0) (by decide) hk2'
        rw [show ((0 : Nat) : Int) = 0 from rfl] at ey3
        obtain ⟨hp3, Fm3, u1, u2, u3⟩ := rf_sp_End g2 hS.inv.v 0 [b, .rw (Obj.v ⟨k, i, zl⟩)]
        rw [ey3] at u1 u2
        simp only at u1 u2
        have hA3 : Agn x0 y3 (i + 1) := by
          refine ⟨hE3.inv, by rw [hE3.M]; exact hS.on, fun j => ?_, ?_, fun j => ?_, ?_, by rw [hE3.M]; omega⟩
          · rw [hE3.work]
            by_cases e : j = 0
            · subst e; rw [updE_self]
            · rw [updE_ne e, hsW, hM.work, updE_ne e]; exact hA.none j
          · rw [hE3.work, updE_self, hsW, hy0]
            simp only [endV]
            rw [if_pos (by omega)]; omega
          · rw [hE3.A, hS.own, hsW, hy0, hsA, hM.A]
            simp only [true_and, AF.put]
            by_cases e : (q : Int) = j
            · have : j = q := by omega
              subst this
              rw [if_pos rfl, ← hA.st, hM.q0.2.2]
            · rw [if_neg e, upd_ne (by omega), hA.st]
          · rw [hE3.fl.1, hE3.fl.2, hsA, hM.A]
            exact hA.fl
        obtain ⟨hp4, r1⟩ := agn_loop ⟨jf, f1, f2, f3⟩ hk1 hk2 hko h0 h1 b hb hN n (i + 1) (by omega) u2 hA3
        refine ⟨hp4, ?_⟩
        rw [← r1, rc_loop_o]
        have d1 : (i : Int) < N := by omega
        have d4 : IntKind.i64.wrap ((i : Int) + 1) = ((i + 1 : Nat) : Int) := i64_id (by omega) (by omega)
        have eo : old0 k (i + 1) = w0 k i := rfl
        have ez : zl.map (V.int .u64) = List.replicate 8 (.int .u64 0) := rfl
        have hvq : veqs (List.replicate 8 (V.int .u64 0)) (List.replicate 8 (V.int .u64 0)) = some true := rfl
        rw [eo]
        simp only [Obj.v, Cap.v, ez] at *
        generalize nmE y.work (old0 k i) = ne1 at *
        generalize nmId y.work (old0 k i) = ni1 at *
        generalize old0 k i = o at *
        generalize w0 k i = w at *
        simp only [go_sem, b_steadfastlaw10_ObjectsAgain_0, hk, d1, e1, hget, hvq]
        simp only [go_sem, hnm1, hcw, hnm2, hnmE, g1, u1, d4, hb]
end
theorem law_ObjectsAgain : ∀ hp vs, G <+: hp → Sh.FitsL hp [(.int .i64), (.int .i64)] vs → ∃ s', rf D f_steadfastlaw10_ObjectsAgain vs ⟨[], hp⟩ = some (.bool true, s') := by
  intro hp vs hpre hf
  obtain ⟨v0, v1, rfl, h0, h1⟩ := fits2 hf
  obtain ⟨kn, rfl, kn0, kn1⟩ := i_of h0
  obtain ⟨ln, rfl, ln0, ln1⟩ := i_of h1
  have hG := glob_of hpre
  obtain ⟨more, hsh⟩ := rf_shown10 (s := ⟨[], hp⟩) hG
  have hG1 : (hp ++ more)[0]? = some (.ro globV_0) := by rw [List.getElem?_append_left (lt_of_get hG)]; exact hG
  simp only at hsh
  generalize hp ++ more = H at *
  have hkk := rf_kind10 kn 3 kn0 kn1 (by decide)
  obtain ⟨k0, k1⟩ := kd_range kn (n := 3) (by decide)
  obtain ⟨l0, l1⟩ := kd_range ln (n := 21) (by decide)
  generalize kd kn 3 = kk at *
  obtain ⟨N, hN⟩ : ∃ n : Nat, kd ln 21 = n := ⟨(kd ln 21).toNat, by omega⟩
  obtain ⟨hp1, hp2, a, A', Fm, fr, e1, hG2, e2, hQ, hI, two, hown, hf1, hf2, hst, p1, p2⟩ := made10 [] [] hG1 (c := 0) (n := 100) (by decide) (by decide) (by decide)
  have htab := fun s => rf_table10 0 (by decide) s
  rw [show ((0 : Nat) : Int) = 0 from rfl] at htab
  rw [show ((100 : Nat) : Int) = 100 from rfl] at e1
  have hdir := rf_dir10 (s := ⟨[], hp1⟩) hG2
  generalize hx0 : as0 (am0 100 fun _ => zl) A' (tbl10 0) dir10 = x0 at *
  have hA : Agn x0 x0 0 := ⟨hI, by rw [← hx0]; exact am0_on _ _, fun j => by rw [← hx0]; rfl, by rw [← hx0]; rfl, fun _ => rfl, ⟨rfl, rfl⟩, by rw [← hx0]; simp [as0, am0]⟩
  have hfree : ∃ j, x0.A.f ≤ j ∧ j < x0.A.l ∧ x0.A.st j = 0 := ⟨50, by rw [← hx0]; exact ⟨by show A'.f ≤ 50; omega, by show 50 < A'.l; omega, by show A'.st 50 = 0; rw [hst]; rfl⟩⟩
  have key := fun (k : Int) (hk1 : 1 ≤ k) (hk2 : k ≤ 4) (hko : kindOk k) => agn_loop hfree hk1 hk2 hko ln0 ln1 (.rw (.agg 38 [.int .i64 1, .int .i64 2, .int .i64 4])) rfl hN N 0 (by omega) hQ hA
  have hk3 : kk = 0 ∨ kk = 1 ∨ kk = 2 := by omega
  simp only [tabV, Ent.v, old0] at *
  rcases hk3 with rfl | rfl | rfl
  · obtain ⟨hp3, r⟩ := key 1 (by decide) (by decide) (.inl rfl)
    rw [show ((0 : Nat) : Int) = 0 from rfl] at r
    refine ⟨⟨[], hp3⟩, ?_⟩
    rw [rf_o D_steadfastlaw10_ObjectsAgain rfl]
    simp only [go_sem, hsh, e1, htab, hdir, e2, hkk, List.replicate, r]
  · obtain ⟨hp3, r⟩ := key 2 (by decide) (by decide) (.inr (.inl rfl))
    rw [show ((0 : Nat) : Int) = 0 from rfl] at r
    refine ⟨⟨[], hp3⟩, ?_⟩
    rw [rf_o D_steadfastlaw10_ObjectsAgain rfl]
    simp only [go_sem, hsh, e1, htab, hdir, e2, hkk, List.replicate, r]
  · obtain ⟨hp3, r⟩ := key 4 (by decide) (by decide) (.inr (.inr rfl))
    rw [show ((0 : Nat) : Int) = 0 from rfl] at r
    refine ⟨⟨[], hp3⟩, ?_⟩
    rw [rf_o D_steadfastlaw10_ObjectsAgain rfl]
    simp only [go_sem, hsh, e1, htab, hdir, e2, hkk, List.replicate, r]
end Go.Proofs.YtnffmibpblibdaaDoor
