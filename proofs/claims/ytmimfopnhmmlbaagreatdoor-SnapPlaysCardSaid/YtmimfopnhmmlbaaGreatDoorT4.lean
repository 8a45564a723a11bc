/-
  YtmimfopnhmmlbaaGreatDoorT4: what functions of the program compute (ObjC, MemQ, MemR, CloA, MemF, CrcA, RadA, RadB, MemG, MemH, MemI, MemJ, SupA, SnpA, SnpB, SnpC, SnpD, SnpE, SnpF).
-/
import Derived.Test.YtmimfopnhmmlbaaGreatDoorT1
import Derived.Test.YtmimfopnhmmlbaaGreatDoorT2
import Derived.Test.YtmimfopnhmmlbaaGreatDoorT3
set_option maxRecDepth 100000
namespace Go.Proofs.YtmimfopnhmmlbaaGreatDoor
open Go.Ab
structure Apd (L0 : List Blk) (X : List Blk) (v : V) (l : List Int) : Prop where
 at' : (l = [] ∧ v = .nils) ∨ (∃ Y, X = Y ++ [.rw (.agg 38 (l.map (.int .i64)))] ∧ v = .sl (.hp (L0.length + Y.length)) [] 0 l.length none 10)
theorem Apd.push {L0 X : List Blk} {v : V} {l : List Int} (h : Apd L0 X v l) {loc : List Blk} (hl : l.length < 1000) (x : Int) {y : V} (hy : y = .nils ∨ ∃ a p o n c, y = .sl a p o n c 10) (hyl : St.elems ⟨loc, L0 ++ X⟩ y = some [.int .i64 x]) {base : Nat} :
 ∃ X' v', ay base true 38 10 v y ⟨loc, L0 ++ X⟩ = some (v', ⟨loc, L0 ++ X'⟩) ∧ Apd L0 X' v' (l ++ [x]) := by
 rcases h.at' with ⟨rfl, rfl⟩ | ⟨Y, rfl, rfl⟩
 ·refine ⟨X ++ [.rw (.agg 38 [.int .i64 x])], _, ?_, ⟨.inr ⟨X, rfl, rfl⟩⟩⟩;rw [BN hy hyl (by simp) (by simp [be]) rfl];simp only [go_sem]
 ·refine ⟨Y ++ [.dead] ++ [.rw (.agg 38 ((l ++ [x]).map (.int .i64)))], _, ?_, ⟨.inr ⟨Y ++ [.dead], rfl, rfl⟩⟩⟩;have e1 : St.elems ⟨loc, L0 ++ (Y ++ [.rw (.agg 38 (l.map (.int .i64)))])⟩ (.sl (.hp (L0.length + Y.length)) [] 0 l.length none 10) = some (l.map (.int .i64)) :=
   aV (t := 38) (by rw [← List.append_assoc, ← List.length_append]; simp only [go_sem]) (by simp)
  have e2 : St.at ⟨loc, L0 ++ (Y ++ [.rw (.agg 38 (l.map (.int .i64)))])⟩ (.hp (L0.length + Y.length)) = some (.rw (.agg 38 (l.map (.int .i64)))) := by
   rw [← List.append_assoc, ← List.length_append]; simp [St.at]
  rw [Eb hy e1 hyl (by simp) (by simp [be]; omega) rfl e2];have e3 : (St.set ⟨loc, L0 ++ (Y ++ [.rw (.agg 38 (l.map (.int .i64)))])⟩ (.hp (L0.length + Y.length)) .dead) = ⟨loc, L0 ++ (Y ++ [.dead])⟩ := by
   simp only [St.set];rw [← List.append_assoc, ← List.length_append, List.set_append_right _ _ (Nat.le_refl _)];simp
  rw [e3];simp only [go_sem];simp
theorem Apd.elems {L0 X : List Blk} {v : V} {l : List Int} (h : Apd L0 X v l) {loc : List Blk} : St.elems ⟨loc, L0 ++ X⟩ v = some (l.map (.int .i64)) := by
 rcases h.at' with ⟨rfl, rfl⟩ | ⟨Y, rfl, rfl⟩
 ·rfl
 ·exact aV (t := 38) (by rw [← List.append_assoc, ← List.length_append]; simp only [go_sem]) (by simp)
theorem vm (t : Nat → Ent) : ∀ (n i : Nat), aF t i (n + 1) = aF t i n ++ if (t (i + n)).kind = 0 then [] else [(t (i + n)).line]
 | 0, i => by simp only [aF, Nat.add_zero]; split <;> rfl
 | n + 1, i => by
  rw [aF, vm t n (i + 1), aF, show i + 1 + n = i + (n + 1) by omega];split <;> simp
theorem jz (t : Nat → Ent) : ∀ (n i : Nat), (aF t i n).length ≤ n
 | 0, i => Nat.le_refl _
 | n + 1, i => by
  have := jz t n (i + 1);simp only [aF];split
  ·omega
  ·simp only [List.length_cons]; omega
theorem oN (t : Nat → Ent) (s : St) : ∃ X v, Apd s.hp X v (aF t 0 49) ∧ rf D ik [ab t] s = some (v, ⟨s.loc, s.hp ++ X⟩) := by
 have loop : ∃ r, rc D s.loc.length (.loop [1, 3, 4] cw) [(1, .ptr (.loc s.loc.length) [] 48), (3, .nils), (4, .int .i64 0)] ⟨s.loc ++ [.rw (ab t)], s.hp⟩ = some r ∧
  ∃ X v, Apd s.hp X v (aF t 0 49) ∧ r = (.exit 0, [(1, .ptr (.loc s.loc.length) [] 48), (3, v), (4, .int .i64 49), (6, .bool false)], ⟨s.loc ++ [.rw (ab t)], s.hp ++ X⟩) := by
  refine gI (fun x : Nat × List Blk × V => [(1, .ptr (.loc s.loc.length) [] 48), (3, x.2.2), (4, .int .i64 x.1)]) (fun x => ⟨s.loc ++ [.rw (ab t)], s.hp ++ x.2.1⟩) _ (fun x => 49 - x.1)
   (fun x => x.1 ≤ 49 ∧ Apd s.hp x.2.1 x.2.2 (aF t 0 x.1)) (0, [], .nils) ?_ ⟨by simp only; omega, ⟨.inl ⟨rfl, rfl⟩⟩⟩ rfl (by simp)
  rintro ⟨i, X, v⟩ ⟨hi, ha⟩;simp only at hi ha;by_cases c1 : i < 49
  ·left;have d1 : (i : Int) < 49 := by omega
   have d2 : (0 : Int) ≤ i := by omega
   have d4 : IntKind.i64.wrap ((i : Int) + 1) = (i : Int) + 1 := ag (by omega) (by omega);have d5 : s.loc.length < s.loc.length + 1 := Nat.lt_succ_self _;have g1 := ai (f := fun i => (t i).v) c1;have hsn := vm t i 0;rw [Nat.zero_add] at hsn;have hv : v.locLt (s.loc.length + 1) = true := by
    rcases ha.at' with ⟨_, rfl⟩ | ⟨Y, _, rfl⟩ <;> simp only [go_sem]
   by_cases hk : (t i).kind = 0
   ·rw [if_pos hk, List.append_nil] at hsn;refine ⟨(i + 1, X, v), ⟨by simp only; omega, by simp only; rw [hsn]; exact ha⟩, by simp only; omega, ?_⟩;simp only [ab, Ent.v] at *;simp only [hk] at g1;generalize tab 49 (fun i => V.agg 42 [.int .i64 (t i).kind, .int .i64 (t i).ver, .int .i64 (t i).line]) = T at *;simp only [go_sem, cw, d1, d2];rw [Int.toNat_natCast];simp only [go_sem, g1, d4, hv, d5];rfl
   ·rw [if_neg hk] at hsn;have hll := jz t i 0;obtain ⟨X', v', e1, ha'⟩ := ha.push (loc := s.loc ++ [.rw (ab t), .rw (.agg 38 [.int .i64 (t i).line])]) (by omega) (t i).line (y := .sl (.loc (s.loc.length + 1)) [] 0 1 (some 1) 10) (.inr ⟨_, _, _, _, _, rfl⟩)
     (aV (t := 38) (by simp only [go_sem]) rfl) (base := s.loc.length)
    have hv' : v'.locLt (s.loc.length + 1) = true := by
     rcases ha'.at' with ⟨_, rfl⟩ | ⟨Y, _, rfl⟩ <;> simp only [go_sem]
    refine ⟨(i + 1, X', v'), ⟨by simp only; omega, by simp only; rw [hsn]; exact ha'⟩, by simp only; omega, ?_⟩;simp only [ab, Ent.v] at *;generalize tab 49 (fun i => V.agg 42 [.int .i64 (t i).kind, .int .i64 (t i).ver, .int .i64 (t i).line]) = T at *;simp only [go_sem, cw, d1, d2];rw [Int.toNat_natCast];simp only [go_sem, g1, hk, d1, d2];rw [Int.toNat_natCast];simp only [go_sem, g1, d4, List.replicate, e1, hv', d5];rfl
  ·right;have : i = 49 := by omega
   subst this;refine ⟨_, ?_, X, v, ha, rfl⟩;simp only [go_sem, cw]
 obtain ⟨_, hl, X, v, ha, rfl⟩ := loop;refine ⟨X, v, ha, ?_⟩;have hv : v.locLt s.loc.length = true := by
  rcases ha.at' with ⟨_, rfl⟩ | ⟨Y, _, rfl⟩ <;> simp only [go_sem]
 simp only [ab] at *;rw [aa qO rfl];simp only [go_sem, hl, hv]
end Go.Proofs.YtmimfopnhmmlbaaGreatDoor
namespace Go.Proofs.YtmimfopnhmmlbaaGreatDoor
open Go.Ab
def coV (f : Nat → Bool) : V := .agg 88 (tab 8 fun c => .bool (f c))
def Dn.v2 (d : Dn) : V := .agg 90 [.int .i64 d.w, .int .u64 d.v, coV d.cs]
structure cf (hp : List Blk) (F : Ft) (m : Nat) (M : AM) : Prop where
 ok : M.Ok
 inn : Inn hp F
 fm : F m
 mb : ∃ k k2, F k ∧ F k2 ∧ m ≠ k ∧ m ≠ k2 ∧ k ≠ k2 ∧ hp[m]? = some (.rw (rmV k M.n k2 M.off M.left M.count)) ∧ hp[k]? = some (.rw (.agg 58 (tab M.n fun i => lnV (M.S i)))) ∧
  ∃ (sv : Nat → V) (ow : Nat → Nat), hp[k2]? = some (.rw (.agg 53 (tab M.n sv))) ∧ ∀ i, i < M.n → SlR hp (fun j => F j ∧ j ≠ m ∧ j ≠ k ∧ j ≠ k2 ∧ ow j = i) 90 92 (sv i) ((M.L i).map Dn.v2)
theorem cf.eqv {hp hp' : List Blk} {F : Ft} {m : Nat} {M : AM} (h : cf hp F m M) (he : Eqv hp hp' F) (hl : hp.length ≤ hp'.length) : cf hp' F m M := by
 obtain ⟨k, k2, fk, fk2, n1, n2, n3, h1, h2, sv, ow, h4, h5⟩ := h.mb;exact ⟨h.ok, fun j hj => Nat.lt_of_lt_of_le (h.inn j hj) hl, h.fm, k, k2, fk, fk2, n1, n2, n3, by rw [he m h.fm]; exact h1, by rw [he k fk]; exact h2, sv, ow, by rw [he k2 fk2]; exact h4, fun i hi => (h5 i hi).eqv (fun j hj => he j hj.1) fun j hj => hj⟩
theorem cf.chg {hp hp' : List Blk} {F G G' : Ft} {m : Nat} {M : AM} (h : cf hp F m M) (hc : Chg hp hp' G G') (ha : dJ G F) : cf hp' F m M := h.eqv (hc.eqv ha h.inn) hc.le
theorem vP {hp : List Blk} {F : Ft} {m : Nat} {M : AM} (h : cf hp F m M) (i : Int) (L : List Blk) : rf D fd [.ptr (.hp m) [] 33, .int .i64 i] ⟨L, hp⟩ = some (.bool (decide (0 ≤ i ∧ i < M.n)), ⟨L, hp⟩) := by
 obtain ⟨k, k2, fk, fk2, n1, n2, n3, h1, _⟩ := h.mb;simp only [rmV] at h1;rw [aa oY rfl];by_cases c1 : 0 ≤ i
 ·by_cases c2 : i < M.n
  ·simp only [go_sem, c1, c2, h1, and_self, decide_true]
  ·simp only [go_sem, c1, c2, h1, and_false, decide_false, decide_true]
 ·simp only [go_sem, c1, false_and, decide_false]
theorem Cw {x : List Int} {l : List Dn} {n : Nat} (hn : n < l.length) : am x (l.take (n + 1)) = (am x (l.take n)).set l[n].w l[n].v := by
 rw [List.take_succ_eq_append_getElem hn, kQ];rfl
theorem yQ {hp : List Blk} {F : Ft} {m : Nat} {M : AM} (h : cf hp F m M) (hc : M.count < 1000000) {i n : Nat} (hi : i < M.n) (hn : n ≤ (M.L i).length) (L : List Blk) :
 rf D eE [.ptr (.hp m) [] 33, .int .i64 i, .int .i64 n] ⟨L, hp⟩ = some (lnV (am (M.S i) ((M.L i).take n)), ⟨L, hp⟩) := by
 obtain ⟨k, k2, fk, fk2, n1, n2, n3, h1, h2, sv, ow, h4, h5⟩ := h.mb;have hl8 := h.ok.l8 i hi;have hw8 := h.ok.w8 i hi;have g2 := ai (f := fun i => lnV (M.S i)) hi;have g4 := ai (f := sv) hi;have d1 : (i : Int) < M.n := by omega
 have d0 : (0 : Int) ≤ i := by omega
 have hsl := h5 i hi;have q2 := gD (a := .hp k2) (e := 1) hi;simp only [rmV, lnV] at *;generalize (tab M.n fun i => V.agg 24 ((M.S i).map (V.int .u64))) = T1 at *;generalize (tab M.n sv) = T2 at *;have loop : rc D L.length (.loop [0, 1, 2, 6, 7, 8] ck) [(0, .ptr (.hp m) [] 33), (1, .int .i64 i), (2, .int .i64 n), (6, .ptr (.loc L.length) [] 24), (7, .ptr (.loc (L.length + 1)) [] 24), (8, .int .i64 0)]
  ⟨L ++ [.rw (.agg 24 (List.replicate 8 (.int .u64 0))), .rw (.agg 24 ((M.S i).map (V.int .u64)))], hp⟩ =
  some (.exit 0, [(0, .ptr (.hp m) [] 33), (1, .int .i64 i), (2, .int .i64 n), (6, .ptr (.loc L.length) [] 24), (7, .ptr (.loc (L.length + 1)) [] 24), (8, .int .i64 n), (18, .bool false)],
   ⟨L ++ [.rw (.agg 24 (List.replicate 8 (.int .u64 0))), .rw (.agg 24 ((am (M.S i) ((M.L i).take n)).map (V.int .u64)))], hp⟩) := by
  refine aH (fun x : Nat => [(0, .ptr (.hp m) [] 33), (1, .int .i64 i), (2, .int .i64 n), (6, .ptr (.loc L.length) [] 24), (7, .ptr (.loc (L.length + 1)) [] 24), (8, .int .i64 x)])
   (fun x => ⟨L ++ [.rw (.agg 24 (List.replicate 8 (.int .u64 0))), .rw (.agg 24 ((am (M.S i) ((M.L i).take x)).map (V.int .u64)))], hp⟩) (fun _ => _) (fun x => n - x) (fun x => x ≤ n) 0 ?_ (by omega) rfl rfl
  intro x hx;by_cases c1 : x < n
  ·left;have c2 : (x : Int) < n := by omega
   have hxl : x < (M.L i).length := by omega
   have d4 : IntKind.i64.wrap ((x : Int) + 1) = (x : Int) + 1 := ag (by omega) (by have := h.ok.len i hi; omega);have hg := aK (f := Dn.v2) hxl ⟨0, 0, fun _ => false⟩;have hgd : (M.L i).getD x ⟨0, 0, fun _ => false⟩ = (M.L i)[x] := by rw [List.getD_eq_getElem?_getD, List.getElem?_eq_getElem hxl]; rfl
   rw [hgd] at hg;have hw := hw8 _ (List.getElem_mem hxl);have hbl : (am (M.S i) ((M.L i).take x)).length = 8 := by rw [nA]; exact hl8
   have hrs := fun L => hsl.rs L;refine ⟨x + 1, by omega, by omega, rfl, ?_⟩;rw [Cw hxl];generalize am (M.S i) ((M.L i).take x) = Z at *;generalize (M.L i)[x] = d at *;simp only [Dn.v2] at hg;have e1 : (0 : Int) ≤ (d.w : Int) := by omega
   have e2 : (d.w : Int) < 8 := by omega
   have hld : ∀ L t q, ldv ⟨L, hp⟩ t (elq (sv i) x q t) = V.at q (V.agg 90 [V.int .i64 d.w, V.int .u64 d.v, coV d.cs]) := fun L t q => (hrs L).ldq hg;have hbm : (Z.map (V.int .u64))[d.w]? = some (.int .u64 (Z.getD d.w 0)) := aK (by omega) 0;rw [List.map_set];simp only [go_sem, ck, c2, h1, h4, g4, q2, (hrs []).sadq hg, (hrs []).fadq hg, hld, e1, e2];rw [Int.toNat_natCast];have z2 : L.length < L.length + 2 := by omega
   have z3 : L.length + 1 < L.length + 2 := by omega
   simp only [go_sem, hbm, d4, z2, z3];rfl
  ·right;have : x = n := by omega
   subst this;have c2 : ¬ (x : Int) < x := by omega
   simp only [go_sem, ck, c2]
 rw [aa oS rfl];simp only [go_sem, h1, h2, d0, d1];rw [Int.toNat_natCast];simp only [go_sem, g2, loop]
theorem FN {hp : List Blk} {F : Ft} {m : Nat} {M : AM} (h : cf hp F m M) (hc : M.count < 1000000) (i : Int) (L : List Blk) : rf D ef [.ptr (.hp m) [] 33, .int .i64 i] ⟨L, hp⟩ = some (.tup [lnV (M.load i).1, .int .i64 (M.load i).2], ⟨L, hp⟩) := by
 have his := fun L => vP h i L;have e : lnV zl = .agg 24 (List.replicate 8 (.int .u64 0)) := rfl;unfold AM.load;by_cases hi : i < 0 ∨ (M.n : Int) ≤ i
 ·rw [if_pos hi];have hd : decide (0 ≤ i ∧ i < (M.n : Int)) = false := by simp only [decide_eq_false_iff_not]; omega
  simp only [hd] at his;rw [aa jc rfl];simp only [e];simp only [go_sem, his]
 ·rw [if_neg hi];obtain ⟨j, rfl⟩ : ∃ j : Nat, i = j := ⟨i.toNat, by omega⟩;have hj : j < M.n := by omega
  have hd : decide (0 ≤ (j : Int) ∧ (j : Int) < (M.n : Int)) = true := by simp only [decide_eq_true_eq]; omega
  simp only [hd] at his;have hh := fun L => yQ h hc hj (Nat.le_refl _) L;simp only [List.take_length] at hh;rw [Int.toNat_natCast];obtain ⟨k, k2, fk, fk2, n1, n2, n3, h1, h2, sv, ow, h4, h5⟩ := h.mb;have g4 := ai (f := sv) hj;have q2 := gD (a := .hp k2) (e := 1) hj;have hl := (h5 j hj).slen;rw [List.length_map] at hl;simp only [rmV] at h1;generalize (tab M.n sv) = T2 at *;unfold AM.now;rw [aa jc rfl];simp only [e];simp only [lnV] at *;cases ho : M.off
  ·rw [ho] at h1;simp only [go_sem, his, h1, h4, g4, q2, hl, hh, Bool.false_eq_true, if_false]
  ·rw [ho] at h1;have e2 : zl.map (V.int .u64) = List.replicate 8 (.int .u64 0) := rfl;simp only [e2, if_true];simp only [go_sem, his, h1]
theorem cf.setm {hp : List Blk} {F : Ft} {m : Nat} {M M' : AM} (h : cf hp F m M) (ok : M'.Ok) (hn : M'.n = M.n) (hS : M'.S = M.S) (hL : M'.L = M.L) {k k2 : Nat} (hb : hp[m]? = some (.rw (rmV k M.n k2 M.off M.left M.count))) :
 cf (hp.set m (.rw (rmV k M.n k2 M'.off M'.left M'.count))) F m M' ∧ Chg hp (hp.set m (.rw (rmV k M.n k2 M'.off M'.left M'.count))) F F := by
 obtain ⟨k', k2', fk, fk2, n1, n2, n3, h1, h2, sv, ow, h4, h5⟩ := h.mb;rw [hb] at h1;have h1 := Option.some.inj h1;simp only [rmV, Blk.rw.injEq, V.agg.injEq, List.cons.injEq, V.sl.injEq, Loc.hp.injEq, true_and, and_true] at h1;obtain ⟨rfl, rfl⟩ := h1;refine ⟨⟨ok, h.inn.set, h.fm, k, k2, fk, fk2, n1, n2, n3, ?_, ?_, sv, ow, ?_, fun i hi => ?_⟩, cR.mono (fun j hj => by cases hj; exact h.fm) fun _ => .inr⟩
 ·rw [hn, List.getElem?_set_self (af hb)]
 ·rw [List.getElem?_set_ne n1, hn, hS]; exact h2
 ·rw [List.getElem?_set_ne n2, hn]; exact h4
 ·rw [hn] at hi;rw [hL];exact (h5 i hi).eqv (fun j hj => List.getElem?_set_ne (Ne.symm hj.2.1)) fun j hj => hj
theorem si {hp : List Blk} {F : Ft} {m : Nat} {M : AM} (h : cf hp F m M) (hc : M.count < 1000000) {k k2 : Nat} (h1 : hp[m]? = some (.rw (rmV k M.n k2 M.off M.left M.count))) (L : List Blk) :
 rf D eh [.ptr (.hp m) [] 33] ⟨L, hp⟩ = if M.dead then some (.int .i64 4, ⟨L, hp.set m (.rw (rmV k M.n k2 M.out.off M.out.left M.out.count))⟩) else some (.int .i64 0, ⟨L, hp.set m (.rw (rmV k M.n k2 M.stepped.off M.stepped.left M.stepped.count))⟩) := by
 have ok := h.ok;have w1 : IntKind.i64.wrap (M.left - 1) = M.left - 1 := ag (by have := ok.lf; omega) (by have := ok.lg; omega);have w2 : IntKind.i64.wrap (M.count + 1) = M.count + 1 := ag (by have := ok.c0; omega) (by omega);have hlt := af h1;have hset : ∀ b, (hp.set m b)[m]? = some b := fun b => List.getElem?_set_self hlt;unfold AM.dead AM.out AM.stepped;simp only [rmV] at *;rw [aa nV rfl];cases ho : M.off
 ·rw [ho] at h1;by_cases c1 : M.left = 0
  ·simp only [go_sem, h1, c1, Bool.false_or, decide_true, if_true]
  ·by_cases c2 : M.left > 0
   ·have c3 : 0 < M.left := c2;simp only [go_sem, h1, c1, c2, c3, w1, w2, hset, Bool.false_or, decide_false, Bool.false_eq_true, if_false, if_true, List.set_set]
   ·have c3 : ¬ 0 < M.left := c2;simp only [go_sem, h1, c1, c2, c3, w2, hset, Bool.false_or, decide_false, Bool.false_eq_true, if_false, List.set_set]
 ·rw [ho] at h1;simp only [go_sem, h1, Bool.true_or, if_true]
theorem E8 {hp : List Blk} {F : Ft} {m : Nat} {M : AM} (h : cf hp F m M) (n : Int) (hn : n ≤ 9223372036854775807) (L : List Blk) :
 ∃ hp', rf D em [.ptr (.hp m) [] 33, .int .i64 n] ⟨L, hp⟩ = some (.tup [], ⟨L, hp'⟩) ∧ cf hp' F m (M.fuse n) ∧ Chg hp hp' F F := by
 have hM := h;obtain ⟨k, k2, fk, fk2, n1, n2, n3, h1, h2, sv, ow, h4, h5⟩ := h.mb;have ok := h.ok;have okf : (M.fuse n).Ok := ⟨ok.n0, ok.n1, ok.l8, ok.w8, ok.c0, ok.len, by unfold AM.fuse; simp only; split <;> omega, by unfold AM.fuse; simp only; split <;> omega⟩;obtain ⟨g1, g2⟩ := hM.setm (M' := M.fuse n) okf rfl rfl rfl h1;refine ⟨_, ?_, g1, g2⟩;have e : max n (-1) = (M.fuse n).left := by unfold AM.fuse; simp only; split <;> omega
 have e2 : max (-1) n = (M.fuse n).left := by rw [← e]; omega
 generalize (M.fuse n).left = lf at *;simp only [rmV, AM.fuse] at *;rw [aa nY rfl];simp only [go_sem, h1, e]
end Go.Proofs.YtmimfopnhmmlbaaGreatDoor
namespace Go.Proofs.YtmimfopnhmmlbaaGreatDoor
open Go.Ab
theorem tI {H : List Blk} {e r : Nat} {v : V} {l : List V} (hsh : v = .nils ∨ ∃ a p o n c, v = .sl a p o n c e) (hel : ∀ L, St.elems ⟨L, H ++ [.rw (.agg r [])]⟩ v = some l) (hl : V.locLts 0 l = true) (hm : l.length ≤ be) :
 ∃ H1 j c, H1.length ≤ H.length + 2 ∧ H.length ≤ j ∧ j < H1.length ∧ (∀ i, i < H.length → H1[i]? = H[i]?) ∧ H.length < H1.length ∧
  (∀ base L, ay base true r e (.sl (.hp H.length) [] 0 0 (some 0) e) v ⟨L, H ++ [.rw (.agg r [])]⟩ = some (.sl (.hp j) [] 0 l.length c e, ⟨L, H1⟩)) ∧ SlR H1 (fun i => i = j) e r (.sl (.hp j) [] 0 l.length c e) l := by
 have h0 : SlR (H ++ [.rw (.agg r [])]) (fun i => i = H.length) e r (.sl (.hp H.length) [] 0 ([] : List V).length (some ([] : List V).length) e) [] := .blk _ _ _ (.inr rfl) rfl (by simp);by_cases hn : l = []
 ·subst hn;refine ⟨H ++ [.rw (.agg r [])], H.length, some 0, by simp, Nat.le_refl _, by simp, fun i hi => List.getElem?_append_left hi, by simp, fun base L => ?_, h0⟩;unfold ay;have e1 : St.elems ⟨L, H ++ [.rw (.agg r [])]⟩ (.sl (.hp H.length) [] 0 0 (some 0) e) = some [] := h0.elems L;have e2 := hel L;have e3 : V.slIs e (.sl (.hp H.length) [] 0 0 (some 0) e) = true := by simp [V.slIs]
  have e4 : V.elIs e v = true := by
   rcases hsh with rfl | ⟨_, _, _, _, _, rfl⟩
   ·rfl
   ·simp [V.elIs]
  rw [e1, e2, e3, e4];rfl
 ·have key : ∀ L, ∃ hp', (∀ base, ay base true r e (.sl (.hp H.length) [] 0 0 (some 0) e) v ⟨L, H ++ [.rw (.agg r [])]⟩ = some (.sl (.hp (H.length + 1)) [] 0 l.length none e, ⟨L, hp'⟩)) ∧ hp' = H ++ [.rw (.agg r []), .rw (.agg r l)] := by
   intro L;refine ⟨_, fun base => ?_, rfl⟩;have := oj (base := base) (h := true) (r := r) (e := e) (x := .sl (.hp H.length) [] 0 0 (some 0) e) (old := []) (new := l) (s := ⟨L, H ++ [.rw (.agg r [])]⟩) (.inr ⟨_, _, _, _, _, rfl⟩) hsh (h0.elems L) (hel L) hn (by simpa using hm) (.inr (by simp only [pY, q8, List.nil_append, hl, Bool.or_true]));rw [this];have hp0 : 0 < l.length := List.length_pos_iff.2 hn;simp only [km, Option.map_some, List.length_nil, Nat.zero_add, hp0, decide_true, if_true];simp [St.fresh, St.new]
  refine ⟨H ++ [.rw (.agg r []), .rw (.agg r l)], H.length + 1, none, by simp, by omega, by simp, fun i hi => List.getElem?_append_left hi, by simp, fun base L => ?_, .blk _ _ _ (.inl rfl) rfl (by simp)⟩;obtain ⟨hp', g1, rfl⟩ := key L;exact g1 base
theorem wj {H : List Blk} {G : Ft} {e r : Nat} {v : V} {l : List V} (h : SlR H G e r v l) (hl : V.locLts 0 l = true) (hm : l.length ≤ be) :
 ∃ H1 j c, H1.length ≤ H.length + 2 ∧ H.length ≤ j ∧ j < H1.length ∧ (∀ i, i < H.length → H1[i]? = H[i]?) ∧ H.length < H1.length ∧
  (∀ base L, ay base true r e (.sl (.hp H.length) [] 0 0 (some 0) e) v ⟨L, H ++ [.rw (.agg r [])]⟩ = some (.sl (.hp j) [] 0 l.length c e, ⟨L, H1⟩)) ∧ SlR H1 (fun i => i = j) e r (.sl (.hp j) [] 0 l.length c e) l := by
 have hv : SlR (H ++ [.rw (.agg r [])]) (fun i => G i ∧ i < H.length) e r v l := by
  cases h with
  | nil => exact .nil
  | emp a p o => exact .emp a p o
  | blk a c l hc hG hb => exact .blk a c l hc ⟨hG, af hb⟩ (by rw [List.getElem?_append_left (af hb)]; exact hb)
 exact tI hv.shape hv.elems hl hm
theorem EM {l : List Dn} : V.locLts 0 (l.map Dn.v2) = true := by
 induction l with
 | nil => rfl
 | cons d l ih =>
  simp only [List.map_cons, V.locLts, ih, Bool.and_true];rfl
theorem lS {hp : List Blk} {F : Ft} {m : Nat} {M : AM} (h : cf hp F m M) (hc : M.count < 1000000) (i q v : Int) (L : List Blk) :
 ∃ hp' F', rf D dU [.ptr (.hp m) [] 33, .int .i64 i, .int .i64 q, .int .u64 v] ⟨L, hp⟩ = some (.int .i64 (M.store i q v).2, ⟨L, hp'⟩) ∧ cf hp' F' m (M.store i q v).1 ∧ Chg hp hp' F F' := by
 have hM := h;have his := fun L => vP h i L;have ok := h.ok;unfold AM.store;by_cases hi : i < 0 ∨ (M.n : Int) ≤ i
 ·rw [if_pos (by omega)];have hd : decide (0 ≤ i ∧ i < (M.n : Int)) = false := by simp only [decide_eq_false_iff_not]; omega
  simp only [hd] at his;refine ⟨hp, F, ?_, hM, .refl _ _⟩;rw [aa cj rfl];simp only [go_sem, his]
 ·have hd : decide (0 ≤ i ∧ i < (M.n : Int)) = true := by simp only [decide_eq_true_eq]; omega
  simp only [hd] at his;by_cases hq : q < 0 ∨ 8 ≤ q
  ·rw [if_pos (by omega)];refine ⟨hp, F, ?_, hM, .refl _ _⟩;rw [aa cj rfl];by_cases hq0 : q < 0
   ·simp only [go_sem, his, hq0]
   ·have hq8 : q > 7 := by omega
    simp only [go_sem, his, hq0, hq8]
  ·rw [if_neg (by omega)];obtain ⟨j, rfl⟩ : ∃ j : Nat, i = j := ⟨i.toNat, by omega⟩;obtain ⟨p, rfl⟩ : ∃ p : Nat, q = p := ⟨q.toNat, by omega⟩;simp only [Int.toNat_natCast];have d1 : ¬ (p : Int) < 0 := by omega
   have d2' : ¬ (p : Int) > 7 := by omega
   obtain ⟨k, k2, fk, fk2, n1, n2, n3, h1, h2, sv, ow, h4, h5⟩ := h.mb;have hstep := fun L => si (L := L) hM hc h1;by_cases hdd : M.dead = true
   ·rw [if_pos hdd];simp only [hdd, if_true] at hstep;obtain ⟨g1, g2⟩ := hM.setm (M' := M.out) ok.out rfl rfl rfl h1;refine ⟨_, F, ?_, g1, g2⟩;generalize hp.set m (.rw (rmV k M.n k2 M.out.off M.out.left M.out.count)) = H at *;rw [aa cj rfl];simp only [go_sem, his, d1, d2', hstep]
   ·rw [if_neg hdd];rw [Bool.not_eq_true] at hdd;simp only [hdd, Bool.false_eq_true, if_false] at hstep;obtain ⟨g1, g2⟩ := hM.setm (M' := M.stepped) ok.stepped rfl rfl rfl h1;have hHl : (hp.set m (.rw (rmV k M.n k2 M.stepped.off M.stepped.left M.stepped.count))).length = hp.length := by rw [List.length_set]
    generalize hp.set m (.rw (rmV k M.n k2 M.stepped.off M.stepped.left M.stepped.count)) = H at *;clear h1 h2 h4 h5 sv ow n1 n2 n3 fk fk2 k k2;obtain ⟨k, k2, fk, fk2, n1, n2, n3, h1, h2, sv, ow, h4, h5⟩ := g1.mb;have e1 : M.stepped.n = M.n := rfl;have e2 : M.stepped.S = M.S := rfl;have e3 : M.stepped.L = M.L := rfl;rw [e1] at h1 h4 h5 h2;rw [e2] at h2;rw [e3] at h5;have hj : j < M.n := by omega
    have hp8 : p < 8 := by omega
    have hlen := ok.len j hj;have ml : m < H.length := af h1;have kl : k < H.length := af h2;have k2l : k2 < H.length := af h4;let dn : Dn := Dn.mk0 p v;obtain ⟨H1, j1, c1, b1, b2, b3, b4, b5, b6, b7⟩ := wj (h5 j hj) EM (by simp [be]; omega);have b6 := fun L => b6 (List.length L) L;have hy : ∀ L2, St.elems ⟨L2 ++ [.rw (.agg 92 [dn.v2])], H1⟩ (.sl (.loc L2.length) [] 0 1 (some 1) 90) = some [dn.v2] := fun L2 => aV (t := 92) (by simp [ql, qH, nC]) rfl;obtain ⟨H2, r1, r2, r3, r4⟩ := b7.push (base := L.length) (L ++ [.rw (.agg 92 [dn.v2])]) (.inr ⟨_, _, _, _, _, rfl⟩) (hy L) (by simp) (by simp [be]; omega) (.inr (by
     have := EM (l := M.L j ++ [dn]);rw [List.map_append] at this;exact this))
    let NV := V.sl (.hp H1.length) [] 0 ((M.L j).map Dn.v2 ++ [dn.v2]).length none 90;have old : ∀ x, x < H.length → H2[x]? = H[x]? := fun x hx => by rw [r4 x (by omega) (by omega), b4 x hx]
    have g4 := ai (f := sv) hj;have q2 := gD (a := .hp k2) (e := 1) hj;have a4 : H2[k2]? = some (.rw (.agg 53 (tab M.n sv))) := by rw [old k2 k2l]; exact h4
    refine ⟨H2.set k2 (.rw (.agg 53 ((tab M.n sv).set j NV))), fun x => F x ∨ x = H1.length, ?_, ⟨ok.pushed hp8, fun x hx => ?_, .inl h.fm, k, k2, .inl fk, .inl fk2, n1, n2, n3, ?_, ?_, upd sv j NV, upd ow H1.length j, ?_, fun i hi => ?_⟩, ⟨by simp; omega, fun x hx hn => ?_, fun x hx => ?_⟩⟩
    ·have b6' := b6 L;have ts : V.tag NV = 1 := rfl;have tl : V.locLt 0 NV = true := rfl;have mj : ¬ m = H.length := by omega
     have mj1 : ¬ m = j1 := by omega
     change ay _ _ _ _ _ _ _ = some (NV, _) at r1;have hdv : dn.v2 = .agg 90 [.int .i64 p, .int .u64 v, .agg 88 (List.replicate 8 (.bool false))] := rfl;rw [hdv] at r1;clear_value NV;have hsvt := (h5 j hj).tag;generalize (tab M.n sv) = T2 at *;simp only [rmV] at *;have hA1 : (H ++ [Blk.rw (.agg 92 [])])[m]? = _ := (List.getElem?_append_left ml).trans h1;have hA2 : (H ++ [Blk.rw (.agg 92 [])])[k2]? = _ := (List.getElem?_append_left k2l).trans h4;have hrep : ∀ X : V, List.replicate 1 X = [X] := fun _ => rfl;rw [aa cj rfl];simp only [go_sem, hrep, List.replicate_zero, his, d1, d2', hstep, h1, h4, hA1, hA2, g4, q2, mj, mj1, b6', r1, a4, ts, tl, hsvt]
    ·rw [List.length_set, r2];rcases hx with hx | rfl
     ·have := h.inn x hx; omega
     ·omega
    ·rw [List.getElem?_set_ne (Ne.symm n2), old m ml]; exact h1
    ·rw [List.getElem?_set_ne (Ne.symm n3), old k kl]; exact h2
    ·rw [bw]; exact List.getElem?_set_self (by omega)
    ·have e5 : (M.stepped.push j (Dn.mk0 p v)).L i = upd M.L j (M.L j ++ [Dn.mk0 p v]) i := rfl;rw [e5];by_cases e : i = j
     ·subst e;rw [aq, aq, List.map_append];refine .blk _ none _ (.inl rfl) ⟨.inr rfl, by omega, by omega, by omega, aq ..⟩ ?_;rw [List.getElem?_set_ne (by omega)]; exact r3
     ·rw [aB e, aB e];refine (h5 i hi).eqv (fun x hx => ?_) fun x hx => ⟨.inl hx.1, hx.2.1, hx.2.2.1, hx.2.2.2.1, ?_⟩
      ·have hxl : x < H.length := by have := h.inn x hx.1; omega
       rw [List.getElem?_set_ne (Ne.symm hx.2.2.2.1), old x hxl]
      ·rw [aB (by have := h.inn x hx.1; omega)]; exact hx.2.2.2.2
    ·rw [List.getElem?_set_ne (fun e => hn (by rw [← e]; exact fk2)), old x (by omega)];exact g2.old x hx hn
    ·rcases hx with hx | rfl
     ·exact .inl hx
     ·exact .inr (by omega)
end Go.Proofs.YtmimfopnhmmlbaaGreatDoor
namespace Go.Proofs.YtmimfopnhmmlbaaGreatDoor
open Go.Ab
theorem SlR.more {hp hp' : List Blk} {G G' : Ft} {e r : Nat} {v : V} {l : List V} (h : SlR hp G e r v l) (he : ∀ j, j < hp.length → G j → hp'[j]? = hp[j]?) (hG : ∀ j, j < hp.length → G j → G' j) : SlR hp' G' e r v l := by
 cases h with
 | nil => exact .nil
 | emp a p o => exact .emp a p o
 | blk a c l hc hg hb => exact .blk a c l hc (hG a (af hb) hg) (by rw [he a (af hb) hg]; exact hb)
theorem yI {H : List Blk} {G : Ft} {v : V} {l : List V} (h : SlR H G 84 86 v l) (hl : V.locLts 0 l = true) (hm : l.length ≤ be) :
 ∃ H1 v', H <+: H1 ∧ (∀ L, rf D dK [v] ⟨L, H⟩ = some (v', ⟨L, H1⟩)) ∧ SlR H1 (fun j => H.length ≤ j ∧ j < H1.length) 84 86 v' l := by
 by_cases hv : v = .nils
 ·subst hv;cases h;refine ⟨H, .nils, List.prefix_refl _, fun L => ?_, .nil⟩;rw [aa cq rfl];simp only [go_sem]
 ·obtain ⟨H1, j, c, h1, h2, h3, h4, h5, h6, h7⟩ := wj h hl hm;obtain ⟨a, p, o, n, c', rfl⟩ := h.shape.resolve_left hv;refine ⟨H1, _, ?_, fun L => ?_, h7.more (fun _ _ _ => rfl) fun i hi e => (by cases e; exact ⟨h2, h3⟩)⟩
  ·rw [List.prefix_iff_eq_take];apply List.ext_getElem?;intro i;by_cases hi : i < H.length
   ·rw [List.getElem?_take, if_pos hi, h4 i hi]
   ·rw [List.getElem?_eq_none (by omega), List.getElem?_take, if_neg hi]
  ·have h6 := h6 L.length L;rw [aa cq rfl];simp only [go_sem, List.replicate_zero, h6]
theorem zJ {H : List Blk} {G : Ft} {v : V} {l : List V} (h : SlR H G 55 57 v l) (hl : V.locLts 0 l = true) (hm : l.length ≤ be) (hn : l ≠ []) :
 ∃ H1 j c, H <+: H1 ∧ H.length ≤ j ∧ (∀ L, rf D gC [v] ⟨L, H⟩ = some (.sl (.hp j) [] 0 l.length c 55, ⟨L, H1⟩)) ∧ (c = none ∨ c = some l.length) ∧ H1[j]? = some (.rw (.agg 57 l)) := by
 have hv : v ≠ .nils := by
  rintro rfl;cases h;exact hn rfl
 obtain ⟨H1, j, c, h1, h2, h3, h4, h5, h6, h7⟩ := wj h hl hm;obtain ⟨a, p, o, n, c', rfl⟩ := h.shape.resolve_left hv;refine ⟨H1, j, c, ?_, h2, fun L => ?_, ?_⟩
 ·rw [List.prefix_iff_eq_take];apply List.ext_getElem?;intro i;by_cases hi : i < H.length
  ·rw [List.getElem?_take, if_pos hi, h4 i hi]
  ·rw [List.getElem?_eq_none (by omega), List.getElem?_take, if_neg hi]
 ·have h6 := h6 L.length L;rw [aa qt rfl];simp only [go_sem, List.replicate_zero] at h6 ⊢;simp only [go_sem, h6]
 ·generalize hw : V.sl (.hp j) [] 0 l.length c 55 = w at h7;cases h7 with
  | nil => cases hw
  | emp a p o => exact absurd rfl hn
  | blk a c' l' hc hG hb =>
   cases hw;exact ⟨hc, hb⟩
theorem Lp {l : List Dn} : V.locLts 0 (l.map Dn.v1) = true := by
 induction l with
 | nil => rfl
 | cons d l ih =>
  simp only [List.map_cons, V.locLts, ih, Bool.and_true];rfl
structure Cln (H hp : List Blk) (m k : Nat) (M : AM) (c : Option Nat) (left : Int) (sv : Nat → V) (i : Nat) : Prop where
 pre : H <+: hp
 mkk : H.length ≤ m ∧ H.length ≤ k ∧ m ≠ k
 bm : hp[m]? = some (.rw (bf k M.n c M.off (decide (0 ≤ M.left)) left M.count))
 bk : ∃ (sw : Nat → V) (ow : Nat → Nat), hp[k]? = some (.rw (.agg 57 (tab M.n fun x => plV (M.S x) (M.L x) (sw x)))) ∧
  (∀ x, x < i → SlR hp (fun j => H.length ≤ j ∧ j < hp.length ∧ j ≠ m ∧ j ≠ k ∧ ow j = x) 84 86 (sw x) ((M.L x).map Dn.v1)) ∧ ∀ x, i ≤ x → sw x = sv x
theorem Br {H : List Blk} {F : Ft} {m0 k0 : Nat} {M : AM} (ok : M.Ok) (hcnt : M.count < 1000000) {sv : Nat → V} {c0 : Option Nat} {l0 : Int} (a1 : H[m0]? = some (.rw (bf k0 M.n c0 M.off (decide (0 ≤ M.left)) l0 M.count)))
 (a2 : H[k0]? = some (.rw (.agg 57 (tab M.n fun i => plV (M.S i) (M.L i) (sv i))))) (a3 : ∀ i, i < M.n → SlR H F 84 86 (sv i) ((M.L i).map Dn.v1)) {m k : Nat} {c : Option Nat} {left : Int} (L : List Blk) :
 ∀ (n i : Nat) {hp : List Blk}, i + n = M.n → Cln H hp m k M c left sv i →
  ∃ hp', rc D L.length (.loop [0, 3, 16, 17] fM) [(0, .ptr (.hp m0) [] 59), (3, .ptr (.hp m) [] 59), (16, .int .i64 M.n), (17, .int .i64 i)] ⟨L, hp⟩ =
   some (.exit 0, [(0, .ptr (.hp m0) [] 59), (3, .ptr (.hp m) [] 59), (16, .int .i64 M.n), (17, .int .i64 M.n), (18, .bool false)], ⟨L, hp'⟩) ∧ Cln H hp' m k M c left sv M.n
 | 0, i, hp, hi, h => by
  have : i = M.n := by omega
  subst this;refine ⟨hp, ?_, h⟩;have d1 : ¬ (M.n : Int) < M.n := by omega
  rw [ak];simp only [go_sem, fM, d1]
 | n + 1, i, hp, hi, h => by
  obtain ⟨sw, ow, b1, b2, b3⟩ := h.bk;have hj : i < M.n := by omega
  have n1 := ok.n1;have hlen := ok.len i hj;have hlH : H.length ≤ hp.length := h.pre.length_le;have e1 : hp[m0]? = _ := aE h.pre a1;have e2 : hp[k0]? = _ := aE h.pre a2;have hsl : SlR hp (fun j => F j ∧ j < H.length) 84 86 (sv i) ((M.L i).map Dn.v1) := (a3 i hj).more (fun j hj _ => aE h.pre (List.getElem?_eq_getElem hj) ▸ (List.getElem?_eq_getElem hj).symm) fun j h1 h2 => ⟨h2, h1⟩;obtain ⟨H1, v', p1, q1, q2⟩ := yI hsl Lp (by simp [be]; omega);have hl1 := p1.length_le;have hb1 : H1[k]? = _ := aE p1 b1;have hm1 : H1[m]? = _ := aE p1 h.bm;have hkl : k < H1.length := af hb1;have htk : H1.take hp.length = hp := (List.prefix_iff_eq_take.1 p1).symm;have hlt : V.locLt L.length (sv i) = true := (a3 i hj).ltb;have g1 := ai (f := fun i => plV (M.S i) (M.L i) (sv i)) hj;have g2 := ai (f := fun x => plV (M.S x) (M.L x) (sw x)) hj;have w1 : fY 55 (.sl (.hp k0) [] 0 M.n c0 55) (.int .i64 (i : Int)) = some (.ptr (.hp k0) [i] 55) := by simp [go_sem, hj]
  have w2 : fY 55 (.sl (.hp k) [] 0 M.n c 55) (.int .i64 (i : Int)) = some (.ptr (.hp k) [i] 55) := by simp [go_sem, hj]
  have d1 : (i : Int) < M.n := by omega
  have d4 : IntKind.i64.wrap ((i : Int) + 1) = ((i + 1 : Nat) : Int) := ag (by omega) (by omega);have hnew : Cln H (H1.set k (.rw (.agg 57 ((tab M.n fun x => plV (M.S x) (M.L x) (sw x)).set i (plV (M.S i) (M.L i) v'))))) m k M c left sv (i + 1) := by
   refine ⟨?_, h.mkk, ?_, upd sw i v', fun j => if hp.length ≤ j then i else ow j, ?_, fun x hx => ?_, fun x hx => ?_⟩
   ·rw [List.prefix_iff_eq_take];apply List.ext_getElem?;intro j;by_cases hj : j < H.length
    ·rw [List.getElem?_take, if_pos hj, List.getElem?_set_ne (by have := h.mkk.2.1; omega)];exact (aE (h.pre.trans p1) (List.getElem?_eq_getElem hj) ▸ List.getElem?_eq_getElem hj)
    ·rw [List.getElem?_eq_none (by omega), List.getElem?_take, if_neg hj]
   ·rw [List.getElem?_set_ne (Ne.symm h.mkk.2.2)]; exact hm1
   ·rw [bw, List.getElem?_set_self hkl];congr 4; funext x;unfold upd;split
    ·rename_i e; subst e; rfl
    ·rfl
   ·by_cases e : x = i
    ·subst e;rw [aq];refine q2.more (fun j h1 h2 => List.getElem?_set_ne (by have := af b1; omega)) fun j h1 h2 => ⟨by omega, by rw [List.length_set]; exact h2.2, by have := af h.bm; omega, by have := af b1; omega, if_pos h2.1⟩
    ·rw [aB e];refine (b2 x (by omega)).more (fun j h1 h2 => ?_) fun j h1 h2 => ⟨h2.1, by rw [List.length_set]; omega, h2.2.2.1, h2.2.2.2.1, (if_neg (by omega)).trans h2.2.2.2.2⟩;rw [List.getElem?_set_ne (Ne.symm h2.2.2.2.1)];exact (aE p1 (List.getElem?_eq_getElem h1) ▸ (List.getElem?_eq_getElem h1).symm)
   ·rw [aB (by omega)]; exact b3 x (by omega)
  obtain ⟨hp', r1, r2⟩ := Br ok hcnt a1 a2 a3 L n (i + 1) (by omega) hnew;refine ⟨hp', ?_, r2⟩;rw [← r1, ak];have hbm := h.bm;have ht1 := q2.tag;have ht2 := q2.lt;simp only [bf, plV, nlV] at *;generalize (tab M.n fun i => V.agg 55 [lnV (am (M.S i) (M.L i)), lnV (M.S i), sv i, flV (M.L i)]) = T0 at *;generalize (tab M.n fun x => V.agg 55 [lnV (am (M.S x) (M.L x)), lnV (M.S x), sw x, flV (M.L x)]) = T1 at *;simp only [go_sem, fM, d1, hbm, e1, e2, w1, w2, g1, hlt, q1, htk, hb1, g2, d4, ht1, ht2, implies_true, if_true]
theorem Gg {b n : Nat} {f : Nat → V} (h : ∀ i, i < n → (f i).locLt b = true) : V.locLts b (tab n f) = true := by
 have key : ∀ l : List Nat, (∀ i ∈ l, i < n) → V.locLts b (l.map f) = true := by
  intro l
  induction l with
  | nil => intro _; rfl
  | cons a l ih => intro hl; simp only [List.map_cons, V.locLts, h a (hl a List.mem_cons_self), ih fun i hi => hl i (List.mem_cons_of_mem _ hi), Bool.and_true]
 exact key _ fun i hi => List.mem_range.1 hi
theorem CX {hp : List Blk} {F : Ft} {m : Nat} {M : AM} (h : bS hp F m M) (hcnt : M.count < 1000000) (L : List Blk) :
 ∃ hp' m', rf D kI [.ptr (.hp m) [] 59] ⟨L, hp⟩ = some (.ptr (.hp m') [] 59, ⟨L, hp'⟩) ∧ bS hp' (fun j => hp.length ≤ j ∧ j < hp'.length) m' M ∧ hp <+: hp' := by
 obtain ⟨k, fk, ne, ⟨cp, left, h1, h2, h3⟩, sv, ow, h4, h5⟩ := h.mb;have ok := h.ok;have n0 := ok.n0;have n1 := ok.n1;have hp1 : hp <+: hp ++ [Blk.rw (bf k M.n cp M.off (decide (0 ≤ M.left)) left M.count)] := List.prefix_append _ _;have hs : SlR (hp ++ [Blk.rw (bf k M.n cp M.off (decide (0 ≤ M.left)) left M.count)]) (.one k) 55 57 (.sl (.hp k) [] 0 (tab M.n fun i => plV (M.S i) (M.L i) (sv i)).length cp 55) (tab M.n fun i => plV (M.S i) (M.L i) (sv i)) :=
  .blk k cp _ (by rw [bt]; exact h2) rfl (aE hp1 h4)
 have hlt : V.locLts 0 (tab M.n fun i => plV (M.S i) (M.L i) (sv i)) = true := Gg fun i hi => by
  have := (h5 i hi).lt;simp only [plV, nlV, lnV, flV];simp only [go_sem, this]
 obtain ⟨H1, k', c, p1, q0, q1, q2, q3⟩ := zJ hs hlt (by rw [bt]; simp [be]; omega) (by intro e; have := congrArg List.length e; rw [bt] at this; simp at this; omega);rw [bt] at q1 q2;rw [List.length_append, List.length_singleton] at q0;have hmm : H1[hp.length]? = some (.rw (bf k M.n cp M.off (decide (0 ≤ M.left)) left M.count)) := aE p1 (by simp);have hml : hp.length < H1.length := af hmm;have a1 := aE (hp1.trans p1) h1;have mlt := af h1;have c0 : Cln hp (H1.set hp.length (.rw (bf k' M.n c M.off (decide (0 ≤ M.left)) left M.count))) hp.length k' M c left sv 0 := by
  refine ⟨?_, ⟨Nat.le_refl _, by omega, by omega⟩, List.getElem?_set_self hml, sv, fun _ => 0, ?_, fun x hx => by omega, fun _ _ => rfl⟩
  ·rw [List.prefix_iff_eq_take];apply List.ext_getElem?;intro j;by_cases hj : j < hp.length
   ·rw [List.getElem?_take, if_pos hj, List.getElem?_set_ne (by omega)];exact (aE (hp1.trans p1) (List.getElem?_eq_getElem hj) ▸ List.getElem?_eq_getElem hj)
   ·rw [List.getElem?_eq_none (by omega), List.getElem?_take, if_neg hj]
  ·rw [List.getElem?_set_ne (by omega)]; exact q3
 obtain ⟨hp', r1, r2⟩ := Br ok hcnt h1 h4 (fun i hi => h5 i hi |>.more (fun _ _ _ => rfl) fun _ _ h => h.1) L M.n 0 (by omega) c0;refine ⟨hp', hp.length, ?_, ?_, r2.pre⟩
 ·rw [show ((0 : Nat) : Int) = 0 from rfl] at r1
  have hm2 : (H1.set hp.length (.rw (bf k' M.n c M.off (decide (0 ≤ M.left)) left M.count)))[hp.length]? = _ := List.getElem?_set_self hml;have a1' : (hp ++ [Blk.rw (bf k M.n cp M.off (decide (0 ≤ M.left)) left M.count)])[m]? = _ := aE hp1 h1;simp only [bf] at *;rw [aa tB rfl];simp only [go_sem, h1];simp only [go_sem, a1', q1, hmm];simp only [go_sem, hm2, r1]
 ·obtain ⟨sw, ow', b1, b2, b3⟩ := r2.bk;have := af r2.bm;have := af b1;refine ⟨ok, fun j hj => hj.2, ⟨Nat.le_refl _, by omega⟩, k', ⟨by omega, by omega⟩, by omega, ⟨c, left, r2.bm, q2, h3⟩, sw, ow', b1, fun i hi => (b2 i hi).more (fun _ _ _ => rfl) fun j hj h => ⟨⟨h.1, h.2.1⟩, h.2.2⟩⟩
end Go.Proofs.YtmimfopnhmmlbaaGreatDoor
namespace Go.Proofs.YtmimfopnhmmlbaaGreatDoor
open Go.Ab
theorem E2 {hp : List Blk} {F : Ft} {m : Nat} {M : AM} (h : bS hp F m M) (n : Int) (hn : n ≤ 9223372036854775807) (L : List Blk) :
 ∃ hp', rf D lI [.ptr (.hp m) [] 59, .int .i64 n] ⟨L, hp⟩ = some (.tup [], ⟨L, hp'⟩) ∧ bS hp' F m (M.fuse n) ∧ Chg hp hp' F F := by
 have hM := h;obtain ⟨k, fk, ne, ⟨cp, left, h1, h2, h3⟩, sv, ow, h4, h5⟩ := h.mb;have ok := h.ok;have okf : (M.fuse n).Ok := ⟨ok.n0, ok.n1, ok.l8, ok.w8, ok.c0, ok.len, by unfold AM.fuse; simp only; split <;> omega, by unfold AM.fuse; simp only; split <;> omega⟩;obtain ⟨g1, g2⟩ := hM.setm (M' := M.fuse n) (left' := n) okf rfl rfl rfl h1 (by unfold AM.fuse; simp only; split <;> omega);refine ⟨_, ?_, g1, g2⟩;have hlt := af h1;have hset : ∀ b, (hp.set m b)[m]? = some b := fun b => List.getElem?_set_self hlt;have e : decide (0 ≤ (M.fuse n).left) = decide (0 ≤ n) := by
  apply decide_eq_decide.2;unfold AM.fuse; simp only; split <;> omega
 rw [e];simp only [bf, AM.fuse] at *;rw [aa vb rfl];by_cases c1 : 0 ≤ n
 ·have c2 : n ≥ 0 := c1;simp only [go_sem, h1, hset, c1, c2, List.set_set, decide_true]
 ·have c2 : ¬ n ≥ 0 := c1;simp only [go_sem, h1, hset, c1, c2, List.set_set, decide_false]
theorem Cz {hp : List Blk} {F : Ft} {m : Nat} {M : AM} (h : bS hp F m M) (L : List Blk) : rf D kq [.ptr (.hp m) [] 59] ⟨L, hp⟩ = some (.int .i64 M.count, ⟨L, hp⟩) := by
 obtain ⟨k, fk, ne, ⟨cp, left, h1, h2, h3⟩, sv, ow, h4, h5⟩ := h.mb;simp only [bf] at h1;rw [aa uC rfl];simp only [go_sem, h1]
end Go.Proofs.YtmimfopnhmmlbaaGreatDoor
namespace Go.Proofs.YtmimfopnhmmlbaaGreatDoor
open Go.Ab
def GU (w : Int) (k : Nat) : Int := IntKind.u8.wrap (ja .u64 w (8 * (k : Int)))
def bx (l : List Int) (i k : Nat) (j : Nat) : Int := if j / 8 < i ∨ (j / 8 = i ∧ j % 8 < k) then GU (l.getD (j / 8) 0) (j % 8) else 0
def Bl (r : Int) : Int := jM .u32 (ja .u32 r 1) (ie .u32 3988292384 (IntKind.u32.wrap (0 - ie .u32 r 1)))
def pX : Nat → Int → Int
 | 0, r => r
 | n + 1, r => Bl (pX n r)
def ke (r : Int) : List Int → Int
 | [] => r
 | b :: l => ke (pX 8 (jM .u32 r (IntKind.u32.wrap b))) l
theorem Ig (r : Int) (l : List Int) (b : Int) : ke r (l ++ [b]) = pX 8 (jM .u32 (ke r l) (IntKind.u32.wrap b)) := by
 induction l generalizing r with
 | nil => rfl
 | cons a l ih => exact ih _
theorem Kd {l : List Int} (L : List Blk) (hp : List Blk) (i : Nat) (hi : i < 8) :
 rc D L.length (.loop [2, 3, 4, 5, 7, 8, 12] kY) [(2, .ptr (.loc (L.length + 1)) [] 108), (3, .ptr (.loc (L.length + 2)) [] 108), (4, .int .i64 i), (5, .int .u64 (l.getD i 0)), (7, lnV l), (8, .int .i64 i), (12, .int .i64 0)] ⟨L ++ [.rw (lnV l), .rw (.agg 108 (List.replicate 64 (.int .u8 0))), .rw (.agg 108 (tab 64 fun j => .int .u8 (bx l i 0 j)))], hp⟩ =
  some (.exit 2, [(2, .ptr (.loc (L.length + 1)) [] 108), (3, .ptr (.loc (L.length + 2)) [] 108), (4, .int .i64 i), (5, .int .u64 (l.getD i 0)), (7, lnV l), (8, .int .i64 i), (12, .int .i64 8), (13, .bool false)], ⟨L ++ [.rw (lnV l), .rw (.agg 108 (List.replicate 64 (.int .u8 0))), .rw (.agg 108 (tab 64 fun j => .int .u8 (bx l i 8 j)))], hp⟩) := by
 refine aH (fun k : Nat => [(2, .ptr (.loc (L.length + 1)) [] 108), (3, .ptr (.loc (L.length + 2)) [] 108), (4, .int .i64 i), (5, .int .u64 (l.getD i 0)), (7, lnV l), (8, .int .i64 i), (12, .int .i64 k)]) (fun k => ⟨L ++ [.rw (lnV l), .rw (.agg 108 (List.replicate 64 (.int .u8 0))), .rw (.agg 108 (tab 64 fun j => .int .u8 (bx l i k j)))], hp⟩) (fun _ => _) (fun k => 8 - k) (fun k => k ≤ 8) 0 ?_ (by omega) rfl rfl;intro k hk;by_cases c1 : k < 8
 ·left;have d1 : (k : Int) < 8 := by omega
  have d4 : IntKind.i64.wrap ((k : Int) + 1) = (k : Int) + 1 := ag (by omega) (by omega);have e1 : IntKind.i64.wrap (8 * (i : Int)) = 8 * i := ag (by omega) (by omega);have e2 : IntKind.i64.wrap (8 * (k : Int)) = 8 * k := ag (by omega) (by omega);have e3 : IntKind.i64.wrap (8 * (i : Int) + k) = ((8 * i + k : Nat) : Int) := by rw [ag (by omega) (by omega)]; omega
  have e4 : ¬ (8 * (k : Int)) < 0 := by omega
  have e5 : ((8 * i + k : Nat) : Int) < 64 := by omega
  have e6 : (0 : Int) ≤ ((8 * i + k : Nat) : Int) := by omega
  have hup : (tab 64 fun j => V.int .u8 (bx l i k j)).set (8 * i + k) (.int .u8 (IntKind.u8.wrap (ja .u64 (l.getD i 0) (8 * (k : Int))))) = tab 64 fun j => V.int .u8 (bx l i (k + 1) j) := by
   rw [bw];apply aP;intro j hj;unfold upd;by_cases e : j = 8 * i + k
   ·subst e;rw [if_pos rfl];unfold bx;rw [show (8 * i + k) / 8 = i by omega, show (8 * i + k) % 8 = k by omega, if_pos (.inr ⟨rfl, by omega⟩)];rfl
   ·rw [if_neg e];unfold bx;by_cases h : j / 8 < i ∨ (j / 8 = i ∧ j % 8 < k)
    ·show V.int .u8 _ = V.int .u8 _;rw [if_pos h, if_pos (by omega)]
    ·show V.int .u8 _ = V.int .u8 _;rw [if_neg h, if_neg (by omega)]
  have g1 := ai (f := fun j => V.int .u8 (bx l i k j)) (show 8 * i + k < 64 by omega);have z3 : L.length + 1 < L.length + 3 := by omega
  have z4 : L.length + 2 < L.length + 3 := by omega
  refine ⟨k + 1, by omega, by omega, rfl, ?_⟩;rw [← hup];simp only [lnV] at *;generalize (tab 64 fun j => V.int .u8 (bx l i k j)) = T at *;generalize List.replicate 64 (V.int .u8 0) = T0 at *;generalize l.getD i 0 = w at *;simp only [go_sem, kY, d1, d4, e1, e2, e3, e4, e5, e6];rw [Int.toNat_natCast];simp only [go_sem, g1, d4, z3, z4];rfl
 ·right;have : k = 8 := by omega
  subst this;simp only [lnV];simp only [go_sem, kY]
theorem zE {l : List Int} (hl : l.length = 8) (s : St) : rf D qi [lnV l] s = some (.agg 108 (tab 64 fun j => .int .u8 (bx l 8 0 j)), s) := by
 have hb0 : (tab 64 fun j => V.int .u8 (bx l 0 0 j)) = List.replicate 64 (.int .u8 0) := by
  rw [dk]; apply aP; intro j _; unfold bx; rw [if_neg (by omega)]
 have hstep : ∀ i, (tab 64 fun j => V.int .u8 (bx l i 8 j)) = tab 64 fun j => V.int .u8 (bx l (i + 1) 0 j) := fun i => by
  apply aP; intro j _;unfold bx;by_cases h : j / 8 < i + 1
  ·rw [if_pos (by omega), if_pos (.inl h)]
  ·rw [if_neg (by omega), if_neg (by omega)]
 have loop : rc D s.loc.length (.loop [2, 3, 7, 8] kS) [(2, .ptr (.loc (s.loc.length + 1)) [] 108), (3, .ptr (.loc (s.loc.length + 2)) [] 108), (7, lnV l), (8, .int .i64 0)] ⟨s.loc ++ [.rw (lnV l), .rw (.agg 108 (List.replicate 64 (.int .u8 0))), .rw (.agg 108 (tab 64 fun j => .int .u8 (bx l 0 0 j)))], s.hp⟩ =
  some (.exit 0, [(2, .ptr (.loc (s.loc.length + 1)) [] 108), (3, .ptr (.loc (s.loc.length + 2)) [] 108), (7, lnV l), (8, .int .i64 8), (9, .bool false)], ⟨s.loc ++ [.rw (lnV l), .rw (.agg 108 (List.replicate 64 (.int .u8 0))), .rw (.agg 108 (tab 64 fun j => .int .u8 (bx l 8 0 j)))], s.hp⟩) := by
  refine aH (fun i : Nat => [(2, .ptr (.loc (s.loc.length + 1)) [] 108), (3, .ptr (.loc (s.loc.length + 2)) [] 108), (7, lnV l), (8, .int .i64 i)]) (fun i => ⟨s.loc ++ [.rw (lnV l), .rw (.agg 108 (List.replicate 64 (.int .u8 0))), .rw (.agg 108 (tab 64 fun j => .int .u8 (bx l i 0 j)))], s.hp⟩) (fun _ => _) (fun i => 8 - i) (fun i => i ≤ 8) 0 ?_ (by omega) rfl rfl;intro i hi;by_cases c1 : i < 8
  ·left;have d1 : (i : Int) < 8 := by omega
   have d2 : (0 : Int) ≤ i := by omega
   have d4 : IntKind.i64.wrap ((i : Int) + 1) = (i : Int) + 1 := ag (by omega) (by omega);have hin := Kd (l := l) s.loc s.hp i c1;have g := aK (f := V.int .u64) (l := l) (i := i) (by omega) 0;have z3 : s.loc.length + 1 < s.loc.length + 3 := by omega
   have z4 : s.loc.length + 2 < s.loc.length + 3 := by omega
   refine ⟨i + 1, by omega, by omega, rfl, ?_⟩;rw [hstep] at hin;simp only [lnV] at *;generalize (tab 64 fun j => V.int .u8 (bx l i 0 j)) = T at *;generalize (tab 64 fun j => V.int .u8 (bx l (i + 1) 0 j)) = T1 at *;generalize List.replicate 64 (V.int .u8 0) = T0 at *;generalize l.getD i 0 = w at *;simp only [go_sem, kS, d1, d2, d4, Int.toNat_natCast, g, hin, z3, z4];rfl
  ·right;have : i = 8 := by omega
   subst this;simp only [lnV];simp only [go_sem, kS]
 rw [hb0] at loop;simp only [lnV] at *;rw [aa Be rfl];simp only [go_sem, loop]
theorem OC (L hp : List Blk) (v : V) (m i : Int) (r : Int) (base : Nat) (hv : v.locLt L.length = true) (hL : (L.drop base).all (bu L.length) = true) :
 rc D base (.loop [5, 10, 11, 12, 20] nl) [(5, .int .u32 r), (10, v), (11, .int .i64 m), (12, .int .i64 i), (20, .int .i64 0)] ⟨L, hp⟩ = some (.exit 2, [(5, .int .u32 (pX 8 r)), (10, v), (11, .int .i64 m), (12, .int .i64 i), (20, .int .i64 8), (21, .bool false)], ⟨L, hp⟩) := by
 refine aH (fun k : Nat => [(5, .int .u32 (pX k r)), (10, v), (11, .int .i64 m), (12, .int .i64 i), (20, .int .i64 k)]) (fun _ => ⟨L, hp⟩) (fun _ => _) (fun k => 8 - k) (fun k => k ≤ 8) 0 ?_ (by omega) rfl rfl;intro k hk;by_cases c1 : k < 8
 ·left;have d1 : (k : Int) < 8 := by omega
  have d4 : IntKind.i64.wrap ((k : Int) + 1) = (k : Int) + 1 := ag (by omega) (by omega);have d5 : ¬ (1 : Int) < 0 := by omega
  refine ⟨k + 1, by omega, by omega, rfl, ?_⟩;rw [show pX (k + 1) r = Bl (pX k r) from rfl]
  generalize pX k r = q;simp only [Bl];simp only [go_sem, nl, d1, d4, d5, hv, hL];rfl
 ·right;have : k = 8 := by omega
  subst this;simp only [go_sem, nl]
def eK (r : Int) : Int := jM .u32 (if IntKind.u32.signed then -1 else IntKind.u32.max) r
theorem Hj {r : Int} {bs : List Int} {i : Nat} (hi : i < bs.length) : ke r (bs.take (i + 1)) = pX 8 (jM .u32 (ke r (bs.take i)) (IntKind.u32.wrap (bs.getD i 0))) := by
 rw [List.take_succ_eq_append_getElem hi, Ig, List.getD_eq_getElem?_getD, List.getElem?_eq_getElem hi]; rfl
theorem Cu {L hp : List Blk} {v : V} {bs : List Int} (hv : RS ⟨L, hp⟩ 12 v (bs.map (.int .u8))) (hl : bs.length < 1000) (r : Int) :
 rf D sJ [.int .u32 r, v] ⟨L, hp⟩ = some (.int .u32 (eK (ke (eK r) bs)), ⟨L, hp⟩) := by
 have hsl : V.slen false v = some bs.length := by
  have := hv.slen
  rwa [List.length_map] at this
 have hvl : v.locLt L.length = true := hv.locLt;have loop : rc D L.length (.loop [5, 10, 11, 12] m8) [(5, .int .u32 (eK r)), (10, v), (11, .int .i64 bs.length), (12, .int .i64 0)] ⟨L, hp⟩ =
  some (.exit 0, [(5, .int .u32 (ke (eK r) bs)), (10, v), (11, .int .i64 bs.length), (12, .int .i64 bs.length), (13, .bool false)], ⟨L, hp⟩) := by
  have hend : ke (eK r) (bs.take bs.length) = ke (eK r) bs := by rw [List.take_length]
  rw [← hend];refine aH (fun i : Nat => [(5, .int .u32 (ke (eK r) (bs.take i))), (10, v), (11, .int .i64 bs.length), (12, .int .i64 i)]) (fun _ => ⟨L, hp⟩) (fun _ => _) (fun i => bs.length - i) (fun i => i ≤ bs.length) 0 ?_ (by omega) rfl rfl;intro i hi;by_cases c1 : i < bs.length
  ·left;have d1 : (i : Int) < bs.length := by omega
   have d4 : IntKind.i64.wrap ((i : Int) + 1) = (i : Int) + 1 := ag (by omega) (by omega);have hg := aK (f := V.int .u8) (l := bs) (i := i) c1 0;have hs := hv.sadq hg (k := .i64);have hld : ldv ⟨L, hp⟩ 12 (elq v i [] 12) = V.at [] (.int .u8 (bs.getD i 0)) := hv.ldq hg;have hin := fun q => OC L hp v bs.length i q L.length hvl (by rw [List.drop_length]; rfl);refine ⟨i + 1, by omega, by omega, rfl, ?_⟩;rw [Hj c1];generalize ke (eK r) (bs.take i) = q at *;generalize bs.getD i 0 = b at *;simp only [go_sem, m8, d1, hs, hld];simp only [go_sem, hin, d4, hvl];rfl
  ·right;have : i = bs.length := by omega
   subst this;have d1 : ¬ (bs.length : Int) < bs.length := by omega
   simp only [go_sem, m8, d1]
 rw [aa FT rfl];simp only [eK] at *;simp only [go_sem, hsl, loop]
theorem Em {L hp : List Blk} {v : V} {bs : List Int} (hv : RS ⟨L, hp⟩ 12 v (bs.map (.int .u8))) (hl : bs.length < 1000) : rf D tF [v] ⟨L, hp⟩ = some (.int .u32 (eK (ke (eK 0) bs)), ⟨L, hp⟩) := by
 have h := Cu hv hl 0;rw [aa HM rfl];simp only [go_sem, h]
def EC (l : List Int) : Int := ior .u64 4294967296 (IntKind.u64.wrap (eK (ke (eK 0) ((List.range 56).map (bx l 8 0)))))
def pA (l : List Int) : List Int := l.set 7 (EC l)
theorem tG (l : List Int) : (pA l).length = l.length := by unfold pA; rw [List.length_set]
theorem qJ {l : List Int} (hl : l.length = 8) (s : St) : rf D sL [lnV l] s = some (lnV (pA l), s) := by
 have hb := fun L => zE hl ⟨s.loc ++ L, s.hp⟩;have hrs : RS ⟨s.loc ++ [.rw (lnV l), .rw (.agg 24 (List.replicate 8 (.int .u64 0))), .rw (.agg 108 (tab 64 fun j => .int .u8 (bx l 8 0 j)))], s.hp⟩ 12 (.sl (.loc (s.loc.length + 2)) [] 0 56 (some 64) 12) (((List.range 56).map (bx l 8 0)).map (.int .u8)) := by
  refine .inr ⟨.loc (s.loc.length + 2), [], 0, some 64, by simp, fun c hc => by cases hc; simp, by simp [V.locLt], .inr ⟨108, tab 64 fun j => .int .u8 (bx l 8 0 j), ?_, fun j x hx => ?_⟩⟩
  ·simp only [go_sem]
  ·have hj : j < 56 := by
    have := (List.getElem?_eq_some_iff.1 hx).1;simpa using this
   rw [Nat.zero_add, ai (by omega)];simpa [hj] using hx
 have hm := Em hrs (by simp);have g7 : (l.map (V.int .u64))[7]? = some (.int .u64 (l.getD 7 0)) := aK (by omega) 0;unfold pA EC;generalize (List.range 56).map (bx l 8 0) = bs at *;have hst : (l.map (V.int .u64)).set 7 (.int .u64 (ior .u64 4294967296 (IntKind.u64.wrap (eK (ke (eK 0) bs))))) = (l.set 7 (ior .u64 4294967296 (IntKind.u64.wrap (eK (ke (eK 0) bs))))).map (.int .u64) := by rw [List.map_set]
 generalize eK (ke (eK 0) bs) = cc at *;simp only [lnV] at *;rw [← hst];generalize (tab 64 fun j => V.int .u8 (bx l 8 0 j)) = T at *;rw [aa EG rfl];simp only [go_sem, hb];simp only [go_sem, hm, g7]
end Go.Proofs.YtmimfopnhmmlbaaGreatDoor
namespace Go.Proofs.YtmimfopnhmmlbaaGreatDoor
open Go.Ab
def win (n a b : Int) : Bool := decide (a ≤ n) && decide (n ≤ b)
theorem xD (n a b : Int) (s : St) : rf D n9 [.int .i64 n, .int .i64 a, .int .i64 b] s = some (.bool (win n a b), s) := by
 unfold win;rw [aa ye rfl];by_cases h1 : a ≤ n
 ·have h1' : n ≥ a := h1;simp only [go_sem, h1, h1', decide_true]
 ·have h1' : ¬ n ≥ a := h1;simp only [go_sem, h1, h1', decide_false]
def eN (e : Ent) : Bool := win e.kind 0 4 && win e.ver 0 16777215 && win e.line 0 1023 && !(decide (e.kind = 0) && decide (e.line ≠ 0))
def tw (e : Ent) : Int := ior .u64 (ior .u64 (IntKind.u64.wrap e.kind) (sg .u64 (IntKind.u64.wrap e.ver) 4)) (sg .u64 (IntKind.u64.wrap e.line) 28)
def Ah (e : Ent) : Int × Int := if eN e = true then (tw e, 0) else (0, 1)
theorem zM (e : Ent) (s : St) : rf D pS [e.v] s = some (.tup [.int .u64 (Ah e).1, .int .i64 (Ah e).2], s) := by
 have h := xD;have d4 : ¬ (4 : Int) < 0 := by omega
 have d28 : ¬ (28 : Int) < 0 := by omega
 obtain ⟨k, v, l⟩ := e;unfold Ah eN tw;simp only [Ent.v];rw [aa B6 rfl];generalize hA : win k 0 4 = A;generalize hB : win v 0 16777215 = B;generalize hC : win l 0 1023 = C;cases A
 ·simp only [go_sem, h, hA]
 ·cases B
  ·simp only [go_sem, h, hA, hB]
  ·cases C
   ·simp only [go_sem, h, hA, hB, hC]
   ·by_cases hk : k = 0
    ·by_cases hl : l = 0
     ·subst hk; subst hl;simp only [go_sem, h, hA, hB, hC, d4, d28, decide_true, decide_false]
     ·subst hk;simp only [go_sem, h, hA, hB, hC, hl, d4, d28, decide_true, decide_false]
    ·simp only [go_sem, h, hA, hB, hC, hk, d4, d28, decide_true, decide_false]
def lfL (t : Nat → Ent) (k i : Nat) : List Int := (List.range 8).map fun j => if j < i then tw (t (7 * k + j)) else 0
theorem yA (t : Nat → Ent) (k i : Nat) : (lfL t k i).length = 8 := by simp [lfL]
theorem NO {t : Nat → Ent} {k i : Nat} (hi : i < 7) : (lfL t k i).set i (tw (t (7 * k + i))) = lfL t k (i + 1) := by
 apply List.ext_getElem?;intro j;unfold lfL;by_cases e : i = j
 ·subst e;rw [List.getElem?_set_self (by simp; omega)];simp [show i < 8 by omega]
 ·rw [List.getElem?_set_ne e];simp only [List.getElem?_map];by_cases hj : j < 8
  ·simp only [List.getElem?_range hj, Option.map_some];by_cases h : j < i
   ·rw [if_pos h, if_pos (by omega)]
   ·rw [if_neg h, if_neg (by omega)]
  ·rw [List.getElem?_eq_none (by simp; omega)]; rfl
theorem K8 (t : Nat → Ent) (k : Nat) : lfL t k 0 = zl := rfl
def kL (t : Nat → Ent) (k i n : Nat) : Bool := (List.range n).all fun j => eN (t (7 * k + (i + j)))
def cY (t : Nat → Ent) (k : Nat) : List Int := if kL t k 0 7 = true then pA (lfL t k 7) else zl
theorem tR (t : Nat → Ent) (k : Nat) : (cY t k).length = 8 := by
 unfold cY;split
 ·rw [tG, yA]
 ·rfl
theorem vj (t : Nat → Ent) (k i n : Nat) : kL t k i (n + 1) = (eN (t (7 * k + i)) && kL t k (i + 1) n) := by
 unfold kL;rw [List.range_succ_eq_map, List.all_cons, List.all_map];congr 2;funext j;simp only [Function.comp, Nat.succ_eq_add_one];rw [show i + (j + 1) = i + 1 + j by omega]
theorem zt (t : Nat → Ent) {k : Nat} (hk : k < 7) (L hp : List Blk) : ∀ (n i : Nat), i + n = 7 → ∃ r,
 rc D L.length (.loop [1, 2, 4, 6, 17] iM) [(1, .int .i64 k), (2, .ptr (.loc L.length) [] 48), (4, .ptr (.loc (L.length + 1)) [] 24), (6, .ptr (.loc (L.length + 2)) [] 24), (17, .int .i64 i)] ⟨L ++ [.rw (ab t), .rw (lnV zl), .rw (lnV (lfL t k i))], hp⟩ = some r ∧
 ((kL t k i n = true ∧ r = (.exit 0, [(1, .int .i64 k), (2, .ptr (.loc L.length) [] 48), (4, .ptr (.loc (L.length + 1)) [] 24), (6, .ptr (.loc (L.length + 2)) [] 24), (17, .int .i64 7), (18, .bool false)], ⟨L ++ [.rw (ab t), .rw (lnV zl), .rw (lnV (lfL t k 7))], hp⟩)) ∨
  (kL t k i n = false ∧ ∃ X, r = (.ret, [(4, .ptr (.loc (L.length + 1)) [] 24), (5, .int .i64 1)], ⟨L ++ [.rw (ab t), .rw (lnV zl), X], hp⟩)))
 | 0, i, hi => by
  have : i = 7 := by omega
  subst this;refine ⟨_, ?_, .inl ⟨rfl, rfl⟩⟩;rw [ak];simp only [ab, lnV];simp only [go_sem, iM]
 | n + 1, i, hi => by
  have d1 : (i : Int) < 7 := by omega
  have d2 : (0 : Int) ≤ i := by omega
  have d3 : (i : Int) < 8 := by omega
  have d4 : IntKind.i64.wrap ((i : Int) + 1) = ((i + 1 : Nat) : Int) := ag (by omega) (by omega);have e1 : IntKind.i64.wrap (7 * (k : Int)) = 7 * k := ag (by omega) (by omega);have e3 : IntKind.i64.wrap (7 * (k : Int) + i) = ((7 * k + i : Nat) : Int) := by rw [ag (by omega) (by omega)]; omega
  have e5 : ((7 * k + i : Nat) : Int) < 49 := by omega
  have e6 : (0 : Int) ≤ ((7 * k + i : Nat) : Int) := by omega
  have g1 := ai (f := fun j => (t j).v) (show 7 * k + i < 49 by omega);have hw := fun s => zM (t (7 * k + i)) s;have g2 : ((lfL t k i).map (V.int .u64))[i]? = some (.int .u64 ((lfL t k i).getD i 0)) := aK (by rw [yA]; omega) 0;rw [vj];cases hb : eN (t (7 * k + i))
  ·refine ⟨_, ?_, .inr ⟨by rw [Bool.false_and], .rw (lnV (lfL t k i)), rfl⟩⟩;unfold Ah at hw;rw [hb, if_neg (by simp)] at hw;have hz : (zl.map (V.int .u64)) = List.replicate 8 (.int .u64 0) := rfl;rw [ak];simp only [ab, lnV, Ent.v, hz] at *;generalize (tab 49 fun j => V.agg 42 [.int .i64 (t j).kind, .int .i64 (t j).ver, .int .i64 (t j).line]) = T at *;generalize 7 * k + i = p at *;generalize (lfL t k i).map (V.int .u64) = LF at *;simp only [go_sem, iM, d1, e1, e3, e5, e6, Int.toNat_natCast, g1, hw]
  ·obtain ⟨r, q1, q2⟩ := zt t hk L hp n (i + 1) (by omega);refine ⟨r, ?_, by rw [Bool.true_and]; exact q2⟩;unfold Ah at hw;rw [hb, if_pos rfl] at hw;have hs : ((lfL t k i).map (V.int .u64)).set i (.int .u64 (tw (t (7 * k + i)))) = (lfL t k (i + 1)).map (V.int .u64) := by rw [← NO (by omega), List.map_set]
   have z1 : L.length < L.length + 3 := by omega
   have z3 : L.length + 1 < L.length + 3 := by omega
   have z4 : L.length + 2 < L.length + 3 := by omega
   rw [← q1, ak];simp only [ab, lnV, Ent.v] at *;rw [← hs];generalize (tab 49 fun j => V.agg 42 [.int .i64 (t j).kind, .int .i64 (t j).ver, .int .i64 (t j).line]) = T at *;generalize tw (t (7 * k + i)) = w at *;generalize 7 * k + i = p at *;generalize (lfL t k i).map (V.int .u64) = LF at *;generalize (lfL t k i).getD i 0 = w0 at *;simp only [go_sem, iM, d1, d2, d3, d4, e1, e3, e5, e6, Int.toNat_natCast, g1, g2, hw, z1, z3, z4]
theorem td (t : Nat → Ent) {k : Nat} (hk : k < 7) (s : St) : ∃ e, rf D ni [ab t, .int .i64 k] s = some (.tup [lnV (cY t k), .int .i64 e], s) := by
 obtain ⟨r, q1, q2⟩ := zt t hk s.loc s.hp 7 0 rfl;have d1 : ¬ (k : Int) < 0 := by omega
 have d2 : ¬ (k : Int) ≥ 7 := by omega
 rw [show ((0 : Nat) : Int) = 0 from rfl, K8] at q1
 have hseal := fun s => qJ (yA t k 7) s;have hz : (zl.map (V.int .u64)) = List.replicate 8 (.int .u64 0) := rfl;unfold cY;rcases q2 with ⟨c, rfl⟩ | ⟨c, X, rfl⟩
 ·refine ⟨0, ?_⟩;rw [c, if_pos rfl];simp only [ab, lnV, hz] at *;rw [aa tX rfl];simp only [go_sem, d1, d2, q1];simp only [go_sem, hseal]
 ·refine ⟨1, ?_⟩;rw [c, if_neg (by simp)];simp only [ab, lnV, hz] at *;rw [aa tX rfl];simp only [go_sem, d1, d2, q1]
end Go.Proofs.YtmimfopnhmmlbaaGreatDoor
namespace Go.Proofs.YtmimfopnhmmlbaaGreatDoor
open Go.Ab
def rlL (d : Nat → Int) (i : Nat) : List Int := (List.range 8).map fun j => if j < i then ior .u64 4294967296 (IntKind.u64.wrap (d j)) else 0
theorem yH (d : Nat → Int) (i : Nat) : (rlL d i).length = 8 := by simp [rlL]
theorem M5 {d : Nat → Int} {i : Nat} (hi : i < 7) : (rlL d i).set i (ior .u64 4294967296 (IntKind.u64.wrap (d i))) = rlL d (i + 1) := by
 apply List.ext_getElem?;intro j;unfold rlL;by_cases e : i = j
 ·subst e;rw [List.getElem?_set_self (by simp; omega)];simp [show i < 8 by omega]
 ·rw [List.getElem?_set_ne e];simp only [List.getElem?_map];by_cases hj : j < 8
  ·simp only [List.getElem?_range hj, Option.map_some];by_cases h : j < i
   ·rw [if_pos h, if_pos (by omega)]
   ·rw [if_neg h, if_neg (by omega)]
  ·rw [List.getElem?_eq_none (by simp; omega)]; rfl
def kN (d : Nat → Int) (i n : Nat) : Bool := (List.range n).all fun j => decide (0 ≤ d (i + j)) && decide (d (i + j) < 1024)
def dL (d : Nat → Int) : List Int := if kN d 0 7 = true then pA (rlL d 7) else zl
theorem t5 (d : Nat → Int) : (dL d).length = 8 := by
 unfold dL;split
 ·rw [tG, yH]
 ·rfl
theorem vk (d : Nat → Int) (i n : Nat) : kN d i (n + 1) = ((decide (0 ≤ d i) && decide (d i < 1024)) && kN d (i + 1) n) := by
 unfold kN;rw [List.range_succ_eq_map, List.all_cons, List.all_map];congr 2;funext j;simp only [Function.comp, Nat.succ_eq_add_one];rw [show i + (j + 1) = i + 1 + j by omega]
def d7V (d : Nat → Int) : V := .agg 60 (tab 7 fun i => .int .i64 (d i))
theorem zr (d : Nat → Int) (L hp : List Blk) (u : Blk) : ∀ (n i : Nat), i + n = 7 → ∃ r,
 rc D L.length (.loop [2, 4, 7, 8] fS) [(2, .ptr (.loc (L.length + 1)) [] 24), (4, .ptr (.loc (L.length + 2)) [] 24), (7, d7V d), (8, .int .i64 i)] ⟨L ++ [.rw (d7V d), .rw (lnV zl), .rw (lnV (rlL d i))], hp⟩ = some r ∧
 ((kN d i n = true ∧ r = (.exit 0, [(2, .ptr (.loc (L.length + 1)) [] 24), (4, .ptr (.loc (L.length + 2)) [] 24), (7, d7V d), (8, .int .i64 7), (9, .bool false)], ⟨L ++ [.rw (d7V d), .rw (lnV zl), .rw (lnV (rlL d 7))], hp⟩)) ∨
  (kN d i n = false ∧ ∃ X, r = (.ret, [(2, .ptr (.loc (L.length + 1)) [] 24), (3, .int .i64 1)], ⟨L ++ [.rw (d7V d), .rw (lnV zl), X], hp⟩)))
 | 0, i, hi => by
  have : i = 7 := by omega
  subst this;refine ⟨_, ?_, .inl ⟨rfl, rfl⟩⟩;rw [ak];simp only [d7V, lnV];simp only [go_sem, fS]
 | n + 1, i, hi => by
  have d1 : (i : Int) < 7 := by omega
  have d2 : (0 : Int) ≤ i := by omega
  have d3 : (i : Int) < 8 := by omega
  have d4 : IntKind.i64.wrap ((i : Int) + 1) = ((i + 1 : Nat) : Int) := ag (by omega) (by omega);have g1 := ai (f := fun j => V.int .i64 (d j)) (show i < 7 by omega);have g2 : ((rlL d i).map (V.int .u64))[i]? = some (.int .u64 ((rlL d i).getD i 0)) := aK (by rw [yH]; omega) 0;have z1 : L.length < L.length + 3 := by omega
  have z3 : L.length + 1 < L.length + 3 := by omega
  have z4 : L.length + 2 < L.length + 3 := by omega
  have hs : ((rlL d i).map (V.int .u64)).set i (.int .u64 (ior .u64 4294967296 (IntKind.u64.wrap (d i)))) = (rlL d (i + 1)).map (V.int .u64) := by rw [← M5 (by omega), List.map_set]
  rw [vk];by_cases h0 : d i < 0
  ·refine ⟨_, ?_, .inr ⟨by rw [decide_eq_false (show ¬ 0 ≤ d i by omega)]; rfl, .rw (lnV (rlL d i)), rfl⟩⟩;have hz : (zl.map (V.int .u64)) = List.replicate 8 (.int .u64 0) := rfl;rw [ak];simp only [d7V, lnV, hz] at *;generalize (tab 7 fun j => V.int .i64 (d j)) = T at *;generalize (rlL d i).map (V.int .u64) = LF at *;simp only [go_sem, fS, d1, d2, Int.toNat_natCast, g1, h0]
  ·by_cases h1 : d i < 1024
   ·obtain ⟨r, q1, q2⟩ := zr d L hp u n (i + 1) (by omega);refine ⟨r, ?_, by rw [decide_eq_true (show 0 ≤ d i by omega), decide_eq_true h1]; exact q2⟩;have h1' : ¬ d i ≥ 1024 := by omega
    rw [← q1, ak];simp only [d7V, lnV] at *;rw [← hs];generalize (tab 7 fun j => V.int .i64 (d j)) = T at *;generalize (rlL d i).map (V.int .u64) = LF at *;generalize (rlL d i).getD i 0 = w0 at *;generalize d i = di at *;simp only [go_sem, fS, d1, d2, d3, d4, Int.toNat_natCast, g1, g2, h0, h1', z1, z3, z4]
   ·refine ⟨_, ?_, .inr ⟨by rw [decide_eq_false h1, Bool.and_false]; rfl, .rw (lnV (rlL d i)), rfl⟩⟩;have hz : (zl.map (V.int .u64)) = List.replicate 8 (.int .u64 0) := rfl;have h1' : d i ≥ 1024 := by omega
    rw [ak];simp only [d7V, lnV, hz] at *;generalize (tab 7 fun j => V.int .i64 (d j)) = T at *;generalize (rlL d i).map (V.int .u64) = LF at *;generalize d i = di at *;simp only [go_sem, fS, d1, d2, Int.toNat_natCast, g1, h0, h1']
theorem sU (d : Nat → Int) (s : St) : ∃ e, rf D m9 [d7V d] s = some (.tup [lnV (dL d), .int .i64 e], s) := by
 obtain ⟨r, q1, q2⟩ := zr d s.loc s.hp .dead 7 0 rfl;have h0 : rlL d 0 = zl := rfl;rw [show ((0 : Nat) : Int) = 0 from rfl, h0] at q1
 have hseal := fun s => qJ (yH d 7) s;have hz : (zl.map (V.int .u64)) = List.replicate 8 (.int .u64 0) := rfl;unfold dL;rcases q2 with ⟨c, rfl⟩ | ⟨c, X, rfl⟩
 ·refine ⟨0, ?_⟩;rw [c, if_pos rfl];simp only [d7V, lnV, hz] at *;rw [aa ui rfl];simp only [go_sem, q1];simp only [go_sem, hseal]
 ·refine ⟨1, ?_⟩;rw [c, if_neg (by simp)];simp only [d7V, lnV, hz] at *;rw [aa ui rfl];simp only [go_sem, q1]
def qy (a b : Ent) : Bool := decide (a.kind = b.kind) && (decide (a.ver = b.ver) && decide (a.line = b.line))
theorem HW {a b : Ent} : qy a b = true ↔ a = b := by
 obtain ⟨k, v, l⟩ := a;obtain ⟨k', v', l'⟩ := b;simp [qy]
theorem Dp (a b : Ent) : veq a.v b.v = some (qy a b) := by
 simp only [Ent.v, veq, cg, qy];by_cases h1 : a.kind = b.kind <;> by_cases h2 : a.ver = b.ver <;> by_cases h3 : a.line = b.line <;> simp [h1, h2, h3]
def kP (f g : Nat → Ent) : List Nat → Bool
 | [] => true
 | i :: l => qy (f i) (g i) && kP f g l
theorem zv (f g : Nat → Ent) : ∀ l : List Nat, cg (l.map fun i => (f i).v) (l.map fun i => (g i).v) = some (kP f g l)
 | [] => rfl
 | i :: l => by
  simp only [List.map_cons, cg, Dp, kP];cases qy (f i) (g i)
  ·rfl
  ·rw [zv f g l]; rfl
theorem yS {f g : Nat → Ent} : ∀ {l : List Nat}, kP f g l = true ↔ ∀ i ∈ l, f i = g i
 | [] => by simp [kP]
 | i :: l => by simp [kP, HW, yS (l := l)]
def rX (t u : Nat → Ent) (k : Nat) : Bool := !kP (fun i => t (7 * k + i)) (fun i => u (7 * k + i)) (List.range 7)
def bH (t u : Nat → Ent) : Nat → List Int
 | 0 => []
 | k + 1 => if rX t u k = true then bH t u k ++ [(k : Int)] else bH t u k
theorem ms (t u : Nat → Ent) : ∀ k, (bH t u k).length ≤ k
 | 0 => Nat.le_refl _
 | k + 1 => by
  have := ms t u k;simp only [bH];split
  ·simp; omega
  ·omega
theorem uX (t u : Nat → Ent) : ∀ k, ∀ x ∈ bH t u k, 0 ≤ x ∧ x < k
 | 0, x, h => by cases h
 | k + 1, x, h => by
  simp only [bH] at h;split at h
  ·rw [List.mem_append, List.mem_singleton] at h;rcases h with h | h
   ·have := uX t u k x h; omega
   ·omega
  ·have := uX t u k x h; omega
theorem AU {n a m : Nat} {f : Nat → V} (h : a + m ≤ n) : ((tab n f).drop a).take m = tab m fun i => f (a + i) := by
 apply List.ext_getElem?;intro j;by_cases hj : j < m
 ·rw [List.getElem?_take, if_pos hj, List.getElem?_drop, ai (by omega), ai hj]
 ·rw [List.getElem?_take, if_neg hj, List.getElem?_eq_none (by rw [bt]; omega)]
theorem Az {s : St} {a : Ab.Loc} {t n m k : Nat} {f : Nat → V} (hr : s.read a [] = some (.agg t (tab n f))) (h : k + m ≤ n) : s.part m t a [k] = some (tab m fun i => f (k + i)) := by
 unfold St.part;show (match s.read a [] with | some (.agg u' l) => if u' = t ∧ [k] ≠ [] ∧ k + m ≤ l.length then some ((l.drop k).take m) else none | _ => none) = _
 rw [hr];simp only;have hc : True ∧ [k] ≠ [] ∧ k + m ≤ (tab n f).length := ⟨trivial, by simp, by rw [bt]; exact h⟩;rw [if_pos hc, AU h]
theorem xB (t u : Nat → Ent) (s : St) : ∃ X v, Apd s.hp X v (bH t u 7) ∧ rf D oa [ab t, ab u] s = some (v, ⟨s.loc, s.hp ++ X⟩) := by
 have loop : ∃ r, rc D s.loc.length (.loop [2, 3, 5, 7] fW) [(2, .ptr (.loc s.loc.length) [] 48), (3, .ptr (.loc (s.loc.length + 1)) [] 48), (5, .nils), (7, .int .i64 0)] ⟨s.loc ++ [.rw (ab t), .rw (ab u)], s.hp⟩ = some r ∧
  ∃ X v, Apd s.hp X v (bH t u 7) ∧ r = (.exit 0, [(2, .ptr (.loc s.loc.length) [] 48), (3, .ptr (.loc (s.loc.length + 1)) [] 48), (5, v), (7, .int .i64 7), (8, .bool false)], ⟨s.loc ++ [.rw (ab t), .rw (ab u)], s.hp ++ X⟩) := by
  refine gI (fun x : Nat × List Blk × V => [(2, .ptr (.loc s.loc.length) [] 48), (3, .ptr (.loc (s.loc.length + 1)) [] 48), (5, x.2.2), (7, .int .i64 x.1)]) (fun x => ⟨s.loc ++ [.rw (ab t), .rw (ab u)], s.hp ++ x.2.1⟩) _ (fun x => 7 - x.1)
   (fun x => x.1 ≤ 7 ∧ Apd s.hp x.2.1 x.2.2 (bH t u x.1)) (0, [], .nils) ?_ ⟨by simp only; omega, ⟨.inl ⟨rfl, rfl⟩⟩⟩ rfl (by simp)
  rintro ⟨k, X, v⟩ ⟨hk, ha⟩;simp only at hk ha;by_cases c1 : k < 7
  ·left;have d1 : (k : Int) < 7 := by omega
   have d4 : IntKind.i64.wrap ((k : Int) + 1) = ((k + 1 : Nat) : Int) := ag (by omega) (by omega);have e1 : IntKind.i64.wrap (7 * (k : Int)) = ((7 * k : Nat) : Int) := by rw [ag (by omega) (by omega)]; omega
   have e2 : IntKind.i64.wrap (((7 * k : Nat) : Int) + 7) = ((7 * k + 7 : Nat) : Int) := by rw [ag (by omega) (by omega)]; omega
   have p1 : ∀ H : List Blk, St.part ⟨s.loc ++ [.rw (ab t), .rw (ab u)], H⟩ 7 48 (.loc s.loc.length) [7 * k] = some (tab 7 fun i => (t (7 * k + i)).v) := fun H =>
    Az (n := 49) (f := fun i => (t i).v) (by simp only [ab]; simp only [go_sem]) (by omega)
   have p2 : ∀ H : List Blk, St.part ⟨s.loc ++ [.rw (ab t), .rw (ab u)], H⟩ 7 48 (.loc (s.loc.length + 1)) [7 * k] = some (tab 7 fun i => (u (7 * k + i)).v) := fun H =>
    Az (n := 49) (f := fun i => (u i).v) (by simp only [ab]; simp only [go_sem]) (by omega)
   have hv := zv (fun i => t (7 * k + i)) (fun i => u (7 * k + i)) (List.range 7);have hv : cg (tab 7 fun i => (t (7 * k + i)).v) (tab 7 fun i => (u (7 * k + i)).v) = some (!rX t u k) := by unfold rX; rw [Bool.not_not]; exact hv
   have f1 : (7 * k : Nat) ≤ 7 * k + 7 := by omega
   have f2 : (7 * k + 7 : Nat) ≤ 49 := by omega
   have f3 : 7 * k + 7 - 7 * k = 7 := by omega
   have f6 : ((7 * k : Nat) : Int) ≤ ((7 * k + 7 : Nat) : Int) := by omega
   have f7 : ((7 * k + 7 : Nat) : Int) ≤ 49 := by omega
   have f8 : ∀ z : Nat, (if z = z then (7 : Nat) else 0) = 7 := fun z => if_pos rfl
   have f4 : (0 : Int) ≤ ((7 * k : Nat) : Int) := by omega
   have f5 : (0 : Int) ≤ ((7 * k + 7 : Nat) : Int) := by omega
   have hvl : V.locLt (s.loc.length + 2) v = true := by rcases ha.at' with ⟨_, rfl⟩ | ⟨Y, _, rfl⟩ <;> rfl
   have z1 : s.loc.length < s.loc.length + 2 := by omega
   have z2 : s.loc.length + 1 < s.loc.length + 2 := by omega
   have t49 : (tab 49 fun i => (t i).v).length = 49 := bt _ _;cases hd : rX t u k
   ·rw [hd] at hv;refine ⟨(k + 1, X, v), ⟨by simp only; omega, by simp only [bH, hd]; exact ha⟩, by simp only; omega, ?_⟩;simp only [ab] at *;generalize (tab 49 fun i => (t i).v) = T1 at *;generalize (tab 49 fun i => (u i).v) = T2 at *;simp only [go_sem, fW, d1, e1, e2, Int.toNat_natCast, f1, f2, f3, f4, f5, f6, f7, p1, p2, hv, d4, hvl, z1, z2]
   ·rw [hd] at hv;have hy : St.elems ⟨s.loc ++ [.rw (ab t), .rw (ab u), .rw (.agg 38 [.int .i64 (k : Int)])], s.hp ++ X⟩ (.sl (.loc (s.loc.length + 2)) [] 0 1 (some 1) 10) = some [.int .i64 (k : Int)] := aV (t := 38) (by simp only [go_sem]) rfl;obtain ⟨X', v', q1, q2⟩ := ha.push (by have := ms t u k; omega) (k : Int) (.inr ⟨_, _, _, _, _, rfl⟩) hy (base := s.loc.length);refine ⟨(k + 1, X', v'), ⟨by simp only; omega, by simp only [bH, hd, if_true]; exact q2⟩, by simp only; omega, ?_⟩;have hvl' : V.locLt (s.loc.length + 2) v' = true := by rcases q2.at' with ⟨_, rfl⟩ | ⟨Y, _, rfl⟩ <;> rfl
    have hrep : List.replicate 1 (V.int .i64 0) = [.int .i64 0] := rfl;simp only [ab] at *;generalize (tab 49 fun i => (t i).v) = T1 at *;generalize (tab 49 fun i => (u i).v) = T2 at *;simp only [go_sem, fW, d1, e1, e2, Int.toNat_natCast, f1, f2, f3, f4, f5, f6, f7, p1, p2, hv, d4, hvl', z1, z2, hrep, q1]
  ·right;have : k = 7 := by omega
   subst this;refine ⟨_, ?_, X, v, ha, rfl⟩;simp only [ab];simp only [go_sem, fW]
 obtain ⟨r, h1, X, v, h2, rfl⟩ := loop;refine ⟨X, v, h2, ?_⟩;have hv : V.locLt s.loc.length v = true := by rcases h2.at' with ⟨_, rfl⟩ | ⟨Y, _, rfl⟩ <;> rfl
 rw [aa yE rfl];simp only [ab] at *;simp only [go_sem, h1, hv]
end Go.Proofs.YtmimfopnhmmlbaaGreatDoor
namespace Go.Proofs.YtmimfopnhmmlbaaGreatDoor
open Go.Ab
def AM.stp (M : AM) : AM := if M.dead then M.out else M.stepped
def AM.stpE (M : AM) : Int := if M.dead then 4 else 0
theorem vL {k n k' n' : Nat} {cp cp' : Option Nat} {o o' b b' : Bool} {l l' c c' : Int} (h : bf k n cp o b l c = bf k' n' cp' o' b' l' c') : k = k' := by
 simp only [bf, V.agg.injEq, List.cons.injEq, V.sl.injEq, Loc.hp.injEq, true_and, and_true] at h;exact h.1.1
theorem wZ {hp : List Blk} {F : Ft} {m : Nat} {M : AM} (h : bS hp F m M) (hc : M.count < 1000000) :
 ∃ hp', (∀ L, rf D dM [.ptr (.hp m) [] 59] ⟨L, hp⟩ = some (.int .i64 M.stpE, ⟨L, hp'⟩)) ∧ bS hp' F m M.stp ∧ Chg hp hp' F F ∧
  ∀ k n cp o b l c, hp[m]? = some (.rw (bf k n cp o b l c)) → ∃ o' b' l' c', hp'[m]? = some (.rw (bf k n cp o' b' l' c')) := by
 have hM := h;obtain ⟨k, fk, ne, ⟨cp, left, h1, h2, h3⟩, sv, ow, h4, h5⟩ := h.mb;have ok := h.ok;have hc0 := ok.c0;have lf := ok.lf;have hml := af h1;have hstep := fun L => yX (L := L) h1 hc0 (by omega) (fun hb => by have hb := of_decide_eq_true hb; rw [h3 hb]; exact hb) (fun hb => by rw [h3 (of_decide_eq_true hb)]; have := ok.lg; omega);have keep : ∀ (o2 b2 : Bool) (l2 c2 : Int), ∀ k' n' cp' o b l c, hp[m]? = some (.rw (bf k' n' cp' o b l c)) → ∃ o' b' l' c', (hp.set m (.rw (bf k M.n cp o2 b2 l2 c2)))[m]? = some (.rw (bf k' n' cp' o' b' l' c')) := by
  intro o2 b2 l2 c2 k' n' cp' o b l c hh;rw [h1] at hh;have hh := Option.some.inj hh;simp only [bf, Blk.rw.injEq, V.agg.injEq, List.cons.injEq, V.sl.injEq, Loc.hp.injEq, true_and, and_true] at hh;obtain ⟨⟨rfl, rfl, rfl⟩, _⟩ := hh;exact ⟨_, _, _, _, List.getElem?_set_self hml⟩
 unfold AM.stp AM.stpE;by_cases hd : M.dead = true
 ·rw [hd, if_pos rfl, if_pos rfl];have hd' : M.off = true ∨ M.left = 0 := by simpa [AM.dead] using hd
  obtain ⟨g1, g2⟩ := hM.setm (M' := M.out) ok.out rfl rfl rfl h1 (left' := left) (by simpa [AM.out] using h3);refine ⟨_, fun L => ?_, g1, g2, keep _ _ _ _⟩;rw [hstep L, if_pos]
  ·rfl
  ·rcases hd' with hd' | hd'
   ·exact .inl hd'
   ·exact .inr ⟨by simp [hd'], by rw [h3 (by omega)]; exact hd'⟩
 ·have hdf : M.dead = false := by simpa using hd
  rw [hdf, if_neg (by simp), if_neg (by simp)];have hd' : M.off = false ∧ ¬ M.left = 0 := by simpa [AM.dead] using hd
  have hlv : 0 ≤ M.stepped.left → (if decide (0 ≤ M.left) = true then left - 1 else left) = M.stepped.left := by
   intro hh;simp only [AM.stepped, decide_eq_true_eq] at hh ⊢;split at hh
   ·rw [if_pos (by omega), if_pos (by omega), h3 (by omega)]
   ·omega
  have hbe : decide (0 ≤ M.stepped.left) = decide (0 ≤ M.left) := by
   apply decide_eq_decide.2;simp only [AM.stepped];split <;> omega
  obtain ⟨g1, g2⟩ := hM.setm (M' := M.stepped) ok.stepped rfl rfl rfl h1 hlv;refine ⟨_, fun L => ?_, g1, g2, keep _ _ _ _⟩;rw [hstep L, if_neg, hbe]
  ·rw [show M.stepped.off = M.off from rfl, hd'.1]; rfl
  ·rintro (hh | ⟨hh, hz⟩)
   ·rw [hd'.1] at hh; cases hh
   ·exact hd'.2 (by rw [← h3 (of_decide_eq_true hh)]; exact hz)
def Dn.fl (c : Nat) (d : Dn) : Dn := { d with cs := upd d.cs c true }
theorem Gy (c : Nat) : ∀ l : List Dn, flN c (l.map (Dn.fl c)) = l.length
 | [] => rfl
 | d :: l => by
  simp only [List.map_cons, flN, Gy c l, List.length_cons];split
  ·rename_i h; simp [Dn.fl, aq, h]
  ·rfl
theorem IN {c c' : Nat} (h : c' ≠ c) : ∀ l : List Dn, flN c' (l.map (Dn.fl c)) = flN c' l
 | [] => rfl
 | d :: l => by
  simp only [List.map_cons, flN, IN h l];have : (d.fl c).cs c' = d.cs c' := by simp only [Dn.fl]; rw [aB h]
  rw [this]
theorem tP (c : Nat) : ∀ (l : List Dn) (x : List Int), am x (l.map (Dn.fl c)) = am x l
 | [], _ => rfl
 | _ :: l, x => tP c l _
theorem Qs (c : Nat) (l : List Dn) : (l.map (Dn.fl c)).map Dn.v1 = l.map Dn.v1 := by
 rw [List.map_map]; rfl
def AM.flushed (M : AM) (c i : Nat) : AM := { M with L := upd M.L i ((M.L i).map (Dn.fl c)) }
def AM.flush (M : AM) (c i : Int) : AM × Int := if i < 0 ∨ (M.n : Int) ≤ i ∨ c < 0 ∨ 8 ≤ c then (M, 1) else if M.dead then (M.out, 4) else (M.stepped.flushed c.toNat i.toNat, 0)
theorem AM.Ok.flushed {M : AM} (h : M.Ok) (c i : Nat) : (M.flushed c i).Ok := by
 refine ⟨h.n0, h.n1, h.l8, fun j hj d hd => ?_, h.c0, fun j hj => ?_, h.lf, h.lg⟩
 ·simp only [AM.flushed] at hd;by_cases e : j = i
  ·subst e;rw [aq] at hd;obtain ⟨d', hd', rfl⟩ := List.mem_map.1 hd;exact h.w8 j hj d' hd'
  ·rw [aB e] at hd; exact h.w8 j hj d hd
 ·simp only [AM.flushed];by_cases e : j = i
  ·subst e; rw [aq, List.length_map]; exact h.len j hj
  ·rw [aB e]; exact h.len j hj
theorem AM.now_flushed {M : AM} {c i j : Nat} : (M.flushed c i).now j = M.now j := by
 unfold AM.now AM.flushed;simp only;by_cases e : j = i
 ·subst e; rw [aq, tP]
 ·rw [aB e]
theorem Pm {c : Nat} (hc : c < 8) (l : List Dn) : ∀ T, flV l = .agg 50 T → flV (l.map (Dn.fl c)) = .agg 50 (T.set c (.int .i64 l.length)) := by
 intro T hT;unfold flV at hT ⊢;cases hT;congr 1;rw [bw];apply aP;intro j _;by_cases e : j = c
 ·subst e; rw [aq, Gy]
 ·rw [aB e, IN e]
theorem vl {hp : List Blk} {F : Ft} {m : Nat} {M : AM} (h : bS hp F m M) (hc : M.count < 1000000) (c i : Int) (L : List Blk) :
 ∃ hp', rf D kt [.ptr (.hp m) [] 59, .int .i64 c, .int .i64 i] ⟨L, hp⟩ = some (.int .i64 (M.flush c i).2, ⟨L, hp'⟩) ∧ bS hp' F m (M.flush c i).1 ∧ Chg hp hp' F F := by
 have hM := h;obtain ⟨k, fk, ne, ⟨cp, left, h1, h2, h3⟩, sv0, ow0, h40, h50⟩ := h.mb;have ha := fun L => yL (L := L) h1 i;have ok := h.ok;unfold AM.flush;by_cases hi : i < 0 ∨ (M.n : Int) ≤ i
 ·rw [if_neg (by omega)] at ha;rw [if_pos (by omega)];refine ⟨hp, ?_, hM, .refl _ _⟩;rw [aa gV rfl];simp only [go_sem, ha]
 ·rw [if_pos (by omega)] at ha;by_cases hq : c < 0 ∨ 8 ≤ c
  ·rw [if_pos (by omega)];refine ⟨hp, ?_, hM, .refl _ _⟩;rw [aa gV rfl];by_cases hq0 : c < 0
   ·simp only [go_sem, ha, hq0]
   ·have hq8 : c ≥ 8 := by omega
    simp only [go_sem, ha, hq0, hq8]
  ·rw [if_neg (by omega)];obtain ⟨j, rfl⟩ : ∃ j : Nat, i = j := ⟨i.toNat, by omega⟩;obtain ⟨p, rfl⟩ : ∃ p : Nat, c = p := ⟨c.toNat, by omega⟩;simp only [Int.toNat_natCast] at ha ⊢;have d1 : ¬ (p : Int) < 0 := by omega
   have d2 : ¬ (p : Int) ≥ 8 := by omega
   have d3 : (p : Int) < 8 := by omega
   have d4 : (0 : Int) ≤ p := by omega
   obtain ⟨hp1, s1, s2, s3, s4⟩ := wZ hM hc;unfold AM.stpE at s1;unfold AM.stp at s2;by_cases hd : M.dead = true
   ·rw [if_pos hd];rw [hd, if_pos rfl] at s1 s2;refine ⟨hp1, ?_, s2, s3⟩;rw [aa gV rfl];simp only [go_sem, ha, d1, d2, s1]
   ·have hdf : M.dead = false := by simpa using hd
    rw [if_neg hd];rw [hdf, if_neg (by simp)] at s1 s2;obtain ⟨o', b', l', c', s5⟩ := s4 _ _ _ _ _ _ _ h1;have hM1 := s2;obtain ⟨k', fk', ne', ⟨cp', left', q1, q2, q3⟩, sv, ow, q4, q5⟩ := s2.mb;have hkk : k = k' := vL (Blk.rw.inj (Option.some.inj (s5.symm.trans q1)));subst hkk;have e1 : M.stepped.n = M.n := rfl;have e2 : M.stepped.S = M.S := rfl;have e3 : M.stepped.L = M.L := rfl;rw [e1, e2, e3] at q4;rw [e1, e3] at q5;have hj : j < M.n := by omega
    have g := ai (f := fun i => plV (M.S i) (M.L i) (sv i)) hj;have hsl := (q5 j hj).slen;rw [List.length_map] at hsl;have gf := ai (f := fun c => V.int .i64 (flN c (M.L j) : Nat)) (show p < 8 by omega);have hfl := Pm (show p < 8 by omega) (M.L j) _ rfl;have hkl := af q4;refine ⟨hp1.set k (.rw (.agg 57 ((tab M.n fun i => plV (M.S i) (M.L i) (sv i)).set j (plV (M.S j) ((M.L j).map (Dn.fl p)) (sv j))))), ?_, ⟨ok.stepped.flushed p j, hM1.inn.set, hM1.fm, k, fk', ne', ⟨cp', left', ?_, q2, q3⟩, sv, ow, ?_, fun x hx => ?_⟩, s3.trans (cR.mono (fun x hx => by cases hx; exact fk') fun _ => .inr)⟩
    ·have hpl : plV (M.S j) ((M.L j).map (Dn.fl p)) (sv j) = .agg 55 [lnV (am (M.S j) (M.L j)), lnV (M.S j), sv j, .agg 50 ((tab 8 fun c => V.int .i64 (flN c (M.L j) : Nat)).set p (.int .i64 (M.L j).length))] := by
      simp only [plV, nlV, tP, hfl]
     rw [hpl];have hg0 : plV (M.S j) (M.L j) (sv j) = .agg 55 [lnV (am (M.S j) (M.L j)), lnV (M.S j), sv j, .agg 50 (tab 8 fun c => V.int .i64 (flN c (M.L j) : Nat))] := rfl;rw [hg0] at g;generalize (tab 8 fun c => V.int .i64 (flN c (M.L j) : Nat)) = TF at *;generalize (tab M.n fun i => plV (M.S i) (M.L i) (sv i)) = T0 at *;generalize lnV (am (M.S j) (M.L j)) = N1 at *;rw [aa gV rfl];simp only [go_sem, ha, d1, d2, d3, d4, s1, q4, g, hsl, Int.toNat_natCast, gf]
    ·rw [List.getElem?_set_ne (Ne.symm ne')]; exact q1
    ·rw [bw, List.getElem?_set_self hkl];congr 4; funext x;unfold upd AM.flushed;simp only;by_cases e : x = j
     ·subst e; rw [if_pos rfl, aq]; rfl
     ·rw [if_neg e, aB e]; rfl
    ·have e5 : ((M.stepped.flushed p j).L x).map Dn.v1 = (M.L x).map Dn.v1 := by
      unfold AM.flushed;simp only;by_cases e : x = j
      ·subst e; rw [aq]; exact Qs p _
      ·rw [aB e]; rfl
     rw [e5];exact (q5 x hx).eqv (fun y hy => List.getElem?_set_ne (Ne.symm hy.2.2.1)) fun _ hy => hy
end Go.Proofs.YtmimfopnhmmlbaaGreatDoor
namespace Go.Proofs.YtmimfopnhmmlbaaGreatDoor
open Go.Ab
theorem SlR.sub {e r : Nat} {hp : List Blk} {G : Ft} {v : V} {l : List V} (h : SlR hp G e r v l) {n : Nat} (hn : n ≤ l.length) : ∃ v1 v2, gu e none (some (.int .i64 (n : Int))) none v = some v1 ∧ gu e (some (.int .i64 (n : Int))) none none v = some v2 ∧
 (∀ hp' : List Blk, (∀ j, G j → hp'[j]? = hp[j]?) → ∀ L, RS ⟨L, hp'⟩ e v1 (l.take n) ∧ RS ⟨L, hp'⟩ e v2 (l.drop n)) ∧ (v2 = .nils ∨ ∃ a p o n c, v2 = .sl a p o n c e) := by
 cases h with
 | nil =>
  have : n = 0 := by simpa using hn
  subst this;exact ⟨.nils, .nils, rfl, rfl, fun _ _ _ => ⟨.inl ⟨rfl, rfl⟩, .inl ⟨rfl, rfl⟩⟩, .inl rfl⟩
 | emp a p o =>
  have : n = 0 := by simpa using hn
  subst this;have k1 : gu e none (some (.int .i64 ((0 : Nat) : Int))) none (.sl (.hp a) p o 0 (some 0) e) = some (.sl (.hp a) p o 0 (some 0) e) := by simp [gu, al, ae, jG, ol]
  have k2 : gu e (some (.int .i64 ((0 : Nat) : Int))) none none (.sl (.hp a) p o 0 (some 0) e) = some (.sl (.hp a) p o 0 (some 0) e) := by simp [gu, al, ae, jG, ol]
  exact ⟨_, _, k1, k2, fun _ _ _ => ⟨.inr ⟨_, _, _, _, rfl, fun c hc => by cases hc; exact Nat.le_refl _, rfl, .inl rfl⟩, .inr ⟨_, _, _, _, rfl, fun c hc => by cases hc; exact Nat.le_refl _, rfl, .inl rfl⟩⟩, .inr ⟨_, _, _, _, _, rfl⟩⟩
 | blk a c l hc hG hb =>
  have hrd : ∀ hp' : List Blk, (∀ j, G j → hp'[j]? = hp[j]?) → hp'[a]? = some (.rw (.agg r l)) := fun hp' he => by rw [he a hG]; exact hb
  have hcd : c.getD l.length = l.length := by rcases hc with rfl | rfl <;> rfl
  have hlt : (n : Int) ≤ (l.length : Nat) := by omega
  have key1 : gu e none (some (.int .i64 (n : Int))) none (.sl (.hp a) [] 0 l.length c e) = some (.sl (.hp a) [] 0 n (ol false c l.length) e) := by
   simp only [gu, if_true, al, aS, jG, Option.isSome_none, Bool.false_eq_true, if_false];rw [if_pos ⟨by omega, by omega⟩];simp [aS, hcd]
  have key2 : gu e (some (.int .i64 (n : Int))) none none (.sl (.hp a) [] 0 l.length c e) = some (.sl (.hp a) [] n (l.length - n) (ol false c (l.length - n)) e) := by
   simp only [gu, if_true, al, aS, jG, Option.isSome_none, Bool.false_eq_true, if_false];rw [if_pos ⟨by omega, by omega⟩];simp [aS, hcd]
  refine ⟨_, _, key1, key2, fun hp' he L => ⟨.inr ⟨.hp a, [], 0, _, by rw [List.length_take, Nat.min_eq_left hn], ?_, rfl, ?_⟩, .inr ⟨.hp a, [], n, _, by rw [List.length_drop], ?_, rfl, ?_⟩⟩, .inr ⟨_, _, _, _, _, rfl⟩⟩
  ·intro c' hc';rcases hc with rfl | rfl
   ·cases hc'
   ·cases hc'; rw [List.length_take]; omega
  ·refine .inr ⟨r, l, by rw [kU, hrd hp' he]; rfl, fun j x hx => ?_⟩;rw [List.getElem?_take] at hx;split at hx
   ·rw [Nat.zero_add]; exact hx
   ·cases hx
  ·intro c' hc';rcases hc with rfl | rfl
   ·cases hc'
   ·cases hc'; rw [List.length_drop]; exact Nat.le_refl _
  ·refine .inr ⟨r, l, by rw [kU, hrd hp' he]; rfl, fun j x hx => ?_⟩;rw [List.getElem?_drop] at hx;exact hx
theorem Cy {H : List Blk} {v : V} {l : List V} (hsh : v = .nils ∨ ∃ a p o n c, v = .sl a p o n c 84) (hel : ∀ L, RS ⟨L, H⟩ 84 v l) (hl : V.locLts 0 l = true) (hm : l.length ≤ be) :
 ∃ H1 v', H <+: H1 ∧ (∀ L, rf D dK [v] ⟨L, H⟩ = some (v', ⟨L, H1⟩)) ∧ SlR H1 (fun j => H.length ≤ j ∧ j < H1.length) 84 86 v' l := by
 by_cases hv : v = .nils
 ·subst hv;have : l = [] := by
   have := (hel []).elems;cases this; rfl
  subst this;refine ⟨H, .nils, List.prefix_refl _, fun L => ?_, .nil⟩;rw [aa cq rfl];simp only [go_sem]
 ·obtain ⟨a, p, o, n, c', rfl⟩ := hsh.resolve_left hv;have hel1 : ∀ L, St.elems ⟨L, H ++ [.rw (.agg 86 [])]⟩ (.sl a p o n c' 84) = some l := fun L => ((hel L).more (s' := ⟨L, H ++ [.rw (.agg 86 [])]⟩) ⟨List.prefix_rfl, List.prefix_append _ _⟩).elems;have h0 : SlR (H ++ [.rw (.agg 86 [])]) (fun i => i = H.length) 84 86 (.sl (.hp H.length) [] 0 ([] : List V).length (some ([] : List V).length) 84) [] := .blk _ _ _ (.inr rfl) rfl (by simp);by_cases hn : l = []
  ·subst hn;refine ⟨H ++ [.rw (.agg 86 [])], .sl (.hp H.length) [] 0 0 (some 0) 84, List.prefix_append _ _, fun L => ?_, .blk H.length (some 0) [] (.inr rfl) ⟨Nat.le_refl _, by simp⟩ (by simp)⟩;have key : ∀ base, ay base true 86 84 (.sl (.hp H.length) [] 0 0 (some 0) 84) (.sl a p o n c' 84) ⟨L, H ++ [.rw (.agg 86 [])]⟩ = some (.sl (.hp H.length) [] 0 0 (some 0) 84, ⟨L, H ++ [.rw (.agg 86 [])]⟩) := by
    intro base;unfold ay;have e1 : St.elems ⟨L, H ++ [.rw (.agg 86 [])]⟩ (.sl (.hp H.length) [] 0 0 (some 0) 84) = some [] := h0.elems L;have e3 : V.slIs 84 (.sl (.hp H.length) [] 0 0 (some 0) 84) = true := by simp [V.slIs]
    have e4 : V.elIs 84 (.sl a p o n c' 84) = true := by simp [V.elIs]
    rw [e1, hel1 L, e3, e4];rfl
   rw [aa cq rfl];simp only [go_sem, List.replicate_zero, key]
  ·refine ⟨H ++ [.rw (.agg 86 []), .rw (.agg 86 l)], .sl (.hp (H.length + 1)) [] 0 l.length none 84, List.prefix_append _ _, fun L => ?_, .blk _ none _ (.inl rfl) ⟨by omega, by simp⟩ (by simp)⟩;have key : ∀ base, ay base true 86 84 (.sl (.hp H.length) [] 0 0 (some 0) 84) (.sl a p o n c' 84) ⟨L, H ++ [.rw (.agg 86 [])]⟩ = some (.sl (.hp (H.length + 1)) [] 0 l.length none 84, ⟨L, H ++ [.rw (.agg 86 []), .rw (.agg 86 l)]⟩) := by
    intro base;have := oj (base := base) (h := true) (r := 86) (e := 84) (x := .sl (.hp H.length) [] 0 0 (some 0) 84) (old := []) (new := l) (s := ⟨L, H ++ [.rw (.agg 86 [])]⟩) (.inr ⟨_, _, _, _, _, rfl⟩) (.inr ⟨_, _, _, _, _, rfl⟩) (h0.elems L) (hel1 L) hn (by simpa using hm) (.inl rfl);rw [this];have hp0 : 0 < l.length := List.length_pos_iff.2 hn;simp only [km, Option.map_some, List.length_nil, Nat.zero_add, hp0, decide_true, if_true];simp [St.fresh, St.new]
   rw [aa cq rfl];simp only [go_sem, List.replicate_zero, key]
theorem BJ (c : Nat) : ∀ (n : Nat) (l : List Dn), flN c (l.drop n) = flN c l - n
 | 0, l => rfl
 | n + 1, [] => by simp [flN]
 | n + 1, d :: l => by
  rw [List.drop_succ_cons, BJ c n l];simp only [flN];split
  ·rename_i h;rw [h];split <;> omega
  ·omega
theorem Hi {S : List Int} {l : List Dn} {q : Nat} (h : q < l.length) : am S (l.take (q + 1)) = (am S (l.take q)).set l[q].w l[q].v := by
 rw [List.take_succ_eq_append_getElem h, kQ];rfl
section
variable {hp : List Blk} {k i N : Nat} {T : List V} {nw fl : V} {S : List Int} {l : List Dn} {sv : V} {G : Ft}
def lnB (k i : Nat) (T : List V) (hp : List Blk) (x : V) : List Blk := hp.set k (.rw (.agg 57 (T.set i x)))
theorem NQ (hk : k < hp.length) (hi : i < T.length) (h8 : S.length = 8) (hw : ∀ d ∈ l, d.w < 8) (hG : ¬ G k) {n : Nat} (hn : n ≤ l.length) (hl : l.length < 1000000) {v1 : V} (L : List Blk)
 (hr : ∀ hp' : List Blk, (∀ j, G j → hp'[j]? = hp[j]?) → ∀ L, RS ⟨L, hp'⟩ 84 v1 ((l.map Dn.v1).take n)) :
 rc D L.length (.loop [0, 1, 12, 13, 14] fb) [(0, .ptr (.hp k) [i] 55), (1, .int .i64 n), (12, v1), (13, .int .i64 n), (14, .int .i64 0)] ⟨L, lnB k i T hp (nlV nw (lnV S) sv fl)⟩ =
  some (.exit 0, [(0, .ptr (.hp k) [i] 55), (1, .int .i64 n), (12, v1), (13, .int .i64 n), (14, .int .i64 n), (15, .bool false)], ⟨L, lnB k i T hp (nlV nw (lnV (am S (l.take n))) sv fl)⟩) := by
 refine aH (fun q : Nat => [(0, .ptr (.hp k) [i] 55), (1, .int .i64 n), (12, v1), (13, .int .i64 n), (14, .int .i64 q)]) (fun q => ⟨L, lnB k i T hp (nlV nw (lnV (am S (l.take q))) sv fl)⟩) (fun _ => _) (fun q => n - q) (fun q => q ≤ n) 0 ?_ (by omega) rfl rfl;intro q hq;by_cases c1 : q < n
 ·left;have hql : q < l.length := by omega
  have d1 : (q : Int) < n := by omega
  have d4 : IntKind.i64.wrap ((q : Int) + 1) = (q : Int) + 1 := ag (by omega) (by omega);have hb : (am S (l.take q)).length = 8 := by rw [nA]; exact h8
  have hwq := hw _ (List.getElem_mem hql);have hrs := fun L => hr (lnB k i T hp (nlV nw (lnV (am S (l.take q))) sv fl)) (fun j hj => List.getElem?_set_ne (fun e => hG (by rw [e]; exact hj))) L;have hg : ((l.map Dn.v1).take n)[q]? = some (l[q].v1) := by rw [List.getElem?_take, if_pos c1, List.getElem?_map, List.getElem?_eq_getElem hql]; rfl
  have hsad := (hrs []).sadq hg (k := .i64);have hld : ∀ L t p, ldv ⟨L, lnB k i T hp (nlV nw (lnV (am S (l.take q))) sv fl)⟩ t (elq v1 q p t) = V.at p (l[q].v1) := fun L t p => (hrs L).ldq hg;have hvl : v1.locLt L.length = true := (hrs L).locLt;have hset : (lnB k i T hp (nlV nw (lnV (am S (l.take q))) sv fl))[k]? = some (.rw (.agg 57 (T.set i (nlV nw (lnV (am S (l.take q))) sv fl)))) := List.getElem?_set_self hk;have hti : ∀ x, (T.set i x)[i]? = some x := fun x => List.getElem?_set_self hi;refine ⟨q + 1, by omega, by omega, rfl, ?_⟩;rw [Hi hql];generalize am S (l.take q) = su at *;generalize l[q] = d at *;have gw : (su.map (V.int .u64))[d.w]? = some (.int .u64 (su.getD d.w 0)) := aK (by omega) 0;have e2 : lnB k i T hp (nlV nw (lnV (su.set d.w d.v)) sv fl) = (lnB k i T hp (nlV nw (lnV su) sv fl)).set k (.rw (.agg 57 ((T.set i (nlV nw (lnV su) sv fl)).set i (nlV nw (lnV (su.set d.w d.v)) sv fl)))) := by
   unfold lnB; rw [List.set_set, List.set_set]
  rw [e2];have w1 : (0 : Int) ≤ d.w := by omega
  have w2 : (d.w : Int) < 8 := by omega
  simp only [Dn.v1, wE, nlV, lnV, List.map_set] at *;generalize lnB k i T hp (V.agg 55 [nw, .agg 24 (su.map (V.int .u64)), sv, fl]) = H at *;simp only [go_sem, fb, d1, hsad, hld];simp only [go_sem, hset, hti, w1, w2, Int.toNat_natCast, gw, d4, hvl];rfl
 ·right;have : q = n := by omega
  subst this;have d1 : ¬ (q : Int) < q := by omega
  simp only [go_sem, fb, d1]
def flM (l : List Dn) (n q : Nat) : V := .agg 50 (tab 8 fun c => .int .i64 (if c < q then ((flN c l - n : Nat) : Int) else (flN c l : Nat)))
theorem NW (hk : k < hp.length) (hi : i < T.length) {n : Nat} (hl : l.length < 1000000) (hn : n < 1000000) (x1 x2 x3 : V) (L : List Blk) :
 rc D L.length (.loop [0, 1, 37] eX) [(0, .ptr (.hp k) [i] 55), (1, .int .i64 n), (37, .int .i64 0)] ⟨L, lnB k i T hp (nlV x1 x2 x3 (flM l n 0))⟩ =
  some (.exit 2, [(0, .ptr (.hp k) [i] 55), (1, .int .i64 n), (37, .int .i64 8), (38, .bool false)], ⟨L, lnB k i T hp (nlV x1 x2 x3 (flM l n 8))⟩) := by
 have hfl : ∀ c, flN c l ≤ l.length := fun c => by
  clear hl
  induction l with
  | nil => exact Nat.le_refl _
  | cons d l ih => simp only [flN, List.length_cons]; split <;> (try split) <;> omega
 refine aH (fun q : Nat => [(0, .ptr (.hp k) [i] 55), (1, .int .i64 n), (37, .int .i64 q)]) (fun q => ⟨L, lnB k i T hp (nlV x1 x2 x3 (flM l n q))⟩) (fun _ => _) (fun q => 8 - q) (fun q => q ≤ 8) 0 ?_ (by omega) rfl rfl;intro q hq;by_cases c1 : q < 8
 ·left;have d1 : (q : Int) < 8 := by omega
  have d2 : (0 : Int) ≤ q := by omega
  have d4 : IntKind.i64.wrap ((q : Int) + 1) = (q : Int) + 1 := ag (by omega) (by omega);have hq2 := hfl q;have d5 : IntKind.i64.wrap (((flN q l : Nat) : Int) - (n : Int)) = ((flN q l : Nat) : Int) - n := ag (by omega) (by omega);have hset : (lnB k i T hp (nlV x1 x2 x3 (flM l n q)))[k]? = some (.rw (.agg 57 (T.set i (nlV x1 x2 x3 (flM l n q))))) := List.getElem?_set_self hk;have hti : ∀ x, (T.set i x)[i]? = some x := fun x => List.getElem?_set_self hi;have g := ai (f := fun c => V.int .i64 (if c < q then ((flN c l - n : Nat) : Int) else (flN c l : Nat))) c1
  rw [if_neg (by omega)] at g;have hs : (tab 8 fun c => V.int .i64 (if c < q then ((flN c l - n : Nat) : Int) else (flN c l : Nat))).set q (.int .i64 ((flN q l - n : Nat) : Int)) = tab 8 fun c => V.int .i64 (if c < q + 1 then ((flN c l - n : Nat) : Int) else (flN c l : Nat)) := by
   rw [bw];apply aP;intro c _;unfold upd;by_cases e : c = q
   ·subst e; rw [if_pos rfl, if_pos (by omega)]
   ·rw [if_neg e];by_cases h : c < q
    ·show V.int .i64 _ = V.int .i64 _;rw [if_pos h, if_pos (by omega)]
    ·show V.int .i64 _ = V.int .i64 _;rw [if_neg h, if_neg (by omega)]
  have e2 : lnB k i T hp (nlV x1 x2 x3 (flM l n (q + 1))) = (lnB k i T hp (nlV x1 x2 x3 (flM l n q))).set k (.rw (.agg 57 ((T.set i (nlV x1 x2 x3 (flM l n q))).set i (nlV x1 x2 x3 (flM l n (q + 1)))))) := by
   unfold lnB; rw [List.set_set, List.set_set]
  refine ⟨q + 1, by omega, by omega, rfl, ?_⟩;rw [e2];simp only [flM, nlV] at *;rw [← hs];generalize (tab 8 fun c => V.int .i64 (if c < q then ((flN c l - n : Nat) : Int) else (flN c l : Nat))) = TF at *
  generalize lnB k i T hp (V.agg 55 [x1, x2, x3, .agg 50 TF]) = H at *;have d7 : max (0 : Int) (((flN q l : Nat) : Int) - n) = ((flN q l - n : Nat) : Int) := by omega
  simp only [go_sem, eX, d1, d2, Int.toNat_natCast, hset, hti, g, d5, d7, d4];rfl
 ·right;have : q = 8 := by omega
  subst this;simp only [go_sem, eX]
end
end Go.Proofs.YtmimfopnhmmlbaaGreatDoor
namespace Go.Proofs.YtmimfopnhmmlbaaGreatDoor
open Go.Ab
def AM.sureN (M : AM) (i n : Nat) : AM := { M with S := upd M.S i (am (M.S i) ((M.L i).take n)), L := upd M.L i ((M.L i).drop n) }
theorem AM.now_sure {M : AM} {i n j : Nat} : (M.sureN i n).now j = M.now j := by
 unfold AM.now AM.sureN;simp only;by_cases e : j = i
 ·subst e; rw [aq, aq, ← kQ, List.take_append_drop]
 ·rw [aB e, aB e]
theorem AM.Ok.sureN {M : AM} (h : M.Ok) {i n : Nat} : (M.sureN i n).Ok := by
 refine ⟨h.n0, h.n1, fun j hj => ?_, fun j hj d hd => ?_, h.c0, fun j hj => ?_, h.lf, h.lg⟩
 ·simp only [AM.sureN];by_cases e : j = i
  ·subst e; rw [aq, nA]; exact h.l8 j hj
  ·rw [aB e]; exact h.l8 j hj
 ·simp only [AM.sureN] at hd;by_cases e : j = i
  ·subst e; rw [aq] at hd; exact h.w8 j hj d (List.mem_of_mem_drop hd)
  ·rw [aB e] at hd; exact h.w8 j hj d hd
 ·simp only [AM.sureN];by_cases e : j = i
  ·subst e; rw [aq, List.length_drop]; have := h.len j hj; omega
  ·rw [aB e]; exact h.len j hj
theorem KN (l : List Dn) (n : Nat) : flM l n 0 = flV l := by
 unfold flM flV;congr 1
theorem Mz (l : List Dn) (n : Nat) : flM l n 8 = flV (l.drop n) := by
 unfold flM flV;congr 1;apply aP;intro c hc;rw [if_pos hc, BJ]
theorem I2 {n : Nat} {f : Nat → V} {j : Nat} (hj : j < n) : (tab n f).set j (f j) = tab n f := by
 rw [bw];apply aP;intro i _;unfold upd;split
 ·rename_i e; subst e; rfl
 ·rfl
theorem BT {hp : List Blk} {k : Nat} {b : Blk} (h : hp[k]? = some b) : hp.set k b = hp := by
 apply List.ext_getElem?;intro i;by_cases e : k = i
 ·subst e; rw [List.getElem?_set_self (af h), h]
 ·rw [List.getElem?_set_ne e]
theorem yD {hp : List Blk} {F : Ft} {m : Nat} {M : AM} (h : bS hp F m M) (hc : M.count < 1000000) {k nn : Nat} {cp : Option Nat} {o b : Bool} {l c : Int} (hb : hp[m]? = some (.rw (bf k nn cp o b l c))) {j n : Nat} (hj : j < M.n) (hn : n ≤ (M.L j).length) (L : List Blk) :
 ∃ hp' F', rf D j4 [.ptr (.hp k) [j] 55, .int .i64 n] ⟨L, hp⟩ = some (.tup [], ⟨L, hp'⟩) ∧ bS hp' F' m (M.sureN j n) ∧ Chg hp hp' F F' ∧ hp'[m]? = hp[m]? := by
 obtain ⟨k', fk, ne, ⟨cp', left, h1, h2, h3⟩, sv, ow, h4, h5⟩ := h.mb;have hkk : k = k' := vL (Blk.rw.inj (Option.some.inj (hb.symm.trans h1)));subst hkk;have ok := h.ok;have hlen := ok.len j hj;have hkl := af h4;have hml := af h1;have hTl : (tab M.n fun i => plV (M.S i) (M.L i) (sv i)).length = M.n := bt _ _;have hX : hp = lnB k j (tab M.n fun i => plV (M.S i) (M.L i) (sv i)) hp (plV (M.S j) (M.L j) (sv j)) := by
  unfold lnB;rw [I2 (f := fun i => plV (M.S i) (M.L i) (sv i)) hj];exact (BT h4).symm
 obtain ⟨v1, v2, s1, s2, s3, s4⟩ := (h5 j hj).sub (n := n) (by rw [List.length_map]; exact hn);have hT : ∀ x, ((tab M.n fun i => plV (M.S i) (M.L i) (sv i)).set j x)[j]? = some x := fun x => List.getElem?_set_self (by rw [hTl]; exact hj);have hms := NQ (T := tab M.n fun i => plV (M.S i) (M.L i) (sv i)) (nw := lnV (am (M.S j) (M.L j))) (fl := flV (M.L j)) (sv := sv j) (G := fun x => F x ∧ x ≠ m ∧ x ≠ k ∧ ow x = j) hkl (by rw [hTl]; exact hj) (ok.l8 j hj) (ok.w8 j hj) (fun hh => hh.2.2.1 rfl) hn (by omega) (v1 := v1) L (fun hp' he L => (s3 hp' he L).1);have hG1 : ∀ x, F x ∧ x ≠ m ∧ x ≠ k ∧ ow x = j → (lnB k j (tab M.n fun i => plV (M.S i) (M.L i) (sv i)) hp (nlV (lnV (am (M.S j) (M.L j))) (lnV (am (M.S j) ((M.L j).take n))) (sv j) (flV (M.L j))))[x]? = hp[x]? := fun x hx => List.getElem?_set_ne (Ne.symm hx.2.2.1);obtain ⟨H2, v', p1, p2, p3⟩ := Cy (H := lnB k j (tab M.n fun i => plV (M.S i) (M.L i) (sv i)) hp (nlV (lnV (am (M.S j) (M.L j))) (lnV (am (M.S j) ((M.L j).take n))) (sv j) (flV (M.L j)))) s4 (fun L => (s3 _ hG1 L).2) (by rw [← List.map_drop]; exact Lp) (by rw [← List.map_drop, List.length_map, List.length_drop]; simp [be]; omega);have hl1 : (lnB k j (tab M.n fun i => plV (M.S i) (M.L i) (sv i)) hp (nlV (lnV (am (M.S j) (M.L j))) (lnV (am (M.S j) ((M.L j).take n))) (sv j) (flV (M.L j)))).length = hp.length := List.length_set ..;have hH1k : (lnB k j (tab M.n fun i => plV (M.S i) (M.L i) (sv i)) hp (nlV (lnV (am (M.S j) (M.L j))) (lnV (am (M.S j) ((M.L j).take n))) (sv j) (flV (M.L j))))[k]? = _ := List.getElem?_set_self hkl;have hH2k := aE p1 hH1k;have hH2l := p1.length_le;have old2 : ∀ x, x < hp.length → x ≠ k → H2[x]? = hp[x]? := fun x hx hxk => by
  have : (lnB k j (tab M.n fun i => plV (M.S i) (M.L i) (sv i)) hp (nlV (lnV (am (M.S j) (M.L j))) (lnV (am (M.S j) ((M.L j).take n))) (sv j) (flV (M.L j))))[x]? = hp[x]? := List.getElem?_set_ne (Ne.symm hxk);rw [← this];have hlt : x < (lnB k j (tab M.n fun i => plV (M.S i) (M.L i) (sv i)) hp (nlV (lnV (am (M.S j) (M.L j))) (lnV (am (M.S j) ((M.L j).take n))) (sv j) (flV (M.L j)))).length := by rw [hl1]; exact hx
  rw [aE p1 (List.getElem?_eq_getElem hlt), List.getElem?_eq_getElem hlt]
 have hfl := NW (hp := H2) (k := k) (i := j) (T := tab M.n fun i => plV (M.S i) (M.L i) (sv i)) (l := M.L j) (by omega) (by rw [hTl]; exact hj) (n := n) (by omega) (by omega) (lnV (am (M.S j) (M.L j))) (lnV (am (M.S j) ((M.L j).take n))) v' L;rw [KN, Mz] at hfl;have hst : H2.set k (.rw (.agg 57 (((tab M.n fun i => plV (M.S i) (M.L i) (sv i)).set j (nlV (lnV (am (M.S j) (M.L j))) (lnV (am (M.S j) ((M.L j).take n))) (sv j) (flV (M.L j)))).set j (nlV (lnV (am (M.S j) (M.L j))) (lnV (am (M.S j) ((M.L j).take n))) v' (flV (M.L j)))))) =
  lnB k j (tab M.n fun i => plV (M.S i) (M.L i) (sv i)) H2 (nlV (lnV (am (M.S j) (M.L j))) (lnV (am (M.S j) ((M.L j).take n))) v' (flV (M.L j))) := by unfold lnB; rw [List.set_set]
 have hfin : (lnB k j (tab M.n fun i => plV (M.S i) (M.L i) (sv i)) H2 (nlV (lnV (am (M.S j) (M.L j))) (lnV (am (M.S j) ((M.L j).take n))) v' (flV ((M.L j).drop n))))[m]? = hp[m]? := by
  unfold lnB;rw [List.getElem?_set_ne (Ne.symm ne)];exact old2 m hml ne
 refine ⟨lnB k j (tab M.n fun i => plV (M.S i) (M.L i) (sv i)) H2 (nlV (lnV (am (M.S j) (M.L j))) (lnV (am (M.S j) ((M.L j).take n))) v' (flV ((M.L j).drop n))), fun x => F x ∨ (hp.length ≤ x ∧ x < H2.length), ?_, ⟨ok.sureN, fun x hx => ?_, .inl h.fm, k, .inl fk, ne, ⟨cp', left, hfin.trans h1, h2, h3⟩, upd sv j v', fun x => if hp.length ≤ x then j else ow x, ?_, fun i hi => ?_⟩, ⟨?_, fun x hx hnx => ?_, fun x hx => ?_⟩, hfin⟩
 ·have hX2 : lnB k j (tab M.n fun i => plV (M.S i) (M.L i) (sv i)) hp (nlV (lnV (am (M.S j) (M.L j))) (lnV (M.S j)) (sv j) (flV (M.L j))) = hp := hX.symm;rw [hX2] at hms;have g := ai (f := fun i => plV (M.S i) (M.L i) (sv i)) hj;have g0 : plV (M.S j) (M.L j) (sv j) = .agg 55 [lnV (am (M.S j) (M.L j)), lnV (M.S j), sv j, flV (M.L j)] := rfl;rw [g0] at g;have ts := p3.tag;have tl := p3.lt;have hv1 := (s3 hp (fun _ _ => rfl) L).1;have hsl : V.slen false v1 = some n := by
   have := hv1.slen
   rwa [List.length_take, List.length_map, Nat.min_eq_left hn] at this
  clear hX hX2 p1 p3 hv1 h5;generalize lnB k j (tab M.n fun i => plV (M.S i) (M.L i) (sv i)) hp (nlV (lnV (am (M.S j) (M.L j))) (lnV (am (M.S j) ((M.L j).take n))) (sv j) (flV (M.L j))) = H1 at *;generalize (lnB k j (tab M.n fun i => plV (M.S i) (M.L i) (sv i)) H2 (nlV (lnV (am (M.S j) (M.L j))) (lnV (am (M.S j) ((M.L j).take n))) v' (flV (M.L j)))) = H3 at *;generalize (lnB k j (tab M.n fun i => plV (M.S i) (M.L i) (sv i)) H2 (nlV (lnV (am (M.S j) (M.L j))) (lnV (am (M.S j) ((M.L j).take n))) v' (flV ((M.L j).drop n)))) = H4 at *;generalize (tab M.n fun i => plV (M.S i) (M.L i) (sv i)) = T0 at *;generalize lnV (am (M.S j) ((M.L j).take n)) = w2 at *;generalize lnV (am (M.S j) (M.L j)) = w1 at *;generalize flV (M.L j) = w4 at *;simp only [nlV] at *;rw [aa tu rfl];simp only [go_sem, h4, g, s1, hsl, hms];simp only [go_sem, hH1k, hT, s2, p2];simp only [go_sem, hH2k, hT, ts, tl, hst, hfl]
 ·unfold lnB;rw [List.length_set];rcases hx with hx | hx
  ·have := h.inn x hx; omega
  ·exact hx.2
 ·unfold lnB;rw [List.getElem?_set_self (by omega), bw];congr 3;apply aP;intro i _;unfold upd;by_cases e : i = j
  ·subst e;simp only [if_true];unfold plV AM.sureN;simp only;rw [aq, aq, ← kQ, List.take_append_drop]
  ·simp only [e, if_false];unfold AM.sureN;simp only;rw [aB e, aB e]
 ·unfold AM.sureN;simp only;by_cases e : i = j
  ·subst e;rw [aq, aq, List.map_drop];refine p3.more (fun x h1 h2 => ?_) fun x h1 h2 => ⟨.inr ⟨by rw [hl1] at h2; exact h2.1, h1⟩, by omega, by rw [hl1] at h2; omega, if_pos (by rw [hl1] at h2; exact h2.1)⟩;unfold lnB;rw [List.getElem?_set_ne (by rw [hl1] at h2; omega)]
  ·rw [aB e, aB e];refine (h5 i hi).more (fun x h1 h2 => ?_) fun x h1 h2 => ⟨.inl h2.1, h2.2.1, h2.2.2.1, (if_neg (by omega)).trans h2.2.2.2⟩;unfold lnB;rw [List.getElem?_set_ne (Ne.symm h2.2.2.1)];exact old2 x h1 h2.2.2.1
 ·unfold lnB; rw [List.length_set]; omega
 ·unfold lnB;rw [List.getElem?_set_ne (fun e => hnx (by rw [← e]; exact fk))];exact old2 x hx (fun e => hnx (by rw [e]; exact fk))
 ·rcases hx with hx | hx
  ·exact .inl hx
  ·exact .inr hx.1
end Go.Proofs.YtmimfopnhmmlbaaGreatDoor
namespace Go.Proofs.YtmimfopnhmmlbaaGreatDoor
open Go.Ab
def AM.fencedTo (M : AM) (c : Nat) : Nat → AM
 | 0 => M
 | i + 1 => (M.fencedTo c i).sureN i (flN c ((M.fencedTo c i).L i))
theorem xJ {M : AM} {i : Nat} : M.sureN i 0 = M := by
 obtain ⟨n, S, L, off, left, count⟩ := M;unfold AM.sureN;simp only [List.take_zero, List.drop_zero, am];congr 1
 ·funext j; unfold upd; split
  ·rename_i e; subst e; rfl
  ·rfl
 ·funext j; unfold upd; split
  ·rename_i e; subst e; rfl
  ·rfl
theorem cC {M : AM} {c : Nat} : ∀ i, (M.fencedTo c i).n = M.n ∧ (M.fencedTo c i).count = M.count ∧ (M.fencedTo c i).off = M.off ∧ (M.fencedTo c i).left = M.left
 | 0 => ⟨rfl, rfl, rfl, rfl⟩
 | i + 1 => cC i
theorem vr {M : AM} (h : M.Ok) {c : Nat} : ∀ i, (M.fencedTo c i).Ok
 | 0 => h
 | i + 1 => (vr h i).sureN
theorem uq {M : AM} {c j : Nat} : ∀ i, (M.fencedTo c i).now j = M.now j
 | 0 => rfl
 | i + 1 => by simp only [AM.fencedTo]; rw [AM.now_sure]; exact uq i
def AM.fence (M : AM) (c : Int) : AM × Int := if c < 0 ∨ 8 ≤ c then (M, 1) else if M.dead then (M.out, 4) else (M.stepped.fencedTo c.toNat M.n, 0)
theorem Bj (c : Nat) : ∀ l : List Dn, flN c l ≤ l.length
 | [] => Nat.le_refl _
 | d :: l => by
  have := Bj c l;simp only [flN, List.length_cons];split <;> (try split) <;> omega
theorem rS {m k cI : Nat} (hcI : cI < 8) {M : AM} (hc : M.count < 1000000) (hn : M.n ≤ 1024) (L : List Blk) : ∀ (n i : Nat) {hp : List Blk} {F : Ft}, i + n = M.n → bS hp F m (M.fencedTo cI i) →
 (∃ nn cp o b l c, hp[m]? = some (.rw (bf k nn cp o b l c))) →
 ∃ hp' F', rc D L.length (.loop [0, 1, 23, 24] dA) [(0, .ptr (.hp m) [] 59), (1, .int .i64 cI), (23, .int .i64 M.n), (24, .int .i64 i)] ⟨L, hp⟩ =
  some (.exit 0, [(0, .ptr (.hp m) [] 59), (1, .int .i64 cI), (23, .int .i64 M.n), (24, .int .i64 M.n), (25, .bool false)], ⟨L, hp'⟩) ∧ bS hp' F' m (M.fencedTo cI M.n) ∧ Chg hp hp' F F'
 | 0, i, hp, F, hi, h, _ => by
  have : i = M.n := by omega
  subst this;refine ⟨hp, F, ?_, h, .refl _ _⟩;have d1 : ¬ (M.n : Int) < M.n := by omega
  rw [ak];simp only [go_sem, dA, d1]
 | n + 1, i, hp, F, hi, h, hb => by
  have hM := h;obtain ⟨nn, cp0, o, b, l, c, hb⟩ := hb;obtain ⟨k', fk, ne, ⟨cp, left, h1, h2, h3⟩, sv, ow, h4, h5⟩ := h.mb;have hkk : k = k' := vL (Blk.rw.inj (Option.some.inj (hb.symm.trans h1)));subst hkk;have en := (cC (M := M) (c := cI) i).1;have ec := (cC (M := M) (c := cI) i).2.1;rw [en] at h4 h1;have hj : i < M.n := by omega
  have g := ai (f := fun q => plV ((M.fencedTo cI i).S q) ((M.fencedTo cI i).L q) (sv q)) hj;have g0 : plV ((M.fencedTo cI i).S i) ((M.fencedTo cI i).L i) (sv i) = .agg 55 [lnV (am ((M.fencedTo cI i).S i) ((M.fencedTo cI i).L i)), lnV ((M.fencedTo cI i).S i), sv i, .agg 50 (tab 8 fun c => .int .i64 (flN c ((M.fencedTo cI i).L i) : Nat))] := rfl;rw [g0] at g;have gf := ai (f := fun c => V.int .i64 (flN c ((M.fencedTo cI i).L i) : Nat)) hcI;have d1 : (i : Int) < M.n := by omega
  have d2 : (cI : Int) < 8 := by omega
  have d3 : (0 : Int) ≤ cI := by omega
  have d4 : IntKind.i64.wrap ((i : Int) + 1) = ((i + 1 : Nat) : Int) := ag (by omega) (by omega);have hsad : fY 55 (.sl (.hp k) [] 0 M.n cp 55) (.int .i64 (i : Int)) = some (.ptr (.hp k) [i] 55) := by simp [go_sem, hj]
  by_cases hz : flN cI ((M.fencedTo cI i).L i) = 0
  ·have e : M.fencedTo cI (i + 1) = M.fencedTo cI i := by simp only [AM.fencedTo]; rw [hz, xJ]
   obtain ⟨hp', F', r1, r2, r3⟩ := rS hcI hc hn L n (i + 1) (by omega) (by rw [e]; exact hM) ⟨_, _, _, _, _, _, hb⟩;refine ⟨hp', F', ?_, r2, r3⟩;rw [← r1, ak];rw [hz] at gf;have d5 : ¬ ((0 : Nat) : Int) > 0 := by omega
   simp only [bf] at h1;generalize (tab 8 fun c => V.int .i64 (flN c ((M.fencedTo cI i).L i) : Nat)) = TF at *;generalize (tab M.n fun q => plV ((M.fencedTo cI i).S q) ((M.fencedTo cI i).L q) (sv q)) = T0 at *;simp only [go_sem, dA, d1, h1, hsad, h4, g, d2, d3, Int.toNat_natCast, gf, d5, d4]
  ·obtain ⟨hp1, F1, s1, s2, s3, s4⟩ := yD hM (by rw [ec]; exact hc) hb (j := i) (n := flN cI ((M.fencedTo cI i).L i)) (by rw [en]; exact hj) (Bj _ _) L;obtain ⟨hp', F', r1, r2, r3⟩ := rS hcI hc hn L n (i + 1) (by omega) (F := F1) (hp := hp1) s2 ⟨_, _, _, _, _, _, s4.trans hb⟩;refine ⟨hp', F', ?_, r2, s3.trans r3⟩;rw [← r1, ak];have d5 : ((flN cI ((M.fencedTo cI i).L i) : Nat) : Int) > 0 := by omega
   simp only [bf] at h1;generalize (tab 8 fun c => V.int .i64 (flN c ((M.fencedTo cI i).L i) : Nat)) = TF at *;generalize (tab M.n fun q => plV ((M.fencedTo cI i).S q) ((M.fencedTo cI i).L q) (sv q)) = T0 at *;generalize flN cI ((M.fencedTo cI i).L i) = fz at *;simp only [go_sem, dA, d1, h1, hsad, h4, g, d2, d3, Int.toNat_natCast, gf, d5, d4, s1]
theorem vA {hp : List Blk} {F : Ft} {m : Nat} {M : AM} (h : bS hp F m M) (hc : M.count + 1 < 1000000) (c : Int) (L : List Blk) :
 ∃ hp' F', rf D kK [.ptr (.hp m) [] 59, .int .i64 c] ⟨L, hp⟩ = some (.int .i64 (M.fence c).2, ⟨L, hp'⟩) ∧ bS hp' F' m (M.fence c).1 ∧ Chg hp hp' F F' := by
 unfold AM.fence;by_cases hq : c < 0 ∨ 8 ≤ c
 ·rw [if_pos hq];refine ⟨hp, F, ?_, h, .refl _ _⟩;rw [aa kA rfl];by_cases hq0 : c < 0
  ·simp only [go_sem, hq0]
  ·have hq8 : c ≥ 8 := by omega
   simp only [go_sem, hq0, hq8]
 ·rw [if_neg hq];obtain ⟨p, rfl⟩ : ∃ p : Nat, c = p := ⟨c.toNat, by omega⟩;rw [Int.toNat_natCast];have d1 : ¬ (p : Int) < 0 := by omega
  have d2 : ¬ (p : Int) ≥ 8 := by omega
  obtain ⟨hp1, s1, s2, s3, s4⟩ := wZ h (by omega);unfold AM.stpE at s1;unfold AM.stp at s2;by_cases hd : M.dead = true
  ·rw [if_pos hd];rw [hd, if_pos rfl] at s1 s2;refine ⟨hp1, F, ?_, s2, s3⟩;rw [aa kA rfl];simp only [go_sem, d1, d2, s1]
  ·have hdf : M.dead = false := by simpa using hd
   rw [if_neg hd];rw [hdf, if_neg (by simp)] at s1 s2;have hM1 := s2;obtain ⟨k', fk', ne', ⟨cp', left', q1, q2, q3⟩, sv, ow, q4, q5⟩ := s2.mb;have hs : M.stepped.count < 1000000 := by simp only [AM.stepped]; exact hc
   obtain ⟨hp', F', r1, r2, r3⟩ := rS (m := m) (k := k') (cI := p) (by omega) hs hM1.ok.n1 L M.stepped.n 0 (by omega) (hp := hp1) (F := F) hM1 ⟨_, _, _, _, _, _, q1⟩;refine ⟨hp', F', ?_, r2, s3.trans r3⟩;have e1 : M.stepped.n = M.n := rfl;rw [e1] at r1 q1;rw [show ((0 : Nat) : Int) = 0 from rfl] at r1
   simp only [bf] at q1;rw [aa kA rfl];simp only [go_sem, d1, d2, s1, q1];simp only [go_sem, r1]
end Go.Proofs.YtmimfopnhmmlbaaGreatDoor
namespace Go.Proofs.YtmimfopnhmmlbaaGreatDoor
open Go.Ab
theorem xt (n a b : Int) (s : St) : rf D n6 [.int .i64 n, .int .i64 a, .int .i64 b] s = some (.bool (win n a b), s) := by
 unfold win;rw [aa ym rfl];by_cases h1 : a ≤ n
 ·have h1' : n ≥ a := h1;simp only [go_sem, h1, h1', decide_true]
 ·have h1' : ¬ n ≥ a := h1;simp only [go_sem, h1, h1', decide_false]
structure Sup where
 gen : Int
 root : Int
 seq : Int
 cores : Int
def Sup.v (b : Sup) : V := .agg 44 [.int .i64 b.gen, .int .i64 b.root, .int .i64 b.seq, .int .i64 b.cores]
def Sup.ok (b : Sup) : Bool := win b.gen 1 1099511627776 && (win b.root 0 1023 && (win b.seq 0 1099511627776 && win b.cores 1 8))
def xP (b : Sup) : List Int := [1526644958, IntKind.u64.wrap b.gen, IntKind.u64.wrap b.root, IntKind.u64.wrap b.seq, IntKind.u64.wrap b.cores, 0, 0, 0]
def bo (b : Sup) : List Int := if b.ok = true then pA (xP b) else zl
theorem vX (b : Sup) : (bo b).length = 8 := by
 unfold bo;split
 ·rw [tG]; rfl
 ·rfl
theorem zF (b : Sup) (s : St) : rf D pU [b.v] s = some (.tup [lnV (bo b), .int .i64 (if b.ok = true then 0 else 1)], s) := by
 have h := xt;have hz : (zl.map (V.int .u64)) = List.replicate 8 (.int .u64 0) := rfl;have hrep : List.replicate 8 (V.int .u64 0) = [.int .u64 0, .int .u64 0, .int .u64 0, .int .u64 0, .int .u64 0, .int .u64 0, .int .u64 0, .int .u64 0] := rfl;have hseal := fun s => qJ (l := xP b) rfl s;obtain ⟨g, r, q, c⟩ := b;unfold bo Sup.ok;simp only [Sup.v, xP, lnV, List.map_cons, List.map_nil] at *;generalize hA : win g 1 1099511627776 = A;generalize hB : win r 0 1023 = B;generalize hC : win q 0 1099511627776 = C;generalize hE : win c 1 8 = E;rw [aa AX rfl];cases A
 ·simp only [go_sem, h, hA, hz]
 ·cases B
  ·simp only [go_sem, h, hA, hB, hz]
  ·cases C
   ·simp only [go_sem, h, hA, hB, hC, hz]
   ·cases E
    ·simp only [go_sem, h, hA, hB, hC, hE, hz]
    ·simp only [go_sem, h, hA, hB, hC, hE];simp only [go_sem, hrep, hseal]
def AM.wrs (M : AM) (slot : Int) (b : Sup) : AM × Int :=
 if b.ok = false ∨ (slot ≠ 0 ∧ slot ≠ 1) then (M, 1) else
 if (M.store slot 7 0).2 ≠ 0 then M.store slot 7 0 else
 let r := (M.store slot 7 0).1.layFrom slot (bo b) 0 8
 if r.2 ≠ 0 then r else
 if (r.1.flush 0 slot).2 ≠ 0 then r.1.flush 0 slot else (r.1.flush 0 slot).1.fence 0
section
variable {m : Nat}
theorem Aa {l : List Int} (hl : l.length = 8) {at' : Int} {L : List Blk} {base : Nat} (hL : (L.drop base).all (bu L.length) = true) : ∀ (n j : Nat) {hp : List Blk} {Fm : Ft} {M : AM}, j + n = 8 → bS hp Fm m M → M.count + n < 1000000 →
 ∃ hp' Fm' r, rc D base (.loop [0, 1, 2, 37, 38] hJ) [(0, .ptr (.hp m) [] 59), (1, .int .i64 0), (2, .int .i64 at'), (37, lnV l), (38, .int .i64 j)] ⟨L, hp⟩ = some r ∧
  bS hp' Fm' m (M.layFrom at' l j n).1 ∧ Chg hp hp' Fm Fm' ∧
  (((M.layFrom at' l j n).2 = 0 ∧ r = (.exit 0, [(0, .ptr (.hp m) [] 59), (1, .int .i64 0), (2, .int .i64 at'), (37, lnV l), (38, .int .i64 8), (39, .bool false)], ⟨L, hp'⟩)) ∨
   ((M.layFrom at' l j n).2 ≠ 0 ∧ r = (.ret, [(8, .int .i64 (M.layFrom at' l j n).2)], ⟨L, hp'⟩)))
 | 0, j, hp, Fm, M, hj, h, _ => by
  have : j = 8 := by omega
  subst this;refine ⟨hp, Fm, _, ?_, h, .refl _ _, .inl ⟨rfl, rfl⟩⟩;rw [ak];simp only [lnV];simp only [go_sem, hJ]
 | n + 1, j, hp, Fm, M, hj, h, hc => by
  obtain ⟨hp1, Fm1, e1, e2, e3⟩ := lY h (by omega) at' j (l.getD j 0) L;have hcn := AM.store_count (M := M) (i := at') (q := j) (v := l.getD j 0);have d1 : (j : Int) < 8 := by omega
  have d2 : (0 : Int) ≤ j := by omega
  have d4 : IntKind.i64.wrap ((j : Int) + 1) = ((j + 1 : Nat) : Int) := ag (by omega) (by omega);have g := aK (f := V.int .u64) (l := l) (i := j) (by omega) 0;simp only [AM.layFrom];by_cases he : (M.store at' j (l.getD j 0)).2 = 0
  ·rw [if_neg fun hh => hh he];obtain ⟨hp2, Fm2, r, q1, q2, q3, q4⟩ := Aa hl hL n (j + 1) (by omega) e2 (by omega);refine ⟨hp2, Fm2, r, ?_, q2, e3.trans q3, q4⟩;rw [← q1, ak];rw [he] at e1;simp only [lnV] at *;generalize l.getD j 0 = wd at *;simp only [go_sem, hJ, d1, d2, Int.toNat_natCast, g, e1, d4, hL]
  ·rw [if_pos he];refine ⟨hp1, Fm1, _, ?_, e2, e3, .inr ⟨he, rfl⟩⟩;rw [ak];simp only [lnV] at *;generalize l.getD j 0 = wd at *;simp only [go_sem, hJ, d1, d2, Int.toNat_natCast, g, e1, he]
theorem cB {M : AM} {c i : Int} : (M.flush c i).1.count ≤ M.count + 1 ∧ (M.flush c i).1.n = M.n := by
 unfold AM.flush;split
 ·exact ⟨by simp only; omega, rfl⟩
 ·split
  ·exact ⟨by simp only [AM.out]; omega, rfl⟩
  ·exact ⟨by simp only [AM.flushed, AM.stepped]; omega, rfl⟩
theorem CA {hp : List Blk} {F : Ft} {M : AM} (h : bS hp F m M) (hc : M.count + 12 < 1000000) (slot : Int) (b : Sup) (L : List Blk) :
 ∃ hp' F', rf D oZ [.ptr (.hp m) [] 59, .int .i64 0, .int .i64 slot, b.v] ⟨L, hp⟩ = some (.int .i64 (M.wrs slot b).2, ⟨L, hp'⟩) ∧ bS hp' F' m (M.wrs slot b).1 ∧ Chg hp hp' F F' := by
 have hln := fun s => zF b s;have hlen := vX b;unfold AM.wrs;by_cases hb : b.ok = false
 ·rw [if_pos (.inl hb)];refine ⟨hp, F, ?_, h, .refl _ _⟩;rw [hb, if_neg (by simp)] at hln;simp only [Sup.v, lnV] at *;rw [aa gF rfl];simp only [go_sem, hln]
 ·have hb' : b.ok = true := by simpa using hb
  rw [hb', if_pos rfl] at hln;by_cases hs : slot ≠ 0 ∧ slot ≠ 1
  ·rw [if_pos (.inr hs)];refine ⟨hp, F, ?_, h, .refl _ _⟩;have h0 := hs.1;have h1 := hs.2;simp only [Sup.v, lnV] at *;rw [aa gF rfl];simp only [go_sem, hln, h0, h1]
  ·rw [if_neg (by intro hh; rcases hh with hh | hh; exact hb hh; exact hs hh)];obtain ⟨hp1, F1, e1, e2, e3⟩ := lY h (by omega) slot 7 0 (L ++ [.rw b.v, .rw (lnV (bo b))]);have c1 := AM.store_count (M := M) (i := slot) (q := 7) (v := 0);have hsl : slot = 0 ∨ slot = 1 := by omega
   by_cases he1 : (M.store slot 7 0).2 = 0
   ·rw [if_neg (by simp [he1])];obtain ⟨hp2, F2, r, q1, q2, q3, q4⟩ := Aa (m := m) hlen (at' := slot) (L := L ++ [.rw b.v, .rw (lnV (bo b))]) (base := L.length) (by simp only [Sup.v, lnV]; simp only [go_sem]) 8 0 rfl e2 (by omega);have c2 := AM.layFrom_count (M := (M.store slot 7 0).1) (at' := slot) (l := bo b) (n := 8) (j := 0);simp only;by_cases he2 : ((M.store slot 7 0).1.layFrom slot (bo b) 0 8).2 = 0
    ·rw [if_neg (by simp [he2])];rcases q4 with ⟨_, rfl⟩ | ⟨z, _⟩
     ·obtain ⟨hp3, r1, r2, r3⟩ := vl q2 (by omega) 0 slot (L ++ [.rw b.v, .rw (lnV (bo b))]);have c3 := (cB (M := ((M.store slot 7 0).1.layFrom slot (bo b) 0 8).1) (c := 0) (i := slot)).1;by_cases he3 : (((M.store slot 7 0).1.layFrom slot (bo b) 0 8).1.flush 0 slot).2 = 0
      ·rw [if_neg (by simp [he3])];obtain ⟨hp4, F4, s1, s2, s3⟩ := vA r2 (by omega) 0 (L ++ [.rw b.v, .rw (lnV (bo b))]);refine ⟨hp4, F4, ?_, s2, ((e3.trans q3).trans r3).trans s3⟩;rw [show ((0 : Nat) : Int) = 0 from rfl] at q1
       rw [he1] at e1;rw [he3] at r1;generalize ((((M.store slot 7 0).1.layFrom slot (bo b) 0 8).1.flush 0 slot).1.fence 0) = fz at *;generalize bo b = sl at *;simp only [Sup.v, lnV] at *;rw [aa gF rfl];rcases hsl with rfl | rfl
       ·simp only [go_sem, hln, e1];simp only [go_sem, q1, r1, s1]
       ·simp only [go_sem, hln, e1];simp only [go_sem, q1, r1, s1]
      ·rw [if_pos he3];refine ⟨hp3, F2, ?_, r2, (e3.trans q3).trans r3⟩;rw [show ((0 : Nat) : Int) = 0 from rfl] at q1
       rw [he1] at e1;generalize (((M.store slot 7 0).1.layFrom slot (bo b) 0 8).1.flush 0 slot) = fz at *;generalize bo b = sl at *;simp only [Sup.v, lnV] at *;rw [aa gF rfl];rcases hsl with rfl | rfl
       ·simp only [go_sem, hln, e1];simp only [go_sem, q1, r1, he3]
       ·simp only [go_sem, hln, e1];simp only [go_sem, q1, r1, he3]
     ·exact absurd he2 z
    ·rw [if_pos he2];rcases q4 with ⟨z, _⟩ | ⟨_, rfl⟩
     ·exact absurd z he2
     ·refine ⟨hp2, F2, ?_, q2, e3.trans q3⟩;rw [show ((0 : Nat) : Int) = 0 from rfl] at q1
      rw [he1] at e1;generalize ((M.store slot 7 0).1.layFrom slot (bo b) 0 8) = fz at *;generalize bo b = sl at *;simp only [Sup.v, lnV] at *;rw [aa gF rfl];rcases hsl with rfl | rfl
      ·simp only [go_sem, hln, e1];simp only [go_sem, q1]
      ·simp only [go_sem, hln, e1];simp only [go_sem, q1]
   ·rw [if_pos he1];refine ⟨hp1, F1, ?_, e2, e3⟩;generalize (M.store slot 7 0) = fz at *;generalize bo b = sl at *;simp only [Sup.v, lnV] at *;rw [aa gF rfl];rcases hsl with rfl | rfl
    ·simp only [go_sem, hln, e1, he1]
    ·simp only [go_sem, hln, e1, he1]
end
end Go.Proofs.YtmimfopnhmmlbaaGreatDoor
namespace Go.Proofs.YtmimfopnhmmlbaaGreatDoor
open Go.Ab
structure AW where
 x : AS
 b : Sup
 slot : Int
 st : List (Nat × Int)
 seq : Int
 tbl : Nat → Ent
 dir : Nat → Int
def wg : Nat → Nat
 | 0 => fB
 | 1 => ga
 | 2 => fT
 | 3 => fC
 | _ => eF
def bn (p : Nat × Int) : V := .agg 47 [.fn (wg p.1) [], .int .i64 p.2]
def wkV (m a : Nat) (sv : V) (w : AW) : V := .agg 61 [.ptr (.hp m) [] 59, .ptr (.hp a) [] 43, w.b.v, .int .i64 w.slot, sv, .int .i64 w.seq, ab w.tbl, ao w.dir]
inductive StR (hp : List Blk) (G : Ft) : V → List (Nat × Int) → Prop where
 | nil : StR hp G .nils []
 | emp (a : Nat) : StR hp G (.sl (.hp a) [] 0 0 (some 0) 47) []
 | sl (a off : Nat) (K : List V) (l : List (Nat × Int)) (hb : hp[a]? = some (.rw (.agg 63 K))) (hG : G a) (hk : ∀ (j : Nat) x, (l.map bn)[j]? = some x → K[off + j]? = some x) : StR hp G (.sl (.hp a) [] off l.length none 47) l
theorem Ce : ∀ l : List (Nat × Int), V.locLts 0 (l.map bn) = true
 | [] => rfl
 | p :: l => by
  have h : V.locLt 0 (bn p) = true := by simp only [bn]; simp only [go_sem]
  simp only [List.map_cons, V.locLts, h, Ce l, Bool.and_self]
section
variable {hp hp' : List Blk} {G G' : Ft} {v : V} {l : List (Nat × Int)}
theorem StR.eqv (h : StR hp G v l) (he : Eqv hp hp' G) : StR hp' G v l := by
 cases h with
 | nil => exact .nil
 | emp a => exact .emp a
 | sl a off K l hb hG hk => exact .sl a off K l (by rw [he a hG]; exact hb) hG hk
theorem StR.rs (h : StR hp G v l) (L : List Blk) : RS ⟨L, hp⟩ 47 v (l.map bn) := by
 cases h with
 | nil => exact .inl ⟨rfl, rfl⟩
 | emp a => exact .inr ⟨_, _, _, _, rfl, fun c hc => by cases hc; exact Nat.le_refl _, rfl, .inl rfl⟩
 | sl a off K l hb hG hk =>
  exact .inr ⟨_, _, _, _, by rw [List.length_map], fun c hc => (by cases hc), rfl, .inr ⟨63, K, by rw [kU, hb]; rfl, hk⟩⟩
theorem StR.slen (h : StR hp G v l) : V.slen false v = some l.length := by cases h <;> rfl
theorem StR.lt (h : StR hp G v l) : V.locLt 0 v = true := by cases h <;> rfl
theorem StR.tag (h : StR hp G v l) : v.tag = 1 := by cases h <;> rfl
theorem StR.shape (h : StR hp G v l) : v = .nils ∨ ∃ a p o n c, v = .sl a p o n c 47 := by
 cases h with
 | nil => exact .inl rfl
 | emp a => exact .inr ⟨_, _, _, _, _, rfl⟩
 | sl => exact .inr ⟨_, _, _, _, _, rfl⟩
theorem StR.push (h : StR hp G v l) {L : List Blk} {y : V} {l2 : List (Nat × Int)} (hy : y = .nils ∨ ∃ a p o n c, y = .sl a p o n c 47) (hyl : St.elems ⟨L, hp⟩ y = some (l2.map bn)) (hn : l2 ≠ []) (hm : l.length + l2.length < 1000) (base : Nat) :
 ∃ hp', ay base true 63 47 v y ⟨L, hp⟩ = some (.sl (.hp hp.length) [] 0 (l ++ l2).length none 47, ⟨L, hp'⟩) ∧ StR hp' (.one hp.length) (.sl (.hp hp.length) [] 0 (l ++ l2).length none 47) (l ++ l2) ∧ Chg hp hp' G (.one hp.length) ∧ hp'.length = hp.length + 1 := by
 have hel := (h.rs L).elems;have hlt : 47 % 2 = 0 ∨ aR true (.agg 1 (l.map bn ++ l2.map bn)) = true := .inr (by rw [← List.map_append]; simp only [pY, q8, Ce, Bool.or_true]);have key := oj (base := base) (h := true) (r := 63) h.shape hy hel hyl (by simpa using hn) (by simp [be]; omega) hlt;have hnew : ∀ H : List Blk, H.length = hp.length → (∀ j, j < hp.length → ¬ G j → H[j]? = hp[j]?) →
  ∃ hp', some (V.sl (.hp H.length) [] 0 ((l.map bn).length + (l2.map bn).length) none 47, (⟨L, H ++ [.rw (.agg 63 (l.map bn ++ l2.map bn))]⟩ : St)) = some (.sl (.hp hp.length) [] 0 (l ++ l2).length none 47, ⟨L, hp'⟩) ∧ StR hp' (.one hp.length) (.sl (.hp hp.length) [] 0 (l ++ l2).length none 47) (l ++ l2) ∧ Chg hp hp' G (.one hp.length) ∧ hp'.length = hp.length + 1 := by
  intro H hH ho;refine ⟨H ++ [.rw (.agg 63 (l.map bn ++ l2.map bn))], ?_, .sl hp.length 0 (l.map bn ++ l2.map bn) (l ++ l2) (by rw [← hH]; simp) rfl (fun j x hx => by rw [Nat.zero_add, ← List.map_append]; exact hx), ⟨by simp; omega, fun j hj hn => ?_, fun j hj => .inr (by cases hj; exact Nat.le_refl _)⟩, by simp [hH]⟩
  ·rw [hH]; simp
  ·rw [List.getElem?_append_left (by omega)]; exact ho j hj hn
 rw [key];cases h with
 | nil => exact hnew hp rfl fun _ _ _ => rfl
 | emp a =>
  have : (0 : Nat) < ([] : List (Nat × Int)).length + l2.length := by rw [List.length_nil, Nat.zero_add]; exact List.length_pos_iff.2 hn
  simp only [km, Option.map_some, List.length_map, this, decide_true, if_true];have := hnew hp rfl fun _ _ _ => rfl;simp only [List.length_map] at this;exact this
 | sl a off K l hb hG hk =>
  have hat : (⟨L, hp⟩ : St).at (.hp a) = some (.rw (.agg 63 K)) := hb;simp only [km, Option.map_none, hat];rw [if_neg (by simp), if_pos trivial];simp only [DZ, LB];exact hnew (hp.set a .dead) (List.length_set ..) fun j hj hn => List.getElem?_set_ne fun e => hn (by rw [← e]; exact hG)
theorem StR.rest {p : Nat × Int} {l : List (Nat × Int)} (h : StR hp G v (p :: l)) : ∃ v', gu 47 (some (.int .i64 1)) none none v = some v' ∧ StR hp G v' l := by
 cases h with
 | sl a off K l' hb hG hk =>
  refine ⟨.sl (.hp a) [] (off + 1) l.length none 47, ?_, .sl a (off + 1) K l hb hG fun j x hx => ?_⟩
  ·simp only [gu, if_true, al, aS, jG, Option.isSome_none, Bool.false_eq_true, if_false, List.length_cons];rw [if_pos ⟨by omega, by simp; omega⟩];simp [aS, ol]
  ·have := hk (j + 1) x (by simpa using hx);rw [show off + 1 + j = off + (j + 1) by omega]; exact this
end
structure WkQ (hp : List Blk) (wk a m fr : Nat) (Fm Gs : Ft) (sv : V) (w : AW) : Prop where
 q : aN hp Fm a m fr w.x
 st : hp[wk]? = some (.rw (wkV m a sv w))
 sr : StR hp Gs sv w.st
 n1 : ¬ ce a fr Fm wk
 n2 : dJ Gs (ce a fr Fm)
 n3 : ¬ Gs wk
 gz : ¬ Gs 0
 gi : Inn hp Gs
def WkF (wk a fr : Nat) (Fm Gs : Ft) : Ft := fun j => j = wk ∨ Gs j ∨ ce a fr Fm j
section
variable {hp hp' : List Blk} {wk a m fr : Nat} {Fm Fm' Gs Gs' : Ft} {sv sv' : V} {w w' : AW}
theorem aN.n0 {x : AS} (h : aN hp Fm a m fr x) : ¬ ce a fr Fm 0 := by
 rintro (e | e | e)
 ·exact h.a0 e.symm
 ·exact h.f0 e.symm
 ·exact h.nz e
theorem WkQ.inn (h : WkQ hp wk a m fr Fm Gs sv w) : Inn hp (WkF wk a fr Fm Gs) := fun j hj => by
 rcases hj with rfl | hj | hj
 ·exact af h.st
 ·exact h.gi j hj
 ·exact h.q.inn j hj
theorem WkQ.setS (h : WkQ hp wk a m fr Fm Gs sv w) {x' : AS} (q : aN hp' Fm' a m fr x') (hc : Chg hp hp' (ce a fr Fm) (ce a fr Fm')) : WkQ hp' wk a m fr Fm' Gs sv { w with x := x' } := by
 have hwl := af h.st;refine ⟨q, hc.get h.st h.n1, h.sr.eqv fun j hj => hc.old j (h.gi j hj) fun e => h.n2 j hj e, fun e => ?_, fun j h1 h2 => ?_, h.n3, h.gz, h.gi.more hc⟩
 ·rcases hc.new wk e with e | e
  ·exact h.n1 e
  ·omega
 ·rcases hc.new j h2 with e | e
  ·exact h.n2 j h1 e
  ·have := h.gi j h1; omega
theorem sA (hc : Chg hp hp' (ce a fr Fm) (ce a fr Fm')) : Chg hp hp' (WkF wk a fr Fm Gs) (WkF wk a fr Fm' Gs) :=
 hc.mono (fun j h => .inr (.inr h)) fun j h => by
  rcases h with h | h | h
  ·exact .inr (.inl h)
  ·exact .inr (.inr (.inl h))
  ·exact .inl h
theorem WkQ.setB (h : WkQ hp wk a m fr Fm Gs sv w) (hx : w'.x = w.x) (hs : StR hp Gs sv' w'.st) : WkQ (hp.set wk (.rw (wkV m a sv' w'))) wk a m fr Fm Gs sv' w' := by
 have hwl := af h.st;have hw0 : wk ≠ 0 := by
  intro e;have h1 := h.st;rw [e, h.q.g] at h1; cases h1
 refine ⟨by rw [hx]; exact aN.chg h.q (cR (a := wk)) (fun j h1 h2 => h.n1 (by cases h1; exact h2)) (fun e => hw0 e.symm), List.getElem?_set_self hwl, hs.eqv fun j hj => List.getElem?_set_ne fun e => h.n3 (by rw [e]; exact hj), h.n1, h.n2, h.n3, h.gz, h.gi.set⟩
theorem An {k : Blk} : Chg hp (hp.set wk k) (WkF wk a fr Fm Gs) (WkF wk a fr Fm Gs) := cR.mono (fun _ h => .inl h) fun _ h => .inr h
theorem WkQ.steps (h : WkQ hp wk a m fr Fm Gs sv w) (hc : Chg hp hp' Gs Gs') : aN hp' Fm a m fr w.x ∧ hp'[wk]? = some (.rw (wkV m a sv w)) ∧ dJ Gs' (ce a fr Fm) ∧ ¬ Gs' wk ∧ ¬ Gs' 0 := by
 have h0 := af h.q.g;refine ⟨aN.chg h.q hc h.n2 h.gz, hc.get h.st h.n3, hc.apart h.n2 h.q.inn, fun e => ?_, fun e => ?_⟩
 ·rcases hc.new wk e with e | e
  ·exact h.n3 e
  ·have := af h.st; omega
 ·rcases hc.new 0 e with e | e
  ·exact h.gz e
  ·omega
theorem WkQ.added (h : WkQ hp wk a m fr Fm Gs sv w) {hp1 : List Blk} (hs : StR hp1 (.one hp.length) sv' w'.st) (hc : Chg hp hp1 Gs (.one hp.length)) (hl : hp1.length = hp.length + 1) (hx : w'.x = w.x) :
 WkQ (hp1.set wk (.rw (wkV m a sv' w'))) wk a m fr Fm (.one hp.length) sv' w' ∧ Chg hp (hp1.set wk (.rw (wkV m a sv' w'))) (WkF wk a fr Fm Gs) (WkF wk a fr Fm (.one hp.length)) := by
 obtain ⟨k1, k2, k3, k4, k5⟩ := h.steps hc;have hwl := af h.st;have hw0 : wk ≠ 0 := by
  intro e;have h1 := h.st;rw [e, h.q.g] at h1; cases h1
 refine ⟨⟨by rw [hx]; exact aN.chg k1 (cR (a := wk)) (fun j h1 h2 => h.n1 (by cases h1; exact h2)) (fun e => hw0 e.symm), List.getElem?_set_self (by omega), hs.eqv fun j hj => List.getElem?_set_ne fun e => k4 (by rw [e]; exact hj), h.n1, k3, k4, k5, fun j hj => by cases hj; rw [List.length_set]; omega⟩, ?_⟩;refine (hc.mono (fun j hj => .inr (.inl hj)) fun j hj => ?_).trans (cR.mono (fun j hj => .inl hj) fun _ hj => .inr hj);rcases hj with hj | hj | hj
 ·exact .inr (.inl hj)
 ·exact .inl hj
 ·exact .inr (.inr (.inr hj))
end
end Go.Proofs.YtmimfopnhmmlbaaGreatDoor
namespace Go.Proofs.YtmimfopnhmmlbaaGreatDoor
open Go.Ab
def aG (t : Nat → Ent) (old : Nat → Bool) : Nat → List (Nat × Int)
 | 0 => []
 | i + 1 => if (t i).kind ≠ 0 ∧ old (t i).line.toNat = false then aG t old i ++ [(0, (t i).line)] else aG t old i
theorem jR (t : Nat → Ent) (old : Nat → Bool) : ∀ n, (aG t old n).length ≤ n
 | 0 => Nat.le_refl _
 | n + 1 => by
  have := jR t old n;simp only [aG];split
  ·simp; omega
  ·omega
theorem Jv {t : Nat → Ent} (ht : InL t) (L hp : List Blk) (wk : Nat) (d : Nat → Int) :
 rc D L.length (.loop [0, 6, 8, 68, 69] d8) [(0, .ptr (.hp wk) [] 61), (6, .ptr (.loc L.length) [] 48), (8, .ptr (.loc (L.length + 2)) [] 82), (68, ab t), (69, .int .i64 0)] ⟨L ++ [.rw (ab t), .rw (ao d), .rw (shV fun _ => false)], hp⟩ =
  some (.exit 1, [(0, .ptr (.hp wk) [] 61), (6, .ptr (.loc L.length) [] 48), (8, .ptr (.loc (L.length + 2)) [] 82), (68, ab t), (69, .int .i64 49), (70, .bool false)], ⟨L ++ [.rw (ab t), .rw (ao d), .rw (shV (au t (fun _ => false) 49))], hp⟩) := by
 refine aH (fun x : Nat => [(0, .ptr (.hp wk) [] 61), (6, .ptr (.loc L.length) [] 48), (8, .ptr (.loc (L.length + 2)) [] 82), (68, ab t), (69, .int .i64 x)]) (fun x => ⟨L ++ [.rw (ab t), .rw (ao d), .rw (shV (au t (fun _ => false) x))], hp⟩) (fun _ => _) (fun x => 49 - x) (fun x => x ≤ 49) 0 ?_ (by omega) rfl rfl;intro i hi;by_cases c1 : i < 49
 ·left;have d1 : (i : Int) < 49 := by omega
  have d2 : (0 : Int) ≤ i := by omega
  have d4 : IntKind.i64.wrap ((i : Int) + 1) = (i : Int) + 1 := ag (by omega) (by omega);have g1 := ai (f := fun i => (t i).v) c1;have hin := ht.inn i c1;have z1 : L.length < L.length + 3 := by omega
  have z2 : L.length + 2 < L.length + 3 := by omega
  refine ⟨i + 1, by omega, by omega, rfl, ?_⟩;simp only [ab, ao, Ent.v, au] at *;generalize tab 49 (fun i => V.agg 42 [.int .i64 (t i).kind, .int .i64 (t i).ver, .int .i64 (t i).line]) = T at *;by_cases hk : (t i).kind = 0
  ·simp only [hk, if_true] at g1 ⊢;simp only [shV] at *;generalize tab 1024 (fun j => V.bool (au t (fun _ => false) i j)) = F at *;simp only [go_sem, d8, d1, d2];rw [Int.toNat_natCast];simp only [go_sem, g1, d4, z1, z2, qC, List.drop_succ_cons, List.drop_zero];rfl
  ·simp only [hk, if_false] at g1 ⊢;obtain ⟨h1, h2⟩ := hin hk;obtain ⟨q, hq⟩ : ∃ q : Nat, (t i).line = q := ⟨(t i).line.toNat, by omega⟩;simp only [hq, Int.toNat_natCast] at g1 h1 h2 ⊢;have e := bw 1024 (fun j => V.bool (au t (fun _ => false) i j)) q (.bool true);have hu : tab 1024 (upd (fun j => V.bool (au t (fun _ => false) i j)) q (.bool true)) = tab 1024 (fun j => V.bool (upd (au t (fun _ => false) i) q true j)) := aP fun j _ => by unfold upd; split <;> rfl
   rw [hu] at e;have hg := ai (f := fun j => V.bool (au t (fun _ => false) i j)) (show q < 1024 by omega);simp only [shV];rw [← e];generalize tab 1024 (fun j => V.bool (au t (fun _ => false) i j)) = F at *;generalize au t (fun _ => false) i q = y at *;simp only [go_sem, d8, d1, d2];rw [Int.toNat_natCast];simp only [go_sem, g1, hk, h1, h2];rw [Int.toNat_natCast];simp only [go_sem, hg, d4, z1, z2, qC, List.drop_succ_cons, List.drop_zero];rfl
 ·right;have : i = 49 := by omega
  subst this;simp only [ab];simp only [go_sem, d8]
section
variable {wk a m fr : Nat} {Fm : Ft}
theorem pq {t : Nat → Ent} (ht : InL t) (old : Nat → Bool) (L : List Blk) (u0 u1 : Blk) (hu : ∀ n, bu n u0 = true ∧ bu n u1 = true) : ∀ (n i : Nat) {hp : List Blk} {Gs : Ft} {sv : V} {w : AW}, i + n = 49 → WkQ hp wk a m fr Fm Gs sv w → w.st = aG t old i →
 ∃ hp' Gs' sv', rc D L.length (.loop [0, 6, 8, 82, 83] cS) [(0, .ptr (.hp wk) [] 61), (6, .ptr (.loc L.length) [] 48), (8, .ptr (.loc (L.length + 2)) [] 82), (82, ab t), (83, .int .i64 i)] ⟨L ++ [u0, u1, .rw (shV old)], hp⟩ =
  some (.exit 3, [(0, .ptr (.hp wk) [] 61), (6, .ptr (.loc L.length) [] 48), (8, .ptr (.loc (L.length + 2)) [] 82), (82, ab t), (83, .int .i64 49), (84, .bool false)], ⟨L ++ [u0, u1, .rw (shV old)], hp'⟩) ∧
  WkQ hp' wk a m fr Fm Gs' sv' { w with st := aG t old 49 } ∧ Chg hp hp' (WkF wk a fr Fm Gs) (WkF wk a fr Fm Gs')
 | 0, i, hp, Gs, sv, w, hi, h, hw => by
  have : i = 49 := by omega
  subst this;refine ⟨hp, Gs, sv, ?_, by rw [← hw]; exact h, .refl _ _⟩;rw [ak];simp only [ab];simp only [go_sem, cS]
 | n + 1, i, hp, Gs, sv, w, hi, h, hw => by
  have c1 : i < 49 := by omega
  have d1 : (i : Int) < 49 := by omega
  have d2 : (0 : Int) ≤ i := by omega
  have d4 : IntKind.i64.wrap ((i : Int) + 1) = ((i + 1 : Nat) : Int) := ag (by omega) (by omega);have g1 := ai (f := fun i => (t i).v) c1;have hin := ht.inn i c1;have z1 : L.length < L.length + 3 := by omega
  have z2 : L.length + 2 < L.length + 3 := by omega
  have hu0 := (hu (L.length + 3)).1;have hu1 := (hu (L.length + 3)).2;have hst := h.st;by_cases hk : (t i).kind = 0
  ·have e : aG t old (i + 1) = aG t old i := by simp only [aG]; rw [if_neg fun hh => hh.1 hk]
   obtain ⟨hp', Gs', sv', r1, r2, r3⟩ := pq ht old L u0 u1 hu n (i + 1) (by omega) h (by rw [e]; exact hw);refine ⟨hp', Gs', sv', ?_, r2, r3⟩;rw [← r1, ak];simp only [ab, shV, Ent.v] at *;generalize tab 49 (fun i => V.agg 42 [.int .i64 (t i).kind, .int .i64 (t i).ver, .int .i64 (t i).line]) = T at *;generalize tab 1024 (fun j => V.bool (old j)) = F at *;rw [hk] at g1;simp only [go_sem, cS, d1, d2, Int.toNat_natCast, g1, d4, z1, z2, hu0, hu1]
  ·obtain ⟨h1, h2⟩ := hin hk;obtain ⟨q, hq⟩ : ∃ q : Nat, (t i).line = q := ⟨(t i).line.toNat, by omega⟩;have hg := ai (f := fun j => V.bool (old j)) (show q < 1024 by omega);cases ho : old q
   ·have e : aG t old (i + 1) = aG t old i ++ [(0, (q : Int))] := by simp only [aG]; rw [if_pos ⟨hk, by rw [hq, Int.toNat_natCast]; exact ho⟩, hq]
    have hy : St.elems ⟨L ++ [u0, u1, .rw (shV old), .rw (t i).v, .rw (.agg 63 [bn (0, (q : Int))])], hp⟩ (.sl (.loc (L.length + 4)) [] 0 1 (some 1) 47) = some ([(0, (q : Int))].map bn) := aV (t := 63) (by simp only [go_sem]) rfl;have hfl := jR t old i;obtain ⟨hp1, s1, s2, s3, s4⟩ := h.sr.push (L := L ++ [u0, u1, .rw (shV old), .rw (t i).v, .rw (.agg 63 [bn (0, (q : Int))])]) (y := .sl (.loc (L.length + 4)) [] 0 1 (some 1) 47) (l2 := [(0, (q : Int))]) (.inr ⟨_, _, _, _, _, rfl⟩) hy (by simp) (by rw [hw]; simp; omega) L.length;obtain ⟨k1, k2, k3, k4, k5⟩ := h.steps s3;have hA := h.added (w' := { w with st := w.st ++ [(0, (q : Int))] }) s2 s3 s4 rfl;obtain ⟨hp', Gs', sv', r1, r2, r3⟩ := pq ht old L u0 u1 hu n (i + 1) (by omega) hA.1 (by rw [e, ← hw]);refine ⟨hp', Gs', sv', ?_, r2, hA.2.trans r3⟩;rw [← r1, ak];rw [ho] at hg;have hrep : List.replicate 1 (V.agg 47 [.nilf, .int .i64 0]) = [.agg 47 [.nilf, .int .i64 0]] := rfl;have hfn : wg 0 = fB := rfl;simp only [hq] at h1 h2;simp only [ab, shV, Ent.v, hq, wkV, bn, hfn] at *;generalize tab 49 (fun i => V.agg 42 [.int .i64 (t i).kind, .int .i64 (t i).ver, .int .i64 (t i).line]) = T at *;generalize tab 1024 (fun j => V.bool (old j)) = F at *;simp only [go_sem, cS, d1, d2, Int.toNat_natCast, g1, hk, hq, h1, h2, hg, d4, z1, z2, hu0, hu1, hst, hrep, s1, k2]
   ·have e : aG t old (i + 1) = aG t old i := by simp only [aG]; rw [if_neg fun hh => by rw [hq, Int.toNat_natCast, ho] at hh; cases hh.2]
    obtain ⟨hp', Gs', sv', r1, r2, r3⟩ := pq ht old L u0 u1 hu n (i + 1) (by omega) h (by rw [e]; exact hw);refine ⟨hp', Gs', sv', ?_, r2, r3⟩;rw [← r1, ak];rw [ho] at hg;simp only [hq] at h1 h2;simp only [ab, shV, Ent.v, hq] at *;generalize tab 49 (fun i => V.agg 42 [.int .i64 (t i).kind, .int .i64 (t i).ver, .int .i64 (t i).line]) = T at *;generalize tab 1024 (fun j => V.bool (old j)) = F at *;simp only [go_sem, cS, d1, d2, Int.toNat_natCast, g1, hk, hq, h1, h2, hg, d4, z1, z2, hu0, hu1]
end
end Go.Proofs.YtmimfopnhmmlbaaGreatDoor
namespace Go.Proofs.YtmimfopnhmmlbaaGreatDoor
open Go.Ab
inductive NmR (hp : List Blk) (G : Ft) : V → List Int → Prop where
 | nil : NmR hp G .nils []
 | sl (a : Nat) (ks : List Int) (hb : hp[a]? = some (.rw (.agg 38 (ks.map (.int .i64))))) (hG : ¬ G a) : NmR hp G (.sl (.hp a) [] 0 ks.length none 10) ks
theorem NmR.rs {hp : List Blk} {G : Ft} {v : V} {ks : List Int} (h : NmR hp G v ks) (L : List Blk) : RS ⟨L, hp⟩ 10 v (ks.map (.int .i64)) := by
 cases h with
 | nil => exact .inl ⟨rfl, rfl⟩
 | sl a ks hb hG => exact .inr ⟨_, _, _, _, by rw [List.length_map], fun c hc => (by cases hc), rfl, .inr ⟨38, ks.map (.int .i64), by rw [kU, hb]; rfl, fun j x hx => by rw [Nat.zero_add]; exact hx⟩⟩
theorem NmR.lt {hp : List Blk} {G : Ft} {v : V} {ks : List Int} (h : NmR hp G v ks) (n : Nat) : v.locLt n = true := by cases h <;> rfl
theorem NmR.chg {hp hp' : List Blk} {G G' : Ft} {v : V} {ks : List Int} (h : NmR hp G v ks) (hc : Chg hp hp' G G') : NmR hp' G' v ks := by
 cases h with
 | nil => exact .nil
 | sl a ks hb hG =>
  refine .sl a ks (hc.get hb hG) fun e => ?_;rcases hc.new a e with e | e
  ·exact hG e
  ·have := af hb; omega
theorem WkQ.more {hp : List Blk} {wk a m fr : Nat} {Fm Gs : Ft} {sv : V} {w : AW} (h : WkQ hp wk a m fr Fm Gs sv w) (X : List Blk) : WkQ (hp ++ X) wk a m fr Fm Gs sv w :=
 ⟨aN.chg h.q (io hp X fun _ => False) (fun _ h => h.elim) (fun h => h), (List.getElem?_append_left (af h.st)).trans h.st, h.sr.eqv fun j hj => List.getElem?_append_left (h.gi j hj), h.n1, h.n2, h.n3, h.gz, fun j hj => by have := h.gi j hj; rw [List.length_append]; omega⟩
theorem LH {hp : List Blk} (X : List Blk) {F : Ft} : Chg hp (hp ++ X) F F := (io hp X fun _ => False).mono (fun _ h => h.elim) fun _ h => .inr h
section
variable {wk a m fr : Nat} {Fm : Ft}
theorem vI {ks : List Int} (hks : ks.length ≤ 7) (S0 : List (Nat × Int)) (hS : S0.length ≤ 49) {v : V} {L : List Blk} {base : Nat} (hL : (L.drop base).all (bu L.length) = true) : ∀ (n j : Nat) {hp : List Blk} {Gs : Ft} {sv : V} {w : AW}, j + n = ks.length → WkQ hp wk a m fr Fm Gs sv w → NmR hp (WkF wk a fr Fm Gs) v ks → w.st = S0 ++ (ks.take j).map (fun k => (1, k)) →
 ∃ hp' Gs' sv', rc D base (.loop [0, 114, 115, 116] gp) [(0, .ptr (.hp wk) [] 61), (114, v), (115, .int .i64 ks.length), (116, .int .i64 j)] ⟨L, hp⟩ =
  some (.exit 5, [(0, .ptr (.hp wk) [] 61), (114, v), (115, .int .i64 ks.length), (116, .int .i64 ks.length), (117, .bool false)], ⟨L, hp'⟩) ∧
  WkQ hp' wk a m fr Fm Gs' sv' { w with st := S0 ++ ks.map (fun k => (1, k)) } ∧ Chg hp hp' (WkF wk a fr Fm Gs) (WkF wk a fr Fm Gs')
 | 0, j, hp, Gs, sv, w, hj, h, hv, hw => by
  have : j = ks.length := by omega
  subst this;rw [List.take_length] at hw;refine ⟨hp, Gs, sv, ?_, by rw [← hw]; exact h, .refl _ _⟩;have d1 : ¬ (ks.length : Int) < ks.length := by omega
  rw [ak];simp only [go_sem, gp, d1]
 | n + 1, j, hp, Gs, sv, w, hj, h, hv, hw => by
  have c1 : j < ks.length := by omega
  have d1 : (j : Int) < ks.length := by omega
  have d4 : IntKind.i64.wrap ((j : Int) + 1) = ((j + 1 : Nat) : Int) := ag (by omega) (by omega);have hg := aK (f := V.int .i64) (l := ks) (i := j) c1 0;have hsad := (hv.rs L).sadq hg (k := .i64);have hld : ldv ⟨L, hp⟩ 10 (elq v j [] 10) = V.at [] (.int .i64 (ks.getD j 0)) := (hv.rs L).ldq hg;have hst := h.st;have hvl := hv.lt L.length;have e : S0 ++ (ks.take (j + 1)).map (fun k => ((1 : Nat), k)) = w.st ++ [(1, ks.getD j 0)] := by
   rw [hw, List.take_succ_eq_append_getElem c1, List.map_append, List.append_assoc, List.getD_eq_getElem?_getD, List.getElem?_eq_getElem c1]; rfl
  have hy : St.elems ⟨L ++ [.rw (.agg 63 [bn (1, ks.getD j 0)])], hp⟩ (.sl (.loc L.length) [] 0 1 (some 1) 47) = some ([(1, ks.getD j 0)].map bn) := aV (t := 63) (by simp only [go_sem]) rfl;obtain ⟨hp1, s1, s2, s3, s4⟩ := h.sr.push (L := L ++ [.rw (.agg 63 [bn (1, ks.getD j 0)])]) (y := .sl (.loc L.length) [] 0 1 (some 1) 47) (l2 := [(1, ks.getD j 0)]) (.inr ⟨_, _, _, _, _, rfl⟩) hy (by simp) (by rw [hw]; simp; omega) base;obtain ⟨k1, k2, k3, k4, k5⟩ := h.steps s3;have hA := h.added (w' := { w with st := w.st ++ [(1, ks.getD j 0)] }) s2 s3 s4 rfl;obtain ⟨hp', Gs', sv', r1, r2, r3⟩ := vI hks S0 hS hL n (j + 1) (by omega) hA.1 (hv.chg hA.2) e.symm;refine ⟨hp', Gs', sv', ?_, r2, hA.2.trans r3⟩;rw [← r1, ak];have hrep : List.replicate 1 (V.agg 47 [.nilf, .int .i64 0]) = [.agg 47 [.nilf, .int .i64 0]] := rfl;have hfn : wg 1 = ga := rfl;simp only [wkV, bn, hfn] at *;generalize ks.getD j 0 = kk at *;simp only [go_sem, gp, d1, hsad, hld, d4, hvl, hL, hst, hrep, s1, k2]
end
def AW.begun (w : AW) (seq : Int) : AW :=
 { w with x := w.x.marks.1, st := aG w.x.work (au w.x.base (fun _ => false) 49) 49 ++ (bH w.x.work w.x.base 7).map (fun k => (1, k)) ++ [(2, 0), (3, 0), (4, 0)], seq := seq, tbl := w.x.work, dir := w.x.dir }
def AW.begin (w : AW) (seq : Int) : AW × Int :=
 if w.st ≠ [] then (w, 3) else if seq < 0 ∨ 1099511627776 < seq ∨ 1099511627776 ≤ w.b.gen then (w, 1) else if w.x.is = true then (w, 3) else (w.begun seq, 0)
theorem rY {hp : List Blk} {wk a m fr : Nat} {Fm Gs : Ft} {sv : V} {w : AW} (h : WkQ hp wk a m fr Fm Gs sv w) (seq : Int) (L : List Blk) :
 ∃ hp' Gs' sv', rf D lE [.ptr (.hp wk) [] 61, .int .i64 seq] ⟨L, hp⟩ = some (.int .i64 (w.begin seq).2, ⟨L, hp'⟩) ∧ WkQ hp' wk a m fr Fm Gs' sv' (w.begin seq).1 ∧ Chg hp hp' (WkF wk a fr Fm Gs) (WkF wk a fr Fm Gs') := by
 have hst := h.st;have hsl := h.sr.slen;unfold AW.begin;by_cases hs : w.st ≠ []
 ·rw [if_pos hs];refine ⟨hp, Gs, sv, ?_, h, .refl _ _⟩;have d1 : (w.st.length : Int) > 0 := by have := List.length_pos_iff.2 hs; omega
  simp only [wkV] at hst;rw [aa iH rfl];simp only [go_sem, hst, hsl, d1]
 ·have hs0 : w.st = [] := by simpa using hs
  rw [if_neg hs];rw [hs0] at hsl;by_cases ha : seq < 0 ∨ 1099511627776 < seq ∨ 1099511627776 ≤ w.b.gen
  ·rw [if_pos ha];refine ⟨hp, Gs, sv, ?_, h, .refl _ _⟩;simp only [wkV, Sup.v] at hst;rw [aa iH rfl];by_cases h1 : seq < 0
   ·simp only [go_sem, hst, hsl, h1]
   ·by_cases h2 : seq > 1099511627776
    ·simp only [go_sem, hst, hsl, h1, h2]
    ·have h3 : w.b.gen ≥ 1099511627776 := by omega
     simp only [go_sem, hst, hsl, h1, h2, h3]
  ·rw [if_neg ha];have h1 : ¬ seq < 0 := by omega
   have h2 : ¬ seq > 1099511627776 := by omega
   have h3 : ¬ w.b.gen ≥ 1099511627776 := by omega
   obtain ⟨hp1, p1, p2, p3⟩ := Fv h.q L;by_cases hi : w.x.is = true
   ·rw [if_pos hi];have hm : w.x.marks = (w.x, 3) := by unfold AS.marks; rw [if_pos hi]
    rw [hm] at p1 p2;have hW := h.setS p2 p3;refine ⟨hp1, Gs, sv, ?_, hW, sA p3⟩;simp only [wkV, Sup.v] at hst;rw [aa iH rfl];simp only [go_sem, hst, hsl, h1, h2, h3, p1]
   ·rw [if_neg hi];have hm : w.x.marks = ({ w.x with mark := w.x.work, is := true }, 0) := by unfold AS.marks; rw [if_neg hi]
    rw [hm] at p1 p2;have W1 := h.setS p2 p3;have ok := h.q.ok;have W2 := W1.setB (w' := { w with x := { w.x with mark := w.x.work, is := true }, tbl := w.x.work }) rfl W1.sr;have W3 := W2.setB (w' := { w with x := { w.x with mark := w.x.work, is := true }, tbl := w.x.work, seq := seq, dir := w.x.dir }) rfl W2.sr;have hwl1 := af W1.st;rw [List.set_set] at W3;have c13 : Chg hp (hp1.set wk (.rw (wkV m a sv { w with x := { w.x with mark := w.x.work, is := true }, tbl := w.x.work, seq := seq, dir := w.x.dir }))) (WkF wk a fr Fm Gs) (WkF wk a fr Fm Gs) := (sA p3).trans An;have hold := Jv (ok.b.inL ok.A) L (hp1.set wk (.rw (wkV m a sv { w with x := { w.x with mark := w.x.work, is := true }, tbl := w.x.work, seq := seq, dir := w.x.dir }))) wk w.x.dir;obtain ⟨hp4, G4, sv4, e4, W4, c4⟩ := pq (ok.w.inL ok.A) (au w.x.base (fun _ => false) 49) L (.rw (ab w.x.base)) (.rw (ao w.x.dir)) (fun n => by simp only [ab, ao]; simp only [go_sem]) 49 0 rfl W3 hs0;rw [show ((0 : Nat) : Int) = 0 from rfl] at e4
    obtain ⟨X, vd, hap, ed⟩ := xB w.x.work w.x.base ⟨L ++ [.rw (ab w.x.base), .rw (ao w.x.dir), .rw (shV (au w.x.base (fun _ => false) 49))], hp4⟩;have W5 : WkQ (hp4 ++ X) wk a m fr Fm G4 sv4 { w with x := { w.x with mark := w.x.work, is := true }, tbl := w.x.work, seq := seq, dir := w.x.dir, st := aG w.x.work (au w.x.base (fun _ => false) 49) 49 } := W4.more X;have hnm : NmR (hp4 ++ X) (WkF wk a fr Fm G4) vd (bH w.x.work w.x.base 7) := by
     rcases hap.at' with ⟨q1, rfl⟩ | ⟨Y, rfl, rfl⟩
     ·rw [q1]; exact .nil
     ·refine .sl _ _ (by rw [← List.append_assoc, ← List.length_append]; simp) fun hh => ?_;have := W4.inn _ hh;simp only at this; omega
    have hdl := ms w.x.work w.x.base 7;have hfl := jR w.x.work (au w.x.base (fun _ => false) 49) 49;obtain ⟨hp6, G6, sv6, e6, W6, c6⟩ := vI (ks := bH w.x.work w.x.base 7) hdl (aG w.x.work (au w.x.base (fun _ => false) 49) 49) hfl (v := vd) (L := L ++ [.rw (ab w.x.base), .rw (ao w.x.dir), .rw (shV (au w.x.base (fun _ => false) 49))]) (base := L.length) (by simp only [ab, ao, shV]; simp only [go_sem]) (bH w.x.work w.x.base 7).length 0 (by omega) W5 hnm (by simp);rw [show ((0 : Nat) : Int) = 0 from rfl] at e6
    have hy : St.elems ⟨L ++ [.rw (ab w.x.base), .rw (ao w.x.dir), .rw (shV (au w.x.base (fun _ => false) 49)), .rw (.agg 63 [bn (2, 0), bn (3, 0), bn (4, 0)])], hp6⟩ (.sl (.loc (L.length + 3)) [] 0 3 (some 3) 47) = some ([(2, 0), (3, 0), (4, 0)].map bn) := aV (t := 63) (by simp only [go_sem]) rfl;obtain ⟨hp7, s1, s2, s3, s4⟩ := W6.sr.push (L := L ++ [.rw (ab w.x.base), .rw (ao w.x.dir), .rw (shV (au w.x.base (fun _ => false) 49)), .rw (.agg 63 [bn (2, 0), bn (3, 0), bn (4, 0)])]) (y := .sl (.loc (L.length + 3)) [] 0 3 (some 3) 47) (l2 := [(2, 0), (3, 0), (4, 0)]) (.inr ⟨_, _, _, _, _, rfl⟩) hy (by simp) (by simp; omega) L.length;obtain ⟨k1, k2, k3, k4, k5⟩ := W6.steps s3;have hA := W6.added (w' := w.begun seq) s2 s3 s4 (by unfold AW.begun; simp only; rw [hm]);have hfin : (hp7.set wk (.rw (wkV m a (.sl (.hp hp6.length) [] 0 (aG w.x.work (au w.x.base (fun _ => false) 49) 49 ++ (bH w.x.work w.x.base 7).map (fun k => ((1 : Nat), k)) ++ [(2, 0), (3, 0), (4, 0)]).length none 47) (w.begun seq)))) = hp7.set wk (.rw (wkV m a (.sl (.hp hp6.length) [] 0 (aG w.x.work (au w.x.base (fun _ => false) 49) 49 ++ (bH w.x.work w.x.base 7).map (fun k => ((1 : Nat), k)) ++ [(2, 0), (3, 0), (4, 0)]).length none 47) (w.begun seq))) := rfl;refine ⟨_, _, _, ?_, hA.1, ((c13.trans c4).trans (LH X)).trans (c6.trans hA.2)⟩;have m1 := Bs p2;have b1 := xz W2.q;have st1 := W1.st;have st3 := W3.st;have st4 := W4.st;have st6 := W6.st;have hset : ∀ k, (hp1.set wk k)[wk]? = some k := fun k => List.getElem?_set_self hwl1;simp only [if_true] at m1;have hrep : List.replicate 3 (V.agg 47 [.nilf, .int .i64 0]) = [.agg 47 [.nilf, .int .i64 0], .agg 47 [.nilf, .int .i64 0], .agg 47 [.nilf, .int .i64 0]] := rfl;have hf2 : wg 2 = fT := rfl;have hf3 : wg 3 = fC := rfl;have hf4 : wg 4 = eF := rfl;have zf : V.agg 82 (List.replicate 1024 (.bool false)) = shV fun _ => false := by rw [dk]; rfl
    have hvl := hnm.lt L.length;have hvs : V.slen false vd = some (bH w.x.work w.x.base 7).length := by
     have := (hnm.rs []).slen
     rwa [List.length_map] at this
    clear W1 W2 W3 W4 W5 W6 hA hfin hnm c4 c6 c13 k1 k3 k4 k5 s2 s3 p2 p3 h;generalize (aG w.x.work (au w.x.base (fun _ => false) 49) 49 ++ (bH w.x.work w.x.base 7).map (fun k => ((1 : Nat), k)) ++ [(2, 0), (3, 0), (4, 0)]) = ST at *;generalize (bH w.x.work w.x.base 7) = DL at *;generalize au w.x.base (fun _ => false) 49 = OLD at *;simp only [wkV, Sup.v, AW.begun, bn, hf2, hf3, hf4, ab, ao, shV] at *;rw [aa iH rfl];simp only [go_sem, hst, hsl, h1, h2, h3, p1];simp only [go_sem, st1, m1, hset, List.set_set];simp only [go_sem, hset, b1, List.set_set];simp only [go_sem, hset, List.set_set, zf, hold];simp only [go_sem, hset, e4];simp only [go_sem, st4, ed, hvl, hvs];simp only [go_sem, e6];simp only [go_sem, st6, hrep, s1, k2]
end Go.Proofs.YtmimfopnhmmlbaaGreatDoor
namespace Go.Proofs.YtmimfopnhmmlbaaGreatDoor
open Go.Ab
section
variable {hp hp' : List Blk} {wk a m fr : Nat} {Fm Fm' Gs : Ft} {sv : V} {w : AW}
theorem WkQ.setM (h : WkQ hp wk a m fr Fm Gs sv w) {M : AM} (hm : bS hp' Fm' m M) (hc : Chg hp hp' Fm Fm') (hn : M.n = w.x.M.n) : WkQ hp' wk a m fr Fm' Gs sv { w with x := { w.x with M := M } } ∧ Chg hp hp' (WkF wk a fr Fm Gs) (WkF wk a fr Fm' Gs) :=
 ⟨h.setS (h.q.setM hm hc hn) (FA hc), sA (FA hc)⟩
theorem vt (h : WkQ hp wk a m fr Fm Gs sv w) (hc : w.x.M.count < 1000000) (n : Int) (L : List Blk) :
 ∃ hp', rf D fB [.ptr (.hp wk) [] 61, .int .i64 n] ⟨L, hp⟩ = some (.int .i64 (w.x.M.flush 0 n).2, ⟨L, hp'⟩) ∧ WkQ hp' wk a m fr Fm Gs sv { w with x := { w.x with M := (w.x.M.flush 0 n).1 } } ∧ Chg hp hp' (WkF wk a fr Fm Gs) (WkF wk a fr Fm Gs) := by
 obtain ⟨hp', e1, e2, e3⟩ := vl h.q.mp hc 0 n L;obtain ⟨q1, q2⟩ := h.setM e2 e3 cB.2;refine ⟨hp', ?_, q1, q2⟩;have hst := h.st;simp only [wkV] at hst;rw [aa u6 rfl];simp only [go_sem, hst, e1]
theorem Di {l : List Int} (hl : l.length = 8) {at' : Int} (L : List Blk) (P : V) (hP : ∀ n, P.locLt n = true) : ∀ (n j : Nat) {hp : List Blk} {Fm : Ft} {w : AW}, j + n = 8 → WkQ hp wk a m fr Fm Gs sv w → w.x.M.count + n < 1000000 →
 ∃ hp' Fm' r, rc D L.length (.loop [0, 2, 7, 24, 25] d9) [(0, .ptr (.hp wk) [] 61), (2, P), (7, .int .i64 at'), (24, lnV l), (25, .int .i64 j)] ⟨L ++ [.rw (lnV l)], hp⟩ = some r ∧
  WkQ hp' wk a m fr Fm' Gs sv { w with x := { w.x with M := (w.x.M.layFrom at' l j n).1 } } ∧ Chg hp hp' (WkF wk a fr Fm Gs) (WkF wk a fr Fm' Gs) ∧
  (((w.x.M.layFrom at' l j n).2 = 0 ∧ r = (.exit 0, [(0, .ptr (.hp wk) [] 61), (2, P), (7, .int .i64 at'), (24, lnV l), (25, .int .i64 8), (26, .bool false)], ⟨L ++ [.rw (lnV l)], hp'⟩)) ∨
   ((w.x.M.layFrom at' l j n).2 ≠ 0 ∧ r = (.ret, [(6, .int .i64 (w.x.M.layFrom at' l j n).2)], ⟨L ++ [.rw (lnV l)], hp'⟩)))
 | 0, j, hp, Fm, w, hj, h, _ => by
  have : j = 8 := by omega
  subst this;refine ⟨hp, Fm, _, ?_, h, .refl _ _, .inl ⟨rfl, rfl⟩⟩;rw [ak];simp only [lnV];simp only [go_sem, d9]
 | n + 1, j, hp, Fm, w, hj, h, hc => by
  obtain ⟨hp1, Fm1, e1, e2, e3⟩ := lY h.q.mp (by omega) at' j (l.getD j 0) (L ++ [.rw (lnV l)]);obtain ⟨h1, c1⟩ := h.setM e2 e3 AM.store_n;have hcn := AM.store_count (M := w.x.M) (i := at') (q := j) (v := l.getD j 0);have d1 : (j : Int) < 8 := by omega
  have d2 : (0 : Int) ≤ j := by omega
  have d4 : IntKind.i64.wrap ((j : Int) + 1) = ((j + 1 : Nat) : Int) := ag (by omega) (by omega);have g := aK (f := V.int .u64) (l := l) (i := j) (by omega) 0;have hst := h.st;have hP1 := hP (L.length + 1);simp only [AM.layFrom];by_cases he : (w.x.M.store at' j (l.getD j 0)).2 = 0
  ·rw [if_neg fun hh => hh he];obtain ⟨hp2, Fm2, r, q1, q2, q3, q4⟩ := Di hl L P hP n (j + 1) (by omega) h1 (by simp only; omega);refine ⟨hp2, Fm2, r, ?_, q2, c1.trans q3, q4⟩;rw [← q1, ak];rw [he] at e1;simp only [wkV, lnV] at *;generalize l.getD j 0 = wd at *;simp only [go_sem, d9, d1, d2, Int.toNat_natCast, g, hst, e1, d4, hP1]
  ·rw [if_pos he];refine ⟨hp1, Fm1, _, ?_, h1, c1, .inr ⟨he, rfl⟩⟩;rw [ak];simp only [wkV, lnV] at *;generalize l.getD j 0 = wd at *;simp only [go_sem, d9, d1, d2, Int.toNat_natCast, g, hst, e1, he]
def AW.write (w : AW) (l : List Int) (q : Nat) : AW × Int :=
 if (w.x.lay l).2.2 ≠ 0 then ({ w with x := (w.x.lay l).1 }, (w.x.lay l).2.2) else
 if ((w.x.lay l).1.M.flush 0 (w.x.lay l).2.1).2 ≠ 0 then ({ w with x := { (w.x.lay l).1 with M := ((w.x.lay l).1.M.flush 0 (w.x.lay l).2.1).1 } }, ((w.x.lay l).1.M.flush 0 (w.x.lay l).2.1).2) else
 ({ w with x := { (w.x.lay l).1 with M := ((w.x.lay l).1.M.flush 0 (w.x.lay l).2.1).1 }, dir := upd w.dir q (w.x.lay l).2.1 }, 0)
theorem yo {d : Nat → Int} {q : Nat} {y : Int} : (tab 8 fun i => V.int .i64 (d i)).set q (.int .i64 y) = tab 8 fun i => .int .i64 (upd d q y i) := by
 rw [bw];apply aP;intro i _;unfold upd; split <;> rfl
theorem vu (h : WkQ hp wk a m fr Fm Gs sv w) (hc : w.x.M.count + 10 < 1000000) {l : List Int} (hl : l.length = 8) {q : Nat} (hq : q < 8) (L : List Blk) :
 ∃ hp' Fm', rf D lD [.ptr (.hp wk) [] 61, lnV l, .ptr (.hp wk) [7, q] 10] ⟨L, hp⟩ = some (.int .i64 (w.write l q).2, ⟨L, hp'⟩) ∧ WkQ hp' wk a m fr Fm' Gs sv (w.write l q).1 ∧ Chg hp hp' (WkF wk a fr Fm Gs) (WkF wk a fr Fm' Gs) := by
 have hst := h.st;obtain ⟨hp1, e1, e2, e3⟩ := EZ h.q (L ++ [.rw (lnV l)]);have h1 := h.setS e2 e3;have c1 : Chg hp hp1 (WkF wk a fr Fm Gs) (WkF wk a fr Fm Gs) := sA e3;have hst1 := h1.st;unfold AW.write;by_cases he : w.x.A.alloc.2.2 = 0
 ·have et : w.x.take.2.2 = 0 := he;obtain ⟨hp2, Fm2, r, q1, q2, q3, q4⟩ := Di (wk := wk) (a := a) (m := m) (fr := fr) (Gs := Gs) (sv := sv) hl (at' := w.x.A.alloc.2.1) L (.ptr (.hp wk) [7, q] 10) (fun _ => rfl) 8 0 rfl h1 (by have : w.x.take.1.M = w.x.M := rfl; simp only [this]; omega);have eM : w.x.take.1.M = w.x.M := rfl;have eA : w.x.take.1.A = w.x.A.alloc.1 := rfl;simp only [eM] at q1 q2 q4;rw [show ((0 : Nat) : Int) = 0 from rfl] at q1
  have hlc := AM.layFrom_count (M := w.x.M) (at' := w.x.A.alloc.2.1) (l := l) (n := 8) (j := 0);by_cases he2 : (w.x.M.layFrom w.x.A.alloc.2.1 l 0 8).2 = 0
  ·have hlay : w.x.lay l = ({ w.x with A := w.x.A.alloc.1, M := (w.x.M.layFrom w.x.A.alloc.2.1 l 0 8).1 }, w.x.A.alloc.2.1, 0) := by
    unfold AS.lay;rw [if_neg (by simp [he]), if_neg (by simp [he2]), he2]
   rw [hlay];simp only;rw [if_neg (by simp)];rcases q4 with ⟨_, rfl⟩ | ⟨z, _⟩
   ·obtain ⟨hp3, s1, s2, s3⟩ := vt q2 (by simp only; omega) w.x.A.alloc.2.1 (L ++ [.rw (lnV l)]);simp only at s1 s2;have e21 : w.x.take.2.1 = w.x.A.alloc.2.1 := rfl;rw [et, e21] at e1;have hst2 := q2.st;by_cases he3 : (((w.x.M.layFrom w.x.A.alloc.2.1 l 0 8).1.flush 0 w.x.A.alloc.2.1).2) = 0
    ·rw [if_neg (by simp [he3])];have hst3 := s2.st;have hl3 := af hst3;have hW := s2.setB (w' := { w with x := { w.x with M := ((w.x.M.layFrom w.x.A.alloc.2.1 l 0 8).1.flush 0 w.x.A.alloc.2.1).1, A := w.x.A.alloc.1 }, dir := upd w.dir q w.x.A.alloc.2.1 }) rfl s2.sr;have gd := ai (f := fun i => V.int .i64 (w.dir i)) hq;have hds := yo (d := w.dir) (q := q) (y := w.x.A.alloc.2.1);have hq8 : (q : Int) < 8 := by omega
     refine ⟨_, Fm2, ?_, hW, ((c1.trans q3).trans s3).trans An⟩;rw [he3] at s1;generalize w.x.A.alloc.2.1 = at1 at *;generalize ((w.x.M.layFrom at1 l 0 8).1.flush 0 at1) = fz at *;generalize (w.x.M.layFrom at1 l 0 8) = lz at *;simp only [wkV, lnV, ao] at *;rw [← hds];rw [aa iG rfl];simp only [go_sem, hst, e1];simp only [go_sem, q1];simp only [go_sem, s1, hst3, gd]
    ·rw [if_pos he3];refine ⟨hp3, Fm2, ?_, s2, (c1.trans q3).trans s3⟩;generalize w.x.A.alloc.2.1 = at1 at *;generalize ((w.x.M.layFrom at1 l 0 8).1.flush 0 at1) = fz at *;generalize (w.x.M.layFrom at1 l 0 8) = lz at *;simp only [wkV, lnV] at *;rw [aa iG rfl];simp only [go_sem, hst, e1];simp only [go_sem, q1];simp only [go_sem, s1, he3]
   ·exact absurd he2 z
  ·have hlay : w.x.lay l = ({ w.x with A := w.x.A.alloc.1, M := (w.x.M.layFrom w.x.A.alloc.2.1 l 0 8).1 }, 0, (w.x.M.layFrom w.x.A.alloc.2.1 l 0 8).2) := by
    unfold AS.lay;rw [if_neg (by simp [he]), if_pos he2]
   rw [hlay];simp only;rw [if_pos he2];rcases q4 with ⟨z, _⟩ | ⟨_, rfl⟩
   ·exact absurd z he2
   ·refine ⟨hp2, Fm2, ?_, q2, c1.trans q3⟩;have e21 : w.x.take.2.1 = w.x.A.alloc.2.1 := rfl;rw [et, e21] at e1;generalize w.x.A.alloc.2.1 = at1 at *;generalize (w.x.M.layFrom at1 l 0 8) = lz at *;simp only [wkV, lnV] at *;rw [aa iG rfl];simp only [go_sem, hst, e1];simp only [go_sem, q1]
 ·have hn : w.x.A.alloc = (w.x.A, 0, 10) := by
   unfold AF.alloc at he ⊢;split
   ·rename_i hq; rw [hq] at he; exact absurd rfl he
   ·rfl
  have ht : w.x.take = (w.x, 0, 10) := by unfold AS.take; rw [hn]
  rw [ht] at e1 h1;have hlay : w.x.lay l = (w.x, 0, 10) := by
   unfold AS.lay;rw [hn]; rfl
  rw [hlay];simp only;rw [if_pos (by decide)];refine ⟨hp1, Fm, ?_, h1, c1⟩;simp only [wkV, lnV] at *;rw [aa iG rfl];simp only [go_sem, hst, e1]
end
end Go.Proofs.YtmimfopnhmmlbaaGreatDoor
namespace Go.Proofs.YtmimfopnhmmlbaaGreatDoor
open Go.Ab
theorem GB {s : St} {a : Ab.Loc} {t n m k : Nat} {p : List Nat} {f : Nat → V} (hr : s.read a p = some (.agg t (tab n f))) (h : k + m ≤ n) : s.part m t a (p ++ [k]) = some (tab m fun i => f (k + i)) := by
 unfold St.part;rw [List.dropLast_concat, List.getLastD_concat, hr];simp only;have hc : True ∧ p ++ [k] ≠ [] ∧ k + m ≤ (tab n f).length := ⟨trivial, by simp, by rw [bt]; exact h⟩;rw [if_pos hc, AU h]
section
variable {hp hp' : List Blk} {wk a m fr : Nat} {Fm Fm' Gs : Ft} {sv : V} {w : AW}
theorem FP (h : WkQ hp wk a m fr Fm Gs sv w) (hc : w.x.M.count + 10 < 1000000) {k : Nat} (hk : k < 7) (L : List Blk) :
 ∃ hp' Fm', rf D ga [.ptr (.hp wk) [] 61, .int .i64 k] ⟨L, hp⟩ = some (.int .i64 (w.write (cY w.tbl k) k).2, ⟨L, hp'⟩) ∧ WkQ hp' wk a m fr Fm' Gs sv (w.write (cY w.tbl k) k).1 ∧ Chg hp hp' (WkF wk a fr Fm Gs) (WkF wk a fr Fm' Gs) := by
 obtain ⟨e, hl⟩ : ∃ e, ∀ s, rf D ni [ab w.tbl, .int .i64 k] s = some (.tup [lnV (cY w.tbl k), .int .i64 (e s)], s) := ⟨fun s => (td w.tbl hk s).choose, fun s => (td w.tbl hk s).choose_spec⟩;obtain ⟨hp', Fm', e1, e2, e3⟩ := vu h hc (tR w.tbl k) (show k < 8 by omega) (L ++ [.rw (lnV (cY w.tbl k))]);refine ⟨hp', Fm', ?_, e2, e3⟩;have hst := h.st;have d1 : (k : Int) < 8 := by omega
 have d2 : (0 : Int) ≤ k := by omega
 generalize w.write (cY w.tbl k) k = wr at *;generalize cY w.tbl k = ll at *;simp only [wkV, ab, lnV] at *;rw [aa vV rfl];simp only [go_sem, hst, hl, d1, d2, Int.toNat_natCast, e1]
theorem Es (h : WkQ hp wk a m fr Fm Gs sv w) (hc : w.x.M.count + 10 < 1000000) (n : Int) (L : List Blk) :
 ∃ hp' Fm', rf D fT [.ptr (.hp wk) [] 61, .int .i64 n] ⟨L, hp⟩ = some (.int .i64 (w.write (dL w.dir) 7).2, ⟨L, hp'⟩) ∧ WkQ hp' wk a m fr Fm' Gs sv (w.write (dL w.dir) 7).1 ∧ Chg hp hp' (WkF wk a fr Fm Gs) (WkF wk a fr Fm' Gs) := by
 obtain ⟨e, hl⟩ : ∃ e, ∀ s, rf D m9 [d7V w.dir] s = some (.tup [lnV (dL w.dir), .int .i64 (e s)], s) := ⟨fun s => (sU w.dir s).choose, fun s => (sU w.dir s).choose_spec⟩;obtain ⟨hp', Fm', e1, e2, e3⟩ := vu h hc (t5 w.dir) (show 7 < 8 by omega) (L ++ [.rw (lnV (dL w.dir))]);refine ⟨hp', Fm', ?_, e2, e3⟩;have hst := h.st;have hrd : ∀ L, St.read ⟨L, hp⟩ (.hp wk) [7] = some (.agg 50 (tab 8 fun i => .int .i64 (w.dir i))) := fun L => by
  simp only [wkV, ao] at hst;simp only [go_sem, hst]
 have hpt : ∀ L, St.part ⟨L, hp⟩ 7 50 (.hp wk) [7, 0] = some (tab 7 fun i => .int .i64 (w.dir i)) := fun L => by
  have := GB (m := 7) (k := 0) (p := [7]) (hrd L) (by omega);simp only [Nat.zero_add] at this;exact this
 generalize w.write (dL w.dir) 7 = wr at *;generalize dL w.dir = ll at *;simp only [wkV, d7V, lnV, ao] at *;rw [aa wz rfl];simp only [go_sem, hst, hpt, hl];simp only [go_sem, hst, e1]
theorem C1 (h : WkQ hp wk a m fr Fm Gs sv w) (hc : w.x.M.count + 1 < 1000000) (n : Int) (L : List Blk) :
 ∃ hp' Fm', rf D fC [.ptr (.hp wk) [] 61, .int .i64 n] ⟨L, hp⟩ = some (.int .i64 (w.x.M.fence 0).2, ⟨L, hp'⟩) ∧ WkQ hp' wk a m fr Fm' Gs sv { w with x := { w.x with M := (w.x.M.fence 0).1 } } ∧ Chg hp hp' (WkF wk a fr Fm Gs) (WkF wk a fr Fm' Gs) := by
 obtain ⟨hp', F', e1, e2, e3⟩ := vA h.q.mp hc 0 L;have hn : (w.x.M.fence 0).1.n = w.x.M.n := by
  unfold AM.fence;split
  ·rfl
  ·split
   ·rfl
   ·exact (cC _).1
 obtain ⟨q1, q2⟩ := h.setM e2 e3 hn;refine ⟨hp', F', ?_, q1, q2⟩;have hst := h.st;simp only [wkV] at hst;rw [aa vc rfl];simp only [go_sem, hst, e1]
theorem zW {M : AM} {s : Int} {b : Sup} : (M.wrs s b).1.n = M.n := by
 have hf : ∀ N : AM, (N.fence 0).1.n = N.n := fun N => by
  unfold AM.fence;split
  ·rfl
  ·split
   ·rfl
   ·exact (cC _).1
 unfold AM.wrs;split
 ·rfl
 ·split
  ·exact AM.store_n
  ·simp only;split
   ·rw [AM.layFrom_n, AM.store_n]
   ·split
    ·rw [cB.2, AM.layFrom_n, AM.store_n]
    ·rw [hf, cB.2, AM.layFrom_n, AM.store_n]
def AW.nextB (w : AW) : Sup := ⟨w.b.gen + 1, w.dir 7, w.seq, w.b.cores⟩
def AW.commit (w : AW) : AW × Int :=
 if (w.x.M.wrs (1 - w.slot) w.nextB).2 ≠ 0 then ({ w with x := { w.x with M := (w.x.M.wrs (1 - w.slot) w.nextB).1 } }, (w.x.M.wrs (1 - w.slot) w.nextB).2)
 else ({ w with x := (AS.commit { w.x with M := (w.x.M.wrs (1 - w.slot) w.nextB).1 } w.dir).1, b := w.nextB, slot := 1 - w.slot }, 0)
theorem AY (h : WkQ hp wk a m fr Fm Gs sv w) (hc : w.x.M.count + 12 < 1000000) (hg : 0 ≤ w.b.gen ∧ w.b.gen ≤ 1099511627777) (hs : w.slot = 0 ∨ w.slot = 1) (n : Int) (L : List Blk) :
 ∃ hp' Fm', rf D eF [.ptr (.hp wk) [] 61, .int .i64 n] ⟨L, hp⟩ = some (.int .i64 w.commit.2, ⟨L, hp'⟩) ∧ WkQ hp' wk a m fr Fm' Gs sv w.commit.1 ∧ Chg hp hp' (WkF wk a fr Fm Gs) (WkF wk a fr Fm' Gs) := by
 obtain ⟨hp1, F1, e1, e2, e3⟩ := CA h.q.mp hc (1 - w.slot) w.nextB (L ++ [.rw w.nextB.v]);obtain ⟨q1, q2⟩ := h.setM e2 e3 zW;have hst := h.st;have hst1 := q1.st;have d1 : IntKind.i64.wrap (w.b.gen + 1) = w.b.gen + 1 := ag (by omega) (by omega);have d2 : IntKind.i64.wrap (1 - w.slot) = 1 - w.slot := ag (by omega) (by omega);have g7 := ai (f := fun i => V.int .i64 (w.dir i)) (show 7 < 8 by omega);unfold AW.commit;by_cases he : (w.x.M.wrs (1 - w.slot) w.nextB).2 = 0
 ·rw [if_neg (by simp [he])];obtain ⟨hp2, s1, s2, s3⟩ := Cg q1.q w.dir (L ++ [.rw w.nextB.v]);have q3 := q1.setS s2 s3;have hst2 := q3.st;have q4 := q3.setB (w' := { w with x := (AS.commit { w.x with M := (w.x.M.wrs (1 - w.slot) w.nextB).1 } w.dir).1, b := w.nextB, slot := 1 - w.slot }) rfl q3.sr;have hwl := af hst2;have hset : ∀ k, (hp2.set wk k)[wk]? = some k := fun k => List.getElem?_set_self hwl;refine ⟨_, F1, ?_, q4, (q2.trans (sA s3)).trans An⟩;rw [he] at e1;generalize (w.x.M.wrs (1 - w.slot) w.nextB) = wr at *;generalize AS.commit { w.x with M := wr.1 } w.dir = cm at *;simp only [wkV, Sup.v, AW.nextB, ao] at *;rw [aa oD rfl];simp only [go_sem, hst, d1, d2, g7, e1];simp only [go_sem, hst1, s1];simp only [go_sem, hst2, hset, List.set_set]
 ·rw [if_pos he];refine ⟨hp1, F1, ?_, q1, q2⟩;generalize (w.x.M.wrs (1 - w.slot) w.nextB) = wr at *;simp only [wkV, Sup.v, AW.nextB, ao] at *;rw [aa oD rfl];simp only [go_sem, hst, d1, d2, g7, e1, he]
end
end Go.Proofs.YtmimfopnhmmlbaaGreatDoor
namespace Go.Proofs.YtmimfopnhmmlbaaGreatDoor
open Go.Ab
def AW.doStep (w : AW) (p : Nat × Int) : AW × Int := match p.1 with
 | 0 => ({ w with x := { w.x with M := (w.x.M.flush 0 p.2).1 } }, (w.x.M.flush 0 p.2).2)
 | 1 => w.write (cY w.tbl p.2.toNat) p.2.toNat
 | 2 => w.write (dL w.dir) 7
 | 3 => ({ w with x := { w.x with M := (w.x.M.fence 0).1 } }, (w.x.M.fence 0).2)
 | _ => w.commit
theorem AW.doStep_st (w : AW) (p : Nat × Int) : (w.doStep p).1.st = w.st := by
 unfold AW.doStep;split
 ·rfl
 ·unfold AW.write; split
  ·rfl
  ·split <;> rfl
 ·unfold AW.write; split
  ·rfl
  ·split <;> rfl
 ·rfl
 ·unfold AW.commit; split <;> rfl
def AW.step (w : AW) : AW × Bool × Int := match w.st with
 | [] => (w, false, 3)
 | p :: r => if (w.doStep p).2 = 0 then ({ (w.doStep p).1 with st := r }, decide (r = []), 0) else if (w.doStep p).2 = 10 then ({ (w.doStep p).1 with x := (w.doStep p).1.x.abort.1, st := [] }, false, 10) else ((w.doStep p).1, false, (w.doStep p).2)
structure AW.Fit (w : AW) : Prop where
 g : 0 ≤ w.b.gen ∧ w.b.gen ≤ 1099511627777
 s : w.slot = 0 ∨ w.slot = 1
 k : ∀ p ∈ w.st, p.1 = 1 → 0 ≤ p.2 ∧ p.2 < 7
section
variable {hp hp' : List Blk} {wk a m fr : Nat} {Fm Fm' Gs : Ft} {sv : V} {w : AW}
theorem HF (h : WkQ hp wk a m fr Fm Gs sv w) (hc : w.x.M.count + 12 < 1000000) (hF : w.Fit) {p : Nat × Int} (hp1 : p.1 = 1 → 0 ≤ p.2 ∧ p.2 < 7) (L : List Blk) :
 ∃ hp' Fm', rf D (wg p.1) [.ptr (.hp wk) [] 61, .int .i64 p.2] ⟨L, hp⟩ = some (.int .i64 (w.doStep p).2, ⟨L, hp'⟩) ∧ WkQ hp' wk a m fr Fm' Gs sv (w.doStep p).1 ∧ Chg hp hp' (WkF wk a fr Fm Gs) (WkF wk a fr Fm' Gs) := by
 obtain ⟨q, n⟩ := p
 match q, hp1 with
 | 0, _ =>
  obtain ⟨hp', e1, e2, e3⟩ := vt h (by omega) n L;exact ⟨hp', Fm, e1, e2, e3⟩
 | 1, hp1 =>
  obtain ⟨h0, h7⟩ := hp1 rfl;obtain ⟨k, rfl⟩ : ∃ k : Nat, n = k := ⟨n.toNat, by simp only at h0; omega⟩;have := FP h (by omega) (k := k) (by simp only at h7; omega) L;unfold AW.doStep;simp only [Int.toNat_natCast];exact this
 | 2, _ => exact Es h (by omega) n L
 | 3, _ => exact C1 h (by omega) n L
 | q + 4, _ => exact AY h (by omega) hF.g hF.s n L
theorem om (h : WkQ hp wk a m fr Fm Gs sv w) (hc : w.x.M.count + 12 < 1000000) (hF : w.Fit) (L : List Blk) :
 ∃ hp' Fm' Gs' sv', rf D mh [.ptr (.hp wk) [] 61] ⟨L, hp⟩ = some (.tup [.bool w.step.2.1, .int .i64 w.step.2.2], ⟨L, hp'⟩) ∧ WkQ hp' wk a m fr Fm' Gs' sv' w.step.1 ∧ Chg hp hp' (WkF wk a fr Fm Gs) (WkF wk a fr Fm' Gs') := by
 have hst := h.st;have hsl := h.sr.slen;unfold AW.step;cases hw : w.st with
 | nil =>
  refine ⟨hp, Fm, Gs, sv, ?_, h, .refl _ _⟩;rw [hw] at hsl;simp only [wkV] at hst;rw [aa jK rfl];simp only [go_sem, hst, hsl]
 | cons p r =>
  rw [hw] at hsl;have hrs := h.sr.rs (L ++ []);have hg : (w.st.map bn)[0]? = some (bn p) := by rw [hw]; rfl
  have hsad : fY 47 sv (.int .i64 0) = some (elq sv 0 [] 47) := (h.sr.rs L).sadq hg (k := .i64);have hld : ldv ⟨L, hp⟩ 47 (elq sv 0 [] 47) = V.at [] (bn p) := (h.sr.rs L).ldq hg;obtain ⟨hp1, F1, e1, e2, e3⟩ := HF h hc hF (p := p) (fun e => hF.k p (by rw [hw]; exact List.mem_cons_self) e) (L ++ [.rw (bn p)]);have hst1 := e2.st;have hwl := af hst1;have d1 : ¬ ((r.length + 1 : Nat) : Int) = 0 := by omega
  have hset : ∀ k, (hp1.set wk k)[wk]? = some k := fun k => List.getElem?_set_self hwl;simp only;by_cases he : (w.doStep p).2 = 0
  ·rw [if_pos he];have hsr : StR hp1 Gs sv (p :: r) := by have := e2.sr; rwa [AW.doStep_st, hw] at this
   obtain ⟨sv2, r1, r2⟩ := hsr.rest;have q4 := e2.setB (w' := { (w.doStep p).1 with st := r }) rfl r2;have hsl2 := r2.slen;have ht2 := r2.tag;have hl2 := r2.lt;refine ⟨_, F1, Gs, sv2, ?_, q4, e3.trans An⟩;rw [he] at e1;have hdc : decide (r = []) = decide ((r.length : Int) = 0) := by
    apply decide_eq_decide.2;cases r <;> simp <;> omega
   rw [hdc];generalize (w.doStep p).1 = w1 at *;clear q4 e2 e3 hsr r2 h hrs hg;simp only [wkV, bn] at *;rw [aa jK rfl];simp only [go_sem, hst, hsl, d1, hsad, hld];simp only [go_sem, e1, hst1, r1, ht2, hl2, hset, hsl2]
  ·rw [if_neg he];by_cases he2 : (w.doStep p).2 = 10
   ·rw [if_pos he2];obtain ⟨hp2, s1, s2, s3⟩ := CE e2.q (L ++ [.rw (bn p)]);have q3 := e2.setS s2 s3;have q4 := q3.setB (sv' := .nils) (w' := { (w.doStep p).1 with x := (w.doStep p).1.x.abort.1, st := [] }) rfl .nil;have hst2 := q3.st;refine ⟨_, F1, Gs, .nils, ?_, q4, (e3.trans (sA s3)).trans An⟩;rw [he2] at e1;generalize (w.doStep p).1 = w1 at *;clear q4 q3 e2 e3 h hrs hg s2 s3;simp only [wkV, bn] at *;rw [aa jK rfl];simp only [go_sem, hst, hsl, d1, hsad, hld];simp only [go_sem, e1, hst1, s1, hst2]
   ·rw [if_neg he2];refine ⟨hp1, F1, Gs, sv, ?_, e2, e3⟩;generalize w.doStep p = dp at *;clear e2 e3 h hrs hg;simp only [wkV, bn] at *;rw [aa jK rfl];simp only [go_sem, hst, hsl, d1, hsad, hld];simp only [go_sem, e1, he, he2]
end
end Go.Proofs.YtmimfopnhmmlbaaGreatDoor
