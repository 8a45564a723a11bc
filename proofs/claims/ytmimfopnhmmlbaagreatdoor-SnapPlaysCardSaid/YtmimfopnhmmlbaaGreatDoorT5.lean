/-
  YtmimfopnhmmlbaaGreatDoorT5: what functions of the program compute (RefC, RefD, SnpG, SnpH, SnpI, SnpJ, SnpK, ObjD, FraQ, SofB, StoN, ObjE, LobH, MemN, StoD, StoE, StoF, StoG, StoH, StoI, StoJ, StoK, StoL).
-/
import Derived.Test.YtmimfopnhmmlbaaGreatDoorT4
import Derived.Test.YtmimfopnhmmlbaaGreatDoorT1
import Derived.Test.YtmimfopnhmmlbaaGreatDoorT3
import Derived.Test.YtmimfopnhmmlbaaGreatDoorT2
set_option maxRecDepth 100000
namespace Go.Proofs.YtmimfopnhmmlbaaGreatDoor
open Go.Ab
def uP (r : Int) : Int := if ie .u32 r 1 = 1 then jM .u32 (ja .u32 r 1) 3988292384 else ja .u32 r 1
def me : Nat → Int → Int
 | 0, r => r
 | n + 1, r => uP (me n r)
def gm (r : Int) : List Int → Int
 | [] => r
 | b :: l => gm (me 8 (jM .u32 r (IntKind.u32.wrap b))) l
theorem FC (r : Int) (l : List Int) (b : Int) : gm r (l ++ [b]) = me 8 (jM .u32 (gm r l) (IntKind.u32.wrap b)) := by
 induction l generalizing r with
 | nil => rfl
 | cons a l ih => exact ih _
theorem FL {r : Int} {bs : List Int} {i : Nat} (hi : i < bs.length) : gm r (bs.take (i + 1)) = me 8 (jM .u32 (gm r (bs.take i)) (IntKind.u32.wrap (bs.getD i 0))) := by
 rw [List.take_succ_eq_append_getElem hi, FC, List.getD_eq_getElem?_getD, List.getElem?_eq_getElem hi]; rfl
theorem MG (L hp : List Blk) (v : V) (i : Int) (r : Int) (base : Nat) (hv : v.locLt L.length = true) (hL : (L.drop base).all (bu L.length) = true) :
 rc D base (.loop [0, 1, 5, 6] bO) [(0, .int .u32 r), (1, v), (5, .int .i64 i), (6, .int .i64 0)] ⟨L, hp⟩ = some (.exit 2, [(0, .int .u32 (me 8 r)), (1, v), (5, .int .i64 i), (6, .int .i64 8), (22, .bool false)], ⟨L, hp⟩) := by
 refine aH (fun k : Nat => [(0, .int .u32 (me k r)), (1, v), (5, .int .i64 i), (6, .int .i64 k)]) (fun _ => ⟨L, hp⟩) (fun _ => _) (fun k => 8 - k) (fun k => k ≤ 8) 0 ?_ (by omega) rfl rfl;intro k hk;by_cases c1 : k < 8
 ·left;have d1 : (k : Int) < 8 := by omega
  have d4 : IntKind.i64.wrap ((k : Int) + 1) = (k : Int) + 1 := ag (by omega) (by omega);have d5 : ¬ (1 : Int) < 0 := by omega
  refine ⟨k + 1, by omega, by omega, rfl, ?_⟩;rw [show me (k + 1) r = uP (me k r) from rfl]
  generalize me k r = q;unfold uP;by_cases h : ie .u32 q 1 = 1
  ·rw [if_pos h];simp only [go_sem, bO, d1, d4, d5, h, hv, hL];rfl
  ·rw [if_neg h];simp only [go_sem, bO, d1, d4, d5, h, hv, hL];rfl
 ·right;have : k = 8 := by omega
  subst this;simp only [go_sem, bO]
theorem Dc {L hp : List Blk} {v : V} {bs : List Int} (hv : RS ⟨L, hp⟩ 12 v (bs.map (.int .u8))) (hl : bs.length < 1000) (r : Int) :
 rf D fF [.int .u32 r, v] ⟨L, hp⟩ = some (.int .u32 (gm r bs), ⟨L, hp⟩) := by
 have hsl : V.slen false v = some bs.length := by
  have := hv.slen
  rwa [List.length_map] at this
 have hvl : v.locLt L.length = true := hv.locLt;have loop : rc D L.length (.loop [0, 1, 5] cO) [(0, .int .u32 r), (1, v), (5, .int .i64 0)] ⟨L, hp⟩ =
  some (.exit 0, [(0, .int .u32 (gm r bs)), (1, v), (5, .int .i64 bs.length), (11, .bool false)], ⟨L, hp⟩) := by
  have hend : gm r (bs.take bs.length) = gm r bs := by rw [List.take_length]
  rw [← hend];refine aH (fun i : Nat => [(0, .int .u32 (gm r (bs.take i))), (1, v), (5, .int .i64 i)]) (fun _ => ⟨L, hp⟩) (fun _ => _) (fun i => bs.length - i) (fun i => i ≤ bs.length) 0 ?_ (by omega) rfl rfl;intro i hi;by_cases c1 : i < bs.length
  ·left;have d1 : (i : Int) < bs.length := by omega
   have d4 : IntKind.i64.wrap ((i : Int) + 1) = (i : Int) + 1 := ag (by omega) (by omega);have hg := aK (f := V.int .u8) (l := bs) (i := i) c1 0;have hs := hv.sadq hg (k := .i64);have hld : ldv ⟨L, hp⟩ 12 (elq v i [] 12) = V.at [] (.int .u8 (bs.getD i 0)) := hv.ldq hg;have hin := fun q => MG L hp v i q L.length hvl (by rw [List.drop_length]; rfl);refine ⟨i + 1, by omega, by omega, rfl, ?_⟩;rw [FL c1];generalize gm r (bs.take i) = q at *;generalize bs.getD i 0 = b at *;simp only [go_sem, cO, hsl, d1, hs, hld];simp only [go_sem, hin, d4, hvl];rfl
  ·right;have : i = bs.length := by omega
   subst this;have d1 : ¬ (bs.length : Int) < bs.length := by omega
   simp only [go_sem, cO, hsl, d1]
 rw [aa pC rfl];simp only [go_sem, loop]
theorem Bg {L hp : List Blk} {v : V} {bs : List Int} (hv : RS ⟨L, hp⟩ 12 v (bs.map (.int .u8))) (hl : bs.length < 1000) :
 rf D jC [v] ⟨L, hp⟩ = some (.int .u32 (eK (gm 4294967295 bs)), ⟨L, hp⟩) := by
 have h := Dc hv hl 4294967295;rw [aa rU rfl];simp only [eK] at *;simp only [go_sem, h]
def dm (l : List Int) (n : Nat) (j : Nat) : Int := if j < n then GU (l.getD (j / 8) 0) (j % 8) else 0
theorem yt {l : List Int} (hl : l.length = 8) (s : St) : rf D ic [lnV l] s = some (.agg 108 (tab 64 fun j => .int .u8 (dm l 64 j)), s) := by
 have hb0 : (tab 64 fun j => V.int .u8 (dm l 0 j)) = List.replicate 64 (.int .u8 0) := by
  rw [dk]; apply aP; intro j _; unfold dm; rw [if_neg (by omega)]
 have loop : rc D s.loc.length (.loop [1, 2, 3, 4] dE) [(1, .ptr (.loc s.loc.length) [] 24), (2, .ptr (.loc (s.loc.length + 1)) [] 108), (3, .ptr (.loc (s.loc.length + 2)) [] 108), (4, .int .i64 0)] ⟨s.loc ++ [.rw (lnV l), .rw (.agg 108 (List.replicate 64 (.int .u8 0))), .rw (.agg 108 (tab 64 fun j => .int .u8 (dm l 0 j)))], s.hp⟩ =
  some (.exit 0, [(1, .ptr (.loc s.loc.length) [] 24), (2, .ptr (.loc (s.loc.length + 1)) [] 108), (3, .ptr (.loc (s.loc.length + 2)) [] 108), (4, .int .i64 64), (7, .bool false)], ⟨s.loc ++ [.rw (lnV l), .rw (.agg 108 (List.replicate 64 (.int .u8 0))), .rw (.agg 108 (tab 64 fun j => .int .u8 (dm l 64 j)))], s.hp⟩) := by
  refine aH (fun i : Nat => [(1, .ptr (.loc s.loc.length) [] 24), (2, .ptr (.loc (s.loc.length + 1)) [] 108), (3, .ptr (.loc (s.loc.length + 2)) [] 108), (4, .int .i64 i)]) (fun i => ⟨s.loc ++ [.rw (lnV l), .rw (.agg 108 (List.replicate 64 (.int .u8 0))), .rw (.agg 108 (tab 64 fun j => .int .u8 (dm l i j)))], s.hp⟩) (fun _ => _) (fun i => 64 - i) (fun i => i ≤ 64) 0 ?_ (by omega) rfl rfl;intro i hi;by_cases c1 : i < 64
  ·left;have d1 : (i : Int) < 64 := by omega
   have d2 : (0 : Int) ≤ i := by omega
   have d4 : IntKind.i64.wrap ((i : Int) + 1) = (i : Int) + 1 := ag (by omega) (by omega);have e1 : (i : Int).tdiv 8 = ((i / 8 : Nat) : Int) := by rw [show (8 : Int) = ((8 : Nat) : Int) by rfl, ← Int.ofNat_tdiv]
   have e2 : (i : Int).tmod 8 = ((i % 8 : Nat) : Int) := by rw [show (8 : Int) = ((8 : Nat) : Int) by rfl, ← Int.ofNat_tmod]
   have e3 : IntKind.i64.wrap ((i / 8 : Nat) : Int) = ((i / 8 : Nat) : Int) := ag (by omega) (by omega);have e5 : IntKind.i64.wrap (8 * ((i % 8 : Nat) : Int)) = 8 * ((i % 8 : Nat) : Int) := ag (by omega) (by omega);have e6 : ¬ (8 * ((i % 8 : Nat) : Int)) < 0 := by omega
   have e7 : ((i / 8 : Nat) : Int) < 8 := by omega
   have e8 : (0 : Int) ≤ ((i / 8 : Nat) : Int) := by omega
   have g := aK (f := V.int .u64) (l := l) (i := i / 8) (by omega) 0;have g2 := ai (f := fun j => V.int .u8 (dm l i j)) c1;have hup : (tab 64 fun j => V.int .u8 (dm l i j)).set i (.int .u8 (IntKind.u8.wrap (ja .u64 (l.getD (i / 8) 0) (8 * ((i % 8 : Nat) : Int))))) = tab 64 fun j => V.int .u8 (dm l (i + 1) j) := by
    rw [bw];apply aP;intro j hj;unfold upd;by_cases e : j = i
    ·subst e;rw [if_pos rfl];unfold dm;rw [if_pos (by omega)];rfl
    ·rw [if_neg e];unfold dm;by_cases h : j < i
     ·show V.int .u8 _ = V.int .u8 _;rw [if_pos h, if_pos (by omega)]
     ·show V.int .u8 _ = V.int .u8 _;rw [if_neg h, if_neg (by omega)]
   have z1 : s.loc.length < s.loc.length + 3 := by omega
   have z3 : s.loc.length + 1 < s.loc.length + 3 := by omega
   have z4 : s.loc.length + 2 < s.loc.length + 3 := by omega
   refine ⟨i + 1, by omega, by omega, rfl, ?_⟩;simp only [lnV] at *;rw [← hup];generalize (tab 64 fun j => V.int .u8 (dm l i j)) = T at *;generalize List.replicate 64 (V.int .u8 0) = T0 at *;generalize l.getD (i / 8) 0 = w at *;generalize i / 8 = p at *;generalize i % 8 = q at *;simp only [go_sem, dE, d1, d2, d4, e1, e2, e3, e5, e6, e7, e8, Int.toNat_natCast, g, g2, z1, z3, z4];rfl
  ·right;have : i = 64 := by omega
   subst this;simp only [lnV];simp only [go_sem, dE]
 rw [hb0] at loop;simp only [lnV] at *;rw [aa q7 rfl];simp only [go_sem, loop]
def qw (l : List Int) : List Int := l.set 7 (ior .u64 (IntKind.u64.wrap (eK (gm 4294967295 ((List.range 56).map (dm l 64))))) 4294967296)
theorem zA (l : List Int) : (qw l).length = l.length := by unfold qw; rw [List.length_set]
theorem pd {l : List Int} (hl : l.length = 8) (s : St) : rf D iL [lnV l] s = some (lnV (qw l), s) := by
 have hb := fun L => yt hl ⟨s.loc ++ L, s.hp⟩;have hrs : RS ⟨s.loc ++ [.rw (lnV l), .rw (.agg 24 (List.replicate 8 (.int .u64 0))), .rw (.agg 108 (tab 64 fun j => .int .u8 (dm l 64 j)))], s.hp⟩ 12 (.sl (.loc (s.loc.length + 2)) [] 0 56 (some 64) 12) (((List.range 56).map (dm l 64)).map (.int .u8)) := by
  refine .inr ⟨.loc (s.loc.length + 2), [], 0, some 64, by simp, fun c hc => by cases hc; simp, by simp [V.locLt], .inr ⟨108, tab 64 fun j => .int .u8 (dm l 64 j), ?_, fun j x hx => ?_⟩⟩
  ·simp only [go_sem]
  ·have hj : j < 56 := by
    have := (List.getElem?_eq_some_iff.1 hx).1;simpa using this
   rw [Nat.zero_add, ai (by omega)];simpa [hj] using hx
 have hm := Bg hrs (by simp);have g7 : (l.map (V.int .u64))[7]? = some (.int .u64 (l.getD 7 0)) := aK (by omega) 0;unfold qw;generalize (List.range 56).map (dm l 64) = bs at *;have hst : (l.map (V.int .u64)).set 7 (.int .u64 (ior .u64 (IntKind.u64.wrap (eK (gm 4294967295 bs))) 4294967296)) = (l.set 7 (ior .u64 (IntKind.u64.wrap (eK (gm 4294967295 bs))) 4294967296)).map (.int .u64) := by rw [List.map_set]
 generalize eK (gm 4294967295 bs) = cc at *;simp only [lnV] at *;rw [← hst];generalize (tab 64 fun j => V.int .u8 (dm l 64 j)) = T at *;rw [aa rK rfl];simp only [go_sem, hb];simp only [go_sem, hm, g7]
end Go.Proofs.YtmimfopnhmmlbaaGreatDoor
namespace Go.Proofs.YtmimfopnhmmlbaaGreatDoor
open Go.Ab
def uj (e : Ent) : Int := ((e.kind.toNat + e.ver.toNat * 16 + e.line.toNat * 268435456 : Nat) : Int)
theorem zD (e : Ent) (s : St) : rf D jg [e.v] s = some (.tup [.int .u64 (if eN e = true then uj e else 0), .int .i64 (if eN e = true then 0 else 1)], s) := by
 obtain ⟨k, v, l⟩ := e;by_cases h1 : k < 0
 ·have hb : eN ⟨k, v, l⟩ = false := by unfold eN win; simp only; rw [decide_eq_false (show ¬ (0 : Int) ≤ k by omega)]; rfl
  rw [hb];simp only [Ent.v];rw [aa bd rfl];simp only [go_sem, h1]
 ·by_cases h2 : k > 4
  ·have hb : eN ⟨k, v, l⟩ = false := by unfold eN win; simp only; rw [decide_eq_false (show ¬ k ≤ 4 by omega)]; simp
   rw [hb];simp only [Ent.v];rw [aa bd rfl];simp only [go_sem, h1, h2]
  ·by_cases h3 : v < 0
   ·have hb : eN ⟨k, v, l⟩ = false := by unfold eN win; simp only; rw [decide_eq_false (show ¬ (0 : Int) ≤ v by omega)]; simp
    rw [hb];simp only [Ent.v];rw [aa bd rfl];simp only [go_sem, h1, h2, h3]
   ·by_cases h4 : v > 16777215
    ·have hb : eN ⟨k, v, l⟩ = false := by unfold eN win; simp only; rw [decide_eq_false (show ¬ v ≤ 16777215 by omega)]; simp
     rw [hb];simp only [Ent.v];rw [aa bd rfl];simp only [go_sem, h1, h2, h3, h4]
    ·by_cases h5 : l < 0
     ·have hb : eN ⟨k, v, l⟩ = false := by unfold eN win; simp only; rw [decide_eq_false (show ¬ (0 : Int) ≤ l by omega)]; simp
      rw [hb];simp only [Ent.v];rw [aa bd rfl];simp only [go_sem, h1, h2, h3, h4, h5]
     ·by_cases h6 : l ≥ 1024
      ·have hb : eN ⟨k, v, l⟩ = false := by unfold eN win; simp only; rw [decide_eq_false (show ¬ l ≤ 1023 by omega)]; simp
       rw [hb];simp only [Ent.v];rw [aa bd rfl];simp only [go_sem, h1, h2, h3, h4, h5, h6]
      ·have hw : win k 0 4 = true ∧ win v 0 16777215 = true ∧ win l 0 1023 = true := by
        unfold win;refine ⟨?_, ?_, ?_⟩ <;> (rw [Bool.and_eq_true, decide_eq_true_eq, decide_eq_true_eq]; omega)
       by_cases h7 : k = 0 ∧ l ≠ 0
       ·have hb : eN ⟨k, v, l⟩ = false := by unfold eN; simp only; rw [hw.1, hw.2.1, hw.2.2, h7.1]; simp [h7.2]
        rw [hb];obtain ⟨rfl, h8⟩ := h7;simp only [Ent.v];rw [aa bd rfl];simp only [go_sem, h3, h4, h5, h6, h8]
       ·have hb : eN ⟨k, v, l⟩ = true := by
         unfold eN; simp only; rw [hw.1, hw.2.1, hw.2.2];simp only [Bool.true_and, Bool.not_eq_true', Bool.and_eq_false_iff, decide_eq_false_iff_not];by_cases hk : k = 0
         ·right; intro h; exact h7 ⟨hk, h⟩
         ·left; exact hk
        rw [hb];obtain ⟨kn, rfl⟩ : ∃ n : Nat, k = n := ⟨k.toNat, by omega⟩;obtain ⟨vn, rfl⟩ : ∃ n : Nat, v = n := ⟨v.toNat, by omega⟩;obtain ⟨ln, rfl⟩ : ∃ n : Nat, l = n := ⟨l.toNat, by omega⟩;have u : ∀ n : Nat, n < 16777216 → IntKind.u64.wrap (n : Int) = n := fun n hn => uy (by omega) (by omega);have w1 := fun s => yr (w := 0) (a := 0) (b := 4) (v := kn) (by decide) (by decide) (by decide) (by omega) s;have w2 := fun s => yr (w := kn) (a := 4) (b := 24) (v := vn) (by decide) (by decide) (by omega) (by omega) s;have w3 := fun s => yr (w := kn + vn * 16) (a := 28) (b := 16) (v := ln) (by decide) (by decide) (by omega) (by omega) s;have u1 := u kn (by omega);have u2 := u vn (by omega);have u3 := u ln (by omega);have n7 : ¬ ((kn : Int) = 0 ∧ (ln : Int) ≠ 0) := h7;simp only [if_true, uj, Int.toNat_natCast];rw [show (0 + kn * 2 ^ 0 : Nat) = kn by omega] at w1;rw [show (kn + vn * 2 ^ 4 : Nat) = kn + vn * 16 by omega] at w2;rw [show (kn + vn * 16 + ln * 2 ^ 28 : Nat) = kn + vn * 16 + ln * 268435456 by omega] at w3;rw [show ((0 : Nat) : Int) = 0 from rfl] at w1
        generalize kn + vn * 16 + ln * 268435456 = rr at *;generalize kn + vn * 16 = qq at *;have w1 : ∀ s, rf D ci [.int .u64 0, .int .i64 0, .int .i64 4, .int .u64 (kn : Int)] s = some (.tup [.int .u64 (kn : Int), .int .i64 0], s) := w1;have w2 : ∀ s, rf D ci [.int .u64 (kn : Int), .int .i64 4, .int .i64 24, .int .u64 (vn : Int)] s = some (.tup [.int .u64 (qq : Int), .int .i64 0], s) := w2;have w3 : ∀ s, rf D ci [.int .u64 (qq : Int), .int .i64 28, .int .i64 16, .int .u64 (ln : Int)] s = some (.tup [.int .u64 (rr : Int), .int .i64 0], s) := w3;simp only [Ent.v];rw [aa bd rfl];by_cases hk : (kn : Int) = 0
        ·have hl : (ln : Int) = 0 := by
          by_cases h : (ln : Int) = 0
          ·exact h
          ·exact absurd ⟨hk, h⟩ n7
         rw [hk] at w1 w2 u1 ⊢;rw [hl] at w3 u3 ⊢;simp only [go_sem, h3, h4, u1, u2, u3, w1, w2, w3]
        ·simp only [go_sem, h1, h2, h3, h4, h5, h6, hk, u1, u2, u3, w1, w2, w3]
def j7 (t : Nat → Ent) (k i : Nat) : List Int := (List.range 8).map fun j => if j < i then uj (t (7 * k + j)) else 0
theorem vT (t : Nat → Ent) (k i : Nat) : (j7 t k i).length = 8 := by simp [j7]
theorem JT {t : Nat → Ent} {k i : Nat} (hi : i < 7) : (j7 t k i).set i (uj (t (7 * k + i))) = j7 t k (i + 1) := by
 apply List.ext_getElem?;intro j;unfold j7;by_cases e : i = j
 ·subst e;rw [List.getElem?_set_self (by simp; omega)];simp [show i < 8 by omega]
 ·rw [List.getElem?_set_ne e];simp only [List.getElem?_map];by_cases hj : j < 8
  ·simp only [List.getElem?_range hj, Option.map_some];by_cases h : j < i
   ·rw [if_pos h, if_pos (by omega)]
   ·rw [if_neg h, if_neg (by omega)]
  ·rw [List.getElem?_eq_none (by simp; omega)]; rfl
def nu (t : Nat → Ent) (k : Nat) : List Int := if kL t k 0 7 = true then qw (j7 t k 7) else zl
theorem Ek (t : Nat → Ent) (k : Nat) : (nu t k).length = 8 := by
 unfold nu;split
 ·rw [zA, vT]
 ·rfl
theorem xn (t : Nat → Ent) {k : Nat} (hk : k < 7) (L hp : List Blk) : ∀ (n i : Nat), i + n = 7 → ∃ r,
 rc D L.length (.loop [1, 2, 4, 6, 7] cL) [(1, .int .i64 k), (2, .ptr (.loc L.length) [] 48), (4, .ptr (.loc (L.length + 1)) [] 24), (6, .ptr (.loc (L.length + 2)) [] 24), (7, .int .i64 i)] ⟨L ++ [.rw (ab t), .rw (lnV zl), .rw (lnV (j7 t k i))], hp⟩ = some r ∧
 ((kL t k i n = true ∧ r = (.exit 0, [(1, .int .i64 k), (2, .ptr (.loc L.length) [] 48), (4, .ptr (.loc (L.length + 1)) [] 24), (6, .ptr (.loc (L.length + 2)) [] 24), (7, .int .i64 7), (19, .bool false)], ⟨L ++ [.rw (ab t), .rw (lnV zl), .rw (lnV (j7 t k 7))], hp⟩)) ∨
  (kL t k i n = false ∧ ∃ X, r = (.ret, [(4, .ptr (.loc (L.length + 1)) [] 24), (5, .int .i64 1)], ⟨L ++ [.rw (ab t), .rw (lnV zl), X], hp⟩)))
 | 0, i, hi => by
  have : i = 7 := by omega
  subst this;refine ⟨_, ?_, .inl ⟨rfl, rfl⟩⟩;rw [ak];simp only [ab, lnV];simp only [go_sem, cL]
 | n + 1, i, hi => by
  have d1 : (i : Int) < 7 := by omega
  have d2 : (0 : Int) ≤ i := by omega
  have d3 : (i : Int) < 8 := by omega
  have d4 : IntKind.i64.wrap ((i : Int) + 1) = ((i + 1 : Nat) : Int) := ag (by omega) (by omega);have e1 : IntKind.i64.wrap (7 * (k : Int)) = 7 * k := ag (by omega) (by omega);have e3 : IntKind.i64.wrap (7 * (k : Int) + i) = ((7 * k + i : Nat) : Int) := by rw [ag (by omega) (by omega)]; omega
  have e5 : ((7 * k + i : Nat) : Int) < 49 := by omega
  have e6 : (0 : Int) ≤ ((7 * k + i : Nat) : Int) := by omega
  have g1 := ai (f := fun j => (t j).v) (show 7 * k + i < 49 by omega);have hw := fun s => zD (t (7 * k + i)) s;have g2 : ((j7 t k i).map (V.int .u64))[i]? = some (.int .u64 ((j7 t k i).getD i 0)) := aK (by rw [vT]; omega) 0;have z1 : L.length < L.length + 3 := by omega
  have z3 : L.length + 1 < L.length + 3 := by omega
  have z4 : L.length + 2 < L.length + 3 := by omega
  rw [vj];cases hb : eN (t (7 * k + i))
  ·refine ⟨_, ?_, .inr ⟨by rw [Bool.false_and], .rw (lnV (j7 t k i)), rfl⟩⟩;rw [hb] at hw;simp only [Bool.false_eq_true, if_false] at hw;have hz : (zl.map (V.int .u64)) = List.replicate 8 (.int .u64 0) := rfl;rw [ak];simp only [ab, lnV, Ent.v, hz] at *;generalize (tab 49 fun j => V.agg 42 [.int .i64 (t j).kind, .int .i64 (t j).ver, .int .i64 (t j).line]) = T at *;generalize 7 * k + i = p at *;generalize (j7 t k i).map (V.int .u64) = LF at *;simp only [go_sem, cL, d1, e1, e3, e5, e6, Int.toNat_natCast, g1, hw]
  ·obtain ⟨r, q1, q2⟩ := xn t hk L hp n (i + 1) (by omega);refine ⟨r, ?_, by rw [Bool.true_and]; exact q2⟩;rw [hb] at hw;simp only [if_true] at hw;have hs : ((j7 t k i).map (V.int .u64)).set i (.int .u64 (uj (t (7 * k + i)))) = (j7 t k (i + 1)).map (V.int .u64) := by rw [← JT (by omega), List.map_set]
   rw [← q1, ak];simp only [ab, lnV, Ent.v] at *;rw [← hs];generalize (tab 49 fun j => V.agg 42 [.int .i64 (t j).kind, .int .i64 (t j).ver, .int .i64 (t j).line]) = T at *;generalize uj (t (7 * k + i)) = w at *;generalize 7 * k + i = p at *;generalize (j7 t k i).map (V.int .u64) = LF at *;generalize (j7 t k i).getD i 0 = w0 at *;simp only [go_sem, cL, d1, d2, d3, d4, e1, e3, e5, e6, Int.toNat_natCast, g1, g2, hw, z1, z3, z4]
theorem sY (t : Nat → Ent) {k : Nat} (hk : k < 7) (s : St) : rf D jf [ab t, .int .i64 k] s = some (.tup [lnV (nu t k), .int .i64 (if kL t k 0 7 = true then 0 else 1)], s) := by
 obtain ⟨r, q1, q2⟩ := xn t hk s.loc s.hp 7 0 rfl;have d1 : ¬ (k : Int) < 0 := by omega
 have d2 : ¬ (k : Int) ≥ 7 := by omega
 have h0 : j7 t k 0 = zl := rfl;rw [show ((0 : Nat) : Int) = 0 from rfl, h0] at q1
 have hseal := fun s => pd (vT t k 7) s;have hz : (zl.map (V.int .u64)) = List.replicate 8 (.int .u64 0) := rfl;unfold nu;rcases q2 with ⟨c, rfl⟩ | ⟨c, X, rfl⟩
 ·rw [c, if_pos rfl, if_pos rfl];simp only [ab, lnV, hz] at *;rw [aa mD rfl];simp only [go_sem, d1, d2, q1];simp only [go_sem, hseal]
 ·rw [c, if_neg (by simp), if_neg (by simp)];simp only [ab, lnV, hz] at *;rw [aa mD rfl];simp only [go_sem, d1, d2, q1]
def ji (d : Nat → Int) (i : Nat) : List Int := (List.range 8).map fun j => if j < i then ior .u64 (IntKind.u64.wrap (d j)) 4294967296 else 0
theorem vU (d : Nat → Int) (i : Nat) : (ji d i).length = 8 := by simp [ji]
theorem Ja {d : Nat → Int} {i : Nat} (hi : i < 7) : (ji d i).set i (ior .u64 (IntKind.u64.wrap (d i)) 4294967296) = ji d (i + 1) := by
 apply List.ext_getElem?;intro j;unfold ji;by_cases e : i = j
 ·subst e;rw [List.getElem?_set_self (by simp; omega)];simp [show i < 8 by omega]
 ·rw [List.getElem?_set_ne e];simp only [List.getElem?_map];by_cases hj : j < 8
  ·simp only [List.getElem?_range hj, Option.map_some];by_cases h : j < i
   ·rw [if_pos h, if_pos (by omega)]
   ·rw [if_neg h, if_neg (by omega)]
  ·rw [List.getElem?_eq_none (by simp; omega)]; rfl
def mX (d : Nat → Int) : List Int := if kN d 0 7 = true then qw (ji d 7) else zl
theorem FO (d : Nat → Int) : (mX d).length = 8 := by
 unfold mX;split
 ·rw [zA, vU]
 ·rfl
theorem wO (d : Nat → Int) (L hp : List Blk) : ∀ (n i : Nat), i + n = 7 → ∃ r,
 rc D L.length (.loop [1, 2, 4, 5] bQ) [(1, .ptr (.loc L.length) [] 60), (2, .ptr (.loc (L.length + 1)) [] 24), (4, .ptr (.loc (L.length + 2)) [] 24), (5, .int .i64 i)] ⟨L ++ [.rw (d7V d), .rw (lnV zl), .rw (lnV (ji d i))], hp⟩ = some r ∧
 ((kN d i n = true ∧ r = (.exit 0, [(1, .ptr (.loc L.length) [] 60), (2, .ptr (.loc (L.length + 1)) [] 24), (4, .ptr (.loc (L.length + 2)) [] 24), (5, .int .i64 7), (8, .bool false)], ⟨L ++ [.rw (d7V d), .rw (lnV zl), .rw (lnV (ji d 7))], hp⟩)) ∨
  (kN d i n = false ∧ ∃ X, r = (.ret, [(2, .ptr (.loc (L.length + 1)) [] 24), (3, .int .i64 1)], ⟨L ++ [.rw (d7V d), .rw (lnV zl), X], hp⟩)))
 | 0, i, hi => by
  have : i = 7 := by omega
  subst this;refine ⟨_, ?_, .inl ⟨rfl, rfl⟩⟩;rw [ak];simp only [d7V, lnV];simp only [go_sem, bQ]
 | n + 1, i, hi => by
  have d1 : (i : Int) < 7 := by omega
  have d2 : (0 : Int) ≤ i := by omega
  have d3 : (i : Int) < 8 := by omega
  have d4 : IntKind.i64.wrap ((i : Int) + 1) = ((i + 1 : Nat) : Int) := ag (by omega) (by omega);have g1 := ai (f := fun j => V.int .i64 (d j)) (show i < 7 by omega);have g2 : ((ji d i).map (V.int .u64))[i]? = some (.int .u64 ((ji d i).getD i 0)) := aK (by rw [vU]; omega) 0;have z1 : L.length < L.length + 3 := by omega
  have z3 : L.length + 1 < L.length + 3 := by omega
  have z4 : L.length + 2 < L.length + 3 := by omega
  have hs : ((ji d i).map (V.int .u64)).set i (.int .u64 (ior .u64 (IntKind.u64.wrap (d i)) 4294967296)) = (ji d (i + 1)).map (V.int .u64) := by rw [← Ja (by omega), List.map_set]
  rw [vk];by_cases h0 : d i < 0
  ·refine ⟨_, ?_, .inr ⟨by rw [decide_eq_false (show ¬ 0 ≤ d i by omega)]; rfl, .rw (lnV (ji d i)), rfl⟩⟩;have hz : (zl.map (V.int .u64)) = List.replicate 8 (.int .u64 0) := rfl;rw [ak];simp only [d7V, lnV, hz] at *;generalize (tab 7 fun j => V.int .i64 (d j)) = T at *;generalize (ji d i).map (V.int .u64) = LF at *;simp only [go_sem, bQ, d1, d2, Int.toNat_natCast, g1, h0]
  ·by_cases h1 : d i < 1024
   ·obtain ⟨r, q1, q2⟩ := wO d L hp n (i + 1) (by omega);refine ⟨r, ?_, by rw [decide_eq_true (show 0 ≤ d i by omega), decide_eq_true h1]; exact q2⟩;have h1' : ¬ d i ≥ 1024 := by omega
    rw [← q1, ak];simp only [d7V, lnV] at *;rw [← hs];generalize (tab 7 fun j => V.int .i64 (d j)) = T at *;generalize (ji d i).map (V.int .u64) = LF at *;generalize (ji d i).getD i 0 = w0 at *;generalize d i = di at *;simp only [go_sem, bQ, d1, d2, d3, d4, Int.toNat_natCast, g1, g2, h0, h1', z1, z3, z4]
   ·refine ⟨_, ?_, .inr ⟨by rw [decide_eq_false h1, Bool.and_false]; rfl, .rw (lnV (ji d i)), rfl⟩⟩;have hz : (zl.map (V.int .u64)) = List.replicate 8 (.int .u64 0) := rfl;have h1' : d i ≥ 1024 := by omega
    rw [ak];simp only [d7V, lnV, hz] at *;generalize (tab 7 fun j => V.int .i64 (d j)) = T at *;generalize (ji d i).map (V.int .u64) = LF at *;generalize d i = di at *;simp only [go_sem, bQ, d1, d2, Int.toNat_natCast, g1, h0, h1']
theorem sT (d : Nat → Int) (s : St) : rf D iN [d7V d] s = some (.tup [lnV (mX d), .int .i64 (if kN d 0 7 = true then 0 else 1)], s) := by
 obtain ⟨r, q1, q2⟩ := wO d s.loc s.hp 7 0 rfl;have h0 : ji d 0 = zl := rfl;rw [show ((0 : Nat) : Int) = 0 from rfl, h0] at q1
 have hseal := fun s => pd (vU d 7) s;have hz : (zl.map (V.int .u64)) = List.replicate 8 (.int .u64 0) := rfl;unfold mX;rcases q2 with ⟨c, rfl⟩ | ⟨c, X, rfl⟩
 ·rw [c, if_pos rfl, if_pos rfl];simp only [d7V, lnV, hz] at *;rw [aa mN rfl];simp only [go_sem, q1];simp only [go_sem, hseal]
 ·rw [c, if_neg (by simp), if_neg (by simp)];simp only [d7V, lnV, hz] at *;rw [aa mN rfl];simp only [go_sem, q1]
end Go.Proofs.YtmimfopnhmmlbaaGreatDoor
namespace Go.Proofs.YtmimfopnhmmlbaaGreatDoor
open Go.Ab
theorem tY (c n : Int) (h0 : -9223372036854775808 ≤ c) (h1 : c ≤ 9223372036854775807) (hn : 0 < n) (s : St) : rf D jd [.int .i64 c, .int .i64 n] s = some (.int .i64 (kd c n), s) := by
 have hn0 : ¬ n = 0 := by omega
 unfold kd;rw [aa q9 rfl];by_cases hc : c < 0
 ·have w1 : IntKind.i64.wrap (c + 1) = c + 1 := ag (by omega) (by omega);have w2 : IntKind.i64.wrap (0 - (c + 1)) = -(c + 1) := by rw [ag (by omega) (by omega)]; omega
  have w3 : (-(c + 1)).tmod n = (-(c + 1)) % n := Int.tmod_eq_emod_of_nonneg (by omega);simp only [go_sem, hc, w1, w2, hn0, w3]
 ·have w3 : c.tmod n = c % n := Int.tmod_eq_emod_of_nonneg (by omega);simp only [go_sem, hc, hn0, w3]
theorem ss (c : Nat) (hc : c ≤ 49) (s : St) : rf D ig [.int .i64 c] s = some (ab (az c), s) := by
 have z1 : V.agg 48 (List.replicate 49 (.agg 42 [.int .i64 0, .int .i64 0, .int .i64 0])) = ab fun _ => bE := by rw [dk]; rfl
 have loop : rc D s.loc.length (.loop [0, 2, 3, 4] dw) [(0, .int .i64 c), (2, .ptr (.loc s.loc.length) [] 48), (3, .ptr (.loc (s.loc.length + 1)) [] 48), (4, .int .i64 0)] ⟨s.loc ++ [.rw (ab fun _ => bE), .rw (ab fun _ => bE)], s.hp⟩ =
  some (.exit 0, [(0, .int .i64 c), (2, .ptr (.loc s.loc.length) [] 48), (3, .ptr (.loc (s.loc.length + 1)) [] 48), (4, .int .i64 c), (12, .bool false)], ⟨s.loc ++ [.rw (ab fun _ => bE), .rw (ab (az c))], s.hp⟩) := by
  refine aH (fun x : Nat => [(0, .int .i64 c), (2, .ptr (.loc s.loc.length) [] 48), (3, .ptr (.loc (s.loc.length + 1)) [] 48), (4, .int .i64 x)]) (fun x => ⟨s.loc ++ [.rw (ab fun _ => bE), .rw (ab (az x))], s.hp⟩) (fun _ => _) (fun x => c - x) (fun x => x ≤ c) 0 ?_ (by omega) rfl rfl;intro i hi;by_cases c1 : i < c
  ·left;have d1 : (i : Int) < c := by omega
   have d2 : (i : Int) < 49 := by omega
   have d3 : (0 : Int) ≤ i := by omega
   have d4 : IntKind.i64.wrap ((i : Int) + 1) = (i : Int) + 1 := ag (by omega) (by omega);have w1 : (i : Int).tmod 4 = ((i % 4 : Nat) : Int) := by rw [show (4 : Int) = ((4 : Nat) : Int) by rfl, ← Int.ofNat_tmod]
   have w2 : IntKind.i64.wrap (1 + ((i % 4 : Nat) : Int)) = 1 + ((i % 4 : Nat) : Int) := ag (by omega) (by omega);have w3 : IntKind.i64.wrap (20 + (i : Int)) = 20 + (i : Int) := ag (by omega) (by omega);have z2 : s.loc.length < s.loc.length + 2 := by omega
   have z3 : s.loc.length + 1 < s.loc.length + 2 := by omega
   have hup := mg (t := az i) (i := i) (e := ⟨1 + (i % 4 : Nat), i, 20 + i⟩);have e : (tab 49 fun j => (updE (az i) i ⟨1 + (i % 4 : Nat), i, 20 + i⟩ j).v) = tab 49 fun j => (az (i + 1) j).v := by
    apply aP;intro j _;unfold updE az;by_cases h1 : j = i
    ·subst h1; rw [if_pos rfl, if_pos (by omega)]
    ·rw [if_neg h1];by_cases h2 : j < i
     ·rw [if_pos h2, if_pos (by omega)]
     ·rw [if_neg h2, if_neg (by omega)]
   rw [e] at hup;have g1 := ai (f := fun j => (az i j).v) (show i < 49 by omega);refine ⟨i + 1, by omega, by omega, rfl, ?_⟩;simp only [ab];rw [← hup];simp only [Ent.v] at *;generalize tab 49 (fun j => V.agg 42 [.int .i64 (az i j).kind, .int .i64 (az i j).ver, .int .i64 (az i j).line]) = T at *;generalize tab 49 (fun _ => V.agg 42 [.int .i64 bE.kind, .int .i64 bE.ver, .int .i64 bE.line]) = T0 at *;generalize i % 4 = im at *;simp only [go_sem, dw, d1, d2, d3, w1, w2, w3, d4, z2, z3];rw [Int.toNat_natCast];simp only [go_sem, g1, d4, z2, z3];rfl
  ·right;have : i = c := by omega
   subst this;have d1 : ¬ (i : Int) < i := by omega
   simp only [ab];simp only [go_sem, dw, d1]
 rw [aa qP rfl];simp only [ab] at *;simp only [go_sem, z1, loop]
theorem JI : ev D 500 (.f jx []) ⟨[], [.ro cT]⟩ = some (.v (ao bM) ⟨[], [.ro cT]⟩) := by kernel_rfl
theorem BH {s : St} (h : s.hp[0]? = some (.ro cT)) : rf D jx [] s = some (ao bM, s) :=
 BR (G := [.ro cT]) (fun b hb => by rw [List.mem_singleton.1 hb]; exact ⟨_, rfl, by kernel_rfl⟩) PJ rfl rfl JI (JO h)
def b11 : Sup := ⟨1, 17, 0, 1⟩
theorem xU (s : St) : rf D iu [] s = some (b11.v, s) := by
 rw [aa qS rfl];simp only [go_sem, Sup.v, b11]
def kw (c k i : Nat) : List Int := if 10 ≤ i ∧ i < 10 + k then nu (az c) (i - 10) else zl
def lvF (k i : Nat) : Int := if i < k then 10 + i else 0
def imL (c i : Nat) : List Int := if i = 17 then mX (lvF 7) else kw c 7 i
theorem Jc (c k i : Nat) : (kw c k i).length = 8 := by
 unfold kw; split
 ·exact Ek _ _
 ·rfl
theorem Ed (c i : Nat) : (imL c i).length = 8 := by
 unfold imL; split
 ·exact FO _
 ·exact Jc _ _ _
theorem I6 {c : Nat} {n : Nat} (hn : 64 ≤ n) (L hp : List Blk) :
 rc D L.length (.loop [5, 6, 7, 8] dI) [(5, .sl (.hp hp.length) [] 0 n (some n) 24), (6, .ptr (.loc L.length) [] 48), (7, .ptr (.loc (L.length + 1)) [] 60), (8, .int .i64 0)] ⟨L ++ [.rw (ab (az c)), .rw (d7V fun _ => 0)], hp ++ [.rw (.agg 58 (tab n fun _ => zln))]⟩ =
  some (.exit 0, [(5, .sl (.hp hp.length) [] 0 n (some n) 24), (6, .ptr (.loc L.length) [] 48), (7, .ptr (.loc (L.length + 1)) [] 60), (8, .int .i64 7), (15, .bool false)], ⟨L ++ [.rw (ab (az c)), .rw (d7V (lvF 7))], hp ++ [.rw (.agg 58 (tab n fun i => lnV (kw c 7 i)))]⟩) := by
 refine aH (fun x : Nat => [(5, .sl (.hp hp.length) [] 0 n (some n) 24), (6, .ptr (.loc L.length) [] 48), (7, .ptr (.loc (L.length + 1)) [] 60), (8, .int .i64 x)]) (fun x => ⟨L ++ [.rw (ab (az c)), .rw (d7V (lvF x))], hp ++ [.rw (.agg 58 (tab n fun i => lnV (kw c x i)))]⟩) (fun _ => _) (fun x => 7 - x) (fun x => x ≤ 7) 0 ?_ (by omega) rfl ?_
 ·intro i hi;by_cases c1 : i < 7
  ·left;have d1 : (i : Int) < 7 := by omega
   have d2 : (0 : Int) ≤ i := by omega
   have d4 : IntKind.i64.wrap ((i : Int) + 1) = (i : Int) + 1 := ag (by omega) (by omega);have d5 : IntKind.i64.wrap (10 + (i : Int)) = ((10 + i : Nat) : Int) := by rw [ag (by omega) (by omega)]; omega
   have hlf := fun s => sY (az c) (k := i) c1 s;have z2 : L.length < L.length + 2 := by omega
   have z3 : L.length + 1 < L.length + 2 := by omega
   have q := gD (a := .hp hp.length) (e := 24) (show 10 + i < n by omega);have e1 : (tab n fun j => lnV (kw c i j)).set (10 + i) (lnV (nu (az c) i)) = tab n fun j => lnV (kw c (i + 1) j) := by
    rw [bw];apply aP;intro j _;unfold kw;by_cases h1 : j = 10 + i
    ·subst h1; rw [aq, if_pos (by omega), show 10 + i - 10 = i by omega]
    ·rw [aB h1];by_cases h2 : 10 ≤ j ∧ j < 10 + i
     ·rw [if_pos h2, if_pos (by omega)]
     ·rw [if_neg h2, if_neg (by omega)]
   have e2 : (tab 7 fun j => V.int .i64 (lvF i j)).set i (.int .i64 ((10 + i : Nat) : Int)) = tab 7 fun j => .int .i64 (lvF (i + 1) j) := by
    rw [bw];apply aP;intro j _;unfold lvF;by_cases h1 : j = i
    ·subst h1; rw [aq, if_pos (by omega)]; rfl
    ·rw [aB h1];by_cases h2 : j < i
     ·rw [if_pos h2, if_pos (by omega)]
     ·rw [if_neg h2, if_neg (by omega)]
   have g1 := ai (f := fun j => lnV (kw c i j)) (show 10 + i < n by omega);have g2 := ai (f := fun j => V.int .i64 (lvF i j)) (show i < 7 by omega);refine ⟨i + 1, by omega, by omega, rfl, ?_⟩;simp only [d7V];rw [← e1, ← e2];simp only [ab, Ent.v] at *;generalize tab 49 (fun j => V.agg 42 [.int .i64 (az c j).kind, .int .i64 (az c j).ver, .int .i64 (az c j).line]) = T at *;generalize tab n (fun j => lnV (kw c i j)) = T1 at *;generalize tab 7 (fun j => V.int .i64 (lvF i j)) = T2 at *;generalize nu (az c) i = rl at *;generalize kw c i (10 + i) = rl2 at *;simp only [lnV] at *;simp only [go_sem, dI, d1, d2, d5, hlf, q, g1, z2, z3];rw [Int.toNat_natCast];simp only [go_sem, g2, d4, z2, z3];rfl
  ·right;have : i = 7 := by omega
   subst this;simp only [ab, d7V];simp only [go_sem, dI]
 ·have e1 : (tab n fun i => lnV (kw c 0 i)) = tab n fun _ => zln := aP fun j _ => by unfold kw; rw [if_neg (by omega)]; rfl
  have e2 : d7V (lvF 0) = d7V fun _ => 0 := by unfold d7V; congr 1
  rw [e1, e2]
theorem xo {c n : Nat} (hc : c ≤ 49) (hn : 64 ≤ n) (hn1 : n ≤ 1024) (L hp : List Blk) : rf D ir [.int .i64 n, .int .i64 c] ⟨L, hp⟩ =
 some (.sl (.hp hp.length) [] 0 n (some n) 24, ⟨L, hp ++ [.rw (.agg 58 (tab n fun i => lnV (imL c i)))]⟩) := by
 have loop := I6 (c := c) hn L hp;have ht := fun s => ss c hc s;have hr := fun s => sT (lvF 7) s;have c3 : (0 : Int) ≤ n := by omega
 have hm : (n : Int) ≤ (be : Nat) := by unfold be; omega
 have q := gD (a := .hp hp.length) (e := 24) (show 17 < n by omega);have q : fY 24 (.sl (.hp hp.length) [] 0 n (some n) 24) (.int .i64 17) = some (.ptr (.hp hp.length) [17] 24) := q;have g1 := ai (f := fun j => lnV (kw c 7 j)) (show 17 < n by omega);have e1 : (tab n fun j => lnV (kw c 7 j)).set 17 (lnV (mX (lvF 7))) = tab n fun j => lnV (imL c j) := by
  rw [bw];apply aP;intro j _;unfold imL;by_cases h1 : j = 17
  ·subst h1; rw [aq, if_pos rfl]
  ·rw [aB h1, if_neg h1]
 have e2 : V.agg 60 (List.replicate 7 (.int .i64 0)) = d7V fun _ => 0 := by rw [dk]; rfl
 have e3 : V.agg 48 (List.replicate 49 (.agg 42 [.int .i64 0, .int .i64 0, .int .i64 0])) = ab fun _ => bE := by rw [dk]; rfl
 rw [aa qU rfl, ← e1];simp only [zln] at loop;rw [← dk] at loop;generalize tab n (fun j => lnV (kw c 7 j)) = T1 at *;generalize mX (lvF 7) = rr at *;generalize kw c 7 17 = r2 at *;simp only [lnV, ab, d7V] at *;simp only [go_sem, c3, hm, Int.le_refl, Int.toNat_natCast, ht, e2, e3, loop, hr, q, g1]
end Go.Proofs.YtmimfopnhmmlbaaGreatDoor
namespace Go.Proofs.YtmimfopnhmmlbaaGreatDoor
open Go.Ab
theorem EB {n a : Nat} {ls : Nat → List Int} (h0 : 64 ≤ n) (h1 : n ≤ 1024) (L hp : List Blk) (hs : hp[a]? = some (.rw (.agg 58 (tab n fun i => lnV (ls i))))) : rf D rT [.sl (.hp a) [] 0 n (some n) 24] ⟨L, hp⟩ =
 some (.tup [.ptr (.hp (hp.length + 1)) [] 59, .int .i64 0], ⟨L, hp ++ [.rw (.agg 57 (tab n fun i => nlV (lnV (ls i)) (lnV (ls i)) .nils zfl)), .rw (wC hp.length n false false 0 0)]⟩) := by
 have hal := af hs;have hnew := fun L2 => EK h0 h1 ⟨L2, hp⟩;have hs2 : ∀ X, (hp ++ X)[a]? = some (.rw (.agg 58 (tab n fun i => lnV (ls i)))) := fun X => by rw [List.getElem?_append_left hal]; exact hs
 have loop : rc D L.length (.loop [4, 17, 18, 19] pD) [(4, .ptr (.hp (hp.length + 1)) [] 59), (17, .sl (.hp a) [] 0 n (some n) 24), (18, .int .i64 n), (19, .int .i64 0)]
  ⟨L, hp ++ [.rw (.agg 57 (tab n fun _ => nlV zln zln .nils zfl)), .rw (wC hp.length n false false 0 0)]⟩ =
  some (.exit 0, [(4, .ptr (.hp (hp.length + 1)) [] 59), (17, .sl (.hp a) [] 0 n (some n) 24), (18, .int .i64 n), (19, .int .i64 n), (20, .bool false)],
   ⟨L, hp ++ [.rw (.agg 57 (tab n fun i => nlV (lnV (ls i)) (lnV (ls i)) .nils zfl)), .rw (wC hp.length n false false 0 0)]⟩) := by
  refine aH (fun x : Nat => [(4, .ptr (.hp (hp.length + 1)) [] 59), (17, .sl (.hp a) [] 0 n (some n) 24), (18, .int .i64 n), (19, .int .i64 x)])
   (fun x => ⟨L, hp ++ [.rw (.agg 57 (tab n fun i => if i < x then nlV (lnV (ls i)) (lnV (ls i)) .nils zfl else nlV zln zln .nils zfl)), .rw (wC hp.length n false false 0 0)]⟩) (fun _ => _) (fun x => n - x) (fun x => x ≤ n) 0 ?_ (by omega) rfl (by simp)
  intro i hi;by_cases c1 : i < n
  ·left;have d1 : (i : Int) < n := by omega
   have d2 : (0 : Int) ≤ i := by omega
   have d4 : IntKind.i64.wrap ((i : Int) + 1) = (i : Int) + 1 := ag (by omega) (by omega);have g1 := ai (f := fun i => lnV (ls i)) c1;have g2 := ai (f := fun j => if j < i then nlV (lnV (ls j)) (lnV (ls j)) .nils zfl else nlV zln zln .nils zfl) c1
   simp only [Nat.lt_irrefl, if_false] at g2;have hset : tab n (upd (fun j => if j < i then nlV (lnV (ls j)) (lnV (ls j)) .nils zfl else nlV zln zln .nils zfl) i (nlV (lnV (ls i)) (lnV (ls i)) .nils zfl)) = tab n fun j => if j < i + 1 then nlV (lnV (ls j)) (lnV (ls j)) .nils zfl else nlV zln zln .nils zfl := by
    apply aP;intro j _;by_cases e : j = i
    ·subst e; simp [upd]
    ·rw [aB e];by_cases h2 : j < i
     ·rw [if_pos h2, if_pos (by omega)]
     ·rw [if_neg h2, if_neg (by omega)]
   refine ⟨i + 1, by omega, by omega, rfl, ?_⟩;rw [← hset, ← bw];have hT : ∀ v, ((tab n fun j => if j < i then nlV (lnV (ls j)) (lnV (ls j)) .nils zfl else nlV zln zln .nils zfl).set i v)[i]? = some v := fun v => List.getElem?_set_self (by rw [bt]; exact c1)
   generalize tab n (fun j => if j < i then nlV (lnV (ls j)) (lnV (ls j)) .nils zfl else nlV zln zln .nils zfl) = T at *
   generalize tab n (fun i => lnV (ls i)) = T2 at *;simp only [lnV, nlV, zln, zfl, wC] at *;have q1 := gD (a := .hp a) (e := 24) c1;have q2 := gD (a := .hp hp.length) (e := 55) c1;simp only [go_sem, pD, d1, d4, q1, q2, hs2, g1, g2, hT, hal, List.set_set];rfl
  ·right;have : i = n := by omega
   subst this;have d1 : ¬ (i : Int) < i := by omega
   rw [show (tab i fun j => if j < i then nlV (lnV (ls j)) (lnV (ls j)) .nils zfl else nlV zln zln .nils zfl) = tab i fun j => nlV (lnV (ls j)) (lnV (ls j)) .nils zfl from aP fun j hj => if_pos hj]
   simp only [go_sem, pD, d1]
 rw [aa J5 rfl];simp only [go_sem, hnew, loop]
theorem KY {n a : Nat} {ls : Nat → List Int} (h0 : 64 ≤ n) (h1 : n ≤ 1024) (hls : ∀ i, (ls i).length = 8) (hp : List Blk) (hs : hp[a]? = some (.rw (.agg 58 (tab n fun i => lnV (ls i))))) : ∃ more, more.length = 2 ∧ (∀ L, rf D rT [.sl (.hp a) [] 0 n (some n) 24] ⟨L, hp⟩ = some (.tup [.ptr (.hp (hp.length + 1)) [] 59, .int .i64 0], ⟨L, hp ++ more⟩)) ∧
 bS (hp ++ more) (fun j => j = hp.length ∨ j = hp.length + 1) (hp.length + 1) (am0 n ls) := by
 refine ⟨_, rfl, fun L => EB h0 h1 L hp hs, ⟨h0, h1, fun i _ => hls i, fun _ _ d hd => (by cases hd), Int.le_refl _, fun _ _ => Int.le_refl _, Int.le_refl _, by simp [am0]⟩, fun j hj => ?_, .inr rfl, hp.length, .inl rfl, by omega, ⟨some n, 0, ?_, .inr rfl, fun h => by simp [am0] at h⟩, fun _ => .nils, fun _ => 0, ?_, fun i hi => .nil⟩
 ·simp; omega
 ·simp; rfl
 ·have e : (tab n fun i => nlV (lnV (ls i)) (lnV (ls i)) .nils zfl) = tab (am0 n ls).n fun i => plV ((am0 n ls).S i) ((am0 n ls).L i) .nils := rfl;rw [← e]; simp
theorem CB {hp : List Blk} {a m : Nat} (b : Sup) (sl : Int) (L : List Blk) : rf D sH [.ptr (.hp m) [] 59, .ptr (.hp a) [] 43, b.v, .int .i64 sl] ⟨L, hp⟩ =
 some (.ptr (.hp hp.length) [] 61, ⟨L, hp ++ [.rw (.agg 61 [.ptr (.hp m) [] 59, .ptr (.hp a) [] 43, b.v, .int .i64 sl, .nils, .int .i64 0, ab fun _ => bE, ao fun _ => 0])]⟩) := by
 have e3 : V.agg 48 (List.replicate 49 (.agg 42 [.int .i64 0, .int .i64 0, .int .i64 0])) = ab fun _ => bE := by rw [dk]; rfl
 have e2 : V.agg 50 (List.replicate 8 (.int .i64 0)) = ao fun _ => 0 := by rw [dk]; rfl
 rw [aa EA rfl];simp only [Sup.v, ab, ao] at *;simp only [go_sem, e2, e3]
def aw0 (x : AS) (b : Sup) (sl : Int) : AW := ⟨x, b, sl, [], 0, fun _ => bE, fun _ => 0⟩
def xR : Ft := fun _ => False
theorem WkQ.fresh {hp : List Blk} {a m fr : Nat} {Fm : Ft} {x : AS} (h : aN hp Fm a m fr x) (b : Sup) (sl : Int) : WkQ (hp ++ [.rw (wkV m a .nils (aw0 x b sl))]) hp.length a m fr Fm xR .nils (aw0 x b sl) := by
 refine ⟨aN.chg h (io hp _ fun _ => False) (fun _ h => h.elim) (fun h => h), by simp, .nil, fun hh => ?_, fun _ h => h.elim, fun h => h, fun h => h, fun _ h => h.elim⟩;have := h.inn _ hh;omega
theorem IC {hp : List Blk} (L : List Blk) (hG : hp[0]? = some (.ro cT)) {c n : Nat} (hc : c ≤ 30) (hn : 64 ≤ n) (hn1 : n ≤ 1024) :
 ∃ hp' wk a m fr A' Fm, rf D c8 [.int .i64 n, .int .i64 c] ⟨L, hp⟩ = some (.tup [.ptr (.hp m) [] 59, .ptr (.hp a) [] 43, .ptr (.hp wk) [] 61], ⟨L, hp'⟩) ∧
  WkQ hp' wk a m fr Fm xR .nils (aw0 (as0 (am0 n (imL c)) A' (az c) bM) b11 0) ∧ Inv (as0 (am0 n (imL c)) A' (az c) bM) ∧ A'.Two ∧ (∀ i, i < c → (as0 (am0 n (imL c)) A' (az c) bM).own i = false) ∧
  A'.f = 10 ∧ A'.l = n ∧ (∀ j, A'.st j = if (20 ≤ j ∧ j < 20 + c) ∨ (10 ≤ j ∧ j < 18) then 1 else 0) ∧ hp <+: hp' ∧ oA hp.length (WkF wk a fr Fm xR) := by
 have hi := xo (c := c) (by omega) hn hn1 L hp;have hs : (hp ++ [.rw (.agg 58 (tab n fun i => lnV (imL c i)))])[hp.length]? = some (.rw (.agg 58 (tab n fun i => lnV (imL c i)))) := by simp
 obtain ⟨m1, hl, hO, hM⟩ := KY hn hn1 (Ed c) _ hs;have hG0 : 0 < hp.length := af hG;have hO := hO L;have hG1 : (hp ++ [.rw (.agg 58 (tab n fun i => lnV (imL c i)))] ++ m1)[0]? = some (.ro cT) := by rw [List.append_assoc, List.getElem?_append_left hG0]; exact hG
 have hz : ¬ (fun j => j = (hp ++ [Blk.rw (.agg 58 (tab n fun i => lnV (imL c i)))]).length ∨ j = (hp ++ [Blk.rw (.agg 58 (tab n fun i => lnV (imL c i)))]).length + 1) 0 := by
  simp only [List.length_append, List.length_singleton]; omega
 obtain ⟨A', hA, h1, h2, hst⟩ := Iz (c := c) (n := n) hc hn;obtain ⟨i1, i2, i3⟩ := Qf hc hM.ok rfl hA hst;rcases JU hM hG1 hz 10 (az c) bM L with ⟨q, _⟩ | ⟨_, _, q, _⟩ | ⟨_, _, A2, more, q, q2, q3⟩
 ·simp only [am0] at q; omega
 ·have : (af0 10 n).takes (cA (az c) bM) = none := q;rw [hA] at this; cases this
 ·have : (af0 10 n).takes (cA (az c) bM) = some A2 := q;rw [hA] at this; cases this;have hW := WkQ.fresh q3 b11 0;have hN := CB (hp := hp ++ [.rw (.agg 58 (tab n fun i => lnV (imL c i)))] ++ m1 ++ more) (a := (hp ++ [Blk.rw (.agg 58 (tab n fun i => lnV (imL c i)))] ++ m1).length + 1) (m := (hp ++ [Blk.rw (.agg 58 (tab n fun i => lnV (imL c i)))]).length + 1) b11 0 L;refine ⟨_, _, _, _, _, A', _, ?_, hW, i1, i2, i3, h1, h2, hst, by rw [List.append_assoc, List.append_assoc, List.append_assoc]; exact List.prefix_append _ _, fun j hj => ?_⟩
  ·have ht := ss c (by omega);have hd := BH (s := ⟨L, hp ++ [.rw (.agg 58 (tab n fun i => lnV (imL c i)))] ++ m1⟩) hG1;have hb := xU;clear hW q3 hM hz hG1 hs;generalize hp ++ [Blk.rw (.agg 58 (tab n fun i => lnV (imL c i)))] = H1 at *;generalize H1 ++ m1 = H2 at *;generalize H2 ++ more = H3 at *;rw [aa rL rfl];simp only [go_sem, hi, hO, ht, hd, q2, hb, hN];rfl
  ·rcases hj with rfl | hj | rfl | rfl | rfl | rfl
   ·simp only [List.length_append]; omega
   ·exact hj.elim
   ·simp only [List.length_append]; omega
   ·simp only [List.length_append]; omega
   ·simp only [List.length_append]; omega
   ·simp only [List.length_append]; omega
theorem pZ {hp : List Blk} {wk a m fr : Nat} {Fm Gs : Ft} {sv : V} {w : AW} (h : WkQ hp wk a m fr Fm Gs sv w) (L : List Blk) : rf D mi [.ptr (.hp wk) [] 61] ⟨L, hp⟩ = some (.int .i64 w.st.length, ⟨L, hp⟩) := by
 have hst := h.st;have hsl := h.sr.slen;simp only [wkV] at hst;rw [aa wu rfl];simp only [go_sem, hst, hsl]
theorem sV {hp : List Blk} {wk a m fr : Nat} {Fm Gs : Ft} {sv : V} {w : AW} (h : WkQ hp wk a m fr Fm Gs sv w) (L : List Blk) : rf D lJ [.ptr (.hp wk) [] 61] ⟨L, hp⟩ = some (.tup [w.b.v, .int .i64 w.slot], ⟨L, hp⟩) := by
 have hst := h.st;simp only [wkV, Sup.v] at *;rw [aa vh rfl];simp only [go_sem, hst]
end Go.Proofs.YtmimfopnhmmlbaaGreatDoor
namespace Go.Proofs.YtmimfopnhmmlbaaGreatDoor
open Go.Ab
structure Cll where
 kind : Int
 id : Int
 word : Int
 v : Int
def Cll.val (o : Cll) : V := .agg 54 [.int .i64 o.kind, .int .i64 o.id, .int .i64 o.word, .int .u64 o.v]
structure Cll.Ok (o : Cll) : Prop where
 k : -9223372036854775808 ≤ o.kind ∧ o.kind ≤ 9223372036854775807
 i : -9223372036854775808 ≤ o.id ∧ o.id ≤ 9223372036854775807
 w : -9223372036854775808 ≤ o.word ∧ o.word ≤ 9223372036854775807
 u : 0 ≤ o.v ∧ o.v ≤ 18446744073709551615
theorem Pi {hp : List Blk} {v : V} (h : (Sh.st 54 [.int .i64, .int .i64, .int .i64, .int .u64]).Fits hp v) : ∃ o : Cll, v = o.val ∧ o.Ok := by
 obtain ⟨vs, rfl, h⟩ := h;obtain ⟨x, r, rfl, hx, h⟩ := zR h;obtain ⟨y, z, w, rfl, hy, hz, hw⟩ := Ly h;obtain ⟨k, rfl, hk⟩ := yx hx;obtain ⟨i, rfl, hi⟩ := yx hy;obtain ⟨q, rfl, hq⟩ := yx hz;obtain ⟨u, rfl, hu⟩ := QH hw;exact ⟨⟨k, i, q, u⟩, rfl, hk, hi, hq, hu⟩
end Go.Proofs.YtmimfopnhmmlbaaGreatDoor
namespace Go.Proofs.YtmimfopnhmmlbaaGreatDoor
open Go.Ab
section
variable {M : AM}
theorem pw (h : M.On) : M.stepped.On := ⟨h.off, by unfold AM.stepped; simp only; rw [if_neg (by rw [h.left]; decide)]; exact h.left⟩
theorem wb (h : M.On) {i : Int} (h0 : 0 ≤ i) (h1 : i < M.n) : M.flush 0 i = (M.stepped.flushed 0 i.toNat, 0) ∧ (M.stepped.flushed 0 i.toNat).On ∧ ∀ j, (M.stepped.flushed 0 i.toNat).now j = M.now j := by
 refine ⟨?_, ⟨(pw h).off, (pw h).left⟩, fun j => AM.now_flushed⟩;unfold AM.flush;rw [if_neg (by omega), if_neg (by rw [h.dead]; decide)];rfl
theorem Am (h : M.On) : M.fence 0 = (M.stepped.fencedTo 0 M.n, 0) ∧ (M.stepped.fencedTo 0 M.n).On ∧ ∀ j, (M.stepped.fencedTo 0 M.n).now j = M.now j := by
 obtain ⟨_, _, e3, e4⟩ := cC (M := M.stepped) (c := 0) M.n;refine ⟨?_, ⟨e3.trans (pw h).off, e4.trans (pw h).left⟩, fun j => uq M.n⟩;unfold AM.fence;rw [if_neg (by omega), if_neg (by rw [h.dead]; decide)];rfl
theorem AV (h : M.Ok) : (M.stepped.fencedTo 0 M.n).Ok ∧ (M.stepped.fencedTo 0 M.n).n = M.n ∧ (M.stepped.fencedTo 0 M.n).count = M.count + 1 := by
 obtain ⟨e1, e2, _, _⟩ := cC (M := M.stepped) (c := 0) M.n;exact ⟨vr h.stepped _, e1, e2⟩
theorem PC (ok : M.Ok) (h : M.On) {s : Nat} (hs : s = 0 ∨ s = 1) {b : Sup} (hb : b.ok = true) :
 (M.wrs s b).2 = 0 ∧ (M.wrs s b).1.Ok ∧ (M.wrs s b).1.On ∧ (M.wrs s b).1.n = M.n ∧ (M.wrs s b).1.count ≤ M.count + 12 ∧ ∀ j, j ≠ s → (M.wrs s b).1.now j = M.now j := by
 have hn := ok.n0;obtain ⟨e1, e2, e3⟩ := Cq h (i := s) (q := 7) (by omega) (by decide) 0;have e1 : (M.store (s : Int) 7 0).2 = 0 := e1;have e2 : (M.store (s : Int) 7 0).1.On := e2;have e3 : ∀ j, (M.store (s : Int) 7 0).1.now j = if j = s then (M.now j).set 7 0 else M.now j := e3
 have n1 : (M.store (s : Int) 7 0).1.n = M.n := AM.store_n;have c1 : (M.store (s : Int) 7 0).1.count ≤ M.count + 1 := AM.store_count;have o1 : (M.store (s : Int) 7 0).1.Ok := ok.store;obtain ⟨f1, f2, f3⟩ := HO o1 e2 (at' := s) (vX b) (by omega);have n2 : ((M.store (s : Int) 7 0).1.layFrom s (bo b) 0 8).1.n = _ := AM.layFrom_n;have c2 := AM.layFrom_count (M := (M.store (s : Int) 7 0).1) (at' := s) (l := bo b) (n := 8) (j := 0);have o2 : ((M.store (s : Int) 7 0).1.layFrom s (bo b) 0 8).1.Ok := o1.layFrom;unfold AM.wrs;rw [if_neg (by rw [hb]; simp; omega), if_neg (fun hh => hh e1)];simp only;rw [if_neg (fun hh => hh f1)];obtain ⟨g1, g2, g3⟩ := wb f2 (i := (s : Int)) (by omega) (by rw [n2, n1]; omega);rw [g1, if_neg (by simp)];simp only;have o3 : (AM.stepped ((M.store (s : Int) 7 0).1.layFrom s (bo b) 0 8).1 |>.flushed 0 (s : Int).toNat).Ok := o2.stepped.flushed _ _;obtain ⟨k1, k2, k3⟩ := Am g2;obtain ⟨o4, n4, c4⟩ := AV o3;rw [k1];refine ⟨rfl, o4, k2, ?_, ?_, fun j hj => ?_⟩
 ·rw [n4]; exact n2.trans n1
 ·rw [c4];have : ((AM.stepped ((M.store (s : Int) 7 0).1.layFrom s (bo b) 0 8).1).flushed 0 (s : Int).toNat).count = ((M.store (s : Int) 7 0).1.layFrom s (bo b) 0 8).1.count + 1 := rfl;omega
 ·simp only;rw [k3, g3, f3, if_neg hj, e3, if_neg hj]
end
structure BX (b : Sup) (sl seq : Int) : Prop where
 g : 0 ≤ b.gen ∧ b.gen < 1099511627776
 c : 1 ≤ b.cores ∧ b.cores ≤ 8
 s : sl = 0 ∨ sl = 1
 q : 0 ≤ seq ∧ seq ≤ 1099511627776
structure LJ (n : Nat) (p : Nat × Int) : Prop where
 k : p.1 ≤ 3
 l : p.1 = 0 → 0 ≤ p.2 ∧ p.2 < n
 f : p.1 = 1 → 0 ≤ p.2 ∧ p.2 < 7
def wrN (p : Nat × Int) : Nat := if p.1 = 1 ∨ p.1 = 2 then 1 else 0
structure Mid (x0 : AS) (b : Sup) (sl seq : Int) (w : AW) : Prop where
 inv : Inv w.x
 on : w.x.M.On
 base : w.x.base = x0.base
 mark : w.x.mark = x0.work
 is : w.x.is = true
 dir : w.x.dir = x0.dir
 n : w.x.M.n = x0.M.n
 f : w.x.A.f = 10
 now : ∀ j : Nat, w.x.sh j = true → w.x.M.now j = x0.M.now j
 tbl : w.tbl = x0.work
 b : w.b = b
 sl : w.slot = sl
 seq : w.seq = seq
 d7 : 0 ≤ w.dir 7 ∧ w.dir 7 ≤ 1023
 st : ∃ S, w.st = S ++ [(4, 0)] ∧ ∀ p ∈ S, LJ x0.M.n p
theorem Mid.fit {x0 : AS} {b : Sup} {sl seq : Int} {w : AW} (h : Mid x0 b sl seq w) (hB : BX b sl seq) : w.Fit := by
 obtain ⟨S, e1, e2⟩ := h.st;refine ⟨by rw [h.b]; have := hB.g; omega, by rw [h.sl]; exact hB.s, fun p hp h1 => ?_⟩;rw [e1] at hp;rcases List.mem_append.1 hp with hp | hp
 ·exact (e2 p hp).f h1
 ·rw [List.mem_singleton.1 hp] at h1; cases h1
theorem FG {x0 : AS} {b : Sup} {sl seq : Int} {w : AW} (h : Mid x0 b sl seq w) {l : List Int} (hl : l.length = 8) {q : Nat} (hq : q < 8) :
 (w.x.A.left = 0 ∧ w.write l q = (w, 10)) ∨ ∃ k M, w.x.A.f ≤ k ∧ k < w.x.A.l ∧ w.x.A.st k = 0 ∧ w.write l q = ({ w with x := { w.x with M := M, A := w.x.A.put k 1 }, dir := upd w.dir q (k : Int) }, 0) ∧
  M.Ok ∧ M.On ∧ M.n = w.x.M.n ∧ M.count ≤ w.x.M.count + 9 ∧ ∀ i, M.now i = if i = k then l else w.x.M.now i := by
 rcases Kf h.inv.ok h.on hl with ⟨e1, e2⟩ | ⟨k, M, h1, h2, h3, e, h4, h5, h6, h7⟩
 ·left;refine ⟨e1, ?_⟩;unfold AW.write;rw [e2, if_pos (by simp)]
 ·right;have hc := AS.lay_count (x := w.x) l;rw [e] at hc;have hln := h.inv.ok.l;obtain ⟨g1, g2, g3⟩ := wb h5 (i := (k : Int)) (by omega) (by omega);refine ⟨k, (M.stepped.flushed 0 (k : Int).toNat), h1, h2, h3, ?_, h4.stepped.flushed _ _, g2, h6, ?_, fun i => by rw [g3, h7]⟩
  ·unfold AW.write;rw [e];simp only [ne_eq, not_true_eq_false, if_false, g1]
  ·have : (M.stepped.flushed 0 (k : Int).toNat).count = M.count + 1 := rfl;simp only at hc;omega
theorem Mid.step {x0 : AS} {b : Sup} {sl seq : Int} {w : AW} (h : Mid x0 b sl seq w) {p : Nat × Int} {r : List (Nat × Int)} (hw : w.st = p :: r) (hr : r ≠ []) :
 (∃ w', w.step = (w', false, 0) ∧ Mid x0 b sl seq w' ∧ w'.st = r ∧ w'.x.work = w.x.work ∧ w'.x.A.left + wrN p = w.x.A.left ∧ w'.x.M.count ≤ w.x.M.count + 12 ∧ ∀ j, w.x.A.st j = 1 → w'.x.M.now j = w.x.M.now j) ∨
 (w.x.A.left = 0 ∧ wrN p = 1 ∧ w.step = ({ w with x := w.x.abort.1, st := [] }, false, 10)) := by
 obtain ⟨S, e1, e2⟩ := h.st;obtain ⟨S', rfl⟩ : ∃ S', S = p :: S' := by
  cases S with
  | nil =>
   rw [e1] at hw;simp only [List.nil_append, List.cons.injEq] at hw;exact absurd hw.2.symm hr
  | cons p' S' =>
   rw [e1] at hw;simp only [List.cons_append, List.cons.injEq] at hw;rw [hw.1]; exact ⟨S', rfl⟩
 have er : r = S' ++ [(4, 0)] := by
  rw [e1] at hw;simp only [List.cons_append, List.cons.injEq] at hw;exact hw.2.symm
 have hp := e2 p List.mem_cons_self;have hS : ∀ q ∈ S', LJ x0.M.n q := fun q hq => e2 q (List.mem_cons_of_mem _ hq);have hd : decide (r = []) = false := decide_eq_false hr;have ok := h.inv.ok;have memo : ∀ M : AM, M.Ok → M.On → M.n = w.x.M.n → M.count ≤ w.x.M.count + 12 → (∀ j, M.now j = w.x.M.now j) → w.doStep p = ({ w with x := { w.x with M := M } }, 0) → wrN p = 0 →
  ∃ w', w.step = (w', false, 0) ∧ Mid x0 b sl seq w' ∧ w'.st = r ∧ w'.x.work = w.x.work ∧ w'.x.A.left + wrN p = w.x.A.left ∧ w'.x.M.count ≤ w.x.M.count + 12 ∧ ∀ j, w.x.A.st j = 1 → w'.x.M.now j = w.x.M.now j := by
  intro M h1 h2 h3 h4 h5 h6 h7;refine ⟨{ w with x := { w.x with M := M }, st := r }, ?_, ⟨h.inv.withM h1 h3, h2, h.base, h.mark, h.is, h.dir, h3.trans h.n, h.f, fun j hj => ?_, h.tbl, h.b, h.sl, h.seq, h.d7, S', er, hS⟩, rfl, rfl, ?_, h4, fun j _ => h5 j⟩
  ·unfold AW.step;rw [hw];simp only [h6, hd, if_true]
  ·simp only;rw [h5]; exact h.now j hj
  ·rw [h7]; rfl
 have wrt : ∀ (l : List Int) (q : Nat), l.length = 8 → q < 8 → w.doStep p = w.write l q → wrN p = 1 →
  (∃ w', w.step = (w', false, 0) ∧ Mid x0 b sl seq w' ∧ w'.st = r ∧ w'.x.work = w.x.work ∧ w'.x.A.left + wrN p = w.x.A.left ∧ w'.x.M.count ≤ w.x.M.count + 12 ∧ ∀ j, w.x.A.st j = 1 → w'.x.M.now j = w.x.M.now j) ∨
  (w.x.A.left = 0 ∧ wrN p = 1 ∧ w.step = ({ w with x := w.x.abort.1, st := [] }, false, 10)) := by
  intro l q hl hq h6 h7;rcases FG h hl hq with ⟨g1, g2⟩ | ⟨k, M, k1, k2, k3, k4, k5, k6, k7, k8, k9⟩
  ·right;refine ⟨g1, h7, ?_⟩;unfold AW.step;rw [hw];simp only [h6, g2];rw [if_neg (by decide), if_pos trivial]
  ·left;have hlp := AF.left_put (A := w.x.A) (k := k) (x := 1) k1 k2;rw [if_pos k3, if_neg (by decide)] at hlp;have hiv : Inv { w.x with M := M, A := w.x.A.put k 1 } := (h.inv.taken k3).withM k5 k7;have hne : ∀ j, w.x.A.st j = 1 → j ≠ k := fun j hj e => by rw [e, k3] at hj; cases hj
   refine ⟨{ w with x := { w.x with M := M, A := w.x.A.put k 1 }, dir := upd w.dir q (k : Int), st := r }, ?_, ⟨hiv, k6, h.base, h.mark, h.is, h.dir, k7.trans h.n, h.f, fun j hj => ?_, h.tbl, h.b, h.sl, h.seq, ?_, S', er, hS⟩, rfl, rfl, ?_, ?_, fun j hj => ?_⟩
   ·unfold AW.step;rw [hw];simp only [h6, k4, hd, if_true]
   ·have hj : w.x.sh j = true := hj;simp only;rw [k9, if_neg (hne j (h.inv.s1 j hj))];exact h.now j hj
   ·have := h.inv.ok.A.l1;simp only [upd];split
    ·omega
    ·exact h.d7
   ·simp only; omega
   ·simp only; omega
   ·simp only;rw [k9, if_neg (hne j hj)]
 obtain ⟨c, n⟩ := p;have hk := hp.k;simp only at hk
 match c, hp, memo, wrt with
 | 0, hp, memo, _ =>
  left;have := hp.l rfl;obtain ⟨g1, g2, g3⟩ := wb h.on (i := n) this.1 (by rw [h.n]; exact this.2);exact memo _ (ok.M.stepped.flushed _ _) g2 rfl (by show w.x.M.count + 1 ≤ _; omega) g3 (by unfold AW.doStep; simp only [g1]) rfl
 | 1, hp, _, wrt =>
  have := hp.f rfl;simp only at this;exact wrt _ n.toNat (tR _ _) (by omega) rfl rfl
 | 2, _, _, wrt => exact wrt _ 7 (t5 _) (by decide) rfl rfl
 | 3, _, memo, _ =>
  left;obtain ⟨g1, g2, g3⟩ := Am h.on;obtain ⟨o1, o2, o3⟩ := AV ok.M;exact memo _ o1 g2 o2 (by omega) g3 (by unfold AW.doStep; simp only [g1]) rfl
theorem Mid.last {x0 : AS} {b : Sup} {sl seq : Int} {w : AW} (h : Mid x0 b sl seq w) (hB : BX b sl seq) {p : Nat × Int} (hw : w.st = [p]) :
 ∃ M : AM, w.step = ({ w with x := (AS.commit { w.x with M := M } w.dir).1, b := w.nextB, slot := 1 - w.slot, st := [] }, true, 0) ∧ M.Ok ∧ M.On ∧ M.n = w.x.M.n ∧ M.count ≤ w.x.M.count + 12 ∧ ∀ j, 2 ≤ j → M.now j = w.x.M.now j := by
 obtain ⟨S, e1, e2⟩ := h.st;have hp : p = (4, 0) := by
  rw [e1] at hw;cases S with
  | nil => simp only [List.nil_append, List.cons.injEq, and_true] at hw; exact hw.symm
  | cons a S' => simp at hw
 have hs := hB.s;have hs' := h.sl;obtain ⟨s, hs1, hs2⟩ : ∃ s : Nat, 1 - w.slot = (s : Int) ∧ (s = 0 ∨ s = 1) := by
  rcases hs with e | e
  ·exact ⟨1, by omega, .inr rfl⟩
  ·exact ⟨0, by omega, .inl rfl⟩
 have hbo : w.nextB.ok = true := by
  have := hB.g;have := hB.c;have := hB.q;have hd := h.d7;have hb := h.b;have hq := h.seq;unfold AW.nextB Sup.ok win;simp only [hb, hq, Bool.and_eq_true, decide_eq_true_eq];omega
 obtain ⟨f1, f2, f3, f4, f5, f6⟩ := PC h.inv.ok.M h.on hs2 hbo;rw [← hs1] at f1 f2 f3 f4 f5 f6;refine ⟨(w.x.M.wrs (1 - w.slot) w.nextB).1, ?_, f2, f3, f4, f5, fun j hj => f6 j (by omega)⟩;have hdo : w.doStep p = w.commit := by rw [hp]; rfl
 have hcm : w.commit = ({ w with x := (AS.commit { w.x with M := (w.x.M.wrs (1 - w.slot) w.nextB).1 } w.dir).1, b := w.nextB, slot := 1 - w.slot }, 0) := by
  unfold AW.commit;rw [if_neg (by simp [f1])]
 unfold AW.step;rw [hw];simp only [hdo, hcm, if_true, decide_true]
end Go.Proofs.YtmimfopnhmmlbaaGreatDoor
namespace Go.Proofs.YtmimfopnhmmlbaaGreatDoor
open Go.Ab
theorem qz {t : Nat → Ent} {old : Nat → Bool} : ∀ {n : Nat} {p : Nat × Int}, p ∈ aG t old n → p.1 = 0 ∧ ∃ i, i < n ∧ (t i).kind ≠ 0 ∧ p.2 = (t i).line
 | 0, p, h => by cases h
 | n + 1, p, h => by
  simp only [aG] at h;split at h
  ·rename_i hc;rcases List.mem_append.1 h with h | h
   ·obtain ⟨h1, i, h2, h3⟩ := qz h;exact ⟨h1, i, by omega, h3⟩
   ·rw [List.mem_singleton.1 h];exact ⟨rfl, n, by omega, hc.1, rfl⟩
  ·obtain ⟨h1, i, h2, h3⟩ := qz h;exact ⟨h1, i, by omega, h3⟩
theorem xI {t : Nat → Ent} {f : Nat → Bool} : ∀ n, n ≤ 49 → aG t (au t f 49) n = []
 | 0, _ => rfl
 | n + 1, h => by
  simp only [aG];rw [xI n (by omega), if_neg];rintro ⟨h1, h2⟩;rw [DW (show n < 49 by omega) h1] at h2;cases h2
theorem AZ {t : Nat → Ent} : ∀ n, bH t t n = []
 | 0 => rfl
 | n + 1 => by
  have : rX t t n = false := by
   unfold rX;rw [yS.2 fun _ _ => rfl]; rfl
  simp only [bH, this];exact AZ n
def wrS : List (Nat × Int) → Nat
 | [] => 0
 | p :: l => wrN p + wrS l
theorem yy : ∀ l l' : List (Nat × Int), wrS (l ++ l') = wrS l + wrS l'
 | [], l' => by simp [wrS]
 | p :: l, l' => by simp only [List.cons_append, wrS, yy l l']; omega
theorem Aw : ∀ {l : List (Nat × Int)}, (∀ p ∈ l, p.1 = 0) → wrS l = 0
 | [], _ => rfl
 | p :: l, h => by
  simp only [wrS];rw [Aw fun q hq => h q (List.mem_cons_of_mem _ hq)];have := h p List.mem_cons_self;simp [wrN, this]
theorem G9 : ∀ l : List (Nat × Int), wrS l ≤ l.length
 | [] => Nat.le_refl _
 | p :: l => by
  have := G9 l;simp only [wrS, wrN, List.length_cons];split <;> omega
theorem Iv {w : AW} (h : Inv w.x) (on : w.x.M.On) (hi : w.x.is = false) (hs : w.st = []) (hf : w.x.A.f = 10) {seq : Int} (hB : BX w.b w.slot seq) (hd : 0 ≤ w.x.dir 7 ∧ w.x.dir 7 ≤ 1023) :
 w.begin seq = (w.begun seq, 0) ∧ Mid w.x w.b w.slot seq (w.begun seq) ∧ (w.begun seq).st.length ≤ 59 ∧ wrS (w.begun seq).st ≤ 8 ∧ (w.begun seq).x.work = w.x.work ∧ (w.begun seq).x.A = w.x.A ∧ (w.begun seq).x.M = w.x.M := by
 obtain ⟨m1, m2, m3, m4⟩ := Fb h hi;have hg := hB.g;have hq := hB.q;have hfl := jR w.x.work (au w.x.base (fun _ => false) 49) 49;have hdl := ms w.x.work w.x.base 7;have hx : (w.begun seq).x = { w.x with mark := w.x.work, is := true } := by unfold AW.begun; simp only; rw [m1]
 have hst : (w.begun seq).st = aG w.x.work (au w.x.base (fun _ => false) 49) 49 ++ (bH w.x.work w.x.base 7).map (fun k => (1, k)) ++ [(2, 0), (3, 0), (4, 0)] := rfl;refine ⟨?_, ⟨by rw [hx]; exact m2, by rw [hx]; exact on, by rw [hx], by rw [hx], by rw [hx], by rw [hx], by rw [hx], by rw [hx]; exact hf, fun j _ => by rw [hx], rfl, rfl, rfl, rfl, hd, aG w.x.work (au w.x.base (fun _ => false) 49) 49 ++ (bH w.x.work w.x.base 7).map (fun k => (1, k)) ++ [(2, 0), (3, 0)], by rw [hst]; simp, fun p hp => ?_⟩, ?_, ?_, by rw [hx], by rw [hx], by rw [hx]⟩
 ·unfold AW.begin;rw [if_neg (by simp [hs]), if_neg (by omega), if_neg (by simp [hi])]
 ·rcases List.mem_append.1 hp with hp | hp
  ·rcases List.mem_append.1 hp with hp | hp
   ·obtain ⟨h1, i, h2, h3, h4⟩ := qz hp;have := h.ok.w.inn i h2 h3;have hl := h.ok.l;exact ⟨by omega, fun _ => by rw [h4]; omega, fun h9 => by omega⟩
   ·obtain ⟨k, h1, rfl⟩ := List.mem_map.1 hp;have := uX w.x.work w.x.base 7 k h1;exact ⟨by simp only; omega, fun h9 => by simp only at h9; omega, fun _ => this⟩
  ·simp only [List.mem_cons, List.not_mem_nil, or_false] at hp;rcases hp with rfl | rfl
   ·exact ⟨by simp only; omega, fun h9 => by simp only at h9; omega, fun h9 => by simp only at h9; omega⟩
   ·exact ⟨by simp only; omega, fun h9 => by simp only at h9; omega, fun h9 => by simp only at h9; omega⟩
 ·rw [hst]; simp; omega
 ·rw [hst, yy, yy, Aw fun p hp => (qz hp).1];have := G9 ((bH w.x.work w.x.base 7).map fun k => ((1 : Nat), k));rw [List.length_map] at this;have : wrS [(2, 0), (3, 0), (4, 0)] = 1 := by decide
  omega
theorem Jy {x : AS} {b : Sup} {sl : Int} : (aw0 x b sl).step = (aw0 x b sl, false, 3) := rfl
theorem OZ {seq : Int} (h : 0 ≤ seq ∧ seq ≤ 1099511627776) : BX b11 0 seq := ⟨by decide, by decide, .inl rfl, h⟩
theorem FQ {hp : List Blk} (L : List Blk) (hG : hp[0]? = some (.ro cT)) : ∃ hp', rf D ij [] ⟨L, hp⟩ = some (.bool true, ⟨L, hp'⟩) ∧ hp <+: hp' := by
 obtain ⟨h1, wk, a, m, fr, A', Fm, e1, W1, I1, _, _, a1, a2, a3, p1, b1⟩ := IC (c := 3) (n := 80) L hG (by omega) (by omega) (by omega);have on0 : (am0 80 (imL 3)).On := Pk _ _;generalize hx0 : as0 (am0 80 (imL 3)) A' (az 3) bM = x0 at *;have xM : x0.M = am0 80 (imL 3) := by rw [← hx0]; rfl
 have xA : x0.A = A' := by rw [← hx0]; rfl
 have xi : x0.is = false := by rw [← hx0]; rfl
 have xw : x0.work = az 3 ∧ x0.base = az 3 ∧ x0.dir = bM := by rw [← hx0]; exact ⟨rfl, rfl, rfl⟩
 have hc0 : x0.M.count = 0 := by rw [xM]; rfl
 obtain ⟨k0, k1, _, _, k4, k5, k6⟩ := Iv (w := aw0 x0 b11 0) I1 (by show x0.M.On; rw [xM]; exact on0) xi rfl (by show x0.A.f = 10; rw [xA]; exact a1) (seq := 0) (OZ (by decide)) (by show 0 ≤ x0.dir 7 ∧ x0.dir 7 ≤ 1023; rw [xw.2.2]; decide);have hst : ((aw0 x0 b11 0).begun 0).st = [(2, 0), (3, 0), (4, 0)] := by
  show aG x0.work (au x0.base (fun _ => false) 49) 49 ++ (bH x0.work x0.base 7).map (fun k => (1, k)) ++ [(2, 0), (3, 0), (4, 0)] = _;rw [xw.1, xw.2.1, xI 49 (Nat.le_refl _), AZ]; rfl
 have hF0 : (aw0 x0 b11 0).Fit := ⟨(by decide : 0 ≤ b11.gen ∧ b11.gen ≤ 1099511627777), .inl rfl, fun p hp => by cases hp⟩;obtain ⟨h2, F2, G2, v2, e2, W2, c2⟩ := om W1 (by show x0.M.count + 12 < _; omega) hF0 L;rw [Jy] at e2 W2;obtain ⟨h3, G3, v3, e3, W3, c3⟩ := rY W2 (-1) L;have hb3 : (aw0 x0 b11 0).begin (-1) = (aw0 x0 b11 0, 1) := by unfold AW.begin aw0; simp
 rw [hb3] at e3 W3;obtain ⟨h4, G4, v4, e4, W4, c4⟩ := rY W3 0 L;rw [k0] at e4 W4;have e5 := pZ W4 L;have hB : BX b11 0 0 := OZ (by decide);have hnl : x0.A.left ≠ 0 := by
  rw [xA];have ok : A'.Ok := by rw [← xA]; exact I1.ok.A
  exact Kk ok (j := 40) (by omega) (by omega) (by rw [a3, if_neg (by omega)])
 obtain ⟨w1, s1, M1, q1, _, t1, n1, _⟩ := (k1.step hst (by simp)).resolve_right fun z => by
  have z1 := z.1;rw [k5] at z1; exact hnl z1
 obtain ⟨h5, F5, G5, v5, e6, W5, c5⟩ := om W4 (by rw [k6]; show x0.M.count + 12 < _; omega) (k1.fit hB) L;rw [s1] at e6 W5;obtain ⟨w2, s2, M2, q2, _, t2, n2, _⟩ := (M1.step q1 (by simp)).resolve_right fun z => absurd z.2.1 (by decide);obtain ⟨h6, F6, G6, v6, e7, W6, c6⟩ := om W5 (by rw [k6] at n1; have : (aw0 x0 b11 0).x.M.count = 0 := hc0; simp only; omega) (M1.fit hB) L;simp only at e7 W6 n1;rw [s2] at e7 W6;obtain ⟨M', s3, _, _, _, _, _⟩ := M2.last hB q2;obtain ⟨h7, F7, G7, v7, e8, W7, c7⟩ := om W6 (by rw [k6] at n1; have : (aw0 x0 b11 0).x.M.count = 0 := hc0; simp only; omega) (M2.fit hB) L;simp only at e8 W7;rw [s3] at e8 W7;have e9 := sV W7 L;have e10 := fun L => pZ W7 L;refine ⟨h7, ?_, ?_⟩
 ·have hg : w2.nextB.gen = 2 := by unfold AW.nextB; simp only; rw [M2.b]; rfl
  have hsl : 1 - w2.slot = 1 := by rw [M2.sl]; rfl
  rw [hst] at e5;simp only [List.length_cons, List.length_nil] at e5 e10;have e1 : rf D c8 [.int .i64 80, .int .i64 3] ⟨L, hp⟩ = some (.tup [.ptr (.hp m) [] 59, .ptr (.hp a) [] 43, .ptr (.hp wk) [] 61], ⟨L, h1⟩) := e1;simp only [Sup.v, hg, hsl] at *;clear W1 W2 W3 W4 W5 W6 W7 M1 M2 k1 c2 c3 c4 c5 c6 c7;rw [aa qV rfl];simp only [go_sem, e1, e2, e3, e4, e5, e6, e7, e8, e9, e10]
 ·have := (((((c2.trans c3).trans c4).trans c5).trans c6).trans c7).pre p1 b1;exact this.1
end Go.Proofs.YtmimfopnhmmlbaaGreatDoor
namespace Go.Proofs.YtmimfopnhmmlbaaGreatDoor
open Go.Ab
structure m7 (f : Int) (n : Nat) (w : List Nat) (S : List Int) : Prop where
 len : (S.length : Int) = n - f
 ok : OkS w
 eq : ∀ k : Nat, k < S.length → S.getD k 0 = if bit w (f.toNat + k) then 0 else 1
theorem m7.st {f : Int} {n : Nat} {w : List Nat} {S : List Int} (h : m7 f n w S) (h0 : 0 ≤ f) (x : Int) : stS f S x = bW f n w (w16 []) x := by
 have hl := h.len;unfold stS bW;by_cases c1 : x < f
 ·rw [if_pos (.inl c1), if_pos (.inl c1)]
 ·by_cases c2 : (n : Int) ≤ x
  ·rw [if_pos (.inr (by omega)), if_pos (.inr c2)]
  ·rw [if_neg (by omega), if_neg (by omega), h.eq _ (by omega), ru];have : f.toNat + (x - f).toNat = x.toNat := by omega
   rw [this]; simp
theorem m7.take {f : Int} {n : Nat} {w : List Nat} {S : List Int} (h : m7 f n w S) (h0 : 0 ≤ f) (h1 : n ≤ 1024) {x : Int} (hx : bW f n w (w16 []) x = 0) : m7 f n (flip w x.toNat) (S.set (x - f).toNat 1) := by
 have hl := h.len;have hr := pN (show bW f n w (w16 []) x ≠ -1 by rw [hx]; decide);have hb : bit w x.toNat = true := by
  unfold bW at hx;rw [if_neg (by omega), ru] at hx;split at hx
  ·assumption
  ·simp at hx
 refine ⟨by rw [List.length_set]; exact hl, h.ok.flip (by omega), fun k hk => ?_⟩;rw [List.length_set] at hk;rw [zm (by omega), wt h.ok (by omega)];by_cases e : (x - f).toNat = k
 ·have : x.toNat = f.toNat + k := by omega
  rw [if_pos e, ← this, hb]; simp
 ·have : ¬ x.toNat = f.toNat + k := by omega
  rw [if_neg e, h.eq k hk]; simp [this]
structure InI (ls : List Int) : Prop where
 lt : ∀ x ∈ ls, x ≤ 9223372036854775807
theorem Ob (d : Nat → Int) : tab 8 (fun i => V.int .i64 (d i)) = (du d 0 8).map (.int .i64) := rfl
theorem FE (L H : List Blk) (P6 P7 P0 v12 : V) (b c : Nat) (f : Int) (n : Nat) (ls : List Int) (h0 : 0 ≤ f) (h1 : n ≤ 1024) (w0 : List Nat) (S0 : List Int) (hA : m7 f n w0 S0) (base : Nat)
 (hH : Rf ⟨L, H⟩ b c f S0) (hv : ∀ k, k < ls.length → fY 10 v12 (.int .i64 (k : Int)) = some (elp v12 k) ∧ (∀ H', ldv ⟨L, H'⟩ 10 (elp v12 k) = some (.int .i64 (ls.getD k 0)))) (hsl : V.slen false v12 = some ls.length) (hls : InI ls)
 (hll : ls.length < 1000) (hs6 : fa base L.length [(0, P0), (6, P6), (7, P7), (10, .ptr (.hp b) [] 21), (12, v12), (13, .int .i64 0)] ⟨L, []⟩ = true) :
 ∃ r, rc D base (.loop [0, 6, 7, 10, 12, 13] dh) [(0, P0), (6, P6), (7, P7), (10, .ptr (.hp b) [] 21), (12, v12), (13, .int .i64 0)] ⟨L, H⟩ = some r ∧
  ((bv f n ls w0 = none ∧ ∃ S' : List Int, r = (.ret, [(8, .nilp), (9, .int .i64 21)], ⟨L, H.set c (.rw (.agg 38 (S'.map (.int .i64))))⟩)) ∨
   (∃ (w : List Nat) (S' : List Int), bv f n ls w0 = some w ∧ m7 f n w S' ∧ r = (.exit 0, [(0, P0), (6, P6), (7, P7), (10, .ptr (.hp b) [] 21), (12, v12), (13, .int .i64 ls.length), (33, .bool false)], ⟨L, H.set c (.rw (.agg 38 (S'.map (.int .i64))))⟩))) := by
 have hc := (List.getElem?_eq_some_iff.1 hH.sb).1;have hlen0 := hA.len;refine gI (fun x : Nat × List Nat × List Int => [(0, P0), (6, P6), (7, P7), (10, .ptr (.hp b) [] 21), (12, v12), (13, .int .i64 x.1)]) (fun x => ⟨L, H.set c (.rw (.agg 38 (x.2.2.map (.int .i64))))⟩) _ (fun x => ls.length - x.1)
  (fun x => x.1 ≤ ls.length ∧ m7 f n x.2.1 x.2.2 ∧ bv f n ls w0 = bv f n (ls.drop x.1) x.2.1) (0, w0, S0) ?_ ⟨by simp only; omega, hA, rfl⟩ rfl (by simp only; rw [qf hH.sb])
 rintro ⟨i, w, S⟩ ⟨hi, hal, htk⟩;simp only at hi hal htk;have hbc : b ≠ c := by
  intro e;subst e;have := hH.rb.symm.trans hH.sb;simp [rfV] at this
 have hlen := hal.len;have hR : Rf ⟨L, H.set c (.rw (.agg 38 (S.map (.int .i64))))⟩ b c f S := ⟨by rw [List.getElem?_set_ne (Ne.symm hbc)]; have := hH.rb; rw [show S.length = S0.length by omega]; exact this, List.getElem?_set_self hc, h0, by omega⟩;simp only [fa, List.all_cons, List.all_nil, Bool.and_true, Bool.and_eq_true, decide_eq_true_eq] at hs6;obtain ⟨⟨_, g1, g2, g3, _, g5, _⟩, g7⟩ := hs6;rw [List.take_length] at g7;by_cases c1 : i < ls.length
 ·obtain ⟨q1, q2⟩ := hv i c1;have d1 : (i : Int) < ls.length := by omega
  have d4 : IntKind.i64.wrap ((i : Int) + 1) = (i : Int) + 1 := ag (by omega) (by omega);have hx : ls.drop i = ls.getD i 0 :: ls.drop (i + 1) := by
   rw [List.getD_eq_getElem?_getD, List.getElem?_eq_getElem c1, Option.getD_some];exact List.drop_eq_getElem_cons c1
  rw [hx] at htk;simp only [bv] at htk;have hxi := hls.lt _ (BU c1 0);generalize ls.getD i 0 = x at *;have hst := hal.st h0 x;have r1 := J9 hR x hxi;rw [ob hR x hxi 0 1, hst] at r1;by_cases hz : bW f n w (w16 []) x = 0
  ·left;rw [if_pos hz] at htk;rw [hz] at r1;simp only [show ¬ ((0 : Int) < 0) by decide, if_false, ne_eq, not_true_eq_false, List.set_set] at r1;refine ⟨(i + 1, flip w x.toNat, S.set (x - f).toNat 1), ⟨by simp only; omega, hal.take h0 h1 hz, htk⟩, by simp only; omega, ?_⟩;simp only;generalize S.set (x - f).toNat 1 = S2 at *;simp only [go_sem, dh, hsl, d1, q1, q2, r1, d4, g1, g2, g3, g5, g7];rfl
  ·right;rw [if_neg hz] at htk;have hr : rf D bG [.ptr (.hp b) [] 21, .int .i64 x] ⟨L, H.set c (.rw (.agg 38 (S.map (.int .i64))))⟩ = some (.int .i64 1, ⟨L, H.set c (.rw (.agg 38 (S.map (.int .i64))))⟩) ∨
    rf D bG [.ptr (.hp b) [] 21, .int .i64 x] ⟨L, H.set c (.rw (.agg 38 (S.map (.int .i64))))⟩ = some (.int .i64 3, ⟨L, H.set c (.rw (.agg 38 (S.map (.int .i64))))⟩) := by
    rw [r1];by_cases hn : bW f n w (w16 []) x < 0
    ·left; rw [if_pos hn]
    ·right; rw [if_neg hn, if_pos hz]
   refine ⟨_, ?_, .inl ⟨htk, S, rfl⟩⟩;rcases hr with hr | hr <;> simp only [go_sem, dh, hsl, d1, q1, q2, hr]
 ·right;have : i = ls.length := by omega
  subst this;have d1 : ¬ ((ls.length : Nat) : Int) < ls.length := by omega
  refine ⟨_, ?_, .inr ⟨w, S, by rw [htk, List.drop_length]; rfl, hal, rfl⟩⟩;simp only [go_sem, dh, hsl, d1]
structure aW where
 m : Nat
 fr : Nat
 work : Nat → Ent
 base : Nat → Ent
 dir : Nat → Int
 mark : Nat → Ent
 marked : Bool
def aW.v (x : aW) : V := .agg 31 [.ptr (.hp x.m) [] 33, .ptr (.hp x.fr) [] 21, ab x.work, ab x.base, ao x.dir, ab x.mark, .bool x.marked]
theorem qb (d : Nat → Int) : (du d 0 8).length = 8 := rfl
theorem yF {ls : List Int} {k : Nat} (h : k < ls.length) : (ls.map (V.int .i64))[k]? = some (.int .i64 (ls.getD k 0)) := aK h 0
theorem MI (L0 H : List Blk) (t d : V) (dd : Nat → Int) (hd : d = ao dd) {X : List Blk} {v : V} {l1 : List Int} (h : Apd H X v l1) (hl1 : l1.length ≤ 49) {base : Nat} :
 ∃ X', X'.length = X.length ∧ ay base false 38 10 v (.sl (.loc (L0.length + 1)) [] 0 8 (some 8) 10) ⟨L0 ++ [.rw t, .rw d], H ++ X⟩ =
  some (.sl (.loc (L0.length + 2)) [] 0 (l1 ++ du dd 0 8).length none 10, ⟨L0 ++ [.rw t, .rw d, .rw (.agg 38 ((l1 ++ du dd 0 8).map (.int .i64)))], H ++ X'⟩) := by
 subst hd;have hy : St.elems ⟨L0 ++ [.rw t, .rw (ao dd)], H ++ X⟩ (.sl (.loc (L0.length + 1)) [] 0 8 (some 8) 10) = some ((du dd 0 8).map (.int .i64)) :=
  aV (t := 50) (by simp only [go_sem, ao, Ob]) rfl
 have hne : (du dd 0 8).map (V.int .i64) ≠ [] := by intro h; cases h
 have hx := h.elems (loc := L0 ++ [.rw t, .rw (ao dd)]);rcases h.at' with ⟨rfl, rfl⟩ | ⟨Y, rfl, rfl⟩
 ·refine ⟨X, rfl, ?_⟩;rw [BN (.inr ⟨_, _, _, _, _, rfl⟩) hy hne (by simp [qb, be]) rfl];simp only [go_sem];simp
 ·refine ⟨Y ++ [.dead], by simp, ?_⟩;have e2 : St.at ⟨L0 ++ [.rw t, .rw (ao dd)], H ++ (Y ++ [.rw (.agg 38 (l1.map (.int .i64)))])⟩ (.hp (H.length + Y.length)) = some (.rw (.agg 38 (l1.map (.int .i64)))) := by
   rw [← List.append_assoc, ← List.length_append]; simp [St.at]
  rw [Eb (.inr ⟨_, _, _, _, _, rfl⟩) hx hy hne (by simp [qb, be]; omega) rfl e2];have e3 : (St.set ⟨L0 ++ [.rw t, .rw (ao dd)], H ++ (Y ++ [.rw (.agg 38 (l1.map (.int .i64)))])⟩ (.hp (H.length + Y.length)) .dead) = ⟨L0 ++ [.rw t, .rw (ao dd)], H ++ (Y ++ [.dead])⟩ := by
   simp only [St.set];rw [← List.append_assoc, ← List.length_append, List.set_append_right _ _ (Nat.le_refl _)];simp
  rw [e3];simp only [go_sem];simp
theorem Oo {f : Int} {n : Nat} {w0 : List Nat} (h0 : 0 ≤ f) (h1 : f ≤ n) (h2 : n ≤ 1024) (hok : OkS w0) (hbit : ∀ j : Nat, j < 1024 → bit w0 j = (decide (f ≤ j) && decide ((j : Int) < n))) : m7 f n w0 (List.replicate (n - f).toNat 0) := by
 refine ⟨by rw [List.length_replicate]; omega, hok, fun k hk => ?_⟩;rw [List.length_replicate] at hk;rw [hbit _ (by omega)];have e1 : decide (f ≤ ((f.toNat + k : Nat) : Int)) = true := decide_eq_true (by omega);have e2 : decide (((f.toNat + k : Nat) : Int) < n) = true := decide_eq_true (by omega);rw [e1, e2];simp [List.getD_eq_getElem?_getD, hk]
theorem CJ {m k k2 n : Nat} {off : Bool} {left count : Int} (s : St) (hm : s.hp[m]? = some (.rw (rmV k n k2 off left count))) (f : Int) (h0 : 0 ≤ f) (h1 : f ≤ n) (h2 : n ≤ 1024) (t : Nat → Ent) (d : Nat → Int) (hI : InI (cA t d))
 (w0 : List Nat) (hok0 : OkS w0) (hbit0 : ∀ j : Nat, j < 1024 → bit w0 j = (decide (f ≤ j) && decide ((j : Int) < n))) :
 (bv f n (cA t d) w0 = none ∧ ∃ more, rf D bC [.ptr (.hp m) [] 33, .int .i64 f, ab t, ao d] s = some (.tup [.nilp, .int .i64 21], ⟨s.loc, s.hp ++ more⟩)) ∨
 (∃ (w : List Nat) (S : List Int) (X : List Blk), bv f n (cA t d) w0 = some w ∧ m7 f n w S ∧ rf D bC [.ptr (.hp m) [] 33, .int .i64 f, ab t, ao d] s = some (.tup [.ptr (.hp (s.hp.length + 2 + X.length)) [] 31, .int .i64 0],
  ⟨s.loc, s.hp ++ ([.rw (.agg 38 (S.map (.int .i64))), .rw (rfV f s.hp.length S.length)] ++ X ++ [.rw (aW.v ⟨m, s.hp.length + 1, t, t, d, fun _ => bE, false⟩)])⟩)) := by
 have hA := Oo h0 h1 h2 hok0 hbit0;have hnew := fun L => Fj f n h0 h1 (by omega) ⟨s.loc ++ L, s.hp⟩;have hrl : (List.replicate ((n : Int) - f).toNat (V.int .i64 0)) = (List.replicate ((n : Int) - f).toNat (0 : Int)).map (.int .i64) := by rw [List.map_replicate]
 rw [hrl] at hnew;have hlr : (List.replicate ((n : Int) - f).toNat (0 : Int)).length = ((n : Int) - f).toNat := List.length_replicate;generalize List.replicate ((n : Int) - f).toNat (0 : Int) = S0 at *;rw [← hlr] at hnew;obtain ⟨X, v, hap, hlines⟩ := oN t ⟨s.loc ++ [.rw (ab t), .rw (ao d)], s.hp ++ [.rw (.agg 38 (S0.map (.int .i64))), .rw (rfV f s.hp.length S0.length)]⟩;simp only at hap hlines;have hll := jz t 49 0;obtain ⟨X', hX', happ⟩ := MI (base := s.loc.length) s.loc _ (ab t) (ao d) d rfl hap hll;have hal : (aF t 0 49 ++ du d 0 8).length ≤ 57 := by rw [List.length_append, qb]; omega
 simp only [cA] at hI ⊢;generalize hls : aF t 0 49 ++ du d 0 8 = ls at *;obtain ⟨r, e, q⟩ := FE (s.loc ++ [.rw (ab t), .rw (ao d), .rw (.agg 38 (ls.map (.int .i64)))]) (s.hp ++ [.rw (.agg 38 (S0.map (.int .i64))), .rw (rfV f s.hp.length S0.length)] ++ X')
  (.ptr (.loc s.loc.length) [] 48) (.ptr (.loc (s.loc.length + 1)) [] 50) (.ptr (.hp m) [] 33) (.sl (.loc (s.loc.length + 2)) [] 0 ls.length none 10) (s.hp.length + 1) s.hp.length f n ls h0 h2 w0 S0 hA s.loc.length
  ⟨by simp, by simp, h0, by have := hA.len; omega⟩
  (fun k hk => ⟨by simp [fY, elp, hk], fun H' => by simp only [elp, go_sem, Nat.zero_add, yF hk]⟩) rfl hI (by omega) (by simp only [ab, ao]; simp only [go_sem]; simp)
 have z1 : V.agg 48 (List.replicate 49 (.agg 42 [.int .i64 0, .int .i64 0, .int .i64 0])) = ab fun _ => bE := by rw [dk]; rfl
 have hset : ∀ b : Blk, (s.hp ++ [Blk.rw (.agg 38 (S0.map (.int .i64))), Blk.rw (rfV f s.hp.length S0.length)] ++ X').set s.hp.length b = s.hp ++ ([b, Blk.rw (rfV f s.hp.length S0.length)] ++ X') := by
  intro b;rw [List.append_assoc, List.set_append_right _ _ (Nat.le_refl _)];simp
 rcases q with ⟨hn, S', rfl⟩ | ⟨w, S', hw, hal', rfl⟩
 ·left;refine ⟨hn, [.rw (.agg 38 (S'.map (.int .i64))), .rw (rfV f s.hp.length S0.length)] ++ X', ?_⟩;rw [hset] at e;rw [aa j9 rfl];simp only [rmV, ab, ao, rfV] at *;simp only [go_sem] at *;simp only [go_sem, hm, hnew, hlines, happ, e]
 ·right;have hSS : S'.length = S0.length := by have := hal'.len; have := hA.len; omega
  refine ⟨w, S', X', hw, hal', ?_⟩;rw [hset] at e;rw [aa j9 rfl, hSS];simp only [rmV, ab, ao, rfV, aW.v] at *;simp only [go_sem] at *;simp only [go_sem, hm, hnew, hlines, happ, z1, e];rw [show s.hp.length + (X'.length + 1 + 1) = s.hp.length + 2 + X'.length by omega]
end Go.Proofs.YtmimfopnhmmlbaaGreatDoor
namespace Go.Proofs.YtmimfopnhmmlbaaGreatDoor
open Go.Ab
structure FrQ (hp : List Blk) (b c : Nat) (A : AF) : Prop where
 ok : A.Ok
 ne : b ≠ c
 row : ∃ S : List Int, hp[b]? = some (.rw (rfV A.f c S.length)) ∧ hp[c]? = some (.rw (.agg 38 (S.map (.int .i64)))) ∧ S.length = A.l - A.f ∧ ∀ k, k < S.length → S.getD k 0 = A.st (A.f + k)
def FtQ (b c : Nat) : Ft := fun j => j = b ∨ j = c
theorem FrQ.eqv {hp hp' : List Blk} {b c : Nat} {A : AF} (h : FrQ hp b c A) (he : Eqv hp hp' (FtQ b c)) : FrQ hp' b c A := by
 obtain ⟨S, h1, h2, h3⟩ := h.row;exact ⟨h.ok, h.ne, S, by rw [he b (.inl rfl)]; exact h1, by rw [he c (.inr rfl)]; exact h2, h3⟩
theorem FrQ.inn {hp : List Blk} {b c : Nat} {A : AF} (h : FrQ hp b c A) : Inn hp (FtQ b c) := by
 obtain ⟨S, h1, h2, h3⟩ := h.row;rintro j (rfl | rfl)
 ·exact af h1
 ·exact af h2
theorem FrQ.rf {hp : List Blk} {b c : Nat} {A : AF} (h : FrQ hp b c A) : ∃ S : List Int, (∀ L, Rf ⟨L, hp⟩ b c A.f S) ∧ S.length = A.l - A.f ∧ (∀ k, k < S.length → S.getD k 0 = A.st (A.f + k)) ∧ ∀ line, stS A.f S line = A.state line := by
 obtain ⟨S, h1, h2, h3, h4⟩ := h.row;have hl := h.ok.l1;have hfl := h.ok.fl;refine ⟨S, fun L => ⟨h1, h2, by omega, by omega⟩, h3, h4, fun line => ?_⟩;unfold stS AF.state;by_cases c1 : line < A.f ∨ (A.l : Int) ≤ line
 ·rw [if_pos (by omega), if_pos c1]
 ·rw [if_neg (by omega), if_neg c1, h4 _ (by omega)];congr 1; omega
theorem FrQ.set {hp : List Blk} {b c : Nat} {A : AF} (h : FrQ hp b c A) {S : List Int} (h1 : ∀ L, Rf ⟨L, hp⟩ b c A.f S) (h3 : S.length = A.l - A.f) (h4 : ∀ k, k < S.length → S.getD k 0 = A.st (A.f + k)) {k : Nat} (hk : k < S.length) {y : Int} (hy : y = 0 ∨ y = 1 ∨ y = 2) :
 FrQ (hp.set c (.rw (.agg 38 ((S.set k y).map (.int .i64))))) b c (A.put (A.f + k) y) ∧ Chg hp (hp.set c (.rw (.agg 38 ((S.set k y).map (.int .i64))))) (FtQ b c) (FtQ b c) := by
 have hb := (h1 []).rb;have hc := (h1 []).sb;refine ⟨⟨h.ok.put hy, h.ne, S.set k y, ?_, List.getElem?_set_self (af hc), by rw [List.length_set]; exact h3, fun j hj => ?_⟩, cR.mono (fun _ h => .inr h) fun _ => .inr⟩
 ·rw [List.getElem?_set_ne (Ne.symm h.ne), List.length_set]; exact hb
 ·rw [List.length_set] at hj;rw [zm hk];simp only [AF.put];by_cases e : k = j
  ·subst e; rw [if_pos rfl, aq]
  ·rw [if_neg e, aB (by omega)]; exact h4 j hj
theorem Fa {hp : List Blk} {b c : Nat} {A : AF} (h : FrQ hp b c A) (line : Int) (hl : line ≤ 9223372036854775807) (x y : Int) (hx : 0 ≤ x) (hy : y = 0 ∨ y = 1 ∨ y = 2) (L : List Blk) :
 ∃ hp', rf D bc [.ptr (.hp b) [] 21, .int .i64 line, .int .i64 x, .int .i64 y] ⟨L, hp⟩ = some (.int .i64 (A.turn line x y).2, ⟨L, hp'⟩) ∧ FrQ hp' b c (A.turn line x y).1 ∧ Chg hp hp' (FtQ b c) (FtQ b c) := by
 obtain ⟨S, h1, h2, h3, h4⟩ := h.rf;have e := ob (h1 L) line hl x y;rw [h4] at e;unfold AF.turn;by_cases c1 : A.state line < 0
 ·rw [if_pos c1] at e ⊢;exact ⟨hp, e, h, .refl _ _⟩
 ·rw [if_neg c1] at e ⊢;by_cases c2 : A.state line ≠ x
  ·rw [if_pos c2] at e ⊢;exact ⟨hp, e, h, .refl _ _⟩
  ·rw [if_neg c2] at e ⊢;have hr : (A.f : Int) ≤ line ∧ line < A.l := by
    unfold AF.state at c1;split at c1 <;> omega
   obtain ⟨q1, q2⟩ := h.set h1 h2 h3 (k := (line - A.f).toNat) (by omega) hy;rw [show A.f + (line - A.f).toNat = line.toNat by omega] at q1;exact ⟨_, e, q1, q2⟩
theorem xL {hp : List Blk} {b c : Nat} {A : AF} (h : FrQ hp b c A) (line : Int) (hl : line ≤ 9223372036854775807) (L : List Blk) :
 ∃ hp', rf D cE [.ptr (.hp b) [] 21, .int .i64 line] ⟨L, hp⟩ = some (.int .i64 (A.turn line 1 0).2, ⟨L, hp'⟩) ∧ FrQ hp' b c (A.turn line 1 0).1 ∧ Chg hp hp' (FtQ b c) (FtQ b c) := by
 obtain ⟨S, h1, _⟩ := h.rf;rw [K2 (h1 L) line hl];exact Fa h line hl 1 0 (by decide) (.inl rfl) L
theorem GH {A : AF} {S : List Int} (h4 : ∀ k, k < S.length → S.getD k 0 = A.st (A.f + k)) : ∀ n, n ≤ S.length → nz S n = A.cnt A.f n
 | 0, _ => rfl
 | n + 1, hn => by
  have key : ∀ m i, A.cnt i (m + 1) = A.cnt i m + if A.st (i + m) = 0 then 1 else 0 := by
   intro m
   induction m with
   | zero => intro i; simp [AF.cnt]
   | succ m ih =>
    intro i;rw [AF.cnt, ih (i + 1), AF.cnt, show i + 1 + m = i + (m + 1) by omega]; omega
  rw [key, nz, GH h4 n (by omega), h4 n (by omega)]
theorem xk {hp : List Blk} {b c : Nat} {A : AF} (h : FrQ hp b c A) (L : List Blk) : rf D cJ [.ptr (.hp b) [] 21] ⟨L, hp⟩ = some (.int .i64 A.left, ⟨L, hp⟩) := by
 obtain ⟨S, h1, h2, h3, _⟩ := h.rf;rw [JY (h1 L), GH h3 _ (Nat.le_refl _), h2];rfl
theorem tA {A : AF} : ∀ {n i k : Nat}, i ≤ k → k < i + n → A.st k = 0 → (∀ j, i ≤ j → j < k → A.st j ≠ 0) → A.firstFrom i n = some k
 | 0, i, k, h1, h2, _, _ => by omega
 | n + 1, i, k, h1, h2, h3, h4 => by
  simp only [AF.firstFrom];by_cases e : i = k
  ·subst e; rw [if_pos h3]
  ·rw [if_neg (h4 i (Nat.le_refl _) (by omega))];exact tA (by omega) (by omega) h3 fun j hj => h4 j (by omega)
theorem tV {A : AF} : ∀ {n i : Nat}, (∀ j, i ≤ j → j < i + n → A.st j ≠ 0) → A.firstFrom i n = none
 | 0, i, _ => rfl
 | n + 1, i, h => by
  simp only [AF.firstFrom];rw [if_neg (h i (Nat.le_refl _) (by omega))];exact tV fun j hj hj2 => h j (by omega) (by omega)
theorem vK {hp : List Blk} {b c : Nat} {A : AF} (h : FrQ hp b c A) (L : List Blk) :
 ∃ hp', rf D bA [.ptr (.hp b) [] 21] ⟨L, hp⟩ = some (.tup [.int .i64 A.alloc.2.1, .int .i64 A.alloc.2.2], ⟨L, hp'⟩) ∧ FrQ hp' b c A.alloc.1 ∧ Chg hp hp' (FtQ b c) (FtQ b c) := by
 obtain ⟨S, h1, h2, h3, _⟩ := h.rf;have hfl := h.ok.fl;rcases GQ (h1 L) with ⟨k, g1, g2, g3, e⟩ | ⟨g, e⟩
 ·have hf : A.first = some (A.f + k) := tA (by omega) (by omega) (by rw [← h3 k g1]; exact g2) fun j j1 j2 => by
   have := g3 (j - A.f) (by omega);rw [h3 _ (by omega), show A.f + (j - A.f) = j by omega] at this;exact this
  have ha : A.alloc = (A.put (A.f + k) 1, ((A.f + k : Nat) : Int), 0) := by unfold AF.alloc; rw [hf]
  rw [ha];obtain ⟨q1, q2⟩ := h.set h1 h2 h3 g1 (.inr (.inl rfl));refine ⟨_, ?_, q1, q2⟩;rw [e];simp
 ·have hf : A.first = none := tV fun j j1 j2 => by
   have := g (j - A.f) (by omega);rw [h3 _ (by omega), show A.f + (j - A.f) = j by omega] at this;exact this
  have ha : A.alloc = (A, 0, 10) := by unfold AF.alloc; rw [hf]
  rw [ha];exact ⟨hp, e, h, .refl _ _⟩
end Go.Proofs.YtmimfopnhmmlbaaGreatDoor
namespace Go.Proofs.YtmimfopnhmmlbaaGreatDoor
open Go.Ab
def AS.r (x : AS) (m fr : Nat) : aW := ⟨m, fr, x.work, x.base, x.dir, x.mark, x.is⟩
theorem wP {m k k2 n : Nat} {off : Bool} {left count : Int} (s : St) (hm : s.hp[m]? = some (.rw (rmV k n k2 off left count))) (f : Int) (h : f < 0 ∨ (n : Int) < f ∨ 1024 < n) (t : Nat → Ent) (d : Nat → Int) :
 rf D bC [.ptr (.hp m) [] 33, .int .i64 f, ab t, ao d] s = some (.tup [.nilp, .int .i64 1], s) := by
 have hnew := fun L => CP f n (by omega) ⟨s.loc ++ L, s.hp⟩;rw [aa j9 rfl];simp only [rmV, ab, ao] at *;simp only [go_sem, hm, hnew]
theorem KL {f n : Nat} (hf : f ≤ n) (hn : n ≤ 1024) {w : List Nat} {S : List Int} (h : m7 f n w S) {A : AF} (hA : qe A w) (h1 : A.f = f) (h2 : A.l = n) : S.length = A.l - A.f ∧ ∀ k, k < S.length → S.getD k 0 = A.st (A.f + k) := by
 have hl := h.len;have hl' : S.length = A.l - A.f := by rw [h1, h2]; omega
 refine ⟨hl', fun k hk => ?_⟩;rw [h.eq k hk, h1, Int.toNat_natCast];rw [hA.bits _ (by omega)];have hr : A.inr (f + k) = true := fX.2 (by omega);rw [hr, Bool.true_and];rcases hA.two (f + k) with e | e <;> simp [e]
theorem Ke {m k k2 n : Nat} {off : Bool} {left count : Int} {hp : List Blk} (L : List Blk) (hn : n ≤ 1024) (hm : hp[m]? = some (.rw (rmV k n k2 off left count))) (from' : Int) (t : Nat → Ent) (d : Nat → Int) (hI : InI (cA t d)) :
 ((from' < 0 ∨ (n : Int) < from') ∧ rf D bC [.ptr (.hp m) [] 33, .int .i64 from', ab t, ao d] ⟨L, hp⟩ = some (.tup [.nilp, .int .i64 1], ⟨L, hp⟩)) ∨
 (0 ≤ from' ∧ from' ≤ n ∧ (af0 from'.toNat n).takes (cA t d) = none ∧ ∃ more, rf D bC [.ptr (.hp m) [] 33, .int .i64 from', ab t, ao d] ⟨L, hp⟩ = some (.tup [.nilp, .int .i64 21], ⟨L, hp ++ more⟩)) ∨
 (0 ≤ from' ∧ from' ≤ n ∧ ∃ A' more b, (af0 from'.toNat n).takes (cA t d) = some A' ∧ rf D bC [.ptr (.hp m) [] 33, .int .i64 from', ab t, ao d] ⟨L, hp⟩ = some (.tup [.ptr (.hp b) [] 31, .int .i64 0], ⟨L, hp ++ more⟩) ∧
  (hp ++ more)[b]? = some (.rw (aW.v ⟨m, hp.length + 1, t, t, d, fun _ => bE, false⟩)) ∧ FrQ (hp ++ more) (hp.length + 1) hp.length A' ∧ hp.length + 1 < b) := by
 by_cases h0 : from' < 0 ∨ (n : Int) < from'
 ·exact .inl ⟨h0, wP ⟨L, hp⟩ hm from' (by omega) t d⟩
 ·right;obtain ⟨f, rfl⟩ : ∃ f : Nat, from' = f := ⟨from'.toNat, by omega⟩
  rw [Int.toNat_natCast];obtain ⟨w0, ok0, b0, _⟩ := tz f n (by omega) (by omega) (by omega) ⟨L, hp⟩;have hB := LL (f := f) (l := n) (by omega) hn ok0 b0;rcases CJ ⟨L, hp⟩ hm f (by omega) (by omega) hn t d hI w0 ok0 b0 with ⟨hs, more, e⟩ | ⟨w, S, X, hs, hal, e⟩
  ·left;refine ⟨by omega, by omega, ?_, more, e⟩;rcases ma (ls := cA t d) hB with ⟨_, q⟩ | ⟨_, _, q, _⟩
   ·exact q
   ·have : bv f n (cA t d) w0 = some _ := q;rw [hs] at this; cases this
  ·right;refine ⟨by omega, by omega, ?_⟩;rcases ma (ls := cA t d) hB with ⟨q, _⟩ | ⟨w', A', q, q2, q3⟩
   ·have : bv f n (cA t d) w0 = none := q;rw [hs] at this; cases this
   ·have q : bv f n (cA t d) w0 = some w' := q;rw [hs] at q; cases q;obtain ⟨h1, h2, _, _⟩ := nh q2;have h1 : A'.f = f := h1;have h2 : A'.l = n := h2;obtain ⟨g1, g2⟩ := KL (show f ≤ n by omega) hn hal q3 h1 h2;refine ⟨A', _, _, q2, e, ?_, ⟨q3.ok, by omega, S, ?_, ?_, g1, g2⟩, by simp only; omega⟩
    ·simp only;rw [show hp.length + 2 + X.length = hp.length + (2 + X.length) by omega, uW];rw [List.getElem?_append_right (by simp; omega)];simp [show 2 + X.length - (X.length + 1 + 1) = 0 by omega]
    ·rw [uW, h1]; simp
    ·rw [As]; simp
theorem ua : ∀ {l : List V}, (∀ v ∈ l, veq v v = some true) → cg l l = some true
 | [], _ => rfl
 | v :: l, h => by
  simp only [cg, h v List.mem_cons_self];exact ua fun w hw => h w (List.mem_cons_of_mem _ hw)
theorem AT (t : Nat → Ent) : cg (tab 49 fun i => (t i).v) (tab 49 fun i => (t i).v) = some true := ua fun v hv => by
 obtain ⟨i, _, rfl⟩ := List.mem_map.1 hv;simp [Ent.v, veq, cg]
theorem JS (d : Nat → Int) : cg (tab 8 fun i => .int .i64 (d i)) (tab 8 fun i => .int .i64 (d i)) = some true := ua fun v hv => by
 obtain ⟨i, _, rfl⟩ := List.mem_map.1 hv;simp [veq]
theorem qn : ∀ {l : List V}, (∀ v ∈ l, v.flat = true) → V.flats l = true
 | [], _ => by simp [V.flats]
 | v :: l, h => by simp only [V.flats, h v List.mem_cons_self, qn fun w hw => h w (List.mem_cons_of_mem _ hw), Bool.and_self]
theorem Is (t : Nat → Ent) : V.flats (tab 49 fun i => (t i).v) = true := qn fun v hv => by
 obtain ⟨i, _, rfl⟩ := List.mem_map.1 hv;simp [Ent.v, V.flat, V.flats]
end Go.Proofs.YtmimfopnhmmlbaaGreatDoor
namespace Go.Proofs.YtmimfopnhmmlbaaGreatDoor
open Go.Ab
theorem sZ (k v l : Int) (s : St) : rf D i7 [.agg 42 [.int .i64 k, .int .i64 v, .int .i64 l]] s = some (.bool (px ⟨k, v, l⟩), s) := by
 unfold px;rw [aa rk rfl];by_cases h1 : k = 0
 ·simp [go_sem, h1]
 ·simp [go_sem, h1]
theorem Fs {s : St} {b : Nat} {x : aW} (h : s.hp[b]? = some (.rw x.v)) (hn : nxt x.work = none) :
 rc D s.loc.length (.loop [0, 7] aU) [(0, .ptr (.hp b) [] 31), (7, .int .i64 0)] s = some (.exit 0, [(0, .ptr (.hp b) [] 31), (7, .int .i64 49), (19, .bool false)], s) := by
 have hn := BZ hn;refine aH (fun j : Nat => [(0, .ptr (.hp b) [] 31), (7, .int .i64 j)]) (fun _ => s) (fun _ => _) (fun j => 49 - j) (fun j => j ≤ 49) 0 ?_ (Nat.zero_le _) rfl rfl;intro i hi;by_cases c1 : i < 49
 ·left;have d1 : (i : Int) < 49 := by omega
  have d2 : (0 : Int) ≤ i := by omega
  have d4 : IntKind.i64.wrap ((i : Int) + 1) = (i : Int) + 1 := ag (by omega) (by omega);have ho := fun s => sZ (x.work i).kind (x.work i).ver (x.work i).line s;have ht := ai (f := fun i => (x.work i).v) c1;rw [show (⟨(x.work i).kind, (x.work i).ver, (x.work i).line⟩ : Ent) = x.work i from rfl, hn i c1] at ho
  refine ⟨i + 1, by omega, by omega, rfl, ?_⟩;obtain ⟨m, fr, work, base, dir, mark, marked⟩ := x;simp only [aW.v, ab, Ent.v] at *;generalize tab 49 (fun i => V.agg 42 [.int .i64 (work i).kind, .int .i64 (work i).ver, .int .i64 (work i).line]) = T at *;simp only [go_sem, aU, d1, d2, h, Int.toNat_natCast, ht, ho, d4];rfl
 ·right;have : i = 49 := by omega
  subst this;simp only [go_sem, aU]
theorem EU {s : St} {b : Nat} {x : aW} (h : s.hp[b]? = some (.rw x.v)) {n : Nat} (hn : nxt x.work = some n) :
 rc D s.loc.length (.loop [0, 7] aU) [(0, .ptr (.hp b) [] 31), (7, .int .i64 0)] s = some (.ret, [(4, .int .i64 n), (5, .int .i64 (x.work n).ver), (6, .int .i64 0)], s) := by
 obtain ⟨hn, h1, h2⟩ := vQ hn;refine aH (fun j : Nat => [(0, .ptr (.hp b) [] 31), (7, .int .i64 j)]) (fun _ => s) (fun _ => _) (fun j => n - j) (fun j => j ≤ n) 0 ?_ (Nat.zero_le _) rfl rfl;intro i hi;have c1 : i < 49 := by omega
 have d1 : (i : Int) < 49 := by omega
 have d2 : (0 : Int) ≤ i := by omega
 have d4 : IntKind.i64.wrap ((i : Int) + 1) = (i : Int) + 1 := ag (by omega) (by omega);have ho := fun s => sZ (x.work i).kind (x.work i).ver (x.work i).line s;have ht := ai (f := fun i => (x.work i).v) c1;rw [show (⟨(x.work i).kind, (x.work i).ver, (x.work i).line⟩ : Ent) = x.work i from rfl] at ho
 by_cases c2 : i < n
 ·left;rw [h2 i c2] at ho;refine ⟨i + 1, by omega, by omega, rfl, ?_⟩;obtain ⟨m, fr, work, base, dir, mark, marked⟩ := x;simp only [aW.v, ab, Ent.v] at *;generalize tab 49 (fun i => V.agg 42 [.int .i64 (work i).kind, .int .i64 (work i).ver, .int .i64 (work i).line]) = T at *;simp only [go_sem, aU, d1, d2, h, Int.toNat_natCast, ht, ho, d4];rfl
 ·right;have : i = n := by omega
  subst this;rw [h1] at ho;obtain ⟨m, fr, work, base, dir, mark, marked⟩ := x;simp only [aW.v, ab, Ent.v] at *;generalize tab 49 (fun i => V.agg 42 [.int .i64 (work i).kind, .int .i64 (work i).ver, .int .i64 (work i).line]) = T at *;simp only [go_sem, aU, d1, d2, h, Int.toNat_natCast, ht, ho]
theorem Jm {s : St} {b : Nat} {x : aW} (h : s.hp[b]? = some (.rw x.v)) (k : Int) :
 rf D eI [.ptr (.hp b) [] 31, .int .i64 k] s = some (.tup [.int .i64 (nxI x.work k), .int .i64 (nxV x.work k), .int .i64 (nxE x.work k)], s) := by
 unfold nxI nxV nxE;by_cases hk : jW k
 ·simp only [hk, if_true];cases hn : nxt x.work with
  | none =>
   have hl := Fs h hn;rw [aa eU rfl];by_cases k1 : k = 1
   ·simp only [go_sem, k1, hl]
   ·by_cases k2 : k = 2
    ·simp only [go_sem, k2, hl]
    ·have k4 : k = 4 := by unfold jW at hk; omega
     simp only [go_sem, k4, hl]
  | some n =>
   have hl := EU h hn;rw [aa eU rfl];by_cases k1 : k = 1
   ·simp only [go_sem, k1, hl]
   ·by_cases k2 : k = 2
    ·simp only [go_sem, k2, hl]
    ·have k4 : k = 4 := by unfold jW at hk; omega
     simp only [go_sem, k4, hl]
 ·simp only [hk, if_false];have k1 : ¬ k = 1 := fun e => hk (.inl e);have k2 : ¬ k = 2 := fun e => hk (.inr (.inl e));have k4 : ¬ k = 4 := fun e => hk (.inr (.inr e));rw [aa eU rfl];simp only [go_sem, k1, k2, k4]
end Go.Proofs.YtmimfopnhmmlbaaGreatDoor
namespace Go.Proofs.YtmimfopnhmmlbaaGreatDoor
open Go.Ab
theorem No {s : St} {a : Nat} {x : aW} (h : s.hp[a]? = some (.rw x.v)) (id : Int) : rf D dt [.ptr (.hp a) [] 31, .int .i64 id] s = some (.int .i64 (gE x.work id), s) := by
 obtain ⟨m, fr, work, base, dir, mark, marked⟩ := x;simp only [aW.v, ab] at *;unfold gE;rw [aa pp rfl];by_cases c1 : id < 0
 ·simp only [go_sem, c1]
 ·by_cases c2 : 49 ≤ id
  ·simp only [go_sem, c1, c2]
  ·obtain ⟨i, rfl⟩ : ∃ i : Nat, id = i := ⟨id.toNat, by omega⟩;have g1 := ai (f := fun i => (work i).v) (show i < 49 by omega);simp only [Ent.v] at *;generalize tab 49 (fun i => V.agg 42 [.int .i64 (work i).kind, .int .i64 (work i).ver, .int .i64 (work i).line]) = T at *;have d1 : (i : Int) < 49 := by omega
   have d2 : (0 : Int) ≤ i := by omega
   rw [if_neg (by omega), Int.toNat_natCast];by_cases hk : (work i).kind = 0
   ·simp only [hk] at *;simp only [go_sem, c1, c2, h, d1, d2];rw [Int.toNat_natCast];simp only [go_sem, g1]
   ·simp only [go_sem, c1, c2, h, d1, d2];rw [Int.toNat_natCast];simp only [go_sem, g1, hk]
end Go.Proofs.YtmimfopnhmmlbaaGreatDoor
namespace Go.Proofs.YtmimfopnhmmlbaaGreatDoor
open Go.Ab
end Go.Proofs.YtmimfopnhmmlbaaGreatDoor
namespace Go.Proofs.YtmimfopnhmmlbaaGreatDoor
open Go.Ab
end Go.Proofs.YtmimfopnhmmlbaaGreatDoor
namespace Go.Proofs.YtmimfopnhmmlbaaGreatDoor
open Go.Ab
structure bg (hp : List Blk) (Fm : Ft) (b m fr c : Nat) (x : AS) : Prop where
 ok : x.Ok
 st : hp[b]? = some (.rw ((x.r m fr).v))
 fq : FrQ hp fr c x.A
 mq : cf hp Fm m x.M
 nb : b ≠ fr ∧ b ≠ c
 nm : ¬ Fm b ∧ ¬ Fm fr ∧ ¬ Fm c
def bR (b fr c : Nat) (Fm : Ft) : Ft := fun j => j = b ∨ j = fr ∨ j = c ∨ Fm j
theorem bg.inn {hp : List Blk} {Fm : Ft} {b m fr c : Nat} {x : AS} (h : bg hp Fm b m fr c x) : Inn hp (bR b fr c Fm) := fun j hj => by
 rcases hj with rfl | rfl | rfl | hj
 ·exact af h.st
 ·exact h.fq.inn _ (.inl rfl)
 ·exact h.fq.inn _ (.inr rfl)
 ·exact h.mq.inn j hj
theorem bg.chg {hp hp' : List Blk} {Fm G G' : Ft} {b m fr c : Nat} {x : AS} (h : bg hp Fm b m fr c x) (hc : Chg hp hp' G G') (ha : dJ G (bR b fr c Fm)) : bg hp' Fm b m fr c x :=
 ⟨h.ok, hc.get h.st fun e => ha b e (.inl rfl), h.fq.eqv (hc.eqv (fun j h1 h2 => ha j h1 (by
  rcases h2 with rfl | rfl
  ·exact .inr (.inl rfl)
  ·exact .inr (.inr (.inl rfl)))) h.fq.inn), h.mq.chg hc fun j h1 h2 => ha j h1 (.inr (.inr (.inr h2))), h.nb, h.nm⟩
theorem Bb {hp L : List Blk} {v : V} {ls : List Int} (hrs : RS ⟨L, hp⟩ 10 v (ls.map (V.int .i64))) (hl : ls.length < 1000) (n : Int) : rf D gj [v, .int .i64 n] ⟨L, hp⟩ = some (.bool (decide (n ∈ ls)), ⟨L, hp⟩) := by
 have loop : ∃ r, rc D L.length (.loop [0, 1, 5] da) [(0, v), (1, .int .i64 n), (5, .int .i64 0)] ⟨L, hp⟩ = some r ∧
  ((n ∈ ls ∧ r = (.ret, [(4, .bool true)], ⟨L, hp⟩)) ∨ (n ∉ ls ∧ r = (.exit 0, [(0, v), (1, .int .i64 n), (5, .int .i64 ls.length), (9, .bool false)], ⟨L, hp⟩))) := by
  have hsl : V.slen false v = some ls.length := by
   have := hrs.slen
   rwa [List.length_map] at this
  refine gI (fun x : Nat => [(0, v), (1, .int .i64 n), (5, .int .i64 x)]) (fun _ => ⟨L, hp⟩) _ (fun x => ls.length - x) (fun x => x ≤ ls.length ∧ n ∉ ls.take x) 0 ?_ ⟨by omega, by simp⟩ rfl rfl;rintro x ⟨hx, hn⟩;by_cases c1 : x < ls.length
  ·have c2 : (x : Int) < ls.length := by omega
   have d4 : IntKind.i64.wrap ((x : Int) + 1) = (x : Int) + 1 := ag (by omega) (by omega);have hg : (ls.map (V.int .i64))[x]? = some (.int .i64 ls[x]) := by rw [List.getElem?_map, List.getElem?_eq_getElem c1]; rfl
   have hld : ∀ t q, ldv ⟨L, hp⟩ t (elq v x q t) = V.at q (.int .i64 ls[x]) := fun t q => hrs.ldq hg;by_cases he : ls[x] = n
   ·right;refine ⟨_, ?_, .inl ⟨by rw [← he]; exact List.getElem_mem c1, rfl⟩⟩;simp only [go_sem, da, hsl, c2, hrs.sadq hg, hld, he]
   ·left;refine ⟨x + 1, ⟨by omega, ?_⟩, by omega, ?_⟩
    ·rw [List.take_succ_eq_append_getElem c1, List.mem_append, List.mem_singleton];rintro (h | h)
     ·exact hn h
     ·exact he h.symm
    ·have hv : v.locLt L.length = true := hrs.locLt;simp only [go_sem, da, hsl, c2, hrs.sadq hg, hld, he, d4, hv];rfl
  ·right;have : x = ls.length := by omega
   subst this;have c2 : ¬ (ls.length : Int) < ls.length := by omega
   rw [List.take_length] at hn;refine ⟨_, ?_, .inr ⟨hn, rfl⟩⟩;simp only [go_sem, da, hsl, c2]
 obtain ⟨r, hr, h | h⟩ := loop
 ·obtain ⟨h1, rfl⟩ := h;rw [aa nG rfl];simp only [go_sem, hr, h1, decide_true]
 ·obtain ⟨h1, rfl⟩ := h;rw [aa nG rfl];simp only [go_sem, hr, h1, decide_false]
theorem DY {hp : List Blk} {v : V} {ls : List Int} (hrs : ∀ L, RS ⟨L, hp⟩ 10 v (ls.map (V.int .i64))) (hl : ls.length < 1000) (n : Int) (L : List Blk) : rf D gj [v, .int .i64 n] ⟨L, hp⟩ = some (.bool (decide (n ∈ ls)), ⟨L, hp⟩) := Bb (hrs L) hl n
end Go.Proofs.YtmimfopnhmmlbaaGreatDoor
namespace Go.Proofs.YtmimfopnhmmlbaaGreatDoor
open Go.Ab
theorem Apd.rs {L0 X : List Blk} {v : V} {l : List Int} (h : Apd L0 X v l) (loc : List Blk) : RS ⟨loc, L0 ++ X⟩ 10 v (l.map (.int .i64)) := by
 rcases h.at' with ⟨rfl, rfl⟩ | ⟨Y, rfl, rfl⟩
 ·exact .inl ⟨rfl, rfl⟩
 ·refine .inr ⟨_, _, _, _, by rw [List.length_map], (by intro c' hc'; cases hc'), rfl, .inr ⟨38, l.map (.int .i64), ?_, fun j x hx => by rw [Nat.zero_add]; exact hx⟩⟩;rw [← List.append_assoc, ← List.length_append];simp only [go_sem]
theorem pv {t : Nat → Ent} {n : Int} : ∀ (m i : Nat), n ∈ aF t i m ↔ ∃ j, i ≤ j ∧ j < i + m ∧ (t j).kind ≠ 0 ∧ (t j).line = n
 | 0, i => by
  simp only [aF, List.not_mem_nil, false_iff];rintro ⟨j, h1, h2, _⟩; omega
 | m + 1, i => by
  simp only [aF];have ih := pv (t := t) (n := n) m (i + 1);split
  ·rename_i hk;rw [ih];constructor
   ·rintro ⟨j, h1, h2, h3⟩; exact ⟨j, by omega, by omega, h3⟩
   ·rintro ⟨j, h1, h2, h3, h4⟩;rcases Nat.lt_or_ge i j with h | h
    ·exact ⟨j, by omega, by omega, h3, h4⟩
    ·have : j = i := by omega
     subst this;exact absurd hk h3
  ·rename_i hk;rw [List.mem_cons, ih];constructor
   ·rintro (h | ⟨j, h1, h2, h3⟩)
    ·exact ⟨i, Nat.le_refl _, by omega, hk, h.symm⟩
    ·exact ⟨j, by omega, by omega, h3⟩
   ·rintro ⟨j, h1, h2, h3, h4⟩;rcases Nat.lt_or_ge i j with h | h
    ·exact .inr ⟨j, by omega, by omega, h3, h4⟩
    ·have : j = i := by omega
     subst this;exact .inl h4.symm
theorem tE {t : Nat → Ent} (ht : InL t) {n : Int} (hn : 0 ≤ n) {f : Nat → Bool} : au t f 49 n.toNat = (f n.toNat || decide (n ∈ aF t 0 49)) := by
 rw [oh ht 49 (Nat.le_refl _)];congr 1;apply Bool.eq_iff_iff.2;simp only [List.any_eq_true, List.mem_range, Bool.and_eq_true, decide_eq_true_eq, pv];constructor
 ·rintro ⟨i, h1, h2, h3⟩;have := ht.inn i h1 h2;exact ⟨i, by omega, by omega, h2, by omega⟩
 ·rintro ⟨i, h1, h2, h3, h4⟩;exact ⟨i, by omega, h3, by rw [h4]; omega⟩
theorem zd {hp : List Blk} {Fm : Ft} {b m fr c : Nat} {x : AS} (h : bg hp Fm b m fr c x) {i : Nat} (hi : i < 49) (hk : (x.work i).kind ≠ 0) (L : List Blk) :
 ∃ X, rf D fg [.ptr (.hp b) [] 31, .int .i64 i] ⟨L, hp⟩ = some (.bool (x.own i), ⟨L, hp ++ X⟩) := by
 have ok := h.ok;have hb := ok.b.inL ok.A;have hm := ok.k.inL ok.A;have hw := (ok.w.inL ok.A).inn i hi hk;have hst := h.st;obtain ⟨X, v, a1, e1⟩ := oN x.base ⟨L, hp⟩;have i1 := fun L => DY (fun L => a1.rs L) (by have := jz x.base 49 0; omega) (x.work i).line L;obtain ⟨X2, v2, a2, e2⟩ := oN x.mark ⟨L, hp ++ X⟩;have i2 := fun L => DY (fun L => a2.rs L) (by have := jz x.mark 49 0; omega) (x.work i).line L;have g1 := ai (f := fun i => (x.work i).v) hi;have d1 : (i : Int) < 49 := by omega
 have d0 : (0 : Int) ≤ i := by omega
 have hst2 : (hp ++ X)[b]? = some (.rw ((x.r m fr).v)) := (List.getElem?_append_left (af hst)).trans hst;unfold AS.own AS.sh kp;have q1 : au x.base (fun _ => false) 49 (x.work i).line.toNat = decide ((x.work i).line ∈ aF x.base 0 49) := by rw [tE hb hw.1, Bool.false_or]
 have q2 : au x.mark (au x.base (fun _ => false) 49) 49 (x.work i).line.toNat = (decide ((x.work i).line ∈ aF x.base 0 49) || decide ((x.work i).line ∈ aF x.mark 0 49)) := by rw [tE hm hw.1, q1]
 simp only [AS.r, aW.v] at *;generalize hB : decide ((x.work i).line ∈ aF x.base 0 49) = B at *;generalize hK : decide ((x.work i).line ∈ aF x.mark 0 49) = K at *;simp only [ab, Ent.v] at *;generalize (tab 49 fun i => V.agg 42 [.int .i64 (x.work i).kind, .int .i64 (x.work i).ver, .int .i64 (x.work i).line]) = T at *;generalize (tab 49 fun i => V.agg 42 [.int .i64 (x.base i).kind, .int .i64 (x.base i).ver, .int .i64 (x.base i).line]) = TB at *;generalize (tab 49 fun i => V.agg 42 [.int .i64 (x.mark i).kind, .int .i64 (x.mark i).ver, .int .i64 (x.mark i).line]) = TK at *;rw [aa o5 rfl];cases his : x.is
 ·rw [his] at hst hst2;refine ⟨X, ?_⟩;simp only [Bool.false_eq_true, if_false, q1];simp only [go_sem, hst, d0, d1];rw [Int.toNat_natCast];cases B <;> simp only [go_sem, g1, e1, i1, hst, hst2]
 ·rw [his] at hst hst2;simp only [if_true, q2];cases B
  ·refine ⟨X ++ X2, ?_⟩;simp only [List.append_assoc] at i2;simp only [go_sem, hst, d0, d1];rw [Int.toNat_natCast];cases K <;> simp only [go_sem, g1, e1, i1, hst, hst2, e2, i2]
  ·refine ⟨X, ?_⟩;simp only [go_sem, hst, d0, d1];rw [Int.toNat_natCast];simp only [go_sem, g1, e1, i1, hst, hst2]
end Go.Proofs.YtmimfopnhmmlbaaGreatDoor
namespace Go.Proofs.YtmimfopnhmmlbaaGreatDoor
open Go.Ab
theorem Jd {hp : List Blk} {Fm : Ft} {b m fr c : Nat} {x : AS} (h : bg hp Fm b m fr c x) (id : Int) (L : List Blk) : rf D dt [.ptr (.hp b) [] 31, .int .i64 id] ⟨L, hp⟩ = some (.int .i64 (gE x.work id), ⟨L, hp⟩) := No (s := ⟨L, hp⟩) h.st id
end Go.Proofs.YtmimfopnhmmlbaaGreatDoor
namespace Go.Proofs.YtmimfopnhmmlbaaGreatDoor
open Go.Ab
section
variable {hp hp' : List Blk} {Fm : Ft} {b m fr c : Nat} {x : AS}
theorem bg.setM (h : bg hp Fm b m fr c x) {M : AM} {Fm' : Ft} (hm : cf hp' Fm' m M) (hc : Chg hp hp' Fm Fm') (hn : M.n = x.M.n) : bg hp' Fm' b m fr c { x with M := M } := by
 have lb : b < hp.length := af h.st;have lf : fr < hp.length := h.fq.inn _ (.inl rfl);have lc : c < hp.length := h.fq.inn _ (.inr rfl);refine ⟨h.ok.with hm.ok hn h.ok.A h.ok.s2 rfl rfl, hc.get h.st h.nm.1, h.fq.eqv fun j hj => ?_, hm, h.nb, fun e => ?_, fun e => ?_, fun e => ?_⟩
 ·rcases hj with rfl | rfl
  ·exact hc.old _ lf h.nm.2.1
  ·exact hc.old _ lc h.nm.2.2
 ·rcases hc.new b e with e | e
  ·exact h.nm.1 e
  ·omega
 ·rcases hc.new fr e with e | e
  ·exact h.nm.2.1 e
  ·omega
 ·rcases hc.new c e with e | e
  ·exact h.nm.2.2 e
  ·omega
theorem Fy {Fm' : Ft} (hc : Chg hp hp' Fm Fm') : Chg hp hp' (bR b fr c Fm) (bR b fr c Fm') :=
 hc.mono (fun j h => .inr (.inr (.inr h))) fun j h => by
  rcases h with h | h | h | h
  ·exact .inr (.inl h)
  ·exact .inr (.inr (.inl h))
  ·exact .inr (.inr (.inr (.inl h)))
  ·exact .inl h
theorem bg.setA (h : bg hp Fm b m fr c x) {A : AF} (hf : FrQ hp' fr c A) (hc : Chg hp hp' (FtQ fr c) (FtQ fr c)) (hs : ∀ j, A.st j ≠ 2) (h1 : A.f = x.A.f) (h2 : A.l = x.A.l) : bg hp' Fm b m fr c { x with A := A } :=
 ⟨h.ok.with h.ok.M rfl hf.ok hs h1 h2, hc.get h.st (fun e => by
  rcases e with e | e
  ·exact h.nb.1 e
  ·exact h.nb.2 e), hf, h.mq.chg hc fun j h1 h2 => by
   rcases h1 with rfl | rfl
   ·exact h.nm.2.1 h2
   ·exact h.nm.2.2 h2, h.nb, h.nm⟩
theorem uK (hc : Chg hp hp' (FtQ fr c) (FtQ fr c)) : Chg hp hp' (bR b fr c Fm) (bR b fr c Fm) := hc.mono (fun j h => by
 rcases h with h | h
 ·exact .inr (.inl h)
 ·exact .inr (.inr (.inl h))) fun _ h => .inr h
theorem bg.setB (h : bg hp Fm b m fr c x) {y : AS} (hy : y.Ok) (hM : y.M = x.M) (hA : y.A = x.A) : bg (hp.set b (.rw ((y.r m fr).v))) Fm b m fr c y :=
 ⟨hy, List.getElem?_set_self (af h.st), by rw [hA]; exact h.fq.eqv fun j hj => List.getElem?_set_ne (by
  rcases hj with rfl | rfl
  ·exact h.nb.1
  ·exact h.nb.2), by rw [hM]; exact h.mq.chg (cR (a := b)) fun j h1 h2 => h.nm.1 (by cases h1; exact h2), h.nb, h.nm⟩
theorem rV {k : Blk} : Chg hp (hp.set b k) (bR b fr c Fm) (bR b fr c Fm) := cR.mono (fun _ h => .inl h) fun _ h => .inr h
theorem bg.more (h : bg hp Fm b m fr c x) (X : List Blk) : bg (hp ++ X) Fm b m fr c x := h.chg (io hp X fun _ => False) fun _ h => h.elim
theorem yT {l : List Int} (hl : l.length = 8) {at' : Int} (L : List Blk) : ∀ (n j : Nat) {hp : List Blk} {Fm : Ft} {x : AS}, j + n = 8 → bg hp Fm b m fr c x → x.M.count + n < 1000000 →
 ∃ hp' Fm' r, rc D L.length (.loop [0, 3, 6, 8] bJ) [(0, .ptr (.hp b) [] 31), (3, .ptr (.loc L.length) [] 24), (6, .int .i64 at'), (8, .int .i64 j)] ⟨L ++ [.rw (lnV l)], hp⟩ = some r ∧
  bg hp' Fm' b m fr c { x with M := (x.M.layFrom at' l j n).1 } ∧ Chg hp hp' Fm Fm' ∧
  (((x.M.layFrom at' l j n).2 = 0 ∧ r = (.exit 0, [(0, .ptr (.hp b) [] 31), (3, .ptr (.loc L.length) [] 24), (6, .int .i64 at'), (8, .int .i64 8), (21, .bool false)], ⟨L ++ [.rw (lnV l)], hp'⟩)) ∨
   ((x.M.layFrom at' l j n).2 ≠ 0 ∧ r = (.ret, [(4, .int .i64 0), (5, .int .i64 (x.M.layFrom at' l j n).2)], ⟨L ++ [.rw (lnV l)], hp'⟩)))
 | 0, j, hp, Fm, x, hj, h, _ => by
  have : j = 8 := by omega
  subst this;refine ⟨hp, Fm, _, ?_, h, .refl _ _, .inl ⟨rfl, rfl⟩⟩;rw [ak];simp only [lnV];simp only [go_sem, bJ]
 | n + 1, j, hp, Fm, x, hj, h, hc => by
  obtain ⟨hp1, Fm1, e1, e2, e3⟩ := lS h.mq (by omega) at' j (l.getD j 0) (L ++ [.rw (lnV l)]);have h1 := h.setM e2 e3 AM.store_n;have hcn := AM.store_count (M := x.M) (i := at') (q := j) (v := l.getD j 0);have d1 : (j : Int) < 8 := by omega
  have d2 : (0 : Int) ≤ j := by omega
  have d4 : IntKind.i64.wrap ((j : Int) + 1) = ((j + 1 : Nat) : Int) := ag (by omega) (by omega);have g := aK (f := V.int .u64) (l := l) (i := j) (by omega) 0;have hst := h.st;simp only [AM.layFrom];by_cases he : (x.M.store at' j (l.getD j 0)).2 = 0
  ·rw [if_neg fun hh => hh he];obtain ⟨hp2, Fm2, r, q1, q2, q3, q4⟩ := yT hl L n (j + 1) (by omega) h1 (by simp only; omega);refine ⟨hp2, Fm2, r, ?_, q2, e3.trans q3, q4⟩;rw [← q1, ak];rw [he] at e1;simp only [AS.r, aW.v, lnV] at *;generalize l.getD j 0 = wd at *;simp only [go_sem, bJ, d1, d2, Int.toNat_natCast, g, hst, e1, d4, show L.length < L.length + 1 from Nat.lt_succ_self _]
  ·rw [if_pos he];refine ⟨hp1, Fm1, _, ?_, h1, e3, .inr ⟨he, rfl⟩⟩;rw [ak];simp only [AS.r, aW.v, lnV] at *;generalize l.getD j 0 = wd at *;simp only [go_sem, bJ, d1, d2, Int.toNat_natCast, g, hst, e1, he]
theorem zh (h : bg hp Fm b m fr c x) (hc : x.M.count + 8 < 1000000) {l : List Int} (hl : l.length = 8) (L : List Blk) :
 ∃ hp' Fm', rf D fe [.ptr (.hp b) [] 31, lnV l] ⟨L, hp⟩ = some (.tup [.int .i64 (x.lay l).2.1, .int .i64 (x.lay l).2.2], ⟨L, hp'⟩) ∧ bg hp' Fm' b m fr c (x.lay l).1 ∧ Chg hp hp' (bR b fr c Fm) (bR b fr c Fm') := by
 obtain ⟨hp1, e1, e2, e3⟩ := vK h.fq (L ++ [.rw (lnV l)]);have h1 := h.setA e2 e3 (rA h.ok.s2) dH.1 dH.2;have hs := h.st;unfold AS.lay;by_cases he : x.A.alloc.2.2 = 0
 ·rw [if_neg (by simp [he])];obtain ⟨hp2, Fm2, r, q1, q2, q3, q4⟩ := yT (b := b) (m := m) (fr := fr) (c := c) hl (at' := x.A.alloc.2.1) L 8 0 rfl h1 (by simp only; omega);simp only at q1 q2 q4 ⊢;rw [show ((0 : Nat) : Int) = 0 from rfl] at q1
  refine ⟨hp2, Fm2, ?_, q2, (uK e3).trans (Fy q3)⟩;rw [he] at e1;generalize x.M.layFrom x.A.alloc.2.1 l 0 8 = lf at *;generalize x.A.alloc.2.1 = at' at *;simp only [AS.r, aW.v, lnV] at *;rw [aa jU rfl];rcases q4 with ⟨z, rfl⟩ | ⟨z, rfl⟩
  ·rw [z, if_neg (by simp)];simp only [go_sem, hs, e1];simp only [go_sem, q1]
  ·rw [if_pos z];simp only [go_sem, hs, e1];simp only [go_sem, q1]
 ·rw [if_pos he];have hn : x.A.alloc = (x.A, 0, 10) := by
   unfold AF.alloc at he ⊢;split
   ·rename_i hq; rw [hq] at he; exact absurd rfl he
   ·rfl
  rw [hn] at h1 e1;refine ⟨hp1, Fm, ?_, h1, uK e3⟩;rw [hn];simp only [AS.r, aW.v, lnV] at *;rw [aa jU rfl];simp only [go_sem, hs, e1]
end
end Go.Proofs.YtmimfopnhmmlbaaGreatDoor
namespace Go.Proofs.YtmimfopnhmmlbaaGreatDoor
open Go.Ab
section
variable {hp hp' : List Blk} {Fm : Ft} {b m fr c : Nat} {x : AS}
theorem sj (X : List Blk) {F : Ft} : Chg hp (hp ++ X) F F := (io hp X fun _ => False).mono (fun _ h => h.elim) fun _ h => .inr h
theorem G8 (h : bg hp Fm b m fr c x) (hc : x.M.count + 8 < 1000000) (id word v : Int) (L : List Blk) :
 ∃ hp' Fm', rf D fv [.ptr (.hp b) [] 31, .int .i64 id, .int .i64 word, .int .u64 v] ⟨L, hp⟩ = some (.int .i64 (x.set id word v).2, ⟨L, hp'⟩) ∧ bg hp' Fm' b m fr c (x.set id word v).1 ∧ Chg hp hp' (bR b fr c Fm) (bR b fr c Fm') := by
 have hst := h.st;have hok := (h.ok.set id word v);unfold AS.set at hok ⊢;by_cases c0 : id < 0 ∨ 49 ≤ id ∨ word < 0 ∨ 8 ≤ word
 ·rw [if_pos c0];refine ⟨hp, Fm, ?_, h, .refl _ _⟩;rw [aa aZ rfl];by_cases c1 : id < 0
  ·simp only [go_sem, c1]
  ·by_cases c2 : 49 ≤ id
   ·simp only [go_sem, c1, c2]
   ·by_cases c3 : word < 0
    ·simp only [go_sem, c1, c2, c3]
    ·have c4 : word > 7 := by omega
     simp only [go_sem, c1, c2, c3, c4]
 ·rw [if_neg c0] at hok ⊢;have w1 : ¬ word < 0 := by omega
  have w2 : ¬ word > 7 := by omega
  obtain ⟨i, rfl⟩ : ∃ i : Nat, id = i := ⟨id.toNat, by omega⟩;rw [Int.toNat_natCast] at *;have hi : i < 49 := by omega
  have w0 : ¬ (i : Int) < 0 := by omega
  have w00 : ¬ (49 : Int) ≤ i := by omega
  have g1 := ai (f := fun i => (x.work i).v) hi;have d1 : (i : Int) < 49 := by omega
  have d2 : (0 : Int) ≤ i := by omega
  by_cases hk : (x.work i).kind = 0
  ·rw [if_pos hk];refine ⟨hp, Fm, ?_, h, .refl _ _⟩;simp only [AS.r, aW.v, ab, Ent.v] at *;generalize tab 49 (fun i => V.agg 42 [.int .i64 (x.work i).kind, .int .i64 (x.work i).ver, .int .i64 (x.work i).line]) = T at *;simp only [hk] at g1;rw [aa aZ rfl];simp only [go_sem, w0, w00, w1, w2, hst, d1, d2];rw [Int.toNat_natCast];simp only [go_sem, g1]
  ·rw [if_neg hk] at hok ⊢;obtain ⟨X, hown⟩ := zd h hi hk L;have h' := h.more X;have hst' := h'.st;by_cases ho : x.own i = true
   ·rw [if_pos ho];obtain ⟨hp1, Fm1, e1, e2, e3⟩ := lS h'.mq (by omega) (x.work i).line word v L;refine ⟨hp1, Fm1, ?_, h'.setM e2 e3 AM.store_n, (sj X).trans (Fy e3)⟩;rw [ho] at hown;generalize x.M.store (x.work i).line word v = sr at *;simp only [AS.r, aW.v, ab, Ent.v] at *;generalize tab 49 (fun i => V.agg 42 [.int .i64 (x.work i).kind, .int .i64 (x.work i).ver, .int .i64 (x.work i).line]) = T at *;rw [aa aZ rfl];simp only [go_sem, w0, w00, w1, w2, hst, d1, d2];rw [Int.toNat_natCast];simp only [go_sem, g1, hk, hown, hst', d1, d2];rw [Int.toNat_natCast];simp only [go_sem, g1, hst', e1]
   ·rw [if_neg ho] at hok ⊢;have ho' : x.own i = false := by simpa using ho
    have hleft := fun L => xk h'.fq L;rw [ho'] at hown;by_cases hl0 : x.A.left = 0
    ·rw [if_pos hl0];refine ⟨hp ++ X, Fm, ?_, h', sj X⟩;rw [hl0] at hleft;simp only [AS.r, aW.v, ab, Ent.v] at *;generalize tab 49 (fun i => V.agg 42 [.int .i64 (x.work i).kind, .int .i64 (x.work i).ver, .int .i64 (x.work i).line]) = T at *;rw [aa aZ rfl];simp only [go_sem, w0, w00, w1, w2, hst, d1, d2];rw [Int.toNat_natCast];simp only [go_sem, g1, hk, hown, hst', hleft]
    ·rw [if_neg hl0] at hok ⊢;have hl0' : ¬ ((x.A.left : Nat) : Int) = 0 := by omega
     have hld := fun L => FN h'.mq (by omega) (x.work i).line L;by_cases hle : (x.M.load (x.work i).line).2 ≠ 0
     ·rw [if_pos hle];refine ⟨hp ++ X, Fm, ?_, h', sj X⟩;generalize x.M.load (x.work i).line = ld at *;simp only [AS.r, aW.v, ab, Ent.v, lnV] at *;generalize tab 49 (fun i => V.agg 42 [.int .i64 (x.work i).kind, .int .i64 (x.work i).ver, .int .i64 (x.work i).line]) = T at *;rw [aa aZ rfl];simp only [go_sem, w0, w00, w1, w2, hst, d1, d2];rw [Int.toNat_natCast];simp only [go_sem, g1, hk, hown, hst', hleft, hl0', d1, d2];rw [Int.toNat_natCast];simp only [go_sem, g1, hst', hld, hle]
     ·rw [if_neg hle] at hok ⊢;have hle' : (x.M.load (x.work i).line).2 = 0 := by simpa using hle
      have hl8 : (x.M.load (x.work i).line).1.length = 8 := by
       unfold AM.load at hle' ⊢;split
       ·rfl
       ·rename_i hh; split
        ·rfl
        ·exact h.ok.M.now8 (by omega)
      obtain ⟨w, rfl⟩ : ∃ w : Nat, word = w := ⟨word.toNat, by omega⟩;rw [Int.toNat_natCast] at *;have w3 : (w : Int) < 8 := by omega
      have w4 : (0 : Int) ≤ w := by omega
      have gw := aK (f := V.int .u64) (l := (x.M.load (x.work i).line).1) (i := w) (by omega) 0;obtain ⟨hp1, Fm1, e1, e2, e3⟩ := zh h' hc (l := (x.M.load (x.work i).line).1.set w v) (by simpa using hl8) (L ++ [.rw (lnV ((x.M.load (x.work i).line).1.set w v))]);rw [hle'] at hld;have hst1 := e2.st;have hw := AS.lay_work (x := x) ((x.M.load (x.work i).line).1.set w v);simp only at hok ⊢;by_cases hre : (x.lay ((x.M.load (x.work i).line).1.set w v)).2.2 ≠ 0
      ·rw [if_pos hre];refine ⟨hp1, Fm1, ?_, e2, (sj X).trans e3⟩;clear hok;generalize x.lay ((x.M.load (x.work i).line).1.set w v) = lr at *;generalize x.M.load (x.work i).line = ld at *;simp only [AS.r, aW.v, ab, Ent.v, lnV, List.map_set] at *;generalize tab 49 (fun i => V.agg 42 [.int .i64 (x.work i).kind, .int .i64 (x.work i).ver, .int .i64 (x.work i).line]) = T at *;rw [aa aZ rfl];simp only [go_sem, w0, w00, w1, w2, hst, d1, d2];rw [Int.toNat_natCast];simp only [go_sem, g1, hk, hown, hst', hleft, hl0', d1, d2];rw [Int.toNat_natCast];simp only [go_sem, g1, hst', hld, w3, w4, gw];simp only [go_sem, Int.toNat_natCast, gw, e1, hre]
      ·rw [if_neg hre] at hok ⊢;have hre' : (x.lay ((x.M.load (x.work i).line).1.set w v)).2.2 = 0 := by simpa using hre
       have e4 := e2.setB hok rfl rfl;refine ⟨_, Fm1, ?_, e4, ((sj X).trans e3).trans rV⟩;rw [hre'] at e1;have hup := mg (t := x.work) (i := i) (e := (x.work i).at (x.lay ((x.M.load (x.work i).line).1.set w v)).2.1);simp only [AS.r, hw.1] at hst1 ⊢;clear hok e4 e2;generalize x.lay ((x.M.load (x.work i).line).1.set w v) = lr at *;generalize x.M.load (x.work i).line = ld at *;simp only [AS.r, aW.v, ab] at hst hst' hst1 ⊢;rw [← hup];simp only [Ent.at, Ent.v, lnV, List.map_set] at *;generalize tab 49 (fun i => V.agg 42 [.int .i64 (x.work i).kind, .int .i64 (x.work i).ver, .int .i64 (x.work i).line]) = T at *;rw [aa aZ rfl];simp only [go_sem, w0, w00, w1, w2, hst, d1, d2];rw [Int.toNat_natCast];simp only [go_sem, g1, hk, hown, hst', hleft, hl0', d1, d2];rw [Int.toNat_natCast];simp only [go_sem, g1, hst', hld, w3, w4, gw];simp only [go_sem, Int.toNat_natCast, gw, e1, hst1, g1, d1, d2]
end
end Go.Proofs.YtmimfopnhmmlbaaGreatDoor
namespace Go.Proofs.YtmimfopnhmmlbaaGreatDoor
open Go.Ab
section
variable {hp hp' : List Blk} {Fm : Ft} {b m fr c : Nat} {x : AS}
theorem Ff (h : bg hp Fm b m fr c x) (hc : x.M.count + 8 < 1000000) (k : Int) (L : List Blk) :
 ∃ hp' Fm', rf D eB [.ptr (.hp b) [] 31, .int .i64 k] ⟨L, hp⟩ = some (.tup [.int .i64 (x.make k).2.1, .int .i64 (x.make k).2.2], ⟨L, hp'⟩) ∧ bg hp' Fm' b m fr c (x.make k).1 ∧ Chg hp hp' (bR b fr c Fm) (bR b fr c Fm') := by
 have hnx := fun L => Jm (s := ⟨L, hp⟩) h.st k;have hwk : (x.r m fr).work = x.work := rfl;rw [hwk] at hnx;have hok := h.ok.make k;unfold AS.make at hok ⊢;by_cases he : nxE x.work k ≠ 0
 ·rw [if_pos he];refine ⟨hp, Fm, ?_, h, .refl _ _⟩;generalize nxE x.work k = ee at *;rw [aa eL rfl];simp only [go_sem, hnx, he]
 ·rw [if_neg he] at hok ⊢;have he' : nxE x.work k = 0 := by simpa using he
  obtain ⟨hp1, Fm1, e1, e2, e3⟩ := zh h hc (l := zl) rfl L;have hst1 := e2.st;have hw := AS.lay_work (x := x) zl;obtain ⟨n1, n2, n3, _⟩ := xb he';have ez : lnV zl = .agg 24 (List.replicate 8 (.int .u64 0)) := rfl;rw [ez] at e1;rw [he'] at hnx;simp only at hok ⊢;by_cases hre : (x.lay zl).2.2 ≠ 0
  ·rw [if_pos hre];refine ⟨hp1, Fm1, ?_, e2, e3⟩;generalize x.lay zl = lr at *;rw [aa eL rfl];simp only [go_sem, hnx, e1, hre]
  ·rw [if_neg hre] at hok ⊢;have hre' : (x.lay zl).2.2 = 0 := by simpa using hre
   have e4 := e2.setB hok rfl rfl;refine ⟨_, Fm1, ?_, e4, e3.trans rV⟩;rw [hre'] at e1;obtain ⟨i, hi⟩ : ∃ i : Nat, nxI x.work k = i := ⟨(nxI x.work k).toNat, by omega⟩;rw [hi] at hnx n1 n2 ⊢;rw [Int.toNat_natCast];have hup := mg (t := x.work) (i := i) (e := ⟨k, nxV x.work k, (x.lay zl).2.1⟩);have g1 := ai (f := fun i => (x.work i).v) (show i < 49 by omega);simp only [AS.r, hw.1] at hst1 ⊢;clear hok e4 e2;generalize x.lay zl = lr at *;generalize nxV x.work k = vv at *;simp only [aW.v, ab] at hst1 ⊢;rw [← hup];simp only [Ent.v] at *;generalize tab 49 (fun i => V.agg 42 [.int .i64 (x.work i).kind, .int .i64 (x.work i).ver, .int .i64 (x.work i).line]) = T at *;rw [aa eL rfl];simp only [go_sem, hnx, e1, hst1, n1, n2];rw [Int.toNat_natCast];simp only [go_sem, hst1, g1]
theorem Fl (h : bg hp Fm b m fr c x) (L : List Blk) :
 ∃ hp', rf D eH [.ptr (.hp b) [] 31] ⟨L, hp⟩ = some (.int .i64 x.marks.2, ⟨L, hp'⟩) ∧ bg hp' Fm b m fr c x.marks.1 ∧ Chg hp hp' (bR b fr c Fm) (bR b fr c Fm) := by
 have hok := h.ok.marks;have hst := h.st;unfold AS.marks at hok ⊢;cases hi : x.is
 ·rw [if_neg (by simp [hi])] at hok;rw [if_neg (by simp)];have e4 := h.setB hok rfl rfl;refine ⟨_, ?_, e4, rV⟩;have hs : ∀ k, (hp.set b k)[b]? = some k := fun k => List.getElem?_set_self (af hst);simp only [AS.r, hi] at hst ⊢;simp only [aW.v, ab] at *;rw [aa jr rfl];simp only [go_sem, hst, hs, List.set_set]
 ·rw [if_pos rfl];refine ⟨hp, ?_, h, .refl _ _⟩;simp only [AS.r, aW.v, hi] at hst;rw [aa jr rfl];simp only [go_sem, hst]
end
end Go.Proofs.YtmimfopnhmmlbaaGreatDoor
namespace Go.Proofs.YtmimfopnhmmlbaaGreatDoor
open Go.Ab
theorem BB (k v l : Int) (hk : k ≠ 0) (h0 : 0 ≤ v) (h1 : v ≤ 16777215) (s : St) : rf D jF [.agg 42 [.int .i64 k, .int .i64 v, .int .i64 l]] s = some (.tup [.agg 42 [.int .i64 0, .int .i64 (pb v), .int .i64 0], .int .i64 0], s) := by
 unfold pb;rw [aa sR rfl];by_cases h : v = 16777215
 ·subst h;rw [if_neg (by omega)];simp only [go_sem, hk]
 ·have e2 : IntKind.i64.wrap (v + 1) = v + 1 := ag (by omega) (by omega);rw [if_pos (by omega)];simp only [go_sem, hk, h, e2]
section
variable {hp hp' : List Blk} {Fm : Ft} {b m fr c : Nat} {x : AS}
theorem Gp (h : bg hp Fm b m fr c x) (hver : ∀ i, i < 49 → 0 ≤ (x.work i).ver ∧ (x.work i).ver ≤ 16777215) (id : Int) (L : List Blk) :
 ∃ hp', rf D ft [.ptr (.hp b) [] 31, .int .i64 id] ⟨L, hp⟩ = some (.int .i64 (x.ends id).2, ⟨L, hp'⟩) ∧ bg hp' Fm b m fr c (x.ends id).1 ∧ Chg hp hp' (bR b fr c Fm) (bR b fr c Fm) := by
 have his := fun L => Jd h id L;have hok := h.ok.ends id;have hst := h.st;unfold AS.ends at hok ⊢;by_cases he : gE x.work id ≠ 0
 ·rw [if_pos he];refine ⟨hp, ?_, h, .refl _ _⟩;generalize gE x.work id = ee at *;rw [aa fj rfl];simp only [go_sem, his, he]
 ·rw [if_neg he] at hok ⊢;have he' : gE x.work id = 0 := by simpa using he
  obtain ⟨h1, h2, h3⟩ := zT he';obtain ⟨i, rfl⟩ : ∃ i : Nat, id = i := ⟨id.toNat, by omega⟩;rw [Int.toNat_natCast] at *;have hi : i < 49 := by omega
  rw [he'] at his;obtain ⟨X, hown⟩ := zd h hi h3 L;have h' := h.more X;have hst' := h'.st;have hv := hver i hi;have hline := (h.ok.w.inL h.ok.A).inn i hi h3;have hen := fun s => BB (x.work i).kind (x.work i).ver (x.work i).line h3 hv.1 hv.2 s;have g1 := ai (f := fun i => (x.work i).v) hi;have hup := mg (t := x.work) (i := i) (e := ⟨0, pb (x.work i).ver, 0⟩);have d1 : (i : Int) < 49 := by omega
  have d2 : (0 : Int) ≤ i := by omega
  by_cases ho : x.own i = true
  ·rw [if_pos ho] at hok ⊢;obtain ⟨hp1, e1, e2, e3⟩ := xL h'.fq (x.work i).line (by omega) L;have hA := h'.setA e2 e3 (El h.ok.s2 (by decide)) pO.1 pO.2;have hst1 := hA.st;have e4 := hA.setB hok rfl rfl;refine ⟨_, ?_, e4, ((sj X).trans (uK e3)).trans rV⟩;rw [ho] at hown;simp only [AS.r] at hst hst' hst1 ⊢;clear hok e4 e2;generalize (x.A.turn (x.work i).line 1 0).2 = te at *;simp only [aW.v, ab] at hst hst' hst1 ⊢;rw [← hup];simp only [Ent.v] at *;generalize tab 49 (fun i => V.agg 42 [.int .i64 (x.work i).kind, .int .i64 (x.work i).ver, .int .i64 (x.work i).line]) = T at *;rw [aa fj rfl];simp only [go_sem, his, hown, hst', d1, d2];rw [Int.toNat_natCast];simp only [go_sem, g1, hst', e1, hst1, d1, d2, hen, Int.toNat_natCast]
  ·rw [if_neg ho] at hok ⊢;have ho' : x.own i = false := by simpa using ho
   have e4 := h'.setB hok rfl rfl;refine ⟨_, ?_, e4, (sj X).trans rV⟩;rw [ho'] at hown;simp only [AS.r] at hst hst' ⊢;clear hok e4;simp only [aW.v, ab] at hst hst' ⊢;rw [← hup];simp only [Ent.v] at *;generalize tab 49 (fun i => V.agg 42 [.int .i64 (x.work i).kind, .int .i64 (x.work i).ver, .int .i64 (x.work i).line]) = T at *;rw [aa fj rfl];simp only [go_sem, his, hown, hst', d1, d2, g1, hen, Int.toNat_natCast]
end
end Go.Proofs.YtmimfopnhmmlbaaGreatDoor
namespace Go.Proofs.YtmimfopnhmmlbaaGreatDoor
open Go.Ab
section
variable {Fm : Ft} {b m fr c : Nat} {x : AS}
end
end Go.Proofs.YtmimfopnhmmlbaaGreatDoor
namespace Go.Proofs.YtmimfopnhmmlbaaGreatDoor
open Go.Ab
theorem Ej {n : Nat} : ∀ {l : List Int}, V.locLts n (l.map (.int .i64)) = true
 | [] => rfl
 | a :: l => by simp only [List.map_cons, V.locLts, Ej (l := l), Bool.and_true]; rfl
inductive Nw (L H Y X : List Blk) : V → List Int → Prop where
 | nil : Nw L H Y X .nils []
 | hp (X1 X2 : List Blk) (l : List Int) (c : Option Nat) (hX : X = X1 ++ .rw (.agg 38 (l.map (.int .i64))) :: X2) (hc : c = none) : Nw L H Y X (.sl (.hp (H.length + X1.length)) [] 0 l.length c 10) l
 | loc (Y1 Y2 : List Blk) (l : List Int) (c : Option Nat) (hY : Y = Y1 ++ .rw (.agg 38 (l.map (.int .i64))) :: Y2) (hc : c = none) : Nw L H Y X (.sl (.loc (L.length + Y1.length)) [] 0 l.length c 10) l
theorem Apd.nw {H X L Y : List Blk} {v : V} {l : List Int} (h : Apd H X v l) (Z : List Blk) : Nw L H Y (X ++ Z) v l := by
 rcases h.at' with ⟨rfl, rfl⟩ | ⟨Y', rfl, rfl⟩
 ·exact .nil
 ·exact .hp Y' Z _ none (by simp) rfl
theorem Nw.el {L H Y X : List Blk} {v : V} {l : List Int} (h : Nw L H Y X v l) : St.elems ⟨L ++ Y, H ++ X⟩ v = some (l.map (.int .i64)) := by
 cases h with
 | nil => rfl
 | hp X1 X2 l c hX hc =>
  subst hX;refine aV (t := 38) ?_ (by simp);rw [kU, ← List.append_assoc, ← List.length_append, List.getElem?_append_right (Nat.le_refl _), Nat.sub_self];simp only [List.getElem?_cons_zero, qH, nC]
 | loc Y1 Y2 l c hY hc =>
  subst hY;refine aV (t := 38) ?_ (by simp);rw [ql, ← List.append_assoc, ← List.length_append, List.getElem?_append_right (Nat.le_refl _), Nat.sub_self];simp only [List.getElem?_cons_zero, qH, nC]
theorem Nw.shape {L H Y X : List Blk} {v : V} {l : List Int} (h : Nw L H Y X v l) : v = .nils ∨ ∃ a p o n c, v = .sl a p o n c 10 := by
 cases h with
 | nil => exact .inl rfl
 | hp => exact .inr ⟨_, _, _, _, _, rfl⟩
 | loc => exact .inr ⟨_, _, _, _, _, rfl⟩
theorem Nw.push {L H Y X : List Blk} {v y : V} {l l2 : List Int} (h : Nw L H Y X v l) (hY : ∀ n, Y.all (bu n) = true) (hy : y = .nils ∨ ∃ a p o n c, y = .sl a p o n c 10) (hyl : St.elems ⟨L ++ Y, H ++ X⟩ y = some (l2.map (.int .i64))) (hm : l.length + l2.length ≤ 1000) (base : Nat) :
 ∃ Y' X' v', ay base false 38 10 v y ⟨L ++ Y, H ++ X⟩ = some (v', ⟨L ++ Y', H ++ X'⟩) ∧ Nw L H Y' X' v' (l ++ l2) ∧ (l2 ≠ [] → ∃ Y1, Y' = Y1 ++ [.rw (.agg 38 ((l ++ l2).map (.int .i64)))] ∧ v' = .sl (.loc (L.length + Y1.length)) [] 0 (l ++ l2).length none 10) ∧ ∀ n, Y'.all (bu n) = true := by
 by_cases hn : l2 = []
 ·subst hn;refine ⟨Y, X, v, ?_, by rw [List.append_nil]; exact h, fun hh => absurd rfl hh, hY⟩;unfold ay;rw [uU h.shape, uF hy, h.el, hyl];rfl
 ·have hne : l2.map (V.int .i64) ≠ [] := by simpa using hn
  have key := oj (base := base) (h := false) (r := 38) h.shape hy h.el hyl hne (by simp [be]; omega) (.inl rfl);have hfin : ∀ (Y1 Z : List Blk), (∀ n, Y1.all (bu n) = true) → (∃ Y' X' v', some (V.sl (.loc (L ++ Y1).length) [] 0 ((l.map (V.int .i64)).length + (l2.map (V.int .i64)).length) none 10, (⟨(L ++ Y1) ++ [.rw (.agg 38 (l.map (V.int .i64) ++ l2.map (V.int .i64)))], H ++ Z⟩ : St)) = some (v', ⟨L ++ Y', H ++ X'⟩) ∧ Nw L H Y' X' v' (l ++ l2) ∧ (l2 ≠ [] → ∃ Y1, Y' = Y1 ++ [.rw (.agg 38 ((l ++ l2).map (.int .i64)))] ∧ v' = .sl (.loc (L.length + Y1.length)) [] 0 (l ++ l2).length none 10) ∧ ∀ n, Y'.all (bu n) = true) := by
   intro Y1 Z hZ;refine ⟨Y1 ++ [.rw (.agg 38 ((l ++ l2).map (.int .i64)))], Z, .sl (.loc (L.length + Y1.length)) [] 0 (l ++ l2).length none 10, ?_, .loc Y1 [] _ none rfl rfl, fun _ => ⟨Y1, rfl, rfl⟩, fun n => by rw [List.all_append, hZ, Bool.true_and]; simp only [List.all_cons, List.all_nil, Bool.and_true]; rw [Bm, q8, Ej]; rfl⟩;simp
  rw [key];cases h with
  | nil =>
   simp only [km, uE, zQ];exact hfin Y X hY
  | hp X1 X2 l c hX hc =>
   subst hX hc;have hat : (⟨L ++ Y, H ++ (X1 ++ .rw (.agg 38 (l.map (.int .i64))) :: X2)⟩ : St).at (.hp (H.length + X1.length)) = some (.rw (.agg 38 (l.map (.int .i64)))) := by
    show (H ++ (X1 ++ _ :: X2))[H.length + X1.length]? = _;rw [← List.append_assoc, ← List.length_append, List.getElem?_append_right (Nat.le_refl _), Nat.sub_self]; rfl
   simp only [km, Option.map_none, hat];have hset : (⟨L ++ Y, H ++ (X1 ++ .rw (.agg 38 (l.map (.int .i64))) :: X2)⟩ : St).set (.hp (H.length + X1.length)) .dead = ⟨L ++ Y, H ++ (X1 ++ .dead :: X2)⟩ := by
    show (⟨L ++ Y, (H ++ (X1 ++ _ :: X2)).set (H.length + X1.length) .dead⟩ : St) = _;rw [← List.append_assoc, ← List.length_append, List.set_append_right _ _ (Nat.le_refl _), Nat.sub_self, List.append_assoc]; rfl
   rw [hset, if_neg (by simp), if_pos trivial];simp only [uE, zQ];exact hfin Y (X1 ++ .dead :: X2) hY
  | loc Y1 Y2 l c hY hc =>
   subst hY hc;have hat : (⟨L ++ (Y1 ++ .rw (.agg 38 (l.map (.int .i64))) :: Y2), H ++ X⟩ : St).at (.loc (L.length + Y1.length)) = some (.rw (.agg 38 (l.map (.int .i64)))) := by
    show (L ++ (Y1 ++ _ :: Y2))[L.length + Y1.length]? = _;rw [← List.append_assoc, ← List.length_append, List.getElem?_append_right (Nat.le_refl _), Nat.sub_self]; rfl
   simp only [km, Option.map_none, hat];have hset : (⟨L ++ (Y1 ++ .rw (.agg 38 (l.map (.int .i64))) :: Y2), H ++ X⟩ : St).set (.loc (L.length + Y1.length)) .dead = ⟨L ++ (Y1 ++ .dead :: Y2), H ++ X⟩ := by
    show (⟨(L ++ (Y1 ++ _ :: Y2)).set (L.length + Y1.length) .dead, H ++ X⟩ : St) = _;rw [← List.append_assoc, ← List.length_append, List.set_append_right _ _ (Nat.le_refl _), Nat.sub_self, List.append_assoc]; rfl
   rw [hset, if_neg (by simp), if_pos trivial];simp only [uE, zQ];exact hfin (Y1 ++ .dead :: Y2) X fun n => by
    have := hY n;simp only [List.all_append, List.all_cons, Bool.and_eq_true] at this ⊢;exact ⟨this.1, xN, this.2.2⟩
def AF.fr0 (A : AF) (ls : List Int) (k : Nat) : AF := { A with st := fun j => if j < A.f + k ∧ A.f ≤ j ∧ (j : Int) ∉ ls ∧ A.st j = 1 then 0 else A.st j }
theorem AF.fr0_zero {A : AF} {ls : List Int} : A.fr0 ls 0 = A := by
 unfold AF.fr0;obtain ⟨f, l, st⟩ := A;congr 1; funext j;rw [if_neg (by omega)]
theorem AF.fr0_skip {A : AF} {ls : List Int} {k : Nat} (h : ((A.f + k : Nat) : Int) ∈ ls ∨ A.st (A.f + k) ≠ 1) : A.fr0 ls (k + 1) = A.fr0 ls k := by
 unfold AF.fr0;congr 1; funext j;by_cases e : j = A.f + k
 ·subst e;rw [if_neg (fun hh => by rcases h with h | h; exact hh.2.2.1 h; exact h hh.2.2.2), if_neg (by omega)]
 ·have : (j < A.f + (k + 1)) ↔ (j < A.f + k) := by omega
  simp only [this]
theorem AF.fr0_put {A : AF} {ls : List Int} {k : Nat} (h1 : ((A.f + k : Nat) : Int) ∉ ls) (h2 : A.st (A.f + k) = 1) : A.fr0 ls (k + 1) = (A.fr0 ls k).put (A.f + k) 0 := by
 unfold AF.fr0 AF.put;congr 1; funext j;by_cases e : j = A.f + k
 ·subst e;rw [aq, if_pos ⟨by omega, by omega, h1, h2⟩]
 ·rw [aB e];have : (j < A.f + (k + 1)) ↔ (j < A.f + k) := by omega
  simp only [this]
theorem AF.fr0_turn {A : AF} {ls : List Int} {k : Nat} (hk : A.f + k < A.l) (h1 : ((A.f + k : Nat) : Int) ∉ ls) : ((A.fr0 ls k).turn ((A.f + k : Nat) : Int) 1 0).1 = A.fr0 ls (k + 1) := by
 have e : (A.fr0 ls k).state ((A.f + k : Nat) : Int) = A.st (A.f + k) := by
  rw [kx (by simp only [AF.fr0]; omega) (by simp only [AF.fr0]; omega), Int.toNat_natCast];simp only [AF.fr0];rw [if_neg (by omega)]
 unfold AF.turn;rw [e];by_cases h2 : A.st (A.f + k) = 1
 ·rw [if_neg (by omega), if_neg (by simp [h2]), Int.toNat_natCast, fr0_put h1 h2]
 ·rw [fr0_skip (.inr h2)];split
  ·rfl
  ·rfl
section
variable {hp hp' : List Blk} {Fm : Ft} {b m fr c : Nat} {x : AS}
theorem sB {ls : List Int} {v : V} (L Y : List Blk) (hY : ∀ n, Y.all (bu n) = true) (hls : ls.length < 1000) (hrs : ∀ hp, RS ⟨L ++ Y, hp⟩ 10 v (ls.map (.int .i64))) {A0 : AF} (ok0 : A0.Ok) (hs2 : ∀ j, A0.st j ≠ 2) :
 ∀ (n k : Nat) {hp : List Blk} {x : AS}, A0.f + k + n = A0.l → x.A = A0.fr0 ls k → bg hp Fm b m fr c x →
 ∃ hp' i, rc D L.length (.loop [0, 2, 3] bB) [(0, .ptr (.hp b) [] 31), (2, v), (3, .int .i64 k)] ⟨L ++ Y, hp⟩ =
  some (.exit 0, [(0, .ptr (.hp b) [] 31), (2, v), (3, .int .i64 i), (29, .bool false)], ⟨L ++ Y, hp'⟩) ∧ bg hp' Fm b m fr c { x with A := A0.fr0 ls (A0.l - A0.f) } ∧ Chg hp hp' (FtQ fr c) (FtQ fr c)
 | 0, k, hp, x, hk, hA, h => by
  have ek : k = A0.l - A0.f := by omega
  obtain ⟨S, q1, q2, q3, q4⟩ := h.fq.row;have h' : bg hp Fm b m fr c { x with A := A0.fr0 ls (A0.l - A0.f) } := by rw [← ek, ← hA]; exact h
  refine ⟨hp, k, ?_, h', .refl _ _⟩;have hst := h.st;have hlen : S.length = k := by rw [q3, hA]; simp only [AF.fr0]; omega
  have d1 : ¬ (k : Int) < (S.length : Int) := by omega
  rw [ak];simp only [AS.r, aW.v, rfV] at *;simp only [go_sem, bB, hst, q1, d1]
 | n + 1, k, hp, x, hk, hA, h => by
  have hst := h.st;obtain ⟨S, q1, q2, q3, q4⟩ := h.fq.row;have hlen : S.length = A0.l - A0.f := by rw [q3, hA]; rfl
  have hxf : x.A.f = A0.f := by rw [hA]; rfl
  have l1 := ok0.l1;have d1 : (k : Int) < (S.length : Int) := by omega
  have d4 : IntKind.i64.wrap ((k : Int) + 1) = ((k + 1 : Nat) : Int) := ag (by omega) (by omega);have d5 : IntKind.i64.wrap ((x.A.f : Int) + (k : Int)) = ((A0.f + k : Nat) : Int) := by rw [hxf, ag (by omega) (by omega)]; omega
  have hin := Bb (hrs hp) hls ((A0.f + k : Nat) : Int);have hvl : v.locLt (L.length + Y.length) = true := by rw [← List.length_append]; exact (hrs hp).locLt
  by_cases hm : ((A0.f + k : Nat) : Int) ∈ ls
  ·obtain ⟨hp2, i, e1, e2, e3⟩ := sB L Y hY hls hrs ok0 hs2 n (k + 1) (x := x) (by omega) (by rw [hA, AF.fr0_skip (.inl hm)]) h;refine ⟨hp2, i, ?_, e2, e3⟩;rw [← e1, ak];simp only [hm, decide_true] at hin;simp only [AS.r, aW.v, rfV] at *;simp only [go_sem, bB, hst, q1, d1, d5, hin, d4, hvl, hY, Bool.and_self]
  ·obtain ⟨hp1, e1, e2, e3⟩ := xL h.fq ((A0.f + k : Nat) : Int) (by omega) (L ++ Y);have hA1 : (x.A.turn ((A0.f + k : Nat) : Int) 1 0).1 = A0.fr0 ls (k + 1) := by rw [hA]; exact AF.fr0_turn (by omega) hm
   rw [hA1] at e2;have h1 := h.setA e2 e3 (fun j => by simp only [AF.fr0]; have := hs2 j; split <;> omega) (by rw [hA]; rfl) (by rw [hA]; rfl);obtain ⟨hp2, i, g1, g2, g3⟩ := sB L Y hY hls hrs ok0 hs2 n (k + 1) (x := { x with A := A0.fr0 ls (k + 1) }) (by omega) rfl h1;refine ⟨hp2, i, ?_, g2, e3.trans g3⟩;rw [← g1, ak];simp only [hm, decide_false] at hin;simp only [AS.r, aW.v, rfV] at *;simp only [go_sem, bB, hst, q1, d1, d5, hin, d4, hvl, e1, hY, Bool.and_self]
theorem HY {x : AS} {j : Nat} : ((j : Int) ∈ aF x.base 0 49 ++ aF x.work 0 49 ++ du x.dir 0 8) ↔ (bP x.base j || bP x.work j || qm x.dir j) = true := by
 have hl : ∀ t : Nat → Ent, ((j : Int) ∈ aF t 0 49) ↔ bP t j = true := fun t => by
  rw [pv];unfold bP;simp only [List.any_eq_true, List.mem_range, Bool.and_eq_true, decide_eq_true_eq, Nat.zero_le, true_and, Nat.zero_add]
 have hd : ((j : Int) ∈ du x.dir 0 8) ↔ qm x.dir j = true := by
  unfold qm;simp only [List.any_eq_true, List.mem_range, decide_eq_true_eq];have key : ∀ (n i : Nat), (j : Int) ∈ du x.dir i n ↔ ∃ k, i ≤ k ∧ k < i + n ∧ x.dir k = j := by
   intro n
   induction n with
   | zero => intro i; simp only [du, List.not_mem_nil, false_iff]; rintro ⟨k, h1, h2, _⟩; omega
   | succ n ih =>
    intro i;simp only [du, List.mem_cons, ih];constructor
    ·rintro (e | ⟨k, h1, h2, h3⟩)
     ·exact ⟨i, Nat.le_refl _, by omega, e.symm⟩
     ·exact ⟨k, by omega, by omega, h3⟩
    ·rintro ⟨k, h1, h2, h3⟩;by_cases e : k = i
     ·subst e; exact .inl h3.symm
     ·exact .inr ⟨k, by omega, by omega, h3⟩
  rw [key];simp only [Nat.zero_le, true_and, Nat.zero_add]
 rw [List.mem_append, List.mem_append, hl, hl, hd, Bool.or_eq_true, Bool.or_eq_true]
theorem Ht {x : AS} (h : x.Ok) : x.A.fr0 (aF x.base 0 49 ++ aF x.work 0 49 ++ du x.dir 0 8) (x.A.l - x.A.f) = x.freed.A := by
 have hfl := h.A.fl;unfold AF.fr0 AS.freed;simp only;congr 1; funext j;have hi := fX (A := x.A) (j := j);have hm := HY (x := x) (j := j);have e1 : (j < x.A.f + (x.A.l - x.A.f) ∧ x.A.f ≤ j ∧ (j : Int) ∉ aF x.base 0 49 ++ aF x.work 0 49 ++ du x.dir 0 8 ∧ x.A.st j = 1) ↔ (x.A.inr j && !(bP x.base j || bP x.work j || qm x.dir j) && decide (x.A.st j = 1)) = true := by
  rw [hm, Bool.and_eq_true, Bool.and_eq_true, decide_eq_true_eq, hi, Bool.not_eq_true'];constructor
  ·rintro ⟨h1, h2, h3, h4⟩;exact ⟨⟨⟨h2, by omega⟩, by simpa using h3⟩, h4⟩
  ·rintro ⟨⟨⟨h1, h2⟩, h3⟩, h4⟩;exact ⟨by omega, h1, by rw [h3]; simp, h4⟩
 by_cases c1 : j < x.A.f + (x.A.l - x.A.f) ∧ x.A.f ≤ j ∧ (j : Int) ∉ aF x.base 0 49 ++ aF x.work 0 49 ++ du x.dir 0 8 ∧ x.A.st j = 1
 ·rw [if_pos c1, if_pos (e1.1 c1)]
 ·rw [if_neg c1, if_neg fun hh => c1 (e1.2 hh)]
theorem xC (h : bg hp Fm b m fr c x) (L : List Blk) :
 ∃ hp', rf D eV [.ptr (.hp b) [] 31] ⟨L, hp⟩ = some (.tup [], ⟨L, hp'⟩) ∧ bg hp' Fm b m fr c x.freed ∧ Chg hp hp' (bR b fr c Fm) (bR b fr c Fm) := by
 obtain ⟨X1, v1, a1, e1⟩ := oN x.base ⟨L, hp⟩;obtain ⟨X2, v2, a2, e2⟩ := oN x.work ⟨L, hp ++ X1⟩;have l1 := jz x.base 49 0;have l2 := jz x.work 49 0;have n1 : Nw L hp [] (X1 ++ X2) v1 (aF x.base 0 49) := a1.nw X2;have y2 := a2.elems (loc := L);have w2 : v2 = .nils ∨ ∃ a p o n c, v2 = .sl a p o n c 10 := by
  rcases a2.at' with ⟨_, rfl⟩ | ⟨Y, _, rfl⟩
  ·exact .inl rfl
  ·exact .inr ⟨_, _, _, _, _, rfl⟩
 obtain ⟨Y3, X3, v3, e3, n3, _, p3⟩ := n1.push (fun _ => rfl) w2 (by rw [List.append_nil, ← List.append_assoc]; exact y2) (by omega) L.length;rw [List.append_nil] at e3;have hX3 : bg (hp ++ X3) Fm b m fr c x := h.more X3;have hst3 := hX3.st;have hd : St.elems ⟨L ++ Y3, hp ++ X3⟩ (.sl (.hp b) [4] 0 8 (some 8) 10) = some ((du x.dir 0 8).map (.int .i64)) := by
  simp only [AS.r, aW.v] at hst3;simp only [ao, Ob] at hst3;simp only [go_sem, hst3];rfl
 obtain ⟨Y4, X4, v4, e4, n4, f4, p4⟩ := n3.push p3 (.inr ⟨_, _, _, _, _, rfl⟩) hd (by rw [List.length_append, qb]; omega) L.length;obtain ⟨Y5, rfl, rfl⟩ := f4 (by intro h; cases h);have hX4 : bg (hp ++ X4) Fm b m fr c x := h.more X4;have hls : (aF x.base 0 49 ++ aF x.work 0 49 ++ du x.dir 0 8).length < 1000 := by rw [List.length_append, List.length_append, qb]; omega
 have hfr := Ht h.ok;have hfd : x.freed = { x with A := x.freed.A } := rfl;generalize hgl : aF x.base 0 49 ++ aF x.work 0 49 ++ du x.dir 0 8 = ls at *;obtain ⟨hp', i, q1, q2, q3⟩ := sB (b := b) (m := m) (fr := fr) (c := c) (ls := ls) (v := .sl (.loc (L.length + Y5.length)) [] 0 ls.length none 10) L (Y5 ++ [.rw (.agg 38 (ls.map (.int .i64)))]) p4 hls
  (fun H => by
   have := RS.at_loc (L := L ++ (Y5 ++ [.rw (.agg 38 (ls.map (.int .i64)))])) (hp := H) (i := L.length + Y5.length) (r := 38) (e := 10) (n := ls.length) (l := ls.map (.int .i64)) (by rw [← List.append_assoc, ← List.length_append, List.getElem?_append_right (Nat.le_refl _), Nat.sub_self]; rfl) (by simp) (cp := none) (by intro c hc; cases hc);exact this)
  h.ok.A h.ok.s2 (x.A.l - x.A.f) 0 (x := x) (by have := h.ok.A.fl; omega) (by rw [AF.fr0_zero]) hX4
 rw [hfr, ← hfd] at q2;rw [show ((0 : Nat) : Int) = 0 from rfl] at q1
 refine ⟨hp', ?_, q2, (sj X4).trans (uK q3)⟩;have hst := h.st;have hst1 := (h.more X1).st;simp only [AS.r, aW.v, ab, ao] at *;rw [aa oP rfl];simp only [go_sem] at *;simp only [go_sem, hst, e1, hst1, e2, e3, hst3, e4, implies_true, if_true];simp only [go_sem, q1]
theorem BA (h : bg hp Fm b m fr c x) (d : Nat → Int) (L : List Blk) :
 ∃ hp', rf D dY [.ptr (.hp b) [] 31, ao d] ⟨L, hp⟩ = some (.int .i64 (x.commit d).2, ⟨L, hp'⟩) ∧ bg hp' Fm b m fr c (x.commit d).1 ∧ Chg hp hp' (bR b fr c Fm) (bR b fr c Fm) := by
 have hst := h.st;unfold AS.commit;cases hi : x.is
 ·rw [if_neg (by simp)];refine ⟨hp, ?_, h, .refl _ _⟩;simp only [AS.r, aW.v, hi, ao] at hst ⊢;rw [aa iz rfl];simp only [go_sem, hst]
 ·rw [if_pos rfl];have h1 := h.setB (y := { x with base := x.mark, dir := d, is := false }) ⟨h.ok.M, h.ok.A, h.ok.l, h.ok.w, h.ok.k, h.ok.k, h.ok.s2⟩ rfl rfl;obtain ⟨hp', e1, e2, e3⟩ := xC h1 (L ++ [.rw (ao d)]);refine ⟨hp', ?_, e2, rV.trans e3⟩;have hs : ∀ k, (hp.set b k)[b]? = some k := fun k => List.getElem?_set_self (af hst);simp only [AS.r, aW.v, hi, ab, ao] at hst e1 ⊢;rw [aa iz rfl];simp only [go_sem, hst, hs, List.set_set];simp only [go_sem, e1]
theorem Db (h : bg hp Fm b m fr c x) (L : List Blk) :
 ∃ hp', rf D eo [.ptr (.hp b) [] 31] ⟨L, hp⟩ = some (.int .i64 x.abort.2, ⟨L, hp'⟩) ∧ bg hp' Fm b m fr c x.abort.1 ∧ Chg hp hp' (bR b fr c Fm) (bR b fr c Fm) := by
 have hst := h.st;unfold AS.abort;cases hi : x.is
 ·rw [if_neg (by simp)];refine ⟨hp, ?_, h, .refl _ _⟩;simp only [AS.r, aW.v, hi] at hst;rw [aa iS rfl];simp only [go_sem, hst]
 ·rw [if_pos rfl];have h1 := h.setB (y := { x with is := false }) ⟨h.ok.M, h.ok.A, h.ok.l, h.ok.w, h.ok.b, h.ok.k, h.ok.s2⟩ rfl rfl;obtain ⟨hp', e1, e2, e3⟩ := xC h1 L;refine ⟨hp', ?_, e2, rV.trans e3⟩;have hs : ∀ k, (hp.set b k)[b]? = some k := fun k => List.getElem?_set_self (af hst);simp only [AS.r, aW.v, hi, ab, ao] at hst e1 ⊢;rw [aa iS rfl];simp only [go_sem, hst, hs, List.set_set];simp only [go_sem, e1]
end
end Go.Proofs.YtmimfopnhmmlbaaGreatDoor
