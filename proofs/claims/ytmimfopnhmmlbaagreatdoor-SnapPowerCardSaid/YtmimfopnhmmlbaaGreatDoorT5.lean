/-
  YtmimfopnhmmlbaaGreatDoorT5: what functions of the program compute (RefC, RefD, SnpG, SnpH, SnpI, SnpJ, SnpK).
-/
import Derived.Test.YtmimfopnhmmlbaaGreatDoorT4
import Derived.Test.YtmimfopnhmmlbaaGreatDoorT1
import Derived.Test.YtmimfopnhmmlbaaGreatDoorT3
import Derived.Test.YtmimfopnhmmlbaaGreatDoorT2
set_option maxRecDepth 100000
namespace Go.Proofs.YtmimfopnhmmlbaaGreatDoor
open Go.Ab
def tt (r : Int) : Int := if eR .u32 r 1 = 1 then eX .u32 (eW .u32 r 1) 3988292384 else eW .u32 r 1
def jP : Nat → Int → Int
 | 0, r => r
 | n + 1, r => tt (jP n r)
def eO (r : Int) : List Int → Int
 | [] => r
 | b :: l => eO (jP 8 (eX .u32 r (IntKind.u32.wrap b))) l
theorem D2 (r : Int) (l : List Int) (b : Int) : eO r (l ++ [b]) = jP 8 (eX .u32 (eO r l) (IntKind.u32.wrap b)) := by
 induction l generalizing r with
 | nil => rfl
 | cons a l ih => exact ih _
theorem DQ {r : Int} {bs : List Int} {i : Nat} (hi : i < bs.length) : eO r (bs.take (i + 1)) = jP 8 (eX .u32 (eO r (bs.take i)) (IntKind.u32.wrap (bs.getD i 0))) := by
 rw [List.take_succ_eq_append_getElem hi, D2, List.getD_eq_getElem?_getD, List.getElem?_eq_getElem hi]; rfl
theorem Mt (L hp : List Blk) (v : V) (i : Int) (r : Int) (base : Nat) (hv : v.locLt L.length = true) (hL : (L.drop base).all (a8 L.length) = true) :
 rc D base (.loop [0, 1, 5, 6] bx) [(0, .int .u32 r), (1, v), (5, .int .i64 i), (6, .int .i64 0)] ⟨L, hp⟩ = some (.exit 2, [(0, .int .u32 (jP 8 r)), (1, v), (5, .int .i64 i), (6, .int .i64 8), (22, .bool false)], ⟨L, hp⟩) := by
 refine aV (fun k : Nat => [(0, .int .u32 (jP k r)), (1, v), (5, .int .i64 i), (6, .int .i64 k)]) (fun _ => ⟨L, hp⟩) (fun _ => _) (fun k => 8 - k) (fun k => k ≤ 8) 0 ?_ (by omega) rfl rfl;intro k hk;by_cases c1 : k < 8
 ·left;have d1 : (k : Int) < 8 := by omega
  have d4 : IntKind.i64.wrap ((k : Int) + 1) = (k : Int) + 1 := ag (by omega) (by omega);have d5 : ¬ (1 : Int) < 0 := by omega
  refine ⟨k + 1, by omega, by omega, rfl, ?_⟩;rw [show jP (k + 1) r = tt (jP k r) from rfl]
  generalize jP k r = q;unfold tt;by_cases h : eR .u32 q 1 = 1
  ·rw [if_pos h];simp only [go_sem, bx, d1, d4, d5, h, hv, hL];rfl
  ·rw [if_neg h];simp only [go_sem, bx, d1, d4, d5, h, hv, hL];rfl
 ·right;have : k = 8 := by omega
  subst this;simp only [go_sem, bx]
theorem BL {L hp : List Blk} {v : V} {bs : List Int} (hv : RS ⟨L, hp⟩ 12 v (bs.map (.int .u8))) (hl : bs.length < 1000) (r : Int) :
 rf D dK [.int .u32 r, v] ⟨L, hp⟩ = some (.int .u32 (eO r bs), ⟨L, hp⟩) := by
 have hsl : V.slen false v = some bs.length := by
  have := hv.slen
  rwa [List.length_map] at this
 have hvl : v.locLt L.length = true := hv.locLt;have loop : rc D L.length (.loop [0, 1, 5] bV) [(0, .int .u32 r), (1, v), (5, .int .i64 0)] ⟨L, hp⟩ =
  some (.exit 0, [(0, .int .u32 (eO r bs)), (1, v), (5, .int .i64 bs.length), (11, .bool false)], ⟨L, hp⟩) := by
  have hend : eO r (bs.take bs.length) = eO r bs := by rw [List.take_length]
  rw [← hend];refine aV (fun i : Nat => [(0, .int .u32 (eO r (bs.take i))), (1, v), (5, .int .i64 i)]) (fun _ => ⟨L, hp⟩) (fun _ => _) (fun i => bs.length - i) (fun i => i ≤ bs.length) 0 ?_ (by omega) rfl rfl;intro i hi;by_cases c1 : i < bs.length
  ·left;have d1 : (i : Int) < bs.length := by omega
   have d4 : IntKind.i64.wrap ((i : Int) + 1) = (i : Int) + 1 := ag (by omega) (by omega);have hg := aS (f := V.int .u8) (l := bs) (i := i) c1 0;have hs := hv.sadq hg (k := .i64);have hld : ldv ⟨L, hp⟩ 12 (elq v i [] 12) = V.at [] (.int .u8 (bs.getD i 0)) := hv.ldq hg;have hin := fun q => Mt L hp v i q L.length hvl (by rw [List.drop_length]; rfl);refine ⟨i + 1, by omega, by omega, rfl, ?_⟩;rw [DQ c1];generalize eO r (bs.take i) = q at *;generalize bs.getD i 0 = b at *;simp only [go_sem, bV, hsl, d1, hs, hld];simp only [go_sem, hin, d4, hvl];rfl
  ·right;have : i = bs.length := by omega
   subst this;have d1 : ¬ (bs.length : Int) < bs.length := by omega
   simp only [go_sem, bV, hsl, d1]
 rw [ae mX rfl];simp only [go_sem, loop]
theorem zu {L hp : List Blk} {v : V} {bs : List Int} (hv : RS ⟨L, hp⟩ 12 v (bs.map (.int .u8))) (hl : bs.length < 1000) :
 rf D gP [v] ⟨L, hp⟩ = some (.int .u32 (cM (eO 4294967295 bs)), ⟨L, hp⟩) := by
 have h := BL hv hl 4294967295;rw [ae pW rfl];simp only [cM] at *;simp only [go_sem, h]
def cf (l : List Int) (n : Nat) (j : Nat) : Int := if j < n then Gr (l.getD (j / 8) 0) (j % 8) else 0
theorem w5 {l : List Int} (hl : l.length = 8) (s : St) : rf D fO [lnV l] s = some (.agg 108 (tab 64 fun j => .int .u8 (cf l 64 j)), s) := by
 have hb0 : (tab 64 fun j => V.int .u8 (cf l 0 j)) = List.replicate 64 (.int .u8 0) := by
  rw [bH]; apply aE; intro j _; unfold cf; rw [if_neg (by omega)]
 have loop : rc D s.loc.length (.loop [1, 2, 3, 4] cE) [(1, .ptr (.loc s.loc.length) [] 24), (2, .ptr (.loc (s.loc.length + 1)) [] 108), (3, .ptr (.loc (s.loc.length + 2)) [] 108), (4, .int .i64 0)] ⟨s.loc ++ [.rw (lnV l), .rw (.agg 108 (List.replicate 64 (.int .u8 0))), .rw (.agg 108 (tab 64 fun j => .int .u8 (cf l 0 j)))], s.hp⟩ =
  some (.exit 0, [(1, .ptr (.loc s.loc.length) [] 24), (2, .ptr (.loc (s.loc.length + 1)) [] 108), (3, .ptr (.loc (s.loc.length + 2)) [] 108), (4, .int .i64 64), (7, .bool false)], ⟨s.loc ++ [.rw (lnV l), .rw (.agg 108 (List.replicate 64 (.int .u8 0))), .rw (.agg 108 (tab 64 fun j => .int .u8 (cf l 64 j)))], s.hp⟩) := by
  refine aV (fun i : Nat => [(1, .ptr (.loc s.loc.length) [] 24), (2, .ptr (.loc (s.loc.length + 1)) [] 108), (3, .ptr (.loc (s.loc.length + 2)) [] 108), (4, .int .i64 i)]) (fun i => ⟨s.loc ++ [.rw (lnV l), .rw (.agg 108 (List.replicate 64 (.int .u8 0))), .rw (.agg 108 (tab 64 fun j => .int .u8 (cf l i j)))], s.hp⟩) (fun _ => _) (fun i => 64 - i) (fun i => i ≤ 64) 0 ?_ (by omega) rfl rfl;intro i hi;by_cases c1 : i < 64
  ·left;have d1 : (i : Int) < 64 := by omega
   have d2 : (0 : Int) ≤ i := by omega
   have d4 : IntKind.i64.wrap ((i : Int) + 1) = (i : Int) + 1 := ag (by omega) (by omega);have e1 : (i : Int).tdiv 8 = ((i / 8 : Nat) : Int) := by rw [show (8 : Int) = ((8 : Nat) : Int) by rfl, ← Int.ofNat_tdiv]
   have e2 : (i : Int).tmod 8 = ((i % 8 : Nat) : Int) := by rw [show (8 : Int) = ((8 : Nat) : Int) by rfl, ← Int.ofNat_tmod]
   have e3 : IntKind.i64.wrap ((i / 8 : Nat) : Int) = ((i / 8 : Nat) : Int) := ag (by omega) (by omega);have e5 : IntKind.i64.wrap (8 * ((i % 8 : Nat) : Int)) = 8 * ((i % 8 : Nat) : Int) := ag (by omega) (by omega);have e6 : ¬ (8 * ((i % 8 : Nat) : Int)) < 0 := by omega
   have e7 : ((i / 8 : Nat) : Int) < 8 := by omega
   have e8 : (0 : Int) ≤ ((i / 8 : Nat) : Int) := by omega
   have g := aS (f := V.int .u64) (l := l) (i := i / 8) (by omega) 0;have g2 := al (f := fun j => V.int .u8 (cf l i j)) c1;have hup : (tab 64 fun j => V.int .u8 (cf l i j)).set i (.int .u8 (IntKind.u8.wrap (eW .u64 (l.getD (i / 8) 0) (8 * ((i % 8 : Nat) : Int))))) = tab 64 fun j => V.int .u8 (cf l (i + 1) j) := by
    rw [bA];apply aE;intro j hj;unfold upd;by_cases e : j = i
    ·subst e;rw [if_pos rfl];unfold cf;rw [if_pos (by omega)];rfl
    ·rw [if_neg e];unfold cf;by_cases h : j < i
     ·show V.int .u8 _ = V.int .u8 _;rw [if_pos h, if_pos (by omega)]
     ·show V.int .u8 _ = V.int .u8 _;rw [if_neg h, if_neg (by omega)]
   have z1 : s.loc.length < s.loc.length + 3 := by omega
   have z3 : s.loc.length + 1 < s.loc.length + 3 := by omega
   have z4 : s.loc.length + 2 < s.loc.length + 3 := by omega
   refine ⟨i + 1, by omega, by omega, rfl, ?_⟩;simp only [lnV] at *;rw [← hup];generalize (tab 64 fun j => V.int .u8 (cf l i j)) = T at *;generalize List.replicate 64 (V.int .u8 0) = T0 at *;generalize l.getD (i / 8) 0 = w at *;generalize i / 8 = p at *;generalize i % 8 = q at *;simp only [go_sem, cE, d1, d2, d4, e1, e2, e3, e5, e6, e7, e8, Int.toNat_natCast, g, g2, z1, z3, z4];rfl
  ·right;have : i = 64 := by omega
   subst this;simp only [lnV];simp only [go_sem, cE]
 rw [hb0] at loop;simp only [lnV] at *;rw [ae oY rfl];simp only [go_sem, loop]
def ot (l : List Int) : List Int := l.set 7 (ior .u64 (IntKind.u64.wrap (cM (eO 4294967295 ((List.range 56).map (cf l 64))))) 4294967296)
theorem xr (l : List Int) : (ot l).length = l.length := by unfold ot; rw [List.length_set]
theorem qV {l : List Int} (hl : l.length = 8) (s : St) : rf D gD [lnV l] s = some (lnV (ot l), s) := by
 have hb := fun L => w5 hl ⟨s.loc ++ L, s.hp⟩;have hrs : RS ⟨s.loc ++ [.rw (lnV l), .rw (.agg 24 (List.replicate 8 (.int .u64 0))), .rw (.agg 108 (tab 64 fun j => .int .u8 (cf l 64 j)))], s.hp⟩ 12 (.sl (.loc (s.loc.length + 2)) [] 0 56 (some 64) 12) (((List.range 56).map (cf l 64)).map (.int .u8)) := by
  refine .inr ⟨.loc (s.loc.length + 2), [], 0, some 64, by simp, fun c hc => by cases hc; simp, by simp [V.locLt], .inr ⟨108, tab 64 fun j => .int .u8 (cf l 64 j), ?_, fun j x hx => ?_⟩⟩
  ·simp only [go_sem]
  ·have hj : j < 56 := by
    have := (List.getElem?_eq_some_iff.1 hx).1;simpa using this
   rw [Nat.zero_add, al (by omega)];simpa [hj] using hx
 have hm := zu hrs (by simp);have g7 : (l.map (V.int .u64))[7]? = some (.int .u64 (l.getD 7 0)) := aS (by omega) 0;unfold ot;generalize (List.range 56).map (cf l 64) = bs at *;have hst : (l.map (V.int .u64)).set 7 (.int .u64 (ior .u64 (IntKind.u64.wrap (cM (eO 4294967295 bs))) 4294967296)) = (l.set 7 (ior .u64 (IntKind.u64.wrap (cM (eO 4294967295 bs))) 4294967296)).map (.int .u64) := by rw [List.map_set]
 generalize cM (eO 4294967295 bs) = cc at *;simp only [lnV] at *;rw [← hst];generalize (tab 64 fun j => V.int .u8 (cf l 64 j)) = T at *;rw [ae pi rfl];simp only [go_sem, hb];simp only [go_sem, hm, g7]
end Go.Proofs.YtmimfopnhmmlbaaGreatDoor
namespace Go.Proofs.YtmimfopnhmmlbaaGreatDoor
open Go.Ab
def sE (e : Ent) : Int := ((e.kind.toNat + e.ver.toNat * 16 + e.line.toNat * 268435456 : Nat) : Int)
theorem yq (e : Ent) (s : St) : rf D gn [e.v] s = some (.tup [.int .u64 (if bF e = true then sE e else 0), .int .i64 (if bF e = true then 0 else 1)], s) := by
 obtain ⟨k, v, l⟩ := e;by_cases h1 : k < 0
 ·have hb : bF ⟨k, v, l⟩ = false := by unfold bF win; simp only; rw [decide_eq_false (show ¬ (0 : Int) ≤ k by omega)]; rfl
  rw [hb];simp only [Ent.v];rw [ae bc rfl];simp only [go_sem, h1]
 ·by_cases h2 : k > 4
  ·have hb : bF ⟨k, v, l⟩ = false := by unfold bF win; simp only; rw [decide_eq_false (show ¬ k ≤ 4 by omega)]; simp
   rw [hb];simp only [Ent.v];rw [ae bc rfl];simp only [go_sem, h1, h2]
  ·by_cases h3 : v < 0
   ·have hb : bF ⟨k, v, l⟩ = false := by unfold bF win; simp only; rw [decide_eq_false (show ¬ (0 : Int) ≤ v by omega)]; simp
    rw [hb];simp only [Ent.v];rw [ae bc rfl];simp only [go_sem, h1, h2, h3]
   ·by_cases h4 : v > 16777215
    ·have hb : bF ⟨k, v, l⟩ = false := by unfold bF win; simp only; rw [decide_eq_false (show ¬ v ≤ 16777215 by omega)]; simp
     rw [hb];simp only [Ent.v];rw [ae bc rfl];simp only [go_sem, h1, h2, h3, h4]
    ·by_cases h5 : l < 0
     ·have hb : bF ⟨k, v, l⟩ = false := by unfold bF win; simp only; rw [decide_eq_false (show ¬ (0 : Int) ≤ l by omega)]; simp
      rw [hb];simp only [Ent.v];rw [ae bc rfl];simp only [go_sem, h1, h2, h3, h4, h5]
     ·by_cases h6 : l ≥ 1024
      ·have hb : bF ⟨k, v, l⟩ = false := by unfold bF win; simp only; rw [decide_eq_false (show ¬ l ≤ 1023 by omega)]; simp
       rw [hb];simp only [Ent.v];rw [ae bc rfl];simp only [go_sem, h1, h2, h3, h4, h5, h6]
      ·have hw : win k 0 4 = true ∧ win v 0 16777215 = true ∧ win l 0 1023 = true := by
        unfold win;refine ⟨?_, ?_, ?_⟩ <;> (rw [Bool.and_eq_true, decide_eq_true_eq, decide_eq_true_eq]; omega)
       by_cases h7 : k = 0 ∧ l ≠ 0
       ·have hb : bF ⟨k, v, l⟩ = false := by unfold bF; simp only; rw [hw.1, hw.2.1, hw.2.2, h7.1]; simp [h7.2]
        rw [hb];obtain ⟨rfl, h8⟩ := h7;simp only [Ent.v];rw [ae bc rfl];simp only [go_sem, h3, h4, h5, h6, h8]
       ·have hb : bF ⟨k, v, l⟩ = true := by
         unfold bF; simp only; rw [hw.1, hw.2.1, hw.2.2];simp only [Bool.true_and, Bool.not_eq_true', Bool.and_eq_false_iff, decide_eq_false_iff_not];by_cases hk : k = 0
         ·right; intro h; exact h7 ⟨hk, h⟩
         ·left; exact hk
        rw [hb];obtain ⟨kn, rfl⟩ : ∃ n : Nat, k = n := ⟨k.toNat, by omega⟩;obtain ⟨vn, rfl⟩ : ∃ n : Nat, v = n := ⟨v.toNat, by omega⟩;obtain ⟨ln, rfl⟩ : ∃ n : Nat, l = n := ⟨l.toNat, by omega⟩;have u : ∀ n : Nat, n < 16777216 → IntKind.u64.wrap (n : Int) = n := fun n hn => eD (by omega) (by omega);have w1 := fun s => xa (w := 0) (a := 0) (b := 4) (v := kn) (by decide) (by decide) (by decide) (by omega) s;have w2 := fun s => xa (w := kn) (a := 4) (b := 24) (v := vn) (by decide) (by decide) (by omega) (by omega) s;have w3 := fun s => xa (w := kn + vn * 16) (a := 28) (b := 16) (v := ln) (by decide) (by decide) (by omega) (by omega) s;have u1 := u kn (by omega);have u2 := u vn (by omega);have u3 := u ln (by omega);have n7 : ¬ ((kn : Int) = 0 ∧ (ln : Int) ≠ 0) := h7;simp only [if_true, sE, Int.toNat_natCast];rw [show (0 + kn * 2 ^ 0 : Nat) = kn by omega] at w1;rw [show (kn + vn * 2 ^ 4 : Nat) = kn + vn * 16 by omega] at w2;rw [show (kn + vn * 16 + ln * 2 ^ 28 : Nat) = kn + vn * 16 + ln * 268435456 by omega] at w3;rw [show ((0 : Nat) : Int) = 0 from rfl] at w1
        generalize kn + vn * 16 + ln * 268435456 = rr at *;generalize kn + vn * 16 = qq at *;have w1 : ∀ s, rf D bI [.int .u64 0, .int .i64 0, .int .i64 4, .int .u64 (kn : Int)] s = some (.tup [.int .u64 (kn : Int), .int .i64 0], s) := w1;have w2 : ∀ s, rf D bI [.int .u64 (kn : Int), .int .i64 4, .int .i64 24, .int .u64 (vn : Int)] s = some (.tup [.int .u64 (qq : Int), .int .i64 0], s) := w2;have w3 : ∀ s, rf D bI [.int .u64 (qq : Int), .int .i64 28, .int .i64 16, .int .u64 (ln : Int)] s = some (.tup [.int .u64 (rr : Int), .int .i64 0], s) := w3;simp only [Ent.v];rw [ae bc rfl];by_cases hk : (kn : Int) = 0
        ·have hl : (ln : Int) = 0 := by
          by_cases h : (ln : Int) = 0
          ·exact h
          ·exact absurd ⟨hk, h⟩ n7
         rw [hk] at w1 w2 u1 ⊢;rw [hl] at w3 u3 ⊢;simp only [go_sem, h3, h4, u1, u2, u3, w1, w2, w3]
        ·simp only [go_sem, h1, h2, h3, h4, h5, h6, hk, u1, u2, u3, w1, w2, w3]
def iC (t : Nat → Ent) (k i : Nat) : List Int := (List.range 8).map fun j => if j < i then sE (t (7 * k + j)) else 0
theorem uG (t : Nat → Ent) (k i : Nat) : (iC t k i).length = 8 := by simp [iC]
theorem JF {t : Nat → Ent} {k i : Nat} (hi : i < 7) : (iC t k i).set i (sE (t (7 * k + i))) = iC t k (i + 1) := by
 apply List.ext_getElem?;intro j;unfold iC;by_cases e : i = j
 ·subst e;rw [List.getElem?_set_self (by simp; omega)];simp [show i < 8 by omega]
 ·rw [List.getElem?_set_ne e];simp only [List.getElem?_map];by_cases hj : j < 8
  ·simp only [List.getElem?_range hj, Option.map_some];by_cases h : j < i
   ·rw [if_pos h, if_pos (by omega)]
   ·rw [if_neg h, if_neg (by omega)]
  ·rw [List.getElem?_eq_none (by simp; omega)]; rfl
def kW (t : Nat → Ent) (k : Nat) : List Int := if dE t k 0 7 = true then ot (iC t k 7) else zl
theorem EZ (t : Nat → Ent) (k : Nat) : (kW t k).length = 8 := by
 unfold kW;split
 ·rw [xr, uG]
 ·rfl
theorem u4 (t : Nat → Ent) {k : Nat} (hk : k < 7) (L hp : List Blk) : ∀ (n i : Nat), i + n = 7 → ∃ r,
 rc D L.length (.loop [1, 2, 4, 6, 7] bR) [(1, .int .i64 k), (2, .ptr (.loc L.length) [] 48), (4, .ptr (.loc (L.length + 1)) [] 24), (6, .ptr (.loc (L.length + 2)) [] 24), (7, .int .i64 i)] ⟨L ++ [.rw (ab t), .rw (lnV zl), .rw (lnV (iC t k i))], hp⟩ = some r ∧
 ((dE t k i n = true ∧ r = (.exit 0, [(1, .int .i64 k), (2, .ptr (.loc L.length) [] 48), (4, .ptr (.loc (L.length + 1)) [] 24), (6, .ptr (.loc (L.length + 2)) [] 24), (7, .int .i64 7), (19, .bool false)], ⟨L ++ [.rw (ab t), .rw (lnV zl), .rw (lnV (iC t k 7))], hp⟩)) ∨
  (dE t k i n = false ∧ ∃ X, r = (.ret, [(4, .ptr (.loc (L.length + 1)) [] 24), (5, .int .i64 1)], ⟨L ++ [.rw (ab t), .rw (lnV zl), X], hp⟩)))
 | 0, i, hi => by
  have : i = 7 := by omega
  subst this;refine ⟨_, ?_, .inl ⟨rfl, rfl⟩⟩;rw [ah];simp only [ab, lnV];simp only [go_sem, bR]
 | n + 1, i, hi => by
  have d1 : (i : Int) < 7 := by omega
  have d2 : (0 : Int) ≤ i := by omega
  have d3 : (i : Int) < 8 := by omega
  have d4 : IntKind.i64.wrap ((i : Int) + 1) = ((i + 1 : Nat) : Int) := ag (by omega) (by omega);have e1 : IntKind.i64.wrap (7 * (k : Int)) = 7 * k := ag (by omega) (by omega);have e3 : IntKind.i64.wrap (7 * (k : Int) + i) = ((7 * k + i : Nat) : Int) := by rw [ag (by omega) (by omega)]; omega
  have e5 : ((7 * k + i : Nat) : Int) < 49 := by omega
  have e6 : (0 : Int) ≤ ((7 * k + i : Nat) : Int) := by omega
  have g1 := al (f := fun j => (t j).v) (show 7 * k + i < 49 by omega);have hw := fun s => yq (t (7 * k + i)) s;have g2 : ((iC t k i).map (V.int .u64))[i]? = some (.int .u64 ((iC t k i).getD i 0)) := aS (by rw [uG]; omega) 0;have z1 : L.length < L.length + 3 := by omega
  have z3 : L.length + 1 < L.length + 3 := by omega
  have z4 : L.length + 2 < L.length + 3 := by omega
  rw [tQ];cases hb : bF (t (7 * k + i))
  ·refine ⟨_, ?_, .inr ⟨by rw [Bool.false_and], .rw (lnV (iC t k i)), rfl⟩⟩;rw [hb] at hw;simp only [Bool.false_eq_true, if_false] at hw;have hz : (zl.map (V.int .u64)) = List.replicate 8 (.int .u64 0) := rfl;rw [ah];simp only [ab, lnV, Ent.v, hz] at *;generalize (tab 49 fun j => V.agg 42 [.int .i64 (t j).kind, .int .i64 (t j).ver, .int .i64 (t j).line]) = T at *;generalize 7 * k + i = p at *;generalize (iC t k i).map (V.int .u64) = LF at *;simp only [go_sem, bR, d1, e1, e3, e5, e6, Int.toNat_natCast, g1, hw]
  ·obtain ⟨r, q1, q2⟩ := u4 t hk L hp n (i + 1) (by omega);refine ⟨r, ?_, by rw [Bool.true_and]; exact q2⟩;rw [hb] at hw;simp only [if_true] at hw;have hs : ((iC t k i).map (V.int .u64)).set i (.int .u64 (sE (t (7 * k + i)))) = (iC t k (i + 1)).map (V.int .u64) := by rw [← JF (by omega), List.map_set]
   rw [← q1, ah];simp only [ab, lnV, Ent.v] at *;rw [← hs];generalize (tab 49 fun j => V.agg 42 [.int .i64 (t j).kind, .int .i64 (t j).ver, .int .i64 (t j).line]) = T at *;generalize sE (t (7 * k + i)) = w at *;generalize 7 * k + i = p at *;generalize (iC t k i).map (V.int .u64) = LF at *;generalize (iC t k i).getD i 0 = w0 at *;simp only [go_sem, bR, d1, d2, d3, d4, e1, e3, e5, e6, Int.toNat_natCast, g1, g2, hw, z1, z3, z4]
theorem yD (t : Nat → Ent) {k : Nat} (hk : k < 7) (s : St) : rf D fX [ab t, .int .i64 k] s = some (.tup [lnV (kW t k), .int .i64 (if dE t k 0 7 = true then 0 else 1)], s) := by
 obtain ⟨r, q1, q2⟩ := u4 t hk s.loc s.hp 7 0 rfl;have d1 : ¬ (k : Int) < 0 := by omega
 have d2 : ¬ (k : Int) ≥ 7 := by omega
 have h0 : iC t k 0 = zl := rfl;rw [show ((0 : Nat) : Int) = 0 from rfl, h0] at q1
 have hseal := fun s => qV (uG t k 7) s;have hz : (zl.map (V.int .u64)) = List.replicate 8 (.int .u64 0) := rfl;unfold kW;rcases q2 with ⟨c, rfl⟩ | ⟨c, X, rfl⟩
 ·rw [c, if_pos rfl, if_pos rfl];simp only [ab, lnV, hz] at *;rw [ae ku rfl];simp only [go_sem, d1, d2, q1];simp only [go_sem, hseal]
 ·rw [c, if_neg (by simp), if_neg (by simp)];simp only [ab, lnV, hz] at *;rw [ae ku rfl];simp only [go_sem, d1, d2, q1]
def gA (d : Nat → Int) (i : Nat) : List Int := (List.range 8).map fun j => if j < i then ior .u64 (IntKind.u64.wrap (d j)) 4294967296 else 0
theorem uR (d : Nat → Int) (i : Nat) : (gA d i).length = 8 := by simp [gA]
theorem Kb {d : Nat → Int} {i : Nat} (hi : i < 7) : (gA d i).set i (ior .u64 (IntKind.u64.wrap (d i)) 4294967296) = gA d (i + 1) := by
 apply List.ext_getElem?;intro j;unfold gA;by_cases e : i = j
 ·subst e;rw [List.getElem?_set_self (by simp; omega)];simp [show i < 8 by omega]
 ·rw [List.getElem?_set_ne e];simp only [List.getElem?_map];by_cases hj : j < 8
  ·simp only [List.getElem?_range hj, Option.map_some];by_cases h : j < i
   ·rw [if_pos h, if_pos (by omega)]
   ·rw [if_neg h, if_neg (by omega)]
  ·rw [List.getElem?_eq_none (by simp; omega)]; rfl
def kZ (d : Nat → Int) : List Int := if dh d 0 7 = true then ot (gA d 7) else zl
theorem DF (d : Nat → Int) : (kZ d).length = 8 := by
 unfold kZ;split
 ·rw [xr, uR]
 ·rfl
theorem uZ (d : Nat → Int) (L hp : List Blk) : ∀ (n i : Nat), i + n = 7 → ∃ r,
 rc D L.length (.loop [1, 2, 4, 5] bz) [(1, .ptr (.loc L.length) [] 60), (2, .ptr (.loc (L.length + 1)) [] 24), (4, .ptr (.loc (L.length + 2)) [] 24), (5, .int .i64 i)] ⟨L ++ [.rw (d7V d), .rw (lnV zl), .rw (lnV (gA d i))], hp⟩ = some r ∧
 ((dh d i n = true ∧ r = (.exit 0, [(1, .ptr (.loc L.length) [] 60), (2, .ptr (.loc (L.length + 1)) [] 24), (4, .ptr (.loc (L.length + 2)) [] 24), (5, .int .i64 7), (8, .bool false)], ⟨L ++ [.rw (d7V d), .rw (lnV zl), .rw (lnV (gA d 7))], hp⟩)) ∨
  (dh d i n = false ∧ ∃ X, r = (.ret, [(2, .ptr (.loc (L.length + 1)) [] 24), (3, .int .i64 1)], ⟨L ++ [.rw (d7V d), .rw (lnV zl), X], hp⟩)))
 | 0, i, hi => by
  have : i = 7 := by omega
  subst this;refine ⟨_, ?_, .inl ⟨rfl, rfl⟩⟩;rw [ah];simp only [d7V, lnV];simp only [go_sem, bz]
 | n + 1, i, hi => by
  have d1 : (i : Int) < 7 := by omega
  have d2 : (0 : Int) ≤ i := by omega
  have d3 : (i : Int) < 8 := by omega
  have d4 : IntKind.i64.wrap ((i : Int) + 1) = ((i + 1 : Nat) : Int) := ag (by omega) (by omega);have g1 := al (f := fun j => V.int .i64 (d j)) (show i < 7 by omega);have g2 : ((gA d i).map (V.int .u64))[i]? = some (.int .u64 ((gA d i).getD i 0)) := aS (by rw [uR]; omega) 0;have z1 : L.length < L.length + 3 := by omega
  have z3 : L.length + 1 < L.length + 3 := by omega
  have z4 : L.length + 2 < L.length + 3 := by omega
  have hs : ((gA d i).map (V.int .u64)).set i (.int .u64 (ior .u64 (IntKind.u64.wrap (d i)) 4294967296)) = (gA d (i + 1)).map (V.int .u64) := by rw [← Kb (by omega), List.map_set]
  rw [tM];by_cases h0 : d i < 0
  ·refine ⟨_, ?_, .inr ⟨by rw [decide_eq_false (show ¬ 0 ≤ d i by omega)]; rfl, .rw (lnV (gA d i)), rfl⟩⟩;have hz : (zl.map (V.int .u64)) = List.replicate 8 (.int .u64 0) := rfl;rw [ah];simp only [d7V, lnV, hz] at *;generalize (tab 7 fun j => V.int .i64 (d j)) = T at *;generalize (gA d i).map (V.int .u64) = LF at *;simp only [go_sem, bz, d1, d2, Int.toNat_natCast, g1, h0]
  ·by_cases h1 : d i < 1024
   ·obtain ⟨r, q1, q2⟩ := uZ d L hp n (i + 1) (by omega);refine ⟨r, ?_, by rw [decide_eq_true (show 0 ≤ d i by omega), decide_eq_true h1]; exact q2⟩;have h1' : ¬ d i ≥ 1024 := by omega
    rw [← q1, ah];simp only [d7V, lnV] at *;rw [← hs];generalize (tab 7 fun j => V.int .i64 (d j)) = T at *;generalize (gA d i).map (V.int .u64) = LF at *;generalize (gA d i).getD i 0 = w0 at *;generalize d i = di at *;simp only [go_sem, bz, d1, d2, d3, d4, Int.toNat_natCast, g1, g2, h0, h1', z1, z3, z4]
   ·refine ⟨_, ?_, .inr ⟨by rw [decide_eq_false h1, Bool.and_false]; rfl, .rw (lnV (gA d i)), rfl⟩⟩;have hz : (zl.map (V.int .u64)) = List.replicate 8 (.int .u64 0) := rfl;have h1' : d i ≥ 1024 := by omega
    rw [ah];simp only [d7V, lnV, hz] at *;generalize (tab 7 fun j => V.int .i64 (d j)) = T at *;generalize (gA d i).map (V.int .u64) = LF at *;generalize d i = di at *;simp only [go_sem, bz, d1, d2, Int.toNat_natCast, g1, h0, h1']
theorem yv (d : Nat → Int) (s : St) : rf D gk [d7V d] s = some (.tup [lnV (kZ d), .int .i64 (if dh d 0 7 = true then 0 else 1)], s) := by
 obtain ⟨r, q1, q2⟩ := uZ d s.loc s.hp 7 0 rfl;have h0 : gA d 0 = zl := rfl;rw [show ((0 : Nat) : Int) = 0 from rfl, h0] at q1
 have hseal := fun s => qV (uR d 7) s;have hz : (zl.map (V.int .u64)) = List.replicate 8 (.int .u64 0) := rfl;unfold kZ;rcases q2 with ⟨c, rfl⟩ | ⟨c, X, rfl⟩
 ·rw [c, if_pos rfl, if_pos rfl];simp only [d7V, lnV, hz] at *;rw [ae ke rfl];simp only [go_sem, q1];simp only [go_sem, hseal]
 ·rw [c, if_neg (by simp), if_neg (by simp)];simp only [d7V, lnV, hz] at *;rw [ae ke rfl];simp only [go_sem, q1]
end Go.Proofs.YtmimfopnhmmlbaaGreatDoor
namespace Go.Proofs.YtmimfopnhmmlbaaGreatDoor
open Go.Ab
theorem mf (c n : Int) (h0 : -9223372036854775808 ≤ c) (h1 : c ≤ 9223372036854775807) (hn : 0 < n) (s : St) : rf D gc [.int .i64 c, .int .i64 n] s = some (.int .i64 (kd c n), s) := by
 have hn0 : ¬ n = 0 := by omega
 unfold kd;rw [ae pu rfl];by_cases hc : c < 0
 ·have w1 : IntKind.i64.wrap (c + 1) = c + 1 := ag (by omega) (by omega);have w2 : IntKind.i64.wrap (0 - (c + 1)) = -(c + 1) := by rw [ag (by omega) (by omega)]; omega
  have w3 : (-(c + 1)).tmod n = (-(c + 1)) % n := Int.tmod_eq_emod_of_nonneg (by omega);simp only [go_sem, hc, w1, w2, hn0, w3]
 ·have w3 : c.tmod n = c % n := Int.tmod_eq_emod_of_nonneg (by omega);simp only [go_sem, hc, hn0, w3]
theorem wg (c : Nat) (hc : c ≤ 49) (s : St) : rf D fK [.int .i64 c] s = some (ab (ay c), s) := by
 have z1 : V.agg 48 (List.replicate 49 (.agg 42 [.int .i64 0, .int .i64 0, .int .i64 0])) = ab fun _ => az := by rw [bH]; rfl
 have loop : rc D s.loc.length (.loop [0, 2, 3, 4] cB) [(0, .int .i64 c), (2, .ptr (.loc s.loc.length) [] 48), (3, .ptr (.loc (s.loc.length + 1)) [] 48), (4, .int .i64 0)] ⟨s.loc ++ [.rw (ab fun _ => az), .rw (ab fun _ => az)], s.hp⟩ =
  some (.exit 0, [(0, .int .i64 c), (2, .ptr (.loc s.loc.length) [] 48), (3, .ptr (.loc (s.loc.length + 1)) [] 48), (4, .int .i64 c), (12, .bool false)], ⟨s.loc ++ [.rw (ab fun _ => az), .rw (ab (ay c))], s.hp⟩) := by
  refine aV (fun x : Nat => [(0, .int .i64 c), (2, .ptr (.loc s.loc.length) [] 48), (3, .ptr (.loc (s.loc.length + 1)) [] 48), (4, .int .i64 x)]) (fun x => ⟨s.loc ++ [.rw (ab fun _ => az), .rw (ab (ay x))], s.hp⟩) (fun _ => _) (fun x => c - x) (fun x => x ≤ c) 0 ?_ (by omega) rfl rfl;intro i hi;by_cases c1 : i < c
  ·left;have d1 : (i : Int) < c := by omega
   have d2 : (i : Int) < 49 := by omega
   have d3 : (0 : Int) ≤ i := by omega
   have d4 : IntKind.i64.wrap ((i : Int) + 1) = (i : Int) + 1 := ag (by omega) (by omega);have w1 : (i : Int).tmod 4 = ((i % 4 : Nat) : Int) := by rw [show (4 : Int) = ((4 : Nat) : Int) by rfl, ← Int.ofNat_tmod]
   have w2 : IntKind.i64.wrap (1 + ((i % 4 : Nat) : Int)) = 1 + ((i % 4 : Nat) : Int) := ag (by omega) (by omega);have w3 : IntKind.i64.wrap (20 + (i : Int)) = 20 + (i : Int) := ag (by omega) (by omega);have z2 : s.loc.length < s.loc.length + 2 := by omega
   have z3 : s.loc.length + 1 < s.loc.length + 2 := by omega
   have hup := qf (t := ay i) (i := i) (e := ⟨1 + (i % 4 : Nat), i, 20 + i⟩);have e : (tab 49 fun j => (updE (ay i) i ⟨1 + (i % 4 : Nat), i, 20 + i⟩ j).v) = tab 49 fun j => (ay (i + 1) j).v := by
    apply aE;intro j _;unfold updE ay;by_cases h1 : j = i
    ·subst h1; rw [if_pos rfl, if_pos (by omega)]
    ·rw [if_neg h1];by_cases h2 : j < i
     ·rw [if_pos h2, if_pos (by omega)]
     ·rw [if_neg h2, if_neg (by omega)]
   rw [e] at hup;have g1 := al (f := fun j => (ay i j).v) (show i < 49 by omega);refine ⟨i + 1, by omega, by omega, rfl, ?_⟩;simp only [ab];rw [← hup];simp only [Ent.v] at *;generalize tab 49 (fun j => V.agg 42 [.int .i64 (ay i j).kind, .int .i64 (ay i j).ver, .int .i64 (ay i j).line]) = T at *;generalize tab 49 (fun _ => V.agg 42 [.int .i64 az.kind, .int .i64 az.ver, .int .i64 az.line]) = T0 at *;generalize i % 4 = im at *;simp only [go_sem, cB, d1, d2, d3, w1, w2, w3, d4, z2, z3];rw [Int.toNat_natCast];simp only [go_sem, g1, d4, z2, z3];rfl
  ·right;have : i = c := by omega
   subst this;have d1 : ¬ (i : Int) < i := by omega
   simp only [ab];simp only [go_sem, cB, d1]
 rw [ae oN rfl];simp only [ab] at *;simp only [go_sem, z1, loop]
theorem Jb : ev D 500 (.f gU []) ⟨[], [.ro bX]⟩ = some (.v (aM bf) ⟨[], [.ro bX]⟩) := by kernel_rfl
theorem IE {s : St} (h : s.hp[0]? = some (.ro bX)) : rf D gU [] s = some (aM bf, s) :=
 An (G := [.ro bX]) (fun b hb => by rw [List.mem_singleton.1 hb]; exact ⟨_, rfl, by kernel_rfl⟩) NL rfl rfl Jb (Jw h)
def b11 : Sup := ⟨1, 17, 0, 1⟩
theorem EH (s : St) : rf D fN [] s = some (b11.v, s) := by
 rw [ae oU rfl];simp only [go_sem, Sup.v, b11]
def dD (c k i : Nat) : List Int := if 10 ≤ i ∧ i < 10 + k then kW (ay c) (i - 10) else zl
def lvF (k i : Nat) : Int := if i < k then 10 + i else 0
def imL (c i : Nat) : List Int := if i = 17 then kZ (lvF 7) else dD c 7 i
theorem Ik (c k i : Nat) : (dD c k i).length = 8 := by
 unfold dD; split
 ·exact EZ _ _
 ·rfl
theorem Nk (c i : Nat) : (imL c i).length = 8 := by
 unfold imL; split
 ·exact DF _
 ·exact Ik _ _ _
theorem IW {c : Nat} {n : Nat} (hn : 64 ≤ n) (L hp : List Blk) :
 rc D L.length (.loop [5, 6, 7, 8] cH) [(5, .sl (.hp hp.length) [] 0 n (some n) 24), (6, .ptr (.loc L.length) [] 48), (7, .ptr (.loc (L.length + 1)) [] 60), (8, .int .i64 0)] ⟨L ++ [.rw (ab (ay c)), .rw (d7V fun _ => 0)], hp ++ [.rw (.agg 58 (tab n fun _ => zln))]⟩ =
  some (.exit 0, [(5, .sl (.hp hp.length) [] 0 n (some n) 24), (6, .ptr (.loc L.length) [] 48), (7, .ptr (.loc (L.length + 1)) [] 60), (8, .int .i64 7), (15, .bool false)], ⟨L ++ [.rw (ab (ay c)), .rw (d7V (lvF 7))], hp ++ [.rw (.agg 58 (tab n fun i => lnV (dD c 7 i)))]⟩) := by
 refine aV (fun x : Nat => [(5, .sl (.hp hp.length) [] 0 n (some n) 24), (6, .ptr (.loc L.length) [] 48), (7, .ptr (.loc (L.length + 1)) [] 60), (8, .int .i64 x)]) (fun x => ⟨L ++ [.rw (ab (ay c)), .rw (d7V (lvF x))], hp ++ [.rw (.agg 58 (tab n fun i => lnV (dD c x i)))]⟩) (fun _ => _) (fun x => 7 - x) (fun x => x ≤ 7) 0 ?_ (by omega) rfl ?_
 ·intro i hi;by_cases c1 : i < 7
  ·left;have d1 : (i : Int) < 7 := by omega
   have d2 : (0 : Int) ≤ i := by omega
   have d4 : IntKind.i64.wrap ((i : Int) + 1) = (i : Int) + 1 := ag (by omega) (by omega);have d5 : IntKind.i64.wrap (10 + (i : Int)) = ((10 + i : Nat) : Int) := by rw [ag (by omega) (by omega)]; omega
   have hlf := fun s => yD (ay c) (k := i) c1 s;have z2 : L.length < L.length + 2 := by omega
   have z3 : L.length + 1 < L.length + 2 := by omega
   have q := sY (a := .hp hp.length) (e := 24) (show 10 + i < n by omega);have e1 : (tab n fun j => lnV (dD c i j)).set (10 + i) (lnV (kW (ay c) i)) = tab n fun j => lnV (dD c (i + 1) j) := by
    rw [bA];apply aE;intro j _;unfold dD;by_cases h1 : j = 10 + i
    ·subst h1; rw [aj, if_pos (by omega), show 10 + i - 10 = i by omega]
    ·rw [ao h1];by_cases h2 : 10 ≤ j ∧ j < 10 + i
     ·rw [if_pos h2, if_pos (by omega)]
     ·rw [if_neg h2, if_neg (by omega)]
   have e2 : (tab 7 fun j => V.int .i64 (lvF i j)).set i (.int .i64 ((10 + i : Nat) : Int)) = tab 7 fun j => .int .i64 (lvF (i + 1) j) := by
    rw [bA];apply aE;intro j _;unfold lvF;by_cases h1 : j = i
    ·subst h1; rw [aj, if_pos (by omega)]; rfl
    ·rw [ao h1];by_cases h2 : j < i
     ·rw [if_pos h2, if_pos (by omega)]
     ·rw [if_neg h2, if_neg (by omega)]
   have g1 := al (f := fun j => lnV (dD c i j)) (show 10 + i < n by omega);have g2 := al (f := fun j => V.int .i64 (lvF i j)) (show i < 7 by omega);refine ⟨i + 1, by omega, by omega, rfl, ?_⟩;simp only [d7V];rw [← e1, ← e2];simp only [ab, Ent.v] at *;generalize tab 49 (fun j => V.agg 42 [.int .i64 (ay c j).kind, .int .i64 (ay c j).ver, .int .i64 (ay c j).line]) = T at *;generalize tab n (fun j => lnV (dD c i j)) = T1 at *;generalize tab 7 (fun j => V.int .i64 (lvF i j)) = T2 at *;generalize kW (ay c) i = rl at *;generalize dD c i (10 + i) = rl2 at *;simp only [lnV] at *;simp only [go_sem, cH, d1, d2, d5, hlf, q, g1, z2, z3];rw [Int.toNat_natCast];simp only [go_sem, g2, d4, z2, z3];rfl
  ·right;have : i = 7 := by omega
   subst this;simp only [ab, d7V];simp only [go_sem, cH]
 ·have e1 : (tab n fun i => lnV (dD c 0 i)) = tab n fun _ => zln := aE fun j _ => by unfold dD; rw [if_neg (by omega)]; rfl
  have e2 : d7V (lvF 0) = d7V fun _ => 0 := by unfold d7V; congr 1
  rw [e1, e2]
theorem D1 {c n : Nat} (hc : c ≤ 49) (hn : 64 ≤ n) (hn1 : n ≤ 1024) (L hp : List Blk) : rf D fF [.int .i64 n, .int .i64 c] ⟨L, hp⟩ =
 some (.sl (.hp hp.length) [] 0 n (some n) 24, ⟨L, hp ++ [.rw (.agg 58 (tab n fun i => lnV (imL c i)))]⟩) := by
 have loop := IW (c := c) hn L hp;have ht := fun s => wg c hc s;have hr := fun s => yv (lvF 7) s;have c3 : (0 : Int) ≤ n := by omega
 have hm : (n : Int) ≤ (eI : Nat) := by unfold eI; omega
 have q := sY (a := .hp hp.length) (e := 24) (show 17 < n by omega);have q : jS 24 (.sl (.hp hp.length) [] 0 n (some n) 24) (.int .i64 17) = some (.ptr (.hp hp.length) [17] 24) := q;have g1 := al (f := fun j => lnV (dD c 7 j)) (show 17 < n by omega);have e1 : (tab n fun j => lnV (dD c 7 j)).set 17 (lnV (kZ (lvF 7))) = tab n fun j => lnV (imL c j) := by
  rw [bA];apply aE;intro j _;unfold imL;by_cases h1 : j = 17
  ·subst h1; rw [aj, if_pos rfl]
  ·rw [ao h1, if_neg h1]
 have e2 : V.agg 60 (List.replicate 7 (.int .i64 0)) = d7V fun _ => 0 := by rw [bH]; rfl
 have e3 : V.agg 48 (List.replicate 49 (.agg 42 [.int .i64 0, .int .i64 0, .int .i64 0])) = ab fun _ => az := by rw [bH]; rfl
 rw [ae o9 rfl, ← e1];simp only [zln] at loop;rw [← bH] at loop;generalize tab n (fun j => lnV (dD c 7 j)) = T1 at *;generalize kZ (lvF 7) = rr at *;generalize dD c 7 17 = r2 at *;simp only [lnV, ab, d7V] at *;simp only [go_sem, c3, hm, Int.le_refl, Int.toNat_natCast, ht, e2, e3, loop, hr, q, g1]
end Go.Proofs.YtmimfopnhmmlbaaGreatDoor
namespace Go.Proofs.YtmimfopnhmmlbaaGreatDoor
open Go.Ab
theorem Ee {n a : Nat} {ls : Nat → List Int} (h0 : 64 ≤ n) (h1 : n ≤ 1024) (L hp : List Blk) (hs : hp[a]? = some (.rw (.agg 58 (tab n fun i => lnV (ls i))))) : rf D ql [.sl (.hp a) [] 0 n (some n) 24] ⟨L, hp⟩ =
 some (.tup [.ptr (.hp (hp.length + 1)) [] 59, .int .i64 0], ⟨L, hp ++ [.rw (.agg 57 (tab n fun i => nlV (lnV (ls i)) (lnV (ls i)) .nils zfl)), .rw (uK hp.length n false false 0 0)]⟩) := by
 have hal := au hs;have hnew := fun L2 => DR h0 h1 ⟨L2, hp⟩;have hs2 : ∀ X, (hp ++ X)[a]? = some (.rw (.agg 58 (tab n fun i => lnV (ls i)))) := fun X => by rw [List.getElem?_append_left hal]; exact hs
 have loop : rc D L.length (.loop [4, 17, 18, 19] nc) [(4, .ptr (.hp (hp.length + 1)) [] 59), (17, .sl (.hp a) [] 0 n (some n) 24), (18, .int .i64 n), (19, .int .i64 0)]
  ⟨L, hp ++ [.rw (.agg 57 (tab n fun _ => nlV zln zln .nils zfl)), .rw (uK hp.length n false false 0 0)]⟩ =
  some (.exit 0, [(4, .ptr (.hp (hp.length + 1)) [] 59), (17, .sl (.hp a) [] 0 n (some n) 24), (18, .int .i64 n), (19, .int .i64 n), (20, .bool false)],
   ⟨L, hp ++ [.rw (.agg 57 (tab n fun i => nlV (lnV (ls i)) (lnV (ls i)) .nils zfl)), .rw (uK hp.length n false false 0 0)]⟩) := by
  refine aV (fun x : Nat => [(4, .ptr (.hp (hp.length + 1)) [] 59), (17, .sl (.hp a) [] 0 n (some n) 24), (18, .int .i64 n), (19, .int .i64 x)])
   (fun x => ⟨L, hp ++ [.rw (.agg 57 (tab n fun i => if i < x then nlV (lnV (ls i)) (lnV (ls i)) .nils zfl else nlV zln zln .nils zfl)), .rw (uK hp.length n false false 0 0)]⟩) (fun _ => _) (fun x => n - x) (fun x => x ≤ n) 0 ?_ (by omega) rfl (by simp)
  intro i hi;by_cases c1 : i < n
  ·left;have d1 : (i : Int) < n := by omega
   have d2 : (0 : Int) ≤ i := by omega
   have d4 : IntKind.i64.wrap ((i : Int) + 1) = (i : Int) + 1 := ag (by omega) (by omega);have g1 := al (f := fun i => lnV (ls i)) c1;have g2 := al (f := fun j => if j < i then nlV (lnV (ls j)) (lnV (ls j)) .nils zfl else nlV zln zln .nils zfl) c1
   simp only [Nat.lt_irrefl, if_false] at g2;have hset : tab n (upd (fun j => if j < i then nlV (lnV (ls j)) (lnV (ls j)) .nils zfl else nlV zln zln .nils zfl) i (nlV (lnV (ls i)) (lnV (ls i)) .nils zfl)) = tab n fun j => if j < i + 1 then nlV (lnV (ls j)) (lnV (ls j)) .nils zfl else nlV zln zln .nils zfl := by
    apply aE;intro j _;by_cases e : j = i
    ·subst e; simp [upd]
    ·rw [ao e];by_cases h2 : j < i
     ·rw [if_pos h2, if_pos (by omega)]
     ·rw [if_neg h2, if_neg (by omega)]
   refine ⟨i + 1, by omega, by omega, rfl, ?_⟩;rw [← hset, ← bA];have hT : ∀ v, ((tab n fun j => if j < i then nlV (lnV (ls j)) (lnV (ls j)) .nils zfl else nlV zln zln .nils zfl).set i v)[i]? = some v := fun v => List.getElem?_set_self (by rw [dt]; exact c1)
   generalize tab n (fun j => if j < i then nlV (lnV (ls j)) (lnV (ls j)) .nils zfl else nlV zln zln .nils zfl) = T at *
   generalize tab n (fun i => lnV (ls i)) = T2 at *;simp only [lnV, nlV, zln, zfl, uK] at *;have q1 := sY (a := .hp a) (e := 24) c1;have q2 := sY (a := .hp hp.length) (e := 55) c1;simp only [go_sem, nc, d1, d4, q1, q2, hs2, g1, g2, hT, hal, List.set_set];rfl
  ·right;have : i = n := by omega
   subst this;have d1 : ¬ (i : Int) < i := by omega
   rw [show (tab i fun j => if j < i then nlV (lnV (ls j)) (lnV (ls j)) .nils zfl else nlV zln zln .nils zfl) = tab i fun j => nlV (lnV (ls j)) (lnV (ls j)) .nils zfl from aE fun j hj => if_pos hj]
   simp only [go_sem, nc, d1]
 rw [ae IB rfl];simp only [go_sem, hnew, loop]
theorem I0 {n a : Nat} {ls : Nat → List Int} (h0 : 64 ≤ n) (h1 : n ≤ 1024) (hls : ∀ i, (ls i).length = 8) (hp : List Blk) (hs : hp[a]? = some (.rw (.agg 58 (tab n fun i => lnV (ls i))))) : ∃ more, more.length = 2 ∧ (∀ L, rf D ql [.sl (.hp a) [] 0 n (some n) 24] ⟨L, hp⟩ = some (.tup [.ptr (.hp (hp.length + 1)) [] 59, .int .i64 0], ⟨L, hp ++ more⟩)) ∧
 aY (hp ++ more) (fun j => j = hp.length ∨ j = hp.length + 1) (hp.length + 1) (am0 n ls) := by
 refine ⟨_, rfl, fun L => Ee h0 h1 L hp hs, ⟨h0, h1, fun i _ => hls i, fun _ _ d hd => (by cases hd), Int.le_refl _, fun _ _ => Int.le_refl _, Int.le_refl _, by simp [am0]⟩, fun j hj => ?_, .inr rfl, hp.length, .inl rfl, by omega, ⟨some n, 0, ?_, .inr rfl, fun h => by simp [am0] at h⟩, fun _ => .nils, fun _ => 0, ?_, fun i hi => .nil⟩
 ·simp; omega
 ·simp; rfl
 ·have e : (tab n fun i => nlV (lnV (ls i)) (lnV (ls i)) .nils zfl) = tab (am0 n ls).n fun i => plV ((am0 n ls).S i) ((am0 n ls).L i) .nils := rfl;rw [← e]; simp
theorem BV {hp : List Blk} {a m : Nat} (b : Sup) (sl : Int) (L : List Blk) : rf D qc [.ptr (.hp m) [] 59, .ptr (.hp a) [] 43, b.v, .int .i64 sl] ⟨L, hp⟩ =
 some (.ptr (.hp hp.length) [] 61, ⟨L, hp ++ [.rw (.agg 61 [.ptr (.hp m) [] 59, .ptr (.hp a) [] 43, b.v, .int .i64 sl, .nils, .int .i64 0, ab fun _ => az, aM fun _ => 0])]⟩) := by
 have e3 : V.agg 48 (List.replicate 49 (.agg 42 [.int .i64 0, .int .i64 0, .int .i64 0])) = ab fun _ => az := by rw [bH]; rfl
 have e2 : V.agg 50 (List.replicate 8 (.int .i64 0)) = aM fun _ => 0 := by rw [bH]; rfl
 rw [ae EB rfl];simp only [Sup.v, ab, aM] at *;simp only [go_sem, e2, e3]
def aw0 (x : AS) (b : Sup) (sl : Int) : AW := ⟨x, b, sl, [], 0, fun _ => az, fun _ => 0⟩
def yO : Ft := fun _ => False
theorem WkQ.fresh {hp : List Blk} {a m fr : Nat} {Fm : Ft} {x : AS} (h : aR hp Fm a m fr x) (b : Sup) (sl : Int) : WkQ (hp ++ [.rw (wkV m a .nils (aw0 x b sl))]) hp.length a m fr Fm yO .nils (aw0 x b sl) := by
 refine ⟨aR.chg h (qC hp _ fun _ => False) (fun _ h => h.elim) (fun h => h), by simp, .nil, fun hh => ?_, fun _ h => h.elim, fun h => h, fun h => h, fun _ h => h.elim⟩;have := h.inn _ hh;omega
theorem Hr {hp : List Blk} (L : List Blk) (hG : hp[0]? = some (.ro bX)) {c n : Nat} (hc : c ≤ 30) (hn : 64 ≤ n) (hn1 : n ≤ 1024) :
 ∃ hp' wk a m fr A' Fm, rf D ch [.int .i64 n, .int .i64 c] ⟨L, hp⟩ = some (.tup [.ptr (.hp m) [] 59, .ptr (.hp a) [] 43, .ptr (.hp wk) [] 61], ⟨L, hp'⟩) ∧
  WkQ hp' wk a m fr Fm yO .nils (aw0 (as0 (am0 n (imL c)) A' (ay c) bf) b11 0) ∧ Inv (as0 (am0 n (imL c)) A' (ay c) bf) ∧ A'.Two ∧ (∀ i, i < c → (as0 (am0 n (imL c)) A' (ay c) bf).own i = false) ∧
  A'.f = 10 ∧ A'.l = n ∧ (∀ j, A'.st j = if (20 ≤ j ∧ j < 20 + c) ∨ (10 ≤ j ∧ j < 18) then 1 else 0) ∧ hp <+: hp' ∧ kV hp.length (WkF wk a fr Fm yO) := by
 have hi := D1 (c := c) (by omega) hn hn1 L hp;have hs : (hp ++ [.rw (.agg 58 (tab n fun i => lnV (imL c i)))])[hp.length]? = some (.rw (.agg 58 (tab n fun i => lnV (imL c i)))) := by simp
 obtain ⟨m1, hl, hO, hM⟩ := I0 hn hn1 (Nk c) _ hs;have hG0 : 0 < hp.length := au hG;have hO := hO L;have hG1 : (hp ++ [.rw (.agg 58 (tab n fun i => lnV (imL c i)))] ++ m1)[0]? = some (.ro bX) := by rw [List.append_assoc, List.getElem?_append_left hG0]; exact hG
 have hz : ¬ (fun j => j = (hp ++ [Blk.rw (.agg 58 (tab n fun i => lnV (imL c i)))]).length ∨ j = (hp ++ [Blk.rw (.agg 58 (tab n fun i => lnV (imL c i)))]).length + 1) 0 := by
  simp only [List.length_append, List.length_singleton]; omega
 obtain ⟨A', hA, h1, h2, hst⟩ := Nq (c := c) (n := n) hc hn;obtain ⟨i1, i2, i3⟩ := PX hc hM.ok rfl hA hst;rcases Jd hM hG1 hz 10 (ay c) bf L with ⟨q, _⟩ | ⟨_, _, q, _⟩ | ⟨_, _, A2, more, q, q2, q3⟩
 ·simp only [am0] at q; omega
 ·have : (af0 10 n).takes (gH (ay c) bf) = none := q;rw [hA] at this; cases this
 ·have : (af0 10 n).takes (gH (ay c) bf) = some A2 := q;rw [hA] at this; cases this;have hW := WkQ.fresh q3 b11 0;have hN := BV (hp := hp ++ [.rw (.agg 58 (tab n fun i => lnV (imL c i)))] ++ m1 ++ more) (a := (hp ++ [Blk.rw (.agg 58 (tab n fun i => lnV (imL c i)))] ++ m1).length + 1) (m := (hp ++ [Blk.rw (.agg 58 (tab n fun i => lnV (imL c i)))]).length + 1) b11 0 L;refine ⟨_, _, _, _, _, A', _, ?_, hW, i1, i2, i3, h1, h2, hst, by rw [List.append_assoc, List.append_assoc, List.append_assoc]; exact List.prefix_append _ _, fun j hj => ?_⟩
  ·have ht := wg c (by omega);have hd := IE (s := ⟨L, hp ++ [.rw (.agg 58 (tab n fun i => lnV (imL c i)))] ++ m1⟩) hG1;have hb := EH;clear hW q3 hM hz hG1 hs;generalize hp ++ [Blk.rw (.agg 58 (tab n fun i => lnV (imL c i)))] = H1 at *;generalize H1 ++ m1 = H2 at *;generalize H2 ++ more = H3 at *;rw [ae pC rfl];simp only [go_sem, hi, hO, ht, hd, q2, hb, hN];rfl
  ·rcases hj with rfl | hj | rfl | rfl | rfl | rfl
   ·simp only [List.length_append]; omega
   ·exact hj.elim
   ·simp only [List.length_append]; omega
   ·simp only [List.length_append]; omega
   ·simp only [List.length_append]; omega
   ·simp only [List.length_append]; omega
theorem gv {hp : List Blk} {wk a m fr : Nat} {Fm Gs : Ft} {sv : V} {w : AW} (h : WkQ hp wk a m fr Fm Gs sv w) (L : List Blk) : rf D jY [.ptr (.hp wk) [] 61] ⟨L, hp⟩ = some (.int .i64 w.st.length, ⟨L, hp⟩) := by
 have hst := h.st;have hsl := h.sr.slen;simp only [wkV] at hst;rw [ae ux rfl];simp only [go_sem, hst, hsl]
theorem yp {hp : List Blk} {wk a m fr : Nat} {Fm Gs : Ft} {sv : V} {w : AW} (h : WkQ hp wk a m fr Fm Gs sv w) (L : List Blk) : rf D ju [.ptr (.hp wk) [] 61] ⟨L, hp⟩ = some (.tup [w.b.v, .int .i64 w.slot], ⟨L, hp⟩) := by
 have hst := h.st;simp only [wkV, Sup.v] at *;rw [ae tw rfl];simp only [go_sem, hst]
end Go.Proofs.YtmimfopnhmmlbaaGreatDoor
namespace Go.Proofs.YtmimfopnhmmlbaaGreatDoor
open Go.Ab
structure Cll where
 kind : Int
 id : Int
 word : Int
 v : Int
def Cll.val (o : Cll) : V := .agg 54 [.int .i64 o.kind, .int .i64 o.id, .int .i64 o.word, .int .u64 o.v]
structure Cll.Ok (o : Cll) : Prop where
 k : -9223372036854775808 ≤ o.kind ∧ o.kind ≤ 9223372036854775807
 i : -9223372036854775808 ≤ o.id ∧ o.id ≤ 9223372036854775807
 w : -9223372036854775808 ≤ o.word ∧ o.word ≤ 9223372036854775807
 u : 0 ≤ o.v ∧ o.v ≤ 18446744073709551615
theorem NB {hp : List Blk} {v : V} (h : (Sh.st 54 [.int .i64, .int .i64, .int .i64, .int .u64]).Fits hp v) : ∃ o : Cll, v = o.val ∧ o.Ok := by
 obtain ⟨vs, rfl, h⟩ := h;obtain ⟨x, r, rfl, hx, h⟩ := yE h;obtain ⟨y, z, w, rfl, hy, hz, hw⟩ := KM h;obtain ⟨k, rfl, hk⟩ := AQ hx;obtain ⟨i, rfl, hi⟩ := AQ hy;obtain ⟨q, rfl, hq⟩ := AQ hz;obtain ⟨u, rfl, hu⟩ := Qg hw;exact ⟨⟨k, i, q, u⟩, rfl, hk, hi, hq, hu⟩
def AS.change (x : AS) (o : Cll) : AS :=
 if kd o.kind 4 = 0 ∨ kd o.kind 4 = 1 then (x.set (kd o.id 20) (kd o.word 8) o.v).1 else if kd o.kind 4 = 2 then (x.make (1 + kd o.word 2)).1 else (x.ends (kd o.id 20)).1
theorem Gd {hp : List Blk} {wk a m fr : Nat} {Fm Gs : Ft} {sv : V} {w : AW} (h : WkQ hp wk a m fr Fm Gs sv w) (hc : w.x.M.count + 8 < 1000000) (hI : Inv w.x) {o : Cll} (ho : o.Ok) (L : List Blk) :
 ∃ hp' Fm', rf D eT [.ptr (.hp a) [] 43, o.val] ⟨L, hp⟩ = some (.tup [], ⟨L, hp'⟩) ∧ WkQ hp' wk a m fr Fm' Gs sv { w with x := w.x.change o } ∧ Chg hp hp' (WkF wk a fr Fm Gs) (WkF wk a fr Fm' Gs) := by
 have k1 := fun s => mf o.kind 4 ho.k.1 ho.k.2 (by decide) s;have k2 := fun s => mf o.id 20 ho.i.1 ho.i.2 (by decide) s;have k3 := fun s => mf o.word 8 ho.w.1 ho.w.2 (by decide) s;have k4 := fun s => mf o.word 2 ho.w.1 ho.w.2 (by decide) s;have r1 := iU o.kind (n := 4) (by decide);have r4 := iU o.word (n := 2) (by decide);have w1 : IntKind.i64.wrap (1 + kd o.word 2) = 1 + kd o.word 2 := ag (by omega) (by omega);have hk : o.val = o.val := rfl;unfold AS.change;by_cases c1 : kd o.kind 4 = 0 ∨ kd o.kind 4 = 1
 ·rw [if_pos c1];obtain ⟨hp', Fm', e1, e2, e3⟩ := He h.q hc (kd o.id 20) (kd o.word 8) o.v (L ++ [.rw o.val]);refine ⟨hp', Fm', ?_, h.setS e2 e3, qD e3⟩;generalize kd o.id 20 = y at *;generalize kd o.word 8 = z at *;generalize kd o.kind 4 = k at *;simp only [Cll.val] at *;rw [ae eV rfl];rcases c1 with rfl | rfl
  ·simp only [go_sem, k1, k2, k3, e1]
  ·simp only [go_sem, k1, k2, k3, e1]
 ·rw [if_neg c1];have c2 : ¬ kd o.kind 4 = 0 := fun e => c1 (.inl e);have c3 : ¬ kd o.kind 4 = 1 := fun e => c1 (.inr e);by_cases c4 : kd o.kind 4 = 2
  ·rw [if_pos c4];obtain ⟨hp', Fm', e1, e2, e3⟩ := EO h.q hc (1 + kd o.word 2) (L ++ [.rw o.val]);refine ⟨hp', Fm', ?_, h.setS e2 e3, qD e3⟩;generalize kd o.word 2 = z at *;generalize kd o.kind 4 = k at *;subst c4;simp only [Cll.val] at *;rw [ae eV rfl];simp only [go_sem, k1, k4, w1, e1]
  ·rw [if_neg c4];have c5 : kd o.kind 4 = 3 := by omega
   obtain ⟨hp', Fm', e1, e2, e3⟩ := GO h.q hI.v (kd o.id 20) (L ++ [.rw o.val]);refine ⟨hp', Fm', ?_, h.setS e2 e3, qD e3⟩;generalize kd o.id 20 = y at *;generalize kd o.kind 4 = k at *;subst c5;simp only [Cll.val] at *;rw [ae eV rfl];simp only [go_sem, k1, k2, e1]
theorem FT {A : AF} {l : Int} : A.left ≤ (A.turn l 1 0).1.left := by
 unfold AF.turn;split
 ·exact Nat.le_refl _
 ·rename_i h;split
  ·exact Nat.le_refl _
  ·obtain ⟨h1, h2⟩ := ea h;have := AF.left_put (A := A) (k := l.toNat) (x := 0) (by omega) (by omega);rw [if_pos rfl] at this;simp only;split at this <;> omega
theorem wu {x : AS} (h : Inv x) (on : x.M.On) (o : Cll) : Stp x (x.change o) ∧ x.A.left ≤ (x.change o).A.left + 1 := by
 have r2 := iU o.id (n := 20) (by decide);have r3 := iU o.word (n := 8) (by decide);have r4 := iU o.word (n := 2) (by decide);obtain ⟨i, hi⟩ : ∃ i : Nat, kd o.id 20 = i := ⟨(kd o.id 20).toNat, by omega⟩;obtain ⟨q, hq⟩ : ∃ q : Nat, kd o.word 8 = q := ⟨(kd o.word 8).toNat, by omega⟩;unfold AS.change;split
 ·rw [hi, hq];refine ⟨ME h on (by omega) (by omega) _, ?_⟩;by_cases hk : (x.work i).kind = 0
  ·have : x.set i q o.v = (x, 30) := by
    unfold AS.set;rw [if_neg (by omega), Int.toNat_natCast, if_pos hk]
   rw [this]; simp only; omega
  ·rcases uH h on (i := i) (w := q) (by omega) hk (by omega) o.v with ⟨_, _, e⟩ | ⟨y, e, hS⟩
   ·rw [e]; simp only; omega
   ·rw [e];by_cases ho : x.own i = true
    ·rw [(hS.same ho).1]; omega
    ·have := hS.left (by simpa using ho);simp only; omega
 ·split
  ·have hk : dG (1 + kd o.word 2) := by unfold dG; omega
   refine ⟨JT h on hk, ?_⟩;cases hn : nxt x.work with
   | none => rw [rA hk hn]; simp only; omega
   | some n =>
    rcases si h on hk hn with ⟨_, e⟩ | ⟨y, q', e, hM⟩
    ·rw [e]; simp only; omega
    ·rw [e];have := hM.left;simp only; omega
  ·rw [hi];refine ⟨IT h on (by omega), ?_⟩;unfold AS.ends;split
   ·simp only; omega
   ·simp only;split
    ·have := FT (A := x.A) (l := (x.work (i : Int).toNat).line);omega
    ·omega
end Go.Proofs.YtmimfopnhmmlbaaGreatDoor
namespace Go.Proofs.YtmimfopnhmmlbaaGreatDoor
open Go.Ab
section
variable {M : AM}
theorem mU (h : M.On) : M.stepped.On := ⟨h.off, by unfold AM.stepped; simp only; rw [if_neg (by rw [h.left]; decide)]; exact h.left⟩
theorem ur (h : M.On) {i : Int} (h0 : 0 ≤ i) (h1 : i < M.n) : M.flush 0 i = (M.stepped.flushed 0 i.toNat, 0) ∧ (M.stepped.flushed 0 i.toNat).On ∧ ∀ j, (M.stepped.flushed 0 i.toNat).now j = M.now j := by
 refine ⟨?_, ⟨(mU h).off, (mU h).left⟩, fun j => AM.now_flushed⟩;unfold AM.flush;rw [if_neg (by omega), if_neg (by rw [h.dead]; decide)];rfl
theorem As (h : M.On) : M.fence 0 = (M.stepped.fencedTo 0 M.n, 0) ∧ (M.stepped.fencedTo 0 M.n).On ∧ ∀ j, (M.stepped.fencedTo 0 M.n).now j = M.now j := by
 obtain ⟨_, _, e3, e4⟩ := cV (M := M.stepped) (c := 0) M.n;refine ⟨?_, ⟨e3.trans (mU h).off, e4.trans (mU h).left⟩, fun j => oh M.n⟩;unfold AM.fence;rw [if_neg (by omega), if_neg (by rw [h.dead]; decide)];rfl
theorem Az (h : M.Ok) : (M.stepped.fencedTo 0 M.n).Ok ∧ (M.stepped.fencedTo 0 M.n).n = M.n ∧ (M.stepped.fencedTo 0 M.n).count = M.count + 1 := by
 obtain ⟨e1, e2, _, _⟩ := cV (M := M.stepped) (c := 0) M.n;exact ⟨lV h.stepped _, e1, e2⟩
theorem N9 (ok : M.Ok) (h : M.On) {s : Nat} (hs : s = 0 ∨ s = 1) {b : Sup} (hb : b.ok = true) :
 (M.wrs s b).2 = 0 ∧ (M.wrs s b).1.Ok ∧ (M.wrs s b).1.On ∧ (M.wrs s b).1.n = M.n ∧ (M.wrs s b).1.count ≤ M.count + 12 ∧ ∀ j, j ≠ s → (M.wrs s b).1.now j = M.now j := by
 have hn := ok.n0;obtain ⟨e1, e2, e3⟩ := uy h (i := s) (q := 7) (by omega) (by decide) 0;have e1 : (M.store (s : Int) 7 0).2 = 0 := e1;have e2 : (M.store (s : Int) 7 0).1.On := e2;have e3 : ∀ j, (M.store (s : Int) 7 0).1.now j = if j = s then (M.now j).set 7 0 else M.now j := e3
 have n1 : (M.store (s : Int) 7 0).1.n = M.n := AM.store_n;have c1 : (M.store (s : Int) 7 0).1.count ≤ M.count + 1 := AM.store_count;have o1 : (M.store (s : Int) 7 0).1.Ok := ok.store;obtain ⟨f1, f2, f3⟩ := Hd o1 e2 (at' := s) (nM b) (by omega);have n2 : ((M.store (s : Int) 7 0).1.layFrom s (aI b) 0 8).1.n = _ := AM.layFrom_n;have c2 := AM.layFrom_count (M := (M.store (s : Int) 7 0).1) (at' := s) (l := aI b) (n := 8) (j := 0);have o2 : ((M.store (s : Int) 7 0).1.layFrom s (aI b) 0 8).1.Ok := o1.layFrom;unfold AM.wrs;rw [if_neg (by rw [hb]; simp; omega), if_neg (fun hh => hh e1)];simp only;rw [if_neg (fun hh => hh f1)];obtain ⟨g1, g2, g3⟩ := ur f2 (i := (s : Int)) (by omega) (by rw [n2, n1]; omega);rw [g1, if_neg (by simp)];simp only;have o3 : (AM.stepped ((M.store (s : Int) 7 0).1.layFrom s (aI b) 0 8).1 |>.flushed 0 (s : Int).toNat).Ok := o2.stepped.flushed _ _;obtain ⟨k1, k2, k3⟩ := As g2;obtain ⟨o4, n4, c4⟩ := Az o3;rw [k1];refine ⟨rfl, o4, k2, ?_, ?_, fun j hj => ?_⟩
 ·rw [n4]; exact n2.trans n1
 ·rw [c4];have : ((AM.stepped ((M.store (s : Int) 7 0).1.layFrom s (aI b) 0 8).1).flushed 0 (s : Int).toNat).count = ((M.store (s : Int) 7 0).1.layFrom s (aI b) 0 8).1.count + 1 := rfl;omega
 ·simp only;rw [k3, g3, f3, if_neg hj, e3, if_neg hj]
end
structure oO (b : Sup) (sl seq : Int) : Prop where
 g : 0 ≤ b.gen ∧ b.gen < 1099511627776
 c : 1 ≤ b.cores ∧ b.cores ≤ 8
 s : sl = 0 ∨ sl = 1
 q : 0 ≤ seq ∧ seq ≤ 1099511627776
structure KF (n : Nat) (p : Nat × Int) : Prop where
 k : p.1 ≤ 3
 l : p.1 = 0 → 0 ≤ p.2 ∧ p.2 < n
 f : p.1 = 1 → 0 ≤ p.2 ∧ p.2 < 7
def wrN (p : Nat × Int) : Nat := if p.1 = 1 ∨ p.1 = 2 then 1 else 0
structure Mid (x0 : AS) (b : Sup) (sl seq : Int) (w : AW) : Prop where
 inv : Inv w.x
 on : w.x.M.On
 base : w.x.base = x0.base
 mark : w.x.mark = x0.work
 is : w.x.is = true
 dir : w.x.dir = x0.dir
 n : w.x.M.n = x0.M.n
 f : w.x.A.f = 10
 now : ∀ j : Nat, w.x.sh j = true → w.x.M.now j = x0.M.now j
 tbl : w.tbl = x0.work
 b : w.b = b
 sl : w.slot = sl
 seq : w.seq = seq
 d7 : 0 ≤ w.dir 7 ∧ w.dir 7 ≤ 1023
 st : ∃ S, w.st = S ++ [(4, 0)] ∧ ∀ p ∈ S, KF x0.M.n p
theorem Mid.fit {x0 : AS} {b : Sup} {sl seq : Int} {w : AW} (h : Mid x0 b sl seq w) (hB : oO b sl seq) : w.Fit := by
 obtain ⟨S, e1, e2⟩ := h.st;refine ⟨by rw [h.b]; have := hB.g; omega, by rw [h.sl]; exact hB.s, fun p hp h1 => ?_⟩;rw [e1] at hp;rcases List.mem_append.1 hp with hp | hp
 ·exact (e2 p hp).f h1
 ·rw [List.mem_singleton.1 hp] at h1; cases h1
theorem DD {x0 : AS} {b : Sup} {sl seq : Int} {w : AW} (h : Mid x0 b sl seq w) {l : List Int} (hl : l.length = 8) {q : Nat} (hq : q < 8) :
 (w.x.A.left = 0 ∧ w.write l q = (w, 10)) ∨ ∃ k M, w.x.A.f ≤ k ∧ k < w.x.A.l ∧ w.x.A.st k = 0 ∧ w.write l q = ({ w with x := { w.x with M := M, A := w.x.A.put k 1 }, dir := upd w.dir q (k : Int) }, 0) ∧
  M.Ok ∧ M.On ∧ M.n = w.x.M.n ∧ M.count ≤ w.x.M.count + 9 ∧ ∀ i, M.now i = if i = k then l else w.x.M.now i := by
 rcases ue h.inv.ok h.on hl with ⟨e1, e2⟩ | ⟨k, M, h1, h2, h3, e, h4, h5, h6, h7⟩
 ·left;refine ⟨e1, ?_⟩;unfold AW.write;rw [e2, if_pos (by simp)]
 ·right;have hc := AS.lay_count (x := w.x) l;rw [e] at hc;have hln := h.inv.ok.l;obtain ⟨g1, g2, g3⟩ := ur h5 (i := (k : Int)) (by omega) (by omega);refine ⟨k, (M.stepped.flushed 0 (k : Int).toNat), h1, h2, h3, ?_, h4.stepped.flushed _ _, g2, h6, ?_, fun i => by rw [g3, h7]⟩
  ·unfold AW.write;rw [e];simp only [ne_eq, not_true_eq_false, if_false, g1]
  ·have : (M.stepped.flushed 0 (k : Int).toNat).count = M.count + 1 := rfl;simp only at hc;omega
theorem Mid.step {x0 : AS} {b : Sup} {sl seq : Int} {w : AW} (h : Mid x0 b sl seq w) {p : Nat × Int} {r : List (Nat × Int)} (hw : w.st = p :: r) (hr : r ≠ []) :
 (∃ w', w.step = (w', false, 0) ∧ Mid x0 b sl seq w' ∧ w'.st = r ∧ w'.x.work = w.x.work ∧ w'.x.A.left + wrN p = w.x.A.left ∧ w'.x.M.count ≤ w.x.M.count + 12 ∧ ∀ j, w.x.A.st j = 1 → w'.x.M.now j = w.x.M.now j) ∨
 (w.x.A.left = 0 ∧ wrN p = 1 ∧ w.step = ({ w with x := w.x.abort.1, st := [] }, false, 10)) := by
 obtain ⟨S, e1, e2⟩ := h.st;obtain ⟨S', rfl⟩ : ∃ S', S = p :: S' := by
  cases S with
  | nil =>
   rw [e1] at hw;simp only [List.nil_append, List.cons.injEq] at hw;exact absurd hw.2.symm hr
  | cons p' S' =>
   rw [e1] at hw;simp only [List.cons_append, List.cons.injEq] at hw;rw [hw.1]; exact ⟨S', rfl⟩
 have er : r = S' ++ [(4, 0)] := by
  rw [e1] at hw;simp only [List.cons_append, List.cons.injEq] at hw;exact hw.2.symm
 have hp := e2 p List.mem_cons_self;have hS : ∀ q ∈ S', KF x0.M.n q := fun q hq => e2 q (List.mem_cons_of_mem _ hq);have hd : decide (r = []) = false := decide_eq_false hr;have ok := h.inv.ok;have memo : ∀ M : AM, M.Ok → M.On → M.n = w.x.M.n → M.count ≤ w.x.M.count + 12 → (∀ j, M.now j = w.x.M.now j) → w.doStep p = ({ w with x := { w.x with M := M } }, 0) → wrN p = 0 →
  ∃ w', w.step = (w', false, 0) ∧ Mid x0 b sl seq w' ∧ w'.st = r ∧ w'.x.work = w.x.work ∧ w'.x.A.left + wrN p = w.x.A.left ∧ w'.x.M.count ≤ w.x.M.count + 12 ∧ ∀ j, w.x.A.st j = 1 → w'.x.M.now j = w.x.M.now j := by
  intro M h1 h2 h3 h4 h5 h6 h7;refine ⟨{ w with x := { w.x with M := M }, st := r }, ?_, ⟨h.inv.withM h1 h3, h2, h.base, h.mark, h.is, h.dir, h3.trans h.n, h.f, fun j hj => ?_, h.tbl, h.b, h.sl, h.seq, h.d7, S', er, hS⟩, rfl, rfl, ?_, h4, fun j _ => h5 j⟩
  ·unfold AW.step;rw [hw];simp only [h6, hd, if_true]
  ·simp only;rw [h5]; exact h.now j hj
  ·rw [h7]; rfl
 have wrt : ∀ (l : List Int) (q : Nat), l.length = 8 → q < 8 → w.doStep p = w.write l q → wrN p = 1 →
  (∃ w', w.step = (w', false, 0) ∧ Mid x0 b sl seq w' ∧ w'.st = r ∧ w'.x.work = w.x.work ∧ w'.x.A.left + wrN p = w.x.A.left ∧ w'.x.M.count ≤ w.x.M.count + 12 ∧ ∀ j, w.x.A.st j = 1 → w'.x.M.now j = w.x.M.now j) ∨
  (w.x.A.left = 0 ∧ wrN p = 1 ∧ w.step = ({ w with x := w.x.abort.1, st := [] }, false, 10)) := by
  intro l q hl hq h6 h7;rcases DD h hl hq with ⟨g1, g2⟩ | ⟨k, M, k1, k2, k3, k4, k5, k6, k7, k8, k9⟩
  ·right;refine ⟨g1, h7, ?_⟩;unfold AW.step;rw [hw];simp only [h6, g2];rw [if_neg (by decide), if_pos trivial]
  ·left;have hlp := AF.left_put (A := w.x.A) (k := k) (x := 1) k1 k2;rw [if_pos k3, if_neg (by decide)] at hlp;have hiv : Inv { w.x with M := M, A := w.x.A.put k 1 } := (h.inv.taken k3).withM k5 k7;have hne : ∀ j, w.x.A.st j = 1 → j ≠ k := fun j hj e => by rw [e, k3] at hj; cases hj
   refine ⟨{ w with x := { w.x with M := M, A := w.x.A.put k 1 }, dir := upd w.dir q (k : Int), st := r }, ?_, ⟨hiv, k6, h.base, h.mark, h.is, h.dir, k7.trans h.n, h.f, fun j hj => ?_, h.tbl, h.b, h.sl, h.seq, ?_, S', er, hS⟩, rfl, rfl, ?_, ?_, fun j hj => ?_⟩
   ·unfold AW.step;rw [hw];simp only [h6, k4, hd, if_true]
   ·have hj : w.x.sh j = true := hj;simp only;rw [k9, if_neg (hne j (h.inv.s1 j hj))];exact h.now j hj
   ·have := h.inv.ok.A.l1;simp only [upd];split
    ·omega
    ·exact h.d7
   ·simp only; omega
   ·simp only; omega
   ·simp only;rw [k9, if_neg (hne j hj)]
 obtain ⟨c, n⟩ := p;have hk := hp.k;simp only at hk
 match c, hp, memo, wrt with
 | 0, hp, memo, _ =>
  left;have := hp.l rfl;obtain ⟨g1, g2, g3⟩ := ur h.on (i := n) this.1 (by rw [h.n]; exact this.2);exact memo _ (ok.M.stepped.flushed _ _) g2 rfl (by show w.x.M.count + 1 ≤ _; omega) g3 (by unfold AW.doStep; simp only [g1]) rfl
 | 1, hp, _, wrt =>
  have := hp.f rfl;simp only at this;exact wrt _ n.toNat (oF _ _) (by omega) rfl rfl
 | 2, _, _, wrt => exact wrt _ 7 (sj _) (by decide) rfl rfl
 | 3, _, memo, _ =>
  left;obtain ⟨g1, g2, g3⟩ := As h.on;obtain ⟨o1, o2, o3⟩ := Az ok.M;exact memo _ o1 g2 o2 (by omega) g3 (by unfold AW.doStep; simp only [g1]) rfl
theorem Mid.last {x0 : AS} {b : Sup} {sl seq : Int} {w : AW} (h : Mid x0 b sl seq w) (hB : oO b sl seq) {p : Nat × Int} (hw : w.st = [p]) :
 ∃ M : AM, w.step = ({ w with x := (AS.commit { w.x with M := M } w.dir).1, b := w.nextB, slot := 1 - w.slot, st := [] }, true, 0) ∧ M.Ok ∧ M.On ∧ M.n = w.x.M.n ∧ M.count ≤ w.x.M.count + 12 ∧ ∀ j, 2 ≤ j → M.now j = w.x.M.now j := by
 obtain ⟨S, e1, e2⟩ := h.st;have hp : p = (4, 0) := by
  rw [e1] at hw;cases S with
  | nil => simp only [List.nil_append, List.cons.injEq, and_true] at hw; exact hw.symm
  | cons a S' => simp at hw
 have hs := hB.s;have hs' := h.sl;obtain ⟨s, hs1, hs2⟩ : ∃ s : Nat, 1 - w.slot = (s : Int) ∧ (s = 0 ∨ s = 1) := by
  rcases hs with e | e
  ·exact ⟨1, by omega, .inr rfl⟩
  ·exact ⟨0, by omega, .inl rfl⟩
 have hbo : w.nextB.ok = true := by
  have := hB.g;have := hB.c;have := hB.q;have hd := h.d7;have hb := h.b;have hq := h.seq;unfold AW.nextB Sup.ok win;simp only [hb, hq, Bool.and_eq_true, decide_eq_true_eq];omega
 obtain ⟨f1, f2, f3, f4, f5, f6⟩ := N9 h.inv.ok.M h.on hs2 hbo;rw [← hs1] at f1 f2 f3 f4 f5 f6;refine ⟨(w.x.M.wrs (1 - w.slot) w.nextB).1, ?_, f2, f3, f4, f5, fun j hj => f6 j (by omega)⟩;have hdo : w.doStep p = w.commit := by rw [hp]; rfl
 have hcm : w.commit = ({ w with x := (AS.commit { w.x with M := (w.x.M.wrs (1 - w.slot) w.nextB).1 } w.dir).1, b := w.nextB, slot := 1 - w.slot }, 0) := by
  unfold AW.commit;rw [if_neg (by simp [f1])]
 unfold AW.step;rw [hw];simp only [hdo, hcm, if_true, decide_true]
end Go.Proofs.YtmimfopnhmmlbaaGreatDoor
namespace Go.Proofs.YtmimfopnhmmlbaaGreatDoor
open Go.Ab
theorem me {t : Nat → Ent} {old : Nat → Bool} : ∀ {n : Nat} {p : Nat × Int}, p ∈ aU t old n → p.1 = 0 ∧ ∃ i, i < n ∧ (t i).kind ≠ 0 ∧ p.2 = (t i).line
 | 0, p, h => by cases h
 | n + 1, p, h => by
  simp only [aU] at h;split at h
  ·rename_i hc;rcases List.mem_append.1 h with h | h
   ·obtain ⟨h1, i, h2, h3⟩ := me h;exact ⟨h1, i, by omega, h3⟩
   ·rw [List.mem_singleton.1 h];exact ⟨rfl, n, by omega, hc.1, rfl⟩
  ·obtain ⟨h1, i, h2, h3⟩ := me h;exact ⟨h1, i, by omega, h3⟩
theorem vz {t : Nat → Ent} {f : Nat → Bool} : ∀ n, n ≤ 49 → aU t (aC t f 49) n = []
 | 0, _ => rfl
 | n + 1, h => by
  simp only [aU];rw [vz n (by omega), if_neg];rintro ⟨h1, h2⟩;rw [Dr (show n < 49 by omega) h1] at h2;cases h2
theorem Aq {t : Nat → Ent} : ∀ n, bU t t n = []
 | 0 => rfl
 | n + 1 => by
  have : oT t t n = false := by
   unfold oT;rw [oz.2 fun _ _ => rfl]; rfl
  simp only [bU, this];exact Aq n
def wrS : List (Nat × Int) → Nat
 | [] => 0
 | p :: l => wrN p + wrS l
theorem xo : ∀ l l' : List (Nat × Int), wrS (l ++ l') = wrS l + wrS l'
 | [], l' => by simp [wrS]
 | p :: l, l' => by simp only [List.cons_append, wrS, xo l l']; omega
theorem zA : ∀ {l : List (Nat × Int)}, (∀ p ∈ l, p.1 = 0) → wrS l = 0
 | [], _ => rfl
 | p :: l, h => by
  simp only [wrS];rw [zA fun q hq => h q (List.mem_cons_of_mem _ hq)];have := h p List.mem_cons_self;simp [wrN, this]
theorem FH : ∀ l : List (Nat × Int), wrS l ≤ l.length
 | [] => Nat.le_refl _
 | p :: l => by
  have := FH l;simp only [wrS, wrN, List.length_cons];split <;> omega
theorem r9 {w : AW} (h : Inv w.x) (on : w.x.M.On) (hi : w.x.is = false) (hs : w.st = []) (hf : w.x.A.f = 10) {seq : Int} (hB : oO w.b w.slot seq) (hd : 0 ≤ w.x.dir 7 ∧ w.x.dir 7 ≤ 1023) :
 w.begin seq = (w.begun seq, 0) ∧ Mid w.x w.b w.slot seq (w.begun seq) ∧ (w.begun seq).st.length ≤ 59 ∧ wrS (w.begun seq).st ≤ 8 ∧ (w.begun seq).x.work = w.x.work ∧ (w.begun seq).x.A = w.x.A ∧ (w.begun seq).x.M = w.x.M := by
 obtain ⟨m1, m2, m3, m4⟩ := vH h hi;have hg := hB.g;have hq := hB.q;have hfl := m0 w.x.work (aC w.x.base (fun _ => false) 49) 49;have hdl := pI w.x.work w.x.base 7;have hx : (w.begun seq).x = { w.x with mark := w.x.work, is := true } := by unfold AW.begun; simp only; rw [m1]
 have hst : (w.begun seq).st = aU w.x.work (aC w.x.base (fun _ => false) 49) 49 ++ (bU w.x.work w.x.base 7).map (fun k => (1, k)) ++ [(2, 0), (3, 0), (4, 0)] := rfl;refine ⟨?_, ⟨by rw [hx]; exact m2, by rw [hx]; exact on, by rw [hx], by rw [hx], by rw [hx], by rw [hx], by rw [hx], by rw [hx]; exact hf, fun j _ => by rw [hx], rfl, rfl, rfl, rfl, hd, aU w.x.work (aC w.x.base (fun _ => false) 49) 49 ++ (bU w.x.work w.x.base 7).map (fun k => (1, k)) ++ [(2, 0), (3, 0)], by rw [hst]; simp, fun p hp => ?_⟩, ?_, ?_, by rw [hx], by rw [hx], by rw [hx]⟩
 ·unfold AW.begin;rw [if_neg (by simp [hs]), if_neg (by omega), if_neg (by simp [hi])]
 ·rcases List.mem_append.1 hp with hp | hp
  ·rcases List.mem_append.1 hp with hp | hp
   ·obtain ⟨h1, i, h2, h3, h4⟩ := me hp;have := h.ok.w.inn i h2 h3;have hl := h.ok.l;exact ⟨by omega, fun _ => by rw [h4]; omega, fun h9 => by omega⟩
   ·obtain ⟨k, h1, rfl⟩ := List.mem_map.1 hp;have := tj w.x.work w.x.base 7 k h1;exact ⟨by simp only; omega, fun h9 => by simp only at h9; omega, fun _ => this⟩
  ·simp only [List.mem_cons, List.not_mem_nil, or_false] at hp;rcases hp with rfl | rfl
   ·exact ⟨by simp only; omega, fun h9 => by simp only at h9; omega, fun h9 => by simp only at h9; omega⟩
   ·exact ⟨by simp only; omega, fun h9 => by simp only at h9; omega, fun h9 => by simp only at h9; omega⟩
 ·rw [hst]; simp; omega
 ·rw [hst, xo, xo, zA fun p hp => (me hp).1];have := FH ((bU w.x.work w.x.base 7).map fun k => ((1 : Nat), k));rw [List.length_map] at this;have : wrS [(2, 0), (3, 0), (4, 0)] = 1 := by decide
  omega
theorem Kc {x : AS} {b : Sup} {sl : Int} : (aw0 x b sl).step = (aw0 x b sl, false, 3) := rfl
theorem I6 {seq : Int} (h : 0 ≤ seq ∧ seq ≤ 1099511627776) : oO b11 0 seq := ⟨by decide, by decide, .inl rfl, h⟩
theorem EA {hp : List Blk} (L : List Blk) (hG : hp[0]? = some (.ro bX)) : ∃ hp', rf D fJ [] ⟨L, hp⟩ = some (.bool true, ⟨L, hp'⟩) ∧ hp <+: hp' := by
 obtain ⟨h1, wk, a, m, fr, A', Fm, e1, W1, I1, _, _, a1, a2, a3, p1, b1⟩ := Hr (c := 3) (n := 80) L hG (by omega) (by omega) (by omega);have on0 : (am0 80 (imL 3)).On := Hf _ _;generalize hx0 : as0 (am0 80 (imL 3)) A' (ay 3) bf = x0 at *;have xM : x0.M = am0 80 (imL 3) := by rw [← hx0]; rfl
 have xA : x0.A = A' := by rw [← hx0]; rfl
 have xi : x0.is = false := by rw [← hx0]; rfl
 have xw : x0.work = ay 3 ∧ x0.base = ay 3 ∧ x0.dir = bf := by rw [← hx0]; exact ⟨rfl, rfl, rfl⟩
 have hc0 : x0.M.count = 0 := by rw [xM]; rfl
 obtain ⟨k0, k1, _, _, k4, k5, k6⟩ := r9 (w := aw0 x0 b11 0) I1 (by show x0.M.On; rw [xM]; exact on0) xi rfl (by show x0.A.f = 10; rw [xA]; exact a1) (seq := 0) (I6 (by decide)) (by show 0 ≤ x0.dir 7 ∧ x0.dir 7 ≤ 1023; rw [xw.2.2]; decide);have hst : ((aw0 x0 b11 0).begun 0).st = [(2, 0), (3, 0), (4, 0)] := by
  show aU x0.work (aC x0.base (fun _ => false) 49) 49 ++ (bU x0.work x0.base 7).map (fun k => (1, k)) ++ [(2, 0), (3, 0), (4, 0)] = _;rw [xw.1, xw.2.1, vz 49 (Nat.le_refl _), Aq]; rfl
 have hF0 : (aw0 x0 b11 0).Fit := ⟨(by decide : 0 ≤ b11.gen ∧ b11.gen ≤ 1099511627777), .inl rfl, fun p hp => by cases hp⟩;obtain ⟨h2, F2, G2, v2, e2, W2, c2⟩ := kb W1 (by show x0.M.count + 12 < _; omega) hF0 L;rw [Kc] at e2 W2;obtain ⟨h3, G3, v3, e3, W3, c3⟩ := qe W2 (-1) L;have hb3 : (aw0 x0 b11 0).begin (-1) = (aw0 x0 b11 0, 1) := by unfold AW.begin aw0; simp
 rw [hb3] at e3 W3;obtain ⟨h4, G4, v4, e4, W4, c4⟩ := qe W3 0 L;rw [k0] at e4 W4;have e5 := gv W4 L;have hB : oO b11 0 0 := I6 (by decide);have hnl : x0.A.left ≠ 0 := by
  rw [xA];have ok : A'.Ok := by rw [← xA]; exact I1.ok.A
  exact JI ok (j := 40) (by omega) (by omega) (by rw [a3, if_neg (by omega)])
 obtain ⟨w1, s1, M1, q1, _, t1, n1, _⟩ := (k1.step hst (by simp)).resolve_right fun z => by
  have z1 := z.1;rw [k5] at z1; exact hnl z1
 obtain ⟨h5, F5, G5, v5, e6, W5, c5⟩ := kb W4 (by rw [k6]; show x0.M.count + 12 < _; omega) (k1.fit hB) L;rw [s1] at e6 W5;obtain ⟨w2, s2, M2, q2, _, t2, n2, _⟩ := (M1.step q1 (by simp)).resolve_right fun z => absurd z.2.1 (by decide);obtain ⟨h6, F6, G6, v6, e7, W6, c6⟩ := kb W5 (by rw [k6] at n1; have : (aw0 x0 b11 0).x.M.count = 0 := hc0; simp only; omega) (M1.fit hB) L;simp only at e7 W6 n1;rw [s2] at e7 W6;obtain ⟨M', s3, _, _, _, _, _⟩ := M2.last hB q2;obtain ⟨h7, F7, G7, v7, e8, W7, c7⟩ := kb W6 (by rw [k6] at n1; have : (aw0 x0 b11 0).x.M.count = 0 := hc0; simp only; omega) (M2.fit hB) L;simp only at e8 W7;rw [s3] at e8 W7;have e9 := yp W7 L;have e10 := fun L => gv W7 L;refine ⟨h7, ?_, ?_⟩
 ·have hg : w2.nextB.gen = 2 := by unfold AW.nextB; simp only; rw [M2.b]; rfl
  have hsl : 1 - w2.slot = 1 := by rw [M2.sl]; rfl
  rw [hst] at e5;simp only [List.length_cons, List.length_nil] at e5 e10;have e1 : rf D ch [.int .i64 80, .int .i64 3] ⟨L, hp⟩ = some (.tup [.ptr (.hp m) [] 59, .ptr (.hp a) [] 43, .ptr (.hp wk) [] 61], ⟨L, h1⟩) := e1;simp only [Sup.v, hg, hsl] at *;clear W1 W2 W3 W4 W5 W6 W7 M1 M2 k1 c2 c3 c4 c5 c6 c7;rw [ae oW rfl];simp only [go_sem, e1, e2, e3, e4, e5, e6, e7, e8, e9, e10]
 ·have := (((((c2.trans c3).trans c4).trans c5).trans c6).trans c7).pre p1 b1;exact this.1
end Go.Proofs.YtmimfopnhmmlbaaGreatDoor
