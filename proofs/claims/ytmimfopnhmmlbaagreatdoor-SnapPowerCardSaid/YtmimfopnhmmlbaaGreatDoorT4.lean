/-
  YtmimfopnhmmlbaaGreatDoorT4: what functions of the program compute (ObjC, MemQ, MemR, CloA, MemF, CrcA, RadA, RadB, RegA, MemG, MemH, MemI, MemJ, SupA, SnpA, SnpB, SnpC, SnpD, SnpE, SnpF).
-/
import Derived.Test.YtmimfopnhmmlbaaGreatDoorT1
import Derived.Test.YtmimfopnhmmlbaaGreatDoorT2
import Derived.Test.YtmimfopnhmmlbaaGreatDoorT3
set_option maxRecDepth 100000
namespace Go.Proofs.YtmimfopnhmmlbaaGreatDoor
open Go.Ab
structure Apd (L0 : List Blk) (X : List Blk) (v : V) (l : List Int) : Prop where
 at' : (l = [] ∧ v = .nils) ∨ (∃ Y, X = Y ++ [.rw (.agg 38 (l.map (.int .i64)))] ∧ v = .sl (.hp (L0.length + Y.length)) [] 0 l.length none 10)
theorem Apd.push {L0 X : List Blk} {v : V} {l : List Int} (h : Apd L0 X v l) {loc : List Blk} (hl : l.length < 1000) (x : Int) {y : V} (hy : y = .nils ∨ ∃ a p o n c, y = .sl a p o n c 10) (hyl : St.elems ⟨loc, L0 ++ X⟩ y = some [.int .i64 x]) {base : Nat} :
 ∃ X' v', aK base true 38 10 v y ⟨loc, L0 ++ X⟩ = some (v', ⟨loc, L0 ++ X'⟩) ∧ Apd L0 X' v' (l ++ [x]) := by
 rcases h.at' with ⟨rfl, rfl⟩ | ⟨Y, rfl, rfl⟩
 ·refine ⟨X ++ [.rw (.agg 38 [.int .i64 x])], _, ?_, ⟨.inr ⟨X, rfl, rfl⟩⟩⟩;rw [I7 hy hyl (by simp) (by simp [eI]) rfl];simp only [go_sem]
 ·refine ⟨Y ++ [.dead] ++ [.rw (.agg 38 ((l ++ [x]).map (.int .i64)))], _, ?_, ⟨.inr ⟨Y ++ [.dead], rfl, rfl⟩⟩⟩;have e1 : St.elems ⟨loc, L0 ++ (Y ++ [.rw (.agg 38 (l.map (.int .i64)))])⟩ (.sl (.hp (L0.length + Y.length)) [] 0 l.length none 10) = some (l.map (.int .i64)) :=
   d9 (t := 38) (by rw [← List.append_assoc, ← List.length_append]; simp only [go_sem]) (by simp)
  have e2 : St.at ⟨loc, L0 ++ (Y ++ [.rw (.agg 38 (l.map (.int .i64)))])⟩ (.hp (L0.length + Y.length)) = some (.rw (.agg 38 (l.map (.int .i64)))) := by
   rw [← List.append_assoc, ← List.length_append]; simp [St.at]
  rw [Mq hy e1 hyl (by simp) (by simp [eI]; omega) rfl e2];have e3 : (St.set ⟨loc, L0 ++ (Y ++ [.rw (.agg 38 (l.map (.int .i64)))])⟩ (.hp (L0.length + Y.length)) .dead) = ⟨loc, L0 ++ (Y ++ [.dead])⟩ := by
   simp only [St.set];rw [← List.append_assoc, ← List.length_append, List.set_append_right _ _ (Nat.le_refl _)];simp
  rw [e3];simp only [go_sem];simp
theorem Apd.elems {L0 X : List Blk} {v : V} {l : List Int} (h : Apd L0 X v l) {loc : List Blk} : St.elems ⟨loc, L0 ++ X⟩ v = some (l.map (.int .i64)) := by
 rcases h.at' with ⟨rfl, rfl⟩ | ⟨Y, rfl, rfl⟩
 ·rfl
 ·exact d9 (t := 38) (by rw [← List.append_assoc, ← List.length_append]; simp only [go_sem]) (by simp)
end Go.Proofs.YtmimfopnhmmlbaaGreatDoor
namespace Go.Proofs.YtmimfopnhmmlbaaGreatDoor
open Go.Ab
def coV (f : Nat → Bool) : V := .agg 88 (tab 8 fun c => .bool (f c))
def Dn.v2 (d : Dn) : V := .agg 90 [.int .i64 d.w, .int .u64 d.v, coV d.cs]
structure Qr (hp : List Blk) (F : Ft) (m : Nat) (M : AM) : Prop where
 ok : M.Ok
 inn : Inn hp F
 fm : F m
 mb : ∃ k k2, F k ∧ F k2 ∧ m ≠ k ∧ m ≠ k2 ∧ k ≠ k2 ∧ hp[m]? = some (.rw (rmV k M.n k2 M.off M.left M.count)) ∧ hp[k]? = some (.rw (.agg 58 (tab M.n fun i => lnV (M.S i)))) ∧
  ∃ (sv : Nat → V) (ow : Nat → Nat), hp[k2]? = some (.rw (.agg 53 (tab M.n sv))) ∧ ∀ i, i < M.n → SlR hp (fun j => F j ∧ j ≠ m ∧ j ≠ k ∧ j ≠ k2 ∧ ow j = i) 90 92 (sv i) ((M.L i).map Dn.v2)
end Go.Proofs.YtmimfopnhmmlbaaGreatDoor
namespace Go.Proofs.YtmimfopnhmmlbaaGreatDoor
open Go.Ab
end Go.Proofs.YtmimfopnhmmlbaaGreatDoor
namespace Go.Proofs.YtmimfopnhmmlbaaGreatDoor
open Go.Ab
theorem SlR.more {hp hp' : List Blk} {G G' : Ft} {e r : Nat} {v : V} {l : List V} (h : SlR hp G e r v l) (he : ∀ j, j < hp.length → G j → hp'[j]? = hp[j]?) (hG : ∀ j, j < hp.length → G j → G' j) : SlR hp' G' e r v l := by
 cases h with
 | nil => exact .nil
 | emp a p o => exact .emp a p o
 | blk a c l hc hg hb => exact .blk a c l hc (hG a (au hb) hg) (by rw [he a (au hb) hg]; exact hb)
theorem PO {l : List Dn} : V.locLts 0 (l.map Dn.v1) = true := by
 induction l with
 | nil => rfl
 | cons d l ih =>
  simp only [List.map_cons, V.locLts, ih, Bool.and_true];rfl
end Go.Proofs.YtmimfopnhmmlbaaGreatDoor
namespace Go.Proofs.YtmimfopnhmmlbaaGreatDoor
open Go.Ab
theorem Eu {hp : List Blk} {F : Ft} {m : Nat} {M : AM} (h : aY hp F m M) (n : Int) (hn : n ≤ 9223372036854775807) (L : List Blk) :
 ∃ hp', rf D jo [.ptr (.hp m) [] 59, .int .i64 n] ⟨L, hp⟩ = some (.tup [], ⟨L, hp'⟩) ∧ aY hp' F m (M.fuse n) ∧ Chg hp hp' F F := by
 have hM := h;obtain ⟨k, fk, ne, ⟨cp, left, h1, h2, h3⟩, sv, ow, h4, h5⟩ := h.mb;have ok := h.ok;have okf : (M.fuse n).Ok := ⟨ok.n0, ok.n1, ok.l8, ok.w8, ok.c0, ok.len, by unfold AM.fuse; simp only; split <;> omega, by unfold AM.fuse; simp only; split <;> omega⟩;obtain ⟨g1, g2⟩ := hM.setm (M' := M.fuse n) (left' := n) okf rfl rfl rfl h1 (by unfold AM.fuse; simp only; split <;> omega);refine ⟨_, ?_, g1, g2⟩;have hlt := au h1;have hset : ∀ b, (hp.set m b)[m]? = some b := fun b => List.getElem?_set_self hlt;have e : decide (0 ≤ (M.fuse n).left) = decide (0 ≤ n) := by
  apply decide_eq_decide.2;unfold AM.fuse; simp only; split <;> omega
 rw [e];simp only [bv, AM.fuse] at *;rw [ae tD rfl];by_cases c1 : 0 ≤ n
 ·have c2 : n ≥ 0 := c1;simp only [go_sem, h1, hset, c1, c2, List.set_set, decide_true]
 ·have c2 : ¬ n ≥ 0 := c1;simp only [go_sem, h1, hset, c1, c2, List.set_set, decide_false]
end Go.Proofs.YtmimfopnhmmlbaaGreatDoor
namespace Go.Proofs.YtmimfopnhmmlbaaGreatDoor
open Go.Ab
def Gr (w : Int) (k : Nat) : Int := IntKind.u8.wrap (eW .u64 w (8 * (k : Int)))
def a9 (l : List Int) (i k : Nat) (j : Nat) : Int := if j / 8 < i ∨ (j / 8 = i ∧ j % 8 < k) then Gr (l.getD (j / 8) 0) (j % 8) else 0
def Bu (r : Int) : Int := eX .u32 (eW .u32 r 1) (eR .u32 3988292384 (IntKind.u32.wrap (0 - eR .u32 r 1)))
def oi : Nat → Int → Int
 | 0, r => r
 | n + 1, r => Bu (oi n r)
def gS (r : Int) : List Int → Int
 | [] => r
 | b :: l => gS (oi 8 (eX .u32 r (IntKind.u32.wrap b))) l
theorem GX (r : Int) (l : List Int) (b : Int) : gS r (l ++ [b]) = oi 8 (eX .u32 (gS r l) (IntKind.u32.wrap b)) := by
 induction l generalizing r with
 | nil => rfl
 | cons a l ih => exact ih _
theorem IY {l : List Int} (L : List Blk) (hp : List Blk) (i : Nat) (hi : i < 8) :
 rc D L.length (.loop [2, 3, 4, 5, 7, 8, 12] i7) [(2, .ptr (.loc (L.length + 1)) [] 108), (3, .ptr (.loc (L.length + 2)) [] 108), (4, .int .i64 i), (5, .int .u64 (l.getD i 0)), (7, lnV l), (8, .int .i64 i), (12, .int .i64 0)] ⟨L ++ [.rw (lnV l), .rw (.agg 108 (List.replicate 64 (.int .u8 0))), .rw (.agg 108 (tab 64 fun j => .int .u8 (a9 l i 0 j)))], hp⟩ =
  some (.exit 2, [(2, .ptr (.loc (L.length + 1)) [] 108), (3, .ptr (.loc (L.length + 2)) [] 108), (4, .int .i64 i), (5, .int .u64 (l.getD i 0)), (7, lnV l), (8, .int .i64 i), (12, .int .i64 8), (13, .bool false)], ⟨L ++ [.rw (lnV l), .rw (.agg 108 (List.replicate 64 (.int .u8 0))), .rw (.agg 108 (tab 64 fun j => .int .u8 (a9 l i 8 j)))], hp⟩) := by
 refine aV (fun k : Nat => [(2, .ptr (.loc (L.length + 1)) [] 108), (3, .ptr (.loc (L.length + 2)) [] 108), (4, .int .i64 i), (5, .int .u64 (l.getD i 0)), (7, lnV l), (8, .int .i64 i), (12, .int .i64 k)]) (fun k => ⟨L ++ [.rw (lnV l), .rw (.agg 108 (List.replicate 64 (.int .u8 0))), .rw (.agg 108 (tab 64 fun j => .int .u8 (a9 l i k j)))], hp⟩) (fun _ => _) (fun k => 8 - k) (fun k => k ≤ 8) 0 ?_ (by omega) rfl rfl;intro k hk;by_cases c1 : k < 8
 ·left;have d1 : (k : Int) < 8 := by omega
  have d4 : IntKind.i64.wrap ((k : Int) + 1) = (k : Int) + 1 := ag (by omega) (by omega);have e1 : IntKind.i64.wrap (8 * (i : Int)) = 8 * i := ag (by omega) (by omega);have e2 : IntKind.i64.wrap (8 * (k : Int)) = 8 * k := ag (by omega) (by omega);have e3 : IntKind.i64.wrap (8 * (i : Int) + k) = ((8 * i + k : Nat) : Int) := by rw [ag (by omega) (by omega)]; omega
  have e4 : ¬ (8 * (k : Int)) < 0 := by omega
  have e5 : ((8 * i + k : Nat) : Int) < 64 := by omega
  have e6 : (0 : Int) ≤ ((8 * i + k : Nat) : Int) := by omega
  have hup : (tab 64 fun j => V.int .u8 (a9 l i k j)).set (8 * i + k) (.int .u8 (IntKind.u8.wrap (eW .u64 (l.getD i 0) (8 * (k : Int))))) = tab 64 fun j => V.int .u8 (a9 l i (k + 1) j) := by
   rw [bA];apply aE;intro j hj;unfold upd;by_cases e : j = 8 * i + k
   ·subst e;rw [if_pos rfl];unfold a9;rw [show (8 * i + k) / 8 = i by omega, show (8 * i + k) % 8 = k by omega, if_pos (.inr ⟨rfl, by omega⟩)];rfl
   ·rw [if_neg e];unfold a9;by_cases h : j / 8 < i ∨ (j / 8 = i ∧ j % 8 < k)
    ·show V.int .u8 _ = V.int .u8 _;rw [if_pos h, if_pos (by omega)]
    ·show V.int .u8 _ = V.int .u8 _;rw [if_neg h, if_neg (by omega)]
  have g1 := al (f := fun j => V.int .u8 (a9 l i k j)) (show 8 * i + k < 64 by omega);have z3 : L.length + 1 < L.length + 3 := by omega
  have z4 : L.length + 2 < L.length + 3 := by omega
  refine ⟨k + 1, by omega, by omega, rfl, ?_⟩;rw [← hup];simp only [lnV] at *;generalize (tab 64 fun j => V.int .u8 (a9 l i k j)) = T at *;generalize List.replicate 64 (V.int .u8 0) = T0 at *;generalize l.getD i 0 = w at *;simp only [go_sem, i7, d1, d4, e1, e2, e3, e4, e5, e6];rw [Int.toNat_natCast];simp only [go_sem, g1, d4, z3, z4];rfl
 ·right;have : k = 8 := by omega
  subst this;simp only [lnV];simp only [go_sem, i7]
theorem yu {l : List Int} (hl : l.length = 8) (s : St) : rf D nS [lnV l] s = some (.agg 108 (tab 64 fun j => .int .u8 (a9 l 8 0 j)), s) := by
 have hb0 : (tab 64 fun j => V.int .u8 (a9 l 0 0 j)) = List.replicate 64 (.int .u8 0) := by
  rw [bH]; apply aE; intro j _; unfold a9; rw [if_neg (by omega)]
 have hstep : ∀ i, (tab 64 fun j => V.int .u8 (a9 l i 8 j)) = tab 64 fun j => V.int .u8 (a9 l (i + 1) 0 j) := fun i => by
  apply aE; intro j _;unfold a9;by_cases h : j / 8 < i + 1
  ·rw [if_pos (by omega), if_pos (.inl h)]
  ·rw [if_neg (by omega), if_neg (by omega)]
 have loop : rc D s.loc.length (.loop [2, 3, 7, 8] i5) [(2, .ptr (.loc (s.loc.length + 1)) [] 108), (3, .ptr (.loc (s.loc.length + 2)) [] 108), (7, lnV l), (8, .int .i64 0)] ⟨s.loc ++ [.rw (lnV l), .rw (.agg 108 (List.replicate 64 (.int .u8 0))), .rw (.agg 108 (tab 64 fun j => .int .u8 (a9 l 0 0 j)))], s.hp⟩ =
  some (.exit 0, [(2, .ptr (.loc (s.loc.length + 1)) [] 108), (3, .ptr (.loc (s.loc.length + 2)) [] 108), (7, lnV l), (8, .int .i64 8), (9, .bool false)], ⟨s.loc ++ [.rw (lnV l), .rw (.agg 108 (List.replicate 64 (.int .u8 0))), .rw (.agg 108 (tab 64 fun j => .int .u8 (a9 l 8 0 j)))], s.hp⟩) := by
  refine aV (fun i : Nat => [(2, .ptr (.loc (s.loc.length + 1)) [] 108), (3, .ptr (.loc (s.loc.length + 2)) [] 108), (7, lnV l), (8, .int .i64 i)]) (fun i => ⟨s.loc ++ [.rw (lnV l), .rw (.agg 108 (List.replicate 64 (.int .u8 0))), .rw (.agg 108 (tab 64 fun j => .int .u8 (a9 l i 0 j)))], s.hp⟩) (fun _ => _) (fun i => 8 - i) (fun i => i ≤ 8) 0 ?_ (by omega) rfl rfl;intro i hi;by_cases c1 : i < 8
  ·left;have d1 : (i : Int) < 8 := by omega
   have d2 : (0 : Int) ≤ i := by omega
   have d4 : IntKind.i64.wrap ((i : Int) + 1) = (i : Int) + 1 := ag (by omega) (by omega);have hin := IY (l := l) s.loc s.hp i c1;have g := aS (f := V.int .u64) (l := l) (i := i) (by omega) 0;have z3 : s.loc.length + 1 < s.loc.length + 3 := by omega
   have z4 : s.loc.length + 2 < s.loc.length + 3 := by omega
   refine ⟨i + 1, by omega, by omega, rfl, ?_⟩;rw [hstep] at hin;simp only [lnV] at *;generalize (tab 64 fun j => V.int .u8 (a9 l i 0 j)) = T at *;generalize (tab 64 fun j => V.int .u8 (a9 l (i + 1) 0 j)) = T1 at *;generalize List.replicate 64 (V.int .u8 0) = T0 at *;generalize l.getD i 0 = w at *;simp only [go_sem, i5, d1, d2, d4, Int.toNat_natCast, g, hin, z3, z4];rfl
  ·right;have : i = 8 := by omega
   subst this;simp only [lnV];simp only [go_sem, i5]
 rw [hb0] at loop;simp only [lnV] at *;rw [ae Ao rfl];simp only [go_sem, loop]
theorem ON (L hp : List Blk) (v : V) (m i : Int) (r : Int) (base : Nat) (hv : v.locLt L.length = true) (hL : (L.drop base).all (a8 L.length) = true) :
 rc D base (.loop [5, 10, 11, 12, 20] kC) [(5, .int .u32 r), (10, v), (11, .int .i64 m), (12, .int .i64 i), (20, .int .i64 0)] ⟨L, hp⟩ = some (.exit 2, [(5, .int .u32 (oi 8 r)), (10, v), (11, .int .i64 m), (12, .int .i64 i), (20, .int .i64 8), (21, .bool false)], ⟨L, hp⟩) := by
 refine aV (fun k : Nat => [(5, .int .u32 (oi k r)), (10, v), (11, .int .i64 m), (12, .int .i64 i), (20, .int .i64 k)]) (fun _ => ⟨L, hp⟩) (fun _ => _) (fun k => 8 - k) (fun k => k ≤ 8) 0 ?_ (by omega) rfl rfl;intro k hk;by_cases c1 : k < 8
 ·left;have d1 : (k : Int) < 8 := by omega
  have d4 : IntKind.i64.wrap ((k : Int) + 1) = (k : Int) + 1 := ag (by omega) (by omega);have d5 : ¬ (1 : Int) < 0 := by omega
  refine ⟨k + 1, by omega, by omega, rfl, ?_⟩;rw [show oi (k + 1) r = Bu (oi k r) from rfl]
  generalize oi k r = q;simp only [Bu];simp only [go_sem, kC, d1, d4, d5, hv, hL];rfl
 ·right;have : k = 8 := by omega
  subst this;simp only [go_sem, kC]
def cM (r : Int) : Int := eX .u32 (if IntKind.u32.signed then -1 else IntKind.u32.max) r
theorem Fi {r : Int} {bs : List Int} {i : Nat} (hi : i < bs.length) : gS r (bs.take (i + 1)) = oi 8 (eX .u32 (gS r (bs.take i)) (IntKind.u32.wrap (bs.getD i 0))) := by
 rw [List.take_succ_eq_append_getElem hi, GX, List.getD_eq_getElem?_getD, List.getElem?_eq_getElem hi]; rfl
theorem B5 {L hp : List Blk} {v : V} {bs : List Int} (hv : RS ⟨L, hp⟩ 12 v (bs.map (.int .u8))) (hl : bs.length < 1000) (r : Int) :
 rf D qk [.int .u32 r, v] ⟨L, hp⟩ = some (.int .u32 (cM (gS (cM r) bs)), ⟨L, hp⟩) := by
 have hsl : V.slen false v = some bs.length := by
  have := hv.slen
  rwa [List.length_map] at this
 have hvl : v.locLt L.length = true := hv.locLt;have loop : rc D L.length (.loop [5, 10, 11, 12] kQ) [(5, .int .u32 (cM r)), (10, v), (11, .int .i64 bs.length), (12, .int .i64 0)] ⟨L, hp⟩ =
  some (.exit 0, [(5, .int .u32 (gS (cM r) bs)), (10, v), (11, .int .i64 bs.length), (12, .int .i64 bs.length), (13, .bool false)], ⟨L, hp⟩) := by
  have hend : gS (cM r) (bs.take bs.length) = gS (cM r) bs := by rw [List.take_length]
  rw [← hend];refine aV (fun i : Nat => [(5, .int .u32 (gS (cM r) (bs.take i))), (10, v), (11, .int .i64 bs.length), (12, .int .i64 i)]) (fun _ => ⟨L, hp⟩) (fun _ => _) (fun i => bs.length - i) (fun i => i ≤ bs.length) 0 ?_ (by omega) rfl rfl;intro i hi;by_cases c1 : i < bs.length
  ·left;have d1 : (i : Int) < bs.length := by omega
   have d4 : IntKind.i64.wrap ((i : Int) + 1) = (i : Int) + 1 := ag (by omega) (by omega);have hg := aS (f := V.int .u8) (l := bs) (i := i) c1 0;have hs := hv.sadq hg (k := .i64);have hld : ldv ⟨L, hp⟩ 12 (elq v i [] 12) = V.at [] (.int .u8 (bs.getD i 0)) := hv.ldq hg;have hin := fun q => ON L hp v bs.length i q L.length hvl (by rw [List.drop_length]; rfl);refine ⟨i + 1, by omega, by omega, rfl, ?_⟩;rw [Fi c1];generalize gS (cM r) (bs.take i) = q at *;generalize bs.getD i 0 = b at *;simp only [go_sem, kQ, d1, hs, hld];simp only [go_sem, hin, d4, hvl];rfl
  ·right;have : i = bs.length := by omega
   subst this;have d1 : ¬ (bs.length : Int) < bs.length := by omega
   simp only [go_sem, kQ, d1]
 rw [ae E5 rfl];simp only [cM] at *;simp only [go_sem, hsl, loop]
theorem Ej {L hp : List Blk} {v : V} {bs : List Int} (hv : RS ⟨L, hp⟩ 12 v (bs.map (.int .u8))) (hl : bs.length < 1000) : rf D sH [v] ⟨L, hp⟩ = some (.int .u32 (cM (gS (cM 0) bs)), ⟨L, hp⟩) := by
 have h := B5 hv hl 0;rw [ae FY rfl];simp only [go_sem, h]
def i9 (l : List Int) : Int := ior .u64 4294967296 (IntKind.u64.wrap (cM (gS (cM 0) ((List.range 56).map (a9 l 8 0)))))
def bi (l : List Int) : List Int := l.set 7 (i9 l)
theorem oo (l : List Int) : (bi l).length = l.length := by unfold bi; rw [List.length_set]
theorem mc {l : List Int} (hl : l.length = 8) (s : St) : rf D qr [lnV l] s = some (lnV (bi l), s) := by
 have hb := fun L => yu hl ⟨s.loc ++ L, s.hp⟩;have hrs : RS ⟨s.loc ++ [.rw (lnV l), .rw (.agg 24 (List.replicate 8 (.int .u64 0))), .rw (.agg 108 (tab 64 fun j => .int .u8 (a9 l 8 0 j)))], s.hp⟩ 12 (.sl (.loc (s.loc.length + 2)) [] 0 56 (some 64) 12) (((List.range 56).map (a9 l 8 0)).map (.int .u8)) := by
  refine .inr ⟨.loc (s.loc.length + 2), [], 0, some 64, by simp, fun c hc => by cases hc; simp, by simp [V.locLt], .inr ⟨108, tab 64 fun j => .int .u8 (a9 l 8 0 j), ?_, fun j x hx => ?_⟩⟩
  ·simp only [go_sem]
  ·have hj : j < 56 := by
    have := (List.getElem?_eq_some_iff.1 hx).1;simpa using this
   rw [Nat.zero_add, al (by omega)];simpa [hj] using hx
 have hm := Ej hrs (by simp);have g7 : (l.map (V.int .u64))[7]? = some (.int .u64 (l.getD 7 0)) := aS (by omega) 0;unfold bi i9;generalize (List.range 56).map (a9 l 8 0) = bs at *;have hst : (l.map (V.int .u64)).set 7 (.int .u64 (ior .u64 4294967296 (IntKind.u64.wrap (cM (gS (cM 0) bs))))) = (l.set 7 (ior .u64 4294967296 (IntKind.u64.wrap (cM (gS (cM 0) bs))))).map (.int .u64) := by rw [List.map_set]
 generalize cM (gS (cM 0) bs) = cc at *;simp only [lnV] at *;rw [← hst];generalize (tab 64 fun j => V.int .u8 (a9 l 8 0 j)) = T at *;rw [ae DB rfl];simp only [go_sem, hb];simp only [go_sem, hm, g7]
end Go.Proofs.YtmimfopnhmmlbaaGreatDoor
namespace Go.Proofs.YtmimfopnhmmlbaaGreatDoor
open Go.Ab
def win (n a b : Int) : Bool := decide (a ≤ n) && decide (n ≤ b)
theorem vL (n a b : Int) (s : St) : rf D lT [.int .i64 n, .int .i64 a, .int .i64 b] s = some (.bool (win n a b), s) := by
 unfold win;rw [ae wP rfl];by_cases h1 : a ≤ n
 ·have h1' : n ≥ a := h1;simp only [go_sem, h1, h1', decide_true]
 ·have h1' : ¬ n ≥ a := h1;simp only [go_sem, h1, h1', decide_false]
def bF (e : Ent) : Bool := win e.kind 0 4 && win e.ver 0 16777215 && win e.line 0 1023 && !(decide (e.kind = 0) && decide (e.line ≠ 0))
def jQ (e : Ent) : Int := ior .u64 (ior .u64 (IntKind.u64.wrap e.kind) (lK .u64 (IntKind.u64.wrap e.ver) 4)) (lK .u64 (IntKind.u64.wrap e.line) 28)
def wZ (e : Ent) : Int × Int := if bF e = true then (jQ e, 0) else (0, 1)
theorem qR (e : Ent) (s : St) : rf D nU [e.v] s = some (.tup [.int .u64 (wZ e).1, .int .i64 (wZ e).2], s) := by
 have h := vL;have d4 : ¬ (4 : Int) < 0 := by omega
 have d28 : ¬ (28 : Int) < 0 := by omega
 obtain ⟨k, v, l⟩ := e;unfold wZ bF jQ;simp only [Ent.v];rw [ae AU rfl];generalize hA : win k 0 4 = A;generalize hB : win v 0 16777215 = B;generalize hC : win l 0 1023 = C;cases A
 ·simp only [go_sem, h, hA]
 ·cases B
  ·simp only [go_sem, h, hA, hB]
  ·cases C
   ·simp only [go_sem, h, hA, hB, hC]
   ·by_cases hk : k = 0
    ·by_cases hl : l = 0
     ·subst hk; subst hl;simp only [go_sem, h, hA, hB, hC, d4, d28, decide_true, decide_false]
     ·subst hk;simp only [go_sem, h, hA, hB, hC, hl, d4, d28, decide_true, decide_false]
    ·simp only [go_sem, h, hA, hB, hC, hk, d4, d28, decide_true, decide_false]
def lfL (t : Nat → Ent) (k i : Nat) : List Int := (List.range 8).map fun j => if j < i then jQ (t (7 * k + j)) else 0
theorem sU (t : Nat → Ent) (k i : Nat) : (lfL t k i).length = 8 := by simp [lfL]
theorem M5 {t : Nat → Ent} {k i : Nat} (hi : i < 7) : (lfL t k i).set i (jQ (t (7 * k + i))) = lfL t k (i + 1) := by
 apply List.ext_getElem?;intro j;unfold lfL;by_cases e : i = j
 ·subst e;rw [List.getElem?_set_self (by simp; omega)];simp [show i < 8 by omega]
 ·rw [List.getElem?_set_ne e];simp only [List.getElem?_map];by_cases hj : j < 8
  ·simp only [List.getElem?_range hj, Option.map_some];by_cases h : j < i
   ·rw [if_pos h, if_pos (by omega)]
   ·rw [if_neg h, if_neg (by omega)]
  ·rw [List.getElem?_eq_none (by simp; omega)]; rfl
theorem IR (t : Nat → Ent) (k : Nat) : lfL t k 0 = zl := rfl
def dE (t : Nat → Ent) (k i n : Nat) : Bool := (List.range n).all fun j => bF (t (7 * k + (i + j)))
def bg (t : Nat → Ent) (k : Nat) : List Int := if dE t k 0 7 = true then bi (lfL t k 7) else zl
theorem oF (t : Nat → Ent) (k : Nat) : (bg t k).length = 8 := by
 unfold bg;split
 ·rw [oo, sU]
 ·rfl
theorem tQ (t : Nat → Ent) (k i n : Nat) : dE t k i (n + 1) = (bF (t (7 * k + i)) && dE t k (i + 1) n) := by
 unfold dE;rw [List.range_succ_eq_map, List.all_cons, List.all_map];congr 2;funext j;simp only [Function.comp, Nat.succ_eq_add_one];rw [show i + (j + 1) = i + 1 + j by omega]
theorem yj (t : Nat → Ent) {k : Nat} (hk : k < 7) (L hp : List Blk) : ∀ (n i : Nat), i + n = 7 → ∃ r,
 rc D L.length (.loop [1, 2, 4, 6, 17] fW) [(1, .int .i64 k), (2, .ptr (.loc L.length) [] 48), (4, .ptr (.loc (L.length + 1)) [] 24), (6, .ptr (.loc (L.length + 2)) [] 24), (17, .int .i64 i)] ⟨L ++ [.rw (ab t), .rw (lnV zl), .rw (lnV (lfL t k i))], hp⟩ = some r ∧
 ((dE t k i n = true ∧ r = (.exit 0, [(1, .int .i64 k), (2, .ptr (.loc L.length) [] 48), (4, .ptr (.loc (L.length + 1)) [] 24), (6, .ptr (.loc (L.length + 2)) [] 24), (17, .int .i64 7), (18, .bool false)], ⟨L ++ [.rw (ab t), .rw (lnV zl), .rw (lnV (lfL t k 7))], hp⟩)) ∨
  (dE t k i n = false ∧ ∃ X, r = (.ret, [(4, .ptr (.loc (L.length + 1)) [] 24), (5, .int .i64 1)], ⟨L ++ [.rw (ab t), .rw (lnV zl), X], hp⟩)))
 | 0, i, hi => by
  have : i = 7 := by omega
  subst this;refine ⟨_, ?_, .inl ⟨rfl, rfl⟩⟩;rw [ah];simp only [ab, lnV];simp only [go_sem, fW]
 | n + 1, i, hi => by
  have d1 : (i : Int) < 7 := by omega
  have d2 : (0 : Int) ≤ i := by omega
  have d3 : (i : Int) < 8 := by omega
  have d4 : IntKind.i64.wrap ((i : Int) + 1) = ((i + 1 : Nat) : Int) := ag (by omega) (by omega);have e1 : IntKind.i64.wrap (7 * (k : Int)) = 7 * k := ag (by omega) (by omega);have e3 : IntKind.i64.wrap (7 * (k : Int) + i) = ((7 * k + i : Nat) : Int) := by rw [ag (by omega) (by omega)]; omega
  have e5 : ((7 * k + i : Nat) : Int) < 49 := by omega
  have e6 : (0 : Int) ≤ ((7 * k + i : Nat) : Int) := by omega
  have g1 := al (f := fun j => (t j).v) (show 7 * k + i < 49 by omega);have hw := fun s => qR (t (7 * k + i)) s;have g2 : ((lfL t k i).map (V.int .u64))[i]? = some (.int .u64 ((lfL t k i).getD i 0)) := aS (by rw [sU]; omega) 0;rw [tQ];cases hb : bF (t (7 * k + i))
  ·refine ⟨_, ?_, .inr ⟨by rw [Bool.false_and], .rw (lnV (lfL t k i)), rfl⟩⟩;unfold wZ at hw;rw [hb, if_neg (by simp)] at hw;have hz : (zl.map (V.int .u64)) = List.replicate 8 (.int .u64 0) := rfl;rw [ah];simp only [ab, lnV, Ent.v, hz] at *;generalize (tab 49 fun j => V.agg 42 [.int .i64 (t j).kind, .int .i64 (t j).ver, .int .i64 (t j).line]) = T at *;generalize 7 * k + i = p at *;generalize (lfL t k i).map (V.int .u64) = LF at *;simp only [go_sem, fW, d1, e1, e3, e5, e6, Int.toNat_natCast, g1, hw]
  ·obtain ⟨r, q1, q2⟩ := yj t hk L hp n (i + 1) (by omega);refine ⟨r, ?_, by rw [Bool.true_and]; exact q2⟩;unfold wZ at hw;rw [hb, if_pos rfl] at hw;have hs : ((lfL t k i).map (V.int .u64)).set i (.int .u64 (jQ (t (7 * k + i)))) = (lfL t k (i + 1)).map (V.int .u64) := by rw [← M5 (by omega), List.map_set]
   have z1 : L.length < L.length + 3 := by omega
   have z3 : L.length + 1 < L.length + 3 := by omega
   have z4 : L.length + 2 < L.length + 3 := by omega
   rw [← q1, ah];simp only [ab, lnV, Ent.v] at *;rw [← hs];generalize (tab 49 fun j => V.agg 42 [.int .i64 (t j).kind, .int .i64 (t j).ver, .int .i64 (t j).line]) = T at *;generalize jQ (t (7 * k + i)) = w at *;generalize 7 * k + i = p at *;generalize (lfL t k i).map (V.int .u64) = LF at *;generalize (lfL t k i).getD i 0 = w0 at *;simp only [go_sem, fW, d1, d2, d3, d4, e1, e3, e5, e6, Int.toNat_natCast, g1, g2, hw, z1, z3, z4]
theorem re (t : Nat → Ent) {k : Nat} (hk : k < 7) (s : St) : ∃ e, rf D kS [ab t, .int .i64 k] s = some (.tup [lnV (bg t k), .int .i64 e], s) := by
 obtain ⟨r, q1, q2⟩ := yj t hk s.loc s.hp 7 0 rfl;have d1 : ¬ (k : Int) < 0 := by omega
 have d2 : ¬ (k : Int) ≥ 7 := by omega
 rw [show ((0 : Nat) : Int) = 0 from rfl, IR] at q1
 have hseal := fun s => mc (sU t k 7) s;have hz : (zl.map (V.int .u64)) = List.replicate 8 (.int .u64 0) := rfl;unfold bg;rcases q2 with ⟨c, rfl⟩ | ⟨c, X, rfl⟩
 ·refine ⟨0, ?_⟩;rw [c, if_pos rfl];simp only [ab, lnV, hz] at *;rw [ae rW rfl];simp only [go_sem, d1, d2, q1];simp only [go_sem, hseal]
 ·refine ⟨1, ?_⟩;rw [c, if_neg (by simp)];simp only [ab, lnV, hz] at *;rw [ae rW rfl];simp only [go_sem, d1, d2, q1]
end Go.Proofs.YtmimfopnhmmlbaaGreatDoor
namespace Go.Proofs.YtmimfopnhmmlbaaGreatDoor
open Go.Ab
def rlL (d : Nat → Int) (i : Nat) : List Int := (List.range 8).map fun j => if j < i then ior .u64 4294967296 (IntKind.u64.wrap (d j)) else 0
theorem wQ (d : Nat → Int) (i : Nat) : (rlL d i).length = 8 := by simp [rlL]
theorem LB {d : Nat → Int} {i : Nat} (hi : i < 7) : (rlL d i).set i (ior .u64 4294967296 (IntKind.u64.wrap (d i))) = rlL d (i + 1) := by
 apply List.ext_getElem?;intro j;unfold rlL;by_cases e : i = j
 ·subst e;rw [List.getElem?_set_self (by simp; omega)];simp [show i < 8 by omega]
 ·rw [List.getElem?_set_ne e];simp only [List.getElem?_map];by_cases hj : j < 8
  ·simp only [List.getElem?_range hj, Option.map_some];by_cases h : j < i
   ·rw [if_pos h, if_pos (by omega)]
   ·rw [if_neg h, if_neg (by omega)]
  ·rw [List.getElem?_eq_none (by simp; omega)]; rfl
def dh (d : Nat → Int) (i n : Nat) : Bool := (List.range n).all fun j => decide (0 ≤ d (i + j)) && decide (d (i + j) < 1024)
def aZ (d : Nat → Int) : List Int := if dh d 0 7 = true then bi (rlL d 7) else zl
theorem sj (d : Nat → Int) : (aZ d).length = 8 := by
 unfold aZ;split
 ·rw [oo, wQ]
 ·rfl
theorem tM (d : Nat → Int) (i n : Nat) : dh d i (n + 1) = ((decide (0 ≤ d i) && decide (d i < 1024)) && dh d (i + 1) n) := by
 unfold dh;rw [List.range_succ_eq_map, List.all_cons, List.all_map];congr 2;funext j;simp only [Function.comp, Nat.succ_eq_add_one];rw [show i + (j + 1) = i + 1 + j by omega]
def d7V (d : Nat → Int) : V := .agg 60 (tab 7 fun i => .int .i64 (d i))
theorem yf (d : Nat → Int) (L hp : List Blk) (u : Blk) : ∀ (n i : Nat), i + n = 7 → ∃ r,
 rc D L.length (.loop [2, 4, 7, 8] ep) [(2, .ptr (.loc (L.length + 1)) [] 24), (4, .ptr (.loc (L.length + 2)) [] 24), (7, d7V d), (8, .int .i64 i)] ⟨L ++ [.rw (d7V d), .rw (lnV zl), .rw (lnV (rlL d i))], hp⟩ = some r ∧
 ((dh d i n = true ∧ r = (.exit 0, [(2, .ptr (.loc (L.length + 1)) [] 24), (4, .ptr (.loc (L.length + 2)) [] 24), (7, d7V d), (8, .int .i64 7), (9, .bool false)], ⟨L ++ [.rw (d7V d), .rw (lnV zl), .rw (lnV (rlL d 7))], hp⟩)) ∨
  (dh d i n = false ∧ ∃ X, r = (.ret, [(2, .ptr (.loc (L.length + 1)) [] 24), (3, .int .i64 1)], ⟨L ++ [.rw (d7V d), .rw (lnV zl), X], hp⟩)))
 | 0, i, hi => by
  have : i = 7 := by omega
  subst this;refine ⟨_, ?_, .inl ⟨rfl, rfl⟩⟩;rw [ah];simp only [d7V, lnV];simp only [go_sem, ep]
 | n + 1, i, hi => by
  have d1 : (i : Int) < 7 := by omega
  have d2 : (0 : Int) ≤ i := by omega
  have d3 : (i : Int) < 8 := by omega
  have d4 : IntKind.i64.wrap ((i : Int) + 1) = ((i + 1 : Nat) : Int) := ag (by omega) (by omega);have g1 := al (f := fun j => V.int .i64 (d j)) (show i < 7 by omega);have g2 : ((rlL d i).map (V.int .u64))[i]? = some (.int .u64 ((rlL d i).getD i 0)) := aS (by rw [wQ]; omega) 0;have z1 : L.length < L.length + 3 := by omega
  have z3 : L.length + 1 < L.length + 3 := by omega
  have z4 : L.length + 2 < L.length + 3 := by omega
  have hs : ((rlL d i).map (V.int .u64)).set i (.int .u64 (ior .u64 4294967296 (IntKind.u64.wrap (d i)))) = (rlL d (i + 1)).map (V.int .u64) := by rw [← LB (by omega), List.map_set]
  rw [tM];by_cases h0 : d i < 0
  ·refine ⟨_, ?_, .inr ⟨by rw [decide_eq_false (show ¬ 0 ≤ d i by omega)]; rfl, .rw (lnV (rlL d i)), rfl⟩⟩;have hz : (zl.map (V.int .u64)) = List.replicate 8 (.int .u64 0) := rfl;rw [ah];simp only [d7V, lnV, hz] at *;generalize (tab 7 fun j => V.int .i64 (d j)) = T at *;generalize (rlL d i).map (V.int .u64) = LF at *;simp only [go_sem, ep, d1, d2, Int.toNat_natCast, g1, h0]
  ·by_cases h1 : d i < 1024
   ·obtain ⟨r, q1, q2⟩ := yf d L hp u n (i + 1) (by omega);refine ⟨r, ?_, by rw [decide_eq_true (show 0 ≤ d i by omega), decide_eq_true h1]; exact q2⟩;have h1' : ¬ d i ≥ 1024 := by omega
    rw [← q1, ah];simp only [d7V, lnV] at *;rw [← hs];generalize (tab 7 fun j => V.int .i64 (d j)) = T at *;generalize (rlL d i).map (V.int .u64) = LF at *;generalize (rlL d i).getD i 0 = w0 at *;generalize d i = di at *;simp only [go_sem, ep, d1, d2, d3, d4, Int.toNat_natCast, g1, g2, h0, h1', z1, z3, z4]
   ·refine ⟨_, ?_, .inr ⟨by rw [decide_eq_false h1, Bool.and_false]; rfl, .rw (lnV (rlL d i)), rfl⟩⟩;have hz : (zl.map (V.int .u64)) = List.replicate 8 (.int .u64 0) := rfl;have h1' : d i ≥ 1024 := by omega
    rw [ah];simp only [d7V, lnV, hz] at *;generalize (tab 7 fun j => V.int .i64 (d j)) = T at *;generalize (rlL d i).map (V.int .u64) = LF at *;generalize d i = di at *;simp only [go_sem, ep, d1, d2, Int.toNat_natCast, g1, h0, h1']
theorem rn (d : Nat → Int) (s : St) : ∃ e, rf D kX [d7V d] s = some (.tup [lnV (aZ d), .int .i64 e], s) := by
 obtain ⟨r, q1, q2⟩ := yf d s.loc s.hp .dead 7 0 rfl;have h0 : rlL d 0 = zl := rfl;rw [show ((0 : Nat) : Int) = 0 from rfl, h0] at q1
 have hseal := fun s => mc (wQ d 7) s;have hz : (zl.map (V.int .u64)) = List.replicate 8 (.int .u64 0) := rfl;unfold aZ;rcases q2 with ⟨c, rfl⟩ | ⟨c, X, rfl⟩
 ·refine ⟨0, ?_⟩;rw [c, if_pos rfl];simp only [d7V, lnV, hz] at *;rw [ae rU rfl];simp only [go_sem, q1];simp only [go_sem, hseal]
 ·refine ⟨1, ?_⟩;rw [c, if_neg (by simp)];simp only [d7V, lnV, hz] at *;rw [ae rU rfl];simp only [go_sem, q1]
def sS (a b : Ent) : Bool := decide (a.kind = b.kind) && (decide (a.ver = b.ver) && decide (a.line = b.line))
theorem GE {a b : Ent} : sS a b = true ↔ a = b := by
 obtain ⟨k, v, l⟩ := a;obtain ⟨k', v', l'⟩ := b;simp [sS]
theorem Nm (a b : Ent) : veq a.v b.v = some (sS a b) := by
 simp only [Ent.v, veq, bB, sS];by_cases h1 : a.kind = b.kind <;> by_cases h2 : a.ver = b.ver <;> by_cases h3 : a.line = b.line <;> simp [h1, h2, h3]
def qa (f g : Nat → Ent) : List Nat → Bool
 | [] => true
 | i :: l => sS (f i) (g i) && qa f g l
theorem sI (f g : Nat → Ent) : ∀ l : List Nat, bB (l.map fun i => (f i).v) (l.map fun i => (g i).v) = some (qa f g l)
 | [] => rfl
 | i :: l => by
  simp only [List.map_cons, bB, Nm, qa];cases sS (f i) (g i)
  ·rfl
  ·rw [sI f g l]; rfl
theorem oz {f g : Nat → Ent} : ∀ {l : List Nat}, qa f g l = true ↔ ∀ i ∈ l, f i = g i
 | [] => by simp [qa]
 | i :: l => by simp [qa, GE, oz (l := l)]
def oT (t u : Nat → Ent) (k : Nat) : Bool := !qa (fun i => t (7 * k + i)) (fun i => u (7 * k + i)) (List.range 7)
def bU (t u : Nat → Ent) : Nat → List Int
 | 0 => []
 | k + 1 => if oT t u k = true then bU t u k ++ [(k : Int)] else bU t u k
theorem pI (t u : Nat → Ent) : ∀ k, (bU t u k).length ≤ k
 | 0 => Nat.le_refl _
 | k + 1 => by
  have := pI t u k;simp only [bU];split
  ·simp; omega
  ·omega
theorem tj (t u : Nat → Ent) : ∀ k, ∀ x ∈ bU t u k, 0 ≤ x ∧ x < k
 | 0, x, h => by cases h
 | k + 1, x, h => by
  simp only [bU] at h;split at h
  ·rw [List.mem_append, List.mem_singleton] at h;rcases h with h | h
   ·have := tj t u k x h; omega
   ·omega
  ·have := tj t u k x h; omega
theorem AV {n a m : Nat} {f : Nat → V} (h : a + m ≤ n) : ((tab n f).drop a).take m = tab m fun i => f (a + i) := by
 apply List.ext_getElem?;intro j;by_cases hj : j < m
 ·rw [List.getElem?_take, if_pos hj, List.getElem?_drop, al (by omega), al hj]
 ·rw [List.getElem?_take, if_neg hj, List.getElem?_eq_none (by rw [dt]; omega)]
theorem zY {s : St} {a : Ab.Loc} {t n m k : Nat} {f : Nat → V} (hr : s.read a [] = some (.agg t (tab n f))) (h : k + m ≤ n) : s.part m t a [k] = some (tab m fun i => f (k + i)) := by
 unfold St.part;show (match s.read a [] with | some (.agg u' l) => if u' = t ∧ [k] ≠ [] ∧ k + m ≤ l.length then some ((l.drop k).take m) else none | _ => none) = _
 rw [hr];simp only;have hc : True ∧ [k] ≠ [] ∧ k + m ≤ (tab n f).length := ⟨trivial, by simp, by rw [dt]; exact h⟩;rw [if_pos hc, AV h]
theorem vw (t u : Nat → Ent) (s : St) : ∃ X v, Apd s.hp X v (bU t u 7) ∧ rf D lR [ab t, ab u] s = some (v, ⟨s.loc, s.hp ++ X⟩) := by
 have loop : ∃ r, rc D s.loc.length (.loop [2, 3, 5, 7] eC) [(2, .ptr (.loc s.loc.length) [] 48), (3, .ptr (.loc (s.loc.length + 1)) [] 48), (5, .nils), (7, .int .i64 0)] ⟨s.loc ++ [.rw (ab t), .rw (ab u)], s.hp⟩ = some r ∧
  ∃ X v, Apd s.hp X v (bU t u 7) ∧ r = (.exit 0, [(2, .ptr (.loc s.loc.length) [] 48), (3, .ptr (.loc (s.loc.length + 1)) [] 48), (5, v), (7, .int .i64 7), (8, .bool false)], ⟨s.loc ++ [.rw (ab t), .rw (ab u)], s.hp ++ X⟩) := by
  refine nu (fun x : Nat × List Blk × V => [(2, .ptr (.loc s.loc.length) [] 48), (3, .ptr (.loc (s.loc.length + 1)) [] 48), (5, x.2.2), (7, .int .i64 x.1)]) (fun x => ⟨s.loc ++ [.rw (ab t), .rw (ab u)], s.hp ++ x.2.1⟩) _ (fun x => 7 - x.1)
   (fun x => x.1 ≤ 7 ∧ Apd s.hp x.2.1 x.2.2 (bU t u x.1)) (0, [], .nils) ?_ ⟨by simp only; omega, ⟨.inl ⟨rfl, rfl⟩⟩⟩ rfl (by simp)
  rintro ⟨k, X, v⟩ ⟨hk, ha⟩;simp only at hk ha;by_cases c1 : k < 7
  ·left;have d1 : (k : Int) < 7 := by omega
   have d4 : IntKind.i64.wrap ((k : Int) + 1) = ((k + 1 : Nat) : Int) := ag (by omega) (by omega);have e1 : IntKind.i64.wrap (7 * (k : Int)) = ((7 * k : Nat) : Int) := by rw [ag (by omega) (by omega)]; omega
   have e2 : IntKind.i64.wrap (((7 * k : Nat) : Int) + 7) = ((7 * k + 7 : Nat) : Int) := by rw [ag (by omega) (by omega)]; omega
   have p1 : ∀ H : List Blk, St.part ⟨s.loc ++ [.rw (ab t), .rw (ab u)], H⟩ 7 48 (.loc s.loc.length) [7 * k] = some (tab 7 fun i => (t (7 * k + i)).v) := fun H =>
    zY (n := 49) (f := fun i => (t i).v) (by simp only [ab]; simp only [go_sem]) (by omega)
   have p2 : ∀ H : List Blk, St.part ⟨s.loc ++ [.rw (ab t), .rw (ab u)], H⟩ 7 48 (.loc (s.loc.length + 1)) [7 * k] = some (tab 7 fun i => (u (7 * k + i)).v) := fun H =>
    zY (n := 49) (f := fun i => (u i).v) (by simp only [ab]; simp only [go_sem]) (by omega)
   have hv := sI (fun i => t (7 * k + i)) (fun i => u (7 * k + i)) (List.range 7);have hv : bB (tab 7 fun i => (t (7 * k + i)).v) (tab 7 fun i => (u (7 * k + i)).v) = some (!oT t u k) := by unfold oT; rw [Bool.not_not]; exact hv
   have f1 : (7 * k : Nat) ≤ 7 * k + 7 := by omega
   have f2 : (7 * k + 7 : Nat) ≤ 49 := by omega
   have f3 : 7 * k + 7 - 7 * k = 7 := by omega
   have f6 : ((7 * k : Nat) : Int) ≤ ((7 * k + 7 : Nat) : Int) := by omega
   have f7 : ((7 * k + 7 : Nat) : Int) ≤ 49 := by omega
   have f8 : ∀ z : Nat, (if z = z then (7 : Nat) else 0) = 7 := fun z => if_pos rfl
   have f4 : (0 : Int) ≤ ((7 * k : Nat) : Int) := by omega
   have f5 : (0 : Int) ≤ ((7 * k + 7 : Nat) : Int) := by omega
   have hvl : V.locLt (s.loc.length + 2) v = true := by rcases ha.at' with ⟨_, rfl⟩ | ⟨Y, _, rfl⟩ <;> rfl
   have z1 : s.loc.length < s.loc.length + 2 := by omega
   have z2 : s.loc.length + 1 < s.loc.length + 2 := by omega
   have t49 : (tab 49 fun i => (t i).v).length = 49 := dt _ _;cases hd : oT t u k
   ·rw [hd] at hv;refine ⟨(k + 1, X, v), ⟨by simp only; omega, by simp only [bU, hd]; exact ha⟩, by simp only; omega, ?_⟩;simp only [ab] at *;generalize (tab 49 fun i => (t i).v) = T1 at *;generalize (tab 49 fun i => (u i).v) = T2 at *;simp only [go_sem, eC, d1, e1, e2, Int.toNat_natCast, f1, f2, f3, f4, f5, f6, f7, p1, p2, hv, d4, hvl, z1, z2]
   ·rw [hd] at hv;have hy : St.elems ⟨s.loc ++ [.rw (ab t), .rw (ab u), .rw (.agg 38 [.int .i64 (k : Int)])], s.hp ++ X⟩ (.sl (.loc (s.loc.length + 2)) [] 0 1 (some 1) 10) = some [.int .i64 (k : Int)] := d9 (t := 38) (by simp only [go_sem]) rfl;obtain ⟨X', v', q1, q2⟩ := ha.push (by have := pI t u k; omega) (k : Int) (.inr ⟨_, _, _, _, _, rfl⟩) hy (base := s.loc.length);refine ⟨(k + 1, X', v'), ⟨by simp only; omega, by simp only [bU, hd, if_true]; exact q2⟩, by simp only; omega, ?_⟩;have hvl' : V.locLt (s.loc.length + 2) v' = true := by rcases q2.at' with ⟨_, rfl⟩ | ⟨Y, _, rfl⟩ <;> rfl
    have hrep : List.replicate 1 (V.int .i64 0) = [.int .i64 0] := rfl;simp only [ab] at *;generalize (tab 49 fun i => (t i).v) = T1 at *;generalize (tab 49 fun i => (u i).v) = T2 at *;simp only [go_sem, eC, d1, e1, e2, Int.toNat_natCast, f1, f2, f3, f4, f5, f6, f7, p1, p2, hv, d4, hvl', z1, z2, hrep, q1]
  ·right;have : k = 7 := by omega
   subst this;refine ⟨_, ?_, X, v, ha, rfl⟩;simp only [ab];simp only [go_sem, eC]
 obtain ⟨r, h1, X, v, h2, rfl⟩ := loop;refine ⟨X, v, h2, ?_⟩;have hv : V.locLt s.loc.length v = true := by rcases h2.at' with ⟨_, rfl⟩ | ⟨Y, _, rfl⟩ <;> rfl
 rw [ae xp rfl];simp only [ab] at *;simp only [go_sem, h1, hv]
end Go.Proofs.YtmimfopnhmmlbaaGreatDoor
namespace Go.Proofs.YtmimfopnhmmlbaaGreatDoor
open Go.Ab
structure Thr where
 pc : Int
 r0 : Int
 r1 : Int
 r2 : Int
 r3 : Int
 sp : Int
 ky : Int
 st : Int
 at' : Int
 sl : Int
 fl : Int
def Thr.v (t : Thr) : V := .agg 64 [.int .i64 t.pc, .agg 62 [.int .u64 t.r0, .int .u64 t.r1, .int .u64 t.r2, .int .u64 t.r3], .int .u64 t.sp, .int .u64 t.ky, .int .i64 t.st, .int .i64 t.at', .int .i64 t.sl, .int .i64 t.fl]
theorem LV {b : Nat} (hb : 1 ≤ b) (hb2 : b ≤ 64) (hm : 18446744073709551615 / 2 ^ (64 - b) = 2 ^ b - 1) (s : St) : rf D oZ [.int .i64 b] s = some (.int .u64 (2 ^ b - 1 : Nat), s) := by
 have e1 : IntKind.i64.wrap (64 - (b : Int)) = ((64 - b : Nat) : Int) := by rw [ag (by omega) (by omega)]; omega
 have e2 : eW .u64 18446744073709551615 ((64 - b : Nat) : Int) = ((2 ^ b - 1 : Nat) : Int) := by
  rw [nJ 18446744073709551615 (64 - b) (by omega), ← hm, Int.natCast_ediv, Int.natCast_pow]; rfl
 have e3 : ¬ ((64 - b : Nat) : Int) < 0 := by omega
 generalize 64 - b = q at *;generalize 2 ^ b - 1 = z at *;rw [ae Bz rfl];simp only [go_sem, e1, e2, e3]
theorem HN {a b : Nat} (hb : 1 ≤ b) (hab : a + b ≤ 64) (s : St) : rf D nV [.int .i64 a, .int .i64 b] s = some (.bool true, s) := by
 have e1 : IntKind.i64.wrap (64 - (a : Int)) = 64 - (a : Int) := ag (by omega) (by omega);have c1 : (0 : Int) ≤ a := by omega
 have c2 : (a : Int) < 64 := by omega
 have c3 : (1 : Int) ≤ b := by omega
 have c4 : (b : Int) ≤ 64 - a := by omega
 rw [ae zb rfl];simp only [go_sem, c1, c2, c3, e1, c4]
theorem GC {w a b : Nat} (hb : 1 ≤ b) (hab : a + b ≤ 64) (hw : w < 18446744073709551616) (hm : 18446744073709551615 / 2 ^ (64 - b) = 2 ^ b - 1) (s : St) :
 rf D nF [.int .u64 w, .int .i64 a, .int .i64 b] s = some (.int .u64 (w / 2 ^ a % 2 ^ b : Nat), s) := by
 have h1 := fun s => HN hb hab s;have h2 := fun s => LV hb (by omega) hm s;have e1 : eW .u64 (w : Int) (a : Int) = ((w / 2 ^ a : Nat) : Int) := by
  rw [nJ (w : Int) a (by omega), Int.natCast_ediv, Int.natCast_pow]; rfl
 have e2 : eR .u64 ((w / 2 ^ a : Nat) : Int) ((2 ^ b - 1 : Nat) : Int) = ((w / 2 ^ a % 2 ^ b : Nat) : Int) := by
  have hlt : w / 2 ^ a < 18446744073709551616 := Nat.lt_of_le_of_lt (Nat.div_le_self _ _) hw;generalize w / 2 ^ a = y at *;have := rD (y : Int) b (by omega) (by omega) (by omega);have hp := Nat.two_pow_pos b;rw [show ((2 ^ b - 1 : Nat) : Int) = 2 ^ b - 1 by rw [Int.natCast_sub hp, Int.natCast_pow]; rfl, this, Int.natCast_emod, Int.natCast_pow]; rfl
 have e3 : ¬ (a : Int) < 0 := by omega
 generalize w / 2 ^ a % 2 ^ b = z at *;generalize w / 2 ^ a = y at *;generalize 2 ^ b - 1 = m at *;rw [ae AL rfl];simp only [go_sem, h1, h2, e1, e2, e3]
end Go.Proofs.YtmimfopnhmmlbaaGreatDoor
namespace Go.Proofs.YtmimfopnhmmlbaaGreatDoor
open Go.Ab
def AM.stp (M : AM) : AM := if M.dead then M.out else M.stepped
def AM.stpE (M : AM) : Int := if M.dead then 4 else 0
theorem pV {k n k' n' : Nat} {cp cp' : Option Nat} {o o' b b' : Bool} {l l' c c' : Int} (h : bv k n cp o b l c = bv k' n' cp' o' b' l' c') : k = k' := by
 simp only [bv, V.agg.injEq, List.cons.injEq, V.sl.injEq, Loc.hp.injEq, true_and, and_true] at h;exact h.1.1
theorem wh {hp : List Blk} {F : Ft} {m : Nat} {M : AM} (h : aY hp F m M) (hc : M.count < 1000000) :
 ∃ hp', (∀ L, rf D cJ [.ptr (.hp m) [] 59] ⟨L, hp⟩ = some (.int .i64 M.stpE, ⟨L, hp'⟩)) ∧ aY hp' F m M.stp ∧ Chg hp hp' F F ∧
  ∀ k n cp o b l c, hp[m]? = some (.rw (bv k n cp o b l c)) → ∃ o' b' l' c', hp'[m]? = some (.rw (bv k n cp o' b' l' c')) := by
 have hM := h;obtain ⟨k, fk, ne, ⟨cp, left, h1, h2, h3⟩, sv, ow, h4, h5⟩ := h.mb;have ok := h.ok;have hc0 := ok.c0;have lf := ok.lf;have hml := au h1;have hstep := fun L => xG (L := L) h1 hc0 (by omega) (fun hb => by have hb := of_decide_eq_true hb; rw [h3 hb]; exact hb) (fun hb => by rw [h3 (of_decide_eq_true hb)]; have := ok.lg; omega);have keep : ∀ (o2 b2 : Bool) (l2 c2 : Int), ∀ k' n' cp' o b l c, hp[m]? = some (.rw (bv k' n' cp' o b l c)) → ∃ o' b' l' c', (hp.set m (.rw (bv k M.n cp o2 b2 l2 c2)))[m]? = some (.rw (bv k' n' cp' o' b' l' c')) := by
  intro o2 b2 l2 c2 k' n' cp' o b l c hh;rw [h1] at hh;have hh := Option.some.inj hh;simp only [bv, Blk.rw.injEq, V.agg.injEq, List.cons.injEq, V.sl.injEq, Loc.hp.injEq, true_and, and_true] at hh;obtain ⟨⟨rfl, rfl, rfl⟩, _⟩ := hh;exact ⟨_, _, _, _, List.getElem?_set_self hml⟩
 unfold AM.stp AM.stpE;by_cases hd : M.dead = true
 ·rw [hd, if_pos rfl, if_pos rfl];have hd' : M.off = true ∨ M.left = 0 := by simpa [AM.dead] using hd
  obtain ⟨g1, g2⟩ := hM.setm (M' := M.out) ok.out rfl rfl rfl h1 (left' := left) (by simpa [AM.out] using h3);refine ⟨_, fun L => ?_, g1, g2, keep _ _ _ _⟩;rw [hstep L, if_pos]
  ·rfl
  ·rcases hd' with hd' | hd'
   ·exact .inl hd'
   ·exact .inr ⟨by simp [hd'], by rw [h3 (by omega)]; exact hd'⟩
 ·have hdf : M.dead = false := by simpa using hd
  rw [hdf, if_neg (by simp), if_neg (by simp)];have hd' : M.off = false ∧ ¬ M.left = 0 := by simpa [AM.dead] using hd
  have hlv : 0 ≤ M.stepped.left → (if decide (0 ≤ M.left) = true then left - 1 else left) = M.stepped.left := by
   intro hh;simp only [AM.stepped, decide_eq_true_eq] at hh ⊢;split at hh
   ·rw [if_pos (by omega), if_pos (by omega), h3 (by omega)]
   ·omega
  have hbe : decide (0 ≤ M.stepped.left) = decide (0 ≤ M.left) := by
   apply decide_eq_decide.2;simp only [AM.stepped];split <;> omega
  obtain ⟨g1, g2⟩ := hM.setm (M' := M.stepped) ok.stepped rfl rfl rfl h1 hlv;refine ⟨_, fun L => ?_, g1, g2, keep _ _ _ _⟩;rw [hstep L, if_neg, hbe]
  ·rw [show M.stepped.off = M.off from rfl, hd'.1]; rfl
  ·rintro (hh | ⟨hh, hz⟩)
   ·rw [hd'.1] at hh; cases hh
   ·exact hd'.2 (by rw [← h3 (of_decide_eq_true hh)]; exact hz)
def Dn.fl (c : Nat) (d : Dn) : Dn := { d with cs := upd d.cs c true }
theorem AE (c : Nat) : ∀ l : List Dn, flN c (l.map (Dn.fl c)) = l.length
 | [] => rfl
 | d :: l => by
  simp only [List.map_cons, flN, AE c l, List.length_cons];split
  ·rename_i h; simp [Dn.fl, aj, h]
  ·rfl
theorem G9 {c c' : Nat} (h : c' ≠ c) : ∀ l : List Dn, flN c' (l.map (Dn.fl c)) = flN c' l
 | [] => rfl
 | d :: l => by
  simp only [List.map_cons, flN, G9 h l];have : (d.fl c).cs c' = d.cs c' := by simp only [Dn.fl]; rw [ao h]
  rw [this]
theorem sa (c : Nat) : ∀ (l : List Dn) (x : List Int), am x (l.map (Dn.fl c)) = am x l
 | [], _ => rfl
 | _ :: l, x => sa c l _
theorem PN (c : Nat) (l : List Dn) : (l.map (Dn.fl c)).map Dn.v1 = l.map Dn.v1 := by
 rw [List.map_map]; rfl
def AM.flushed (M : AM) (c i : Nat) : AM := { M with L := upd M.L i ((M.L i).map (Dn.fl c)) }
def AM.flush (M : AM) (c i : Int) : AM × Int := if i < 0 ∨ (M.n : Int) ≤ i ∨ c < 0 ∨ 8 ≤ c then (M, 1) else if M.dead then (M.out, 4) else (M.stepped.flushed c.toNat i.toNat, 0)
theorem AM.Ok.flushed {M : AM} (h : M.Ok) (c i : Nat) : (M.flushed c i).Ok := by
 refine ⟨h.n0, h.n1, h.l8, fun j hj d hd => ?_, h.c0, fun j hj => ?_, h.lf, h.lg⟩
 ·simp only [AM.flushed] at hd;by_cases e : j = i
  ·subst e;rw [aj] at hd;obtain ⟨d', hd', rfl⟩ := List.mem_map.1 hd;exact h.w8 j hj d' hd'
  ·rw [ao e] at hd; exact h.w8 j hj d hd
 ·simp only [AM.flushed];by_cases e : j = i
  ·subst e; rw [aj, List.length_map]; exact h.len j hj
  ·rw [ao e]; exact h.len j hj
theorem AM.now_flushed {M : AM} {c i j : Nat} : (M.flushed c i).now j = M.now j := by
 unfold AM.now AM.flushed;simp only;by_cases e : j = i
 ·subst e; rw [aj, sa]
 ·rw [ao e]
theorem Ov {c : Nat} (hc : c < 8) (l : List Dn) : ∀ T, flV l = .agg 50 T → flV (l.map (Dn.fl c)) = .agg 50 (T.set c (.int .i64 l.length)) := by
 intro T hT;unfold flV at hT ⊢;cases hT;congr 1;rw [bA];apply aE;intro j _;by_cases e : j = c
 ·subst e; rw [aj, AE]
 ·rw [ao e, G9 e]
theorem tS {hp : List Blk} {F : Ft} {m : Nat} {M : AM} (h : aY hp F m M) (hc : M.count < 1000000) (c i : Int) (L : List Blk) :
 ∃ hp', rf D iM [.ptr (.hp m) [] 59, .int .i64 c, .int .i64 i] ⟨L, hp⟩ = some (.int .i64 (M.flush c i).2, ⟨L, hp'⟩) ∧ aY hp' F m (M.flush c i).1 ∧ Chg hp hp' F F := by
 have hM := h;obtain ⟨k, fk, ne, ⟨cp, left, h1, h2, h3⟩, sv0, ow0, h40, h50⟩ := h.mb;have ha := fun L => wI (L := L) h1 i;have ok := h.ok;unfold AM.flush;by_cases hi : i < 0 ∨ (M.n : Int) ≤ i
 ·rw [if_neg (by omega)] at ha;rw [if_pos (by omega)];refine ⟨hp, ?_, hM, .refl _ _⟩;rw [ae fE rfl];simp only [go_sem, ha]
 ·rw [if_pos (by omega)] at ha;by_cases hq : c < 0 ∨ 8 ≤ c
  ·rw [if_pos (by omega)];refine ⟨hp, ?_, hM, .refl _ _⟩;rw [ae fE rfl];by_cases hq0 : c < 0
   ·simp only [go_sem, ha, hq0]
   ·have hq8 : c ≥ 8 := by omega
    simp only [go_sem, ha, hq0, hq8]
  ·rw [if_neg (by omega)];obtain ⟨j, rfl⟩ : ∃ j : Nat, i = j := ⟨i.toNat, by omega⟩;obtain ⟨p, rfl⟩ : ∃ p : Nat, c = p := ⟨c.toNat, by omega⟩;simp only [Int.toNat_natCast] at ha ⊢;have d1 : ¬ (p : Int) < 0 := by omega
   have d2 : ¬ (p : Int) ≥ 8 := by omega
   have d3 : (p : Int) < 8 := by omega
   have d4 : (0 : Int) ≤ p := by omega
   obtain ⟨hp1, s1, s2, s3, s4⟩ := wh hM hc;unfold AM.stpE at s1;unfold AM.stp at s2;by_cases hd : M.dead = true
   ·rw [if_pos hd];rw [hd, if_pos rfl] at s1 s2;refine ⟨hp1, ?_, s2, s3⟩;rw [ae fE rfl];simp only [go_sem, ha, d1, d2, s1]
   ·have hdf : M.dead = false := by simpa using hd
    rw [if_neg hd];rw [hdf, if_neg (by simp)] at s1 s2;obtain ⟨o', b', l', c', s5⟩ := s4 _ _ _ _ _ _ _ h1;have hM1 := s2;obtain ⟨k', fk', ne', ⟨cp', left', q1, q2, q3⟩, sv, ow, q4, q5⟩ := s2.mb;have hkk : k = k' := pV (Blk.rw.inj (Option.some.inj (s5.symm.trans q1)));subst hkk;have e1 : M.stepped.n = M.n := rfl;have e2 : M.stepped.S = M.S := rfl;have e3 : M.stepped.L = M.L := rfl;rw [e1, e2, e3] at q4;rw [e1, e3] at q5;have hj : j < M.n := by omega
    have g := al (f := fun i => plV (M.S i) (M.L i) (sv i)) hj;have hsl := (q5 j hj).slen;rw [List.length_map] at hsl;have gf := al (f := fun c => V.int .i64 (flN c (M.L j) : Nat)) (show p < 8 by omega);have hfl := Ov (show p < 8 by omega) (M.L j) _ rfl;have hkl := au q4;refine ⟨hp1.set k (.rw (.agg 57 ((tab M.n fun i => plV (M.S i) (M.L i) (sv i)).set j (plV (M.S j) ((M.L j).map (Dn.fl p)) (sv j))))), ?_, ⟨ok.stepped.flushed p j, hM1.inn.set, hM1.fm, k, fk', ne', ⟨cp', left', ?_, q2, q3⟩, sv, ow, ?_, fun x hx => ?_⟩, s3.trans (dm.mono (fun x hx => by cases hx; exact fk') fun _ => .inr)⟩
    ·have hpl : plV (M.S j) ((M.L j).map (Dn.fl p)) (sv j) = .agg 55 [lnV (am (M.S j) (M.L j)), lnV (M.S j), sv j, .agg 50 ((tab 8 fun c => V.int .i64 (flN c (M.L j) : Nat)).set p (.int .i64 (M.L j).length))] := by
      simp only [plV, nlV, sa, hfl]
     rw [hpl];have hg0 : plV (M.S j) (M.L j) (sv j) = .agg 55 [lnV (am (M.S j) (M.L j)), lnV (M.S j), sv j, .agg 50 (tab 8 fun c => V.int .i64 (flN c (M.L j) : Nat))] := rfl;rw [hg0] at g;generalize (tab 8 fun c => V.int .i64 (flN c (M.L j) : Nat)) = TF at *;generalize (tab M.n fun i => plV (M.S i) (M.L i) (sv i)) = T0 at *;generalize lnV (am (M.S j) (M.L j)) = N1 at *;rw [ae fE rfl];simp only [go_sem, ha, d1, d2, d3, d4, s1, q4, g, hsl, Int.toNat_natCast, gf]
    ·rw [List.getElem?_set_ne (Ne.symm ne')]; exact q1
    ·rw [bA, List.getElem?_set_self hkl];congr 4; funext x;unfold upd AM.flushed;simp only;by_cases e : x = j
     ·subst e; rw [if_pos rfl, aj]; rfl
     ·rw [if_neg e, ao e]; rfl
    ·have e5 : ((M.stepped.flushed p j).L x).map Dn.v1 = (M.L x).map Dn.v1 := by
      unfold AM.flushed;simp only;by_cases e : x = j
      ·subst e; rw [aj]; exact PN p _
      ·rw [ao e]; rfl
     rw [e5];exact (q5 x hx).eqv (fun y hy => List.getElem?_set_ne (Ne.symm hy.2.2.1)) fun _ hy => hy
end Go.Proofs.YtmimfopnhmmlbaaGreatDoor
namespace Go.Proofs.YtmimfopnhmmlbaaGreatDoor
open Go.Ab
theorem SlR.sub {e r : Nat} {hp : List Blk} {G : Ft} {v : V} {l : List V} (h : SlR hp G e r v l) {n : Nat} (hn : n ≤ l.length) : ∃ v1 v2, dZ e none (some (.int .i64 (n : Int))) none v = some v1 ∧ dZ e (some (.int .i64 (n : Int))) none none v = some v2 ∧
 (∀ hp' : List Blk, (∀ j, G j → hp'[j]? = hp[j]?) → ∀ L, RS ⟨L, hp'⟩ e v1 (l.take n) ∧ RS ⟨L, hp'⟩ e v2 (l.drop n)) ∧ (v2 = .nils ∨ ∃ a p o n c, v2 = .sl a p o n c e) := by
 cases h with
 | nil =>
  have : n = 0 := by simpa using hn
  subst this;exact ⟨.nils, .nils, rfl, rfl, fun _ _ _ => ⟨.inl ⟨rfl, rfl⟩, .inl ⟨rfl, rfl⟩⟩, .inl rfl⟩
 | emp a p o =>
  have : n = 0 := by simpa using hn
  subst this;have k1 : dZ e none (some (.int .i64 ((0 : Nat) : Int))) none (.sl (.hp a) p o 0 (some 0) e) = some (.sl (.hp a) p o 0 (some 0) e) := by simp [dZ, ai, ac, fT, kx]
  have k2 : dZ e (some (.int .i64 ((0 : Nat) : Int))) none none (.sl (.hp a) p o 0 (some 0) e) = some (.sl (.hp a) p o 0 (some 0) e) := by simp [dZ, ai, ac, fT, kx]
  exact ⟨_, _, k1, k2, fun _ _ _ => ⟨.inr ⟨_, _, _, _, rfl, fun c hc => by cases hc; exact Nat.le_refl _, rfl, .inl rfl⟩, .inr ⟨_, _, _, _, rfl, fun c hc => by cases hc; exact Nat.le_refl _, rfl, .inl rfl⟩⟩, .inr ⟨_, _, _, _, _, rfl⟩⟩
 | blk a c l hc hG hb =>
  have hrd : ∀ hp' : List Blk, (∀ j, G j → hp'[j]? = hp[j]?) → hp'[a]? = some (.rw (.agg r l)) := fun hp' he => by rw [he a hG]; exact hb
  have hcd : c.getD l.length = l.length := by rcases hc with rfl | rfl <;> rfl
  have hlt : (n : Int) ≤ (l.length : Nat) := by omega
  have key1 : dZ e none (some (.int .i64 (n : Int))) none (.sl (.hp a) [] 0 l.length c e) = some (.sl (.hp a) [] 0 n (kx false c l.length) e) := by
   simp only [dZ, if_true, ai, aN, fT, Option.isSome_none, Bool.false_eq_true, if_false];rw [if_pos ⟨by omega, by omega⟩];simp [aN, hcd]
  have key2 : dZ e (some (.int .i64 (n : Int))) none none (.sl (.hp a) [] 0 l.length c e) = some (.sl (.hp a) [] n (l.length - n) (kx false c (l.length - n)) e) := by
   simp only [dZ, if_true, ai, aN, fT, Option.isSome_none, Bool.false_eq_true, if_false];rw [if_pos ⟨by omega, by omega⟩];simp [aN, hcd]
  refine ⟨_, _, key1, key2, fun hp' he L => ⟨.inr ⟨.hp a, [], 0, _, by rw [List.length_take, Nat.min_eq_left hn], ?_, rfl, ?_⟩, .inr ⟨.hp a, [], n, _, by rw [List.length_drop], ?_, rfl, ?_⟩⟩, .inr ⟨_, _, _, _, _, rfl⟩⟩
  ·intro c' hc';rcases hc with rfl | rfl
   ·cases hc'
   ·cases hc'; rw [List.length_take]; omega
  ·refine .inr ⟨r, l, by rw [lN, hrd hp' he]; rfl, fun j x hx => ?_⟩;rw [List.getElem?_take] at hx;split at hx
   ·rw [Nat.zero_add]; exact hx
   ·cases hx
  ·intro c' hc';rcases hc with rfl | rfl
   ·cases hc'
   ·cases hc'; rw [List.length_drop]; exact Nat.le_refl _
  ·refine .inr ⟨r, l, by rw [lN, hrd hp' he]; rfl, fun j x hx => ?_⟩;rw [List.getElem?_drop] at hx;exact hx
theorem BW {H : List Blk} {v : V} {l : List V} (hsh : v = .nils ∨ ∃ a p o n c, v = .sl a p o n c 84) (hel : ∀ L, RS ⟨L, H⟩ 84 v l) (hl : V.locLts 0 l = true) (hm : l.length ≤ eI) :
 ∃ H1 v', H <+: H1 ∧ (∀ L, rf D eB [v] ⟨L, H⟩ = some (v', ⟨L, H1⟩)) ∧ SlR H1 (fun j => H.length ≤ j ∧ j < H1.length) 84 86 v' l := by
 by_cases hv : v = .nils
 ·subst hv;have : l = [] := by
   have := (hel []).elems;cases this; rfl
  subst this;refine ⟨H, .nils, List.prefix_refl _, fun L => ?_, .nil⟩;rw [ae eJ rfl];simp only [go_sem]
 ·obtain ⟨a, p, o, n, c', rfl⟩ := hsh.resolve_left hv;have hel1 : ∀ L, St.elems ⟨L, H ++ [.rw (.agg 86 [])]⟩ (.sl a p o n c' 84) = some l := fun L => ((hel L).more (s' := ⟨L, H ++ [.rw (.agg 86 [])]⟩) ⟨List.prefix_rfl, List.prefix_append _ _⟩).elems;have h0 : SlR (H ++ [.rw (.agg 86 [])]) (fun i => i = H.length) 84 86 (.sl (.hp H.length) [] 0 ([] : List V).length (some ([] : List V).length) 84) [] := .blk _ _ _ (.inr rfl) rfl (by simp);by_cases hn : l = []
  ·subst hn;refine ⟨H ++ [.rw (.agg 86 [])], .sl (.hp H.length) [] 0 0 (some 0) 84, List.prefix_append _ _, fun L => ?_, .blk H.length (some 0) [] (.inr rfl) ⟨Nat.le_refl _, by simp⟩ (by simp)⟩;have key : ∀ base, aK base true 86 84 (.sl (.hp H.length) [] 0 0 (some 0) 84) (.sl a p o n c' 84) ⟨L, H ++ [.rw (.agg 86 [])]⟩ = some (.sl (.hp H.length) [] 0 0 (some 0) 84, ⟨L, H ++ [.rw (.agg 86 [])]⟩) := by
    intro base;unfold aK;have e1 : St.elems ⟨L, H ++ [.rw (.agg 86 [])]⟩ (.sl (.hp H.length) [] 0 0 (some 0) 84) = some [] := h0.elems L;have e3 : V.slIs 84 (.sl (.hp H.length) [] 0 0 (some 0) 84) = true := by simp [V.slIs]
    have e4 : V.elIs 84 (.sl a p o n c' 84) = true := by simp [V.elIs]
    rw [e1, hel1 L, e3, e4];rfl
   rw [ae eJ rfl];simp only [go_sem, List.replicate_zero, key]
  ·refine ⟨H ++ [.rw (.agg 86 []), .rw (.agg 86 l)], .sl (.hp (H.length + 1)) [] 0 l.length none 84, List.prefix_append _ _, fun L => ?_, .blk _ none _ (.inl rfl) ⟨by omega, by simp⟩ (by simp)⟩;have key : ∀ base, aK base true 86 84 (.sl (.hp H.length) [] 0 0 (some 0) 84) (.sl a p o n c' 84) ⟨L, H ++ [.rw (.agg 86 [])]⟩ = some (.sl (.hp (H.length + 1)) [] 0 l.length none 84, ⟨L, H ++ [.rw (.agg 86 []), .rw (.agg 86 l)]⟩) := by
    intro base;have := xf (base := base) (h := true) (r := 86) (e := 84) (x := .sl (.hp H.length) [] 0 0 (some 0) 84) (old := []) (new := l) (s := ⟨L, H ++ [.rw (.agg 86 [])]⟩) (.inr ⟨_, _, _, _, _, rfl⟩) (.inr ⟨_, _, _, _, _, rfl⟩) (h0.elems L) (hel1 L) hn (by simpa using hm) (.inl rfl);rw [this];have hp0 : 0 < l.length := List.length_pos_iff.2 hn;simp only [ol, Option.map_some, List.length_nil, Nat.zero_add, hp0, decide_true, if_true];simp [St.fresh, St.new]
   rw [ae eJ rfl];simp only [go_sem, List.replicate_zero, key]
theorem Aa (c : Nat) : ∀ (n : Nat) (l : List Dn), flN c (l.drop n) = flN c l - n
 | 0, l => rfl
 | n + 1, [] => by simp [flN]
 | n + 1, d :: l => by
  rw [List.drop_succ_cons, Aa c n l];simp only [flN];split
  ·rename_i h;rw [h];split <;> omega
  ·omega
theorem FF {S : List Int} {l : List Dn} {q : Nat} (h : q < l.length) : am S (l.take (q + 1)) = (am S (l.take q)).set l[q].w l[q].v := by
 rw [List.take_succ_eq_append_getElem h, kL];rfl
section
variable {hp : List Blk} {k i N : Nat} {T : List V} {nw fl : V} {S : List Int} {l : List Dn} {sv : V} {G : Ft}
def lnB (k i : Nat) (T : List V) (hp : List Blk) (x : V) : List Blk := hp.set k (.rw (.agg 57 (T.set i x)))
theorem MQ (hk : k < hp.length) (hi : i < T.length) (h8 : S.length = 8) (hw : ∀ d ∈ l, d.w < 8) (hG : ¬ G k) {n : Nat} (hn : n ≤ l.length) (hl : l.length < 1000000) {v1 : V} (L : List Blk)
 (hr : ∀ hp' : List Blk, (∀ j, G j → hp'[j]? = hp[j]?) → ∀ L, RS ⟨L, hp'⟩ 84 v1 ((l.map Dn.v1).take n)) :
 rc D L.length (.loop [0, 1, 12, 13, 14] dk) [(0, .ptr (.hp k) [i] 55), (1, .int .i64 n), (12, v1), (13, .int .i64 n), (14, .int .i64 0)] ⟨L, lnB k i T hp (nlV nw (lnV S) sv fl)⟩ =
  some (.exit 0, [(0, .ptr (.hp k) [i] 55), (1, .int .i64 n), (12, v1), (13, .int .i64 n), (14, .int .i64 n), (15, .bool false)], ⟨L, lnB k i T hp (nlV nw (lnV (am S (l.take n))) sv fl)⟩) := by
 refine aV (fun q : Nat => [(0, .ptr (.hp k) [i] 55), (1, .int .i64 n), (12, v1), (13, .int .i64 n), (14, .int .i64 q)]) (fun q => ⟨L, lnB k i T hp (nlV nw (lnV (am S (l.take q))) sv fl)⟩) (fun _ => _) (fun q => n - q) (fun q => q ≤ n) 0 ?_ (by omega) rfl rfl;intro q hq;by_cases c1 : q < n
 ·left;have hql : q < l.length := by omega
  have d1 : (q : Int) < n := by omega
  have d4 : IntKind.i64.wrap ((q : Int) + 1) = (q : Int) + 1 := ag (by omega) (by omega);have hb : (am S (l.take q)).length = 8 := by rw [no]; exact h8
  have hwq := hw _ (List.getElem_mem hql);have hrs := fun L => hr (lnB k i T hp (nlV nw (lnV (am S (l.take q))) sv fl)) (fun j hj => List.getElem?_set_ne (fun e => hG (by rw [e]; exact hj))) L;have hg : ((l.map Dn.v1).take n)[q]? = some (l[q].v1) := by rw [List.getElem?_take, if_pos c1, List.getElem?_map, List.getElem?_eq_getElem hql]; rfl
  have hsad := (hrs []).sadq hg (k := .i64);have hld : ∀ L t p, ldv ⟨L, lnB k i T hp (nlV nw (lnV (am S (l.take q))) sv fl)⟩ t (elq v1 q p t) = V.at p (l[q].v1) := fun L t p => (hrs L).ldq hg;have hvl : v1.locLt L.length = true := (hrs L).locLt;have hset : (lnB k i T hp (nlV nw (lnV (am S (l.take q))) sv fl))[k]? = some (.rw (.agg 57 (T.set i (nlV nw (lnV (am S (l.take q))) sv fl)))) := List.getElem?_set_self hk;have hti : ∀ x, (T.set i x)[i]? = some x := fun x => List.getElem?_set_self hi;refine ⟨q + 1, by omega, by omega, rfl, ?_⟩;rw [FF hql];generalize am S (l.take q) = su at *;generalize l[q] = d at *;have gw : (su.map (V.int .u64))[d.w]? = some (.int .u64 (su.getD d.w 0)) := aS (by omega) 0;have e2 : lnB k i T hp (nlV nw (lnV (su.set d.w d.v)) sv fl) = (lnB k i T hp (nlV nw (lnV su) sv fl)).set k (.rw (.agg 57 ((T.set i (nlV nw (lnV su) sv fl)).set i (nlV nw (lnV (su.set d.w d.v)) sv fl)))) := by
   unfold lnB; rw [List.set_set, List.set_set]
  rw [e2];have w1 : (0 : Int) ≤ d.w := by omega
  have w2 : (d.w : Int) < 8 := by omega
  simp only [Dn.v1, ut, nlV, lnV, List.map_set] at *;generalize lnB k i T hp (V.agg 55 [nw, .agg 24 (su.map (V.int .u64)), sv, fl]) = H at *;simp only [go_sem, dk, d1, hsad, hld];simp only [go_sem, hset, hti, w1, w2, Int.toNat_natCast, gw, d4, hvl];rfl
 ·right;have : q = n := by omega
  subst this;have d1 : ¬ (q : Int) < q := by omega
  simp only [go_sem, dk, d1]
def flM (l : List Dn) (n q : Nat) : V := .agg 50 (tab 8 fun c => .int .i64 (if c < q then ((flN c l - n : Nat) : Int) else (flN c l : Nat)))
theorem Lb (hk : k < hp.length) (hi : i < T.length) {n : Nat} (hl : l.length < 1000000) (hn : n < 1000000) (x1 x2 x3 : V) (L : List Blk) :
 rc D L.length (.loop [0, 1, 37] dw) [(0, .ptr (.hp k) [i] 55), (1, .int .i64 n), (37, .int .i64 0)] ⟨L, lnB k i T hp (nlV x1 x2 x3 (flM l n 0))⟩ =
  some (.exit 2, [(0, .ptr (.hp k) [i] 55), (1, .int .i64 n), (37, .int .i64 8), (38, .bool false)], ⟨L, lnB k i T hp (nlV x1 x2 x3 (flM l n 8))⟩) := by
 have hfl : ∀ c, flN c l ≤ l.length := fun c => by
  clear hl
  induction l with
  | nil => exact Nat.le_refl _
  | cons d l ih => simp only [flN, List.length_cons]; split <;> (try split) <;> omega
 refine aV (fun q : Nat => [(0, .ptr (.hp k) [i] 55), (1, .int .i64 n), (37, .int .i64 q)]) (fun q => ⟨L, lnB k i T hp (nlV x1 x2 x3 (flM l n q))⟩) (fun _ => _) (fun q => 8 - q) (fun q => q ≤ 8) 0 ?_ (by omega) rfl rfl;intro q hq;by_cases c1 : q < 8
 ·left;have d1 : (q : Int) < 8 := by omega
  have d2 : (0 : Int) ≤ q := by omega
  have d4 : IntKind.i64.wrap ((q : Int) + 1) = (q : Int) + 1 := ag (by omega) (by omega);have hq2 := hfl q;have d5 : IntKind.i64.wrap (((flN q l : Nat) : Int) - (n : Int)) = ((flN q l : Nat) : Int) - n := ag (by omega) (by omega);have hset : (lnB k i T hp (nlV x1 x2 x3 (flM l n q)))[k]? = some (.rw (.agg 57 (T.set i (nlV x1 x2 x3 (flM l n q))))) := List.getElem?_set_self hk;have hti : ∀ x, (T.set i x)[i]? = some x := fun x => List.getElem?_set_self hi;have g := al (f := fun c => V.int .i64 (if c < q then ((flN c l - n : Nat) : Int) else (flN c l : Nat))) c1
  rw [if_neg (by omega)] at g;have hs : (tab 8 fun c => V.int .i64 (if c < q then ((flN c l - n : Nat) : Int) else (flN c l : Nat))).set q (.int .i64 ((flN q l - n : Nat) : Int)) = tab 8 fun c => V.int .i64 (if c < q + 1 then ((flN c l - n : Nat) : Int) else (flN c l : Nat)) := by
   rw [bA];apply aE;intro c _;unfold upd;by_cases e : c = q
   ·subst e; rw [if_pos rfl, if_pos (by omega)]
   ·rw [if_neg e];by_cases h : c < q
    ·show V.int .i64 _ = V.int .i64 _;rw [if_pos h, if_pos (by omega)]
    ·show V.int .i64 _ = V.int .i64 _;rw [if_neg h, if_neg (by omega)]
  have e2 : lnB k i T hp (nlV x1 x2 x3 (flM l n (q + 1))) = (lnB k i T hp (nlV x1 x2 x3 (flM l n q))).set k (.rw (.agg 57 ((T.set i (nlV x1 x2 x3 (flM l n q))).set i (nlV x1 x2 x3 (flM l n (q + 1)))))) := by
   unfold lnB; rw [List.set_set, List.set_set]
  refine ⟨q + 1, by omega, by omega, rfl, ?_⟩;rw [e2];simp only [flM, nlV] at *;rw [← hs];generalize (tab 8 fun c => V.int .i64 (if c < q then ((flN c l - n : Nat) : Int) else (flN c l : Nat))) = TF at *
  generalize lnB k i T hp (V.agg 55 [x1, x2, x3, .agg 50 TF]) = H at *;have d7 : max (0 : Int) (((flN q l : Nat) : Int) - n) = ((flN q l - n : Nat) : Int) := by omega
  simp only [go_sem, dw, d1, d2, Int.toNat_natCast, hset, hti, g, d5, d7, d4];rfl
 ·right;have : q = 8 := by omega
  subst this;simp only [go_sem, dw]
end
end Go.Proofs.YtmimfopnhmmlbaaGreatDoor
namespace Go.Proofs.YtmimfopnhmmlbaaGreatDoor
open Go.Ab
def AM.sureN (M : AM) (i n : Nat) : AM := { M with S := upd M.S i (am (M.S i) ((M.L i).take n)), L := upd M.L i ((M.L i).drop n) }
theorem AM.now_sure {M : AM} {i n j : Nat} : (M.sureN i n).now j = M.now j := by
 unfold AM.now AM.sureN;simp only;by_cases e : j = i
 ·subst e; rw [aj, aj, ← kL, List.take_append_drop]
 ·rw [ao e, ao e]
theorem AM.Ok.sureN {M : AM} (h : M.Ok) {i n : Nat} : (M.sureN i n).Ok := by
 refine ⟨h.n0, h.n1, fun j hj => ?_, fun j hj d hd => ?_, h.c0, fun j hj => ?_, h.lf, h.lg⟩
 ·simp only [AM.sureN];by_cases e : j = i
  ·subst e; rw [aj, no]; exact h.l8 j hj
  ·rw [ao e]; exact h.l8 j hj
 ·simp only [AM.sureN] at hd;by_cases e : j = i
  ·subst e; rw [aj] at hd; exact h.w8 j hj d (List.mem_of_mem_drop hd)
  ·rw [ao e] at hd; exact h.w8 j hj d hd
 ·simp only [AM.sureN];by_cases e : j = i
  ·subst e; rw [aj, List.length_drop]; have := h.len j hj; omega
  ·rw [ao e]; exact h.len j hj
theorem Kd (l : List Dn) (n : Nat) : flM l n 0 = flV l := by
 unfold flM flV;congr 1
theorem La (l : List Dn) (n : Nat) : flM l n 8 = flV (l.drop n) := by
 unfold flM flV;congr 1;apply aE;intro c hc;rw [if_pos hc, Aa]
theorem IK {n : Nat} {f : Nat → V} {j : Nat} (hj : j < n) : (tab n f).set j (f j) = tab n f := by
 rw [bA];apply aE;intro i _;unfold upd;split
 ·rename_i e; subst e; rfl
 ·rfl
theorem uP {hp : List Blk} {k : Nat} {b : Blk} (h : hp[k]? = some b) : hp.set k b = hp := by
 apply List.ext_getElem?;intro i;by_cases e : k = i
 ·subst e; rw [List.getElem?_set_self (au h), h]
 ·rw [List.getElem?_set_ne e]
theorem pE {hp : List Blk} {F : Ft} {m : Nat} {M : AM} (h : aY hp F m M) (hc : M.count < 1000000) {k nn : Nat} {cp : Option Nat} {o b : Bool} {l c : Int} (hb : hp[m]? = some (.rw (bv k nn cp o b l c))) {j n : Nat} (hj : j < M.n) (hn : n ≤ (M.L j).length) (L : List Blk) :
 ∃ hp' F', rf D iy [.ptr (.hp k) [j] 55, .int .i64 n] ⟨L, hp⟩ = some (.tup [], ⟨L, hp'⟩) ∧ aY hp' F' m (M.sureN j n) ∧ Chg hp hp' F F' ∧ hp'[m]? = hp[m]? := by
 obtain ⟨k', fk, ne, ⟨cp', left, h1, h2, h3⟩, sv, ow, h4, h5⟩ := h.mb;have hkk : k = k' := pV (Blk.rw.inj (Option.some.inj (hb.symm.trans h1)));subst hkk;have ok := h.ok;have hlen := ok.len j hj;have hkl := au h4;have hml := au h1;have hTl : (tab M.n fun i => plV (M.S i) (M.L i) (sv i)).length = M.n := dt _ _;have hX : hp = lnB k j (tab M.n fun i => plV (M.S i) (M.L i) (sv i)) hp (plV (M.S j) (M.L j) (sv j)) := by
  unfold lnB;rw [IK (f := fun i => plV (M.S i) (M.L i) (sv i)) hj];exact (uP h4).symm
 obtain ⟨v1, v2, s1, s2, s3, s4⟩ := (h5 j hj).sub (n := n) (by rw [List.length_map]; exact hn);have hT : ∀ x, ((tab M.n fun i => plV (M.S i) (M.L i) (sv i)).set j x)[j]? = some x := fun x => List.getElem?_set_self (by rw [hTl]; exact hj);have hms := MQ (T := tab M.n fun i => plV (M.S i) (M.L i) (sv i)) (nw := lnV (am (M.S j) (M.L j))) (fl := flV (M.L j)) (sv := sv j) (G := fun x => F x ∧ x ≠ m ∧ x ≠ k ∧ ow x = j) hkl (by rw [hTl]; exact hj) (ok.l8 j hj) (ok.w8 j hj) (fun hh => hh.2.2.1 rfl) hn (by omega) (v1 := v1) L (fun hp' he L => (s3 hp' he L).1);have hG1 : ∀ x, F x ∧ x ≠ m ∧ x ≠ k ∧ ow x = j → (lnB k j (tab M.n fun i => plV (M.S i) (M.L i) (sv i)) hp (nlV (lnV (am (M.S j) (M.L j))) (lnV (am (M.S j) ((M.L j).take n))) (sv j) (flV (M.L j))))[x]? = hp[x]? := fun x hx => List.getElem?_set_ne (Ne.symm hx.2.2.1);obtain ⟨H2, v', p1, p2, p3⟩ := BW (H := lnB k j (tab M.n fun i => plV (M.S i) (M.L i) (sv i)) hp (nlV (lnV (am (M.S j) (M.L j))) (lnV (am (M.S j) ((M.L j).take n))) (sv j) (flV (M.L j)))) s4 (fun L => (s3 _ hG1 L).2) (by rw [← List.map_drop]; exact PO) (by rw [← List.map_drop, List.length_map, List.length_drop]; simp [eI]; omega);have hl1 : (lnB k j (tab M.n fun i => plV (M.S i) (M.L i) (sv i)) hp (nlV (lnV (am (M.S j) (M.L j))) (lnV (am (M.S j) ((M.L j).take n))) (sv j) (flV (M.L j)))).length = hp.length := List.length_set ..;have hH1k : (lnB k j (tab M.n fun i => plV (M.S i) (M.L i) (sv i)) hp (nlV (lnV (am (M.S j) (M.L j))) (lnV (am (M.S j) ((M.L j).take n))) (sv j) (flV (M.L j))))[k]? = _ := List.getElem?_set_self hkl;have hH2k := cv p1 hH1k;have hH2l := p1.length_le;have old2 : ∀ x, x < hp.length → x ≠ k → H2[x]? = hp[x]? := fun x hx hxk => by
  have : (lnB k j (tab M.n fun i => plV (M.S i) (M.L i) (sv i)) hp (nlV (lnV (am (M.S j) (M.L j))) (lnV (am (M.S j) ((M.L j).take n))) (sv j) (flV (M.L j))))[x]? = hp[x]? := List.getElem?_set_ne (Ne.symm hxk);rw [← this];have hlt : x < (lnB k j (tab M.n fun i => plV (M.S i) (M.L i) (sv i)) hp (nlV (lnV (am (M.S j) (M.L j))) (lnV (am (M.S j) ((M.L j).take n))) (sv j) (flV (M.L j)))).length := by rw [hl1]; exact hx
  rw [cv p1 (List.getElem?_eq_getElem hlt), List.getElem?_eq_getElem hlt]
 have hfl := Lb (hp := H2) (k := k) (i := j) (T := tab M.n fun i => plV (M.S i) (M.L i) (sv i)) (l := M.L j) (by omega) (by rw [hTl]; exact hj) (n := n) (by omega) (by omega) (lnV (am (M.S j) (M.L j))) (lnV (am (M.S j) ((M.L j).take n))) v' L;rw [Kd, La] at hfl;have hst : H2.set k (.rw (.agg 57 (((tab M.n fun i => plV (M.S i) (M.L i) (sv i)).set j (nlV (lnV (am (M.S j) (M.L j))) (lnV (am (M.S j) ((M.L j).take n))) (sv j) (flV (M.L j)))).set j (nlV (lnV (am (M.S j) (M.L j))) (lnV (am (M.S j) ((M.L j).take n))) v' (flV (M.L j)))))) =
  lnB k j (tab M.n fun i => plV (M.S i) (M.L i) (sv i)) H2 (nlV (lnV (am (M.S j) (M.L j))) (lnV (am (M.S j) ((M.L j).take n))) v' (flV (M.L j))) := by unfold lnB; rw [List.set_set]
 have hfin : (lnB k j (tab M.n fun i => plV (M.S i) (M.L i) (sv i)) H2 (nlV (lnV (am (M.S j) (M.L j))) (lnV (am (M.S j) ((M.L j).take n))) v' (flV ((M.L j).drop n))))[m]? = hp[m]? := by
  unfold lnB;rw [List.getElem?_set_ne (Ne.symm ne)];exact old2 m hml ne
 refine ⟨lnB k j (tab M.n fun i => plV (M.S i) (M.L i) (sv i)) H2 (nlV (lnV (am (M.S j) (M.L j))) (lnV (am (M.S j) ((M.L j).take n))) v' (flV ((M.L j).drop n))), fun x => F x ∨ (hp.length ≤ x ∧ x < H2.length), ?_, ⟨ok.sureN, fun x hx => ?_, .inl h.fm, k, .inl fk, ne, ⟨cp', left, hfin.trans h1, h2, h3⟩, upd sv j v', fun x => if hp.length ≤ x then j else ow x, ?_, fun i hi => ?_⟩, ⟨?_, fun x hx hnx => ?_, fun x hx => ?_⟩, hfin⟩
 ·have hX2 : lnB k j (tab M.n fun i => plV (M.S i) (M.L i) (sv i)) hp (nlV (lnV (am (M.S j) (M.L j))) (lnV (M.S j)) (sv j) (flV (M.L j))) = hp := hX.symm;rw [hX2] at hms;have g := al (f := fun i => plV (M.S i) (M.L i) (sv i)) hj;have g0 : plV (M.S j) (M.L j) (sv j) = .agg 55 [lnV (am (M.S j) (M.L j)), lnV (M.S j), sv j, flV (M.L j)] := rfl;rw [g0] at g;have ts := p3.tag;have tl := p3.lt;have hv1 := (s3 hp (fun _ _ => rfl) L).1;have hsl : V.slen false v1 = some n := by
   have := hv1.slen
   rwa [List.length_take, List.length_map, Nat.min_eq_left hn] at this
  clear hX hX2 p1 p3 hv1 h5;generalize lnB k j (tab M.n fun i => plV (M.S i) (M.L i) (sv i)) hp (nlV (lnV (am (M.S j) (M.L j))) (lnV (am (M.S j) ((M.L j).take n))) (sv j) (flV (M.L j))) = H1 at *;generalize (lnB k j (tab M.n fun i => plV (M.S i) (M.L i) (sv i)) H2 (nlV (lnV (am (M.S j) (M.L j))) (lnV (am (M.S j) ((M.L j).take n))) v' (flV (M.L j)))) = H3 at *;generalize (lnB k j (tab M.n fun i => plV (M.S i) (M.L i) (sv i)) H2 (nlV (lnV (am (M.S j) (M.L j))) (lnV (am (M.S j) ((M.L j).take n))) v' (flV ((M.L j).drop n)))) = H4 at *;generalize (tab M.n fun i => plV (M.S i) (M.L i) (sv i)) = T0 at *;generalize lnV (am (M.S j) ((M.L j).take n)) = w2 at *;generalize lnV (am (M.S j) (M.L j)) = w1 at *;generalize flV (M.L j) = w4 at *;simp only [nlV] at *;rw [ae ru rfl];simp only [go_sem, h4, g, s1, hsl, hms];simp only [go_sem, hH1k, hT, s2, p2];simp only [go_sem, hH2k, hT, ts, tl, hst, hfl]
 ·unfold lnB;rw [List.length_set];rcases hx with hx | hx
  ·have := h.inn x hx; omega
  ·exact hx.2
 ·unfold lnB;rw [List.getElem?_set_self (by omega), bA];congr 3;apply aE;intro i _;unfold upd;by_cases e : i = j
  ·subst e;simp only [if_true];unfold plV AM.sureN;simp only;rw [aj, aj, ← kL, List.take_append_drop]
  ·simp only [e, if_false];unfold AM.sureN;simp only;rw [ao e, ao e]
 ·unfold AM.sureN;simp only;by_cases e : i = j
  ·subst e;rw [aj, aj, List.map_drop];refine p3.more (fun x h1 h2 => ?_) fun x h1 h2 => ⟨.inr ⟨by rw [hl1] at h2; exact h2.1, h1⟩, by omega, by rw [hl1] at h2; omega, if_pos (by rw [hl1] at h2; exact h2.1)⟩;unfold lnB;rw [List.getElem?_set_ne (by rw [hl1] at h2; omega)]
  ·rw [ao e, ao e];refine (h5 i hi).more (fun x h1 h2 => ?_) fun x h1 h2 => ⟨.inl h2.1, h2.2.1, h2.2.2.1, (if_neg (by omega)).trans h2.2.2.2⟩;unfold lnB;rw [List.getElem?_set_ne (Ne.symm h2.2.2.1)];exact old2 x h1 h2.2.2.1
 ·unfold lnB; rw [List.length_set]; omega
 ·unfold lnB;rw [List.getElem?_set_ne (fun e => hnx (by rw [← e]; exact fk))];exact old2 x hx (fun e => hnx (by rw [e]; exact fk))
 ·rcases hx with hx | hx
  ·exact .inl hx
  ·exact .inr hx.1
end Go.Proofs.YtmimfopnhmmlbaaGreatDoor
namespace Go.Proofs.YtmimfopnhmmlbaaGreatDoor
open Go.Ab
def AM.fencedTo (M : AM) (c : Nat) : Nat → AM
 | 0 => M
 | i + 1 => (M.fencedTo c i).sureN i (flN c ((M.fencedTo c i).L i))
theorem DX {M : AM} {i : Nat} : M.sureN i 0 = M := by
 obtain ⟨n, S, L, off, left, count⟩ := M;unfold AM.sureN;simp only [List.take_zero, List.drop_zero, am];congr 1
 ·funext j; unfold upd; split
  ·rename_i e; subst e; rfl
  ·rfl
 ·funext j; unfold upd; split
  ·rename_i e; subst e; rfl
  ·rfl
theorem cV {M : AM} {c : Nat} : ∀ i, (M.fencedTo c i).n = M.n ∧ (M.fencedTo c i).count = M.count ∧ (M.fencedTo c i).off = M.off ∧ (M.fencedTo c i).left = M.left
 | 0 => ⟨rfl, rfl, rfl, rfl⟩
 | i + 1 => cV i
theorem lV {M : AM} (h : M.Ok) {c : Nat} : ∀ i, (M.fencedTo c i).Ok
 | 0 => h
 | i + 1 => (lV h i).sureN
theorem oh {M : AM} {c j : Nat} : ∀ i, (M.fencedTo c i).now j = M.now j
 | 0 => rfl
 | i + 1 => by simp only [AM.fencedTo]; rw [AM.now_sure]; exact oh i
def AM.fence (M : AM) (c : Int) : AM × Int := if c < 0 ∨ 8 ≤ c then (M, 1) else if M.dead then (M.out, 4) else (M.stepped.fencedTo c.toNat M.n, 0)
theorem Fh (c : Nat) : ∀ l : List Dn, flN c l ≤ l.length
 | [] => Nat.le_refl _
 | d :: l => by
  have := Fh c l;simp only [flN, List.length_cons];split <;> (try split) <;> omega
theorem qB {m k cI : Nat} (hcI : cI < 8) {M : AM} (hc : M.count < 1000000) (hn : M.n ≤ 1024) (L : List Blk) : ∀ (n i : Nat) {hp : List Blk} {F : Ft}, i + n = M.n → aY hp F m (M.fencedTo cI i) →
 (∃ nn cp o b l c, hp[m]? = some (.rw (bv k nn cp o b l c))) →
 ∃ hp' F', rc D L.length (.loop [0, 1, 23, 24] cA) [(0, .ptr (.hp m) [] 59), (1, .int .i64 cI), (23, .int .i64 M.n), (24, .int .i64 i)] ⟨L, hp⟩ =
  some (.exit 0, [(0, .ptr (.hp m) [] 59), (1, .int .i64 cI), (23, .int .i64 M.n), (24, .int .i64 M.n), (25, .bool false)], ⟨L, hp'⟩) ∧ aY hp' F' m (M.fencedTo cI M.n) ∧ Chg hp hp' F F'
 | 0, i, hp, F, hi, h, _ => by
  have : i = M.n := by omega
  subst this;refine ⟨hp, F, ?_, h, .refl _ _⟩;have d1 : ¬ (M.n : Int) < M.n := by omega
  rw [ah];simp only [go_sem, cA, d1]
 | n + 1, i, hp, F, hi, h, hb => by
  have hM := h;obtain ⟨nn, cp0, o, b, l, c, hb⟩ := hb;obtain ⟨k', fk, ne, ⟨cp, left, h1, h2, h3⟩, sv, ow, h4, h5⟩ := h.mb;have hkk : k = k' := pV (Blk.rw.inj (Option.some.inj (hb.symm.trans h1)));subst hkk;have en := (cV (M := M) (c := cI) i).1;have ec := (cV (M := M) (c := cI) i).2.1;rw [en] at h4 h1;have hj : i < M.n := by omega
  have g := al (f := fun q => plV ((M.fencedTo cI i).S q) ((M.fencedTo cI i).L q) (sv q)) hj;have g0 : plV ((M.fencedTo cI i).S i) ((M.fencedTo cI i).L i) (sv i) = .agg 55 [lnV (am ((M.fencedTo cI i).S i) ((M.fencedTo cI i).L i)), lnV ((M.fencedTo cI i).S i), sv i, .agg 50 (tab 8 fun c => .int .i64 (flN c ((M.fencedTo cI i).L i) : Nat))] := rfl;rw [g0] at g;have gf := al (f := fun c => V.int .i64 (flN c ((M.fencedTo cI i).L i) : Nat)) hcI;have d1 : (i : Int) < M.n := by omega
  have d2 : (cI : Int) < 8 := by omega
  have d3 : (0 : Int) ≤ cI := by omega
  have d4 : IntKind.i64.wrap ((i : Int) + 1) = ((i + 1 : Nat) : Int) := ag (by omega) (by omega);have hsad : jS 55 (.sl (.hp k) [] 0 M.n cp 55) (.int .i64 (i : Int)) = some (.ptr (.hp k) [i] 55) := by simp [go_sem, hj]
  by_cases hz : flN cI ((M.fencedTo cI i).L i) = 0
  ·have e : M.fencedTo cI (i + 1) = M.fencedTo cI i := by simp only [AM.fencedTo]; rw [hz, DX]
   obtain ⟨hp', F', r1, r2, r3⟩ := qB hcI hc hn L n (i + 1) (by omega) (by rw [e]; exact hM) ⟨_, _, _, _, _, _, hb⟩;refine ⟨hp', F', ?_, r2, r3⟩;rw [← r1, ah];rw [hz] at gf;have d5 : ¬ ((0 : Nat) : Int) > 0 := by omega
   simp only [bv] at h1;generalize (tab 8 fun c => V.int .i64 (flN c ((M.fencedTo cI i).L i) : Nat)) = TF at *;generalize (tab M.n fun q => plV ((M.fencedTo cI i).S q) ((M.fencedTo cI i).L q) (sv q)) = T0 at *;simp only [go_sem, cA, d1, h1, hsad, h4, g, d2, d3, Int.toNat_natCast, gf, d5, d4]
  ·obtain ⟨hp1, F1, s1, s2, s3, s4⟩ := pE hM (by rw [ec]; exact hc) hb (j := i) (n := flN cI ((M.fencedTo cI i).L i)) (by rw [en]; exact hj) (Fh _ _) L;obtain ⟨hp', F', r1, r2, r3⟩ := qB hcI hc hn L n (i + 1) (by omega) (F := F1) (hp := hp1) s2 ⟨_, _, _, _, _, _, s4.trans hb⟩;refine ⟨hp', F', ?_, r2, s3.trans r3⟩;rw [← r1, ah];have d5 : ((flN cI ((M.fencedTo cI i).L i) : Nat) : Int) > 0 := by omega
   simp only [bv] at h1;generalize (tab 8 fun c => V.int .i64 (flN c ((M.fencedTo cI i).L i) : Nat)) = TF at *;generalize (tab M.n fun q => plV ((M.fencedTo cI i).S q) ((M.fencedTo cI i).L q) (sv q)) = T0 at *;generalize flN cI ((M.fencedTo cI i).L i) = fz at *;simp only [go_sem, cA, d1, h1, hsad, h4, g, d2, d3, Int.toNat_natCast, gf, d5, d4, s1]
theorem tK {hp : List Blk} {F : Ft} {m : Nat} {M : AM} (h : aY hp F m M) (hc : M.count + 1 < 1000000) (c : Int) (L : List Blk) :
 ∃ hp' F', rf D iS [.ptr (.hp m) [] 59, .int .i64 c] ⟨L, hp⟩ = some (.int .i64 (M.fence c).2, ⟨L, hp'⟩) ∧ aY hp' F' m (M.fence c).1 ∧ Chg hp hp' F F' := by
 unfold AM.fence;by_cases hq : c < 0 ∨ 8 ≤ c
 ·rw [if_pos hq];refine ⟨hp, F, ?_, h, .refl _ _⟩;rw [ae iT rfl];by_cases hq0 : c < 0
  ·simp only [go_sem, hq0]
  ·have hq8 : c ≥ 8 := by omega
   simp only [go_sem, hq0, hq8]
 ·rw [if_neg hq];obtain ⟨p, rfl⟩ : ∃ p : Nat, c = p := ⟨c.toNat, by omega⟩;rw [Int.toNat_natCast];have d1 : ¬ (p : Int) < 0 := by omega
  have d2 : ¬ (p : Int) ≥ 8 := by omega
  obtain ⟨hp1, s1, s2, s3, s4⟩ := wh h (by omega);unfold AM.stpE at s1;unfold AM.stp at s2;by_cases hd : M.dead = true
  ·rw [if_pos hd];rw [hd, if_pos rfl] at s1 s2;refine ⟨hp1, F, ?_, s2, s3⟩;rw [ae iT rfl];simp only [go_sem, d1, d2, s1]
  ·have hdf : M.dead = false := by simpa using hd
   rw [if_neg hd];rw [hdf, if_neg (by simp)] at s1 s2;have hM1 := s2;obtain ⟨k', fk', ne', ⟨cp', left', q1, q2, q3⟩, sv, ow, q4, q5⟩ := s2.mb;have hs : M.stepped.count < 1000000 := by simp only [AM.stepped]; exact hc
   obtain ⟨hp', F', r1, r2, r3⟩ := qB (m := m) (k := k') (cI := p) (by omega) hs hM1.ok.n1 L M.stepped.n 0 (by omega) (hp := hp1) (F := F) hM1 ⟨_, _, _, _, _, _, q1⟩;refine ⟨hp', F', ?_, r2, s3.trans r3⟩;have e1 : M.stepped.n = M.n := rfl;rw [e1] at r1 q1;rw [show ((0 : Nat) : Int) = 0 from rfl] at r1
   simp only [bv] at q1;rw [ae iT rfl];simp only [go_sem, d1, d2, s1, q1];simp only [go_sem, r1]
end Go.Proofs.YtmimfopnhmmlbaaGreatDoor
namespace Go.Proofs.YtmimfopnhmmlbaaGreatDoor
open Go.Ab
theorem vM (n a b : Int) (s : St) : rf D lP [.int .i64 n, .int .i64 a, .int .i64 b] s = some (.bool (win n a b), s) := by
 unfold win;rw [ae w6 rfl];by_cases h1 : a ≤ n
 ·have h1' : n ≥ a := h1;simp only [go_sem, h1, h1', decide_true]
 ·have h1' : ¬ n ≥ a := h1;simp only [go_sem, h1, h1', decide_false]
structure Sup where
 gen : Int
 root : Int
 seq : Int
 cores : Int
def Sup.v (b : Sup) : V := .agg 44 [.int .i64 b.gen, .int .i64 b.root, .int .i64 b.seq, .int .i64 b.cores]
def Sup.ok (b : Sup) : Bool := win b.gen 1 1099511627776 && (win b.root 0 1023 && (win b.seq 0 1099511627776 && win b.cores 1 8))
def lY (b : Sup) : List Int := [1526644958, IntKind.u64.wrap b.gen, IntKind.u64.wrap b.root, IntKind.u64.wrap b.seq, IntKind.u64.wrap b.cores, 0, 0, 0]
def aI (b : Sup) : List Int := if b.ok = true then bi (lY b) else zl
theorem nM (b : Sup) : (aI b).length = 8 := by
 unfold aI;split
 ·rw [oo]; rfl
 ·rfl
theorem rj (b : Sup) (s : St) : rf D nZ [b.v] s = some (.tup [lnV (aI b), .int .i64 (if b.ok = true then 0 else 1)], s) := by
 have h := vM;have hz : (zl.map (V.int .u64)) = List.replicate 8 (.int .u64 0) := rfl;have hrep : List.replicate 8 (V.int .u64 0) = [.int .u64 0, .int .u64 0, .int .u64 0, .int .u64 0, .int .u64 0, .int .u64 0, .int .u64 0, .int .u64 0] := rfl;have hseal := fun s => mc (l := lY b) rfl s;obtain ⟨g, r, q, c⟩ := b;unfold aI Sup.ok;simp only [Sup.v, lY, lnV, List.map_cons, List.map_nil] at *;generalize hA : win g 1 1099511627776 = A;generalize hB : win r 0 1023 = B;generalize hC : win q 0 1099511627776 = C;generalize hE : win c 1 8 = E;rw [ae zJ rfl];cases A
 ·simp only [go_sem, h, hA, hz]
 ·cases B
  ·simp only [go_sem, h, hA, hB, hz]
  ·cases C
   ·simp only [go_sem, h, hA, hB, hC, hz]
   ·cases E
    ·simp only [go_sem, h, hA, hB, hC, hE, hz]
    ·simp only [go_sem, h, hA, hB, hC, hE];simp only [go_sem, hrep, hseal]
def AM.wrs (M : AM) (slot : Int) (b : Sup) : AM × Int :=
 if b.ok = false ∨ (slot ≠ 0 ∧ slot ≠ 1) then (M, 1) else
 if (M.store slot 7 0).2 ≠ 0 then M.store slot 7 0 else
 let r := (M.store slot 7 0).1.layFrom slot (aI b) 0 8
 if r.2 ≠ 0 then r else
 if (r.1.flush 0 slot).2 ≠ 0 then r.1.flush 0 slot else (r.1.flush 0 slot).1.fence 0
section
variable {m : Nat}
theorem yU {l : List Int} (hl : l.length = 8) {at' : Int} {L : List Blk} {base : Nat} (hL : (L.drop base).all (a8 L.length) = true) : ∀ (n j : Nat) {hp : List Blk} {Fm : Ft} {M : AM}, j + n = 8 → aY hp Fm m M → M.count + n < 1000000 →
 ∃ hp' Fm' r, rc D base (.loop [0, 1, 2, 37, 38] fD) [(0, .ptr (.hp m) [] 59), (1, .int .i64 0), (2, .int .i64 at'), (37, lnV l), (38, .int .i64 j)] ⟨L, hp⟩ = some r ∧
  aY hp' Fm' m (M.layFrom at' l j n).1 ∧ Chg hp hp' Fm Fm' ∧
  (((M.layFrom at' l j n).2 = 0 ∧ r = (.exit 0, [(0, .ptr (.hp m) [] 59), (1, .int .i64 0), (2, .int .i64 at'), (37, lnV l), (38, .int .i64 8), (39, .bool false)], ⟨L, hp'⟩)) ∨
   ((M.layFrom at' l j n).2 ≠ 0 ∧ r = (.ret, [(8, .int .i64 (M.layFrom at' l j n).2)], ⟨L, hp'⟩)))
 | 0, j, hp, Fm, M, hj, h, _ => by
  have : j = 8 := by omega
  subst this;refine ⟨hp, Fm, _, ?_, h, .refl _ _, .inl ⟨rfl, rfl⟩⟩;rw [ah];simp only [lnV];simp only [go_sem, fD]
 | n + 1, j, hp, Fm, M, hj, h, hc => by
  obtain ⟨hp1, Fm1, e1, e2, e3⟩ := jy h (by omega) at' j (l.getD j 0) L;have hcn := AM.store_count (M := M) (i := at') (q := j) (v := l.getD j 0);have d1 : (j : Int) < 8 := by omega
  have d2 : (0 : Int) ≤ j := by omega
  have d4 : IntKind.i64.wrap ((j : Int) + 1) = ((j + 1 : Nat) : Int) := ag (by omega) (by omega);have g := aS (f := V.int .u64) (l := l) (i := j) (by omega) 0;simp only [AM.layFrom];by_cases he : (M.store at' j (l.getD j 0)).2 = 0
  ·rw [if_neg fun hh => hh he];obtain ⟨hp2, Fm2, r, q1, q2, q3, q4⟩ := yU hl hL n (j + 1) (by omega) e2 (by omega);refine ⟨hp2, Fm2, r, ?_, q2, e3.trans q3, q4⟩;rw [← q1, ah];rw [he] at e1;simp only [lnV] at *;generalize l.getD j 0 = wd at *;simp only [go_sem, fD, d1, d2, Int.toNat_natCast, g, e1, d4, hL]
  ·rw [if_pos he];refine ⟨hp1, Fm1, _, ?_, e2, e3, .inr ⟨he, rfl⟩⟩;rw [ah];simp only [lnV] at *;generalize l.getD j 0 = wd at *;simp only [go_sem, fD, d1, d2, Int.toNat_natCast, g, e1, he]
theorem bY {M : AM} {c i : Int} : (M.flush c i).1.count ≤ M.count + 1 ∧ (M.flush c i).1.n = M.n := by
 unfold AM.flush;split
 ·exact ⟨by simp only; omega, rfl⟩
 ·split
  ·exact ⟨by simp only [AM.out]; omega, rfl⟩
  ·exact ⟨by simp only [AM.flushed, AM.stepped]; omega, rfl⟩
theorem Cj {hp : List Blk} {F : Ft} {M : AM} (h : aY hp F m M) (hc : M.count + 12 < 1000000) (slot : Int) (b : Sup) (L : List Blk) :
 ∃ hp' F', rf D mC [.ptr (.hp m) [] 59, .int .i64 0, .int .i64 slot, b.v] ⟨L, hp⟩ = some (.int .i64 (M.wrs slot b).2, ⟨L, hp'⟩) ∧ aY hp' F' m (M.wrs slot b).1 ∧ Chg hp hp' F F' := by
 have hln := fun s => rj b s;have hlen := nM b;unfold AM.wrs;by_cases hb : b.ok = false
 ·rw [if_pos (.inl hb)];refine ⟨hp, F, ?_, h, .refl _ _⟩;rw [hb, if_neg (by simp)] at hln;simp only [Sup.v, lnV] at *;rw [ae eY rfl];simp only [go_sem, hln]
 ·have hb' : b.ok = true := by simpa using hb
  rw [hb', if_pos rfl] at hln;by_cases hs : slot ≠ 0 ∧ slot ≠ 1
  ·rw [if_pos (.inr hs)];refine ⟨hp, F, ?_, h, .refl _ _⟩;have h0 := hs.1;have h1 := hs.2;simp only [Sup.v, lnV] at *;rw [ae eY rfl];simp only [go_sem, hln, h0, h1]
  ·rw [if_neg (by intro hh; rcases hh with hh | hh; exact hb hh; exact hs hh)];obtain ⟨hp1, F1, e1, e2, e3⟩ := jy h (by omega) slot 7 0 (L ++ [.rw b.v, .rw (lnV (aI b))]);have c1 := AM.store_count (M := M) (i := slot) (q := 7) (v := 0);have hsl : slot = 0 ∨ slot = 1 := by omega
   by_cases he1 : (M.store slot 7 0).2 = 0
   ·rw [if_neg (by simp [he1])];obtain ⟨hp2, F2, r, q1, q2, q3, q4⟩ := yU (m := m) hlen (at' := slot) (L := L ++ [.rw b.v, .rw (lnV (aI b))]) (base := L.length) (by simp only [Sup.v, lnV]; simp only [go_sem]) 8 0 rfl e2 (by omega);have c2 := AM.layFrom_count (M := (M.store slot 7 0).1) (at' := slot) (l := aI b) (n := 8) (j := 0);simp only;by_cases he2 : ((M.store slot 7 0).1.layFrom slot (aI b) 0 8).2 = 0
    ·rw [if_neg (by simp [he2])];rcases q4 with ⟨_, rfl⟩ | ⟨z, _⟩
     ·obtain ⟨hp3, r1, r2, r3⟩ := tS q2 (by omega) 0 slot (L ++ [.rw b.v, .rw (lnV (aI b))]);have c3 := (bY (M := ((M.store slot 7 0).1.layFrom slot (aI b) 0 8).1) (c := 0) (i := slot)).1;by_cases he3 : (((M.store slot 7 0).1.layFrom slot (aI b) 0 8).1.flush 0 slot).2 = 0
      ·rw [if_neg (by simp [he3])];obtain ⟨hp4, F4, s1, s2, s3⟩ := tK r2 (by omega) 0 (L ++ [.rw b.v, .rw (lnV (aI b))]);refine ⟨hp4, F4, ?_, s2, ((e3.trans q3).trans r3).trans s3⟩;rw [show ((0 : Nat) : Int) = 0 from rfl] at q1
       rw [he1] at e1;rw [he3] at r1;generalize ((((M.store slot 7 0).1.layFrom slot (aI b) 0 8).1.flush 0 slot).1.fence 0) = fz at *;generalize aI b = sl at *;simp only [Sup.v, lnV] at *;rw [ae eY rfl];rcases hsl with rfl | rfl
       ·simp only [go_sem, hln, e1];simp only [go_sem, q1, r1, s1]
       ·simp only [go_sem, hln, e1];simp only [go_sem, q1, r1, s1]
      ·rw [if_pos he3];refine ⟨hp3, F2, ?_, r2, (e3.trans q3).trans r3⟩;rw [show ((0 : Nat) : Int) = 0 from rfl] at q1
       rw [he1] at e1;generalize (((M.store slot 7 0).1.layFrom slot (aI b) 0 8).1.flush 0 slot) = fz at *;generalize aI b = sl at *;simp only [Sup.v, lnV] at *;rw [ae eY rfl];rcases hsl with rfl | rfl
       ·simp only [go_sem, hln, e1];simp only [go_sem, q1, r1, he3]
       ·simp only [go_sem, hln, e1];simp only [go_sem, q1, r1, he3]
     ·exact absurd he2 z
    ·rw [if_pos he2];rcases q4 with ⟨z, _⟩ | ⟨_, rfl⟩
     ·exact absurd z he2
     ·refine ⟨hp2, F2, ?_, q2, e3.trans q3⟩;rw [show ((0 : Nat) : Int) = 0 from rfl] at q1
      rw [he1] at e1;generalize ((M.store slot 7 0).1.layFrom slot (aI b) 0 8) = fz at *;generalize aI b = sl at *;simp only [Sup.v, lnV] at *;rw [ae eY rfl];rcases hsl with rfl | rfl
      ·simp only [go_sem, hln, e1];simp only [go_sem, q1]
      ·simp only [go_sem, hln, e1];simp only [go_sem, q1]
   ·rw [if_pos he1];refine ⟨hp1, F1, ?_, e2, e3⟩;generalize (M.store slot 7 0) = fz at *;generalize aI b = sl at *;simp only [Sup.v, lnV] at *;rw [ae eY rfl];rcases hsl with rfl | rfl
    ·simp only [go_sem, hln, e1, he1]
    ·simp only [go_sem, hln, e1, he1]
end
end Go.Proofs.YtmimfopnhmmlbaaGreatDoor
namespace Go.Proofs.YtmimfopnhmmlbaaGreatDoor
open Go.Ab
structure AW where
 x : AS
 b : Sup
 slot : Int
 st : List (Nat × Int)
 seq : Int
 tbl : Nat → Ent
 dir : Nat → Int
def uo : Nat → Nat
 | 0 => dI
 | 1 => ew
 | 2 => eE
 | 3 => dH
 | _ => c9
def bu (p : Nat × Int) : V := .agg 47 [.fn (uo p.1) [], .int .i64 p.2]
def wkV (m a : Nat) (sv : V) (w : AW) : V := .agg 61 [.ptr (.hp m) [] 59, .ptr (.hp a) [] 43, w.b.v, .int .i64 w.slot, sv, .int .i64 w.seq, ab w.tbl, aM w.dir]
inductive StR (hp : List Blk) (G : Ft) : V → List (Nat × Int) → Prop where
 | nil : StR hp G .nils []
 | emp (a : Nat) : StR hp G (.sl (.hp a) [] 0 0 (some 0) 47) []
 | sl (a off : Nat) (K : List V) (l : List (Nat × Int)) (hb : hp[a]? = some (.rw (.agg 63 K))) (hG : G a) (hk : ∀ (j : Nat) x, (l.map bu)[j]? = some x → K[off + j]? = some x) : StR hp G (.sl (.hp a) [] off l.length none 47) l
theorem Fo : ∀ l : List (Nat × Int), V.locLts 0 (l.map bu) = true
 | [] => rfl
 | p :: l => by
  have h : V.locLt 0 (bu p) = true := by simp only [bu]; simp only [go_sem]
  simp only [List.map_cons, V.locLts, h, Fo l, Bool.and_self]
section
variable {hp hp' : List Blk} {G G' : Ft} {v : V} {l : List (Nat × Int)}
theorem StR.eqv (h : StR hp G v l) (he : Eqv hp hp' G) : StR hp' G v l := by
 cases h with
 | nil => exact .nil
 | emp a => exact .emp a
 | sl a off K l hb hG hk => exact .sl a off K l (by rw [he a hG]; exact hb) hG hk
theorem StR.rs (h : StR hp G v l) (L : List Blk) : RS ⟨L, hp⟩ 47 v (l.map bu) := by
 cases h with
 | nil => exact .inl ⟨rfl, rfl⟩
 | emp a => exact .inr ⟨_, _, _, _, rfl, fun c hc => by cases hc; exact Nat.le_refl _, rfl, .inl rfl⟩
 | sl a off K l hb hG hk =>
  exact .inr ⟨_, _, _, _, by rw [List.length_map], fun c hc => (by cases hc), rfl, .inr ⟨63, K, by rw [lN, hb]; rfl, hk⟩⟩
theorem StR.slen (h : StR hp G v l) : V.slen false v = some l.length := by cases h <;> rfl
theorem StR.lt (h : StR hp G v l) : V.locLt 0 v = true := by cases h <;> rfl
theorem StR.tag (h : StR hp G v l) : v.tag = 1 := by cases h <;> rfl
theorem StR.shape (h : StR hp G v l) : v = .nils ∨ ∃ a p o n c, v = .sl a p o n c 47 := by
 cases h with
 | nil => exact .inl rfl
 | emp a => exact .inr ⟨_, _, _, _, _, rfl⟩
 | sl => exact .inr ⟨_, _, _, _, _, rfl⟩
theorem StR.push (h : StR hp G v l) {L : List Blk} {y : V} {l2 : List (Nat × Int)} (hy : y = .nils ∨ ∃ a p o n c, y = .sl a p o n c 47) (hyl : St.elems ⟨L, hp⟩ y = some (l2.map bu)) (hn : l2 ≠ []) (hm : l.length + l2.length < 1000) (base : Nat) :
 ∃ hp', aK base true 63 47 v y ⟨L, hp⟩ = some (.sl (.hp hp.length) [] 0 (l ++ l2).length none 47, ⟨L, hp'⟩) ∧ StR hp' (.one hp.length) (.sl (.hp hp.length) [] 0 (l ++ l2).length none 47) (l ++ l2) ∧ Chg hp hp' G (.one hp.length) ∧ hp'.length = hp.length + 1 := by
 have hel := (h.rs L).elems;have hlt : 47 % 2 = 0 ∨ aQ true (.agg 1 (l.map bu ++ l2.map bu)) = true := .inr (by rw [← List.map_append]; simp only [ul, vj, Fo, Bool.or_true]);have key := xf (base := base) (h := true) (r := 63) h.shape hy hel hyl (by simpa using hn) (by simp [eI]; omega) hlt;have hnew : ∀ H : List Blk, H.length = hp.length → (∀ j, j < hp.length → ¬ G j → H[j]? = hp[j]?) →
  ∃ hp', some (V.sl (.hp H.length) [] 0 ((l.map bu).length + (l2.map bu).length) none 47, (⟨L, H ++ [.rw (.agg 63 (l.map bu ++ l2.map bu))]⟩ : St)) = some (.sl (.hp hp.length) [] 0 (l ++ l2).length none 47, ⟨L, hp'⟩) ∧ StR hp' (.one hp.length) (.sl (.hp hp.length) [] 0 (l ++ l2).length none 47) (l ++ l2) ∧ Chg hp hp' G (.one hp.length) ∧ hp'.length = hp.length + 1 := by
  intro H hH ho;refine ⟨H ++ [.rw (.agg 63 (l.map bu ++ l2.map bu))], ?_, .sl hp.length 0 (l.map bu ++ l2.map bu) (l ++ l2) (by rw [← hH]; simp) rfl (fun j x hx => by rw [Nat.zero_add, ← List.map_append]; exact hx), ⟨by simp; omega, fun j hj hn => ?_, fun j hj => .inr (by cases hj; exact Nat.le_refl _)⟩, by simp [hH]⟩
  ·rw [hH]; simp
  ·rw [List.getElem?_append_left (by omega)]; exact ho j hj hn
 rw [key];cases h with
 | nil => exact hnew hp rfl fun _ _ _ => rfl
 | emp a =>
  have : (0 : Nat) < ([] : List (Nat × Int)).length + l2.length := by rw [List.length_nil, Nat.zero_add]; exact List.length_pos_iff.2 hn
  simp only [ol, Option.map_some, List.length_map, this, decide_true, if_true];have := hnew hp rfl fun _ _ _ => rfl;simp only [List.length_map] at this;exact this
 | sl a off K l hb hG hk =>
  have hat : (⟨L, hp⟩ : St).at (.hp a) = some (.rw (.agg 63 K)) := hb;simp only [ol, Option.map_none, hat];rw [if_neg (by simp), if_pos trivial];simp only [Dg, Kx];exact hnew (hp.set a .dead) (List.length_set ..) fun j hj hn => List.getElem?_set_ne fun e => hn (by rw [← e]; exact hG)
theorem StR.rest {p : Nat × Int} {l : List (Nat × Int)} (h : StR hp G v (p :: l)) : ∃ v', dZ 47 (some (.int .i64 1)) none none v = some v' ∧ StR hp G v' l := by
 cases h with
 | sl a off K l' hb hG hk =>
  refine ⟨.sl (.hp a) [] (off + 1) l.length none 47, ?_, .sl a (off + 1) K l hb hG fun j x hx => ?_⟩
  ·simp only [dZ, if_true, ai, aN, fT, Option.isSome_none, Bool.false_eq_true, if_false, List.length_cons];rw [if_pos ⟨by omega, by simp; omega⟩];simp [aN, kx]
  ·have := hk (j + 1) x (by simpa using hx);rw [show off + 1 + j = off + (j + 1) by omega]; exact this
end
structure WkQ (hp : List Blk) (wk a m fr : Nat) (Fm Gs : Ft) (sv : V) (w : AW) : Prop where
 q : aR hp Fm a m fr w.x
 st : hp[wk]? = some (.rw (wkV m a sv w))
 sr : StR hp Gs sv w.st
 n1 : ¬ bM a fr Fm wk
 n2 : lZ Gs (bM a fr Fm)
 n3 : ¬ Gs wk
 gz : ¬ Gs 0
 gi : Inn hp Gs
def WkF (wk a fr : Nat) (Fm Gs : Ft) : Ft := fun j => j = wk ∨ Gs j ∨ bM a fr Fm j
section
variable {hp hp' : List Blk} {wk a m fr : Nat} {Fm Fm' Gs Gs' : Ft} {sv sv' : V} {w w' : AW}
theorem WkQ.inn (h : WkQ hp wk a m fr Fm Gs sv w) : Inn hp (WkF wk a fr Fm Gs) := fun j hj => by
 rcases hj with rfl | hj | hj
 ·exact au h.st
 ·exact h.gi j hj
 ·exact h.q.inn j hj
theorem WkQ.setS (h : WkQ hp wk a m fr Fm Gs sv w) {x' : AS} (q : aR hp' Fm' a m fr x') (hc : Chg hp hp' (bM a fr Fm) (bM a fr Fm')) : WkQ hp' wk a m fr Fm' Gs sv { w with x := x' } := by
 have hwl := au h.st;refine ⟨q, hc.get h.st h.n1, h.sr.eqv fun j hj => hc.old j (h.gi j hj) fun e => h.n2 j hj e, fun e => ?_, fun j h1 h2 => ?_, h.n3, h.gz, h.gi.more hc⟩
 ·rcases hc.new wk e with e | e
  ·exact h.n1 e
  ·omega
 ·rcases hc.new j h2 with e | e
  ·exact h.n2 j h1 e
  ·have := h.gi j h1; omega
theorem qD (hc : Chg hp hp' (bM a fr Fm) (bM a fr Fm')) : Chg hp hp' (WkF wk a fr Fm Gs) (WkF wk a fr Fm' Gs) :=
 hc.mono (fun j h => .inr (.inr h)) fun j h => by
  rcases h with h | h | h
  ·exact .inr (.inl h)
  ·exact .inr (.inr (.inl h))
  ·exact .inl h
theorem WkQ.setB (h : WkQ hp wk a m fr Fm Gs sv w) (hx : w'.x = w.x) (hs : StR hp Gs sv' w'.st) : WkQ (hp.set wk (.rw (wkV m a sv' w'))) wk a m fr Fm Gs sv' w' := by
 have hwl := au h.st;have hw0 : wk ≠ 0 := by
  intro e;have h1 := h.st;rw [e, h.q.g] at h1; cases h1
 refine ⟨by rw [hx]; exact aR.chg h.q (dm (a := wk)) (fun j h1 h2 => h.n1 (by cases h1; exact h2)) (fun e => hw0 e.symm), List.getElem?_set_self hwl, hs.eqv fun j hj => List.getElem?_set_ne fun e => h.n3 (by rw [e]; exact hj), h.n1, h.n2, h.n3, h.gz, h.gi.set⟩
theorem Bx {k : Blk} : Chg hp (hp.set wk k) (WkF wk a fr Fm Gs) (WkF wk a fr Fm Gs) := dm.mono (fun _ h => .inl h) fun _ h => .inr h
theorem WkQ.steps (h : WkQ hp wk a m fr Fm Gs sv w) (hc : Chg hp hp' Gs Gs') : aR hp' Fm a m fr w.x ∧ hp'[wk]? = some (.rw (wkV m a sv w)) ∧ lZ Gs' (bM a fr Fm) ∧ ¬ Gs' wk ∧ ¬ Gs' 0 := by
 have h0 := au h.q.g;refine ⟨aR.chg h.q hc h.n2 h.gz, hc.get h.st h.n3, hc.apart h.n2 h.q.inn, fun e => ?_, fun e => ?_⟩
 ·rcases hc.new wk e with e | e
  ·exact h.n3 e
  ·have := au h.st; omega
 ·rcases hc.new 0 e with e | e
  ·exact h.gz e
  ·omega
theorem WkQ.added (h : WkQ hp wk a m fr Fm Gs sv w) {hp1 : List Blk} (hs : StR hp1 (.one hp.length) sv' w'.st) (hc : Chg hp hp1 Gs (.one hp.length)) (hl : hp1.length = hp.length + 1) (hx : w'.x = w.x) :
 WkQ (hp1.set wk (.rw (wkV m a sv' w'))) wk a m fr Fm (.one hp.length) sv' w' ∧ Chg hp (hp1.set wk (.rw (wkV m a sv' w'))) (WkF wk a fr Fm Gs) (WkF wk a fr Fm (.one hp.length)) := by
 obtain ⟨k1, k2, k3, k4, k5⟩ := h.steps hc;have hwl := au h.st;have hw0 : wk ≠ 0 := by
  intro e;have h1 := h.st;rw [e, h.q.g] at h1; cases h1
 refine ⟨⟨by rw [hx]; exact aR.chg k1 (dm (a := wk)) (fun j h1 h2 => h.n1 (by cases h1; exact h2)) (fun e => hw0 e.symm), List.getElem?_set_self (by omega), hs.eqv fun j hj => List.getElem?_set_ne fun e => k4 (by rw [e]; exact hj), h.n1, k3, k4, k5, fun j hj => by cases hj; rw [List.length_set]; omega⟩, ?_⟩;refine (hc.mono (fun j hj => .inr (.inl hj)) fun j hj => ?_).trans (dm.mono (fun j hj => .inl hj) fun _ hj => .inr hj);rcases hj with hj | hj | hj
 ·exact .inr (.inl hj)
 ·exact .inl hj
 ·exact .inr (.inr (.inr hj))
end
end Go.Proofs.YtmimfopnhmmlbaaGreatDoor
namespace Go.Proofs.YtmimfopnhmmlbaaGreatDoor
open Go.Ab
def aU (t : Nat → Ent) (old : Nat → Bool) : Nat → List (Nat × Int)
 | 0 => []
 | i + 1 => if (t i).kind ≠ 0 ∧ old (t i).line.toNat = false then aU t old i ++ [(0, (t i).line)] else aU t old i
theorem m0 (t : Nat → Ent) (old : Nat → Bool) : ∀ n, (aU t old n).length ≤ n
 | 0 => Nat.le_refl _
 | n + 1 => by
  have := m0 t old n;simp only [aU];split
  ·simp; omega
  ·omega
theorem IG {t : Nat → Ent} (ht : InL t) (L hp : List Blk) (wk : Nat) (d : Nat → Int) :
 rc D L.length (.loop [0, 6, 8, 68, 69] cP) [(0, .ptr (.hp wk) [] 61), (6, .ptr (.loc L.length) [] 48), (8, .ptr (.loc (L.length + 2)) [] 82), (68, ab t), (69, .int .i64 0)] ⟨L ++ [.rw (ab t), .rw (aM d), .rw (shV fun _ => false)], hp⟩ =
  some (.exit 1, [(0, .ptr (.hp wk) [] 61), (6, .ptr (.loc L.length) [] 48), (8, .ptr (.loc (L.length + 2)) [] 82), (68, ab t), (69, .int .i64 49), (70, .bool false)], ⟨L ++ [.rw (ab t), .rw (aM d), .rw (shV (aC t (fun _ => false) 49))], hp⟩) := by
 refine aV (fun x : Nat => [(0, .ptr (.hp wk) [] 61), (6, .ptr (.loc L.length) [] 48), (8, .ptr (.loc (L.length + 2)) [] 82), (68, ab t), (69, .int .i64 x)]) (fun x => ⟨L ++ [.rw (ab t), .rw (aM d), .rw (shV (aC t (fun _ => false) x))], hp⟩) (fun _ => _) (fun x => 49 - x) (fun x => x ≤ 49) 0 ?_ (by omega) rfl rfl;intro i hi;by_cases c1 : i < 49
 ·left;have d1 : (i : Int) < 49 := by omega
  have d2 : (0 : Int) ≤ i := by omega
  have d4 : IntKind.i64.wrap ((i : Int) + 1) = (i : Int) + 1 := ag (by omega) (by omega);have g1 := al (f := fun i => (t i).v) c1;have hin := ht.inn i c1;have z1 : L.length < L.length + 3 := by omega
  have z2 : L.length + 2 < L.length + 3 := by omega
  refine ⟨i + 1, by omega, by omega, rfl, ?_⟩;simp only [ab, aM, Ent.v, aC] at *;generalize tab 49 (fun i => V.agg 42 [.int .i64 (t i).kind, .int .i64 (t i).ver, .int .i64 (t i).line]) = T at *;by_cases hk : (t i).kind = 0
  ·simp only [hk, if_true] at g1 ⊢;simp only [shV] at *;generalize tab 1024 (fun j => V.bool (aC t (fun _ => false) i j)) = F at *;simp only [go_sem, cP, d1, d2];rw [Int.toNat_natCast];simp only [go_sem, g1, d4, z1, z2, oE, List.drop_succ_cons, List.drop_zero];rfl
  ·simp only [hk, if_false] at g1 ⊢;obtain ⟨h1, h2⟩ := hin hk;obtain ⟨q, hq⟩ : ∃ q : Nat, (t i).line = q := ⟨(t i).line.toNat, by omega⟩;simp only [hq, Int.toNat_natCast] at g1 h1 h2 ⊢;have e := bA 1024 (fun j => V.bool (aC t (fun _ => false) i j)) q (.bool true);have hu : tab 1024 (upd (fun j => V.bool (aC t (fun _ => false) i j)) q (.bool true)) = tab 1024 (fun j => V.bool (upd (aC t (fun _ => false) i) q true j)) := aE fun j _ => by unfold upd; split <;> rfl
   rw [hu] at e;have hg := al (f := fun j => V.bool (aC t (fun _ => false) i j)) (show q < 1024 by omega);simp only [shV];rw [← e];generalize tab 1024 (fun j => V.bool (aC t (fun _ => false) i j)) = F at *;generalize aC t (fun _ => false) i q = y at *;simp only [go_sem, cP, d1, d2];rw [Int.toNat_natCast];simp only [go_sem, g1, hk, h1, h2];rw [Int.toNat_natCast];simp only [go_sem, hg, d4, z1, z2, oE, List.drop_succ_cons, List.drop_zero];rfl
 ·right;have : i = 49 := by omega
  subst this;simp only [ab];simp only [go_sem, cP]
section
variable {wk a m fr : Nat} {Fm : Ft}
theorem ng {t : Nat → Ent} (ht : InL t) (old : Nat → Bool) (L : List Blk) (u0 u1 : Blk) (hu : ∀ n, a8 n u0 = true ∧ a8 n u1 = true) : ∀ (n i : Nat) {hp : List Blk} {Gs : Ft} {sv : V} {w : AW}, i + n = 49 → WkQ hp wk a m fr Fm Gs sv w → w.st = aU t old i →
 ∃ hp' Gs' sv', rc D L.length (.loop [0, 6, 8, 82, 83] bW) [(0, .ptr (.hp wk) [] 61), (6, .ptr (.loc L.length) [] 48), (8, .ptr (.loc (L.length + 2)) [] 82), (82, ab t), (83, .int .i64 i)] ⟨L ++ [u0, u1, .rw (shV old)], hp⟩ =
  some (.exit 3, [(0, .ptr (.hp wk) [] 61), (6, .ptr (.loc L.length) [] 48), (8, .ptr (.loc (L.length + 2)) [] 82), (82, ab t), (83, .int .i64 49), (84, .bool false)], ⟨L ++ [u0, u1, .rw (shV old)], hp'⟩) ∧
  WkQ hp' wk a m fr Fm Gs' sv' { w with st := aU t old 49 } ∧ Chg hp hp' (WkF wk a fr Fm Gs) (WkF wk a fr Fm Gs')
 | 0, i, hp, Gs, sv, w, hi, h, hw => by
  have : i = 49 := by omega
  subst this;refine ⟨hp, Gs, sv, ?_, by rw [← hw]; exact h, .refl _ _⟩;rw [ah];simp only [ab];simp only [go_sem, bW]
 | n + 1, i, hp, Gs, sv, w, hi, h, hw => by
  have c1 : i < 49 := by omega
  have d1 : (i : Int) < 49 := by omega
  have d2 : (0 : Int) ≤ i := by omega
  have d4 : IntKind.i64.wrap ((i : Int) + 1) = ((i + 1 : Nat) : Int) := ag (by omega) (by omega);have g1 := al (f := fun i => (t i).v) c1;have hin := ht.inn i c1;have z1 : L.length < L.length + 3 := by omega
  have z2 : L.length + 2 < L.length + 3 := by omega
  have hu0 := (hu (L.length + 3)).1;have hu1 := (hu (L.length + 3)).2;have hst := h.st;by_cases hk : (t i).kind = 0
  ·have e : aU t old (i + 1) = aU t old i := by simp only [aU]; rw [if_neg fun hh => hh.1 hk]
   obtain ⟨hp', Gs', sv', r1, r2, r3⟩ := ng ht old L u0 u1 hu n (i + 1) (by omega) h (by rw [e]; exact hw);refine ⟨hp', Gs', sv', ?_, r2, r3⟩;rw [← r1, ah];simp only [ab, shV, Ent.v] at *;generalize tab 49 (fun i => V.agg 42 [.int .i64 (t i).kind, .int .i64 (t i).ver, .int .i64 (t i).line]) = T at *;generalize tab 1024 (fun j => V.bool (old j)) = F at *;rw [hk] at g1;simp only [go_sem, bW, d1, d2, Int.toNat_natCast, g1, d4, z1, z2, hu0, hu1]
  ·obtain ⟨h1, h2⟩ := hin hk;obtain ⟨q, hq⟩ : ∃ q : Nat, (t i).line = q := ⟨(t i).line.toNat, by omega⟩;have hg := al (f := fun j => V.bool (old j)) (show q < 1024 by omega);cases ho : old q
   ·have e : aU t old (i + 1) = aU t old i ++ [(0, (q : Int))] := by simp only [aU]; rw [if_pos ⟨hk, by rw [hq, Int.toNat_natCast]; exact ho⟩, hq]
    have hy : St.elems ⟨L ++ [u0, u1, .rw (shV old), .rw (t i).v, .rw (.agg 63 [bu (0, (q : Int))])], hp⟩ (.sl (.loc (L.length + 4)) [] 0 1 (some 1) 47) = some ([(0, (q : Int))].map bu) := d9 (t := 63) (by simp only [go_sem]) rfl;have hfl := m0 t old i;obtain ⟨hp1, s1, s2, s3, s4⟩ := h.sr.push (L := L ++ [u0, u1, .rw (shV old), .rw (t i).v, .rw (.agg 63 [bu (0, (q : Int))])]) (y := .sl (.loc (L.length + 4)) [] 0 1 (some 1) 47) (l2 := [(0, (q : Int))]) (.inr ⟨_, _, _, _, _, rfl⟩) hy (by simp) (by rw [hw]; simp; omega) L.length;obtain ⟨k1, k2, k3, k4, k5⟩ := h.steps s3;have hA := h.added (w' := { w with st := w.st ++ [(0, (q : Int))] }) s2 s3 s4 rfl;obtain ⟨hp', Gs', sv', r1, r2, r3⟩ := ng ht old L u0 u1 hu n (i + 1) (by omega) hA.1 (by rw [e, ← hw]);refine ⟨hp', Gs', sv', ?_, r2, hA.2.trans r3⟩;rw [← r1, ah];rw [ho] at hg;have hrep : List.replicate 1 (V.agg 47 [.nilf, .int .i64 0]) = [.agg 47 [.nilf, .int .i64 0]] := rfl;have hfn : uo 0 = dI := rfl;simp only [hq] at h1 h2;simp only [ab, shV, Ent.v, hq, wkV, bu, hfn] at *;generalize tab 49 (fun i => V.agg 42 [.int .i64 (t i).kind, .int .i64 (t i).ver, .int .i64 (t i).line]) = T at *;generalize tab 1024 (fun j => V.bool (old j)) = F at *;simp only [go_sem, bW, d1, d2, Int.toNat_natCast, g1, hk, hq, h1, h2, hg, d4, z1, z2, hu0, hu1, hst, hrep, s1, k2]
   ·have e : aU t old (i + 1) = aU t old i := by simp only [aU]; rw [if_neg fun hh => by rw [hq, Int.toNat_natCast, ho] at hh; cases hh.2]
    obtain ⟨hp', Gs', sv', r1, r2, r3⟩ := ng ht old L u0 u1 hu n (i + 1) (by omega) h (by rw [e]; exact hw);refine ⟨hp', Gs', sv', ?_, r2, r3⟩;rw [← r1, ah];rw [ho] at hg;simp only [hq] at h1 h2;simp only [ab, shV, Ent.v, hq] at *;generalize tab 49 (fun i => V.agg 42 [.int .i64 (t i).kind, .int .i64 (t i).ver, .int .i64 (t i).line]) = T at *;generalize tab 1024 (fun j => V.bool (old j)) = F at *;simp only [go_sem, bW, d1, d2, Int.toNat_natCast, g1, hk, hq, h1, h2, hg, d4, z1, z2, hu0, hu1]
end
end Go.Proofs.YtmimfopnhmmlbaaGreatDoor
namespace Go.Proofs.YtmimfopnhmmlbaaGreatDoor
open Go.Ab
inductive NmR (hp : List Blk) (G : Ft) : V → List Int → Prop where
 | nil : NmR hp G .nils []
 | sl (a : Nat) (ks : List Int) (hb : hp[a]? = some (.rw (.agg 38 (ks.map (.int .i64))))) (hG : ¬ G a) : NmR hp G (.sl (.hp a) [] 0 ks.length none 10) ks
theorem NmR.rs {hp : List Blk} {G : Ft} {v : V} {ks : List Int} (h : NmR hp G v ks) (L : List Blk) : RS ⟨L, hp⟩ 10 v (ks.map (.int .i64)) := by
 cases h with
 | nil => exact .inl ⟨rfl, rfl⟩
 | sl a ks hb hG => exact .inr ⟨_, _, _, _, by rw [List.length_map], fun c hc => (by cases hc), rfl, .inr ⟨38, ks.map (.int .i64), by rw [lN, hb]; rfl, fun j x hx => by rw [Nat.zero_add]; exact hx⟩⟩
theorem NmR.lt {hp : List Blk} {G : Ft} {v : V} {ks : List Int} (h : NmR hp G v ks) (n : Nat) : v.locLt n = true := by cases h <;> rfl
theorem NmR.chg {hp hp' : List Blk} {G G' : Ft} {v : V} {ks : List Int} (h : NmR hp G v ks) (hc : Chg hp hp' G G') : NmR hp' G' v ks := by
 cases h with
 | nil => exact .nil
 | sl a ks hb hG =>
  refine .sl a ks (hc.get hb hG) fun e => ?_;rcases hc.new a e with e | e
  ·exact hG e
  ·have := au hb; omega
theorem WkQ.more {hp : List Blk} {wk a m fr : Nat} {Fm Gs : Ft} {sv : V} {w : AW} (h : WkQ hp wk a m fr Fm Gs sv w) (X : List Blk) : WkQ (hp ++ X) wk a m fr Fm Gs sv w :=
 ⟨aR.chg h.q (qC hp X fun _ => False) (fun _ h => h.elim) (fun h => h), (List.getElem?_append_left (au h.st)).trans h.st, h.sr.eqv fun j hj => List.getElem?_append_left (h.gi j hj), h.n1, h.n2, h.n3, h.gz, fun j hj => by have := h.gi j hj; rw [List.length_append]; omega⟩
theorem Pj {hp : List Blk} (X : List Blk) {F : Ft} : Chg hp (hp ++ X) F F := (qC hp X fun _ => False).mono (fun _ h => h.elim) fun _ h => .inr h
section
variable {wk a m fr : Nat} {Fm : Ft}
theorem tO {ks : List Int} (hks : ks.length ≤ 7) (S0 : List (Nat × Int)) (hS : S0.length ≤ 49) {v : V} {L : List Blk} {base : Nat} (hL : (L.drop base).all (a8 L.length) = true) : ∀ (n j : Nat) {hp : List Blk} {Gs : Ft} {sv : V} {w : AW}, j + n = ks.length → WkQ hp wk a m fr Fm Gs sv w → NmR hp (WkF wk a fr Fm Gs) v ks → w.st = S0 ++ (ks.take j).map (fun k => (1, k)) →
 ∃ hp' Gs' sv', rc D base (.loop [0, 114, 115, 116] eQ) [(0, .ptr (.hp wk) [] 61), (114, v), (115, .int .i64 ks.length), (116, .int .i64 j)] ⟨L, hp⟩ =
  some (.exit 5, [(0, .ptr (.hp wk) [] 61), (114, v), (115, .int .i64 ks.length), (116, .int .i64 ks.length), (117, .bool false)], ⟨L, hp'⟩) ∧
  WkQ hp' wk a m fr Fm Gs' sv' { w with st := S0 ++ ks.map (fun k => (1, k)) } ∧ Chg hp hp' (WkF wk a fr Fm Gs) (WkF wk a fr Fm Gs')
 | 0, j, hp, Gs, sv, w, hj, h, hv, hw => by
  have : j = ks.length := by omega
  subst this;rw [List.take_length] at hw;refine ⟨hp, Gs, sv, ?_, by rw [← hw]; exact h, .refl _ _⟩;have d1 : ¬ (ks.length : Int) < ks.length := by omega
  rw [ah];simp only [go_sem, eQ, d1]
 | n + 1, j, hp, Gs, sv, w, hj, h, hv, hw => by
  have c1 : j < ks.length := by omega
  have d1 : (j : Int) < ks.length := by omega
  have d4 : IntKind.i64.wrap ((j : Int) + 1) = ((j + 1 : Nat) : Int) := ag (by omega) (by omega);have hg := aS (f := V.int .i64) (l := ks) (i := j) c1 0;have hsad := (hv.rs L).sadq hg (k := .i64);have hld : ldv ⟨L, hp⟩ 10 (elq v j [] 10) = V.at [] (.int .i64 (ks.getD j 0)) := (hv.rs L).ldq hg;have hst := h.st;have hvl := hv.lt L.length;have e : S0 ++ (ks.take (j + 1)).map (fun k => ((1 : Nat), k)) = w.st ++ [(1, ks.getD j 0)] := by
   rw [hw, List.take_succ_eq_append_getElem c1, List.map_append, List.append_assoc, List.getD_eq_getElem?_getD, List.getElem?_eq_getElem c1]; rfl
  have hy : St.elems ⟨L ++ [.rw (.agg 63 [bu (1, ks.getD j 0)])], hp⟩ (.sl (.loc L.length) [] 0 1 (some 1) 47) = some ([(1, ks.getD j 0)].map bu) := d9 (t := 63) (by simp only [go_sem]) rfl;obtain ⟨hp1, s1, s2, s3, s4⟩ := h.sr.push (L := L ++ [.rw (.agg 63 [bu (1, ks.getD j 0)])]) (y := .sl (.loc L.length) [] 0 1 (some 1) 47) (l2 := [(1, ks.getD j 0)]) (.inr ⟨_, _, _, _, _, rfl⟩) hy (by simp) (by rw [hw]; simp; omega) base;obtain ⟨k1, k2, k3, k4, k5⟩ := h.steps s3;have hA := h.added (w' := { w with st := w.st ++ [(1, ks.getD j 0)] }) s2 s3 s4 rfl;obtain ⟨hp', Gs', sv', r1, r2, r3⟩ := tO hks S0 hS hL n (j + 1) (by omega) hA.1 (hv.chg hA.2) e.symm;refine ⟨hp', Gs', sv', ?_, r2, hA.2.trans r3⟩;rw [← r1, ah];have hrep : List.replicate 1 (V.agg 47 [.nilf, .int .i64 0]) = [.agg 47 [.nilf, .int .i64 0]] := rfl;have hfn : uo 1 = ew := rfl;simp only [wkV, bu, hfn] at *;generalize ks.getD j 0 = kk at *;simp only [go_sem, eQ, d1, hsad, hld, d4, hvl, hL, hst, hrep, s1, k2]
end
def AW.begun (w : AW) (seq : Int) : AW :=
 { w with x := w.x.marks.1, st := aU w.x.work (aC w.x.base (fun _ => false) 49) 49 ++ (bU w.x.work w.x.base 7).map (fun k => (1, k)) ++ [(2, 0), (3, 0), (4, 0)], seq := seq, tbl := w.x.work, dir := w.x.dir }
def AW.begin (w : AW) (seq : Int) : AW × Int :=
 if w.st ≠ [] then (w, 3) else if seq < 0 ∨ 1099511627776 < seq ∨ 1099511627776 ≤ w.b.gen then (w, 1) else if w.x.is = true then (w, 3) else (w.begun seq, 0)
theorem qe {hp : List Blk} {wk a m fr : Nat} {Fm Gs : Ft} {sv : V} {w : AW} (h : WkQ hp wk a m fr Fm Gs sv w) (seq : Int) (L : List Blk) :
 ∃ hp' Gs' sv', rf D jt [.ptr (.hp wk) [] 61, .int .i64 seq] ⟨L, hp⟩ = some (.int .i64 (w.begin seq).2, ⟨L, hp'⟩) ∧ WkQ hp' wk a m fr Fm Gs' sv' (w.begin seq).1 ∧ Chg hp hp' (WkF wk a fr Fm Gs) (WkF wk a fr Fm Gs') := by
 have hst := h.st;have hsl := h.sr.slen;unfold AW.begin;by_cases hs : w.st ≠ []
 ·rw [if_pos hs];refine ⟨hp, Gs, sv, ?_, h, .refl _ _⟩;have d1 : (w.st.length : Int) > 0 := by have := List.length_pos_iff.2 hs; omega
  simp only [wkV] at hst;rw [ae fQ rfl];simp only [go_sem, hst, hsl, d1]
 ·have hs0 : w.st = [] := by simpa using hs
  rw [if_neg hs];rw [hs0] at hsl;by_cases ha : seq < 0 ∨ 1099511627776 < seq ∨ 1099511627776 ≤ w.b.gen
  ·rw [if_pos ha];refine ⟨hp, Gs, sv, ?_, h, .refl _ _⟩;simp only [wkV, Sup.v] at hst;rw [ae fQ rfl];by_cases h1 : seq < 0
   ·simp only [go_sem, hst, hsl, h1]
   ·by_cases h2 : seq > 1099511627776
    ·simp only [go_sem, hst, hsl, h1, h2]
    ·have h3 : w.b.gen ≥ 1099511627776 := by omega
     simp only [go_sem, hst, hsl, h1, h2, h3]
  ·rw [if_neg ha];have h1 : ¬ seq < 0 := by omega
   have h2 : ¬ seq > 1099511627776 := by omega
   have h3 : ¬ w.b.gen ≥ 1099511627776 := by omega
   obtain ⟨hp1, p1, p2, p3⟩ := DN h.q L;by_cases hi : w.x.is = true
   ·rw [if_pos hi];have hm : w.x.marks = (w.x, 3) := by unfold AS.marks; rw [if_pos hi]
    rw [hm] at p1 p2;have hW := h.setS p2 p3;refine ⟨hp1, Gs, sv, ?_, hW, qD p3⟩;simp only [wkV, Sup.v] at hst;rw [ae fQ rfl];simp only [go_sem, hst, hsl, h1, h2, h3, p1]
   ·rw [if_neg hi];have hm : w.x.marks = ({ w.x with mark := w.x.work, is := true }, 0) := by unfold AS.marks; rw [if_neg hi]
    rw [hm] at p1 p2;have W1 := h.setS p2 p3;have ok := h.q.ok;have W2 := W1.setB (w' := { w with x := { w.x with mark := w.x.work, is := true }, tbl := w.x.work }) rfl W1.sr;have W3 := W2.setB (w' := { w with x := { w.x with mark := w.x.work, is := true }, tbl := w.x.work, seq := seq, dir := w.x.dir }) rfl W2.sr;have hwl1 := au W1.st;rw [List.set_set] at W3;have c13 : Chg hp (hp1.set wk (.rw (wkV m a sv { w with x := { w.x with mark := w.x.work, is := true }, tbl := w.x.work, seq := seq, dir := w.x.dir }))) (WkF wk a fr Fm Gs) (WkF wk a fr Fm Gs) := (qD p3).trans Bx;have hold := IG (ok.b.inL ok.A) L (hp1.set wk (.rw (wkV m a sv { w with x := { w.x with mark := w.x.work, is := true }, tbl := w.x.work, seq := seq, dir := w.x.dir }))) wk w.x.dir;obtain ⟨hp4, G4, sv4, e4, W4, c4⟩ := ng (ok.w.inL ok.A) (aC w.x.base (fun _ => false) 49) L (.rw (ab w.x.base)) (.rw (aM w.x.dir)) (fun n => by simp only [ab, aM]; simp only [go_sem]) 49 0 rfl W3 hs0;rw [show ((0 : Nat) : Int) = 0 from rfl] at e4
    obtain ⟨X, vd, hap, ed⟩ := vw w.x.work w.x.base ⟨L ++ [.rw (ab w.x.base), .rw (aM w.x.dir), .rw (shV (aC w.x.base (fun _ => false) 49))], hp4⟩;have W5 : WkQ (hp4 ++ X) wk a m fr Fm G4 sv4 { w with x := { w.x with mark := w.x.work, is := true }, tbl := w.x.work, seq := seq, dir := w.x.dir, st := aU w.x.work (aC w.x.base (fun _ => false) 49) 49 } := W4.more X;have hnm : NmR (hp4 ++ X) (WkF wk a fr Fm G4) vd (bU w.x.work w.x.base 7) := by
     rcases hap.at' with ⟨q1, rfl⟩ | ⟨Y, rfl, rfl⟩
     ·rw [q1]; exact .nil
     ·refine .sl _ _ (by rw [← List.append_assoc, ← List.length_append]; simp) fun hh => ?_;have := W4.inn _ hh;simp only at this; omega
    have hdl := pI w.x.work w.x.base 7;have hfl := m0 w.x.work (aC w.x.base (fun _ => false) 49) 49;obtain ⟨hp6, G6, sv6, e6, W6, c6⟩ := tO (ks := bU w.x.work w.x.base 7) hdl (aU w.x.work (aC w.x.base (fun _ => false) 49) 49) hfl (v := vd) (L := L ++ [.rw (ab w.x.base), .rw (aM w.x.dir), .rw (shV (aC w.x.base (fun _ => false) 49))]) (base := L.length) (by simp only [ab, aM, shV]; simp only [go_sem]) (bU w.x.work w.x.base 7).length 0 (by omega) W5 hnm (by simp);rw [show ((0 : Nat) : Int) = 0 from rfl] at e6
    have hy : St.elems ⟨L ++ [.rw (ab w.x.base), .rw (aM w.x.dir), .rw (shV (aC w.x.base (fun _ => false) 49)), .rw (.agg 63 [bu (2, 0), bu (3, 0), bu (4, 0)])], hp6⟩ (.sl (.loc (L.length + 3)) [] 0 3 (some 3) 47) = some ([(2, 0), (3, 0), (4, 0)].map bu) := d9 (t := 63) (by simp only [go_sem]) rfl;obtain ⟨hp7, s1, s2, s3, s4⟩ := W6.sr.push (L := L ++ [.rw (ab w.x.base), .rw (aM w.x.dir), .rw (shV (aC w.x.base (fun _ => false) 49)), .rw (.agg 63 [bu (2, 0), bu (3, 0), bu (4, 0)])]) (y := .sl (.loc (L.length + 3)) [] 0 3 (some 3) 47) (l2 := [(2, 0), (3, 0), (4, 0)]) (.inr ⟨_, _, _, _, _, rfl⟩) hy (by simp) (by simp; omega) L.length;obtain ⟨k1, k2, k3, k4, k5⟩ := W6.steps s3;have hA := W6.added (w' := w.begun seq) s2 s3 s4 (by unfold AW.begun; simp only; rw [hm]);have hfin : (hp7.set wk (.rw (wkV m a (.sl (.hp hp6.length) [] 0 (aU w.x.work (aC w.x.base (fun _ => false) 49) 49 ++ (bU w.x.work w.x.base 7).map (fun k => ((1 : Nat), k)) ++ [(2, 0), (3, 0), (4, 0)]).length none 47) (w.begun seq)))) = hp7.set wk (.rw (wkV m a (.sl (.hp hp6.length) [] 0 (aU w.x.work (aC w.x.base (fun _ => false) 49) 49 ++ (bU w.x.work w.x.base 7).map (fun k => ((1 : Nat), k)) ++ [(2, 0), (3, 0), (4, 0)]).length none 47) (w.begun seq))) := rfl;refine ⟨_, _, _, ?_, hA.1, ((c13.trans c4).trans (Pj X)).trans (c6.trans hA.2)⟩;have m1 := Bj p2;have b1 := EL W2.q;have st1 := W1.st;have st3 := W3.st;have st4 := W4.st;have st6 := W6.st;have hset : ∀ k, (hp1.set wk k)[wk]? = some k := fun k => List.getElem?_set_self hwl1;simp only [if_true] at m1;have hrep : List.replicate 3 (V.agg 47 [.nilf, .int .i64 0]) = [.agg 47 [.nilf, .int .i64 0], .agg 47 [.nilf, .int .i64 0], .agg 47 [.nilf, .int .i64 0]] := rfl;have hf2 : uo 2 = eE := rfl;have hf3 : uo 3 = dH := rfl;have hf4 : uo 4 = c9 := rfl;have zf : V.agg 82 (List.replicate 1024 (.bool false)) = shV fun _ => false := by rw [bH]; rfl
    have hvl := hnm.lt L.length;have hvs : V.slen false vd = some (bU w.x.work w.x.base 7).length := by
     have := (hnm.rs []).slen
     rwa [List.length_map] at this
    clear W1 W2 W3 W4 W5 W6 hA hfin hnm c4 c6 c13 k1 k3 k4 k5 s2 s3 p2 p3 h;generalize (aU w.x.work (aC w.x.base (fun _ => false) 49) 49 ++ (bU w.x.work w.x.base 7).map (fun k => ((1 : Nat), k)) ++ [(2, 0), (3, 0), (4, 0)]) = ST at *;generalize (bU w.x.work w.x.base 7) = DL at *;generalize aC w.x.base (fun _ => false) 49 = OLD at *;simp only [wkV, Sup.v, AW.begun, bu, hf2, hf3, hf4, ab, aM, shV] at *;rw [ae fQ rfl];simp only [go_sem, hst, hsl, h1, h2, h3, p1];simp only [go_sem, st1, m1, hset, List.set_set];simp only [go_sem, hset, b1, List.set_set];simp only [go_sem, hset, List.set_set, zf, hold];simp only [go_sem, hset, e4];simp only [go_sem, st4, ed, hvl, hvs];simp only [go_sem, e6];simp only [go_sem, st6, hrep, s1, k2]
end Go.Proofs.YtmimfopnhmmlbaaGreatDoor
namespace Go.Proofs.YtmimfopnhmmlbaaGreatDoor
open Go.Ab
section
variable {hp hp' : List Blk} {wk a m fr : Nat} {Fm Fm' Gs : Ft} {sv : V} {w : AW}
theorem WkQ.setM (h : WkQ hp wk a m fr Fm Gs sv w) {M : AM} (hm : aY hp' Fm' m M) (hc : Chg hp hp' Fm Fm') (hn : M.n = w.x.M.n) : WkQ hp' wk a m fr Fm' Gs sv { w with x := { w.x with M := M } } ∧ Chg hp hp' (WkF wk a fr Fm Gs) (WkF wk a fr Fm' Gs) :=
 ⟨h.setS (h.q.setM hm hc hn) (EN hc), qD (EN hc)⟩
theorem tX (h : WkQ hp wk a m fr Fm Gs sv w) (hc : w.x.M.count < 1000000) (n : Int) (L : List Blk) :
 ∃ hp', rf D dI [.ptr (.hp wk) [] 61, .int .i64 n] ⟨L, hp⟩ = some (.int .i64 (w.x.M.flush 0 n).2, ⟨L, hp'⟩) ∧ WkQ hp' wk a m fr Fm Gs sv { w with x := { w.x with M := (w.x.M.flush 0 n).1 } } ∧ Chg hp hp' (WkF wk a fr Fm Gs) (WkF wk a fr Fm Gs) := by
 obtain ⟨hp', e1, e2, e3⟩ := tS h.q.mp hc 0 n L;obtain ⟨q1, q2⟩ := h.setM e2 e3 bY.2;refine ⟨hp', ?_, q1, q2⟩;have hst := h.st;simp only [wkV] at hst;rw [ae tE rfl];simp only [go_sem, hst, e1]
theorem C1 {l : List Int} (hl : l.length = 8) {at' : Int} (L : List Blk) (P : V) (hP : ∀ n, P.locLt n = true) : ∀ (n j : Nat) {hp : List Blk} {Fm : Ft} {w : AW}, j + n = 8 → WkQ hp wk a m fr Fm Gs sv w → w.x.M.count + n < 1000000 →
 ∃ hp' Fm' r, rc D L.length (.loop [0, 2, 7, 24, 25] cQ) [(0, .ptr (.hp wk) [] 61), (2, P), (7, .int .i64 at'), (24, lnV l), (25, .int .i64 j)] ⟨L ++ [.rw (lnV l)], hp⟩ = some r ∧
  WkQ hp' wk a m fr Fm' Gs sv { w with x := { w.x with M := (w.x.M.layFrom at' l j n).1 } } ∧ Chg hp hp' (WkF wk a fr Fm Gs) (WkF wk a fr Fm' Gs) ∧
  (((w.x.M.layFrom at' l j n).2 = 0 ∧ r = (.exit 0, [(0, .ptr (.hp wk) [] 61), (2, P), (7, .int .i64 at'), (24, lnV l), (25, .int .i64 8), (26, .bool false)], ⟨L ++ [.rw (lnV l)], hp'⟩)) ∨
   ((w.x.M.layFrom at' l j n).2 ≠ 0 ∧ r = (.ret, [(6, .int .i64 (w.x.M.layFrom at' l j n).2)], ⟨L ++ [.rw (lnV l)], hp'⟩)))
 | 0, j, hp, Fm, w, hj, h, _ => by
  have : j = 8 := by omega
  subst this;refine ⟨hp, Fm, _, ?_, h, .refl _ _, .inl ⟨rfl, rfl⟩⟩;rw [ah];simp only [lnV];simp only [go_sem, cQ]
 | n + 1, j, hp, Fm, w, hj, h, hc => by
  obtain ⟨hp1, Fm1, e1, e2, e3⟩ := jy h.q.mp (by omega) at' j (l.getD j 0) (L ++ [.rw (lnV l)]);obtain ⟨h1, c1⟩ := h.setM e2 e3 AM.store_n;have hcn := AM.store_count (M := w.x.M) (i := at') (q := j) (v := l.getD j 0);have d1 : (j : Int) < 8 := by omega
  have d2 : (0 : Int) ≤ j := by omega
  have d4 : IntKind.i64.wrap ((j : Int) + 1) = ((j + 1 : Nat) : Int) := ag (by omega) (by omega);have g := aS (f := V.int .u64) (l := l) (i := j) (by omega) 0;have hst := h.st;have hP1 := hP (L.length + 1);simp only [AM.layFrom];by_cases he : (w.x.M.store at' j (l.getD j 0)).2 = 0
  ·rw [if_neg fun hh => hh he];obtain ⟨hp2, Fm2, r, q1, q2, q3, q4⟩ := C1 hl L P hP n (j + 1) (by omega) h1 (by simp only; omega);refine ⟨hp2, Fm2, r, ?_, q2, c1.trans q3, q4⟩;rw [← q1, ah];rw [he] at e1;simp only [wkV, lnV] at *;generalize l.getD j 0 = wd at *;simp only [go_sem, cQ, d1, d2, Int.toNat_natCast, g, hst, e1, d4, hP1]
  ·rw [if_pos he];refine ⟨hp1, Fm1, _, ?_, h1, c1, .inr ⟨he, rfl⟩⟩;rw [ah];simp only [wkV, lnV] at *;generalize l.getD j 0 = wd at *;simp only [go_sem, cQ, d1, d2, Int.toNat_natCast, g, hst, e1, he]
def AW.write (w : AW) (l : List Int) (q : Nat) : AW × Int :=
 if (w.x.lay l).2.2 ≠ 0 then ({ w with x := (w.x.lay l).1 }, (w.x.lay l).2.2) else
 if ((w.x.lay l).1.M.flush 0 (w.x.lay l).2.1).2 ≠ 0 then ({ w with x := { (w.x.lay l).1 with M := ((w.x.lay l).1.M.flush 0 (w.x.lay l).2.1).1 } }, ((w.x.lay l).1.M.flush 0 (w.x.lay l).2.1).2) else
 ({ w with x := { (w.x.lay l).1 with M := ((w.x.lay l).1.M.flush 0 (w.x.lay l).2.1).1 }, dir := upd w.dir q (w.x.lay l).2.1 }, 0)
theorem Lq {d : Nat → Int} {q : Nat} {y : Int} : (tab 8 fun i => V.int .i64 (d i)).set q (.int .i64 y) = tab 8 fun i => .int .i64 (upd d q y i) := by
 rw [bA];apply aE;intro i _;unfold upd; split <;> rfl
theorem tV (h : WkQ hp wk a m fr Fm Gs sv w) (hc : w.x.M.count + 10 < 1000000) {l : List Int} (hl : l.length = 8) {q : Nat} (hq : q < 8) (L : List Blk) :
 ∃ hp' Fm', rf D jq [.ptr (.hp wk) [] 61, lnV l, .ptr (.hp wk) [7, q] 10] ⟨L, hp⟩ = some (.int .i64 (w.write l q).2, ⟨L, hp'⟩) ∧ WkQ hp' wk a m fr Fm' Gs sv (w.write l q).1 ∧ Chg hp hp' (WkF wk a fr Fm Gs) (WkF wk a fr Fm' Gs) := by
 have hst := h.st;obtain ⟨hp1, e1, e2, e3⟩ := Du h.q (L ++ [.rw (lnV l)]);have h1 := h.setS e2 e3;have c1 : Chg hp hp1 (WkF wk a fr Fm Gs) (WkF wk a fr Fm Gs) := qD e3;have hst1 := h1.st;unfold AW.write;by_cases he : w.x.A.alloc.2.2 = 0
 ·have et : w.x.take.2.2 = 0 := he;obtain ⟨hp2, Fm2, r, q1, q2, q3, q4⟩ := C1 (wk := wk) (a := a) (m := m) (fr := fr) (Gs := Gs) (sv := sv) hl (at' := w.x.A.alloc.2.1) L (.ptr (.hp wk) [7, q] 10) (fun _ => rfl) 8 0 rfl h1 (by have : w.x.take.1.M = w.x.M := rfl; simp only [this]; omega);have eM : w.x.take.1.M = w.x.M := rfl;have eA : w.x.take.1.A = w.x.A.alloc.1 := rfl;simp only [eM] at q1 q2 q4;rw [show ((0 : Nat) : Int) = 0 from rfl] at q1
  have hlc := AM.layFrom_count (M := w.x.M) (at' := w.x.A.alloc.2.1) (l := l) (n := 8) (j := 0);by_cases he2 : (w.x.M.layFrom w.x.A.alloc.2.1 l 0 8).2 = 0
  ·have hlay : w.x.lay l = ({ w.x with A := w.x.A.alloc.1, M := (w.x.M.layFrom w.x.A.alloc.2.1 l 0 8).1 }, w.x.A.alloc.2.1, 0) := by
    unfold AS.lay;rw [if_neg (by simp [he]), if_neg (by simp [he2]), he2]
   rw [hlay];simp only;rw [if_neg (by simp)];rcases q4 with ⟨_, rfl⟩ | ⟨z, _⟩
   ·obtain ⟨hp3, s1, s2, s3⟩ := tX q2 (by simp only; omega) w.x.A.alloc.2.1 (L ++ [.rw (lnV l)]);simp only at s1 s2;have e21 : w.x.take.2.1 = w.x.A.alloc.2.1 := rfl;rw [et, e21] at e1;have hst2 := q2.st;by_cases he3 : (((w.x.M.layFrom w.x.A.alloc.2.1 l 0 8).1.flush 0 w.x.A.alloc.2.1).2) = 0
    ·rw [if_neg (by simp [he3])];have hst3 := s2.st;have hl3 := au hst3;have hW := s2.setB (w' := { w with x := { w.x with M := ((w.x.M.layFrom w.x.A.alloc.2.1 l 0 8).1.flush 0 w.x.A.alloc.2.1).1, A := w.x.A.alloc.1 }, dir := upd w.dir q w.x.A.alloc.2.1 }) rfl s2.sr;have gd := al (f := fun i => V.int .i64 (w.dir i)) hq;have hds := Lq (d := w.dir) (q := q) (y := w.x.A.alloc.2.1);have hq8 : (q : Int) < 8 := by omega
     refine ⟨_, Fm2, ?_, hW, ((c1.trans q3).trans s3).trans Bx⟩;rw [he3] at s1;generalize w.x.A.alloc.2.1 = at1 at *;generalize ((w.x.M.layFrom at1 l 0 8).1.flush 0 at1) = fz at *;generalize (w.x.M.layFrom at1 l 0 8) = lz at *;simp only [wkV, lnV, aM] at *;rw [← hds];rw [ae fS rfl];simp only [go_sem, hst, e1];simp only [go_sem, q1];simp only [go_sem, s1, hst3, gd]
    ·rw [if_pos he3];refine ⟨hp3, Fm2, ?_, s2, (c1.trans q3).trans s3⟩;generalize w.x.A.alloc.2.1 = at1 at *;generalize ((w.x.M.layFrom at1 l 0 8).1.flush 0 at1) = fz at *;generalize (w.x.M.layFrom at1 l 0 8) = lz at *;simp only [wkV, lnV] at *;rw [ae fS rfl];simp only [go_sem, hst, e1];simp only [go_sem, q1];simp only [go_sem, s1, he3]
   ·exact absurd he2 z
  ·have hlay : w.x.lay l = ({ w.x with A := w.x.A.alloc.1, M := (w.x.M.layFrom w.x.A.alloc.2.1 l 0 8).1 }, 0, (w.x.M.layFrom w.x.A.alloc.2.1 l 0 8).2) := by
    unfold AS.lay;rw [if_neg (by simp [he]), if_pos he2]
   rw [hlay];simp only;rw [if_pos he2];rcases q4 with ⟨z, _⟩ | ⟨_, rfl⟩
   ·exact absurd z he2
   ·refine ⟨hp2, Fm2, ?_, q2, c1.trans q3⟩;have e21 : w.x.take.2.1 = w.x.A.alloc.2.1 := rfl;rw [et, e21] at e1;generalize w.x.A.alloc.2.1 = at1 at *;generalize (w.x.M.layFrom at1 l 0 8) = lz at *;simp only [wkV, lnV] at *;rw [ae fS rfl];simp only [go_sem, hst, e1];simp only [go_sem, q1]
 ·have hn : w.x.A.alloc = (w.x.A, 0, 10) := by
   unfold AF.alloc at he ⊢;split
   ·rename_i hq; rw [hq] at he; exact absurd rfl he
   ·rfl
  have ht : w.x.take = (w.x, 0, 10) := by unfold AS.take; rw [hn]
  rw [ht] at e1 h1;have hlay : w.x.lay l = (w.x, 0, 10) := by
   unfold AS.lay;rw [hn]; rfl
  rw [hlay];simp only;rw [if_pos (by decide)];refine ⟨hp1, Fm, ?_, h1, c1⟩;simp only [wkV, lnV] at *;rw [ae fS rfl];simp only [go_sem, hst, e1]
end
end Go.Proofs.YtmimfopnhmmlbaaGreatDoor
namespace Go.Proofs.YtmimfopnhmmlbaaGreatDoor
open Go.Ab
theorem Gm {s : St} {a : Ab.Loc} {t n m k : Nat} {p : List Nat} {f : Nat → V} (hr : s.read a p = some (.agg t (tab n f))) (h : k + m ≤ n) : s.part m t a (p ++ [k]) = some (tab m fun i => f (k + i)) := by
 unfold St.part;rw [List.dropLast_concat, List.getLastD_concat, hr];simp only;have hc : True ∧ p ++ [k] ≠ [] ∧ k + m ≤ (tab n f).length := ⟨trivial, by simp, by rw [dt]; exact h⟩;rw [if_pos hc, AV h]
section
variable {hp hp' : List Blk} {wk a m fr : Nat} {Fm Fm' Gs : Ft} {sv : V} {w : AW}
theorem E3 (h : WkQ hp wk a m fr Fm Gs sv w) (hc : w.x.M.count + 10 < 1000000) {k : Nat} (hk : k < 7) (L : List Blk) :
 ∃ hp' Fm', rf D ew [.ptr (.hp wk) [] 61, .int .i64 k] ⟨L, hp⟩ = some (.int .i64 (w.write (bg w.tbl k) k).2, ⟨L, hp'⟩) ∧ WkQ hp' wk a m fr Fm' Gs sv (w.write (bg w.tbl k) k).1 ∧ Chg hp hp' (WkF wk a fr Fm Gs) (WkF wk a fr Fm' Gs) := by
 obtain ⟨e, hl⟩ : ∃ e, ∀ s, rf D kS [ab w.tbl, .int .i64 k] s = some (.tup [lnV (bg w.tbl k), .int .i64 (e s)], s) := ⟨fun s => (re w.tbl hk s).choose, fun s => (re w.tbl hk s).choose_spec⟩;obtain ⟨hp', Fm', e1, e2, e3⟩ := tV h hc (oF w.tbl k) (show k < 8 by omega) (L ++ [.rw (lnV (bg w.tbl k))]);refine ⟨hp', Fm', ?_, e2, e3⟩;have hst := h.st;have d1 : (k : Int) < 8 := by omega
 have d2 : (0 : Int) ≤ k := by omega
 generalize w.write (bg w.tbl k) k = wr at *;generalize bg w.tbl k = ll at *;simp only [wkV, ab, lnV] at *;rw [ae uE rfl];simp only [go_sem, hst, hl, d1, d2, Int.toNat_natCast, e1]
theorem EV (h : WkQ hp wk a m fr Fm Gs sv w) (hc : w.x.M.count + 10 < 1000000) (n : Int) (L : List Blk) :
 ∃ hp' Fm', rf D eE [.ptr (.hp wk) [] 61, .int .i64 n] ⟨L, hp⟩ = some (.int .i64 (w.write (aZ w.dir) 7).2, ⟨L, hp'⟩) ∧ WkQ hp' wk a m fr Fm' Gs sv (w.write (aZ w.dir) 7).1 ∧ Chg hp hp' (WkF wk a fr Fm Gs) (WkF wk a fr Fm' Gs) := by
 obtain ⟨e, hl⟩ : ∃ e, ∀ s, rf D kX [d7V w.dir] s = some (.tup [lnV (aZ w.dir), .int .i64 (e s)], s) := ⟨fun s => (rn w.dir s).choose, fun s => (rn w.dir s).choose_spec⟩;obtain ⟨hp', Fm', e1, e2, e3⟩ := tV h hc (sj w.dir) (show 7 < 8 by omega) (L ++ [.rw (lnV (aZ w.dir))]);refine ⟨hp', Fm', ?_, e2, e3⟩;have hst := h.st;have hrd : ∀ L, St.read ⟨L, hp⟩ (.hp wk) [7] = some (.agg 50 (tab 8 fun i => .int .i64 (w.dir i))) := fun L => by
  simp only [wkV, aM] at hst;simp only [go_sem, hst]
 have hpt : ∀ L, St.part ⟨L, hp⟩ 7 50 (.hp wk) [7, 0] = some (tab 7 fun i => .int .i64 (w.dir i)) := fun L => by
  have := Gm (m := 7) (k := 0) (p := [7]) (hrd L) (by omega);simp only [Nat.zero_add] at this;exact this
 generalize w.write (aZ w.dir) 7 = wr at *;generalize aZ w.dir = ll at *;simp only [wkV, d7V, lnV, aM] at *;rw [ae uj rfl];simp only [go_sem, hst, hpt, hl];simp only [go_sem, hst, e1]
theorem BC (h : WkQ hp wk a m fr Fm Gs sv w) (hc : w.x.M.count + 1 < 1000000) (n : Int) (L : List Blk) :
 ∃ hp' Fm', rf D dH [.ptr (.hp wk) [] 61, .int .i64 n] ⟨L, hp⟩ = some (.int .i64 (w.x.M.fence 0).2, ⟨L, hp'⟩) ∧ WkQ hp' wk a m fr Fm' Gs sv { w with x := { w.x with M := (w.x.M.fence 0).1 } } ∧ Chg hp hp' (WkF wk a fr Fm Gs) (WkF wk a fr Fm' Gs) := by
 obtain ⟨hp', F', e1, e2, e3⟩ := tK h.q.mp hc 0 L;have hn : (w.x.M.fence 0).1.n = w.x.M.n := by
  unfold AM.fence;split
  ·rfl
  ·split
   ·rfl
   ·exact (cV _).1
 obtain ⟨q1, q2⟩ := h.setM e2 e3 hn;refine ⟨hp', F', ?_, q1, q2⟩;have hst := h.st;simp only [wkV] at hst;rw [ae tz rfl];simp only [go_sem, hst, e1]
theorem KC {M : AM} {s : Int} {b : Sup} : (M.wrs s b).1.n = M.n := by
 have hf : ∀ N : AM, (N.fence 0).1.n = N.n := fun N => by
  unfold AM.fence;split
  ·rfl
  ·split
   ·rfl
   ·exact (cV _).1
 unfold AM.wrs;split
 ·rfl
 ·split
  ·exact AM.store_n
  ·simp only;split
   ·rw [AM.layFrom_n, AM.store_n]
   ·split
    ·rw [bY.2, AM.layFrom_n, AM.store_n]
    ·rw [hf, bY.2, AM.layFrom_n, AM.store_n]
def AW.nextB (w : AW) : Sup := ⟨w.b.gen + 1, w.dir 7, w.seq, w.b.cores⟩
def AW.commit (w : AW) : AW × Int :=
 if (w.x.M.wrs (1 - w.slot) w.nextB).2 ≠ 0 then ({ w with x := { w.x with M := (w.x.M.wrs (1 - w.slot) w.nextB).1 } }, (w.x.M.wrs (1 - w.slot) w.nextB).2)
 else ({ w with x := (AS.commit { w.x with M := (w.x.M.wrs (1 - w.slot) w.nextB).1 } w.dir).1, b := w.nextB, slot := 1 - w.slot }, 0)
theorem Ak (h : WkQ hp wk a m fr Fm Gs sv w) (hc : w.x.M.count + 12 < 1000000) (hg : 0 ≤ w.b.gen ∧ w.b.gen ≤ 1099511627777) (hs : w.slot = 0 ∨ w.slot = 1) (n : Int) (L : List Blk) :
 ∃ hp' Fm', rf D c9 [.ptr (.hp wk) [] 61, .int .i64 n] ⟨L, hp⟩ = some (.int .i64 w.commit.2, ⟨L, hp'⟩) ∧ WkQ hp' wk a m fr Fm' Gs sv w.commit.1 ∧ Chg hp hp' (WkF wk a fr Fm Gs) (WkF wk a fr Fm' Gs) := by
 obtain ⟨hp1, F1, e1, e2, e3⟩ := Cj h.q.mp hc (1 - w.slot) w.nextB (L ++ [.rw w.nextB.v]);obtain ⟨q1, q2⟩ := h.setM e2 e3 KC;have hst := h.st;have hst1 := q1.st;have d1 : IntKind.i64.wrap (w.b.gen + 1) = w.b.gen + 1 := ag (by omega) (by omega);have d2 : IntKind.i64.wrap (1 - w.slot) = 1 - w.slot := ag (by omega) (by omega);have g7 := al (f := fun i => V.int .i64 (w.dir i)) (show 7 < 8 by omega);unfold AW.commit;by_cases he : (w.x.M.wrs (1 - w.slot) w.nextB).2 = 0
 ·rw [if_neg (by simp [he])];obtain ⟨hp2, s1, s2, s3⟩ := AI q1.q w.dir (L ++ [.rw w.nextB.v]);have q3 := q1.setS s2 s3;have hst2 := q3.st;have q4 := q3.setB (w' := { w with x := (AS.commit { w.x with M := (w.x.M.wrs (1 - w.slot) w.nextB).1 } w.dir).1, b := w.nextB, slot := 1 - w.slot }) rfl q3.sr;have hwl := au hst2;have hset : ∀ k, (hp2.set wk k)[wk]? = some k := fun k => List.getElem?_set_self hwl;refine ⟨_, F1, ?_, q4, (q2.trans (qD s3)).trans Bx⟩;rw [he] at e1;generalize (w.x.M.wrs (1 - w.slot) w.nextB) = wr at *;generalize AS.commit { w.x with M := wr.1 } w.dir = cm at *;simp only [wkV, Sup.v, AW.nextB, aM] at *;rw [ae my rfl];simp only [go_sem, hst, d1, d2, g7, e1];simp only [go_sem, hst1, s1];simp only [go_sem, hst2, hset, List.set_set]
 ·rw [if_pos he];refine ⟨hp1, F1, ?_, q1, q2⟩;generalize (w.x.M.wrs (1 - w.slot) w.nextB) = wr at *;simp only [wkV, Sup.v, AW.nextB, aM] at *;rw [ae my rfl];simp only [go_sem, hst, d1, d2, g7, e1, he]
end
end Go.Proofs.YtmimfopnhmmlbaaGreatDoor
namespace Go.Proofs.YtmimfopnhmmlbaaGreatDoor
open Go.Ab
def AW.doStep (w : AW) (p : Nat × Int) : AW × Int := match p.1 with
 | 0 => ({ w with x := { w.x with M := (w.x.M.flush 0 p.2).1 } }, (w.x.M.flush 0 p.2).2)
 | 1 => w.write (bg w.tbl p.2.toNat) p.2.toNat
 | 2 => w.write (aZ w.dir) 7
 | 3 => ({ w with x := { w.x with M := (w.x.M.fence 0).1 } }, (w.x.M.fence 0).2)
 | _ => w.commit
theorem AW.doStep_st (w : AW) (p : Nat × Int) : (w.doStep p).1.st = w.st := by
 unfold AW.doStep;split
 ·rfl
 ·unfold AW.write; split
  ·rfl
  ·split <;> rfl
 ·unfold AW.write; split
  ·rfl
  ·split <;> rfl
 ·rfl
 ·unfold AW.commit; split <;> rfl
def AW.step (w : AW) : AW × Bool × Int := match w.st with
 | [] => (w, false, 3)
 | p :: r => if (w.doStep p).2 = 0 then ({ (w.doStep p).1 with st := r }, decide (r = []), 0) else if (w.doStep p).2 = 10 then ({ (w.doStep p).1 with x := (w.doStep p).1.x.abort.1, st := [] }, false, 10) else ((w.doStep p).1, false, (w.doStep p).2)
structure AW.Fit (w : AW) : Prop where
 g : 0 ≤ w.b.gen ∧ w.b.gen ≤ 1099511627777
 s : w.slot = 0 ∨ w.slot = 1
 k : ∀ p ∈ w.st, p.1 = 1 → 0 ≤ p.2 ∧ p.2 < 7
section
variable {hp hp' : List Blk} {wk a m fr : Nat} {Fm Fm' Gs : Ft} {sv : V} {w : AW}
theorem HJ (h : WkQ hp wk a m fr Fm Gs sv w) (hc : w.x.M.count + 12 < 1000000) (hF : w.Fit) {p : Nat × Int} (hp1 : p.1 = 1 → 0 ≤ p.2 ∧ p.2 < 7) (L : List Blk) :
 ∃ hp' Fm', rf D (uo p.1) [.ptr (.hp wk) [] 61, .int .i64 p.2] ⟨L, hp⟩ = some (.int .i64 (w.doStep p).2, ⟨L, hp'⟩) ∧ WkQ hp' wk a m fr Fm' Gs sv (w.doStep p).1 ∧ Chg hp hp' (WkF wk a fr Fm Gs) (WkF wk a fr Fm' Gs) := by
 obtain ⟨q, n⟩ := p
 match q, hp1 with
 | 0, _ =>
  obtain ⟨hp', e1, e2, e3⟩ := tX h (by omega) n L;exact ⟨hp', Fm, e1, e2, e3⟩
 | 1, hp1 =>
  obtain ⟨h0, h7⟩ := hp1 rfl;obtain ⟨k, rfl⟩ : ∃ k : Nat, n = k := ⟨n.toNat, by simp only at h0; omega⟩;have := E3 h (by omega) (k := k) (by simp only at h7; omega) L;unfold AW.doStep;simp only [Int.toNat_natCast];exact this
 | 2, _ => exact EV h (by omega) n L
 | 3, _ => exact BC h (by omega) n L
 | q + 4, _ => exact Ak h (by omega) hF.g hF.s n L
theorem kb (h : WkQ hp wk a m fr Fm Gs sv w) (hc : w.x.M.count + 12 < 1000000) (hF : w.Fit) (L : List Blk) :
 ∃ hp' Fm' Gs' sv', rf D eu [.ptr (.hp wk) [] 61] ⟨L, hp⟩ = some (.tup [.bool w.step.2.1, .int .i64 w.step.2.2], ⟨L, hp'⟩) ∧ WkQ hp' wk a m fr Fm' Gs' sv' w.step.1 ∧ Chg hp hp' (WkF wk a fr Fm Gs) (WkF wk a fr Fm' Gs') := by
 have hst := h.st;have hsl := h.sr.slen;unfold AW.step;cases hw : w.st with
 | nil =>
  refine ⟨hp, Fm, Gs, sv, ?_, h, .refl _ _⟩;rw [hw] at hsl;simp only [wkV] at hst;rw [ae gX rfl];simp only [go_sem, hst, hsl]
 | cons p r =>
  rw [hw] at hsl;have hrs := h.sr.rs (L ++ []);have hg : (w.st.map bu)[0]? = some (bu p) := by rw [hw]; rfl
  have hsad : jS 47 sv (.int .i64 0) = some (elq sv 0 [] 47) := (h.sr.rs L).sadq hg (k := .i64);have hld : ldv ⟨L, hp⟩ 47 (elq sv 0 [] 47) = V.at [] (bu p) := (h.sr.rs L).ldq hg;obtain ⟨hp1, F1, e1, e2, e3⟩ := HJ h hc hF (p := p) (fun e => hF.k p (by rw [hw]; exact List.mem_cons_self) e) (L ++ [.rw (bu p)]);have hst1 := e2.st;have hwl := au hst1;have d1 : ¬ ((r.length + 1 : Nat) : Int) = 0 := by omega
  have hset : ∀ k, (hp1.set wk k)[wk]? = some k := fun k => List.getElem?_set_self hwl;simp only;by_cases he : (w.doStep p).2 = 0
  ·rw [if_pos he];have hsr : StR hp1 Gs sv (p :: r) := by have := e2.sr; rwa [AW.doStep_st, hw] at this
   obtain ⟨sv2, r1, r2⟩ := hsr.rest;have q4 := e2.setB (w' := { (w.doStep p).1 with st := r }) rfl r2;have hsl2 := r2.slen;have ht2 := r2.tag;have hl2 := r2.lt;refine ⟨_, F1, Gs, sv2, ?_, q4, e3.trans Bx⟩;rw [he] at e1;have hdc : decide (r = []) = decide ((r.length : Int) = 0) := by
    apply decide_eq_decide.2;cases r <;> simp <;> omega
   rw [hdc];generalize (w.doStep p).1 = w1 at *;clear q4 e2 e3 hsr r2 h hrs hg;simp only [wkV, bu] at *;rw [ae gX rfl];simp only [go_sem, hst, hsl, d1, hsad, hld];simp only [go_sem, e1, hst1, r1, ht2, hl2, hset, hsl2]
  ·rw [if_neg he];by_cases he2 : (w.doStep p).2 = 10
   ·rw [if_pos he2];obtain ⟨hp2, s1, s2, s3⟩ := B4 e2.q (L ++ [.rw (bu p)]);have q3 := e2.setS s2 s3;have q4 := q3.setB (sv' := .nils) (w' := { (w.doStep p).1 with x := (w.doStep p).1.x.abort.1, st := [] }) rfl .nil;have hst2 := q3.st;refine ⟨_, F1, Gs, .nils, ?_, q4, (e3.trans (qD s3)).trans Bx⟩;rw [he2] at e1;generalize (w.doStep p).1 = w1 at *;clear q4 q3 e2 e3 h hrs hg s2 s3;simp only [wkV, bu] at *;rw [ae gX rfl];simp only [go_sem, hst, hsl, d1, hsad, hld];simp only [go_sem, e1, hst1, s1, hst2]
   ·rw [if_neg he2];refine ⟨hp1, F1, Gs, sv, ?_, e2, e3⟩;generalize w.doStep p = dp at *;clear e2 e3 h hrs hg;simp only [wkV, bu] at *;rw [ae gX rfl];simp only [go_sem, hst, hsl, d1, hsad, hld];simp only [go_sem, e1, he, he2]
end
end Go.Proofs.YtmimfopnhmmlbaaGreatDoor
