/-
  YtmimfopnhmmlbaaDoorT4: what functions of the program compute (ObjC, MemQ, MemR, CloA, MemF, CrcA, RadA, RadB, MemG, MemH, MemI, MemJ, SupA, SnpA, SnpB, SnpC, SnpD, SnpE, SnpF).
-/
import Derived.Test.YtmimfopnhmmlbaaDoorT1
import Derived.Test.YtmimfopnhmmlbaaDoorT2
import Derived.Test.YtmimfopnhmmlbaaDoorT3
set_option maxRecDepth 100000
namespace Go.Proofs.YtmimfopnhmmlbaaDoor
open Go.Ab
structure Apd (L0 : List Blk) (X : List Blk) (v : V) (l : List Int) : Prop where
 at' : (l = [] ∧ v = .nils) ∨ (∃ Y, X = Y ++ [.rw (.agg 38 (l.map (.int .i64)))] ∧ v = .sl (.hp (L0.length + Y.length)) [] 0 l.length none 10)
theorem Apd.push {L0 X : List Blk} {v : V} {l : List Int} (h : Apd L0 X v l) {loc : List Blk} (hl : l.length < 1000) (x : Int) {y : V} (hy : y = .nils ∨ ∃ a p o n c, y = .sl a p o n c 10) (hyl : St.elems ⟨loc, L0 ++ X⟩ y = some [.int .i64 x]) {base : Nat} :
 ∃ X' v', aG base true 38 10 v y ⟨loc, L0 ++ X⟩ = some (v', ⟨loc, L0 ++ X'⟩) ∧ Apd L0 X' v' (l ++ [x]) := by
 rcases h.at' with ⟨rfl, rfl⟩ | ⟨Y, rfl, rfl⟩
 ·refine ⟨X ++ [.rw (.agg 38 [.int .i64 x])], _, ?_, ⟨.inr ⟨X, rfl, rfl⟩⟩⟩;rw [GD hy hyl (by simp) (by simp [eX]) rfl];simp only [go_sem]
 ·refine ⟨Y ++ [.dead] ++ [.rw (.agg 38 ((l ++ [x]).map (.int .i64)))], _, ?_, ⟨.inr ⟨Y ++ [.dead], rfl, rfl⟩⟩⟩;have e1 : St.elems ⟨loc, L0 ++ (Y ++ [.rw (.agg 38 (l.map (.int .i64)))])⟩ (.sl (.hp (L0.length + Y.length)) [] 0 l.length none 10) = some (l.map (.int .i64)) :=
   eI (t := 38) (by rw [← List.append_assoc, ← List.length_append]; simp only [go_sem]) (by simp)
  have e2 : St.at ⟨loc, L0 ++ (Y ++ [.rw (.agg 38 (l.map (.int .i64)))])⟩ (.hp (L0.length + Y.length)) = some (.rw (.agg 38 (l.map (.int .i64)))) := by
   rw [← List.append_assoc, ← List.length_append]; simp [St.at]
  rw [Tg hy e1 hyl (by simp) (by simp [eX]; omega) rfl e2];have e3 : (St.set ⟨loc, L0 ++ (Y ++ [.rw (.agg 38 (l.map (.int .i64)))])⟩ (.hp (L0.length + Y.length)) .dead) = ⟨loc, L0 ++ (Y ++ [.dead])⟩ := by
   simp only [St.set];rw [← List.append_assoc, ← List.length_append, List.set_append_right _ _ (Nat.le_refl _)];simp
  rw [e3];simp only [go_sem];simp
theorem Apd.elems {L0 X : List Blk} {v : V} {l : List Int} (h : Apd L0 X v l) {loc : List Blk} : St.elems ⟨loc, L0 ++ X⟩ v = some (l.map (.int .i64)) := by
 rcases h.at' with ⟨rfl, rfl⟩ | ⟨Y, rfl, rfl⟩
 ·rfl
 ·exact eI (t := 38) (by rw [← List.append_assoc, ← List.length_append]; simp only [go_sem]) (by simp)
end Go.Proofs.YtmimfopnhmmlbaaDoor
namespace Go.Proofs.YtmimfopnhmmlbaaDoor
open Go.Ab
def coV (f : Nat → Bool) : V := .agg 88 (tab 8 fun c => .bool (f c))
def Dn.v2 (d : Dn) : V := .agg 90 [.int .i64 d.w, .int .u64 d.v, coV d.cs]
structure ahw (hp : List Blk) (F : Ft) (m : Nat) (M : AM) : Prop where
 ok : M.Ok
 inn : Inn hp F
 fm : F m
 mb : ∃ k k2, F k ∧ F k2 ∧ m ≠ k ∧ m ≠ k2 ∧ k ≠ k2 ∧ hp[m]? = some (.rw (rmV k M.n k2 M.off M.left M.count)) ∧ hp[k]? = some (.rw (.agg 58 (tab M.n fun i => lnV (M.S i)))) ∧
  ∃ (sv : Nat → V) (ow : Nat → Nat), hp[k2]? = some (.rw (.agg 53 (tab M.n sv))) ∧ ∀ i, i < M.n → SlR hp (fun j => F j ∧ j ≠ m ∧ j ≠ k ∧ j ≠ k2 ∧ ow j = i) 90 92 (sv i) ((M.L i).map Dn.v2)
end Go.Proofs.YtmimfopnhmmlbaaDoor
namespace Go.Proofs.YtmimfopnhmmlbaaDoor
open Go.Ab
end Go.Proofs.YtmimfopnhmmlbaaDoor
namespace Go.Proofs.YtmimfopnhmmlbaaDoor
open Go.Ab
theorem SlR.more {hp hp' : List Blk} {G G' : Ft} {e r : Nat} {v : V} {l : List V} (h : SlR hp G e r v l) (he : ∀ j, j < hp.length → G j → hp'[j]? = hp[j]?) (hG : ∀ j, j < hp.length → G j → G' j) : SlR hp' G' e r v l := by
 cases h with
 | nil => exact .nil
 | emp a p o => exact .emp a p o
 | blk a c l hc hg hb => exact .blk a c l hc (hG a (aD hb) hg) (by rw [he a (aD hb) hg]; exact hb)
theorem VX {l : List Dn} : V.locLts 0 (l.map Dn.v1) = true := by
 induction l with
 | nil => rfl
 | cons d l ih =>
  simp only [List.map_cons, V.locLts, ih, Bool.and_true];rfl
end Go.Proofs.YtmimfopnhmmlbaaDoor
namespace Go.Proofs.YtmimfopnhmmlbaaDoor
open Go.Ab
end Go.Proofs.YtmimfopnhmmlbaaDoor
namespace Go.Proofs.YtmimfopnhmmlbaaDoor
open Go.Ab
def Et (w : Int) (k : Nat) : Int := IntKind.u8.wrap (iG .u64 w (8 * (k : Int)))
def bC (l : List Int) (i k : Nat) (j : Nat) : Int := if j / 8 < i ∨ (j / 8 = i ∧ j % 8 < k) then Et (l.getD (j / 8) 0) (j % 8) else 0
def Hm (r : Int) : Int := kh .u32 (iG .u32 r 1) (jy .u32 3988292384 (IntKind.u32.wrap (0 - jy .u32 r 1)))
def pb : Nat → Int → Int
 | 0, r => r
 | n + 1, r => Hm (pb n r)
def jx (r : Int) : List Int → Int
 | [] => r
 | b :: l => jx (pb 8 (kh .u32 r (IntKind.u32.wrap b))) l
theorem EL (r : Int) (l : List Int) (b : Int) : jx r (l ++ [b]) = pb 8 (kh .u32 (jx r l) (IntKind.u32.wrap b)) := by
 induction l generalizing r with
 | nil => rfl
 | cons a l ih => exact ih _
theorem FQ {l : List Int} (L : List Blk) (hp : List Blk) (i : Nat) (hi : i < 8) :
 rc D L.length (.loop [2, 3, 4, 5, 7, 8, 12] jn) [(2, .ptr (.loc (L.length + 1)) [] 108), (3, .ptr (.loc (L.length + 2)) [] 108), (4, .int .i64 i), (5, .int .u64 (l.getD i 0)), (7, lnV l), (8, .int .i64 i), (12, .int .i64 0)] ⟨L ++ [.rw (lnV l), .rw (.agg 108 (List.replicate 64 (.int .u8 0))), .rw (.agg 108 (tab 64 fun j => .int .u8 (bC l i 0 j)))], hp⟩ =
  some (.exit 2, [(2, .ptr (.loc (L.length + 1)) [] 108), (3, .ptr (.loc (L.length + 2)) [] 108), (4, .int .i64 i), (5, .int .u64 (l.getD i 0)), (7, lnV l), (8, .int .i64 i), (12, .int .i64 8), (13, .bool false)], ⟨L ++ [.rw (lnV l), .rw (.agg 108 (List.replicate 64 (.int .u8 0))), .rw (.agg 108 (tab 64 fun j => .int .u8 (bC l i 8 j)))], hp⟩) := by
 refine aZ (fun k : Nat => [(2, .ptr (.loc (L.length + 1)) [] 108), (3, .ptr (.loc (L.length + 2)) [] 108), (4, .int .i64 i), (5, .int .u64 (l.getD i 0)), (7, lnV l), (8, .int .i64 i), (12, .int .i64 k)]) (fun k => ⟨L ++ [.rw (lnV l), .rw (.agg 108 (List.replicate 64 (.int .u8 0))), .rw (.agg 108 (tab 64 fun j => .int .u8 (bC l i k j)))], hp⟩) (fun _ => _) (fun k => 8 - k) (fun k => k ≤ 8) 0 ?_ (by omega) rfl rfl;intro k hk;by_cases c1 : k < 8
 ·left;have d1 : (k : Int) < 8 := by omega
  have d4 : IntKind.i64.wrap ((k : Int) + 1) = (k : Int) + 1 := al (by omega) (by omega);have e1 : IntKind.i64.wrap (8 * (i : Int)) = 8 * i := al (by omega) (by omega);have e2 : IntKind.i64.wrap (8 * (k : Int)) = 8 * k := al (by omega) (by omega);have e3 : IntKind.i64.wrap (8 * (i : Int) + k) = ((8 * i + k : Nat) : Int) := by rw [al (by omega) (by omega)]; omega
  have e4 : ¬ (8 * (k : Int)) < 0 := by omega
  have e5 : ((8 * i + k : Nat) : Int) < 64 := by omega
  have e6 : (0 : Int) ≤ ((8 * i + k : Nat) : Int) := by omega
  have hup : (tab 64 fun j => V.int .u8 (bC l i k j)).set (8 * i + k) (.int .u8 (IntKind.u8.wrap (iG .u64 (l.getD i 0) (8 * (k : Int))))) = tab 64 fun j => V.int .u8 (bC l i (k + 1) j) := by
   rw [cf];apply aR;intro j hj;unfold upd;by_cases e : j = 8 * i + k
   ·subst e;rw [if_pos rfl];unfold bC;rw [show (8 * i + k) / 8 = i by omega, show (8 * i + k) % 8 = k by omega, if_pos (.inr ⟨rfl, by omega⟩)];rfl
   ·rw [if_neg e];unfold bC;by_cases h : j / 8 < i ∨ (j / 8 = i ∧ j % 8 < k)
    ·show V.int .u8 _ = V.int .u8 _;rw [if_pos h, if_pos (by omega)]
    ·show V.int .u8 _ = V.int .u8 _;rw [if_neg h, if_neg (by omega)]
  have g1 := aq (f := fun j => V.int .u8 (bC l i k j)) (show 8 * i + k < 64 by omega);have z3 : L.length + 1 < L.length + 3 := by omega
  have z4 : L.length + 2 < L.length + 3 := by omega
  refine ⟨k + 1, by omega, by omega, rfl, ?_⟩;rw [← hup];simp only [lnV] at *;generalize (tab 64 fun j => V.int .u8 (bC l i k j)) = T at *;generalize List.replicate 64 (V.int .u8 0) = T0 at *;generalize l.getD i 0 = w at *;simp only [go_sem, jn, d1, d4, e1, e2, e3, e4, e5, e6];rw [Int.toNat_natCast];simp only [go_sem, g1, d4, z3, z4];rfl
 ·right;have : k = 8 := by omega
  subst this;simp only [lnV];simp only [go_sem, jn]
theorem vm {l : List Int} (hl : l.length = 8) (s : St) : rf D kb [lnV l] s = some (.agg 108 (tab 64 fun j => .int .u8 (bC l 8 0 j)), s) := by
 have hb0 : (tab 64 fun j => V.int .u8 (bC l 0 0 j)) = List.replicate 64 (.int .u8 0) := by
  rw [dF]; apply aR; intro j _; unfold bC; rw [if_neg (by omega)]
 have hstep : ∀ i, (tab 64 fun j => V.int .u8 (bC l i 8 j)) = tab 64 fun j => V.int .u8 (bC l (i + 1) 0 j) := fun i => by
  apply aR; intro j _;unfold bC;by_cases h : j / 8 < i + 1
  ·rw [if_pos (by omega), if_pos (.inl h)]
  ·rw [if_neg (by omega), if_neg (by omega)]
 have loop : rc D s.loc.length (.loop [2, 3, 7, 8] ji) [(2, .ptr (.loc (s.loc.length + 1)) [] 108), (3, .ptr (.loc (s.loc.length + 2)) [] 108), (7, lnV l), (8, .int .i64 0)] ⟨s.loc ++ [.rw (lnV l), .rw (.agg 108 (List.replicate 64 (.int .u8 0))), .rw (.agg 108 (tab 64 fun j => .int .u8 (bC l 0 0 j)))], s.hp⟩ =
  some (.exit 0, [(2, .ptr (.loc (s.loc.length + 1)) [] 108), (3, .ptr (.loc (s.loc.length + 2)) [] 108), (7, lnV l), (8, .int .i64 8), (9, .bool false)], ⟨s.loc ++ [.rw (lnV l), .rw (.agg 108 (List.replicate 64 (.int .u8 0))), .rw (.agg 108 (tab 64 fun j => .int .u8 (bC l 8 0 j)))], s.hp⟩) := by
  refine aZ (fun i : Nat => [(2, .ptr (.loc (s.loc.length + 1)) [] 108), (3, .ptr (.loc (s.loc.length + 2)) [] 108), (7, lnV l), (8, .int .i64 i)]) (fun i => ⟨s.loc ++ [.rw (lnV l), .rw (.agg 108 (List.replicate 64 (.int .u8 0))), .rw (.agg 108 (tab 64 fun j => .int .u8 (bC l i 0 j)))], s.hp⟩) (fun _ => _) (fun i => 8 - i) (fun i => i ≤ 8) 0 ?_ (by omega) rfl rfl;intro i hi;by_cases c1 : i < 8
  ·left;have d1 : (i : Int) < 8 := by omega
   have d2 : (0 : Int) ≤ i := by omega
   have d4 : IntKind.i64.wrap ((i : Int) + 1) = (i : Int) + 1 := al (by omega) (by omega);have hin := FQ (l := l) s.loc s.hp i c1;have g := bh (f := V.int .u64) (l := l) (i := i) (by omega) 0;have z3 : s.loc.length + 1 < s.loc.length + 3 := by omega
   have z4 : s.loc.length + 2 < s.loc.length + 3 := by omega
   refine ⟨i + 1, by omega, by omega, rfl, ?_⟩;rw [hstep] at hin;simp only [lnV] at *;generalize (tab 64 fun j => V.int .u8 (bC l i 0 j)) = T at *;generalize (tab 64 fun j => V.int .u8 (bC l (i + 1) 0 j)) = T1 at *;generalize List.replicate 64 (V.int .u8 0) = T0 at *;generalize l.getD i 0 = w at *;simp only [go_sem, ji, d1, d2, d4, Int.toNat_natCast, g, hin, z3, z4];rfl
  ·right;have : i = 8 := by omega
   subst this;simp only [lnV];simp only [go_sem, ji]
 rw [hb0] at loop;simp only [lnV] at *;rw [ag w5 rfl];simp only [go_sem, loop]
theorem U4 (L hp : List Blk) (v : V) (m i : Int) (r : Int) (base : Nat) (hv : v.locLt L.length = true) (hL : (L.drop base).all (bG L.length) = true) :
 rc D base (.loop [5, 10, 11, 12, 20] kc) [(5, .int .u32 r), (10, v), (11, .int .i64 m), (12, .int .i64 i), (20, .int .i64 0)] ⟨L, hp⟩ = some (.exit 2, [(5, .int .u32 (pb 8 r)), (10, v), (11, .int .i64 m), (12, .int .i64 i), (20, .int .i64 8), (21, .bool false)], ⟨L, hp⟩) := by
 refine aZ (fun k : Nat => [(5, .int .u32 (pb k r)), (10, v), (11, .int .i64 m), (12, .int .i64 i), (20, .int .i64 k)]) (fun _ => ⟨L, hp⟩) (fun _ => _) (fun k => 8 - k) (fun k => k ≤ 8) 0 ?_ (by omega) rfl rfl;intro k hk;by_cases c1 : k < 8
 ·left;have d1 : (k : Int) < 8 := by omega
  have d4 : IntKind.i64.wrap ((k : Int) + 1) = (k : Int) + 1 := al (by omega) (by omega);have d5 : ¬ (1 : Int) < 0 := by omega
  refine ⟨k + 1, by omega, by omega, rfl, ?_⟩;rw [show pb (k + 1) r = Hm (pb k r) from rfl]
  generalize pb k r = q;simp only [Hm];simp only [go_sem, kc, d1, d4, d5, hv, hL];rfl
 ·right;have : k = 8 := by omega
  subst this;simp only [go_sem, kc]
def d9 (r : Int) : Int := kh .u32 (if IntKind.u32.signed then -1 else IntKind.u32.max) r
theorem FI {r : Int} {bs : List Int} {i : Nat} (hi : i < bs.length) : jx r (bs.take (i + 1)) = pb 8 (kh .u32 (jx r (bs.take i)) (IntKind.u32.wrap (bs.getD i 0))) := by
 rw [List.take_succ_eq_append_getElem hi, EL, List.getD_eq_getElem?_getD, List.getElem?_eq_getElem hi]; rfl
theorem yf {L hp : List Blk} {v : V} {bs : List Int} (hv : RS ⟨L, hp⟩ 12 v (bs.map (.int .u8))) (hl : bs.length < 1000) (r : Int) :
 rf D lS [.int .u32 r, v] ⟨L, hp⟩ = some (.int .u32 (d9 (jx (d9 r) bs)), ⟨L, hp⟩) := by
 have hsl : V.slen false v = some bs.length := by
  have := hv.slen
  rwa [List.length_map] at this
 have hvl : v.locLt L.length = true := hv.locLt;have loop : rc D L.length (.loop [5, 10, 11, 12] jZ) [(5, .int .u32 (d9 r)), (10, v), (11, .int .i64 bs.length), (12, .int .i64 0)] ⟨L, hp⟩ =
  some (.exit 0, [(5, .int .u32 (jx (d9 r) bs)), (10, v), (11, .int .i64 bs.length), (12, .int .i64 bs.length), (13, .bool false)], ⟨L, hp⟩) := by
  have hend : jx (d9 r) (bs.take bs.length) = jx (d9 r) bs := by rw [List.take_length]
  rw [← hend];refine aZ (fun i : Nat => [(5, .int .u32 (jx (d9 r) (bs.take i))), (10, v), (11, .int .i64 bs.length), (12, .int .i64 i)]) (fun _ => ⟨L, hp⟩) (fun _ => _) (fun i => bs.length - i) (fun i => i ≤ bs.length) 0 ?_ (by omega) rfl rfl;intro i hi;by_cases c1 : i < bs.length
  ·left;have d1 : (i : Int) < bs.length := by omega
   have d4 : IntKind.i64.wrap ((i : Int) + 1) = (i : Int) + 1 := al (by omega) (by omega);have hg := bh (f := V.int .u8) (l := bs) (i := i) c1 0;have hs := hv.sadq hg (k := .i64);have hld : ldv ⟨L, hp⟩ 12 (elq v i [] 12) = V.at [] (.int .u8 (bs.getD i 0)) := hv.ldq hg;have hin := fun q => U4 L hp v bs.length i q L.length hvl (by rw [List.drop_length]; rfl);refine ⟨i + 1, by omega, by omega, rfl, ?_⟩;rw [FI c1];generalize jx (d9 r) (bs.take i) = q at *;generalize bs.getD i 0 = b at *;simp only [go_sem, jZ, d1, hs, hld];simp only [go_sem, hin, d4, hvl];rfl
  ·right;have : i = bs.length := by omega
   subst this;have d1 : ¬ (bs.length : Int) < bs.length := by omega
   simp only [go_sem, jZ, d1]
 rw [ag AV rfl];simp only [d9] at *;simp only [go_sem, hsl, loop]
theorem Bv {L hp : List Blk} {v : V} {bs : List Int} (hv : RS ⟨L, hp⟩ 12 v (bs.map (.int .u8))) (hl : bs.length < 1000) : rf D mU [v] ⟨L, hp⟩ = some (.int .u32 (d9 (jx (d9 0) bs)), ⟨L, hp⟩) := by
 have h := yf hv hl 0;rw [ag B9 rfl];simp only [go_sem, h]
def KG (l : List Int) : Int := ior .u64 4294967296 (IntKind.u64.wrap (d9 (jx (d9 0) ((List.range 56).map (bC l 8 0)))))
def o5 (l : List Int) : List Int := l.set 7 (KG l)
theorem pU (l : List Int) : (o5 l).length = l.length := by unfold o5; rw [List.length_set]
theorem ni {l : List Int} (hl : l.length = 8) (s : St) : rf D fR [lnV l] s = some (lnV (o5 l), s) := by
 have hb := fun L => vm hl ⟨s.loc ++ L, s.hp⟩;have hrs : RS ⟨s.loc ++ [.rw (lnV l), .rw (.agg 24 (List.replicate 8 (.int .u64 0))), .rw (.agg 108 (tab 64 fun j => .int .u8 (bC l 8 0 j)))], s.hp⟩ 12 (.sl (.loc (s.loc.length + 2)) [] 0 56 (some 64) 12) (((List.range 56).map (bC l 8 0)).map (.int .u8)) := by
  refine .inr ⟨.loc (s.loc.length + 2), [], 0, some 64, by simp, fun c hc => by cases hc; simp, by simp [V.locLt], .inr ⟨108, tab 64 fun j => .int .u8 (bC l 8 0 j), ?_, fun j x hx => ?_⟩⟩
  ·simp only [go_sem]
  ·have hj : j < 56 := by
    have := (List.getElem?_eq_some_iff.1 hx).1;simpa using this
   rw [Nat.zero_add, aq (by omega)];simpa [hj] using hx
 have hm := Bv hrs (by simp);have g7 : (l.map (V.int .u64))[7]? = some (.int .u64 (l.getD 7 0)) := bh (by omega) 0;unfold o5 KG;generalize (List.range 56).map (bC l 8 0) = bs at *;have hst : (l.map (V.int .u64)).set 7 (.int .u64 (ior .u64 4294967296 (IntKind.u64.wrap (d9 (jx (d9 0) bs))))) = (l.set 7 (ior .u64 4294967296 (IntKind.u64.wrap (d9 (jx (d9 0) bs))))).map (.int .u64) := by rw [List.map_set]
 generalize d9 (jx (d9 0) bs) = cc at *;simp only [lnV] at *;rw [← hst];generalize (tab 64 fun j => V.int .u8 (bC l 8 0 j)) = T at *;rw [ag AX rfl];simp only [go_sem, hb];simp only [go_sem, hm, g7]
end Go.Proofs.YtmimfopnhmmlbaaDoor
namespace Go.Proofs.YtmimfopnhmmlbaaDoor
open Go.Ab
def win (n a b : Int) : Bool := decide (a ≤ n) && decide (n ≤ b)
theorem tD (n a b : Int) (s : St) : rf D cR [.int .i64 n, .int .i64 a, .int .i64 b] s = some (.bool (win n a b), s) := by
 unfold win;rw [ag tU rfl];by_cases h1 : a ≤ n
 ·have h1' : n ≥ a := h1;simp only [go_sem, h1, h1', decide_true]
 ·have h1' : ¬ n ≥ a := h1;simp only [go_sem, h1, h1', decide_false]
def ew (e : Ent) : Bool := win e.kind 0 4 && win e.ver 0 16777215 && win e.line 0 1023 && !(decide (e.kind = 0) && decide (e.line ≠ 0))
def ui (e : Ent) : Int := ior .u64 (ior .u64 (IntKind.u64.wrap e.kind) (r7 .u64 (IntKind.u64.wrap e.ver) 4)) (r7 .u64 (IntKind.u64.wrap e.line) 28)
def ye (e : Ent) : Int × Int := if ew e = true then (ui e, 0) else (0, 1)
theorem vw (e : Ent) (s : St) : rf D j6 [e.v] s = some (.tup [.int .u64 (ye e).1, .int .i64 (ye e).2], s) := by
 have h := tD;have d4 : ¬ (4 : Int) < 0 := by omega
 have d28 : ¬ (28 : Int) < 0 := by omega
 obtain ⟨k, v, l⟩ := e;unfold ye ew ui;simp only [Ent.v];rw [ag xI rfl];generalize hA : win k 0 4 = A;generalize hB : win v 0 16777215 = B;generalize hC : win l 0 1023 = C;cases A
 ·simp only [go_sem, h, hA]
 ·cases B
  ·simp only [go_sem, h, hA, hB]
  ·cases C
   ·simp only [go_sem, h, hA, hB, hC]
   ·by_cases hk : k = 0
    ·by_cases hl : l = 0
     ·subst hk; subst hl;simp only [go_sem, h, hA, hB, hC, d4, d28, decide_true, decide_false]
     ·subst hk;simp only [go_sem, h, hA, hB, hC, hl, d4, d28, decide_true, decide_false]
    ·simp only [go_sem, h, hA, hB, hC, hk, d4, d28, decide_true, decide_false]
def lfL (t : Nat → Ent) (k i : Nat) : List Int := (List.range 8).map fun j => if j < i then ui (t (7 * k + j)) else 0
theorem uy (t : Nat → Ent) (k i : Nat) : (lfL t k i).length = 8 := by simp [lfL]
theorem RR {t : Nat → Ent} {k i : Nat} (hi : i < 7) : (lfL t k i).set i (ui (t (7 * k + i))) = lfL t k (i + 1) := by
 apply List.ext_getElem?;intro j;unfold lfL;by_cases e : i = j
 ·subst e;rw [List.getElem?_set_self (by simp; omega)];simp [show i < 8 by omega]
 ·rw [List.getElem?_set_ne e];simp only [List.getElem?_map];by_cases hj : j < 8
  ·simp only [List.getElem?_range hj, Option.map_some];by_cases h : j < i
   ·rw [if_pos h, if_pos (by omega)]
   ·rw [if_neg h, if_neg (by omega)]
  ·rw [List.getElem?_eq_none (by simp; omega)]; rfl
theorem HH (t : Nat → Ent) (k : Nat) : lfL t k 0 = zl := rfl
def jC (t : Nat → Ent) (k i n : Nat) : Bool := (List.range n).all fun j => ew (t (7 * k + (i + j)))
def j7 (t : Nat → Ent) (k : Nat) : List Int := if jC t k 0 7 = true then o5 (lfL t k 7) else zl
theorem uL (t : Nat → Ent) (k : Nat) : (j7 t k).length = 8 := by
 unfold j7;split
 ·rw [pU, uy]
 ·rfl
theorem rh (t : Nat → Ent) (k i n : Nat) : jC t k i (n + 1) = (ew (t (7 * k + i)) && jC t k (i + 1) n) := by
 unfold jC;rw [List.range_succ_eq_map, List.all_cons, List.all_map];congr 2;funext j;simp only [Function.comp, Nat.succ_eq_add_one];rw [show i + (j + 1) = i + 1 + j by omega]
theorem uQ (t : Nat → Ent) {k : Nat} (hk : k < 7) (L hp : List Blk) : ∀ (n i : Nat), i + n = 7 → ∃ r,
 rc D L.length (.loop [1, 2, 4, 6, 17] gU) [(1, .int .i64 k), (2, .ptr (.loc L.length) [] 48), (4, .ptr (.loc (L.length + 1)) [] 24), (6, .ptr (.loc (L.length + 2)) [] 24), (17, .int .i64 i)] ⟨L ++ [.rw (af t), .rw (lnV zl), .rw (lnV (lfL t k i))], hp⟩ = some r ∧
 ((jC t k i n = true ∧ r = (.exit 0, [(1, .int .i64 k), (2, .ptr (.loc L.length) [] 48), (4, .ptr (.loc (L.length + 1)) [] 24), (6, .ptr (.loc (L.length + 2)) [] 24), (17, .int .i64 7), (18, .bool false)], ⟨L ++ [.rw (af t), .rw (lnV zl), .rw (lnV (lfL t k 7))], hp⟩)) ∨
  (jC t k i n = false ∧ ∃ X, r = (.ret, [(4, .ptr (.loc (L.length + 1)) [] 24), (5, .int .i64 1)], ⟨L ++ [.rw (af t), .rw (lnV zl), X], hp⟩)))
 | 0, i, hi => by
  have : i = 7 := by omega
  subst this;refine ⟨_, ?_, .inl ⟨rfl, rfl⟩⟩;rw [au];simp only [af, lnV];simp only [go_sem, gU]
 | n + 1, i, hi => by
  have d1 : (i : Int) < 7 := by omega
  have d2 : (0 : Int) ≤ i := by omega
  have d3 : (i : Int) < 8 := by omega
  have d4 : IntKind.i64.wrap ((i : Int) + 1) = ((i + 1 : Nat) : Int) := al (by omega) (by omega);have e1 : IntKind.i64.wrap (7 * (k : Int)) = 7 * k := al (by omega) (by omega);have e3 : IntKind.i64.wrap (7 * (k : Int) + i) = ((7 * k + i : Nat) : Int) := by rw [al (by omega) (by omega)]; omega
  have e5 : ((7 * k + i : Nat) : Int) < 49 := by omega
  have e6 : (0 : Int) ≤ ((7 * k + i : Nat) : Int) := by omega
  have g1 := aq (f := fun j => (t j).v) (show 7 * k + i < 49 by omega);have hw := fun s => vw (t (7 * k + i)) s;have g2 : ((lfL t k i).map (V.int .u64))[i]? = some (.int .u64 ((lfL t k i).getD i 0)) := bh (by rw [uy]; omega) 0;rw [rh];cases hb : ew (t (7 * k + i))
  ·refine ⟨_, ?_, .inr ⟨by rw [Bool.false_and], .rw (lnV (lfL t k i)), rfl⟩⟩;unfold ye at hw;rw [hb, if_neg (by simp)] at hw;have hz : (zl.map (V.int .u64)) = List.replicate 8 (.int .u64 0) := rfl;rw [au];simp only [af, lnV, Ent.v, hz] at *;generalize (tab 49 fun j => V.agg 42 [.int .i64 (t j).kind, .int .i64 (t j).ver, .int .i64 (t j).line]) = T at *;generalize 7 * k + i = p at *;generalize (lfL t k i).map (V.int .u64) = LF at *;simp only [go_sem, gU, d1, e1, e3, e5, e6, Int.toNat_natCast, g1, hw]
  ·obtain ⟨r, q1, q2⟩ := uQ t hk L hp n (i + 1) (by omega);refine ⟨r, ?_, by rw [Bool.true_and]; exact q2⟩;unfold ye at hw;rw [hb, if_pos rfl] at hw;have hs : ((lfL t k i).map (V.int .u64)).set i (.int .u64 (ui (t (7 * k + i)))) = (lfL t k (i + 1)).map (V.int .u64) := by rw [← RR (by omega), List.map_set]
   have z1 : L.length < L.length + 3 := by omega
   have z3 : L.length + 1 < L.length + 3 := by omega
   have z4 : L.length + 2 < L.length + 3 := by omega
   rw [← q1, au];simp only [af, lnV, Ent.v] at *;rw [← hs];generalize (tab 49 fun j => V.agg 42 [.int .i64 (t j).kind, .int .i64 (t j).ver, .int .i64 (t j).line]) = T at *;generalize ui (t (7 * k + i)) = w at *;generalize 7 * k + i = p at *;generalize (lfL t k i).map (V.int .u64) = LF at *;generalize (lfL t k i).getD i 0 = w0 at *;simp only [go_sem, gU, d1, d2, d3, d4, e1, e3, e5, e6, Int.toNat_natCast, g1, g2, hw, z1, z3, z4]
theorem pr (t : Nat → Ent) {k : Nat} (hk : k < 7) (s : St) : ∃ e, rf D je [af t, .int .i64 k] s = some (.tup [lnV (j7 t k), .int .i64 e], s) := by
 obtain ⟨r, q1, q2⟩ := uQ t hk s.loc s.hp 7 0 rfl;have d1 : ¬ (k : Int) < 0 := by omega
 have d2 : ¬ (k : Int) ≥ 7 := by omega
 rw [show ((0 : Nat) : Int) = 0 from rfl, HH] at q1
 have hseal := fun s => ni (uy t k 7) s;have hz : (zl.map (V.int .u64)) = List.replicate 8 (.int .u64 0) := rfl;unfold j7;rcases q2 with ⟨c, rfl⟩ | ⟨c, X, rfl⟩
 ·refine ⟨0, ?_⟩;rw [c, if_pos rfl];simp only [af, lnV, hz] at *;rw [ag pH rfl];simp only [go_sem, d1, d2, q1];simp only [go_sem, hseal]
 ·refine ⟨1, ?_⟩;rw [c, if_neg (by simp)];simp only [af, lnV, hz] at *;rw [ag pH rfl];simp only [go_sem, d1, d2, q1]
end Go.Proofs.YtmimfopnhmmlbaaDoor
namespace Go.Proofs.YtmimfopnhmmlbaaDoor
open Go.Ab
def rlL (d : Nat → Int) (i : Nat) : List Int := (List.range 8).map fun j => if j < i then ior .u64 4294967296 (IntKind.u64.wrap (d j)) else 0
theorem ul (d : Nat → Int) (i : Nat) : (rlL d i).length = 8 := by simp [rlL]
theorem RU {d : Nat → Int} {i : Nat} (hi : i < 7) : (rlL d i).set i (ior .u64 4294967296 (IntKind.u64.wrap (d i))) = rlL d (i + 1) := by
 apply List.ext_getElem?;intro j;unfold rlL;by_cases e : i = j
 ·subst e;rw [List.getElem?_set_self (by simp; omega)];simp [show i < 8 by omega]
 ·rw [List.getElem?_set_ne e];simp only [List.getElem?_map];by_cases hj : j < 8
  ·simp only [List.getElem?_range hj, Option.map_some];by_cases h : j < i
   ·rw [if_pos h, if_pos (by omega)]
   ·rw [if_neg h, if_neg (by omega)]
  ·rw [List.getElem?_eq_none (by simp; omega)]; rfl
def jE (d : Nat → Int) (i n : Nat) : Bool := (List.range n).all fun j => decide (0 ≤ d (i + j)) && decide (d (i + j) < 1024)
def kl (d : Nat → Int) : List Int := if jE d 0 7 = true then o5 (rlL d 7) else zl
theorem vg (d : Nat → Int) : (kl d).length = 8 := by
 unfold kl;split
 ·rw [pU, ul]
 ·rfl
theorem ri (d : Nat → Int) (i n : Nat) : jE d i (n + 1) = ((decide (0 ≤ d i) && decide (d i < 1024)) && jE d (i + 1) n) := by
 unfold jE;rw [List.range_succ_eq_map, List.all_cons, List.all_map];congr 2;funext j;simp only [Function.comp, Nat.succ_eq_add_one];rw [show i + (j + 1) = i + 1 + j by omega]
def d7V (d : Nat → Int) : V := .agg 60 (tab 7 fun i => .int .i64 (d i))
theorem vf (d : Nat → Int) (L hp : List Blk) (u : Blk) : ∀ (n i : Nat), i + n = 7 → ∃ r,
 rc D L.length (.loop [2, 4, 7, 8] eN) [(2, .ptr (.loc (L.length + 1)) [] 24), (4, .ptr (.loc (L.length + 2)) [] 24), (7, d7V d), (8, .int .i64 i)] ⟨L ++ [.rw (d7V d), .rw (lnV zl), .rw (lnV (rlL d i))], hp⟩ = some r ∧
 ((jE d i n = true ∧ r = (.exit 0, [(2, .ptr (.loc (L.length + 1)) [] 24), (4, .ptr (.loc (L.length + 2)) [] 24), (7, d7V d), (8, .int .i64 7), (9, .bool false)], ⟨L ++ [.rw (d7V d), .rw (lnV zl), .rw (lnV (rlL d 7))], hp⟩)) ∨
  (jE d i n = false ∧ ∃ X, r = (.ret, [(2, .ptr (.loc (L.length + 1)) [] 24), (3, .int .i64 1)], ⟨L ++ [.rw (d7V d), .rw (lnV zl), X], hp⟩)))
 | 0, i, hi => by
  have : i = 7 := by omega
  subst this;refine ⟨_, ?_, .inl ⟨rfl, rfl⟩⟩;rw [au];simp only [d7V, lnV];simp only [go_sem, eN]
 | n + 1, i, hi => by
  have d1 : (i : Int) < 7 := by omega
  have d2 : (0 : Int) ≤ i := by omega
  have d3 : (i : Int) < 8 := by omega
  have d4 : IntKind.i64.wrap ((i : Int) + 1) = ((i + 1 : Nat) : Int) := al (by omega) (by omega);have g1 := aq (f := fun j => V.int .i64 (d j)) (show i < 7 by omega);have g2 : ((rlL d i).map (V.int .u64))[i]? = some (.int .u64 ((rlL d i).getD i 0)) := bh (by rw [ul]; omega) 0;have z1 : L.length < L.length + 3 := by omega
  have z3 : L.length + 1 < L.length + 3 := by omega
  have z4 : L.length + 2 < L.length + 3 := by omega
  have hs : ((rlL d i).map (V.int .u64)).set i (.int .u64 (ior .u64 4294967296 (IntKind.u64.wrap (d i)))) = (rlL d (i + 1)).map (V.int .u64) := by rw [← RU (by omega), List.map_set]
  rw [ri];by_cases h0 : d i < 0
  ·refine ⟨_, ?_, .inr ⟨by rw [decide_eq_false (show ¬ 0 ≤ d i by omega)]; rfl, .rw (lnV (rlL d i)), rfl⟩⟩;have hz : (zl.map (V.int .u64)) = List.replicate 8 (.int .u64 0) := rfl;rw [au];simp only [d7V, lnV, hz] at *;generalize (tab 7 fun j => V.int .i64 (d j)) = T at *;generalize (rlL d i).map (V.int .u64) = LF at *;simp only [go_sem, eN, d1, d2, Int.toNat_natCast, g1, h0]
  ·by_cases h1 : d i < 1024
   ·obtain ⟨r, q1, q2⟩ := vf d L hp u n (i + 1) (by omega);refine ⟨r, ?_, by rw [decide_eq_true (show 0 ≤ d i by omega), decide_eq_true h1]; exact q2⟩;have h1' : ¬ d i ≥ 1024 := by omega
    rw [← q1, au];simp only [d7V, lnV] at *;rw [← hs];generalize (tab 7 fun j => V.int .i64 (d j)) = T at *;generalize (rlL d i).map (V.int .u64) = LF at *;generalize (rlL d i).getD i 0 = w0 at *;generalize d i = di at *;simp only [go_sem, eN, d1, d2, d3, d4, Int.toNat_natCast, g1, g2, h0, h1', z1, z3, z4]
   ·refine ⟨_, ?_, .inr ⟨by rw [decide_eq_false h1, Bool.and_false]; rfl, .rw (lnV (rlL d i)), rfl⟩⟩;have hz : (zl.map (V.int .u64)) = List.replicate 8 (.int .u64 0) := rfl;have h1' : d i ≥ 1024 := by omega
    rw [au];simp only [d7V, lnV, hz] at *;generalize (tab 7 fun j => V.int .i64 (d j)) = T at *;generalize (rlL d i).map (V.int .u64) = LF at *;generalize d i = di at *;simp only [go_sem, eN, d1, d2, Int.toNat_natCast, g1, h0, h1']
theorem po (d : Nat → Int) (s : St) : ∃ e, rf D iR [d7V d] s = some (.tup [lnV (kl d), .int .i64 e], s) := by
 obtain ⟨r, q1, q2⟩ := vf d s.loc s.hp .dead 7 0 rfl;have h0 : rlL d 0 = zl := rfl;rw [show ((0 : Nat) : Int) = 0 from rfl, h0] at q1
 have hseal := fun s => ni (ul d 7) s;have hz : (zl.map (V.int .u64)) = List.replicate 8 (.int .u64 0) := rfl;unfold kl;rcases q2 with ⟨c, rfl⟩ | ⟨c, X, rfl⟩
 ·refine ⟨0, ?_⟩;rw [c, if_pos rfl];simp only [d7V, lnV, hz] at *;rw [ag pL rfl];simp only [go_sem, q1];simp only [go_sem, hseal]
 ·refine ⟨1, ?_⟩;rw [c, if_neg (by simp)];simp only [d7V, lnV, hz] at *;rw [ag pL rfl];simp only [go_sem, q1]
def qA (a b : Ent) : Bool := decide (a.kind = b.kind) && (decide (a.ver = b.ver) && decide (a.line = b.line))
theorem DU {a b : Ent} : qA a b = true ↔ a = b := by
 obtain ⟨k, v, l⟩ := a;obtain ⟨k', v', l'⟩ := b;simp [qA]
theorem Ry (a b : Ent) : veq a.v b.v = some (qA a b) := by
 simp only [Ent.v, veq, co, qA];by_cases h1 : a.kind = b.kind <;> by_cases h2 : a.ver = b.ver <;> by_cases h3 : a.line = b.line <;> simp [h1, h2, h3]
def oC (f g : Nat → Ent) : List Nat → Bool
 | [] => true
 | i :: l => qA (f i) (g i) && oC f g l
theorem pF (f g : Nat → Ent) : ∀ l : List Nat, co (l.map fun i => (f i).v) (l.map fun i => (g i).v) = some (oC f g l)
 | [] => rfl
 | i :: l => by
  simp only [List.map_cons, co, Ry, oC];cases qA (f i) (g i)
  ·rfl
  ·rw [pF f g l]; rfl
theorem pD {f g : Nat → Ent} : ∀ {l : List Nat}, oC f g l = true ↔ ∀ i ∈ l, f i = g i
 | [] => by simp [oC]
 | i :: l => by simp [oC, DU, pD (l := l)]
def um (t u : Nat → Ent) (k : Nat) : Bool := !oC (fun i => t (7 * k + i)) (fun i => u (7 * k + i)) (List.range 7)
def dT (t u : Nat → Ent) : Nat → List Int
 | 0 => []
 | k + 1 => if um t u k = true then dT t u k ++ [(k : Int)] else dT t u k
theorem o8 (t u : Nat → Ent) : ∀ k, (dT t u k).length ≤ k
 | 0 => Nat.le_refl _
 | k + 1 => by
  have := o8 t u k;simp only [dT];split
  ·simp; omega
  ·omega
theorem t6 (t u : Nat → Ent) : ∀ k, ∀ x ∈ dT t u k, 0 ≤ x ∧ x < k
 | 0, x, h => by cases h
 | k + 1, x, h => by
  simp only [dT] at h;split at h
  ·rw [List.mem_append, List.mem_singleton] at h;rcases h with h | h
   ·have := t6 t u k x h; omega
   ·omega
  ·have := t6 t u k x h; omega
theorem xr {n a m : Nat} {f : Nat → V} (h : a + m ≤ n) : ((tab n f).drop a).take m = tab m fun i => f (a + i) := by
 apply List.ext_getElem?;intro j;by_cases hj : j < m
 ·rw [List.getElem?_take, if_pos hj, List.getElem?_drop, aq (by omega), aq hj]
 ·rw [List.getElem?_take, if_neg hj, List.getElem?_eq_none (by rw [eL]; omega)]
theorem xg {s : St} {a : Ab.Loc} {t n m k : Nat} {f : Nat → V} (hr : s.read a [] = some (.agg t (tab n f))) (h : k + m ≤ n) : s.part m t a [k] = some (tab m fun i => f (k + i)) := by
 unfold St.part;show (match s.read a [] with | some (.agg u' l) => if u' = t ∧ [k] ≠ [] ∧ k + m ≤ l.length then some ((l.drop k).take m) else none | _ => none) = _
 rw [hr];simp only;have hc : True ∧ [k] ≠ [] ∧ k + m ≤ (tab n f).length := ⟨trivial, by simp, by rw [eL]; exact h⟩;rw [if_pos hc, xr h]
theorem sS (t u : Nat → Ent) (s : St) : ∃ X v, Apd s.hp X v (dT t u 7) ∧ rf D jm [af t, af u] s = some (v, ⟨s.loc, s.hp ++ X⟩) := by
 have loop : ∃ r, rc D s.loc.length (.loop [2, 3, 5, 7] eS) [(2, .ptr (.loc s.loc.length) [] 48), (3, .ptr (.loc (s.loc.length + 1)) [] 48), (5, .nils), (7, .int .i64 0)] ⟨s.loc ++ [.rw (af t), .rw (af u)], s.hp⟩ = some r ∧
  ∃ X v, Apd s.hp X v (dT t u 7) ∧ r = (.exit 0, [(2, .ptr (.loc s.loc.length) [] 48), (3, .ptr (.loc (s.loc.length + 1)) [] 48), (5, v), (7, .int .i64 7), (8, .bool false)], ⟨s.loc ++ [.rw (af t), .rw (af u)], s.hp ++ X⟩) := by
  refine l5 (fun x : Nat × List Blk × V => [(2, .ptr (.loc s.loc.length) [] 48), (3, .ptr (.loc (s.loc.length + 1)) [] 48), (5, x.2.2), (7, .int .i64 x.1)]) (fun x => ⟨s.loc ++ [.rw (af t), .rw (af u)], s.hp ++ x.2.1⟩) _ (fun x => 7 - x.1)
   (fun x => x.1 ≤ 7 ∧ Apd s.hp x.2.1 x.2.2 (dT t u x.1)) (0, [], .nils) ?_ ⟨by simp only; omega, ⟨.inl ⟨rfl, rfl⟩⟩⟩ rfl (by simp)
  rintro ⟨k, X, v⟩ ⟨hk, ha⟩;simp only at hk ha;by_cases c1 : k < 7
  ·left;have d1 : (k : Int) < 7 := by omega
   have d4 : IntKind.i64.wrap ((k : Int) + 1) = ((k + 1 : Nat) : Int) := al (by omega) (by omega);have e1 : IntKind.i64.wrap (7 * (k : Int)) = ((7 * k : Nat) : Int) := by rw [al (by omega) (by omega)]; omega
   have e2 : IntKind.i64.wrap (((7 * k : Nat) : Int) + 7) = ((7 * k + 7 : Nat) : Int) := by rw [al (by omega) (by omega)]; omega
   have p1 : ∀ H : List Blk, St.part ⟨s.loc ++ [.rw (af t), .rw (af u)], H⟩ 7 48 (.loc s.loc.length) [7 * k] = some (tab 7 fun i => (t (7 * k + i)).v) := fun H =>
    xg (n := 49) (f := fun i => (t i).v) (by simp only [af]; simp only [go_sem]) (by omega)
   have p2 : ∀ H : List Blk, St.part ⟨s.loc ++ [.rw (af t), .rw (af u)], H⟩ 7 48 (.loc (s.loc.length + 1)) [7 * k] = some (tab 7 fun i => (u (7 * k + i)).v) := fun H =>
    xg (n := 49) (f := fun i => (u i).v) (by simp only [af]; simp only [go_sem]) (by omega)
   have hv := pF (fun i => t (7 * k + i)) (fun i => u (7 * k + i)) (List.range 7);have hv : co (tab 7 fun i => (t (7 * k + i)).v) (tab 7 fun i => (u (7 * k + i)).v) = some (!um t u k) := by unfold um; rw [Bool.not_not]; exact hv
   have f1 : (7 * k : Nat) ≤ 7 * k + 7 := by omega
   have f2 : (7 * k + 7 : Nat) ≤ 49 := by omega
   have f3 : 7 * k + 7 - 7 * k = 7 := by omega
   have f6 : ((7 * k : Nat) : Int) ≤ ((7 * k + 7 : Nat) : Int) := by omega
   have f7 : ((7 * k + 7 : Nat) : Int) ≤ 49 := by omega
   have f8 : ∀ z : Nat, (if z = z then (7 : Nat) else 0) = 7 := fun z => if_pos rfl
   have f4 : (0 : Int) ≤ ((7 * k : Nat) : Int) := by omega
   have f5 : (0 : Int) ≤ ((7 * k + 7 : Nat) : Int) := by omega
   have hvl : V.locLt (s.loc.length + 2) v = true := by rcases ha.at' with ⟨_, rfl⟩ | ⟨Y, _, rfl⟩ <;> rfl
   have z1 : s.loc.length < s.loc.length + 2 := by omega
   have z2 : s.loc.length + 1 < s.loc.length + 2 := by omega
   have t49 : (tab 49 fun i => (t i).v).length = 49 := eL _ _;cases hd : um t u k
   ·rw [hd] at hv;refine ⟨(k + 1, X, v), ⟨by simp only; omega, by simp only [dT, hd]; exact ha⟩, by simp only; omega, ?_⟩;simp only [af] at *;generalize (tab 49 fun i => (t i).v) = T1 at *;generalize (tab 49 fun i => (u i).v) = T2 at *;simp only [go_sem, eS, d1, e1, e2, Int.toNat_natCast, f1, f2, f3, f4, f5, f6, f7, p1, p2, hv, d4, hvl, z1, z2]
   ·rw [hd] at hv;have hy : St.elems ⟨s.loc ++ [.rw (af t), .rw (af u), .rw (.agg 38 [.int .i64 (k : Int)])], s.hp ++ X⟩ (.sl (.loc (s.loc.length + 2)) [] 0 1 (some 1) 10) = some [.int .i64 (k : Int)] := eI (t := 38) (by simp only [go_sem]) rfl;obtain ⟨X', v', q1, q2⟩ := ha.push (by have := o8 t u k; omega) (k : Int) (.inr ⟨_, _, _, _, _, rfl⟩) hy (base := s.loc.length);refine ⟨(k + 1, X', v'), ⟨by simp only; omega, by simp only [dT, hd, if_true]; exact q2⟩, by simp only; omega, ?_⟩;have hvl' : V.locLt (s.loc.length + 2) v' = true := by rcases q2.at' with ⟨_, rfl⟩ | ⟨Y, _, rfl⟩ <;> rfl
    have hrep : List.replicate 1 (V.int .i64 0) = [.int .i64 0] := rfl;simp only [af] at *;generalize (tab 49 fun i => (t i).v) = T1 at *;generalize (tab 49 fun i => (u i).v) = T2 at *;simp only [go_sem, eS, d1, e1, e2, Int.toNat_natCast, f1, f2, f3, f4, f5, f6, f7, p1, p2, hv, d4, hvl', z1, z2, hrep, q1]
  ·right;have : k = 7 := by omega
   subst this;refine ⟨_, ?_, X, v, ha, rfl⟩;simp only [af];simp only [go_sem, eS]
 obtain ⟨r, h1, X, v, h2, rfl⟩ := loop;refine ⟨X, v, h2, ?_⟩;have hv : V.locLt s.loc.length v = true := by rcases h2.at' with ⟨_, rfl⟩ | ⟨Y, _, rfl⟩ <;> rfl
 rw [ag tW rfl];simp only [af] at *;simp only [go_sem, h1, hv]
end Go.Proofs.YtmimfopnhmmlbaaDoor
namespace Go.Proofs.YtmimfopnhmmlbaaDoor
open Go.Ab
def AM.stp (M : AM) : AM := if M.dead then M.out else M.stepped
def AM.stpE (M : AM) : Int := if M.dead then 4 else 0
theorem rP {k n k' n' : Nat} {cp cp' : Option Nat} {o o' b b' : Bool} {l l' c c' : Int} (h : cq k n cp o b l c = cq k' n' cp' o' b' l' c') : k = k' := by
 simp only [cq, V.agg.injEq, List.cons.injEq, V.sl.injEq, Loc.hp.injEq, true_and, and_true] at h;exact h.1.1
theorem sZ {hp : List Blk} {F : Ft} {m : Nat} {M : AM} (h : cK hp F m M) (hc : M.count < 1000000) :
 ∃ hp', (∀ L, rf D a8 [.ptr (.hp m) [] 59] ⟨L, hp⟩ = some (.int .i64 M.stpE, ⟨L, hp'⟩)) ∧ cK hp' F m M.stp ∧ Chg hp hp' F F ∧
  ∀ k n cp o b l c, hp[m]? = some (.rw (cq k n cp o b l c)) → ∃ o' b' l' c', hp'[m]? = some (.rw (cq k n cp o' b' l' c')) := by
 have hM := h;obtain ⟨k, fk, ne, ⟨cp, left, h1, h2, h3⟩, sv, ow, h4, h5⟩ := h.mb;have ok := h.ok;have hc0 := ok.c0;have lf := ok.lf;have hml := aD h1;have hstep := fun L => uP (L := L) h1 hc0 (by omega) (fun hb => by have hb := of_decide_eq_true hb; rw [h3 hb]; exact hb) (fun hb => by rw [h3 (of_decide_eq_true hb)]; have := ok.lg; omega);have keep : ∀ (o2 b2 : Bool) (l2 c2 : Int), ∀ k' n' cp' o b l c, hp[m]? = some (.rw (cq k' n' cp' o b l c)) → ∃ o' b' l' c', (hp.set m (.rw (cq k M.n cp o2 b2 l2 c2)))[m]? = some (.rw (cq k' n' cp' o' b' l' c')) := by
  intro o2 b2 l2 c2 k' n' cp' o b l c hh;rw [h1] at hh;have hh := Option.some.inj hh;simp only [cq, Blk.rw.injEq, V.agg.injEq, List.cons.injEq, V.sl.injEq, Loc.hp.injEq, true_and, and_true] at hh;obtain ⟨⟨rfl, rfl, rfl⟩, _⟩ := hh;exact ⟨_, _, _, _, List.getElem?_set_self hml⟩
 unfold AM.stp AM.stpE;by_cases hd : M.dead = true
 ·rw [hd, if_pos rfl, if_pos rfl];have hd' : M.off = true ∨ M.left = 0 := by simpa [AM.dead] using hd
  obtain ⟨g1, g2⟩ := hM.setm (M' := M.out) ok.out rfl rfl rfl h1 (left' := left) (by simpa [AM.out] using h3);refine ⟨_, fun L => ?_, g1, g2, keep _ _ _ _⟩;rw [hstep L, if_pos]
  ·rfl
  ·rcases hd' with hd' | hd'
   ·exact .inl hd'
   ·exact .inr ⟨by simp [hd'], by rw [h3 (by omega)]; exact hd'⟩
 ·have hdf : M.dead = false := by simpa using hd
  rw [hdf, if_neg (by simp), if_neg (by simp)];have hd' : M.off = false ∧ ¬ M.left = 0 := by simpa [AM.dead] using hd
  have hlv : 0 ≤ M.stepped.left → (if decide (0 ≤ M.left) = true then left - 1 else left) = M.stepped.left := by
   intro hh;simp only [AM.stepped, decide_eq_true_eq] at hh ⊢;split at hh
   ·rw [if_pos (by omega), if_pos (by omega), h3 (by omega)]
   ·omega
  have hbe : decide (0 ≤ M.stepped.left) = decide (0 ≤ M.left) := by
   apply decide_eq_decide.2;simp only [AM.stepped];split <;> omega
  obtain ⟨g1, g2⟩ := hM.setm (M' := M.stepped) ok.stepped rfl rfl rfl h1 hlv;refine ⟨_, fun L => ?_, g1, g2, keep _ _ _ _⟩;rw [hstep L, if_neg, hbe]
  ·rw [show M.stepped.off = M.off from rfl, hd'.1]; rfl
  ·rintro (hh | ⟨hh, hz⟩)
   ·rw [hd'.1] at hh; cases hh
   ·exact hd'.2 (by rw [← h3 (of_decide_eq_true hh)]; exact hz)
def Dn.fl (c : Nat) (d : Dn) : Dn := { d with cs := upd d.cs c true }
theorem FE (c : Nat) : ∀ l : List Dn, flN c (l.map (Dn.fl c)) = l.length
 | [] => rfl
 | d :: l => by
  simp only [List.map_cons, flN, FE c l, List.length_cons];split
  ·rename_i h; simp [Dn.fl, aw, h]
  ·rfl
theorem EI {c c' : Nat} (h : c' ≠ c) : ∀ l : List Dn, flN c' (l.map (Dn.fl c)) = flN c' l
 | [] => rfl
 | d :: l => by
  simp only [List.map_cons, flN, EI h l];have : (d.fl c).cs c' = d.cs c' := by simp only [Dn.fl]; rw [aH h]
  rw [this]
theorem pW (c : Nat) : ∀ (l : List Dn) (x : List Int), an x (l.map (Dn.fl c)) = an x l
 | [], _ => rfl
 | _ :: l, x => pW c l _
theorem Vi (c : Nat) (l : List Dn) : (l.map (Dn.fl c)).map Dn.v1 = l.map Dn.v1 := by
 rw [List.map_map]; rfl
def AM.flushed (M : AM) (c i : Nat) : AM := { M with L := upd M.L i ((M.L i).map (Dn.fl c)) }
def AM.flush (M : AM) (c i : Int) : AM × Int := if i < 0 ∨ (M.n : Int) ≤ i ∨ c < 0 ∨ 8 ≤ c then (M, 1) else if M.dead then (M.out, 4) else (M.stepped.flushed c.toNat i.toNat, 0)
theorem AM.Ok.flushed {M : AM} (h : M.Ok) (c i : Nat) : (M.flushed c i).Ok := by
 refine ⟨h.n0, h.n1, h.l8, fun j hj d hd => ?_, h.c0, fun j hj => ?_, h.lf, h.lg⟩
 ·simp only [AM.flushed] at hd;by_cases e : j = i
  ·subst e;rw [aw] at hd;obtain ⟨d', hd', rfl⟩ := List.mem_map.1 hd;exact h.w8 j hj d' hd'
  ·rw [aH e] at hd; exact h.w8 j hj d hd
 ·simp only [AM.flushed];by_cases e : j = i
  ·subst e; rw [aw, List.length_map]; exact h.len j hj
  ·rw [aH e]; exact h.len j hj
theorem AM.now_flushed {M : AM} {c i j : Nat} : (M.flushed c i).now j = M.now j := by
 unfold AM.now AM.flushed;simp only;by_cases e : j = i
 ·subst e; rw [aw, pW]
 ·rw [aH e]
theorem Ud {c : Nat} (hc : c < 8) (l : List Dn) : ∀ T, flV l = .agg 50 T → flV (l.map (Dn.fl c)) = .agg 50 (T.set c (.int .i64 l.length)) := by
 intro T hT;unfold flV at hT ⊢;cases hT;congr 1;rw [cf];apply aR;intro j _;by_cases e : j = c
 ·subst e; rw [aw, FE]
 ·rw [aH e, EI e]
theorem ru {hp : List Blk} {F : Ft} {m : Nat} {M : AM} (h : cK hp F m M) (hc : M.count < 1000000) (c i : Int) (L : List Blk) :
 ∃ hp', rf D cQ [.ptr (.hp m) [] 59, .int .i64 c, .int .i64 i] ⟨L, hp⟩ = some (.int .i64 (M.flush c i).2, ⟨L, hp'⟩) ∧ cK hp' F m (M.flush c i).1 ∧ Chg hp hp' F F := by
 have hM := h;obtain ⟨k, fk, ne, ⟨cp, left, h1, h2, h3⟩, sv0, ow0, h40, h50⟩ := h.mb;have ha := fun L => tX (L := L) h1 i;have ok := h.ok;unfold AM.flush;by_cases hi : i < 0 ∨ (M.n : Int) ≤ i
 ·rw [if_neg (by omega)] at ha;rw [if_pos (by omega)];refine ⟨hp, ?_, hM, .refl _ _⟩;rw [ag fM rfl];simp only [go_sem, ha]
 ·rw [if_pos (by omega)] at ha;by_cases hq : c < 0 ∨ 8 ≤ c
  ·rw [if_pos (by omega)];refine ⟨hp, ?_, hM, .refl _ _⟩;rw [ag fM rfl];by_cases hq0 : c < 0
   ·simp only [go_sem, ha, hq0]
   ·have hq8 : c ≥ 8 := by omega
    simp only [go_sem, ha, hq0, hq8]
  ·rw [if_neg (by omega)];obtain ⟨j, rfl⟩ : ∃ j : Nat, i = j := ⟨i.toNat, by omega⟩;obtain ⟨p, rfl⟩ : ∃ p : Nat, c = p := ⟨c.toNat, by omega⟩;simp only [Int.toNat_natCast] at ha ⊢;have d1 : ¬ (p : Int) < 0 := by omega
   have d2 : ¬ (p : Int) ≥ 8 := by omega
   have d3 : (p : Int) < 8 := by omega
   have d4 : (0 : Int) ≤ p := by omega
   obtain ⟨hp1, s1, s2, s3, s4⟩ := sZ hM hc;unfold AM.stpE at s1;unfold AM.stp at s2;by_cases hd : M.dead = true
   ·rw [if_pos hd];rw [hd, if_pos rfl] at s1 s2;refine ⟨hp1, ?_, s2, s3⟩;rw [ag fM rfl];simp only [go_sem, ha, d1, d2, s1]
   ·have hdf : M.dead = false := by simpa using hd
    rw [if_neg hd];rw [hdf, if_neg (by simp)] at s1 s2;obtain ⟨o', b', l', c', s5⟩ := s4 _ _ _ _ _ _ _ h1;have hM1 := s2;obtain ⟨k', fk', ne', ⟨cp', left', q1, q2, q3⟩, sv, ow, q4, q5⟩ := s2.mb;have hkk : k = k' := rP (Blk.rw.inj (Option.some.inj (s5.symm.trans q1)));subst hkk;have e1 : M.stepped.n = M.n := rfl;have e2 : M.stepped.S = M.S := rfl;have e3 : M.stepped.L = M.L := rfl;rw [e1, e2, e3] at q4;rw [e1, e3] at q5;have hj : j < M.n := by omega
    have g := aq (f := fun i => plV (M.S i) (M.L i) (sv i)) hj;have hsl := (q5 j hj).slen;rw [List.length_map] at hsl;have gf := aq (f := fun c => V.int .i64 (flN c (M.L j) : Nat)) (show p < 8 by omega);have hfl := Ud (show p < 8 by omega) (M.L j) _ rfl;have hkl := aD q4;refine ⟨hp1.set k (.rw (.agg 57 ((tab M.n fun i => plV (M.S i) (M.L i) (sv i)).set j (plV (M.S j) ((M.L j).map (Dn.fl p)) (sv j))))), ?_, ⟨ok.stepped.flushed p j, hM1.inn.set, hM1.fm, k, fk', ne', ⟨cp', left', ?_, q2, q3⟩, sv, ow, ?_, fun x hx => ?_⟩, s3.trans (fG.mono (fun x hx => by cases hx; exact fk') fun _ => .inr)⟩
    ·have hpl : plV (M.S j) ((M.L j).map (Dn.fl p)) (sv j) = .agg 55 [lnV (an (M.S j) (M.L j)), lnV (M.S j), sv j, .agg 50 ((tab 8 fun c => V.int .i64 (flN c (M.L j) : Nat)).set p (.int .i64 (M.L j).length))] := by
      simp only [plV, nlV, pW, hfl]
     rw [hpl];have hg0 : plV (M.S j) (M.L j) (sv j) = .agg 55 [lnV (an (M.S j) (M.L j)), lnV (M.S j), sv j, .agg 50 (tab 8 fun c => V.int .i64 (flN c (M.L j) : Nat))] := rfl;rw [hg0] at g;generalize (tab 8 fun c => V.int .i64 (flN c (M.L j) : Nat)) = TF at *;generalize (tab M.n fun i => plV (M.S i) (M.L i) (sv i)) = T0 at *;generalize lnV (an (M.S j) (M.L j)) = N1 at *;rw [ag fM rfl];simp only [go_sem, ha, d1, d2, d3, d4, s1, q4, g, hsl, Int.toNat_natCast, gf]
    ·rw [List.getElem?_set_ne (Ne.symm ne')]; exact q1
    ·rw [cf, List.getElem?_set_self hkl];congr 4; funext x;unfold upd AM.flushed;simp only;by_cases e : x = j
     ·subst e; rw [if_pos rfl, aw]; rfl
     ·rw [if_neg e, aH e]; rfl
    ·have e5 : ((M.stepped.flushed p j).L x).map Dn.v1 = (M.L x).map Dn.v1 := by
      unfold AM.flushed;simp only;by_cases e : x = j
      ·subst e; rw [aw]; exact Vi p _
      ·rw [aH e]; rfl
     rw [e5];exact (q5 x hx).eqv (fun y hy => List.getElem?_set_ne (Ne.symm hy.2.2.1)) fun _ hy => hy
end Go.Proofs.YtmimfopnhmmlbaaDoor
namespace Go.Proofs.YtmimfopnhmmlbaaDoor
open Go.Ab
theorem SlR.sub {hp : List Blk} {G : Ft} {v : V} {l : List V} (h : SlR hp G 84 86 v l) {n : Nat} (hn : n ≤ l.length) : ∃ v1 v2, hJ 84 none (some (.int .i64 (n : Int))) none v = some v1 ∧ hJ 84 (some (.int .i64 (n : Int))) none none v = some v2 ∧
 (∀ hp' : List Blk, (∀ j, G j → hp'[j]? = hp[j]?) → ∀ L, RS ⟨L, hp'⟩ 84 v1 (l.take n) ∧ RS ⟨L, hp'⟩ 84 v2 (l.drop n)) ∧ (v2 = .nils ∨ ∃ a p o n c, v2 = .sl a p o n c 84) := by
 cases h with
 | nil =>
  have : n = 0 := by simpa using hn
  subst this;exact ⟨.nils, .nils, rfl, rfl, fun _ _ _ => ⟨.inl ⟨rfl, rfl⟩, .inl ⟨rfl, rfl⟩⟩, .inl rfl⟩
 | emp a p o =>
  have : n = 0 := by simpa using hn
  subst this;exact ⟨_, _, rfl, rfl, fun _ _ _ => ⟨.inr ⟨_, _, _, _, rfl, fun c hc => by cases hc; exact Nat.le_refl _, rfl, .inl rfl⟩, .inr ⟨_, _, _, _, rfl, fun c hc => by cases hc; exact Nat.le_refl _, rfl, .inl rfl⟩⟩, .inr ⟨_, _, _, _, _, rfl⟩⟩
 | blk a c l hc hG hb =>
  have hrd : ∀ hp' : List Blk, (∀ j, G j → hp'[j]? = hp[j]?) → hp'[a]? = some (.rw (.agg 86 l)) := fun hp' he => by rw [he a hG]; exact hb
  have hcd : c.getD l.length = l.length := by rcases hc with rfl | rfl <;> rfl
  have hlt : (n : Int) ≤ (l.length : Nat) := by omega
  have key1 : hJ 84 none (some (.int .i64 (n : Int))) none (.sl (.hp a) [] 0 l.length c 84) = some (.sl (.hp a) [] 0 n (ms false c l.length) 84) := by
   simp only [hJ, if_true, ak, aS, iZ, Option.isSome_none, Bool.false_eq_true, if_false];rw [if_pos ⟨by omega, by omega⟩];simp [aS, hcd]
  have key2 : hJ 84 (some (.int .i64 (n : Int))) none none (.sl (.hp a) [] 0 l.length c 84) = some (.sl (.hp a) [] n (l.length - n) (ms false c (l.length - n)) 84) := by
   simp only [hJ, if_true, ak, aS, iZ, Option.isSome_none, Bool.false_eq_true, if_false];rw [if_pos ⟨by omega, by omega⟩];simp [aS, hcd]
  refine ⟨_, _, key1, key2, fun hp' he L => ⟨.inr ⟨.hp a, [], 0, _, by rw [List.length_take, Nat.min_eq_left hn], ?_, rfl, ?_⟩, .inr ⟨.hp a, [], n, _, by rw [List.length_drop], ?_, rfl, ?_⟩⟩, .inr ⟨_, _, _, _, _, rfl⟩⟩
  ·intro c' hc';rcases hc with rfl | rfl
   ·cases hc'
   ·cases hc'; rw [List.length_take]; omega
  ·refine .inr ⟨86, l, by rw [kx, hrd hp' he]; rfl, fun j x hx => ?_⟩;rw [List.getElem?_take] at hx;split at hx
   ·rw [Nat.zero_add]; exact hx
   ·cases hx
  ·intro c' hc';rcases hc with rfl | rfl
   ·cases hc'
   ·cases hc'; rw [List.length_drop]; exact Nat.le_refl _
  ·refine .inr ⟨86, l, by rw [kx, hrd hp' he]; rfl, fun j x hx => ?_⟩;rw [List.getElem?_drop] at hx;exact hx
theorem yG {H : List Blk} {v : V} {l : List V} (hsh : v = .nils ∨ ∃ a p o n c, v = .sl a p o n c 84) (hel : ∀ L, RS ⟨L, H⟩ 84 v l) (hl : V.locLts 0 l = true) (hm : l.length ≤ eX) :
 ∃ H1 v', H <+: H1 ∧ (∀ L, rf D dg [v] ⟨L, H⟩ = some (v', ⟨L, H1⟩)) ∧ SlR H1 (fun j => H.length ≤ j ∧ j < H1.length) 84 86 v' l := by
 by_cases hv : v = .nils
 ·subst hv;have : l = [] := by
   have := (hel []).elems;cases this; rfl
  subst this;refine ⟨H, .nils, List.prefix_refl _, fun L => ?_, .nil⟩;rw [ag eP rfl];simp only [go_sem]
 ·obtain ⟨a, p, o, n, c', rfl⟩ := hsh.resolve_left hv;have hel1 : ∀ L, St.elems ⟨L, H ++ [.rw (.agg 86 [])]⟩ (.sl a p o n c' 84) = some l := fun L => ((hel L).more (s' := ⟨L, H ++ [.rw (.agg 86 [])]⟩) ⟨List.prefix_rfl, List.prefix_append _ _⟩).elems;have h0 : SlR (H ++ [.rw (.agg 86 [])]) (fun i => i = H.length) 84 86 (.sl (.hp H.length) [] 0 ([] : List V).length (some ([] : List V).length) 84) [] := .blk _ _ _ (.inr rfl) rfl (by simp);by_cases hn : l = []
  ·subst hn;refine ⟨H ++ [.rw (.agg 86 [])], .sl (.hp H.length) [] 0 0 (some 0) 84, List.prefix_append _ _, fun L => ?_, .blk H.length (some 0) [] (.inr rfl) ⟨Nat.le_refl _, by simp⟩ (by simp)⟩;have key : ∀ base, aG base true 86 84 (.sl (.hp H.length) [] 0 0 (some 0) 84) (.sl a p o n c' 84) ⟨L, H ++ [.rw (.agg 86 [])]⟩ = some (.sl (.hp H.length) [] 0 0 (some 0) 84, ⟨L, H ++ [.rw (.agg 86 [])]⟩) := by
    intro base;unfold aG;have e1 : St.elems ⟨L, H ++ [.rw (.agg 86 [])]⟩ (.sl (.hp H.length) [] 0 0 (some 0) 84) = some [] := h0.elems L;have e3 : V.slIs 84 (.sl (.hp H.length) [] 0 0 (some 0) 84) = true := by simp [V.slIs]
    have e4 : V.elIs 84 (.sl a p o n c' 84) = true := by simp [V.elIs]
    rw [e1, hel1 L, e3, e4];rfl
   rw [ag eP rfl];simp only [go_sem, List.replicate_zero, key]
  ·refine ⟨H ++ [.rw (.agg 86 []), .rw (.agg 86 l)], .sl (.hp (H.length + 1)) [] 0 l.length none 84, List.prefix_append _ _, fun L => ?_, .blk _ none _ (.inl rfl) ⟨by omega, by simp⟩ (by simp)⟩;have key : ∀ base, aG base true 86 84 (.sl (.hp H.length) [] 0 0 (some 0) 84) (.sl a p o n c' 84) ⟨L, H ++ [.rw (.agg 86 [])]⟩ = some (.sl (.hp (H.length + 1)) [] 0 l.length none 84, ⟨L, H ++ [.rw (.agg 86 []), .rw (.agg 86 l)]⟩) := by
    intro base;have := uk (base := base) (h := true) (r := 86) (e := 84) (x := .sl (.hp H.length) [] 0 0 (some 0) 84) (old := []) (new := l) (s := ⟨L, H ++ [.rw (.agg 86 [])]⟩) (.inr ⟨_, _, _, _, _, rfl⟩) (.inr ⟨_, _, _, _, _, rfl⟩) (h0.elems L) (hel1 L) hn (by simpa using hm) (.inl rfl);rw [this];have hp0 : 0 < l.length := List.length_pos_iff.2 hn;simp only [ot, Option.map_some, List.length_nil, Nat.zero_add, hp0, decide_true, if_true];simp [St.fresh, St.new]
   rw [ag eP rfl];simp only [go_sem, List.replicate_zero, key]
theorem xX (c : Nat) : ∀ (n : Nat) (l : List Dn), flN c (l.drop n) = flN c l - n
 | 0, l => rfl
 | n + 1, [] => by simp [flN]
 | n + 1, d :: l => by
  rw [List.drop_succ_cons, xX c n l];simp only [flN];split
  ·rename_i h;rw [h];split <;> omega
  ·omega
theorem Dp {S : List Int} {l : List Dn} {q : Nat} (h : q < l.length) : an S (l.take (q + 1)) = (an S (l.take q)).set l[q].w l[q].v := by
 rw [List.take_succ_eq_append_getElem h, ki];rfl
section
variable {hp : List Blk} {k i N : Nat} {T : List V} {nw fl : V} {S : List Int} {l : List Dn} {sv : V} {G : Ft}
def lnB (k i : Nat) (T : List V) (hp : List Blk) (x : V) : List Blk := hp.set k (.rw (.agg 57 (T.set i x)))
theorem Rw (hk : k < hp.length) (hi : i < T.length) (h8 : S.length = 8) (hw : ∀ d ∈ l, d.w < 8) (hG : ¬ G k) {n : Nat} (hn : n ≤ l.length) (hl : l.length < 1000000) {v1 : V} (L : List Blk)
 (hr : ∀ hp' : List Blk, (∀ j, G j → hp'[j]? = hp[j]?) → ∀ L, RS ⟨L, hp'⟩ 84 v1 ((l.map Dn.v1).take n)) :
 rc D L.length (.loop [0, 1, 12, 13, 14] dX) [(0, .ptr (.hp k) [i] 55), (1, .int .i64 n), (12, v1), (13, .int .i64 n), (14, .int .i64 0)] ⟨L, lnB k i T hp (nlV nw (lnV S) sv fl)⟩ =
  some (.exit 0, [(0, .ptr (.hp k) [i] 55), (1, .int .i64 n), (12, v1), (13, .int .i64 n), (14, .int .i64 n), (15, .bool false)], ⟨L, lnB k i T hp (nlV nw (lnV (an S (l.take n))) sv fl)⟩) := by
 refine aZ (fun q : Nat => [(0, .ptr (.hp k) [i] 55), (1, .int .i64 n), (12, v1), (13, .int .i64 n), (14, .int .i64 q)]) (fun q => ⟨L, lnB k i T hp (nlV nw (lnV (an S (l.take q))) sv fl)⟩) (fun _ => _) (fun q => n - q) (fun q => q ≤ n) 0 ?_ (by omega) rfl rfl;intro q hq;by_cases c1 : q < n
 ·left;have hql : q < l.length := by omega
  have d1 : (q : Int) < n := by omega
  have d4 : IntKind.i64.wrap ((q : Int) + 1) = (q : Int) + 1 := al (by omega) (by omega);have hb : (an S (l.take q)).length = 8 := by rw [lK]; exact h8
  have hwq := hw _ (List.getElem_mem hql);have hrs := fun L => hr (lnB k i T hp (nlV nw (lnV (an S (l.take q))) sv fl)) (fun j hj => List.getElem?_set_ne (fun e => hG (by rw [e]; exact hj))) L;have hg : ((l.map Dn.v1).take n)[q]? = some (l[q].v1) := by rw [List.getElem?_take, if_pos c1, List.getElem?_map, List.getElem?_eq_getElem hql]; rfl
  have hsad := (hrs []).sadq hg (k := .i64);have hld : ∀ L t p, ldv ⟨L, lnB k i T hp (nlV nw (lnV (an S (l.take q))) sv fl)⟩ t (elq v1 q p t) = V.at p (l[q].v1) := fun L t p => (hrs L).ldq hg;have hvl : v1.locLt L.length = true := (hrs L).locLt;have hset : (lnB k i T hp (nlV nw (lnV (an S (l.take q))) sv fl))[k]? = some (.rw (.agg 57 (T.set i (nlV nw (lnV (an S (l.take q))) sv fl)))) := List.getElem?_set_self hk;have hti : ∀ x, (T.set i x)[i]? = some x := fun x => List.getElem?_set_self hi;refine ⟨q + 1, by omega, by omega, rfl, ?_⟩;rw [Dp hql];generalize an S (l.take q) = su at *;generalize l[q] = d at *;have gw : (su.map (V.int .u64))[d.w]? = some (.int .u64 (su.getD d.w 0)) := bh (by omega) 0;have e2 : lnB k i T hp (nlV nw (lnV (su.set d.w d.v)) sv fl) = (lnB k i T hp (nlV nw (lnV su) sv fl)).set k (.rw (.agg 57 ((T.set i (nlV nw (lnV su) sv fl)).set i (nlV nw (lnV (su.set d.w d.v)) sv fl)))) := by
   unfold lnB; rw [List.set_set, List.set_set]
  rw [e2];have w1 : (0 : Int) ≤ d.w := by omega
  have w2 : (d.w : Int) < 8 := by omega
  simp only [Dn.v1, rB, nlV, lnV, List.map_set] at *;generalize lnB k i T hp (V.agg 55 [nw, .agg 24 (su.map (V.int .u64)), sv, fl]) = H at *;simp only [go_sem, dX, d1, hsad, hld];simp only [go_sem, hset, hti, w1, w2, Int.toNat_natCast, gw, d4, hvl];rfl
 ·right;have : q = n := by omega
  subst this;have d1 : ¬ (q : Int) < q := by omega
  simp only [go_sem, dX, d1]
def flM (l : List Dn) (n q : Nat) : V := .agg 50 (tab 8 fun c => .int .i64 (if c < q then ((flN c l - n : Nat) : Int) else (flN c l : Nat)))
theorem SW (hk : k < hp.length) (hi : i < T.length) {n : Nat} (hl : l.length < 1000000) (hn : n < 1000000) (x1 x2 x3 : V) (L : List Blk) :
 rc D L.length (.loop [0, 1, 37] dY) [(0, .ptr (.hp k) [i] 55), (1, .int .i64 n), (37, .int .i64 0)] ⟨L, lnB k i T hp (nlV x1 x2 x3 (flM l n 0))⟩ =
  some (.exit 2, [(0, .ptr (.hp k) [i] 55), (1, .int .i64 n), (37, .int .i64 8), (38, .bool false)], ⟨L, lnB k i T hp (nlV x1 x2 x3 (flM l n 8))⟩) := by
 have hfl : ∀ c, flN c l ≤ l.length := fun c => by
  clear hl
  induction l with
  | nil => exact Nat.le_refl _
  | cons d l ih => simp only [flN, List.length_cons]; split <;> (try split) <;> omega
 refine aZ (fun q : Nat => [(0, .ptr (.hp k) [i] 55), (1, .int .i64 n), (37, .int .i64 q)]) (fun q => ⟨L, lnB k i T hp (nlV x1 x2 x3 (flM l n q))⟩) (fun _ => _) (fun q => 8 - q) (fun q => q ≤ 8) 0 ?_ (by omega) rfl rfl;intro q hq;by_cases c1 : q < 8
 ·left;have d1 : (q : Int) < 8 := by omega
  have d2 : (0 : Int) ≤ q := by omega
  have d4 : IntKind.i64.wrap ((q : Int) + 1) = (q : Int) + 1 := al (by omega) (by omega);have hq2 := hfl q;have d5 : IntKind.i64.wrap (((flN q l : Nat) : Int) - (n : Int)) = ((flN q l : Nat) : Int) - n := al (by omega) (by omega);have hset : (lnB k i T hp (nlV x1 x2 x3 (flM l n q)))[k]? = some (.rw (.agg 57 (T.set i (nlV x1 x2 x3 (flM l n q))))) := List.getElem?_set_self hk;have hti : ∀ x, (T.set i x)[i]? = some x := fun x => List.getElem?_set_self hi;have g := aq (f := fun c => V.int .i64 (if c < q then ((flN c l - n : Nat) : Int) else (flN c l : Nat))) c1
  rw [if_neg (by omega)] at g;have hs : (tab 8 fun c => V.int .i64 (if c < q then ((flN c l - n : Nat) : Int) else (flN c l : Nat))).set q (.int .i64 ((flN q l - n : Nat) : Int)) = tab 8 fun c => V.int .i64 (if c < q + 1 then ((flN c l - n : Nat) : Int) else (flN c l : Nat)) := by
   rw [cf];apply aR;intro c _;unfold upd;by_cases e : c = q
   ·subst e; rw [if_pos rfl, if_pos (by omega)]
   ·rw [if_neg e];by_cases h : c < q
    ·show V.int .i64 _ = V.int .i64 _;rw [if_pos h, if_pos (by omega)]
    ·show V.int .i64 _ = V.int .i64 _;rw [if_neg h, if_neg (by omega)]
  have e2 : lnB k i T hp (nlV x1 x2 x3 (flM l n (q + 1))) = (lnB k i T hp (nlV x1 x2 x3 (flM l n q))).set k (.rw (.agg 57 ((T.set i (nlV x1 x2 x3 (flM l n q))).set i (nlV x1 x2 x3 (flM l n (q + 1)))))) := by
   unfold lnB; rw [List.set_set, List.set_set]
  refine ⟨q + 1, by omega, by omega, rfl, ?_⟩;rw [e2];simp only [flM, nlV] at *;rw [← hs];generalize (tab 8 fun c => V.int .i64 (if c < q then ((flN c l - n : Nat) : Int) else (flN c l : Nat))) = TF at *
  generalize lnB k i T hp (V.agg 55 [x1, x2, x3, .agg 50 TF]) = H at *;have d7 : max (0 : Int) (((flN q l : Nat) : Int) - n) = ((flN q l - n : Nat) : Int) := by omega
  simp only [go_sem, dY, d1, d2, Int.toNat_natCast, hset, hti, g, d5, d7, d4];rfl
 ·right;have : q = 8 := by omega
  subst this;simp only [go_sem, dY]
end
end Go.Proofs.YtmimfopnhmmlbaaDoor
namespace Go.Proofs.YtmimfopnhmmlbaaDoor
open Go.Ab
def AM.sureN (M : AM) (i n : Nat) : AM := { M with S := upd M.S i (an (M.S i) ((M.L i).take n)), L := upd M.L i ((M.L i).drop n) }
theorem AM.now_sure {M : AM} {i n j : Nat} : (M.sureN i n).now j = M.now j := by
 unfold AM.now AM.sureN;simp only;by_cases e : j = i
 ·subst e; rw [aw, aw, ← ki, List.take_append_drop]
 ·rw [aH e, aH e]
theorem AM.Ok.sureN {M : AM} (h : M.Ok) {i n : Nat} : (M.sureN i n).Ok := by
 refine ⟨h.n0, h.n1, fun j hj => ?_, fun j hj d hd => ?_, h.c0, fun j hj => ?_, h.lf, h.lg⟩
 ·simp only [AM.sureN];by_cases e : j = i
  ·subst e; rw [aw, lK]; exact h.l8 j hj
  ·rw [aH e]; exact h.l8 j hj
 ·simp only [AM.sureN] at hd;by_cases e : j = i
  ·subst e; rw [aw] at hd; exact h.w8 j hj d (List.mem_of_mem_drop hd)
  ·rw [aH e] at hd; exact h.w8 j hj d hd
 ·simp only [AM.sureN];by_cases e : j = i
  ·subst e; rw [aw, List.length_drop]; have := h.len j hj; omega
  ·rw [aH e]; exact h.len j hj
theorem F9 (l : List Dn) (n : Nat) : flM l n 0 = flV l := by
 unfold flM flV;congr 1
theorem S7 (l : List Dn) (n : Nat) : flM l n 8 = flV (l.drop n) := by
 unfold flM flV;congr 1;apply aR;intro c hc;rw [if_pos hc, xX]
theorem Gl {n : Nat} {f : Nat → V} {j : Nat} (hj : j < n) : (tab n f).set j (f j) = tab n f := by
 rw [cf];apply aR;intro i _;unfold upd;split
 ·rename_i e; subst e; rfl
 ·rfl
theorem HA {hp : List Blk} {k : Nat} {b : Blk} (h : hp[k]? = some b) : hp.set k b = hp := by
 apply List.ext_getElem?;intro i;by_cases e : k = i
 ·subst e; rw [List.getElem?_set_self (aD h), h]
 ·rw [List.getElem?_set_ne e]
theorem uA {hp : List Blk} {F : Ft} {m : Nat} {M : AM} (h : cK hp F m M) (hc : M.count < 1000000) {k nn : Nat} {cp : Option Nat} {o b : Bool} {l c : Int} (hb : hp[m]? = some (.rw (cq k nn cp o b l c))) {j n : Nat} (hj : j < M.n) (hn : n ≤ (M.L j).length) (L : List Blk) :
 ∃ hp' F', rf D eZ [.ptr (.hp k) [j] 55, .int .i64 n] ⟨L, hp⟩ = some (.tup [], ⟨L, hp'⟩) ∧ cK hp' F' m (M.sureN j n) ∧ Chg hp hp' F F' ∧ hp'[m]? = hp[m]? := by
 obtain ⟨k', fk, ne, ⟨cp', left, h1, h2, h3⟩, sv, ow, h4, h5⟩ := h.mb;have hkk : k = k' := rP (Blk.rw.inj (Option.some.inj (hb.symm.trans h1)));subst hkk;have ok := h.ok;have hlen := ok.len j hj;have hkl := aD h4;have hml := aD h1;have hTl : (tab M.n fun i => plV (M.S i) (M.L i) (sv i)).length = M.n := eL _ _;have hX : hp = lnB k j (tab M.n fun i => plV (M.S i) (M.L i) (sv i)) hp (plV (M.S j) (M.L j) (sv j)) := by
  unfold lnB;rw [Gl (f := fun i => plV (M.S i) (M.L i) (sv i)) hj];exact (HA h4).symm
 obtain ⟨v1, v2, s1, s2, s3, s4⟩ := (h5 j hj).sub (n := n) (by rw [List.length_map]; exact hn);have hT : ∀ x, ((tab M.n fun i => plV (M.S i) (M.L i) (sv i)).set j x)[j]? = some x := fun x => List.getElem?_set_self (by rw [hTl]; exact hj);have hms := Rw (T := tab M.n fun i => plV (M.S i) (M.L i) (sv i)) (nw := lnV (an (M.S j) (M.L j))) (fl := flV (M.L j)) (sv := sv j) (G := fun x => F x ∧ x ≠ m ∧ x ≠ k ∧ ow x = j) hkl (by rw [hTl]; exact hj) (ok.l8 j hj) (ok.w8 j hj) (fun hh => hh.2.2.1 rfl) hn (by omega) (v1 := v1) L (fun hp' he L => (s3 hp' he L).1);have hG1 : ∀ x, F x ∧ x ≠ m ∧ x ≠ k ∧ ow x = j → (lnB k j (tab M.n fun i => plV (M.S i) (M.L i) (sv i)) hp (nlV (lnV (an (M.S j) (M.L j))) (lnV (an (M.S j) ((M.L j).take n))) (sv j) (flV (M.L j))))[x]? = hp[x]? := fun x hx => List.getElem?_set_ne (Ne.symm hx.2.2.1);obtain ⟨H2, v', p1, p2, p3⟩ := yG (H := lnB k j (tab M.n fun i => plV (M.S i) (M.L i) (sv i)) hp (nlV (lnV (an (M.S j) (M.L j))) (lnV (an (M.S j) ((M.L j).take n))) (sv j) (flV (M.L j)))) s4 (fun L => (s3 _ hG1 L).2) (by rw [← List.map_drop]; exact VX) (by rw [← List.map_drop, List.length_map, List.length_drop]; simp [eX]; omega);have hl1 : (lnB k j (tab M.n fun i => plV (M.S i) (M.L i) (sv i)) hp (nlV (lnV (an (M.S j) (M.L j))) (lnV (an (M.S j) ((M.L j).take n))) (sv j) (flV (M.L j)))).length = hp.length := List.length_set ..;have hH1k : (lnB k j (tab M.n fun i => plV (M.S i) (M.L i) (sv i)) hp (nlV (lnV (an (M.S j) (M.L j))) (lnV (an (M.S j) ((M.L j).take n))) (sv j) (flV (M.L j))))[k]? = _ := List.getElem?_set_self hkl;have hH2k := dN p1 hH1k;have hH2l := p1.length_le;have old2 : ∀ x, x < hp.length → x ≠ k → H2[x]? = hp[x]? := fun x hx hxk => by
  have : (lnB k j (tab M.n fun i => plV (M.S i) (M.L i) (sv i)) hp (nlV (lnV (an (M.S j) (M.L j))) (lnV (an (M.S j) ((M.L j).take n))) (sv j) (flV (M.L j))))[x]? = hp[x]? := List.getElem?_set_ne (Ne.symm hxk);rw [← this];have hlt : x < (lnB k j (tab M.n fun i => plV (M.S i) (M.L i) (sv i)) hp (nlV (lnV (an (M.S j) (M.L j))) (lnV (an (M.S j) ((M.L j).take n))) (sv j) (flV (M.L j)))).length := by rw [hl1]; exact hx
  rw [dN p1 (List.getElem?_eq_getElem hlt), List.getElem?_eq_getElem hlt]
 have hfl := SW (hp := H2) (k := k) (i := j) (T := tab M.n fun i => plV (M.S i) (M.L i) (sv i)) (l := M.L j) (by omega) (by rw [hTl]; exact hj) (n := n) (by omega) (by omega) (lnV (an (M.S j) (M.L j))) (lnV (an (M.S j) ((M.L j).take n))) v' L;rw [F9, S7] at hfl;have hst : H2.set k (.rw (.agg 57 (((tab M.n fun i => plV (M.S i) (M.L i) (sv i)).set j (nlV (lnV (an (M.S j) (M.L j))) (lnV (an (M.S j) ((M.L j).take n))) (sv j) (flV (M.L j)))).set j (nlV (lnV (an (M.S j) (M.L j))) (lnV (an (M.S j) ((M.L j).take n))) v' (flV (M.L j)))))) =
  lnB k j (tab M.n fun i => plV (M.S i) (M.L i) (sv i)) H2 (nlV (lnV (an (M.S j) (M.L j))) (lnV (an (M.S j) ((M.L j).take n))) v' (flV (M.L j))) := by unfold lnB; rw [List.set_set]
 have hfin : (lnB k j (tab M.n fun i => plV (M.S i) (M.L i) (sv i)) H2 (nlV (lnV (an (M.S j) (M.L j))) (lnV (an (M.S j) ((M.L j).take n))) v' (flV ((M.L j).drop n))))[m]? = hp[m]? := by
  unfold lnB;rw [List.getElem?_set_ne (Ne.symm ne)];exact old2 m hml ne
 refine ⟨lnB k j (tab M.n fun i => plV (M.S i) (M.L i) (sv i)) H2 (nlV (lnV (an (M.S j) (M.L j))) (lnV (an (M.S j) ((M.L j).take n))) v' (flV ((M.L j).drop n))), fun x => F x ∨ (hp.length ≤ x ∧ x < H2.length), ?_, ⟨ok.sureN, fun x hx => ?_, .inl h.fm, k, .inl fk, ne, ⟨cp', left, hfin.trans h1, h2, h3⟩, upd sv j v', fun x => if hp.length ≤ x then j else ow x, ?_, fun i hi => ?_⟩, ⟨?_, fun x hx hnx => ?_, fun x hx => ?_⟩, hfin⟩
 ·have hX2 : lnB k j (tab M.n fun i => plV (M.S i) (M.L i) (sv i)) hp (nlV (lnV (an (M.S j) (M.L j))) (lnV (M.S j)) (sv j) (flV (M.L j))) = hp := hX.symm;rw [hX2] at hms;have g := aq (f := fun i => plV (M.S i) (M.L i) (sv i)) hj;have g0 : plV (M.S j) (M.L j) (sv j) = .agg 55 [lnV (an (M.S j) (M.L j)), lnV (M.S j), sv j, flV (M.L j)] := rfl;rw [g0] at g;have ts := p3.tag;have tl := p3.lt;have hv1 := (s3 hp (fun _ _ => rfl) L).1;have hsl : V.slen false v1 = some n := by
   have := hv1.slen
   rwa [List.length_take, List.length_map, Nat.min_eq_left hn] at this
  clear hX hX2 p1 p3 hv1 h5;generalize lnB k j (tab M.n fun i => plV (M.S i) (M.L i) (sv i)) hp (nlV (lnV (an (M.S j) (M.L j))) (lnV (an (M.S j) ((M.L j).take n))) (sv j) (flV (M.L j))) = H1 at *;generalize (lnB k j (tab M.n fun i => plV (M.S i) (M.L i) (sv i)) H2 (nlV (lnV (an (M.S j) (M.L j))) (lnV (an (M.S j) ((M.L j).take n))) v' (flV (M.L j)))) = H3 at *;generalize (lnB k j (tab M.n fun i => plV (M.S i) (M.L i) (sv i)) H2 (nlV (lnV (an (M.S j) (M.L j))) (lnV (an (M.S j) ((M.L j).take n))) v' (flV ((M.L j).drop n)))) = H4 at *;generalize (tab M.n fun i => plV (M.S i) (M.L i) (sv i)) = T0 at *;generalize lnV (an (M.S j) ((M.L j).take n)) = w2 at *;generalize lnV (an (M.S j) (M.L j)) = w1 at *;generalize flV (M.L j) = w4 at *;simp only [nlV] at *;rw [ag pt rfl];simp only [go_sem, h4, g, s1, hsl, hms];simp only [go_sem, hH1k, hT, s2, p2];simp only [go_sem, hH2k, hT, ts, tl, hst, hfl]
 ·unfold lnB;rw [List.length_set];rcases hx with hx | hx
  ·have := h.inn x hx; omega
  ·exact hx.2
 ·unfold lnB;rw [List.getElem?_set_self (by omega), cf];congr 3;apply aR;intro i _;unfold upd;by_cases e : i = j
  ·subst e;simp only [if_true];unfold plV AM.sureN;simp only;rw [aw, aw, ← ki, List.take_append_drop]
  ·simp only [e, if_false];unfold AM.sureN;simp only;rw [aH e, aH e]
 ·unfold AM.sureN;simp only;by_cases e : i = j
  ·subst e;rw [aw, aw, List.map_drop];refine p3.more (fun x h1 h2 => ?_) fun x h1 h2 => ⟨.inr ⟨by rw [hl1] at h2; exact h2.1, h1⟩, by omega, by rw [hl1] at h2; omega, if_pos (by rw [hl1] at h2; exact h2.1)⟩;unfold lnB;rw [List.getElem?_set_ne (by rw [hl1] at h2; omega)]
  ·rw [aH e, aH e];refine (h5 i hi).more (fun x h1 h2 => ?_) fun x h1 h2 => ⟨.inl h2.1, h2.2.1, h2.2.2.1, (if_neg (by omega)).trans h2.2.2.2⟩;unfold lnB;rw [List.getElem?_set_ne (Ne.symm h2.2.2.1)];exact old2 x h1 h2.2.2.1
 ·unfold lnB; rw [List.length_set]; omega
 ·unfold lnB;rw [List.getElem?_set_ne (fun e => hnx (by rw [← e]; exact fk))];exact old2 x hx (fun e => hnx (by rw [e]; exact fk))
 ·rcases hx with hx | hx
  ·exact .inl hx
  ·exact .inr hx.1
end Go.Proofs.YtmimfopnhmmlbaaDoor
namespace Go.Proofs.YtmimfopnhmmlbaaDoor
open Go.Ab
def AM.fencedTo (M : AM) (c : Nat) : Nat → AM
 | 0 => M
 | i + 1 => (M.fencedTo c i).sureN i (flN c ((M.fencedTo c i).L i))
theorem AH {M : AM} {i : Nat} : M.sureN i 0 = M := by
 obtain ⟨n, S, L, off, left, count⟩ := M;unfold AM.sureN;simp only [List.take_zero, List.drop_zero, an];congr 1
 ·funext j; unfold upd; split
  ·rename_i e; subst e; rfl
  ·rfl
 ·funext j; unfold upd; split
  ·rename_i e; subst e; rfl
  ·rfl
theorem ir {M : AM} {c : Nat} : ∀ i, (M.fencedTo c i).n = M.n ∧ (M.fencedTo c i).count = M.count ∧ (M.fencedTo c i).off = M.off ∧ (M.fencedTo c i).left = M.left
 | 0 => ⟨rfl, rfl, rfl, rfl⟩
 | i + 1 => ir i
theorem q8 {M : AM} (h : M.Ok) {c : Nat} : ∀ i, (M.fencedTo c i).Ok
 | 0 => h
 | i + 1 => (q8 h i).sureN
theorem qb {M : AM} {c j : Nat} : ∀ i, (M.fencedTo c i).now j = M.now j
 | 0 => rfl
 | i + 1 => by simp only [AM.fencedTo]; rw [AM.now_sure]; exact qb i
def AM.fence (M : AM) (c : Int) : AM × Int := if c < 0 ∨ 8 ≤ c then (M, 1) else if M.dead then (M.out, 4) else (M.stepped.fencedTo c.toNat M.n, 0)
theorem Ec (c : Nat) : ∀ l : List Dn, flN c l ≤ l.length
 | [] => Nat.le_refl _
 | d :: l => by
  have := Ec c l;simp only [flN, List.length_cons];split <;> (try split) <;> omega
theorem oW {m k cI : Nat} (hcI : cI < 8) {M : AM} (hc : M.count < 1000000) (hn : M.n ≤ 1024) (L : List Blk) : ∀ (n i : Nat) {hp : List Blk} {F : Ft}, i + n = M.n → cK hp F m (M.fencedTo cI i) →
 (∃ nn cp o b l c, hp[m]? = some (.rw (cq k nn cp o b l c))) →
 ∃ hp' F', rc D L.length (.loop [0, 1, 23, 24] c9) [(0, .ptr (.hp m) [] 59), (1, .int .i64 cI), (23, .int .i64 M.n), (24, .int .i64 i)] ⟨L, hp⟩ =
  some (.exit 0, [(0, .ptr (.hp m) [] 59), (1, .int .i64 cI), (23, .int .i64 M.n), (24, .int .i64 M.n), (25, .bool false)], ⟨L, hp'⟩) ∧ cK hp' F' m (M.fencedTo cI M.n) ∧ Chg hp hp' F F'
 | 0, i, hp, F, hi, h, _ => by
  have : i = M.n := by omega
  subst this;refine ⟨hp, F, ?_, h, .refl _ _⟩;have d1 : ¬ (M.n : Int) < M.n := by omega
  rw [au];simp only [go_sem, c9, d1]
 | n + 1, i, hp, F, hi, h, hb => by
  have hM := h;obtain ⟨nn, cp0, o, b, l, c, hb⟩ := hb;obtain ⟨k', fk, ne, ⟨cp, left, h1, h2, h3⟩, sv, ow, h4, h5⟩ := h.mb;have hkk : k = k' := rP (Blk.rw.inj (Option.some.inj (hb.symm.trans h1)));subst hkk;have en := (ir (M := M) (c := cI) i).1;have ec := (ir (M := M) (c := cI) i).2.1;rw [en] at h4 h1;have hj : i < M.n := by omega
  have g := aq (f := fun q => plV ((M.fencedTo cI i).S q) ((M.fencedTo cI i).L q) (sv q)) hj;have g0 : plV ((M.fencedTo cI i).S i) ((M.fencedTo cI i).L i) (sv i) = .agg 55 [lnV (an ((M.fencedTo cI i).S i) ((M.fencedTo cI i).L i)), lnV ((M.fencedTo cI i).S i), sv i, .agg 50 (tab 8 fun c => .int .i64 (flN c ((M.fencedTo cI i).L i) : Nat))] := rfl;rw [g0] at g;have gf := aq (f := fun c => V.int .i64 (flN c ((M.fencedTo cI i).L i) : Nat)) hcI;have d1 : (i : Int) < M.n := by omega
  have d2 : (cI : Int) < 8 := by omega
  have d3 : (0 : Int) ≤ cI := by omega
  have d4 : IntKind.i64.wrap ((i : Int) + 1) = ((i + 1 : Nat) : Int) := al (by omega) (by omega);have hsad : ef 55 (.sl (.hp k) [] 0 M.n cp 55) (.int .i64 (i : Int)) = some (.ptr (.hp k) [i] 55) := by simp [go_sem, hj]
  by_cases hz : flN cI ((M.fencedTo cI i).L i) = 0
  ·have e : M.fencedTo cI (i + 1) = M.fencedTo cI i := by simp only [AM.fencedTo]; rw [hz, AH]
   obtain ⟨hp', F', r1, r2, r3⟩ := oW hcI hc hn L n (i + 1) (by omega) (by rw [e]; exact hM) ⟨_, _, _, _, _, _, hb⟩;refine ⟨hp', F', ?_, r2, r3⟩;rw [← r1, au];rw [hz] at gf;have d5 : ¬ ((0 : Nat) : Int) > 0 := by omega
   simp only [cq] at h1;generalize (tab 8 fun c => V.int .i64 (flN c ((M.fencedTo cI i).L i) : Nat)) = TF at *;generalize (tab M.n fun q => plV ((M.fencedTo cI i).S q) ((M.fencedTo cI i).L q) (sv q)) = T0 at *;simp only [go_sem, c9, d1, h1, hsad, h4, g, d2, d3, Int.toNat_natCast, gf, d5, d4]
  ·obtain ⟨hp1, F1, s1, s2, s3, s4⟩ := uA hM (by rw [ec]; exact hc) hb (j := i) (n := flN cI ((M.fencedTo cI i).L i)) (by rw [en]; exact hj) (Ec _ _) L;obtain ⟨hp', F', r1, r2, r3⟩ := oW hcI hc hn L n (i + 1) (by omega) (F := F1) (hp := hp1) s2 ⟨_, _, _, _, _, _, s4.trans hb⟩;refine ⟨hp', F', ?_, r2, s3.trans r3⟩;rw [← r1, au];have d5 : ((flN cI ((M.fencedTo cI i).L i) : Nat) : Int) > 0 := by omega
   simp only [cq] at h1;generalize (tab 8 fun c => V.int .i64 (flN c ((M.fencedTo cI i).L i) : Nat)) = TF at *;generalize (tab M.n fun q => plV ((M.fencedTo cI i).S q) ((M.fencedTo cI i).L q) (sv q)) = T0 at *;generalize flN cI ((M.fencedTo cI i).L i) = fz at *;simp only [go_sem, c9, d1, h1, hsad, h4, g, d2, d3, Int.toNat_natCast, gf, d5, d4, s1]
theorem rm {hp : List Blk} {F : Ft} {m : Nat} {M : AM} (h : cK hp F m M) (hc : M.count + 1 < 1000000) (c : Int) (L : List Blk) :
 ∃ hp' F', rf D cO [.ptr (.hp m) [] 59, .int .i64 c] ⟨L, hp⟩ = some (.int .i64 (M.fence c).2, ⟨L, hp'⟩) ∧ cK hp' F' m (M.fence c).1 ∧ Chg hp hp' F F' := by
 unfold AM.fence;by_cases hq : c < 0 ∨ 8 ≤ c
 ·rw [if_pos hq];refine ⟨hp, F, ?_, h, .refl _ _⟩;rw [ag i6 rfl];by_cases hq0 : c < 0
  ·simp only [go_sem, hq0]
  ·have hq8 : c ≥ 8 := by omega
   simp only [go_sem, hq0, hq8]
 ·rw [if_neg hq];obtain ⟨p, rfl⟩ : ∃ p : Nat, c = p := ⟨c.toNat, by omega⟩;rw [Int.toNat_natCast];have d1 : ¬ (p : Int) < 0 := by omega
  have d2 : ¬ (p : Int) ≥ 8 := by omega
  obtain ⟨hp1, s1, s2, s3, s4⟩ := sZ h (by omega);unfold AM.stpE at s1;unfold AM.stp at s2;by_cases hd : M.dead = true
  ·rw [if_pos hd];rw [hd, if_pos rfl] at s1 s2;refine ⟨hp1, F, ?_, s2, s3⟩;rw [ag i6 rfl];simp only [go_sem, d1, d2, s1]
  ·have hdf : M.dead = false := by simpa using hd
   rw [if_neg hd];rw [hdf, if_neg (by simp)] at s1 s2;have hM1 := s2;obtain ⟨k', fk', ne', ⟨cp', left', q1, q2, q3⟩, sv, ow, q4, q5⟩ := s2.mb;have hs : M.stepped.count < 1000000 := by simp only [AM.stepped]; exact hc
   obtain ⟨hp', F', r1, r2, r3⟩ := oW (m := m) (k := k') (cI := p) (by omega) hs hM1.ok.n1 L M.stepped.n 0 (by omega) (hp := hp1) (F := F) hM1 ⟨_, _, _, _, _, _, q1⟩;refine ⟨hp', F', ?_, r2, s3.trans r3⟩;have e1 : M.stepped.n = M.n := rfl;rw [e1] at r1 q1;rw [show ((0 : Nat) : Int) = 0 from rfl] at r1
   simp only [cq] at q1;rw [ag i6 rfl];simp only [go_sem, d1, d2, s1, q1];simp only [go_sem, r1]
end Go.Proofs.YtmimfopnhmmlbaaDoor
namespace Go.Proofs.YtmimfopnhmmlbaaDoor
open Go.Ab
theorem to (n a b : Int) (s : St) : rf D bI [.int .i64 n, .int .i64 a, .int .i64 b] s = some (.bool (win n a b), s) := by
 unfold win;rw [ag uq rfl];by_cases h1 : a ≤ n
 ·have h1' : n ≥ a := h1;simp only [go_sem, h1, h1', decide_true]
 ·have h1' : ¬ n ≥ a := h1;simp only [go_sem, h1, h1', decide_false]
structure Sup where
 gen : Int
 root : Int
 seq : Int
 cores : Int
def Sup.v (b : Sup) : V := .agg 44 [.int .i64 b.gen, .int .i64 b.root, .int .i64 b.seq, .int .i64 b.cores]
def Sup.ok (b : Sup) : Bool := win b.gen 1 1099511627776 && (win b.root 0 1023 && (win b.seq 0 1099511627776 && win b.cores 1 8))
def BV (b : Sup) : List Int := [1526644958, IntKind.u64.wrap b.gen, IntKind.u64.wrap b.root, IntKind.u64.wrap b.seq, IntKind.u64.wrap b.cores, 0, 0, 0]
def dR (b : Sup) : List Int := if b.ok = true then o5 (BV b) else zl
theorem xj (b : Sup) : (dR b).length = 8 := by
 unfold dR;split
 ·rw [pU]; rfl
 ·rfl
theorem vq (b : Sup) (s : St) : rf D jU [b.v] s = some (.tup [lnV (dR b), .int .i64 (if b.ok = true then 0 else 1)], s) := by
 have h := to;have hz : (zl.map (V.int .u64)) = List.replicate 8 (.int .u64 0) := rfl;have hrep : List.replicate 8 (V.int .u64 0) = [.int .u64 0, .int .u64 0, .int .u64 0, .int .u64 0, .int .u64 0, .int .u64 0, .int .u64 0, .int .u64 0] := rfl;have hseal := fun s => ni (l := BV b) rfl s;obtain ⟨g, r, q, c⟩ := b;unfold dR Sup.ok;simp only [Sup.v, BV, lnV, List.map_cons, List.map_nil] at *;generalize hA : win g 1 1099511627776 = A;generalize hB : win r 0 1023 = B;generalize hC : win q 0 1099511627776 = C;generalize hE : win c 1 8 = E;rw [ag xN rfl];cases A
 ·simp only [go_sem, h, hA, hz]
 ·cases B
  ·simp only [go_sem, h, hA, hB, hz]
  ·cases C
   ·simp only [go_sem, h, hA, hB, hC, hz]
   ·cases E
    ·simp only [go_sem, h, hA, hB, hC, hE, hz]
    ·simp only [go_sem, h, hA, hB, hC, hE];simp only [go_sem, hrep, hseal]
def AM.wrs (M : AM) (slot : Int) (b : Sup) : AM × Int :=
 if b.ok = false ∨ (slot ≠ 0 ∧ slot ≠ 1) then (M, 1) else
 if (M.store slot 7 0).2 ≠ 0 then M.store slot 7 0 else
 let r := (M.store slot 7 0).1.layFrom slot (dR b) 0 8
 if r.2 ≠ 0 then r else
 if (r.1.flush 0 slot).2 ≠ 0 then r.1.flush 0 slot else (r.1.flush 0 slot).1.fence 0
section
variable {m : Nat}
theorem wx {l : List Int} (hl : l.length = 8) {at' : Int} {L : List Blk} {base : Nat} (hL : (L.drop base).all (bG L.length) = true) : ∀ (n j : Nat) {hp : List Blk} {Fm : Ft} {M : AM}, j + n = 8 → cK hp Fm m M → M.count + n < 1000000 →
 ∃ hp' Fm' r, rc D base (.loop [0, 1, 2, 37, 38] fV) [(0, .ptr (.hp m) [] 59), (1, .int .i64 0), (2, .int .i64 at'), (37, lnV l), (38, .int .i64 j)] ⟨L, hp⟩ = some r ∧
  cK hp' Fm' m (M.layFrom at' l j n).1 ∧ Chg hp hp' Fm Fm' ∧
  (((M.layFrom at' l j n).2 = 0 ∧ r = (.exit 0, [(0, .ptr (.hp m) [] 59), (1, .int .i64 0), (2, .int .i64 at'), (37, lnV l), (38, .int .i64 8), (39, .bool false)], ⟨L, hp'⟩)) ∨
   ((M.layFrom at' l j n).2 ≠ 0 ∧ r = (.ret, [(8, .int .i64 (M.layFrom at' l j n).2)], ⟨L, hp'⟩)))
 | 0, j, hp, Fm, M, hj, h, _ => by
  have : j = 8 := by omega
  subst this;refine ⟨hp, Fm, _, ?_, h, .refl _ _, .inl ⟨rfl, rfl⟩⟩;rw [au];simp only [lnV];simp only [go_sem, fV]
 | n + 1, j, hp, Fm, M, hj, h, hc => by
  obtain ⟨hp1, Fm1, e1, e2, e3⟩ := jD h (by omega) at' j (l.getD j 0) L;have hcn := AM.store_count (M := M) (i := at') (q := j) (v := l.getD j 0);have d1 : (j : Int) < 8 := by omega
  have d2 : (0 : Int) ≤ j := by omega
  have d4 : IntKind.i64.wrap ((j : Int) + 1) = ((j + 1 : Nat) : Int) := al (by omega) (by omega);have g := bh (f := V.int .u64) (l := l) (i := j) (by omega) 0;simp only [AM.layFrom];by_cases he : (M.store at' j (l.getD j 0)).2 = 0
  ·rw [if_neg fun hh => hh he];obtain ⟨hp2, Fm2, r, q1, q2, q3, q4⟩ := wx hl hL n (j + 1) (by omega) e2 (by omega);refine ⟨hp2, Fm2, r, ?_, q2, e3.trans q3, q4⟩;rw [← q1, au];rw [he] at e1;simp only [lnV] at *;generalize l.getD j 0 = wd at *;simp only [go_sem, fV, d1, d2, Int.toNat_natCast, g, e1, d4, hL]
  ·rw [if_pos he];refine ⟨hp1, Fm1, _, ?_, e2, e3, .inr ⟨he, rfl⟩⟩;rw [au];simp only [lnV] at *;generalize l.getD j 0 = wd at *;simp only [go_sem, fV, d1, d2, Int.toNat_natCast, g, e1, he]
theorem kJ {M : AM} {c i : Int} : (M.flush c i).1.count ≤ M.count + 1 ∧ (M.flush c i).1.n = M.n := by
 unfold AM.flush;split
 ·exact ⟨by simp only; omega, rfl⟩
 ·split
  ·exact ⟨by simp only [AM.out]; omega, rfl⟩
  ·exact ⟨by simp only [AM.flushed, AM.stepped]; omega, rfl⟩
theorem yw {hp : List Blk} {F : Ft} {M : AM} (h : cK hp F m M) (hc : M.count + 12 < 1000000) (slot : Int) (b : Sup) (L : List Blk) :
 ∃ hp' F', rf D jH [.ptr (.hp m) [] 59, .int .i64 0, .int .i64 slot, b.v] ⟨L, hp⟩ = some (.int .i64 (M.wrs slot b).2, ⟨L, hp'⟩) ∧ cK hp' F' m (M.wrs slot b).1 ∧ Chg hp hp' F F' := by
 have hln := fun s => vq b s;have hlen := xj b;unfold AM.wrs;by_cases hb : b.ok = false
 ·rw [if_pos (.inl hb)];refine ⟨hp, F, ?_, h, .refl _ _⟩;rw [hb, if_neg (by simp)] at hln;simp only [Sup.v, lnV] at *;rw [ag fF rfl];simp only [go_sem, hln]
 ·have hb' : b.ok = true := by simpa using hb
  rw [hb', if_pos rfl] at hln;by_cases hs : slot ≠ 0 ∧ slot ≠ 1
  ·rw [if_pos (.inr hs)];refine ⟨hp, F, ?_, h, .refl _ _⟩;have h0 := hs.1;have h1 := hs.2;simp only [Sup.v, lnV] at *;rw [ag fF rfl];simp only [go_sem, hln, h0, h1]
  ·rw [if_neg (by intro hh; rcases hh with hh | hh; exact hb hh; exact hs hh)];obtain ⟨hp1, F1, e1, e2, e3⟩ := jD h (by omega) slot 7 0 (L ++ [.rw b.v, .rw (lnV (dR b))]);have c1 := AM.store_count (M := M) (i := slot) (q := 7) (v := 0);have hsl : slot = 0 ∨ slot = 1 := by omega
   by_cases he1 : (M.store slot 7 0).2 = 0
   ·rw [if_neg (by simp [he1])];obtain ⟨hp2, F2, r, q1, q2, q3, q4⟩ := wx (m := m) hlen (at' := slot) (L := L ++ [.rw b.v, .rw (lnV (dR b))]) (base := L.length) (by simp only [Sup.v, lnV]; simp only [go_sem]) 8 0 rfl e2 (by omega);have c2 := AM.layFrom_count (M := (M.store slot 7 0).1) (at' := slot) (l := dR b) (n := 8) (j := 0);simp only;by_cases he2 : ((M.store slot 7 0).1.layFrom slot (dR b) 0 8).2 = 0
    ·rw [if_neg (by simp [he2])];rcases q4 with ⟨_, rfl⟩ | ⟨z, _⟩
     ·obtain ⟨hp3, r1, r2, r3⟩ := ru q2 (by omega) 0 slot (L ++ [.rw b.v, .rw (lnV (dR b))]);have c3 := (kJ (M := ((M.store slot 7 0).1.layFrom slot (dR b) 0 8).1) (c := 0) (i := slot)).1;by_cases he3 : (((M.store slot 7 0).1.layFrom slot (dR b) 0 8).1.flush 0 slot).2 = 0
      ·rw [if_neg (by simp [he3])];obtain ⟨hp4, F4, s1, s2, s3⟩ := rm r2 (by omega) 0 (L ++ [.rw b.v, .rw (lnV (dR b))]);refine ⟨hp4, F4, ?_, s2, ((e3.trans q3).trans r3).trans s3⟩;rw [show ((0 : Nat) : Int) = 0 from rfl] at q1
       rw [he1] at e1;rw [he3] at r1;generalize ((((M.store slot 7 0).1.layFrom slot (dR b) 0 8).1.flush 0 slot).1.fence 0) = fz at *;generalize dR b = sl at *;simp only [Sup.v, lnV] at *;rw [ag fF rfl];rcases hsl with rfl | rfl
       ·simp only [go_sem, hln, e1];simp only [go_sem, q1, r1, s1]
       ·simp only [go_sem, hln, e1];simp only [go_sem, q1, r1, s1]
      ·rw [if_pos he3];refine ⟨hp3, F2, ?_, r2, (e3.trans q3).trans r3⟩;rw [show ((0 : Nat) : Int) = 0 from rfl] at q1
       rw [he1] at e1;generalize (((M.store slot 7 0).1.layFrom slot (dR b) 0 8).1.flush 0 slot) = fz at *;generalize dR b = sl at *;simp only [Sup.v, lnV] at *;rw [ag fF rfl];rcases hsl with rfl | rfl
       ·simp only [go_sem, hln, e1];simp only [go_sem, q1, r1, he3]
       ·simp only [go_sem, hln, e1];simp only [go_sem, q1, r1, he3]
     ·exact absurd he2 z
    ·rw [if_pos he2];rcases q4 with ⟨z, _⟩ | ⟨_, rfl⟩
     ·exact absurd z he2
     ·refine ⟨hp2, F2, ?_, q2, e3.trans q3⟩;rw [show ((0 : Nat) : Int) = 0 from rfl] at q1
      rw [he1] at e1;generalize ((M.store slot 7 0).1.layFrom slot (dR b) 0 8) = fz at *;generalize dR b = sl at *;simp only [Sup.v, lnV] at *;rw [ag fF rfl];rcases hsl with rfl | rfl
      ·simp only [go_sem, hln, e1];simp only [go_sem, q1]
      ·simp only [go_sem, hln, e1];simp only [go_sem, q1]
   ·rw [if_pos he1];refine ⟨hp1, F1, ?_, e2, e3⟩;generalize (M.store slot 7 0) = fz at *;generalize dR b = sl at *;simp only [Sup.v, lnV] at *;rw [ag fF rfl];rcases hsl with rfl | rfl
    ·simp only [go_sem, hln, e1, he1]
    ·simp only [go_sem, hln, e1, he1]
end
end Go.Proofs.YtmimfopnhmmlbaaDoor
namespace Go.Proofs.YtmimfopnhmmlbaaDoor
open Go.Ab
structure AW where
 x : AS
 b : Sup
 slot : Int
 st : List (Nat × Int)
 seq : Int
 tbl : Nat → Ent
 dir : Nat → Int
def rM : Nat → Nat
 | 0 => bM
 | 1 => dD
 | 2 => dC
 | 3 => dk
 | _ => cP
def bx (p : Nat × Int) : V := .agg 47 [.fn (rM p.1) [], .int .i64 p.2]
def wkV (m a : Nat) (sv : V) (w : AW) : V := .agg 61 [.ptr (.hp m) [] 59, .ptr (.hp a) [] 43, w.b.v, .int .i64 w.slot, sv, .int .i64 w.seq, af w.tbl, aO w.dir]
inductive StR (hp : List Blk) (G : Ft) : V → List (Nat × Int) → Prop where
 | nil : StR hp G .nils []
 | sl (a off : Nat) (K : List V) (l : List (Nat × Int)) (hb : hp[a]? = some (.rw (.agg 63 K))) (hG : G a) (hk : ∀ (j : Nat) x, (l.map bx)[j]? = some x → K[off + j]? = some x) : StR hp G (.sl (.hp a) [] off l.length none 47) l
theorem DM : ∀ l : List (Nat × Int), V.locLts 0 (l.map bx) = true
 | [] => rfl
 | p :: l => by
  have h : V.locLt 0 (bx p) = true := by simp only [bx]; simp only [go_sem]
  simp only [List.map_cons, V.locLts, h, DM l, Bool.and_self]
section
variable {hp hp' : List Blk} {G G' : Ft} {v : V} {l : List (Nat × Int)}
theorem StR.eqv (h : StR hp G v l) (he : Eqv hp hp' G) : StR hp' G v l := by
 cases h with
 | nil => exact .nil
 | sl a off K l hb hG hk => exact .sl a off K l (by rw [he a hG]; exact hb) hG hk
theorem StR.rs (h : StR hp G v l) (L : List Blk) : RS ⟨L, hp⟩ 47 v (l.map bx) := by
 cases h with
 | nil => exact .inl ⟨rfl, rfl⟩
 | sl a off K l hb hG hk =>
  exact .inr ⟨_, _, _, _, by rw [List.length_map], fun c hc => (by cases hc), rfl, .inr ⟨63, K, by rw [kx, hb]; rfl, hk⟩⟩
theorem StR.slen (h : StR hp G v l) : V.slen false v = some l.length := by cases h <;> rfl
theorem StR.lt (h : StR hp G v l) : V.locLt 0 v = true := by cases h <;> rfl
theorem StR.tag (h : StR hp G v l) : v.tag = 1 := by cases h <;> rfl
theorem StR.shape (h : StR hp G v l) : v = .nils ∨ ∃ a p o n c, v = .sl a p o n c 47 := by
 cases h with
 | nil => exact .inl rfl
 | sl => exact .inr ⟨_, _, _, _, _, rfl⟩
theorem StR.push (h : StR hp G v l) {L : List Blk} {y : V} {l2 : List (Nat × Int)} (hy : y = .nils ∨ ∃ a p o n c, y = .sl a p o n c 47) (hyl : St.elems ⟨L, hp⟩ y = some (l2.map bx)) (hn : l2 ≠ []) (hm : l.length + l2.length < 1000) (base : Nat) :
 ∃ hp', aG base true 63 47 v y ⟨L, hp⟩ = some (.sl (.hp hp.length) [] 0 (l ++ l2).length none 47, ⟨L, hp'⟩) ∧ StR hp' (.one hp.length) (.sl (.hp hp.length) [] 0 (l ++ l2).length none 47) (l ++ l2) ∧ Chg hp hp' G (.one hp.length) ∧ hp'.length = hp.length + 1 := by
 have hel := (h.rs L).elems;have hlt : 47 % 2 = 0 ∨ ap true (.agg 1 (l.map bx ++ l2.map bx)) = true := .inr (by rw [← List.map_append]; simp only [sm, tJ, DM, Bool.or_true]);have key := uk (base := base) (h := true) (r := 63) h.shape hy hel hyl (by simpa using hn) (by simp [eX]; omega) hlt;have hnew : ∀ H : List Blk, H.length = hp.length → (∀ j, j < hp.length → ¬ G j → H[j]? = hp[j]?) →
  ∃ hp', some (V.sl (.hp H.length) [] 0 ((l.map bx).length + (l2.map bx).length) none 47, (⟨L, H ++ [.rw (.agg 63 (l.map bx ++ l2.map bx))]⟩ : St)) = some (.sl (.hp hp.length) [] 0 (l ++ l2).length none 47, ⟨L, hp'⟩) ∧ StR hp' (.one hp.length) (.sl (.hp hp.length) [] 0 (l ++ l2).length none 47) (l ++ l2) ∧ Chg hp hp' G (.one hp.length) ∧ hp'.length = hp.length + 1 := by
  intro H hH ho;refine ⟨H ++ [.rw (.agg 63 (l.map bx ++ l2.map bx))], ?_, .sl hp.length 0 (l.map bx ++ l2.map bx) (l ++ l2) (by rw [← hH]; simp) rfl (fun j x hx => by rw [Nat.zero_add, ← List.map_append]; exact hx), ⟨by simp; omega, fun j hj hn => ?_, fun j hj => .inr (by cases hj; exact Nat.le_refl _)⟩, by simp [hH]⟩
  ·rw [hH]; simp
  ·rw [List.getElem?_append_left (by omega)]; exact ho j hj hn
 rw [key];cases h with
 | nil => exact hnew hp rfl fun _ _ _ => rfl
 | sl a off K l hb hG hk =>
  have hat : (⟨L, hp⟩ : St).at (.hp a) = some (.rw (.agg 63 K)) := hb;simp only [ot, Option.map_none, hat];rw [if_neg (by simp), if_pos trivial];simp only [zv, Pp];exact hnew (hp.set a .dead) (List.length_set ..) fun j hj hn => List.getElem?_set_ne fun e => hn (by rw [← e]; exact hG)
theorem StR.rest {p : Nat × Int} {l : List (Nat × Int)} (h : StR hp G v (p :: l)) : ∃ v', hJ 47 (some (.int .i64 1)) none none v = some v' ∧ StR hp G v' l := by
 cases h with
 | sl a off K l' hb hG hk =>
  refine ⟨.sl (.hp a) [] (off + 1) l.length none 47, ?_, .sl a (off + 1) K l hb hG fun j x hx => ?_⟩
  ·simp only [hJ, if_true, ak, aS, iZ, Option.isSome_none, Bool.false_eq_true, if_false, List.length_cons];rw [if_pos ⟨by omega, by simp; omega⟩];simp [aS, ms]
  ·have := hk (j + 1) x (by simpa using hx);rw [show off + 1 + j = off + (j + 1) by omega]; exact this
end
structure WkQ (hp : List Blk) (wk a m fr : Nat) (Fm Gs : Ft) (sv : V) (w : AW) : Prop where
 q : aU hp Fm a m fr w.x
 st : hp[wk]? = some (.rw (wkV m a sv w))
 sr : StR hp Gs sv w.st
 n1 : ¬ bZ a fr Fm wk
 n2 : kK Gs (bZ a fr Fm)
 n3 : ¬ Gs wk
 gz : ¬ Gs 0
 gi : Inn hp Gs
def WkF (wk a fr : Nat) (Fm Gs : Ft) : Ft := fun j => j = wk ∨ Gs j ∨ bZ a fr Fm j
section
variable {hp hp' : List Blk} {wk a m fr : Nat} {Fm Fm' Gs Gs' : Ft} {sv sv' : V} {w w' : AW}
theorem WkQ.inn (h : WkQ hp wk a m fr Fm Gs sv w) : Inn hp (WkF wk a fr Fm Gs) := fun j hj => by
 rcases hj with rfl | hj | hj
 ·exact aD h.st
 ·exact h.gi j hj
 ·exact h.q.inn j hj
theorem WkQ.setS (h : WkQ hp wk a m fr Fm Gs sv w) {x' : AS} (q : aU hp' Fm' a m fr x') (hc : Chg hp hp' (bZ a fr Fm) (bZ a fr Fm')) : WkQ hp' wk a m fr Fm' Gs sv { w with x := x' } := by
 have hwl := aD h.st;refine ⟨q, hc.get h.st h.n1, h.sr.eqv fun j hj => hc.old j (h.gi j hj) fun e => h.n2 j hj e, fun e => ?_, fun j h1 h2 => ?_, h.n3, h.gz, h.gi.more hc⟩
 ·rcases hc.new wk e with e | e
  ·exact h.n1 e
  ·omega
 ·rcases hc.new j h2 with e | e
  ·exact h.n2 j h1 e
  ·have := h.gi j h1; omega
theorem oU (hc : Chg hp hp' (bZ a fr Fm) (bZ a fr Fm')) : Chg hp hp' (WkF wk a fr Fm Gs) (WkF wk a fr Fm' Gs) :=
 hc.mono (fun j h => .inr (.inr h)) fun j h => by
  rcases h with h | h | h
  ·exact .inr (.inl h)
  ·exact .inr (.inr (.inl h))
  ·exact .inl h
theorem WkQ.setB (h : WkQ hp wk a m fr Fm Gs sv w) (hx : w'.x = w.x) (hs : StR hp Gs sv' w'.st) : WkQ (hp.set wk (.rw (wkV m a sv' w'))) wk a m fr Fm Gs sv' w' := by
 have hwl := aD h.st;have hw0 : wk ≠ 0 := by
  intro e;have h1 := h.st;rw [e, h.q.g] at h1; cases h1
 refine ⟨by rw [hx]; exact aU.chg h.q (fG (a := wk)) (fun j h1 h2 => h.n1 (by cases h1; exact h2)) (fun e => hw0 e.symm), List.getElem?_set_self hwl, hs.eqv fun j hj => List.getElem?_set_ne fun e => h.n3 (by rw [e]; exact hj), h.n1, h.n2, h.n3, h.gz, h.gi.set⟩
theorem vY {k : Blk} : Chg hp (hp.set wk k) (WkF wk a fr Fm Gs) (WkF wk a fr Fm Gs) := fG.mono (fun _ h => .inl h) fun _ h => .inr h
theorem WkQ.steps (h : WkQ hp wk a m fr Fm Gs sv w) (hc : Chg hp hp' Gs Gs') : aU hp' Fm a m fr w.x ∧ hp'[wk]? = some (.rw (wkV m a sv w)) ∧ kK Gs' (bZ a fr Fm) ∧ ¬ Gs' wk ∧ ¬ Gs' 0 := by
 have h0 := aD h.q.g;refine ⟨aU.chg h.q hc h.n2 h.gz, hc.get h.st h.n3, hc.apart h.n2 h.q.inn, fun e => ?_, fun e => ?_⟩
 ·rcases hc.new wk e with e | e
  ·exact h.n3 e
  ·have := aD h.st; omega
 ·rcases hc.new 0 e with e | e
  ·exact h.gz e
  ·omega
theorem WkQ.added (h : WkQ hp wk a m fr Fm Gs sv w) {hp1 : List Blk} (hs : StR hp1 (.one hp.length) sv' w'.st) (hc : Chg hp hp1 Gs (.one hp.length)) (hl : hp1.length = hp.length + 1) (hx : w'.x = w.x) :
 WkQ (hp1.set wk (.rw (wkV m a sv' w'))) wk a m fr Fm (.one hp.length) sv' w' ∧ Chg hp (hp1.set wk (.rw (wkV m a sv' w'))) (WkF wk a fr Fm Gs) (WkF wk a fr Fm (.one hp.length)) := by
 obtain ⟨k1, k2, k3, k4, k5⟩ := h.steps hc;have hwl := aD h.st;have hw0 : wk ≠ 0 := by
  intro e;have h1 := h.st;rw [e, h.q.g] at h1; cases h1
 refine ⟨⟨by rw [hx]; exact aU.chg k1 (fG (a := wk)) (fun j h1 h2 => h.n1 (by cases h1; exact h2)) (fun e => hw0 e.symm), List.getElem?_set_self (by omega), hs.eqv fun j hj => List.getElem?_set_ne fun e => k4 (by rw [e]; exact hj), h.n1, k3, k4, k5, fun j hj => by cases hj; rw [List.length_set]; omega⟩, ?_⟩;refine (hc.mono (fun j hj => .inr (.inl hj)) fun j hj => ?_).trans (fG.mono (fun j hj => .inl hj) fun _ hj => .inr hj);rcases hj with hj | hj | hj
 ·exact .inr (.inl hj)
 ·exact .inl hj
 ·exact .inr (.inr (.inr hj))
end
end Go.Proofs.YtmimfopnhmmlbaaDoor
namespace Go.Proofs.YtmimfopnhmmlbaaDoor
open Go.Ab
def bo (t : Nat → Ent) (old : Nat → Bool) : Nat → List (Nat × Int)
 | 0 => []
 | i + 1 => if (t i).kind ≠ 0 ∧ old (t i).line.toNat = false then bo t old i ++ [(0, (t i).line)] else bo t old i
theorem lH (t : Nat → Ent) (old : Nat → Bool) : ∀ n, (bo t old n).length ≤ n
 | 0 => Nat.le_refl _
 | n + 1 => by
  have := lH t old n;simp only [bo];split
  ·simp; omega
  ·omega
theorem GU {t : Nat → Ent} (ht : InL t) (L hp : List Blk) (wk : Nat) (d : Nat → Int) :
 rc D L.length (.loop [0, 6, 8, 68, 69] dA) [(0, .ptr (.hp wk) [] 61), (6, .ptr (.loc L.length) [] 48), (8, .ptr (.loc (L.length + 2)) [] 82), (68, af t), (69, .int .i64 0)] ⟨L ++ [.rw (af t), .rw (aO d), .rw (shV fun _ => false)], hp⟩ =
  some (.exit 1, [(0, .ptr (.hp wk) [] 61), (6, .ptr (.loc L.length) [] 48), (8, .ptr (.loc (L.length + 2)) [] 82), (68, af t), (69, .int .i64 49), (70, .bool false)], ⟨L ++ [.rw (af t), .rw (aO d), .rw (shV (aL t (fun _ => false) 49))], hp⟩) := by
 refine aZ (fun x : Nat => [(0, .ptr (.hp wk) [] 61), (6, .ptr (.loc L.length) [] 48), (8, .ptr (.loc (L.length + 2)) [] 82), (68, af t), (69, .int .i64 x)]) (fun x => ⟨L ++ [.rw (af t), .rw (aO d), .rw (shV (aL t (fun _ => false) x))], hp⟩) (fun _ => _) (fun x => 49 - x) (fun x => x ≤ 49) 0 ?_ (by omega) rfl rfl;intro i hi;by_cases c1 : i < 49
 ·left;have d1 : (i : Int) < 49 := by omega
  have d2 : (0 : Int) ≤ i := by omega
  have d4 : IntKind.i64.wrap ((i : Int) + 1) = (i : Int) + 1 := al (by omega) (by omega);have g1 := aq (f := fun i => (t i).v) c1;have hin := ht.inn i c1;have z1 : L.length < L.length + 3 := by omega
  have z2 : L.length + 2 < L.length + 3 := by omega
  refine ⟨i + 1, by omega, by omega, rfl, ?_⟩;simp only [af, aO, Ent.v, aL] at *;generalize tab 49 (fun i => V.agg 42 [.int .i64 (t i).kind, .int .i64 (t i).ver, .int .i64 (t i).line]) = T at *;by_cases hk : (t i).kind = 0
  ·simp only [hk, if_true] at g1 ⊢;simp only [shV] at *;generalize tab 1024 (fun j => V.bool (aL t (fun _ => false) i j)) = F at *;simp only [go_sem, dA, d1, d2];rw [Int.toNat_natCast];simp only [go_sem, g1, d4, z1, z2, mN, List.drop_succ_cons, List.drop_zero];rfl
  ·simp only [hk, if_false] at g1 ⊢;obtain ⟨h1, h2⟩ := hin hk;obtain ⟨q, hq⟩ : ∃ q : Nat, (t i).line = q := ⟨(t i).line.toNat, by omega⟩;simp only [hq, Int.toNat_natCast] at g1 h1 h2 ⊢;have e := cf 1024 (fun j => V.bool (aL t (fun _ => false) i j)) q (.bool true);have hu : tab 1024 (upd (fun j => V.bool (aL t (fun _ => false) i j)) q (.bool true)) = tab 1024 (fun j => V.bool (upd (aL t (fun _ => false) i) q true j)) := aR fun j _ => by unfold upd; split <;> rfl
   rw [hu] at e;have hg := aq (f := fun j => V.bool (aL t (fun _ => false) i j)) (show q < 1024 by omega);simp only [shV];rw [← e];generalize tab 1024 (fun j => V.bool (aL t (fun _ => false) i j)) = F at *;generalize aL t (fun _ => false) i q = y at *;simp only [go_sem, dA, d1, d2];rw [Int.toNat_natCast];simp only [go_sem, g1, hk, h1, h2];rw [Int.toNat_natCast];simp only [go_sem, hg, d4, z1, z2, mN, List.drop_succ_cons, List.drop_zero];rfl
 ·right;have : i = 49 := by omega
  subst this;simp only [af];simp only [go_sem, dA]
section
variable {wk a m fr : Nat} {Fm : Ft}
theorem lO {t : Nat → Ent} (ht : InL t) (old : Nat → Bool) (L : List Blk) (u0 u1 : Blk) (hu : ∀ n, bG n u0 = true ∧ bG n u1 = true) : ∀ (n i : Nat) {hp : List Blk} {Gs : Ft} {sv : V} {w : AW}, i + n = 49 → WkQ hp wk a m fr Fm Gs sv w → w.st = bo t old i →
 ∃ hp' Gs' sv', rc D L.length (.loop [0, 6, 8, 82, 83] cC) [(0, .ptr (.hp wk) [] 61), (6, .ptr (.loc L.length) [] 48), (8, .ptr (.loc (L.length + 2)) [] 82), (82, af t), (83, .int .i64 i)] ⟨L ++ [u0, u1, .rw (shV old)], hp⟩ =
  some (.exit 3, [(0, .ptr (.hp wk) [] 61), (6, .ptr (.loc L.length) [] 48), (8, .ptr (.loc (L.length + 2)) [] 82), (82, af t), (83, .int .i64 49), (84, .bool false)], ⟨L ++ [u0, u1, .rw (shV old)], hp'⟩) ∧
  WkQ hp' wk a m fr Fm Gs' sv' { w with st := bo t old 49 } ∧ Chg hp hp' (WkF wk a fr Fm Gs) (WkF wk a fr Fm Gs')
 | 0, i, hp, Gs, sv, w, hi, h, hw => by
  have : i = 49 := by omega
  subst this;refine ⟨hp, Gs, sv, ?_, by rw [← hw]; exact h, .refl _ _⟩;rw [au];simp only [af];simp only [go_sem, cC]
 | n + 1, i, hp, Gs, sv, w, hi, h, hw => by
  have c1 : i < 49 := by omega
  have d1 : (i : Int) < 49 := by omega
  have d2 : (0 : Int) ≤ i := by omega
  have d4 : IntKind.i64.wrap ((i : Int) + 1) = ((i + 1 : Nat) : Int) := al (by omega) (by omega);have g1 := aq (f := fun i => (t i).v) c1;have hin := ht.inn i c1;have z1 : L.length < L.length + 3 := by omega
  have z2 : L.length + 2 < L.length + 3 := by omega
  have hu0 := (hu (L.length + 3)).1;have hu1 := (hu (L.length + 3)).2;have hst := h.st;by_cases hk : (t i).kind = 0
  ·have e : bo t old (i + 1) = bo t old i := by simp only [bo]; rw [if_neg fun hh => hh.1 hk]
   obtain ⟨hp', Gs', sv', r1, r2, r3⟩ := lO ht old L u0 u1 hu n (i + 1) (by omega) h (by rw [e]; exact hw);refine ⟨hp', Gs', sv', ?_, r2, r3⟩;rw [← r1, au];simp only [af, shV, Ent.v] at *;generalize tab 49 (fun i => V.agg 42 [.int .i64 (t i).kind, .int .i64 (t i).ver, .int .i64 (t i).line]) = T at *;generalize tab 1024 (fun j => V.bool (old j)) = F at *;rw [hk] at g1;simp only [go_sem, cC, d1, d2, Int.toNat_natCast, g1, d4, z1, z2, hu0, hu1]
  ·obtain ⟨h1, h2⟩ := hin hk;obtain ⟨q, hq⟩ : ∃ q : Nat, (t i).line = q := ⟨(t i).line.toNat, by omega⟩;have hg := aq (f := fun j => V.bool (old j)) (show q < 1024 by omega);cases ho : old q
   ·have e : bo t old (i + 1) = bo t old i ++ [(0, (q : Int))] := by simp only [bo]; rw [if_pos ⟨hk, by rw [hq, Int.toNat_natCast]; exact ho⟩, hq]
    have hy : St.elems ⟨L ++ [u0, u1, .rw (shV old), .rw (t i).v, .rw (.agg 63 [bx (0, (q : Int))])], hp⟩ (.sl (.loc (L.length + 4)) [] 0 1 (some 1) 47) = some ([(0, (q : Int))].map bx) := eI (t := 63) (by simp only [go_sem]) rfl;have hfl := lH t old i;obtain ⟨hp1, s1, s2, s3, s4⟩ := h.sr.push (L := L ++ [u0, u1, .rw (shV old), .rw (t i).v, .rw (.agg 63 [bx (0, (q : Int))])]) (y := .sl (.loc (L.length + 4)) [] 0 1 (some 1) 47) (l2 := [(0, (q : Int))]) (.inr ⟨_, _, _, _, _, rfl⟩) hy (by simp) (by rw [hw]; simp; omega) L.length;obtain ⟨k1, k2, k3, k4, k5⟩ := h.steps s3;have hA := h.added (w' := { w with st := w.st ++ [(0, (q : Int))] }) s2 s3 s4 rfl;obtain ⟨hp', Gs', sv', r1, r2, r3⟩ := lO ht old L u0 u1 hu n (i + 1) (by omega) hA.1 (by rw [e, ← hw]);refine ⟨hp', Gs', sv', ?_, r2, hA.2.trans r3⟩;rw [← r1, au];rw [ho] at hg;have hrep : List.replicate 1 (V.agg 47 [.nilf, .int .i64 0]) = [.agg 47 [.nilf, .int .i64 0]] := rfl;have hfn : rM 0 = bM := rfl;simp only [hq] at h1 h2;simp only [af, shV, Ent.v, hq, wkV, bx, hfn] at *;generalize tab 49 (fun i => V.agg 42 [.int .i64 (t i).kind, .int .i64 (t i).ver, .int .i64 (t i).line]) = T at *;generalize tab 1024 (fun j => V.bool (old j)) = F at *;simp only [go_sem, cC, d1, d2, Int.toNat_natCast, g1, hk, hq, h1, h2, hg, d4, z1, z2, hu0, hu1, hst, hrep, s1, k2]
   ·have e : bo t old (i + 1) = bo t old i := by simp only [bo]; rw [if_neg fun hh => by rw [hq, Int.toNat_natCast, ho] at hh; cases hh.2]
    obtain ⟨hp', Gs', sv', r1, r2, r3⟩ := lO ht old L u0 u1 hu n (i + 1) (by omega) h (by rw [e]; exact hw);refine ⟨hp', Gs', sv', ?_, r2, r3⟩;rw [← r1, au];rw [ho] at hg;simp only [hq] at h1 h2;simp only [af, shV, Ent.v, hq] at *;generalize tab 49 (fun i => V.agg 42 [.int .i64 (t i).kind, .int .i64 (t i).ver, .int .i64 (t i).line]) = T at *;generalize tab 1024 (fun j => V.bool (old j)) = F at *;simp only [go_sem, cC, d1, d2, Int.toNat_natCast, g1, hk, hq, h1, h2, hg, d4, z1, z2, hu0, hu1]
end
end Go.Proofs.YtmimfopnhmmlbaaDoor
namespace Go.Proofs.YtmimfopnhmmlbaaDoor
open Go.Ab
inductive NmR (hp : List Blk) (G : Ft) : V → List Int → Prop where
 | nil : NmR hp G .nils []
 | sl (a : Nat) (ks : List Int) (hb : hp[a]? = some (.rw (.agg 38 (ks.map (.int .i64))))) (hG : ¬ G a) : NmR hp G (.sl (.hp a) [] 0 ks.length none 10) ks
theorem NmR.rs {hp : List Blk} {G : Ft} {v : V} {ks : List Int} (h : NmR hp G v ks) (L : List Blk) : RS ⟨L, hp⟩ 10 v (ks.map (.int .i64)) := by
 cases h with
 | nil => exact .inl ⟨rfl, rfl⟩
 | sl a ks hb hG => exact .inr ⟨_, _, _, _, by rw [List.length_map], fun c hc => (by cases hc), rfl, .inr ⟨38, ks.map (.int .i64), by rw [kx, hb]; rfl, fun j x hx => by rw [Nat.zero_add]; exact hx⟩⟩
theorem NmR.lt {hp : List Blk} {G : Ft} {v : V} {ks : List Int} (h : NmR hp G v ks) (n : Nat) : v.locLt n = true := by cases h <;> rfl
theorem NmR.chg {hp hp' : List Blk} {G G' : Ft} {v : V} {ks : List Int} (h : NmR hp G v ks) (hc : Chg hp hp' G G') : NmR hp' G' v ks := by
 cases h with
 | nil => exact .nil
 | sl a ks hb hG =>
  refine .sl a ks (hc.get hb hG) fun e => ?_;rcases hc.new a e with e | e
  ·exact hG e
  ·have := aD hb; omega
theorem WkQ.more {hp : List Blk} {wk a m fr : Nat} {Fm Gs : Ft} {sv : V} {w : AW} (h : WkQ hp wk a m fr Fm Gs sv w) (X : List Blk) : WkQ (hp ++ X) wk a m fr Fm Gs sv w :=
 ⟨aU.chg h.q (oQ hp X fun _ => False) (fun _ h => h.elim) (fun h => h), (List.getElem?_append_left (aD h.st)).trans h.st, h.sr.eqv fun j hj => List.getElem?_append_left (h.gi j hj), h.n1, h.n2, h.n3, h.gz, fun j hj => by have := h.gi j hj; rw [List.length_append]; omega⟩
theorem VH {hp : List Blk} (X : List Blk) {F : Ft} : Chg hp (hp ++ X) F F := (oQ hp X fun _ => False).mono (fun _ h => h.elim) fun _ h => .inr h
section
variable {wk a m fr : Nat} {Fm : Ft}
theorem rk {ks : List Int} (hks : ks.length ≤ 7) (S0 : List (Nat × Int)) (hS : S0.length ≤ 49) {v : V} {L : List Blk} {base : Nat} (hL : (L.drop base).all (bG L.length) = true) : ∀ (n j : Nat) {hp : List Blk} {Gs : Ft} {sv : V} {w : AW}, j + n = ks.length → WkQ hp wk a m fr Fm Gs sv w → NmR hp (WkF wk a fr Fm Gs) v ks → w.st = S0 ++ (ks.take j).map (fun k => (1, k)) →
 ∃ hp' Gs' sv', rc D base (.loop [0, 114, 115, 116] fd) [(0, .ptr (.hp wk) [] 61), (114, v), (115, .int .i64 ks.length), (116, .int .i64 j)] ⟨L, hp⟩ =
  some (.exit 5, [(0, .ptr (.hp wk) [] 61), (114, v), (115, .int .i64 ks.length), (116, .int .i64 ks.length), (117, .bool false)], ⟨L, hp'⟩) ∧
  WkQ hp' wk a m fr Fm Gs' sv' { w with st := S0 ++ ks.map (fun k => (1, k)) } ∧ Chg hp hp' (WkF wk a fr Fm Gs) (WkF wk a fr Fm Gs')
 | 0, j, hp, Gs, sv, w, hj, h, hv, hw => by
  have : j = ks.length := by omega
  subst this;rw [List.take_length] at hw;refine ⟨hp, Gs, sv, ?_, by rw [← hw]; exact h, .refl _ _⟩;have d1 : ¬ (ks.length : Int) < ks.length := by omega
  rw [au];simp only [go_sem, fd, d1]
 | n + 1, j, hp, Gs, sv, w, hj, h, hv, hw => by
  have c1 : j < ks.length := by omega
  have d1 : (j : Int) < ks.length := by omega
  have d4 : IntKind.i64.wrap ((j : Int) + 1) = ((j + 1 : Nat) : Int) := al (by omega) (by omega);have hg := bh (f := V.int .i64) (l := ks) (i := j) c1 0;have hsad := (hv.rs L).sadq hg (k := .i64);have hld : ldv ⟨L, hp⟩ 10 (elq v j [] 10) = V.at [] (.int .i64 (ks.getD j 0)) := (hv.rs L).ldq hg;have hst := h.st;have hvl := hv.lt L.length;have e : S0 ++ (ks.take (j + 1)).map (fun k => ((1 : Nat), k)) = w.st ++ [(1, ks.getD j 0)] := by
   rw [hw, List.take_succ_eq_append_getElem c1, List.map_append, List.append_assoc, List.getD_eq_getElem?_getD, List.getElem?_eq_getElem c1]; rfl
  have hy : St.elems ⟨L ++ [.rw (.agg 63 [bx (1, ks.getD j 0)])], hp⟩ (.sl (.loc L.length) [] 0 1 (some 1) 47) = some ([(1, ks.getD j 0)].map bx) := eI (t := 63) (by simp only [go_sem]) rfl;obtain ⟨hp1, s1, s2, s3, s4⟩ := h.sr.push (L := L ++ [.rw (.agg 63 [bx (1, ks.getD j 0)])]) (y := .sl (.loc L.length) [] 0 1 (some 1) 47) (l2 := [(1, ks.getD j 0)]) (.inr ⟨_, _, _, _, _, rfl⟩) hy (by simp) (by rw [hw]; simp; omega) base;obtain ⟨k1, k2, k3, k4, k5⟩ := h.steps s3;have hA := h.added (w' := { w with st := w.st ++ [(1, ks.getD j 0)] }) s2 s3 s4 rfl;obtain ⟨hp', Gs', sv', r1, r2, r3⟩ := rk hks S0 hS hL n (j + 1) (by omega) hA.1 (hv.chg hA.2) e.symm;refine ⟨hp', Gs', sv', ?_, r2, hA.2.trans r3⟩;rw [← r1, au];have hrep : List.replicate 1 (V.agg 47 [.nilf, .int .i64 0]) = [.agg 47 [.nilf, .int .i64 0]] := rfl;have hfn : rM 1 = dD := rfl;simp only [wkV, bx, hfn] at *;generalize ks.getD j 0 = kk at *;simp only [go_sem, fd, d1, hsad, hld, d4, hvl, hL, hst, hrep, s1, k2]
end
def AW.begun (w : AW) (seq : Int) : AW :=
 { w with x := w.x.marks.1, st := bo w.x.work (aL w.x.base (fun _ => false) 49) 49 ++ (dT w.x.work w.x.base 7).map (fun k => (1, k)) ++ [(2, 0), (3, 0), (4, 0)], seq := seq, tbl := w.x.work, dir := w.x.dir }
def AW.begin (w : AW) (seq : Int) : AW × Int :=
 if w.st ≠ [] then (w, 3) else if seq < 0 ∨ 1099511627776 < seq ∨ 1099511627776 ≤ w.b.gen then (w, 1) else if w.x.is = true then (w, 3) else (w.begun seq, 0)
theorem sg {hp : List Blk} {wk a m fr : Nat} {Fm Gs : Ft} {sv : V} {w : AW} (h : WkQ hp wk a m fr Fm Gs sv w) (seq : Int) (L : List Blk) :
 ∃ hp' Gs' sv', rf D bL [.ptr (.hp wk) [] 61, .int .i64 seq] ⟨L, hp⟩ = some (.int .i64 (w.begin seq).2, ⟨L, hp'⟩) ∧ WkQ hp' wk a m fr Fm Gs' sv' (w.begin seq).1 ∧ Chg hp hp' (WkF wk a fr Fm Gs) (WkF wk a fr Fm Gs') := by
 have hst := h.st;have hsl := h.sr.slen;unfold AW.begin;by_cases hs : w.st ≠ []
 ·rw [if_pos hs];refine ⟨hp, Gs, sv, ?_, h, .refl _ _⟩;have d1 : (w.st.length : Int) > 0 := by have := List.length_pos_iff.2 hs; omega
  simp only [wkV] at hst;rw [ag gA rfl];simp only [go_sem, hst, hsl, d1]
 ·have hs0 : w.st = [] := by simpa using hs
  rw [if_neg hs];rw [hs0] at hsl;by_cases ha : seq < 0 ∨ 1099511627776 < seq ∨ 1099511627776 ≤ w.b.gen
  ·rw [if_pos ha];refine ⟨hp, Gs, sv, ?_, h, .refl _ _⟩;simp only [wkV, Sup.v] at hst;rw [ag gA rfl];by_cases h1 : seq < 0
   ·simp only [go_sem, hst, hsl, h1]
   ·by_cases h2 : seq > 1099511627776
    ·simp only [go_sem, hst, hsl, h1, h2]
    ·have h3 : w.b.gen ≥ 1099511627776 := by omega
     simp only [go_sem, hst, hsl, h1, h2, h3]
  ·rw [if_neg ha];have h1 : ¬ seq < 0 := by omega
   have h2 : ¬ seq > 1099511627776 := by omega
   have h3 : ¬ w.b.gen ≥ 1099511627776 := by omega
   obtain ⟨hp1, p1, p2, p3⟩ := Ax h.q L;by_cases hi : w.x.is = true
   ·rw [if_pos hi];have hm : w.x.marks = (w.x, 3) := by unfold AS.marks; rw [if_pos hi]
    rw [hm] at p1 p2;have hW := h.setS p2 p3;refine ⟨hp1, Gs, sv, ?_, hW, oU p3⟩;simp only [wkV, Sup.v] at hst;rw [ag gA rfl];simp only [go_sem, hst, hsl, h1, h2, h3, p1]
   ·rw [if_neg hi];have hm : w.x.marks = ({ w.x with mark := w.x.work, is := true }, 0) := by unfold AS.marks; rw [if_neg hi]
    rw [hm] at p1 p2;have W1 := h.setS p2 p3;have ok := h.q.ok;have W2 := W1.setB (w' := { w with x := { w.x with mark := w.x.work, is := true }, tbl := w.x.work }) rfl W1.sr;have W3 := W2.setB (w' := { w with x := { w.x with mark := w.x.work, is := true }, tbl := w.x.work, seq := seq, dir := w.x.dir }) rfl W2.sr;have hwl1 := aD W1.st;rw [List.set_set] at W3;have c13 : Chg hp (hp1.set wk (.rw (wkV m a sv { w with x := { w.x with mark := w.x.work, is := true }, tbl := w.x.work, seq := seq, dir := w.x.dir }))) (WkF wk a fr Fm Gs) (WkF wk a fr Fm Gs) := (oU p3).trans vY;have hold := GU (ok.b.inL ok.A) L (hp1.set wk (.rw (wkV m a sv { w with x := { w.x with mark := w.x.work, is := true }, tbl := w.x.work, seq := seq, dir := w.x.dir }))) wk w.x.dir;obtain ⟨hp4, G4, sv4, e4, W4, c4⟩ := lO (ok.w.inL ok.A) (aL w.x.base (fun _ => false) 49) L (.rw (af w.x.base)) (.rw (aO w.x.dir)) (fun n => by simp only [af, aO]; simp only [go_sem]) 49 0 rfl W3 hs0;rw [show ((0 : Nat) : Int) = 0 from rfl] at e4
    obtain ⟨X, vd, hap, ed⟩ := sS w.x.work w.x.base ⟨L ++ [.rw (af w.x.base), .rw (aO w.x.dir), .rw (shV (aL w.x.base (fun _ => false) 49))], hp4⟩;have W5 : WkQ (hp4 ++ X) wk a m fr Fm G4 sv4 { w with x := { w.x with mark := w.x.work, is := true }, tbl := w.x.work, seq := seq, dir := w.x.dir, st := bo w.x.work (aL w.x.base (fun _ => false) 49) 49 } := W4.more X;have hnm : NmR (hp4 ++ X) (WkF wk a fr Fm G4) vd (dT w.x.work w.x.base 7) := by
     rcases hap.at' with ⟨q1, rfl⟩ | ⟨Y, rfl, rfl⟩
     ·rw [q1]; exact .nil
     ·refine .sl _ _ (by rw [← List.append_assoc, ← List.length_append]; simp) fun hh => ?_;have := W4.inn _ hh;simp only at this; omega
    have hdl := o8 w.x.work w.x.base 7;have hfl := lH w.x.work (aL w.x.base (fun _ => false) 49) 49;obtain ⟨hp6, G6, sv6, e6, W6, c6⟩ := rk (ks := dT w.x.work w.x.base 7) hdl (bo w.x.work (aL w.x.base (fun _ => false) 49) 49) hfl (v := vd) (L := L ++ [.rw (af w.x.base), .rw (aO w.x.dir), .rw (shV (aL w.x.base (fun _ => false) 49))]) (base := L.length) (by simp only [af, aO, shV]; simp only [go_sem]) (dT w.x.work w.x.base 7).length 0 (by omega) W5 hnm (by simp);rw [show ((0 : Nat) : Int) = 0 from rfl] at e6
    have hy : St.elems ⟨L ++ [.rw (af w.x.base), .rw (aO w.x.dir), .rw (shV (aL w.x.base (fun _ => false) 49)), .rw (.agg 63 [bx (2, 0), bx (3, 0), bx (4, 0)])], hp6⟩ (.sl (.loc (L.length + 3)) [] 0 3 (some 3) 47) = some ([(2, 0), (3, 0), (4, 0)].map bx) := eI (t := 63) (by simp only [go_sem]) rfl;obtain ⟨hp7, s1, s2, s3, s4⟩ := W6.sr.push (L := L ++ [.rw (af w.x.base), .rw (aO w.x.dir), .rw (shV (aL w.x.base (fun _ => false) 49)), .rw (.agg 63 [bx (2, 0), bx (3, 0), bx (4, 0)])]) (y := .sl (.loc (L.length + 3)) [] 0 3 (some 3) 47) (l2 := [(2, 0), (3, 0), (4, 0)]) (.inr ⟨_, _, _, _, _, rfl⟩) hy (by simp) (by simp; omega) L.length;obtain ⟨k1, k2, k3, k4, k5⟩ := W6.steps s3;have hA := W6.added (w' := w.begun seq) s2 s3 s4 (by unfold AW.begun; simp only; rw [hm]);have hfin : (hp7.set wk (.rw (wkV m a (.sl (.hp hp6.length) [] 0 (bo w.x.work (aL w.x.base (fun _ => false) 49) 49 ++ (dT w.x.work w.x.base 7).map (fun k => ((1 : Nat), k)) ++ [(2, 0), (3, 0), (4, 0)]).length none 47) (w.begun seq)))) = hp7.set wk (.rw (wkV m a (.sl (.hp hp6.length) [] 0 (bo w.x.work (aL w.x.base (fun _ => false) 49) 49 ++ (dT w.x.work w.x.base 7).map (fun k => ((1 : Nat), k)) ++ [(2, 0), (3, 0), (4, 0)]).length none 47) (w.begun seq))) := rfl;refine ⟨_, _, _, ?_, hA.1, ((c13.trans c4).trans (VH X)).trans (c6.trans hA.2)⟩;have m1 := vX p2;have b1 := Ao W2.q;have st1 := W1.st;have st3 := W3.st;have st4 := W4.st;have st6 := W6.st;have hset : ∀ k, (hp1.set wk k)[wk]? = some k := fun k => List.getElem?_set_self hwl1;simp only [if_true] at m1;have hrep : List.replicate 3 (V.agg 47 [.nilf, .int .i64 0]) = [.agg 47 [.nilf, .int .i64 0], .agg 47 [.nilf, .int .i64 0], .agg 47 [.nilf, .int .i64 0]] := rfl;have hf2 : rM 2 = dC := rfl;have hf3 : rM 3 = dk := rfl;have hf4 : rM 4 = cP := rfl;have zf : V.agg 82 (List.replicate 1024 (.bool false)) = shV fun _ => false := by rw [dF]; rfl
    have hvl := hnm.lt L.length;have hvs : V.slen false vd = some (dT w.x.work w.x.base 7).length := by
     have := (hnm.rs []).slen
     rwa [List.length_map] at this
    clear W1 W2 W3 W4 W5 W6 hA hfin hnm c4 c6 c13 k1 k3 k4 k5 s2 s3 p2 p3 h;generalize (bo w.x.work (aL w.x.base (fun _ => false) 49) 49 ++ (dT w.x.work w.x.base 7).map (fun k => ((1 : Nat), k)) ++ [(2, 0), (3, 0), (4, 0)]) = ST at *;generalize (dT w.x.work w.x.base 7) = DL at *;generalize aL w.x.base (fun _ => false) 49 = OLD at *;simp only [wkV, Sup.v, AW.begun, bx, hf2, hf3, hf4, af, aO, shV] at *;rw [ag gA rfl];simp only [go_sem, hst, hsl, h1, h2, h3, p1];simp only [go_sem, st1, m1, hset, List.set_set];simp only [go_sem, hset, b1, List.set_set];simp only [go_sem, hset, List.set_set, zf, hold];simp only [go_sem, hset, e4];simp only [go_sem, st4, ed, hvl, hvs];simp only [go_sem, e6];simp only [go_sem, st6, hrep, s1, k2]
end Go.Proofs.YtmimfopnhmmlbaaDoor
namespace Go.Proofs.YtmimfopnhmmlbaaDoor
open Go.Ab
section
variable {hp hp' : List Blk} {wk a m fr : Nat} {Fm Fm' Gs : Ft} {sv : V} {w : AW}
theorem WkQ.setM (h : WkQ hp wk a m fr Fm Gs sv w) {M : AM} (hm : cK hp' Fm' m M) (hc : Chg hp hp' Fm Fm') (hn : M.n = w.x.M.n) : WkQ hp' wk a m fr Fm' Gs sv { w with x := { w.x with M := M } } ∧ Chg hp hp' (WkF wk a fr Fm Gs) (WkF wk a fr Fm' Gs) :=
 ⟨h.setS (h.q.setM hm hc hn) (BP hc), oU (BP hc)⟩
theorem rj (h : WkQ hp wk a m fr Fm Gs sv w) (hc : w.x.M.count < 1000000) (n : Int) (L : List Blk) :
 ∃ hp', rf D bM [.ptr (.hp wk) [] 61, .int .i64 n] ⟨L, hp⟩ = some (.int .i64 (w.x.M.flush 0 n).2, ⟨L, hp'⟩) ∧ WkQ hp' wk a m fr Fm Gs sv { w with x := { w.x with M := (w.x.M.flush 0 n).1 } } ∧ Chg hp hp' (WkF wk a fr Fm Gs) (WkF wk a fr Fm Gs) := by
 obtain ⟨hp', e1, e2, e3⟩ := ru h.q.mp hc 0 n L;obtain ⟨q1, q2⟩ := h.setM e2 e3 kJ.2;refine ⟨hp', ?_, q1, q2⟩;have hst := h.st;simp only [wkV] at hst;rw [ag qP rfl];simp only [go_sem, hst, e1]
theorem y9 {l : List Int} (hl : l.length = 8) {at' : Int} (L : List Blk) (P : V) (hP : ∀ n, P.locLt n = true) : ∀ (n j : Nat) {hp : List Blk} {Fm : Ft} {w : AW}, j + n = 8 → WkQ hp wk a m fr Fm Gs sv w → w.x.M.count + n < 1000000 →
 ∃ hp' Fm' r, rc D L.length (.loop [0, 2, 7, 24, 25] dz) [(0, .ptr (.hp wk) [] 61), (2, P), (7, .int .i64 at'), (24, lnV l), (25, .int .i64 j)] ⟨L ++ [.rw (lnV l)], hp⟩ = some r ∧
  WkQ hp' wk a m fr Fm' Gs sv { w with x := { w.x with M := (w.x.M.layFrom at' l j n).1 } } ∧ Chg hp hp' (WkF wk a fr Fm Gs) (WkF wk a fr Fm' Gs) ∧
  (((w.x.M.layFrom at' l j n).2 = 0 ∧ r = (.exit 0, [(0, .ptr (.hp wk) [] 61), (2, P), (7, .int .i64 at'), (24, lnV l), (25, .int .i64 8), (26, .bool false)], ⟨L ++ [.rw (lnV l)], hp'⟩)) ∨
   ((w.x.M.layFrom at' l j n).2 ≠ 0 ∧ r = (.ret, [(6, .int .i64 (w.x.M.layFrom at' l j n).2)], ⟨L ++ [.rw (lnV l)], hp'⟩)))
 | 0, j, hp, Fm, w, hj, h, _ => by
  have : j = 8 := by omega
  subst this;refine ⟨hp, Fm, _, ?_, h, .refl _ _, .inl ⟨rfl, rfl⟩⟩;rw [au];simp only [lnV];simp only [go_sem, dz]
 | n + 1, j, hp, Fm, w, hj, h, hc => by
  obtain ⟨hp1, Fm1, e1, e2, e3⟩ := jD h.q.mp (by omega) at' j (l.getD j 0) (L ++ [.rw (lnV l)]);obtain ⟨h1, c1⟩ := h.setM e2 e3 AM.store_n;have hcn := AM.store_count (M := w.x.M) (i := at') (q := j) (v := l.getD j 0);have d1 : (j : Int) < 8 := by omega
  have d2 : (0 : Int) ≤ j := by omega
  have d4 : IntKind.i64.wrap ((j : Int) + 1) = ((j + 1 : Nat) : Int) := al (by omega) (by omega);have g := bh (f := V.int .u64) (l := l) (i := j) (by omega) 0;have hst := h.st;have hP1 := hP (L.length + 1);simp only [AM.layFrom];by_cases he : (w.x.M.store at' j (l.getD j 0)).2 = 0
  ·rw [if_neg fun hh => hh he];obtain ⟨hp2, Fm2, r, q1, q2, q3, q4⟩ := y9 hl L P hP n (j + 1) (by omega) h1 (by simp only; omega);refine ⟨hp2, Fm2, r, ?_, q2, c1.trans q3, q4⟩;rw [← q1, au];rw [he] at e1;simp only [wkV, lnV] at *;generalize l.getD j 0 = wd at *;simp only [go_sem, dz, d1, d2, Int.toNat_natCast, g, hst, e1, d4, hP1]
  ·rw [if_pos he];refine ⟨hp1, Fm1, _, ?_, h1, c1, .inr ⟨he, rfl⟩⟩;rw [au];simp only [wkV, lnV] at *;generalize l.getD j 0 = wd at *;simp only [go_sem, dz, d1, d2, Int.toNat_natCast, g, hst, e1, he]
def AW.write (w : AW) (l : List Int) (q : Nat) : AW × Int :=
 if (w.x.lay l).2.2 ≠ 0 then ({ w with x := (w.x.lay l).1 }, (w.x.lay l).2.2) else
 if ((w.x.lay l).1.M.flush 0 (w.x.lay l).2.1).2 ≠ 0 then ({ w with x := { (w.x.lay l).1 with M := ((w.x.lay l).1.M.flush 0 (w.x.lay l).2.1).1 } }, ((w.x.lay l).1.M.flush 0 (w.x.lay l).2.1).2) else
 ({ w with x := { (w.x.lay l).1 with M := ((w.x.lay l).1.M.flush 0 (w.x.lay l).2.1).1 }, dir := upd w.dir q (w.x.lay l).2.1 }, 0)
theorem SP {d : Nat → Int} {q : Nat} {y : Int} : (tab 8 fun i => V.int .i64 (d i)).set q (.int .i64 y) = tab 8 fun i => .int .i64 (upd d q y i) := by
 rw [cf];apply aR;intro i _;unfold upd; split <;> rfl
theorem q7 (h : WkQ hp wk a m fr Fm Gs sv w) (hc : w.x.M.count + 10 < 1000000) {l : List Int} (hl : l.length = 8) {q : Nat} (hq : q < 8) (L : List Blk) :
 ∃ hp' Fm', rf D dm [.ptr (.hp wk) [] 61, lnV l, .ptr (.hp wk) [7, q] 10] ⟨L, hp⟩ = some (.int .i64 (w.write l q).2, ⟨L, hp'⟩) ∧ WkQ hp' wk a m fr Fm' Gs sv (w.write l q).1 ∧ Chg hp hp' (WkF wk a fr Fm Gs) (WkF wk a fr Fm' Gs) := by
 have hst := h.st;obtain ⟨hp1, e1, e2, e3⟩ := A8 h.q (L ++ [.rw (lnV l)]);have h1 := h.setS e2 e3;have c1 : Chg hp hp1 (WkF wk a fr Fm Gs) (WkF wk a fr Fm Gs) := oU e3;have hst1 := h1.st;unfold AW.write;by_cases he : w.x.A.alloc.2.2 = 0
 ·have et : w.x.take.2.2 = 0 := he;obtain ⟨hp2, Fm2, r, q1, q2, q3, q4⟩ := y9 (wk := wk) (a := a) (m := m) (fr := fr) (Gs := Gs) (sv := sv) hl (at' := w.x.A.alloc.2.1) L (.ptr (.hp wk) [7, q] 10) (fun _ => rfl) 8 0 rfl h1 (by have : w.x.take.1.M = w.x.M := rfl; simp only [this]; omega);have eM : w.x.take.1.M = w.x.M := rfl;have eA : w.x.take.1.A = w.x.A.alloc.1 := rfl;simp only [eM] at q1 q2 q4;rw [show ((0 : Nat) : Int) = 0 from rfl] at q1
  have hlc := AM.layFrom_count (M := w.x.M) (at' := w.x.A.alloc.2.1) (l := l) (n := 8) (j := 0);by_cases he2 : (w.x.M.layFrom w.x.A.alloc.2.1 l 0 8).2 = 0
  ·have hlay : w.x.lay l = ({ w.x with A := w.x.A.alloc.1, M := (w.x.M.layFrom w.x.A.alloc.2.1 l 0 8).1 }, w.x.A.alloc.2.1, 0) := by
    unfold AS.lay;rw [if_neg (by simp [he]), if_neg (by simp [he2]), he2]
   rw [hlay];simp only;rw [if_neg (by simp)];rcases q4 with ⟨_, rfl⟩ | ⟨z, _⟩
   ·obtain ⟨hp3, s1, s2, s3⟩ := rj q2 (by simp only; omega) w.x.A.alloc.2.1 (L ++ [.rw (lnV l)]);simp only at s1 s2;have e21 : w.x.take.2.1 = w.x.A.alloc.2.1 := rfl;rw [et, e21] at e1;have hst2 := q2.st;by_cases he3 : (((w.x.M.layFrom w.x.A.alloc.2.1 l 0 8).1.flush 0 w.x.A.alloc.2.1).2) = 0
    ·rw [if_neg (by simp [he3])];have hst3 := s2.st;have hl3 := aD hst3;have hW := s2.setB (w' := { w with x := { w.x with M := ((w.x.M.layFrom w.x.A.alloc.2.1 l 0 8).1.flush 0 w.x.A.alloc.2.1).1, A := w.x.A.alloc.1 }, dir := upd w.dir q w.x.A.alloc.2.1 }) rfl s2.sr;have gd := aq (f := fun i => V.int .i64 (w.dir i)) hq;have hds := SP (d := w.dir) (q := q) (y := w.x.A.alloc.2.1);have hq8 : (q : Int) < 8 := by omega
     refine ⟨_, Fm2, ?_, hW, ((c1.trans q3).trans s3).trans vY⟩;rw [he3] at s1;generalize w.x.A.alloc.2.1 = at1 at *;generalize ((w.x.M.layFrom at1 l 0 8).1.flush 0 at1) = fz at *;generalize (w.x.M.layFrom at1 l 0 8) = lz at *;simp only [wkV, lnV, aO] at *;rw [← hds];rw [ag gD rfl];simp only [go_sem, hst, e1];simp only [go_sem, q1];simp only [go_sem, s1, hst3, gd]
    ·rw [if_pos he3];refine ⟨hp3, Fm2, ?_, s2, (c1.trans q3).trans s3⟩;generalize w.x.A.alloc.2.1 = at1 at *;generalize ((w.x.M.layFrom at1 l 0 8).1.flush 0 at1) = fz at *;generalize (w.x.M.layFrom at1 l 0 8) = lz at *;simp only [wkV, lnV] at *;rw [ag gD rfl];simp only [go_sem, hst, e1];simp only [go_sem, q1];simp only [go_sem, s1, he3]
   ·exact absurd he2 z
  ·have hlay : w.x.lay l = ({ w.x with A := w.x.A.alloc.1, M := (w.x.M.layFrom w.x.A.alloc.2.1 l 0 8).1 }, 0, (w.x.M.layFrom w.x.A.alloc.2.1 l 0 8).2) := by
    unfold AS.lay;rw [if_neg (by simp [he]), if_pos he2]
   rw [hlay];simp only;rw [if_pos he2];rcases q4 with ⟨z, _⟩ | ⟨_, rfl⟩
   ·exact absurd z he2
   ·refine ⟨hp2, Fm2, ?_, q2, c1.trans q3⟩;have e21 : w.x.take.2.1 = w.x.A.alloc.2.1 := rfl;rw [et, e21] at e1;generalize w.x.A.alloc.2.1 = at1 at *;generalize (w.x.M.layFrom at1 l 0 8) = lz at *;simp only [wkV, lnV] at *;rw [ag gD rfl];simp only [go_sem, hst, e1];simp only [go_sem, q1]
 ·have hn : w.x.A.alloc = (w.x.A, 0, 10) := by
   unfold AF.alloc at he ⊢;split
   ·rename_i hq; rw [hq] at he; exact absurd rfl he
   ·rfl
  have ht : w.x.take = (w.x, 0, 10) := by unfold AS.take; rw [hn]
  rw [ht] at e1 h1;have hlay : w.x.lay l = (w.x, 0, 10) := by
   unfold AS.lay;rw [hn]; rfl
  rw [hlay];simp only;rw [if_pos (by decide)];refine ⟨hp1, Fm, ?_, h1, c1⟩;simp only [wkV, lnV] at *;rw [ag gD rfl];simp only [go_sem, hst, e1]
end
end Go.Proofs.YtmimfopnhmmlbaaDoor
namespace Go.Proofs.YtmimfopnhmmlbaaDoor
open Go.Ab
theorem Ds {s : St} {a : Ab.Loc} {t n m k : Nat} {p : List Nat} {f : Nat → V} (hr : s.read a p = some (.agg t (tab n f))) (h : k + m ≤ n) : s.part m t a (p ++ [k]) = some (tab m fun i => f (k + i)) := by
 unfold St.part;rw [List.dropLast_concat, List.getLastD_concat, hr];simp only;have hc : True ∧ p ++ [k] ≠ [] ∧ k + m ≤ (tab n f).length := ⟨trivial, by simp, by rw [eL]; exact h⟩;rw [if_pos hc, xr h]
section
variable {hp hp' : List Blk} {wk a m fr : Nat} {Fm Fm' Gs : Ft} {sv : V} {w : AW}
theorem Bp (h : WkQ hp wk a m fr Fm Gs sv w) (hc : w.x.M.count + 10 < 1000000) {k : Nat} (hk : k < 7) (L : List Blk) :
 ∃ hp' Fm', rf D dD [.ptr (.hp wk) [] 61, .int .i64 k] ⟨L, hp⟩ = some (.int .i64 (w.write (j7 w.tbl k) k).2, ⟨L, hp'⟩) ∧ WkQ hp' wk a m fr Fm' Gs sv (w.write (j7 w.tbl k) k).1 ∧ Chg hp hp' (WkF wk a fr Fm Gs) (WkF wk a fr Fm' Gs) := by
 obtain ⟨e, hl⟩ : ∃ e, ∀ s, rf D je [af w.tbl, .int .i64 k] s = some (.tup [lnV (j7 w.tbl k), .int .i64 (e s)], s) := ⟨fun s => (pr w.tbl hk s).choose, fun s => (pr w.tbl hk s).choose_spec⟩;obtain ⟨hp', Fm', e1, e2, e3⟩ := q7 h hc (uL w.tbl k) (show k < 8 by omega) (L ++ [.rw (lnV (j7 w.tbl k))]);refine ⟨hp', Fm', ?_, e2, e3⟩;have hst := h.st;have d1 : (k : Int) < 8 := by omega
 have d2 : (0 : Int) ≤ k := by omega
 generalize w.write (j7 w.tbl k) k = wr at *;generalize j7 w.tbl k = ll at *;simp only [wkV, af, lnV] at *;rw [ag sd rfl];simp only [go_sem, hst, hl, d1, d2, Int.toNat_natCast, e1]
theorem Bi (h : WkQ hp wk a m fr Fm Gs sv w) (hc : w.x.M.count + 10 < 1000000) (n : Int) (L : List Blk) :
 ∃ hp' Fm', rf D dC [.ptr (.hp wk) [] 61, .int .i64 n] ⟨L, hp⟩ = some (.int .i64 (w.write (kl w.dir) 7).2, ⟨L, hp'⟩) ∧ WkQ hp' wk a m fr Fm' Gs sv (w.write (kl w.dir) 7).1 ∧ Chg hp hp' (WkF wk a fr Fm Gs) (WkF wk a fr Fm' Gs) := by
 obtain ⟨e, hl⟩ : ∃ e, ∀ s, rf D iR [d7V w.dir] s = some (.tup [lnV (kl w.dir), .int .i64 (e s)], s) := ⟨fun s => (po w.dir s).choose, fun s => (po w.dir s).choose_spec⟩;obtain ⟨hp', Fm', e1, e2, e3⟩ := q7 h hc (vg w.dir) (show 7 < 8 by omega) (L ++ [.rw (lnV (kl w.dir))]);refine ⟨hp', Fm', ?_, e2, e3⟩;have hst := h.st;have hrd : ∀ L, St.read ⟨L, hp⟩ (.hp wk) [7] = some (.agg 50 (tab 8 fun i => .int .i64 (w.dir i))) := fun L => by
  simp only [wkV, aO] at hst;simp only [go_sem, hst]
 have hpt : ∀ L, St.part ⟨L, hp⟩ 7 50 (.hp wk) [7, 0] = some (tab 7 fun i => .int .i64 (w.dir i)) := fun L => by
  have := Ds (m := 7) (k := 0) (p := [7]) (hrd L) (by omega);simp only [Nat.zero_add] at this;exact this
 generalize w.write (kl w.dir) 7 = wr at *;generalize kl w.dir = ll at *;simp only [wkV, d7V, lnV, aO] at *;rw [ag rL rfl];simp only [go_sem, hst, hpt, hl];simp only [go_sem, hst, e1]
theorem yH (h : WkQ hp wk a m fr Fm Gs sv w) (hc : w.x.M.count + 1 < 1000000) (n : Int) (L : List Blk) :
 ∃ hp' Fm', rf D dk [.ptr (.hp wk) [] 61, .int .i64 n] ⟨L, hp⟩ = some (.int .i64 (w.x.M.fence 0).2, ⟨L, hp'⟩) ∧ WkQ hp' wk a m fr Fm' Gs sv { w with x := { w.x with M := (w.x.M.fence 0).1 } } ∧ Chg hp hp' (WkF wk a fr Fm Gs) (WkF wk a fr Fm' Gs) := by
 obtain ⟨hp', F', e1, e2, e3⟩ := rm h.q.mp hc 0 L;have hn : (w.x.M.fence 0).1.n = w.x.M.n := by
  unfold AM.fence;split
  ·rfl
  ·split
   ·rfl
   ·exact (ir _).1
 obtain ⟨q1, q2⟩ := h.setM e2 e3 hn;refine ⟨hp', F', ?_, q1, q2⟩;have hst := h.st;simp only [wkV] at hst;rw [ag qV rfl];simp only [go_sem, hst, e1]
theorem Vy {M : AM} {s : Int} {b : Sup} : (M.wrs s b).1.n = M.n := by
 have hf : ∀ N : AM, (N.fence 0).1.n = N.n := fun N => by
  unfold AM.fence;split
  ·rfl
  ·split
   ·rfl
   ·exact (ir _).1
 unfold AM.wrs;split
 ·rfl
 ·split
  ·exact AM.store_n
  ·simp only;split
   ·rw [AM.layFrom_n, AM.store_n]
   ·split
    ·rw [kJ.2, AM.layFrom_n, AM.store_n]
    ·rw [hf, kJ.2, AM.layFrom_n, AM.store_n]
def AW.nextB (w : AW) : Sup := ⟨w.b.gen + 1, w.dir 7, w.seq, w.b.cores⟩
def AW.commit (w : AW) : AW × Int :=
 if (w.x.M.wrs (1 - w.slot) w.nextB).2 ≠ 0 then ({ w with x := { w.x with M := (w.x.M.wrs (1 - w.slot) w.nextB).1 } }, (w.x.M.wrs (1 - w.slot) w.nextB).2)
 else ({ w with x := (AS.commit { w.x with M := (w.x.M.wrs (1 - w.slot) w.nextB).1 } w.dir).1, b := w.nextB, slot := 1 - w.slot }, 0)
theorem wj (h : WkQ hp wk a m fr Fm Gs sv w) (hc : w.x.M.count + 12 < 1000000) (hg : 0 ≤ w.b.gen ∧ w.b.gen ≤ 1099511627777) (hs : w.slot = 0 ∨ w.slot = 1) (n : Int) (L : List Blk) :
 ∃ hp' Fm', rf D cP [.ptr (.hp wk) [] 61, .int .i64 n] ⟨L, hp⟩ = some (.int .i64 w.commit.2, ⟨L, hp'⟩) ∧ WkQ hp' wk a m fr Fm' Gs sv w.commit.1 ∧ Chg hp hp' (WkF wk a fr Fm Gs) (WkF wk a fr Fm' Gs) := by
 obtain ⟨hp1, F1, e1, e2, e3⟩ := yw h.q.mp hc (1 - w.slot) w.nextB (L ++ [.rw w.nextB.v]);obtain ⟨q1, q2⟩ := h.setM e2 e3 Vy;have hst := h.st;have hst1 := q1.st;have d1 : IntKind.i64.wrap (w.b.gen + 1) = w.b.gen + 1 := al (by omega) (by omega);have d2 : IntKind.i64.wrap (1 - w.slot) = 1 - w.slot := al (by omega) (by omega);have g7 := aq (f := fun i => V.int .i64 (w.dir i)) (show 7 < 8 by omega);unfold AW.commit;by_cases he : (w.x.M.wrs (1 - w.slot) w.nextB).2 = 0
 ·rw [if_neg (by simp [he])];obtain ⟨hp2, s1, s2, s3⟩ := xB q1.q w.dir (L ++ [.rw w.nextB.v]);have q3 := q1.setS s2 s3;have hst2 := q3.st;have q4 := q3.setB (w' := { w with x := (AS.commit { w.x with M := (w.x.M.wrs (1 - w.slot) w.nextB).1 } w.dir).1, b := w.nextB, slot := 1 - w.slot }) rfl q3.sr;have hwl := aD hst2;have hset : ∀ k, (hp2.set wk k)[wk]? = some k := fun k => List.getElem?_set_self hwl;refine ⟨_, F1, ?_, q4, (q2.trans (oU s3)).trans vY⟩;rw [he] at e1;generalize (w.x.M.wrs (1 - w.slot) w.nextB) = wr at *;generalize AS.commit { w.x with M := wr.1 } w.dir = cm at *;simp only [wkV, Sup.v, AW.nextB, aO] at *;rw [ag kW rfl];simp only [go_sem, hst, d1, d2, g7, e1];simp only [go_sem, hst1, s1];simp only [go_sem, hst2, hset, List.set_set]
 ·rw [if_pos he];refine ⟨hp1, F1, ?_, q1, q2⟩;generalize (w.x.M.wrs (1 - w.slot) w.nextB) = wr at *;simp only [wkV, Sup.v, AW.nextB, aO] at *;rw [ag kW rfl];simp only [go_sem, hst, d1, d2, g7, e1, he]
end
end Go.Proofs.YtmimfopnhmmlbaaDoor
namespace Go.Proofs.YtmimfopnhmmlbaaDoor
open Go.Ab
def AW.doStep (w : AW) (p : Nat × Int) : AW × Int := match p.1 with
 | 0 => ({ w with x := { w.x with M := (w.x.M.flush 0 p.2).1 } }, (w.x.M.flush 0 p.2).2)
 | 1 => w.write (j7 w.tbl p.2.toNat) p.2.toNat
 | 2 => w.write (kl w.dir) 7
 | 3 => ({ w with x := { w.x with M := (w.x.M.fence 0).1 } }, (w.x.M.fence 0).2)
 | _ => w.commit
theorem AW.doStep_st (w : AW) (p : Nat × Int) : (w.doStep p).1.st = w.st := by
 unfold AW.doStep;split
 ·rfl
 ·unfold AW.write; split
  ·rfl
  ·split <;> rfl
 ·unfold AW.write; split
  ·rfl
  ·split <;> rfl
 ·rfl
 ·unfold AW.commit; split <;> rfl
def AW.step (w : AW) : AW × Bool × Int := match w.st with
 | [] => (w, false, 3)
 | p :: r => if (w.doStep p).2 = 0 then ({ (w.doStep p).1 with st := r }, decide (r = []), 0) else if (w.doStep p).2 = 10 then ({ (w.doStep p).1 with x := (w.doStep p).1.x.abort.1, st := [] }, false, 10) else ((w.doStep p).1, false, (w.doStep p).2)
structure AW.Fit (w : AW) : Prop where
 g : 0 ≤ w.b.gen ∧ w.b.gen ≤ 1099511627777
 s : w.slot = 0 ∨ w.slot = 1
 k : ∀ p ∈ w.st, p.1 = 1 → 0 ≤ p.2 ∧ p.2 < 7
section
variable {hp hp' : List Blk} {wk a m fr : Nat} {Fm Fm' Gs : Ft} {sv : V} {w : AW}
theorem CI (h : WkQ hp wk a m fr Fm Gs sv w) (hc : w.x.M.count + 12 < 1000000) (hF : w.Fit) {p : Nat × Int} (hp1 : p.1 = 1 → 0 ≤ p.2 ∧ p.2 < 7) (L : List Blk) :
 ∃ hp' Fm', rf D (rM p.1) [.ptr (.hp wk) [] 61, .int .i64 p.2] ⟨L, hp⟩ = some (.int .i64 (w.doStep p).2, ⟨L, hp'⟩) ∧ WkQ hp' wk a m fr Fm' Gs sv (w.doStep p).1 ∧ Chg hp hp' (WkF wk a fr Fm Gs) (WkF wk a fr Fm' Gs) := by
 obtain ⟨q, n⟩ := p
 match q, hp1 with
 | 0, _ =>
  obtain ⟨hp', e1, e2, e3⟩ := rj h (by omega) n L;exact ⟨hp', Fm, e1, e2, e3⟩
 | 1, hp1 =>
  obtain ⟨h0, h7⟩ := hp1 rfl;obtain ⟨k, rfl⟩ : ∃ k : Nat, n = k := ⟨n.toNat, by simp only at h0; omega⟩;have := Bp h (by omega) (k := k) (by simp only at h7; omega) L;unfold AW.doStep;simp only [Int.toNat_natCast];exact this
 | 2, _ => exact Bi h (by omega) n L
 | 3, _ => exact yH h (by omega) n L
 | q + 4, _ => exact wj h (by omega) hF.g hF.s n L
theorem lZ (h : WkQ hp wk a m fr Fm Gs sv w) (hc : w.x.M.count + 12 < 1000000) (hF : w.Fit) (L : List Blk) :
 ∃ hp' Fm' Gs' sv', rf D aY [.ptr (.hp wk) [] 61] ⟨L, hp⟩ = some (.tup [.bool w.step.2.1, .int .i64 w.step.2.2], ⟨L, hp'⟩) ∧ WkQ hp' wk a m fr Fm' Gs' sv' w.step.1 ∧ Chg hp hp' (WkF wk a fr Fm Gs) (WkF wk a fr Fm' Gs') := by
 have hst := h.st;have hsl := h.sr.slen;unfold AW.step;cases hw : w.st with
 | nil =>
  refine ⟨hp, Fm, Gs, sv, ?_, h, .refl _ _⟩;rw [hw] at hsl;simp only [wkV] at hst;rw [ag io rfl];simp only [go_sem, hst, hsl]
 | cons p r =>
  rw [hw] at hsl;have hrs := h.sr.rs (L ++ []);have hg : (w.st.map bx)[0]? = some (bx p) := by rw [hw]; rfl
  have hsad : ef 47 sv (.int .i64 0) = some (elq sv 0 [] 47) := (h.sr.rs L).sadq hg (k := .i64);have hld : ldv ⟨L, hp⟩ 47 (elq sv 0 [] 47) = V.at [] (bx p) := (h.sr.rs L).ldq hg;obtain ⟨hp1, F1, e1, e2, e3⟩ := CI h hc hF (p := p) (fun e => hF.k p (by rw [hw]; exact List.mem_cons_self) e) (L ++ [.rw (bx p)]);have hst1 := e2.st;have hwl := aD hst1;have d1 : ¬ ((r.length + 1 : Nat) : Int) = 0 := by omega
  have hset : ∀ k, (hp1.set wk k)[wk]? = some k := fun k => List.getElem?_set_self hwl;simp only;by_cases he : (w.doStep p).2 = 0
  ·rw [if_pos he];have hsr : StR hp1 Gs sv (p :: r) := by have := e2.sr; rwa [AW.doStep_st, hw] at this
   obtain ⟨sv2, r1, r2⟩ := hsr.rest;have q4 := e2.setB (w' := { (w.doStep p).1 with st := r }) rfl r2;have hsl2 := r2.slen;have ht2 := r2.tag;have hl2 := r2.lt;refine ⟨_, F1, Gs, sv2, ?_, q4, e3.trans vY⟩;rw [he] at e1;have hdc : decide (r = []) = decide ((r.length : Int) = 0) := by
    apply decide_eq_decide.2;cases r <;> simp <;> omega
   rw [hdc];generalize (w.doStep p).1 = w1 at *;clear q4 e2 e3 hsr r2 h hrs hg;simp only [wkV, bx] at *;rw [ag io rfl];simp only [go_sem, hst, hsl, d1, hsad, hld];simp only [go_sem, e1, hst1, r1, ht2, hl2, hset, hsl2]
  ·rw [if_neg he];by_cases he2 : (w.doStep p).2 = 10
   ·rw [if_pos he2];obtain ⟨hp2, s1, s2, s3⟩ := yl e2.q (L ++ [.rw (bx p)]);have q3 := e2.setS s2 s3;have q4 := q3.setB (sv' := .nils) (w' := { (w.doStep p).1 with x := (w.doStep p).1.x.abort.1, st := [] }) rfl .nil;have hst2 := q3.st;refine ⟨_, F1, Gs, .nils, ?_, q4, (e3.trans (oU s3)).trans vY⟩;rw [he2] at e1;generalize (w.doStep p).1 = w1 at *;clear q4 q3 e2 e3 h hrs hg s2 s3;simp only [wkV, bx] at *;rw [ag io rfl];simp only [go_sem, hst, hsl, d1, hsad, hld];simp only [go_sem, e1, hst1, s1, hst2]
   ·rw [if_neg he2];refine ⟨hp1, F1, Gs, sv, ?_, e2, e3⟩;generalize w.doStep p = dp at *;clear e2 e3 h hrs hg;simp only [wkV, bx] at *;rw [ag io rfl];simp only [go_sem, hst, hsl, d1, hsad, hld];simp only [go_sem, e1, he, he2]
end
end Go.Proofs.YtmimfopnhmmlbaaDoor
