/-
  YtilcajpldklbiaaDoorT4: what functions of the program compute (ObjC, MemQ, MemR, CloA, MemF, CrcA, RadA, RadB, RegA, MemG, MemH, MemI, MemJ, SupA, SnpA, SnpB, SnpC, SnpD, SnpE, SnpF, RefC, RefD, SnpG, SnpH, SnpI, SnpJ, SnpK).
-/
import Derived.Test.YtilcajpldklbiaaDoorT1
import Derived.Test.YtilcajpldklbiaaDoorT2
import Derived.Test.YtilcajpldklbiaaDoorT3
set_option maxRecDepth 100000
namespace Go.Proofs.YtilcajpldklbiaaDoor
open Go.Ab
structure Apd (L0 : List Blk) (X : List Blk) (v : V) (l : List Int) : Prop where
 at' : (l = [] ∧ v = .nils) ∨ (∃ Y, X = Y ++ [.rw (.agg 38 (l.map (.int .i64)))] ∧ v = .sl (.hp (L0.length + Y.length)) [] 0 l.length none 10)
theorem Apd.elems {L0 X : List Blk} {v : V} {l : List Int} (h : Apd L0 X v l) {loc : List Blk} : St.elems ⟨loc, L0 ++ X⟩ v = some (l.map (.int .i64)) := by
 rcases h.at' with ⟨rfl, rfl⟩ | ⟨Y, rfl, rfl⟩
 ·rfl
 ·exact jb (t := 38) (by rw [← List.append_assoc, ← List.length_append]; simp only [go_sem]) (by simp)
theorem ui (t : Nat → Ent) : ∀ (n i : Nat), (cK t i n).length ≤ n
 | 0, i => Nat.le_refl _
 | n + 1, i => by
  have := ui t n (i + 1);simp only [cK];split
  ·omega
  ·simp only [List.length_cons]; omega
end Go.Proofs.YtilcajpldklbiaaDoor
namespace Go.Proofs.YtilcajpldklbiaaDoor
open Go.Ab
def coV (f : Nat → Bool) : V := .agg 88 (tab 8 fun c => .bool (f c))
def Dn.v2 (d : Dn) : V := .agg 90 [.int .i64 d.w, .int .u64 d.v, coV d.cs]
structure NT (hp : List Blk) (F : Ft) (m : Nat) (M : AM) : Prop where
 ok : M.Ok
 inn : Inn hp F
 fm : F m
 mb : ∃ k k2, F k ∧ F k2 ∧ m ≠ k ∧ m ≠ k2 ∧ k ≠ k2 ∧ hp[m]? = some (.rw (rmV k M.n k2 M.off M.left M.count)) ∧ hp[k]? = some (.rw (.agg 58 (tab M.n fun i => lnV (M.S i)))) ∧
  ∃ (sv : Nat → V) (ow : Nat → Nat), hp[k2]? = some (.rw (.agg 53 (tab M.n sv))) ∧ ∀ i, i < M.n → SlR hp (fun j => F j ∧ j ≠ m ∧ j ≠ k ∧ j ≠ k2 ∧ ow j = i) 90 92 (sv i) ((M.L i).map Dn.v2)
end Go.Proofs.YtilcajpldklbiaaDoor
namespace Go.Proofs.YtilcajpldklbiaaDoor
open Go.Ab
end Go.Proofs.YtilcajpldklbiaaDoor
namespace Go.Proofs.YtilcajpldklbiaaDoor
open Go.Ab
theorem SlR.more {hp hp' : List Blk} {G G' : Ft} {e r : Nat} {v : V} {l : List V} (h : SlR hp G e r v l) (he : ∀ j, j < hp.length → G j → hp'[j]? = hp[j]?) (hG : ∀ j, j < hp.length → G j → G' j) : SlR hp' G' e r v l := by
 cases h with
 | nil => exact .nil
 | emp a p o => exact .emp a p o
 | blk a c l hc hg hb => exact .blk a c l hc (hG a (ap hb) hg) (by rw [he a (ap hb) hg]; exact hb)
theorem MO {l : List Dn} : V.locLts 0 (l.map Dn.v1) = true := by
 induction l with
 | nil => rfl
 | cons d l ih =>
  simp only [List.map_cons, V.locLts, ih, Bool.and_true];rfl
end Go.Proofs.YtilcajpldklbiaaDoor
namespace Go.Proofs.YtilcajpldklbiaaDoor
open Go.Ab
theorem CM {hp : List Blk} {F : Ft} {m : Nat} {M : AM} (h : ay hp F m M) (n : Int) (hn : n ≤ 9223372036854775807) (L : List Blk) :
 ∃ hp', rf D iY [.ptr (.hp m) [] 59, .int .i64 n] ⟨L, hp⟩ = some (.tup [], ⟨L, hp'⟩) ∧ ay hp' F m (M.fuse n) ∧ Chg hp hp' F F := by
 have hM := h;obtain ⟨k, fk, ne, ⟨cp, left, h1, h2, h3⟩, sv, ow, h4, h5⟩ := h.mb;have ok := h.ok;have okf : (M.fuse n).Ok := ⟨ok.n0, ok.n1, ok.l8, ok.w8, ok.c0, ok.len, by unfold AM.fuse; simp only; split <;> omega, by unfold AM.fuse; simp only; split <;> omega⟩;obtain ⟨g1, g2⟩ := hM.setm (M' := M.fuse n) (left' := n) okf rfl rfl rfl h1 (by unfold AM.fuse; simp only; split <;> omega);refine ⟨_, ?_, g1, g2⟩;have hlt := ap h1;have hset : ∀ b, (hp.set m b)[m]? = some b := fun b => List.getElem?_set_self hlt;have e : decide (0 ≤ (M.fuse n).left) = decide (0 ≤ n) := by
  apply decide_eq_decide.2;unfold AM.fuse; simp only; split <;> omega
 rw [e];simp only [bw, AM.fuse] at *;rw [ae ss rfl];by_cases c1 : 0 ≤ n
 ·have c2 : n ≥ 0 := c1;simp only [go_sem, h1, hset, c1, c2, List.set_set, decide_true]
 ·have c2 : ¬ n ≥ 0 := c1;simp only [go_sem, h1, hset, c1, c2, List.set_set, decide_false]
end Go.Proofs.YtilcajpldklbiaaDoor
namespace Go.Proofs.YtilcajpldklbiaaDoor
open Go.Ab
def Lu (w : Int) (k : Nat) : Int := IntKind.u8.wrap (iT .u64 w (8 * (k : Int)))
def a7 (l : List Int) (i k : Nat) (j : Nat) : Int := if j / 8 < i ∨ (j / 8 = i ∧ j % 8 < k) then Lu (l.getD (j / 8) 0) (j % 8) else 0
def Gj (r : Int) : Int := kG .u32 (iT .u32 r 1) (j5 .u32 3988292384 (IntKind.u32.wrap (0 - j5 .u32 r 1)))
def ph : Nat → Int → Int
 | 0, r => r
 | n + 1, r => Gj (ph n r)
def ir (r : Int) : List Int → Int
 | [] => r
 | b :: l => ir (ph 8 (kG .u32 r (IntKind.u32.wrap b))) l
theorem Ej (r : Int) (l : List Int) (b : Int) : ir r (l ++ [b]) = ph 8 (kG .u32 (ir r l) (IntKind.u32.wrap b)) := by
 induction l generalizing r with
 | nil => rfl
 | cons a l ih => exact ih _
theorem GC {l : List Int} (L : List Blk) (hp : List Blk) (i : Nat) (hi : i < 8) :
 rc D L.length (.loop [2, 3, 4, 5, 7, 8, 12] iF) [(2, .ptr (.loc (L.length + 1)) [] 108), (3, .ptr (.loc (L.length + 2)) [] 108), (4, .int .i64 i), (5, .int .u64 (l.getD i 0)), (7, lnV l), (8, .int .i64 i), (12, .int .i64 0)] ⟨L ++ [.rw (lnV l), .rw (.agg 108 (List.replicate 64 (.int .u8 0))), .rw (.agg 108 (tab 64 fun j => .int .u8 (a7 l i 0 j)))], hp⟩ =
  some (.exit 2, [(2, .ptr (.loc (L.length + 1)) [] 108), (3, .ptr (.loc (L.length + 2)) [] 108), (4, .int .i64 i), (5, .int .u64 (l.getD i 0)), (7, lnV l), (8, .int .i64 i), (12, .int .i64 8), (13, .bool false)], ⟨L ++ [.rw (lnV l), .rw (.agg 108 (List.replicate 64 (.int .u8 0))), .rw (.agg 108 (tab 64 fun j => .int .u8 (a7 l i 8 j)))], hp⟩) := by
 refine ff (fun k : Nat => [(2, .ptr (.loc (L.length + 1)) [] 108), (3, .ptr (.loc (L.length + 2)) [] 108), (4, .int .i64 i), (5, .int .u64 (l.getD i 0)), (7, lnV l), (8, .int .i64 i), (12, .int .i64 k)]) (fun k => ⟨L ++ [.rw (lnV l), .rw (.agg 108 (List.replicate 64 (.int .u8 0))), .rw (.agg 108 (tab 64 fun j => .int .u8 (a7 l i k j)))], hp⟩) (fun _ => _) (fun k => 8 - k) (fun k => k ≤ 8) 0 ?_ (by omega) rfl rfl;intro k hk;by_cases c1 : k < 8
 ·left;have d1 : (k : Int) < 8 := by omega
  have d4 : IntKind.i64.wrap ((k : Int) + 1) = (k : Int) + 1 := ai (by omega) (by omega);have e1 : IntKind.i64.wrap (8 * (i : Int)) = 8 * i := ai (by omega) (by omega);have e2 : IntKind.i64.wrap (8 * (k : Int)) = 8 * k := ai (by omega) (by omega);have e3 : IntKind.i64.wrap (8 * (i : Int) + k) = ((8 * i + k : Nat) : Int) := by rw [ai (by omega) (by omega)]; omega
  have e4 : ¬ (8 * (k : Int)) < 0 := by omega
  have e5 : ((8 * i + k : Nat) : Int) < 64 := by omega
  have e6 : (0 : Int) ≤ ((8 * i + k : Nat) : Int) := by omega
  have hup : (tab 64 fun j => V.int .u8 (a7 l i k j)).set (8 * i + k) (.int .u8 (IntKind.u8.wrap (iT .u64 (l.getD i 0) (8 * (k : Int))))) = tab 64 fun j => V.int .u8 (a7 l i (k + 1) j) := by
   rw [eM];apply bM;intro j hj;unfold upd;by_cases e : j = 8 * i + k
   ·subst e;rw [if_pos rfl];unfold a7;rw [show (8 * i + k) / 8 = i by omega, show (8 * i + k) % 8 = k by omega, if_pos (.inr ⟨rfl, by omega⟩)];rfl
   ·rw [if_neg e];unfold a7;by_cases h : j / 8 < i ∨ (j / 8 = i ∧ j % 8 < k)
    ·show V.int .u8 _ = V.int .u8 _;rw [if_pos h, if_pos (by omega)]
    ·show V.int .u8 _ = V.int .u8 _;rw [if_neg h, if_neg (by omega)]
  have g1 := aC (f := fun j => V.int .u8 (a7 l i k j)) (show 8 * i + k < 64 by omega);have z3 : L.length + 1 < L.length + 3 := by omega
  have z4 : L.length + 2 < L.length + 3 := by omega
  refine ⟨k + 1, by omega, by omega, rfl, ?_⟩;rw [← hup];simp only [lnV] at *;generalize (tab 64 fun j => V.int .u8 (a7 l i k j)) = T at *;generalize List.replicate 64 (V.int .u8 0) = T0 at *;generalize l.getD i 0 = w at *;simp only [go_sem, iF, d1, d4, e1, e2, e3, e4, e5, e6];rw [Int.toNat_natCast];simp only [go_sem, g1, d4, z3, z4];rfl
 ·right;have : k = 8 := by omega
  subst this;simp only [lnV];simp only [go_sem, iF]
theorem xC {l : List Int} (hl : l.length = 8) (s : St) : rf D mY [lnV l] s = some (.agg 108 (tab 64 fun j => .int .u8 (a7 l 8 0 j)), s) := by
 have hb0 : (tab 64 fun j => V.int .u8 (a7 l 0 0 j)) = List.replicate 64 (.int .u8 0) := by
  rw [fW]; apply bM; intro j _; unfold a7; rw [if_neg (by omega)]
 have hstep : ∀ i, (tab 64 fun j => V.int .u8 (a7 l i 8 j)) = tab 64 fun j => V.int .u8 (a7 l (i + 1) 0 j) := fun i => by
  apply bM; intro j _;unfold a7;by_cases h : j / 8 < i + 1
  ·rw [if_pos (by omega), if_pos (.inl h)]
  ·rw [if_neg (by omega), if_neg (by omega)]
 have loop : rc D s.loc.length (.loop [2, 3, 7, 8] iI) [(2, .ptr (.loc (s.loc.length + 1)) [] 108), (3, .ptr (.loc (s.loc.length + 2)) [] 108), (7, lnV l), (8, .int .i64 0)] ⟨s.loc ++ [.rw (lnV l), .rw (.agg 108 (List.replicate 64 (.int .u8 0))), .rw (.agg 108 (tab 64 fun j => .int .u8 (a7 l 0 0 j)))], s.hp⟩ =
  some (.exit 0, [(2, .ptr (.loc (s.loc.length + 1)) [] 108), (3, .ptr (.loc (s.loc.length + 2)) [] 108), (7, lnV l), (8, .int .i64 8), (9, .bool false)], ⟨s.loc ++ [.rw (lnV l), .rw (.agg 108 (List.replicate 64 (.int .u8 0))), .rw (.agg 108 (tab 64 fun j => .int .u8 (a7 l 8 0 j)))], s.hp⟩) := by
  refine ff (fun i : Nat => [(2, .ptr (.loc (s.loc.length + 1)) [] 108), (3, .ptr (.loc (s.loc.length + 2)) [] 108), (7, lnV l), (8, .int .i64 i)]) (fun i => ⟨s.loc ++ [.rw (lnV l), .rw (.agg 108 (List.replicate 64 (.int .u8 0))), .rw (.agg 108 (tab 64 fun j => .int .u8 (a7 l i 0 j)))], s.hp⟩) (fun _ => _) (fun i => 8 - i) (fun i => i ≤ 8) 0 ?_ (by omega) rfl rfl;intro i hi;by_cases c1 : i < 8
  ·left;have d1 : (i : Int) < 8 := by omega
   have d2 : (0 : Int) ≤ i := by omega
   have d4 : IntKind.i64.wrap ((i : Int) + 1) = (i : Int) + 1 := ai (by omega) (by omega);have hin := GC (l := l) s.loc s.hp i c1;have g := aG (f := V.int .u64) (l := l) (i := i) (by omega) 0;have z3 : s.loc.length + 1 < s.loc.length + 3 := by omega
   have z4 : s.loc.length + 2 < s.loc.length + 3 := by omega
   refine ⟨i + 1, by omega, by omega, rfl, ?_⟩;rw [hstep] at hin;simp only [lnV] at *;generalize (tab 64 fun j => V.int .u8 (a7 l i 0 j)) = T at *;generalize (tab 64 fun j => V.int .u8 (a7 l (i + 1) 0 j)) = T1 at *;generalize List.replicate 64 (V.int .u8 0) = T0 at *;generalize l.getD i 0 = w at *;simp only [go_sem, iI, d1, d2, d4, Int.toNat_natCast, g, hin, z3, z4];rfl
  ·right;have : i = 8 := by omega
   subst this;simp only [lnV];simp only [go_sem, iI]
 rw [hb0] at loop;simp only [lnV] at *;rw [ae yw rfl];simp only [go_sem, loop]
theorem Lz (L hp : List Blk) (v : V) (m i : Int) (r : Int) (base : Nat) (hv : v.locLt L.length = true) (hL : (L.drop base).all (aZ L.length) = true) :
 rc D base (.loop [5, 10, 11, 12, 20] j6) [(5, .int .u32 r), (10, v), (11, .int .i64 m), (12, .int .i64 i), (20, .int .i64 0)] ⟨L, hp⟩ = some (.exit 2, [(5, .int .u32 (ph 8 r)), (10, v), (11, .int .i64 m), (12, .int .i64 i), (20, .int .i64 8), (21, .bool false)], ⟨L, hp⟩) := by
 refine ff (fun k : Nat => [(5, .int .u32 (ph k r)), (10, v), (11, .int .i64 m), (12, .int .i64 i), (20, .int .i64 k)]) (fun _ => ⟨L, hp⟩) (fun _ => _) (fun k => 8 - k) (fun k => k ≤ 8) 0 ?_ (by omega) rfl rfl;intro k hk;by_cases c1 : k < 8
 ·left;have d1 : (k : Int) < 8 := by omega
  have d4 : IntKind.i64.wrap ((k : Int) + 1) = (k : Int) + 1 := ai (by omega) (by omega);have d5 : ¬ (1 : Int) < 0 := by omega
  refine ⟨k + 1, by omega, by omega, rfl, ?_⟩;rw [show ph (k + 1) r = Gj (ph k r) from rfl]
  generalize ph k r = q;simp only [Gj];simp only [go_sem, j6, d1, d4, d5, hv, hL];rfl
 ·right;have : k = 8 := by omega
  subst this;simp only [go_sem, j6]
def fu (r : Int) : Int := kG .u32 (if IntKind.u32.signed then -1 else IntKind.u32.max) r
theorem D1 {r : Int} {bs : List Int} {i : Nat} (hi : i < bs.length) : ir r (bs.take (i + 1)) = ph 8 (kG .u32 (ir r (bs.take i)) (IntKind.u32.wrap (bs.getD i 0))) := by
 rw [List.take_succ_eq_append_getElem hi, Ej, List.getD_eq_getElem?_getD, List.getElem?_eq_getElem hi]; rfl
theorem Be {L hp : List Blk} {v : V} {bs : List Int} (hv : RS ⟨L, hp⟩ 12 v (bs.map (.int .u8))) (hl : bs.length < 1000) (r : Int) :
 rf D pt [.int .u32 r, v] ⟨L, hp⟩ = some (.int .u32 (fu (ir (fu r) bs)), ⟨L, hp⟩) := by
 have hsl : V.slen false v = some bs.length := by
  have := hv.slen
  rwa [List.length_map] at this
 have hvl : v.locLt L.length = true := hv.locLt;have loop : rc D L.length (.loop [5, 10, 11, 12] j7) [(5, .int .u32 (fu r)), (10, v), (11, .int .i64 bs.length), (12, .int .i64 0)] ⟨L, hp⟩ =
  some (.exit 0, [(5, .int .u32 (ir (fu r) bs)), (10, v), (11, .int .i64 bs.length), (12, .int .i64 bs.length), (13, .bool false)], ⟨L, hp⟩) := by
  have hend : ir (fu r) (bs.take bs.length) = ir (fu r) bs := by rw [List.take_length]
  rw [← hend];refine ff (fun i : Nat => [(5, .int .u32 (ir (fu r) (bs.take i))), (10, v), (11, .int .i64 bs.length), (12, .int .i64 i)]) (fun _ => ⟨L, hp⟩) (fun _ => _) (fun i => bs.length - i) (fun i => i ≤ bs.length) 0 ?_ (by omega) rfl rfl;intro i hi;by_cases c1 : i < bs.length
  ·left;have d1 : (i : Int) < bs.length := by omega
   have d4 : IntKind.i64.wrap ((i : Int) + 1) = (i : Int) + 1 := ai (by omega) (by omega);have hg := aG (f := V.int .u8) (l := bs) (i := i) c1 0;have hs := hv.sadq hg (k := .i64);have hld : ldv ⟨L, hp⟩ 12 (elq v i [] 12) = V.at [] (.int .u8 (bs.getD i 0)) := hv.ldq hg;have hin := fun q => Lz L hp v bs.length i q L.length hvl (by rw [List.drop_length]; rfl);refine ⟨i + 1, by omega, by omega, rfl, ?_⟩;rw [D1 c1];generalize ir (fu r) (bs.take i) = q at *;generalize bs.getD i 0 = b at *;simp only [go_sem, j7, d1, hs, hld];simp only [go_sem, hin, d4, hvl];rfl
  ·right;have : i = bs.length := by omega
   subst this;have d1 : ¬ (bs.length : Int) < bs.length := by omega
   simp only [go_sem, j7, d1]
 rw [ae Cy rfl];simp only [fu] at *;simp only [go_sem, hsl, loop]
theorem CZ {L hp : List Blk} {v : V} {bs : List Int} (hv : RS ⟨L, hp⟩ 12 v (bs.map (.int .u8))) (hl : bs.length < 1000) : rf D rJ [v] ⟨L, hp⟩ = some (.int .u32 (fu (ir (fu 0) bs)), ⟨L, hp⟩) := by
 have h := Be hv hl 0;rw [ae EF rfl];simp only [go_sem, h]
def jn (l : List Int) : Int := ior .u64 4294967296 (IntKind.u64.wrap (fu (ir (fu 0) ((List.range 56).map (a7 l 8 0)))))
def a8 (l : List Int) : List Int := l.set 7 (jn l)
theorem lN (l : List Int) : (a8 l).length = l.length := by unfold a8; rw [List.length_set]
theorem i9 {l : List Int} (hl : l.length = 8) (s : St) : rf D pA [lnV l] s = some (lnV (a8 l), s) := by
 have hb := fun L => xC hl ⟨s.loc ++ L, s.hp⟩;have hrs : RS ⟨s.loc ++ [.rw (lnV l), .rw (.agg 24 (List.replicate 8 (.int .u64 0))), .rw (.agg 108 (tab 64 fun j => .int .u8 (a7 l 8 0 j)))], s.hp⟩ 12 (.sl (.loc (s.loc.length + 2)) [] 0 56 (some 64) 12) (((List.range 56).map (a7 l 8 0)).map (.int .u8)) := by
  refine .inr ⟨.loc (s.loc.length + 2), [], 0, some 64, by simp, fun c hc => by cases hc; simp, by simp [V.locLt], .inr ⟨108, tab 64 fun j => .int .u8 (a7 l 8 0 j), ?_, fun j x hx => ?_⟩⟩
  ·simp only [go_sem]
  ·have hj : j < 56 := by
    have := (List.getElem?_eq_some_iff.1 hx).1;simpa using this
   rw [Nat.zero_add, aC (by omega)];simpa [hj] using hx
 have hm := CZ hrs (by simp);have g7 : (l.map (V.int .u64))[7]? = some (.int .u64 (l.getD 7 0)) := aG (by omega) 0;unfold a8 jn;generalize (List.range 56).map (a7 l 8 0) = bs at *;have hst : (l.map (V.int .u64)).set 7 (.int .u64 (ior .u64 4294967296 (IntKind.u64.wrap (fu (ir (fu 0) bs))))) = (l.set 7 (ior .u64 4294967296 (IntKind.u64.wrap (fu (ir (fu 0) bs))))).map (.int .u64) := by rw [List.map_set]
 generalize fu (ir (fu 0) bs) = cc at *;simp only [lnV] at *;rw [← hst];generalize (tab 64 fun j => V.int .u8 (a7 l 8 0 j)) = T at *;rw [ae Dx rfl];simp only [go_sem, hb];simp only [go_sem, hm, g7]
end Go.Proofs.YtilcajpldklbiaaDoor
namespace Go.Proofs.YtilcajpldklbiaaDoor
open Go.Ab
def win (n a b : Int) : Bool := decide (a ≤ n) && decide (n ≤ b)
theorem ux (n a b : Int) (s : St) : rf D kM [.int .i64 n, .int .i64 a, .int .i64 b] s = some (.bool (win n a b), s) := by
 unfold win;rw [ae vM rfl];by_cases h1 : a ≤ n
 ·have h1' : n ≥ a := h1;simp only [go_sem, h1, h1', decide_true]
 ·have h1' : ¬ n ≥ a := h1;simp only [go_sem, h1, h1', decide_false]
def jw (e : Ent) : Bool := win e.kind 0 4 && win e.ver 0 16777215 && win e.line 0 1023 && !(decide (e.kind = 0) && decide (e.line ≠ 0))
def jY (e : Ent) : Int := ior .u64 (ior .u64 (IntKind.u64.wrap e.kind) (nY .u64 (IntKind.u64.wrap e.ver) 4)) (nY .u64 (IntKind.u64.wrap e.line) 28)
def vJ (e : Ent) : Int × Int := if jw e = true then (jY e, 0) else (0, 1)
theorem pZ (e : Ent) (s : St) : rf D nm [e.v] s = some (.tup [.int .u64 (vJ e).1, .int .i64 (vJ e).2], s) := by
 have h := ux;have d4 : ¬ (4 : Int) < 0 := by omega
 have d28 : ¬ (28 : Int) < 0 := by omega
 obtain ⟨k, v, l⟩ := e;unfold vJ jw jY;simp only [Ent.v];rw [ae yc rfl];generalize hA : win k 0 4 = A;generalize hB : win v 0 16777215 = B;generalize hC : win l 0 1023 = C;cases A
 ·simp only [go_sem, h, hA]
 ·cases B
  ·simp only [go_sem, h, hA, hB]
  ·cases C
   ·simp only [go_sem, h, hA, hB, hC]
   ·by_cases hk : k = 0
    ·by_cases hl : l = 0
     ·subst hk; subst hl;simp only [go_sem, h, hA, hB, hC, d4, d28, decide_true, decide_false]
     ·subst hk;simp only [go_sem, h, hA, hB, hC, hl, d4, d28, decide_true, decide_false]
    ·simp only [go_sem, h, hA, hB, hC, hk, d4, d28, decide_true, decide_false]
def lfL (t : Nat → Ent) (k i : Nat) : List Int := (List.range 8).map fun j => if j < i then jY (t (7 * k + j)) else 0
theorem sg (t : Nat → Ent) (k i : Nat) : (lfL t k i).length = 8 := by simp [lfL]
theorem J0 {t : Nat → Ent} {k i : Nat} (hi : i < 7) : (lfL t k i).set i (jY (t (7 * k + i))) = lfL t k (i + 1) := by
 apply List.ext_getElem?;intro j;unfold lfL;by_cases e : i = j
 ·subst e;rw [List.getElem?_set_self (by simp; omega)];simp [show i < 8 by omega]
 ·rw [List.getElem?_set_ne e];simp only [List.getElem?_map];by_cases hj : j < 8
  ·simp only [List.getElem?_range hj, Option.map_some];by_cases h : j < i
   ·rw [if_pos h, if_pos (by omega)]
   ·rw [if_neg h, if_neg (by omega)]
  ·rw [List.getElem?_eq_none (by simp; omega)]; rfl
theorem Hq (t : Nat → Ent) (k : Nat) : lfL t k 0 = zl := rfl
def lz (t : Nat → Ent) (k i n : Nat) : Bool := (List.range n).all fun j => jw (t (7 * k + (i + j)))
def bj (t : Nat → Ent) (k : Nat) : List Int := if lz t k 0 7 = true then a8 (lfL t k 7) else zl
theorem lH (t : Nat → Ent) (k : Nat) : (bj t k).length = 8 := by
 unfold bj;split
 ·rw [lN, sg]
 ·rfl
theorem Bh (t : Nat → Ent) (k i n : Nat) : lz t k i (n + 1) = (jw (t (7 * k + i)) && lz t k (i + 1) n) := by
 unfold lz;rw [List.range_succ_eq_map, List.all_cons, List.all_map];congr 2;funext j;simp only [Function.comp, Nat.succ_eq_add_one];rw [show i + (j + 1) = i + 1 + j by omega]
theorem wY (t : Nat → Ent) {k : Nat} (hk : k < 7) (L hp : List Blk) : ∀ (n i : Nat), i + n = 7 → ∃ r,
 rc D L.length (.loop [1, 2, 4, 6, 17] fM) [(1, .int .i64 k), (2, .ptr (.loc L.length) [] 48), (4, .ptr (.loc (L.length + 1)) [] 24), (6, .ptr (.loc (L.length + 2)) [] 24), (17, .int .i64 i)] ⟨L ++ [.rw (af t), .rw (lnV zl), .rw (lnV (lfL t k i))], hp⟩ = some r ∧
 ((lz t k i n = true ∧ r = (.exit 0, [(1, .int .i64 k), (2, .ptr (.loc L.length) [] 48), (4, .ptr (.loc (L.length + 1)) [] 24), (6, .ptr (.loc (L.length + 2)) [] 24), (17, .int .i64 7), (18, .bool false)], ⟨L ++ [.rw (af t), .rw (lnV zl), .rw (lnV (lfL t k 7))], hp⟩)) ∨
  (lz t k i n = false ∧ ∃ X, r = (.ret, [(4, .ptr (.loc (L.length + 1)) [] 24), (5, .int .i64 1)], ⟨L ++ [.rw (af t), .rw (lnV zl), X], hp⟩)))
 | 0, i, hi => by
  have : i = 7 := by omega
  subst this;refine ⟨_, ?_, .inl ⟨rfl, rfl⟩⟩;rw [ac];simp only [af, lnV];simp only [go_sem, fM]
 | n + 1, i, hi => by
  have d1 : (i : Int) < 7 := by omega
  have d2 : (0 : Int) ≤ i := by omega
  have d3 : (i : Int) < 8 := by omega
  have d4 : IntKind.i64.wrap ((i : Int) + 1) = ((i + 1 : Nat) : Int) := ai (by omega) (by omega);have e1 : IntKind.i64.wrap (7 * (k : Int)) = 7 * k := ai (by omega) (by omega);have e3 : IntKind.i64.wrap (7 * (k : Int) + i) = ((7 * k + i : Nat) : Int) := by rw [ai (by omega) (by omega)]; omega
  have e5 : ((7 * k + i : Nat) : Int) < 49 := by omega
  have e6 : (0 : Int) ≤ ((7 * k + i : Nat) : Int) := by omega
  have g1 := aC (f := fun j => (t j).v) (show 7 * k + i < 49 by omega);have hw := fun s => pZ (t (7 * k + i)) s;have g2 : ((lfL t k i).map (V.int .u64))[i]? = some (.int .u64 ((lfL t k i).getD i 0)) := aG (by rw [sg]; omega) 0;rw [Bh];cases hb : jw (t (7 * k + i))
  ·refine ⟨_, ?_, .inr ⟨by rw [Bool.false_and], .rw (lnV (lfL t k i)), rfl⟩⟩;unfold vJ at hw;rw [hb, if_neg (by simp)] at hw;have hz : (zl.map (V.int .u64)) = List.replicate 8 (.int .u64 0) := rfl;rw [ac];simp only [af, lnV, Ent.v, hz] at *;generalize (tab 49 fun j => V.agg 42 [.int .i64 (t j).kind, .int .i64 (t j).ver, .int .i64 (t j).line]) = T at *;generalize 7 * k + i = p at *;generalize (lfL t k i).map (V.int .u64) = LF at *;simp only [go_sem, fM, d1, e1, e3, e5, e6, Int.toNat_natCast, g1, hw]
  ·obtain ⟨r, q1, q2⟩ := wY t hk L hp n (i + 1) (by omega);refine ⟨r, ?_, by rw [Bool.true_and]; exact q2⟩;unfold vJ at hw;rw [hb, if_pos rfl] at hw;have hs : ((lfL t k i).map (V.int .u64)).set i (.int .u64 (jY (t (7 * k + i)))) = (lfL t k (i + 1)).map (V.int .u64) := by rw [← J0 (by omega), List.map_set]
   have z1 : L.length < L.length + 3 := by omega
   have z3 : L.length + 1 < L.length + 3 := by omega
   have z4 : L.length + 2 < L.length + 3 := by omega
   rw [← q1, ac];simp only [af, lnV, Ent.v] at *;rw [← hs];generalize (tab 49 fun j => V.agg 42 [.int .i64 (t j).kind, .int .i64 (t j).ver, .int .i64 (t j).line]) = T at *;generalize jY (t (7 * k + i)) = w at *;generalize 7 * k + i = p at *;generalize (lfL t k i).map (V.int .u64) = LF at *;generalize (lfL t k i).getD i 0 = w0 at *;simp only [go_sem, fM, d1, d2, d3, d4, e1, e3, e5, e6, Int.toNat_natCast, g1, g2, hw, z1, z3, z4]
theorem qi (t : Nat → Ent) {k : Nat} (hk : k < 7) (s : St) : ∃ e, rf D kj [af t, .int .i64 k] s = some (.tup [lnV (bj t k), .int .i64 e], s) := by
 obtain ⟨r, q1, q2⟩ := wY t hk s.loc s.hp 7 0 rfl;have d1 : ¬ (k : Int) < 0 := by omega
 have d2 : ¬ (k : Int) ≥ 7 := by omega
 rw [show ((0 : Nat) : Int) = 0 from rfl, Hq] at q1
 have hseal := fun s => i9 (sg t k 7) s;have hz : (zl.map (V.int .u64)) = List.replicate 8 (.int .u64 0) := rfl;unfold bj;rcases q2 with ⟨c, rfl⟩ | ⟨c, X, rfl⟩
 ·refine ⟨0, ?_⟩;rw [c, if_pos rfl];simp only [af, lnV, hz] at *;rw [ae qW rfl];simp only [go_sem, d1, d2, q1];simp only [go_sem, hseal]
 ·refine ⟨1, ?_⟩;rw [c, if_neg (by simp)];simp only [af, lnV, hz] at *;rw [ae qW rfl];simp only [go_sem, d1, d2, q1]
end Go.Proofs.YtilcajpldklbiaaDoor
namespace Go.Proofs.YtilcajpldklbiaaDoor
open Go.Ab
def rlL (d : Nat → Int) (i : Nat) : List Int := (List.range 8).map fun j => if j < i then ior .u64 4294967296 (IntKind.u64.wrap (d j)) else 0
theorem wH (d : Nat → Int) (i : Nat) : (rlL d i).length = 8 := by simp [rlL]
theorem KN {d : Nat → Int} {i : Nat} (hi : i < 7) : (rlL d i).set i (ior .u64 4294967296 (IntKind.u64.wrap (d i))) = rlL d (i + 1) := by
 apply List.ext_getElem?;intro j;unfold rlL;by_cases e : i = j
 ·subst e;rw [List.getElem?_set_self (by simp; omega)];simp [show i < 8 by omega]
 ·rw [List.getElem?_set_ne e];simp only [List.getElem?_map];by_cases hj : j < 8
  ·simp only [List.getElem?_range hj, Option.map_some];by_cases h : j < i
   ·rw [if_pos h, if_pos (by omega)]
   ·rw [if_neg h, if_neg (by omega)]
  ·rw [List.getElem?_eq_none (by simp; omega)]; rfl
def gD (d : Nat → Int) (i n : Nat) : Bool := (List.range n).all fun j => decide (0 ≤ d (i + j)) && decide (d (i + j) < 1024)
def aL (d : Nat → Int) : List Int := if gD d 0 7 = true then a8 (rlL d 7) else zl
theorem nR (d : Nat → Int) : (aL d).length = 8 := by
 unfold aL;split
 ·rw [lN, wH]
 ·rfl
theorem AV (d : Nat → Int) (i n : Nat) : gD d i (n + 1) = ((decide (0 ≤ d i) && decide (d i < 1024)) && gD d (i + 1) n) := by
 unfold gD;rw [List.range_succ_eq_map, List.all_cons, List.all_map];congr 2;funext j;simp only [Function.comp, Nat.succ_eq_add_one];rw [show i + (j + 1) = i + 1 + j by omega]
def d7V (d : Nat → Int) : V := .agg 60 (tab 7 fun i => .int .i64 (d i))
theorem wO (d : Nat → Int) (L hp : List Blk) (u : Blk) : ∀ (n i : Nat), i + n = 7 → ∃ r,
 rc D L.length (.loop [2, 4, 7, 8] ef) [(2, .ptr (.loc (L.length + 1)) [] 24), (4, .ptr (.loc (L.length + 2)) [] 24), (7, d7V d), (8, .int .i64 i)] ⟨L ++ [.rw (d7V d), .rw (lnV zl), .rw (lnV (rlL d i))], hp⟩ = some r ∧
 ((gD d i n = true ∧ r = (.exit 0, [(2, .ptr (.loc (L.length + 1)) [] 24), (4, .ptr (.loc (L.length + 2)) [] 24), (7, d7V d), (8, .int .i64 7), (9, .bool false)], ⟨L ++ [.rw (d7V d), .rw (lnV zl), .rw (lnV (rlL d 7))], hp⟩)) ∨
  (gD d i n = false ∧ ∃ X, r = (.ret, [(2, .ptr (.loc (L.length + 1)) [] 24), (3, .int .i64 1)], ⟨L ++ [.rw (d7V d), .rw (lnV zl), X], hp⟩)))
 | 0, i, hi => by
  have : i = 7 := by omega
  subst this;refine ⟨_, ?_, .inl ⟨rfl, rfl⟩⟩;rw [ac];simp only [d7V, lnV];simp only [go_sem, ef]
 | n + 1, i, hi => by
  have d1 : (i : Int) < 7 := by omega
  have d2 : (0 : Int) ≤ i := by omega
  have d3 : (i : Int) < 8 := by omega
  have d4 : IntKind.i64.wrap ((i : Int) + 1) = ((i + 1 : Nat) : Int) := ai (by omega) (by omega);have g1 := aC (f := fun j => V.int .i64 (d j)) (show i < 7 by omega);have g2 : ((rlL d i).map (V.int .u64))[i]? = some (.int .u64 ((rlL d i).getD i 0)) := aG (by rw [wH]; omega) 0;have z1 : L.length < L.length + 3 := by omega
  have z3 : L.length + 1 < L.length + 3 := by omega
  have z4 : L.length + 2 < L.length + 3 := by omega
  have hs : ((rlL d i).map (V.int .u64)).set i (.int .u64 (ior .u64 4294967296 (IntKind.u64.wrap (d i)))) = (rlL d (i + 1)).map (V.int .u64) := by rw [← KN (by omega), List.map_set]
  rw [AV];by_cases h0 : d i < 0
  ·refine ⟨_, ?_, .inr ⟨by rw [decide_eq_false (show ¬ 0 ≤ d i by omega)]; rfl, .rw (lnV (rlL d i)), rfl⟩⟩;have hz : (zl.map (V.int .u64)) = List.replicate 8 (.int .u64 0) := rfl;rw [ac];simp only [d7V, lnV, hz] at *;generalize (tab 7 fun j => V.int .i64 (d j)) = T at *;generalize (rlL d i).map (V.int .u64) = LF at *;simp only [go_sem, ef, d1, d2, Int.toNat_natCast, g1, h0]
  ·by_cases h1 : d i < 1024
   ·obtain ⟨r, q1, q2⟩ := wO d L hp u n (i + 1) (by omega);refine ⟨r, ?_, by rw [decide_eq_true (show 0 ≤ d i by omega), decide_eq_true h1]; exact q2⟩;have h1' : ¬ d i ≥ 1024 := by omega
    rw [← q1, ac];simp only [d7V, lnV] at *;rw [← hs];generalize (tab 7 fun j => V.int .i64 (d j)) = T at *;generalize (rlL d i).map (V.int .u64) = LF at *;generalize (rlL d i).getD i 0 = w0 at *;generalize d i = di at *;simp only [go_sem, ef, d1, d2, d3, d4, Int.toNat_natCast, g1, g2, h0, h1', z1, z3, z4]
   ·refine ⟨_, ?_, .inr ⟨by rw [decide_eq_false h1, Bool.and_false]; rfl, .rw (lnV (rlL d i)), rfl⟩⟩;have hz : (zl.map (V.int .u64)) = List.replicate 8 (.int .u64 0) := rfl;have h1' : d i ≥ 1024 := by omega
    rw [ac];simp only [d7V, lnV, hz] at *;generalize (tab 7 fun j => V.int .i64 (d j)) = T at *;generalize (rlL d i).map (V.int .u64) = LF at *;generalize d i = di at *;simp only [go_sem, ef, d1, d2, Int.toNat_natCast, g1, h0, h1']
theorem qq (d : Nat → Int) (s : St) : ∃ e, rf D ka [d7V d] s = some (.tup [lnV (aL d), .int .i64 e], s) := by
 obtain ⟨r, q1, q2⟩ := wO d s.loc s.hp .dead 7 0 rfl;have h0 : rlL d 0 = zl := rfl;rw [show ((0 : Nat) : Int) = 0 from rfl, h0] at q1
 have hseal := fun s => i9 (wH d 7) s;have hz : (zl.map (V.int .u64)) = List.replicate 8 (.int .u64 0) := rfl;unfold aL;rcases q2 with ⟨c, rfl⟩ | ⟨c, X, rfl⟩
 ·refine ⟨0, ?_⟩;rw [c, if_pos rfl];simp only [d7V, lnV, hz] at *;rw [ae qG rfl];simp only [go_sem, q1];simp only [go_sem, hseal]
 ·refine ⟨1, ?_⟩;rw [c, if_neg (by simp)];simp only [d7V, lnV, hz] at *;rw [ae qG rfl];simp only [go_sem, q1]
def Nw (a b : Ent) : Bool := decide (a.kind = b.kind) && (decide (a.ver = b.ver) && decide (a.line = b.line))
def IE (f g : Nat → Ent) : List Nat → Bool
 | [] => true
 | i :: l => Nw (f i) (g i) && IE f g l
def NF (t u : Nat → Ent) (k : Nat) : Bool := !IE (fun i => t (7 * k + i)) (fun i => u (7 * k + i)) (List.range 7)
def LM (t u : Nat → Ent) : Nat → List Int
 | 0 => []
 | k + 1 => if NF t u k = true then LM t u k ++ [(k : Int)] else LM t u k
end Go.Proofs.YtilcajpldklbiaaDoor
namespace Go.Proofs.YtilcajpldklbiaaDoor
open Go.Ab
structure Thr where
 pc : Int
 r0 : Int
 r1 : Int
 r2 : Int
 r3 : Int
 sp : Int
 ky : Int
 st : Int
 at' : Int
 sl : Int
 fl : Int
def Thr.v (t : Thr) : V := .agg 64 [.int .i64 t.pc, .agg 62 [.int .u64 t.r0, .int .u64 t.r1, .int .u64 t.r2, .int .u64 t.r3], .int .u64 t.sp, .int .u64 t.ky, .int .i64 t.st, .int .i64 t.at', .int .i64 t.sl, .int .i64 t.fl]
theorem Kw {b : Nat} (hb : 1 ≤ b) (hb2 : b ≤ 64) (hm : 18446744073709551615 / 2 ^ (64 - b) = 2 ^ b - 1) (s : St) : rf D oo [.int .i64 b] s = some (.int .u64 (2 ^ b - 1 : Nat), s) := by
 have e1 : IntKind.i64.wrap (64 - (b : Int)) = ((64 - b : Nat) : Int) := by rw [ai (by omega) (by omega)]; omega
 have e2 : iT .u64 18446744073709551615 ((64 - b : Nat) : Int) = ((2 ^ b - 1 : Nat) : Int) := by
  rw [pQ 18446744073709551615 (64 - b) (by omega), ← hm, Int.natCast_ediv, Int.natCast_pow]; rfl
 have e3 : ¬ ((64 - b : Nat) : Int) < 0 := by omega
 generalize 64 - b = q at *;generalize 2 ^ b - 1 = z at *;rw [ae AO rfl];simp only [go_sem, e1, e2, e3]
theorem El {a b : Nat} (hb : 1 ≤ b) (hab : a + b ≤ 64) (s : St) : rf D mV [.int .i64 a, .int .i64 b] s = some (.bool true, s) := by
 have e1 : IntKind.i64.wrap (64 - (a : Int)) = 64 - (a : Int) := ai (by omega) (by omega);have c1 : (0 : Int) ≤ a := by omega
 have c2 : (a : Int) < 64 := by omega
 have c3 : (1 : Int) ≤ b := by omega
 have c4 : (b : Int) ≤ 64 - a := by omega
 rw [ae An rfl];simp only [go_sem, c1, c2, c3, e1, c4]
theorem EK {w a b : Nat} (hb : 1 ≤ b) (hab : a + b ≤ 64) (hw : w < 18446744073709551616) (hm : 18446744073709551615 / 2 ^ (64 - b) = 2 ^ b - 1) (s : St) :
 rf D nc [.int .u64 w, .int .i64 a, .int .i64 b] s = some (.int .u64 (w / 2 ^ a % 2 ^ b : Nat), s) := by
 have h1 := fun s => El hb hab s;have h2 := fun s => Kw hb (by omega) hm s;have e1 : iT .u64 (w : Int) (a : Int) = ((w / 2 ^ a : Nat) : Int) := by
  rw [pQ (w : Int) a (by omega), Int.natCast_ediv, Int.natCast_pow]; rfl
 have e2 : j5 .u64 ((w / 2 ^ a : Nat) : Int) ((2 ^ b - 1 : Nat) : Int) = ((w / 2 ^ a % 2 ^ b : Nat) : Int) := by
  have hlt : w / 2 ^ a < 18446744073709551616 := Nat.lt_of_le_of_lt (Nat.div_le_self _ _) hw;generalize w / 2 ^ a = y at *;have := xk (y : Int) b (by omega) (by omega) (by omega);have hp := Nat.two_pow_pos b;rw [show ((2 ^ b - 1 : Nat) : Int) = 2 ^ b - 1 by rw [Int.natCast_sub hp, Int.natCast_pow]; rfl, this, Int.natCast_emod, Int.natCast_pow]; rfl
 have e3 : ¬ (a : Int) < 0 := by omega
 generalize w / 2 ^ a % 2 ^ b = z at *;generalize w / 2 ^ a = y at *;generalize 2 ^ b - 1 = m at *;rw [ae Ay rfl];simp only [go_sem, h1, h2, e1, e2, e3]
end Go.Proofs.YtilcajpldklbiaaDoor
namespace Go.Proofs.YtilcajpldklbiaaDoor
open Go.Ab
def AM.stp (M : AM) : AM := if M.dead then M.out else M.stepped
def AM.stpE (M : AM) : Int := if M.dead then 4 else 0
theorem pH {k n k' n' : Nat} {cp cp' : Option Nat} {o o' b b' : Bool} {l l' c c' : Int} (h : bw k n cp o b l c = bw k' n' cp' o' b' l' c') : k = k' := by
 simp only [bw, V.agg.injEq, List.cons.injEq, V.sl.injEq, Loc.hp.injEq, true_and, and_true] at h;exact h.1.1
theorem uC {hp : List Blk} {F : Ft} {m : Nat} {M : AM} (h : ay hp F m M) (hc : M.count < 1000000) :
 ∃ hp', (∀ L, rf D cG [.ptr (.hp m) [] 59] ⟨L, hp⟩ = some (.int .i64 M.stpE, ⟨L, hp'⟩)) ∧ ay hp' F m M.stp ∧ Chg hp hp' F F ∧
  ∀ k n cp o b l c, hp[m]? = some (.rw (bw k n cp o b l c)) → ∃ o' b' l' c', hp'[m]? = some (.rw (bw k n cp o' b' l' c')) := by
 have hM := h;obtain ⟨k, fk, ne, ⟨cp, left, h1, h2, h3⟩, sv, ow, h4, h5⟩ := h.mb;have ok := h.ok;have hc0 := ok.c0;have lf := ok.lf;have hml := ap h1;have hstep := fun L => xp (L := L) h1 hc0 (by omega) (fun hb => by have hb := of_decide_eq_true hb; rw [h3 hb]; exact hb) (fun hb => by rw [h3 (of_decide_eq_true hb)]; have := ok.lg; omega);have keep : ∀ (o2 b2 : Bool) (l2 c2 : Int), ∀ k' n' cp' o b l c, hp[m]? = some (.rw (bw k' n' cp' o b l c)) → ∃ o' b' l' c', (hp.set m (.rw (bw k M.n cp o2 b2 l2 c2)))[m]? = some (.rw (bw k' n' cp' o' b' l' c')) := by
  intro o2 b2 l2 c2 k' n' cp' o b l c hh;rw [h1] at hh;have hh := Option.some.inj hh;simp only [bw, Blk.rw.injEq, V.agg.injEq, List.cons.injEq, V.sl.injEq, Loc.hp.injEq, true_and, and_true] at hh;obtain ⟨⟨rfl, rfl, rfl⟩, _⟩ := hh;exact ⟨_, _, _, _, List.getElem?_set_self hml⟩
 unfold AM.stp AM.stpE;by_cases hd : M.dead = true
 ·rw [hd, if_pos rfl, if_pos rfl];have hd' : M.off = true ∨ M.left = 0 := by simpa [AM.dead] using hd
  obtain ⟨g1, g2⟩ := hM.setm (M' := M.out) ok.out rfl rfl rfl h1 (left' := left) (by simpa [AM.out] using h3);refine ⟨_, fun L => ?_, g1, g2, keep _ _ _ _⟩;rw [hstep L, if_pos]
  ·rfl
  ·rcases hd' with hd' | hd'
   ·exact .inl hd'
   ·exact .inr ⟨by simp [hd'], by rw [h3 (by omega)]; exact hd'⟩
 ·have hdf : M.dead = false := by simpa using hd
  rw [hdf, if_neg (by simp), if_neg (by simp)];have hd' : M.off = false ∧ ¬ M.left = 0 := by simpa [AM.dead] using hd
  have hlv : 0 ≤ M.stepped.left → (if decide (0 ≤ M.left) = true then left - 1 else left) = M.stepped.left := by
   intro hh;simp only [AM.stepped, decide_eq_true_eq] at hh ⊢;split at hh
   ·rw [if_pos (by omega), if_pos (by omega), h3 (by omega)]
   ·omega
  have hbe : decide (0 ≤ M.stepped.left) = decide (0 ≤ M.left) := by
   apply decide_eq_decide.2;simp only [AM.stepped];split <;> omega
  obtain ⟨g1, g2⟩ := hM.setm (M' := M.stepped) ok.stepped rfl rfl rfl h1 hlv;refine ⟨_, fun L => ?_, g1, g2, keep _ _ _ _⟩;rw [hstep L, if_neg, hbe]
  ·rw [show M.stepped.off = M.off from rfl, hd'.1]; rfl
  ·rintro (hh | ⟨hh, hz⟩)
   ·rw [hd'.1] at hh; cases hh
   ·exact hd'.2 (by rw [← h3 (of_decide_eq_true hh)]; exact hz)
def Dn.fl (c : Nat) (d : Dn) : Dn := { d with cs := upd d.cs c true }
theorem uu (c : Nat) : ∀ l : List Dn, flN c (l.map (Dn.fl c)) = l.length
 | [] => rfl
 | d :: l => by
  simp only [List.map_cons, flN, uu c l, List.length_cons];split
  ·rename_i h; simp [Dn.fl, aj, h]
  ·rfl
theorem EO {c c' : Nat} (h : c' ≠ c) : ∀ l : List Dn, flN c' (l.map (Dn.fl c)) = flN c' l
 | [] => rfl
 | d :: l => by
  simp only [List.map_cons, flN, EO h l];have : (d.fl c).cs c' = d.cs c' := by simp only [Dn.fl]; rw [an h]
  rw [this]
theorem rq (c : Nat) : ∀ (l : List Dn) (x : List Int), ak x (l.map (Dn.fl c)) = ak x l
 | [], _ => rfl
 | _ :: l, x => rq c l _
theorem Nj (c : Nat) (l : List Dn) : (l.map (Dn.fl c)).map Dn.v1 = l.map Dn.v1 := by
 rw [List.map_map]; rfl
def AM.flushed (M : AM) (c i : Nat) : AM := { M with L := upd M.L i ((M.L i).map (Dn.fl c)) }
def AM.flush (M : AM) (c i : Int) : AM × Int := if i < 0 ∨ (M.n : Int) ≤ i ∨ c < 0 ∨ 8 ≤ c then (M, 1) else if M.dead then (M.out, 4) else (M.stepped.flushed c.toNat i.toNat, 0)
theorem AM.Ok.flushed {M : AM} (h : M.Ok) (c i : Nat) : (M.flushed c i).Ok := by
 refine ⟨h.n0, h.n1, h.l8, fun j hj d hd => ?_, h.c0, fun j hj => ?_, h.lf, h.lg⟩
 ·simp only [AM.flushed] at hd;by_cases e : j = i
  ·subst e;rw [aj] at hd;obtain ⟨d', hd', rfl⟩ := List.mem_map.1 hd;exact h.w8 j hj d' hd'
  ·rw [an e] at hd; exact h.w8 j hj d hd
 ·simp only [AM.flushed];by_cases e : j = i
  ·subst e; rw [aj, List.length_map]; exact h.len j hj
  ·rw [an e]; exact h.len j hj
theorem AM.now_flushed {M : AM} {c i j : Nat} : (M.flushed c i).now j = M.now j := by
 unfold AM.now AM.flushed;simp only;by_cases e : j = i
 ·subst e; rw [aj, rq]
 ·rw [an e]
theorem Mn {c : Nat} (hc : c < 8) (l : List Dn) : ∀ T, flV l = .agg 50 T → flV (l.map (Dn.fl c)) = .agg 50 (T.set c (.int .i64 l.length)) := by
 intro T hT;unfold flV at hT ⊢;cases hT;congr 1;rw [eM];apply bM;intro j _;by_cases e : j = c
 ·subst e; rw [aj, uu]
 ·rw [an e, EO e]
theorem kY {hp : List Blk} {F : Ft} {m : Nat} {M : AM} (h : ay hp F m M) (hc : M.count < 1000000) (c i : Int) (L : List Blk) :
 ∃ hp', rf D da [.ptr (.hp m) [] 59, .int .i64 c, .int .i64 i] ⟨L, hp⟩ = some (.int .i64 (M.flush c i).2, ⟨L, hp'⟩) ∧ ay hp' F m (M.flush c i).1 ∧ Chg hp hp' F F := by
 have hM := h;obtain ⟨k, fk, ne, ⟨cp, left, h1, h2, h3⟩, sv0, ow0, h40, h50⟩ := h.mb;have ha := fun L => vS (L := L) h1 i;have ok := h.ok;unfold AM.flush;by_cases hi : i < 0 ∨ (M.n : Int) ≤ i
 ·rw [if_neg (by omega)] at ha;rw [if_pos (by omega)];refine ⟨hp, ?_, hM, .refl _ _⟩;rw [ae eX rfl];simp only [go_sem, ha]
 ·rw [if_pos (by omega)] at ha;by_cases hq : c < 0 ∨ 8 ≤ c
  ·rw [if_pos (by omega)];refine ⟨hp, ?_, hM, .refl _ _⟩;rw [ae eX rfl];by_cases hq0 : c < 0
   ·simp only [go_sem, ha, hq0]
   ·have hq8 : c ≥ 8 := by omega
    simp only [go_sem, ha, hq0, hq8]
  ·rw [if_neg (by omega)];obtain ⟨j, rfl⟩ : ∃ j : Nat, i = j := ⟨i.toNat, by omega⟩;obtain ⟨p, rfl⟩ : ∃ p : Nat, c = p := ⟨c.toNat, by omega⟩;simp only [Int.toNat_natCast] at ha ⊢;have d1 : ¬ (p : Int) < 0 := by omega
   have d2 : ¬ (p : Int) ≥ 8 := by omega
   have d3 : (p : Int) < 8 := by omega
   have d4 : (0 : Int) ≤ p := by omega
   obtain ⟨hp1, s1, s2, s3, s4⟩ := uC hM hc;unfold AM.stpE at s1;unfold AM.stp at s2;by_cases hd : M.dead = true
   ·rw [if_pos hd];rw [hd, if_pos rfl] at s1 s2;refine ⟨hp1, ?_, s2, s3⟩;rw [ae eX rfl];simp only [go_sem, ha, d1, d2, s1]
   ·have hdf : M.dead = false := by simpa using hd
    rw [if_neg hd];rw [hdf, if_neg (by simp)] at s1 s2;obtain ⟨o', b', l', c', s5⟩ := s4 _ _ _ _ _ _ _ h1;have hM1 := s2;obtain ⟨k', fk', ne', ⟨cp', left', q1, q2, q3⟩, sv, ow, q4, q5⟩ := s2.mb;have hkk : k = k' := pH (Blk.rw.inj (Option.some.inj (s5.symm.trans q1)));subst hkk;have e1 : M.stepped.n = M.n := rfl;have e2 : M.stepped.S = M.S := rfl;have e3 : M.stepped.L = M.L := rfl;rw [e1, e2, e3] at q4;rw [e1, e3] at q5;have hj : j < M.n := by omega
    have g := aC (f := fun i => plV (M.S i) (M.L i) (sv i)) hj;have hsl := (q5 j hj).slen;rw [List.length_map] at hsl;have gf := aC (f := fun c => V.int .i64 (flN c (M.L j) : Nat)) (show p < 8 by omega);have hfl := Mn (show p < 8 by omega) (M.L j) _ rfl;have hkl := ap q4;refine ⟨hp1.set k (.rw (.agg 57 ((tab M.n fun i => plV (M.S i) (M.L i) (sv i)).set j (plV (M.S j) ((M.L j).map (Dn.fl p)) (sv j))))), ?_, ⟨ok.stepped.flushed p j, hM1.inn.set, hM1.fm, k, fk', ne', ⟨cp', left', ?_, q2, q3⟩, sv, ow, ?_, fun x hx => ?_⟩, s3.trans (jF.mono (fun x hx => by cases hx; exact fk') fun _ => .inr)⟩
    ·have hpl : plV (M.S j) ((M.L j).map (Dn.fl p)) (sv j) = .agg 55 [lnV (ak (M.S j) (M.L j)), lnV (M.S j), sv j, .agg 50 ((tab 8 fun c => V.int .i64 (flN c (M.L j) : Nat)).set p (.int .i64 (M.L j).length))] := by
      simp only [plV, nlV, rq, hfl]
     rw [hpl];have hg0 : plV (M.S j) (M.L j) (sv j) = .agg 55 [lnV (ak (M.S j) (M.L j)), lnV (M.S j), sv j, .agg 50 (tab 8 fun c => V.int .i64 (flN c (M.L j) : Nat))] := rfl;rw [hg0] at g;generalize (tab 8 fun c => V.int .i64 (flN c (M.L j) : Nat)) = TF at *;generalize (tab M.n fun i => plV (M.S i) (M.L i) (sv i)) = T0 at *;generalize lnV (ak (M.S j) (M.L j)) = N1 at *;rw [ae eX rfl];simp only [go_sem, ha, d1, d2, d3, d4, s1, q4, g, hsl, Int.toNat_natCast, gf]
    ·rw [List.getElem?_set_ne (Ne.symm ne')]; exact q1
    ·rw [eM, List.getElem?_set_self hkl];congr 4; funext x;unfold upd AM.flushed;simp only;by_cases e : x = j
     ·subst e; rw [if_pos rfl, aj]; rfl
     ·rw [if_neg e, an e]; rfl
    ·have e5 : ((M.stepped.flushed p j).L x).map Dn.v1 = (M.L x).map Dn.v1 := by
      unfold AM.flushed;simp only;by_cases e : x = j
      ·subst e; rw [aj]; exact Nj p _
      ·rw [an e]; rfl
     rw [e5];exact (q5 x hx).eqv (fun y hy => List.getElem?_set_ne (Ne.symm hy.2.2.1)) fun _ hy => hy
end Go.Proofs.YtilcajpldklbiaaDoor
namespace Go.Proofs.YtilcajpldklbiaaDoor
open Go.Ab
theorem SlR.sub {e r : Nat} {hp : List Blk} {G : Ft} {v : V} {l : List V} (h : SlR hp G e r v l) {n : Nat} (hn : n ≤ l.length) : ∃ v1 v2, eJ e none (some (.int .i64 (n : Int))) none v = some v1 ∧ eJ e (some (.int .i64 (n : Int))) none none v = some v2 ∧
 (∀ hp' : List Blk, (∀ j, G j → hp'[j]? = hp[j]?) → ∀ L, RS ⟨L, hp'⟩ e v1 (l.take n) ∧ RS ⟨L, hp'⟩ e v2 (l.drop n)) ∧ (v2 = .nils ∨ ∃ a p o n c, v2 = .sl a p o n c e) := by
 cases h with
 | nil =>
  have : n = 0 := by simpa using hn
  subst this;exact ⟨.nils, .nils, rfl, rfl, fun _ _ _ => ⟨.inl ⟨rfl, rfl⟩, .inl ⟨rfl, rfl⟩⟩, .inl rfl⟩
 | emp a p o =>
  have : n = 0 := by simpa using hn
  subst this;have k1 : eJ e none (some (.int .i64 ((0 : Nat) : Int))) none (.sl (.hp a) p o 0 (some 0) e) = some (.sl (.hp a) p o 0 (some 0) e) := by simp [eJ, ah, ab, gj, kT]
  have k2 : eJ e (some (.int .i64 ((0 : Nat) : Int))) none none (.sl (.hp a) p o 0 (some 0) e) = some (.sl (.hp a) p o 0 (some 0) e) := by simp [eJ, ah, ab, gj, kT]
  exact ⟨_, _, k1, k2, fun _ _ _ => ⟨.inr ⟨_, _, _, _, rfl, fun c hc => by cases hc; exact Nat.le_refl _, rfl, .inl rfl⟩, .inr ⟨_, _, _, _, rfl, fun c hc => by cases hc; exact Nat.le_refl _, rfl, .inl rfl⟩⟩, .inr ⟨_, _, _, _, _, rfl⟩⟩
 | blk a c l hc hG hb =>
  have hrd : ∀ hp' : List Blk, (∀ j, G j → hp'[j]? = hp[j]?) → hp'[a]? = some (.rw (.agg r l)) := fun hp' he => by rw [he a hG]; exact hb
  have hcd : c.getD l.length = l.length := by rcases hc with rfl | rfl <;> rfl
  have hlt : (n : Int) ≤ (l.length : Nat) := by omega
  have key1 : eJ e none (some (.int .i64 (n : Int))) none (.sl (.hp a) [] 0 l.length c e) = some (.sl (.hp a) [] 0 n (kT false c l.length) e) := by
   simp only [eJ, if_true, ah, aM, gj, Option.isSome_none, Bool.false_eq_true, if_false];rw [if_pos ⟨by omega, by omega⟩];simp [aM, hcd]
  have key2 : eJ e (some (.int .i64 (n : Int))) none none (.sl (.hp a) [] 0 l.length c e) = some (.sl (.hp a) [] n (l.length - n) (kT false c (l.length - n)) e) := by
   simp only [eJ, if_true, ah, aM, gj, Option.isSome_none, Bool.false_eq_true, if_false];rw [if_pos ⟨by omega, by omega⟩];simp [aM, hcd]
  refine ⟨_, _, key1, key2, fun hp' he L => ⟨.inr ⟨.hp a, [], 0, _, by rw [List.length_take, Nat.min_eq_left hn], ?_, rfl, ?_⟩, .inr ⟨.hp a, [], n, _, by rw [List.length_drop], ?_, rfl, ?_⟩⟩, .inr ⟨_, _, _, _, _, rfl⟩⟩
  ·intro c' hc';rcases hc with rfl | rfl
   ·cases hc'
   ·cases hc'; rw [List.length_take]; omega
  ·refine .inr ⟨r, l, by rw [my, hrd hp' he]; rfl, fun j x hx => ?_⟩;rw [List.getElem?_take] at hx;split at hx
   ·rw [Nat.zero_add]; exact hx
   ·cases hx
  ·intro c' hc';rcases hc with rfl | rfl
   ·cases hc'
   ·cases hc'; rw [List.length_drop]; exact Nat.le_refl _
  ·refine .inr ⟨r, l, by rw [my, hrd hp' he]; rfl, fun j x hx => ?_⟩;rw [List.getElem?_drop] at hx;exact hx
theorem Bi {H : List Blk} {v : V} {l : List V} (hsh : v = .nils ∨ ∃ a p o n c, v = .sl a p o n c 84) (hel : ∀ L, RS ⟨L, H⟩ 84 v l) (hl : V.locLts 0 l = true) (hm : l.length ≤ fB) :
 ∃ H1 v', H <+: H1 ∧ (∀ L, rf D eh [v] ⟨L, H⟩ = some (v', ⟨L, H1⟩)) ∧ SlR H1 (fun j => H.length ≤ j ∧ j < H1.length) 84 86 v' l := by
 by_cases hv : v = .nils
 ·subst hv;have : l = [] := by
   have := (hel []).elems;cases this; rfl
  subst this;refine ⟨H, .nils, List.prefix_refl _, fun L => ?_, .nil⟩;rw [ae eC rfl];simp only [go_sem]
 ·obtain ⟨a, p, o, n, c', rfl⟩ := hsh.resolve_left hv;have hel1 : ∀ L, St.elems ⟨L, H ++ [.rw (.agg 86 [])]⟩ (.sl a p o n c' 84) = some l := fun L => ((hel L).more (s' := ⟨L, H ++ [.rw (.agg 86 [])]⟩) ⟨List.prefix_rfl, List.prefix_append _ _⟩).elems;have h0 : SlR (H ++ [.rw (.agg 86 [])]) (fun i => i = H.length) 84 86 (.sl (.hp H.length) [] 0 ([] : List V).length (some ([] : List V).length) 84) [] := .blk _ _ _ (.inr rfl) rfl (by simp);by_cases hn : l = []
  ·subst hn;refine ⟨H ++ [.rw (.agg 86 [])], .sl (.hp H.length) [] 0 0 (some 0) 84, List.prefix_append _ _, fun L => ?_, .blk H.length (some 0) [] (.inr rfl) ⟨Nat.le_refl _, by simp⟩ (by simp)⟩;have key : ∀ base, aH base true 86 84 (.sl (.hp H.length) [] 0 0 (some 0) 84) (.sl a p o n c' 84) ⟨L, H ++ [.rw (.agg 86 [])]⟩ = some (.sl (.hp H.length) [] 0 0 (some 0) 84, ⟨L, H ++ [.rw (.agg 86 [])]⟩) := by
    intro base;unfold aH;have e1 : St.elems ⟨L, H ++ [.rw (.agg 86 [])]⟩ (.sl (.hp H.length) [] 0 0 (some 0) 84) = some [] := h0.elems L;have e3 : V.slIs 84 (.sl (.hp H.length) [] 0 0 (some 0) 84) = true := by simp [V.slIs]
    have e4 : V.elIs 84 (.sl a p o n c' 84) = true := by simp [V.elIs]
    rw [e1, hel1 L, e3, e4];rfl
   rw [ae eC rfl];simp only [go_sem, List.replicate_zero, key]
  ·refine ⟨H ++ [.rw (.agg 86 []), .rw (.agg 86 l)], .sl (.hp (H.length + 1)) [] 0 l.length none 84, List.prefix_append _ _, fun L => ?_, .blk _ none _ (.inl rfl) ⟨by omega, by simp⟩ (by simp)⟩;have key : ∀ base, aH base true 86 84 (.sl (.hp H.length) [] 0 0 (some 0) 84) (.sl a p o n c' 84) ⟨L, H ++ [.rw (.agg 86 [])]⟩ = some (.sl (.hp (H.length + 1)) [] 0 l.length none 84, ⟨L, H ++ [.rw (.agg 86 []), .rw (.agg 86 l)]⟩) := by
    intro base;have := sa (base := base) (h := true) (r := 86) (e := 84) (x := .sl (.hp H.length) [] 0 0 (some 0) 84) (old := []) (new := l) (s := ⟨L, H ++ [.rw (.agg 86 [])]⟩) (.inr ⟨_, _, _, _, _, rfl⟩) (.inr ⟨_, _, _, _, _, rfl⟩) (h0.elems L) (hel1 L) hn (by simpa using hm) (.inl rfl);rw [this];have hp0 : 0 < l.length := List.length_pos_iff.2 hn;simp only [nD, Option.map_some, List.length_nil, Nat.zero_add, hp0, decide_true, if_true];simp [St.fresh, St.new]
   rw [ae eC rfl];simp only [go_sem, List.replicate_zero, key]
theorem AB (c : Nat) : ∀ (n : Nat) (l : List Dn), flN c (l.drop n) = flN c l - n
 | 0, l => rfl
 | n + 1, [] => by simp [flN]
 | n + 1, d :: l => by
  rw [List.drop_succ_cons, AB c n l];simp only [flN];split
  ·rename_i h;rw [h];split <;> omega
  ·omega
theorem FH {S : List Int} {l : List Dn} {q : Nat} (h : q < l.length) : ak S (l.take (q + 1)) = (ak S (l.take q)).set l[q].w l[q].v := by
 rw [List.take_succ_eq_append_getElem h, jT];rfl
section
variable {hp : List Blk} {k i N : Nat} {T : List V} {nw fl : V} {S : List Int} {l : List Dn} {sv : V} {G : Ft}
def lnB (k i : Nat) (T : List V) (hp : List Blk) (x : V) : List Blk := hp.set k (.rw (.agg 57 (T.set i x)))
theorem KK (hk : k < hp.length) (hi : i < T.length) (h8 : S.length = 8) (hw : ∀ d ∈ l, d.w < 8) (hG : ¬ G k) {n : Nat} (hn : n ≤ l.length) (hl : l.length < 1000000) {v1 : V} (L : List Blk)
 (hr : ∀ hp' : List Blk, (∀ j, G j → hp'[j]? = hp[j]?) → ∀ L, RS ⟨L, hp'⟩ 84 v1 ((l.map Dn.v1).take n)) :
 rc D L.length (.loop [0, 1, 12, 13, 14] dp) [(0, .ptr (.hp k) [i] 55), (1, .int .i64 n), (12, v1), (13, .int .i64 n), (14, .int .i64 0)] ⟨L, lnB k i T hp (nlV nw (lnV S) sv fl)⟩ =
  some (.exit 0, [(0, .ptr (.hp k) [i] 55), (1, .int .i64 n), (12, v1), (13, .int .i64 n), (14, .int .i64 n), (15, .bool false)], ⟨L, lnB k i T hp (nlV nw (lnV (ak S (l.take n))) sv fl)⟩) := by
 refine ff (fun q : Nat => [(0, .ptr (.hp k) [i] 55), (1, .int .i64 n), (12, v1), (13, .int .i64 n), (14, .int .i64 q)]) (fun q => ⟨L, lnB k i T hp (nlV nw (lnV (ak S (l.take q))) sv fl)⟩) (fun _ => _) (fun q => n - q) (fun q => q ≤ n) 0 ?_ (by omega) rfl rfl;intro q hq;by_cases c1 : q < n
 ·left;have hql : q < l.length := by omega
  have d1 : (q : Int) < n := by omega
  have d4 : IntKind.i64.wrap ((q : Int) + 1) = (q : Int) + 1 := ai (by omega) (by omega);have hb : (ak S (l.take q)).length = 8 := by rw [mo]; exact h8
  have hwq := hw _ (List.getElem_mem hql);have hrs := fun L => hr (lnB k i T hp (nlV nw (lnV (ak S (l.take q))) sv fl)) (fun j hj => List.getElem?_set_ne (fun e => hG (by rw [e]; exact hj))) L;have hg : ((l.map Dn.v1).take n)[q]? = some (l[q].v1) := by rw [List.getElem?_take, if_pos c1, List.getElem?_map, List.getElem?_eq_getElem hql]; rfl
  have hsad := (hrs []).sadq hg (k := .i64);have hld : ∀ L t p, ldv ⟨L, lnB k i T hp (nlV nw (lnV (ak S (l.take q))) sv fl)⟩ t (elq v1 q p t) = V.at p (l[q].v1) := fun L t p => (hrs L).ldq hg;have hvl : v1.locLt L.length = true := (hrs L).locLt;have hset : (lnB k i T hp (nlV nw (lnV (ak S (l.take q))) sv fl))[k]? = some (.rw (.agg 57 (T.set i (nlV nw (lnV (ak S (l.take q))) sv fl)))) := List.getElem?_set_self hk;have hti : ∀ x, (T.set i x)[i]? = some x := fun x => List.getElem?_set_self hi;refine ⟨q + 1, by omega, by omega, rfl, ?_⟩;rw [FH hql];generalize ak S (l.take q) = su at *;generalize l[q] = d at *;have gw : (su.map (V.int .u64))[d.w]? = some (.int .u64 (su.getD d.w 0)) := aG (by omega) 0;have e2 : lnB k i T hp (nlV nw (lnV (su.set d.w d.v)) sv fl) = (lnB k i T hp (nlV nw (lnV su) sv fl)).set k (.rw (.agg 57 ((T.set i (nlV nw (lnV su) sv fl)).set i (nlV nw (lnV (su.set d.w d.v)) sv fl)))) := by
   unfold lnB; rw [List.set_set, List.set_set]
  rw [e2];have w1 : (0 : Int) ≤ d.w := by omega
  have w2 : (d.w : Int) < 8 := by omega
  simp only [Dn.v1, sV, nlV, lnV, List.map_set] at *;generalize lnB k i T hp (V.agg 55 [nw, .agg 24 (su.map (V.int .u64)), sv, fl]) = H at *;simp only [go_sem, dp, d1, hsad, hld];simp only [go_sem, hset, hti, w1, w2, Int.toNat_natCast, gw, d4, hvl];rfl
 ·right;have : q = n := by omega
  subst this;have d1 : ¬ (q : Int) < q := by omega
  simp only [go_sem, dp, d1]
def flM (l : List Dn) (n q : Nat) : V := .agg 50 (tab 8 fun c => .int .i64 (if c < q then ((flN c l - n : Nat) : Int) else (flN c l : Nat)))
theorem JT (hk : k < hp.length) (hi : i < T.length) {n : Nat} (hl : l.length < 1000000) (hn : n < 1000000) (x1 x2 x3 : V) (L : List Blk) :
 rc D L.length (.loop [0, 1, 37] db) [(0, .ptr (.hp k) [i] 55), (1, .int .i64 n), (37, .int .i64 0)] ⟨L, lnB k i T hp (nlV x1 x2 x3 (flM l n 0))⟩ =
  some (.exit 2, [(0, .ptr (.hp k) [i] 55), (1, .int .i64 n), (37, .int .i64 8), (38, .bool false)], ⟨L, lnB k i T hp (nlV x1 x2 x3 (flM l n 8))⟩) := by
 have hfl : ∀ c, flN c l ≤ l.length := fun c => by
  clear hl
  induction l with
  | nil => exact Nat.le_refl _
  | cons d l ih => simp only [flN, List.length_cons]; split <;> (try split) <;> omega
 refine ff (fun q : Nat => [(0, .ptr (.hp k) [i] 55), (1, .int .i64 n), (37, .int .i64 q)]) (fun q => ⟨L, lnB k i T hp (nlV x1 x2 x3 (flM l n q))⟩) (fun _ => _) (fun q => 8 - q) (fun q => q ≤ 8) 0 ?_ (by omega) rfl rfl;intro q hq;by_cases c1 : q < 8
 ·left;have d1 : (q : Int) < 8 := by omega
  have d2 : (0 : Int) ≤ q := by omega
  have d4 : IntKind.i64.wrap ((q : Int) + 1) = (q : Int) + 1 := ai (by omega) (by omega);have hq2 := hfl q;have d5 : IntKind.i64.wrap (((flN q l : Nat) : Int) - (n : Int)) = ((flN q l : Nat) : Int) - n := ai (by omega) (by omega);have hset : (lnB k i T hp (nlV x1 x2 x3 (flM l n q)))[k]? = some (.rw (.agg 57 (T.set i (nlV x1 x2 x3 (flM l n q))))) := List.getElem?_set_self hk;have hti : ∀ x, (T.set i x)[i]? = some x := fun x => List.getElem?_set_self hi;have g := aC (f := fun c => V.int .i64 (if c < q then ((flN c l - n : Nat) : Int) else (flN c l : Nat))) c1
  rw [if_neg (by omega)] at g;have hs : (tab 8 fun c => V.int .i64 (if c < q then ((flN c l - n : Nat) : Int) else (flN c l : Nat))).set q (.int .i64 ((flN q l - n : Nat) : Int)) = tab 8 fun c => V.int .i64 (if c < q + 1 then ((flN c l - n : Nat) : Int) else (flN c l : Nat)) := by
   rw [eM];apply bM;intro c _;unfold upd;by_cases e : c = q
   ·subst e; rw [if_pos rfl, if_pos (by omega)]
   ·rw [if_neg e];by_cases h : c < q
    ·show V.int .i64 _ = V.int .i64 _;rw [if_pos h, if_pos (by omega)]
    ·show V.int .i64 _ = V.int .i64 _;rw [if_neg h, if_neg (by omega)]
  have e2 : lnB k i T hp (nlV x1 x2 x3 (flM l n (q + 1))) = (lnB k i T hp (nlV x1 x2 x3 (flM l n q))).set k (.rw (.agg 57 ((T.set i (nlV x1 x2 x3 (flM l n q))).set i (nlV x1 x2 x3 (flM l n (q + 1)))))) := by
   unfold lnB; rw [List.set_set, List.set_set]
  refine ⟨q + 1, by omega, by omega, rfl, ?_⟩;rw [e2];simp only [flM, nlV] at *;rw [← hs];generalize (tab 8 fun c => V.int .i64 (if c < q then ((flN c l - n : Nat) : Int) else (flN c l : Nat))) = TF at *
  generalize lnB k i T hp (V.agg 55 [x1, x2, x3, .agg 50 TF]) = H at *;have d7 : max (0 : Int) (((flN q l : Nat) : Int) - n) = ((flN q l - n : Nat) : Int) := by omega
  simp only [go_sem, db, d1, d2, Int.toNat_natCast, hset, hti, g, d5, d7, d4];rfl
 ·right;have : q = 8 := by omega
  subst this;simp only [go_sem, db]
end
end Go.Proofs.YtilcajpldklbiaaDoor
namespace Go.Proofs.YtilcajpldklbiaaDoor
open Go.Ab
def AM.sureN (M : AM) (i n : Nat) : AM := { M with S := upd M.S i (ak (M.S i) ((M.L i).take n)), L := upd M.L i ((M.L i).drop n) }
theorem AM.now_sure {M : AM} {i n j : Nat} : (M.sureN i n).now j = M.now j := by
 unfold AM.now AM.sureN;simp only;by_cases e : j = i
 ·subst e; rw [aj, aj, ← jT, List.take_append_drop]
 ·rw [an e, an e]
theorem AM.Ok.sureN {M : AM} (h : M.Ok) {i n : Nat} : (M.sureN i n).Ok := by
 refine ⟨h.n0, h.n1, fun j hj => ?_, fun j hj d hd => ?_, h.c0, fun j hj => ?_, h.lf, h.lg⟩
 ·simp only [AM.sureN];by_cases e : j = i
  ·subst e; rw [aj, mo]; exact h.l8 j hj
  ·rw [an e]; exact h.l8 j hj
 ·simp only [AM.sureN] at hd;by_cases e : j = i
  ·subst e; rw [aj] at hd; exact h.w8 j hj d (List.mem_of_mem_drop hd)
  ·rw [an e] at hd; exact h.w8 j hj d hd
 ·simp only [AM.sureN];by_cases e : j = i
  ·subst e; rw [aj, List.length_drop]; have := h.len j hj; omega
  ·rw [an e]; exact h.len j hj
theorem Gf (l : List Dn) (n : Nat) : flM l n 0 = flV l := by
 unfold flM flV;congr 1
theorem KS (l : List Dn) (n : Nat) : flM l n 8 = flV (l.drop n) := by
 unfold flM flV;congr 1;apply bM;intro c hc;rw [if_pos hc, AB]
theorem Gm {n : Nat} {f : Nat → V} {j : Nat} (hj : j < n) : (tab n f).set j (f j) = tab n f := by
 rw [eM];apply bM;intro i _;unfold upd;split
 ·rename_i e; subst e; rfl
 ·rfl
theorem ft {hp : List Blk} {k : Nat} {b : Blk} (h : hp[k]? = some b) : hp.set k b = hp := by
 apply List.ext_getElem?;intro i;by_cases e : k = i
 ·subst e; rw [List.getElem?_set_self (ap h), h]
 ·rw [List.getElem?_set_ne e]
theorem oQ {hp : List Blk} {F : Ft} {m : Nat} {M : AM} (h : ay hp F m M) (hc : M.count < 1000000) {k nn : Nat} {cp : Option Nat} {o b : Bool} {l c : Int} (hb : hp[m]? = some (.rw (bw k nn cp o b l c))) {j n : Nat} (hj : j < M.n) (hn : n ≤ (M.L j).length) (L : List Blk) :
 ∃ hp' F', rf D gM [.ptr (.hp k) [j] 55, .int .i64 n] ⟨L, hp⟩ = some (.tup [], ⟨L, hp'⟩) ∧ ay hp' F' m (M.sureN j n) ∧ Chg hp hp' F F' ∧ hp'[m]? = hp[m]? := by
 obtain ⟨k', fk, ne, ⟨cp', left, h1, h2, h3⟩, sv, ow, h4, h5⟩ := h.mb;have hkk : k = k' := pH (Blk.rw.inj (Option.some.inj (hb.symm.trans h1)));subst hkk;have ok := h.ok;have hlen := ok.len j hj;have hkl := ap h4;have hml := ap h1;have hTl : (tab M.n fun i => plV (M.S i) (M.L i) (sv i)).length = M.n := iE _ _;have hX : hp = lnB k j (tab M.n fun i => plV (M.S i) (M.L i) (sv i)) hp (plV (M.S j) (M.L j) (sv j)) := by
  unfold lnB;rw [Gm (f := fun i => plV (M.S i) (M.L i) (sv i)) hj];exact (ft h4).symm
 obtain ⟨v1, v2, s1, s2, s3, s4⟩ := (h5 j hj).sub (n := n) (by rw [List.length_map]; exact hn);have hT : ∀ x, ((tab M.n fun i => plV (M.S i) (M.L i) (sv i)).set j x)[j]? = some x := fun x => List.getElem?_set_self (by rw [hTl]; exact hj);have hms := KK (T := tab M.n fun i => plV (M.S i) (M.L i) (sv i)) (nw := lnV (ak (M.S j) (M.L j))) (fl := flV (M.L j)) (sv := sv j) (G := fun x => F x ∧ x ≠ m ∧ x ≠ k ∧ ow x = j) hkl (by rw [hTl]; exact hj) (ok.l8 j hj) (ok.w8 j hj) (fun hh => hh.2.2.1 rfl) hn (by omega) (v1 := v1) L (fun hp' he L => (s3 hp' he L).1);have hG1 : ∀ x, F x ∧ x ≠ m ∧ x ≠ k ∧ ow x = j → (lnB k j (tab M.n fun i => plV (M.S i) (M.L i) (sv i)) hp (nlV (lnV (ak (M.S j) (M.L j))) (lnV (ak (M.S j) ((M.L j).take n))) (sv j) (flV (M.L j))))[x]? = hp[x]? := fun x hx => List.getElem?_set_ne (Ne.symm hx.2.2.1);obtain ⟨H2, v', p1, p2, p3⟩ := Bi (H := lnB k j (tab M.n fun i => plV (M.S i) (M.L i) (sv i)) hp (nlV (lnV (ak (M.S j) (M.L j))) (lnV (ak (M.S j) ((M.L j).take n))) (sv j) (flV (M.L j)))) s4 (fun L => (s3 _ hG1 L).2) (by rw [← List.map_drop]; exact MO) (by rw [← List.map_drop, List.length_map, List.length_drop]; simp [fB]; omega);have hl1 : (lnB k j (tab M.n fun i => plV (M.S i) (M.L i) (sv i)) hp (nlV (lnV (ak (M.S j) (M.L j))) (lnV (ak (M.S j) ((M.L j).take n))) (sv j) (flV (M.L j)))).length = hp.length := List.length_set ..;have hH1k : (lnB k j (tab M.n fun i => plV (M.S i) (M.L i) (sv i)) hp (nlV (lnV (ak (M.S j) (M.L j))) (lnV (ak (M.S j) ((M.L j).take n))) (sv j) (flV (M.L j))))[k]? = _ := List.getElem?_set_self hkl;have hH2k := bA p1 hH1k;have hH2l := p1.length_le;have old2 : ∀ x, x < hp.length → x ≠ k → H2[x]? = hp[x]? := fun x hx hxk => by
  have : (lnB k j (tab M.n fun i => plV (M.S i) (M.L i) (sv i)) hp (nlV (lnV (ak (M.S j) (M.L j))) (lnV (ak (M.S j) ((M.L j).take n))) (sv j) (flV (M.L j))))[x]? = hp[x]? := List.getElem?_set_ne (Ne.symm hxk);rw [← this];have hlt : x < (lnB k j (tab M.n fun i => plV (M.S i) (M.L i) (sv i)) hp (nlV (lnV (ak (M.S j) (M.L j))) (lnV (ak (M.S j) ((M.L j).take n))) (sv j) (flV (M.L j)))).length := by rw [hl1]; exact hx
  rw [bA p1 (List.getElem?_eq_getElem hlt), List.getElem?_eq_getElem hlt]
 have hfl := JT (hp := H2) (k := k) (i := j) (T := tab M.n fun i => plV (M.S i) (M.L i) (sv i)) (l := M.L j) (by omega) (by rw [hTl]; exact hj) (n := n) (by omega) (by omega) (lnV (ak (M.S j) (M.L j))) (lnV (ak (M.S j) ((M.L j).take n))) v' L;rw [Gf, KS] at hfl;have hst : H2.set k (.rw (.agg 57 (((tab M.n fun i => plV (M.S i) (M.L i) (sv i)).set j (nlV (lnV (ak (M.S j) (M.L j))) (lnV (ak (M.S j) ((M.L j).take n))) (sv j) (flV (M.L j)))).set j (nlV (lnV (ak (M.S j) (M.L j))) (lnV (ak (M.S j) ((M.L j).take n))) v' (flV (M.L j)))))) =
  lnB k j (tab M.n fun i => plV (M.S i) (M.L i) (sv i)) H2 (nlV (lnV (ak (M.S j) (M.L j))) (lnV (ak (M.S j) ((M.L j).take n))) v' (flV (M.L j))) := by unfold lnB; rw [List.set_set]
 have hfin : (lnB k j (tab M.n fun i => plV (M.S i) (M.L i) (sv i)) H2 (nlV (lnV (ak (M.S j) (M.L j))) (lnV (ak (M.S j) ((M.L j).take n))) v' (flV ((M.L j).drop n))))[m]? = hp[m]? := by
  unfold lnB;rw [List.getElem?_set_ne (Ne.symm ne)];exact old2 m hml ne
 refine ⟨lnB k j (tab M.n fun i => plV (M.S i) (M.L i) (sv i)) H2 (nlV (lnV (ak (M.S j) (M.L j))) (lnV (ak (M.S j) ((M.L j).take n))) v' (flV ((M.L j).drop n))), fun x => F x ∨ (hp.length ≤ x ∧ x < H2.length), ?_, ⟨ok.sureN, fun x hx => ?_, .inl h.fm, k, .inl fk, ne, ⟨cp', left, hfin.trans h1, h2, h3⟩, upd sv j v', fun x => if hp.length ≤ x then j else ow x, ?_, fun i hi => ?_⟩, ⟨?_, fun x hx hnx => ?_, fun x hx => ?_⟩, hfin⟩
 ·have hX2 : lnB k j (tab M.n fun i => plV (M.S i) (M.L i) (sv i)) hp (nlV (lnV (ak (M.S j) (M.L j))) (lnV (M.S j)) (sv j) (flV (M.L j))) = hp := hX.symm;rw [hX2] at hms;have g := aC (f := fun i => plV (M.S i) (M.L i) (sv i)) hj;have g0 : plV (M.S j) (M.L j) (sv j) = .agg 55 [lnV (ak (M.S j) (M.L j)), lnV (M.S j), sv j, flV (M.L j)] := rfl;rw [g0] at g;have ts := p3.tag;have tl := p3.lt;have hv1 := (s3 hp (fun _ _ => rfl) L).1;have hsl : V.slen false v1 = some n := by
   have := hv1.slen
   rwa [List.length_take, List.length_map, Nat.min_eq_left hn] at this
  clear hX hX2 p1 p3 hv1 h5;generalize lnB k j (tab M.n fun i => plV (M.S i) (M.L i) (sv i)) hp (nlV (lnV (ak (M.S j) (M.L j))) (lnV (ak (M.S j) ((M.L j).take n))) (sv j) (flV (M.L j))) = H1 at *;generalize (lnB k j (tab M.n fun i => plV (M.S i) (M.L i) (sv i)) H2 (nlV (lnV (ak (M.S j) (M.L j))) (lnV (ak (M.S j) ((M.L j).take n))) v' (flV (M.L j)))) = H3 at *;generalize (lnB k j (tab M.n fun i => plV (M.S i) (M.L i) (sv i)) H2 (nlV (lnV (ak (M.S j) (M.L j))) (lnV (ak (M.S j) ((M.L j).take n))) v' (flV ((M.L j).drop n)))) = H4 at *;generalize (tab M.n fun i => plV (M.S i) (M.L i) (sv i)) = T0 at *;generalize lnV (ak (M.S j) ((M.L j).take n)) = w2 at *;generalize lnV (ak (M.S j) (M.L j)) = w1 at *;generalize flV (M.L j) = w4 at *;simp only [nlV] at *;rw [ae qt rfl];simp only [go_sem, h4, g, s1, hsl, hms];simp only [go_sem, hH1k, hT, s2, p2];simp only [go_sem, hH2k, hT, ts, tl, hst, hfl]
 ·unfold lnB;rw [List.length_set];rcases hx with hx | hx
  ·have := h.inn x hx; omega
  ·exact hx.2
 ·unfold lnB;rw [List.getElem?_set_self (by omega), eM];congr 3;apply bM;intro i _;unfold upd;by_cases e : i = j
  ·subst e;simp only [if_true];unfold plV AM.sureN;simp only;rw [aj, aj, ← jT, List.take_append_drop]
  ·simp only [e, if_false];unfold AM.sureN;simp only;rw [an e, an e]
 ·unfold AM.sureN;simp only;by_cases e : i = j
  ·subst e;rw [aj, aj, List.map_drop];refine p3.more (fun x h1 h2 => ?_) fun x h1 h2 => ⟨.inr ⟨by rw [hl1] at h2; exact h2.1, h1⟩, by omega, by rw [hl1] at h2; omega, if_pos (by rw [hl1] at h2; exact h2.1)⟩;unfold lnB;rw [List.getElem?_set_ne (by rw [hl1] at h2; omega)]
  ·rw [an e, an e];refine (h5 i hi).more (fun x h1 h2 => ?_) fun x h1 h2 => ⟨.inl h2.1, h2.2.1, h2.2.2.1, (if_neg (by omega)).trans h2.2.2.2⟩;unfold lnB;rw [List.getElem?_set_ne (Ne.symm h2.2.2.1)];exact old2 x h1 h2.2.2.1
 ·unfold lnB; rw [List.length_set]; omega
 ·unfold lnB;rw [List.getElem?_set_ne (fun e => hnx (by rw [← e]; exact fk))];exact old2 x hx (fun e => hnx (by rw [e]; exact fk))
 ·rcases hx with hx | hx
  ·exact .inl hx
  ·exact .inr hx.1
end Go.Proofs.YtilcajpldklbiaaDoor
namespace Go.Proofs.YtilcajpldklbiaaDoor
open Go.Ab
def AM.fencedTo (M : AM) (c : Nat) : Nat → AM
 | 0 => M
 | i + 1 => (M.fencedTo c i).sureN i (flN c ((M.fencedTo c i).L i))
theorem Db {M : AM} {i : Nat} : M.sureN i 0 = M := by
 obtain ⟨n, S, L, off, left, count⟩ := M;unfold AM.sureN;simp only [List.take_zero, List.drop_zero, ak];congr 1
 ·funext j; unfold upd; split
  ·rename_i e; subst e; rfl
  ·rfl
 ·funext j; unfold upd; split
  ·rename_i e; subst e; rfl
  ·rfl
theorem bH {M : AM} {c : Nat} : ∀ i, (M.fencedTo c i).n = M.n ∧ (M.fencedTo c i).count = M.count ∧ (M.fencedTo c i).off = M.off ∧ (M.fencedTo c i).left = M.left
 | 0 => ⟨rfl, rfl, rfl, rfl⟩
 | i + 1 => bH i
theorem lh {M : AM} (h : M.Ok) {c : Nat} : ∀ i, (M.fencedTo c i).Ok
 | 0 => h
 | i + 1 => (lh h i).sureN
theorem mZ {M : AM} {c j : Nat} : ∀ i, (M.fencedTo c i).now j = M.now j
 | 0 => rfl
 | i + 1 => by simp only [AM.fencedTo]; rw [AM.now_sure]; exact mZ i
def AM.fence (M : AM) (c : Int) : AM × Int := if c < 0 ∨ 8 ≤ c then (M, 1) else if M.dead then (M.out, 4) else (M.stepped.fencedTo c.toNat M.n, 0)
theorem E6 (c : Nat) : ∀ l : List Dn, flN c l ≤ l.length
 | [] => Nat.le_refl _
 | d :: l => by
  have := E6 c l;simp only [flN, List.length_cons];split <;> (try split) <;> omega
theorem pz {m k cI : Nat} (hcI : cI < 8) {M : AM} (hc : M.count < 1000000) (hn : M.n ≤ 1024) (L : List Blk) : ∀ (n i : Nat) {hp : List Blk} {F : Ft}, i + n = M.n → ay hp F m (M.fencedTo cI i) →
 (∃ nn cp o b l c, hp[m]? = some (.rw (bw k nn cp o b l c))) →
 ∃ hp' F', rc D L.length (.loop [0, 1, 23, 24] cE) [(0, .ptr (.hp m) [] 59), (1, .int .i64 cI), (23, .int .i64 M.n), (24, .int .i64 i)] ⟨L, hp⟩ =
  some (.exit 0, [(0, .ptr (.hp m) [] 59), (1, .int .i64 cI), (23, .int .i64 M.n), (24, .int .i64 M.n), (25, .bool false)], ⟨L, hp'⟩) ∧ ay hp' F' m (M.fencedTo cI M.n) ∧ Chg hp hp' F F'
 | 0, i, hp, F, hi, h, _ => by
  have : i = M.n := by omega
  subst this;refine ⟨hp, F, ?_, h, .refl _ _⟩;have d1 : ¬ (M.n : Int) < M.n := by omega
  rw [ac];simp only [go_sem, cE, d1]
 | n + 1, i, hp, F, hi, h, hb => by
  have hM := h;obtain ⟨nn, cp0, o, b, l, c, hb⟩ := hb;obtain ⟨k', fk, ne, ⟨cp, left, h1, h2, h3⟩, sv, ow, h4, h5⟩ := h.mb;have hkk : k = k' := pH (Blk.rw.inj (Option.some.inj (hb.symm.trans h1)));subst hkk;have en := (bH (M := M) (c := cI) i).1;have ec := (bH (M := M) (c := cI) i).2.1;rw [en] at h4 h1;have hj : i < M.n := by omega
  have g := aC (f := fun q => plV ((M.fencedTo cI i).S q) ((M.fencedTo cI i).L q) (sv q)) hj;have g0 : plV ((M.fencedTo cI i).S i) ((M.fencedTo cI i).L i) (sv i) = .agg 55 [lnV (ak ((M.fencedTo cI i).S i) ((M.fencedTo cI i).L i)), lnV ((M.fencedTo cI i).S i), sv i, .agg 50 (tab 8 fun c => .int .i64 (flN c ((M.fencedTo cI i).L i) : Nat))] := rfl;rw [g0] at g;have gf := aC (f := fun c => V.int .i64 (flN c ((M.fencedTo cI i).L i) : Nat)) hcI;have d1 : (i : Int) < M.n := by omega
  have d2 : (cI : Int) < 8 := by omega
  have d3 : (0 : Int) ≤ cI := by omega
  have d4 : IntKind.i64.wrap ((i : Int) + 1) = ((i + 1 : Nat) : Int) := ai (by omega) (by omega);have hsad : np 55 (.sl (.hp k) [] 0 M.n cp 55) (.int .i64 (i : Int)) = some (.ptr (.hp k) [i] 55) := by simp [go_sem, hj]
  by_cases hz : flN cI ((M.fencedTo cI i).L i) = 0
  ·have e : M.fencedTo cI (i + 1) = M.fencedTo cI i := by simp only [AM.fencedTo]; rw [hz, Db]
   obtain ⟨hp', F', r1, r2, r3⟩ := pz hcI hc hn L n (i + 1) (by omega) (by rw [e]; exact hM) ⟨_, _, _, _, _, _, hb⟩;refine ⟨hp', F', ?_, r2, r3⟩;rw [← r1, ac];rw [hz] at gf;have d5 : ¬ ((0 : Nat) : Int) > 0 := by omega
   simp only [bw] at h1;generalize (tab 8 fun c => V.int .i64 (flN c ((M.fencedTo cI i).L i) : Nat)) = TF at *;generalize (tab M.n fun q => plV ((M.fencedTo cI i).S q) ((M.fencedTo cI i).L q) (sv q)) = T0 at *;simp only [go_sem, cE, d1, h1, hsad, h4, g, d2, d3, Int.toNat_natCast, gf, d5, d4]
  ·obtain ⟨hp1, F1, s1, s2, s3, s4⟩ := oQ hM (by rw [ec]; exact hc) hb (j := i) (n := flN cI ((M.fencedTo cI i).L i)) (by rw [en]; exact hj) (E6 _ _) L;obtain ⟨hp', F', r1, r2, r3⟩ := pz hcI hc hn L n (i + 1) (by omega) (F := F1) (hp := hp1) s2 ⟨_, _, _, _, _, _, s4.trans hb⟩;refine ⟨hp', F', ?_, r2, s3.trans r3⟩;rw [← r1, ac];have d5 : ((flN cI ((M.fencedTo cI i).L i) : Nat) : Int) > 0 := by omega
   simp only [bw] at h1;generalize (tab 8 fun c => V.int .i64 (flN c ((M.fencedTo cI i).L i) : Nat)) = TF at *;generalize (tab M.n fun q => plV ((M.fencedTo cI i).S q) ((M.fencedTo cI i).L q) (sv q)) = T0 at *;generalize flN cI ((M.fencedTo cI i).L i) = fz at *;simp only [go_sem, cE, d1, h1, hsad, h4, g, d2, d3, Int.toNat_natCast, gf, d5, d4, s1]
theorem lj {hp : List Blk} {F : Ft} {m : Nat} {M : AM} (h : ay hp F m M) (hc : M.count + 1 < 1000000) (c : Int) (L : List Blk) :
 ∃ hp' F', rf D cV [.ptr (.hp m) [] 59, .int .i64 c] ⟨L, hp⟩ = some (.int .i64 (M.fence c).2, ⟨L, hp'⟩) ∧ ay hp' F' m (M.fence c).1 ∧ Chg hp hp' F F' := by
 unfold AM.fence;by_cases hq : c < 0 ∨ 8 ≤ c
 ·rw [if_pos hq];refine ⟨hp, F, ?_, h, .refl _ _⟩;rw [ae iw rfl];by_cases hq0 : c < 0
  ·simp only [go_sem, hq0]
  ·have hq8 : c ≥ 8 := by omega
   simp only [go_sem, hq0, hq8]
 ·rw [if_neg hq];obtain ⟨p, rfl⟩ : ∃ p : Nat, c = p := ⟨c.toNat, by omega⟩;rw [Int.toNat_natCast];have d1 : ¬ (p : Int) < 0 := by omega
  have d2 : ¬ (p : Int) ≥ 8 := by omega
  obtain ⟨hp1, s1, s2, s3, s4⟩ := uC h (by omega);unfold AM.stpE at s1;unfold AM.stp at s2;by_cases hd : M.dead = true
  ·rw [if_pos hd];rw [hd, if_pos rfl] at s1 s2;refine ⟨hp1, F, ?_, s2, s3⟩;rw [ae iw rfl];simp only [go_sem, d1, d2, s1]
  ·have hdf : M.dead = false := by simpa using hd
   rw [if_neg hd];rw [hdf, if_neg (by simp)] at s1 s2;have hM1 := s2;obtain ⟨k', fk', ne', ⟨cp', left', q1, q2, q3⟩, sv, ow, q4, q5⟩ := s2.mb;have hs : M.stepped.count < 1000000 := by simp only [AM.stepped]; exact hc
   obtain ⟨hp', F', r1, r2, r3⟩ := pz (m := m) (k := k') (cI := p) (by omega) hs hM1.ok.n1 L M.stepped.n 0 (by omega) (hp := hp1) (F := F) hM1 ⟨_, _, _, _, _, _, q1⟩;refine ⟨hp', F', ?_, r2, s3.trans r3⟩;have e1 : M.stepped.n = M.n := rfl;rw [e1] at r1 q1;rw [show ((0 : Nat) : Int) = 0 from rfl] at r1
   simp only [bw] at q1;rw [ae iw rfl];simp only [go_sem, d1, d2, s1, q1];simp only [go_sem, r1]
end Go.Proofs.YtilcajpldklbiaaDoor
namespace Go.Proofs.YtilcajpldklbiaaDoor
open Go.Ab
theorem uZ (n a b : Int) (s : St) : rf D kI [.int .i64 n, .int .i64 a, .int .i64 b] s = some (.bool (win n a b), s) := by
 unfold win;rw [ae ww rfl];by_cases h1 : a ≤ n
 ·have h1' : n ≥ a := h1;simp only [go_sem, h1, h1', decide_true]
 ·have h1' : ¬ n ≥ a := h1;simp only [go_sem, h1, h1', decide_false]
structure Sup where
 gen : Int
 root : Int
 seq : Int
 cores : Int
def Sup.v (b : Sup) : V := .agg 44 [.int .i64 b.gen, .int .i64 b.root, .int .i64 b.seq, .int .i64 b.cores]
def Sup.ok (b : Sup) : Bool := win b.gen 1 1099511627776 && (win b.root 0 1023 && (win b.seq 0 1099511627776 && win b.cores 1 8))
def jM (b : Sup) : List Int := [1526644958, IntKind.u64.wrap b.gen, IntKind.u64.wrap b.root, IntKind.u64.wrap b.seq, IntKind.u64.wrap b.cores, 0, 0, 0]
def aQ (b : Sup) : List Int := if b.ok = true then a8 (jM b) else zl
theorem pn (b : Sup) : (aQ b).length = 8 := by
 unfold aQ;split
 ·rw [lN]; rfl
 ·rfl
theorem qb (b : Sup) (s : St) : rf D mM [b.v] s = some (.tup [lnV (aQ b), .int .i64 (if b.ok = true then 0 else 1)], s) := by
 have h := uZ;have hz : (zl.map (V.int .u64)) = List.replicate 8 (.int .u64 0) := rfl;have hrep : List.replicate 8 (V.int .u64 0) = [.int .u64 0, .int .u64 0, .int .u64 0, .int .u64 0, .int .u64 0, .int .u64 0, .int .u64 0, .int .u64 0] := rfl;have hseal := fun s => i9 (l := jM b) rfl s;obtain ⟨g, r, q, c⟩ := b;unfold aQ Sup.ok;simp only [Sup.v, jM, lnV, List.map_cons, List.map_nil] at *;generalize hA : win g 1 1099511627776 = A;generalize hB : win r 0 1023 = B;generalize hC : win q 0 1099511627776 = C;generalize hE : win c 1 8 = E;rw [ae Az rfl];cases A
 ·simp only [go_sem, h, hA, hz]
 ·cases B
  ·simp only [go_sem, h, hA, hB, hz]
  ·cases C
   ·simp only [go_sem, h, hA, hB, hC, hz]
   ·cases E
    ·simp only [go_sem, h, hA, hB, hC, hE, hz]
    ·simp only [go_sem, h, hA, hB, hC, hE];simp only [go_sem, hrep, hseal]
def AM.wrs (M : AM) (slot : Int) (b : Sup) : AM × Int :=
 if b.ok = false ∨ (slot ≠ 0 ∧ slot ≠ 1) then (M, 1) else
 if (M.store slot 7 0).2 ≠ 0 then M.store slot 7 0 else
 let r := (M.store slot 7 0).1.layFrom slot (aQ b) 0 8
 if r.2 ≠ 0 then r else
 if (r.1.flush 0 slot).2 ≠ 0 then r.1.flush 0 slot else (r.1.flush 0 slot).1.fence 0
section
variable {m : Nat}
theorem yQ {l : List Int} (hl : l.length = 8) {at' : Int} {L : List Blk} {base : Nat} (hL : (L.drop base).all (aZ L.length) = true) : ∀ (n j : Nat) {hp : List Blk} {Fm : Ft} {M : AM}, j + n = 8 → ay hp Fm m M → M.count + n < 1000000 →
 ∃ hp' Fm' r, rc D base (.loop [0, 1, 2, 37, 38] eY) [(0, .ptr (.hp m) [] 59), (1, .int .i64 0), (2, .int .i64 at'), (37, lnV l), (38, .int .i64 j)] ⟨L, hp⟩ = some r ∧
  ay hp' Fm' m (M.layFrom at' l j n).1 ∧ Chg hp hp' Fm Fm' ∧
  (((M.layFrom at' l j n).2 = 0 ∧ r = (.exit 0, [(0, .ptr (.hp m) [] 59), (1, .int .i64 0), (2, .int .i64 at'), (37, lnV l), (38, .int .i64 8), (39, .bool false)], ⟨L, hp'⟩)) ∨
   ((M.layFrom at' l j n).2 ≠ 0 ∧ r = (.ret, [(8, .int .i64 (M.layFrom at' l j n).2)], ⟨L, hp'⟩)))
 | 0, j, hp, Fm, M, hj, h, _ => by
  have : j = 8 := by omega
  subst this;refine ⟨hp, Fm, _, ?_, h, .refl _ _, .inl ⟨rfl, rfl⟩⟩;rw [ac];simp only [lnV];simp only [go_sem, eY]
 | n + 1, j, hp, Fm, M, hj, h, hc => by
  obtain ⟨hp1, Fm1, e1, e2, e3⟩ := dS h (by omega) at' j (l.getD j 0) L;have hcn := AM.store_count (M := M) (i := at') (q := j) (v := l.getD j 0);have d1 : (j : Int) < 8 := by omega
  have d2 : (0 : Int) ≤ j := by omega
  have d4 : IntKind.i64.wrap ((j : Int) + 1) = ((j + 1 : Nat) : Int) := ai (by omega) (by omega);have g := aG (f := V.int .u64) (l := l) (i := j) (by omega) 0;simp only [AM.layFrom];by_cases he : (M.store at' j (l.getD j 0)).2 = 0
  ·rw [if_neg fun hh => hh he];obtain ⟨hp2, Fm2, r, q1, q2, q3, q4⟩ := yQ hl hL n (j + 1) (by omega) e2 (by omega);refine ⟨hp2, Fm2, r, ?_, q2, e3.trans q3, q4⟩;rw [← q1, ac];rw [he] at e1;simp only [lnV] at *;generalize l.getD j 0 = wd at *;simp only [go_sem, eY, d1, d2, Int.toNat_natCast, g, e1, d4, hL]
  ·rw [if_pos he];refine ⟨hp1, Fm1, _, ?_, e2, e3, .inr ⟨he, rfl⟩⟩;rw [ac];simp only [lnV] at *;generalize l.getD j 0 = wd at *;simp only [go_sem, eY, d1, d2, Int.toNat_natCast, g, e1, he]
theorem bi {M : AM} {c i : Int} : (M.flush c i).1.count ≤ M.count + 1 ∧ (M.flush c i).1.n = M.n := by
 unfold AM.flush;split
 ·exact ⟨by simp only; omega, rfl⟩
 ·split
  ·exact ⟨by simp only [AM.out]; omega, rfl⟩
  ·exact ⟨by simp only [AM.flushed, AM.stepped]; omega, rfl⟩
theorem Bm {hp : List Blk} {F : Ft} {M : AM} (h : ay hp F m M) (hc : M.count + 12 < 1000000) (slot : Int) (b : Sup) (L : List Blk) :
 ∃ hp' F', rf D jk [.ptr (.hp m) [] 59, .int .i64 0, .int .i64 slot, b.v] ⟨L, hp⟩ = some (.int .i64 (M.wrs slot b).2, ⟨L, hp'⟩) ∧ ay hp' F' m (M.wrs slot b).1 ∧ Chg hp hp' F F' := by
 have hln := fun s => qb b s;have hlen := pn b;unfold AM.wrs;by_cases hb : b.ok = false
 ·rw [if_pos (.inl hb)];refine ⟨hp, F, ?_, h, .refl _ _⟩;rw [hb, if_neg (by simp)] at hln;simp only [Sup.v, lnV] at *;rw [ae eL rfl];simp only [go_sem, hln]
 ·have hb' : b.ok = true := by simpa using hb
  rw [hb', if_pos rfl] at hln;by_cases hs : slot ≠ 0 ∧ slot ≠ 1
  ·rw [if_pos (.inr hs)];refine ⟨hp, F, ?_, h, .refl _ _⟩;have h0 := hs.1;have h1 := hs.2;simp only [Sup.v, lnV] at *;rw [ae eL rfl];simp only [go_sem, hln, h0, h1]
  ·rw [if_neg (by intro hh; rcases hh with hh | hh; exact hb hh; exact hs hh)];obtain ⟨hp1, F1, e1, e2, e3⟩ := dS h (by omega) slot 7 0 (L ++ [.rw b.v, .rw (lnV (aQ b))]);have c1 := AM.store_count (M := M) (i := slot) (q := 7) (v := 0);have hsl : slot = 0 ∨ slot = 1 := by omega
   by_cases he1 : (M.store slot 7 0).2 = 0
   ·rw [if_neg (by simp [he1])];obtain ⟨hp2, F2, r, q1, q2, q3, q4⟩ := yQ (m := m) hlen (at' := slot) (L := L ++ [.rw b.v, .rw (lnV (aQ b))]) (base := L.length) (by simp only [Sup.v, lnV]; simp only [go_sem]) 8 0 rfl e2 (by omega);have c2 := AM.layFrom_count (M := (M.store slot 7 0).1) (at' := slot) (l := aQ b) (n := 8) (j := 0);simp only;by_cases he2 : ((M.store slot 7 0).1.layFrom slot (aQ b) 0 8).2 = 0
    ·rw [if_neg (by simp [he2])];rcases q4 with ⟨_, rfl⟩ | ⟨z, _⟩
     ·obtain ⟨hp3, r1, r2, r3⟩ := kY q2 (by omega) 0 slot (L ++ [.rw b.v, .rw (lnV (aQ b))]);have c3 := (bi (M := ((M.store slot 7 0).1.layFrom slot (aQ b) 0 8).1) (c := 0) (i := slot)).1;by_cases he3 : (((M.store slot 7 0).1.layFrom slot (aQ b) 0 8).1.flush 0 slot).2 = 0
      ·rw [if_neg (by simp [he3])];obtain ⟨hp4, F4, s1, s2, s3⟩ := lj r2 (by omega) 0 (L ++ [.rw b.v, .rw (lnV (aQ b))]);refine ⟨hp4, F4, ?_, s2, ((e3.trans q3).trans r3).trans s3⟩;rw [show ((0 : Nat) : Int) = 0 from rfl] at q1
       rw [he1] at e1;rw [he3] at r1;generalize ((((M.store slot 7 0).1.layFrom slot (aQ b) 0 8).1.flush 0 slot).1.fence 0) = fz at *;generalize aQ b = sl at *;simp only [Sup.v, lnV] at *;rw [ae eL rfl];rcases hsl with rfl | rfl
       ·simp only [go_sem, hln, e1];simp only [go_sem, q1, r1, s1]
       ·simp only [go_sem, hln, e1];simp only [go_sem, q1, r1, s1]
      ·rw [if_pos he3];refine ⟨hp3, F2, ?_, r2, (e3.trans q3).trans r3⟩;rw [show ((0 : Nat) : Int) = 0 from rfl] at q1
       rw [he1] at e1;generalize (((M.store slot 7 0).1.layFrom slot (aQ b) 0 8).1.flush 0 slot) = fz at *;generalize aQ b = sl at *;simp only [Sup.v, lnV] at *;rw [ae eL rfl];rcases hsl with rfl | rfl
       ·simp only [go_sem, hln, e1];simp only [go_sem, q1, r1, he3]
       ·simp only [go_sem, hln, e1];simp only [go_sem, q1, r1, he3]
     ·exact absurd he2 z
    ·rw [if_pos he2];rcases q4 with ⟨z, _⟩ | ⟨_, rfl⟩
     ·exact absurd z he2
     ·refine ⟨hp2, F2, ?_, q2, e3.trans q3⟩;rw [show ((0 : Nat) : Int) = 0 from rfl] at q1
      rw [he1] at e1;generalize ((M.store slot 7 0).1.layFrom slot (aQ b) 0 8) = fz at *;generalize aQ b = sl at *;simp only [Sup.v, lnV] at *;rw [ae eL rfl];rcases hsl with rfl | rfl
      ·simp only [go_sem, hln, e1];simp only [go_sem, q1]
      ·simp only [go_sem, hln, e1];simp only [go_sem, q1]
   ·rw [if_pos he1];refine ⟨hp1, F1, ?_, e2, e3⟩;generalize (M.store slot 7 0) = fz at *;generalize aQ b = sl at *;simp only [Sup.v, lnV] at *;rw [ae eL rfl];rcases hsl with rfl | rfl
    ·simp only [go_sem, hln, e1, he1]
    ·simp only [go_sem, hln, e1, he1]
end
end Go.Proofs.YtilcajpldklbiaaDoor
namespace Go.Proofs.YtilcajpldklbiaaDoor
open Go.Ab
structure AW where
 x : AS
 b : Sup
 slot : Int
 st : List (Nat × Int)
 seq : Int
 tbl : Nat → Ent
 dir : Nat → Int
section
variable {hp hp' : List Blk} {G G' : Ft} {v : V} {l : List (Nat × Int)}
end
section
variable {hp hp' : List Blk} {wk a m fr : Nat} {Fm Fm' Gs Gs' : Ft} {sv sv' : V} {w w' : AW}
end
end Go.Proofs.YtilcajpldklbiaaDoor
namespace Go.Proofs.YtilcajpldklbiaaDoor
open Go.Ab
section
variable {wk a m fr : Nat} {Fm : Ft}
end
end Go.Proofs.YtilcajpldklbiaaDoor
namespace Go.Proofs.YtilcajpldklbiaaDoor
open Go.Ab
section
variable {wk a m fr : Nat} {Fm : Ft}
end
end Go.Proofs.YtilcajpldklbiaaDoor
namespace Go.Proofs.YtilcajpldklbiaaDoor
open Go.Ab
section
variable {hp hp' : List Blk} {wk a m fr : Nat} {Fm Fm' Gs : Ft} {sv : V} {w : AW}
def AW.write (w : AW) (l : List Int) (q : Nat) : AW × Int :=
 if (w.x.lay l).2.2 ≠ 0 then ({ w with x := (w.x.lay l).1 }, (w.x.lay l).2.2) else
 if ((w.x.lay l).1.M.flush 0 (w.x.lay l).2.1).2 ≠ 0 then ({ w with x := { (w.x.lay l).1 with M := ((w.x.lay l).1.M.flush 0 (w.x.lay l).2.1).1 } }, ((w.x.lay l).1.M.flush 0 (w.x.lay l).2.1).2) else
 ({ w with x := { (w.x.lay l).1 with M := ((w.x.lay l).1.M.flush 0 (w.x.lay l).2.1).1 }, dir := upd w.dir q (w.x.lay l).2.1 }, 0)
end
end Go.Proofs.YtilcajpldklbiaaDoor
namespace Go.Proofs.YtilcajpldklbiaaDoor
open Go.Ab
section
variable {hp hp' : List Blk} {wk a m fr : Nat} {Fm Fm' Gs : Ft} {sv : V} {w : AW}
theorem Nq {M : AM} {s : Int} {b : Sup} : (M.wrs s b).1.n = M.n := by
 have hf : ∀ N : AM, (N.fence 0).1.n = N.n := fun N => by
  unfold AM.fence;split
  ·rfl
  ·split
   ·rfl
   ·exact (bH _).1
 unfold AM.wrs;split
 ·rfl
 ·split
  ·exact AM.store_n
  ·simp only;split
   ·rw [AM.layFrom_n, AM.store_n]
   ·split
    ·rw [bi.2, AM.layFrom_n, AM.store_n]
    ·rw [hf, bi.2, AM.layFrom_n, AM.store_n]
def AW.nextB (w : AW) : Sup := ⟨w.b.gen + 1, w.dir 7, w.seq, w.b.cores⟩
def AW.commit (w : AW) : AW × Int :=
 if (w.x.M.wrs (1 - w.slot) w.nextB).2 ≠ 0 then ({ w with x := { w.x with M := (w.x.M.wrs (1 - w.slot) w.nextB).1 } }, (w.x.M.wrs (1 - w.slot) w.nextB).2)
 else ({ w with x := (AS.commit { w.x with M := (w.x.M.wrs (1 - w.slot) w.nextB).1 } w.dir).1, b := w.nextB, slot := 1 - w.slot }, 0)
end
end Go.Proofs.YtilcajpldklbiaaDoor
namespace Go.Proofs.YtilcajpldklbiaaDoor
open Go.Ab
def AW.doStep (w : AW) (p : Nat × Int) : AW × Int := match p.1 with
 | 0 => ({ w with x := { w.x with M := (w.x.M.flush 0 p.2).1 } }, (w.x.M.flush 0 p.2).2)
 | 1 => w.write (bj w.tbl p.2.toNat) p.2.toNat
 | 2 => w.write (aL w.dir) 7
 | 3 => ({ w with x := { w.x with M := (w.x.M.fence 0).1 } }, (w.x.M.fence 0).2)
 | _ => w.commit
def AW.step (w : AW) : AW × Bool × Int := match w.st with
 | [] => (w, false, 3)
 | p :: r => if (w.doStep p).2 = 0 then ({ (w.doStep p).1 with st := r }, decide (r = []), 0) else if (w.doStep p).2 = 10 then ({ (w.doStep p).1 with x := (w.doStep p).1.x.abort.1, st := [] }, false, 10) else ((w.doStep p).1, false, (w.doStep p).2)
section
variable {hp hp' : List Blk} {wk a m fr : Nat} {Fm Fm' Gs : Ft} {sv : V} {w : AW}
end
end Go.Proofs.YtilcajpldklbiaaDoor
namespace Go.Proofs.YtilcajpldklbiaaDoor
open Go.Ab
end Go.Proofs.YtilcajpldklbiaaDoor
namespace Go.Proofs.YtilcajpldklbiaaDoor
open Go.Ab
end Go.Proofs.YtilcajpldklbiaaDoor
namespace Go.Proofs.YtilcajpldklbiaaDoor
open Go.Ab
end Go.Proofs.YtilcajpldklbiaaDoor
namespace Go.Proofs.YtilcajpldklbiaaDoor
open Go.Ab
end Go.Proofs.YtilcajpldklbiaaDoor
namespace Go.Proofs.YtilcajpldklbiaaDoor
open Go.Ab
structure Cll where
 kind : Int
 id : Int
 word : Int
 v : Int
structure Cll.Ok (o : Cll) : Prop where
 k : -9223372036854775808 ≤ o.kind ∧ o.kind ≤ 9223372036854775807
 i : -9223372036854775808 ≤ o.id ∧ o.id ≤ 9223372036854775807
 w : -9223372036854775808 ≤ o.word ∧ o.word ≤ 9223372036854775807
 u : 0 ≤ o.v ∧ o.v ≤ 18446744073709551615
end Go.Proofs.YtilcajpldklbiaaDoor
namespace Go.Proofs.YtilcajpldklbiaaDoor
open Go.Ab
section
variable {M : AM}
theorem fd (h : M.On) : M.stepped.On := ⟨h.off, by unfold AM.stepped; simp only; rw [if_neg (by rw [h.left]; decide)]; exact h.left⟩
theorem o9 (h : M.On) {i : Int} (h0 : 0 ≤ i) (h1 : i < M.n) : M.flush 0 i = (M.stepped.flushed 0 i.toNat, 0) ∧ (M.stepped.flushed 0 i.toNat).On ∧ ∀ j, (M.stepped.flushed 0 i.toNat).now j = M.now j := by
 refine ⟨?_, ⟨(fd h).off, (fd h).left⟩, fun j => AM.now_flushed⟩;unfold AM.flush;rw [if_neg (by omega), if_neg (by rw [h.dead]; decide)];rfl
theorem tS (h : M.On) : M.fence 0 = (M.stepped.fencedTo 0 M.n, 0) ∧ (M.stepped.fencedTo 0 M.n).On ∧ ∀ j, (M.stepped.fencedTo 0 M.n).now j = M.now j := by
 obtain ⟨_, _, e3, e4⟩ := bH (M := M.stepped) (c := 0) M.n;refine ⟨?_, ⟨e3.trans (fd h).off, e4.trans (fd h).left⟩, fun j => mZ M.n⟩;unfold AM.fence;rw [if_neg (by omega), if_neg (by rw [h.dead]; decide)];rfl
theorem th (h : M.Ok) : (M.stepped.fencedTo 0 M.n).Ok ∧ (M.stepped.fencedTo 0 M.n).n = M.n ∧ (M.stepped.fencedTo 0 M.n).count = M.count + 1 := by
 obtain ⟨e1, e2, _, _⟩ := bH (M := M.stepped) (c := 0) M.n;exact ⟨lh h.stepped _, e1, e2⟩
theorem LD (ok : M.Ok) (h : M.On) {s : Nat} (hs : s = 0 ∨ s = 1) {b : Sup} (hb : b.ok = true) :
 (M.wrs s b).2 = 0 ∧ (M.wrs s b).1.Ok ∧ (M.wrs s b).1.On ∧ (M.wrs s b).1.n = M.n ∧ (M.wrs s b).1.count ≤ M.count + 12 ∧ ∀ j, j ≠ s → (M.wrs s b).1.now j = M.now j := by
 have hn := ok.n0;obtain ⟨e1, e2, e3⟩ := nk h (i := s) (q := 7) (by omega) (by decide) 0;have e1 : (M.store (s : Int) 7 0).2 = 0 := e1;have e2 : (M.store (s : Int) 7 0).1.On := e2;have e3 : ∀ j, (M.store (s : Int) 7 0).1.now j = if j = s then (M.now j).set 7 0 else M.now j := e3
 have n1 : (M.store (s : Int) 7 0).1.n = M.n := AM.store_n;have c1 : (M.store (s : Int) 7 0).1.count ≤ M.count + 1 := AM.store_count;have o1 : (M.store (s : Int) 7 0).1.Ok := ok.store;obtain ⟨f1, f2, f3⟩ := Fv o1 e2 (at' := s) (pn b) (by omega);have n2 : ((M.store (s : Int) 7 0).1.layFrom s (aQ b) 0 8).1.n = _ := AM.layFrom_n;have c2 := AM.layFrom_count (M := (M.store (s : Int) 7 0).1) (at' := s) (l := aQ b) (n := 8) (j := 0);have o2 : ((M.store (s : Int) 7 0).1.layFrom s (aQ b) 0 8).1.Ok := o1.layFrom;unfold AM.wrs;rw [if_neg (by rw [hb]; simp; omega), if_neg (fun hh => hh e1)];simp only;rw [if_neg (fun hh => hh f1)];obtain ⟨g1, g2, g3⟩ := o9 f2 (i := (s : Int)) (by omega) (by rw [n2, n1]; omega);rw [g1, if_neg (by simp)];simp only;have o3 : (AM.stepped ((M.store (s : Int) 7 0).1.layFrom s (aQ b) 0 8).1 |>.flushed 0 (s : Int).toNat).Ok := o2.stepped.flushed _ _;obtain ⟨k1, k2, k3⟩ := tS g2;obtain ⟨o4, n4, c4⟩ := th o3;rw [k1];refine ⟨rfl, o4, k2, ?_, ?_, fun j hj => ?_⟩
 ·rw [n4]; exact n2.trans n1
 ·rw [c4];have : ((AM.stepped ((M.store (s : Int) 7 0).1.layFrom s (aQ b) 0 8).1).flushed 0 (s : Int).toNat).count = ((M.store (s : Int) 7 0).1.layFrom s (aQ b) 0 8).1.count + 1 := rfl;omega
 ·simp only;rw [k3, g3, f3, if_neg hj, e3, if_neg hj]
end
structure IS (n : Nat) (p : Nat × Int) : Prop where
 k : p.1 ≤ 3
 l : p.1 = 0 → 0 ≤ p.2 ∧ p.2 < n
 f : p.1 = 1 → 0 ≤ p.2 ∧ p.2 < 7
def wrN (p : Nat × Int) : Nat := if p.1 = 1 ∨ p.1 = 2 then 1 else 0
structure Mid (x0 : AS) (b : Sup) (sl seq : Int) (w : AW) : Prop where
 inv : Inv w.x
 on : w.x.M.On
 base : w.x.base = x0.base
 mark : w.x.mark = x0.work
 is : w.x.is = true
 dir : w.x.dir = x0.dir
 n : w.x.M.n = x0.M.n
 f : w.x.A.f = 10
 now : ∀ j : Nat, w.x.sh j = true → w.x.M.now j = x0.M.now j
 tbl : w.tbl = x0.work
 b : w.b = b
 sl : w.slot = sl
 seq : w.seq = seq
 d7 : 0 ≤ w.dir 7 ∧ w.dir 7 ≤ 1023
 st : ∃ S, w.st = S ++ [(4, 0)] ∧ ∀ p ∈ S, IS x0.M.n p
theorem CC {x0 : AS} {b : Sup} {sl seq : Int} {w : AW} (h : Mid x0 b sl seq w) {l : List Int} (hl : l.length = 8) {q : Nat} (hq : q < 8) :
 (w.x.A.left = 0 ∧ w.write l q = (w, 10)) ∨ ∃ k M, w.x.A.f ≤ k ∧ k < w.x.A.l ∧ w.x.A.st k = 0 ∧ w.write l q = ({ w with x := { w.x with M := M, A := w.x.A.put k 1 }, dir := upd w.dir q (k : Int) }, 0) ∧
  M.Ok ∧ M.On ∧ M.n = w.x.M.n ∧ M.count ≤ w.x.M.count + 9 ∧ ∀ i, M.now i = if i = k then l else w.x.M.now i := by
 rcases zO h.inv.ok h.on hl with ⟨e1, e2⟩ | ⟨k, M, h1, h2, h3, e, h4, h5, h6, h7⟩
 ·left;refine ⟨e1, ?_⟩;unfold AW.write;rw [e2, if_pos (by simp)]
 ·right;have hc := AS.lay_count (x := w.x) l;rw [e] at hc;have hln := h.inv.ok.l;obtain ⟨g1, g2, g3⟩ := o9 h5 (i := (k : Int)) (by omega) (by omega);refine ⟨k, (M.stepped.flushed 0 (k : Int).toNat), h1, h2, h3, ?_, h4.stepped.flushed _ _, g2, h6, ?_, fun i => by rw [g3, h7]⟩
  ·unfold AW.write;rw [e];simp only [ne_eq, not_true_eq_false, if_false, g1]
  ·have : (M.stepped.flushed 0 (k : Int).toNat).count = M.count + 1 := rfl;simp only at hc;omega
theorem Mid.step {x0 : AS} {b : Sup} {sl seq : Int} {w : AW} (h : Mid x0 b sl seq w) {p : Nat × Int} {r : List (Nat × Int)} (hw : w.st = p :: r) (hr : r ≠ []) :
 (∃ w', w.step = (w', false, 0) ∧ Mid x0 b sl seq w' ∧ w'.st = r ∧ w'.x.work = w.x.work ∧ w'.x.A.left + wrN p = w.x.A.left ∧ w'.x.M.count ≤ w.x.M.count + 12 ∧ ∀ j, w.x.A.st j = 1 → w'.x.M.now j = w.x.M.now j) ∨
 (w.x.A.left = 0 ∧ wrN p = 1 ∧ w.step = ({ w with x := w.x.abort.1, st := [] }, false, 10)) := by
 obtain ⟨S, e1, e2⟩ := h.st;obtain ⟨S', rfl⟩ : ∃ S', S = p :: S' := by
  cases S with
  | nil =>
   rw [e1] at hw;simp only [List.nil_append, List.cons.injEq] at hw;exact absurd hw.2.symm hr
  | cons p' S' =>
   rw [e1] at hw;simp only [List.cons_append, List.cons.injEq] at hw;rw [hw.1]; exact ⟨S', rfl⟩
 have er : r = S' ++ [(4, 0)] := by
  rw [e1] at hw;simp only [List.cons_append, List.cons.injEq] at hw;exact hw.2.symm
 have hp := e2 p List.mem_cons_self;have hS : ∀ q ∈ S', IS x0.M.n q := fun q hq => e2 q (List.mem_cons_of_mem _ hq);have hd : decide (r = []) = false := decide_eq_false hr;have ok := h.inv.ok;have memo : ∀ M : AM, M.Ok → M.On → M.n = w.x.M.n → M.count ≤ w.x.M.count + 12 → (∀ j, M.now j = w.x.M.now j) → w.doStep p = ({ w with x := { w.x with M := M } }, 0) → wrN p = 0 →
  ∃ w', w.step = (w', false, 0) ∧ Mid x0 b sl seq w' ∧ w'.st = r ∧ w'.x.work = w.x.work ∧ w'.x.A.left + wrN p = w.x.A.left ∧ w'.x.M.count ≤ w.x.M.count + 12 ∧ ∀ j, w.x.A.st j = 1 → w'.x.M.now j = w.x.M.now j := by
  intro M h1 h2 h3 h4 h5 h6 h7;refine ⟨{ w with x := { w.x with M := M }, st := r }, ?_, ⟨h.inv.withM h1 h3, h2, h.base, h.mark, h.is, h.dir, h3.trans h.n, h.f, fun j hj => ?_, h.tbl, h.b, h.sl, h.seq, h.d7, S', er, hS⟩, rfl, rfl, ?_, h4, fun j _ => h5 j⟩
  ·unfold AW.step;rw [hw];simp only [h6, hd, if_true]
  ·simp only;rw [h5]; exact h.now j hj
  ·rw [h7]; rfl
 have wrt : ∀ (l : List Int) (q : Nat), l.length = 8 → q < 8 → w.doStep p = w.write l q → wrN p = 1 →
  (∃ w', w.step = (w', false, 0) ∧ Mid x0 b sl seq w' ∧ w'.st = r ∧ w'.x.work = w.x.work ∧ w'.x.A.left + wrN p = w.x.A.left ∧ w'.x.M.count ≤ w.x.M.count + 12 ∧ ∀ j, w.x.A.st j = 1 → w'.x.M.now j = w.x.M.now j) ∨
  (w.x.A.left = 0 ∧ wrN p = 1 ∧ w.step = ({ w with x := w.x.abort.1, st := [] }, false, 10)) := by
  intro l q hl hq h6 h7;rcases CC h hl hq with ⟨g1, g2⟩ | ⟨k, M, k1, k2, k3, k4, k5, k6, k7, k8, k9⟩
  ·right;refine ⟨g1, h7, ?_⟩;unfold AW.step;rw [hw];simp only [h6, g2];rw [if_neg (by decide), if_pos trivial]
  ·left;have hlp := AF.left_put (A := w.x.A) (k := k) (x := 1) k1 k2;rw [if_pos k3, if_neg (by decide)] at hlp;have hiv : Inv { w.x with M := M, A := w.x.A.put k 1 } := (h.inv.taken k3).withM k5 k7;have hne : ∀ j, w.x.A.st j = 1 → j ≠ k := fun j hj e => by rw [e, k3] at hj; cases hj
   refine ⟨{ w with x := { w.x with M := M, A := w.x.A.put k 1 }, dir := upd w.dir q (k : Int), st := r }, ?_, ⟨hiv, k6, h.base, h.mark, h.is, h.dir, k7.trans h.n, h.f, fun j hj => ?_, h.tbl, h.b, h.sl, h.seq, ?_, S', er, hS⟩, rfl, rfl, ?_, ?_, fun j hj => ?_⟩
   ·unfold AW.step;rw [hw];simp only [h6, k4, hd, if_true]
   ·have hj : w.x.sh j = true := hj;simp only;rw [k9, if_neg (hne j (h.inv.s1 j hj))];exact h.now j hj
   ·have := h.inv.ok.A.l1;simp only [upd];split
    ·omega
    ·exact h.d7
   ·simp only; omega
   ·simp only; omega
   ·simp only;rw [k9, if_neg (hne j hj)]
 obtain ⟨c, n⟩ := p;have hk := hp.k;simp only at hk
 match c, hp, memo, wrt with
 | 0, hp, memo, _ =>
  left;have := hp.l rfl;obtain ⟨g1, g2, g3⟩ := o9 h.on (i := n) this.1 (by rw [h.n]; exact this.2);exact memo _ (ok.M.stepped.flushed _ _) g2 rfl (by show w.x.M.count + 1 ≤ _; omega) g3 (by unfold AW.doStep; simp only [g1]) rfl
 | 1, hp, _, wrt =>
  have := hp.f rfl;simp only at this;exact wrt _ n.toNat (lH _ _) (by omega) rfl rfl
 | 2, _, _, wrt => exact wrt _ 7 (nR _) (by decide) rfl rfl
 | 3, _, memo, _ =>
  left;obtain ⟨g1, g2, g3⟩ := tS h.on;obtain ⟨o1, o2, o3⟩ := th ok.M;exact memo _ o1 g2 o2 (by omega) g3 (by unfold AW.doStep; simp only [g1]) rfl
end Go.Proofs.YtilcajpldklbiaaDoor
namespace Go.Proofs.YtilcajpldklbiaaDoor
open Go.Ab
end Go.Proofs.YtilcajpldklbiaaDoor
