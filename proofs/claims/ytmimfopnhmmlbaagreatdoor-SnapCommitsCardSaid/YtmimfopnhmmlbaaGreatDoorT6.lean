/-
  YtmimfopnhmmlbaaGreatDoorT6: what functions of the program compute (CrcB, RadC, DurA, LodA, LodB, LodC, SupB, MemC, DurB, DurC, DurD, DurE, DurF, DurG, DurH, DurI, RefE, ComA, ComB, ComC, ComD, ComE).
-/
import Derived.Test.YtmimfopnhmmlbaaGreatDoorT4
import Derived.Test.YtmimfopnhmmlbaaGreatDoorT5
set_option maxRecDepth 100000
namespace Go.Proofs.YtmimfopnhmmlbaaGreatDoor
open Go.Ab
theorem BT {k : IntKind} : ∀ {A B : List Int}, A.length = B.length → bB (A.map (.int k)) (B.map (.int k)) = some (decide (A = B))
 | [], [], _ => by simp [bB]
 | a :: A, b :: B, h => by
  have ih := BT (k := k) (A := A) (B := B) (by simpa using h);simp only [List.map_cons, bB, veq, if_true, ih];by_cases hab : a = b
  ·subst hab; simp
  ·simp [hab]
 | [], _ :: _, h => by simp at h
 | _ :: _, [], h => by simp at h
theorem FK {a b : List Int} (h : a.length = b.length) : veq (.agg 24 (a.map (.int .u64))) (.agg 24 (b.map (.int .u64))) = some (decide (a = b)) := by
 have := BT (k := .u64) h;show (if 24 = 24 then bB _ _ else none) = _
 rw [if_pos rfl]; exact this
theorem tw {l : List Int} (hl : l.length = 8) (s : St) : rf D pQ [lnV l] s = some (.bool (decide (l = bh l)), s) := by
 have hs := fun s => lW hl s;have he := FK (a := l) (b := bh l) (by rw [n9]);simp only [lnV] at *;generalize bh l = Z at *;rw [ae Db rfl];simp only [go_sem, hs, he]
def gO (w : Nat) : Ent := ⟨(w % 16 : Nat), (w / 16 % 16777216 : Nat), (w / 268435456 % 65536 : Nat)⟩
def qt (w : Nat) : Bool := bE (gO w) && decide (jO (gO w) = w)
theorem oE {a b : Nat} (hb : 1 ≤ b) (hab : a + b ≤ 63) (hm : 18446744073709551615 / 2 ^ (64 - b) = 2 ^ b - 1) (hb2 : b ≤ 40) {L hp : List Blk} {w : Nat} (h7 : w < 18446744073709551616) (X : List Blk) :
 rf D gu [.int .i64 a, .int .i64 b, .ptr (.loc L.length) [] 18] ⟨L ++ .rw (.int .u64 w) :: X, hp⟩ = some (.int .i64 (w / 2 ^ a % 2 ^ b : Nat), ⟨L ++ .rw (.int .u64 w) :: X, hp⟩) := by
 have hf := fun s => Gn (w := w) hb (show a + b ≤ 64 by omega) h7 hm s;have hlt : w / 2 ^ a % 2 ^ b < 2 ^ 40 := Nat.lt_of_lt_of_le (Nat.mod_lt _ (Nat.two_pow_pos b)) (Nat.pow_le_pow_right (by decide) hb2);have e1 : IntKind.i64.wrap ((w / 2 ^ a % 2 ^ b : Nat) : Int) = (w / 2 ^ a % 2 ^ b : Nat) := ag (by omega) (by omega);generalize w / 2 ^ a % 2 ^ b = z at *;have hrd : (L ++ .rw (.int .u64 w) :: X)[L.length]? = some (.rw (.int .u64 w)) := by
  rw [List.getElem?_append_right (Nat.le_refl _), Nat.sub_self]; rfl
 generalize L ++ .rw (.int .u64 w) :: X = L2 at *;rw [ae zM rfl];simp only [go_sem, hrd, hf, e1]
theorem AV {w : Nat} (hw : w < 18446744073709551616) (s : St) : rf D mZ [.int .u64 w] s = some (.tup [if qt w = true then (gO w).v else az.v, .bool (qt w)], s) := by
 have f1 := fun X => oE (a := 0) (b := 4) (by decide) (by decide) (by decide) (by decide) (L := s.loc) (hp := s.hp) hw X;have f2 := fun X => oE (a := 4) (b := 24) (by decide) (by decide) (by decide) (by decide) (L := s.loc) (hp := s.hp) hw X;have f3 := fun X => oE (a := 28) (b := 16) (by decide) (by decide) (by decide) (by decide) (L := s.loc) (hp := s.hp) hw X;simp only [show w / 2 ^ 0 % 2 ^ 4 = w % 16 by omega, show w / 2 ^ 4 % 2 ^ 24 = w / 16 % 16777216 by omega, show w / 2 ^ 28 % 2 ^ 16 = w / 268435456 % 65536 by omega] at f1 f2 f3;unfold qt;have key : ∀ k v l : Int, gO w = ⟨k, v, l⟩ → (∀ X, rf D gu [.int .i64 0, .int .i64 4, .ptr (.loc s.loc.length) [] 18] ⟨s.loc ++ .rw (.int .u64 w) :: X, s.hp⟩ = some (.int .i64 k, ⟨s.loc ++ .rw (.int .u64 w) :: X, s.hp⟩)) →
  (∀ X, rf D gu [.int .i64 4, .int .i64 24, .ptr (.loc s.loc.length) [] 18] ⟨s.loc ++ .rw (.int .u64 w) :: X, s.hp⟩ = some (.int .i64 v, ⟨s.loc ++ .rw (.int .u64 w) :: X, s.hp⟩)) →
  (∀ X, rf D gu [.int .i64 28, .int .i64 16, .ptr (.loc s.loc.length) [] 18] ⟨s.loc ++ .rw (.int .u64 w) :: X, s.hp⟩ = some (.int .i64 l, ⟨s.loc ++ .rw (.int .u64 w) :: X, s.hp⟩)) →
  rf D mZ [.int .u64 w] s = some (.tup [if (bE (gO w) && decide (jO (gO w) = w)) = true then (gO w).v else az.v, .bool (bE (gO w) && decide (jO (gO w) = w))], s) := by
  intro k v l he f1 f2 f3;have hW := fun s => qM (gO w) s;unfold wT at hW;rw [he] at hW ⊢;cases hb : bE ⟨k, v, l⟩ with
  | false =>
   rw [hb] at hW;simp only [Bool.false_eq_true, if_false, Bool.false_and, Ent.v, az] at hW ⊢;rw [ae vp rfl];simp only [go_sem, f1, f2, f3, hW]
  | true =>
   rw [hb] at hW;simp only [if_true, Bool.true_and, Ent.v, az] at hW ⊢;generalize jO ⟨k, v, l⟩ = z at *;rw [ae vp rfl];by_cases hzw : z = (w : Int)
   ·simp only [go_sem, f1, f2, f3, hW, hzw]
   ·simp only [go_sem, f1, f2, f3, hW, hzw]
 exact key _ _ _ rfl f1 f2 f3
end Go.Proofs.YtmimfopnhmmlbaaGreatDoor
namespace Go.Proofs.YtmimfopnhmmlbaaGreatDoor
open Go.Ab
def rdv (l : List Int) (j : Nat) : Int := eQ .u64 (l.getD j 0) 4294967296
def rdN (l : List Int) (j : Nat) : Int := IntKind.i64.wrap (rdv l j)
def tS (l : List Int) (i n : Nat) : Bool := (List.range n).all fun j => decide (rdv l (i + j) < 1024)
theorem FU (l : List Int) (i n : Nat) : tS l i (n + 1) = (decide (rdv l i < 1024) && tS l (i + 1) n) := by
 have e : (fun j => decide (rdv l (i + j) < 1024)) ∘ Nat.succ = fun j => decide (rdv l (i + 1 + j) < 1024) := by
  funext j;show decide (rdv l (i + (j + 1)) < 1024) = _;rw [show i + (j + 1) = i + 1 + j by omega]
 unfold tS;rw [List.range_succ_eq_map, List.all_cons, List.all_map, e];rfl
def iN (f : Nat → Int) (i j : Nat) : Int := if j < i then f j else 0
theorem JH {f : Nat → Int} {n i : Nat} : (tab n fun j => V.int .i64 (iN f i j)).set i (.int .i64 (f i)) = tab n fun j => .int .i64 (iN f (i + 1) j) := by
 rw [bw];apply aI;intro j _;unfold upd iN;by_cases e : j = i
 ·subst e; rw [if_pos rfl, if_pos (by omega)]
 ·rw [if_neg e];show V.int _ _ = V.int _ _;by_cases h : j < i
  ·rw [if_pos h, if_pos (by omega)]
  ·rw [if_neg h, if_neg (by omega)]
theorem wq {f : Nat → Int} : d7V (iN f 0) = .agg 60 (List.replicate 7 (.int .i64 0)) := by
 unfold d7V; rw [bF]; congr 1
theorem tK {l : List Int} (hl : l.length = 8) (L hp : List Blk) : ∀ (n i : Nat), i + n = 7 → ∃ r,
 rc D L.length (.loop [1, 2, 4, 11] c9) [(1, .ptr (.loc L.length) [] 24), (2, .ptr (.loc (L.length + 1)) [] 60), (4, .ptr (.loc (L.length + 2)) [] 60), (11, .int .i64 i)] ⟨L ++ [.rw (lnV l), .rw (d7V (iN (rdN l) 0)), .rw (d7V (iN (rdN l) i))], hp⟩ = some r ∧
 ((tS l i n = true ∧ r = (.exit 0, [(1, .ptr (.loc L.length) [] 24), (2, .ptr (.loc (L.length + 1)) [] 60), (4, .ptr (.loc (L.length + 2)) [] 60), (11, .int .i64 7), (12, .bool false)], ⟨L ++ [.rw (lnV l), .rw (d7V (iN (rdN l) 0)), .rw (d7V (iN (rdN l) 7))], hp⟩)) ∨
  (tS l i n = false ∧ ∃ X, r = (.ret, [(2, .ptr (.loc (L.length + 1)) [] 60), (3, .bool false)], ⟨L ++ [.rw (lnV l), .rw (d7V (iN (rdN l) 0)), X], hp⟩)))
 | 0, i, hi => by
  have : i = 7 := by omega
  subst this;refine ⟨_, ?_, .inl ⟨rfl, rfl⟩⟩;rw [ah];simp only [d7V, lnV];simp only [go_sem, c9]
 | n + 1, i, hi => by
  have d1 : (i : Int) < 7 := by omega
  have d2 : (0 : Int) ≤ i := by omega
  have d3 : (i : Int) < 8 := by omega
  have d4 : IntKind.i64.wrap ((i : Int) + 1) = ((i + 1 : Nat) : Int) := ag (by omega) (by omega);have g1 := al (f := fun j => V.int .i64 (iN (rdN l) i j)) (show i < 7 by omega);have g2 : (l.map (V.int .u64))[i]? = some (.int .u64 (l.getD i 0)) := aP (by omega) 0;have z1 : L.length < L.length + 3 := by omega
  have z3 : L.length + 1 < L.length + 3 := by omega
  have z4 : L.length + 2 < L.length + 3 := by omega
  have hs := JH (f := rdN l) (n := 7) (i := i);have hr : eQ .u64 (l.getD i 0) 4294967296 = rdv l i := rfl;have hN : rdN l i = IntKind.i64.wrap (rdv l i) := rfl;rw [FU];by_cases h1 : rdv l i < 1024
  ·obtain ⟨r, q1, q2⟩ := tK hl L hp n (i + 1) (by omega);refine ⟨r, ?_, by rw [decide_eq_true h1]; exact q2⟩;have h1' : ¬ rdv l i ≥ 1024 := by omega
   rw [← q1, ah];simp only [d7V, lnV] at *;rw [← hs, hN];generalize (tab 7 fun j => V.int .i64 (iN (rdN l) i j)) = T at *;generalize (tab 7 fun j => V.int .i64 (iN (rdN l) 0 j)) = T0 at *;generalize l.getD i 0 = w0 at *;generalize rdv l i = x at *;simp only [go_sem, c9, d1, d2, d3, d4, Int.toNat_natCast, g1, g2, hr, h1', z1, z3, z4]
  ·refine ⟨_, ?_, .inr ⟨by rw [decide_eq_false h1]; rfl, .rw (d7V (iN (rdN l) i)), rfl⟩⟩;have h1' : rdv l i ≥ 1024 := by omega
   rw [ah];simp only [d7V, lnV] at *;generalize (tab 7 fun j => V.int .i64 (iN (rdN l) i j)) = T at *;generalize (tab 7 fun j => V.int .i64 (iN (rdN l) 0 j)) = T0 at *;generalize l.getD i 0 = w0 at *;generalize rdv l i = x at *;simp only [go_sem, c9, d1, d2, d3, Int.toNat_natCast, g2, hr, h1', z1, z3, z4]
def kE (l : List Int) : Bool := decide (l = bh l) && tS l 0 7
def av (l : List Int) (j : Nat) : Int := if kE l = true then rdN l j else 0
theorem BG {l : List Int} (hl : l.length = 8) (s : St) : rf D jL [lnV l] s = some (.tup [d7V (av l), .bool (kE l)], s) := by
 have hg := fun s => tw hl s;have hfin : d7V (iN (rdN l) 7) = d7V (rdN l) := by
  unfold d7V; congr 1
 have hzero : d7V (iN (rdN l) 0) = d7V (fun _ => 0) := by
  unfold d7V; congr 1
 obtain ⟨r, q1, q2⟩ := tK hl s.loc s.hp 7 0 rfl;rw [show ((0 : Nat) : Int) = 0 from rfl] at q1
 rw [show d7V (av l) = if kE l = true then d7V (rdN l) else d7V (fun _ => 0) by unfold d7V av; split <;> rfl]
 unfold kE;by_cases c0 : l = bh l
 ·rw [decide_eq_true c0] at hg ⊢;rw [Bool.true_and];rcases q2 with ⟨c, rfl⟩ | ⟨c, X, rfl⟩
  ·rw [c, if_pos rfl, ← hfin];rw [wq] at q1;simp only [lnV] at *;have hz : (d7V fun _ => (0 : Int)) = .agg 60 (List.replicate 7 (.int .i64 0)) := by unfold d7V; rw [bF]
   simp only [d7V] at *;rw [ae jM rfl];simp only [go_sem, hg, q1]
  ·rw [c, if_neg (by simp), ← hzero];rw [wq] at *;simp only [lnV] at *;rw [ae jM rfl];simp only [go_sem, hg, q1]
 ·rw [decide_eq_false c0] at hg ⊢;rw [Bool.false_and, if_neg (by simp), ← hzero, wq];simp only [lnV] at *;rw [ae jM rfl];simp only [go_sem, hg]
def rn (w : Int) : Ent := gO w.toNat
def rdl (l : List Int) (j : Nat) : Bool := qt (l.getD j 0).toNat
def tQ (l : List Int) (i n : Nat) : Bool := (List.range n).all fun j => rdl l (i + j)
theorem FA (l : List Int) (i n : Nat) : tQ l i (n + 1) = (rdl l i && tQ l (i + 1) n) := by
 have e : (fun j => rdl l (i + j)) ∘ Nat.succ = fun j => rdl l (i + 1 + j) := by
  funext j;show rdl l (i + (j + 1)) = _;rw [show i + (j + 1) = i + 1 + j by omega]
 unfold tQ;rw [List.range_succ_eq_map, List.all_cons, List.all_map, e];rfl
def lvE (l : List Int) (i j : Nat) : Ent := if j < i then rn (l.getD j 0) else az
def lvV (f : Nat → Ent) : V := .agg 94 (tab 7 fun j => (f j).v)
theorem Mo {l : List Int} {i : Nat} : (tab 7 fun j => (lvE l i j).v).set i (rn (l.getD i 0)).v = tab 7 fun j => (lvE l (i + 1) j).v := by
 rw [bw];apply aI;intro j _;unfold upd lvE;by_cases e : j = i
 ·subst e; rw [if_pos rfl, if_pos (by omega)]
 ·rw [if_neg e];show Ent.v _ = Ent.v _;by_cases h : j < i
  ·rw [if_pos h, if_pos (by omega)]
  ·rw [if_neg h, if_neg (by omega)]
theorem sI {l : List Int} : lvV (lvE l 0) = .agg 94 (List.replicate 7 (.agg 42 [.int .i64 0, .int .i64 0, .int .i64 0])) := by
 unfold lvV; rw [bF]; congr 1
theorem tA {l : List Int} (hl : l.length = 8) (hw : ∀ x ∈ l, 0 ≤ x ∧ x < 18446744073709551616) (L hp : List Blk) : ∀ (n i : Nat), i + n = 7 → ∃ r,
 rc D L.length (.loop [1, 2, 4, 10] cZ) [(1, .ptr (.loc L.length) [] 24), (2, .ptr (.loc (L.length + 1)) [] 94), (4, .ptr (.loc (L.length + 2)) [] 94), (10, .int .i64 i)] ⟨L ++ [.rw (lnV l), .rw (lvV (lvE l 0)), .rw (lvV (lvE l i))], hp⟩ = some r ∧
 ((tQ l i n = true ∧ r = (.exit 0, [(1, .ptr (.loc L.length) [] 24), (2, .ptr (.loc (L.length + 1)) [] 94), (4, .ptr (.loc (L.length + 2)) [] 94), (10, .int .i64 7), (11, .bool false)], ⟨L ++ [.rw (lnV l), .rw (lvV (lvE l 0)), .rw (lvV (lvE l 7))], hp⟩)) ∨
  (tQ l i n = false ∧ ∃ X, r = (.ret, [(2, .ptr (.loc (L.length + 1)) [] 94), (3, .bool false)], ⟨L ++ [.rw (lnV l), .rw (lvV (lvE l 0)), X], hp⟩)))
 | 0, i, hi => by
  have : i = 7 := by omega
  subst this;refine ⟨_, ?_, .inl ⟨rfl, rfl⟩⟩;rw [ah];simp only [lvV, lnV];simp only [go_sem, cZ]
 | n + 1, i, hi => by
  have d1 : (i : Int) < 7 := by omega
  have d2 : (0 : Int) ≤ i := by omega
  have d3 : (i : Int) < 8 := by omega
  have d4 : IntKind.i64.wrap ((i : Int) + 1) = ((i + 1 : Nat) : Int) := ag (by omega) (by omega);have g1 := al (f := fun j => (lvE l i j).v) (show i < 7 by omega);have g2 : (l.map (V.int .u64))[i]? = some (.int .u64 (l.getD i 0)) := aP (by omega) 0;have hwi := hw (l.getD i 0) (by rw [List.getD_eq_getElem?_getD, List.getElem?_eq_getElem (by omega)]; exact List.getElem_mem _);have he := fun s => AV (w := (l.getD i 0).toNat) (by omega) s;rw [show (((l.getD i 0).toNat : Nat) : Int) = l.getD i 0 by omega] at he;have z1 : L.length < L.length + 3 := by omega
  have z3 : L.length + 1 < L.length + 3 := by omega
  have z4 : L.length + 2 < L.length + 3 := by omega
  have hs := Mo (l := l) (i := i);rw [FA];have hb : qt (l.getD i 0).toNat = rdl l i := rfl;rw [hb] at he;cases hc : rdl l i with
  | true =>
   obtain ⟨r, q1, q2⟩ := tA hl hw L hp n (i + 1) (by omega);refine ⟨r, ?_, by rw [Bool.true_and]; exact q2⟩;rw [hc, if_pos rfl, show gO (l.getD i 0).toNat = rn (l.getD i 0) from rfl] at he
   rw [← q1, ah];simp only [lvV, lnV] at *;rw [← hs];generalize hE : rn (l.getD i 0) = E at *;generalize hE0 : lvE l i i = E0 at *;obtain ⟨a1, a2, a3⟩ := E;obtain ⟨b1, b2, b3⟩ := E0;generalize (tab 7 fun j => (lvE l i j).v) = T at *;generalize (tab 7 fun j => (lvE l 0 j).v) = T0 at *;generalize l.getD i 0 = w0 at *;simp only [Ent.v] at *;simp only [go_sem, cZ, d1, d2, d3, d4, Int.toNat_natCast, g1, g2, he, z1, z3, z4]
  | false =>
   rw [hc, if_neg (by simp)] at he;refine ⟨_, ?_, .inr ⟨by rw [Bool.false_and], .rw (.agg 94 ((tab 7 fun j => (lvE l i j).v).set i az.v)), rfl⟩⟩;rw [ah];simp only [lvV, lnV] at *;generalize hE0 : lvE l i i = E0 at *;obtain ⟨b1, b2, b3⟩ := E0;generalize (tab 7 fun j => (lvE l i j).v) = T at *;generalize (tab 7 fun j => (lvE l 0 j).v) = T0 at *;generalize l.getD i 0 = w0 at *;simp only [Ent.v, az] at *;simp only [go_sem, cZ, d1, d2, d3, d4, Int.toNat_natCast, g1, g2, he, z1, z3, z4]
def jq (l : List Int) : Bool := decide (l = bh l) && tQ l 0 7
def jD (l : List Int) (j : Nat) : Ent := if jq l = true then rn (l.getD j 0) else az
theorem Bq {l : List Int} (hl : l.length = 8) (hw : ∀ x ∈ l, 0 ≤ x ∧ x < 18446744073709551616) (s : St) : rf D jN [lnV l] s = some (.tup [lvV (jD l), .bool (jq l)], s) := by
 have hg := fun s => tw hl s;have hfin : lvV (lvE l 7) = lvV (fun j => rn (l.getD j 0)) := by
  unfold lvV; congr 1
 have hzero : lvV (lvE l 0) = lvV (fun _ => az) := by
  unfold lvV; congr 1
 obtain ⟨r, q1, q2⟩ := tA hl hw s.loc s.hp 7 0 rfl;rw [show ((0 : Nat) : Int) = 0 from rfl] at q1
 rw [show lvV (jD l) = if jq l = true then lvV (fun j => rn (l.getD j 0)) else lvV (fun _ => az) by unfold lvV jD; split <;> rfl]
 unfold jq;by_cases c0 : l = bh l
 ·rw [decide_eq_true c0] at hg ⊢;rw [Bool.true_and];rcases q2 with ⟨c, rfl⟩ | ⟨c, X, rfl⟩
  ·rw [c, if_pos rfl, ← hfin];rw [sI] at q1;simp only [lnV] at *;have hz : lvV (fun _ => az) = .agg 94 (List.replicate 7 (.agg 42 [.int .i64 0, .int .i64 0, .int .i64 0])) := by rw [← hzero, sI]
   simp only [lvV] at *;rw [ae jP rfl];simp only [go_sem, hg, q1]
  ·rw [c, if_neg (by simp), ← hzero];rw [sI] at *;simp only [lnV] at *;rw [ae jP rfl];simp only [go_sem, hg, q1]
 ·rw [decide_eq_false c0] at hg ⊢;rw [Bool.false_and, if_neg (by simp), ← hzero, sI];simp only [lnV] at *;rw [ae jP rfl];simp only [go_sem, hg]
end Go.Proofs.YtmimfopnhmmlbaaGreatDoor
namespace Go.Proofs.YtmimfopnhmmlbaaGreatDoor
open Go.Ab
structure Sm (M M' : AM) (j : Nat) : Prop where
 L : M'.L j = M.L j
 S : M'.S j = M.S j
theorem Sm.refl (M : AM) (j : Nat) : Sm M M j := ⟨rfl, rfl⟩
theorem Sm.trans {M M' M'' : AM} {j : Nat} (h : Sm M M' j) (h' : Sm M' M'' j) : Sm M M'' j := ⟨h'.L.trans h.L, h'.S.trans h.S⟩
theorem Sm.now {M M' : AM} {j : Nat} (h : Sm M M' j) : M'.now j = M.now j := by unfold AM.now; rw [h.L, h.S]
def Sur (M : AM) (j : Nat) : Prop := M.L j = []
def Fl (M : AM) (j : Nat) : Prop := flN 0 (M.L j) = (M.L j).length
theorem Sur.fl {M : AM} {j : Nat} (h : Sur M j) : Fl M j := by unfold Fl; rw [h]; rfl
theorem Sur.now {M : AM} {j : Nat} (h : Sur M j) : M.now j = M.S j := by unfold AM.now; rw [h]; rfl
theorem Sm.sur {M M' : AM} {j : Nat} (h : Sm M M' j) (hs : Sur M j) : Sur M' j := h.L.trans hs
theorem Sm.fl {M M' : AM} {j : Nat} (h : Sm M M' j) (hs : Fl M j) : Fl M' j := by unfold Fl; rw [h.L]; exact hs
theorem vi {M : AM} {j : Nat} : Sm M M.out j := ⟨rfl, rfl⟩
theorem pJ {M : AM} {i q v : Int} {j : Nat} (h : j ≠ i.toNat) : Sm M (M.store i q v).1 j := by
 unfold AM.store;split
 ·exact .refl _ _
 ·split
  ·exact vi
  ·exact ⟨by simp only [AM.push, AM.stepped]; exact ao h, rfl⟩
theorem mX {at' : Int} {l : List Int} {j : Nat} (h : j ≠ at'.toNat) : ∀ (n i : Nat) (M : AM), Sm M (M.layFrom at' l i n).1 j
 | 0, _, M => .refl M j
 | n + 1, i, M => by
  unfold AM.layFrom;split
  ·exact pJ h
  ·exact (pJ h).trans (mX h n (i + 1) _)
theorem Ah {M : AM} {c i : Int} {j : Nat} (h : j ≠ i.toNat) : Sm M (M.flush c i).1 j := by
 unfold AM.flush;split
 ·exact .refl _ _
 ·split
  ·exact vi
  ·exact ⟨by simp only [AM.flushed, AM.stepped]; exact ao h, rfl⟩
theorem uc {M : AM} {i n j : Nat} (h : j ≠ i) : Sm M (M.sureN i n) j := ⟨by simp only [AM.sureN]; exact ao h, by simp only [AM.sureN]; exact ao h⟩
theorem oB {M : AM} {c j : Nat} : ∀ i, i ≤ j → Sm M (M.fencedTo c i) j
 | 0, _ => .refl M j
 | i + 1, h => (oB i (by omega)).trans (uc (by omega))
theorem oz {M : AM} {c j : Nat} : ∀ i, j < i → (M.fencedTo c i).L j = (M.L j).drop (flN c (M.L j)) ∧ (M.fencedTo c i).S j = am (M.S j) ((M.L j).take (flN c (M.L j)))
 | 0, h => by omega
 | i + 1, h => by
  by_cases e : j = i
  ·subst e;have hs := oB (M := M) (c := c) (j := j) j (Nat.le_refl _);simp only [AM.fencedTo, AM.sureN, aj, hs.L, hs.S, and_self]
  ·have := oz (M := M) (c := c) i (show j < i by omega);have h2 := uc (M := M.fencedTo c i) (n := flN c ((M.fencedTo c i).L i)) e;exact ⟨h2.L.trans this.1, h2.S.trans this.2⟩
theorem DT {M : AM} {c i j : Nat} (h : Sur M j) : Sm M (M.fencedTo c i) j := by
 by_cases hj : j < i
 ·have := oz (M := M) (c := c) i hj;have e : M.L j = [] := h;rw [e] at this;exact ⟨by rw [e]; exact this.1, this.2⟩
 ·exact oB i (by omega)
theorem Fb {M : AM} {i j : Nat} (h : Fl M j) (hj : j < i) : Sur (M.fencedTo 0 i) j := by
 have := (oz (M := M) (c := 0) i hj).1;rw [show flN 0 (M.L j) = (M.L j).length from h, List.drop_length] at this
 exact this
theorem ue {M : AM} {c : Int} {j : Nat} (h : Sur M j) : Sm M (M.fence c).1 j := by
 unfold AM.fence;split
 ·exact .refl _ _
 ·split
  ·exact vi
  ·have h2 : Sur M.stepped j := h;exact Sm.trans (M' := M.stepped) ⟨rfl, rfl⟩ (DT h2)
theorem vw {M : AM} {i : Nat} : Fl (M.flushed 0 i) i := by
 unfold Fl AM.flushed;simp only [aj, Ag, List.length_map]
structure Kp (x : AS) (j : Nat) : Prop where
 k : j < x.A.f ∨ (x.A.st j = 1 ∧ (x.sh j = true ∨ ax x.work j = false))
theorem vP {x : AS} (h : x.A.Ok) {l : List Int} {j : Nat} (hj : j < x.A.f ∨ x.A.st j = 1) : Sm x.M (x.lay l).1.M j := by
 unfold AS.lay;split
 ·exact .refl _ _
 ·cases hf : x.A.first with
  | none =>
   rename_i hne;have ha : x.A.alloc = (x.A, 0, 10) := by unfold AF.alloc; rw [hf]
   rw [ha] at hne;simp at hne
  | some k =>
   obtain ⟨h1, h2, h3, _⟩ := iW h hf;have ha : x.A.alloc = (x.A.put k 1, (k : Int), 0) := by unfold AF.alloc; rw [hf]
   rw [ha];simp only;refine mX ?_ 8 0 x.M;rw [Int.toNat_natCast];rintro rfl;rcases hj with hj | hj
   ·omega
   ·rw [h3] at hj; cases hj
theorem Kp.one {x : AS} {j : Nat} (h : Kp x j) : j < x.A.f ∨ x.A.st j = 1 := h.k.imp id fun h => h.1
theorem MO {x : AS} (h : Inv x) {id word v : Int} {j : Nat} (hj : Kp x j) : Sm x.M (x.set id word v).1.M j := by
 unfold AS.set;split
 ·exact .refl _ _
 ·rename_i hid;split
  ·exact .refl _ _
  ·rename_i hk;split
   ·rename_i ho;refine pJ (fun e => ?_);have hi : id.toNat < 49 := by omega
    obtain ⟨q, hq, h1, _, _⟩ := h.ln hi hk;rw [hq, Int.toNat_natCast] at e;unfold AS.own at ho;rw [hq, Int.toNat_natCast, ← e, Bool.not_eq_true'] at ho;rcases hj.k with hj | ⟨_, hj⟩
    ·omega
    ·rw [ho, aM.2 ⟨id.toNat, hi, hk, by rw [e]; exact hq⟩] at hj;rcases hj with hj | hj <;> cases hj
   ·split
    ·exact .refl _ _
    ·split
     ·exact .refl _ _
     ·simp only;split
      ·exact vP h.ok.A hj.one
      ·exact vP h.ok.A hj.one
theorem LQ {x : AS} (h : Inv x) {k : Int} {j : Nat} (hj : Kp x j) : Sm x.M (x.make k).1.M j := by
 unfold AS.make;split
 ·exact .refl _ _
 ·simp only;split
  ·exact vP h.ok.A hj.one
  ·exact vP h.ok.A hj.one
theorem Ls {x : AS} {id : Int} {j : Nat} : Sm x.M (x.ends id).1.M j := by
 unfold AS.ends;split
 ·exact .refl _ _
 ·exact .refl _ _
theorem xm {x : AS} (h : Inv x) (o : Cll) {j : Nat} (hj : Kp x j) : Sm x.M (x.change o).M j := by
 unfold AS.change;split
 ·exact MO h hj
 ·split
  ·exact LQ h hj
  ·exact Ls
end Go.Proofs.YtmimfopnhmmlbaaGreatDoor
namespace Go.Proofs.YtmimfopnhmmlbaaGreatDoor
open Go.Ab
def onc (n : Nat) (from' : Int) (ks : List Int) (line : Int) : Bool := decide (from' ≤ line) && (decide (0 ≤ line) && (decide (line < n) && !decide (line ∈ ks)))
theorem wY {hp : List Blk} {F : Ft} {m : Nat} {M : AM} (h : aZ hp F m M) {i : Nat} {ks : List Int} (hk : hp[i]? = some (.mp ks)) (fr line : Int) {L : List Blk} {p : Nat} (hp' : L[p]? = some (.rw (.agg 73 [.ptr (.hp m) [] 59, .int .i64 fr, .mp (some i)]))) :
 rf D ir [.ptr (.loc p) [] 73, .int .i64 line] ⟨L, hp⟩ = some (.bool (onc M.n fr ks line), ⟨L, if onc M.n fr ks line = true then hp.set i (.mp (ks ++ [line])) else hp⟩) := by
 have hl := oW h;unfold onc;rw [ae qZ rfl];by_cases c1 : line < fr
 ·rw [decide_eq_false (show ¬ fr ≤ line by omega)];simp only [go_sem, hp', c1]
 ·rw [decide_eq_true (show fr ≤ line by omega)];by_cases c2 : line < 0
  ·rw [decide_eq_false (show ¬ 0 ≤ line by omega)];simp only [go_sem, hp', c1, c2]
  ·rw [decide_eq_true (show 0 ≤ line by omega)];by_cases c3 : line ≥ M.n
   ·rw [decide_eq_false (show ¬ line < (M.n : Int) by omega)];simp only [go_sem, hp', c1, c2, c3, hl]
   ·rw [decide_eq_true (show line < (M.n : Int) by omega)];by_cases c4 : line ∈ ks
    ·rw [decide_eq_true c4];simp only [go_sem, hp', c1, c2, c3, hl, hk, c4]
    ·rw [decide_eq_false c4];simp only [go_sem, hp', c1, c2, c3, hl, hk, c4]
end Go.Proofs.YtmimfopnhmmlbaaGreatDoor
namespace Go.Proofs.YtmimfopnhmmlbaaGreatDoor
open Go.Ab
theorem D6 {f g : Nat → V} {k : Nat} (hk : k < 7) : (tab 49 f).take (7 * k) ++ (tab 7 g).take 7 ++ (tab 49 f).drop (7 * k + 7) = tab 49 fun j => if 7 * k ≤ j ∧ j < 7 * k + 7 then g (j - 7 * k) else f j := by
 have hl : ∀ (n : Nat) (h : Nat → V), (tab n h).length = n := fun n h => by simp [tab]
 apply List.ext_getElem?;intro j;by_cases h49 : j < 49
 ·rw [al h49];by_cases h1 : j < 7 * k
  ·rw [List.append_assoc, List.getElem?_append_left (by rw [List.length_take, hl]; omega), List.getElem?_take, if_pos h1, al h49, if_neg (by omega)]
  ·rw [List.append_assoc, List.getElem?_append_right (by rw [List.length_take, hl]; omega), List.length_take, hl, show min (7 * k) 49 = 7 * k by omega];by_cases h2 : j < 7 * k + 7
   ·rw [List.getElem?_append_left (by rw [List.length_take, hl]; omega), List.getElem?_take, if_pos (by omega), al (by omega), if_pos (by omega)]
   ·rw [List.getElem?_append_right (by rw [List.length_take, hl]; omega), List.length_take, hl, List.getElem?_drop, show 7 * k + 7 + (j - 7 * k - min 7 7) = j by omega, al h49, if_neg (by omega)]
 ·rw [List.getElem?_eq_none (by simp [hl]; omega), List.getElem?_eq_none (by rw [hl]; omega)]
theorem Cy {n : Nat} {f : Nat → Ent} : V.locLts 0 (tab n fun j => (f j).v) = true := by
 rw [dz];intro x hx;obtain ⟨j, _, rfl⟩ := List.mem_map.1 hx;rfl
theorem po {n : Nat} {f : Nat → Ent} : V.locLt n (ab f) = true := by
 have := Cy (n := 49) (f := f);rw [dz] at this;simp only [ab, V.locLt, Bool.or_eq_true];right;rw [dz];exact fun x hx => cQ (Nat.zero_le _) (this x hx)
theorem uR {n : Nat} {f : Nat → Int} : V.locLt n (d7V f) = true := by
 simp only [d7V, V.locLt, Bool.or_eq_true];right;rw [dz];intro x hx;obtain ⟨j, _, rfl⟩ := List.mem_map.1 hx;rfl
theorem uF {n : Nat} {l : List Int} : V.locLt n (lnV l) = true := by
 simp only [lnV, V.locLt, Bool.or_eq_true];right;rw [dz];intro x hx;obtain ⟨j, _, rfl⟩ := List.mem_map.1 hx;rfl
theorem Hh {base : Nat} {L hp : List Blk} {a b : Nat} {f g : Nat → Ent} {k : Nat} (hk : k < 7) (ha : L[a]? = some (.rw (ab f))) (hb : L[b]? = some (.rw (lvV g))) :
 eY base 42 (.sl (.loc a) [] (7 * k) (49 - 7 * k) (some (49 - 7 * k)) 42) (.sl (.loc b) [] 0 7 (some 7) 42) ⟨L, hp⟩ =
  some (.int .i64 7, ⟨L.set a (.rw (ab fun j => if 7 * k ≤ j ∧ j < 7 * k + 7 then g (j - 7 * k) else f j)), hp⟩) := by
 have hl : ∀ (n : Nat) (h : Nat → V), (tab n h).length = n := fun n h => by simp [tab]
 have hs := D6 (f := fun j => (f j).v) (g := fun j => (g j).v) hk;have he : (fun j => if 7 * k ≤ j ∧ j < 7 * k + 7 then (g (j - 7 * k)).v else (f j).v) = fun j => Ent.v (if 7 * k ≤ j ∧ j < 7 * k + 7 then g (j - 7 * k) else f j) := by
  funext j; split <;> rfl
 have hlt := Cy (n := 49) (f := fun j => if 7 * k ≤ j ∧ j < 7 * k + 7 then g (j - 7 * k) else f j)
 rw [he] at hs;have hy : St.elems ⟨L, hp⟩ (.sl (.loc b) [] 0 7 (some 7) 42) = some (tab 7 fun j => (g j).v) := by
  simp only [St.elems, St.read, St.at, hb, lvV, V.at, hl];rw [if_neg (by omega), if_pos (by omega), List.drop_zero, List.take_of_length_le (by rw [hl]; omega)]
 have hr : (⟨L, hp⟩ : St).read (.loc a) [] = some (ab f) := by simp only [St.read, St.at, ha, V.at]
 have hm : min 7 (49 - 7 * k) = 7 := by omega
 unfold eY;simp only [V.slIs, V.elIs, beq_self_eq_true, Bool.and_self, if_true, hy, hl, hm, hr, ab];rw [if_neg (show ¬ (7 : Nat) = 0 by decide), if_pos (show 7 * k + (49 - 7 * k) ≤ 49 by omega), hs];simp only [St.write, St.at, ha, ab, cX, V.locLt, hlt, V.setAt, Bool.or_true, Bool.true_or, if_true];rfl
def ldT (M : AM) (l : List Int) (i : Nat) : Ent := jD (M.now (av l (i / 7)).toNat) (i % 7)
def ldU (M : AM) (l : List Int) (k i : Nat) : Ent := if i < 7 * k then ldT M l i else az
theorem Ix {M : AM} {l : List Int} {k : Nat} : (fun j => if 7 * k ≤ j ∧ j < 7 * k + 7 then jD (M.now (av l k).toNat) (j - 7 * k) else ldU M l k j) = ldU M l (k + 1) := by
 funext j;unfold ldU;by_cases h : 7 * k ≤ j ∧ j < 7 * k + 7
 ·rw [if_pos h, if_pos (by omega)];unfold ldT;rw [show j / 7 = k by omega, show j % 7 = j - 7 * k by omega]
 ·rw [if_neg h];by_cases h2 : j < 7 * k
  ·rw [if_pos h2, if_pos (by omega)]
  ·rw [if_neg h2, if_neg (by omega)]
def pK (M : AM) (fr : Int) (l : List Int) : List Int → Nat → Nat → Bool
 | _, _, 0 => true
 | ks, k, n + 1 => onc M.n fr ks (av l k) && (jq (M.now (av l k).toNat) && pK M fr l (ks ++ [av l k]) (k + 1) n)
def lw (l : List Int) : List Int → Nat → Nat → List Int
 | ks, _, 0 => ks
 | ks, k, n + 1 => lw l (ks ++ [av l k]) (k + 1) n
def mR (n' : Nat) (fr : Int) (t : Nat → Ent) : List Int → Nat → Nat → Bool
 | _, _, 0 => true
 | ks, i, n + 1 => if (t i).kind = 0 then mR n' fr t ks (i + 1) n else onc n' fr ks (t i).line && mR n' fr t (ks ++ [(t i).line]) (i + 1) n
theorem pI {hp : List Blk} {x y : Blk} : (hp ++ [x]).set hp.length y = hp ++ [y] := by
 rw [List.set_append_right _ _ (Nat.le_refl _), Nat.sub_self]; rfl
theorem aZ.snoc {hp : List Blk} {F : Ft} {m : Nat} {M : AM} (h : aZ hp F m M) (X : List Blk) : aZ (hp ++ X) F m M :=
 h.eqv (fun j hj => List.getElem?_append_left (h.inn j hj)) (by simp)
def dn (m : Nat) (fr : Int) (i : Nat) : V := .agg 73 [.ptr (.hp m) [] 59, .int .i64 fr, .mp (some i)]
theorem Cw {hp : List Blk} {F : Ft} {m : Nat} {M : AM} (h : aZ hp F m M) (hon : M.off = false) (fr : Int) {l : List Int} (hw : ∀ k, k < 7 → ∀ x ∈ M.now (av l k).toNat, 0 ≤ x ∧ x < 18446744073709551616) (L : List Blk) : ∀ (n k : Nat) (ks : List Int) (X : List Int), k + n = 7 → ∃ r,
 rc D L.length (.loop [0, 6, 7, 9, 10, 11, 13, 52, 53] ef) [(0, .ptr (.hp m) [] 59), (6, .ptr (.loc L.length) [] 48), (7, .ptr (.loc (L.length + 1)) [] 60), (9, .ptr (.loc (L.length + 2)) [] 48), (10, .ptr (.loc (L.length + 3)) [] 73), (11, .ptr (.loc (L.length + 4)) [] 24), (13, .ptr (.loc (L.length + 5)) [] 60), (52, d7V (av l)), (53, .int .i64 k)]
  ⟨L ++ [.rw (ab fun _ => az), .rw (d7V fun _ => 0), .rw (ab (ldU M l k)), .rw (dn m fr hp.length), .rw (lnV X), .rw (d7V (av l))], hp ++ [.mp ks]⟩ = some r ∧
 ((pK M fr l ks k n = true ∧ ∃ X', r = (.exit 0, [(0, .ptr (.hp m) [] 59), (6, .ptr (.loc L.length) [] 48), (7, .ptr (.loc (L.length + 1)) [] 60), (9, .ptr (.loc (L.length + 2)) [] 48), (10, .ptr (.loc (L.length + 3)) [] 73), (11, .ptr (.loc (L.length + 4)) [] 24), (13, .ptr (.loc (L.length + 5)) [] 60), (52, d7V (av l)), (53, .int .i64 7), (54, .bool false)],
  ⟨L ++ [.rw (ab fun _ => az), .rw (d7V fun _ => 0), .rw (ab (ldU M l 7)), .rw (dn m fr hp.length), .rw (lnV X'), .rw (d7V (av l))], hp ++ [.mp (lw l ks k n)]⟩)) ∨
  (pK M fr l ks k n = false ∧ ∃ Y Z, r = (.ret, [(6, .ptr (.loc L.length) [] 48), (7, .ptr (.loc (L.length + 1)) [] 60), (8, .int .i64 21)], ⟨L ++ .rw (ab fun _ => az) :: .rw (d7V fun _ => 0) :: Y, hp ++ [Z]⟩)))
 | 0, k, ks, X, hk => by
  have : k = 7 := by omega
  subst this;refine ⟨_, ?_, .inl ⟨rfl, X, rfl⟩⟩;rw [ah];simp only [d7V];simp only [go_sem, ef];rfl
 | n + 1, k, ks, X, hk => by
  have d1 : (k : Int) < 7 := by omega
  have d2 : (0 : Int) ≤ k := by omega
  have d4 : IntKind.i64.wrap ((k : Int) + 1) = ((k + 1 : Nat) : Int) := ag (by omega) (by omega);have d5 : IntKind.i64.wrap (7 * (k : Int)) = ((7 * k : Nat) : Int) := by rw [ag (by omega) (by omega)]; omega
  have d6 : ((7 * k : Nat) : Int) ≤ 49 := by omega
  have d7 : (0 : Int) ≤ ((7 * k : Nat) : Int) := by omega
  have g1 := al (f := fun j => V.int .i64 (av l j)) (show k < 7 by omega);have h1 := h.snoc [.mp ks];have hlast : (hp ++ [Blk.mp ks])[hp.length]? = some (.mp ks) := by simp
  have hO := fun (L : List Blk) (p : Nat) hp' => wY h1 hlast fr (av l k) (L := L) (p := p) hp';rw [pI] at hO;simp only [pK, lw];have lp : ∀ R : List Blk, (L ++ [.rw (ab fun _ => az), .rw (d7V fun _ => 0), .rw (ab (ldU M l k)), .rw (dn m fr hp.length), .rw (lnV X), .rw (d7V (av l))] ++ R)[L.length + 3]? = some (.rw (dn m fr hp.length)) := fun R => by
   rw [List.append_assoc, List.getElem?_append_right (by omega), show L.length + 3 - L.length = 3 by omega]; rfl
  have hO1 := hO _ _ (lp []);rw [List.append_nil] at hO1;have zz : ¬ L.length + 1 = L.length := by omega
  have z0 : L.length < L.length + 6 := by omega
  have z1 : L.length + 1 < L.length + 6 := by omega
  have z2 : L.length + 2 < L.length + 6 := by omega
  have z3 : L.length + 3 < L.length + 6 := by omega
  have z4 : L.length + 4 < L.length + 6 := by omega
  have z5 : L.length + 5 < L.length + 6 := by omega
  cases c1 : onc M.n fr ks (av l k) with
  | false =>
   refine ⟨_, ?_, .inr ⟨by rw [Bool.false_and], [.rw (ab (ldU M l k)), .rw (dn m fr hp.length), .rw (lnV X), .rw (d7V (av l))], .mp ks, rfl⟩⟩;rw [c1] at hO1;simp only [Bool.false_eq_true, if_false] at hO1;rw [ah];generalize dn m fr hp.length = V1 at *;generalize ab (ldU M l k) = V2 at *;simp only [d7V] at *;generalize (tab 7 fun j => V.int .i64 (av l j)) = T at *;generalize av l k = line at *;simp only [ab] at *;simp only [go_sem, ef, d1, d2, Int.toNat_natCast, g1, hO1, zz, z0, z1, z2, z3, z4, z5]
  | true =>
   rw [c1] at hO1;simp only [if_true] at hO1;have hr : 0 ≤ av l k ∧ av l k < M.n := by
    unfold onc at c1;simp only [Bool.and_eq_true, decide_eq_true_eq] at c1;exact ⟨c1.2.1, c1.2.2.1⟩
   have hld : M.load (av l k) = (M.now (av l k).toNat, 0) := by
    unfold AM.load;rw [if_neg (by omega), if_neg (by simp [hon])]
   have hL := fun L => gH (h.snoc [.mp (ks ++ [av l k])]) (av l k) L;simp only [hld] at hL;have h8 := h.ok.now8 (show (av l k).toNat < M.n by omega);have hRL := fun s => Bq h8 (hw k (by omega)) s;cases c2 : jq (M.now (av l k).toNat) with
   | false =>
    refine ⟨_, ?_, .inr ⟨rfl, [.rw (ab (ldU M l k)), .rw (dn m fr hp.length), .rw (lnV (M.now (av l k).toNat)), .rw (d7V (av l)), .rw (lvV (jD (M.now (av l k).toNat)))], .mp (ks ++ [av l k]), rfl⟩⟩;rw [c2] at hRL;rw [ah];generalize dn m fr hp.length = V1 at *;generalize ab (ldU M l k) = V2 at *;simp only [d7V, lnV] at *;generalize (tab 7 fun j => V.int .i64 (av l j)) = T at *;generalize M.now (av l k).toNat = ll at *;generalize av l k = line at *;simp only [ab, lvV] at *;simp only [go_sem, ef, d1, d2, Int.toNat_natCast, g1, hO1, hL, hRL, zz, z0, z1, z2, z3, z4, z5]
   | true =>
    obtain ⟨r, q1, q2⟩ := Cw h hon fr hw L n (k + 1) (ks ++ [av l k]) (M.now (av l k).toNat) (by omega);refine ⟨r, ?_, by rw [Bool.true_and, Bool.true_and]; exact q2⟩;rw [c2] at hRL;have hcp := Hh (base := L.length) (hp := hp ++ [.mp (ks ++ [av l k])]) (f := ldU M l k) (g := jD (M.now (av l k).toNat)) (k := k) (by omega) (a := L.length + 2) (b := L.length + 6)
     (L := L ++ [.rw (ab fun _ => az), .rw (d7V fun _ => 0), .rw (ab (ldU M l k)), .rw (dn m fr hp.length), .rw (lnV (M.now (av l k).toNat)), .rw (d7V (av l)), .rw (lvV (jD (M.now (av l k).toNat)))])
     (by rw [List.getElem?_append_right (by omega), show L.length + 2 - L.length = 2 by omega]; rfl) (by rw [List.getElem?_append_right (by omega), show L.length + 6 - L.length = 6 by omega]; rfl)
    rw [Ix, List.set_append_right _ _ (by omega), show L.length + 2 - L.length = 2 by omega] at hcp;simp only [List.set_cons_succ, List.set_cons_zero] at hcp;have z6 : L.length + 6 < L.length + 7 := by omega
    have v1 : V.locLt (L.length + 6) (dn m fr hp.length) = true := rfl;have v3 : V.locLt (L.length + 6) (ab (ldU M l (k + 1))) = true := po;rw [← q1, ah];generalize dn m fr hp.length = V1 at *;generalize ab (ldU M l (k + 1)) = V3 at *;simp only [d7V, lnV] at *;generalize (tab 7 fun j => V.int .i64 (av l j)) = T at *;generalize M.now (av l k).toNat = ll at *;generalize av l k = line at *;generalize ab (ldU M l k) = V2 at *;simp only [ab, lvV] at *;simp only [go_sem, ef, d1, d2, d4, d5, d6, d7, Int.toNat_natCast, g1, hO1, hL, hRL, hcp, zz, z0, z1, z2, z3, z4, z5, z6, v1, v3]
def zR (t : Nat → Ent) : List Int → Nat → Nat → List Int
 | ks, _, 0 => ks
 | ks, i, n + 1 => zR t (if (t i).kind = 0 then ks else ks ++ [(t i).line]) (i + 1) n
theorem wG {hp : List Blk} {F : Ft} {m : Nat} {M : AM} (h : aZ hp F m M) (fr : Int) (t : Nat → Ent) (d : Nat → Int) (X : List Int) (L : List Blk) : ∀ (n i : Nat) (ks : List Int), i + n = 49 → ∃ r,
 rc D L.length (.loop [6, 7, 9, 10, 13, 84, 85] d9) [(6, .ptr (.loc L.length) [] 48), (7, .ptr (.loc (L.length + 1)) [] 60), (9, .ptr (.loc (L.length + 2)) [] 48), (10, .ptr (.loc (L.length + 3)) [] 73), (13, .ptr (.loc (L.length + 5)) [] 60), (84, ab t), (85, .int .i64 i)]
  ⟨L ++ [.rw (ab fun _ => az), .rw (d7V fun _ => 0), .rw (ab t), .rw (dn m fr hp.length), .rw (lnV X), .rw (d7V d)], hp ++ [.mp ks]⟩ = some r ∧
 ((mR M.n fr t ks i n = true ∧ r = (.exit 2, [(6, .ptr (.loc L.length) [] 48), (7, .ptr (.loc (L.length + 1)) [] 60), (9, .ptr (.loc (L.length + 2)) [] 48), (10, .ptr (.loc (L.length + 3)) [] 73), (13, .ptr (.loc (L.length + 5)) [] 60), (84, ab t), (85, .int .i64 49), (86, .bool false)],
  ⟨L ++ [.rw (ab fun _ => az), .rw (d7V fun _ => 0), .rw (ab t), .rw (dn m fr hp.length), .rw (lnV X), .rw (d7V d)], hp ++ [.mp (zR t ks i n)]⟩)) ∨
  (mR M.n fr t ks i n = false ∧ ∃ Y Z, r = (.ret, [(6, .ptr (.loc L.length) [] 48), (7, .ptr (.loc (L.length + 1)) [] 60), (8, .int .i64 21)], ⟨L ++ .rw (ab fun _ => az) :: .rw (d7V fun _ => 0) :: Y, hp ++ [Z]⟩)))
 | 0, i, ks, hi => by
  have : i = 49 := by omega
  subst this;refine ⟨_, ?_, .inl ⟨rfl, rfl⟩⟩;rw [ah];generalize ab t = T at *;simp only [go_sem, d9];rfl
 | n + 1, i, ks, hi => by
  have d1 : (i : Int) < 49 := by omega
  have d2 : (0 : Int) ≤ i := by omega
  have d4 : IntKind.i64.wrap ((i : Int) + 1) = ((i + 1 : Nat) : Int) := ag (by omega) (by omega);have g1 := al (f := fun j => (t j).v) (show i < 49 by omega);have h1 := h.snoc [.mp ks];have hlast : (hp ++ [Blk.mp ks])[hp.length]? = some (.mp ks) := by simp
  have hO := wY h1 hlast fr (t i).line (L := L ++ [.rw (ab fun _ => az), .rw (d7V fun _ => 0), .rw (ab t), .rw (dn m fr hp.length), .rw (lnV X), .rw (d7V d), .rw (t i).v]) (p := L.length + 3)
   (by rw [List.getElem?_append_right (by omega), show L.length + 3 - L.length = 3 by omega]; rfl)
  rw [pI] at hO;have zz : ¬ L.length + 1 = L.length := by omega
  have z0 : L.length < L.length + 6 := by omega
  have z1 : L.length + 1 < L.length + 6 := by omega
  have z2 : L.length + 2 < L.length + 6 := by omega
  have z3 : L.length + 3 < L.length + 6 := by omega
  have z4 : L.length + 4 < L.length + 6 := by omega
  have z5 : L.length + 5 < L.length + 6 := by omega
  have v1 : V.locLt (L.length + 6) (dn m fr hp.length) = true := rfl;have v3 : V.locLt (L.length + 6) (ab t) = true := po;have v0 : V.locLt (L.length + 6) (ab fun _ => az) = true := po;have v4 := fun f => uR (n := L.length + 6) (f := f);have v5 := fun l => uF (n := L.length + 6) (l := l);simp only [mR, zR];by_cases ck : (t i).kind = 0
  ·rw [if_pos ck, if_pos ck];obtain ⟨r, q1, q2⟩ := wG h fr t d X L n (i + 1) ks (by omega);refine ⟨r, ?_, q2⟩;rw [← q1, ah];clear q1 q2 hO;generalize dn m fr hp.length = V1 at *;generalize (ab fun _ => az) = V0 at *;simp only [ab] at *;generalize (tab 49 fun j => (t j).v) = T at *;generalize t i = E at *;obtain ⟨a1, a2, a3⟩ := E;simp only [Ent.v] at *;subst ck;simp only [go_sem, d9, d1, d2, d4, Int.toNat_natCast, g1, zz, z0, z1, z2, z3, z4, z5, v0, v1, v3, v4, v5]
  ·rw [if_neg ck, if_neg ck];cases c1 : onc M.n fr ks (t i).line with
   | false =>
    refine ⟨_, ?_, .inr ⟨rfl, [.rw (ab t), .rw (dn m fr hp.length), .rw (lnV X), .rw (d7V d), .rw (t i).v], .mp ks, rfl⟩⟩;rw [c1] at hO;simp only [Bool.false_eq_true, if_false] at hO;rw [ah];generalize dn m fr hp.length = V1 at *;simp only [ab] at *;generalize (tab 49 fun j => (t j).v) = T at *;generalize t i = E at *;obtain ⟨a1, a2, a3⟩ := E;simp only [Ent.v, d7V] at *;simp only [go_sem, d9, d1, d2, d4, Int.toNat_natCast, g1, ck, hO, zz, z0, z1, z2, z3, z4, z5, v1]
   | true =>
    obtain ⟨r, q1, q2⟩ := wG h fr t d X L n (i + 1) (ks ++ [(t i).line]) (by omega);refine ⟨r, ?_, by rw [Bool.true_and]; exact q2⟩;rw [c1] at hO;simp only [if_true] at hO;rw [← q1, ah];clear q1 q2;generalize dn m fr hp.length = V1 at *;generalize (ab fun _ => az) = V0 at *;simp only [ab] at *;generalize (tab 49 fun j => (t j).v) = T at *;generalize t i = E at *;obtain ⟨a1, a2, a3⟩ := E;simp only [Ent.v] at *;simp only [go_sem, d9, d1, d2, d4, Int.toNat_natCast, g1, ck, hO, zz, z0, z1, z2, z3, z4, z5, v0, v1, v3, v4, v5]
end Go.Proofs.YtmimfopnhmmlbaaGreatDoor
namespace Go.Proofs.YtmimfopnhmmlbaaGreatDoor
open Go.Ab
theorem Jp {hp : List Blk} {F : Ft} {m : Nat} {M : AM} (h : aZ hp F m M) (L : List Blk) : rf D kw [.ptr (.hp m) [] 59] ⟨L, hp⟩ = some (.bool (!M.off), ⟨L, hp⟩) := by
 obtain ⟨k, fk, ne, ⟨cp, left, h1, h2, h3⟩, sv, ow, h4, h5⟩ := h.mb;simp only [bx] at h1;rw [ae vR rfl];simp only [go_sem, h1]
def Dt (M : AM) (fr root : Int) : Bool := onc M.n fr [] root && (kE (M.now root.toNat) && (pK M fr (M.now root.toNat) [root] 0 7 && mR M.n fr (ldT M (M.now root.toNat)) (lw (M.now root.toNat) [root] 0 7) 0 49))
theorem xX {hp : List Blk} {F : Ft} {m : Nat} {M : AM} (h : aZ hp F m M) (fr root : Int) (hw : M.off = false → onc M.n fr [] root = true → ∀ k, k < 7 → ∀ x ∈ M.now (av (M.now root.toNat) k).toNat, 0 ≤ x ∧ x < 18446744073709551616) (L : List Blk) : ∃ X,
 rf D nM [.ptr (.hp m) [] 59, .int .i64 fr, .int .i64 root] ⟨L, hp⟩ =
  some (if M.off = true then .tup [ab fun _ => az, d7V fun _ => 0, .int .i64 4] else if Dt M fr root = true then .tup [ab (ldT M (M.now root.toNat)), d7V (av (M.now root.toNat)), .int .i64 0] else .tup [ab fun _ => az, d7V fun _ => 0, .int .i64 21], ⟨L, hp ++ X⟩) := by
 have hon := Jp h;have hz : (ab fun _ => az) = .agg 48 (List.replicate 49 (.agg 42 [.int .i64 0, .int .i64 0, .int .i64 0])) := by unfold ab; rw [bF]; rfl
 have hz7 : (d7V fun _ => (0 : Int)) = .agg 60 (List.replicate 7 (.int .i64 0)) := by unfold d7V; rw [bF]
 have hzl : List.replicate 8 (V.int .u64 0) = zl.map (V.int .u64) := rfl;have zz : ¬ L.length + 1 = L.length := by omega
 have zy : ¬ L.length + 5 = L.length := by omega
 cases ho : M.off with
 | true =>
  refine ⟨[], ?_⟩;rw [ho] at hon;rw [if_pos rfl, List.append_nil, hz, hz7, ae fQ rfl];simp only [go_sem, hon, zz]
 | false =>
  rw [ho] at hon;rw [if_neg (by simp)];have hlast : ∀ X, (hp ++ [Blk.mp X])[hp.length]? = some (.mp X) := fun X => by simp
  have hO := wY (h.snoc [.mp []]) (hlast []) fr root (L := L ++ [.rw (ab fun _ => az), .rw (d7V fun _ => 0), .rw (ab fun _ => az), .rw (dn m fr hp.length)]) (p := L.length + 3)
   (by rw [List.getElem?_append_right (by omega), show L.length + 3 - L.length = 3 by omega]; rfl)
  rw [pI, List.nil_append] at hO;unfold Dt;cases c1 : onc M.n fr [] root with
  | false =>
   refine ⟨[.mp []], ?_⟩;rw [c1] at hO;simp only [Bool.false_eq_true, if_false] at hO;rw [Bool.false_and, if_neg (by simp)];simp only [dn] at hO;rw [hz, hz7] at *;rw [ae fQ rfl];simp only [go_sem, hon, hO, zz]
  | true =>
   rw [c1] at hO;simp only [if_true] at hO;have hr : 0 ≤ root ∧ root < M.n := by
    unfold onc at c1;simp only [Bool.and_eq_true, decide_eq_true_eq] at c1;exact ⟨c1.2.1, c1.2.2.1⟩
   have hld : M.load root = (M.now root.toNat, 0) := by
    unfold AM.load;rw [if_neg (by omega), if_neg (by simp [ho])]
   have hL := fun L => gH (h.snoc [.mp [root]]) root L;simp only [hld] at hL;have h8 := h.ok.now8 (show root.toNat < M.n by omega);have hRR := fun s => BG h8 s;replace hw := hw ho c1;generalize M.now root.toNat = l at *;cases c2 : kE l with
   | false =>
    refine ⟨[.mp [root]], ?_⟩;rw [c2] at hRR;rw [Bool.false_and, Bool.and_false, if_neg (by simp)];simp only [dn, lnV, hz, hz7] at *;simp only [d7V] at hRR;rw [ae fQ rfl];simp only [go_sem, hon, hO, hL, hRR, zz]
   | true =>
    rw [c2] at hRR;obtain ⟨r, q1, q2⟩ := Cw h ho fr hw L 7 0 [root] l rfl;have hU0 : ab (ldU M l 0) = ab fun _ => az := rfl;have hU7 : ab (ldU M l 7) = ab (ldT M l) := by
     have : (tab 49 fun i => (ldU M l 7 i).v) = tab 49 fun i => (ldT M l i).v := aI fun j hj => by
      unfold ldU;rw [if_pos (by omega)]
     unfold ab;rw [this]
    rw [hU0, show ((0 : Nat) : Int) = 0 from rfl] at q1
    rcases q2 with ⟨c3, X', rfl⟩ | ⟨c3, Y, Z, rfl⟩
    ·rw [hU7] at q1;obtain ⟨r2, p1, p2⟩ := wG h fr (ldT M l) (av l) X' L 49 0 (lw l [root] 0 7) rfl;rw [show ((0 : Nat) : Int) = 0 from rfl] at p1
     rcases p2 with ⟨c4, rfl⟩ | ⟨c4, Y, Z, rfl⟩
     ·refine ⟨[.mp (zR (ldT M l) (lw l [root] 0 7) 0 49)], ?_⟩;rw [c3, c4, if_pos (show (true && (true && (true && true))) = true from rfl)]
      generalize lw l [root] 0 7 = K at *;generalize zR (ldT M l) K 0 49 = K2 at *;generalize ldT M l = t at *;generalize av l = d at *;have t1 : (d7V d).tag = 60 := rfl;have t2 : (ab t).tag = 48 := rfl;have t3 : (d7V d).ok = true := rfl;have t4 : (ab t).ok = true := rfl;have t5 : V.locLt L.length (d7V d) = true := uR;have t6 : V.locLt L.length (ab t) = true := po;generalize hT : ab t = T at *;generalize hDd : d7V d = Dd at *;simp only [dn, lnV, hz, hz7] at *;rw [ae fQ rfl];simp only [go_sem, hon, hO, hL, hRR, zz, zy, q1, p1, t1, t2, t3, t4, t5, t6]
     ·refine ⟨[Z], ?_⟩;rw [c3, c4, if_neg (show ¬ (true && (true && (true && false))) = true by simp)];generalize lw l [root] 0 7 = K at *;generalize ldT M l = t at *;generalize av l = d at *;have e0 : (L ++ Blk.rw (ab fun _ => az) :: Blk.rw (d7V fun _ => 0) :: Y)[L.length]? = some (.rw (ab fun _ => az)) := by
       rw [List.getElem?_append_right (Nat.le_refl _), Nat.sub_self]; rfl
      have e1 : (L ++ Blk.rw (ab fun _ => az) :: Blk.rw (d7V fun _ => 0) :: Y)[L.length + 1]? = some (.rw (d7V fun _ => 0)) := by
       rw [List.getElem?_append_right (by omega), show L.length + 1 - L.length = 1 by omega]; rfl
      have e2 : (L ++ Blk.rw (ab fun _ => az) :: Blk.rw (d7V fun _ => 0) :: Y).take L.length = L := by
       rw [List.take_left']; rfl
      have e3 : L.length ≤ (L ++ Blk.rw (ab fun _ => az) :: Blk.rw (d7V fun _ => 0) :: Y).length := by rw [List.length_append]; omega
      generalize (L ++ Blk.rw (ab fun _ => az) :: Blk.rw (d7V fun _ => 0) :: Y) = LL at *;simp only [dn, lnV, hz, hz7] at *;have t1 : (d7V d).tag = 60 := rfl;have t2 : (ab t).tag = 48 := rfl;generalize hT : ab t = T at *;generalize hDd : d7V d = Dd at *;rw [ae fQ rfl];simp only [go_sem, hon, hO, hL, hRR, zz, q1, p1, e0, e1, e2, e3, t1, t2]
    ·refine ⟨[Z], ?_⟩;rw [c3, if_neg (show ¬ (true && (true && (false && mR M.n fr (ldT M l) (lw l [root] 0 7) 0 49))) = true by simp)];generalize av l = d at *;have e0 : (L ++ Blk.rw (ab fun _ => az) :: Blk.rw (d7V fun _ => 0) :: Y)[L.length]? = some (.rw (ab fun _ => az)) := by
      rw [List.getElem?_append_right (Nat.le_refl _), Nat.sub_self]; rfl
     have e1 : (L ++ Blk.rw (ab fun _ => az) :: Blk.rw (d7V fun _ => 0) :: Y)[L.length + 1]? = some (.rw (d7V fun _ => 0)) := by
      rw [List.getElem?_append_right (by omega), show L.length + 1 - L.length = 1 by omega]; rfl
     have e2 : (L ++ Blk.rw (ab fun _ => az) :: Blk.rw (d7V fun _ => 0) :: Y).take L.length = L := by
      rw [List.take_left']; rfl
     have e3 : L.length ≤ (L ++ Blk.rw (ab fun _ => az) :: Blk.rw (d7V fun _ => 0) :: Y).length := by rw [List.length_append]; omega
     generalize (L ++ Blk.rw (ab fun _ => az) :: Blk.rw (d7V fun _ => 0) :: Y) = LL at *;simp only [dn, lnV, hz, hz7] at *;have t1 : (d7V d).tag = 60 := rfl;generalize hDd : d7V d = Dd at *;rw [ae fQ rfl];simp only [go_sem, hon, hO, hL, hRR, zz, q1, e0, e1, e2, e3, t1]
end Go.Proofs.YtmimfopnhmmlbaaGreatDoor
namespace Go.Proofs.YtmimfopnhmmlbaaGreatDoor
open Go.Ab
def mt : Sup := ⟨0, 0, 0, 0⟩
def gS (l : List Int) : Sup := ⟨IntKind.i64.wrap (l.getD 1 0), IntKind.i64.wrap (l.getD 2 0), IntKind.i64.wrap (l.getD 3 0), IntKind.i64.wrap (l.getD 4 0)⟩
def kz (l : List Int) : Bool := (gS l).ok && decide (aR (gS l) = l)
theorem ya {l : List Int} (hl : l.length = 8) (s : St) : rf D no [lnV l] s = some (.tup [(if kz l = true then gS l else mt).v, .bool (kz l)], s) := by
 have hL := fun s => qD (gS l) s;have g1 : (l.map (V.int .u64))[1]? = some (.int .u64 (l.getD 1 0)) := aP (by omega) 0;have g2 : (l.map (V.int .u64))[2]? = some (.int .u64 (l.getD 2 0)) := aP (by omega) 0;have g3 : (l.map (V.int .u64))[3]? = some (.int .u64 (l.getD 3 0)) := aP (by omega) 0;have g4 : (l.map (V.int .u64))[4]? = some (.int .u64 (l.getD 4 0)) := aP (by omega) 0;have he := FK (a := aR (gS l)) (b := l) (by rw [pR, hl]);unfold kz;unfold gS at *;generalize hs : (⟨IntKind.i64.wrap (l.getD 1 0), IntKind.i64.wrap (l.getD 2 0), IntKind.i64.wrap (l.getD 3 0), IntKind.i64.wrap (l.getD 4 0)⟩ : Sup) = b at *;have hv : b.v = .agg 44 [.int .i64 (IntKind.i64.wrap (l.getD 1 0)), .int .i64 (IntKind.i64.wrap (l.getD 2 0)), .int .i64 (IntKind.i64.wrap (l.getD 3 0)), .int .i64 (IntKind.i64.wrap (l.getD 4 0))] := by rw [← hs]; rfl
 have hz : mt.v = .agg 44 [.int .i64 0, .int .i64 0, .int .i64 0, .int .i64 0] := rfl;rw [hv] at hL;cases hb : b.ok with
 | false =>
  rw [hb] at hL;rw [Bool.false_and, if_neg (by simp), hz];simp only [Bool.false_eq_true, if_false, lnV] at *;generalize aR b = z at *;rw [ae nG rfl];simp only [go_sem, g1, g2, g3, g4, hL]
 | true =>
  rw [hb] at hL;rw [Bool.true_and];simp only [if_true, lnV] at *;generalize aR b = z at *;by_cases hz2 : z = l
  ·rw [decide_eq_true hz2] at he ⊢;rw [if_pos rfl, hv];rw [ae nG rfl];simp only [go_sem, g1, g2, g3, g4, hL, he]
  ·rw [decide_eq_false hz2] at he ⊢;rw [if_neg (by simp), hz];rw [ae nG rfl];simp only [go_sem, g1, g2, g3, g4, hL, he]
def bst (x : List Int) (i : Int) (s : Sup × Int × Bool) : Sup × Int × Bool := if kz x = true ∧ (s.2.2 = false ∨ s.1.gen < (gS x).gen) then (gS x, i, true) else s
def hU (a b : List Int) : Sup × Int × Bool := bst b 1 (bst a 0 (mt, 0, false))
theorem vH {a b x : List Int} {i : Nat} (hi : i < 2) (hx : x.length = 8) (hg : [lnV a, lnV b][i]? = some (lnV x)) (L hp : List Blk) (z : Sup × Int × Bool) :
 rc D L.length (.loop [4, 5, 6, 13, 14] bO) [(4, .ptr (.loc (L.length + 2)) [] 44), (5, .int .i64 z.2.1), (6, .bool z.2.2), (13, .agg 110 [lnV a, lnV b]), (14, .int .i64 i)] ⟨L ++ [.rw (lnV a), .rw (lnV b), .rw z.1.v], hp⟩ =
 rc D L.length (.loop [4, 5, 6, 13, 14] bO) [(4, .ptr (.loc (L.length + 2)) [] 44), (5, .int .i64 (bst x i z).2.1), (6, .bool (bst x i z).2.2), (13, .agg 110 [lnV a, lnV b]), (14, .int .i64 (i + 1 : Nat))] ⟨L ++ [.rw (lnV a), .rw (lnV b), .rw (bst x i z).1.v], hp⟩ := by
 have hR := fun s => ya hx s;obtain ⟨⟨g, r, q, c⟩, sl, ok⟩ := z;have d1 : (i : Int) < 2 := by omega
 have d2 : (0 : Int) ≤ i := by omega
 have d4 : IntKind.i64.wrap ((i : Int) + 1) = ((i + 1 : Nat) : Int) := ag (by omega) (by omega);have z0 : L.length < L.length + 3 := by omega
 have z1 : L.length + 1 < L.length + 3 := by omega
 have z2 : L.length + 2 < L.length + 3 := by omega
 have va : V.locLt (L.length + 3) (lnV a) = true := uF;have vb : V.locLt (L.length + 3) (lnV b) = true := uF;have hz : mt.v = .agg 44 [.int .i64 0, .int .i64 0, .int .i64 0, .int .i64 0] := rfl;have tx : (lnV x).tag = 24 := rfl
 conv => lhs; rw [ah]
 unfold bst;simp only;cases hs : kz x with
 | false =>
  rw [hs] at hR;simp only [Bool.false_eq_true, if_false, false_and, Sup.v, mt] at hR ⊢;generalize lnV x = X at *;generalize lnV a = A at *;generalize lnV b = B at *;simp only [go_sem, bO, d1, d2, d4, Int.toNat_natCast, hg, tx, hR, va, vb, z0, z1, z2]
 | true =>
  rw [hs] at hR;generalize gS x = y at *;obtain ⟨g1, r1, q1, c1⟩ := y;simp only [if_true, true_and, Sup.v] at hR ⊢;generalize lnV x = X at *;generalize lnV a = A at *;generalize lnV b = B at *;cases ok with
  | false =>
   simp only [true_or, if_true];simp only [go_sem, bO, d1, d2, d4, Int.toNat_natCast, hg, tx, hR, va, vb, z0, z1, z2]
  | true =>
   by_cases hgt : g < g1
   ·have hgt' : g1 > g := hgt;simp only [hgt, or_true, if_true];simp only [go_sem, bO, d1, d2, d4, Int.toNat_natCast, hg, tx, hR, va, vb, z0, z1, z2, hgt, hgt']
   ·have hgt' : ¬ g1 > g := hgt;simp only [hgt, or_false, Bool.true_eq_false, if_false];simp only [go_sem, bO, d1, d2, d4, Int.toNat_natCast, hg, tx, hR, va, vb, z0, z1, z2, hgt, hgt']
theorem yd {a b : List Int} (ha : a.length = 8) (hb : b.length = 8) (s : St) : rf D nE [lnV a, lnV b] s = some (.tup [(hU a b).1.v, .int .i64 (hU a b).2.1, .bool (hU a b).2.2], s) := by
 have r0 := vH (a := a) (b := b) (i := 0) (by decide) ha rfl s.loc s.hp (mt, 0, false);have r1 := vH (a := a) (b := b) (i := 1) (by decide) hb rfl s.loc s.hp (bst a 0 (mt, 0, false));have e : bst b 1 (bst a 0 (mt, 0, false)) = hU a b := rfl;simp only [Int.natCast_zero, Int.natCast_one] at r0 r1;rw [show ((0 + 1 : Nat) : Int) = 1 from rfl] at r0
 rw [show ((1 + 1 : Nat) : Int) = 2 from rfl] at r1
 rw [r1, e] at r0;generalize hU a b = z at *;obtain ⟨⟨g, r, q, c⟩, sl, ok⟩ := z;have z2 : s.loc.length + 2 < s.loc.length + 3 := by omega
 have ta : (lnV a).tag = 24 := rfl;have tb : (lnV b).tag = 24 := rfl;have oa : (lnV a).ok = true := rfl;have ob : (lnV b).ok = true := rfl;have hlast : rc D s.loc.length (.loop [4, 5, 6, 13, 14] bO) [(4, .ptr (.loc (s.loc.length + 2)) [] 44), (5, .int .i64 sl), (6, .bool ok), (13, .agg 110 [lnV a, lnV b]), (14, .int .i64 2)] ⟨s.loc ++ [.rw (lnV a), .rw (lnV b), .rw (Sup.v ⟨g, r, q, c⟩)], s.hp⟩ =
  some (.exit 0, [(4, .ptr (.loc (s.loc.length + 2)) [] 44), (5, .int .i64 sl), (6, .bool ok), (13, .agg 110 [lnV a, lnV b]), (14, .int .i64 2), (15, .bool false)], ⟨s.loc ++ [.rw (lnV a), .rw (lnV b), .rw (Sup.v ⟨g, r, q, c⟩)], s.hp⟩) := by
  rw [ah];generalize lnV a = A at *;generalize lnV b = B at *;simp only [go_sem, bO]
 rw [hlast] at r0;simp only [mt, Sup.v] at *;generalize lnV a = A at *;generalize lnV b = B at *;rw [ae y9 rfl];have hrep : List.replicate 2 (V.agg 24 (List.replicate 8 (V.int .u64 0))) = [.agg 24 (List.replicate 8 (.int .u64 0)), .agg 24 (List.replicate 8 (.int .u64 0))] := rfl;simp only [go_sem, r0, ta, tb, oa, ob];simp only [hrep, List.set_cons_zero, List.set_cons_succ, List.getElem?_cons_zero, List.getElem?_cons_succ, V.tag, beq_self_eq_true, if_true];simp only [go_sem, r0]
theorem xQ {hp : List Blk} {F : Ft} {m : Nat} {M : AM} (h : aZ hp F m M) (L : List Blk) : rf D nI [.ptr (.hp m) [] 59] ⟨L, hp⟩ =
 some (if M.off = true then .tup [mt.v, .int .i64 0, .int .i64 4] else if (hU (M.now 0) (M.now 1)).2.2 = true then .tup [(hU (M.now 0) (M.now 1)).1.v, .int .i64 (hU (M.now 0) (M.now 1)).2.1, .int .i64 0] else .tup [mt.v, .int .i64 0, .int .i64 20], ⟨L, hp⟩) := by
 have hL0 := fun L => gH h 0 L;have hL1 := fun L => gH h 1 L;have hn := h.ok.n0;have hz : mt.v = .agg 44 [.int .i64 0, .int .i64 0, .int .i64 0, .int .i64 0] := rfl;have hzl : lnV zl = .agg 24 (List.replicate 8 (.int .u64 0)) := rfl;unfold AM.load at hL0 hL1;rw [if_neg (by omega)] at hL0 hL1;cases ho : M.off with
 | true =>
  rw [ho] at hL0;simp only [if_true, hzl] at hL0;rw [if_pos rfl, hz, ae nP rfl];simp only [go_sem, hL0]
 | false =>
  rw [ho] at hL0 hL1;simp only [Bool.false_eq_true, if_false] at hL0 hL1;rw [if_neg (by simp)];have e0 : (0 : Int).toNat = 0 := rfl;have e1 : (1 : Int).toNat = 1 := rfl;rw [e0] at hL0;rw [e1] at hL1;have hB := fun s => yd (h.ok.now8 (show 0 < M.n by omega)) (h.ok.now8 (show 1 < M.n by omega)) s;have ta : (lnV (M.now 0)).tag = 24 := rfl;have tb : (lnV (M.now 1)).tag = 24 := rfl;generalize hU (M.now 0) (M.now 1) = z at *;generalize lnV (M.now 0) = A at *;generalize lnV (M.now 1) = B at *;obtain ⟨⟨g, r, q, c⟩, sl, ok⟩ := z;rw [hz];simp only [Sup.v] at *;cases ok with
  | true =>
   rw [if_pos rfl, ae nP rfl];simp only [go_sem, hL0, hL1, hB, ta, tb]
  | false =>
   rw [if_neg (by simp), ae nP rfl];simp only [go_sem, hL0, hL1, hB, ta, tb]
end Go.Proofs.YtmimfopnhmmlbaaGreatDoor
namespace Go.Proofs.YtmimfopnhmmlbaaGreatDoor
open Go.Ab
def nxK : List Int → Int × List Int
 | [] => (0, [])
 | k :: r => (if k < 0 then -(k + 1) else k, r)
inductive ix (hp : List Blk) (F : Ft) : V → List Int → Prop where
 | nil : ix hp F .nils []
 | sl (a o c r : Nat) (all : List V) (ks : List Int) (hc : ks.length ≤ c) (hb : ks = [] ∨ (hp[a]? = some (.ro (.agg r all)) ∧ ¬ F a)) (ho : o + ks.length ≤ all.length) (hk : ∀ j, j < ks.length → all[o + j]? = some (.int .i64 (ks.getD j 0))) :
  ix hp F (.sl (.hp a) [] o ks.length (some c) 10) ks
theorem ix.chg {hp hp' : List Blk} {F F' : Ft} {v : V} {ks : List Int} (h : ix hp F v ks) (hc : Chg hp hp' F F') : ix hp' F' v ks := by
 cases h with
 | nil => exact .nil
 | sl a o c r all ks hl hb ho hk =>
  refine .sl a o c r all ks hl (hb.imp id fun ⟨h1, h2⟩ => ⟨hc.get h1 h2, fun h3 => ?_⟩) ho hk;rcases hc.new a h3 with h4 | h4
  ·exact h2 h4
  ·have := aw h1; omega
theorem ix.lt {hp : List Blk} {F : Ft} {v : V} {ks : List Int} (h : ix hp F v ks) : V.locLt 0 v = true := by cases h <;> rfl
theorem ix.tag {hp : List Blk} {F : Ft} {v : V} {ks : List Int} (h : ix hp F v ks) : v.tag = 1 := by cases h <;> rfl
theorem KL {L hp : List Blk} {p : Nat} {F : Ft} {v : V} {ks : List Int} (h : ix hp F v ks) (hr : ∀ k ∈ ks, -9223372036854775808 ≤ k ∧ k ≤ 9223372036854775807) (hl : ks.length < 1000000000) (hp' : L[p]? = some (.rw v)) :
 ∃ v', rf D cn [.ptr (.loc p) [] 1] ⟨L, hp⟩ = some (.int .i64 (nxK ks).1, ⟨L.set p (.rw v'), hp⟩) ∧ ix hp F v' (nxK ks).2 := by
 cases h with
 | nil =>
  refine ⟨.nils, ?_, .nil⟩;rw [ub hp', ae gK rfl];simp only [nxK];simp only [go_sem, hp']
 | sl a o c r all ks hc hb ho hk =>
  cases ks with
  | nil =>
   refine ⟨_, ?_, .sl a o c r all [] hc hb ho hk⟩;rw [ub hp', ae gK rfl];simp only [nxK, List.length_nil] at *;simp only [go_sem, hp']
  | cons k ks =>
   obtain ⟨hb', hna⟩ := hb.resolve_left (by simp);simp only [List.length_cons] at *;have g0 := hk 0 (by omega);rw [Nat.add_zero, List.getD_cons_zero] at g0;have hkr := hr k List.mem_cons_self;have d0 : ¬ ((ks.length + 1 : Nat) : Int) = 0 := by omega
   have d1 : (0 : Int) < ((ks.length + 1 : Nat) : Int) := by omega
   have d2 : (1 : Int) ≤ ((ks.length + 1 : Nat) : Int) := by omega
   have d3 : ((ks.length + 1 : Nat) : Int) ≤ ((c : Nat) : Int) := by omega
   have hlt := aw hp';have hsad : jR 10 (.sl (.hp a) [] o (ks.length + 1) (some c) 10) (.int .i64 0) = some (.ptr (.hp a) [o] 10) := by
    simp [go_sem]
   have hslc : dE 10 (some (.int .i64 1)) none none (.sl (.hp a) [] o (ks.length + 1) (some c) 10) = some (.sl (.hp a) [] (o + 1) ks.length (some (c - 1)) 10) := by
    simp only [dE, if_true, ai, aL, fZ, Option.isSome_none, Bool.false_eq_true, if_false];rw [if_pos ⟨by omega, by omega⟩];simp [aL, ki]
   refine ⟨.sl (.hp a) [] (o + 1) ks.length (some (c - 1)) 10, ?_, .sl a (o + 1) (c - 1) r all ks (by omega) (.inr ⟨hb', hna⟩) (by omega) fun j hj => ?_⟩
   ·rw [ae gK rfl];simp only [nxK];by_cases hk0 : k < 0
    ·have w1 : IntKind.i64.wrap (k + 1) = k + 1 := ag (by omega) (by omega);have w2 : IntKind.i64.wrap (0 - (k + 1)) = -(k + 1) := by rw [ag (by omega) (by omega)]; omega
     rw [if_pos hk0];simp only [go_sem, hp', d0, hsad, hb', g0, hslc, hk0, w1, w2, hlt];rw [if_pos (by rw [List.length_set]; exact Nat.le_refl _), List.take_of_length_le (by rw [List.length_set]; exact Nat.le_refl _)]
    ·rw [if_neg hk0];simp only [go_sem, hp', d0, hsad, hb', g0, hslc, hk0, hlt];rw [if_pos (by rw [List.length_set]; exact Nat.le_refl _), List.take_of_length_le (by rw [List.length_set]; exact Nat.le_refl _)]
   ·have := hk (j + 1) (by omega);rw [List.getD_cons_succ] at this;rw [← this]; congr 1; omega
def AM.cleared (M : AM) (j : Nat) : AM := { M with L := upd M.L j [] }
theorem AM.Ok.cleared {M : AM} (h : M.Ok) (j : Nat) : (M.cleared j).Ok := by
 refine ⟨h.n0, h.n1, h.l8, fun i hi d hd => ?_, h.c0, fun i hi => ?_, h.lf, h.lg⟩
 ·simp only [AM.cleared] at hd;by_cases e : i = j
  ·subst e; rw [aj] at hd; cases hd
  ·rw [ao e] at hd; exact h.w8 i hi d hd
 ·simp only [AM.cleared];by_cases e : i = j
  ·subst e; rw [aj]; exact h.c0
  ·rw [ao e]; exact h.len i hi
def nlz (S : List Int) : V := nlV (lnV S) (lnV S) .nils (.agg 50 (List.replicate 8 (.int .i64 0)))
theorem MY {S : List Int} : plV S [] .nils = nlz S := by
 unfold plV nlz flV;rw [bF];rfl
theorem HH {hp : List Blk} {F : Ft} {m : Nat} {M : AM} (h : aZ hp F m M) {k nn : Nat} {cp : Option Nat} {o b : Bool} {l c : Int} (hb : hp[m]? = some (.rw (bx k nn cp o b l c))) {j : Nat} (hj : j < M.n) :
 ∃ T y1 y3 y4, hp[k]? = some (.rw (.agg 57 T)) ∧ T.length = M.n ∧ T[j]? = some (.agg 55 [y1, lnV (M.S j), y3, y4]) ∧ y1.tag = 24 ∧ y3.tag = 1 ∧ y4.tag = 50 ∧
  aZ (hp.set k (.rw (.agg 57 (T.set j (nlz (M.S j)))))) F m (M.cleared j) ∧ Chg hp (hp.set k (.rw (.agg 57 (T.set j (nlz (M.S j)))))) F F ∧ (hp.set k (.rw (.agg 57 (T.set j (nlz (M.S j))))))[m]? = hp[m]? := by
 obtain ⟨k', fk, ne, ⟨cp', left, h1, h2, h3⟩, sv, ow, h4, h5⟩ := h.mb;have hkk : k = k' := qw (Blk.rw.inj (Option.some.inj (hb.symm.trans h1)));subst hkk;have hkl := aw h4;have hm : (hp.set k (.rw (.agg 57 ((tab M.n fun i => plV (M.S i) (M.L i) (sv i)).set j (nlz (M.S j))))))[m]? = hp[m]? := List.getElem?_set_ne (Ne.symm ne);refine ⟨_, lnV (am (M.S j) (M.L j)), sv j, flV (M.L j), h4, dg _ _, al (f := fun i => plV (M.S i) (M.L i) (sv i)) hj, rfl, (h5 j hj).tag, rfl, ⟨h.ok.cleared j, h.inn.set, h.fm, k, fk, ne, ⟨cp', left, hm.trans h1, h2, h3⟩, upd sv j .nils, ow, ?_, fun x hx => ?_⟩, dm.mono (fun x hx => by cases hx; exact fk) fun _ => .inr, hm⟩
 ·rw [bw, List.getElem?_set_self hkl];have : (upd (fun i => plV (M.S i) (M.L i) (sv i)) j (nlz (M.S j))) = fun i => plV ((M.cleared j).S i) ((M.cleared j).L i) (upd sv j .nils i) := by
   funext x;unfold upd AM.cleared;simp only;by_cases e : x = j
   ·subst e; rw [if_pos rfl, aj, if_pos rfl, MY]
   ·rw [if_neg e, ao e, if_neg e]
  rw [this];rfl
 ·have hx' : x < M.n := hx;unfold AM.cleared;simp only;by_cases e : x = j
  ·subst e; rw [aj, aj]; exact .nil
  ·rw [ao e, ao e];exact (h5 x hx').eqv (fun y hy => List.getElem?_set_ne (Ne.symm hy.2.2.1)) fun _ h => h
def AM.crashN : AM → List Int → Nat → Nat → AM
 | M, _, _, 0 => M
 | M, ks, i, n + 1 => if M.L i = [] then M.crashN ks (i + 1) n else ((M.sureN i ((nxK ks).1 % (((M.L i).length : Int) + 1)).toNat).cleared i).crashN (nxK ks).2 (i + 1) n
def AM.crash (M : AM) (ks : List Int) : AM := { M.crashN ks 0 M.n with off := false, left := -1 }
theorem GP {ks : List Int} (hr : ∀ k ∈ ks, -9223372036854775808 ≤ k ∧ k ≤ 9223372036854775807) : 0 ≤ (nxK ks).1 ∧ (nxK ks).1 ≤ 9223372036854775807 ∧ ∀ k ∈ (nxK ks).2, -9223372036854775808 ≤ k ∧ k ≤ 9223372036854775807 := by
 cases ks with
 | nil => exact ⟨by decide, by decide, hr⟩
 | cons k r =>
  have := hr k List.mem_cons_self;refine ⟨?_, ?_, fun x hx => hr x (List.mem_cons_of_mem _ hx)⟩
  ·simp only [nxK]; split <;> omega
  ·simp only [nxK]; split <;> omega
theorem qo {m : Nat} (L : List Blk) {nL : Nat} : ∀ (n i : Nat) {M : AM} {hp : List Blk} {F : Ft} {v : V} {ks : List Int}, i + n = M.n → M.n = nL → M.count < 1000000 → aZ hp F m M → ix hp F v ks → (∀ k ∈ ks, -9223372036854775808 ≤ k ∧ k ≤ 9223372036854775807) → ks.length < 1000000000 →
 ∃ hp' F' v', rc D L.length (.loop [0, 4, 13, 14] ct) [(0, .ptr (.hp m) [] 59), (4, .fn cn [.ptr (.loc L.length) [] 1]), (13, .int .i64 nL), (14, .int .i64 i)] ⟨L ++ [.rw v], hp⟩ =
  some (.exit 0, [(0, .ptr (.hp m) [] 59), (4, .fn cn [.ptr (.loc L.length) [] 1]), (13, .int .i64 nL), (14, .int .i64 nL), (15, .bool false)], ⟨L ++ [.rw v'], hp'⟩) ∧ aZ hp' F' m (M.crashN ks i n) ∧ Chg hp hp' F F'
 | 0, i, M, hp, F, v, ks, hi, hn, hc, h, hK, hr, hl => by
  have : i = nL := by omega
  subst this;refine ⟨hp, F, v, ?_, h, .refl _ _⟩;have d1 : ¬ (i : Int) < i := by omega
  rw [ah];simp only [go_sem, ct, d1]
 | n + 1, i, M, hp, F, v, ks, hi, hn, hc, h, hK, hr, hl => by
  have hM := h;obtain ⟨k, fk, ne, ⟨cp, left, h1, h2, h3⟩, sv, ow, h4, h5⟩ := h.mb;have hj : i < M.n := by omega
  have g := al (f := fun q => plV (M.S q) (M.L q) (sv q)) hj;have g0 : plV (M.S i) (M.L i) (sv i) = .agg 55 [lnV (am (M.S i) (M.L i)), lnV (M.S i), sv i, flV (M.L i)] := rfl;rw [g0] at g;have d1 : (i : Int) < M.n := by omega
  have d0 : (0 : Int) ≤ i := by omega
  have d4 : IntKind.i64.wrap ((i : Int) + 1) = ((i + 1 : Nat) : Int) := ag (by omega) (by have := h.ok.n1; omega);have hsl := (h5 i hj).slen;rw [List.length_map] at hsl;have hlen := h.ok.len i hj;have hsad : jR 55 (.sl (.hp k) [] 0 M.n cp 55) (.int .i64 (i : Int)) = some (.ptr (.hp k) [i] 55) := by simp [go_sem, hj]
  subst hn;have z0 : L.length < L.length + 1 := by omega
  have vlt : V.locLt (L.length + 1) v = true := cQ (Nat.zero_le _) hK.lt;unfold AM.crashN;by_cases hz : M.L i = []
  ·rw [if_pos hz];obtain ⟨hp', F', v', r1, r2, r3⟩ := qo L n (i + 1) (by omega) rfl hc hM hK hr hl;refine ⟨hp', F', v', ?_, r2, r3⟩;rw [← r1, ah];have d5 : ¬ (((M.L i).length : Nat) : Int) > 0 := by rw [hz]; simp
   simp only [bx] at h1;generalize (tab M.n fun q => plV (M.S q) (M.L q) (sv q)) = T0 at *;generalize (M.L i).length = fz at *;simp only [go_sem, ct, d1, h1, hsad, h4, g, Int.toNat_natCast, hsl, d5, d4, z0, vlt]
  ·rw [if_neg hz];obtain ⟨k0, k1, k2⟩ := GP hr;obtain ⟨v', c1, c2⟩ := KL (L := L ++ [.rw v]) (p := L.length) hK hr hl (by simp);rw [pI] at c1;have hpos : 0 < (M.L i).length := List.length_pos_iff.2 hz;have hq0 := Int.emod_nonneg (nxK ks).1 (show (((M.L i).length : Nat) : Int) + 1 ≠ 0 by omega);have hq1 := Int.emod_lt_of_pos (nxK ks).1 (show 0 < (((M.L i).length : Nat) : Int) + 1 by omega);have w3 : ((nxK ks).1).tmod (((M.L i).length : Int) + 1) = (((nxK ks).1 % (((M.L i).length : Int) + 1)).toNat : Nat) := by
    rw [Int.tmod_eq_emod_of_nonneg k0]; omega
   generalize hQ : ((nxK ks).1 % (((M.L i).length : Int) + 1)).toNat = Q at *;obtain ⟨hp1, F1, s1, s2, s3, s4⟩ := pg hM hc h1 (j := i) (n := Q) hj (by omega) (L ++ [.rw v']);obtain ⟨T, y1, y3, y4, t1, t2, t3, t4, t5, t6, t7, t8, t9⟩ := HH s2 (s4.trans h1) (j := i) hj;have hl2 : (nxK ks).2.length < 1000000000 := by
    cases ks with
    | nil => simp [nxK]
    | cons a r => simp only [nxK, List.length_cons] at hl ⊢; omega
   obtain ⟨hp', F', v2, r1, r2, r3⟩ := qo L n (i + 1) (nL := M.n) (M := (M.sureN i Q).cleared i) (by show i + 1 + n = M.n; omega) rfl hc t7 ((c2.chg s3).chg t8) k2 hl2;refine ⟨hp', F', v2, ?_, r2, (s3.trans t8).trans r3⟩;rw [← r1, ah];have vlt' : V.locLt (L.length + 1) v' = true := cQ (Nat.zero_le _) c2.lt;have d5 : (((M.L i).length : Nat) : Int) > 0 := by omega
   have d6 : IntKind.i64.wrap (((M.L i).length : Int) + 1) = ((M.L i).length : Int) + 1 := ag (by omega) (by omega);have d7 : ¬ ((M.L i).length : Int) + 1 = 0 := by omega
   have hTx : ∀ x, (T.set i x)[i]? = some x := fun x => List.getElem?_set_self (by rw [t2]; exact hj);have hkl := aw t1;have hkx : ∀ x, (hp1.set k x)[k]? = some x := fun x => List.getElem?_set_self hkl;simp only [bx, nlz, nlV] at h1 ⊢;clear r1 r2 r3 t7 t8 t9 s2 s3 hQ;generalize (tab M.n fun q => plV (M.S q) (M.L q) (sv q)) = T0 at *;generalize (M.L i).length = fz at *;generalize (nxK ks).1 = K at *;have zt : (lnV ((M.sureN i Q).S i)).tag = 24 := rfl;have zl0 : V.locLt 0 (lnV ((M.sureN i Q).S i)) = true := uF;generalize lnV ((M.sureN i Q).S i) = Z at *;simp only [go_sem, ct, d1, h1, hsad, h4, g, hsl, d5, d4, c1, d6, d7, w3, s1, t1, t3, hkx, hTx, z0, vlt', zt, zl0, t4, t5, t6, List.set_set]
theorem qe : ∀ (n i : Nat) {M : AM} {ks : List Int}, (M.crashN ks i n).n = M.n ∧ (M.crashN ks i n).count = M.count
 | 0, _, _, _ => ⟨rfl, rfl⟩
 | n + 1, i, M, ks => by
  unfold AM.crashN;split
  ·exact qe n (i + 1)
  ·exact qe n (i + 1)
theorem Bl {hp : List Blk} {F : Ft} {m : Nat} {M : AM} (h : aZ hp F m M) (hc : M.count < 1000000) {v : V} {ks : List Int} (hK : ix hp F v ks) (hr : ∀ k ∈ ks, -9223372036854775808 ≤ k ∧ k ≤ 9223372036854775807) (hl : ks.length < 1000000000) (L : List Blk) :
 ∃ hp' F', rf D iH [.ptr (.hp m) [] 59, v] ⟨L, hp⟩ = some (.tup [], ⟨L, hp'⟩) ∧ aZ hp' F' m (M.crash ks) ∧ Chg hp hp' F F' := by
 obtain ⟨hp1, F1, v1, r1, r2, r3⟩ := qo L M.n 0 (by omega) rfl hc h hK hr hl;obtain ⟨k, fk, ne, ⟨cp, left, h1, h2, h3⟩, _⟩ := h.mb;have n1 := (qe M.n 0 (M := M) (ks := ks)).1;have hM1 := r2;obtain ⟨k', fk', ne', ⟨cp', left', q1, q2, q3⟩, sv, ow, q4, q5⟩ := r2.mb;generalize hN : M.crashN ks 0 M.n = N at *;have hml := aw q1;refine ⟨hp1.set m (.rw (bx k' N.n cp' false false left' N.count)), F1, ?_, ?_, r3.trans (dm.mono (fun x hx => by cases hx; exact r2.fm) fun _ => .inr)⟩
 ·have hvo : v.ok = true := by cases hK <;> rfl
  have vt := hK.tag;simp only [bx] at h1 q1 ⊢;rw [show ((0 : Nat) : Int) = 0 from rfl] at r1
  rw [ae ry rfl];have hkx : ∀ x, (hp1.set m x)[m]? = some x := fun x => List.getElem?_set_self hml;simp only [go_sem, h1, r1, q1, hvo, vt, hkx, List.set_set]
 ·have ok := r2.ok;unfold AM.crash;rw [hN];refine ⟨⟨ok.n0, ok.n1, ok.l8, ok.w8, ok.c0, ok.len, by show (-1 : Int) ≤ -1; decide, by show (-1 : Int) ≤ 9223372036854775807; decide⟩, r2.inn.set, r2.fm, k', fk', ne', ⟨cp', left', List.getElem?_set_self hml, q2, fun h => absurd h (by show ¬ (0 : Int) ≤ -1; decide)⟩, sv, ow, ?_, fun x hx => ?_⟩
  ·rw [List.getElem?_set_ne ne']; exact q4
  ·exact (q5 x hx).eqv (fun y hy => List.getElem?_set_ne (Ne.symm hy.2.1)) fun _ h => h
end Go.Proofs.YtmimfopnhmmlbaaGreatDoor
namespace Go.Proofs.YtmimfopnhmmlbaaGreatDoor
open Go.Ab
theorem E7 {M : AM} {i q : Nat} (hi : i < M.n) (hq : q < 8) (v : Int) : ((M.store i q v).2 = 0 ∧ (M.store i q v).1.off = M.off ∧ (M.store i q v).1.now i = (M.now i).set q v) ∨ ((M.store i q v).2 = 4 ∧ (M.store i q v).1.off = true) := by
 unfold AM.store;rw [if_neg (by omega)];split
 ·exact .inr ⟨rfl, rfl⟩
 ·refine .inl ⟨rfl, rfl, ?_⟩;simp only [zk, Int.toNat_natCast, Dn.mk0];rfl
theorem tJ {at' : Nat} {l : List Int} (hl : l.length = 8) : ∀ (n j : Nat) {M : AM}, at' < M.n → j + n = 8 → ∀ o : List Int, o.length = 8 → M.now at' = qg l o j →
 ((M.layFrom at' l j n).2 = 0 ∧ (M.layFrom at' l j n).1.off = M.off ∧ (M.layFrom at' l j n).1.now at' = l) ∨ ((M.layFrom at' l j n).2 = 4 ∧ (M.layFrom at' l j n).1.off = true)
 | 0, j, M, _, hj, o, ho, hm => by
  left;refine ⟨rfl, rfl, ?_⟩;have : j = 8 := by omega
  subst this;show M.now at' = l;rw [hm];unfold qg;rw [List.take_of_length_le (by omega), List.drop_eq_nil_iff.2 (by omega), List.append_nil]
 | n + 1, j, M, hi, hj, o, ho, hm => by
  have hs := E7 hi (show j < 8 by omega) (l.getD j 0);have hn : (M.store at' j (l.getD j 0)).1.n = M.n := AM.store_n;unfold AM.layFrom;rcases hs with ⟨h1, h2, h3⟩ | ⟨h1, h2⟩
  ·rw [if_neg (by rw [h1]; simp)];have := tJ hl n (j + 1) (M := (M.store at' j (l.getD j 0)).1) (by rw [hn]; exact hi) (by omega) o ho (by rw [h3, hm]; exact zc hl ho (by omega));rw [h2] at this;exact this
  ·rw [if_pos (by rw [h1]; decide)];exact .inr ⟨h1, h2⟩
theorem BO {M : AM} (hok : M.Ok) {at' : Nat} {l : List Int} (hl : l.length = 8) (hi : at' < M.n) :
 ((M.layFrom at' l 0 8).2 = 0 ∧ (M.layFrom at' l 0 8).1.off = M.off ∧ (M.layFrom at' l 0 8).1.now at' = l) ∨ ((M.layFrom at' l 0 8).2 = 4 ∧ (M.layFrom at' l 0 8).1.off = true) :=
 tJ hl 8 0 hi rfl (M.now at') (hok.now8 hi) (by simp [qg])
theorem rI {M : AM} {i : Nat} (hi : i < M.n) : ((M.flush 0 i).2 = 0 ∧ (M.flush 0 i).1.off = M.off ∧ Fl (M.flush 0 i).1 i ∧ ∀ j, (M.flush 0 i).1.now j = M.now j) ∨ ((M.flush 0 i).2 = 4 ∧ (M.flush 0 i).1.off = true) := by
 unfold AM.flush;rw [if_neg (by omega)];split
 ·exact .inr ⟨rfl, rfl⟩
 ·refine .inl ⟨rfl, rfl, ?_, fun j => ?_⟩
  ·rw [Int.toNat_natCast]; exact vw
  ·exact AM.now_flushed
theorem xc {M : AM} : ((M.fence 0).2 = 0 ∧ (M.fence 0).1.off = M.off ∧ (∀ j, j < M.n → Fl M j → Sur (M.fence 0).1 j) ∧ ∀ j, (M.fence 0).1.now j = M.now j) ∨ ((M.fence 0).2 = 4 ∧ (M.fence 0).1.off = true) := by
 unfold AM.fence;rw [if_neg (by omega)];split
 ·exact .inr ⟨rfl, rfl⟩
 ·refine .inl ⟨rfl, ?_, fun j hj hf => ?_, fun j => ?_⟩
  ·exact (dJ (M := M.stepped) (c := 0) M.n).2.2.1
  ·have h2 : Fl M.stepped j := hf;exact Fb h2 hj
  ·exact nN M.n
theorem xK {M : AM} {c i : Int} {j : Nat} (h : Sur M j) : Sm M (M.flush c i).1 j := by
 unfold AM.flush;split
 ·exact .refl _ _
 ·split
  ·exact vi
  ·refine ⟨?_, rfl⟩;simp only [AM.flushed, AM.stepped];by_cases e : j = i.toNat
   ·subst e;rw [aj];have e2 : M.L i.toNat = [] := h;rw [e2]; rfl
   ·exact ao e
theorem HL {M : AM} {i : Nat} {j : Nat} (h : Fl M j) : Fl (M.flush 0 i).1 j := by
 unfold AM.flush;split
 ·exact h
 ·split
  ·exact h
  ·by_cases e : j = i
   ·subst e;show Fl (M.stepped.flushed 0 (j : Int).toNat) j;rw [Int.toNat_natCast]; exact vw
   ·unfold Fl at *;simp only [AM.flushed, AM.stepped, Int.toNat_natCast];show flN 0 (upd M.L i _ j) = (upd M.L i _ j).length;rw [ao e]; exact h
end Go.Proofs.YtmimfopnhmmlbaaGreatDoor
namespace Go.Proofs.YtmimfopnhmmlbaaGreatDoor
open Go.Ab
theorem E3 {w : AW} (h : Inv w.x) {l : List Int} (hl : l.length = 8) (q : Nat) :
 (w.x.A.left = 0 ∧ w.write l q = (w, 10)) ∨ ∃ k M, w.x.A.f ≤ k ∧ k < w.x.A.l ∧ w.x.A.st k = 0 ∧ M.Ok ∧ M.n = w.x.M.n ∧ (∀ j, j ≠ k → Sm w.x.M M j) ∧
  ((w.write l q = ({ w with x := { w.x with M := M, A := w.x.A.put k 1 }, dir := upd w.dir q (k : Int) }, 0) ∧ M.off = w.x.M.off ∧ M.now k = l ∧ Fl M k) ∨
   (w.write l q = ({ w with x := { w.x with M := M, A := w.x.A.put k 1 } }, 4) ∧ M.off = true)) := by
 cases hf : w.x.A.first with
 | none =>
  left;have ha : w.x.A.alloc = (w.x.A, 0, 10) := by unfold AF.alloc; rw [hf]
  refine ⟨AF.left_zero.2 hf, ?_⟩;have : w.x.lay l = (w.x, 0, 10) := by unfold AS.lay; rw [ha, if_pos (by simp)]
  unfold AW.write;rw [this, if_pos (by simp)]
 | some k =>
  right;obtain ⟨h1, h2, h3, _⟩ := iW h.ok.A hf;have ha : w.x.A.alloc = (w.x.A.put k 1, (k : Int), 0) := by unfold AF.alloc; rw [hf]
  have hkn : k < w.x.M.n := by rw [← h.ok.l]; exact h2
  have hlo := BO h.ok.M hl hkn;have hok : (w.x.M.layFrom k l 0 8).1.Ok := h.ok.M.layFrom;have hn : (w.x.M.layFrom k l 0 8).1.n = w.x.M.n := AM.layFrom_n;have hsm : ∀ j, j ≠ k → Sm w.x.M (w.x.M.layFrom k l 0 8).1 j := fun j hj => mX (by rw [Int.toNat_natCast]; exact hj) 8 0 _;rcases hlo with ⟨g1, g2, g3⟩ | ⟨g1, g2⟩
  ·have hlay : w.x.lay l = ({ w.x with A := w.x.A.put k 1, M := (w.x.M.layFrom k l 0 8).1 }, (k : Int), 0) := by
    unfold AS.lay;rw [ha, if_neg (by simp)];simp only [g1];rw [if_neg (by simp)]
   have hfo := rI (M := (w.x.M.layFrom k l 0 8).1) (i := k) (by rw [hn]; exact hkn);have hfk : ((w.x.M.layFrom k l 0 8).1.flush 0 k).1.Ok := by
    unfold AM.flush;split
    ·exact hok
    ·split
     ·exact hok.out
     ·exact hok.stepped.flushed _ _
   refine ⟨k, ((w.x.M.layFrom k l 0 8).1.flush 0 k).1, h1, h2, h3, hfk, dS.2.trans hn, fun j hj => (hsm j hj).trans (Ah (by rw [Int.toNat_natCast]; exact hj)), ?_⟩;rcases hfo with ⟨f1, f2, f3, f4⟩ | ⟨f1, f2⟩
   ·left;refine ⟨?_, f2.trans g2, by rw [f4]; exact g3, f3⟩;unfold AW.write;rw [hlay];simp only [f1];rw [if_neg (by simp), if_neg (by simp)]
   ·right;refine ⟨?_, f2⟩;unfold AW.write;rw [hlay];simp only [f1];rw [if_neg (by simp), if_pos (by decide)]
  ·have hlay : w.x.lay l = ({ w.x with A := w.x.A.put k 1, M := (w.x.M.layFrom k l 0 8).1 }, 0, 4) := by
    unfold AS.lay;rw [ha, if_neg (by simp)];simp only [g1];rw [if_pos (by decide)]
   refine ⟨k, (w.x.M.layFrom k l 0 8).1, h1, h2, h3, hok, hn, hsm, .inr ⟨?_, g2⟩⟩;unfold AW.write;rw [hlay];simp only;rw [if_pos (by decide)]
def nF (x : AS) (v : Int) : Prop := ∃ q : Nat, v = q ∧ 10 ≤ q ∧ q < x.M.n ∧ x.A.st q = 1 ∧ ax x.work q = false ∧ ax x.base q = false ∧ ax x.mark q = false
structure Ck (x0 : AS) (G : List (Nat × Int)) (w : AW) : Prop where
 inv : Inv w.x
 f : w.x.A.f = 10
 base : w.x.base = x0.base
 mark : w.x.mark = x0.work
 is : w.x.is = true
 dir : w.x.dir = x0.dir
 n : w.x.M.n = x0.M.n
 tbl : w.tbl = x0.work
 d0 : ∀ k, k < 8 → nF w.x (w.x.dir k)
 d1 : ∀ k, k < 8 → nF w.x (w.dir k)
 dj : ∀ k l, k < 8 → l < 8 → k ≠ l → w.dir k ≠ w.dir l
 safe : ∀ j : Nat, (j < 10 ∨ ax x0.base j = true ∨ mn x0.dir j = true) → Sur w.x.M j ∧ w.x.M.S j = x0.M.S j
 lin : ∀ j : Nat, ax x0.work j = true → w.x.M.now j = x0.M.now j ∧ (ax x0.base j = true ∨ ((0 : Nat), (j : Int)) ∈ w.st ∨ Fl w.x.M j)
 lf : ∀ k : Nat, k < 7 → ((1 : Nat), (k : Int)) ∈ w.st ∨ (w.x.M.now (w.dir k).toNat = bi x0.work k ∧ Fl w.x.M (w.dir k).toNat)
 rt : ((2 : Nat), (0 : Int)) ∈ w.st ∨ (w.x.M.now (w.dir 7).toNat = aW w.dir ∧ Fl w.x.M (w.dir 7).toNat)
 fe : ((3 : Nat), (0 : Int)) ∈ w.st ∨ ((∀ j : Nat, ax x0.work j = true → Sur w.x.M j) ∧ ∀ k, k < 8 → Sur w.x.M (w.dir k).toNat)
 suf : w.st <:+ G ++ [(2, 0), (3, 0), (4, 0)]
 g : ∀ p ∈ G, (p.1 = 0 ∧ ∃ q : Nat, p.2 = q ∧ q < x0.M.n) ∨ (p.1 = 1 ∧ ∃ k : Nat, p.2 = k ∧ k < 7)
theorem yJ {p : Nat × Int} {r : List (Nat × Int)} : ∀ {G : List (Nat × Int)}, p :: r <:+ G ++ [(2, 0), (3, 0), (4, 0)] →
 (p ∈ G ∧ [(2, 0), (3, 0), (4, 0)] <:+ r) ∨ (p = (2, 0) ∧ r = [(3, 0), (4, 0)]) ∨ (p = (3, 0) ∧ r = [(4, 0)]) ∨ (p = (4, 0) ∧ r = [])
 | [], h => by
  right;rw [List.nil_append] at h;rcases List.suffix_cons_iff.1 h with h | h
  ·simp only [List.cons.injEq] at h; exact .inl h
  ·rcases List.suffix_cons_iff.1 h with h | h
   ·simp only [List.cons.injEq] at h; exact .inr (.inl h)
   ·rcases List.suffix_cons_iff.1 h with h | h
    ·simp only [List.cons.injEq] at h; exact .inr (.inr h)
    ·exact absurd (List.suffix_nil.1 h) (by simp)
 | g :: G, h => by
  rw [List.cons_append] at h;rcases List.suffix_cons_iff.1 h with h | h
  ·simp only [List.cons.injEq] at h;rw [h.1, h.2];exact .inl ⟨List.mem_cons_self, List.suffix_append _ _⟩
  ·rcases yJ h with ⟨h1, h2⟩ | h
   ·exact .inl ⟨List.mem_cons_of_mem _ h1, h2⟩
   ·exact .inr h
end Go.Proofs.YtmimfopnhmmlbaaGreatDoor
namespace Go.Proofs.YtmimfopnhmmlbaaGreatDoor
open Go.Ab
section
variable {x0 : AS} {G : List (Nat × Int)} {w : AW}
def Old (x0 : AS) (j : Nat) : Prop := j < 10 ∨ ax x0.base j = true ∨ mn x0.dir j = true
theorem i5 {d : Nat → Int} {j : Nat} : mn d j = true ↔ ∃ k, k < 8 ∧ d k = j := by
 unfold mn;simp only [List.any_eq_true, List.mem_range, decide_eq_true_eq]
theorem Ck.kpB (h : Ck x0 G w) {j : Nat} (hj : ax x0.base j = true ∨ ax x0.work j = true) : Kp w.x j := by
 have hs : w.x.sh j = true := by
  rw [mg h.inv.ok, h.base, h.mark, h.is];rcases hj with hj | hj <;> simp [hj]
 exact ⟨.inr ⟨h.inv.s1 j hs, .inl hs⟩⟩
theorem nF.kp {x : AS} {v : Int} (h : nF x v) : Kp x v.toNat := by
 obtain ⟨q, rfl, _, _, h1, h2, _⟩ := h;rw [Int.toNat_natCast];exact ⟨.inr ⟨h1, .inr h2⟩⟩
theorem Ck.kpO (h : Ck x0 G w) {j : Nat} (hj : Old x0 j) : Kp w.x j := by
 rcases hj with hj | hj | hj
 ·exact ⟨.inl (by rw [h.f]; exact hj)⟩
 ·exact h.kpB (.inl hj)
 ·obtain ⟨k, hk, e⟩ := i5.1 hj;have := (h.d0 k hk).kp;rw [h.dir, e, Int.toNat_natCast] at this;exact this
theorem nF.stp {x y : AS} {v : Int} (h : nF x v) (hs : Stp x y) : nF y v := by
 obtain ⟨q, rfl, h1, h2, h3, h4, h5, h6⟩ := h;obtain ⟨g1, g2⟩ := hs.st q h3 h4;exact ⟨q, rfl, h1, by rw [hs.n]; exact h2, g1, g2, by rw [hs.base]; exact h5, by rw [hs.mark]; exact h6⟩
theorem Ck.change (h : Ck x0 G w) (on : w.x.M.On) (o : Cll) : Ck x0 G { w with x := w.x.change o } := by
 obtain ⟨hs, _⟩ := gU h.inv on o;have sm := fun j hj => xm h.inv o (j := j) hj;refine ⟨hs.inv, hs.fl.1.trans h.f, hs.base.trans h.base, hs.mark.trans h.mark, hs.is.trans h.is, hs.dir.trans h.dir, hs.n.trans h.n, h.tbl, fun k hk => ?_, fun k hk => (h.d1 k hk).stp hs, h.dj, fun j hj => ?_, fun j hj => ?_, fun k hk => ?_, ?_, ?_, h.suf, h.g⟩
 ·have := (h.d0 k hk).stp hs;simp only [hs.dir]; exact this
 ·have s := sm j (h.kpO hj);exact ⟨s.sur (h.safe j hj).1, s.S.trans (h.safe j hj).2⟩
 ·have s := sm j (h.kpB (.inr hj));exact ⟨s.now.trans (h.lin j hj).1, (h.lin j hj).2.imp id fun e => e.imp id s.fl⟩
 ·have s := sm _ (h.d1 k (by omega)).kp;exact (h.lf k hk).imp id fun e => ⟨s.now.trans e.1, s.fl e.2⟩
 ·have s := sm _ (h.d1 7 (by omega)).kp;exact h.rt.imp id fun e => ⟨s.now.trans e.1, s.fl e.2⟩
 ·exact h.fe.imp id fun e => ⟨fun j hj => (sm j (h.kpB (.inr hj))).sur (e.1 j hj), fun k hk => (sm _ (h.d1 k hk).kp).sur (e.2 k hk)⟩
theorem GB {d : Nat → Int} {v : Int} : aW (upd d 7 v) = aW d := by
 have e : ∀ j, j < 7 → upd d 7 v j = d j := fun j hj => ao (by omega);unfold aW cU rlL;have h1 : ((List.range 7).all fun j => decide (0 ≤ upd d 7 v (0 + j)) && decide (upd d 7 v (0 + j) < 1024)) = (List.range 7).all fun j => decide (0 ≤ d (0 + j)) && decide (d (0 + j) < 1024) := by
  apply Bool.eq_iff_iff.2;simp only [List.all_eq_true, List.mem_range];constructor
  ·intro hh j hj; have := hh j hj; rw [e (0 + j) (by omega)] at this; exact this
  ·intro hh j hj; rw [e (0 + j) (by omega)]; exact hh j hj
 have h2 : ((List.range 8).map fun j => if j < 7 then ior .u64 4294967296 (IntKind.u64.wrap (upd d 7 v j)) else 0) = (List.range 8).map fun j => if j < 7 then ior .u64 4294967296 (IntKind.u64.wrap (d j)) else 0 := by
  apply List.map_congr_left;intro j _;split
  ·rename_i hj; rw [e j hj]
  ·rfl
 rw [h1, h2]
def Off (x0 : AS) (w w' : AW) : Prop := w'.x.M.off = true ∧ w'.st = w.st ∧ w'.x.M.Ok ∧ w'.x.M.n = w.x.M.n ∧ ∀ j, Old x0 j → Sur w'.x.M j ∧ w'.x.M.S j = x0.M.S j
structure Did (w w' : AW) (p : Nat × Int) (r : List (Nat × Int)) : Prop where
 st : w'.st = r
 work : w'.x.work = w.x.work
 off : w'.x.M.off = w.x.M.off
 b : w'.b = w.b
 slot : w'.slot = w.slot
 seq : w'.seq = w.seq
 left : w'.x.A.left + wrN p = w.x.A.left
theorem Iq {p : Nat × Int} {r l : List (Nat × Int)} (h : p :: r <:+ l) : r <:+ l := (List.suffix_cons p r).trans h
theorem Ck.step (h : Ck x0 G w) {p : Nat × Int} {r : List (Nat × Int)} (hw : w.st = p :: r) (hr : r ≠ []) :
 (∃ w', w.step = (w', false, 0) ∧ Ck x0 G w' ∧ Did w w' p r) ∨ (w.x.A.left = 0 ∧ wrN p = 1) ∨ (∃ w', w.step = (w', false, 4) ∧ Off x0 w w') := by
 have hd : decide (r = []) = false := decide_eq_false hr;have hsuf := h.suf;rw [hw] at hsuf;have hst := Iq hsuf;have mem : ∀ q : Nat × Int, q ∈ w.st → q ≠ p → q ∈ r := fun q hq hne => by
  rw [hw] at hq;rcases List.mem_cons.1 hq with e | e
  ·exact absurd e hne
  ·exact e
 have ok := h.inv.ok;have memo : ∀ M : AM, M.Ok → M.n = w.x.M.n → M.off = w.x.M.off → (∀ j, M.now j = w.x.M.now j) → (∀ j, Sur w.x.M j → Sm w.x.M M j) → (∀ j, j < w.x.M.n → Fl w.x.M j → Fl M j) → w.doStep p = ({ w with x := { w.x with M := M } }, 0) → wrN p = 0 →
  (∀ q : Nat, p = (0, (q : Int)) → Fl M q) → p.1 ≠ 1 → p.1 ≠ 2 → (p = (3, 0) → (∀ j : Nat, ax x0.work j = true → Sur M j) ∧ ∀ k, k < 8 → Sur M (w.dir k).toNat) →
  (∃ w', w.step = (w', false, 0) ∧ Ck x0 G w' ∧ Did w w' p r) := by
  intro M m1 m2 m3 m4 m5 m6 m7 m8 m9 m10 m11 m12;refine ⟨{ w with x := { w.x with M := M }, st := r }, ?_, ⟨h.inv.withM m1 m2, h.f, h.base, h.mark, h.is, h.dir, m2.trans h.n, h.tbl, fun k hk => ?_, fun k hk => ?_, h.dj, fun j hj => ?_, fun j hj => ?_, fun k hk => ?_, ?_, ?_, hst, h.g⟩, ⟨rfl, rfl, m3, rfl, rfl, rfl, by rw [m8]; rfl⟩⟩
  ·unfold AW.step;rw [hw];simp only [m7, hd, if_true]
  ·obtain ⟨q, e1, e2, e3, e4⟩ := h.d0 k hk;exact ⟨q, e1, e2, by rw [m2]; exact e3, e4⟩
  ·obtain ⟨q, e1, e2, e3, e4⟩ := h.d1 k hk;exact ⟨q, e1, e2, by rw [m2]; exact e3, e4⟩
  ·have s := m5 j (h.safe j hj).1;exact ⟨s.sur (h.safe j hj).1, s.S.trans (h.safe j hj).2⟩
  ·obtain ⟨e1, e2⟩ := h.lin j hj;have hjn : j < w.x.M.n := by
    obtain ⟨i, i1, i2, i3⟩ := aM.1 hj;have := ok.k.inn i i1 (by rw [h.mark]; exact i2);rw [h.mark, i3] at this;have hl := ok.l;omega
   refine ⟨(m4 j).trans e1, ?_⟩;rcases e2 with e2 | e2 | e2
   ·exact .inl e2
   ·by_cases e : ((0 : Nat), (j : Int)) = p
    ·exact .inr (.inr (m9 j e.symm))
    ·exact .inr (.inl (mem _ e2 e))
   ·exact .inr (.inr (m6 j hjn e2))
  ·rcases h.lf k hk with e | e
   ·exact .inl (mem _ e fun e2 => m10 (by rw [← e2]))
   ·obtain ⟨q, q1, _, q3, _⟩ := h.d1 k (by omega);exact .inr ⟨(m4 _).trans e.1, m6 _ (by rw [q1, Int.toNat_natCast]; exact q3) e.2⟩
  ·rcases h.rt with e | e
   ·exact .inl (mem _ e fun e2 => m11 (by rw [← e2]))
   ·obtain ⟨q, q1, _, q3, _⟩ := h.d1 7 (by omega);exact .inr ⟨(m4 _).trans e.1, m6 _ (by rw [q1, Int.toNat_natCast]; exact q3) e.2⟩
  ·rcases h.fe with e | e
   ·by_cases e2 : ((3 : Nat), (0 : Int)) = p
    ·exact .inr (m12 e2.symm)
    ·exact .inl (mem _ e e2)
   ·exact .inr ⟨fun j hj => (m5 j (e.1 j hj)).sur (e.1 j hj), fun k hk => (m5 _ (e.2 k hk)).sur (e.2 k hk)⟩
 have off4 : ∀ (M : AM) (A : AF), M.off = true → M.Ok → M.n = w.x.M.n → (∀ j, Old x0 j → Sm w.x.M M j) → w.doStep p = ({ w with x := { w.x with M := M, A := A } }, 4) → ∃ w', w.step = (w', false, 4) ∧ Off x0 w w' := by
  intro M A m1 m2 m3 m4 m5;refine ⟨{ w with x := { w.x with M := M, A := A } }, ?_, m1, rfl, m2, m3, fun j hj => ?_⟩
  ·unfold AW.step;rw [hw];simp only [m5];rw [if_neg (by decide), if_neg (by decide), ← hw]
  ·have s := m4 j hj;exact ⟨s.sur (h.safe j hj).1, s.S.trans (h.safe j hj).2⟩
 have wrt : ∀ (l : List Int) (q : Nat), l.length = 8 → q < 8 → w.doStep p = w.write l q → wrN p = 1 → ((3 : Nat), (0 : Int)) ∈ r → ((q < 7 ∧ p = (1, (q : Int)) ∧ l = bi x0.work q ∧ ((2 : Nat), (0 : Int)) ∈ r) ∨ (q = 7 ∧ p = (2, 0) ∧ l = aW w.dir)) →
  (∃ w', w.step = (w', false, 0) ∧ Ck x0 G w' ∧ Did w w' p r) ∨ (w.x.A.left = 0 ∧ wrN p = 1) ∨ (∃ w', w.step = (w', false, 4) ∧ Off x0 w w') := by
  intro l q hl hq h6 h7 h3 hpq;rcases E3 h.inv hl q with ⟨g1, _⟩ | ⟨k, M, k1, k2, k3, m1, m2, m3, hres⟩
  ·exact .inr (.inl ⟨g1, h7⟩)
  ·have hk10 : 10 ≤ k := by rw [← h.f]; exact k1
   have hkp : ∀ j, Kp w.x j → j ≠ k := fun j hj e => by
    subst e;rcases hj.one with e | e
    ·omega
    ·rw [k3] at e; cases e
   rcases hres with ⟨e1, e2, e3, e4⟩ | ⟨e1, e2⟩
   ·left;have hp0 : p.1 ≠ 0 := by rcases hpq with ⟨_, e, _⟩ | ⟨_, e, _⟩ <;> rw [e] <;> simp
    have hiv : Inv { w.x with M := M, A := w.x.A.put k 1 } := (h.inv.taken k3).withM m1 m2;have hlp := AF.left_put (A := w.x.A) (k := k) (x := 1) k1 k2;rw [if_pos k3, if_neg (by decide)] at hlp;have hnw : ∀ t, (ax t k = true → w.x.A.st k = 1) → ax t k = false := fun t ht => by
     cases e : ax t k
     ·rfl
     ·have := ht e; rw [k3] at this; cases this
    have hsh := fun (j : Nat) (e : ax w.x.base j = true ∨ ax w.x.mark j = true) => h.inv.s1 j (by rw [mg ok, h.is]; rcases e with e | e <;> simp [e]);have hold : ∀ v, nF w.x v → nF { w.x with M := M, A := w.x.A.put k 1 } v := by
     rintro v ⟨a, a1, a2, a3, a4, a5⟩;refine ⟨a, a1, a2, by simp only; rw [m2]; exact a3, ?_, a5⟩;simp only [AF.put];rw [ao (fun e => by rw [e, k3] at a4; cases a4)]; exact a4
    have hnewL : nF { w.x with M := M, A := w.x.A.put k 1 } (k : Int) := by
     refine ⟨k, rfl, hk10, by simp only; rw [m2, ← ok.l]; exact k2, by simp only [AF.put]; exact aj, hnw _ fun e => h.inv.w1 k e, hnw _ fun e => hsh k (.inl e), hnw _ fun e => hsh k (.inr e)⟩
    have hdne : ∀ i, i < 8 → w.dir i ≠ (k : Int) := fun i hi e => by
     obtain ⟨a, a1, _, _, a4, _⟩ := h.d1 i hi;have : a = k := by rw [a1] at e; omega
     rw [this, k3] at a4; cases a4
    refine ⟨{ w with x := { w.x with M := M, A := w.x.A.put k 1 }, dir := upd w.dir q (k : Int), st := r }, ?_, ⟨hiv, h.f, h.base, h.mark, h.is, h.dir, m2.trans h.n, h.tbl, fun i hi => hold _ (h.d0 i hi), fun i hi => ?_, fun i j hi hj hne => ?_, fun j hj => ?_, fun j hj => ?_, fun i hi => ?_, ?_, .inl h3, hst, h.g⟩, ⟨rfl, rfl, e2, rfl, rfl, rfl, ?_⟩⟩
    ·unfold AW.step;rw [hw];simp only [h6, e1, hd, if_true]
    ·simp only [upd];split
     ·exact hnewL
     ·exact hold _ (h.d1 i hi)
    ·simp only [upd];split
     ·rename_i e5;rw [if_neg (by omega)];exact fun e => hdne j hj e.symm
     ·split
      ·exact hdne i hi
      ·exact h.dj i j hi hj hne
    ·have s := m3 j (hkp j (h.kpO hj));exact ⟨s.sur (h.safe j hj).1, s.S.trans (h.safe j hj).2⟩
    ·have s := m3 j (hkp j (h.kpB (.inr hj)));refine ⟨s.now.trans (h.lin j hj).1, (h.lin j hj).2.imp id fun e => e.imp (fun e => mem _ e fun e2 => hp0 (by rw [← e2])) s.fl⟩
    ·simp only;by_cases hiq : i = q
     ·subst hiq;right;rw [aj, Int.toNat_natCast];rcases hpq with ⟨_, _, e, _⟩ | ⟨e, _⟩
      ·exact ⟨e3.trans e, e4⟩
      ·omega
     ·rw [ao hiq];rcases h.lf i hi with e | e
      ·left;refine mem _ e fun e2 => ?_;rcases hpq with ⟨_, e5, _⟩ | ⟨_, e5, _⟩
       ·rw [e5] at e2; simp only [Prod.mk.injEq, true_and] at e2; omega
       ·rw [e5] at e2; simp at e2
      ·have s := m3 _ (hkp _ (h.d1 i (by omega)).kp);exact .inr ⟨s.now.trans e.1, s.fl e.2⟩
    ·rcases hpq with ⟨_, _, _, e⟩ | ⟨e, _, e5⟩
     ·exact .inl e
     ·right;subst e;simp only;rw [aj, Int.toNat_natCast, GB];exact ⟨e3.trans e5, e4⟩
    ·rw [h7]; simp only; omega
   ·exact .inr (.inr (off4 M _ e2 m1 m2 (fun j hj => m3 j (hkp j (h.kpO hj))) (by rw [h6]; exact e1)))
 have surO : ∀ j, Old x0 j → Sur w.x.M j := fun j hj => (h.safe j hj).1;rcases yJ hsuf with ⟨hpG, h234⟩ | ⟨rfl, rfl⟩ | ⟨rfl, rfl⟩ | ⟨_, e⟩
 ·have h2 : ((2 : Nat), (0 : Int)) ∈ r := h234.subset (by simp);have h3 : ((3 : Nat), (0 : Int)) ∈ r := h234.subset (by simp);rcases h.g p hpG with ⟨p1, q, p2, p3⟩ | ⟨p1, k, p2, p3⟩
  ·have hp : p = (0, (q : Int)) := by rw [← p1, ← p2]
   have hqn : q < w.x.M.n := by rw [h.n]; exact p3
   have hdo : w.doStep p = ({ w with x := { w.x with M := (w.x.M.flush 0 q).1 } }, (w.x.M.flush 0 q).2) := by rw [hp]; rfl
   have hfk : (w.x.M.flush 0 q).1.Ok := by
    unfold AM.flush;split
    ·exact ok.M
    ·split
     ·exact ok.M.out
     ·exact ok.M.stepped.flushed _ _
   rcases rI hqn with ⟨f1, f2, f3, f4⟩ | ⟨f1, f2⟩
   ·left;refine memo _ hfk dS.2 f2 f4 (fun j hj => xK hj) (fun j _ hj => HL hj) (by rw [hdo, f1]) (by rw [hp]; rfl) (fun q' e => ?_) (by rw [hp]; simp) (by rw [hp]; simp) (fun e => by rw [hp] at e; simp at e);rw [hp] at e;simp only [Prod.mk.injEq, true_and] at e;have : q' = q := by omega
    rw [this]; exact f3
   ·exact .inr (.inr (off4 _ w.x.A f2 hfk dS.2 (fun j hj => xK (surO j hj)) (by rw [hdo, f1])))
  ·have hp : p = (1, (k : Int)) := by rw [← p1, ← p2]
   exact wrt (bi x0.work k) k (n5 _ _) (by omega) (by rw [hp, ← h.tbl]; rfl) (by rw [hp]; rfl) h3 (.inl ⟨p3, hp, rfl, h2⟩)
 ·exact wrt (aW w.dir) 7 (rB _) (by decide) rfl rfl (by simp) (.inr ⟨rfl, rfl, rfl⟩)
 ·have hdo : w.doStep (3, 0) = ({ w with x := { w.x with M := (w.x.M.fence 0).1 } }, (w.x.M.fence 0).2) := rfl;have hfk : (w.x.M.fence 0).1.Ok ∧ (w.x.M.fence 0).1.n = w.x.M.n := by
   unfold AM.fence;split
   ·exact ⟨ok.M, rfl⟩
   ·split
    ·exact ⟨ok.M.out, rfl⟩
    ·exact ⟨lT ok.M.stepped _, (dJ (M := w.x.M.stepped) (c := 0) _).1⟩
  rcases xc (M := w.x.M) with ⟨f1, f2, f3, f4⟩ | ⟨f1, f2⟩
  ·left;refine memo _ hfk.1 hfk.2 f2 f4 (fun j hj => ue hj) (fun j hj hf => (f3 j hj hf).fl) (by rw [hdo, f1]) rfl (fun q e => by simp at e) (by decide) (by decide) (fun _ => ⟨fun j hj => ?_, fun k hk => ?_⟩)
   ·have hjn : j < w.x.M.n := by
     obtain ⟨i, i1, i2, i3⟩ := aM.1 hj;have := ok.k.inn i i1 (by rw [h.mark]; exact i2);rw [h.mark, i3] at this;have hl := ok.l;omega
    rcases (h.lin j hj).2 with e | e | e
    ·exact f3 j hjn (surO j (.inr (.inl e))).fl
    ·rw [hw] at e; simp at e
    ·exact f3 j hjn e
   ·obtain ⟨q, q1, _, q3, _⟩ := h.d1 k hk;rw [q1, Int.toNat_natCast];by_cases hk7 : k = 7
    ·subst hk7;rcases h.rt with e | e
     ·rw [hw] at e; simp at e
     ·rw [q1, Int.toNat_natCast] at e; exact f3 q q3 e.2
    ·rcases h.lf k (by omega) with e | e
     ·rw [hw] at e; simp at e
     ·rw [q1, Int.toNat_natCast] at e; exact f3 q q3 e.2
  ·exact .inr (.inr (off4 _ w.x.A f2 hfk.1 hfk.2 (fun j hj => ue (surO j hj)) (by rw [hdo, f1])))
 ·exact absurd e hr
end
end Go.Proofs.YtmimfopnhmmlbaaGreatDoor
namespace Go.Proofs.YtmimfopnhmmlbaaGreatDoor
open Go.Ab
structure ga (t : Nat → Ent) : Prop where
 e : ∀ i, i < 49 → bE (t i) = true
 j : ∀ i j, i < 49 → j < 49 → i ≠ j → (t i).kind ≠ 0 → (t j).kind ≠ 0 → (t i).line ≠ (t j).line
theorem gR {e : Ent} : bE e = true ↔ (0 ≤ e.kind ∧ e.kind ≤ 4) ∧ (0 ≤ e.ver ∧ e.ver ≤ 16777215) ∧ (0 ≤ e.line ∧ e.line ≤ 1023) ∧ (e.kind = 0 → e.line = 0) := by
 unfold bE win;simp only [Bool.and_eq_true, decide_eq_true_eq, Bool.not_eq_true', Bool.and_eq_false_iff, decide_eq_false_iff_not];omega
theorem ga.upd {t : Nat → Ent} (h : ga t) {i : Nat} {e : Ent} (he : bE e = true) (hn : e.kind ≠ 0 → ∀ j, j < 49 → j ≠ i → (t j).kind ≠ 0 → (t j).line ≠ e.line) : ga (updE t i e) := by
 refine ⟨fun j hj => ?_, fun a b ha hb hne h1 h2 => ?_⟩
 ·unfold updE; split
  ·exact he
  ·exact h.e j hj
 ·unfold updE at *;by_cases e1 : a = i
  ·rw [if_pos e1] at h1 ⊢;have e2 : b ≠ i := by omega
   rw [if_neg e2] at h2 ⊢;exact fun e => hn h1 b hb e2 h2 e.symm
  ·rw [if_neg e1] at h1 ⊢;by_cases e2 : b = i
   ·rw [if_pos e2] at h2 ⊢;exact hn h2 a ha e1 h1
   ·rw [if_neg e2] at h2 ⊢;exact h.j a b ha hb hne h1 h2
theorem Cf {x : AS} (h : Inv x) {k : Nat} (hk : x.A.st k = 0) {j : Nat} (hj : j < 49) (hkj : (x.work j).kind ≠ 0) : (x.work j).line ≠ (k : Int) := fun e => by
 have := h.w1 k (aM.2 ⟨j, hj, hkj, e⟩);rw [hk] at this; cases this
theorem ga.change {x : AS} (ht : ga x.work) (h : Inv x) (on : x.M.On) (o : Cll) : ga (x.change o).work := by
 have r20 := iR o.id (n := 20) (by decide);have r8 := iR o.word (n := 8) (by decide);have hl1 := h.ok.A.l1;unfold AS.change;split
 ·obtain ⟨i, hi⟩ : ∃ i : Nat, kd o.id 20 = i := ⟨(kd o.id 20).toNat, by omega⟩;obtain ⟨w, hw⟩ : ∃ w : Nat, kd o.word 8 = w := ⟨(kd o.word 8).toNat, by omega⟩;rw [hi, hw];by_cases hk : (x.work i).kind = 0
  ·have : x.set i w o.v = (x, 30) := by
    unfold AS.set;rw [if_neg (by omega), Int.toNat_natCast, if_pos hk]
   rw [this]; exact ht
  ·rcases ug h on (show i < 49 by omega) hk (show w < 8 by omega) o.v with ⟨_, _, e⟩ | ⟨y, e, hS⟩
   ·rw [e]; exact ht
   ·rw [e];by_cases ho : x.own i = true
    ·simp only; rw [(hS.same ho).2]; exact ht
    ·obtain ⟨k, k1, k2, k3, k4, _⟩ := hS.more (by simpa using ho);have : y.work = updE x.work i ⟨(x.work i).kind, (x.work i).ver, k⟩ := by
      funext j;unfold updE;split
      ·rename_i e1;rw [e1];have := hS.kv;cases hy : y.work i;rw [hy] at this k4;simp only at this k4;rw [this.1, this.2, k4]
      ·rename_i e1; exact hS.others j e1
     simp only [this];have hb := gR.1 (ht.e i (by omega));refine ht.upd (gR.2 ⟨hb.1, hb.2.1, by simp only; omega, fun e => absurd e hk⟩) fun _ j hj _ hkj => Cf h k3 hj hkj
 ·split
  ·by_cases hk : dq (1 + kd o.word 2)
   ·cases hn : nxt x.work with
    | none => rw [rh hk hn]; exact ht
    | some n =>
     have hns := qy hn;rcases rA h on hk hn with ⟨_, e⟩ | ⟨y, q, e, hM⟩
     ·rw [e]; exact ht
     ·rw [e];simp only [hM.work];have hb := gR.1 (ht.e n hns.1);have hq := hM.q0;refine ht.upd (gR.2 ⟨?_, hb.2.1, by simp only; omega, fun e => ?_⟩) fun _ j hj _ hkj => Cf h hq.2.2 hj hkj
      ·rcases hk with e | e | e <;> simp only [e] <;> omega
      ·simp only at e;rcases hk with e1 | e1 | e1 <;> omega
   ·rw [Ik hk]; exact ht
  ·obtain ⟨i, hi⟩ : ∃ i : Nat, kd o.id 20 = i := ⟨(kd o.id 20).toNat, by omega⟩;rw [hi];by_cases hk : (x.work i).kind = 0
   ·rw [xP (by unfold gE; rw [if_neg (by omega), Int.toNat_natCast, if_pos hk]; decide)]; exact ht
   ·obtain ⟨y, e, hE⟩ := xu h (show i < 49 by omega) hk;rw [e];simp only [hE.work];have hb := gR.1 (ht.e i (by omega));have hev := vk hb.2.1.1 hb.2.1.2;exact ht.upd (gR.2 ⟨⟨Int.le_refl 0, by show (0 : Int) ≤ 4; decide⟩, hev, ⟨Int.le_refl 0, by show (0 : Int) ≤ 1023; decide⟩, fun _ => rfl⟩) fun e => absurd rfl e
structure Img (x : AS) : Prop where
 inv : Inv x
 f : x.A.f = 10
 is : x.is = false
 dl : ∀ k, k < 8 → ∃ q : Nat, x.dir k = q ∧ 10 ≤ q ∧ q < x.M.n ∧ x.A.st q = 1 ∧ ax x.work q = false ∧ ax x.base q = false
 dj : ∀ k l, k < 8 → l < 8 → k ≠ l → x.dir k ≠ x.dir l
 sur : ∀ j, Old x j → Sur x.M j
 lf : ∀ k, k < 7 → x.M.S (x.dir k).toNat = bi x.base k
 rt : x.M.S (x.dir 7).toNat = aW x.dir
 gb : ga x.base
 gw : ga x.work
theorem Img.kp {x : AS} (h : Img x) {j : Nat} (hj : Old x j) : Kp x j := by
 rcases hj with hj | hj | hj
 ·exact ⟨.inl (by rw [h.f]; exact hj)⟩
 ·have hs : x.sh j = true := by rw [mg h.inv.ok, hj, Bool.true_or]
  exact ⟨.inr ⟨h.inv.s1 j hs, .inl hs⟩⟩
 ·obtain ⟨k, hk, e⟩ := i5.1 hj;obtain ⟨q, q1, _, _, q4, q5, _⟩ := h.dl k hk;have : q = j := by omega
  subst this;exact ⟨.inr ⟨q4, .inr q5⟩⟩
theorem wR {x : AS} {k : Nat} (hk : k < 8) (h : Img x) : Old x (x.dir k).toNat := by
 obtain ⟨q, q1, _⟩ := h.dl k hk;exact .inr (.inr (i5.2 ⟨k, hk, by rw [q1]; simp⟩))
theorem Img.change {x : AS} (h : Img x) (on : x.M.On) (o : Cll) : Img (x.change o) ∧ ∀ j, Old x j → Sm x.M (x.change o).M j := by
 obtain ⟨hs, _⟩ := gU h.inv on o;have sm := fun j (hj : Old x j) => xm h.inv o (h.kp hj);have old : ∀ j, Old (x.change o) j ↔ Old x j := fun j => by unfold Old; rw [hs.base, hs.dir]
 refine ⟨⟨hs.inv, hs.fl.1.trans h.f, hs.is.trans h.is, fun k hk => ?_, fun k l hk hl hne => ?_, fun j hj => ?_, fun k hk => ?_, ?_, ?_, h.gw.change h.inv on o⟩, sm⟩
 ·obtain ⟨q, q1, q2, q3, q4, q5, q6⟩ := h.dl k hk;obtain ⟨g1, g2⟩ := hs.st q q4 q5;exact ⟨q, by rw [hs.dir]; exact q1, q2, by rw [hs.n]; exact q3, g1, g2, by rw [hs.base]; exact q6⟩
 ·rw [hs.dir]; exact h.dj k l hk hl hne
 ·exact (sm j ((old j).1 hj)).sur (h.sur j ((old j).1 hj))
 ·rw [hs.dir, hs.base, (sm _ (wR (by omega) h)).S]; exact h.lf k hk
 ·rw [hs.dir, (sm _ (wR (by omega) h)).S]; exact h.rt
 ·rw [hs.base]; exact h.gb
theorem w9 {t : Nat → Ent} {old : Nat → Bool} : ∀ {n i : Nat}, i < n → (t i).kind ≠ 0 → old (t i).line.toNat = false → (0, (t i).line) ∈ aY t old n
 | 0, i, h, _, _ => by omega
 | n + 1, i, h, hk, ho => by
  simp only [aY];by_cases e : i = n
  ·subst e;rw [if_pos ⟨hk, ho⟩];exact List.mem_append_right _ (List.mem_singleton.2 rfl)
  ·have := w9 (show i < n by omega) hk ho;split
   ·exact List.mem_append_left _ this
   ·exact this
theorem B4 {t u : Nat → Ent} : ∀ {n k : Nat}, k < n → oD t u k = true → (k : Int) ∈ cg t u n
 | 0, k, h, _ => by omega
 | n + 1, k, h, hb => by
  simp only [cg];by_cases e : k = n
  ·subst e;rw [if_pos hb];exact List.mem_append_right _ (List.mem_singleton.2 rfl)
  ·have := B4 (show k < n by omega) hb;split
   ·exact List.mem_append_left _ this
   ·exact this
theorem Er {t u : Nat → Ent} {k : Nat} (h : oD t u k = false) : bi t k = bi u k := by
 unfold oD at h;rw [Bool.not_eq_false', oi] at h;have e : ∀ j, j < 7 → t (7 * k + j) = u (7 * k + j) := fun j hj => h j (List.mem_range.2 hj);have h1 : dt t k 0 7 = dt u k 0 7 := by
  unfold dt;apply Bool.eq_iff_iff.2;simp only [List.all_eq_true, List.mem_range];constructor
  ·intro hh j hj; have := hh j hj; rw [e (0 + j) (by omega)] at this; exact this
  ·intro hh j hj; rw [e (0 + j) (by omega)]; exact hh j hj
 have h2 : lfL t k 7 = lfL u k 7 := by
  unfold lfL;apply List.map_congr_left;intro j _;split
  ·rename_i hj; rw [e j hj]
  ·rfl
 unfold bi;rw [h1, h2]
theorem Img.begin {w : AW} (h : Img w.x) (seq : Int) : Ck w.x (aY w.x.work (aE w.x.base (fun _ => false) 49) 49 ++ (cg w.x.work w.x.base 7).map fun k => ((1 : Nat), k)) (w.begun seq) := by
 obtain ⟨m1, m2, _, _⟩ := vV h.inv h.is;have hx : (w.begun seq).x = { w.x with mark := w.x.work, is := true } := by unfold AW.begun; simp only; rw [m1]
 have hst : (w.begun seq).st = aY w.x.work (aE w.x.base (fun _ => false) 49) 49 ++ (cg w.x.work w.x.base 7).map (fun k => (1, k)) ++ [(2, 0), (3, 0), (4, 0)] := rfl;have hdir : (w.begun seq).dir = w.x.dir := rfl;have ok := h.inv.ok;have hD : ∀ k, k < 8 → nF { w.x with mark := w.x.work, is := true } (w.x.dir k) := fun k hk => by
  obtain ⟨q, q1, q2, q3, q4, q5, q6⟩ := h.dl k hk;exact ⟨q, q1, q2, q3, q4, q5, q6, q5⟩
 refine ⟨by rw [hx]; exact m2, by rw [hx]; exact h.f, by rw [hx], by rw [hx], by rw [hx], by rw [hx], by rw [hx], rfl, fun k hk => by rw [hx]; exact hD k hk, fun k hk => by rw [hx, hdir]; exact hD k hk, fun k l hk hl hne => by rw [hdir]; exact h.dj k l hk hl hne, fun j hj => ?_, fun j hj => ?_, fun k hk => ?_, .inl ?_, .inl ?_, by rw [hst]; exact List.suffix_rfl, fun p hp => ?_⟩
 ·rw [hx]; exact ⟨h.sur j hj, rfl⟩
 ·rw [hx];refine ⟨rfl, ?_⟩;obtain ⟨i, i1, i2, i3⟩ := aM.1 hj;by_cases hb : ax w.x.base j = true
  ·exact .inl hb
  ·right; left;rw [hst];have ho : aE w.x.base (fun _ => false) 49 (w.x.work i).line.toNat = false := by
    rw [i3, Int.toNat_natCast, lD (ok.b.inL ok.A) 49 (Nat.le_refl _), Bool.false_or];cases e : (List.range 49).any fun i => decide ((w.x.base i).kind ≠ 0) && decide ((w.x.base i).line = j)
    ·rfl
    ·exact absurd e hb
   have := w9 i1 i2 ho;rw [i3] at this;exact List.mem_append_left _ (List.mem_append_left _ this)
 ·rw [hst, hx, hdir];cases hb : oD w.x.work w.x.base k with
  | true =>
   left;have := B4 hk hb;exact List.mem_append_left _ (List.mem_append_right _ (List.mem_map.2 ⟨_, this, rfl⟩))
  | false =>
   right;have hs := h.sur _ (wR (k := k) (by omega) h);refine ⟨?_, hs.fl⟩;show w.x.M.now _ = _;rw [hs.now, h.lf k hk, Er hb]
 ·rw [hst]; exact List.mem_append_right _ (by simp)
 ·rw [hst]; exact List.mem_append_right _ (by simp)
 ·rcases List.mem_append.1 hp with hp | hp
  ·obtain ⟨h1, i, h2, h3, h4⟩ := me hp;have := ok.w.inn i h2 h3;have hl := ok.l;exact .inl ⟨h1, (w.x.work i).line.toNat, by rw [h4]; omega, by omega⟩
  ·obtain ⟨k, h1, rfl⟩ := List.mem_map.1 hp;have := sR w.x.work w.x.base 7 k h1;exact .inr ⟨rfl, k.toNat, by simp only; omega, by omega⟩
end Go.Proofs.YtmimfopnhmmlbaaGreatDoor
namespace Go.Proofs.YtmimfopnhmmlbaaGreatDoor
open Go.Ab
def Em (l : List Int) : List (Nat × Int) := (7, 0) :: (List.range 8).map fun j => (j, l.getD j 0)
theorem LY (l : List Int) {j : Nat} (hj : j < 8) : (Em l)[j + 1]? = some (j, l.getD j 0) := by
 simp [Em, hj]
def Dn.wv (d : Dn) : Nat × Int := (d.w, d.v)
def lu (M : AM) (s : Nat) (s0 l : List Int) (m : Nat) : Prop := (M.L s).map Dn.wv = (Em l).take m ∧ M.S s = s0
theorem vh {M : AM} {s : Nat} {s0 l : List Int} {m : Nat} (h : lu M s s0 l m) {q : Nat} {v : Int} (hs : s < M.n) (hq : q < 8) (hm : (Em l)[m]? = some (q, v)) :
 ((M.store s q v).2 = 0 ∧ (M.store s q v).1.off = M.off ∧ lu (M.store s q v).1 s s0 l (m + 1)) ∨ ((M.store s q v).2 = 4 ∧ (M.store s q v).1.off = true ∧ lu (M.store s q v).1 s s0 l m) := by
 unfold AM.store;rw [if_neg (by omega)];split
 ·exact .inr ⟨rfl, rfl, h⟩
 ·refine .inl ⟨rfl, rfl, ?_, h.2⟩;simp only [AM.push, AM.stepped, Int.toNat_natCast, aj, List.map_append, List.map_cons, List.map_nil];rw [h.1];have hlt := (List.getElem?_eq_some_iff.1 hm).1;rw [List.take_succ_eq_append_getElem hlt, (List.getElem?_eq_some_iff.1 hm).2];rfl
theorem Ap {s : Nat} {s0 l : List Int} : ∀ (n j : Nat) {M : AM}, s < M.n → j + n = 8 → lu M s s0 l (j + 1) →
 ((M.layFrom s l j n).2 = 0 ∧ (M.layFrom s l j n).1.off = M.off ∧ lu (M.layFrom s l j n).1 s s0 l 9) ∨ ((M.layFrom s l j n).2 = 4 ∧ (M.layFrom s l j n).1.off = true ∧ ∃ m, 1 ≤ m ∧ m ≤ 9 ∧ lu (M.layFrom s l j n).1 s s0 l m)
 | 0, j, M, hs, hj, h => by
  have : j = 8 := by omega
  subst this;exact .inl ⟨rfl, rfl, h⟩
 | n + 1, j, M, hs, hj, h => by
  have hn : (M.store s j (l.getD j 0)).1.n = M.n := AM.store_n;unfold AM.layFrom;rcases vh h hs (show j < 8 by omega) (LY l (by omega)) with ⟨h1, h2, h3⟩ | ⟨h1, h2, h3⟩
  ·rw [if_neg (by rw [h1]; simp)];have := Ap n (j + 1) (M := (M.store s j (l.getD j 0)).1) (by rw [hn]; exact hs) (by omega) h3;rw [h2] at this;exact this
  ·rw [if_pos (by rw [h1]; decide)];exact .inr ⟨h1, h2, j + 1, by omega, by omega, h3⟩
theorem Eg {M : AM} {s : Nat} {s0 l : List Int} {m : Nat} (h : lu M s s0 l m) (i : Int) : lu (M.flush 0 i).1 s s0 l m := by
 unfold AM.flush;split
 ·exact h
 ·split
  ·exact h
  ·refine ⟨?_, h.2⟩;simp only [AM.flushed, AM.stepped];by_cases e : s = i.toNat
   ·rw [← e, aj, List.map_map];exact h.1
   ·rw [ao e]; exact h.1
theorem Kw {M : AM} (ok : M.Ok) {s : Nat} (hs : s = 0 ∨ s = 1) (hsur : Sur M s) {b : Sup} (hb : b.ok = true) :
 (∀ j, j ≠ s → Sur M j → Sm M (M.wrs s b).1 j) ∧ (((M.wrs s b).2 = 0 ∧ (M.wrs s b).1.off = M.off ∧ Sur (M.wrs s b).1 s ∧ (M.wrs s b).1.now s = aR b) ∨
  ((M.wrs s b).2 = 4 ∧ (M.wrs s b).1.off = true ∧ ∃ m, m ≤ 9 ∧ lu (M.wrs s b).1 s (M.S s) (aR b) m)) := by
 have hn := ok.n0;have hsn : s < M.n := by omega
 have h0 : lu M s (M.S s) (aR b) 0 := ⟨by rw [show M.L s = [] from hsur]; rfl, rfl⟩
 have hl8 := pR b;have hsc : ¬ (b.ok = false ∨ ((s : Int) ≠ 0 ∧ (s : Int) ≠ 1)) := by rw [hb]; simp; omega
 have s1 : ∀ j, j ≠ s → Sm M (M.store s 7 0).1 j := fun j hj => pJ (by rw [Int.toNat_natCast]; exact hj);have n1 : (M.store s 7 0).1.n = M.n := AM.store_n;have hst := vh h0 hsn (show 7 < 8 by decide) (v := 0) rfl;unfold AM.wrs;rw [if_neg hsc];have hst' : ((M.store s 7 0).2 = 0 ∧ (M.store s 7 0).1.off = M.off ∧ lu (M.store s 7 0).1 s (M.S s) (aR b) 1) ∨ ((M.store s 7 0).2 = 4 ∧ (M.store s 7 0).1.off = true ∧ lu (M.store s 7 0).1 s (M.S s) (aR b) 0) := hst;rcases hst' with ⟨g1, g2, g3⟩ | ⟨g1, g2, g3⟩
 ·rw [if_neg (by rw [g1]; simp)];have ok1 : (M.store s 7 0).1.Ok := ok.store;generalize (M.store s 7 0).1 = M1 at *;have hsn1 : s < M1.n := by rw [n1]; exact hsn
  have s2 : ∀ j, j ≠ s → Sm M1 (M1.layFrom s (aR b) 0 8).1 j := fun j hj => mX (by rw [Int.toNat_natCast]; exact hj) 8 0 _;have n2 : (M1.layFrom s (aR b) 0 8).1.n = M1.n := AM.layFrom_n;have ok2 : (M1.layFrom s (aR b) 0 8).1.Ok := ok1.layFrom;have hlw := BO ok1 hl8 hsn1;simp only;rcases Ap 8 0 hsn1 rfl g3 with ⟨f1, f2, f3⟩ | ⟨f1, f2, m, _, m9, f3⟩
  ·rw [if_neg (by rw [f1]; simp)];have hnow : (M1.layFrom s (aR b) 0 8).1.now s = aR b := by
    rcases hlw with ⟨_, _, e⟩ | ⟨e, _⟩
    ·exact e
    ·rw [f1] at e; cases e
   generalize (M1.layFrom s (aR b) 0 8).1 = M2 at *;have hsn2 : s < M2.n := by rw [n2]; exact hsn1
   have s3 : ∀ j, j ≠ s → Sm M2 (M2.flush 0 s).1 j := fun j hj => Ah (by rw [Int.toNat_natCast]; exact hj);have hf := Eg f3 (s : Int);rcases rI hsn2 with ⟨e1, e2, e3, e4⟩ | ⟨e1, e2⟩
   ·rw [if_neg (by rw [e1]; simp)];have n3 : (M2.flush 0 s).1.n = M2.n := dS.2;generalize (M2.flush 0 s).1 = M3 at *;refine ⟨fun j hj hsj => ?_, ?_⟩
    ·have a := (s1 j hj).trans ((s2 j hj).trans (s3 j hj));exact a.trans (ue (a.sur hsj))
    ·rcases xc (M := M3) with ⟨d1, d2, d3, d4⟩ | ⟨d1, d2⟩
     ·left;exact ⟨d1, d2.trans (e2.trans (f2.trans g2)), d3 s (by rw [n3]; exact hsn2) e3, by rw [d4, e4]; exact hnow⟩
     ·right;refine ⟨d1, d2, 9, Nat.le_refl _, ?_⟩;unfold AM.fence at d1 ⊢;rw [if_neg (by omega)] at d1 ⊢;split at d1
      ·rename_i hdd; rw [if_pos hdd]; exact hf
      ·cases d1
   ·rw [if_pos (by rw [e1]; decide)];exact ⟨fun j hj _ => (s1 j hj).trans ((s2 j hj).trans (s3 j hj)), .inr ⟨e1, e2, 9, Nat.le_refl _, hf⟩⟩
  ·rw [if_pos (by rw [f1]; decide)];exact ⟨fun j hj _ => (s1 j hj).trans (s2 j hj), .inr ⟨f1, f2, m, m9, f3⟩⟩
 ·rw [if_pos (by rw [g1]; decide)];exact ⟨fun j hj _ => s1 j hj, .inr ⟨g1, g2, 0, by omega, g3⟩⟩
end Go.Proofs.YtmimfopnhmmlbaaGreatDoor
namespace Go.Proofs.YtmimfopnhmmlbaaGreatDoor
open Go.Ab
structure Lay (n : Nat) (M : AM) (t : Nat → Ent) (d : Nat → Int) : Prop where
 dl : ∀ k, k < 8 → ∃ q : Nat, d k = q ∧ 10 ≤ q ∧ q < n ∧ Sur M q ∧ ax t q = false
 dj : ∀ k l, k < 8 → l < 8 → k ≠ l → d k ≠ d l
 lf : ∀ k, k < 7 → M.S (d k).toNat = bi t k
 rt : M.S (d 7).toNat = aW d
 ln : ∀ i, i < 49 → (t i).kind ≠ 0 → ∃ q : Nat, (t i).line = q ∧ 10 ≤ q ∧ q < n ∧ Sur M q
 g : ga t
theorem Lay.sm {n : Nat} {M M' : AM} {t : Nat → Ent} {d : Nat → Int} (h : Lay n M t d) (hs : ∀ j, 10 ≤ j → Sur M j → Sm M M' j) : Lay n M' t d := by
 refine ⟨fun k hk => ?_, h.dj, fun k hk => ?_, ?_, fun i hi hk => ?_, h.g⟩
 ·obtain ⟨q, q1, q2, q3, q4, q5⟩ := h.dl k hk;exact ⟨q, q1, q2, q3, (hs q q2 q4).sur q4, q5⟩
 ·obtain ⟨q, q1, q2, q3, q4, q5⟩ := h.dl k (by omega);have := h.lf k hk;rw [q1, Int.toNat_natCast] at this ⊢;rw [(hs q q2 q4).S]; exact this
 ·obtain ⟨q, q1, q2, q3, q4, q5⟩ := h.dl 7 (by omega);have := h.rt;rw [q1, Int.toNat_natCast] at this ⊢;rw [(hs q q2 q4).S]; exact this
 ·obtain ⟨q, q1, q2, q3, q4⟩ := h.ln i hi hk;exact ⟨q, q1, q2, q3, (hs q q2 q4).sur q4⟩
theorem Img.lay {x : AS} (h : Img x) : Lay x.M.n x.M x.base x.dir := by
 refine ⟨fun k hk => ?_, h.dj, h.lf, h.rt, fun i hi hk => ?_, h.gb⟩
 ·obtain ⟨q, q1, q2, q3, q4, q5, q6⟩ := h.dl k hk;exact ⟨q, q1, q2, q3, h.sur q (.inr (.inr (i5.2 ⟨k, hk, q1⟩))), q6⟩
 ·have := h.inv.ok.b.inn i hi hk;have hf := h.f;have hl := h.inv.ok.l;refine ⟨(x.base i).line.toNat, by omega, by omega, by omega, h.sur _ (.inr (.inl (aM.2 ⟨i, hi, hk, by omega⟩)))⟩
section
variable {x0 : AS} {G : List (Nat × Int)} {w : AW}
theorem Ck.lay (h : Ck x0 G w) (hw : w.st = [(4, 0)]) (hg : ga x0.work) : Lay w.x.M.n w.x.M x0.work w.dir := by
 obtain ⟨f1, f2⟩ : (∀ j : Nat, ax x0.work j = true → Sur w.x.M j) ∧ ∀ k, k < 8 → Sur w.x.M (w.dir k).toNat := by
  rcases h.fe with e | e
  ·rw [hw] at e; simp at e
  ·exact e
 refine ⟨fun k hk => ?_, h.dj, fun k hk => ?_, ?_, fun i hi hk => ?_, hg⟩
 ·obtain ⟨q, q1, q2, q3, q4, q5, q6, q7⟩ := h.d1 k hk;have := f2 k hk;rw [q1, Int.toNat_natCast] at this;exact ⟨q, q1, q2, q3, this, by rw [← h.mark]; exact q7⟩
 ·rcases h.lf k hk with e | e
  ·rw [hw] at e; simp at e
  ·rw [← (f2 k (by omega)).now]; exact e.1
 ·rcases h.rt with e | e
  ·rw [hw] at e; simp at e
  ·rw [← (f2 7 (by omega)).now]; exact e.1
 ·have := h.inv.ok.k.inn i hi (by rw [h.mark]; exact hk);rw [h.mark] at this;have hf := h.f;have hl := h.inv.ok.l;refine ⟨(x0.work i).line.toNat, by omega, by omega, by omega, f1 _ (aM.2 ⟨i, hi, hk, by omega⟩)⟩
structure Com (x0 : AS) (w w' : AW) (s : Nat) : Prop where
 img : Img w'.x
 base : w'.x.base = x0.work
 work : w'.x.work = w.x.work
 dir : w'.x.dir = w.dir
 b : w'.b = w.nextB
 slot : w'.slot = s
 st : w'.st = []
 off : w'.x.M.off = w.x.M.off
 n : w'.x.M.n = x0.M.n
 sup : w'.x.M.S s = aR w.nextB
 low : ∀ j, j < 10 → j ≠ s → w'.x.M.S j = x0.M.S j
 old : ∀ j : Nat, ax x0.work j = true → w'.x.M.S j = x0.M.now j
theorem Ck.last (h : Ck x0 G w) (hw : w.st = [(4, 0)]) {s : Nat} (hs : 1 - w.slot = (s : Int)) (hs2 : s = 0 ∨ s = 1) (hb : w.nextB.ok = true) (hg0 : ga x0.work) (hg : ga w.x.work) :
 (∃ w', w.step = (w', true, 0) ∧ Com x0 w w' s) ∨
 (∃ w', w.step = (w', false, 4) ∧ w'.x.M.off = true ∧ w'.x.M.Ok ∧ w'.x.M.n = x0.M.n ∧ (∀ j, j ≠ s → Sur w.x.M j → Sm w.x.M w'.x.M j) ∧ ∃ m, m ≤ 9 ∧ lu w'.x.M s (w.x.M.S s) (aR w.nextB) m) := by
 have ok := h.inv.ok;have hsO : Old x0 s := .inl (by omega);obtain ⟨g1, g2⟩ := Kw ok.M hs2 (h.safe s hsO).1 hb;have hok : (w.x.M.wrs s w.nextB).1.Ok := by
  have := ok.M;unfold AM.wrs;split
  ·exact this
  ·split
   ·exact this.store
   ·simp only;split
    ·exact this.store.layFrom
    ·have hf : ∀ N : AM, N.Ok → (N.flush 0 s).1.Ok := fun N hN => by
      unfold AM.flush;split
      ·exact hN
      ·split
       ·exact hN.out
       ·exact hN.stepped.flushed _ _
     split
     ·exact hf _ this.store.layFrom
     ·have hN : (((w.x.M.store s 7 0).1.layFrom s (aR w.nextB) 0 8).1.flush 0 s).1.Ok := hf _ this.store.layFrom;unfold AM.fence;split
      ·exact hN
      ·split
       ·exact hN.out
       ·exact lT hN.stepped _
 have hn : (w.x.M.wrs s w.nextB).1.n = w.x.M.n := JS;have hdo : w.doStep (4, 0) = w.commit := rfl;rcases g2 with ⟨e1, e2, e3, e4⟩ | ⟨e1, e2, m, m9, e5⟩
 ·left;have hcm : w.commit = ({ w with x := (AS.commit { w.x with M := (w.x.M.wrs s w.nextB).1 } w.dir).1, b := w.nextB, slot := (s : Int) }, 0) := by
   unfold AW.commit;rw [hs, if_neg (by simp [e1])]
  have hlay := h.lay hw hg0;generalize (w.x.M.wrs s w.nextB).1 = M at *;refine ⟨{ w with x := (AS.commit { w.x with M := M } w.dir).1, b := w.nextB, slot := (s : Int), st := [] }, ?_, ?_⟩
  ·unfold AW.step;rw [hw];simp only [hdo, hcm, if_true, decide_true]
  ·have hx : (AS.commit { w.x with M := M } w.dir).1 = AS.freed { w.x with M := M, base := w.x.mark, dir := w.dir, is := false } := by
    unfold AS.commit; rw [if_pos h.is]
   have hxok : (AS.commit { w.x with M := M } w.dir).1.Ok := (ok.with hok hn ok.A ok.s2 rfl rfl).commit w.dir;rw [hx] at hxok ⊢;have hst1 : ∀ j : Nat, w.x.A.st j = 1 → (ax x0.work j = true ∨ ax w.x.work j = true ∨ mn w.dir j = true) → (AS.freed { w.x with M := M, base := w.x.mark, dir := w.dir, is := false }).A.st j = 1 := fun j h1 h2 => by
    unfold AS.freed;simp only [h.mark];rw [if_neg, h1];rcases h2 with e | e | e <;> simp [e]
   have hshx : ∀ j : Nat, ax x0.work j = true → w.x.A.st j = 1 := fun j e => h.inv.s1 j (by rw [mg ok, h.mark, e, h.is]; simp);have hinv : Inv (AS.freed { w.x with M := M, base := w.x.mark, dir := w.dir, is := false }) := by
    refine ⟨hxok, h.inv.v, fun j hj => hst1 j (h.inv.w1 j hj) (.inr (.inl hj)), fun j hj => ?_, fun i j hi hj hne h1 h2 heq => absurd heq (hg.j i j hi hj hne h1 h2)⟩;rw [mg hxok] at hj;have hj' : ax x0.work j = true := by
     have : (ax w.x.mark j || (false && ax w.x.mark j)) = true := hj;rw [h.mark] at this;simpa using this
    exact hst1 j (hshx j hj') (.inl hj')
   have smM : ∀ j, 10 ≤ j → Sur w.x.M j → Sm w.x.M M j := fun j hj => g1 j (by omega);have hlay2 := hlay.sm smM;refine ⟨⟨hinv, h.f, rfl, fun k hk => ?_, h.dj, fun j hj => ?_, fun k hk => ?_, hlay2.rt, ?_, hg⟩, h.mark, rfl, rfl, rfl, rfl, rfl, e2, hn.trans h.n, ?_, fun j hj hne => ?_, fun j hj => ?_⟩
   ·obtain ⟨q, q1, q2, q3, q4, q5, q6, q7⟩ := h.d1 k hk;exact ⟨q, q1, q2, by show q < M.n; rw [hn]; exact q3, hst1 q q4 (.inr (.inr (i5.2 ⟨k, hk, q1⟩))), q5, q7⟩
   ·show Sur M j;rcases hj with hj | hj | hj
    ·by_cases e : j = s
     ·rw [e]; exact e3
     ·have hO := (h.safe j (.inl hj)).1;exact (g1 j e hO).sur hO
    ·have hj' : ax x0.work j = true := by rw [← h.mark]; exact hj
     obtain ⟨i, i1, i2, i3⟩ := aM.1 hj';obtain ⟨q, q1, _, _, q4⟩ := hlay2.ln i i1 i2;have : q = j := by omega
     rw [← this]; exact q4
    ·obtain ⟨k, hk, e⟩ := i5.1 hj;obtain ⟨q, q1, _, _, q4, _⟩ := hlay2.dl k hk;have e' : w.dir k = (j : Int) := e;have : q = j := by omega
     rw [← this]; exact q4
   ·show M.S (w.dir k).toNat = bi w.x.mark k;rw [h.mark]; exact hlay2.lf k hk
   ·show ga w.x.mark;rw [h.mark]; exact hg0
   ·show M.S s = _;rw [← e3.now]; exact e4
   ·show M.S j = _;have hO := h.safe j (.inl hj);rw [(g1 j hne hO.1).S]; exact hO.2
   ·show M.S j = _;obtain ⟨i, i1, i2, i3⟩ := aM.1 hj;obtain ⟨q, q1, q2, _, q4⟩ := hlay.ln i i1 i2;have : q = j := by omega
    subst this;rw [(smM q q2 q4).S, ← q4.now]; exact (h.lin q hj).1
 ·right;have hcm : w.commit = ({ w with x := { w.x with M := (w.x.M.wrs s w.nextB).1 } }, 4) := by
   unfold AW.commit;rw [hs, if_pos (by rw [e1]; decide), e1]
  refine ⟨{ w with x := { w.x with M := (w.x.M.wrs s w.nextB).1 } }, ?_, e2, hok, hn.trans h.n, g1, m, m9, e5⟩;unfold AW.step;rw [hw];simp only [hdo, hcm];rw [if_neg (by decide), if_neg (by decide), ← hw]
end
end Go.Proofs.YtmimfopnhmmlbaaGreatDoor
namespace Go.Proofs.YtmimfopnhmmlbaaGreatDoor
open Go.Ab
theorem LA (c : Int) : ∃ x : Nat, IntKind.u64.wrap c = x ∧ x < 18446744073709551616 := by
 have h0 : 0 ≤ IntKind.u64.wrap c ∧ IntKind.u64.wrap c < 18446744073709551616 := by
  unfold IntKind.wrap;simp only [IntKind.signed, IntKind.bits, Bool.false_and, Bool.false_eq_true, if_false];constructor
  ·exact Int.emod_nonneg _ (by decide)
  ·exact Int.emod_lt_of_pos _ (by decide)
 exact ⟨(IntKind.u64.wrap c).toNat, by omega, by omega⟩
theorem tt (l : List Int) : 4294967296 ≤ iY l ∧ iY l < 18446744073709551616 := by
 unfold iY;obtain ⟨x, hx, hlt⟩ := LA (cG (gQ (cG 0) ((List.range 56).map (aX l 8 0))));rw [hx];have := nc (n := 4294967296) (m := x) (by decide) hlt;rw [show ((4294967296 : Nat) : Int) = 4294967296 from rfl] at this
 rw [this];have h1 : 4294967296 ≤ 4294967296 ||| x := Nat.left_le_or;have h2 : 4294967296 ||| x < 2 ^ 64 := Nat.or_lt_two_pow (by decide) hlt;omega
theorem Fk {l : List Int} {v : Int} : iY (l.set 7 v) = iY l := by
 have : (List.range 56).map (aX (l.set 7 v) 8 0) = (List.range 56).map (aX l 8 0) := by
  apply List.map_congr_left;intro j hj;rw [List.mem_range] at hj;unfold aX;have : (l.set 7 v).getD (j / 8) 0 = l.getD (j / 8) 0 := by
   rw [List.getD_eq_getElem?_getD, List.getD_eq_getElem?_getD, List.getElem?_set_ne (by omega)]
  rw [this]
 unfold iY;rw [this]
theorem xj (l : List Int) : bh (bh l) = bh l := by
 have : iY (bh l) = iY l := by unfold bh; exact Fk
 show (bh l).set 7 (iY (bh l)) = bh l;rw [this];unfold bh;rw [List.set_set]
theorem ka {l : List Int} {j : Nat} (hj : j ≠ 7) : (bh l).getD j 0 = l.getD j 0 := by
 unfold bh;rw [List.getD_eq_getElem?_getD, List.getD_eq_getElem?_getD, List.getElem?_set_ne (Ne.symm hj)]
theorem tG {l : List Int} (hl : l.length = 8) : (bh l).getD 7 0 = iY l := by
 unfold bh;rw [List.getD_eq_getElem?_getD, List.getElem?_set_self (by omega)]; rfl
theorem EJ {d : Int} (h0 : 0 ≤ d) (h1 : d < 1024) : eQ .u64 (ior .u64 4294967296 (IntKind.u64.wrap d)) 4294967296 = d := by
 obtain ⟨n, rfl⟩ : ∃ n : Nat, d = n := ⟨d.toNat, by omega⟩;have hn : n < 1024 := by omega
 rw [ei (by omega) (by omega)];have e1 := nc (n := 4294967296) (m := n) (by decide) (by omega);rw [show ((4294967296 : Nat) : Int) = 4294967296 from rfl] at e1
 have hlt : 4294967296 ||| n < 2 ^ 64 := Nat.or_lt_two_pow (by decide) (by omega);have e2 := qf (n := 4294967296 ||| n) (m := 4294967296) hlt (by decide);rw [show ((4294967296 : Nat) : Int) = 4294967296 from rfl] at e2
 rw [e1, e2];congr 1;apply Nat.eq_of_testBit_eq;intro i;rw [Nat.testBit_xor, Nat.testBit_or];have h32 : (4294967296 : Nat) = 2 ^ 32 := rfl;rw [h32, Nat.testBit_two_pow];by_cases hi : 32 = i
 ·subst hi;have : n.testBit 32 = false := Nat.testBit_lt_two_pow (by omega);simp [this]
 ·simp [hi]
theorem N2 {d : Nat → Int} {j : Nat} (hj : j < 7) : (rlL d 7).getD j 0 = ior .u64 4294967296 (IntKind.u64.wrap (d j)) := by
 unfold rlL;rw [List.getD_eq_getElem?_getD, List.getElem?_map, List.getElem?_range (by omega)];simp [hj]
theorem C4 {d : Nat → Int} (h : ∀ j, j < 7 → 0 ≤ d j ∧ d j < 1024) : kE (aW d) = true ∧ ∀ j, j < 7 → av (aW d) j = d j := by
 have hok : cU d 0 7 = true := by
  unfold cU;simp only [List.all_eq_true, List.mem_range, Bool.and_eq_true, decide_eq_true_eq];intro j hj;rw [Nat.zero_add]; exact h j hj
 have hr : aW d = bh (rlL d 7) := by unfold aW; rw [if_pos hok]
 have hv : ∀ j, j < 7 → rdv (aW d) j = d j := fun j hj => by
  unfold rdv;rw [hr, ka (by omega), N2 hj];exact EJ (h j hj).1 (h j hj).2
 have his : kE (aW d) = true := by
  unfold kE;rw [hr, xj, decide_eq_true rfl, Bool.true_and, ← hr];unfold tS;simp only [List.all_eq_true, List.mem_range, decide_eq_true_eq];intro j hj;rw [Nat.zero_add, hv j hj]; exact (h j hj).2
 refine ⟨his, fun j hj => ?_⟩;unfold av rdN;rw [if_pos his, hv j hj];have := h j hj;exact ag (by omega) (by omega)
theorem Ht {e : Ent} (h : bE e = true) : ∃ w : Nat, jO e = w ∧ w < 2 ^ 44 ∧ gO w = e := by
 obtain ⟨h1, h2, h3, h4⟩ := gR.1 h;obtain ⟨k, v, l⟩ := e;simp only at h1 h2 h3 h4;obtain ⟨k, rfl⟩ : ∃ n : Nat, k = n := ⟨k.toNat, by omega⟩;obtain ⟨v, rfl⟩ : ∃ n : Nat, v = n := ⟨v.toNat, by omega⟩;obtain ⟨l, rfl⟩ : ∃ n : Nat, l = n := ⟨l.toNat, by omega⟩;have s1 : lM .u64 (v : Int) 4 = ((v * 2 ^ 4 : Nat) : Int) := by
  unfold lM;rw [show (2 : Int) ^ (min (4 : Int).toNat IntKind.u64.bits) = 16 from rfl, ei (by omega) (by omega)]
  omega
 have s2 : lM .u64 (l : Int) 28 = ((l * 2 ^ 28 : Nat) : Int) := by
  unfold lM;rw [show (2 : Int) ^ (min (28 : Int).toNat IntKind.u64.bits) = 268435456 from rfl, ei (by omega) (by omega)]
  omega
 have o1 := BY (n := k) (m := v) 4 (by omega) (by omega) (by omega);have o2 := BY (n := k + v * 2 ^ 4) (m := l) 28 (by omega) (by omega) (by omega);refine ⟨k + v * 2 ^ 4 + l * 2 ^ 28, ?_, by omega, ?_⟩
 ·unfold jO;simp only;rw [ei (by omega) (by omega), ei (by omega) (by omega), ei (by omega) (by omega), s1, s2, o1, o2]
 ·unfold gO;rw [show (k + v * 2 ^ 4 + l * 2 ^ 28) % 16 = k by omega, show (k + v * 2 ^ 4 + l * 2 ^ 28) / 16 % 16777216 = v by omega, show (k + v * 2 ^ 4 + l * 2 ^ 28) / 268435456 % 65536 = l by omega]
theorem Np {t : Nat → Ent} {k j : Nat} (hj : j < 7) : (lfL t k 7).getD j 0 = jO (t (7 * k + j)) := by
 unfold lfL;rw [List.getD_eq_getElem?_getD, List.getElem?_map, List.getElem?_range (by omega)];simp [hj]
theorem DW {t : Nat → Ent} {k : Nat} (h : ∀ j, j < 7 → bE (t (7 * k + j)) = true) : jq (bi t k) = true ∧ (∀ j, j < 7 → jD (bi t k) j = t (7 * k + j)) ∧ ∀ x ∈ bi t k, 0 ≤ x ∧ x < 18446744073709551616 := by
 have hok : dt t k 0 7 = true := by
  unfold dt;simp only [List.all_eq_true, List.mem_range];intro j hj;rw [Nat.zero_add]; exact h j hj
 have hr : bi t k = bh (lfL t k 7) := by unfold bi; rw [if_pos hok]
 have hl8 := sM t k 7;have hg : ∀ j, j < 7 → ∃ w : Nat, (bi t k).getD j 0 = w ∧ w < 2 ^ 44 ∧ gO w = t (7 * k + j) ∧ qt w = true := fun j hj => by
  obtain ⟨w, w1, w2, w3⟩ := Ht (h j hj);refine ⟨w, by rw [hr, ka (by omega), Np hj]; exact w1, w2, w3, ?_⟩;unfold qt;rw [w3, h j hj, w1];simp
 have his : jq (bi t k) = true := by
  unfold jq;rw [hr, xj, decide_eq_true rfl, Bool.true_and, ← hr];unfold tQ rdl;simp only [List.all_eq_true, List.mem_range];intro j hj;rw [Nat.zero_add];obtain ⟨w, w1, _, _, w4⟩ := hg j hj;rw [w1, Int.toNat_natCast]; exact w4
 refine ⟨his, fun j hj => ?_, fun x hx => ?_⟩
 ·obtain ⟨w, w1, _, w3, _⟩ := hg j hj;unfold jD rn;rw [if_pos his, w1, Int.toNat_natCast]; exact w3
 ·obtain ⟨j, hj, rfl⟩ := List.mem_iff_getElem.1 hx;have hj8 : j < 8 := by rw [n5] at hj; exact hj
  have e : (bi t k)[j] = (bi t k).getD j 0 := by rw [List.getD_eq_getElem?_getD, List.getElem?_eq_getElem hj]; rfl
  rw [e];by_cases h7 : j = 7
  ·subst h7;rw [hr, tG hl8];have := tt (lfL t k 7);omega
  ·obtain ⟨w, w1, w2, _⟩ := hg j (by omega);rw [w1]; omega
theorem Fj {b : Sup} (h : b.ok = true) : kz (aR b) = true ∧ gS (aR b) = b := by
 have h' := h;unfold Sup.ok win at h';simp only [Bool.and_eq_true, decide_eq_true_eq] at h';have hr : aR b = bh (lO b) := by unfold aR; rw [if_pos h]
 have e : gS (aR b) = b := by
  unfold gS;rw [hr, ka (by decide), ka (by decide), ka (by decide), ka (by decide)];obtain ⟨g, r, q, c⟩ := b;simp only at h';have e1 : (lO ⟨g, r, q, c⟩).getD 1 0 = IntKind.u64.wrap g := rfl;have e2 : (lO ⟨g, r, q, c⟩).getD 2 0 = IntKind.u64.wrap r := rfl;have e3 : (lO ⟨g, r, q, c⟩).getD 3 0 = IntKind.u64.wrap q := rfl;have e4 : (lO ⟨g, r, q, c⟩).getD 4 0 = IntKind.u64.wrap c := rfl;rw [e1, e2, e3, e4, ei (by omega) (by omega), ei (by omega) (by omega), ei (by omega) (by omega), ei (by omega) (by omega), ag (by omega) (by omega), ag (by omega) (by omega), ag (by omega) (by omega), ag (by omega) (by omega)]
 refine ⟨?_, e⟩;unfold kz;rw [e, h];simp
theorem Mn {l : List Int} (h : l.getD 7 0 = 0) : kz l = false := by
 cases hs : kz l with
 | false => rfl
 | true =>
  unfold kz at hs;rw [Bool.and_eq_true, decide_eq_true_eq] at hs;obtain ⟨h1, h2⟩ := hs;have hr : aR (gS l) = bh (lO (gS l)) := by unfold aR; rw [if_pos h1]
  rw [hr] at h2;rw [← h2, tG rfl] at h;have := tt (lO (gS l));omega
theorem FL {M : AM} {l : List Int} {d : Nat → Int} (hd : ∀ k, k < 7 → av l k = d k) (h1 : ∀ k, k < 7 → ∃ q : Nat, d k = q ∧ 10 ≤ q ∧ q < M.n) (hj : ∀ k l, k < 8 → l < 8 → k ≠ l → d k ≠ d l) (hl : ∀ k, k < 7 → jq (M.now (d k).toNat) = true) :
 ∀ (n k : Nat) (ks : List Int), k + n = 7 → (∀ x ∈ ks, x = d 7 ∨ ∃ i, i < k ∧ x = d i) → pK M 10 l ks k n = true ∧ ∀ x ∈ lw l ks k n, x = d 7 ∨ ∃ i, i < 7 ∧ x = d i
 | 0, k, ks, hk, h => ⟨rfl, fun x hx => (h x hx).imp id fun ⟨i, i1, i2⟩ => ⟨i, by omega, i2⟩⟩
 | n + 1, k, ks, hk, h => by
  have hk7 : k < 7 := by omega
  obtain ⟨q, q1, q2, q3⟩ := h1 k hk7;have hnot : d k ∉ ks := fun hm => by
   rcases h _ hm with e | ⟨i, i1, i2⟩
   ·exact hj k 7 (by omega) (by omega) (by omega) e
   ·exact hj k i (by omega) (by omega) (by omega) i2
  have ho : onc M.n 10 ks (d k) = true := by
   unfold onc;simp only [Bool.and_eq_true, decide_eq_true_eq, Bool.not_eq_true', decide_eq_false_iff_not];exact ⟨by omega, by omega, by omega, hnot⟩
  obtain ⟨r1, r2⟩ := FL hd h1 hj hl n (k + 1) (ks ++ [d k]) (by omega) fun x hx => by
   rcases List.mem_append.1 hx with e | e
   ·exact (h x e).imp id fun ⟨i, i1, i2⟩ => ⟨i, by omega, i2⟩
   ·exact .inr ⟨k, by omega, List.mem_singleton.1 e⟩
  unfold pK lw;rw [hd k hk7, ho, hl k hk7, r1];exact ⟨rfl, r2⟩
theorem zQ {n' : Nat} {t : Nat → Ent} (hg : ga t) (h1 : ∀ i, i < 49 → (t i).kind ≠ 0 → ∃ q : Nat, (t i).line = q ∧ 10 ≤ q ∧ q < n') (hd : List Int) (hno : ∀ i, i < 49 → (t i).kind ≠ 0 → (t i).line ∉ hd) :
 ∀ (n i : Nat) (ks : List Int), i + n = 49 → (∀ x ∈ ks, x ∈ hd ∨ ∃ j, j < i ∧ (t j).kind ≠ 0 ∧ x = (t j).line) → mR n' 10 t ks i n = true
 | 0, i, ks, hi, h => rfl
 | n + 1, i, ks, hi, h => by
  unfold mR;by_cases hk : (t i).kind = 0
  ·rw [if_pos hk];exact zQ hg h1 hd hno n (i + 1) ks (by omega) fun x hx => (h x hx).imp id fun ⟨j, j1, j2⟩ => ⟨j, by omega, j2⟩
  ·rw [if_neg hk];obtain ⟨q, q1, q2, q3⟩ := h1 i (by omega) hk;have hnot : (t i).line ∉ ks := fun hm => by
    rcases h _ hm with e | ⟨j, j1, j2, j3⟩
    ·exact hno i (by omega) hk e
    ·exact hg.j i j (by omega) (by omega) (by omega) hk j2 j3
   have ho : onc n' 10 ks (t i).line = true := by
    unfold onc;simp only [Bool.and_eq_true, decide_eq_true_eq, Bool.not_eq_true', decide_eq_false_iff_not];exact ⟨by omega, by omega, by omega, hnot⟩
   rw [ho, Bool.true_and];exact zQ hg h1 hd hno n (i + 1) (ks ++ [(t i).line]) (by omega) fun x hx => by
    rcases List.mem_append.1 hx with e | e
    ·exact (h x e).imp id fun ⟨j, j1, j2⟩ => ⟨j, by omega, j2⟩
    ·exact .inr ⟨i, by omega, hk, List.mem_singleton.1 e⟩
end Go.Proofs.YtmimfopnhmmlbaaGreatDoor
namespace Go.Proofs.YtmimfopnhmmlbaaGreatDoor
open Go.Ab
theorem Lay.loads {M : AM} {t : Nat → Ent} {d : Nat → Int} (h : Lay M.n M t d) (ok : M.Ok) : Dt M 10 (d 7) = true ∧ (∀ i, i < 49 → ldT M (M.now (d 7).toNat) i = t i) ∧
 ∀ k, k < 7 → ∀ x ∈ M.now (av (M.now (d 7).toNat) k).toNat, 0 ≤ x ∧ x < 18446744073709551616 := by
 have hn := ok.n1;have hrange : ∀ k, k < 8 → 0 ≤ d k ∧ d k < 1024 := fun k hk => by
  obtain ⟨q, q1, q2, q3, _⟩ := h.dl k hk;omega
 have hnow : ∀ k, k < 8 → M.now (d k).toNat = M.S (d k).toNat := fun k hk => by
  obtain ⟨q, q1, _, _, q4, _⟩ := h.dl k hk;rw [q1, Int.toNat_natCast]; exact q4.now
 have hroot : M.now (d 7).toNat = aW d := by rw [hnow 7 (by decide)]; exact h.rt
 have hleaf : ∀ k, k < 7 → M.now (d k).toNat = bi t k := fun k hk => by rw [hnow k (by omega)]; exact h.lf k hk
 obtain ⟨r1, r2⟩ := C4 (d := d) fun j hj => hrange j (by omega);have lr := fun k (hk : k < 7) => DW (t := t) (k := k) fun j hj => h.g.e (7 * k + j) (by omega);rw [hroot];have hT : ∀ i, i < 49 → ldT M (aW d) i = t i := fun i hi => by
  unfold ldT;rw [r2 (i / 7) (by omega), hleaf (i / 7) (by omega), (lr (i / 7) (by omega)).2.1 (i % 7) (by omega)];rw [show 7 * (i / 7) + i % 7 = i by omega]
 refine ⟨?_, hT, fun k hk x hx => ?_⟩
 ·obtain ⟨q, q1, q2, q3, _⟩ := h.dl 7 (by decide);have ho : onc M.n 10 [] (d 7) = true := by
   unfold onc;simp only [Bool.and_eq_true, decide_eq_true_eq, Bool.not_eq_true', decide_eq_false_iff_not];exact ⟨by omega, by omega, by omega, by simp⟩
  obtain ⟨l1, l2⟩ := FL (M := M) (l := aW d) (d := d) r2 (fun k hk => by
   obtain ⟨q, q1, q2, q3, _⟩ := h.dl k (by omega);exact ⟨q, q1, q2, q3⟩) h.dj (fun k hk => by rw [hleaf k hk]; exact (lr k hk).1) 7 0 [d 7] rfl fun x hx => .inl (List.mem_singleton.1 hx)
  have hkk : ∀ i, i < 49 → (ldT M (aW d) i).kind = (t i).kind ∧ (ldT M (aW d) i).line = (t i).line := fun i hi => by rw [hT i hi]; exact ⟨rfl, rfl⟩
  have hG : ga (ldT M (aW d)) := ⟨fun i hi => by rw [hT i hi]; exact h.g.e i hi, fun i j hi hj hne h1 h2 => by
   rw [hT i hi] at h1 ⊢; rw [hT j hj] at h2 ⊢; exact h.g.j i j hi hj hne h1 h2⟩
  have hobj := zQ (n' := M.n) hG (fun i hi hk => by
   rw [hT i hi] at hk ⊢;obtain ⟨q, q1, q2, q3, _⟩ := h.ln i hi hk;exact ⟨q, q1, q2, q3⟩) (lw (aW d) [d 7] 0 7) (fun i hi hk hm => by
   rw [hT i hi] at hk hm;have hdk : ∃ k, k < 8 ∧ (t i).line = d k := by
    rcases l2 _ hm with e | ⟨k, k1, k2⟩
    ·exact ⟨7, by decide, e⟩
    ·exact ⟨k, by omega, k2⟩
   obtain ⟨k, k1, k2⟩ := hdk;obtain ⟨q, q1, _, _, _, q5⟩ := h.dl k k1;have := aM.2 ⟨i, hi, hk, k2.trans q1⟩;rw [q5] at this; cases this) 49 0 (lw (aW d) [d 7] 0 7) rfl fun x hx => .inl hx
  unfold Dt;rw [hroot, ho, r1, l1, hobj];rfl
 ·rw [r2 k hk, hleaf k hk] at hx;exact (lr k hk).2.2 x hx
theorem ra {j : Nat} : ∀ (n i : Nat) {M : AM} {ks : List Int}, Sur M j → Sm M (M.crashN ks i n) j
 | 0, _, M, _, _ => .refl M j
 | n + 1, i, M, ks, h => by
  unfold AM.crashN;split
  ·exact ra n (i + 1) h
  ·rename_i hne;have hij : j ≠ i := fun e => hne (by rw [← e]; exact h);have s1 := uc (M := M) (n := ((nxK ks).1 % (((M.L i).length : Int) + 1)).toNat) hij;have s2 : Sm (M.sureN i ((nxK ks).1 % (((M.L i).length : Int) + 1)).toNat) ((M.sureN i ((nxK ks).1 % (((M.L i).length : Int) + 1)).toNat).cleared i) j :=
    ⟨by simp only [AM.cleared]; exact ao hij, rfl⟩
   exact (s1.trans s2).trans (ra n (i + 1) (s2.sur (s1.sur h)))
theorem zA {M : AM} {ks : List Int} {j : Nat} (h : Sur M j) : Sm M (M.crash ks) j := by
 have := ra (ks := ks) M.n 0 h;exact ⟨this.L, this.S⟩
end Go.Proofs.YtmimfopnhmmlbaaGreatDoor
namespace Go.Proofs.YtmimfopnhmmlbaaGreatDoor
open Go.Ab
theorem sJ {n : Nat} (h : n < 4294967296) : (BitVec.ofInt IntKind.u32.bits (n : Int)).toNat = n := by
 rw [BitVec.ofInt_natCast, BitVec.toNat_ofNat];exact Nat.mod_eq_of_lt (by simp only [IntKind.bits]; omega)
theorem N3 {n m : Nat} (hn : n < 4294967296) (hm : m < 4294967296) : eO .u32 n m = ((n &&& m : Nat) : Int) := by
 unfold eO Ab.bits;show IntKind.u32.wrap (((BitVec.ofInt IntKind.u32.bits (n : Int)) &&& (BitVec.ofInt IntKind.u32.bits (m : Int))).toNat : Int) = _;rw [BitVec.toNat_and, sJ hn, sJ hm];have : n &&& m ≤ n := Nat.and_le_left;exact IntWalk.u32_in _ (by omega)
theorem MI {n m : Nat} (hn : n < 4294967296) (hm : m < 4294967296) : eQ .u32 n m = ((n ^^^ m : Nat) : Int) := by
 unfold eQ Ab.bits;show IntKind.u32.wrap (((BitVec.ofInt IntKind.u32.bits (n : Int)) ^^^ (BitVec.ofInt IntKind.u32.bits (m : Int))).toNat : Int) = _;rw [BitVec.toNat_xor, sJ hn, sJ hm];have : n ^^^ m < 2 ^ 32 := Nat.xor_lt_two_pow hn hm;exact IntWalk.u32_in _ (by omega)
theorem Oc {n : Nat} : eI .u32 n 1 = ((n / 2 : Nat) : Int) := by
 unfold eI;show (n : Int).fdiv (2 ^ 1) = _;rw [Int.fdiv_eq_ediv_of_nonneg _ (by decide)];omega
def rz (r : Int) : Prop := 0 ≤ r ∧ r ≤ 4294967295
theorem NB (x : Int) : rz (IntKind.u32.wrap x) := by
 unfold rz; rw [IntKind.wrap_u32]; omega
theorem Gz (a b : Int) : rz (eQ .u32 a b) := by
 unfold eQ Ab.bits;exact NB _
theorem LM {r : Int} (h : rz r) : zi r = sO r ∧ rz (sO r) := by
 obtain ⟨n, rfl⟩ : ∃ n : Nat, r = n := ⟨r.toNat, by have := h.1; omega⟩;have hn : n < 4294967296 := by have := h.2; omega
 have e1 : eO .u32 (n : Int) 1 = ((n % 2 : Nat) : Int) := by
  have := N3 hn (show 1 < 4294967296 by decide);rw [Nat.and_one_is_mod] at this; exact this
 unfold zi sO;rw [e1, Oc];rcases Nat.mod_two_eq_zero_or_one n with e | e
 ·rw [e, if_neg (by decide)];have e2 : eO .u32 3988292384 (IntKind.u32.wrap (0 - ((0 : Nat) : Int))) = ((0 : Nat) : Int) := by decide
  rw [e2, MI (by omega) (by decide), Nat.xor_zero];exact ⟨rfl, by constructor <;> omega⟩
 ·rw [e, if_pos (by decide)];have e2 : eO .u32 3988292384 (IntKind.u32.wrap (0 - ((1 : Nat) : Int))) = 3988292384 := by decide
  rw [e2];exact ⟨rfl, Gz _ _⟩
theorem CN : ∀ (k : Nat) {r : Int}, rz r → nC k r = jI k r ∧ rz (jI k r)
 | 0, _, h => ⟨rfl, h⟩
 | k + 1, r, h => by
  obtain ⟨h1, h2⟩ := CN k h;simp only [nC, jI];rw [h1];exact LM h2
theorem CO : ∀ (l : List Int) {r : Int}, rz r → gQ r l = eG r l
 | [], _, _ => rfl
 | b :: l, r, _ => by
  simp only [gQ, eG];obtain ⟨h1, h2⟩ := CN 8 (r := eQ .u32 r (IntKind.u32.wrap b)) (Gz _ _);rw [h1];exact CO l h2
theorem zC {k : IntKind} (a b : Int) : ior k a b = ior k b a := by
 unfold ior Ab.bits;show k.wrap ((BitVec.ofInt k.bits a ||| BitVec.ofInt k.bits b).toNat : Int) = k.wrap ((BitVec.ofInt k.bits b ||| BitVec.ofInt k.bits a).toNat : Int);rw [BitVec.or_comm]
theorem AC (l : List Int) : bh l = oq l := by
 unfold bh oq iY;have e : (List.range 56).map (aX l 8 0) = (List.range 56).map (cd l 64) := by
  apply List.map_congr_left;intro j hj;have := List.mem_range.1 hj;unfold aX cd;rw [if_pos (by omega), if_pos (by omega)]
 have e2 : cG 0 = 4294967295 := by decide
 rw [e, e2, CO _ (by constructor <;> decide), zC]
theorem EQ {a b i : Nat} (h : b < 2 ^ i) : b ||| a * 2 ^ i = b + a * 2 ^ i := by
 have := Nat.two_pow_add_eq_or_of_lt h a;rw [Nat.mul_comm a, Nat.or_comm, ← this, Nat.add_comm]
theorem Ll {e : Ent} (h : bE e = true) : jO e = rT e := by
 obtain ⟨k, v, l⟩ := e;simp only [bE, win, Bool.and_eq_true, decide_eq_true_eq] at h;obtain ⟨⟨⟨⟨k0, k1⟩, v0, v1⟩, l0, l1⟩, _⟩ := h;obtain ⟨k, rfl⟩ : ∃ n : Nat, k = n := ⟨k.toNat, by omega⟩;obtain ⟨v, rfl⟩ : ∃ n : Nat, v = n := ⟨v.toNat, by omega⟩;obtain ⟨l, rfl⟩ : ∃ n : Nat, l = n := ⟨l.toNat, by omega⟩;simp only [jO, rT, Int.toNat_natCast];rw [ei (by omega) (by omega), ei (by omega) (by omega), ei (by omega) (by omega)];have s1 : lM .u64 (v : Int) 4 = ((v * 16 : Nat) : Int) := by
  have := qa (v : Int) 4 (by decide);rw [show ((4 : Nat) : Int) = 4 from rfl] at this
  rw [this]; omega
 have s2 : lM .u64 (l : Int) 28 = ((l * 268435456 : Nat) : Int) := by
  have := qa (l : Int) 28 (by decide);rw [show ((28 : Nat) : Int) = 28 from rfl] at this
  rw [this]; omega
 rw [s1, s2, nc (by omega) (by omega)];have o1 : k ||| v * 16 = k + v * 16 := EQ (i := 4) (by omega);rw [o1, nc (by omega) (by omega)];have o2 : (k + v * 16) ||| l * 268435456 = k + v * 16 + l * 268435456 := EQ (i := 28) (by omega);rw [o2]
theorem It (t : Nat → Ent) (k : Nat) : bi t k = kL t k := by
 unfold bi kL;by_cases h : dt t k 0 7 = true
 ·rw [if_pos h, if_pos h, AC];congr 1;unfold lfL iv;apply List.map_congr_left;intro j _;by_cases hj : j < 7
  ·rw [if_pos hj, if_pos hj];have := List.all_eq_true.1 h j (List.mem_range.2 hj);rw [Nat.zero_add] at this;exact Ll this
  ·rw [if_neg hj, if_neg hj]
 ·rw [if_neg h, if_neg h]
theorem Iy (d : Nat → Int) : aW d = kh d := by
 unfold aW kh;by_cases h : cU d 0 7 = true
 ·rw [if_pos h, if_pos h, AC];congr 1;unfold rlL gv;apply List.map_congr_left;intro j _;by_cases hj : j < 7
  ·rw [if_pos hj, if_pos hj, zC]
  ·rw [if_neg hj, if_neg hj]
 ·rw [if_neg h, if_neg h]
end Go.Proofs.YtmimfopnhmmlbaaGreatDoor
namespace Go.Proofs.YtmimfopnhmmlbaaGreatDoor
open Go.Ab
theorem BK {d e : Nat → Int} (h : ∀ j, j < 7 → d j = e j) : aW d = aW e := by
 have h1 : cU d 0 7 = cU e 0 7 := by
  unfold cU;apply Bool.eq_iff_iff.2;simp only [List.all_eq_true, List.mem_range];constructor
  ·intro hh j hj; have := hh j hj; rw [h (0 + j) (by omega)] at this; exact this
  ·intro hh j hj; rw [h (0 + j) (by omega)]; exact hh j hj
 have h2 : rlL d 7 = rlL e 7 := by
  unfold rlL;apply List.map_congr_left;intro j _;split
  ·rename_i hj; rw [h j hj]
  ·rfl
 unfold aW;rw [h1, h2]
theorem F9 {c j : Nat} (hc : c ≤ 30) (h : ax (ay c) j = true) : 20 ≤ j ∧ j < 20 + c := by
 obtain ⟨i, i1, i2, i3⟩ := aM.1 h;unfold ay at i2 i3;split at i2
 ·rename_i hi;rw [if_pos hi] at i3;simp only at i3;omega
 ·exact absurd rfl i2
theorem yu {c : Nat} (hc : c ≤ 30) : ga (ay c) := by
 refine ⟨fun i hi => ?_, fun i j hi hj hne h1 h2 => ?_⟩
 ·unfold ay;split
  ·refine gR.2 ⟨?_, ?_, ?_, ?_⟩ <;> simp only <;> omega
  ·exact gR.2 ⟨by decide, by decide, by decide, fun _ => rfl⟩
 ·unfold ay at *;split at h1
  ·rename_i hi2;split at h2
   ·rename_i hj2;rw [if_pos hi2, if_pos hj2];simp only;omega
   ·exact absurd rfl h2
  ·exact absurd rfl h1
theorem ON {c n : Nat} (hc : c ≤ 30) (hn : 64 ≤ n) {A : AF} (hi : Inv (as0 (am0 n (imL c)) A (ay c) bf)) (hf : A.f = 10) (hst : ∀ j, A.st j = if (20 ≤ j ∧ j < 20 + c) ∨ (10 ≤ j ∧ j < 18) then 1 else 0) :
 Img (as0 (am0 n (imL c)) A (ay c) bf) := by
 have hd : ∀ k, k < 8 → bf k = ((10 + k : Nat) : Int) := fun k hk => by unfold bf; rw [if_pos (by omega)]; omega
 have hnot : ∀ k, k < 8 → ax (ay c) (10 + k) = false := fun k hk => by
  cases e : ax (ay c) (10 + k)
  ·rfl
  ·have := F9 hc e; omega
 refine ⟨hi, hf, rfl, fun k hk => ⟨10 + k, hd k hk, by omega, by show 10 + k < n; omega, ?_, hnot k hk, hnot k hk⟩, fun k l hk hl hne => ?_, fun j _ => rfl, fun k hk => ?_, ?_, yu hc, yu hc⟩
 ·show A.st (10 + k) = 1;rw [hst, if_pos (by omega)]
 ·show bf k ≠ bf l;rw [hd k hk, hd l hl]; omega
 ·show imL c (bf k).toNat = bi (ay c) k;rw [hd k (by omega), Int.toNat_natCast, It];unfold imL ij;rw [if_neg (by omega), if_pos (by omega), show 10 + k - 10 = k by omega]
 ·show imL c (bf 7).toNat = aW bf;rw [hd 7 (by decide), Int.toNat_natCast];unfold imL;rw [if_pos rfl, ← Iy];refine BK fun j hj => ?_;rw [hd j (by omega)];unfold lvF;rw [if_pos hj]; omega
end Go.Proofs.YtmimfopnhmmlbaaGreatDoor
namespace Go.Proofs.YtmimfopnhmmlbaaGreatDoor
open Go.Ab
def ov : Cll := ⟨0, 0, 0, 0⟩
structure Chi (x0 x : AS) (i : Nat) : Prop where
 img : Img x
 on : x.M.On
 n : x.M.n = x0.M.n
 cnt : x.M.count ≤ x0.M.count + 8 * i
 left : x0.A.left ≤ x.A.left + i
 low : ∀ j, j < 10 → x.M.S j = x0.M.S j
theorem Chi.next {x0 x : AS} {i : Nat} (h : Chi x0 x i) (o : Cll) : Chi x0 (x.change o) (i + 1) := by
 obtain ⟨s, l⟩ := gU h.img.inv h.on o;obtain ⟨g1, g2⟩ := h.img.change h.on o;refine ⟨g1, s.on, s.n.trans h.n, ?_, ?_, fun j hj => (g2 j (.inl hj)).S.trans (h.low j hj)⟩
 ·have := s.cnt; have := h.cnt; omega
 ·have := h.left; omega
section
variable {hp0 : List Blk} {wk a m fr : Nat} {x0 : AS}
theorem GI {l : List Cll} (hl : ∀ o ∈ l, o.Ok) {lv bv : V} (hbv : bv.locLt 0 = true) (hrs : RS ⟨[], hp0⟩ 54 lv (l.map Cll.val)) (c1 : Int) : ∀ (n i : Nat) {hp : List Blk} {Fm Gs : Ft} {sv : V} {w : AW}, i + n = min l.length 20 → WkQ hp wk a m fr Fm Gs sv w → Chi x0 w.x i → x0.M.count ≤ 1000 → hp0 <+: hp → mY hp0.length (WkF wk a fr Fm Gs) →
 ∃ hp' Fm' x' j, rc D 0 (.loop [0, 1, 2, 8, 9, 10, 11] bc) [(0, lv), (1, bv), (2, .int .i64 c1), (8, .ptr (.hp m) [] 59), (9, .ptr (.hp a) [] 43), (10, .ptr (.hp wk) [] 61), (11, .int .i64 i)] ⟨[], hp⟩ =
  some (.exit 0, [(0, lv), (1, bv), (2, .int .i64 c1), (8, .ptr (.hp m) [] 59), (9, .ptr (.hp a) [] 43), (10, .ptr (.hp wk) [] 61), (11, .int .i64 j), (48, .bool false)], ⟨[], hp'⟩) ∧ WkQ hp' wk a m fr Fm' Gs sv { w with x := x' } ∧ Chi x0 x' 20 ∧ hp0 <+: hp' ∧ mY hp0.length (WkF wk a fr Fm' Gs)
 | 0, i, hp, Fm, Gs, sv, w, hi, h, hC, hM, hp1, hab => by
  refine ⟨hp, Fm, w.x, i, ?_, h, ⟨hC.img, hC.on, hC.n, by have := hC.cnt; omega, by have := hC.left; omega, hC.low⟩, hp1, hab⟩;have hsl : V.slen false lv = some l.length := by
   have := hrs.slen
   rwa [List.length_map] at this
  rw [ah];by_cases d0 : i < l.length
  ·have d1 : (i : Int) < l.length := by omega
   have d2 : ¬ (i : Int) < 20 := by omega
   simp only [go_sem, bc, hsl, d1, d2]
  ·have d1 : ¬ (i : Int) < l.length := by omega
   simp only [go_sem, bc, hsl, d1]
 | n + 1, i, hp, Fm, Gs, sv, w, hi, h, hC, hM, hp1, hab => by
  have hsl : V.slen false lv = some l.length := by
   have := hrs.slen
   rwa [List.length_map] at this
  have d0 : i < l.length := by omega
  have d1 : (i : Int) < l.length := by omega
  have d2 : (i : Int) < 20 := by omega
  have d4 : IntKind.i64.wrap ((i : Int) + 1) = ((i + 1 : Nat) : Int) := ag (by omega) (by omega);have hg := aP (f := Cll.val) (l := l) (i := i) d0 ov;have ho : (l.getD i ov).Ok := hl _ (by rw [List.getD_eq_getElem?_getD, List.getElem?_eq_getElem d0]; exact List.getElem_mem d0);have hrs1 : RS ⟨[], hp⟩ 54 lv (l.map Cll.val) := hrs.more ⟨List.prefix_rfl, hp1⟩;have hld : ldv ⟨[], hp⟩ 54 (elq lv i [] 54) = V.at [] (l.getD i ov).val := hrs1.ldq hg;have hsad := hrs1.sadq hg (k := .i64);obtain ⟨hp2, F2, e1, e2, e3⟩ := xr h (by have := hC.cnt; omega) hC.img.inv ho [];obtain ⟨p2, b2⟩ := e3.pre hp1 hab;obtain ⟨hp', Fm', x', j, r1, r2, r3, r4⟩ := GI hl hbv hrs c1 n (i + 1) (by omega) e2 (hC.next _) hM p2 b2
  refine ⟨hp', Fm', x', j, ?_, r2, r3, r4⟩;rw [← r1, ah];generalize l.getD i ov = o at *;have hlt0 : lv.locLt 0 = true := hrs.locLt;clear r1 r2 r3 r4 h e2 e3;simp only [Cll.val] at *;simp only [go_sem, bc, hsl, d1, d2, hsad, hld, e1, d4, hlt0, hbv]
end
def PH : Obj := ⟨0, 0, zl⟩
def nu (x : AS) (k i : Nat) : Obj := if i < k then (x.get i).1 else PH
def ep (x : AS) (k : Nat) : V := .agg 30 (tab 49 fun i => (nu x k i).v)
theorem Cx (x : AS) (k n : Nat) : (ep x k).locLt n = true := by
 rw [ep, vu]; rfl
section
variable {hp : List Blk} {wk a m fr : Nat} {Fm Gs : Ft} {sv : V} {w : AW}
theorem Oa (h : WkQ hp wk a m fr Fm Gs sv w) (c1 : Int) {bv : V} (hbv : bv.locLt 0 = true) (T : List V) (hT : a8 2 (.rw (.agg 48 T)) = true) :
 rc D 0 (.loop [1, 2, 8, 9, 10, 12, 13, 14] bD) [(1, bv), (2, .int .i64 c1), (8, .ptr (.hp m) [] 59), (9, .ptr (.hp a) [] 43), (10, .ptr (.hp wk) [] 61), (12, .ptr (.loc 0) [] 48), (13, .ptr (.loc 1) [] 30), (14, .int .i64 0)] ⟨[.rw (.agg 48 T), .rw (ep w.x 0)], hp⟩ =
  some (.exit 2, [(1, bv), (2, .int .i64 c1), (8, .ptr (.hp m) [] 59), (9, .ptr (.hp a) [] 43), (10, .ptr (.hp wk) [] 61), (12, .ptr (.loc 0) [] 48), (13, .ptr (.loc 1) [] 30), (14, .int .i64 49), (61, .bool false)], ⟨[.rw (.agg 48 T), .rw (ep w.x 49)], hp⟩) := by
 have hbv2 : bv.locLt 2 = true := cQ (Nat.zero_le _) hbv;refine aT (fun x : Nat => [(1, bv), (2, .int .i64 c1), (8, .ptr (.hp m) [] 59), (9, .ptr (.hp a) [] 43), (10, .ptr (.hp wk) [] 61), (12, .ptr (.loc 0) [] 48), (13, .ptr (.loc 1) [] 30), (14, .int .i64 x)]) (fun x => ⟨[.rw (.agg 48 T), .rw (ep w.x x)], hp⟩) (fun _ => _) (fun x => 49 - x) (fun x => x ≤ 49) 0 ?_ (by omega) rfl rfl;intro i hi;by_cases c1 : i < 49
 ·left;have d1 : (i : Int) < 49 := by omega
  have d2 : (0 : Int) ≤ i := by omega
  have d4 : IntKind.i64.wrap ((i : Int) + 1) = (i : Int) + 1 := ag (by omega) (by omega);have hget := fun L => E4 h.q (i : Int) L;have e1 : (tab 49 fun j => (nu w.x i j).v).set i (w.x.get (i : Int)).1.v = tab 49 fun j => (nu w.x (i + 1) j).v := by
   rw [bw];apply aI;intro j _;unfold nu;by_cases h1 : j = i
   ·subst h1; rw [aj, if_pos (by omega)]
   ·rw [ao h1];by_cases h2 : j < i
    ·rw [if_pos h2, if_pos (by omega)]
    ·rw [if_neg h2, if_neg (by omega)]
  have g1 := al (f := fun j => (nu w.x i j).v) (show i < 49 by omega);refine ⟨i + 1, by omega, by omega, rfl, ?_⟩;simp only [ep];rw [← e1];generalize tab 49 (fun j => (nu w.x i j).v) = T1 at *;generalize w.x.get (i : Int) = gg at *;generalize nu w.x i i = g0 at *;simp only [Obj.v] at *;simp only [go_sem, bD, d1, d2, hget, hbv2];rw [Int.toNat_natCast];simp only [go_sem, g1, d4, hbv2];rfl
 ·right;have : i = 49 := by omega
  subst this;simp only [ep];simp only [go_sem, bD]
end
end Go.Proofs.YtmimfopnhmmlbaaGreatDoor
namespace Go.Proofs.YtmimfopnhmmlbaaGreatDoor
open Go.Ab
section
variable {x0 : AS} {b : Sup} {sl seq : Int} {w : AW}
theorem Mid.change (h : Mid x0 b sl seq w) (o : Cll) : Mid x0 b sl seq { w with x := w.x.change o } := by
 obtain ⟨s, _⟩ := gU h.inv h.on o;have hsh := sC s.base s.mark s.is;exact ⟨s.inv, s.on, s.base.trans h.base, s.mark.trans h.mark, s.is.trans h.is, s.dir.trans h.dir, s.n.trans h.n, s.fl.1.trans h.f, fun j hj => by
  have hj' : w.x.sh j = true := by rw [← hsh]; exact hj
  exact (s.now j hj').trans (h.now j hj'), h.tbl, h.b, h.sl, h.seq, h.d7, h.st⟩
end
structure Fin (x0 : AS) (b : Sup) (s : Nat) (x : AS) : Prop where
 img : Img x
 on : x.M.On
 base : x.base = x0.work
 root : x.dir 7 = b.root
 sup : x.M.S s = aR b
 low : ∀ j, j < 10 → j ≠ s → x.M.S j = x0.M.S j
 old : ∀ j : Nat, ax x0.work j = true → x.M.S j = x0.M.now j
 n : x.M.n = x0.M.n
theorem Fin.change {x0 x : AS} {b : Sup} {s : Nat} (h : Fin x0 b s x) (hs : s < 10) (o : Cll) : Fin x0 b s (x.change o) := by
 obtain ⟨st, _⟩ := gU h.img.inv h.on o;obtain ⟨g1, g2⟩ := h.img.change h.on o;refine ⟨g1, st.on, st.base.trans h.base, by rw [st.dir]; exact h.root, (g2 s (.inl hs)).S.trans h.sup, fun j hj hne => (g2 j (.inl hj)).S.trans (h.low j hj hne), fun j hj => ?_, st.n.trans h.n⟩;exact (g2 j (.inr (.inl (by rw [h.base]; exact hj)))).S.trans (h.old j hj)
theorem Com.fin {x0 : AS} {w w' : AW} {s : Nat} (h : Com x0 w w' s) (on : w'.x.M.On) : Fin x0 w.nextB s w'.x :=
 ⟨h.img, on, h.base, by rw [h.dir]; rfl, h.sup, h.low, h.old, h.n⟩
section
variable {hp0 : List Blk} {wk a m fr : Nat}
theorem Fe {bv : V} {lb : List Cll} (hbv : bv.locLt 0 = true) (hlb : ∀ o ∈ lb, o.Ok) (hrs : RS ⟨[], hp0⟩ 54 bv (lb.map Cll.val)) (A B : Blk) (hA : a8 2 A = true) (hB : a8 2 B = true) (k : Int) {N i : Nat} (hi : i < N) (hN : N ≤ 59) {hp hp1 : List Blk} {Fm1 Gs1 : Ft} {sv1 : V} {w1 : AW} {d : Bool} (hd : d = decide (i + 1 = N))
 (he : rf D gF [.ptr (.hp wk) [] 61] ⟨[A, B], hp⟩ = some (.tup [.bool d, .int .i64 0], ⟨[A, B], hp1⟩)) (W : WkQ hp1 wk a m fr Fm1 Gs1 sv1 w1) (hc : w1.x.M.count + 8 < 1000000) (hI : Inv w1.x) (hpre : hp0 <+: hp1) (hab : mY hp0.length (WkF wk a fr Fm1 Gs1)) :
 ∃ hp2 Fm2, rc D 0 (.loop [1, 8, 9, 10, 12, 13, 15, 16, 17] aB) [(1, bv), (8, .ptr (.hp m) [] 59), (9, .ptr (.hp a) [] 43), (10, .ptr (.hp wk) [] 61), (12, .ptr (.loc 0) [] 48), (13, .ptr (.loc 1) [] 30), (15, .int .i64 k), (16, .int .i64 N), (17, .int .i64 i)] ⟨[A, B], hp⟩ =
  rc D 0 (.loop [1, 8, 9, 10, 12, 13, 15, 16, 17] aB) [(1, bv), (8, .ptr (.hp m) [] 59), (9, .ptr (.hp a) [] 43), (10, .ptr (.hp wk) [] 61), (12, .ptr (.loc 0) [] 48), (13, .ptr (.loc 1) [] 30), (15, .int .i64 k), (16, .int .i64 N), (17, .int .i64 (i + 1 : Nat))] ⟨[A, B], hp2⟩ ∧
  (∃ x', WkQ hp2 wk a m fr Fm2 Gs1 sv1 { w1 with x := x' } ∧ (x' = w1.x ∨ ∃ o, x' = w1.x.change o)) ∧ hp0 <+: hp2 ∧ mY hp0.length (WkF wk a fr Fm2 Gs1) := by
 have hbv2 : bv.locLt 2 = true := cQ (Nat.zero_le _) hbv;have hsl : V.slen false bv = some lb.length := by
  have := hrs.slen
  rwa [List.length_map] at this
 have d1 : (i : Int) < N := by omega
 have d4 : IntKind.i64.wrap ((i : Int) + 1) = ((i + 1 : Nat) : Int) := ag (by omega) (by omega);have d5 : IntKind.i64.wrap ((N : Int) - 1) = ((N - 1 : Nat) : Int) := by rw [ag (by omega) (by omega)]; omega
 have hd2 : decide ((i : Int) = ((N - 1 : Nat) : Int)) = d := by rw [hd]; apply decide_eq_decide.2; omega
 by_cases c1 : i < lb.length
 ·have c2 : (i : Int) < lb.length := by omega
  have hg := aP (f := Cll.val) (l := lb) (i := i) c1 ov;have ho : (lb.getD i ov).Ok := hlb _ (by rw [List.getD_eq_getElem?_getD, List.getElem?_eq_getElem c1]; exact List.getElem_mem c1);have hrs1 : RS ⟨[A, B], hp1⟩ 54 bv (lb.map Cll.val) := hrs.more ⟨List.nil_prefix, hpre⟩;have hld : ldv ⟨[A, B], hp1⟩ 54 (elq bv i [] 54) = V.at [] (lb.getD i ov).val := hrs1.ldq hg;have hsad := hrs1.sadq hg (k := .i64);obtain ⟨hp2, F2, e1, e2, e3⟩ := xr W hc hI ho [A, B];obtain ⟨p2, b2⟩ := e3.pre hpre hab;refine ⟨hp2, F2, ?_, ⟨_, e2, .inr ⟨_, rfl⟩⟩, p2, b2⟩;rw [ah];generalize lb.getD i ov = o at *;clear e2 e3;simp only [Cll.val] at *;cases d
  ·simp only [go_sem, aB, d1, he, d5, hd2, hsl, c2, d4, hbv2, hA, hB, hsad, hld, e1]
  ·simp only [go_sem, aB, d1, he, d5, hd2, hsl, c2, d4, hbv2, hA, hB, hsad, hld, e1]
 ·refine ⟨hp1, Fm1, ?_, ⟨w1.x, W, .inl rfl⟩, hpre, hab⟩;have c2 : ¬ (i : Int) < lb.length := by omega
  rw [ah];cases d
  ·simp only [go_sem, aB, d1, he, d5, hd2, hsl, c2, d4, hbv2, hA, hB]
  ·simp only [go_sem, aB, d1, he, d5, hd2, hsl, c2, d4, hbv2, hA, hB]
theorem LJ {x0 : AS} {G : List (Nat × Int)} {b : Sup} {sl seq : Int} (hBg : uo b sl seq) (hsl0 : sl = 0) {bv : V} {lb : List Cll} (hbv : bv.locLt 0 = true) (hlb : ∀ o ∈ lb, o.Ok) (hrs : RS ⟨[], hp0⟩ 54 bv (lb.map Cll.val)) (A B : Blk) (hA : a8 2 A = true) (hB : a8 2 B = true) (hg0 : ga x0.work) (k : Int) {N : Nat} (hN : N ≤ 59) :
 ∀ (n i : Nat) {hp : List Blk} {Fm Gs : Ft} {sv : V} {w : AW}, w.st.length = n + 1 → i + n + 1 = N → WkQ hp wk a m fr Fm Gs sv w → Mid x0 b sl seq w → Ck x0 G w → ga w.x.work → wrS w.st + (n + 1) ≤ w.x.A.left → w.x.M.count + 20 * (n + 1) ≤ 5000 → hp0 <+: hp → mY hp0.length (WkF wk a fr Fm Gs) →
 ∃ hp' Fm' Gs' sv' wf d7, rc D 0 (.loop [1, 8, 9, 10, 12, 13, 15, 16, 17] aB) [(1, bv), (8, .ptr (.hp m) [] 59), (9, .ptr (.hp a) [] 43), (10, .ptr (.hp wk) [] 61), (12, .ptr (.loc 0) [] 48), (13, .ptr (.loc 1) [] 30), (15, .int .i64 k), (16, .int .i64 N), (17, .int .i64 i)] ⟨[A, B], hp⟩ =
  some (.exit 4, [(1, bv), (8, .ptr (.hp m) [] 59), (9, .ptr (.hp a) [] 43), (10, .ptr (.hp wk) [] 61), (12, .ptr (.loc 0) [] 48), (13, .ptr (.loc 1) [] 30), (15, .int .i64 k), (16, .int .i64 N), (17, .int .i64 N), (84, .bool false)], ⟨[A, B], hp'⟩) ∧ WkQ hp' wk a m fr Fm' Gs' sv' wf ∧ Fin x0 ⟨b.gen + 1, d7, seq, b.cores⟩ 1 wf.x ∧ wf.x.M.count ≤ 6000 := by
 have out : ∀ hp, rc D 0 (.loop [1, 8, 9, 10, 12, 13, 15, 16, 17] aB) [(1, bv), (8, .ptr (.hp m) [] 59), (9, .ptr (.hp a) [] 43), (10, .ptr (.hp wk) [] 61), (12, .ptr (.loc 0) [] 48), (13, .ptr (.loc 1) [] 30), (15, .int .i64 k), (16, .int .i64 N), (17, .int .i64 N)] ⟨[A, B], hp⟩ =
  some (.exit 4, [(1, bv), (8, .ptr (.hp m) [] 59), (9, .ptr (.hp a) [] 43), (10, .ptr (.hp wk) [] 61), (12, .ptr (.loc 0) [] 48), (13, .ptr (.loc 1) [] 30), (15, .int .i64 k), (16, .int .i64 N), (17, .int .i64 N), (84, .bool false)], ⟨[A, B], hp⟩) := by
  intro hp;have d1 : ¬ (N : Int) < N := by omega
  rw [ah];simp only [go_sem, aB, d1]
 intro n
 induction n with
 | zero =>
  intro i hp Fm Gs sv w hl hi h hM hC hgw hlf hc hpre hab;obtain ⟨p, hp1⟩ : ∃ p, w.st = [p] := by
   match hs : w.st with
   | [] => rw [hs] at hl; cases hl
   | [p] => exact ⟨p, rfl⟩
   | p :: q :: r => rw [hs] at hl; simp at hl
  have hp4 : p = (4, 0) := by
   obtain ⟨S, q1, _⟩ := hM.st;rw [q1] at hp1;cases S with
   | nil => simp only [List.nil_append, List.cons.injEq, and_true] at hp1; exact hp1.symm
   | cons a S' => simp at hp1
  subst hp4;obtain ⟨M', s1, m1, m2, m3, m4, m5⟩ := hM.last hBg hp1;have hbo : w.nextB.ok = true := by
   have := hBg.g;have := hBg.c;have := hBg.q;have hd := hM.d7;have hb := hM.b;have hq := hM.seq;unfold AW.nextB Sup.ok win;simp only [hb, hq, Bool.and_eq_true, decide_eq_true_eq];omega
  have hnb : w.nextB = ⟨b.gen + 1, w.dir 7, seq, b.cores⟩ := by unfold AW.nextB; rw [hM.b, hM.seq]
  obtain ⟨h1, F1, G1, v1, e1, W1, c3⟩ := ng h (by omega) (hM.fit hBg) [A, B];obtain ⟨p2, b2⟩ := c3.pre hpre hab;rcases hC.last hp1 (s := 1) (by rw [hM.sl, hsl0]; rfl) (.inr rfl) hbo hg0 hgw with ⟨w', s2, hcom⟩ | ⟨w', s2, _⟩
  ·have s2' := s2;rw [s1] at s2';simp only [Prod.mk.injEq, and_true, true_and] at s2';have hxM : w'.x.M = M' := by rw [← s2']; unfold AS.commit; rw [if_pos hM.is]; rfl
   rw [s2] at e1 W1;have hfin := hcom.fin (by rw [hxM]; exact m2);rw [hnb] at hfin;obtain ⟨hp2, Fm2, r1, ⟨x', r2, r3⟩, r4, r5⟩ := Fe (k := k) hbv hlb hrs A B hA hB (show i < N by omega) hN (by rw [decide_eq_true (show i + 1 = N by omega)]) e1 W1 (by rw [hxM]; omega) hcom.img.inv p2 b2;refine ⟨hp2, Fm2, G1, v1, { w' with x := x' }, w.dir 7, ?_, r2, ?_, ?_⟩
   ·rw [r1, show i + 1 = N by omega]; exact out hp2
   ·rcases r3 with rfl | ⟨o, rfl⟩
    ·exact hfin
    ·exact hfin.change (by decide) o
   ·rcases r3 with rfl | ⟨o, rfl⟩
    ·show w'.x.M.count ≤ 6000;rw [hxM]; omega
    ·have := (gU hfin.img.inv hfin.on o).1.cnt;show (w'.x.change o).M.count ≤ 6000;rw [hxM] at this; omega
  ·rw [s1] at s2; simp at s2
 | succ n ih =>
  intro i hp Fm Gs sv w hl hi h hM hC hgw hlf hc hpre hab;obtain ⟨p, r, hp1, hr⟩ : ∃ p r, w.st = p :: r ∧ r.length = n + 1 := by
   match hs : w.st with
   | [] => rw [hs] at hl; cases hl
   | p :: r => rw [hs] at hl; exact ⟨p, r, rfl, by simpa using hl⟩
  have hr0 : r ≠ [] := fun e => by rw [e] at hr; cases hr
  rw [hp1] at hlf;simp only [wrS] at hlf;obtain ⟨h1, F1, G1, v1, e1, W1, c3⟩ := ng h (by omega) (hM.fit hBg) [A, B];obtain ⟨p2, b2⟩ := c3.pre hpre hab;obtain ⟨w1, s1, M1, q1, q2, q4, q3, _⟩ := (hM.step hp1 hr0).resolve_right fun z => by
   have := z.1; have := z.2.1; omega
  have hC1 : Ck x0 G w1 := by
   rcases hC.step hp1 hr0 with ⟨w', s2, k2, _⟩ | ⟨z1, z2⟩ | ⟨w', s2, _⟩
   ·rw [s1] at s2;simp only [Prod.mk.injEq, and_true, true_and] at s2;rw [s2]; exact k2
   ·omega
   ·rw [s1] at s2; simp at s2
  rw [s1] at e1 W1;simp only at e1 W1;obtain ⟨hp2, Fm2, r1, ⟨x', r2, r3⟩, r4, r5⟩ := Fe (k := k) hbv hlb hrs A B hA hB (show i < N by omega) hN (by rw [decide_eq_false (show ¬ i + 1 = N by omega)]) e1 W1 (by omega) M1.inv p2 b2;have key : Mid x0 b sl seq { w1 with x := x' } ∧ Ck x0 G { w1 with x := x' } ∧ ga x'.work ∧ w1.x.A.left ≤ x'.A.left + 1 ∧ x'.M.count ≤ w1.x.M.count + 8 := by
   have hg1 : ga w1.x.work := by rw [q2]; exact hgw
   rcases r3 with rfl | ⟨o, rfl⟩
   ·exact ⟨M1, hC1, hg1, by omega, by omega⟩
   ·obtain ⟨t1, t2⟩ := gU M1.inv M1.on o;exact ⟨M1.change o, hC1.change M1.on o, hg1.change M1.inv M1.on o, t2, t1.cnt⟩
  obtain ⟨k1, k2, k3, k4, k5⟩ := key;obtain ⟨hp', Fm', Gs', sv', wf, d7, t1, t2⟩ := ih (i + 1) (w := { w1 with x := x' }) (by show w1.st.length = n + 1; rw [q1]; exact hr) (by omega) r2 k1 k2 k3 (by show wrS w1.st + (n + 1) ≤ x'.A.left; rw [q1]; omega) (by show x'.M.count + 20 * (n + 1) ≤ 5000; omega) r4 r5;refine ⟨hp', Fm', Gs', sv', wf, d7, ?_, t2⟩;rw [r1]; exact t1
end
end Go.Proofs.YtmimfopnhmmlbaaGreatDoor
namespace Go.Proofs.YtmimfopnhmmlbaaGreatDoor
open Go.Ab
theorem JJ (t : Nat → Ent) : bB (tab 49 fun i => (t i).v) (tab 49 fun i => (t i).v) = some true := by
 have := rW t t (List.range 49);rw [oi.2 fun _ _ => rfl] at this;exact this
theorem NC : kz zl = false := Mn rfl
theorem Iw {b : Sup} (hb : b.ok = true) : hU zl (aR b) = (b, 1, true) := by
 obtain ⟨h1, h2⟩ := Fj hb;unfold hU bst;rw [NC];simp only [Bool.false_eq_true, false_and, if_false, h1, h2, true_and, true_or, if_true]
section
variable {m : Nat}
theorem LU {hp : List Blk} {F : Ft} {M : AM} (h : aZ hp F m M) {x0 : AS} (onM : M.On) (hI : Inv x0) (on : x0.M.On) (hn : M.n = x0.M.n) (hS : ∀ j : Nat, ax x0.work j = true → M.now j = x0.M.now j) (A B C : Blk) (hA : a8 5 A = true) (hB : a8 5 B = true) (hC : a8 5 C = true) :
 rc D 0 (.loop [8, 13, 23, 26] a9) [(8, .ptr (.hp m) [] 59), (13, .ptr (.loc 1) [] 30), (23, .ptr (.loc 3) [] 48), (26, .int .i64 0)] ⟨[A, .rw (ep x0 49), B, .rw (ab x0.work), C], hp⟩ =
  some (.exit 6, [(8, .ptr (.hp m) [] 59), (13, .ptr (.loc 1) [] 30), (23, .ptr (.loc 3) [] 48), (26, .int .i64 49), (153, .bool false)], ⟨[A, .rw (ep x0 49), B, .rw (ab x0.work), C], hp⟩) := by
 have hgl := Cx x0 49 5;have htl := po (n := 5) (f := x0.work);refine aT (fun x : Nat => [(8, .ptr (.hp m) [] 59), (13, .ptr (.loc 1) [] 30), (23, .ptr (.loc 3) [] 48), (26, .int .i64 x)]) (fun x => ⟨[A, .rw (ep x0 49), B, .rw (ab x0.work), C], hp⟩) (fun _ => _) (fun x => 49 - x) (fun x => x ≤ 49) 0 ?_ (by omega) rfl rfl;intro i hi;by_cases c1 : i < 49
 ·left;have d1 : (i : Int) < 49 := by omega
  have d2 : (0 : Int) ≤ i := by omega
  have d4 : IntKind.i64.wrap ((i : Int) + 1) = (i : Int) + 1 := ag (by omega) (by omega);have g1 := al (f := fun j => (nu x0 49 j).v) (show i < 49 by omega);have g2 : nu x0 49 i = (x0.get i).1 := if_pos c1;rw [g2] at g1;have g3 := al (f := fun j => (x0.work j).v) (show i < 49 by omega);have hL := fun L => gH h (x0.work i).line L;refine ⟨i + 1, by omega, by omega, rfl, ?_⟩;by_cases hk : (x0.work i).kind = 0
  ·simp only [ep, ab, lnV] at *;generalize tab 49 (fun j => (nu x0 49 j).v) = T1 at *;generalize (tab 49 fun j => (x0.work j).v) = T2 at *;generalize M.load (x0.work i).line = ld at *;generalize x0.get (i : Int) = gg at *;generalize x0.work i = E at *;obtain ⟨a1, a2, a3⟩ := E;simp only at hk;subst hk;simp only [Obj.v, Ent.v] at *;simp only [go_sem, a9, d1, d2];rw [Int.toNat_natCast];simp only [go_sem, g3, hL, d4, d1, d2, hA, hB, hC, hgl, htl];rw [Int.toNat_natCast];simp only [go_sem, g3, hL, d4, d1, d2, hA, hB, hC, hgl, htl];rfl
  ·obtain ⟨q, hq, hq1, hq2, _⟩ := hI.ln c1 hk;have hs := hS q (aM.2 ⟨i, c1, hk, hq⟩);have hld : M.load (x0.work i).line = (x0.M.now q, 0) := by
    rw [hq, wo onM (by rw [hn]; exact hq2), hs]
   have hgt : (x0.get (i : Int)).1.l = x0.M.now q := by
    have h1 : gE x0.work (i : Int) = 0 := by
     unfold gE;rw [if_neg (by omega), Int.toNat_natCast, if_neg hk]
    unfold AS.get;rw [if_neg (by rw [h1]; decide), Int.toNat_natCast, hq, wo on hq2, if_neg (by show ¬ (0 : Int) ≠ 0; decide)]
   rw [hld] at hL;have hve := zO (f := V.int .u64) (fun a => by simp [veq]) (x0.M.now q);clear hld hs;simp only [ep, ab, lnV] at *;generalize tab 49 (fun j => (nu x0 49 j).v) = T1 at *;generalize (tab 49 fun j => (x0.work j).v) = T2 at *;generalize x0.get (i : Int) = gg at *;generalize x0.M.now q = ln at *;generalize x0.work i = E at *;obtain ⟨a1, a2, a3⟩ := E;simp only at hk;simp only [Obj.v, Ent.v] at *;rw [hgt] at g1;simp only [go_sem, a9, d1, d2];rw [Int.toNat_natCast];simp only [go_sem, g1, g3, hL, d4, d1, d2, hA, hB, hC, hgl, htl, hk, hve];rw [Int.toNat_natCast];simp only [go_sem, g1, g3, hL, d4, d1, d2, hA, hB, hC, hgl, htl, hk, hve];rfl
 ·right;have : i = 49 := by omega
  subst this;simp only [ep, ab];simp only [go_sem, a9]
end
end Go.Proofs.YtmimfopnhmmlbaaGreatDoor
namespace Go.Proofs.YtmimfopnhmmlbaaGreatDoor
open Go.Ab
def PD (n : Nat) : AF := ⟨10, n, fun j => if (20 ≤ j ∧ j < 20 + 12) ∨ (10 ≤ j ∧ j < 18) then 1 else 0⟩
theorem Og {A : AF} {n : Nat} (h1 : A.f = 10) (h2 : A.l = n) (h3 : ∀ j, A.st j = if (20 ≤ j ∧ j < 20 + 12) ∨ (10 ≤ j ∧ j < 18) then 1 else 0) : A.left = (PD n).left := by
 unfold AF.left;rw [h1, h2];exact AF.cnt_congr fun j _ _ => by rw [h3 j]; rfl
theorem HZ {x0 x : AS} {b : Sup} (h : Fin x0 b 1 x) (hb : b.ok = true) (h0 : x0.M.S 0 = zl) : hU (x.M.now 0) (x.M.now 1) = (b, 1, true) := by
 have s0 : x.M.now 0 = zl := by rw [(h.img.sur 0 (.inl (by decide))).now, h.low 0 (by decide) (by decide), h0]
 have s1 : x.M.now 1 = aR b := by rw [(h.img.sur 1 (.inl (by decide))).now, h.sup]
 rw [s0, s1];exact Iw hb
theorem HQ {x0 x : AS} {b : Sup} (h : Fin x0 b 1 x) (ks : List Int) : (x.M.crash ks).Ok → (x.M.crash ks).n = x.M.n →
 Lay (x.M.crash ks).n (x.M.crash ks) x0.work x.dir ∧ ∀ j : Nat, ax x0.work j = true → (x.M.crash ks).now j = x0.M.now j := by
 intro hok hn;have hl := h.img.lay;rw [h.base] at hl;rw [hn];refine ⟨hl.sm fun j _ hj => zA hj, fun j hj => ?_⟩;have hsj : Sur x.M j := h.img.sur j (.inr (.inl (by rw [h.base]; exact hj)));have hs := zA (ks := ks) hsj;rw [hs.now, hsj.now, h.old j hj]
theorem law_SnapCommits : ∀ hp vs, G <+: hp → Sh.FitsL hp [(.sl 56 (.st 54 [(.int .i64), (.int .i64), (.int .i64), (.int .u64)])), (.sl 56 (.st 54 [(.int .i64), (.int .i64), (.int .i64), (.int .u64)])), (.int .i64)] vs → ∃ s', rf D cM vs ⟨[], hp⟩ = some (.bool true, s') := by
 intro hp vs hpre hf;obtain ⟨lv, bv, vl, rfl, hv, hw, hlf⟩ := Ke hf;obtain ⟨c1, rfl, hc0, hc1⟩ := CU hlf;obtain ⟨l0, hrs, hlt, hlen, hfit⟩ := vT hv;obtain ⟨l, rfl, hl⟩ := FI (f := Cll.val) (fun x hx => Hg (hfit x hx));obtain ⟨lb0, hrb, hltb, hlenb, hfitb⟩ := vT hw;obtain ⟨lb, rfl, hlb⟩ := FI (f := Cll.val) (fun x hx => Hg (hfitb x hx));have hbv : bv.locLt 0 = true := hrb.locLt;have hlv : lv.locLt 0 = true := hrs.locLt;have hG := KM hpre;obtain ⟨h0, e0, p0⟩ := DJ [] hG;have hG0 := cO p0 hG;obtain ⟨h1, wk, a, m, fr, A', Fm, e1, W1, I1, _, _, a1, a2, a3, p1, b1⟩ := FZ (c := 12) (n := 400) [] hG0 (by omega) (by omega) (by omega);have e1 : rf D bY [.int .i64 400, .int .i64 12] ⟨[], h0⟩ = some (.tup [.ptr (.hp m) [] 59, .ptr (.hp a) [] 43, .ptr (.hp wk) [] 61], ⟨[], h1⟩) := e1;have on0 : (am0 400 (imL 12)).On := FB _ _;have hleft : 200 ≤ A'.left := by
  rw [Og a1 a2 a3];decide +kernel
 have img0 := ON (c := 12) (n := 400) (by omega) (by omega) I1 a1 a3;generalize hx0 : as0 (am0 400 (imL 12)) A' (ay 12) bf = x0 at *;have xM : x0.M = am0 400 (imL 12) := by rw [← hx0]; rfl
 have xA : x0.A = A' := by rw [← hx0]; rfl
 have xi : x0.is = false := by rw [← hx0]; rfl
 have hc : x0.M.count = 0 := by rw [xM]; rfl
 have hz0 : x0.M.S 0 = zl := by rw [xM]; rfl
 have pp : hp <+: h1 := p0.trans p1;have bb : mY hp.length (WkF wk a fr Fm yf) := fun j hj => by have := b1 j hj; have := p0.length_le; omega
 obtain ⟨h2, F2, x2, j2, e2, W2, C2, p2, b2⟩ := GI (x0 := x0) hl hbv hrs c1 (min l.length 20) 0 (by omega) W1 ⟨img0, by show x0.M.On; rw [xM]; exact on0, rfl, by show x0.M.count ≤ _; omega, by show x0.A.left ≤ x0.A.left + 0; omega, fun _ _ => rfl⟩ (by omega) pp bb;rw [show ((0 : Nat) : Int) = 0 from rfl] at e2
 have eT := fun L => Bz W2.q L;obtain ⟨T, hT⟩ : ∃ T, T = tab 49 fun i => (x2.work i).v := ⟨_, rfl⟩;have hTl : ∀ n, a8 n (.rw (.agg 48 T)) = true := by
  intro n;rw [hT];simp only [Ent.v];simp only [go_sem]
 have e3 := Oa W2 c1 hbv T (hTl 2);have hk := fun s => mf c1 1000 hc0 hc1 (by decide) s;have hkr := iR c1 (n := 1000) (by decide);have hBg : uo (aw0 x0 b11 0).b (aw0 x0 b11 0).slot (kd c1 1000) := Hr (by omega);obtain ⟨d7, hd7, hd7a, hd7b, _⟩ := C2.img.dl 7 (by decide);obtain ⟨k0, k1, k2, k3, k4, k5, k6⟩ := w5 (w := { aw0 x0 b11 0 with x := x2 }) (seq := kd c1 1000) C2.img.inv C2.on C2.img.is rfl C2.img.f hBg (by have := C2.img.inv.ok.M.n1; show 0 ≤ x2.dir 7 ∧ x2.dir 7 ≤ 1023; omega);have hCk := C2.img.begin (w := { aw0 x0 b11 0 with x := x2 }) (kd c1 1000);obtain ⟨h4, G4, v4, e4, W4, cg4⟩ := ur W2 (kd c1 1000) [.rw (.agg 48 T), .rw (ep x2 49)];simp only at k0 k1 k4 k5 k6;rw [show ({ aw0 x0 b11 0 with x := x2 } : AW).begin (kd c1 1000) = _ from k0] at e4 W4
 simp only at e4 W4;obtain ⟨p4, b4⟩ := cg4.pre p2 b2;obtain ⟨nn, hnn⟩ : ∃ nn, (({ aw0 x0 b11 0 with x := x2 } : AW).begun (kd c1 1000)).st.length = nn + 1 := by
  obtain ⟨S, q, _⟩ := k1.st;rw [q]; exact ⟨S.length, by simp⟩
 have eL := fun L => nS W4 L;rw [hnn] at eL k2;have hgl := Cx x2 49;obtain ⟨h5, F5, G5, v5, wf, dd, e5, W5, hF, hcf⟩ := LJ (k := kd c1 1000) (x0 := x2) hBg rfl hbv hlb hrb (.rw (.agg 48 T)) (.rw (ep x2 49)) (hTl 2) (hgl 2) C2.img.gw k2 nn 0 hnn (by omega) W4 k1 hCk (by rw [k4]; exact C2.img.gw) (by rw [k5]; have := C2.left; rw [xA] at this; omega) (by rw [k6]; have := C2.cnt; omega) p4 b4;rw [show ((0 : Nat) : Int) = 0 from rfl] at e5
 have hbb : (⟨(aw0 x0 b11 0).b.gen + 1, dd, kd c1 1000, (aw0 x0 b11 0).b.cores⟩ : Sup).ok = true := by
  have hr : dd = wf.x.dir 7 := hF.root.symm;obtain ⟨q7, hq7, hq7a, hq7b, _⟩ := hF.img.dl 7 (by decide);have := hF.img.inv.ok.M.n1;show (win 2 1 1099511627776 && (win dd 0 1023 && (win (kd c1 1000) 0 1099511627776 && win 1 1 8))) = true;unfold win;simp only [Bool.and_eq_true, decide_eq_true_eq];omega
 have e6 := fun L => xQ W5.q.mp L;have hbest := HZ hF hbb ((C2.low 0 (by decide)).trans hz0);rw [hbest, if_neg (by rw [hF.on.off]; simp), if_pos rfl] at e6;obtain ⟨h7, F7, e7, M7, cg7⟩ := Bl W5.q.mp (by omega) (ix.nil (hp := h5) (F := F5)) (by simp) (by simp) [.rw (.agg 48 T), .rw (ep x2 49), .rw (.agg 44 [.int .i64 2, .int .i64 dd, .int .i64 (kd c1 1000), .int .i64 1])];have hcn : (wf.x.M.crash []).n = wf.x.M.n := (qe wf.x.M.n 0 (M := wf.x.M) (ks := [])).1;obtain ⟨lay, hsame⟩ := HQ hF [] M7.ok hcn;obtain ⟨l1, l2, l3⟩ := lay.loads M7.ok;have hon7 : (wf.x.M.crash []).On := ⟨rfl, rfl⟩;obtain ⟨X, e8⟩ := xX M7 10 (wf.x.dir 7) (fun _ _ => l3) [.rw (.agg 48 T), .rw (ep x2 49), .rw (.agg 44 [.int .i64 2, .int .i64 dd, .int .i64 (kd c1 1000), .int .i64 1])];rw [if_neg (by rw [hon7.off]; simp), if_pos l1] at e8;have hr : wf.x.dir 7 = dd := hF.root;rw [hr] at e8;have htab : ab (ldT (wf.x.M.crash []) ((wf.x.M.crash []).now dd.toNat)) = .agg 48 T := by
  rw [hT];unfold ab;congr 1;exact aI fun j hj => by rw [← hr, l2 j hj]
 rw [htab] at e8;have e9 := LU (M7.snoc X) hon7 C2.img.inv C2.on (hcn.trans hF.n) hsame (.rw (.agg 48 T)) (.rw (.agg 44 [.int .i64 2, .int .i64 dd, .int .i64 (kd c1 1000), .int .i64 1])) (.rw (d7V (av ((wf.x.M.crash []).now dd.toNat)))) (hTl 5) rfl (uR (n := 5) (f := av ((wf.x.M.crash []).now dd.toNat)));have hve : bB T T = some true := by rw [hT]; exact JJ x2.work
 have z0 : V.agg 30 (List.replicate 49 (.agg 26 [.int .i64 0, .int .i64 0, .agg 24 (List.replicate 8 (.int .u64 0))])) = ep x2 0 := by
  rw [bF];unfold ep;congr 1
 refine ⟨⟨[], h7 ++ X⟩, ?_⟩;simp only [ab] at eT e9;rw [← hT] at eT e9;clear W1 W2 W4 W5 k1 C2 hrs hfit hrb hfitb hF hCk lay hsame hT l1 l2 l3 htab;simp only at e3 eT;have w1 : (ep x2 49).tag = 30 := rfl;have w0 : (ep x2 0).tag = 30 := rfl;have w7 : (d7V (av ((wf.x.M.crash []).now dd.toNat))).tag = 60 := rfl;have hdl : ∀ n, V.locLt n (d7V (av ((wf.x.M.crash []).now dd.toNat))) = true := fun n => uR;generalize ep x2 49 = GV at *;generalize ep x2 0 = GZ at *;generalize d7V (av ((wf.x.M.crash []).now dd.toNat)) = DV at *;generalize wf.x.M.crash [] = MC at *;simp only [Sup.v, aw0, b11] at *;rw [ae lH rfl];simp only [go_sem, e0, e1];simp only [go_sem, e2];simp only [go_sem, eT, z0];simp only [go_sem, e3, w0];have d59 : ¬ (59 : Int) < ((nn + 1 : Nat) : Int) := by omega
 simp only [go_sem, hk, e4, eL, d59];simp only [go_sem, e5];simp only [go_sem, e6, e7];simp only [go_sem, e8, w7, hve];simp only [go_sem, e9]
end Go.Proofs.YtmimfopnhmmlbaaGreatDoor
