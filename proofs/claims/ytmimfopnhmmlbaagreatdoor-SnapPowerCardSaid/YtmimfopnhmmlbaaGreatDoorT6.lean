/-
  YtmimfopnhmmlbaaGreatDoorT6: what functions of the program compute (CrcB, RadC, DurA, LodA, LodB, LodC, SupB, MemC, DurB, DurC, DurD, DurE, DurF, DurG, DurH, DurI, RefE, ComA, ComB, ComC, ComD, PowA, PowB, PowC, PowD, PowE).
-/
import Derived.Test.YtmimfopnhmmlbaaGreatDoorT4
import Derived.Test.YtmimfopnhmmlbaaGreatDoorT5
set_option maxRecDepth 100000
namespace Go.Proofs.YtmimfopnhmmlbaaGreatDoor
open Go.Ab
theorem Cx {k : IntKind} : ∀ {A B : List Int}, A.length = B.length → bB (A.map (.int k)) (B.map (.int k)) = some (decide (A = B))
 | [], [], _ => by simp [bB]
 | a :: A, b :: B, h => by
  have ih := Cx (k := k) (A := A) (B := B) (by simpa using h);simp only [List.map_cons, bB, veq, if_true, ih];by_cases hab : a = b
  ·subst hab; simp
  ·simp [hab]
 | [], _ :: _, h => by simp at h
 | _ :: _, [], h => by simp at h
theorem Gy {a b : List Int} (h : a.length = b.length) : veq (.agg 24 (a.map (.int .u64))) (.agg 24 (b.map (.int .u64))) = some (decide (a = b)) := by
 have := Cx (k := .u64) h;show (if 24 = 24 then bB _ _ else none) = _
 rw [if_pos rfl]; exact this
theorem tU {l : List Int} (hl : l.length = 8) (s : St) : rf D qz [lnV l] s = some (.bool (decide (l = bi l)), s) := by
 have hs := fun s => mc hl s;have he := Gy (a := l) (b := bi l) (by rw [oo]);simp only [lnV] at *;generalize bi l = Z at *;rw [ae E8 rfl];simp only [go_sem, hs, he]
def gT (w : Nat) : Ent := ⟨(w % 16 : Nat), (w / 16 % 16777216 : Nat), (w / 268435456 % 65536 : Nat)⟩
def qn (w : Nat) : Bool := bF (gT w) && decide (jQ (gT w) = w)
theorem oJ {a b : Nat} (hb : 1 ≤ b) (hab : a + b ≤ 63) (hm : 18446744073709551615 / 2 ^ (64 - b) = 2 ^ b - 1) (hb2 : b ≤ 40) {L hp : List Blk} {w : Nat} (h7 : w < 18446744073709551616) (X : List Blk) :
 rf D fV [.int .i64 a, .int .i64 b, .ptr (.loc L.length) [] 18] ⟨L ++ .rw (.int .u64 w) :: X, hp⟩ = some (.int .i64 (w / 2 ^ a % 2 ^ b : Nat), ⟨L ++ .rw (.int .u64 w) :: X, hp⟩) := by
 have hf := fun s => GC (w := w) hb (show a + b ≤ 64 by omega) h7 hm s;have hlt : w / 2 ^ a % 2 ^ b < 2 ^ 40 := Nat.lt_of_lt_of_le (Nat.mod_lt _ (Nat.two_pow_pos b)) (Nat.pow_le_pow_right (by decide) hb2);have e1 : IntKind.i64.wrap ((w / 2 ^ a % 2 ^ b : Nat) : Int) = (w / 2 ^ a % 2 ^ b : Nat) := ag (by omega) (by omega);generalize w / 2 ^ a % 2 ^ b = z at *;have hrd : (L ++ .rw (.int .u64 w) :: X)[L.length]? = some (.rw (.int .u64 w)) := by
  rw [List.getElem?_append_right (Nat.le_refl _), Nat.sub_self]; rfl
 generalize L ++ .rw (.int .u64 w) :: X = L2 at *;rw [ae zK rfl];simp only [go_sem, hrd, hf, e1]
theorem Ce {w : Nat} (hw : w < 18446744073709551616) (s : St) : rf D nl [.int .u64 w] s = some (.tup [if qn w = true then (gT w).v else az.v, .bool (qn w)], s) := by
 have f1 := fun X => oJ (a := 0) (b := 4) (by decide) (by decide) (by decide) (by decide) (L := s.loc) (hp := s.hp) hw X;have f2 := fun X => oJ (a := 4) (b := 24) (by decide) (by decide) (by decide) (by decide) (L := s.loc) (hp := s.hp) hw X;have f3 := fun X => oJ (a := 28) (b := 16) (by decide) (by decide) (by decide) (by decide) (L := s.loc) (hp := s.hp) hw X;simp only [show w / 2 ^ 0 % 2 ^ 4 = w % 16 by omega, show w / 2 ^ 4 % 2 ^ 24 = w / 16 % 16777216 by omega, show w / 2 ^ 28 % 2 ^ 16 = w / 268435456 % 65536 by omega] at f1 f2 f3;unfold qn;have key : ∀ k v l : Int, gT w = ⟨k, v, l⟩ → (∀ X, rf D fV [.int .i64 0, .int .i64 4, .ptr (.loc s.loc.length) [] 18] ⟨s.loc ++ .rw (.int .u64 w) :: X, s.hp⟩ = some (.int .i64 k, ⟨s.loc ++ .rw (.int .u64 w) :: X, s.hp⟩)) →
  (∀ X, rf D fV [.int .i64 4, .int .i64 24, .ptr (.loc s.loc.length) [] 18] ⟨s.loc ++ .rw (.int .u64 w) :: X, s.hp⟩ = some (.int .i64 v, ⟨s.loc ++ .rw (.int .u64 w) :: X, s.hp⟩)) →
  (∀ X, rf D fV [.int .i64 28, .int .i64 16, .ptr (.loc s.loc.length) [] 18] ⟨s.loc ++ .rw (.int .u64 w) :: X, s.hp⟩ = some (.int .i64 l, ⟨s.loc ++ .rw (.int .u64 w) :: X, s.hp⟩)) →
  rf D nl [.int .u64 w] s = some (.tup [if (bF (gT w) && decide (jQ (gT w) = w)) = true then (gT w).v else az.v, .bool (bF (gT w) && decide (jQ (gT w) = w))], s) := by
  intro k v l he f1 f2 f3;have hW := fun s => qR (gT w) s;unfold wZ at hW;rw [he] at hW ⊢;cases hb : bF ⟨k, v, l⟩ with
  | false =>
   rw [hb] at hW;simp only [Bool.false_eq_true, if_false, Bool.false_and, Ent.v, az] at hW ⊢;rw [ae wj rfl];simp only [go_sem, f1, f2, f3, hW]
  | true =>
   rw [hb] at hW;simp only [if_true, Bool.true_and, Ent.v, az] at hW ⊢;generalize jQ ⟨k, v, l⟩ = z at *;rw [ae wj rfl];by_cases hzw : z = (w : Int)
   ·simp only [go_sem, f1, f2, f3, hW, hzw]
   ·simp only [go_sem, f1, f2, f3, hW, hzw]
 exact key _ _ _ rfl f1 f2 f3
end Go.Proofs.YtmimfopnhmmlbaaGreatDoor
namespace Go.Proofs.YtmimfopnhmmlbaaGreatDoor
open Go.Ab
def rdv (l : List Int) (j : Nat) : Int := eX .u64 (l.getD j 0) 4294967296
def rdN (l : List Int) (j : Nat) : Int := IntKind.i64.wrap (rdv l j)
def uv (l : List Int) (i n : Nat) : Bool := (List.range n).all fun j => decide (rdv l (i + j) < 1024)
theorem FN (l : List Int) (i n : Nat) : uv l i (n + 1) = (decide (rdv l i < 1024) && uv l (i + 1) n) := by
 have e : (fun j => decide (rdv l (i + j) < 1024)) ∘ Nat.succ = fun j => decide (rdv l (i + 1 + j) < 1024) := by
  funext j;show decide (rdv l (i + (j + 1)) < 1024) = _;rw [show i + (j + 1) = i + 1 + j by omega]
 unfold uv;rw [List.range_succ_eq_map, List.all_cons, List.all_map, e];rfl
def iJ (f : Nat → Int) (i j : Nat) : Int := if j < i then f j else 0
theorem Jz {f : Nat → Int} {n i : Nat} : (tab n fun j => V.int .i64 (iJ f i j)).set i (.int .i64 (f i)) = tab n fun j => .int .i64 (iJ f (i + 1) j) := by
 rw [bA];apply aE;intro j _;unfold upd iJ;by_cases e : j = i
 ·subst e; rw [if_pos rfl, if_pos (by omega)]
 ·rw [if_neg e];show V.int _ _ = V.int _ _;by_cases h : j < i
  ·rw [if_pos h, if_pos (by omega)]
  ·rw [if_neg h, if_neg (by omega)]
theorem wH {f : Nat → Int} : d7V (iJ f 0) = .agg 60 (List.replicate 7 (.int .i64 0)) := by
 unfold d7V; rw [bH]; congr 1
theorem tI {l : List Int} (hl : l.length = 8) (L hp : List Blk) : ∀ (n i : Nat), i + n = 7 → ∃ r,
 rc D L.length (.loop [1, 2, 4, 11] dg) [(1, .ptr (.loc L.length) [] 24), (2, .ptr (.loc (L.length + 1)) [] 60), (4, .ptr (.loc (L.length + 2)) [] 60), (11, .int .i64 i)] ⟨L ++ [.rw (lnV l), .rw (d7V (iJ (rdN l) 0)), .rw (d7V (iJ (rdN l) i))], hp⟩ = some r ∧
 ((uv l i n = true ∧ r = (.exit 0, [(1, .ptr (.loc L.length) [] 24), (2, .ptr (.loc (L.length + 1)) [] 60), (4, .ptr (.loc (L.length + 2)) [] 60), (11, .int .i64 7), (12, .bool false)], ⟨L ++ [.rw (lnV l), .rw (d7V (iJ (rdN l) 0)), .rw (d7V (iJ (rdN l) 7))], hp⟩)) ∨
  (uv l i n = false ∧ ∃ X, r = (.ret, [(2, .ptr (.loc (L.length + 1)) [] 60), (3, .bool false)], ⟨L ++ [.rw (lnV l), .rw (d7V (iJ (rdN l) 0)), X], hp⟩)))
 | 0, i, hi => by
  have : i = 7 := by omega
  subst this;refine ⟨_, ?_, .inl ⟨rfl, rfl⟩⟩;rw [ah];simp only [d7V, lnV];simp only [go_sem, dg]
 | n + 1, i, hi => by
  have d1 : (i : Int) < 7 := by omega
  have d2 : (0 : Int) ≤ i := by omega
  have d3 : (i : Int) < 8 := by omega
  have d4 : IntKind.i64.wrap ((i : Int) + 1) = ((i + 1 : Nat) : Int) := ag (by omega) (by omega);have g1 := al (f := fun j => V.int .i64 (iJ (rdN l) i j)) (show i < 7 by omega);have g2 : (l.map (V.int .u64))[i]? = some (.int .u64 (l.getD i 0)) := aS (by omega) 0;have z1 : L.length < L.length + 3 := by omega
  have z3 : L.length + 1 < L.length + 3 := by omega
  have z4 : L.length + 2 < L.length + 3 := by omega
  have hs := Jz (f := rdN l) (n := 7) (i := i);have hr : eX .u64 (l.getD i 0) 4294967296 = rdv l i := rfl;have hN : rdN l i = IntKind.i64.wrap (rdv l i) := rfl;rw [FN];by_cases h1 : rdv l i < 1024
  ·obtain ⟨r, q1, q2⟩ := tI hl L hp n (i + 1) (by omega);refine ⟨r, ?_, by rw [decide_eq_true h1]; exact q2⟩;have h1' : ¬ rdv l i ≥ 1024 := by omega
   rw [← q1, ah];simp only [d7V, lnV] at *;rw [← hs, hN];generalize (tab 7 fun j => V.int .i64 (iJ (rdN l) i j)) = T at *;generalize (tab 7 fun j => V.int .i64 (iJ (rdN l) 0 j)) = T0 at *;generalize l.getD i 0 = w0 at *;generalize rdv l i = x at *;simp only [go_sem, dg, d1, d2, d3, d4, Int.toNat_natCast, g1, g2, hr, h1', z1, z3, z4]
  ·refine ⟨_, ?_, .inr ⟨by rw [decide_eq_false h1]; rfl, .rw (d7V (iJ (rdN l) i)), rfl⟩⟩;have h1' : rdv l i ≥ 1024 := by omega
   rw [ah];simp only [d7V, lnV] at *;generalize (tab 7 fun j => V.int .i64 (iJ (rdN l) i j)) = T at *;generalize (tab 7 fun j => V.int .i64 (iJ (rdN l) 0 j)) = T0 at *;generalize l.getD i 0 = w0 at *;generalize rdv l i = x at *;simp only [go_sem, dg, d1, d2, d3, Int.toNat_natCast, g2, hr, h1', z1, z3, z4]
def kI (l : List Int) : Bool := decide (l = bi l) && uv l 0 7
def av (l : List Int) (j : Nat) : Int := if kI l = true then rdN l j else 0
theorem BT {l : List Int} (hl : l.length = 8) (s : St) : rf D jT [lnV l] s = some (.tup [d7V (av l), .bool (kI l)], s) := by
 have hg := fun s => tU hl s;have hfin : d7V (iJ (rdN l) 7) = d7V (rdN l) := by
  unfold d7V; congr 1
 have hzero : d7V (iJ (rdN l) 0) = d7V (fun _ => 0) := by
  unfold d7V; congr 1
 obtain ⟨r, q1, q2⟩ := tI hl s.loc s.hp 7 0 rfl;rw [show ((0 : Nat) : Int) = 0 from rfl] at q1
 rw [show d7V (av l) = if kI l = true then d7V (rdN l) else d7V (fun _ => 0) by unfold d7V av; split <;> rfl]
 unfold kI;by_cases c0 : l = bi l
 ·rw [decide_eq_true c0] at hg ⊢;rw [Bool.true_and];rcases q2 with ⟨c, rfl⟩ | ⟨c, X, rfl⟩
  ·rw [c, if_pos rfl, ← hfin];rw [wH] at q1;simp only [lnV] at *;have hz : (d7V fun _ => (0 : Int)) = .agg 60 (List.replicate 7 (.int .i64 0)) := by unfold d7V; rw [bH]
   simp only [d7V] at *;rw [ae jR rfl];simp only [go_sem, hg, q1]
  ·rw [c, if_neg (by simp), ← hzero];rw [wH] at *;simp only [lnV] at *;rw [ae jR rfl];simp only [go_sem, hg, q1]
 ·rw [decide_eq_false c0] at hg ⊢;rw [Bool.false_and, if_neg (by simp), ← hzero, wH];simp only [lnV] at *;rw [ae jR rfl];simp only [go_sem, hg]
def rY (w : Int) : Ent := gT w.toNat
def rdl (l : List Int) (j : Nat) : Bool := qn (l.getD j 0).toNat
def uT (l : List Int) (i n : Nat) : Bool := (List.range n).all fun j => rdl l (i + j)
theorem Gl (l : List Int) (i n : Nat) : uT l i (n + 1) = (rdl l i && uT l (i + 1) n) := by
 have e : (fun j => rdl l (i + j)) ∘ Nat.succ = fun j => rdl l (i + 1 + j) := by
  funext j;show rdl l (i + (j + 1)) = _;rw [show i + (j + 1) = i + 1 + j by omega]
 unfold uT;rw [List.range_succ_eq_map, List.all_cons, List.all_map, e];rfl
def lvE (l : List Int) (i j : Nat) : Ent := if j < i then rY (l.getD j 0) else az
def lvV (f : Nat → Ent) : V := .agg 94 (tab 7 fun j => (f j).v)
theorem Mx {l : List Int} {i : Nat} : (tab 7 fun j => (lvE l i j).v).set i (rY (l.getD i 0)).v = tab 7 fun j => (lvE l (i + 1) j).v := by
 rw [bA];apply aE;intro j _;unfold upd lvE;by_cases e : j = i
 ·subst e; rw [if_pos rfl, if_pos (by omega)]
 ·rw [if_neg e];show Ent.v _ = Ent.v _;by_cases h : j < i
  ·rw [if_pos h, if_pos (by omega)]
  ·rw [if_neg h, if_neg (by omega)]
theorem sV {l : List Int} : lvV (lvE l 0) = .agg 94 (List.replicate 7 (.agg 42 [.int .i64 0, .int .i64 0, .int .i64 0])) := by
 unfold lvV; rw [bH]; congr 1
theorem tR {l : List Int} (hl : l.length = 8) (hw : ∀ x ∈ l, 0 ≤ x ∧ x < 18446744073709551616) (L hp : List Blk) : ∀ (n i : Nat), i + n = 7 → ∃ r,
 rc D L.length (.loop [1, 2, 4, 10] c8) [(1, .ptr (.loc L.length) [] 24), (2, .ptr (.loc (L.length + 1)) [] 94), (4, .ptr (.loc (L.length + 2)) [] 94), (10, .int .i64 i)] ⟨L ++ [.rw (lnV l), .rw (lvV (lvE l 0)), .rw (lvV (lvE l i))], hp⟩ = some r ∧
 ((uT l i n = true ∧ r = (.exit 0, [(1, .ptr (.loc L.length) [] 24), (2, .ptr (.loc (L.length + 1)) [] 94), (4, .ptr (.loc (L.length + 2)) [] 94), (10, .int .i64 7), (11, .bool false)], ⟨L ++ [.rw (lnV l), .rw (lvV (lvE l 0)), .rw (lvV (lvE l 7))], hp⟩)) ∨
  (uT l i n = false ∧ ∃ X, r = (.ret, [(2, .ptr (.loc (L.length + 1)) [] 94), (3, .bool false)], ⟨L ++ [.rw (lnV l), .rw (lvV (lvE l 0)), X], hp⟩)))
 | 0, i, hi => by
  have : i = 7 := by omega
  subst this;refine ⟨_, ?_, .inl ⟨rfl, rfl⟩⟩;rw [ah];simp only [lvV, lnV];simp only [go_sem, c8]
 | n + 1, i, hi => by
  have d1 : (i : Int) < 7 := by omega
  have d2 : (0 : Int) ≤ i := by omega
  have d3 : (i : Int) < 8 := by omega
  have d4 : IntKind.i64.wrap ((i : Int) + 1) = ((i + 1 : Nat) : Int) := ag (by omega) (by omega);have g1 := al (f := fun j => (lvE l i j).v) (show i < 7 by omega);have g2 : (l.map (V.int .u64))[i]? = some (.int .u64 (l.getD i 0)) := aS (by omega) 0;have hwi := hw (l.getD i 0) (by rw [List.getD_eq_getElem?_getD, List.getElem?_eq_getElem (by omega)]; exact List.getElem_mem _);have he := fun s => Ce (w := (l.getD i 0).toNat) (by omega) s;rw [show (((l.getD i 0).toNat : Nat) : Int) = l.getD i 0 by omega] at he;have z1 : L.length < L.length + 3 := by omega
  have z3 : L.length + 1 < L.length + 3 := by omega
  have z4 : L.length + 2 < L.length + 3 := by omega
  have hs := Mx (l := l) (i := i);rw [Gl];have hb : qn (l.getD i 0).toNat = rdl l i := rfl;rw [hb] at he;cases hc : rdl l i with
  | true =>
   obtain ⟨r, q1, q2⟩ := tR hl hw L hp n (i + 1) (by omega);refine ⟨r, ?_, by rw [Bool.true_and]; exact q2⟩;rw [hc, if_pos rfl, show gT (l.getD i 0).toNat = rY (l.getD i 0) from rfl] at he
   rw [← q1, ah];simp only [lvV, lnV] at *;rw [← hs];generalize hE : rY (l.getD i 0) = E at *;generalize hE0 : lvE l i i = E0 at *;obtain ⟨a1, a2, a3⟩ := E;obtain ⟨b1, b2, b3⟩ := E0;generalize (tab 7 fun j => (lvE l i j).v) = T at *;generalize (tab 7 fun j => (lvE l 0 j).v) = T0 at *;generalize l.getD i 0 = w0 at *;simp only [Ent.v] at *;simp only [go_sem, c8, d1, d2, d3, d4, Int.toNat_natCast, g1, g2, he, z1, z3, z4]
  | false =>
   rw [hc, if_neg (by simp)] at he;refine ⟨_, ?_, .inr ⟨by rw [Bool.false_and], .rw (.agg 94 ((tab 7 fun j => (lvE l i j).v).set i az.v)), rfl⟩⟩;rw [ah];simp only [lvV, lnV] at *;generalize hE0 : lvE l i i = E0 at *;obtain ⟨b1, b2, b3⟩ := E0;generalize (tab 7 fun j => (lvE l i j).v) = T at *;generalize (tab 7 fun j => (lvE l 0 j).v) = T0 at *;generalize l.getD i 0 = w0 at *;simp only [Ent.v, az] at *;simp only [go_sem, c8, d1, d2, d3, d4, Int.toNat_natCast, g1, g2, he, z1, z3, z4]
def jL (l : List Int) : Bool := decide (l = bi l) && uT l 0 7
def jA (l : List Int) (j : Nat) : Ent := if jL l = true then rY (l.getD j 0) else az
theorem BE {l : List Int} (hl : l.length = 8) (hw : ∀ x ∈ l, 0 ≤ x ∧ x < 18446744073709551616) (s : St) : rf D jZ [lnV l] s = some (.tup [lvV (jA l), .bool (jL l)], s) := by
 have hg := fun s => tU hl s;have hfin : lvV (lvE l 7) = lvV (fun j => rY (l.getD j 0)) := by
  unfold lvV; congr 1
 have hzero : lvV (lvE l 0) = lvV (fun _ => az) := by
  unfold lvV; congr 1
 obtain ⟨r, q1, q2⟩ := tR hl hw s.loc s.hp 7 0 rfl;rw [show ((0 : Nat) : Int) = 0 from rfl] at q1
 rw [show lvV (jA l) = if jL l = true then lvV (fun j => rY (l.getD j 0)) else lvV (fun _ => az) by unfold lvV jA; split <;> rfl]
 unfold jL;by_cases c0 : l = bi l
 ·rw [decide_eq_true c0] at hg ⊢;rw [Bool.true_and];rcases q2 with ⟨c, rfl⟩ | ⟨c, X, rfl⟩
  ·rw [c, if_pos rfl, ← hfin];rw [sV] at q1;simp only [lnV] at *;have hz : lvV (fun _ => az) = .agg 94 (List.replicate 7 (.agg 42 [.int .i64 0, .int .i64 0, .int .i64 0])) := by rw [← hzero, sV]
   simp only [lvV] at *;rw [ae jV rfl];simp only [go_sem, hg, q1]
  ·rw [c, if_neg (by simp), ← hzero];rw [sV] at *;simp only [lnV] at *;rw [ae jV rfl];simp only [go_sem, hg, q1]
 ·rw [decide_eq_false c0] at hg ⊢;rw [Bool.false_and, if_neg (by simp), ← hzero, sV];simp only [lnV] at *;rw [ae jV rfl];simp only [go_sem, hg]
end Go.Proofs.YtmimfopnhmmlbaaGreatDoor
namespace Go.Proofs.YtmimfopnhmmlbaaGreatDoor
open Go.Ab
structure Sm (M M' : AM) (j : Nat) : Prop where
 L : M'.L j = M.L j
 S : M'.S j = M.S j
theorem Sm.refl (M : AM) (j : Nat) : Sm M M j := ⟨rfl, rfl⟩
theorem Sm.trans {M M' M'' : AM} {j : Nat} (h : Sm M M' j) (h' : Sm M' M'' j) : Sm M M'' j := ⟨h'.L.trans h.L, h'.S.trans h.S⟩
theorem Sm.now {M M' : AM} {j : Nat} (h : Sm M M' j) : M'.now j = M.now j := by unfold AM.now; rw [h.L, h.S]
def Sur (M : AM) (j : Nat) : Prop := M.L j = []
def Fl (M : AM) (j : Nat) : Prop := flN 0 (M.L j) = (M.L j).length
theorem Sur.fl {M : AM} {j : Nat} (h : Sur M j) : Fl M j := by unfold Fl; rw [h]; rfl
theorem Sur.now {M : AM} {j : Nat} (h : Sur M j) : M.now j = M.S j := by unfold AM.now; rw [h]; rfl
theorem Sm.sur {M M' : AM} {j : Nat} (h : Sm M M' j) (hs : Sur M j) : Sur M' j := h.L.trans hs
theorem Sm.fl {M M' : AM} {j : Nat} (h : Sm M M' j) (hs : Fl M j) : Fl M' j := by unfold Fl; rw [h.L]; exact hs
theorem vc {M : AM} {j : Nat} : Sm M M.out j := ⟨rfl, rfl⟩
theorem qE {M : AM} {i q v : Int} {j : Nat} (h : j ≠ i.toNat) : Sm M (M.store i q v).1 j := by
 unfold AM.store;split
 ·exact .refl _ _
 ·split
  ·exact vc
  ·exact ⟨by simp only [AM.push, AM.stepped]; exact ao h, rfl⟩
theorem nj {at' : Int} {l : List Int} {j : Nat} (h : j ≠ at'.toNat) : ∀ (n i : Nat) (M : AM), Sm M (M.layFrom at' l i n).1 j
 | 0, _, M => .refl M j
 | n + 1, i, M => by
  unfold AM.layFrom;split
  ·exact qE h
  ·exact (qE h).trans (nj h n (i + 1) _)
theorem zT {M : AM} {c i : Int} {j : Nat} (h : j ≠ i.toNat) : Sm M (M.flush c i).1 j := by
 unfold AM.flush;split
 ·exact .refl _ _
 ·split
  ·exact vc
  ·exact ⟨by simp only [AM.flushed, AM.stepped]; exact ao h, rfl⟩
theorem qv {M : AM} {i n j : Nat} (h : j ≠ i) : Sm M (M.sureN i n) j := ⟨by simp only [AM.sureN]; exact ao h, by simp only [AM.sureN]; exact ao h⟩
theorem oS {M : AM} {c j : Nat} : ∀ i, i ≤ j → Sm M (M.fencedTo c i) j
 | 0, _ => .refl M j
 | i + 1, h => (oS i (by omega)).trans (qv (by omega))
theorem oP {M : AM} {c j : Nat} : ∀ i, j < i → (M.fencedTo c i).L j = (M.L j).drop (flN c (M.L j)) ∧ (M.fencedTo c i).S j = am (M.S j) ((M.L j).take (flN c (M.L j)))
 | 0, h => by omega
 | i + 1, h => by
  by_cases e : j = i
  ·subst e;have hs := oS (M := M) (c := c) (j := j) j (Nat.le_refl _);simp only [AM.fencedTo, AM.sureN, aj, hs.L, hs.S, and_self]
  ·have := oP (M := M) (c := c) i (show j < i by omega);have h2 := qv (M := M.fencedTo c i) (n := flN c ((M.fencedTo c i).L i)) e;exact ⟨h2.L.trans this.1, h2.S.trans this.2⟩
theorem D6 {M : AM} {c i j : Nat} (h : Sur M j) : Sm M (M.fencedTo c i) j := by
 by_cases hj : j < i
 ·have := oP (M := M) (c := c) i hj;have e : M.L j = [] := h;rw [e] at this;exact ⟨by rw [e]; exact this.1, this.2⟩
 ·exact oS i (by omega)
theorem Fe {M : AM} {i j : Nat} (h : Fl M j) (hj : j < i) : Sur (M.fencedTo 0 i) j := by
 have := (oP (M := M) (c := 0) i hj).1;rw [show flN 0 (M.L j) = (M.L j).length from h, List.drop_length] at this
 exact this
theorem uI {M : AM} {c : Int} {j : Nat} (h : Sur M j) : Sm M (M.fence c).1 j := by
 unfold AM.fence;split
 ·exact .refl _ _
 ·split
  ·exact vc
  ·have h2 : Sur M.stepped j := h;exact Sm.trans (M' := M.stepped) ⟨rfl, rfl⟩ (D6 h2)
theorem wt {M : AM} {i : Nat} : Fl (M.flushed 0 i) i := by
 unfold Fl AM.flushed;simp only [aj, AE, List.length_map]
structure Kp (x : AS) (j : Nat) : Prop where
 k : j < x.A.f ∨ (x.A.st j = 1 ∧ (x.sh j = true ∨ ax x.work j = false))
theorem vk {x : AS} (h : x.A.Ok) {l : List Int} {j : Nat} (hj : j < x.A.f ∨ x.A.st j = 1) : Sm x.M (x.lay l).1.M j := by
 unfold AS.lay;split
 ·exact .refl _ _
 ·cases hf : x.A.first with
  | none =>
   rename_i hne;have ha : x.A.alloc = (x.A, 0, 10) := by unfold AF.alloc; rw [hf]
   rw [ha] at hne;simp at hne
  | some k =>
   obtain ⟨h1, h2, h3, _⟩ := jc h hf;have ha : x.A.alloc = (x.A.put k 1, (k : Int), 0) := by unfold AF.alloc; rw [hf]
   rw [ha];simp only;refine nj ?_ 8 0 x.M;rw [Int.toNat_natCast];rintro rfl;rcases hj with hj | hj
   ·omega
   ·rw [h3] at hj; cases hj
theorem Kp.one {x : AS} {j : Nat} (h : Kp x j) : j < x.A.f ∨ x.A.st j = 1 := h.k.imp id fun h => h.1
theorem Og {x : AS} (h : Inv x) {id word v : Int} {j : Nat} (hj : Kp x j) : Sm x.M (x.set id word v).1.M j := by
 unfold AS.set;split
 ·exact .refl _ _
 ·rename_i hid;split
  ·exact .refl _ _
  ·rename_i hk;split
   ·rename_i ho;refine qE (fun e => ?_);have hi : id.toNat < 49 := by omega
    obtain ⟨q, hq, h1, _, _⟩ := h.ln hi hk;rw [hq, Int.toNat_natCast] at e;unfold AS.own at ho;rw [hq, Int.toNat_natCast, ← e, Bool.not_eq_true'] at ho;rcases hj.k with hj | ⟨_, hj⟩
    ·omega
    ·rw [ho, aL.2 ⟨id.toNat, hi, hk, by rw [e]; exact hq⟩] at hj;rcases hj with hj | hj <;> cases hj
   ·split
    ·exact .refl _ _
    ·split
     ·exact .refl _ _
     ·simp only;split
      ·exact vk h.ok.A hj.one
      ·exact vk h.ok.A hj.one
theorem LM {x : AS} (h : Inv x) {k : Int} {j : Nat} (hj : Kp x j) : Sm x.M (x.make k).1.M j := by
 unfold AS.make;split
 ·exact .refl _ _
 ·simp only;split
  ·exact vk h.ok.A hj.one
  ·exact vk h.ok.A hj.one
theorem Lc {x : AS} {id : Int} {j : Nat} : Sm x.M (x.ends id).1.M j := by
 unfold AS.ends;split
 ·exact .refl _ _
 ·exact .refl _ _
theorem G0 {x : AS} (h : Inv x) (o : Cll) {j : Nat} (hj : Kp x j) : Sm x.M (x.change o).M j := by
 unfold AS.change;split
 ·exact Og h hj
 ·split
  ·exact LM h hj
  ·exact Lc
end Go.Proofs.YtmimfopnhmmlbaaGreatDoor
namespace Go.Proofs.YtmimfopnhmmlbaaGreatDoor
open Go.Ab
def onc (n : Nat) (from' : Int) (ks : List Int) (line : Int) : Bool := decide (from' ≤ line) && (decide (0 ≤ line) && (decide (line < n) && !decide (line ∈ ks)))
theorem xg {hp : List Blk} {F : Ft} {m : Nat} {M : AM} (h : aY hp F m M) {i : Nat} {ks : List Int} (hk : hp[i]? = some (.mp ks)) (fr line : Int) {L : List Blk} {p : Nat} (hp' : L[p]? = some (.rw (.agg 73 [.ptr (.hp m) [] 59, .int .i64 fr, .mp (some i)]))) :
 rf D iB [.ptr (.loc p) [] 73, .int .i64 line] ⟨L, hp⟩ = some (.bool (onc M.n fr ks line), ⟨L, if onc M.n fr ks line = true then hp.set i (.mp (ks ++ [line])) else hp⟩) := by
 have hl := o7 h;unfold onc;rw [ae ry rfl];by_cases c1 : line < fr
 ·rw [decide_eq_false (show ¬ fr ≤ line by omega)];simp only [go_sem, hp', c1]
 ·rw [decide_eq_true (show fr ≤ line by omega)];by_cases c2 : line < 0
  ·rw [decide_eq_false (show ¬ 0 ≤ line by omega)];simp only [go_sem, hp', c1, c2]
  ·rw [decide_eq_true (show 0 ≤ line by omega)];by_cases c3 : line ≥ M.n
   ·rw [decide_eq_false (show ¬ line < (M.n : Int) by omega)];simp only [go_sem, hp', c1, c2, c3, hl]
   ·rw [decide_eq_true (show line < (M.n : Int) by omega)];by_cases c4 : line ∈ ks
    ·rw [decide_eq_true c4];simp only [go_sem, hp', c1, c2, c3, hl, hk, c4]
    ·rw [decide_eq_false c4];simp only [go_sem, hp', c1, c2, c3, hl, hk, c4]
end Go.Proofs.YtmimfopnhmmlbaaGreatDoor
namespace Go.Proofs.YtmimfopnhmmlbaaGreatDoor
open Go.Ab
theorem Ds {f g : Nat → V} {k : Nat} (hk : k < 7) : (tab 49 f).take (7 * k) ++ (tab 7 g).take 7 ++ (tab 49 f).drop (7 * k + 7) = tab 49 fun j => if 7 * k ≤ j ∧ j < 7 * k + 7 then g (j - 7 * k) else f j := by
 have hl : ∀ (n : Nat) (h : Nat → V), (tab n h).length = n := fun n h => by simp [tab]
 apply List.ext_getElem?;intro j;by_cases h49 : j < 49
 ·rw [al h49];by_cases h1 : j < 7 * k
  ·rw [List.append_assoc, List.getElem?_append_left (by rw [List.length_take, hl]; omega), List.getElem?_take, if_pos h1, al h49, if_neg (by omega)]
  ·rw [List.append_assoc, List.getElem?_append_right (by rw [List.length_take, hl]; omega), List.length_take, hl, show min (7 * k) 49 = 7 * k by omega];by_cases h2 : j < 7 * k + 7
   ·rw [List.getElem?_append_left (by rw [List.length_take, hl]; omega), List.getElem?_take, if_pos (by omega), al (by omega), if_pos (by omega)]
   ·rw [List.getElem?_append_right (by rw [List.length_take, hl]; omega), List.length_take, hl, List.getElem?_drop, show 7 * k + 7 + (j - 7 * k - min 7 7) = j by omega, al h49, if_neg (by omega)]
 ·rw [List.getElem?_eq_none (by simp [hl]; omega), List.getElem?_eq_none (by rw [hl]; omega)]
theorem Dp {n : Nat} {f : Nat → Ent} : V.locLts 0 (tab n fun j => (f j).v) = true := by
 rw [dQ];intro x hx;obtain ⟨j, _, rfl⟩ := List.mem_map.1 hx;rfl
theorem pm {n : Nat} {f : Nat → Ent} : V.locLt n (ab f) = true := by
 have := Dp (n := 49) (f := f);rw [dQ] at this;simp only [ab, V.locLt, Bool.or_eq_true];right;rw [dQ];exact fun x hx => ce (Nat.zero_le _) (this x hx)
theorem Bo {n : Nat} {f : Nat → Int} : V.locLt n (d7V f) = true := by
 simp only [d7V, V.locLt, Bool.or_eq_true];right;rw [dQ];intro x hx;obtain ⟨j, _, rfl⟩ := List.mem_map.1 hx;rfl
theorem vN {n : Nat} {l : List Int} : V.locLt n (lnV l) = true := by
 simp only [lnV, V.locLt, Bool.or_eq_true];right;rw [dQ];intro x hx;obtain ⟨j, _, rfl⟩ := List.mem_map.1 hx;rfl
theorem HC {base : Nat} {L hp : List Blk} {a b : Nat} {f g : Nat → Ent} {k : Nat} (hk : k < 7) (ha : L[a]? = some (.rw (ab f))) (hb : L[b]? = some (.rw (lvV g))) :
 fj base 42 (.sl (.loc a) [] (7 * k) (49 - 7 * k) (some (49 - 7 * k)) 42) (.sl (.loc b) [] 0 7 (some 7) 42) ⟨L, hp⟩ =
  some (.int .i64 7, ⟨L.set a (.rw (ab fun j => if 7 * k ≤ j ∧ j < 7 * k + 7 then g (j - 7 * k) else f j)), hp⟩) := by
 have hl : ∀ (n : Nat) (h : Nat → V), (tab n h).length = n := fun n h => by simp [tab]
 have hs := Ds (f := fun j => (f j).v) (g := fun j => (g j).v) hk;have he : (fun j => if 7 * k ≤ j ∧ j < 7 * k + 7 then (g (j - 7 * k)).v else (f j).v) = fun j => Ent.v (if 7 * k ≤ j ∧ j < 7 * k + 7 then g (j - 7 * k) else f j) := by
  funext j; split <;> rfl
 have hlt := Dp (n := 49) (f := fun j => if 7 * k ≤ j ∧ j < 7 * k + 7 then g (j - 7 * k) else f j)
 rw [he] at hs;have hy : St.elems ⟨L, hp⟩ (.sl (.loc b) [] 0 7 (some 7) 42) = some (tab 7 fun j => (g j).v) := by
  simp only [St.elems, St.read, St.at, hb, lvV, V.at, hl];rw [if_neg (by omega), if_pos (by omega), List.drop_zero, List.take_of_length_le (by rw [hl]; omega)]
 have hr : (⟨L, hp⟩ : St).read (.loc a) [] = some (ab f) := by simp only [St.read, St.at, ha, V.at]
 have hm : min 7 (49 - 7 * k) = 7 := by omega
 unfold fj;simp only [V.slIs, V.elIs, beq_self_eq_true, Bool.and_self, if_true, hy, hl, hm, hr, ab];rw [if_neg (show ¬ (7 : Nat) = 0 by decide), if_pos (show 7 * k + (49 - 7 * k) ≤ 49 by omega), hs];simp only [St.write, St.at, ha, ab, cY, V.locLt, hlt, V.setAt, Bool.or_true, Bool.true_or, if_true];rfl
def ldT (M : AM) (l : List Int) (i : Nat) : Ent := jA (M.now (av l (i / 7)).toNat) (i % 7)
def ldU (M : AM) (l : List Int) (k i : Nat) : Ent := if i < 7 * k then ldT M l i else az
theorem JL {M : AM} {l : List Int} {k : Nat} : (fun j => if 7 * k ≤ j ∧ j < 7 * k + 7 then jA (M.now (av l k).toNat) (j - 7 * k) else ldU M l k j) = ldU M l (k + 1) := by
 funext j;unfold ldU;by_cases h : 7 * k ≤ j ∧ j < 7 * k + 7
 ·rw [if_pos h, if_pos (by omega)];unfold ldT;rw [show j / 7 = k by omega, show j % 7 = j - 7 * k by omega]
 ·rw [if_neg h];by_cases h2 : j < 7 * k
  ·rw [if_pos h2, if_pos (by omega)]
  ·rw [if_neg h2, if_neg (by omega)]
def pT (M : AM) (fr : Int) (l : List Int) : List Int → Nat → Nat → Bool
 | _, _, 0 => true
 | ks, k, n + 1 => onc M.n fr ks (av l k) && (jL (M.now (av l k).toNat) && pT M fr l (ks ++ [av l k]) (k + 1) n)
def lS (l : List Int) : List Int → Nat → Nat → List Int
 | ks, _, 0 => ks
 | ks, k, n + 1 => lS l (ks ++ [av l k]) (k + 1) n
def nk (n' : Nat) (fr : Int) (t : Nat → Ent) : List Int → Nat → Nat → Bool
 | _, _, 0 => true
 | ks, i, n + 1 => if (t i).kind = 0 then nk n' fr t ks (i + 1) n else onc n' fr ks (t i).line && nk n' fr t (ks ++ [(t i).line]) (i + 1) n
theorem qK {hp : List Blk} {x y : Blk} : (hp ++ [x]).set hp.length y = hp ++ [y] := by
 rw [List.set_append_right _ _ (Nat.le_refl _), Nat.sub_self]; rfl
theorem aY.snoc {hp : List Blk} {F : Ft} {m : Nat} {M : AM} (h : aY hp F m M) (X : List Blk) : aY (hp ++ X) F m M :=
 h.eqv (fun j hj => List.getElem?_append_left (h.inn j hj)) (by simp)
def dA (m : Nat) (fr : Int) (i : Nat) : V := .agg 73 [.ptr (.hp m) [] 59, .int .i64 fr, .mp (some i)]
theorem CG {hp : List Blk} {F : Ft} {m : Nat} {M : AM} (h : aY hp F m M) (hon : M.off = false) (fr : Int) {l : List Int} (hw : ∀ k, k < 7 → ∀ x ∈ M.now (av l k).toNat, 0 ≤ x ∧ x < 18446744073709551616) (L : List Blk) : ∀ (n k : Nat) (ks : List Int) (X : List Int), k + n = 7 → ∃ r,
 rc D L.length (.loop [0, 6, 7, 9, 10, 11, 13, 52, 53] eo) [(0, .ptr (.hp m) [] 59), (6, .ptr (.loc L.length) [] 48), (7, .ptr (.loc (L.length + 1)) [] 60), (9, .ptr (.loc (L.length + 2)) [] 48), (10, .ptr (.loc (L.length + 3)) [] 73), (11, .ptr (.loc (L.length + 4)) [] 24), (13, .ptr (.loc (L.length + 5)) [] 60), (52, d7V (av l)), (53, .int .i64 k)]
  ⟨L ++ [.rw (ab fun _ => az), .rw (d7V fun _ => 0), .rw (ab (ldU M l k)), .rw (dA m fr hp.length), .rw (lnV X), .rw (d7V (av l))], hp ++ [.mp ks]⟩ = some r ∧
 ((pT M fr l ks k n = true ∧ ∃ X', r = (.exit 0, [(0, .ptr (.hp m) [] 59), (6, .ptr (.loc L.length) [] 48), (7, .ptr (.loc (L.length + 1)) [] 60), (9, .ptr (.loc (L.length + 2)) [] 48), (10, .ptr (.loc (L.length + 3)) [] 73), (11, .ptr (.loc (L.length + 4)) [] 24), (13, .ptr (.loc (L.length + 5)) [] 60), (52, d7V (av l)), (53, .int .i64 7), (54, .bool false)],
  ⟨L ++ [.rw (ab fun _ => az), .rw (d7V fun _ => 0), .rw (ab (ldU M l 7)), .rw (dA m fr hp.length), .rw (lnV X'), .rw (d7V (av l))], hp ++ [.mp (lS l ks k n)]⟩)) ∨
  (pT M fr l ks k n = false ∧ ∃ Y Z, r = (.ret, [(6, .ptr (.loc L.length) [] 48), (7, .ptr (.loc (L.length + 1)) [] 60), (8, .int .i64 21)], ⟨L ++ .rw (ab fun _ => az) :: .rw (d7V fun _ => 0) :: Y, hp ++ [Z]⟩)))
 | 0, k, ks, X, hk => by
  have : k = 7 := by omega
  subst this;refine ⟨_, ?_, .inl ⟨rfl, X, rfl⟩⟩;rw [ah];simp only [d7V];simp only [go_sem, eo];rfl
 | n + 1, k, ks, X, hk => by
  have d1 : (k : Int) < 7 := by omega
  have d2 : (0 : Int) ≤ k := by omega
  have d4 : IntKind.i64.wrap ((k : Int) + 1) = ((k + 1 : Nat) : Int) := ag (by omega) (by omega);have d5 : IntKind.i64.wrap (7 * (k : Int)) = ((7 * k : Nat) : Int) := by rw [ag (by omega) (by omega)]; omega
  have d6 : ((7 * k : Nat) : Int) ≤ 49 := by omega
  have d7 : (0 : Int) ≤ ((7 * k : Nat) : Int) := by omega
  have g1 := al (f := fun j => V.int .i64 (av l j)) (show k < 7 by omega);have h1 := h.snoc [.mp ks];have hlast : (hp ++ [Blk.mp ks])[hp.length]? = some (.mp ks) := by simp
  have hO := fun (L : List Blk) (p : Nat) hp' => xg h1 hlast fr (av l k) (L := L) (p := p) hp';rw [qK] at hO;simp only [pT, lS];have lp : ∀ R : List Blk, (L ++ [.rw (ab fun _ => az), .rw (d7V fun _ => 0), .rw (ab (ldU M l k)), .rw (dA m fr hp.length), .rw (lnV X), .rw (d7V (av l))] ++ R)[L.length + 3]? = some (.rw (dA m fr hp.length)) := fun R => by
   rw [List.append_assoc, List.getElem?_append_right (by omega), show L.length + 3 - L.length = 3 by omega]; rfl
  have hO1 := hO _ _ (lp []);rw [List.append_nil] at hO1;have zz : ¬ L.length + 1 = L.length := by omega
  have z0 : L.length < L.length + 6 := by omega
  have z1 : L.length + 1 < L.length + 6 := by omega
  have z2 : L.length + 2 < L.length + 6 := by omega
  have z3 : L.length + 3 < L.length + 6 := by omega
  have z4 : L.length + 4 < L.length + 6 := by omega
  have z5 : L.length + 5 < L.length + 6 := by omega
  cases c1 : onc M.n fr ks (av l k) with
  | false =>
   refine ⟨_, ?_, .inr ⟨by rw [Bool.false_and], [.rw (ab (ldU M l k)), .rw (dA m fr hp.length), .rw (lnV X), .rw (d7V (av l))], .mp ks, rfl⟩⟩;rw [c1] at hO1;simp only [Bool.false_eq_true, if_false] at hO1;rw [ah];generalize dA m fr hp.length = V1 at *;generalize ab (ldU M l k) = V2 at *;simp only [d7V] at *;generalize (tab 7 fun j => V.int .i64 (av l j)) = T at *;generalize av l k = line at *;simp only [ab] at *;simp only [go_sem, eo, d1, d2, Int.toNat_natCast, g1, hO1, zz, z0, z1, z2, z3, z4, z5]
  | true =>
   rw [c1] at hO1;simp only [if_true] at hO1;have hr : 0 ≤ av l k ∧ av l k < M.n := by
    unfold onc at c1;simp only [Bool.and_eq_true, decide_eq_true_eq] at c1;exact ⟨c1.2.1, c1.2.2.1⟩
   have hld : M.load (av l k) = (M.now (av l k).toNat, 0) := by
    unfold AM.load;rw [if_neg (by omega), if_neg (by simp [hon])]
   have hL := fun L => ia (h.snoc [.mp (ks ++ [av l k])]) (av l k) L;simp only [hld] at hL;have h8 := h.ok.now8 (show (av l k).toNat < M.n by omega);have hRL := fun s => BE h8 (hw k (by omega)) s;cases c2 : jL (M.now (av l k).toNat) with
   | false =>
    refine ⟨_, ?_, .inr ⟨rfl, [.rw (ab (ldU M l k)), .rw (dA m fr hp.length), .rw (lnV (M.now (av l k).toNat)), .rw (d7V (av l)), .rw (lvV (jA (M.now (av l k).toNat)))], .mp (ks ++ [av l k]), rfl⟩⟩;rw [c2] at hRL;rw [ah];generalize dA m fr hp.length = V1 at *;generalize ab (ldU M l k) = V2 at *;simp only [d7V, lnV] at *;generalize (tab 7 fun j => V.int .i64 (av l j)) = T at *;generalize M.now (av l k).toNat = ll at *;generalize av l k = line at *;simp only [ab, lvV] at *;simp only [go_sem, eo, d1, d2, Int.toNat_natCast, g1, hO1, hL, hRL, zz, z0, z1, z2, z3, z4, z5]
   | true =>
    obtain ⟨r, q1, q2⟩ := CG h hon fr hw L n (k + 1) (ks ++ [av l k]) (M.now (av l k).toNat) (by omega);refine ⟨r, ?_, by rw [Bool.true_and, Bool.true_and]; exact q2⟩;rw [c2] at hRL;have hcp := HC (base := L.length) (hp := hp ++ [.mp (ks ++ [av l k])]) (f := ldU M l k) (g := jA (M.now (av l k).toNat)) (k := k) (by omega) (a := L.length + 2) (b := L.length + 6)
     (L := L ++ [.rw (ab fun _ => az), .rw (d7V fun _ => 0), .rw (ab (ldU M l k)), .rw (dA m fr hp.length), .rw (lnV (M.now (av l k).toNat)), .rw (d7V (av l)), .rw (lvV (jA (M.now (av l k).toNat)))])
     (by rw [List.getElem?_append_right (by omega), show L.length + 2 - L.length = 2 by omega]; rfl) (by rw [List.getElem?_append_right (by omega), show L.length + 6 - L.length = 6 by omega]; rfl)
    rw [JL, List.set_append_right _ _ (by omega), show L.length + 2 - L.length = 2 by omega] at hcp;simp only [List.set_cons_succ, List.set_cons_zero] at hcp;have z6 : L.length + 6 < L.length + 7 := by omega
    have v1 : V.locLt (L.length + 6) (dA m fr hp.length) = true := rfl;have v3 : V.locLt (L.length + 6) (ab (ldU M l (k + 1))) = true := pm;rw [← q1, ah];generalize dA m fr hp.length = V1 at *;generalize ab (ldU M l (k + 1)) = V3 at *;simp only [d7V, lnV] at *;generalize (tab 7 fun j => V.int .i64 (av l j)) = T at *;generalize M.now (av l k).toNat = ll at *;generalize av l k = line at *;generalize ab (ldU M l k) = V2 at *;simp only [ab, lvV] at *;simp only [go_sem, eo, d1, d2, d4, d5, d6, d7, Int.toNat_natCast, g1, hO1, hL, hRL, hcp, zz, z0, z1, z2, z3, z4, z5, z6, v1, v3]
def zQ (t : Nat → Ent) : List Int → Nat → Nat → List Int
 | ks, _, 0 => ks
 | ks, i, n + 1 => zQ t (if (t i).kind = 0 then ks else ks ++ [(t i).line]) (i + 1) n
theorem xh {hp : List Blk} {F : Ft} {m : Nat} {M : AM} (h : aY hp F m M) (fr : Int) (t : Nat → Ent) (d : Nat → Int) (X : List Int) (L : List Blk) : ∀ (n i : Nat) (ks : List Int), i + n = 49 → ∃ r,
 rc D L.length (.loop [6, 7, 9, 10, 13, 84, 85] eh) [(6, .ptr (.loc L.length) [] 48), (7, .ptr (.loc (L.length + 1)) [] 60), (9, .ptr (.loc (L.length + 2)) [] 48), (10, .ptr (.loc (L.length + 3)) [] 73), (13, .ptr (.loc (L.length + 5)) [] 60), (84, ab t), (85, .int .i64 i)]
  ⟨L ++ [.rw (ab fun _ => az), .rw (d7V fun _ => 0), .rw (ab t), .rw (dA m fr hp.length), .rw (lnV X), .rw (d7V d)], hp ++ [.mp ks]⟩ = some r ∧
 ((nk M.n fr t ks i n = true ∧ r = (.exit 2, [(6, .ptr (.loc L.length) [] 48), (7, .ptr (.loc (L.length + 1)) [] 60), (9, .ptr (.loc (L.length + 2)) [] 48), (10, .ptr (.loc (L.length + 3)) [] 73), (13, .ptr (.loc (L.length + 5)) [] 60), (84, ab t), (85, .int .i64 49), (86, .bool false)],
  ⟨L ++ [.rw (ab fun _ => az), .rw (d7V fun _ => 0), .rw (ab t), .rw (dA m fr hp.length), .rw (lnV X), .rw (d7V d)], hp ++ [.mp (zQ t ks i n)]⟩)) ∨
  (nk M.n fr t ks i n = false ∧ ∃ Y Z, r = (.ret, [(6, .ptr (.loc L.length) [] 48), (7, .ptr (.loc (L.length + 1)) [] 60), (8, .int .i64 21)], ⟨L ++ .rw (ab fun _ => az) :: .rw (d7V fun _ => 0) :: Y, hp ++ [Z]⟩)))
 | 0, i, ks, hi => by
  have : i = 49 := by omega
  subst this;refine ⟨_, ?_, .inl ⟨rfl, rfl⟩⟩;rw [ah];generalize ab t = T at *;simp only [go_sem, eh];rfl
 | n + 1, i, ks, hi => by
  have d1 : (i : Int) < 49 := by omega
  have d2 : (0 : Int) ≤ i := by omega
  have d4 : IntKind.i64.wrap ((i : Int) + 1) = ((i + 1 : Nat) : Int) := ag (by omega) (by omega);have g1 := al (f := fun j => (t j).v) (show i < 49 by omega);have h1 := h.snoc [.mp ks];have hlast : (hp ++ [Blk.mp ks])[hp.length]? = some (.mp ks) := by simp
  have hO := xg h1 hlast fr (t i).line (L := L ++ [.rw (ab fun _ => az), .rw (d7V fun _ => 0), .rw (ab t), .rw (dA m fr hp.length), .rw (lnV X), .rw (d7V d), .rw (t i).v]) (p := L.length + 3)
   (by rw [List.getElem?_append_right (by omega), show L.length + 3 - L.length = 3 by omega]; rfl)
  rw [qK] at hO;have zz : ¬ L.length + 1 = L.length := by omega
  have z0 : L.length < L.length + 6 := by omega
  have z1 : L.length + 1 < L.length + 6 := by omega
  have z2 : L.length + 2 < L.length + 6 := by omega
  have z3 : L.length + 3 < L.length + 6 := by omega
  have z4 : L.length + 4 < L.length + 6 := by omega
  have z5 : L.length + 5 < L.length + 6 := by omega
  have v1 : V.locLt (L.length + 6) (dA m fr hp.length) = true := rfl;have v3 : V.locLt (L.length + 6) (ab t) = true := pm;have v0 : V.locLt (L.length + 6) (ab fun _ => az) = true := pm;have v4 := fun f => Bo (n := L.length + 6) (f := f);have v5 := fun l => vN (n := L.length + 6) (l := l);simp only [nk, zQ];by_cases ck : (t i).kind = 0
  ·rw [if_pos ck, if_pos ck];obtain ⟨r, q1, q2⟩ := xh h fr t d X L n (i + 1) ks (by omega);refine ⟨r, ?_, q2⟩;rw [← q1, ah];clear q1 q2 hO;generalize dA m fr hp.length = V1 at *;generalize (ab fun _ => az) = V0 at *;simp only [ab] at *;generalize (tab 49 fun j => (t j).v) = T at *;generalize t i = E at *;obtain ⟨a1, a2, a3⟩ := E;simp only [Ent.v] at *;subst ck;simp only [go_sem, eh, d1, d2, d4, Int.toNat_natCast, g1, zz, z0, z1, z2, z3, z4, z5, v0, v1, v3, v4, v5]
  ·rw [if_neg ck, if_neg ck];cases c1 : onc M.n fr ks (t i).line with
   | false =>
    refine ⟨_, ?_, .inr ⟨rfl, [.rw (ab t), .rw (dA m fr hp.length), .rw (lnV X), .rw (d7V d), .rw (t i).v], .mp ks, rfl⟩⟩;rw [c1] at hO;simp only [Bool.false_eq_true, if_false] at hO;rw [ah];generalize dA m fr hp.length = V1 at *;simp only [ab] at *;generalize (tab 49 fun j => (t j).v) = T at *;generalize t i = E at *;obtain ⟨a1, a2, a3⟩ := E;simp only [Ent.v, d7V] at *;simp only [go_sem, eh, d1, d2, d4, Int.toNat_natCast, g1, ck, hO, zz, z0, z1, z2, z3, z4, z5, v1]
   | true =>
    obtain ⟨r, q1, q2⟩ := xh h fr t d X L n (i + 1) (ks ++ [(t i).line]) (by omega);refine ⟨r, ?_, by rw [Bool.true_and]; exact q2⟩;rw [c1] at hO;simp only [if_true] at hO;rw [← q1, ah];clear q1 q2;generalize dA m fr hp.length = V1 at *;generalize (ab fun _ => az) = V0 at *;simp only [ab] at *;generalize (tab 49 fun j => (t j).v) = T at *;generalize t i = E at *;obtain ⟨a1, a2, a3⟩ := E;simp only [Ent.v] at *;simp only [go_sem, eh, d1, d2, d4, Int.toNat_natCast, g1, ck, hO, zz, z0, z1, z2, z3, z4, z5, v0, v1, v3, v4, v5]
end Go.Proofs.YtmimfopnhmmlbaaGreatDoor
namespace Go.Proofs.YtmimfopnhmmlbaaGreatDoor
open Go.Ab
theorem uq {hp : List Blk} {F : Ft} {m : Nat} {M : AM} (h : aY hp F m M) (L : List Blk) : rf D kK [.ptr (.hp m) [] 59] ⟨L, hp⟩ = some (.bool (!M.off), ⟨L, hp⟩) := by
 obtain ⟨k, fk, ne, ⟨cp, left, h1, h2, h3⟩, sv, ow, h4, h5⟩ := h.mb;simp only [bv] at h1;rw [ae vB rfl];simp only [go_sem, h1]
def El (M : AM) (fr root : Int) : Bool := onc M.n fr [] root && (kI (M.now root.toNat) && (pT M fr (M.now root.toNat) [root] 0 7 && nk M.n fr (ldT M (M.now root.toNat)) (lS (M.now root.toNat) [root] 0 7) 0 49))
theorem qP {hp : List Blk} {F : Ft} {m : Nat} {M : AM} (h : aY hp F m M) (fr root : Int) (hw : M.off = false → onc M.n fr [] root = true → ∀ k, k < 7 → ∀ x ∈ M.now (av (M.now root.toNat) k).toNat, 0 ≤ x ∧ x < 18446744073709551616) (L : List Blk) : ∃ X,
 rf D nN [.ptr (.hp m) [] 59, .int .i64 fr, .int .i64 root] ⟨L, hp⟩ =
  some (if M.off = true then .tup [ab fun _ => az, d7V fun _ => 0, .int .i64 4] else if El M fr root = true then .tup [ab (ldT M (M.now root.toNat)), d7V (av (M.now root.toNat)), .int .i64 0] else .tup [ab fun _ => az, d7V fun _ => 0, .int .i64 21], ⟨L, hp ++ X⟩) := by
 have hon := uq h;have hz : (ab fun _ => az) = .agg 48 (List.replicate 49 (.agg 42 [.int .i64 0, .int .i64 0, .int .i64 0])) := by unfold ab; rw [bH]; rfl
 have hz7 : (d7V fun _ => (0 : Int)) = .agg 60 (List.replicate 7 (.int .i64 0)) := by unfold d7V; rw [bH]
 have hzl : List.replicate 8 (V.int .u64 0) = zl.map (V.int .u64) := rfl;have zz : ¬ L.length + 1 = L.length := by omega
 have zy : ¬ L.length + 5 = L.length := by omega
 cases ho : M.off with
 | true =>
  refine ⟨[], ?_⟩;rw [ho] at hon;rw [if_pos rfl, List.append_nil, hz, hz7, ae gI rfl];simp only [go_sem, hon, zz]
 | false =>
  rw [ho] at hon;rw [if_neg (by simp)];have hlast : ∀ X, (hp ++ [Blk.mp X])[hp.length]? = some (.mp X) := fun X => by simp
  have hO := xg (h.snoc [.mp []]) (hlast []) fr root (L := L ++ [.rw (ab fun _ => az), .rw (d7V fun _ => 0), .rw (ab fun _ => az), .rw (dA m fr hp.length)]) (p := L.length + 3)
   (by rw [List.getElem?_append_right (by omega), show L.length + 3 - L.length = 3 by omega]; rfl)
  rw [qK, List.nil_append] at hO;unfold El;cases c1 : onc M.n fr [] root with
  | false =>
   refine ⟨[.mp []], ?_⟩;rw [c1] at hO;simp only [Bool.false_eq_true, if_false] at hO;rw [Bool.false_and, if_neg (by simp)];simp only [dA] at hO;rw [hz, hz7] at *;rw [ae gI rfl];simp only [go_sem, hon, hO, zz]
  | true =>
   rw [c1] at hO;simp only [if_true] at hO;have hr : 0 ≤ root ∧ root < M.n := by
    unfold onc at c1;simp only [Bool.and_eq_true, decide_eq_true_eq] at c1;exact ⟨c1.2.1, c1.2.2.1⟩
   have hld : M.load root = (M.now root.toNat, 0) := by
    unfold AM.load;rw [if_neg (by omega), if_neg (by simp [ho])]
   have hL := fun L => ia (h.snoc [.mp [root]]) root L;simp only [hld] at hL;have h8 := h.ok.now8 (show root.toNat < M.n by omega);have hRR := fun s => BT h8 s;replace hw := hw ho c1;generalize M.now root.toNat = l at *;cases c2 : kI l with
   | false =>
    refine ⟨[.mp [root]], ?_⟩;rw [c2] at hRR;rw [Bool.false_and, Bool.and_false, if_neg (by simp)];simp only [dA, lnV, hz, hz7] at *;simp only [d7V] at hRR;rw [ae gI rfl];simp only [go_sem, hon, hO, hL, hRR, zz]
   | true =>
    rw [c2] at hRR;obtain ⟨r, q1, q2⟩ := CG h ho fr hw L 7 0 [root] l rfl;have hU0 : ab (ldU M l 0) = ab fun _ => az := rfl;have hU7 : ab (ldU M l 7) = ab (ldT M l) := by
     have : (tab 49 fun i => (ldU M l 7 i).v) = tab 49 fun i => (ldT M l i).v := aE fun j hj => by
      unfold ldU;rw [if_pos (by omega)]
     unfold ab;rw [this]
    rw [hU0, show ((0 : Nat) : Int) = 0 from rfl] at q1
    rcases q2 with ⟨c3, X', rfl⟩ | ⟨c3, Y, Z, rfl⟩
    ·rw [hU7] at q1;obtain ⟨r2, p1, p2⟩ := xh h fr (ldT M l) (av l) X' L 49 0 (lS l [root] 0 7) rfl;rw [show ((0 : Nat) : Int) = 0 from rfl] at p1
     rcases p2 with ⟨c4, rfl⟩ | ⟨c4, Y, Z, rfl⟩
     ·refine ⟨[.mp (zQ (ldT M l) (lS l [root] 0 7) 0 49)], ?_⟩;rw [c3, c4, if_pos (show (true && (true && (true && true))) = true from rfl)]
      generalize lS l [root] 0 7 = K at *;generalize zQ (ldT M l) K 0 49 = K2 at *;generalize ldT M l = t at *;generalize av l = d at *;have t1 : (d7V d).tag = 60 := rfl;have t2 : (ab t).tag = 48 := rfl;have t3 : (d7V d).ok = true := rfl;have t4 : (ab t).ok = true := rfl;have t5 : V.locLt L.length (d7V d) = true := Bo;have t6 : V.locLt L.length (ab t) = true := pm;generalize hT : ab t = T at *;generalize hDd : d7V d = Dd at *;simp only [dA, lnV, hz, hz7] at *;rw [ae gI rfl];simp only [go_sem, hon, hO, hL, hRR, zz, zy, q1, p1, t1, t2, t3, t4, t5, t6]
     ·refine ⟨[Z], ?_⟩;rw [c3, c4, if_neg (show ¬ (true && (true && (true && false))) = true by simp)];generalize lS l [root] 0 7 = K at *;generalize ldT M l = t at *;generalize av l = d at *;have e0 : (L ++ Blk.rw (ab fun _ => az) :: Blk.rw (d7V fun _ => 0) :: Y)[L.length]? = some (.rw (ab fun _ => az)) := by
       rw [List.getElem?_append_right (Nat.le_refl _), Nat.sub_self]; rfl
      have e1 : (L ++ Blk.rw (ab fun _ => az) :: Blk.rw (d7V fun _ => 0) :: Y)[L.length + 1]? = some (.rw (d7V fun _ => 0)) := by
       rw [List.getElem?_append_right (by omega), show L.length + 1 - L.length = 1 by omega]; rfl
      have e2 : (L ++ Blk.rw (ab fun _ => az) :: Blk.rw (d7V fun _ => 0) :: Y).take L.length = L := by
       rw [List.take_left']; rfl
      have e3 : L.length ≤ (L ++ Blk.rw (ab fun _ => az) :: Blk.rw (d7V fun _ => 0) :: Y).length := by rw [List.length_append]; omega
      generalize (L ++ Blk.rw (ab fun _ => az) :: Blk.rw (d7V fun _ => 0) :: Y) = LL at *;simp only [dA, lnV, hz, hz7] at *;have t1 : (d7V d).tag = 60 := rfl;have t2 : (ab t).tag = 48 := rfl;generalize hT : ab t = T at *;generalize hDd : d7V d = Dd at *;rw [ae gI rfl];simp only [go_sem, hon, hO, hL, hRR, zz, q1, p1, e0, e1, e2, e3, t1, t2]
    ·refine ⟨[Z], ?_⟩;rw [c3, if_neg (show ¬ (true && (true && (false && nk M.n fr (ldT M l) (lS l [root] 0 7) 0 49))) = true by simp)];generalize av l = d at *;have e0 : (L ++ Blk.rw (ab fun _ => az) :: Blk.rw (d7V fun _ => 0) :: Y)[L.length]? = some (.rw (ab fun _ => az)) := by
      rw [List.getElem?_append_right (Nat.le_refl _), Nat.sub_self]; rfl
     have e1 : (L ++ Blk.rw (ab fun _ => az) :: Blk.rw (d7V fun _ => 0) :: Y)[L.length + 1]? = some (.rw (d7V fun _ => 0)) := by
      rw [List.getElem?_append_right (by omega), show L.length + 1 - L.length = 1 by omega]; rfl
     have e2 : (L ++ Blk.rw (ab fun _ => az) :: Blk.rw (d7V fun _ => 0) :: Y).take L.length = L := by
      rw [List.take_left']; rfl
     have e3 : L.length ≤ (L ++ Blk.rw (ab fun _ => az) :: Blk.rw (d7V fun _ => 0) :: Y).length := by rw [List.length_append]; omega
     generalize (L ++ Blk.rw (ab fun _ => az) :: Blk.rw (d7V fun _ => 0) :: Y) = LL at *;simp only [dA, lnV, hz, hz7] at *;have t1 : (d7V d).tag = 60 := rfl;generalize hDd : d7V d = Dd at *;rw [ae gI rfl];simp only [go_sem, hon, hO, hL, hRR, zz, q1, e0, e1, e2, e3, t1]
end Go.Proofs.YtmimfopnhmmlbaaGreatDoor
namespace Go.Proofs.YtmimfopnhmmlbaaGreatDoor
open Go.Ab
def mH : Sup := ⟨0, 0, 0, 0⟩
def ib (l : List Int) : Sup := ⟨IntKind.i64.wrap (l.getD 1 0), IntKind.i64.wrap (l.getD 2 0), IntKind.i64.wrap (l.getD 3 0), IntKind.i64.wrap (l.getD 4 0)⟩
def iF (l : List Int) : Bool := (ib l).ok && decide (aI (ib l) = l)
theorem yy {l : List Int} (hl : l.length = 8) (s : St) : rf D nP [lnV l] s = some (.tup [(if iF l = true then ib l else mH).v, .bool (iF l)], s) := by
 have hL := fun s => rj (ib l) s;have g1 : (l.map (V.int .u64))[1]? = some (.int .u64 (l.getD 1 0)) := aS (by omega) 0;have g2 : (l.map (V.int .u64))[2]? = some (.int .u64 (l.getD 2 0)) := aS (by omega) 0;have g3 : (l.map (V.int .u64))[3]? = some (.int .u64 (l.getD 3 0)) := aS (by omega) 0;have g4 : (l.map (V.int .u64))[4]? = some (.int .u64 (l.getD 4 0)) := aS (by omega) 0;have he := Gy (a := aI (ib l)) (b := l) (by rw [nM, hl]);unfold iF;unfold ib at *;generalize hs : (⟨IntKind.i64.wrap (l.getD 1 0), IntKind.i64.wrap (l.getD 2 0), IntKind.i64.wrap (l.getD 3 0), IntKind.i64.wrap (l.getD 4 0)⟩ : Sup) = b at *;have hv : b.v = .agg 44 [.int .i64 (IntKind.i64.wrap (l.getD 1 0)), .int .i64 (IntKind.i64.wrap (l.getD 2 0)), .int .i64 (IntKind.i64.wrap (l.getD 3 0)), .int .i64 (IntKind.i64.wrap (l.getD 4 0))] := by rw [← hs]; rfl
 have hz : mH.v = .agg 44 [.int .i64 0, .int .i64 0, .int .i64 0, .int .i64 0] := rfl;rw [hv] at hL;cases hb : b.ok with
 | false =>
  rw [hb] at hL;rw [Bool.false_and, if_neg (by simp), hz];simp only [Bool.false_eq_true, if_false, lnV] at *;generalize aI b = z at *;rw [ae nD rfl];simp only [go_sem, g1, g2, g3, g4, hL]
 | true =>
  rw [hb] at hL;rw [Bool.true_and];simp only [if_true, lnV] at *;generalize aI b = z at *;by_cases hz2 : z = l
  ·rw [decide_eq_true hz2] at he ⊢;rw [if_pos rfl, hv];rw [ae nD rfl];simp only [go_sem, g1, g2, g3, g4, hL, he]
  ·rw [decide_eq_false hz2] at he ⊢;rw [if_neg (by simp), hz];rw [ae nD rfl];simp only [go_sem, g1, g2, g3, g4, hL, he]
def bst (x : List Int) (i : Int) (s : Sup × Int × Bool) : Sup × Int × Bool := if iF x = true ∧ (s.2.2 = false ∨ s.1.gen < (ib x).gen) then (ib x, i, true) else s
def fU (a b : List Int) : Sup × Int × Bool := bst b 1 (bst a 0 (mH, 0, false))
theorem wD {a b x : List Int} {i : Nat} (hi : i < 2) (hx : x.length = 8) (hg : [lnV a, lnV b][i]? = some (lnV x)) (L hp : List Blk) (z : Sup × Int × Bool) :
 rc D L.length (.loop [4, 5, 6, 13, 14] bO) [(4, .ptr (.loc (L.length + 2)) [] 44), (5, .int .i64 z.2.1), (6, .bool z.2.2), (13, .agg 110 [lnV a, lnV b]), (14, .int .i64 i)] ⟨L ++ [.rw (lnV a), .rw (lnV b), .rw z.1.v], hp⟩ =
 rc D L.length (.loop [4, 5, 6, 13, 14] bO) [(4, .ptr (.loc (L.length + 2)) [] 44), (5, .int .i64 (bst x i z).2.1), (6, .bool (bst x i z).2.2), (13, .agg 110 [lnV a, lnV b]), (14, .int .i64 (i + 1 : Nat))] ⟨L ++ [.rw (lnV a), .rw (lnV b), .rw (bst x i z).1.v], hp⟩ := by
 have hR := fun s => yy hx s;obtain ⟨⟨g, r, q, c⟩, sl, ok⟩ := z;have d1 : (i : Int) < 2 := by omega
 have d2 : (0 : Int) ≤ i := by omega
 have d4 : IntKind.i64.wrap ((i : Int) + 1) = ((i + 1 : Nat) : Int) := ag (by omega) (by omega);have z0 : L.length < L.length + 3 := by omega
 have z1 : L.length + 1 < L.length + 3 := by omega
 have z2 : L.length + 2 < L.length + 3 := by omega
 have va : V.locLt (L.length + 3) (lnV a) = true := vN;have vb : V.locLt (L.length + 3) (lnV b) = true := vN;have hz : mH.v = .agg 44 [.int .i64 0, .int .i64 0, .int .i64 0, .int .i64 0] := rfl;have tx : (lnV x).tag = 24 := rfl
 conv => lhs; rw [ah]
 unfold bst;simp only;cases hs : iF x with
 | false =>
  rw [hs] at hR;simp only [Bool.false_eq_true, if_false, false_and, Sup.v, mH] at hR ⊢;generalize lnV x = X at *;generalize lnV a = A at *;generalize lnV b = B at *;simp only [go_sem, bO, d1, d2, d4, Int.toNat_natCast, hg, tx, hR, va, vb, z0, z1, z2]
 | true =>
  rw [hs] at hR;generalize ib x = y at *;obtain ⟨g1, r1, q1, c1⟩ := y;simp only [if_true, true_and, Sup.v] at hR ⊢;generalize lnV x = X at *;generalize lnV a = A at *;generalize lnV b = B at *;cases ok with
  | false =>
   simp only [true_or, if_true];simp only [go_sem, bO, d1, d2, d4, Int.toNat_natCast, hg, tx, hR, va, vb, z0, z1, z2]
  | true =>
   by_cases hgt : g < g1
   ·have hgt' : g1 > g := hgt;simp only [hgt, or_true, if_true];simp only [go_sem, bO, d1, d2, d4, Int.toNat_natCast, hg, tx, hR, va, vb, z0, z1, z2, hgt, hgt']
   ·have hgt' : ¬ g1 > g := hgt;simp only [hgt, or_false, Bool.true_eq_false, if_false];simp only [go_sem, bO, d1, d2, d4, Int.toNat_natCast, hg, tx, hR, va, vb, z0, z1, z2, hgt, hgt']
theorem yB {a b : List Int} (ha : a.length = 8) (hb : b.length = 8) (s : St) : rf D nO [lnV a, lnV b] s = some (.tup [(fU a b).1.v, .int .i64 (fU a b).2.1, .bool (fU a b).2.2], s) := by
 have r0 := wD (a := a) (b := b) (i := 0) (by decide) ha rfl s.loc s.hp (mH, 0, false);have r1 := wD (a := a) (b := b) (i := 1) (by decide) hb rfl s.loc s.hp (bst a 0 (mH, 0, false));have e : bst b 1 (bst a 0 (mH, 0, false)) = fU a b := rfl;simp only [Int.natCast_zero, Int.natCast_one] at r0 r1;rw [show ((0 + 1 : Nat) : Int) = 1 from rfl] at r0
 rw [show ((1 + 1 : Nat) : Int) = 2 from rfl] at r1
 rw [r1, e] at r0;generalize fU a b = z at *;obtain ⟨⟨g, r, q, c⟩, sl, ok⟩ := z;have z2 : s.loc.length + 2 < s.loc.length + 3 := by omega
 have ta : (lnV a).tag = 24 := rfl;have tb : (lnV b).tag = 24 := rfl;have oa : (lnV a).ok = true := rfl;have ob : (lnV b).ok = true := rfl;have hlast : rc D s.loc.length (.loop [4, 5, 6, 13, 14] bO) [(4, .ptr (.loc (s.loc.length + 2)) [] 44), (5, .int .i64 sl), (6, .bool ok), (13, .agg 110 [lnV a, lnV b]), (14, .int .i64 2)] ⟨s.loc ++ [.rw (lnV a), .rw (lnV b), .rw (Sup.v ⟨g, r, q, c⟩)], s.hp⟩ =
  some (.exit 0, [(4, .ptr (.loc (s.loc.length + 2)) [] 44), (5, .int .i64 sl), (6, .bool ok), (13, .agg 110 [lnV a, lnV b]), (14, .int .i64 2), (15, .bool false)], ⟨s.loc ++ [.rw (lnV a), .rw (lnV b), .rw (Sup.v ⟨g, r, q, c⟩)], s.hp⟩) := by
  rw [ah];generalize lnV a = A at *;generalize lnV b = B at *;simp only [go_sem, bO]
 rw [hlast] at r0;simp only [mH, Sup.v] at *;generalize lnV a = A at *;generalize lnV b = B at *;rw [ae zv rfl];have hrep : List.replicate 2 (V.agg 24 (List.replicate 8 (V.int .u64 0))) = [.agg 24 (List.replicate 8 (.int .u64 0)), .agg 24 (List.replicate 8 (.int .u64 0))] := rfl;simp only [go_sem, r0, ta, tb, oa, ob];simp only [hrep, List.set_cons_zero, List.set_cons_succ, List.getElem?_cons_zero, List.getElem?_cons_succ, V.tag, beq_self_eq_true, if_true];simp only [go_sem, r0]
theorem yz {hp : List Blk} {F : Ft} {m : Nat} {M : AM} (h : aY hp F m M) (L : List Blk) : rf D oe [.ptr (.hp m) [] 59] ⟨L, hp⟩ =
 some (if M.off = true then .tup [mH.v, .int .i64 0, .int .i64 4] else if (fU (M.now 0) (M.now 1)).2.2 = true then .tup [(fU (M.now 0) (M.now 1)).1.v, .int .i64 (fU (M.now 0) (M.now 1)).2.1, .int .i64 0] else .tup [mH.v, .int .i64 0, .int .i64 20], ⟨L, hp⟩) := by
 have hL0 := fun L => ia h 0 L;have hL1 := fun L => ia h 1 L;have hn := h.ok.n0;have hz : mH.v = .agg 44 [.int .i64 0, .int .i64 0, .int .i64 0, .int .i64 0] := rfl;have hzl : lnV zl = .agg 24 (List.replicate 8 (.int .u64 0)) := rfl;unfold AM.load at hL0 hL1;rw [if_neg (by omega)] at hL0 hL1;cases ho : M.off with
 | true =>
  rw [ho] at hL0;simp only [if_true, hzl] at hL0;rw [if_pos rfl, hz, ae n6 rfl];simp only [go_sem, hL0]
 | false =>
  rw [ho] at hL0 hL1;simp only [Bool.false_eq_true, if_false] at hL0 hL1;rw [if_neg (by simp)];have e0 : (0 : Int).toNat = 0 := rfl;have e1 : (1 : Int).toNat = 1 := rfl;rw [e0] at hL0;rw [e1] at hL1;have hB := fun s => yB (h.ok.now8 (show 0 < M.n by omega)) (h.ok.now8 (show 1 < M.n by omega)) s;have ta : (lnV (M.now 0)).tag = 24 := rfl;have tb : (lnV (M.now 1)).tag = 24 := rfl;generalize fU (M.now 0) (M.now 1) = z at *;generalize lnV (M.now 0) = A at *;generalize lnV (M.now 1) = B at *;obtain ⟨⟨g, r, q, c⟩, sl, ok⟩ := z;rw [hz];simp only [Sup.v] at *;cases ok with
  | true =>
   rw [if_pos rfl, ae n6 rfl];simp only [go_sem, hL0, hL1, hB, ta, tb]
  | false =>
   rw [if_neg (by simp), ae n6 rfl];simp only [go_sem, hL0, hL1, hB, ta, tb]
end Go.Proofs.YtmimfopnhmmlbaaGreatDoor
namespace Go.Proofs.YtmimfopnhmmlbaaGreatDoor
open Go.Ab
def nxK : List Int → Int × List Int
 | [] => (0, [])
 | k :: r => (if k < 0 then -(k + 1) else k, r)
inductive gR (hp : List Blk) (F : Ft) : V → List Int → Prop where
 | nil : gR hp F .nils []
 | sl (a o c r : Nat) (all : List V) (ks : List Int) (hc : ks.length ≤ c) (hb : ks = [] ∨ (hp[a]? = some (.ro (.agg r all)) ∧ ¬ F a)) (ho : o + ks.length ≤ all.length) (hk : ∀ j, j < ks.length → all[o + j]? = some (.int .i64 (ks.getD j 0))) :
  gR hp F (.sl (.hp a) [] o ks.length (some c) 10) ks
theorem gR.chg {hp hp' : List Blk} {F F' : Ft} {v : V} {ks : List Int} (h : gR hp F v ks) (hc : Chg hp hp' F F') : gR hp' F' v ks := by
 cases h with
 | nil => exact .nil
 | sl a o c r all ks hl hb ho hk =>
  refine .sl a o c r all ks hl (hb.imp id fun ⟨h1, h2⟩ => ⟨hc.get h1 h2, fun h3 => ?_⟩) ho hk;rcases hc.new a h3 with h4 | h4
  ·exact h2 h4
  ·have := au h1; omega
theorem gR.lt {hp : List Blk} {F : Ft} {v : V} {ks : List Int} (h : gR hp F v ks) : V.locLt 0 v = true := by cases h <;> rfl
theorem gR.tag {hp : List Blk} {F : Ft} {v : V} {ks : List Int} (h : gR hp F v ks) : v.tag = 1 := by cases h <;> rfl
theorem M6 {L hp : List Blk} {p : Nat} {F : Ft} {v : V} {ks : List Int} (h : gR hp F v ks) (hr : ∀ k ∈ ks, -9223372036854775808 ≤ k ∧ k ≤ 9223372036854775807) (hp' : L[p]? = some (.rw v)) :
 ∃ v', rf D cw [.ptr (.loc p) [] 1] ⟨L, hp⟩ = some (.int .i64 (nxK ks).1, ⟨L.set p (.rw v'), hp⟩) ∧ gR hp F v' (nxK ks).2 := by
 cases h with
 | nil =>
  refine ⟨.nils, ?_, .nil⟩;rw [uP hp', ae hJ rfl];simp only [nxK];simp only [go_sem, hp']
 | sl a o c r all ks hc hb ho hk =>
  cases ks with
  | nil =>
   refine ⟨_, ?_, .sl a o c r all [] hc hb ho hk⟩;rw [uP hp', ae hJ rfl];simp only [nxK, List.length_nil] at *;simp only [go_sem, hp']
  | cons k ks =>
   obtain ⟨hb', hna⟩ := hb.resolve_left (by simp);simp only [List.length_cons] at *;have g0 := hk 0 (by omega);rw [Nat.add_zero, List.getD_cons_zero] at g0;have hkr := hr k List.mem_cons_self;have d0 : ¬ ((ks.length + 1 : Nat) : Int) = 0 := by omega
   have d1 : (0 : Int) < ((ks.length + 1 : Nat) : Int) := by omega
   have d2 : (1 : Int) ≤ ((ks.length + 1 : Nat) : Int) := by omega
   have d3 : ((ks.length + 1 : Nat) : Int) ≤ ((c : Nat) : Int) := by omega
   have hlt := au hp';have hsad : jS 10 (.sl (.hp a) [] o (ks.length + 1) (some c) 10) (.int .i64 0) = some (.ptr (.hp a) [o] 10) := by
    simp [go_sem]
   have hslc : dZ 10 (some (.int .i64 1)) none none (.sl (.hp a) [] o (ks.length + 1) (some c) 10) = some (.sl (.hp a) [] (o + 1) ks.length (some (c - 1)) 10) := by
    simp only [dZ, if_true, ai, aN, fT, Option.isSome_none, Bool.false_eq_true, if_false];rw [if_pos ⟨by omega, by omega⟩];simp [aN, kx]
   refine ⟨.sl (.hp a) [] (o + 1) ks.length (some (c - 1)) 10, ?_, .sl a (o + 1) (c - 1) r all ks (by omega) (.inr ⟨hb', hna⟩) (by omega) fun j hj => ?_⟩
   ·rw [ae hJ rfl];simp only [nxK];by_cases hk0 : k < 0
    ·have w1 : IntKind.i64.wrap (k + 1) = k + 1 := ag (by omega) (by omega);have w2 : IntKind.i64.wrap (0 - (k + 1)) = -(k + 1) := by rw [ag (by omega) (by omega)]; omega
     rw [if_pos hk0];simp only [go_sem, hp', d0, hsad, hb', g0, hslc, hk0, w1, w2, hlt];rw [if_pos (by rw [List.length_set]; exact Nat.le_refl _), List.take_of_length_le (by rw [List.length_set]; exact Nat.le_refl _)]
    ·rw [if_neg hk0];simp only [go_sem, hp', d0, hsad, hb', g0, hslc, hk0, hlt];rw [if_pos (by rw [List.length_set]; exact Nat.le_refl _), List.take_of_length_le (by rw [List.length_set]; exact Nat.le_refl _)]
   ·have := hk (j + 1) (by omega);rw [List.getD_cons_succ] at this;rw [← this]; congr 1; omega
def AM.cleared (M : AM) (j : Nat) : AM := { M with L := upd M.L j [] }
theorem AM.Ok.cleared {M : AM} (h : M.Ok) (j : Nat) : (M.cleared j).Ok := by
 refine ⟨h.n0, h.n1, h.l8, fun i hi d hd => ?_, h.c0, fun i hi => ?_, h.lf, h.lg⟩
 ·simp only [AM.cleared] at hd;by_cases e : i = j
  ·subst e; rw [aj] at hd; cases hd
  ·rw [ao e] at hd; exact h.w8 i hi d hd
 ·simp only [AM.cleared];by_cases e : i = j
  ·subst e; rw [aj]; exact h.c0
  ·rw [ao e]; exact h.len i hi
def nlz (S : List Int) : V := nlV (lnV S) (lnV S) .nils (.agg 50 (List.replicate 8 (.int .i64 0)))
theorem ND {S : List Int} : plV S [] .nils = nlz S := by
 unfold plV nlz flV;rw [bH];rfl
theorem IV {hp : List Blk} {F : Ft} {m : Nat} {M : AM} (h : aY hp F m M) {k nn : Nat} {cp : Option Nat} {o b : Bool} {l c : Int} (hb : hp[m]? = some (.rw (bv k nn cp o b l c))) {j : Nat} (hj : j < M.n) :
 ∃ T y1 y3 y4, hp[k]? = some (.rw (.agg 57 T)) ∧ T.length = M.n ∧ T[j]? = some (.agg 55 [y1, lnV (M.S j), y3, y4]) ∧ y1.tag = 24 ∧ y3.tag = 1 ∧ y4.tag = 50 ∧
  aY (hp.set k (.rw (.agg 57 (T.set j (nlz (M.S j)))))) F m (M.cleared j) ∧ Chg hp (hp.set k (.rw (.agg 57 (T.set j (nlz (M.S j)))))) F F ∧ (hp.set k (.rw (.agg 57 (T.set j (nlz (M.S j))))))[m]? = hp[m]? := by
 obtain ⟨k', fk, ne, ⟨cp', left, h1, h2, h3⟩, sv, ow, h4, h5⟩ := h.mb;have hkk : k = k' := pV (Blk.rw.inj (Option.some.inj (hb.symm.trans h1)));subst hkk;have hkl := au h4;have hm : (hp.set k (.rw (.agg 57 ((tab M.n fun i => plV (M.S i) (M.L i) (sv i)).set j (nlz (M.S j))))))[m]? = hp[m]? := List.getElem?_set_ne (Ne.symm ne);refine ⟨_, lnV (am (M.S j) (M.L j)), sv j, flV (M.L j), h4, dt _ _, al (f := fun i => plV (M.S i) (M.L i) (sv i)) hj, rfl, (h5 j hj).tag, rfl, ⟨h.ok.cleared j, h.inn.set, h.fm, k, fk, ne, ⟨cp', left, hm.trans h1, h2, h3⟩, upd sv j .nils, ow, ?_, fun x hx => ?_⟩, dm.mono (fun x hx => by cases hx; exact fk) fun _ => .inr, hm⟩
 ·rw [bA, List.getElem?_set_self hkl];have : (upd (fun i => plV (M.S i) (M.L i) (sv i)) j (nlz (M.S j))) = fun i => plV ((M.cleared j).S i) ((M.cleared j).L i) (upd sv j .nils i) := by
   funext x;unfold upd AM.cleared;simp only;by_cases e : x = j
   ·subst e; rw [if_pos rfl, aj, if_pos rfl, ND]
   ·rw [if_neg e, ao e, if_neg e]
  rw [this];rfl
 ·have hx' : x < M.n := hx;unfold AM.cleared;simp only;by_cases e : x = j
  ·subst e; rw [aj, aj]; exact .nil
  ·rw [ao e, ao e];exact (h5 x hx').eqv (fun y hy => List.getElem?_set_ne (Ne.symm hy.2.2.1)) fun _ h => h
def AM.crashN : AM → List Int → Nat → Nat → AM
 | M, _, _, 0 => M
 | M, ks, i, n + 1 => if M.L i = [] then M.crashN ks (i + 1) n else ((M.sureN i ((nxK ks).1 % (((M.L i).length : Int) + 1)).toNat).cleared i).crashN (nxK ks).2 (i + 1) n
def AM.crash (M : AM) (ks : List Int) : AM := { M.crashN ks 0 M.n with off := false, left := -1 }
theorem Hx {ks : List Int} (hr : ∀ k ∈ ks, -9223372036854775808 ≤ k ∧ k ≤ 9223372036854775807) : 0 ≤ (nxK ks).1 ∧ (nxK ks).1 ≤ 9223372036854775807 ∧ ∀ k ∈ (nxK ks).2, -9223372036854775808 ≤ k ∧ k ≤ 9223372036854775807 := by
 cases ks with
 | nil => exact ⟨by decide, by decide, hr⟩
 | cons k r =>
  have := hr k List.mem_cons_self;refine ⟨?_, ?_, fun x hx => hr x (List.mem_cons_of_mem _ hx)⟩
  ·simp only [nxK]; split <;> omega
  ·simp only [nxK]; split <;> omega
theorem pQ {m : Nat} (L : List Blk) {nL : Nat} : ∀ (n i : Nat) {M : AM} {hp : List Blk} {F : Ft} {v : V} {ks : List Int}, i + n = M.n → M.n = nL → M.count < 1000000 → aY hp F m M → gR hp F v ks → (∀ k ∈ ks, -9223372036854775808 ≤ k ∧ k ≤ 9223372036854775807) →
 ∃ hp' F' v', rc D L.length (.loop [0, 4, 13, 14] cq) [(0, .ptr (.hp m) [] 59), (4, .fn cw [.ptr (.loc L.length) [] 1]), (13, .int .i64 nL), (14, .int .i64 i)] ⟨L ++ [.rw v], hp⟩ =
  some (.exit 0, [(0, .ptr (.hp m) [] 59), (4, .fn cw [.ptr (.loc L.length) [] 1]), (13, .int .i64 nL), (14, .int .i64 nL), (15, .bool false)], ⟨L ++ [.rw v'], hp'⟩) ∧ aY hp' F' m (M.crashN ks i n) ∧ Chg hp hp' F F'
 | 0, i, M, hp, F, v, ks, hi, hn, hc, h, hK, hr => by
  have : i = nL := by omega
  subst this;refine ⟨hp, F, v, ?_, h, .refl _ _⟩;have d1 : ¬ (i : Int) < i := by omega
  rw [ah];simp only [go_sem, cq, d1]
 | n + 1, i, M, hp, F, v, ks, hi, hn, hc, h, hK, hr => by
  have hM := h;obtain ⟨k, fk, ne, ⟨cp, left, h1, h2, h3⟩, sv, ow, h4, h5⟩ := h.mb;have hj : i < M.n := by omega
  have g := al (f := fun q => plV (M.S q) (M.L q) (sv q)) hj;have g0 : plV (M.S i) (M.L i) (sv i) = .agg 55 [lnV (am (M.S i) (M.L i)), lnV (M.S i), sv i, flV (M.L i)] := rfl;rw [g0] at g;have d1 : (i : Int) < M.n := by omega
  have d0 : (0 : Int) ≤ i := by omega
  have d4 : IntKind.i64.wrap ((i : Int) + 1) = ((i + 1 : Nat) : Int) := ag (by omega) (by have := h.ok.n1; omega);have hsl := (h5 i hj).slen;rw [List.length_map] at hsl;have hlen := h.ok.len i hj;have hsad : jS 55 (.sl (.hp k) [] 0 M.n cp 55) (.int .i64 (i : Int)) = some (.ptr (.hp k) [i] 55) := by simp [go_sem, hj]
  subst hn;have z0 : L.length < L.length + 1 := by omega
  have vlt : V.locLt (L.length + 1) v = true := ce (Nat.zero_le _) hK.lt;unfold AM.crashN;by_cases hz : M.L i = []
  ·rw [if_pos hz];obtain ⟨hp', F', v', r1, r2, r3⟩ := pQ L n (i + 1) (by omega) rfl hc hM hK hr;refine ⟨hp', F', v', ?_, r2, r3⟩;rw [← r1, ah];have d5 : ¬ (((M.L i).length : Nat) : Int) > 0 := by rw [hz]; simp
   simp only [bv] at h1;generalize (tab M.n fun q => plV (M.S q) (M.L q) (sv q)) = T0 at *;generalize (M.L i).length = fz at *;simp only [go_sem, cq, d1, h1, hsad, h4, g, Int.toNat_natCast, hsl, d5, d4, z0, vlt]
  ·rw [if_neg hz];obtain ⟨k0, k1, k2⟩ := Hx hr;obtain ⟨v', c1, c2⟩ := M6 (L := L ++ [.rw v]) (p := L.length) hK hr (by simp);rw [qK] at c1;have hpos : 0 < (M.L i).length := List.length_pos_iff.2 hz;have hq0 := Int.emod_nonneg (nxK ks).1 (show (((M.L i).length : Nat) : Int) + 1 ≠ 0 by omega);have hq1 := Int.emod_lt_of_pos (nxK ks).1 (show 0 < (((M.L i).length : Nat) : Int) + 1 by omega);have w3 : ((nxK ks).1).tmod (((M.L i).length : Int) + 1) = (((nxK ks).1 % (((M.L i).length : Int) + 1)).toNat : Nat) := by
    rw [Int.tmod_eq_emod_of_nonneg k0]; omega
   generalize hQ : ((nxK ks).1 % (((M.L i).length : Int) + 1)).toNat = Q at *;obtain ⟨hp1, F1, s1, s2, s3, s4⟩ := pE hM hc h1 (j := i) (n := Q) hj (by omega) (L ++ [.rw v']);obtain ⟨T, y1, y3, y4, t1, t2, t3, t4, t5, t6, t7, t8, t9⟩ := IV s2 (s4.trans h1) (j := i) hj;obtain ⟨hp', F', v2, r1, r2, r3⟩ := pQ L n (i + 1) (nL := M.n) (M := (M.sureN i Q).cleared i) (by show i + 1 + n = M.n; omega) rfl hc t7 ((c2.chg s3).chg t8) k2;refine ⟨hp', F', v2, ?_, r2, (s3.trans t8).trans r3⟩;rw [← r1, ah];have vlt' : V.locLt (L.length + 1) v' = true := ce (Nat.zero_le _) c2.lt;have d5 : (((M.L i).length : Nat) : Int) > 0 := by omega
   have d6 : IntKind.i64.wrap (((M.L i).length : Int) + 1) = ((M.L i).length : Int) + 1 := ag (by omega) (by omega);have d7 : ¬ ((M.L i).length : Int) + 1 = 0 := by omega
   have hTx : ∀ x, (T.set i x)[i]? = some x := fun x => List.getElem?_set_self (by rw [t2]; exact hj);have hkl := au t1;have hkx : ∀ x, (hp1.set k x)[k]? = some x := fun x => List.getElem?_set_self hkl;simp only [bv, nlz, nlV] at h1 ⊢;clear r1 r2 r3 t7 t8 t9 s2 s3 hQ;generalize (tab M.n fun q => plV (M.S q) (M.L q) (sv q)) = T0 at *;generalize (M.L i).length = fz at *;generalize (nxK ks).1 = K at *;have zt : (lnV ((M.sureN i Q).S i)).tag = 24 := rfl;have zl0 : V.locLt 0 (lnV ((M.sureN i Q).S i)) = true := vN;generalize lnV ((M.sureN i Q).S i) = Z at *;simp only [go_sem, cq, d1, h1, hsad, h4, g, hsl, d5, d4, c1, d6, d7, w3, s1, t1, t3, hkx, hTx, z0, vlt', zt, zl0, t4, t5, t6, List.set_set]
theorem qg : ∀ (n i : Nat) {M : AM} {ks : List Int}, (M.crashN ks i n).n = M.n ∧ (M.crashN ks i n).count = M.count
 | 0, _, _, _ => ⟨rfl, rfl⟩
 | n + 1, i, M, ks => by
  unfold AM.crashN;split
  ·exact qg n (i + 1)
  ·exact qg n (i + 1)
theorem BQ {hp : List Blk} {F : Ft} {m : Nat} {M : AM} (h : aY hp F m M) (hc : M.count < 1000000) {v : V} {ks : List Int} (hK : gR hp F v ks) (hr : ∀ k ∈ ks, -9223372036854775808 ≤ k ∧ k ≤ 9223372036854775807) (L : List Blk) :
 ∃ hp' F', rf D iR [.ptr (.hp m) [] 59, v] ⟨L, hp⟩ = some (.tup [], ⟨L, hp'⟩) ∧ aY hp' F' m (M.crash ks) ∧ Chg hp hp' F F' := by
 obtain ⟨hp1, F1, v1, r1, r2, r3⟩ := pQ L M.n 0 (by omega) rfl hc h hK hr;obtain ⟨k, fk, ne, ⟨cp, left, h1, h2, h3⟩, _⟩ := h.mb;have n1 := (qg M.n 0 (M := M) (ks := ks)).1;have hM1 := r2;obtain ⟨k', fk', ne', ⟨cp', left', q1, q2, q3⟩, sv, ow, q4, q5⟩ := r2.mb;generalize hN : M.crashN ks 0 M.n = N at *;have hml := au q1;refine ⟨hp1.set m (.rw (bv k' N.n cp' false false left' N.count)), F1, ?_, ?_, r3.trans (dm.mono (fun x hx => by cases hx; exact r2.fm) fun _ => .inr)⟩
 ·have hvo : v.ok = true := by cases hK <;> rfl
  have vt := hK.tag;simp only [bv] at h1 q1 ⊢;rw [show ((0 : Nat) : Int) = 0 from rfl] at r1
  rw [ae sO rfl];have hkx : ∀ x, (hp1.set m x)[m]? = some x := fun x => List.getElem?_set_self hml;simp only [go_sem, h1, r1, q1, hvo, vt, hkx, List.set_set]
 ·have ok := r2.ok;unfold AM.crash;rw [hN];refine ⟨⟨ok.n0, ok.n1, ok.l8, ok.w8, ok.c0, ok.len, by show (-1 : Int) ≤ -1; decide, by show (-1 : Int) ≤ 9223372036854775807; decide⟩, r2.inn.set, r2.fm, k', fk', ne', ⟨cp', left', List.getElem?_set_self hml, q2, fun h => absurd h (by show ¬ (0 : Int) ≤ -1; decide)⟩, sv, ow, ?_, fun x hx => ?_⟩
  ·rw [List.getElem?_set_ne ne']; exact q4
  ·exact (q5 x hx).eqv (fun y hy => List.getElem?_set_ne (Ne.symm hy.2.1)) fun _ h => h
end Go.Proofs.YtmimfopnhmmlbaaGreatDoor
namespace Go.Proofs.YtmimfopnhmmlbaaGreatDoor
open Go.Ab
theorem Gi {M : AM} {i q : Nat} (hi : i < M.n) (hq : q < 8) (v : Int) : ((M.store i q v).2 = 0 ∧ (M.store i q v).1.off = M.off ∧ (M.store i q v).1.now i = (M.now i).set q v) ∨ ((M.store i q v).2 = 4 ∧ (M.store i q v).1.off = true) := by
 unfold AM.store;rw [if_neg (by omega)];split
 ·exact .inr ⟨rfl, rfl⟩
 ·refine .inl ⟨rfl, rfl, ?_⟩;simp only [zr, Int.toNat_natCast, Dn.mk0];rfl
theorem tG {at' : Nat} {l : List Int} (hl : l.length = 8) : ∀ (n j : Nat) {M : AM}, at' < M.n → j + n = 8 → ∀ o : List Int, o.length = 8 → M.now at' = qy l o j →
 ((M.layFrom at' l j n).2 = 0 ∧ (M.layFrom at' l j n).1.off = M.off ∧ (M.layFrom at' l j n).1.now at' = l) ∨ ((M.layFrom at' l j n).2 = 4 ∧ (M.layFrom at' l j n).1.off = true)
 | 0, j, M, _, hj, o, ho, hm => by
  left;refine ⟨rfl, rfl, ?_⟩;have : j = 8 := by omega
  subst this;show M.now at' = l;rw [hm];unfold qy;rw [List.take_of_length_le (by omega), List.drop_eq_nil_iff.2 (by omega), List.append_nil]
 | n + 1, j, M, hi, hj, o, ho, hm => by
  have hs := Gi hi (show j < 8 by omega) (l.getD j 0);have hn : (M.store at' j (l.getD j 0)).1.n = M.n := AM.store_n;unfold AM.layFrom;rcases hs with ⟨h1, h2, h3⟩ | ⟨h1, h2⟩
  ·rw [if_neg (by rw [h1]; simp)];have := tG hl n (j + 1) (M := (M.store at' j (l.getD j 0)).1) (by rw [hn]; exact hi) (by omega) o ho (by rw [h3, hm]; exact AJ hl ho (by omega));rw [h2] at this;exact this
  ·rw [if_pos (by rw [h1]; decide)];exact .inr ⟨h1, h2⟩
theorem CJ {M : AM} (hok : M.Ok) {at' : Nat} {l : List Int} (hl : l.length = 8) (hi : at' < M.n) :
 ((M.layFrom at' l 0 8).2 = 0 ∧ (M.layFrom at' l 0 8).1.off = M.off ∧ (M.layFrom at' l 0 8).1.now at' = l) ∨ ((M.layFrom at' l 0 8).2 = 4 ∧ (M.layFrom at' l 0 8).1.off = true) :=
 tG hl 8 0 hi rfl (M.now at') (hok.now8 hi) (by simp [qy])
theorem sn {M : AM} {i : Nat} (hi : i < M.n) : ((M.flush 0 i).2 = 0 ∧ (M.flush 0 i).1.off = M.off ∧ Fl (M.flush 0 i).1 i ∧ ∀ j, (M.flush 0 i).1.now j = M.now j) ∨ ((M.flush 0 i).2 = 4 ∧ (M.flush 0 i).1.off = true) := by
 unfold AM.flush;rw [if_neg (by omega)];split
 ·exact .inr ⟨rfl, rfl⟩
 ·refine .inl ⟨rfl, rfl, ?_, fun j => ?_⟩
  ·rw [Int.toNat_natCast]; exact wt
  ·exact AM.now_flushed
theorem yh {M : AM} : ((M.fence 0).2 = 0 ∧ (M.fence 0).1.off = M.off ∧ (∀ j, j < M.n → Fl M j → Sur (M.fence 0).1 j) ∧ ∀ j, (M.fence 0).1.now j = M.now j) ∨ ((M.fence 0).2 = 4 ∧ (M.fence 0).1.off = true) := by
 unfold AM.fence;rw [if_neg (by omega)];split
 ·exact .inr ⟨rfl, rfl⟩
 ·refine .inl ⟨rfl, ?_, fun j hj hf => ?_, fun j => ?_⟩
  ·exact (cV (M := M.stepped) (c := 0) M.n).2.2.1
  ·have h2 : Fl M.stepped j := hf;exact Fe h2 hj
  ·exact oh M.n
theorem xN {M : AM} {c i : Int} {j : Nat} (h : Sur M j) : Sm M (M.flush c i).1 j := by
 unfold AM.flush;split
 ·exact .refl _ _
 ·split
  ·exact vc
  ·refine ⟨?_, rfl⟩;simp only [AM.flushed, AM.stepped];by_cases e : j = i.toNat
   ·subst e;rw [aj];have e2 : M.L i.toNat = [] := h;rw [e2]; rfl
   ·exact ao e
theorem I3 {M : AM} {i : Nat} {j : Nat} (h : Fl M j) : Fl (M.flush 0 i).1 j := by
 unfold AM.flush;split
 ·exact h
 ·split
  ·exact h
  ·by_cases e : j = i
   ·subst e;show Fl (M.stepped.flushed 0 (j : Int).toNat) j;rw [Int.toNat_natCast]; exact wt
   ·unfold Fl at *;simp only [AM.flushed, AM.stepped, Int.toNat_natCast];show flN 0 (upd M.L i _ j) = (upd M.L i _ j).length;rw [ao e]; exact h
end Go.Proofs.YtmimfopnhmmlbaaGreatDoor
namespace Go.Proofs.YtmimfopnhmmlbaaGreatDoor
open Go.Ab
theorem HH {w : AW} (h : Inv w.x) {l : List Int} (hl : l.length = 8) (q : Nat) :
 (w.x.A.left = 0 ∧ w.write l q = (w, 10)) ∨ ∃ k M, w.x.A.f ≤ k ∧ k < w.x.A.l ∧ w.x.A.st k = 0 ∧ M.Ok ∧ M.n = w.x.M.n ∧ (∀ j, j ≠ k → Sm w.x.M M j) ∧
  ((w.write l q = ({ w with x := { w.x with M := M, A := w.x.A.put k 1 }, dir := upd w.dir q (k : Int) }, 0) ∧ M.off = w.x.M.off ∧ M.now k = l ∧ Fl M k) ∨
   (w.write l q = ({ w with x := { w.x with M := M, A := w.x.A.put k 1 } }, 4) ∧ M.off = true)) := by
 cases hf : w.x.A.first with
 | none =>
  left;have ha : w.x.A.alloc = (w.x.A, 0, 10) := by unfold AF.alloc; rw [hf]
  refine ⟨AF.left_zero.2 hf, ?_⟩;have : w.x.lay l = (w.x, 0, 10) := by unfold AS.lay; rw [ha, if_pos (by simp)]
  unfold AW.write;rw [this, if_pos (by simp)]
 | some k =>
  right;obtain ⟨h1, h2, h3, _⟩ := jc h.ok.A hf;have ha : w.x.A.alloc = (w.x.A.put k 1, (k : Int), 0) := by unfold AF.alloc; rw [hf]
  have hkn : k < w.x.M.n := by rw [← h.ok.l]; exact h2
  have hlo := CJ h.ok.M hl hkn;have hok : (w.x.M.layFrom k l 0 8).1.Ok := h.ok.M.layFrom;have hn : (w.x.M.layFrom k l 0 8).1.n = w.x.M.n := AM.layFrom_n;have hsm : ∀ j, j ≠ k → Sm w.x.M (w.x.M.layFrom k l 0 8).1 j := fun j hj => nj (by rw [Int.toNat_natCast]; exact hj) 8 0 _;rcases hlo with ⟨g1, g2, g3⟩ | ⟨g1, g2⟩
  ·have hlay : w.x.lay l = ({ w.x with A := w.x.A.put k 1, M := (w.x.M.layFrom k l 0 8).1 }, (k : Int), 0) := by
    unfold AS.lay;rw [ha, if_neg (by simp)];simp only [g1];rw [if_neg (by simp)]
   have hfo := sn (M := (w.x.M.layFrom k l 0 8).1) (i := k) (by rw [hn]; exact hkn);have hfk : ((w.x.M.layFrom k l 0 8).1.flush 0 k).1.Ok := by
    unfold AM.flush;split
    ·exact hok
    ·split
     ·exact hok.out
     ·exact hok.stepped.flushed _ _
   refine ⟨k, ((w.x.M.layFrom k l 0 8).1.flush 0 k).1, h1, h2, h3, hfk, bY.2.trans hn, fun j hj => (hsm j hj).trans (zT (by rw [Int.toNat_natCast]; exact hj)), ?_⟩;rcases hfo with ⟨f1, f2, f3, f4⟩ | ⟨f1, f2⟩
   ·left;refine ⟨?_, f2.trans g2, by rw [f4]; exact g3, f3⟩;unfold AW.write;rw [hlay];simp only [f1];rw [if_neg (by simp), if_neg (by simp)]
   ·right;refine ⟨?_, f2⟩;unfold AW.write;rw [hlay];simp only [f1];rw [if_neg (by simp), if_pos (by decide)]
  ·have hlay : w.x.lay l = ({ w.x with A := w.x.A.put k 1, M := (w.x.M.layFrom k l 0 8).1 }, 0, 4) := by
    unfold AS.lay;rw [ha, if_neg (by simp)];simp only [g1];rw [if_pos (by decide)]
   refine ⟨k, (w.x.M.layFrom k l 0 8).1, h1, h2, h3, hok, hn, hsm, .inr ⟨?_, g2⟩⟩;unfold AW.write;rw [hlay];simp only;rw [if_pos (by decide)]
def sN (x : AS) (v : Int) : Prop := ∃ q : Nat, v = q ∧ 10 ≤ q ∧ q < x.M.n ∧ x.A.st q = 1 ∧ ax x.work q = false ∧ ax x.base q = false ∧ ax x.mark q = false
structure Ck (x0 : AS) (G : List (Nat × Int)) (w : AW) : Prop where
 inv : Inv w.x
 f : w.x.A.f = 10
 base : w.x.base = x0.base
 mark : w.x.mark = x0.work
 is : w.x.is = true
 dir : w.x.dir = x0.dir
 n : w.x.M.n = x0.M.n
 tbl : w.tbl = x0.work
 d0 : ∀ k, k < 8 → sN w.x (w.x.dir k)
 d1 : ∀ k, k < 8 → sN w.x (w.dir k)
 dj : ∀ k l, k < 8 → l < 8 → k ≠ l → w.dir k ≠ w.dir l
 safe : ∀ j : Nat, (j < 10 ∨ ax x0.base j = true ∨ mh x0.dir j = true) → Sur w.x.M j ∧ w.x.M.S j = x0.M.S j
 lin : ∀ j : Nat, ax x0.work j = true → w.x.M.now j = x0.M.now j ∧ (ax x0.base j = true ∨ ((0 : Nat), (j : Int)) ∈ w.st ∨ Fl w.x.M j)
 lf : ∀ k : Nat, k < 7 → ((1 : Nat), (k : Int)) ∈ w.st ∨ (w.x.M.now (w.dir k).toNat = bg x0.work k ∧ Fl w.x.M (w.dir k).toNat)
 rt : ((2 : Nat), (0 : Int)) ∈ w.st ∨ (w.x.M.now (w.dir 7).toNat = aZ w.dir ∧ Fl w.x.M (w.dir 7).toNat)
 fe : ((3 : Nat), (0 : Int)) ∈ w.st ∨ ((∀ j : Nat, ax x0.work j = true → Sur w.x.M j) ∧ ∀ k, k < 8 → Sur w.x.M (w.dir k).toNat)
 suf : w.st <:+ G ++ [(2, 0), (3, 0), (4, 0)]
 g : ∀ p ∈ G, (p.1 = 0 ∧ ∃ q : Nat, p.2 = q ∧ q < x0.M.n) ∨ (p.1 = 1 ∧ ∃ k : Nat, p.2 = k ∧ k < 7)
theorem uf {p : Nat × Int} {r : List (Nat × Int)} : ∀ {G : List (Nat × Int)}, p :: r <:+ G ++ [(2, 0), (3, 0), (4, 0)] →
 (p ∈ G ∧ [(2, 0), (3, 0), (4, 0)] <:+ r) ∨ (p = (2, 0) ∧ r = [(3, 0), (4, 0)]) ∨ (p = (3, 0) ∧ r = [(4, 0)]) ∨ (p = (4, 0) ∧ r = [])
 | [], h => by
  right;rw [List.nil_append] at h;rcases List.suffix_cons_iff.1 h with h | h
  ·simp only [List.cons.injEq] at h; exact .inl h
  ·rcases List.suffix_cons_iff.1 h with h | h
   ·simp only [List.cons.injEq] at h; exact .inr (.inl h)
   ·rcases List.suffix_cons_iff.1 h with h | h
    ·simp only [List.cons.injEq] at h; exact .inr (.inr h)
    ·exact absurd (List.suffix_nil.1 h) (by simp)
 | g :: G, h => by
  rw [List.cons_append] at h;rcases List.suffix_cons_iff.1 h with h | h
  ·simp only [List.cons.injEq] at h;rw [h.1, h.2];exact .inl ⟨List.mem_cons_self, List.suffix_append _ _⟩
  ·rcases uf h with ⟨h1, h2⟩ | h
   ·exact .inl ⟨List.mem_cons_of_mem _ h1, h2⟩
   ·exact .inr h
end Go.Proofs.YtmimfopnhmmlbaaGreatDoor
namespace Go.Proofs.YtmimfopnhmmlbaaGreatDoor
open Go.Ab
section
variable {x0 : AS} {G : List (Nat × Int)} {w : AW}
def Old (x0 : AS) (j : Nat) : Prop := j < 10 ∨ ax x0.base j = true ∨ mh x0.dir j = true
theorem gQ {d : Nat → Int} {j : Nat} : mh d j = true ↔ ∃ k, k < 8 ∧ d k = j := by
 unfold mh;simp only [List.any_eq_true, List.mem_range, decide_eq_true_eq]
theorem Ck.kpB (h : Ck x0 G w) {j : Nat} (hj : ax x0.base j = true ∨ ax x0.work j = true) : Kp w.x j := by
 have hs : w.x.sh j = true := by
  rw [ms h.inv.ok, h.base, h.mark, h.is];rcases hj with hj | hj <;> simp [hj]
 exact ⟨.inr ⟨h.inv.s1 j hs, .inl hs⟩⟩
theorem sN.kp {x : AS} {v : Int} (h : sN x v) : Kp x v.toNat := by
 obtain ⟨q, rfl, _, _, h1, h2, _⟩ := h;rw [Int.toNat_natCast];exact ⟨.inr ⟨h1, .inr h2⟩⟩
theorem Ck.kpO (h : Ck x0 G w) {j : Nat} (hj : Old x0 j) : Kp w.x j := by
 rcases hj with hj | hj | hj
 ·exact ⟨.inl (by rw [h.f]; exact hj)⟩
 ·exact h.kpB (.inl hj)
 ·obtain ⟨k, hk, e⟩ := gQ.1 hj;have := (h.d0 k hk).kp;rw [h.dir, e, Int.toNat_natCast] at this;exact this
theorem GT {d : Nat → Int} {v : Int} : aZ (upd d 7 v) = aZ d := by
 have e : ∀ j, j < 7 → upd d 7 v j = d j := fun j hj => ao (by omega);unfold aZ dh rlL;have h1 : ((List.range 7).all fun j => decide (0 ≤ upd d 7 v (0 + j)) && decide (upd d 7 v (0 + j) < 1024)) = (List.range 7).all fun j => decide (0 ≤ d (0 + j)) && decide (d (0 + j) < 1024) := by
  apply Bool.eq_iff_iff.2;simp only [List.all_eq_true, List.mem_range];constructor
  ·intro hh j hj; have := hh j hj; rw [e (0 + j) (by omega)] at this; exact this
  ·intro hh j hj; rw [e (0 + j) (by omega)]; exact hh j hj
 have h2 : ((List.range 8).map fun j => if j < 7 then ior .u64 4294967296 (IntKind.u64.wrap (upd d 7 v j)) else 0) = (List.range 8).map fun j => if j < 7 then ior .u64 4294967296 (IntKind.u64.wrap (d j)) else 0 := by
  apply List.map_congr_left;intro j _;split
  ·rename_i hj; rw [e j hj]
  ·rfl
 rw [h1, h2]
def Off (x0 : AS) (w w' : AW) : Prop := w'.x.M.off = true ∧ w'.st = w.st ∧ w'.x.M.Ok ∧ w'.x.M.n = w.x.M.n ∧ ∀ j, Old x0 j → Sur w'.x.M j ∧ w'.x.M.S j = x0.M.S j
structure Did (w w' : AW) (p : Nat × Int) (r : List (Nat × Int)) : Prop where
 st : w'.st = r
 work : w'.x.work = w.x.work
 off : w'.x.M.off = w.x.M.off
 b : w'.b = w.b
 slot : w'.slot = w.slot
 seq : w'.seq = w.seq
 left : w'.x.A.left + wrN p = w.x.A.left
theorem Ix {p : Nat × Int} {r l : List (Nat × Int)} (h : p :: r <:+ l) : r <:+ l := (List.suffix_cons p r).trans h
theorem Ck.step (h : Ck x0 G w) {p : Nat × Int} {r : List (Nat × Int)} (hw : w.st = p :: r) (hr : r ≠ []) :
 (∃ w', w.step = (w', false, 0) ∧ Ck x0 G w' ∧ Did w w' p r) ∨ (w.x.A.left = 0 ∧ wrN p = 1) ∨ (∃ w', w.step = (w', false, 4) ∧ Off x0 w w') := by
 have hd : decide (r = []) = false := decide_eq_false hr;have hsuf := h.suf;rw [hw] at hsuf;have hst := Ix hsuf;have mem : ∀ q : Nat × Int, q ∈ w.st → q ≠ p → q ∈ r := fun q hq hne => by
  rw [hw] at hq;rcases List.mem_cons.1 hq with e | e
  ·exact absurd e hne
  ·exact e
 have ok := h.inv.ok;have memo : ∀ M : AM, M.Ok → M.n = w.x.M.n → M.off = w.x.M.off → (∀ j, M.now j = w.x.M.now j) → (∀ j, Sur w.x.M j → Sm w.x.M M j) → (∀ j, j < w.x.M.n → Fl w.x.M j → Fl M j) → w.doStep p = ({ w with x := { w.x with M := M } }, 0) → wrN p = 0 →
  (∀ q : Nat, p = (0, (q : Int)) → Fl M q) → p.1 ≠ 1 → p.1 ≠ 2 → (p = (3, 0) → (∀ j : Nat, ax x0.work j = true → Sur M j) ∧ ∀ k, k < 8 → Sur M (w.dir k).toNat) →
  (∃ w', w.step = (w', false, 0) ∧ Ck x0 G w' ∧ Did w w' p r) := by
  intro M m1 m2 m3 m4 m5 m6 m7 m8 m9 m10 m11 m12;refine ⟨{ w with x := { w.x with M := M }, st := r }, ?_, ⟨h.inv.withM m1 m2, h.f, h.base, h.mark, h.is, h.dir, m2.trans h.n, h.tbl, fun k hk => ?_, fun k hk => ?_, h.dj, fun j hj => ?_, fun j hj => ?_, fun k hk => ?_, ?_, ?_, hst, h.g⟩, ⟨rfl, rfl, m3, rfl, rfl, rfl, by rw [m8]; rfl⟩⟩
  ·unfold AW.step;rw [hw];simp only [m7, hd, if_true]
  ·obtain ⟨q, e1, e2, e3, e4⟩ := h.d0 k hk;exact ⟨q, e1, e2, by rw [m2]; exact e3, e4⟩
  ·obtain ⟨q, e1, e2, e3, e4⟩ := h.d1 k hk;exact ⟨q, e1, e2, by rw [m2]; exact e3, e4⟩
  ·have s := m5 j (h.safe j hj).1;exact ⟨s.sur (h.safe j hj).1, s.S.trans (h.safe j hj).2⟩
  ·obtain ⟨e1, e2⟩ := h.lin j hj;have hjn : j < w.x.M.n := by
    obtain ⟨i, i1, i2, i3⟩ := aL.1 hj;have := ok.k.inn i i1 (by rw [h.mark]; exact i2);rw [h.mark, i3] at this;have hl := ok.l;omega
   refine ⟨(m4 j).trans e1, ?_⟩;rcases e2 with e2 | e2 | e2
   ·exact .inl e2
   ·by_cases e : ((0 : Nat), (j : Int)) = p
    ·exact .inr (.inr (m9 j e.symm))
    ·exact .inr (.inl (mem _ e2 e))
   ·exact .inr (.inr (m6 j hjn e2))
  ·rcases h.lf k hk with e | e
   ·exact .inl (mem _ e fun e2 => m10 (by rw [← e2]))
   ·obtain ⟨q, q1, _, q3, _⟩ := h.d1 k (by omega);exact .inr ⟨(m4 _).trans e.1, m6 _ (by rw [q1, Int.toNat_natCast]; exact q3) e.2⟩
  ·rcases h.rt with e | e
   ·exact .inl (mem _ e fun e2 => m11 (by rw [← e2]))
   ·obtain ⟨q, q1, _, q3, _⟩ := h.d1 7 (by omega);exact .inr ⟨(m4 _).trans e.1, m6 _ (by rw [q1, Int.toNat_natCast]; exact q3) e.2⟩
  ·rcases h.fe with e | e
   ·by_cases e2 : ((3 : Nat), (0 : Int)) = p
    ·exact .inr (m12 e2.symm)
    ·exact .inl (mem _ e e2)
   ·exact .inr ⟨fun j hj => (m5 j (e.1 j hj)).sur (e.1 j hj), fun k hk => (m5 _ (e.2 k hk)).sur (e.2 k hk)⟩
 have off4 : ∀ (M : AM) (A : AF), M.off = true → M.Ok → M.n = w.x.M.n → (∀ j, Old x0 j → Sm w.x.M M j) → w.doStep p = ({ w with x := { w.x with M := M, A := A } }, 4) → ∃ w', w.step = (w', false, 4) ∧ Off x0 w w' := by
  intro M A m1 m2 m3 m4 m5;refine ⟨{ w with x := { w.x with M := M, A := A } }, ?_, m1, rfl, m2, m3, fun j hj => ?_⟩
  ·unfold AW.step;rw [hw];simp only [m5];rw [if_neg (by decide), if_neg (by decide), ← hw]
  ·have s := m4 j hj;exact ⟨s.sur (h.safe j hj).1, s.S.trans (h.safe j hj).2⟩
 have wrt : ∀ (l : List Int) (q : Nat), l.length = 8 → q < 8 → w.doStep p = w.write l q → wrN p = 1 → ((3 : Nat), (0 : Int)) ∈ r → ((q < 7 ∧ p = (1, (q : Int)) ∧ l = bg x0.work q ∧ ((2 : Nat), (0 : Int)) ∈ r) ∨ (q = 7 ∧ p = (2, 0) ∧ l = aZ w.dir)) →
  (∃ w', w.step = (w', false, 0) ∧ Ck x0 G w' ∧ Did w w' p r) ∨ (w.x.A.left = 0 ∧ wrN p = 1) ∨ (∃ w', w.step = (w', false, 4) ∧ Off x0 w w') := by
  intro l q hl hq h6 h7 h3 hpq;rcases HH h.inv hl q with ⟨g1, _⟩ | ⟨k, M, k1, k2, k3, m1, m2, m3, hres⟩
  ·exact .inr (.inl ⟨g1, h7⟩)
  ·have hk10 : 10 ≤ k := by rw [← h.f]; exact k1
   have hkp : ∀ j, Kp w.x j → j ≠ k := fun j hj e => by
    subst e;rcases hj.one with e | e
    ·omega
    ·rw [k3] at e; cases e
   rcases hres with ⟨e1, e2, e3, e4⟩ | ⟨e1, e2⟩
   ·left;have hp0 : p.1 ≠ 0 := by rcases hpq with ⟨_, e, _⟩ | ⟨_, e, _⟩ <;> rw [e] <;> simp
    have hiv : Inv { w.x with M := M, A := w.x.A.put k 1 } := (h.inv.taken k3).withM m1 m2;have hlp := AF.left_put (A := w.x.A) (k := k) (x := 1) k1 k2;rw [if_pos k3, if_neg (by decide)] at hlp;have hnw : ∀ t, (ax t k = true → w.x.A.st k = 1) → ax t k = false := fun t ht => by
     cases e : ax t k
     ·rfl
     ·have := ht e; rw [k3] at this; cases this
    have hsh := fun (j : Nat) (e : ax w.x.base j = true ∨ ax w.x.mark j = true) => h.inv.s1 j (by rw [ms ok, h.is]; rcases e with e | e <;> simp [e]);have hold : ∀ v, sN w.x v → sN { w.x with M := M, A := w.x.A.put k 1 } v := by
     rintro v ⟨a, a1, a2, a3, a4, a5⟩;refine ⟨a, a1, a2, by simp only; rw [m2]; exact a3, ?_, a5⟩;simp only [AF.put];rw [ao (fun e => by rw [e, k3] at a4; cases a4)]; exact a4
    have hnewL : sN { w.x with M := M, A := w.x.A.put k 1 } (k : Int) := by
     refine ⟨k, rfl, hk10, by simp only; rw [m2, ← ok.l]; exact k2, by simp only [AF.put]; exact aj, hnw _ fun e => h.inv.w1 k e, hnw _ fun e => hsh k (.inl e), hnw _ fun e => hsh k (.inr e)⟩
    have hdne : ∀ i, i < 8 → w.dir i ≠ (k : Int) := fun i hi e => by
     obtain ⟨a, a1, _, _, a4, _⟩ := h.d1 i hi;have : a = k := by rw [a1] at e; omega
     rw [this, k3] at a4; cases a4
    refine ⟨{ w with x := { w.x with M := M, A := w.x.A.put k 1 }, dir := upd w.dir q (k : Int), st := r }, ?_, ⟨hiv, h.f, h.base, h.mark, h.is, h.dir, m2.trans h.n, h.tbl, fun i hi => hold _ (h.d0 i hi), fun i hi => ?_, fun i j hi hj hne => ?_, fun j hj => ?_, fun j hj => ?_, fun i hi => ?_, ?_, .inl h3, hst, h.g⟩, ⟨rfl, rfl, e2, rfl, rfl, rfl, ?_⟩⟩
    ·unfold AW.step;rw [hw];simp only [h6, e1, hd, if_true]
    ·simp only [upd];split
     ·exact hnewL
     ·exact hold _ (h.d1 i hi)
    ·simp only [upd];split
     ·rename_i e5;rw [if_neg (by omega)];exact fun e => hdne j hj e.symm
     ·split
      ·exact hdne i hi
      ·exact h.dj i j hi hj hne
    ·have s := m3 j (hkp j (h.kpO hj));exact ⟨s.sur (h.safe j hj).1, s.S.trans (h.safe j hj).2⟩
    ·have s := m3 j (hkp j (h.kpB (.inr hj)));refine ⟨s.now.trans (h.lin j hj).1, (h.lin j hj).2.imp id fun e => e.imp (fun e => mem _ e fun e2 => hp0 (by rw [← e2])) s.fl⟩
    ·simp only;by_cases hiq : i = q
     ·subst hiq;right;rw [aj, Int.toNat_natCast];rcases hpq with ⟨_, _, e, _⟩ | ⟨e, _⟩
      ·exact ⟨e3.trans e, e4⟩
      ·omega
     ·rw [ao hiq];rcases h.lf i hi with e | e
      ·left;refine mem _ e fun e2 => ?_;rcases hpq with ⟨_, e5, _⟩ | ⟨_, e5, _⟩
       ·rw [e5] at e2; simp only [Prod.mk.injEq, true_and] at e2; omega
       ·rw [e5] at e2; simp at e2
      ·have s := m3 _ (hkp _ (h.d1 i (by omega)).kp);exact .inr ⟨s.now.trans e.1, s.fl e.2⟩
    ·rcases hpq with ⟨_, _, _, e⟩ | ⟨e, _, e5⟩
     ·exact .inl e
     ·right;subst e;simp only;rw [aj, Int.toNat_natCast, GT];exact ⟨e3.trans e5, e4⟩
    ·rw [h7]; simp only; omega
   ·exact .inr (.inr (off4 M _ e2 m1 m2 (fun j hj => m3 j (hkp j (h.kpO hj))) (by rw [h6]; exact e1)))
 have surO : ∀ j, Old x0 j → Sur w.x.M j := fun j hj => (h.safe j hj).1;rcases uf hsuf with ⟨hpG, h234⟩ | ⟨rfl, rfl⟩ | ⟨rfl, rfl⟩ | ⟨_, e⟩
 ·have h2 : ((2 : Nat), (0 : Int)) ∈ r := h234.subset (by simp);have h3 : ((3 : Nat), (0 : Int)) ∈ r := h234.subset (by simp);rcases h.g p hpG with ⟨p1, q, p2, p3⟩ | ⟨p1, k, p2, p3⟩
  ·have hp : p = (0, (q : Int)) := by rw [← p1, ← p2]
   have hqn : q < w.x.M.n := by rw [h.n]; exact p3
   have hdo : w.doStep p = ({ w with x := { w.x with M := (w.x.M.flush 0 q).1 } }, (w.x.M.flush 0 q).2) := by rw [hp]; rfl
   have hfk : (w.x.M.flush 0 q).1.Ok := by
    unfold AM.flush;split
    ·exact ok.M
    ·split
     ·exact ok.M.out
     ·exact ok.M.stepped.flushed _ _
   rcases sn hqn with ⟨f1, f2, f3, f4⟩ | ⟨f1, f2⟩
   ·left;refine memo _ hfk bY.2 f2 f4 (fun j hj => xN hj) (fun j _ hj => I3 hj) (by rw [hdo, f1]) (by rw [hp]; rfl) (fun q' e => ?_) (by rw [hp]; simp) (by rw [hp]; simp) (fun e => by rw [hp] at e; simp at e);rw [hp] at e;simp only [Prod.mk.injEq, true_and] at e;have : q' = q := by omega
    rw [this]; exact f3
   ·exact .inr (.inr (off4 _ w.x.A f2 hfk bY.2 (fun j hj => xN (surO j hj)) (by rw [hdo, f1])))
  ·have hp : p = (1, (k : Int)) := by rw [← p1, ← p2]
   exact wrt (bg x0.work k) k (oF _ _) (by omega) (by rw [hp, ← h.tbl]; rfl) (by rw [hp]; rfl) h3 (.inl ⟨p3, hp, rfl, h2⟩)
 ·exact wrt (aZ w.dir) 7 (sj _) (by decide) rfl rfl (by simp) (.inr ⟨rfl, rfl, rfl⟩)
 ·have hdo : w.doStep (3, 0) = ({ w with x := { w.x with M := (w.x.M.fence 0).1 } }, (w.x.M.fence 0).2) := rfl;have hfk : (w.x.M.fence 0).1.Ok ∧ (w.x.M.fence 0).1.n = w.x.M.n := by
   unfold AM.fence;split
   ·exact ⟨ok.M, rfl⟩
   ·split
    ·exact ⟨ok.M.out, rfl⟩
    ·exact ⟨lV ok.M.stepped _, (cV (M := w.x.M.stepped) (c := 0) _).1⟩
  rcases yh (M := w.x.M) with ⟨f1, f2, f3, f4⟩ | ⟨f1, f2⟩
  ·left;refine memo _ hfk.1 hfk.2 f2 f4 (fun j hj => uI hj) (fun j hj hf => (f3 j hj hf).fl) (by rw [hdo, f1]) rfl (fun q e => by simp at e) (by decide) (by decide) (fun _ => ⟨fun j hj => ?_, fun k hk => ?_⟩)
   ·have hjn : j < w.x.M.n := by
     obtain ⟨i, i1, i2, i3⟩ := aL.1 hj;have := ok.k.inn i i1 (by rw [h.mark]; exact i2);rw [h.mark, i3] at this;have hl := ok.l;omega
    rcases (h.lin j hj).2 with e | e | e
    ·exact f3 j hjn (surO j (.inr (.inl e))).fl
    ·rw [hw] at e; simp at e
    ·exact f3 j hjn e
   ·obtain ⟨q, q1, _, q3, _⟩ := h.d1 k hk;rw [q1, Int.toNat_natCast];by_cases hk7 : k = 7
    ·subst hk7;rcases h.rt with e | e
     ·rw [hw] at e; simp at e
     ·rw [q1, Int.toNat_natCast] at e; exact f3 q q3 e.2
    ·rcases h.lf k (by omega) with e | e
     ·rw [hw] at e; simp at e
     ·rw [q1, Int.toNat_natCast] at e; exact f3 q q3 e.2
  ·exact .inr (.inr (off4 _ w.x.A f2 hfk.1 hfk.2 (fun j hj => uI (surO j hj)) (by rw [hdo, f1])))
 ·exact absurd e hr
end
end Go.Proofs.YtmimfopnhmmlbaaGreatDoor
namespace Go.Proofs.YtmimfopnhmmlbaaGreatDoor
open Go.Ab
structure ir (t : Nat → Ent) : Prop where
 e : ∀ i, i < 49 → bF (t i) = true
 j : ∀ i j, i < 49 → j < 49 → i ≠ j → (t i).kind ≠ 0 → (t j).kind ≠ 0 → (t i).line ≠ (t j).line
theorem gO {e : Ent} : bF e = true ↔ (0 ≤ e.kind ∧ e.kind ≤ 4) ∧ (0 ≤ e.ver ∧ e.ver ≤ 16777215) ∧ (0 ≤ e.line ∧ e.line ≤ 1023) ∧ (e.kind = 0 → e.line = 0) := by
 unfold bF win;simp only [Bool.and_eq_true, decide_eq_true_eq, Bool.not_eq_true', Bool.and_eq_false_iff, decide_eq_false_iff_not];omega
theorem ir.upd {t : Nat → Ent} (h : ir t) {i : Nat} {e : Ent} (he : bF e = true) (hn : e.kind ≠ 0 → ∀ j, j < 49 → j ≠ i → (t j).kind ≠ 0 → (t j).line ≠ e.line) : ir (updE t i e) := by
 refine ⟨fun j hj => ?_, fun a b ha hb hne h1 h2 => ?_⟩
 ·unfold updE; split
  ·exact he
  ·exact h.e j hj
 ·unfold updE at *;by_cases e1 : a = i
  ·rw [if_pos e1] at h1 ⊢;have e2 : b ≠ i := by omega
   rw [if_neg e2] at h2 ⊢;exact fun e => hn h1 b hb e2 h2 e.symm
  ·rw [if_neg e1] at h1 ⊢;by_cases e2 : b = i
   ·rw [if_pos e2] at h2 ⊢;exact hn h2 a ha e1 h1
   ·rw [if_neg e2] at h2 ⊢;exact h.j a b ha hb hne h1 h2
theorem CA {x : AS} (h : Inv x) {k : Nat} (hk : x.A.st k = 0) {j : Nat} (hj : j < 49) (hkj : (x.work j).kind ≠ 0) : (x.work j).line ≠ (k : Int) := fun e => by
 have := h.w1 k (aL.2 ⟨j, hj, hkj, e⟩);rw [hk] at this; cases this
theorem ir.change {x : AS} (ht : ir x.work) (h : Inv x) (on : x.M.On) (o : Cll) : ir (x.change o).work := by
 have r20 := iU o.id (n := 20) (by decide);have r8 := iU o.word (n := 8) (by decide);have hl1 := h.ok.A.l1;unfold AS.change;split
 ·obtain ⟨i, hi⟩ : ∃ i : Nat, kd o.id 20 = i := ⟨(kd o.id 20).toNat, by omega⟩;obtain ⟨w, hw⟩ : ∃ w : Nat, kd o.word 8 = w := ⟨(kd o.word 8).toNat, by omega⟩;rw [hi, hw];by_cases hk : (x.work i).kind = 0
  ·have : x.set i w o.v = (x, 30) := by
    unfold AS.set;rw [if_neg (by omega), Int.toNat_natCast, if_pos hk]
   rw [this]; exact ht
  ·rcases uH h on (show i < 49 by omega) hk (show w < 8 by omega) o.v with ⟨_, _, e⟩ | ⟨y, e, hS⟩
   ·rw [e]; exact ht
   ·rw [e];by_cases ho : x.own i = true
    ·simp only; rw [(hS.same ho).2]; exact ht
    ·obtain ⟨k, k1, k2, k3, k4, _⟩ := hS.more (by simpa using ho);have : y.work = updE x.work i ⟨(x.work i).kind, (x.work i).ver, k⟩ := by
      funext j;unfold updE;split
      ·rename_i e1;rw [e1];have := hS.kv;cases hy : y.work i;rw [hy] at this k4;simp only at this k4;rw [this.1, this.2, k4]
      ·rename_i e1; exact hS.others j e1
     simp only [this];have hb := gO.1 (ht.e i (by omega));refine ht.upd (gO.2 ⟨hb.1, hb.2.1, by simp only; omega, fun e => absurd e hk⟩) fun _ j hj _ hkj => CA h k3 hj hkj
 ·split
  ·by_cases hk : dG (1 + kd o.word 2)
   ·cases hn : nxt x.work with
    | none => rw [rA hk hn]; exact ht
    | some n =>
     have hns := qp hn;rcases si h on hk hn with ⟨_, e⟩ | ⟨y, q, e, hM⟩
     ·rw [e]; exact ht
     ·rw [e];simp only [hM.work];have hb := gO.1 (ht.e n hns.1);have hq := hM.q0;refine ht.upd (gO.2 ⟨?_, hb.2.1, by simp only; omega, fun e => ?_⟩) fun _ j hj _ hkj => CA h hq.2.2 hj hkj
      ·rcases hk with e | e | e <;> simp only [e] <;> omega
      ·simp only at e;rcases hk with e1 | e1 | e1 <;> omega
   ·rw [Jh hk]; exact ht
  ·obtain ⟨i, hi⟩ : ∃ i : Nat, kd o.id 20 = i := ⟨(kd o.id 20).toNat, by omega⟩;rw [hi];by_cases hk : (x.work i).kind = 0
   ·rw [xH (by unfold gE; rw [if_neg (by omega), Int.toNat_natCast, if_pos hk]; decide)]; exact ht
   ·obtain ⟨y, e, hE⟩ := xO h (show i < 49 by omega) hk;rw [e];simp only [hE.work];have hb := gO.1 (ht.e i (by omega));have hev := uU hb.2.1.1 hb.2.1.2;exact ht.upd (gO.2 ⟨⟨Int.le_refl 0, by show (0 : Int) ≤ 4; decide⟩, hev, ⟨Int.le_refl 0, by show (0 : Int) ≤ 1023; decide⟩, fun _ => rfl⟩) fun e => absurd rfl e
structure Img (x : AS) : Prop where
 inv : Inv x
 f : x.A.f = 10
 is : x.is = false
 dl : ∀ k, k < 8 → ∃ q : Nat, x.dir k = q ∧ 10 ≤ q ∧ q < x.M.n ∧ x.A.st q = 1 ∧ ax x.work q = false ∧ ax x.base q = false
 dj : ∀ k l, k < 8 → l < 8 → k ≠ l → x.dir k ≠ x.dir l
 sur : ∀ j, Old x j → Sur x.M j
 lf : ∀ k, k < 7 → x.M.S (x.dir k).toNat = bg x.base k
 rt : x.M.S (x.dir 7).toNat = aZ x.dir
 gb : ir x.base
 gw : ir x.work
theorem Img.kp {x : AS} (h : Img x) {j : Nat} (hj : Old x j) : Kp x j := by
 rcases hj with hj | hj | hj
 ·exact ⟨.inl (by rw [h.f]; exact hj)⟩
 ·have hs : x.sh j = true := by rw [ms h.inv.ok, hj, Bool.true_or]
  exact ⟨.inr ⟨h.inv.s1 j hs, .inl hs⟩⟩
 ·obtain ⟨k, hk, e⟩ := gQ.1 hj;obtain ⟨q, q1, _, _, q4, q5, _⟩ := h.dl k hk;have : q = j := by omega
  subst this;exact ⟨.inr ⟨q4, .inr q5⟩⟩
theorem wS {x : AS} {k : Nat} (hk : k < 8) (h : Img x) : Old x (x.dir k).toNat := by
 obtain ⟨q, q1, _⟩ := h.dl k hk;exact .inr (.inr (gQ.2 ⟨k, hk, by rw [q1]; simp⟩))
theorem Img.change {x : AS} (h : Img x) (on : x.M.On) (o : Cll) : Img (x.change o) ∧ ∀ j, Old x j → Sm x.M (x.change o).M j := by
 obtain ⟨hs, _⟩ := wu h.inv on o;have sm := fun j (hj : Old x j) => G0 h.inv o (h.kp hj);have old : ∀ j, Old (x.change o) j ↔ Old x j := fun j => by unfold Old; rw [hs.base, hs.dir]
 refine ⟨⟨hs.inv, hs.fl.1.trans h.f, hs.is.trans h.is, fun k hk => ?_, fun k l hk hl hne => ?_, fun j hj => ?_, fun k hk => ?_, ?_, ?_, h.gw.change h.inv on o⟩, sm⟩
 ·obtain ⟨q, q1, q2, q3, q4, q5, q6⟩ := h.dl k hk;obtain ⟨g1, g2⟩ := hs.st q q4 q5;exact ⟨q, by rw [hs.dir]; exact q1, q2, by rw [hs.n]; exact q3, g1, g2, by rw [hs.base]; exact q6⟩
 ·rw [hs.dir]; exact h.dj k l hk hl hne
 ·exact (sm j ((old j).1 hj)).sur (h.sur j ((old j).1 hj))
 ·rw [hs.dir, hs.base, (sm _ (wS (by omega) h)).S]; exact h.lf k hk
 ·rw [hs.dir, (sm _ (wS (by omega) h)).S]; exact h.rt
 ·rw [hs.base]; exact h.gb
theorem xt {t : Nat → Ent} {old : Nat → Bool} : ∀ {n i : Nat}, i < n → (t i).kind ≠ 0 → old (t i).line.toNat = false → (0, (t i).line) ∈ aU t old n
 | 0, i, h, _, _ => by omega
 | n + 1, i, h, hk, ho => by
  simp only [aU];by_cases e : i = n
  ·subst e;rw [if_pos ⟨hk, ho⟩];exact List.mem_append_right _ (List.mem_singleton.2 rfl)
  ·have := xt (show i < n by omega) hk ho;split
   ·exact List.mem_append_left _ this
   ·exact this
theorem CE {t u : Nat → Ent} : ∀ {n k : Nat}, k < n → oT t u k = true → (k : Int) ∈ bU t u n
 | 0, k, h, _ => by omega
 | n + 1, k, h, hb => by
  simp only [bU];by_cases e : k = n
  ·subst e;rw [if_pos hb];exact List.mem_append_right _ (List.mem_singleton.2 rfl)
  ·have := CE (show k < n by omega) hb;split
   ·exact List.mem_append_left _ this
   ·exact this
theorem Es {t u : Nat → Ent} {k : Nat} (h : oT t u k = false) : bg t k = bg u k := by
 unfold oT at h;rw [Bool.not_eq_false', oz] at h;have e : ∀ j, j < 7 → t (7 * k + j) = u (7 * k + j) := fun j hj => h j (List.mem_range.2 hj);have h1 : dE t k 0 7 = dE u k 0 7 := by
  unfold dE;apply Bool.eq_iff_iff.2;simp only [List.all_eq_true, List.mem_range];constructor
  ·intro hh j hj; have := hh j hj; rw [e (0 + j) (by omega)] at this; exact this
  ·intro hh j hj; rw [e (0 + j) (by omega)]; exact hh j hj
 have h2 : lfL t k 7 = lfL u k 7 := by
  unfold lfL;apply List.map_congr_left;intro j _;split
  ·rename_i hj; rw [e j hj]
  ·rfl
 unfold bg;rw [h1, h2]
theorem Img.begin {w : AW} (h : Img w.x) (seq : Int) : Ck w.x (aU w.x.work (aC w.x.base (fun _ => false) 49) 49 ++ (bU w.x.work w.x.base 7).map fun k => ((1 : Nat), k)) (w.begun seq) := by
 obtain ⟨m1, m2, _, _⟩ := vH h.inv h.is;have hx : (w.begun seq).x = { w.x with mark := w.x.work, is := true } := by unfold AW.begun; simp only; rw [m1]
 have hst : (w.begun seq).st = aU w.x.work (aC w.x.base (fun _ => false) 49) 49 ++ (bU w.x.work w.x.base 7).map (fun k => (1, k)) ++ [(2, 0), (3, 0), (4, 0)] := rfl;have hdir : (w.begun seq).dir = w.x.dir := rfl;have ok := h.inv.ok;have hD : ∀ k, k < 8 → sN { w.x with mark := w.x.work, is := true } (w.x.dir k) := fun k hk => by
  obtain ⟨q, q1, q2, q3, q4, q5, q6⟩ := h.dl k hk;exact ⟨q, q1, q2, q3, q4, q5, q6, q5⟩
 refine ⟨by rw [hx]; exact m2, by rw [hx]; exact h.f, by rw [hx], by rw [hx], by rw [hx], by rw [hx], by rw [hx], rfl, fun k hk => by rw [hx]; exact hD k hk, fun k hk => by rw [hx, hdir]; exact hD k hk, fun k l hk hl hne => by rw [hdir]; exact h.dj k l hk hl hne, fun j hj => ?_, fun j hj => ?_, fun k hk => ?_, .inl ?_, .inl ?_, by rw [hst]; exact List.suffix_rfl, fun p hp => ?_⟩
 ·rw [hx]; exact ⟨h.sur j hj, rfl⟩
 ·rw [hx];refine ⟨rfl, ?_⟩;obtain ⟨i, i1, i2, i3⟩ := aL.1 hj;by_cases hb : ax w.x.base j = true
  ·exact .inl hb
  ·right; left;rw [hst];have ho : aC w.x.base (fun _ => false) 49 (w.x.work i).line.toNat = false := by
    rw [i3, Int.toNat_natCast, lU (ok.b.inL ok.A) 49 (Nat.le_refl _), Bool.false_or];cases e : (List.range 49).any fun i => decide ((w.x.base i).kind ≠ 0) && decide ((w.x.base i).line = j)
    ·rfl
    ·exact absurd e hb
   have := xt i1 i2 ho;rw [i3] at this;exact List.mem_append_left _ (List.mem_append_left _ this)
 ·rw [hst, hx, hdir];cases hb : oT w.x.work w.x.base k with
  | true =>
   left;have := CE hk hb;exact List.mem_append_left _ (List.mem_append_right _ (List.mem_map.2 ⟨_, this, rfl⟩))
  | false =>
   right;have hs := h.sur _ (wS (k := k) (by omega) h);refine ⟨?_, hs.fl⟩;show w.x.M.now _ = _;rw [hs.now, h.lf k hk, Es hb]
 ·rw [hst]; exact List.mem_append_right _ (by simp)
 ·rw [hst]; exact List.mem_append_right _ (by simp)
 ·rcases List.mem_append.1 hp with hp | hp
  ·obtain ⟨h1, i, h2, h3, h4⟩ := me hp;have := ok.w.inn i h2 h3;have hl := ok.l;exact .inl ⟨h1, (w.x.work i).line.toNat, by rw [h4]; omega, by omega⟩
  ·obtain ⟨k, h1, rfl⟩ := List.mem_map.1 hp;have := tj w.x.work w.x.base 7 k h1;exact .inr ⟨rfl, k.toNat, by simp only; omega, by omega⟩
end Go.Proofs.YtmimfopnhmmlbaaGreatDoor
namespace Go.Proofs.YtmimfopnhmmlbaaGreatDoor
open Go.Ab
def rK (l : List Int) : List (Nat × Int) := (7, 0) :: (List.range 8).map fun j => (j, l.getD j 0)
theorem JX (l : List Int) : (rK l).length = 9 := by simp [rK]
theorem Ly (l : List Int) {j : Nat} (hj : j < 8) : (rK l)[j + 1]? = some (j, l.getD j 0) := by
 simp [rK, hj]
def Dn.wv (d : Dn) : Nat × Int := (d.w, d.v)
def jU (M : AM) (s : Nat) (s0 l : List Int) (m : Nat) : Prop := (M.L s).map Dn.wv = (rK l).take m ∧ M.S s = s0
theorem vT {M : AM} {s : Nat} {s0 l : List Int} {m : Nat} (h : jU M s s0 l m) {q : Nat} {v : Int} (hs : s < M.n) (hq : q < 8) (hm : (rK l)[m]? = some (q, v)) :
 ((M.store s q v).2 = 0 ∧ (M.store s q v).1.off = M.off ∧ jU (M.store s q v).1 s s0 l (m + 1)) ∨ ((M.store s q v).2 = 4 ∧ (M.store s q v).1.off = true ∧ jU (M.store s q v).1 s s0 l m) := by
 unfold AM.store;rw [if_neg (by omega)];split
 ·exact .inr ⟨rfl, rfl, h⟩
 ·refine .inl ⟨rfl, rfl, ?_, h.2⟩;simp only [AM.push, AM.stepped, Int.toNat_natCast, aj, List.map_append, List.map_cons, List.map_nil];rw [h.1];have hlt := (List.getElem?_eq_some_iff.1 hm).1;rw [List.take_succ_eq_append_getElem hlt, (List.getElem?_eq_some_iff.1 hm).2];rfl
theorem zE {s : Nat} {s0 l : List Int} : ∀ (n j : Nat) {M : AM}, s < M.n → j + n = 8 → jU M s s0 l (j + 1) →
 ((M.layFrom s l j n).2 = 0 ∧ (M.layFrom s l j n).1.off = M.off ∧ jU (M.layFrom s l j n).1 s s0 l 9) ∨ ((M.layFrom s l j n).2 = 4 ∧ (M.layFrom s l j n).1.off = true ∧ ∃ m, 1 ≤ m ∧ m ≤ 9 ∧ jU (M.layFrom s l j n).1 s s0 l m)
 | 0, j, M, hs, hj, h => by
  have : j = 8 := by omega
  subst this;exact .inl ⟨rfl, rfl, h⟩
 | n + 1, j, M, hs, hj, h => by
  have hn : (M.store s j (l.getD j 0)).1.n = M.n := AM.store_n;unfold AM.layFrom;rcases vT h hs (show j < 8 by omega) (Ly l (by omega)) with ⟨h1, h2, h3⟩ | ⟨h1, h2, h3⟩
  ·rw [if_neg (by rw [h1]; simp)];have := zE n (j + 1) (M := (M.store s j (l.getD j 0)).1) (by rw [hn]; exact hs) (by omega) h3;rw [h2] at this;exact this
  ·rw [if_pos (by rw [h1]; decide)];exact .inr ⟨h1, h2, j + 1, by omega, by omega, h3⟩
theorem EE {M : AM} {s : Nat} {s0 l : List Int} {m : Nat} (h : jU M s s0 l m) (i : Int) : jU (M.flush 0 i).1 s s0 l m := by
 unfold AM.flush;split
 ·exact h
 ·split
  ·exact h
  ·refine ⟨?_, h.2⟩;simp only [AM.flushed, AM.stepped];by_cases e : s = i.toNat
   ·rw [← e, aj, List.map_map];exact h.1
   ·rw [ao e]; exact h.1
def bh (x : List Int) (l : List (Nat × Int)) : List Int := l.foldl (fun x p => x.set p.1 p.2) x
theorem xJ : ∀ {l : List Dn} {x : List Int}, am x l = bh x (l.map Dn.wv)
 | [], _ => rfl
 | d :: l, x => by simp only [am, bh, List.map_cons, List.foldl_cons, Dn.wv]; exact xJ
theorem K7 {x l : List Int} (hx : x.length = 8) (hl : l.length = 8) : bh x (rK l) = l := by
 obtain ⟨a0, a1, a2, a3, a4, a5, a6, a7, rfl⟩ : ∃ a0 a1 a2 a3 a4 a5 a6 a7, x = [a0, a1, a2, a3, a4, a5, a6, a7] := by
  match x, hx with
  | [a0, a1, a2, a3, a4, a5, a6, a7], _ => exact ⟨_, _, _, _, _, _, _, _, rfl⟩
 obtain ⟨b0, b1, b2, b3, b4, b5, b6, b7, rfl⟩ : ∃ b0 b1 b2 b3 b4 b5 b6 b7, l = [b0, b1, b2, b3, b4, b5, b6, b7] := by
  match l, hl with
  | [a0, a1, a2, a3, a4, a5, a6, a7], _ => exact ⟨_, _, _, _, _, _, _, _, rfl⟩
 rfl
theorem MW {x l : List Int} (hx : x.length = 8) (hl : l.length = 8) {m : Nat} (h1 : 1 ≤ m) (h8 : m ≤ 8) : (bh x ((rK l).take m)).getD 7 0 = 0 := by
 obtain ⟨a0, a1, a2, a3, a4, a5, a6, a7, rfl⟩ : ∃ a0 a1 a2 a3 a4 a5 a6 a7, x = [a0, a1, a2, a3, a4, a5, a6, a7] := by
  match x, hx with
  | [a0, a1, a2, a3, a4, a5, a6, a7], _ => exact ⟨_, _, _, _, _, _, _, _, rfl⟩
 obtain ⟨b0, b1, b2, b3, b4, b5, b6, b7, rfl⟩ : ∃ b0 b1 b2 b3 b4 b5 b6 b7, l = [b0, b1, b2, b3, b4, b5, b6, b7] := by
  match l, hl with
  | [a0, a1, a2, a3, a4, a5, a6, a7], _ => exact ⟨_, _, _, _, _, _, _, _, rfl⟩
 obtain rfl | rfl | rfl | rfl | rfl | rfl | rfl | rfl : m = 1 ∨ m = 2 ∨ m = 3 ∨ m = 4 ∨ m = 5 ∨ m = 6 ∨ m = 7 ∨ m = 8 := by omega
 all_goals rfl
theorem KX {M : AM} (ok : M.Ok) {s : Nat} (hs : s = 0 ∨ s = 1) (hsur : Sur M s) {b : Sup} (hb : b.ok = true) :
 (∀ j, j ≠ s → Sur M j → Sm M (M.wrs s b).1 j) ∧ (((M.wrs s b).2 = 0 ∧ (M.wrs s b).1.off = M.off ∧ Sur (M.wrs s b).1 s ∧ (M.wrs s b).1.now s = aI b) ∨
  ((M.wrs s b).2 = 4 ∧ (M.wrs s b).1.off = true ∧ ∃ m, m ≤ 9 ∧ jU (M.wrs s b).1 s (M.S s) (aI b) m)) := by
 have hn := ok.n0;have hsn : s < M.n := by omega
 have h0 : jU M s (M.S s) (aI b) 0 := ⟨by rw [show M.L s = [] from hsur]; rfl, rfl⟩
 have hl8 := nM b;have hsc : ¬ (b.ok = false ∨ ((s : Int) ≠ 0 ∧ (s : Int) ≠ 1)) := by rw [hb]; simp; omega
 have s1 : ∀ j, j ≠ s → Sm M (M.store s 7 0).1 j := fun j hj => qE (by rw [Int.toNat_natCast]; exact hj);have n1 : (M.store s 7 0).1.n = M.n := AM.store_n;have hst := vT h0 hsn (show 7 < 8 by decide) (v := 0) rfl;unfold AM.wrs;rw [if_neg hsc];have hst' : ((M.store s 7 0).2 = 0 ∧ (M.store s 7 0).1.off = M.off ∧ jU (M.store s 7 0).1 s (M.S s) (aI b) 1) ∨ ((M.store s 7 0).2 = 4 ∧ (M.store s 7 0).1.off = true ∧ jU (M.store s 7 0).1 s (M.S s) (aI b) 0) := hst;rcases hst' with ⟨g1, g2, g3⟩ | ⟨g1, g2, g3⟩
 ·rw [if_neg (by rw [g1]; simp)];have ok1 : (M.store s 7 0).1.Ok := ok.store;generalize (M.store s 7 0).1 = M1 at *;have hsn1 : s < M1.n := by rw [n1]; exact hsn
  have s2 : ∀ j, j ≠ s → Sm M1 (M1.layFrom s (aI b) 0 8).1 j := fun j hj => nj (by rw [Int.toNat_natCast]; exact hj) 8 0 _;have n2 : (M1.layFrom s (aI b) 0 8).1.n = M1.n := AM.layFrom_n;have ok2 : (M1.layFrom s (aI b) 0 8).1.Ok := ok1.layFrom;have hlw := CJ ok1 hl8 hsn1;simp only;rcases zE 8 0 hsn1 rfl g3 with ⟨f1, f2, f3⟩ | ⟨f1, f2, m, _, m9, f3⟩
  ·rw [if_neg (by rw [f1]; simp)];have hnow : (M1.layFrom s (aI b) 0 8).1.now s = aI b := by
    rcases hlw with ⟨_, _, e⟩ | ⟨e, _⟩
    ·exact e
    ·rw [f1] at e; cases e
   generalize (M1.layFrom s (aI b) 0 8).1 = M2 at *;have hsn2 : s < M2.n := by rw [n2]; exact hsn1
   have s3 : ∀ j, j ≠ s → Sm M2 (M2.flush 0 s).1 j := fun j hj => zT (by rw [Int.toNat_natCast]; exact hj);have hf := EE f3 (s : Int);rcases sn hsn2 with ⟨e1, e2, e3, e4⟩ | ⟨e1, e2⟩
   ·rw [if_neg (by rw [e1]; simp)];have n3 : (M2.flush 0 s).1.n = M2.n := bY.2;generalize (M2.flush 0 s).1 = M3 at *;refine ⟨fun j hj hsj => ?_, ?_⟩
    ·have a := (s1 j hj).trans ((s2 j hj).trans (s3 j hj));exact a.trans (uI (a.sur hsj))
    ·rcases yh (M := M3) with ⟨d1, d2, d3, d4⟩ | ⟨d1, d2⟩
     ·left;exact ⟨d1, d2.trans (e2.trans (f2.trans g2)), d3 s (by rw [n3]; exact hsn2) e3, by rw [d4, e4]; exact hnow⟩
     ·right;refine ⟨d1, d2, 9, Nat.le_refl _, ?_⟩;unfold AM.fence at d1 ⊢;rw [if_neg (by omega)] at d1 ⊢;split at d1
      ·rename_i hdd; rw [if_pos hdd]; exact hf
      ·cases d1
   ·rw [if_pos (by rw [e1]; decide)];exact ⟨fun j hj _ => (s1 j hj).trans ((s2 j hj).trans (s3 j hj)), .inr ⟨e1, e2, 9, Nat.le_refl _, hf⟩⟩
  ·rw [if_pos (by rw [f1]; decide)];exact ⟨fun j hj _ => (s1 j hj).trans (s2 j hj), .inr ⟨f1, f2, m, m9, f3⟩⟩
 ·rw [if_pos (by rw [g1]; decide)];exact ⟨fun j hj _ => s1 j hj, .inr ⟨g1, g2, 0, by omega, g3⟩⟩
end Go.Proofs.YtmimfopnhmmlbaaGreatDoor
namespace Go.Proofs.YtmimfopnhmmlbaaGreatDoor
open Go.Ab
structure Lay (n : Nat) (M : AM) (t : Nat → Ent) (d : Nat → Int) : Prop where
 dl : ∀ k, k < 8 → ∃ q : Nat, d k = q ∧ 10 ≤ q ∧ q < n ∧ Sur M q ∧ ax t q = false
 dj : ∀ k l, k < 8 → l < 8 → k ≠ l → d k ≠ d l
 lf : ∀ k, k < 7 → M.S (d k).toNat = bg t k
 rt : M.S (d 7).toNat = aZ d
 ln : ∀ i, i < 49 → (t i).kind ≠ 0 → ∃ q : Nat, (t i).line = q ∧ 10 ≤ q ∧ q < n ∧ Sur M q
 g : ir t
theorem Lay.sm {n : Nat} {M M' : AM} {t : Nat → Ent} {d : Nat → Int} (h : Lay n M t d) (hs : ∀ j, 10 ≤ j → Sur M j → Sm M M' j) : Lay n M' t d := by
 refine ⟨fun k hk => ?_, h.dj, fun k hk => ?_, ?_, fun i hi hk => ?_, h.g⟩
 ·obtain ⟨q, q1, q2, q3, q4, q5⟩ := h.dl k hk;exact ⟨q, q1, q2, q3, (hs q q2 q4).sur q4, q5⟩
 ·obtain ⟨q, q1, q2, q3, q4, q5⟩ := h.dl k (by omega);have := h.lf k hk;rw [q1, Int.toNat_natCast] at this ⊢;rw [(hs q q2 q4).S]; exact this
 ·obtain ⟨q, q1, q2, q3, q4, q5⟩ := h.dl 7 (by omega);have := h.rt;rw [q1, Int.toNat_natCast] at this ⊢;rw [(hs q q2 q4).S]; exact this
 ·obtain ⟨q, q1, q2, q3, q4⟩ := h.ln i hi hk;exact ⟨q, q1, q2, q3, (hs q q2 q4).sur q4⟩
theorem Img.lay {x : AS} (h : Img x) : Lay x.M.n x.M x.base x.dir := by
 refine ⟨fun k hk => ?_, h.dj, h.lf, h.rt, fun i hi hk => ?_, h.gb⟩
 ·obtain ⟨q, q1, q2, q3, q4, q5, q6⟩ := h.dl k hk;exact ⟨q, q1, q2, q3, h.sur q (.inr (.inr (gQ.2 ⟨k, hk, q1⟩))), q6⟩
 ·have := h.inv.ok.b.inn i hi hk;have hf := h.f;have hl := h.inv.ok.l;refine ⟨(x.base i).line.toNat, by omega, by omega, by omega, h.sur _ (.inr (.inl (aL.2 ⟨i, hi, hk, by omega⟩)))⟩
section
variable {x0 : AS} {G : List (Nat × Int)} {w : AW}
theorem Ck.lay (h : Ck x0 G w) (hw : w.st = [(4, 0)]) (hg : ir x0.work) : Lay w.x.M.n w.x.M x0.work w.dir := by
 obtain ⟨f1, f2⟩ : (∀ j : Nat, ax x0.work j = true → Sur w.x.M j) ∧ ∀ k, k < 8 → Sur w.x.M (w.dir k).toNat := by
  rcases h.fe with e | e
  ·rw [hw] at e; simp at e
  ·exact e
 refine ⟨fun k hk => ?_, h.dj, fun k hk => ?_, ?_, fun i hi hk => ?_, hg⟩
 ·obtain ⟨q, q1, q2, q3, q4, q5, q6, q7⟩ := h.d1 k hk;have := f2 k hk;rw [q1, Int.toNat_natCast] at this;exact ⟨q, q1, q2, q3, this, by rw [← h.mark]; exact q7⟩
 ·rcases h.lf k hk with e | e
  ·rw [hw] at e; simp at e
  ·rw [← (f2 k (by omega)).now]; exact e.1
 ·rcases h.rt with e | e
  ·rw [hw] at e; simp at e
  ·rw [← (f2 7 (by omega)).now]; exact e.1
 ·have := h.inv.ok.k.inn i hi (by rw [h.mark]; exact hk);rw [h.mark] at this;have hf := h.f;have hl := h.inv.ok.l;refine ⟨(x0.work i).line.toNat, by omega, by omega, by omega, f1 _ (aL.2 ⟨i, hi, hk, by omega⟩)⟩
structure Com (x0 : AS) (w w' : AW) (s : Nat) : Prop where
 img : Img w'.x
 base : w'.x.base = x0.work
 work : w'.x.work = w.x.work
 dir : w'.x.dir = w.dir
 b : w'.b = w.nextB
 slot : w'.slot = s
 st : w'.st = []
 off : w'.x.M.off = w.x.M.off
 n : w'.x.M.n = x0.M.n
 sup : w'.x.M.S s = aI w.nextB
 low : ∀ j, j < 10 → j ≠ s → w'.x.M.S j = x0.M.S j
 old : ∀ j : Nat, ax x0.work j = true → w'.x.M.S j = x0.M.now j
theorem Ck.last (h : Ck x0 G w) (hw : w.st = [(4, 0)]) {s : Nat} (hs : 1 - w.slot = (s : Int)) (hs2 : s = 0 ∨ s = 1) (hb : w.nextB.ok = true) (hg0 : ir x0.work) (hg : ir w.x.work) :
 (∃ w', w.step = (w', true, 0) ∧ Com x0 w w' s) ∨
 (∃ w', w.step = (w', false, 4) ∧ w'.x.M.off = true ∧ w'.x.M.Ok ∧ w'.x.M.n = x0.M.n ∧ (∀ j, j ≠ s → Sur w.x.M j → Sm w.x.M w'.x.M j) ∧ ∃ m, m ≤ 9 ∧ jU w'.x.M s (w.x.M.S s) (aI w.nextB) m) := by
 have ok := h.inv.ok;have hsO : Old x0 s := .inl (by omega);obtain ⟨g1, g2⟩ := KX ok.M hs2 (h.safe s hsO).1 hb;have hok : (w.x.M.wrs s w.nextB).1.Ok := by
  have := ok.M;unfold AM.wrs;split
  ·exact this
  ·split
   ·exact this.store
   ·simp only;split
    ·exact this.store.layFrom
    ·have hf : ∀ N : AM, N.Ok → (N.flush 0 s).1.Ok := fun N hN => by
      unfold AM.flush;split
      ·exact hN
      ·split
       ·exact hN.out
       ·exact hN.stepped.flushed _ _
     split
     ·exact hf _ this.store.layFrom
     ·have hN : (((w.x.M.store s 7 0).1.layFrom s (aI w.nextB) 0 8).1.flush 0 s).1.Ok := hf _ this.store.layFrom;unfold AM.fence;split
      ·exact hN
      ·split
       ·exact hN.out
       ·exact lV hN.stepped _
 have hn : (w.x.M.wrs s w.nextB).1.n = w.x.M.n := KC;have hdo : w.doStep (4, 0) = w.commit := rfl;rcases g2 with ⟨e1, e2, e3, e4⟩ | ⟨e1, e2, m, m9, e5⟩
 ·left;have hcm : w.commit = ({ w with x := (AS.commit { w.x with M := (w.x.M.wrs s w.nextB).1 } w.dir).1, b := w.nextB, slot := (s : Int) }, 0) := by
   unfold AW.commit;rw [hs, if_neg (by simp [e1])]
  have hlay := h.lay hw hg0;generalize (w.x.M.wrs s w.nextB).1 = M at *;refine ⟨{ w with x := (AS.commit { w.x with M := M } w.dir).1, b := w.nextB, slot := (s : Int), st := [] }, ?_, ?_⟩
  ·unfold AW.step;rw [hw];simp only [hdo, hcm, if_true, decide_true]
  ·have hx : (AS.commit { w.x with M := M } w.dir).1 = AS.freed { w.x with M := M, base := w.x.mark, dir := w.dir, is := false } := by
    unfold AS.commit; rw [if_pos h.is]
   have hxok : (AS.commit { w.x with M := M } w.dir).1.Ok := (ok.with hok hn ok.A ok.s2 rfl rfl).commit w.dir;rw [hx] at hxok ⊢;have hst1 : ∀ j : Nat, w.x.A.st j = 1 → (ax x0.work j = true ∨ ax w.x.work j = true ∨ mh w.dir j = true) → (AS.freed { w.x with M := M, base := w.x.mark, dir := w.dir, is := false }).A.st j = 1 := fun j h1 h2 => by
    unfold AS.freed;simp only [h.mark];rw [if_neg, h1];rcases h2 with e | e | e <;> simp [e]
   have hshx : ∀ j : Nat, ax x0.work j = true → w.x.A.st j = 1 := fun j e => h.inv.s1 j (by rw [ms ok, h.mark, e, h.is]; simp);have hinv : Inv (AS.freed { w.x with M := M, base := w.x.mark, dir := w.dir, is := false }) := by
    refine ⟨hxok, h.inv.v, fun j hj => hst1 j (h.inv.w1 j hj) (.inr (.inl hj)), fun j hj => ?_, fun i j hi hj hne h1 h2 heq => absurd heq (hg.j i j hi hj hne h1 h2)⟩;rw [ms hxok] at hj;have hj' : ax x0.work j = true := by
     have : (ax w.x.mark j || (false && ax w.x.mark j)) = true := hj;rw [h.mark] at this;simpa using this
    exact hst1 j (hshx j hj') (.inl hj')
   have smM : ∀ j, 10 ≤ j → Sur w.x.M j → Sm w.x.M M j := fun j hj => g1 j (by omega);have hlay2 := hlay.sm smM;refine ⟨⟨hinv, h.f, rfl, fun k hk => ?_, h.dj, fun j hj => ?_, fun k hk => ?_, hlay2.rt, ?_, hg⟩, h.mark, rfl, rfl, rfl, rfl, rfl, e2, hn.trans h.n, ?_, fun j hj hne => ?_, fun j hj => ?_⟩
   ·obtain ⟨q, q1, q2, q3, q4, q5, q6, q7⟩ := h.d1 k hk;exact ⟨q, q1, q2, by show q < M.n; rw [hn]; exact q3, hst1 q q4 (.inr (.inr (gQ.2 ⟨k, hk, q1⟩))), q5, q7⟩
   ·show Sur M j;rcases hj with hj | hj | hj
    ·by_cases e : j = s
     ·rw [e]; exact e3
     ·have hO := (h.safe j (.inl hj)).1;exact (g1 j e hO).sur hO
    ·have hj' : ax x0.work j = true := by rw [← h.mark]; exact hj
     obtain ⟨i, i1, i2, i3⟩ := aL.1 hj';obtain ⟨q, q1, _, _, q4⟩ := hlay2.ln i i1 i2;have : q = j := by omega
     rw [← this]; exact q4
    ·obtain ⟨k, hk, e⟩ := gQ.1 hj;obtain ⟨q, q1, _, _, q4, _⟩ := hlay2.dl k hk;have e' : w.dir k = (j : Int) := e;have : q = j := by omega
     rw [← this]; exact q4
   ·show M.S (w.dir k).toNat = bg w.x.mark k;rw [h.mark]; exact hlay2.lf k hk
   ·show ir w.x.mark;rw [h.mark]; exact hg0
   ·show M.S s = _;rw [← e3.now]; exact e4
   ·show M.S j = _;have hO := h.safe j (.inl hj);rw [(g1 j hne hO.1).S]; exact hO.2
   ·show M.S j = _;obtain ⟨i, i1, i2, i3⟩ := aL.1 hj;obtain ⟨q, q1, q2, _, q4⟩ := hlay.ln i i1 i2;have : q = j := by omega
    subst this;rw [(smM q q2 q4).S, ← q4.now]; exact (h.lin q hj).1
 ·right;have hcm : w.commit = ({ w with x := { w.x with M := (w.x.M.wrs s w.nextB).1 } }, 4) := by
   unfold AW.commit;rw [hs, if_pos (by rw [e1]; decide), e1]
  refine ⟨{ w with x := { w.x with M := (w.x.M.wrs s w.nextB).1 } }, ?_, e2, hok, hn.trans h.n, g1, m, m9, e5⟩;unfold AW.step;rw [hw];simp only [hdo, hcm];rw [if_neg (by decide), if_neg (by decide), ← hw]
end
end Go.Proofs.YtmimfopnhmmlbaaGreatDoor
namespace Go.Proofs.YtmimfopnhmmlbaaGreatDoor
open Go.Ab
theorem Mn (c : Int) : ∃ x : Nat, IntKind.u64.wrap c = x ∧ x < 18446744073709551616 := by
 have h0 : 0 ≤ IntKind.u64.wrap c ∧ IntKind.u64.wrap c < 18446744073709551616 := by
  unfold IntKind.wrap;simp only [IntKind.signed, IntKind.bits, Bool.false_and, Bool.false_eq_true, if_false];constructor
  ·exact Int.emod_nonneg _ (by decide)
  ·exact Int.emod_lt_of_pos _ (by decide)
 exact ⟨(IntKind.u64.wrap c).toNat, by omega, by omega⟩
theorem tY (l : List Int) : 4294967296 ≤ i9 l ∧ i9 l < 18446744073709551616 := by
 unfold i9;obtain ⟨x, hx, hlt⟩ := Mn (cM (gS (cM 0) ((List.range 56).map (a9 l 8 0))));rw [hx];have := nq (n := 4294967296) (m := x) (by decide) hlt;rw [show ((4294967296 : Nat) : Int) = 4294967296 from rfl] at this
 rw [this];have h1 : 4294967296 ≤ 4294967296 ||| x := Nat.left_le_or;have h2 : 4294967296 ||| x < 2 ^ 64 := Nat.or_lt_two_pow (by decide) hlt;omega
theorem HF {l : List Int} {v : Int} : i9 (l.set 7 v) = i9 l := by
 have : (List.range 56).map (a9 (l.set 7 v) 8 0) = (List.range 56).map (a9 l 8 0) := by
  apply List.map_congr_left;intro j hj;rw [List.mem_range] at hj;unfold a9;have : (l.set 7 v).getD (j / 8) 0 = l.getD (j / 8) 0 := by
   rw [List.getD_eq_getElem?_getD, List.getD_eq_getElem?_getD, List.getElem?_set_ne (by omega)]
  rw [this]
 unfold i9;rw [this]
theorem xT (l : List Int) : bi (bi l) = bi l := by
 have : i9 (bi l) = i9 l := by unfold bi; exact HF
 show (bi l).set 7 (i9 (bi l)) = bi l;rw [this];unfold bi;rw [List.set_set]
theorem kh {l : List Int} {j : Nat} (hj : j ≠ 7) : (bi l).getD j 0 = l.getD j 0 := by
 unfold bi;rw [List.getD_eq_getElem?_getD, List.getD_eq_getElem?_getD, List.getElem?_set_ne (Ne.symm hj)]
theorem ua {l : List Int} (hl : l.length = 8) : (bi l).getD 7 0 = i9 l := by
 unfold bi;rw [List.getD_eq_getElem?_getD, List.getElem?_set_self (by omega)]; rfl
theorem HE {d : Int} (h0 : 0 ≤ d) (h1 : d < 1024) : eX .u64 (ior .u64 4294967296 (IntKind.u64.wrap d)) 4294967296 = d := by
 obtain ⟨n, rfl⟩ : ∃ n : Nat, d = n := ⟨d.toNat, by omega⟩;have hn : n < 1024 := by omega
 rw [eD (by omega) (by omega)];have e1 := nq (n := 4294967296) (m := n) (by decide) (by omega);rw [show ((4294967296 : Nat) : Int) = 4294967296 from rfl] at e1
 have hlt : 4294967296 ||| n < 2 ^ 64 := Nat.or_lt_two_pow (by decide) (by omega);have e2 := pY (n := 4294967296 ||| n) (m := 4294967296) hlt (by decide);rw [show ((4294967296 : Nat) : Int) = 4294967296 from rfl] at e2
 rw [e1, e2];congr 1;apply Nat.eq_of_testBit_eq;intro i;rw [Nat.testBit_xor, Nat.testBit_or];have h32 : (4294967296 : Nat) = 2 ^ 32 := rfl;rw [h32, Nat.testBit_two_pow];by_cases hi : 32 = i
 ·subst hi;have : n.testBit 32 = false := Nat.testBit_lt_two_pow (by omega);simp [this]
 ·simp [hi]
theorem O7 {d : Nat → Int} {j : Nat} (hj : j < 7) : (rlL d 7).getD j 0 = ior .u64 4294967296 (IntKind.u64.wrap (d j)) := by
 unfold rlL;rw [List.getD_eq_getElem?_getD, List.getElem?_map, List.getElem?_range (by omega)];simp [hj]
theorem EY {d : Nat → Int} (h : ∀ j, j < 7 → 0 ≤ d j ∧ d j < 1024) : kI (aZ d) = true ∧ ∀ j, j < 7 → av (aZ d) j = d j := by
 have hok : dh d 0 7 = true := by
  unfold dh;simp only [List.all_eq_true, List.mem_range, Bool.and_eq_true, decide_eq_true_eq];intro j hj;rw [Nat.zero_add]; exact h j hj
 have hr : aZ d = bi (rlL d 7) := by unfold aZ; rw [if_pos hok]
 have hv : ∀ j, j < 7 → rdv (aZ d) j = d j := fun j hj => by
  unfold rdv;rw [hr, kh (by omega), O7 hj];exact HE (h j hj).1 (h j hj).2
 have his : kI (aZ d) = true := by
  unfold kI;rw [hr, xT, decide_eq_true rfl, Bool.true_and, ← hr];unfold uv;simp only [List.all_eq_true, List.mem_range, decide_eq_true_eq];intro j hj;rw [Nat.zero_add, hv j hj]; exact (h j hj).2
 refine ⟨his, fun j hj => ?_⟩;unfold av rdN;rw [if_pos his, hv j hj];have := h j hj;exact ag (by omega) (by omega)
theorem Je {e : Ent} (h : bF e = true) : ∃ w : Nat, jQ e = w ∧ w < 2 ^ 44 ∧ gT w = e := by
 obtain ⟨h1, h2, h3, h4⟩ := gO.1 h;obtain ⟨k, v, l⟩ := e;simp only at h1 h2 h3 h4;obtain ⟨k, rfl⟩ : ∃ n : Nat, k = n := ⟨k.toNat, by omega⟩;obtain ⟨v, rfl⟩ : ∃ n : Nat, v = n := ⟨v.toNat, by omega⟩;obtain ⟨l, rfl⟩ : ∃ n : Nat, l = n := ⟨l.toNat, by omega⟩;have s1 : lK .u64 (v : Int) 4 = ((v * 2 ^ 4 : Nat) : Int) := by
  unfold lK;rw [show (2 : Int) ^ (min (4 : Int).toNat IntKind.u64.bits) = 16 from rfl, eD (by omega) (by omega)]
  omega
 have s2 : lK .u64 (l : Int) 28 = ((l * 2 ^ 28 : Nat) : Int) := by
  unfold lK;rw [show (2 : Int) ^ (min (28 : Int).toNat IntKind.u64.bits) = 268435456 from rfl, eD (by omega) (by omega)]
  omega
 have o1 := CM (n := k) (m := v) 4 (by omega) (by omega) (by omega);have o2 := CM (n := k + v * 2 ^ 4) (m := l) 28 (by omega) (by omega) (by omega);refine ⟨k + v * 2 ^ 4 + l * 2 ^ 28, ?_, by omega, ?_⟩
 ·unfold jQ;simp only;rw [eD (by omega) (by omega), eD (by omega) (by omega), eD (by omega) (by omega), s1, s2, o1, o2]
 ·unfold gT;rw [show (k + v * 2 ^ 4 + l * 2 ^ 28) % 16 = k by omega, show (k + v * 2 ^ 4 + l * 2 ^ 28) / 16 % 16777216 = v by omega, show (k + v * 2 ^ 4 + l * 2 ^ 28) / 268435456 % 65536 = l by omega]
theorem Nw {t : Nat → Ent} {k j : Nat} (hj : j < 7) : (lfL t k 7).getD j 0 = jQ (t (7 * k + j)) := by
 unfold lfL;rw [List.getD_eq_getElem?_getD, List.getElem?_map, List.getElem?_range (by omega)];simp [hj]
theorem DW {t : Nat → Ent} {k : Nat} (h : ∀ j, j < 7 → bF (t (7 * k + j)) = true) : jL (bg t k) = true ∧ (∀ j, j < 7 → jA (bg t k) j = t (7 * k + j)) ∧ ∀ x ∈ bg t k, 0 ≤ x ∧ x < 18446744073709551616 := by
 have hok : dE t k 0 7 = true := by
  unfold dE;simp only [List.all_eq_true, List.mem_range];intro j hj;rw [Nat.zero_add]; exact h j hj
 have hr : bg t k = bi (lfL t k 7) := by unfold bg; rw [if_pos hok]
 have hl8 := sU t k 7;have hg : ∀ j, j < 7 → ∃ w : Nat, (bg t k).getD j 0 = w ∧ w < 2 ^ 44 ∧ gT w = t (7 * k + j) ∧ qn w = true := fun j hj => by
  obtain ⟨w, w1, w2, w3⟩ := Je (h j hj);refine ⟨w, by rw [hr, kh (by omega), Nw hj]; exact w1, w2, w3, ?_⟩;unfold qn;rw [w3, h j hj, w1];simp
 have his : jL (bg t k) = true := by
  unfold jL;rw [hr, xT, decide_eq_true rfl, Bool.true_and, ← hr];unfold uT rdl;simp only [List.all_eq_true, List.mem_range];intro j hj;rw [Nat.zero_add];obtain ⟨w, w1, _, _, w4⟩ := hg j hj;rw [w1, Int.toNat_natCast]; exact w4
 refine ⟨his, fun j hj => ?_, fun x hx => ?_⟩
 ·obtain ⟨w, w1, _, w3, _⟩ := hg j hj;unfold jA rY;rw [if_pos his, w1, Int.toNat_natCast]; exact w3
 ·obtain ⟨j, hj, rfl⟩ := List.mem_iff_getElem.1 hx;have hj8 : j < 8 := by rw [oF] at hj; exact hj
  have e : (bg t k)[j] = (bg t k).getD j 0 := by rw [List.getD_eq_getElem?_getD, List.getElem?_eq_getElem hj]; rfl
  rw [e];by_cases h7 : j = 7
  ·subst h7;rw [hr, ua hl8];have := tY (lfL t k 7);omega
  ·obtain ⟨w, w1, w2, _⟩ := hg j (by omega);rw [w1]; omega
theorem sG {b : Sup} (h : b.ok = true) : iF (aI b) = true ∧ ib (aI b) = b := by
 have h' := h;unfold Sup.ok win at h';simp only [Bool.and_eq_true, decide_eq_true_eq] at h';have hr : aI b = bi (lY b) := by unfold aI; rw [if_pos h]
 have e : ib (aI b) = b := by
  unfold ib;rw [hr, kh (by decide), kh (by decide), kh (by decide), kh (by decide)];obtain ⟨g, r, q, c⟩ := b;simp only at h';have e1 : (lY ⟨g, r, q, c⟩).getD 1 0 = IntKind.u64.wrap g := rfl;have e2 : (lY ⟨g, r, q, c⟩).getD 2 0 = IntKind.u64.wrap r := rfl;have e3 : (lY ⟨g, r, q, c⟩).getD 3 0 = IntKind.u64.wrap q := rfl;have e4 : (lY ⟨g, r, q, c⟩).getD 4 0 = IntKind.u64.wrap c := rfl;rw [e1, e2, e3, e4, eD (by omega) (by omega), eD (by omega) (by omega), eD (by omega) (by omega), eD (by omega) (by omega), ag (by omega) (by omega), ag (by omega) (by omega), ag (by omega) (by omega), ag (by omega) (by omega)]
 refine ⟨?_, e⟩;unfold iF;rw [e, h];simp
theorem Db {l : List Int} (h : l.getD 7 0 = 0) : iF l = false := by
 cases hs : iF l with
 | false => rfl
 | true =>
  unfold iF at hs;rw [Bool.and_eq_true, decide_eq_true_eq] at hs;obtain ⟨h1, h2⟩ := hs;have hr : aI (ib l) = bi (lY (ib l)) := by unfold aI; rw [if_pos h1]
  rw [hr] at h2;rw [← h2, ua rfl] at h;have := tY (lY (ib l));omega
theorem Fz {M : AM} {l : List Int} {d : Nat → Int} (hd : ∀ k, k < 7 → av l k = d k) (h1 : ∀ k, k < 7 → ∃ q : Nat, d k = q ∧ 10 ≤ q ∧ q < M.n) (hj : ∀ k l, k < 8 → l < 8 → k ≠ l → d k ≠ d l) (hl : ∀ k, k < 7 → jL (M.now (d k).toNat) = true) :
 ∀ (n k : Nat) (ks : List Int), k + n = 7 → (∀ x ∈ ks, x = d 7 ∨ ∃ i, i < k ∧ x = d i) → pT M 10 l ks k n = true ∧ ∀ x ∈ lS l ks k n, x = d 7 ∨ ∃ i, i < 7 ∧ x = d i
 | 0, k, ks, hk, h => ⟨rfl, fun x hx => (h x hx).imp id fun ⟨i, i1, i2⟩ => ⟨i, by omega, i2⟩⟩
 | n + 1, k, ks, hk, h => by
  have hk7 : k < 7 := by omega
  obtain ⟨q, q1, q2, q3⟩ := h1 k hk7;have hnot : d k ∉ ks := fun hm => by
   rcases h _ hm with e | ⟨i, i1, i2⟩
   ·exact hj k 7 (by omega) (by omega) (by omega) e
   ·exact hj k i (by omega) (by omega) (by omega) i2
  have ho : onc M.n 10 ks (d k) = true := by
   unfold onc;simp only [Bool.and_eq_true, decide_eq_true_eq, Bool.not_eq_true', decide_eq_false_iff_not];exact ⟨by omega, by omega, by omega, hnot⟩
  obtain ⟨r1, r2⟩ := Fz hd h1 hj hl n (k + 1) (ks ++ [d k]) (by omega) fun x hx => by
   rcases List.mem_append.1 hx with e | e
   ·exact (h x e).imp id fun ⟨i, i1, i2⟩ => ⟨i, by omega, i2⟩
   ·exact .inr ⟨k, by omega, List.mem_singleton.1 e⟩
  unfold pT lS;rw [hd k hk7, ho, hl k hk7, r1];exact ⟨rfl, r2⟩
theorem zd {n' : Nat} {t : Nat → Ent} (hg : ir t) (h1 : ∀ i, i < 49 → (t i).kind ≠ 0 → ∃ q : Nat, (t i).line = q ∧ 10 ≤ q ∧ q < n') (hd : List Int) (hno : ∀ i, i < 49 → (t i).kind ≠ 0 → (t i).line ∉ hd) :
 ∀ (n i : Nat) (ks : List Int), i + n = 49 → (∀ x ∈ ks, x ∈ hd ∨ ∃ j, j < i ∧ (t j).kind ≠ 0 ∧ x = (t j).line) → nk n' 10 t ks i n = true
 | 0, i, ks, hi, h => rfl
 | n + 1, i, ks, hi, h => by
  unfold nk;by_cases hk : (t i).kind = 0
  ·rw [if_pos hk];exact zd hg h1 hd hno n (i + 1) ks (by omega) fun x hx => (h x hx).imp id fun ⟨j, j1, j2⟩ => ⟨j, by omega, j2⟩
  ·rw [if_neg hk];obtain ⟨q, q1, q2, q3⟩ := h1 i (by omega) hk;have hnot : (t i).line ∉ ks := fun hm => by
    rcases h _ hm with e | ⟨j, j1, j2, j3⟩
    ·exact hno i (by omega) hk e
    ·exact hg.j i j (by omega) (by omega) (by omega) hk j2 j3
   have ho : onc n' 10 ks (t i).line = true := by
    unfold onc;simp only [Bool.and_eq_true, decide_eq_true_eq, Bool.not_eq_true', decide_eq_false_iff_not];exact ⟨by omega, by omega, by omega, hnot⟩
   rw [ho, Bool.true_and];exact zd hg h1 hd hno n (i + 1) (ks ++ [(t i).line]) (by omega) fun x hx => by
    rcases List.mem_append.1 hx with e | e
    ·exact (h x e).imp id fun ⟨j, j1, j2⟩ => ⟨j, by omega, j2⟩
    ·exact .inr ⟨i, by omega, hk, List.mem_singleton.1 e⟩
end Go.Proofs.YtmimfopnhmmlbaaGreatDoor
namespace Go.Proofs.YtmimfopnhmmlbaaGreatDoor
open Go.Ab
theorem Lay.loads {M : AM} {t : Nat → Ent} {d : Nat → Int} (h : Lay M.n M t d) (ok : M.Ok) : El M 10 (d 7) = true ∧ (∀ i, i < 49 → ldT M (M.now (d 7).toNat) i = t i) ∧
 ∀ k, k < 7 → ∀ x ∈ M.now (av (M.now (d 7).toNat) k).toNat, 0 ≤ x ∧ x < 18446744073709551616 := by
 have hn := ok.n1;have hrange : ∀ k, k < 8 → 0 ≤ d k ∧ d k < 1024 := fun k hk => by
  obtain ⟨q, q1, q2, q3, _⟩ := h.dl k hk;omega
 have hnow : ∀ k, k < 8 → M.now (d k).toNat = M.S (d k).toNat := fun k hk => by
  obtain ⟨q, q1, _, _, q4, _⟩ := h.dl k hk;rw [q1, Int.toNat_natCast]; exact q4.now
 have hroot : M.now (d 7).toNat = aZ d := by rw [hnow 7 (by decide)]; exact h.rt
 have hleaf : ∀ k, k < 7 → M.now (d k).toNat = bg t k := fun k hk => by rw [hnow k (by omega)]; exact h.lf k hk
 obtain ⟨r1, r2⟩ := EY (d := d) fun j hj => hrange j (by omega);have lr := fun k (hk : k < 7) => DW (t := t) (k := k) fun j hj => h.g.e (7 * k + j) (by omega);rw [hroot];have hT : ∀ i, i < 49 → ldT M (aZ d) i = t i := fun i hi => by
  unfold ldT;rw [r2 (i / 7) (by omega), hleaf (i / 7) (by omega), (lr (i / 7) (by omega)).2.1 (i % 7) (by omega)];rw [show 7 * (i / 7) + i % 7 = i by omega]
 refine ⟨?_, hT, fun k hk x hx => ?_⟩
 ·obtain ⟨q, q1, q2, q3, _⟩ := h.dl 7 (by decide);have ho : onc M.n 10 [] (d 7) = true := by
   unfold onc;simp only [Bool.and_eq_true, decide_eq_true_eq, Bool.not_eq_true', decide_eq_false_iff_not];exact ⟨by omega, by omega, by omega, by simp⟩
  obtain ⟨l1, l2⟩ := Fz (M := M) (l := aZ d) (d := d) r2 (fun k hk => by
   obtain ⟨q, q1, q2, q3, _⟩ := h.dl k (by omega);exact ⟨q, q1, q2, q3⟩) h.dj (fun k hk => by rw [hleaf k hk]; exact (lr k hk).1) 7 0 [d 7] rfl fun x hx => .inl (List.mem_singleton.1 hx)
  have hkk : ∀ i, i < 49 → (ldT M (aZ d) i).kind = (t i).kind ∧ (ldT M (aZ d) i).line = (t i).line := fun i hi => by rw [hT i hi]; exact ⟨rfl, rfl⟩
  have hG : ir (ldT M (aZ d)) := ⟨fun i hi => by rw [hT i hi]; exact h.g.e i hi, fun i j hi hj hne h1 h2 => by
   rw [hT i hi] at h1 ⊢; rw [hT j hj] at h2 ⊢; exact h.g.j i j hi hj hne h1 h2⟩
  have hobj := zd (n' := M.n) hG (fun i hi hk => by
   rw [hT i hi] at hk ⊢;obtain ⟨q, q1, q2, q3, _⟩ := h.ln i hi hk;exact ⟨q, q1, q2, q3⟩) (lS (aZ d) [d 7] 0 7) (fun i hi hk hm => by
   rw [hT i hi] at hk hm;have hdk : ∃ k, k < 8 ∧ (t i).line = d k := by
    rcases l2 _ hm with e | ⟨k, k1, k2⟩
    ·exact ⟨7, by decide, e⟩
    ·exact ⟨k, by omega, k2⟩
   obtain ⟨k, k1, k2⟩ := hdk;obtain ⟨q, q1, _, _, _, q5⟩ := h.dl k k1;have := aL.2 ⟨i, hi, hk, k2.trans q1⟩;rw [q5] at this; cases this) 49 0 (lS (aZ d) [d 7] 0 7) rfl fun x hx => .inl hx
  unfold El;rw [hroot, ho, r1, l1, hobj];rfl
 ·rw [r2 k hk, hleaf k hk] at hx;exact (lr k hk).2.2 x hx
theorem mg {j : Nat} : ∀ (n i : Nat) {M : AM} {ks : List Int}, Sur M j → Sm M (M.crashN ks i n) j
 | 0, _, M, _, _ => .refl M j
 | n + 1, i, M, ks, h => by
  unfold AM.crashN;split
  ·exact mg n (i + 1) h
  ·rename_i hne;have hij : j ≠ i := fun e => hne (by rw [← e]; exact h);have s1 := qv (M := M) (n := ((nxK ks).1 % (((M.L i).length : Int) + 1)).toNat) hij;have s2 : Sm (M.sureN i ((nxK ks).1 % (((M.L i).length : Int) + 1)).toNat) ((M.sureN i ((nxK ks).1 % (((M.L i).length : Int) + 1)).toNat).cleared i) j :=
    ⟨by simp only [AM.cleared]; exact ao hij, rfl⟩
   exact (s1.trans s2).trans (mg n (i + 1) (s2.sur (s1.sur h)))
theorem nT {M : AM} {ks : List Int} {j : Nat} (h : Sur M j) : Sm M (M.crash ks) j := by
 have := mg (ks := ks) M.n 0 h;exact ⟨this.L, this.S⟩
theorem rS {j : Nat} : ∀ (n i : Nat) {M : AM} {ks : List Int}, i ≤ j → j < i + n → ∃ p, Sur (M.crashN ks i n) j ∧ (M.crashN ks i n).S j = am (M.S j) ((M.L j).take p)
 | 0, i, M, ks, h1, h2 => by omega
 | n + 1, i, M, ks, h1, h2 => by
  unfold AM.crashN;by_cases hij : j = i
  ·subst hij;split
   ·rename_i hz;have hs := mg (ks := ks) n (j + 1) (M := M) (j := j) hz;exact ⟨0, hs.sur hz, by rw [hs.S]; rfl⟩
   ·generalize ((nxK ks).1 % (((M.L j).length : Int) + 1)).toNat = p;have hz : Sur ((M.sureN j p).cleared j) j := by show upd _ j [] j = []; exact aj
    have hs := mg (ks := (nxK ks).2) n (j + 1) hz;refine ⟨p, hs.sur hz, ?_⟩;rw [hs.S];show (M.sureN j p).S j = _;simp only [AM.sureN]; exact aj
  ·split
   ·exact rS n (i + 1) (by omega) (by omega)
   ·generalize ((nxK ks).1 % (((M.L i).length : Int) + 1)).toNat = p;obtain ⟨p2, e1, e2⟩ := rS (M := (M.sureN i p).cleared i) (ks := (nxK ks).2) n (i + 1) (show i + 1 ≤ j by omega) (by omega);have s1 := qv (M := M) (n := p) hij;have hL : ((M.sureN i p).cleared i).L j = M.L j := by simp only [AM.cleared]; rw [ao hij]; exact s1.L
    have hS : ((M.sureN i p).cleared i).S j = M.S j := s1.S;rw [hL, hS] at e2;exact ⟨p2, e1, e2⟩
theorem Jy {M : AM} {ks : List Int} {j : Nat} (hj : j < M.n) : ∃ p, Sur (M.crash ks) j ∧ (M.crash ks).S j = am (M.S j) ((M.L j).take p) :=
 rS (ks := ks) M.n 0 (by omega) (by omega)
theorem DU {M : AM} {ks : List Int} {s : Nat} {s0 l : List Int} {m : Nat} (h : jU M s s0 l m) (hm : m ≤ 9) (hs : s < M.n) (h0 : s0.length = 8) (hl : l.length = 8) :
 (M.crash ks).now s = s0 ∨ iF ((M.crash ks).now s) = false ∨ (M.crash ks).now s = l := by
 obtain ⟨p, e1, e2⟩ := Jy (ks := ks) hs;rw [e1.now, e2, xJ, List.map_take, h.1, h.2, List.take_take];generalize hq : min p m = q;by_cases q0 : q = 0
 ·subst q0; exact .inl rfl
 ·by_cases q9 : q = 9
  ·subst q9;right; right;rw [List.take_of_length_le (by rw [JX]; omega)];exact K7 h0 hl
  ·right; left;exact Db (MW h0 hl (by omega) (by omega))
end Go.Proofs.YtmimfopnhmmlbaaGreatDoor
namespace Go.Proofs.YtmimfopnhmmlbaaGreatDoor
open Go.Ab
theorem tf {n : Nat} (h : n < 4294967296) : (BitVec.ofInt IntKind.u32.bits (n : Int)).toNat = n := by
 rw [BitVec.ofInt_natCast, BitVec.toNat_ofNat];exact Nat.mod_eq_of_lt (by simp only [IntKind.bits]; omega)
theorem NF {n m : Nat} (hn : n < 4294967296) (hm : m < 4294967296) : eR .u32 n m = ((n &&& m : Nat) : Int) := by
 unfold eR Ab.bits;show IntKind.u32.wrap (((BitVec.ofInt IntKind.u32.bits (n : Int)) &&& (BitVec.ofInt IntKind.u32.bits (m : Int))).toNat : Int) = _;rw [BitVec.toNat_and, tf hn, tf hm];have : n &&& m ≤ n := Nat.and_le_left;exact IntWalk.u32_in _ (by omega)
theorem O2 {n m : Nat} (hn : n < 4294967296) (hm : m < 4294967296) : eX .u32 n m = ((n ^^^ m : Nat) : Int) := by
 unfold eX Ab.bits;show IntKind.u32.wrap (((BitVec.ofInt IntKind.u32.bits (n : Int)) ^^^ (BitVec.ofInt IntKind.u32.bits (m : Int))).toNat : Int) = _;rw [BitVec.toNat_xor, tf hn, tf hm];have : n ^^^ m < 2 ^ 32 := Nat.xor_lt_two_pow hn hm;exact IntWalk.u32_in _ (by omega)
theorem O4 {n : Nat} : eW .u32 n 1 = ((n / 2 : Nat) : Int) := by
 unfold eW;show (n : Int).fdiv (2 ^ 1) = _;rw [Int.fdiv_eq_ediv_of_nonneg _ (by decide)];omega
def rL (r : Int) : Prop := 0 ≤ r ∧ r ≤ 4294967295
theorem Nv (x : Int) : rL (IntKind.u32.wrap x) := by
 unfold rL; rw [IntKind.wrap_u32]; omega
theorem Gx (a b : Int) : rL (eX .u32 a b) := by
 unfold eX Ab.bits;exact Nv _
theorem Mk {r : Int} (h : rL r) : Bu r = tt r ∧ rL (tt r) := by
 obtain ⟨n, rfl⟩ : ∃ n : Nat, r = n := ⟨r.toNat, by have := h.1; omega⟩;have hn : n < 4294967296 := by have := h.2; omega
 have e1 : eR .u32 (n : Int) 1 = ((n % 2 : Nat) : Int) := by
  have := NF hn (show 1 < 4294967296 by decide);rw [Nat.and_one_is_mod] at this; exact this
 unfold Bu tt;rw [e1, O4];rcases Nat.mod_two_eq_zero_or_one n with e | e
 ·rw [e, if_neg (by decide)];have e2 : eR .u32 3988292384 (IntKind.u32.wrap (0 - ((0 : Nat) : Int))) = ((0 : Nat) : Int) := by decide
  rw [e2, O2 (by omega) (by decide), Nat.xor_zero];exact ⟨rfl, by constructor <;> omega⟩
 ·rw [e, if_pos (by decide)];have e2 : eR .u32 3988292384 (IntKind.u32.wrap (0 - ((1 : Nat) : Int))) = 3988292384 := by decide
  rw [e2];exact ⟨rfl, Gx _ _⟩
theorem Dl : ∀ (k : Nat) {r : Int}, rL r → oi k r = jP k r ∧ rL (jP k r)
 | 0, _, h => ⟨rfl, h⟩
 | k + 1, r, h => by
  obtain ⟨h1, h2⟩ := Dl k h;simp only [oi, jP];rw [h1];exact Mk h2
theorem Ct : ∀ (l : List Int) {r : Int}, rL r → gS r l = eO r l
 | [], _, _ => rfl
 | b :: l, r, _ => by
  simp only [gS, eO];obtain ⟨h1, h2⟩ := Dl 8 (r := eX .u32 r (IntKind.u32.wrap b)) (Gx _ _);rw [h1];exact Ct l h2
theorem Bc {k : IntKind} (a b : Int) : ior k a b = ior k b a := by
 unfold ior Ab.bits;show k.wrap ((BitVec.ofInt k.bits a ||| BitVec.ofInt k.bits b).toNat : Int) = k.wrap ((BitVec.ofInt k.bits b ||| BitVec.ofInt k.bits a).toNat : Int);rw [BitVec.or_comm]
theorem AO (l : List Int) : bi l = ot l := by
 unfold bi ot i9;have e : (List.range 56).map (a9 l 8 0) = (List.range 56).map (cf l 64) := by
  apply List.map_congr_left;intro j hj;have := List.mem_range.1 hj;unfold a9 cf;rw [if_pos (by omega), if_pos (by omega)]
 have e2 : cM 0 = 4294967295 := by decide
 rw [e, e2, Ct _ (by constructor <;> decide), Bc]
theorem Hg {a b i : Nat} (h : b < 2 ^ i) : b ||| a * 2 ^ i = b + a * 2 ^ i := by
 have := Nat.two_pow_add_eq_or_of_lt h a;rw [Nat.mul_comm a, Nat.or_comm, ← this, Nat.add_comm]
theorem MN {e : Ent} (h : bF e = true) : jQ e = sE e := by
 obtain ⟨k, v, l⟩ := e;simp only [bF, win, Bool.and_eq_true, decide_eq_true_eq] at h;obtain ⟨⟨⟨⟨k0, k1⟩, v0, v1⟩, l0, l1⟩, _⟩ := h;obtain ⟨k, rfl⟩ : ∃ n : Nat, k = n := ⟨k.toNat, by omega⟩;obtain ⟨v, rfl⟩ : ∃ n : Nat, v = n := ⟨v.toNat, by omega⟩;obtain ⟨l, rfl⟩ : ∃ n : Nat, l = n := ⟨l.toNat, by omega⟩;simp only [jQ, sE, Int.toNat_natCast];rw [eD (by omega) (by omega), eD (by omega) (by omega), eD (by omega) (by omega)];have s1 : lK .u64 (v : Int) 4 = ((v * 16 : Nat) : Int) := by
  have := pU (v : Int) 4 (by decide);rw [show ((4 : Nat) : Int) = 4 from rfl] at this
  rw [this]; omega
 have s2 : lK .u64 (l : Int) 28 = ((l * 268435456 : Nat) : Int) := by
  have := pU (l : Int) 28 (by decide);rw [show ((28 : Nat) : Int) = 28 from rfl] at this
  rw [this]; omega
 rw [s1, s2, nq (by omega) (by omega)];have o1 : k ||| v * 16 = k + v * 16 := Hg (i := 4) (by omega);rw [o1, nq (by omega) (by omega)];have o2 : (k + v * 16) ||| l * 268435456 = k + v * 16 + l * 268435456 := Hg (i := 28) (by omega);rw [o2]
theorem Id (t : Nat → Ent) (k : Nat) : bg t k = kW t k := by
 unfold bg kW;by_cases h : dE t k 0 7 = true
 ·rw [if_pos h, if_pos h, AO];congr 1;unfold lfL iC;apply List.map_congr_left;intro j _;by_cases hj : j < 7
  ·rw [if_pos hj, if_pos hj];have := List.all_eq_true.1 h j (List.mem_range.2 hj);rw [Nat.zero_add] at this;exact MN this
  ·rw [if_neg hj, if_neg hj]
 ·rw [if_neg h, if_neg h]
theorem Is (d : Nat → Int) : aZ d = kZ d := by
 unfold aZ kZ;by_cases h : dh d 0 7 = true
 ·rw [if_pos h, if_pos h, AO];congr 1;unfold rlL gA;apply List.map_congr_left;intro j _;by_cases hj : j < 7
  ·rw [if_pos hj, if_pos hj, Bc]
  ·rw [if_neg hj, if_neg hj]
 ·rw [if_neg h, if_neg h]
end Go.Proofs.YtmimfopnhmmlbaaGreatDoor
namespace Go.Proofs.YtmimfopnhmmlbaaGreatDoor
open Go.Ab
theorem Co {d e : Nat → Int} (h : ∀ j, j < 7 → d j = e j) : aZ d = aZ e := by
 have h1 : dh d 0 7 = dh e 0 7 := by
  unfold dh;apply Bool.eq_iff_iff.2;simp only [List.all_eq_true, List.mem_range];constructor
  ·intro hh j hj; have := hh j hj; rw [h (0 + j) (by omega)] at this; exact this
  ·intro hh j hj; rw [h (0 + j) (by omega)]; exact hh j hj
 have h2 : rlL d 7 = rlL e 7 := by
  unfold rlL;apply List.map_congr_left;intro j _;split
  ·rename_i hj; rw [h j hj]
  ·rfl
 unfold aZ;rw [h1, h2]
theorem FG {c j : Nat} (hc : c ≤ 30) (h : ax (ay c) j = true) : 20 ≤ j ∧ j < 20 + c := by
 obtain ⟨i, i1, i2, i3⟩ := aL.1 h;unfold ay at i2 i3;split at i2
 ·rename_i hi;rw [if_pos hi] at i3;simp only at i3;omega
 ·exact absurd rfl i2
theorem zm {c : Nat} (hc : c ≤ 30) : ir (ay c) := by
 refine ⟨fun i hi => ?_, fun i j hi hj hne h1 h2 => ?_⟩
 ·unfold ay;split
  ·refine gO.2 ⟨?_, ?_, ?_, ?_⟩ <;> simp only <;> omega
  ·exact gO.2 ⟨by decide, by decide, by decide, fun _ => rfl⟩
 ·unfold ay at *;split at h1
  ·rename_i hi2;split at h2
   ·rename_i hj2;rw [if_pos hi2, if_pos hj2];simp only;omega
   ·exact absurd rfl h2
  ·exact absurd rfl h1
theorem PE {c n : Nat} (hc : c ≤ 30) (hn : 64 ≤ n) {A : AF} (hi : Inv (as0 (am0 n (imL c)) A (ay c) bf)) (hf : A.f = 10) (hst : ∀ j, A.st j = if (20 ≤ j ∧ j < 20 + c) ∨ (10 ≤ j ∧ j < 18) then 1 else 0) :
 Img (as0 (am0 n (imL c)) A (ay c) bf) := by
 have hd : ∀ k, k < 8 → bf k = ((10 + k : Nat) : Int) := fun k hk => by unfold bf; rw [if_pos (by omega)]; omega
 have hnot : ∀ k, k < 8 → ax (ay c) (10 + k) = false := fun k hk => by
  cases e : ax (ay c) (10 + k)
  ·rfl
  ·have := FG hc e; omega
 refine ⟨hi, hf, rfl, fun k hk => ⟨10 + k, hd k hk, by omega, by show 10 + k < n; omega, ?_, hnot k hk, hnot k hk⟩, fun k l hk hl hne => ?_, fun j _ => rfl, fun k hk => ?_, ?_, zm hc, zm hc⟩
 ·show A.st (10 + k) = 1;rw [hst, if_pos (by omega)]
 ·show bf k ≠ bf l;rw [hd k hk, hd l hl]; omega
 ·show imL c (bf k).toNat = bg (ay c) k;rw [hd k (by omega), Int.toNat_natCast, Id];unfold imL dD;rw [if_neg (by omega), if_pos (by omega), show 10 + k - 10 = k by omega]
 ·show imL c (bf 7).toNat = aZ bf;rw [hd 7 (by decide), Int.toNat_natCast];unfold imL;rw [if_pos rfl, ← Is];refine Co fun j hj => ?_;rw [hd j (by omega)];unfold lvF;rw [if_pos hj]; omega
end Go.Proofs.YtmimfopnhmmlbaaGreatDoor
namespace Go.Proofs.YtmimfopnhmmlbaaGreatDoor
open Go.Ab
def yH : Cll := ⟨0, 0, 0, 0⟩
structure Chi (x0 x : AS) (i : Nat) : Prop where
 img : Img x
 on : x.M.On
 n : x.M.n = x0.M.n
 cnt : x.M.count ≤ x0.M.count + 8 * i
 left : x0.A.left ≤ x.A.left + i
 low : ∀ j, j < 10 → x.M.S j = x0.M.S j
 base : x.base = x0.base
 dir : x.dir = x0.dir
theorem Chi.next {x0 x : AS} {i : Nat} (h : Chi x0 x i) (o : Cll) : Chi x0 (x.change o) (i + 1) := by
 obtain ⟨s, l⟩ := wu h.img.inv h.on o;obtain ⟨g1, g2⟩ := h.img.change h.on o;refine ⟨g1, s.on, s.n.trans h.n, ?_, ?_, fun j hj => (g2 j (.inl hj)).S.trans (h.low j hj), s.base.trans h.base, s.dir.trans h.dir⟩
 ·have := s.cnt; have := h.cnt; omega
 ·have := h.left; omega
section
variable {hp0 : List Blk} {wk a m fr : Nat} {x0 : AS}
end
def Ql : Obj := ⟨0, 0, zl⟩
def nC (x : AS) (k i : Nat) : Obj := if i < k then (x.get i).1 else Ql
def cS (x : AS) (k : Nat) : V := .agg 30 (tab 49 fun i => (nC x k i).v)
theorem CC (x : AS) (k n : Nat) : (cS x k).locLt n = true := by
 rw [cS, vj]; rfl
section
variable {hp : List Blk} {wk a m fr : Nat} {Fm Gs : Ft} {sv : V} {w : AW}
end
end Go.Proofs.YtmimfopnhmmlbaaGreatDoor
namespace Go.Proofs.YtmimfopnhmmlbaaGreatDoor
open Go.Ab
section
variable {x0 : AS} {b : Sup} {sl seq : Int} {w : AW}
end
structure Fin (x0 : AS) (b : Sup) (s : Nat) (x : AS) : Prop where
 img : Img x
 on : x.M.On
 base : x.base = x0.work
 root : x.dir 7 = b.root
 sup : x.M.S s = aI b
 low : ∀ j, j < 10 → j ≠ s → x.M.S j = x0.M.S j
 old : ∀ j : Nat, ax x0.work j = true → x.M.S j = x0.M.now j
 n : x.M.n = x0.M.n
theorem Com.fin {x0 : AS} {w w' : AW} {s : Nat} (h : Com x0 w w' s) (on : w'.x.M.On) : Fin x0 w.nextB s w'.x :=
 ⟨h.img, on, h.base, by rw [h.dir]; rfl, h.sup, h.low, h.old, h.n⟩
section
variable {hp0 : List Blk} {wk a m fr : Nat}
end
end Go.Proofs.YtmimfopnhmmlbaaGreatDoor
namespace Go.Proofs.YtmimfopnhmmlbaaGreatDoor
open Go.Ab
theorem Bg (t : Nat → Ent) : bB (tab 49 fun i => (t i).v) (tab 49 fun i => (t i).v) = some true := by
 have := sI t t (List.range 49);rw [oz.2 fun _ _ => rfl] at this;exact this
theorem Hl : iF zl = false := Db rfl
section
variable {m : Nat}
end
end Go.Proofs.YtmimfopnhmmlbaaGreatDoor
namespace Go.Proofs.YtmimfopnhmmlbaaGreatDoor
open Go.Ab
theorem yk {M : AM} {c : Int} : (M.fence c).1.count ≤ M.count + 1 := by
 unfold AM.fence;split
 ·simp only; omega
 ·split
  ·simp only [AM.out]; omega
  ·simp only; rw [(cV _).2.1]; simp only [AM.stepped]; omega
theorem LQ {M : AM} {s : Int} {b : Sup} : (M.wrs s b).1.count ≤ M.count + 11 := by
 have h1 := AM.store_count (M := M) (i := s) (q := 7) (v := 0);have h2 := AM.layFrom_count (M := (M.store s 7 0).1) (at' := s) (l := aI b) (n := 8) (j := 0);have h3 := (bY (M := ((M.store s 7 0).1.layFrom s (aI b) 0 8).1) (c := 0) (i := s)).1;have h4 := yk (M := (((M.store s 7 0).1.layFrom s (aI b) 0 8).1.flush 0 s).1) (c := 0);unfold AM.wrs;simp only;split
 ·simp only; omega
 ·split
  ·omega
  ·split
   ·omega
   ·split <;> omega
theorem KU {x : AS} {l : List Int} : (x.lay l).1.M.count ≤ x.M.count + 8 := by
 have := AM.layFrom_count (M := x.M) (at' := x.A.alloc.2.1) (l := l) (n := 8) (j := 0);unfold AS.lay;split
 ·simp only; omega
 ·simp only; omega
theorem Gu (w : AW) (l : List Int) (q : Nat) : (w.write l q).1.x.M.count ≤ w.x.M.count + 12 := by
 have hl := KU (x := w.x) (l := l);have hf := (bY (M := (w.x.lay l).1.M) (c := 0) (i := (w.x.lay l).2.1)).1;unfold AW.write;split
 ·simp only; omega
 ·split
  ·simp only; omega
  ·simp only; omega
theorem NI (w : AW) (p : Nat × Int) : (w.doStep p).1.x.M.count ≤ w.x.M.count + 12 := by
 have hf := (bY (M := w.x.M) (c := 0) (i := p.2)).1;have hn := yk (M := w.x.M) (c := 0);unfold AW.doStep;split
 ·simp only; omega
 ·exact Gu _ _ _
 ·exact Gu _ _ _
 ·simp only; omega
 ·have hc := LQ (M := w.x.M) (s := 1 - w.slot) (b := w.nextB);have hs : ∀ (x : AS) (d : Nat → Int), (x.commit d).1.M = x.M := fun x d => by
   unfold AS.commit;split <;> rfl
  unfold AW.commit;split
  ·simp only; omega
  ·simp only [hs]; omega
theorem yQ (w : AW) : w.step.1.x.M.count ≤ w.x.M.count + 12 := by
 have ha : ∀ x : AS, x.abort.1.M = x.M := fun x => by
  unfold AS.abort;split <;> rfl
 unfold AW.step;split
 ·simp only; omega
 ·rename_i p r hw;have := NI w p;simp only;split
  ·simp only; exact this
  ·split
   ·simp only [ha]; exact this
   ·simp only; exact this
theorem AG {A B : AF} : ∀ (n i : Nat), (∀ j, A.st j = 0 → B.st j = 0) → A.cnt i n ≤ B.cnt i n
 | 0, _, _ => Nat.le_refl _
 | n + 1, i, h => by
  have ih := AG (A := A) (B := B) n (i + 1) h;simp only [AF.cnt];by_cases e : A.st i = 0
  ·rw [if_pos e, if_pos (h i e)]; omega
  ·rw [if_neg e]; omega
theorem BN (x : AS) (d : Nat → Int) : x.A.left ≤ (x.commit d).1.A.left := by
 unfold AS.commit;split
 ·unfold AF.left AS.freed;exact AG _ _ fun j hj => by
   simp only;split
   ·rfl
   ·exact hj
 ·exact Nat.le_refl _
section
variable {hp0 : List Blk} {wk a m fr : Nat}
theorem JE {x0 : AS} {G : List (Nat × Int)} {b : Sup} {sl seq : Int} (hBg : oO b sl seq) (hsl0 : sl = 0) {lv kv : V} (c1 : Int) (hlv : lv.locLt 0 = true) (hkv : kv.locLt 0 = true) (hg0 : ir x0.work) :
 ∀ (n i : Nat) {hp : List Blk} {Fm Gs : Ft} {sv : V} {w : AW}, w.st.length = n + 1 → i + n ≤ 58 → WkQ hp wk a m fr Fm Gs sv w → Mid x0 b sl seq w → Ck x0 G w → w.x.work = x0.work → wrS w.st ≤ w.x.A.left → w.x.M.count + 12 * (n + 1) ≤ 5000 → hp0 <+: hp → kV hp0.length (WkF wk a fr Fm Gs) →
 ∃ hp' Fm' Gs' sv' wf d7 j, rc D 0 (.loop [0, 1, 2, 8, 9, 10, 11] aO) [(0, lv), (1, .int .i64 c1), (2, kv), (8, .ptr (.hp m) [] 59), (9, .ptr (.hp a) [] 43), (10, .ptr (.hp wk) [] 61), (11, .int .i64 i)] ⟨[], hp⟩ =
  some (.exit 0, [(0, lv), (1, .int .i64 c1), (2, kv), (8, .ptr (.hp m) [] 59), (9, .ptr (.hp a) [] 43), (10, .ptr (.hp wk) [] 61), (11, .int .i64 j), (48, .bool false)], ⟨[], hp'⟩) ∧ WkQ hp' wk a m fr Fm' Gs' sv' wf ∧ Fin x0 ⟨b.gen + 1, d7, seq, b.cores⟩ 1 wf.x ∧ wf.b = ⟨b.gen + 1, d7, seq, b.cores⟩ ∧ wf.slot = 1 ∧ wf.st = [] ∧ wf.x.work = x0.work ∧ wf.x.M.count ≤ 5000 ∧ w.x.A.left ≤ wf.x.A.left + wrS w.st ∧ hp0 <+: hp' ∧ kV hp0.length (WkF wk a fr Fm' Gs') := by
 have out : ∀ {hp : List Blk} {Fm Gs : Ft} {sv : V} {w : AW} (j : Nat), WkQ hp wk a m fr Fm Gs sv w → w.st = [] → rc D 0 (.loop [0, 1, 2, 8, 9, 10, 11] aO) [(0, lv), (1, .int .i64 c1), (2, kv), (8, .ptr (.hp m) [] 59), (9, .ptr (.hp a) [] 43), (10, .ptr (.hp wk) [] 61), (11, .int .i64 j)] ⟨[], hp⟩ =
  some (.exit 0, [(0, lv), (1, .int .i64 c1), (2, kv), (8, .ptr (.hp m) [] 59), (9, .ptr (.hp a) [] 43), (10, .ptr (.hp wk) [] 61), (11, .int .i64 j), (48, .bool false)], ⟨[], hp⟩) := by
  intro hp Fm Gs sv w j h hs;have hL := fun L => gv h L;rw [hs] at hL;simp only [List.length_nil] at hL;rw [ah];by_cases d1 : (j : Int) < 60
  ·simp only [go_sem, aO, d1, hL]
  ·simp only [go_sem, aO, d1]
 have one : ∀ {hp hp1 : List Blk} {Fm Gs : Ft} {sv : V} {w : AW} {d : Bool} {e : Int} {i : Nat}, WkQ hp wk a m fr Fm Gs sv w → w.st ≠ [] → i ≤ 59 → rf D eu [.ptr (.hp wk) [] 61] ⟨[], hp⟩ = some (.tup [.bool d, .int .i64 e], ⟨[], hp1⟩) →
  rc D 0 (.loop [0, 1, 2, 8, 9, 10, 11] aO) [(0, lv), (1, .int .i64 c1), (2, kv), (8, .ptr (.hp m) [] 59), (9, .ptr (.hp a) [] 43), (10, .ptr (.hp wk) [] 61), (11, .int .i64 i)] ⟨[], hp⟩ =
  rc D 0 (.loop [0, 1, 2, 8, 9, 10, 11] aO) [(0, lv), (1, .int .i64 c1), (2, kv), (8, .ptr (.hp m) [] 59), (9, .ptr (.hp a) [] 43), (10, .ptr (.hp wk) [] 61), (11, .int .i64 (i + 1 : Nat))] ⟨[], hp1⟩ := by
  intro hp hp1 Fm Gs sv w d e i h hs hi he;have hL := fun L => gv h L;have d1 : (i : Int) < 60 := by omega
  have d2 : (w.st.length : Int) > 0 := by have := List.length_pos_iff.2 hs; omega
  have d4 : IntKind.i64.wrap ((i : Int) + 1) = ((i + 1 : Nat) : Int) := ag (by omega) (by omega);rw [ah];clear h;simp only [go_sem, aO, d1, hL, d2, he, d4, hlv, hkv]
 intro n
 induction n with
 | zero =>
  intro i hp Fm Gs sv w hl hi h hM hC hwk hlf hc hpre hab;obtain ⟨p, hp1⟩ : ∃ p, w.st = [p] := by
   match hs : w.st with
   | [] => rw [hs] at hl; cases hl
   | [p] => exact ⟨p, rfl⟩
   | p :: q :: r => rw [hs] at hl; simp at hl
  have hp4 : p = (4, 0) := by
   obtain ⟨S, q1, _⟩ := hM.st;rw [q1] at hp1;cases S with
   | nil => simp only [List.nil_append, List.cons.injEq, and_true] at hp1; exact hp1.symm
   | cons a S' => simp at hp1
  subst hp4;obtain ⟨M', s1, m1, m2, m3, m4, m5⟩ := hM.last hBg hp1;have hbo : w.nextB.ok = true := by
   have := hBg.g;have := hBg.c;have := hBg.q;have hd := hM.d7;have hb := hM.b;have hq := hM.seq;unfold AW.nextB Sup.ok win;simp only [hb, hq, Bool.and_eq_true, decide_eq_true_eq];omega
  have hnb : w.nextB = ⟨b.gen + 1, w.dir 7, seq, b.cores⟩ := by unfold AW.nextB; rw [hM.b, hM.seq]
  obtain ⟨h1, F1, G1, v1, e1, W1, c3⟩ := kb h (by omega) (hM.fit hBg) [];obtain ⟨p2, b2⟩ := c3.pre hpre hab;rcases hC.last hp1 (s := 1) (by rw [hM.sl, hsl0]; rfl) (.inr rfl) hbo hg0 (by rw [hwk]; exact hg0) with ⟨w', s2, hcom⟩ | ⟨w', s2, _⟩
  ·have s2' := s2;rw [s1] at s2';simp only [Prod.mk.injEq, and_true, true_and] at s2';have hxM : w'.x.M = M' := by rw [← s2']; unfold AS.commit; rw [if_pos hM.is]; rfl
   have hxL : w.x.A.left ≤ w'.x.A.left := by rw [← s2']; exact BN { w.x with M := M' } w.dir
   rw [s2] at e1 W1;have hfin := hcom.fin (by rw [hxM]; exact m2);rw [hnb] at hfin;refine ⟨h1, F1, G1, v1, w', w.dir 7, i + 1, ?_, W1, hfin, hcom.b.trans hnb, hcom.slot, hcom.st, hcom.work.trans hwk, by rw [hxM]; omega, by omega, p2, b2⟩;rw [one h (by rw [hp1]; simp) (by omega) e1];exact out (i + 1) W1 hcom.st
  ·rw [s1] at s2; simp at s2
 | succ n ih =>
  intro i hp Fm Gs sv w hl hi h hM hC hwk hlf hc hpre hab;obtain ⟨p, r, hp1, hr⟩ : ∃ p r, w.st = p :: r ∧ r.length = n + 1 := by
   match hs : w.st with
   | [] => rw [hs] at hl; cases hl
   | p :: r => rw [hs] at hl; exact ⟨p, r, rfl, by simpa using hl⟩
  have hr0 : r ≠ [] := fun e => by rw [e] at hr; cases hr
  rw [hp1] at hlf;simp only [wrS] at hlf;obtain ⟨h1, F1, G1, v1, e1, W1, c3⟩ := kb h (by omega) (hM.fit hBg) [];obtain ⟨p2, b2⟩ := c3.pre hpre hab;obtain ⟨w1, s1, M1, q1, q2, q4, q3, _⟩ := (hM.step hp1 hr0).resolve_right fun z => by
   have := z.1; have := z.2.1; omega
  have hC1 : Ck x0 G w1 := by
   rcases hC.step hp1 hr0 with ⟨w', s2, k2, _⟩ | ⟨z1, z2⟩ | ⟨w', s2, _⟩
   ·rw [s1] at s2;simp only [Prod.mk.injEq, and_true, true_and] at s2;rw [s2]; exact k2
   ·omega
   ·rw [s1] at s2; simp at s2
  rw [s1] at e1 W1;simp only at e1 W1;obtain ⟨hp', Fm', Gs', sv', wf, d7, j, t1, t2, t3, t4, t5, t6, t6', t7, t8, t9, t10⟩ := ih (i + 1) (w := w1) (by rw [q1]; exact hr) (by omega) W1 M1 hC1 (q2.trans hwk) (by rw [q1]; omega) (by omega) p2 b2;refine ⟨hp', Fm', Gs', sv', wf, d7, j, ?_, t2, t3, t4, t5, t6, t6', t7, ?_, t9, t10⟩
  ·rw [one h (by rw [hp1]; simp) (by omega) e1]; exact t1
  ·rw [q1] at t8;rw [hp1];simp only [wrS];omega
end
end Go.Proofs.YtmimfopnhmmlbaaGreatDoor
namespace Go.Proofs.YtmimfopnhmmlbaaGreatDoor
open Go.Ab
section
variable {hp0 : List Blk} {wk a m fr : Nat} {x0 : AS}
theorem Gg {l : List Cll} (hl : ∀ o ∈ l, o.Ok) {lv kv : V} (hkv : kv.locLt 0 = true) (hrs : RS ⟨[], hp0⟩ 54 lv (l.map Cll.val)) (c1 : Int) (A : Blk) (hA : a8 1 A = true) : ∀ (n i : Nat) {hp : List Blk} {Fm Gs : Ft} {sv : V} {w : AW}, i + n = min l.length 20 → WkQ hp wk a m fr Fm Gs sv w → Chi x0 w.x i → x0.M.count ≤ 10000 → hp0 <+: hp → kV hp0.length (WkF wk a fr Fm Gs) →
 ∃ hp' Fm' x' j, rc D 0 (.loop [0, 1, 2, 8, 9, 10, 12, 13] bo) [(0, lv), (1, .int .i64 c1), (2, kv), (8, .ptr (.hp m) [] 59), (9, .ptr (.hp a) [] 43), (10, .ptr (.hp wk) [] 61), (12, .ptr (.loc 0) [] 48), (13, .int .i64 i)] ⟨[A], hp⟩ =
  some (.exit 2, [(0, lv), (1, .int .i64 c1), (2, kv), (8, .ptr (.hp m) [] 59), (9, .ptr (.hp a) [] 43), (10, .ptr (.hp wk) [] 61), (12, .ptr (.loc 0) [] 48), (13, .int .i64 j), (62, .bool false)], ⟨[A], hp'⟩) ∧ WkQ hp' wk a m fr Fm' Gs sv { w with x := x' } ∧ Chi x0 x' 20 ∧ hp0 <+: hp' ∧ kV hp0.length (WkF wk a fr Fm' Gs)
 | 0, i, hp, Fm, Gs, sv, w, hi, h, hC, hM, hp1, hab => by
  refine ⟨hp, Fm, w.x, i, ?_, h, ⟨hC.img, hC.on, hC.n, by have := hC.cnt; omega, by have := hC.left; omega, hC.low, hC.base, hC.dir⟩, hp1, hab⟩;have hsl : V.slen false lv = some l.length := by
   have := hrs.slen
   rwa [List.length_map] at this
  rw [ah];by_cases d0 : i < l.length
  ·have d1 : (i : Int) < l.length := by omega
   have d2 : ¬ (i : Int) < 20 := by omega
   simp only [go_sem, bo, hsl, d1, d2]
  ·have d1 : ¬ (i : Int) < l.length := by omega
   simp only [go_sem, bo, hsl, d1]
 | n + 1, i, hp, Fm, Gs, sv, w, hi, h, hC, hM, hp1, hab => by
  have hsl : V.slen false lv = some l.length := by
   have := hrs.slen
   rwa [List.length_map] at this
  have d0 : i < l.length := by omega
  have d1 : (i : Int) < l.length := by omega
  have d2 : (i : Int) < 20 := by omega
  have d4 : IntKind.i64.wrap ((i : Int) + 1) = ((i + 1 : Nat) : Int) := ag (by omega) (by omega);have hg := aS (f := Cll.val) (l := l) (i := i) d0 yH;have ho : (l.getD i yH).Ok := hl _ (by rw [List.getD_eq_getElem?_getD, List.getElem?_eq_getElem d0]; exact List.getElem_mem d0);have hrs1 : RS ⟨[A], hp⟩ 54 lv (l.map Cll.val) := hrs.more ⟨List.nil_prefix, hp1⟩;have hld : ldv ⟨[A], hp⟩ 54 (elq lv i [] 54) = V.at [] (l.getD i yH).val := hrs1.ldq hg;have hsad := hrs1.sadq hg (k := .i64);obtain ⟨hp2, F2, e1, e2, e3⟩ := Gd h (by have := hC.cnt; omega) hC.img.inv ho [A];obtain ⟨p2, b2⟩ := e3.pre hp1 hab;obtain ⟨hp', Fm', x', j, r1, r2, r3, r4⟩ := Gg hl hkv hrs c1 A hA n (i + 1) (by omega) e2 (hC.next _) hM p2 b2
  refine ⟨hp', Fm', x', j, ?_, r2, r3, r4⟩;rw [← r1, ah];generalize l.getD i yH = o at *;have hlt0 : lv.locLt 1 = true := ce (Nat.zero_le _) hrs.locLt;have hkv1 : kv.locLt 1 = true := ce (Nat.zero_le _) hkv;clear r1 r2 r3 r4 h e2 e3;simp only [Cll.val] at *;simp only [go_sem, bo, hsl, d1, d2, hsad, hld, e1, d4, hlt0, hkv1, hA]
end
section
variable {hp : List Blk} {wk a m fr : Nat} {Fm Gs : Ft} {sv : V} {w : AW}
theorem O5 (h : WkQ hp wk a m fr Fm Gs sv w) (c1 : Int) {kv : V} (hkv : kv.locLt 0 = true) (A B : Blk) (hA : a8 3 A = true) (hB : a8 3 B = true) :
 rc D 0 (.loop [1, 2, 8, 9, 10, 12, 14, 15, 16] bQ) [(1, .int .i64 c1), (2, kv), (8, .ptr (.hp m) [] 59), (9, .ptr (.hp a) [] 43), (10, .ptr (.hp wk) [] 61), (12, .ptr (.loc 0) [] 48), (14, .ptr (.loc 1) [] 48), (15, .ptr (.loc 2) [] 30), (16, .int .i64 0)] ⟨[A, B, .rw (cS w.x 0)], hp⟩ =
  some (.exit 4, [(1, .int .i64 c1), (2, kv), (8, .ptr (.hp m) [] 59), (9, .ptr (.hp a) [] 43), (10, .ptr (.hp wk) [] 61), (12, .ptr (.loc 0) [] 48), (14, .ptr (.loc 1) [] 48), (15, .ptr (.loc 2) [] 30), (16, .int .i64 49), (75, .bool false)], ⟨[A, B, .rw (cS w.x 49)], hp⟩) := by
 have hkv2 : kv.locLt 3 = true := ce (Nat.zero_le _) hkv;refine aV (fun x : Nat => [(1, .int .i64 c1), (2, kv), (8, .ptr (.hp m) [] 59), (9, .ptr (.hp a) [] 43), (10, .ptr (.hp wk) [] 61), (12, .ptr (.loc 0) [] 48), (14, .ptr (.loc 1) [] 48), (15, .ptr (.loc 2) [] 30), (16, .int .i64 x)]) (fun x => ⟨[A, B, .rw (cS w.x x)], hp⟩) (fun _ => _) (fun x => 49 - x) (fun x => x ≤ 49) 0 ?_ (by omega) rfl rfl;intro i hi;by_cases c1 : i < 49
 ·left;have d1 : (i : Int) < 49 := by omega
  have d2 : (0 : Int) ≤ i := by omega
  have d4 : IntKind.i64.wrap ((i : Int) + 1) = (i : Int) + 1 := ag (by omega) (by omega);have hget := fun L => Hn h.q (i : Int) L;have e1 : (tab 49 fun j => (nC w.x i j).v).set i (w.x.get (i : Int)).1.v = tab 49 fun j => (nC w.x (i + 1) j).v := by
   rw [bA];apply aE;intro j _;unfold nC;by_cases h1 : j = i
   ·subst h1; rw [aj, if_pos (by omega)]
   ·rw [ao h1];by_cases h2 : j < i
    ·rw [if_pos h2, if_pos (by omega)]
    ·rw [if_neg h2, if_neg (by omega)]
  have g1 := al (f := fun j => (nC w.x i j).v) (show i < 49 by omega);refine ⟨i + 1, by omega, by omega, rfl, ?_⟩;simp only [cS];rw [← e1];generalize tab 49 (fun j => (nC w.x i j).v) = T1 at *;generalize w.x.get (i : Int) = gg at *;generalize nC w.x i i = g0 at *;simp only [Obj.v] at *;simp only [go_sem, bQ, d1, d2, hget, hkv2];rw [Int.toNat_natCast];simp only [go_sem, g1, d4, hkv2, hA, hB];rfl
 ·right;have : i = 49 := by omega
  subst this;simp only [cS];simp only [go_sem, bQ]
end
end Go.Proofs.YtmimfopnhmmlbaaGreatDoor
namespace Go.Proofs.YtmimfopnhmmlbaaGreatDoor
open Go.Ab
structure Qb (x0 : AS) (d7 : Int) (M : AM) (d : Nat → Int) : Prop where
 lay : Lay M.n M x0.work d
 root : d 7 = d7
 old : ∀ j : Nat, ax x0.work j = true → Sur M j ∧ M.S j = x0.M.now j
 s1 : Sur M 1 ∧ M.S 1 = x0.M.S 1
def Pow (x0 : AS) (b : Sup) (seq : Int) (M : AM) (d : Bool) : Prop :=
 (d = false ∧ ∀ j, Old x0 j → Sur M j ∧ M.S j = x0.M.S j) ∨
 ∃ d7 dr, 0 ≤ d7 ∧ d7 ≤ 1023 ∧ Qb x0 d7 M dr ∧
  ((d = false ∧ (∀ j, j ≠ 0 → Old x0 j → Sur M j ∧ M.S j = x0.M.S j) ∧ ∃ m, m ≤ 9 ∧ jU M 0 (x0.M.S 0) (aI ⟨b.gen + 1, d7, seq, b.cores⟩) m) ∨
   (Sur M 0 ∧ M.S 0 = aI ⟨b.gen + 1, d7, seq, b.cores⟩))
theorem Ck.fit {x0 : AS} {G : List (Nat × Int)} {w : AW} {b : Sup} {sl seq : Int} (h : Ck x0 G w) (hB : oO b sl seq) (hb : w.b = b) (hs : w.slot = sl) : w.Fit := by
 refine ⟨by rw [hb]; have := hB.g; omega, by rw [hs]; exact hB.s, fun p hp h1 => ?_⟩;have hp2 := h.suf.subset hp;rcases List.mem_append.1 hp2 with hp | hp
 ·rcases h.g p hp with ⟨e, _⟩ | ⟨_, k, e, hk⟩
  ·rw [e] at h1; cases h1
  ·omega
 ·simp only [List.mem_cons, List.not_mem_nil, or_false] at hp;rcases hp with rfl | rfl | rfl <;> cases h1
section
variable {hp0 : List Blk} {wk a m fr : Nat}
theorem Pc {x0 : AS} {G : List (Nat × Int)} {b : Sup} {sl seq : Int} (hBg : oO b sl seq) (hsl1 : sl = 1) {kv : V} (hkv : kv.locLt 0 = true) (hg0 : ir x0.work) (A B C : Blk) (hA : a8 3 A = true) (hB : a8 3 B = true) (hC3 : a8 3 C = true) :
 ∀ (n i : Nat) {hp : List Blk} {Fm Gs : Ft} {sv : V} {w : AW}, w.st.length = n + 1 → i + n ≤ 58 → WkQ hp wk a m fr Fm Gs sv w → Ck x0 G w → w.x.work = x0.work → w.b = b → w.slot = sl → w.seq = seq → wrS w.st ≤ w.x.A.left → w.x.M.off = false → w.x.M.count + 12 * (n + 1) ≤ 9000 → hp0 <+: hp → kV hp0.length (WkF wk a fr Fm Gs) →
 ∃ hp' Fm' Gs' sv' wf d j, rc D 0 (.loop [2, 8, 10, 12, 14, 15, 17, 18] aH) [(2, kv), (8, .ptr (.hp m) [] 59), (10, .ptr (.hp wk) [] 61), (12, .ptr (.loc 0) [] 48), (14, .ptr (.loc 1) [] 48), (15, .ptr (.loc 2) [] 30), (17, .bool false), (18, .int .i64 i)] ⟨[A, B, C], hp⟩ =
  some (.exit 6, [(2, kv), (8, .ptr (.hp m) [] 59), (10, .ptr (.hp wk) [] 61), (12, .ptr (.loc 0) [] 48), (14, .ptr (.loc 1) [] 48), (15, .ptr (.loc 2) [] 30), (17, .bool d), (18, .int .i64 j), (102, .bool false)], ⟨[A, B, C], hp'⟩) ∧ WkQ hp' wk a m fr Fm' Gs' sv' wf ∧ wf.x.M.count ≤ 9000 ∧ wf.x.M.n = x0.M.n ∧ Pow x0 b seq wf.x.M d ∧ hp0 <+: hp' ∧ kV hp0.length (WkF wk a fr Fm' Gs') := by
 have hkv3 : kv.locLt 3 = true := ce (Nat.zero_le _) hkv;have out : ∀ {hp : List Blk} {Fm Gs : Ft} {sv : V} {w : AW} (d : Bool) (j : Nat), WkQ hp wk a m fr Fm Gs sv w → (w.st = [] ∨ w.x.M.off = true) → rc D 0 (.loop [2, 8, 10, 12, 14, 15, 17, 18] aH) [(2, kv), (8, .ptr (.hp m) [] 59), (10, .ptr (.hp wk) [] 61), (12, .ptr (.loc 0) [] 48), (14, .ptr (.loc 1) [] 48), (15, .ptr (.loc 2) [] 30), (17, .bool d), (18, .int .i64 j)] ⟨[A, B, C], hp⟩ =
  some (.exit 6, [(2, kv), (8, .ptr (.hp m) [] 59), (10, .ptr (.hp wk) [] 61), (12, .ptr (.loc 0) [] 48), (14, .ptr (.loc 1) [] 48), (15, .ptr (.loc 2) [] 30), (17, .bool d), (18, .int .i64 j), (102, .bool false)], ⟨[A, B, C], hp⟩) := by
  intro hp Fm Gs sv w d j h hs;have hL := fun L => gv h L;have hO := fun L => uq h.q.mp L;rw [ah];by_cases d1 : (j : Int) < 60
  ·by_cases d2 : (w.st.length : Int) > 0
   ·have ho : w.x.M.off = true := hs.resolve_left fun e => by rw [e] at d2; simp at d2
    rw [ho] at hO;clear h;simp only [go_sem, aH, d1, hL, d2, hO, hkv3, hA, hB, hC3]
   ·clear h;simp only [go_sem, aH, d1, hL, d2, hkv3, hA, hB, hC3]
  ·simp only [go_sem, aH, d1]
 have one : ∀ {hp hp1 : List Blk} {Fm Gs : Ft} {sv : V} {w : AW} {d : Bool} {e : Int} {i : Nat}, WkQ hp wk a m fr Fm Gs sv w → w.st ≠ [] → w.x.M.off = false → i ≤ 59 → rf D eu [.ptr (.hp wk) [] 61] ⟨[A, B, C], hp⟩ = some (.tup [.bool d, .int .i64 e], ⟨[A, B, C], hp1⟩) →
  rc D 0 (.loop [2, 8, 10, 12, 14, 15, 17, 18] aH) [(2, kv), (8, .ptr (.hp m) [] 59), (10, .ptr (.hp wk) [] 61), (12, .ptr (.loc 0) [] 48), (14, .ptr (.loc 1) [] 48), (15, .ptr (.loc 2) [] 30), (17, .bool false), (18, .int .i64 i)] ⟨[A, B, C], hp⟩ =
  rc D 0 (.loop [2, 8, 10, 12, 14, 15, 17, 18] aH) [(2, kv), (8, .ptr (.hp m) [] 59), (10, .ptr (.hp wk) [] 61), (12, .ptr (.loc 0) [] 48), (14, .ptr (.loc 1) [] 48), (15, .ptr (.loc 2) [] 30), (17, .bool d), (18, .int .i64 (i + 1 : Nat))] ⟨[A, B, C], hp1⟩ := by
  intro hp hp1 Fm Gs sv w d e i h hs ho hi he;have hL := fun L => gv h L;have hO := fun L => uq h.q.mp L;rw [ho] at hO;have d1 : (i : Int) < 60 := by omega
  have d2 : (w.st.length : Int) > 0 := by have := List.length_pos_iff.2 hs; omega
  have d4 : IntKind.i64.wrap ((i : Int) + 1) = ((i + 1 : Nat) : Int) := ag (by omega) (by omega);rw [ah];clear h;simp only [go_sem, aH, d1, hL, d2, hO, he, d4, hkv3, hA, hB, hC3]
 intro n
 induction n with
 | zero =>
  intro i hp Fm Gs sv w hl hi h hC hwk hwb hws hwq hlf hoff hc hpre hab;obtain ⟨p, hp1⟩ : ∃ p, w.st = [p] := by
   match hs : w.st with
   | [] => rw [hs] at hl; cases hl
   | [p] => exact ⟨p, rfl⟩
   | p :: q :: r => rw [hs] at hl; simp at hl
  have hp4 : p = (4, 0) := by
   have hsuf := hC.suf;rw [hp1] at hsuf;rcases uf hsuf with ⟨_, e⟩ | ⟨_, e⟩ | ⟨_, e⟩ | ⟨e, _⟩
   ·have := e.length_le; simp at this
   ·cases e
   ·cases e
   ·exact e
  subst hp4;obtain ⟨q7, hq7, hq7a, hq7b, _⟩ := hC.d1 7 (by decide);have hn1 := hC.inv.ok.M.n1;have hbo : w.nextB.ok = true := by
   have := hBg.g;have := hBg.c;have := hBg.q;unfold AW.nextB Sup.ok win;simp only [hwb, hwq, Bool.and_eq_true, decide_eq_true_eq];omega
  have hnb : w.nextB = ⟨b.gen + 1, w.dir 7, seq, b.cores⟩ := by unfold AW.nextB; rw [hwb, hwq]
  obtain ⟨h1, F1, G1, v1, e1, W1, c3⟩ := kb h (by omega) (hC.fit hBg hwb hws) [A, B, C];obtain ⟨p2, b2⟩ := c3.pre hpre hab;have hsc := yQ w;have f1 : ∀ j : Nat, ax x0.work j = true → Sur w.x.M j := by
   rcases hC.fe with e | e
   ·rw [hp1] at e; simp at e
   ·exact e.1
  rcases hC.last hp1 (s := 0) (by rw [hws, hsl1]; rfl) (.inl rfl) hbo hg0 (by rw [hwk]; exact hg0) with ⟨w', s2, hcom⟩ | ⟨w', s2, ho', hok', hn', hsm, mm, hm9, hhalf⟩
  ·rw [s2] at e1 W1 hsc;refine ⟨h1, F1, G1, v1, w', true, i + 1, ?_, W1, by simp only at hsc; omega, hcom.n, .inr ⟨w.dir 7, w.dir, by omega, by omega, ⟨?_, rfl, fun j hj => ?_, ?_⟩, .inr ⟨hcom.img.sur 0 (.inl (by decide)), by rw [hcom.sup, hnb]⟩⟩, p2, b2⟩
   ·rw [one h (by rw [hp1]; simp) hoff (by omega) e1];exact out true (i + 1) W1 (.inl hcom.st)
   ·have := hcom.img.lay;rw [hcom.base, hcom.dir] at this;exact this
   ·exact ⟨hcom.img.sur j (.inr (.inl (by rw [hcom.base]; exact hj))), hcom.old j hj⟩
   ·exact ⟨hcom.img.sur 1 (.inl (by decide)), hcom.low 1 (by decide) (by decide)⟩
  ·rw [s2] at e1 W1 hsc;have hsafe : ∀ j, j ≠ 0 → Old x0 j → Sur w'.x.M j ∧ w'.x.M.S j = x0.M.S j := fun j hj ho => by
    obtain ⟨t1, t2⟩ := hC.safe j ho;have t3 := hsm j hj t1;exact ⟨t3.sur t1, t3.S.trans t2⟩
   refine ⟨h1, F1, G1, v1, w', false, i + 1, ?_, W1, by simp only at hsc; omega, hn', .inr ⟨w.dir 7, w.dir, by omega, by omega, ⟨?_, rfl, fun j hj => ?_, hsafe 1 (by decide) (.inl (by decide))⟩, .inl ⟨rfl, hsafe, mm, hm9, ?_⟩⟩, p2, b2⟩
   ·rw [one h (by rw [hp1]; simp) hoff (by omega) e1];exact out false (i + 1) W1 (.inr ho')
   ·have := hC.lay hp1 hg0;rw [hC.n] at this;rw [hn'];exact this.sm fun j hj hs => hsm j (by omega) hs
   ·have hj10 : j ≠ 0 := by
     obtain ⟨i', i1, i2, i3⟩ := aL.1 hj;have := hC.inv.ok.k.inn i' i1 (by rw [hC.mark]; exact i2);rw [hC.mark] at this;have := hC.f;omega
    have t3 := hsm j hj10 (f1 j hj);refine ⟨t3.sur (f1 j hj), ?_⟩;rw [t3.S, ← (f1 j hj).now];exact (hC.lin j hj).1
   ·rw [← (hC.safe 0 (.inl (by decide))).2, ← hnb]; exact hhalf
 | succ n ih =>
  intro i hp Fm Gs sv w hl hi h hC hwk hwb hws hwq hlf hoff hc hpre hab;obtain ⟨p, r, hp1, hr⟩ : ∃ p r, w.st = p :: r ∧ r.length = n + 1 := by
   match hs : w.st with
   | [] => rw [hs] at hl; cases hl
   | p :: r => rw [hs] at hl; exact ⟨p, r, rfl, by simpa using hl⟩
  have hr0 : r ≠ [] := fun e => by rw [e] at hr; cases hr
  rw [hp1] at hlf;simp only [wrS] at hlf;obtain ⟨h1, F1, G1, v1, e1, W1, c3⟩ := kb h (by omega) (hC.fit hBg hwb hws) [A, B, C];obtain ⟨p2, b2⟩ := c3.pre hpre hab;have hsc := yQ w;rcases hC.step hp1 hr0 with ⟨w1, s1, k1, k2⟩ | ⟨z1, z2⟩ | ⟨w1, s1, o1, o2, o3, o4, o5⟩
  ·rw [s1] at e1 W1 hsc;simp only at e1 W1 hsc;have hl2 := k2.left;obtain ⟨hp', Fm', Gs', sv', wf, d, j, t1, t2⟩ := ih (i + 1) (w := w1) (by rw [k2.st]; exact hr) (by omega) W1 k1 (k2.work.trans hwk) (k2.b.trans hwb) (k2.slot.trans hws) (k2.seq.trans hwq) (by rw [k2.st]; omega) (k2.off.trans hoff) (by omega) p2 b2;refine ⟨hp', Fm', Gs', sv', wf, d, j, ?_, t2⟩;rw [one h (by rw [hp1]; simp) hoff (by omega) e1]; exact t1
  ·omega
  ·rw [s1] at e1 W1 hsc;simp only at e1 W1 hsc;refine ⟨h1, F1, G1, v1, w1, false, i + 1, ?_, W1, by omega, o4.trans hC.n, .inl ⟨rfl, o5⟩, p2, b2⟩;rw [one h (by rw [hp1]; simp) hoff (by omega) e1];exact out false (i + 1) W1 (.inr o1)
end
end Go.Proofs.YtmimfopnhmmlbaaGreatDoor
namespace Go.Proofs.YtmimfopnhmmlbaaGreatDoor
open Go.Ab
theorem Ip {a : List Int} {b : Sup} (ha : iF a = false) (hb : b.ok = true) : fU a (aI b) = (b, 1, true) := by
 obtain ⟨h1, h2⟩ := sG hb;unfold fU bst;rw [ha];simp only [Bool.false_eq_true, false_and, if_false, h1, h2, true_and, true_or, if_true]
theorem J0 {b b3 : Sup} (hb : b.ok = true) (h3 : b3.ok = true) (hg : b.gen < b3.gen) : fU (aI b3) (aI b) = (b3, 0, true) := by
 obtain ⟨h1, h2⟩ := sG hb;obtain ⟨h4, h5⟩ := sG h3;unfold fU bst;have hn : ¬ b3.gen < b.gen := by omega
 simp only [h1, h2, h4, h5, true_and, true_or, if_true, Bool.true_eq_false, false_or, hn, if_false]
theorem Img.layO {x : AS} (h : Img x) {M : AM} (hn : M.n = x.M.n) (ho : ∀ j, j ≠ 0 → Old x j → Sur M j ∧ M.S j = x.M.S j) : Lay M.n M x.base x.dir := by
 have hd : ∀ k, k < 8 → ∀ q : Nat, x.dir k = q → Old x q := fun k hk q hq => .inr (.inr (gQ.2 ⟨k, hk, hq⟩));refine ⟨fun k hk => ?_, h.dj, fun k hk => ?_, ?_, fun i hi hk => ?_, h.gb⟩
 ·obtain ⟨q, q1, q2, q3, q4, q5, q6⟩ := h.dl k hk;exact ⟨q, q1, q2, by omega, (ho q (by omega) (hd k hk q q1)).1, q6⟩
 ·obtain ⟨q, q1, q2, q3, q4, q5, q6⟩ := h.dl k (by omega);have := h.lf k hk;rw [q1, Int.toNat_natCast] at this ⊢;rw [(ho q (by omega) (hd k (by omega) q q1)).2]; exact this
 ·obtain ⟨q, q1, q2, q3, q4, q5, q6⟩ := h.dl 7 (by omega);have := h.rt;rw [q1, Int.toNat_natCast] at this ⊢;rw [(ho q (by omega) (hd 7 (by omega) q q1)).2]; exact this
 ·have := h.inv.ok.b.inn i hi hk;have hf := h.f;have hl := h.inv.ok.l;obtain ⟨q, hq⟩ : ∃ q : Nat, (x.base i).line = q := ⟨(x.base i).line.toNat, by omega⟩;exact ⟨q, hq, by omega, by omega, (ho q (by omega) (.inr (.inl (aL.2 ⟨i, hi, hk, hq⟩)))).1⟩
theorem Img.fuse {x : AS} (h : Img x) (k : Int) (hM : (x.M.fuse k).Ok) : Img { x with M := x.M.fuse k } :=
 ⟨h.inv.withM hM rfl, h.f, h.is, h.dl, h.dj, h.sur, h.lf, h.rt, h.gb, h.gw⟩
theorem HD {x0 : AS} {b : Sup} {seq : Int} {M : AM} {d : Bool} (hI : Img x0) (h0 : x0.M.S 0 = zl) (h1 : x0.M.S 1 = aI b) (hP : Pow x0 b seq M d) (hn : M.n = x0.M.n) (hn2 : 2 ≤ M.n) (ks : List Int) (hcn : (M.crash ks).n = M.n) :
 (d = false ∧ iF ((M.crash ks).now 0) = false ∧ (M.crash ks).now 1 = aI b ∧ Lay (M.crash ks).n (M.crash ks) x0.base x0.dir) ∨
 ∃ d7 dr, 0 ≤ d7 ∧ d7 ≤ 1023 ∧ (M.crash ks).now 0 = aI ⟨b.gen + 1, d7, seq, b.cores⟩ ∧ (M.crash ks).now 1 = aI b ∧ Lay (M.crash ks).n (M.crash ks) x0.work dr ∧ dr 7 = d7 ∧
  ∀ j : Nat, ax x0.work j = true → (M.crash ks).now j = x0.M.now j := by
 have hold : ∀ (P : Nat → Prop), (∀ j, P j → Old x0 j → Sur M j ∧ M.S j = x0.M.S j) → ∀ j, P j → Old x0 j → Sur (M.crash ks) j ∧ (M.crash ks).S j = x0.M.S j := fun P h j hp ho => by
  obtain ⟨t1, t2⟩ := h j hp ho;have t3 := nT (ks := ks) t1;exact ⟨t3.sur t1, t3.S.trans t2⟩
 have hzl : x0.M.S 0 = zl := h0;rcases hP with ⟨rfl, h⟩ | ⟨d7, dr, r0, r1, hN, h⟩
 ·have h' := hold (fun _ => True) (fun j _ ho => h j ho);obtain ⟨u0, v0⟩ := h' 0 trivial (.inl (by decide));obtain ⟨u1, v1⟩ := h' 1 trivial (.inl (by decide));exact .inl ⟨rfl, by rw [u0.now, v0, h0]; exact Hl, by rw [u1.now, v1, h1], hI.layO (hcn.trans hn) fun j _ ho => h' j trivial ho⟩
 ·obtain ⟨s1, s2⟩ := hN.s1;have t1 := nT (ks := ks) s1;have n1 : (M.crash ks).now 1 = aI b := by rw [(t1.sur s1).now, t1.S, s2, h1]
  have new : (M.crash ks).now 0 = aI ⟨b.gen + 1, d7, seq, b.cores⟩ → ∃ d7 dr, 0 ≤ d7 ∧ d7 ≤ 1023 ∧ (M.crash ks).now 0 = aI ⟨b.gen + 1, d7, seq, b.cores⟩ ∧ (M.crash ks).now 1 = aI b ∧ Lay (M.crash ks).n (M.crash ks) x0.work dr ∧ dr 7 = d7 ∧
   ∀ j : Nat, ax x0.work j = true → (M.crash ks).now j = x0.M.now j := fun e => by
   refine ⟨d7, dr, r0, r1, e, n1, ?_, hN.root, fun j hj => ?_⟩
   ·rw [hcn]; exact hN.lay.sm fun j _ hs => nT hs
   ·obtain ⟨u1, u2⟩ := hN.old j hj;have u3 := nT (ks := ks) u1;rw [(u3.sur u1).now, u3.S, u2]
  rcases h with ⟨rfl, h, mm, hm, hh⟩ | ⟨g1, g2⟩
  ·have h' := hold (fun j => j ≠ 0) h;have hc := DU (ks := ks) hh hm (by omega) (by rw [h0]; rfl) (nM _);have lay := hI.layO (hcn.trans hn) h';rcases hc with e | e | e
   ·exact .inl ⟨rfl, by rw [e, h0]; exact Hl, n1, lay⟩
   ·exact .inl ⟨rfl, e, n1, lay⟩
   ·exact .inr (new e)
  ·have t0 := nT (ks := ks) g1;exact .inr (new (by rw [(t0.sur g1).now, t0.S, g2]))
section
variable {m : Nat}
theorem Nj {hp : List Blk} {F : Ft} {M : AM} (h : aY hp F m M) {x0 : AS} (onM : M.On) (hI : Inv x0) (on : x0.M.On) (hn : M.n = x0.M.n) (hS : ∀ j : Nat, ax x0.work j = true → M.now j = x0.M.now j) (A A1 B C : Blk) (hA : a8 6 A = true) (hA1 : a8 6 A1 = true) (hB : a8 6 B = true) (hC : a8 6 C = true) :
 rc D 0 (.loop [8, 15, 22, 25] bp) [(8, .ptr (.hp m) [] 59), (15, .ptr (.loc 2) [] 30), (22, .ptr (.loc 4) [] 48), (25, .int .i64 0)] ⟨[A, A1, .rw (cS x0 49), B, .rw (ab x0.work), C], hp⟩ =
  some (.exit 8, [(8, .ptr (.hp m) [] 59), (15, .ptr (.loc 2) [] 30), (22, .ptr (.loc 4) [] 48), (25, .int .i64 49), (157, .bool false)], ⟨[A, A1, .rw (cS x0 49), B, .rw (ab x0.work), C], hp⟩) := by
 have hgl := CC x0 49 6;have htl := pm (n := 6) (f := x0.work);refine aV (fun x : Nat => [(8, .ptr (.hp m) [] 59), (15, .ptr (.loc 2) [] 30), (22, .ptr (.loc 4) [] 48), (25, .int .i64 x)]) (fun x => ⟨[A, A1, .rw (cS x0 49), B, .rw (ab x0.work), C], hp⟩) (fun _ => _) (fun x => 49 - x) (fun x => x ≤ 49) 0 ?_ (by omega) rfl rfl;intro i hi;by_cases c1 : i < 49
 ·left;have d1 : (i : Int) < 49 := by omega
  have d2 : (0 : Int) ≤ i := by omega
  have d4 : IntKind.i64.wrap ((i : Int) + 1) = (i : Int) + 1 := ag (by omega) (by omega);have g1 := al (f := fun j => (nC x0 49 j).v) (show i < 49 by omega);have g2 : nC x0 49 i = (x0.get i).1 := if_pos c1;rw [g2] at g1;have g3 := al (f := fun j => (x0.work j).v) (show i < 49 by omega);have hL := fun L => ia h (x0.work i).line L;refine ⟨i + 1, by omega, by omega, rfl, ?_⟩;by_cases hk : (x0.work i).kind = 0
  ·simp only [cS, ab, lnV] at *;generalize tab 49 (fun j => (nC x0 49 j).v) = T1 at *;generalize (tab 49 fun j => (x0.work j).v) = T2 at *;generalize M.load (x0.work i).line = ld at *;generalize x0.get (i : Int) = gg at *;generalize x0.work i = E at *;obtain ⟨a1, a2, a3⟩ := E;simp only at hk;subst hk;simp only [Obj.v, Ent.v] at *;simp only [go_sem, bp, d1, d2];rw [Int.toNat_natCast];simp only [go_sem, g3, hL, d4, d1, d2, hA, hA1, hB, hC, hgl, htl];rw [Int.toNat_natCast];simp only [go_sem, g3, hL, d4, d1, d2, hA, hA1, hB, hC, hgl, htl];rfl
  ·obtain ⟨q, hq, hq1, hq2, _⟩ := hI.ln c1 hk;have hs := hS q (aL.2 ⟨i, c1, hk, hq⟩);have hld : M.load (x0.work i).line = (x0.M.now q, 0) := by
    rw [hq, wF onM (by rw [hn]; exact hq2), hs]
   have hgt : (x0.get (i : Int)).1.l = x0.M.now q := by
    have h1 : gE x0.work (i : Int) = 0 := by
     unfold gE;rw [if_neg (by omega), Int.toNat_natCast, if_neg hk]
    unfold AS.get;rw [if_neg (by rw [h1]; decide), Int.toNat_natCast, hq, wF on hq2, if_neg (by show ¬ (0 : Int) ≠ 0; decide)]
   rw [hld] at hL;have hve := Bs (f := V.int .u64) (fun a => by simp [veq]) (x0.M.now q);clear hld hs;simp only [cS, ab, lnV] at *;generalize tab 49 (fun j => (nC x0 49 j).v) = T1 at *;generalize (tab 49 fun j => (x0.work j).v) = T2 at *;generalize x0.get (i : Int) = gg at *;generalize x0.M.now q = ln at *;generalize x0.work i = E at *;obtain ⟨a1, a2, a3⟩ := E;simp only at hk;simp only [Obj.v, Ent.v] at *;rw [hgt] at g1;simp only [go_sem, bp, d1, d2];rw [Int.toNat_natCast];simp only [go_sem, g1, g3, hL, d4, d1, d2, hA, hA1, hB, hC, hgl, htl, hk, hve];rw [Int.toNat_natCast];simp only [go_sem, g1, g3, hL, d4, d1, d2, hA, hA1, hB, hC, hgl, htl, hk, hve];rfl
 ·right;have : i = 49 := by omega
  subst this;simp only [cS, ab];simp only [go_sem, bp]
end
end Go.Proofs.YtmimfopnhmmlbaaGreatDoor
namespace Go.Proofs.YtmimfopnhmmlbaaGreatDoor
open Go.Ab
def P5 (n : Nat) : AF := ⟨10, n, fun j => if (20 ≤ j ∧ j < 20 + 12) ∨ (10 ≤ j ∧ j < 18) then 1 else 0⟩
theorem K9 {A : AF} {n : Nat} (h1 : A.f = 10) (h2 : A.l = n) (h3 : ∀ j, A.st j = if (20 ≤ j ∧ j < 20 + 12) ∨ (10 ≤ j ∧ j < 18) then 1 else 0) : A.left = (P5 n).left := by
 unfold AF.left;rw [h1, h2];exact AF.cnt_congr fun j _ _ => by rw [h3 j]; rfl
theorem Nf {hp : List Blk} {r : Nat} {v : V} (h : (Sh.sl r (.int .i64)).Fits hp v) : ∃ ks : List Int, (∀ k ∈ ks, -9223372036854775808 ≤ k ∧ k ≤ 9223372036854775807) ∧ v.locLt 0 = true ∧ ∀ {hp' : List Blk} {F : Ft}, hp <+: hp' → kV hp.length F → gR hp' F v ks := by
 rcases h with rfl | ⟨i, l, c, rfl, h1, h2, h3, h4⟩
 ·exact ⟨[], by simp, rfl, fun _ _ => .nil⟩
 ·obtain ⟨ks, rfl, hk⟩ := FW (f := V.int .i64) (fun x hx => AQ (h4 x hx));refine ⟨ks, hk, rfl, fun {hp' F} hpre hab => ?_⟩;have := gR.sl (hp := hp') (F := F) i 0 c r (ks.map (V.int .i64)) ks (by simpa using h1) ?_ (by simp) (fun j hj => ?_)
  ·rw [List.length_map]; exact this
  ·rcases h3 with h3 | h3
   ·exact .inl (List.map_eq_nil_iff.1 h3)
   ·refine .inr ⟨cv hpre h3, fun hF => ?_⟩;have := hab i hF;have := au h3;omega
  ·rw [Nat.zero_add, List.getElem?_map, List.getD_eq_getElem?_getD, List.getElem?_eq_getElem hj];rfl
theorem law_SnapPower : ∀ hp vs, G <+: hp → Sh.FitsL hp [(.sl 56 (.st 54 [(.int .i64), (.int .i64), (.int .i64), (.int .u64)])), (.int .i64), (.sl 38 (.int .i64))] vs → ∃ s', rf D dz vs ⟨[], hp⟩ = some (.bool true, s') := by
 intro hp vs hpre hf;obtain ⟨lv, vl, kv, rfl, hv, hlf, hw⟩ := KM hf;obtain ⟨c1, rfl, hc0, hc1⟩ := AQ hlf;obtain ⟨l0, hrs, hlt, hlen, hfit⟩ := DA hv;obtain ⟨l, rfl, hl⟩ := FW (f := Cll.val) (fun x hx => NB (hfit x hx));obtain ⟨ks, hks, hkv, hK⟩ := Nf hw;have hlv : lv.locLt 0 = true := hrs.locLt;have hG := Mv hpre;obtain ⟨h0, e0, p0⟩ := EA [] hG;have hG0 := cv p0 hG;obtain ⟨h1, wk, a, m, fr, A', Fm, e1, W1, I1, _, _, a1, a2, a3, p1, b1⟩ := Hr (c := 12) (n := 400) [] hG0 (by omega) (by omega) (by omega);have e1 : rf D ch [.int .i64 400, .int .i64 12] ⟨[], h0⟩ = some (.tup [.ptr (.hp m) [] 59, .ptr (.hp a) [] 43, .ptr (.hp wk) [] 61], ⟨[], h1⟩) := e1;have on0 : (am0 400 (imL 12)).On := Hf _ _;have hleft : 200 ≤ A'.left := by
  rw [K9 a1 a2 a3];decide +kernel
 have img0 := PE (c := 12) (n := 400) (by omega) (by omega) I1 a1 a3;generalize hx0 : as0 (am0 400 (imL 12)) A' (ay 12) bf = x0 at *;have xM : x0.M = am0 400 (imL 12) := by rw [← hx0]; rfl
 have xA : x0.A = A' := by rw [← hx0]; rfl
 have xi : x0.is = false := by rw [← hx0]; rfl
 have xd : x0.dir = bf := by rw [← hx0]; rfl
 have hc : x0.M.count = 0 := by rw [xM]; rfl
 have hz0 : x0.M.S 0 = zl := by rw [xM]; rfl
 have xon : x0.M.On := by rw [xM]; exact on0
 have pp : hp <+: h1 := p0.trans p1;have bb : kV hp.length (WkF wk a fr Fm yO) := fun j hj => by have := b1 j hj; have := p0.length_le; omega
 have hBg : oO (aw0 x0 b11 0).b (aw0 x0 b11 0).slot 0 := I6 (by omega);obtain ⟨k0, k1, k2, k3, k4, k5, k6⟩ := r9 (w := aw0 x0 b11 0) (seq := 0) img0.inv xon xi rfl img0.f hBg (by show 0 ≤ x0.dir 7 ∧ x0.dir 7 ≤ 1023; rw [xd]; decide);have hCk := img0.begin (w := aw0 x0 b11 0) 0;obtain ⟨h2, G2, v2, e2, W2, cg2⟩ := qe W1 0 [];rw [k0] at e2 W2;simp only at e2 W2;obtain ⟨p2, b2⟩ := cg2.pre pp bb;obtain ⟨nn, hnn⟩ : ∃ nn, ((aw0 x0 b11 0).begun 0).st.length = nn + 1 := by
  obtain ⟨S, q, _⟩ := k1.st;rw [q]; exact ⟨S.length, by simp⟩
 obtain ⟨h3, F3, G3, v3, w1, d7, j3, e3, W3, hF, hb1, hs1, hst1, hwk1, hc1', hl1, p3, b3⟩ := JE (x0 := x0) hBg rfl c1 hlv hkv img0.gw nn 0 hnn (by omega) W2 k1 hCk k4 (by rw [k5]; show _ ≤ x0.A.left; rw [xA]; omega) (by rw [k6]; show x0.M.count + _ ≤ _; omega) p2 b2;rw [show ((0 : Nat) : Int) = 0 from rfl] at e3
 rw [k5] at hl1;have hl1' : 192 ≤ w1.x.A.left := by
  have : (aw0 x0 b11 0).x.A.left = A'.left := by show x0.A.left = _; rw [xA]
  omega
 have eT1 := fun L => tH W3.q L;obtain ⟨T1, hT1⟩ : ∃ T, T = tab 49 fun i => (w1.x.work i).v := ⟨_, rfl⟩;have hTl1 : ∀ n, a8 n (.rw (.agg 48 T1)) = true := by
  intro n;rw [hT1];simp only [Ent.v];simp only [go_sem]
 obtain ⟨h4, F4, x2, j4, e4, W4, C2, p4, b4⟩ := Gg (x0 := w1.x) hl hkv hrs c1 (.rw (.agg 48 T1)) (hTl1 1) (min l.length 20) 0 (by omega) W3 ⟨hF.img, hF.on, rfl, by omega, by omega, fun _ _ => rfl, rfl, rfl⟩ (by omega) p3 b3;rw [show ((0 : Nat) : Int) = 0 from rfl] at e4
 have eT2 := fun L => tH W4.q L;obtain ⟨T2, hT2⟩ : ∃ T, T = tab 49 fun i => (x2.work i).v := ⟨_, rfl⟩;have hTl2 : ∀ n, a8 n (.rw (.agg 48 T2)) = true := by
  intro n;rw [hT2];simp only [Ent.v];simp only [go_sem]
 have hgl := CC x2 49;have e5 := O5 W4 c1 hkv (.rw (.agg 48 T1)) (.rw (.agg 48 T2)) (hTl1 3) (hTl2 3);have hk := fun s => mf c1 200 hc0 hc1 (by decide) s;have hkr := iU c1 (n := 200) (by decide);obtain ⟨h6, e6, m6, cg6⟩ := Eu W4.q.mp (kd c1 200) (by omega) [.rw (.agg 48 T1), .rw (.agg 48 T2), .rw (cS x2 49)];obtain ⟨W6, cw6⟩ := W4.setM m6 cg6 rfl;obtain ⟨p6, b6⟩ := cw6.pre p4 b4;have hBg2 : oO w1.b w1.slot 5 := by rw [hb1, hs1]; exact ⟨by show 0 ≤ (1 : Int) + 1 ∧ (1 : Int) + 1 < 1099511627776; decide, by show 1 ≤ (1 : Int) ∧ (1 : Int) ≤ 8; decide, .inr rfl, by decide⟩
 obtain ⟨dq, hdq, hdqa, hdqb, _⟩ := C2.img.dl 7 (by decide);have hn1 := C2.img.inv.ok.M.n1;obtain ⟨k7, _, k8, k9, _⟩ := r9 (w := { w1 with x := x2 }) (seq := 5) C2.img.inv C2.on C2.img.is hst1 C2.img.f hBg2 (by show 0 ≤ x2.dir 7 ∧ x2.dir 7 ≤ 1023; omega);have dD := C2.img.fuse (kd c1 200) m6.ok;have hCk2 := dD.begin (w := { w1 with x := { x2 with M := x2.M.fuse (kd c1 200) } }) 5;generalize hy : ({ x2 with M := x2.M.fuse (kd c1 200) } : AS) = y at *;have yw : y.work = x2.work := by rw [← hy]
 have yb : y.base = x2.base := by rw [← hy]
 have yd : y.dir = x2.dir := by rw [← hy]
 have yi : y.is = false := by rw [← hy]; exact C2.img.is
 have yA : y.A = x2.A := by rw [← hy]
 have yS : y.M.S = x2.M.S := by rw [← hy]; rfl
 have yN : ∀ j, y.M.now j = x2.M.now j := fun j => by rw [← hy]; rfl
 have yn : y.M.n = x2.M.n := by rw [← hy]; rfl
 have yo : y.M.off = false := by rw [← hy]; exact C2.on.off
 have yc : y.M.count = x2.M.count := by rw [← hy]; rfl
 have hbst : (({ w1 with x := y } : AW).begun 5).st = (({ w1 with x := x2 } : AW).begun 5).st := by
  show aU y.work (aC y.base (fun _ => false) 49) 49 ++ (bU y.work y.base 7).map (fun k => (1, k)) ++ [(2, 0), (3, 0), (4, 0)] = _;rw [yw, yb]; rfl
 have hbx : (({ w1 with x := y } : AW).begun 5).x = { y with mark := y.work, is := true } := by
  unfold AW.begun;simp only;unfold AS.marks;rw [if_neg (by rw [yi]; simp)]
 have hbeg : ({ w1 with x := y } : AW).begin 5 = (({ w1 with x := y } : AW).begun 5, 0) := by
  unfold AW.begin;rw [if_neg (by simp [hst1]), if_neg (by simp only [hb1]; show ¬ ((5 : Int) < 0 ∨ (1099511627776 : Int) < 5 ∨ (1099511627776 : Int) ≤ 1 + 1); decide), if_neg (by simp only [yi]; simp)]
 obtain ⟨h7, G7, v7, e7, W7, cg7⟩ := qe W6 5 [.rw (.agg 48 T1), .rw (.agg 48 T2), .rw (cS x2 49)];rw [hbeg] at e7 W7;simp only at e7 W7;obtain ⟨p7, b7⟩ := cg7.pre p6 b6;rw [← hbst] at k8 k9;obtain ⟨n2, hn2⟩ : ∃ n2, (({ w1 with x := y } : AW).begun 5).st.length = n2 + 1 := by
  rw [show (({ w1 with x := y } : AW).begun 5).st = aU y.work (aC y.base (fun _ => false) 49) 49 ++ (bU y.work y.base 7).map (fun k => (1, k)) ++ [(2, 0), (3, 0), (4, 0)] from rfl]
  exact ⟨(aU y.work (aC y.base (fun _ => false) 49) 49 ++ (bU y.work y.base 7).map (fun k => ((1 : Nat), k))).length + 2, by simp [List.length_append]; omega⟩
 have hC2l := C2.left;have hC2c := C2.cnt;obtain ⟨h8, F8, G8, v8, w8, dn, j8, e8, W8, hc8, hn8, hP8, p8, b8⟩ := Pc (x0 := y) hBg2 hs1 hkv dD.gw (.rw (.agg 48 T1)) (.rw (.agg 48 T2)) (.rw (cS x2 49)) (hTl1 3) (hTl2 3) (hgl 3) n2 0 hn2 (by omega) W7 hCk2 (by rw [hbx]) rfl rfl rfl (by rw [hbx]; simp only [yA]; omega) (by rw [hbx]; exact yo) (by rw [hbx]; simp only [yc]; omega) p7 b7;rw [show ((0 : Nat) : Int) = 0 from rfl] at e8
 obtain ⟨h9, F9, e9, M9, cg9⟩ := BQ W8.q.mp (by omega) (hK p8 fun j hj => b8 j (.inr (.inr (.inr (.inr hj))))) hks [.rw (.agg 48 T1), .rw (.agg 48 T2), .rw (cS x2 49)];have hcn : (w8.x.M.crash ks).n = w8.x.M.n := (qg w8.x.M.n 0 (M := w8.x.M) (ks := ks)).1;have hon9 : (w8.x.M.crash ks).On := ⟨rfl, rfl⟩;have hS0 : y.M.S 0 = zl := by rw [yS, C2.low 0 (by decide), hF.low 0 (by decide) (by decide), hz0]
 have hS1 : y.M.S 1 = aI w1.b := by rw [yS, C2.low 1 (by decide), hF.sup, hb1]
 have hpow := HD dD hS0 hS1 hP8 hn8 (by have := W8.q.mp.ok.n0; omega) ks hcn;have hr1 : w1.x.dir 7 = d7 := hF.root;have hyd : y.dir 7 = d7 := by rw [yd, C2.dir]; exact hr1
 have hyb : y.base = w1.x.work := by rw [yb, C2.base, hF.base, hwk1]
 have hd7r : 0 ≤ d7 ∧ d7 ≤ 1023 := by
  obtain ⟨q, q1, q2, q3, _⟩ := dD.dl 7 (by decide);omega
 have hbok : w1.b.ok = true := by
  rw [hb1];show (win 2 1 1099511627776 && (win d7 0 1023 && (win 0 0 1099511627776 && win 1 1 8))) = true;unfold win;simp only [Bool.and_eq_true, decide_eq_true_eq];omega
 have eF := fun L => yz M9 L;rw [if_neg (by rw [hon9.off]; simp)] at eF;have hve1 : bB T1 T1 = some true := by rw [hT1]; exact Bg w1.x.work
 have hve2 : bB T2 T2 = some true := by rw [hT2]; exact Bg x2.work
 have z0 : V.agg 30 (List.replicate 49 (.agg 26 [.int .i64 0, .int .i64 0, .agg 24 (List.replicate 8 (.int .u64 0))])) = cS x2 0 := by
  rw [bH];unfold cS;congr 1
 have w0 : (cS x2 0).tag = 30 := rfl;have w9 : (cS x2 49).tag = 30 := rfl;simp only [ab] at eT1 eT2;rw [← hT1] at eT1;simp only at eT2 e5;rw [← hT2] at eT2;rcases hpow with ⟨rfl, n0, n1, lay⟩ | ⟨d8, dr, r0, r1, n0, n1, lay, hdr, hsame⟩
 ·-- the old image
  rw [n1, Ip n0 hbok, if_pos rfl] at eF;obtain ⟨l1, l2, l3⟩ := lay.loads M9.ok;obtain ⟨X, e10⟩ := qP M9 10 (y.dir 7) (fun _ _ => l3) [.rw (.agg 48 T1), .rw (.agg 48 T2), .rw (cS x2 49), .rw (.agg 44 [.int .i64 2, .int .i64 d7, .int .i64 0, .int .i64 1])];rw [if_neg (by rw [hon9.off]; simp), if_pos l1] at e10;have htab : ab (ldT (w8.x.M.crash ks) ((w8.x.M.crash ks).now (y.dir 7).toNat)) = .agg 48 T1 := by
   rw [hT1];unfold ab;congr 1;exact aE fun j hj => by rw [l2 j hj, hyb]
  rw [htab, hyd] at e10;have w7 : (d7V (av ((w8.x.M.crash ks).now d7.toNat))).tag = 60 := rfl;generalize d7V (av ((w8.x.M.crash ks).now d7.toNat)) = DV at *;refine ⟨⟨[], h9 ++ X⟩, ?_⟩;clear W1 W2 W3 W4 W6 W7 W8 k1 C2 hrs hfit hF hCk hCk2 lay l1 l2 l3 htab hT1 hT2 dD img0 hP8 hK m6 cg6 cw6 hbeg hbx hbst hy M9 cg9 cg7 cg2;rw [hb1] at eF;generalize cS x2 49 = GV at *;generalize cS x2 0 = GZ at *;simp only [Sup.v, aw0, b11] at *;rw [ae ig rfl];simp only [go_sem, e0, e1];simp only [go_sem, e2];simp only [go_sem, e3];simp only [go_sem, eT1];simp only [go_sem, e4];simp only [go_sem, eT2, z0];simp only [go_sem, e5, w0];simp only [go_sem, hk, e6];simp only [go_sem, e7];simp only [go_sem, e8];simp only [go_sem, e9, eF];simp only [go_sem, e10, w7, hve1]
 ·-- the new image
  have h3ok : (⟨w1.b.gen + 1, d8, 5, w1.b.cores⟩ : Sup).ok = true := by
   rw [hb1];show (win 3 1 1099511627776 && (win d8 0 1023 && (win 5 0 1099511627776 && win 1 1 8))) = true;unfold win;simp only [Bool.and_eq_true, decide_eq_true_eq];omega
  rw [n0, n1, J0 hbok h3ok (by show w1.b.gen < w1.b.gen + 1; omega), if_pos rfl] at eF;obtain ⟨l1, l2, l3⟩ := lay.loads M9.ok;obtain ⟨X, e10⟩ := qP M9 10 (dr 7) (fun _ _ => l3) [.rw (.agg 48 T1), .rw (.agg 48 T2), .rw (cS x2 49), .rw (.agg 44 [.int .i64 3, .int .i64 d8, .int .i64 5, .int .i64 1])];rw [if_neg (by rw [hon9.off]; simp), if_pos l1] at e10;have htab : ab (ldT (w8.x.M.crash ks) ((w8.x.M.crash ks).now (dr 7).toNat)) = .agg 48 T2 := by
   rw [hT2];unfold ab;congr 1;exact aE fun j hj => by rw [l2 j hj, yw]
  rw [htab, hdr] at e10;have e11 := Nj (M9.snoc X) hon9 C2.img.inv C2.on (hcn.trans (hn8.trans yn)) (fun j hj => (hsame j (by rw [yw]; exact hj)).trans (yN j)) (.rw (.agg 48 T1)) (.rw (.agg 48 T2)) (.rw (.agg 44 [.int .i64 3, .int .i64 d8, .int .i64 5, .int .i64 1])) (.rw (d7V (av ((w8.x.M.crash ks).now d8.toNat)))) (hTl1 6) (hTl2 6) rfl (Bo (n := 6) (f := av ((w8.x.M.crash ks).now d8.toNat)));simp only [ab] at e11;rw [← hT2] at e11;have w7 : (d7V (av ((w8.x.M.crash ks).now d8.toNat))).tag = 60 := rfl;generalize d7V (av ((w8.x.M.crash ks).now d8.toNat)) = DV at *;refine ⟨⟨[], h9 ++ X⟩, ?_⟩;clear W1 W2 W3 W4 W6 W7 W8 k1 C2 hrs hfit hF hCk hCk2 lay l1 l2 l3 htab hT1 hT2 dD img0 hP8 hK m6 cg6 cw6 hbeg hbx hbst hy M9 cg9 cg7 cg2;rw [hb1] at eF;generalize cS x2 49 = GV at *;generalize cS x2 0 = GZ at *;simp only [Sup.v, aw0, b11] at *;rw [ae ig rfl];simp only [go_sem, e0, e1];simp only [go_sem, e2];simp only [go_sem, e3];simp only [go_sem, eT1];simp only [go_sem, e4];simp only [go_sem, eT2, z0];simp only [go_sem, e5, w0];simp only [go_sem, hk, e6];simp only [go_sem, e7];simp only [go_sem, e8];simp only [go_sem, e9, eF];simp only [go_sem, e10, w7, hve1, hve2];simp only [go_sem, e11]
end Go.Proofs.YtmimfopnhmmlbaaGreatDoor
