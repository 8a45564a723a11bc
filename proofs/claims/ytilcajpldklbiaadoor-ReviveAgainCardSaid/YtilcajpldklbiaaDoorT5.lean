/-
  YtilcajpldklbiaaDoorT5: what functions of the program compute (CrcB, RadC, DurA, LodA, LodB, LodC, SupB, MemC, DurB, DurC, DurD, DurE, DurF, DurG, DurH, DurI, RefE, MemT, MemU, RefF).
-/
import Derived.Test.YtilcajpldklbiaaDoorT4
set_option maxRecDepth 100000
namespace Go.Proofs.YtilcajpldklbiaaDoor
open Go.Ab
theorem vO {k : IntKind} : ∀ {A B : List Int}, A.length = B.length → bZ (A.map (.int k)) (B.map (.int k)) = some (decide (A = B))
 | [], [], _ => by simp [bZ]
 | a :: A, b :: B, h => by
  have ih := vO (k := k) (A := A) (B := B) (by simpa using h);simp only [List.map_cons, bZ, veq, if_true, ih];by_cases hab : a = b
  ·subst hab; simp
  ·simp [hab]
 | [], _ :: _, h => by simp at h
 | _ :: _, [], h => by simp at h
theorem yA {a b : List Int} (h : a.length = b.length) : veq (.agg 24 (a.map (.int .u64))) (.agg 24 (b.map (.int .u64))) = some (decide (a = b)) := by
 have := vO (k := .u64) h;show (if 24 = 24 then bZ _ _ else none) = _
 rw [if_pos rfl]; exact this
theorem sJ {l : List Int} (hl : l.length = 8) (s : St) : rf D pE [lnV l] s = some (.bool (decide (l = a8 l)), s) := by
 have hs := fun s => i9 hl s;have he := yA (a := l) (b := a8 l) (by rw [lN]);simp only [lnV] at *;generalize a8 l = Z at *;rw [ae Dw rfl];simp only [go_sem, hs, he]
def gh (w : Nat) : Ent := ⟨(w % 16 : Nat), (w / 16 % 16777216 : Nat), (w / 268435456 % 65536 : Nat)⟩
def pM (w : Nat) : Bool := jw (gh w) && decide (jY (gh w) = w)
theorem oi {a b : Nat} (hb : 1 ≤ b) (hab : a + b ≤ 63) (hm : 18446744073709551615 / 2 ^ (64 - b) = 2 ^ b - 1) (hb2 : b ≤ 40) {L hp : List Blk} {w : Nat} (h7 : w < 18446744073709551616) (X : List Blk) :
 rf D fX [.int .i64 a, .int .i64 b, .ptr (.loc L.length) [] 18] ⟨L ++ .rw (.int .u64 w) :: X, hp⟩ = some (.int .i64 (w / 2 ^ a % 2 ^ b : Nat), ⟨L ++ .rw (.int .u64 w) :: X, hp⟩) := by
 have hf := fun s => EK (w := w) hb (show a + b ≤ 64 by omega) h7 hm s;have hlt : w / 2 ^ a % 2 ^ b < 2 ^ 40 := Nat.lt_of_lt_of_le (Nat.mod_lt _ (Nat.two_pow_pos b)) (Nat.pow_le_pow_right (by decide) hb2);have e1 : IntKind.i64.wrap ((w / 2 ^ a % 2 ^ b : Nat) : Int) = (w / 2 ^ a % 2 ^ b : Nat) := ai (by omega) (by omega);generalize w / 2 ^ a % 2 ^ b = z at *;have hrd : (L ++ .rw (.int .u64 w) :: X)[L.length]? = some (.rw (.int .u64 w)) := by
  rw [List.getElem?_append_right (Nat.le_refl _), Nat.sub_self]; rfl
 generalize L ++ .rw (.int .u64 w) :: X = L2 at *;rw [ae zV rfl];simp only [go_sem, hrd, hf, e1]
theorem AE {w : Nat} (hw : w < 18446744073709551616) (s : St) : rf D mn [.int .u64 w] s = some (.tup [if pM w = true then (gh w).v else aw.v, .bool (pM w)], s) := by
 have f1 := fun X => oi (a := 0) (b := 4) (by decide) (by decide) (by decide) (by decide) (L := s.loc) (hp := s.hp) hw X;have f2 := fun X => oi (a := 4) (b := 24) (by decide) (by decide) (by decide) (by decide) (L := s.loc) (hp := s.hp) hw X;have f3 := fun X => oi (a := 28) (b := 16) (by decide) (by decide) (by decide) (by decide) (L := s.loc) (hp := s.hp) hw X;simp only [show w / 2 ^ 0 % 2 ^ 4 = w % 16 by omega, show w / 2 ^ 4 % 2 ^ 24 = w / 16 % 16777216 by omega, show w / 2 ^ 28 % 2 ^ 16 = w / 268435456 % 65536 by omega] at f1 f2 f3;unfold pM;have key : ∀ k v l : Int, gh w = ⟨k, v, l⟩ → (∀ X, rf D fX [.int .i64 0, .int .i64 4, .ptr (.loc s.loc.length) [] 18] ⟨s.loc ++ .rw (.int .u64 w) :: X, s.hp⟩ = some (.int .i64 k, ⟨s.loc ++ .rw (.int .u64 w) :: X, s.hp⟩)) →
  (∀ X, rf D fX [.int .i64 4, .int .i64 24, .ptr (.loc s.loc.length) [] 18] ⟨s.loc ++ .rw (.int .u64 w) :: X, s.hp⟩ = some (.int .i64 v, ⟨s.loc ++ .rw (.int .u64 w) :: X, s.hp⟩)) →
  (∀ X, rf D fX [.int .i64 28, .int .i64 16, .ptr (.loc s.loc.length) [] 18] ⟨s.loc ++ .rw (.int .u64 w) :: X, s.hp⟩ = some (.int .i64 l, ⟨s.loc ++ .rw (.int .u64 w) :: X, s.hp⟩)) →
  rf D mn [.int .u64 w] s = some (.tup [if (jw (gh w) && decide (jY (gh w) = w)) = true then (gh w).v else aw.v, .bool (jw (gh w) && decide (jY (gh w) = w))], s) := by
  intro k v l he f1 f2 f3;have hW := fun s => pZ (gh w) s;unfold vJ at hW;rw [he] at hW ⊢;cases hb : jw ⟨k, v, l⟩ with
  | false =>
   rw [hb] at hW;simp only [Bool.false_eq_true, if_false, Bool.false_and, Ent.v, aw] at hW ⊢;rw [ae tZ rfl];simp only [go_sem, f1, f2, f3, hW]
  | true =>
   rw [hb] at hW;simp only [if_true, Bool.true_and, Ent.v, aw] at hW ⊢;generalize jY ⟨k, v, l⟩ = z at *;rw [ae tZ rfl];by_cases hzw : z = (w : Int)
   ·simp only [go_sem, f1, f2, f3, hW, hzw]
   ·simp only [go_sem, f1, f2, f3, hW, hzw]
 exact key _ _ _ rfl f1 f2 f3
end Go.Proofs.YtilcajpldklbiaaDoor
namespace Go.Proofs.YtilcajpldklbiaaDoor
open Go.Ab
def rdv (l : List Int) (j : Nat) : Int := kG .u64 (l.getD j 0) 4294967296
def rdN (l : List Int) (j : Nat) : Int := IntKind.i64.wrap (rdv l j)
def sZ (l : List Int) (i n : Nat) : Bool := (List.range n).all fun j => decide (rdv l (i + j) < 1024)
theorem Fq (l : List Int) (i n : Nat) : sZ l i (n + 1) = (decide (rdv l i < 1024) && sZ l (i + 1) n) := by
 have e : (fun j => decide (rdv l (i + j) < 1024)) ∘ Nat.succ = fun j => decide (rdv l (i + 1 + j) < 1024) := by
  funext j;show decide (rdv l (i + (j + 1)) < 1024) = _;rw [show i + (j + 1) = i + 1 + j by omega]
 unfold sZ;rw [List.range_succ_eq_map, List.all_cons, List.all_map, e];rfl
def bW (f : Nat → Int) (i j : Nat) : Int := if j < i then f j else 0
theorem zC {f : Nat → Int} {n i : Nat} : (tab n fun j => V.int .i64 (bW f i j)).set i (.int .i64 (f i)) = tab n fun j => .int .i64 (bW f (i + 1) j) := by
 rw [eM];apply bM;intro j _;unfold upd bW;by_cases e : j = i
 ·subst e; rw [if_pos rfl, if_pos (by omega)]
 ·rw [if_neg e];show V.int _ _ = V.int _ _;by_cases h : j < i
  ·rw [if_pos h, if_pos (by omega)]
  ·rw [if_neg h, if_neg (by omega)]
theorem rU {f : Nat → Int} : d7V (bW f 0) = .agg 60 (List.replicate 7 (.int .i64 0)) := by
 unfold d7V; rw [fW]; congr 1
theorem sO {l : List Int} (hl : l.length = 8) (L hp : List Blk) : ∀ (n i : Nat), i + n = 7 → ∃ r,
 rc D L.length (.loop [1, 2, 4, 11] cY) [(1, .ptr (.loc L.length) [] 24), (2, .ptr (.loc (L.length + 1)) [] 60), (4, .ptr (.loc (L.length + 2)) [] 60), (11, .int .i64 i)] ⟨L ++ [.rw (lnV l), .rw (d7V (bW (rdN l) 0)), .rw (d7V (bW (rdN l) i))], hp⟩ = some r ∧
 ((sZ l i n = true ∧ r = (.exit 0, [(1, .ptr (.loc L.length) [] 24), (2, .ptr (.loc (L.length + 1)) [] 60), (4, .ptr (.loc (L.length + 2)) [] 60), (11, .int .i64 7), (12, .bool false)], ⟨L ++ [.rw (lnV l), .rw (d7V (bW (rdN l) 0)), .rw (d7V (bW (rdN l) 7))], hp⟩)) ∨
  (sZ l i n = false ∧ ∃ X, r = (.ret, [(2, .ptr (.loc (L.length + 1)) [] 60), (3, .bool false)], ⟨L ++ [.rw (lnV l), .rw (d7V (bW (rdN l) 0)), X], hp⟩)))
 | 0, i, hi => by
  have : i = 7 := by omega
  subst this;refine ⟨_, ?_, .inl ⟨rfl, rfl⟩⟩;rw [ac];simp only [d7V, lnV];simp only [go_sem, cY]
 | n + 1, i, hi => by
  have d1 : (i : Int) < 7 := by omega
  have d2 : (0 : Int) ≤ i := by omega
  have d3 : (i : Int) < 8 := by omega
  have d4 : IntKind.i64.wrap ((i : Int) + 1) = ((i + 1 : Nat) : Int) := ai (by omega) (by omega);have g1 := aC (f := fun j => V.int .i64 (bW (rdN l) i j)) (show i < 7 by omega);have g2 : (l.map (V.int .u64))[i]? = some (.int .u64 (l.getD i 0)) := aG (by omega) 0;have z1 : L.length < L.length + 3 := by omega
  have z3 : L.length + 1 < L.length + 3 := by omega
  have z4 : L.length + 2 < L.length + 3 := by omega
  have hs := zC (f := rdN l) (n := 7) (i := i);have hr : kG .u64 (l.getD i 0) 4294967296 = rdv l i := rfl;have hN : rdN l i = IntKind.i64.wrap (rdv l i) := rfl;rw [Fq];by_cases h1 : rdv l i < 1024
  ·obtain ⟨r, q1, q2⟩ := sO hl L hp n (i + 1) (by omega);refine ⟨r, ?_, by rw [decide_eq_true h1]; exact q2⟩;have h1' : ¬ rdv l i ≥ 1024 := by omega
   rw [← q1, ac];simp only [d7V, lnV] at *;rw [← hs, hN];generalize (tab 7 fun j => V.int .i64 (bW (rdN l) i j)) = T at *;generalize (tab 7 fun j => V.int .i64 (bW (rdN l) 0 j)) = T0 at *;generalize l.getD i 0 = w0 at *;generalize rdv l i = x at *;simp only [go_sem, cY, d1, d2, d3, d4, Int.toNat_natCast, g1, g2, hr, h1', z1, z3, z4]
  ·refine ⟨_, ?_, .inr ⟨by rw [decide_eq_false h1]; rfl, .rw (d7V (bW (rdN l) i)), rfl⟩⟩;have h1' : rdv l i ≥ 1024 := by omega
   rw [ac];simp only [d7V, lnV] at *;generalize (tab 7 fun j => V.int .i64 (bW (rdN l) i j)) = T at *;generalize (tab 7 fun j => V.int .i64 (bW (rdN l) 0 j)) = T0 at *;generalize l.getD i 0 = w0 at *;generalize rdv l i = x at *;simp only [go_sem, cY, d1, d2, d3, Int.toNat_natCast, g2, hr, h1', z1, z3, z4]
def jJ (l : List Int) : Bool := decide (l = a8 l) && sZ l 0 7
def am (l : List Int) (j : Nat) : Int := if jJ l = true then rdN l j else 0
theorem AT {l : List Int} (hl : l.length = 8) (s : St) : rf D jt [lnV l] s = some (.tup [d7V (am l), .bool (jJ l)], s) := by
 have hg := fun s => sJ hl s;have hfin : d7V (bW (rdN l) 7) = d7V (rdN l) := by
  unfold d7V; congr 1
 have hzero : d7V (bW (rdN l) 0) = d7V (fun _ => 0) := by
  unfold d7V; congr 1
 obtain ⟨r, q1, q2⟩ := sO hl s.loc s.hp 7 0 rfl;rw [show ((0 : Nat) : Int) = 0 from rfl] at q1
 rw [show d7V (am l) = if jJ l = true then d7V (rdN l) else d7V (fun _ => 0) by unfold d7V am; split <;> rfl]
 unfold jJ;by_cases c0 : l = a8 l
 ·rw [decide_eq_true c0] at hg ⊢;rw [Bool.true_and];rcases q2 with ⟨c, rfl⟩ | ⟨c, X, rfl⟩
  ·rw [c, if_pos rfl, ← hfin];rw [rU] at q1;simp only [lnV] at *;have hz : (d7V fun _ => (0 : Int)) = .agg 60 (List.replicate 7 (.int .i64 0)) := by unfold d7V; rw [fW]
   simp only [d7V] at *;rw [ae jq rfl];simp only [go_sem, hg, q1]
  ·rw [c, if_neg (by simp), ← hzero];rw [rU] at *;simp only [lnV] at *;rw [ae jq rfl];simp only [go_sem, hg, q1]
 ·rw [decide_eq_false c0] at hg ⊢;rw [Bool.false_and, if_neg (by simp), ← hzero, rU];simp only [lnV] at *;rw [ae jq rfl];simp only [go_sem, hg]
def rz (w : Int) : Ent := gh w.toNat
def rdl (l : List Int) (j : Nat) : Bool := pM (l.getD j 0).toNat
def tG (l : List Int) (i n : Nat) : Bool := (List.range n).all fun j => rdl l (i + j)
theorem EZ (l : List Int) (i n : Nat) : tG l i (n + 1) = (rdl l i && tG l (i + 1) n) := by
 have e : (fun j => rdl l (i + j)) ∘ Nat.succ = fun j => rdl l (i + 1 + j) := by
  funext j;show rdl l (i + (j + 1)) = _;rw [show i + (j + 1) = i + 1 + j by omega]
 unfold tG;rw [List.range_succ_eq_map, List.all_cons, List.all_map, e];rfl
def lvE (l : List Int) (i j : Nat) : Ent := if j < i then rz (l.getD j 0) else aw
def lvV (f : Nat → Ent) : V := .agg 94 (tab 7 fun j => (f j).v)
theorem IU {l : List Int} {i : Nat} : (tab 7 fun j => (lvE l i j).v).set i (rz (l.getD i 0)).v = tab 7 fun j => (lvE l (i + 1) j).v := by
 rw [eM];apply bM;intro j _;unfold upd lvE;by_cases e : j = i
 ·subst e; rw [if_pos rfl, if_pos (by omega)]
 ·rw [if_neg e];show Ent.v _ = Ent.v _;by_cases h : j < i
  ·rw [if_pos h, if_pos (by omega)]
  ·rw [if_neg h, if_neg (by omega)]
theorem rZ {l : List Int} : lvV (lvE l 0) = .agg 94 (List.replicate 7 (.agg 42 [.int .i64 0, .int .i64 0, .int .i64 0])) := by
 unfold lvV; rw [fW]; congr 1
theorem sS {l : List Int} (hl : l.length = 8) (hw : ∀ x ∈ l, 0 ≤ x ∧ x < 18446744073709551616) (L hp : List Blk) : ∀ (n i : Nat), i + n = 7 → ∃ r,
 rc D L.length (.loop [1, 2, 4, 10] cU) [(1, .ptr (.loc L.length) [] 24), (2, .ptr (.loc (L.length + 1)) [] 94), (4, .ptr (.loc (L.length + 2)) [] 94), (10, .int .i64 i)] ⟨L ++ [.rw (lnV l), .rw (lvV (lvE l 0)), .rw (lvV (lvE l i))], hp⟩ = some r ∧
 ((tG l i n = true ∧ r = (.exit 0, [(1, .ptr (.loc L.length) [] 24), (2, .ptr (.loc (L.length + 1)) [] 94), (4, .ptr (.loc (L.length + 2)) [] 94), (10, .int .i64 7), (11, .bool false)], ⟨L ++ [.rw (lnV l), .rw (lvV (lvE l 0)), .rw (lvV (lvE l 7))], hp⟩)) ∨
  (tG l i n = false ∧ ∃ X, r = (.ret, [(2, .ptr (.loc (L.length + 1)) [] 94), (3, .bool false)], ⟨L ++ [.rw (lnV l), .rw (lvV (lvE l 0)), X], hp⟩)))
 | 0, i, hi => by
  have : i = 7 := by omega
  subst this;refine ⟨_, ?_, .inl ⟨rfl, rfl⟩⟩;rw [ac];simp only [lvV, lnV];simp only [go_sem, cU]
 | n + 1, i, hi => by
  have d1 : (i : Int) < 7 := by omega
  have d2 : (0 : Int) ≤ i := by omega
  have d3 : (i : Int) < 8 := by omega
  have d4 : IntKind.i64.wrap ((i : Int) + 1) = ((i + 1 : Nat) : Int) := ai (by omega) (by omega);have g1 := aC (f := fun j => (lvE l i j).v) (show i < 7 by omega);have g2 : (l.map (V.int .u64))[i]? = some (.int .u64 (l.getD i 0)) := aG (by omega) 0;have hwi := hw (l.getD i 0) (by rw [List.getD_eq_getElem?_getD, List.getElem?_eq_getElem (by omega)]; exact List.getElem_mem _);have he := fun s => AE (w := (l.getD i 0).toNat) (by omega) s;rw [show (((l.getD i 0).toNat : Nat) : Int) = l.getD i 0 by omega] at he;have z1 : L.length < L.length + 3 := by omega
  have z3 : L.length + 1 < L.length + 3 := by omega
  have z4 : L.length + 2 < L.length + 3 := by omega
  have hs := IU (l := l) (i := i);rw [EZ];have hb : pM (l.getD i 0).toNat = rdl l i := rfl;rw [hb] at he;cases hc : rdl l i with
  | true =>
   obtain ⟨r, q1, q2⟩ := sS hl hw L hp n (i + 1) (by omega);refine ⟨r, ?_, by rw [Bool.true_and]; exact q2⟩;rw [hc, if_pos rfl, show gh (l.getD i 0).toNat = rz (l.getD i 0) from rfl] at he
   rw [← q1, ac];simp only [lvV, lnV] at *;rw [← hs];generalize hE : rz (l.getD i 0) = E at *;generalize hE0 : lvE l i i = E0 at *;obtain ⟨a1, a2, a3⟩ := E;obtain ⟨b1, b2, b3⟩ := E0;generalize (tab 7 fun j => (lvE l i j).v) = T at *;generalize (tab 7 fun j => (lvE l 0 j).v) = T0 at *;generalize l.getD i 0 = w0 at *;simp only [Ent.v] at *;simp only [go_sem, cU, d1, d2, d3, d4, Int.toNat_natCast, g1, g2, he, z1, z3, z4]
  | false =>
   rw [hc, if_neg (by simp)] at he;refine ⟨_, ?_, .inr ⟨by rw [Bool.false_and], .rw (.agg 94 ((tab 7 fun j => (lvE l i j).v).set i aw.v)), rfl⟩⟩;rw [ac];simp only [lvV, lnV] at *;generalize hE0 : lvE l i i = E0 at *;obtain ⟨b1, b2, b3⟩ := E0;generalize (tab 7 fun j => (lvE l i j).v) = T at *;generalize (tab 7 fun j => (lvE l 0 j).v) = T0 at *;generalize l.getD i 0 = w0 at *;simp only [Ent.v, aw] at *;simp only [go_sem, cU, d1, d2, d3, d4, Int.toNat_natCast, g1, g2, he, z1, z3, z4]
def jg (l : List Int) : Bool := decide (l = a8 l) && tG l 0 7
def iZ (l : List Int) (j : Nat) : Ent := if jg l = true then rz (l.getD j 0) else aw
theorem Bg {l : List Int} (hl : l.length = 8) (hw : ∀ x ∈ l, 0 ≤ x ∧ x < 18446744073709551616) (s : St) : rf D jv [lnV l] s = some (.tup [lvV (iZ l), .bool (jg l)], s) := by
 have hg := fun s => sJ hl s;have hfin : lvV (lvE l 7) = lvV (fun j => rz (l.getD j 0)) := by
  unfold lvV; congr 1
 have hzero : lvV (lvE l 0) = lvV (fun _ => aw) := by
  unfold lvV; congr 1
 obtain ⟨r, q1, q2⟩ := sS hl hw s.loc s.hp 7 0 rfl;rw [show ((0 : Nat) : Int) = 0 from rfl] at q1
 rw [show lvV (iZ l) = if jg l = true then lvV (fun j => rz (l.getD j 0)) else lvV (fun _ => aw) by unfold lvV iZ; split <;> rfl]
 unfold jg;by_cases c0 : l = a8 l
 ·rw [decide_eq_true c0] at hg ⊢;rw [Bool.true_and];rcases q2 with ⟨c, rfl⟩ | ⟨c, X, rfl⟩
  ·rw [c, if_pos rfl, ← hfin];rw [rZ] at q1;simp only [lnV] at *;have hz : lvV (fun _ => aw) = .agg 94 (List.replicate 7 (.agg 42 [.int .i64 0, .int .i64 0, .int .i64 0])) := by rw [← hzero, rZ]
   simp only [lvV] at *;rw [ae jr rfl];simp only [go_sem, hg, q1]
  ·rw [c, if_neg (by simp), ← hzero];rw [rZ] at *;simp only [lnV] at *;rw [ae jr rfl];simp only [go_sem, hg, q1]
 ·rw [decide_eq_false c0] at hg ⊢;rw [Bool.false_and, if_neg (by simp), ← hzero, rZ];simp only [lnV] at *;rw [ae jr rfl];simp only [go_sem, hg]
end Go.Proofs.YtilcajpldklbiaaDoor
namespace Go.Proofs.YtilcajpldklbiaaDoor
open Go.Ab
structure Sm (M M' : AM) (j : Nat) : Prop where
 L : M'.L j = M.L j
 S : M'.S j = M.S j
theorem Sm.refl (M : AM) (j : Nat) : Sm M M j := ⟨rfl, rfl⟩
theorem Sm.trans {M M' M'' : AM} {j : Nat} (h : Sm M M' j) (h' : Sm M' M'' j) : Sm M M'' j := ⟨h'.L.trans h.L, h'.S.trans h.S⟩
theorem Sm.now {M M' : AM} {j : Nat} (h : Sm M M' j) : M'.now j = M.now j := by unfold AM.now; rw [h.L, h.S]
def Sur (M : AM) (j : Nat) : Prop := M.L j = []
def Fl (M : AM) (j : Nat) : Prop := flN 0 (M.L j) = (M.L j).length
theorem Sur.fl {M : AM} {j : Nat} (h : Sur M j) : Fl M j := by unfold Fl; rw [h]; rfl
theorem Sur.now {M : AM} {j : Nat} (h : Sur M j) : M.now j = M.S j := by unfold AM.now; rw [h]; rfl
theorem Sm.sur {M M' : AM} {j : Nat} (h : Sm M M' j) (hs : Sur M j) : Sur M' j := h.L.trans hs
theorem Sm.fl {M M' : AM} {j : Nat} (h : Sm M M' j) (hs : Fl M j) : Fl M' j := by unfold Fl; rw [h.L]; exact hs
theorem u4 {M : AM} {j : Nat} : Sm M M.out j := ⟨rfl, rfl⟩
theorem kQ {M : AM} {i q v : Int} {j : Nat} (h : j ≠ i.toNat) : Sm M (M.store i q v).1 j := by
 unfold AM.store;split
 ·exact .refl _ _
 ·split
  ·exact u4
  ·exact ⟨by simp only [AM.push, AM.stepped]; exact an h, rfl⟩
theorem iJ {at' : Int} {l : List Int} {j : Nat} (h : j ≠ at'.toNat) : ∀ (n i : Nat) (M : AM), Sm M (M.layFrom at' l i n).1 j
 | 0, _, M => .refl M j
 | n + 1, i, M => by
  unfold AM.layFrom;split
  ·exact kQ h
  ·exact (kQ h).trans (iJ h n (i + 1) _)
theorem yu {M : AM} {c i : Int} {j : Nat} (h : j ≠ i.toNat) : Sm M (M.flush c i).1 j := by
 unfold AM.flush;split
 ·exact .refl _ _
 ·split
  ·exact u4
  ·exact ⟨by simp only [AM.flushed, AM.stepped]; exact an h, rfl⟩
theorem td {M : AM} {i n j : Nat} (h : j ≠ i) : Sm M (M.sureN i n) j := ⟨by simp only [AM.sureN]; exact an h, by simp only [AM.sureN]; exact an h⟩
theorem nU {M : AM} {c j : Nat} : ∀ i, i ≤ j → Sm M (M.fencedTo c i) j
 | 0, _ => .refl M j
 | i + 1, h => (nU i (by omega)).trans (td (by omega))
theorem kW {M : AM} {c j : Nat} : ∀ i, j < i → (M.fencedTo c i).L j = (M.L j).drop (flN c (M.L j)) ∧ (M.fencedTo c i).S j = ak (M.S j) ((M.L j).take (flN c (M.L j)))
 | 0, h => by omega
 | i + 1, h => by
  by_cases e : j = i
  ·subst e;have hs := nU (M := M) (c := c) (j := j) j (Nat.le_refl _);simp only [AM.fencedTo, AM.sureN, aj, hs.L, hs.S, and_self]
  ·have := kW (M := M) (c := c) i (show j < i by omega);have h2 := td (M := M.fencedTo c i) (n := flN c ((M.fencedTo c i).L i)) e;exact ⟨h2.L.trans this.1, h2.S.trans this.2⟩
theorem uQ {M : AM} {c i j : Nat} (h : Sur M j) : Sm M (M.fencedTo c i) j := by
 by_cases hj : j < i
 ·have := kW (M := M) (c := c) i hj;have e : M.L j = [] := h;rw [e] at this;exact ⟨by rw [e]; exact this.1, this.2⟩
 ·exact nU i (by omega)
theorem EV {M : AM} {i j : Nat} (h : Fl M j) (hj : j < i) : Sur (M.fencedTo 0 i) j := by
 have := (kW (M := M) (c := 0) i hj).1;rw [show flN 0 (M.L j) = (M.L j).length from h, List.drop_length] at this
 exact this
theorem tB {M : AM} {c : Int} {j : Nat} (h : Sur M j) : Sm M (M.fence c).1 j := by
 unfold AM.fence;split
 ·exact .refl _ _
 ·split
  ·exact u4
  ·have h2 : Sur M.stepped j := h;exact Sm.trans (M' := M.stepped) ⟨rfl, rfl⟩ (uQ h2)
theorem vc {M : AM} {i : Nat} : Fl (M.flushed 0 i) i := by
 unfold Fl AM.flushed;simp only [aj, uu, List.length_map]
structure Kp (x : AS) (j : Nat) : Prop where
 k : j < x.A.f ∨ (x.A.st j = 1 ∧ (x.sh j = true ∨ aF x.work j = false))
theorem DZ {x : AS} (h : x.A.Ok) {l : List Int} {j : Nat} (hj : j < x.A.f ∨ x.A.st j = 1) : Sm x.M (x.lay l).1.M j := by
 unfold AS.lay;split
 ·exact .refl _ _
 ·cases hf : x.A.first with
  | none =>
   rename_i hne;have ha : x.A.alloc = (x.A, 0, 10) := by unfold AF.alloc; rw [hf]
   rw [ha] at hne;simp at hne
  | some k =>
   obtain ⟨h1, h2, h3, _⟩ := iD h hf;have ha : x.A.alloc = (x.A.put k 1, (k : Int), 0) := by unfold AF.alloc; rw [hf]
   rw [ha];simp only;refine iJ ?_ 8 0 x.M;rw [Int.toNat_natCast];rintro rfl;rcases hj with hj | hj
   ·omega
   ·rw [h3] at hj; cases hj
theorem Kp.one {x : AS} {j : Nat} (h : Kp x j) : j < x.A.f ∨ x.A.st j = 1 := h.k.imp id fun h => h.1
theorem EL {x : AS} (h : Inv x) {id word v : Int} {j : Nat} (hj : Kp x j) : Sm x.M (x.set id word v).1.M j := by
 unfold AS.set;split
 ·exact .refl _ _
 ·rename_i hid;split
  ·exact .refl _ _
  ·rename_i hk;split
   ·rename_i ho;refine kQ (fun e => ?_);have hi : id.toNat < 49 := by omega
    obtain ⟨q, hq, h1, _, _⟩ := h.ln hi hk;rw [hq, Int.toNat_natCast] at e;unfold AS.own at ho;rw [hq, Int.toNat_natCast, ← e, Bool.not_eq_true'] at ho;rcases hj.k with hj | ⟨_, hj⟩
    ·omega
    ·rw [ho, aU.2 ⟨id.toNat, hi, hk, by rw [e]; exact hq⟩] at hj;rcases hj with hj | hj <;> cases hj
   ·split
    ·exact .refl _ _
    ·split
     ·exact .refl _ _
     ·simp only;split
      ·exact DZ h.ok.A hj.one
      ·exact DZ h.ok.A hj.one
theorem Stp.kp {x y : AS} (h : Stp x y) {j : Nat} (hj : Kp x j) : Kp y j := by
 have hsh := JD h.base h.mark h.is;rcases hj.k with hj | ⟨h1, h2⟩
 ·exact ⟨.inl (by rw [h.fl.1]; exact hj)⟩
 ·by_cases hs : x.sh j = true
  ·exact ⟨.inr ⟨h.sh j hs, .inl (by rw [hsh]; exact hs)⟩⟩
  ·obtain ⟨g1, g2⟩ := h.st j h1 (h2.resolve_left hs);exact ⟨.inr ⟨g1, .inr g2⟩⟩
end Go.Proofs.YtilcajpldklbiaaDoor
namespace Go.Proofs.YtilcajpldklbiaaDoor
open Go.Ab
def onc (n : Nat) (from' : Int) (ks : List Int) (line : Int) : Bool := decide (from' ≤ line) && (decide (0 ≤ line) && (decide (line < n) && !decide (line ∈ ks)))
theorem vQ {hp : List Blk} {F : Ft} {m : Nat} {M : AM} (h : ay hp F m M) {i : Nat} {ks : List Int} (hk : hp[i]? = some (.mp ks)) (fr line : Int) {L : List Blk} {p : Nat} (hp' : L[p]? = some (.rw (.agg 73 [.ptr (.hp m) [] 59, .int .i64 fr, .mp (some i)]))) :
 rf D gK [.ptr (.loc p) [] 73, .int .i64 line] ⟨L, hp⟩ = some (.bool (onc M.n fr ks line), ⟨L, if onc M.n fr ks line = true then hp.set i (.mp (ks ++ [line])) else hp⟩) := by
 have hl := kV h;unfold onc;rw [ae qv rfl];by_cases c1 : line < fr
 ·rw [decide_eq_false (show ¬ fr ≤ line by omega)];simp only [go_sem, hp', c1]
 ·rw [decide_eq_true (show fr ≤ line by omega)];by_cases c2 : line < 0
  ·rw [decide_eq_false (show ¬ 0 ≤ line by omega)];simp only [go_sem, hp', c1, c2]
  ·rw [decide_eq_true (show 0 ≤ line by omega)];by_cases c3 : line ≥ M.n
   ·rw [decide_eq_false (show ¬ line < (M.n : Int) by omega)];simp only [go_sem, hp', c1, c2, c3, hl]
   ·rw [decide_eq_true (show line < (M.n : Int) by omega)];by_cases c4 : line ∈ ks
    ·rw [decide_eq_true c4];simp only [go_sem, hp', c1, c2, c3, hl, hk, c4]
    ·rw [decide_eq_false c4];simp only [go_sem, hp', c1, c2, c3, hl, hk, c4]
end Go.Proofs.YtilcajpldklbiaaDoor
namespace Go.Proofs.YtilcajpldklbiaaDoor
open Go.Ab
theorem DC {f g : Nat → V} {k : Nat} (hk : k < 7) : (tab 49 f).take (7 * k) ++ (tab 7 g).take 7 ++ (tab 49 f).drop (7 * k + 7) = tab 49 fun j => if 7 * k ≤ j ∧ j < 7 * k + 7 then g (j - 7 * k) else f j := by
 have hl : ∀ (n : Nat) (h : Nat → V), (tab n h).length = n := fun n h => by simp [tab]
 apply List.ext_getElem?;intro j;by_cases h49 : j < 49
 ·rw [aC h49];by_cases h1 : j < 7 * k
  ·rw [List.append_assoc, List.getElem?_append_left (by rw [List.length_take, hl]; omega), List.getElem?_take, if_pos h1, aC h49, if_neg (by omega)]
  ·rw [List.append_assoc, List.getElem?_append_right (by rw [List.length_take, hl]; omega), List.length_take, hl, show min (7 * k) 49 = 7 * k by omega];by_cases h2 : j < 7 * k + 7
   ·rw [List.getElem?_append_left (by rw [List.length_take, hl]; omega), List.getElem?_take, if_pos (by omega), aC (by omega), if_pos (by omega)]
   ·rw [List.getElem?_append_right (by rw [List.length_take, hl]; omega), List.length_take, hl, List.getElem?_drop, show 7 * k + 7 + (j - 7 * k - min 7 7) = j by omega, aC h49, if_neg (by omega)]
 ·rw [List.getElem?_eq_none (by simp [hl]; omega), List.getElem?_eq_none (by rw [hl]; omega)]
theorem Cm {n : Nat} {f : Nat → Ent} : V.locLts 0 (tab n fun j => (f j).v) = true := by
 rw [dI];intro x hx;obtain ⟨j, _, rfl⟩ := List.mem_map.1 hx;rfl
theorem kJ {n : Nat} {f : Nat → Ent} : V.locLt n (af f) = true := by
 have := Cm (n := 49) (f := f);rw [dI] at this;simp only [af, V.locLt, Bool.or_eq_true];right;rw [dI];exact fun x hx => bf (Nat.zero_le _) (this x hx)
theorem ul {n : Nat} {f : Nat → Int} : V.locLt n (d7V f) = true := by
 simp only [d7V, V.locLt, Bool.or_eq_true];right;rw [dI];intro x hx;obtain ⟨j, _, rfl⟩ := List.mem_map.1 hx;rfl
theorem nu {n : Nat} {l : List Int} : V.locLt n (lnV l) = true := by
 simp only [lnV, V.locLt, Bool.or_eq_true];right;rw [dI];intro x hx;obtain ⟨j, _, rfl⟩ := List.mem_map.1 hx;rfl
theorem D6 {base : Nat} {L hp : List Blk} {a b : Nat} {f g : Nat → Ent} {k : Nat} (hk : k < 7) (ha : L[a]? = some (.rw (af f))) (hb : L[b]? = some (.rw (lvV g))) :
 dP base 42 (.sl (.loc a) [] (7 * k) (49 - 7 * k) (some (49 - 7 * k)) 42) (.sl (.loc b) [] 0 7 (some 7) 42) ⟨L, hp⟩ =
  some (.int .i64 7, ⟨L.set a (.rw (af fun j => if 7 * k ≤ j ∧ j < 7 * k + 7 then g (j - 7 * k) else f j)), hp⟩) := by
 have hl : ∀ (n : Nat) (h : Nat → V), (tab n h).length = n := fun n h => by simp [tab]
 have hs := DC (f := fun j => (f j).v) (g := fun j => (g j).v) hk;have he : (fun j => if 7 * k ≤ j ∧ j < 7 * k + 7 then (g (j - 7 * k)).v else (f j).v) = fun j => Ent.v (if 7 * k ≤ j ∧ j < 7 * k + 7 then g (j - 7 * k) else f j) := by
  funext j; split <;> rfl
 have hlt := Cm (n := 49) (f := fun j => if 7 * k ≤ j ∧ j < 7 * k + 7 then g (j - 7 * k) else f j)
 rw [he] at hs;have hy : St.elems ⟨L, hp⟩ (.sl (.loc b) [] 0 7 (some 7) 42) = some (tab 7 fun j => (g j).v) := by
  simp only [St.elems, St.read, St.at, hb, lvV, V.at, hl];rw [if_neg (by omega), if_pos (by omega), List.drop_zero, List.take_of_length_le (by rw [hl]; omega)]
 have hr : (⟨L, hp⟩ : St).read (.loc a) [] = some (af f) := by simp only [St.read, St.at, ha, V.at]
 have hm : min 7 (49 - 7 * k) = 7 := by omega
 unfold dP;simp only [V.slIs, V.elIs, beq_self_eq_true, Bool.and_self, if_true, hy, hl, hm, hr, af];rw [if_neg (show ¬ (7 : Nat) = 0 by decide), if_pos (show 7 * k + (49 - 7 * k) ≤ 49 by omega), hs];simp only [St.write, St.at, ha, af, cL, V.locLt, hlt, V.setAt, Bool.or_true, Bool.true_or, if_true];rfl
def ldT (M : AM) (l : List Int) (i : Nat) : Ent := iZ (M.now (am l (i / 7)).toNat) (i % 7)
def ldU (M : AM) (l : List Int) (k i : Nat) : Ent := if i < 7 * k then ldT M l i else aw
theorem Gg {M : AM} {l : List Int} {k : Nat} : (fun j => if 7 * k ≤ j ∧ j < 7 * k + 7 then iZ (M.now (am l k).toNat) (j - 7 * k) else ldU M l k j) = ldU M l (k + 1) := by
 funext j;unfold ldU;by_cases h : 7 * k ≤ j ∧ j < 7 * k + 7
 ·rw [if_pos h, if_pos (by omega)];unfold ldT;rw [show j / 7 = k by omega, show j % 7 = j - 7 * k by omega]
 ·rw [if_neg h];by_cases h2 : j < 7 * k
  ·rw [if_pos h2, if_pos (by omega)]
  ·rw [if_neg h2, if_neg (by omega)]
def pl (M : AM) (fr : Int) (l : List Int) : List Int → Nat → Nat → Bool
 | _, _, 0 => true
 | ks, k, n + 1 => onc M.n fr ks (am l k) && (jg (M.now (am l k).toNat) && pl M fr l (ks ++ [am l k]) (k + 1) n)
def kF (l : List Int) : List Int → Nat → Nat → List Int
 | ks, _, 0 => ks
 | ks, k, n + 1 => kF l (ks ++ [am l k]) (k + 1) n
def md (n' : Nat) (fr : Int) (t : Nat → Ent) : List Int → Nat → Nat → Bool
 | _, _, 0 => true
 | ks, i, n + 1 => if (t i).kind = 0 then md n' fr t ks (i + 1) n else onc n' fr ks (t i).line && md n' fr t (ks ++ [(t i).line]) (i + 1) n
theorem pr {hp : List Blk} {x y : Blk} : (hp ++ [x]).set hp.length y = hp ++ [y] := by
 rw [List.set_append_right _ _ (Nat.le_refl _), Nat.sub_self]; rfl
theorem ay.snoc {hp : List Blk} {F : Ft} {m : Nat} {M : AM} (h : ay hp F m M) (X : List Blk) : ay (hp ++ X) F m M :=
 h.eqv (fun j hj => List.getElem?_append_left (h.inn j hj)) (by simp)
def du (m : Nat) (fr : Int) (i : Nat) : V := .agg 73 [.ptr (.hp m) [] 59, .int .i64 fr, .mp (some i)]
theorem BK {hp : List Blk} {F : Ft} {m : Nat} {M : AM} (h : ay hp F m M) (hon : M.off = false) (fr : Int) {l : List Int} (hw : ∀ k, k < 7 → ∀ x ∈ M.now (am l k).toNat, 0 ≤ x ∧ x < 18446744073709551616) (L : List Blk) : ∀ (n k : Nat) (ks : List Int) (X : List Int), k + n = 7 → ∃ r,
 rc D L.length (.loop [0, 6, 7, 9, 10, 11, 13, 52, 53] dZ) [(0, .ptr (.hp m) [] 59), (6, .ptr (.loc L.length) [] 48), (7, .ptr (.loc (L.length + 1)) [] 60), (9, .ptr (.loc (L.length + 2)) [] 48), (10, .ptr (.loc (L.length + 3)) [] 73), (11, .ptr (.loc (L.length + 4)) [] 24), (13, .ptr (.loc (L.length + 5)) [] 60), (52, d7V (am l)), (53, .int .i64 k)]
  ⟨L ++ [.rw (af fun _ => aw), .rw (d7V fun _ => 0), .rw (af (ldU M l k)), .rw (du m fr hp.length), .rw (lnV X), .rw (d7V (am l))], hp ++ [.mp ks]⟩ = some r ∧
 ((pl M fr l ks k n = true ∧ ∃ X', r = (.exit 0, [(0, .ptr (.hp m) [] 59), (6, .ptr (.loc L.length) [] 48), (7, .ptr (.loc (L.length + 1)) [] 60), (9, .ptr (.loc (L.length + 2)) [] 48), (10, .ptr (.loc (L.length + 3)) [] 73), (11, .ptr (.loc (L.length + 4)) [] 24), (13, .ptr (.loc (L.length + 5)) [] 60), (52, d7V (am l)), (53, .int .i64 7), (54, .bool false)],
  ⟨L ++ [.rw (af fun _ => aw), .rw (d7V fun _ => 0), .rw (af (ldU M l 7)), .rw (du m fr hp.length), .rw (lnV X'), .rw (d7V (am l))], hp ++ [.mp (kF l ks k n)]⟩)) ∨
  (pl M fr l ks k n = false ∧ ∃ Y Z, r = (.ret, [(6, .ptr (.loc L.length) [] 48), (7, .ptr (.loc (L.length + 1)) [] 60), (8, .int .i64 21)], ⟨L ++ .rw (af fun _ => aw) :: .rw (d7V fun _ => 0) :: Y, hp ++ [Z]⟩)))
 | 0, k, ks, X, hk => by
  have : k = 7 := by omega
  subst this;refine ⟨_, ?_, .inl ⟨rfl, X, rfl⟩⟩;rw [ac];simp only [d7V];simp only [go_sem, dZ];rfl
 | n + 1, k, ks, X, hk => by
  have d1 : (k : Int) < 7 := by omega
  have d2 : (0 : Int) ≤ k := by omega
  have d4 : IntKind.i64.wrap ((k : Int) + 1) = ((k + 1 : Nat) : Int) := ai (by omega) (by omega);have d5 : IntKind.i64.wrap (7 * (k : Int)) = ((7 * k : Nat) : Int) := by rw [ai (by omega) (by omega)]; omega
  have d6 : ((7 * k : Nat) : Int) ≤ 49 := by omega
  have d7 : (0 : Int) ≤ ((7 * k : Nat) : Int) := by omega
  have g1 := aC (f := fun j => V.int .i64 (am l j)) (show k < 7 by omega);have h1 := h.snoc [.mp ks];have hlast : (hp ++ [Blk.mp ks])[hp.length]? = some (.mp ks) := by simp
  have hO := fun (L : List Blk) (p : Nat) hp' => vQ h1 hlast fr (am l k) (L := L) (p := p) hp';rw [pr] at hO;simp only [pl, kF];have lp : ∀ R : List Blk, (L ++ [.rw (af fun _ => aw), .rw (d7V fun _ => 0), .rw (af (ldU M l k)), .rw (du m fr hp.length), .rw (lnV X), .rw (d7V (am l))] ++ R)[L.length + 3]? = some (.rw (du m fr hp.length)) := fun R => by
   rw [List.append_assoc, List.getElem?_append_right (by omega), show L.length + 3 - L.length = 3 by omega]; rfl
  have hO1 := hO _ _ (lp []);rw [List.append_nil] at hO1;have zz : ¬ L.length + 1 = L.length := by omega
  have z0 : L.length < L.length + 6 := by omega
  have z1 : L.length + 1 < L.length + 6 := by omega
  have z2 : L.length + 2 < L.length + 6 := by omega
  have z3 : L.length + 3 < L.length + 6 := by omega
  have z4 : L.length + 4 < L.length + 6 := by omega
  have z5 : L.length + 5 < L.length + 6 := by omega
  cases c1 : onc M.n fr ks (am l k) with
  | false =>
   refine ⟨_, ?_, .inr ⟨by rw [Bool.false_and], [.rw (af (ldU M l k)), .rw (du m fr hp.length), .rw (lnV X), .rw (d7V (am l))], .mp ks, rfl⟩⟩;rw [c1] at hO1;simp only [Bool.false_eq_true, if_false] at hO1;rw [ac];generalize du m fr hp.length = V1 at *;generalize af (ldU M l k) = V2 at *;simp only [d7V] at *;generalize (tab 7 fun j => V.int .i64 (am l j)) = T at *;generalize am l k = line at *;simp only [af] at *;simp only [go_sem, dZ, d1, d2, Int.toNat_natCast, g1, hO1, zz, z0, z1, z2, z3, z4, z5]
  | true =>
   rw [c1] at hO1;simp only [if_true] at hO1;have hr : 0 ≤ am l k ∧ am l k < M.n := by
    unfold onc at c1;simp only [Bool.and_eq_true, decide_eq_true_eq] at c1;exact ⟨c1.2.1, c1.2.2.1⟩
   have hld : M.load (am l k) = (M.now (am l k).toNat, 0) := by
    unfold AM.load;rw [if_neg (by omega), if_neg (by simp [hon])]
   have hL := fun L => fg (h.snoc [.mp (ks ++ [am l k])]) (am l k) L;simp only [hld] at hL;have h8 := h.ok.now8 (show (am l k).toNat < M.n by omega);have hRL := fun s => Bg h8 (hw k (by omega)) s;cases c2 : jg (M.now (am l k).toNat) with
   | false =>
    refine ⟨_, ?_, .inr ⟨rfl, [.rw (af (ldU M l k)), .rw (du m fr hp.length), .rw (lnV (M.now (am l k).toNat)), .rw (d7V (am l)), .rw (lvV (iZ (M.now (am l k).toNat)))], .mp (ks ++ [am l k]), rfl⟩⟩;rw [c2] at hRL;rw [ac];generalize du m fr hp.length = V1 at *;generalize af (ldU M l k) = V2 at *;simp only [d7V, lnV] at *;generalize (tab 7 fun j => V.int .i64 (am l j)) = T at *;generalize M.now (am l k).toNat = ll at *;generalize am l k = line at *;simp only [af, lvV] at *;simp only [go_sem, dZ, d1, d2, Int.toNat_natCast, g1, hO1, hL, hRL, zz, z0, z1, z2, z3, z4, z5]
   | true =>
    obtain ⟨r, q1, q2⟩ := BK h hon fr hw L n (k + 1) (ks ++ [am l k]) (M.now (am l k).toNat) (by omega);refine ⟨r, ?_, by rw [Bool.true_and, Bool.true_and]; exact q2⟩;rw [c2] at hRL;have hcp := D6 (base := L.length) (hp := hp ++ [.mp (ks ++ [am l k])]) (f := ldU M l k) (g := iZ (M.now (am l k).toNat)) (k := k) (by omega) (a := L.length + 2) (b := L.length + 6)
     (L := L ++ [.rw (af fun _ => aw), .rw (d7V fun _ => 0), .rw (af (ldU M l k)), .rw (du m fr hp.length), .rw (lnV (M.now (am l k).toNat)), .rw (d7V (am l)), .rw (lvV (iZ (M.now (am l k).toNat)))])
     (by rw [List.getElem?_append_right (by omega), show L.length + 2 - L.length = 2 by omega]; rfl) (by rw [List.getElem?_append_right (by omega), show L.length + 6 - L.length = 6 by omega]; rfl)
    rw [Gg, List.set_append_right _ _ (by omega), show L.length + 2 - L.length = 2 by omega] at hcp;simp only [List.set_cons_succ, List.set_cons_zero] at hcp;have z6 : L.length + 6 < L.length + 7 := by omega
    have v1 : V.locLt (L.length + 6) (du m fr hp.length) = true := rfl;have v3 : V.locLt (L.length + 6) (af (ldU M l (k + 1))) = true := kJ;rw [← q1, ac];generalize du m fr hp.length = V1 at *;generalize af (ldU M l (k + 1)) = V3 at *;simp only [d7V, lnV] at *;generalize (tab 7 fun j => V.int .i64 (am l j)) = T at *;generalize M.now (am l k).toNat = ll at *;generalize am l k = line at *;generalize af (ldU M l k) = V2 at *;simp only [af, lvV] at *;simp only [go_sem, dZ, d1, d2, d4, d5, d6, d7, Int.toNat_natCast, g1, hO1, hL, hRL, hcp, zz, z0, z1, z2, z3, z4, z5, z6, v1, v3]
def yO (t : Nat → Ent) : List Int → Nat → Nat → List Int
 | ks, _, 0 => ks
 | ks, i, n + 1 => yO t (if (t i).kind = 0 then ks else ks ++ [(t i).line]) (i + 1) n
theorem vN {hp : List Blk} {F : Ft} {m : Nat} {M : AM} (h : ay hp F m M) (fr : Int) (t : Nat → Ent) (d : Nat → Int) (X : List Int) (L : List Blk) : ∀ (n i : Nat) (ks : List Int), i + n = 49 → ∃ r,
 rc D L.length (.loop [6, 7, 9, 10, 13, 84, 85] eg) [(6, .ptr (.loc L.length) [] 48), (7, .ptr (.loc (L.length + 1)) [] 60), (9, .ptr (.loc (L.length + 2)) [] 48), (10, .ptr (.loc (L.length + 3)) [] 73), (13, .ptr (.loc (L.length + 5)) [] 60), (84, af t), (85, .int .i64 i)]
  ⟨L ++ [.rw (af fun _ => aw), .rw (d7V fun _ => 0), .rw (af t), .rw (du m fr hp.length), .rw (lnV X), .rw (d7V d)], hp ++ [.mp ks]⟩ = some r ∧
 ((md M.n fr t ks i n = true ∧ r = (.exit 2, [(6, .ptr (.loc L.length) [] 48), (7, .ptr (.loc (L.length + 1)) [] 60), (9, .ptr (.loc (L.length + 2)) [] 48), (10, .ptr (.loc (L.length + 3)) [] 73), (13, .ptr (.loc (L.length + 5)) [] 60), (84, af t), (85, .int .i64 49), (86, .bool false)],
  ⟨L ++ [.rw (af fun _ => aw), .rw (d7V fun _ => 0), .rw (af t), .rw (du m fr hp.length), .rw (lnV X), .rw (d7V d)], hp ++ [.mp (yO t ks i n)]⟩)) ∨
  (md M.n fr t ks i n = false ∧ ∃ Y Z, r = (.ret, [(6, .ptr (.loc L.length) [] 48), (7, .ptr (.loc (L.length + 1)) [] 60), (8, .int .i64 21)], ⟨L ++ .rw (af fun _ => aw) :: .rw (d7V fun _ => 0) :: Y, hp ++ [Z]⟩)))
 | 0, i, ks, hi => by
  have : i = 49 := by omega
  subst this;refine ⟨_, ?_, .inl ⟨rfl, rfl⟩⟩;rw [ac];generalize af t = T at *;simp only [go_sem, eg];rfl
 | n + 1, i, ks, hi => by
  have d1 : (i : Int) < 49 := by omega
  have d2 : (0 : Int) ≤ i := by omega
  have d4 : IntKind.i64.wrap ((i : Int) + 1) = ((i + 1 : Nat) : Int) := ai (by omega) (by omega);have g1 := aC (f := fun j => (t j).v) (show i < 49 by omega);have h1 := h.snoc [.mp ks];have hlast : (hp ++ [Blk.mp ks])[hp.length]? = some (.mp ks) := by simp
  have hO := vQ h1 hlast fr (t i).line (L := L ++ [.rw (af fun _ => aw), .rw (d7V fun _ => 0), .rw (af t), .rw (du m fr hp.length), .rw (lnV X), .rw (d7V d), .rw (t i).v]) (p := L.length + 3)
   (by rw [List.getElem?_append_right (by omega), show L.length + 3 - L.length = 3 by omega]; rfl)
  rw [pr] at hO;have zz : ¬ L.length + 1 = L.length := by omega
  have z0 : L.length < L.length + 6 := by omega
  have z1 : L.length + 1 < L.length + 6 := by omega
  have z2 : L.length + 2 < L.length + 6 := by omega
  have z3 : L.length + 3 < L.length + 6 := by omega
  have z4 : L.length + 4 < L.length + 6 := by omega
  have z5 : L.length + 5 < L.length + 6 := by omega
  have v1 : V.locLt (L.length + 6) (du m fr hp.length) = true := rfl;have v3 : V.locLt (L.length + 6) (af t) = true := kJ;have v0 : V.locLt (L.length + 6) (af fun _ => aw) = true := kJ;have v4 := fun f => ul (n := L.length + 6) (f := f);have v5 := fun l => nu (n := L.length + 6) (l := l);simp only [md, yO];by_cases ck : (t i).kind = 0
  ·rw [if_pos ck, if_pos ck];obtain ⟨r, q1, q2⟩ := vN h fr t d X L n (i + 1) ks (by omega);refine ⟨r, ?_, q2⟩;rw [← q1, ac];clear q1 q2 hO;generalize du m fr hp.length = V1 at *;generalize (af fun _ => aw) = V0 at *;simp only [af] at *;generalize (tab 49 fun j => (t j).v) = T at *;generalize t i = E at *;obtain ⟨a1, a2, a3⟩ := E;simp only [Ent.v] at *;subst ck;simp only [go_sem, eg, d1, d2, d4, Int.toNat_natCast, g1, zz, z0, z1, z2, z3, z4, z5, v0, v1, v3, v4, v5]
  ·rw [if_neg ck, if_neg ck];cases c1 : onc M.n fr ks (t i).line with
   | false =>
    refine ⟨_, ?_, .inr ⟨rfl, [.rw (af t), .rw (du m fr hp.length), .rw (lnV X), .rw (d7V d), .rw (t i).v], .mp ks, rfl⟩⟩;rw [c1] at hO;simp only [Bool.false_eq_true, if_false] at hO;rw [ac];generalize du m fr hp.length = V1 at *;simp only [af] at *;generalize (tab 49 fun j => (t j).v) = T at *;generalize t i = E at *;obtain ⟨a1, a2, a3⟩ := E;simp only [Ent.v, d7V] at *;simp only [go_sem, eg, d1, d2, d4, Int.toNat_natCast, g1, ck, hO, zz, z0, z1, z2, z3, z4, z5, v1]
   | true =>
    obtain ⟨r, q1, q2⟩ := vN h fr t d X L n (i + 1) (ks ++ [(t i).line]) (by omega);refine ⟨r, ?_, by rw [Bool.true_and]; exact q2⟩;rw [c1] at hO;simp only [if_true] at hO;rw [← q1, ac];clear q1 q2;generalize du m fr hp.length = V1 at *;generalize (af fun _ => aw) = V0 at *;simp only [af] at *;generalize (tab 49 fun j => (t j).v) = T at *;generalize t i = E at *;obtain ⟨a1, a2, a3⟩ := E;simp only [Ent.v] at *;simp only [go_sem, eg, d1, d2, d4, Int.toNat_natCast, g1, ck, hO, zz, z0, z1, z2, z3, z4, z5, v0, v1, v3, v4, v5]
end Go.Proofs.YtilcajpldklbiaaDoor
namespace Go.Proofs.YtilcajpldklbiaaDoor
open Go.Ab
theorem Id {hp : List Blk} {F : Ft} {m : Nat} {M : AM} (h : ay hp F m M) (L : List Blk) : rf D jW [.ptr (.hp m) [] 59] ⟨L, hp⟩ = some (.bool (!M.off), ⟨L, hp⟩) := by
 obtain ⟨k, fk, ne, ⟨cp, left, h1, h2, h3⟩, sv, ow, h4, h5⟩ := h.mb;simp only [bw] at h1;rw [ae uY rfl];simp only [go_sem, h1]
def tE (M : AM) (fr root : Int) : Bool := onc M.n fr [] root && (jJ (M.now root.toNat) && (pl M fr (M.now root.toNat) [root] 0 7 && md M.n fr (ldT M (M.now root.toNat)) (kF (M.now root.toNat) [root] 0 7) 0 49))
theorem xA {hp : List Blk} {F : Ft} {m : Nat} {M : AM} (h : ay hp F m M) (fr root : Int) (hw : M.off = false → onc M.n fr [] root = true → ∀ k, k < 7 → ∀ x ∈ M.now (am (M.now root.toNat) k).toNat, 0 ≤ x ∧ x < 18446744073709551616) (L : List Blk) : ∃ X,
 rf D mU [.ptr (.hp m) [] 59, .int .i64 fr, .int .i64 root] ⟨L, hp⟩ =
  some (if M.off = true then .tup [af fun _ => aw, d7V fun _ => 0, .int .i64 4] else if tE M fr root = true then .tup [af (ldT M (M.now root.toNat)), d7V (am (M.now root.toNat)), .int .i64 0] else .tup [af fun _ => aw, d7V fun _ => 0, .int .i64 21], ⟨L, hp ++ X⟩) := by
 have hon := Id h;have hz : (af fun _ => aw) = .agg 48 (List.replicate 49 (.agg 42 [.int .i64 0, .int .i64 0, .int .i64 0])) := by unfold af; rw [fW]; rfl
 have hz7 : (d7V fun _ => (0 : Int)) = .agg 60 (List.replicate 7 (.int .i64 0)) := by unfold d7V; rw [fW]
 have hzl : List.replicate 8 (V.int .u64 0) = zl.map (V.int .u64) := rfl;have zz : ¬ L.length + 1 = L.length := by omega
 have zy : ¬ L.length + 5 = L.length := by omega
 cases ho : M.off with
 | true =>
  refine ⟨[], ?_⟩;rw [ho] at hon;rw [if_pos rfl, List.append_nil, hz, hz7, ae fV rfl];simp only [go_sem, hon, zz]
 | false =>
  rw [ho] at hon;rw [if_neg (by simp)];have hlast : ∀ X, (hp ++ [Blk.mp X])[hp.length]? = some (.mp X) := fun X => by simp
  have hO := vQ (h.snoc [.mp []]) (hlast []) fr root (L := L ++ [.rw (af fun _ => aw), .rw (d7V fun _ => 0), .rw (af fun _ => aw), .rw (du m fr hp.length)]) (p := L.length + 3)
   (by rw [List.getElem?_append_right (by omega), show L.length + 3 - L.length = 3 by omega]; rfl)
  rw [pr, List.nil_append] at hO;unfold tE;cases c1 : onc M.n fr [] root with
  | false =>
   refine ⟨[.mp []], ?_⟩;rw [c1] at hO;simp only [Bool.false_eq_true, if_false] at hO;rw [Bool.false_and, if_neg (by simp)];simp only [du] at hO;rw [hz, hz7] at *;rw [ae fV rfl];simp only [go_sem, hon, hO, zz]
  | true =>
   rw [c1] at hO;simp only [if_true] at hO;have hr : 0 ≤ root ∧ root < M.n := by
    unfold onc at c1;simp only [Bool.and_eq_true, decide_eq_true_eq] at c1;exact ⟨c1.2.1, c1.2.2.1⟩
   have hld : M.load root = (M.now root.toNat, 0) := by
    unfold AM.load;rw [if_neg (by omega), if_neg (by simp [ho])]
   have hL := fun L => fg (h.snoc [.mp [root]]) root L;simp only [hld] at hL;have h8 := h.ok.now8 (show root.toNat < M.n by omega);have hRR := fun s => AT h8 s;replace hw := hw ho c1;generalize M.now root.toNat = l at *;cases c2 : jJ l with
   | false =>
    refine ⟨[.mp [root]], ?_⟩;rw [c2] at hRR;rw [Bool.false_and, Bool.and_false, if_neg (by simp)];simp only [du, lnV, hz, hz7] at *;simp only [d7V] at hRR;rw [ae fV rfl];simp only [go_sem, hon, hO, hL, hRR, zz]
   | true =>
    rw [c2] at hRR;obtain ⟨r, q1, q2⟩ := BK h ho fr hw L 7 0 [root] l rfl;have hU0 : af (ldU M l 0) = af fun _ => aw := rfl;have hU7 : af (ldU M l 7) = af (ldT M l) := by
     have : (tab 49 fun i => (ldU M l 7 i).v) = tab 49 fun i => (ldT M l i).v := bM fun j hj => by
      unfold ldU;rw [if_pos (by omega)]
     unfold af;rw [this]
    rw [hU0, show ((0 : Nat) : Int) = 0 from rfl] at q1
    rcases q2 with ⟨c3, X', rfl⟩ | ⟨c3, Y, Z, rfl⟩
    ·rw [hU7] at q1;obtain ⟨r2, p1, p2⟩ := vN h fr (ldT M l) (am l) X' L 49 0 (kF l [root] 0 7) rfl;rw [show ((0 : Nat) : Int) = 0 from rfl] at p1
     rcases p2 with ⟨c4, rfl⟩ | ⟨c4, Y, Z, rfl⟩
     ·refine ⟨[.mp (yO (ldT M l) (kF l [root] 0 7) 0 49)], ?_⟩;rw [c3, c4, if_pos (show (true && (true && (true && true))) = true from rfl)]
      generalize kF l [root] 0 7 = K at *;generalize yO (ldT M l) K 0 49 = K2 at *;generalize ldT M l = t at *;generalize am l = d at *;have t1 : (d7V d).tag = 60 := rfl;have t2 : (af t).tag = 48 := rfl;have t3 : (d7V d).ok = true := rfl;have t4 : (af t).ok = true := rfl;have t5 : V.locLt L.length (d7V d) = true := ul;have t6 : V.locLt L.length (af t) = true := kJ;generalize hT : af t = T at *;generalize hDd : d7V d = Dd at *;simp only [du, lnV, hz, hz7] at *;rw [ae fV rfl];simp only [go_sem, hon, hO, hL, hRR, zz, zy, q1, p1, t1, t2, t3, t4, t5, t6]
     ·refine ⟨[Z], ?_⟩;rw [c3, c4, if_neg (show ¬ (true && (true && (true && false))) = true by simp)];generalize kF l [root] 0 7 = K at *;generalize ldT M l = t at *;generalize am l = d at *;have e0 : (L ++ Blk.rw (af fun _ => aw) :: Blk.rw (d7V fun _ => 0) :: Y)[L.length]? = some (.rw (af fun _ => aw)) := by
       rw [List.getElem?_append_right (Nat.le_refl _), Nat.sub_self]; rfl
      have e1 : (L ++ Blk.rw (af fun _ => aw) :: Blk.rw (d7V fun _ => 0) :: Y)[L.length + 1]? = some (.rw (d7V fun _ => 0)) := by
       rw [List.getElem?_append_right (by omega), show L.length + 1 - L.length = 1 by omega]; rfl
      have e2 : (L ++ Blk.rw (af fun _ => aw) :: Blk.rw (d7V fun _ => 0) :: Y).take L.length = L := by
       rw [List.take_left']; rfl
      have e3 : L.length ≤ (L ++ Blk.rw (af fun _ => aw) :: Blk.rw (d7V fun _ => 0) :: Y).length := by rw [List.length_append]; omega
      generalize (L ++ Blk.rw (af fun _ => aw) :: Blk.rw (d7V fun _ => 0) :: Y) = LL at *;simp only [du, lnV, hz, hz7] at *;have t1 : (d7V d).tag = 60 := rfl;have t2 : (af t).tag = 48 := rfl;generalize hT : af t = T at *;generalize hDd : d7V d = Dd at *;rw [ae fV rfl];simp only [go_sem, hon, hO, hL, hRR, zz, q1, p1, e0, e1, e2, e3, t1, t2]
    ·refine ⟨[Z], ?_⟩;rw [c3, if_neg (show ¬ (true && (true && (false && md M.n fr (ldT M l) (kF l [root] 0 7) 0 49))) = true by simp)];generalize am l = d at *;have e0 : (L ++ Blk.rw (af fun _ => aw) :: Blk.rw (d7V fun _ => 0) :: Y)[L.length]? = some (.rw (af fun _ => aw)) := by
      rw [List.getElem?_append_right (Nat.le_refl _), Nat.sub_self]; rfl
     have e1 : (L ++ Blk.rw (af fun _ => aw) :: Blk.rw (d7V fun _ => 0) :: Y)[L.length + 1]? = some (.rw (d7V fun _ => 0)) := by
      rw [List.getElem?_append_right (by omega), show L.length + 1 - L.length = 1 by omega]; rfl
     have e2 : (L ++ Blk.rw (af fun _ => aw) :: Blk.rw (d7V fun _ => 0) :: Y).take L.length = L := by
      rw [List.take_left']; rfl
     have e3 : L.length ≤ (L ++ Blk.rw (af fun _ => aw) :: Blk.rw (d7V fun _ => 0) :: Y).length := by rw [List.length_append]; omega
     generalize (L ++ Blk.rw (af fun _ => aw) :: Blk.rw (d7V fun _ => 0) :: Y) = LL at *;simp only [du, lnV, hz, hz7] at *;have t1 : (d7V d).tag = 60 := rfl;generalize hDd : d7V d = Dd at *;rw [ae fV rfl];simp only [go_sem, hon, hO, hL, hRR, zz, q1, e0, e1, e2, e3, t1]
end Go.Proofs.YtilcajpldklbiaaDoor
namespace Go.Proofs.YtilcajpldklbiaaDoor
open Go.Ab
def cX : Sup := ⟨0, 0, 0, 0⟩
def cJ (l : List Int) : Sup := ⟨IntKind.i64.wrap (l.getD 1 0), IntKind.i64.wrap (l.getD 2 0), IntKind.i64.wrap (l.getD 3 0), IntKind.i64.wrap (l.getD 4 0)⟩
def dh (l : List Int) : Bool := (cJ l).ok && decide (aQ (cJ l) = l)
theorem xH {l : List Int} (hl : l.length = 8) (s : St) : rf D mO [lnV l] s = some (.tup [(if dh l = true then cJ l else cX).v, .bool (dh l)], s) := by
 have hL := fun s => qb (cJ l) s;have g1 : (l.map (V.int .u64))[1]? = some (.int .u64 (l.getD 1 0)) := aG (by omega) 0;have g2 : (l.map (V.int .u64))[2]? = some (.int .u64 (l.getD 2 0)) := aG (by omega) 0;have g3 : (l.map (V.int .u64))[3]? = some (.int .u64 (l.getD 3 0)) := aG (by omega) 0;have g4 : (l.map (V.int .u64))[4]? = some (.int .u64 (l.getD 4 0)) := aG (by omega) 0;have he := yA (a := aQ (cJ l)) (b := l) (by rw [pn, hl]);unfold dh;unfold cJ at *;generalize hs : (⟨IntKind.i64.wrap (l.getD 1 0), IntKind.i64.wrap (l.getD 2 0), IntKind.i64.wrap (l.getD 3 0), IntKind.i64.wrap (l.getD 4 0)⟩ : Sup) = b at *;have hv : b.v = .agg 44 [.int .i64 (IntKind.i64.wrap (l.getD 1 0)), .int .i64 (IntKind.i64.wrap (l.getD 2 0)), .int .i64 (IntKind.i64.wrap (l.getD 3 0)), .int .i64 (IntKind.i64.wrap (l.getD 4 0))] := by rw [← hs]; rfl
 have hz : cX.v = .agg 44 [.int .i64 0, .int .i64 0, .int .i64 0, .int .i64 0] := rfl;rw [hv] at hL;cases hb : b.ok with
 | false =>
  rw [hb] at hL;rw [Bool.false_and, if_neg (by simp), hz];simp only [Bool.false_eq_true, if_false, lnV] at *;generalize aQ b = z at *;rw [ae mR rfl];simp only [go_sem, g1, g2, g3, g4, hL]
 | true =>
  rw [hb] at hL;rw [Bool.true_and];simp only [if_true, lnV] at *;generalize aQ b = z at *;by_cases hz2 : z = l
  ·rw [decide_eq_true hz2] at he ⊢;rw [if_pos rfl, hv];rw [ae mR rfl];simp only [go_sem, g1, g2, g3, g4, hL, he]
  ·rw [decide_eq_false hz2] at he ⊢;rw [if_neg (by simp), hz];rw [ae mR rfl];simp only [go_sem, g1, g2, g3, g4, hL, he]
def bst (x : List Int) (i : Int) (s : Sup × Int × Bool) : Sup × Int × Bool := if dh x = true ∧ (s.2.2 = false ∨ s.1.gen < (cJ x).gen) then (cJ x, i, true) else s
def bl (a b : List Int) : Sup × Int × Bool := bst b 1 (bst a 0 (cX, 0, false))
theorem uk {a b x : List Int} {i : Nat} (hi : i < 2) (hx : x.length = 8) (hg : [lnV a, lnV b][i]? = some (lnV x)) (L hp : List Blk) (z : Sup × Int × Bool) :
 rc D L.length (.loop [4, 5, 6, 13, 14] bS) [(4, .ptr (.loc (L.length + 2)) [] 44), (5, .int .i64 z.2.1), (6, .bool z.2.2), (13, .agg 110 [lnV a, lnV b]), (14, .int .i64 i)] ⟨L ++ [.rw (lnV a), .rw (lnV b), .rw z.1.v], hp⟩ =
 rc D L.length (.loop [4, 5, 6, 13, 14] bS) [(4, .ptr (.loc (L.length + 2)) [] 44), (5, .int .i64 (bst x i z).2.1), (6, .bool (bst x i z).2.2), (13, .agg 110 [lnV a, lnV b]), (14, .int .i64 (i + 1 : Nat))] ⟨L ++ [.rw (lnV a), .rw (lnV b), .rw (bst x i z).1.v], hp⟩ := by
 have hR := fun s => xH hx s;obtain ⟨⟨g, r, q, c⟩, sl, ok⟩ := z;have d1 : (i : Int) < 2 := by omega
 have d2 : (0 : Int) ≤ i := by omega
 have d4 : IntKind.i64.wrap ((i : Int) + 1) = ((i + 1 : Nat) : Int) := ai (by omega) (by omega);have z0 : L.length < L.length + 3 := by omega
 have z1 : L.length + 1 < L.length + 3 := by omega
 have z2 : L.length + 2 < L.length + 3 := by omega
 have va : V.locLt (L.length + 3) (lnV a) = true := nu;have vb : V.locLt (L.length + 3) (lnV b) = true := nu;have hz : cX.v = .agg 44 [.int .i64 0, .int .i64 0, .int .i64 0, .int .i64 0] := rfl;have tx : (lnV x).tag = 24 := rfl
 conv => lhs; rw [ac]
 unfold bst;simp only;cases hs : dh x with
 | false =>
  rw [hs] at hR;simp only [Bool.false_eq_true, if_false, false_and, Sup.v, cX] at hR ⊢;generalize lnV x = X at *;generalize lnV a = A at *;generalize lnV b = B at *;simp only [go_sem, bS, d1, d2, d4, Int.toNat_natCast, hg, tx, hR, va, vb, z0, z1, z2]
 | true =>
  rw [hs] at hR;generalize cJ x = y at *;obtain ⟨g1, r1, q1, c1⟩ := y;simp only [if_true, true_and, Sup.v] at hR ⊢;generalize lnV x = X at *;generalize lnV a = A at *;generalize lnV b = B at *;cases ok with
  | false =>
   simp only [true_or, if_true];simp only [go_sem, bS, d1, d2, d4, Int.toNat_natCast, hg, tx, hR, va, vb, z0, z1, z2]
  | true =>
   by_cases hgt : g < g1
   ·have hgt' : g1 > g := hgt;simp only [hgt, or_true, if_true];simp only [go_sem, bS, d1, d2, d4, Int.toNat_natCast, hg, tx, hR, va, vb, z0, z1, z2, hgt, hgt']
   ·have hgt' : ¬ g1 > g := hgt;simp only [hgt, or_false, Bool.true_eq_false, if_false];simp only [go_sem, bS, d1, d2, d4, Int.toNat_natCast, hg, tx, hR, va, vb, z0, z1, z2, hgt, hgt']
theorem xB {a b : List Int} (ha : a.length = 8) (hb : b.length = 8) (s : St) : rf D ns [lnV a, lnV b] s = some (.tup [(bl a b).1.v, .int .i64 (bl a b).2.1, .bool (bl a b).2.2], s) := by
 have r0 := uk (a := a) (b := b) (i := 0) (by decide) ha rfl s.loc s.hp (cX, 0, false);have r1 := uk (a := a) (b := b) (i := 1) (by decide) hb rfl s.loc s.hp (bst a 0 (cX, 0, false));have e : bst b 1 (bst a 0 (cX, 0, false)) = bl a b := rfl;simp only [Int.natCast_zero, Int.natCast_one] at r0 r1;rw [show ((0 + 1 : Nat) : Int) = 1 from rfl] at r0
 rw [show ((1 + 1 : Nat) : Int) = 2 from rfl] at r1
 rw [r1, e] at r0;generalize bl a b = z at *;obtain ⟨⟨g, r, q, c⟩, sl, ok⟩ := z;have z2 : s.loc.length + 2 < s.loc.length + 3 := by omega
 have ta : (lnV a).tag = 24 := rfl;have tb : (lnV b).tag = 24 := rfl;have oa : (lnV a).ok = true := rfl;have ob : (lnV b).ok = true := rfl;have hlast : rc D s.loc.length (.loop [4, 5, 6, 13, 14] bS) [(4, .ptr (.loc (s.loc.length + 2)) [] 44), (5, .int .i64 sl), (6, .bool ok), (13, .agg 110 [lnV a, lnV b]), (14, .int .i64 2)] ⟨s.loc ++ [.rw (lnV a), .rw (lnV b), .rw (Sup.v ⟨g, r, q, c⟩)], s.hp⟩ =
  some (.exit 0, [(4, .ptr (.loc (s.loc.length + 2)) [] 44), (5, .int .i64 sl), (6, .bool ok), (13, .agg 110 [lnV a, lnV b]), (14, .int .i64 2), (15, .bool false)], ⟨s.loc ++ [.rw (lnV a), .rw (lnV b), .rw (Sup.v ⟨g, r, q, c⟩)], s.hp⟩) := by
  rw [ac];generalize lnV a = A at *;generalize lnV b = B at *;simp only [go_sem, bS]
 rw [hlast] at r0;simp only [cX, Sup.v] at *;generalize lnV a = A at *;generalize lnV b = B at *;rw [ae yx rfl];have hrep : List.replicate 2 (V.agg 24 (List.replicate 8 (V.int .u64 0))) = [.agg 24 (List.replicate 8 (.int .u64 0)), .agg 24 (List.replicate 8 (.int .u64 0))] := rfl;simp only [go_sem, r0, ta, tb, oa, ob];simp only [hrep, List.set_cons_zero, List.set_cons_succ, List.getElem?_cons_zero, List.getElem?_cons_succ, V.tag, beq_self_eq_true, if_true];simp only [go_sem, r0]
theorem xG {hp : List Blk} {F : Ft} {m : Nat} {M : AM} (h : ay hp F m M) (L : List Blk) : rf D mT [.ptr (.hp m) [] 59] ⟨L, hp⟩ =
 some (if M.off = true then .tup [cX.v, .int .i64 0, .int .i64 4] else if (bl (M.now 0) (M.now 1)).2.2 = true then .tup [(bl (M.now 0) (M.now 1)).1.v, .int .i64 (bl (M.now 0) (M.now 1)).2.1, .int .i64 0] else .tup [cX.v, .int .i64 0, .int .i64 20], ⟨L, hp⟩) := by
 have hL0 := fun L => fg h 0 L;have hL1 := fun L => fg h 1 L;have hn := h.ok.n0;have hz : cX.v = .agg 44 [.int .i64 0, .int .i64 0, .int .i64 0, .int .i64 0] := rfl;have hzl : lnV zl = .agg 24 (List.replicate 8 (.int .u64 0)) := rfl;unfold AM.load at hL0 hL1;rw [if_neg (by omega)] at hL0 hL1;cases ho : M.off with
 | true =>
  rw [ho] at hL0;simp only [if_true, hzl] at hL0;rw [if_pos rfl, hz, ae mE rfl];simp only [go_sem, hL0]
 | false =>
  rw [ho] at hL0 hL1;simp only [Bool.false_eq_true, if_false] at hL0 hL1;rw [if_neg (by simp)];have e0 : (0 : Int).toNat = 0 := rfl;have e1 : (1 : Int).toNat = 1 := rfl;rw [e0] at hL0;rw [e1] at hL1;have hB := fun s => xB (h.ok.now8 (show 0 < M.n by omega)) (h.ok.now8 (show 1 < M.n by omega)) s;have ta : (lnV (M.now 0)).tag = 24 := rfl;have tb : (lnV (M.now 1)).tag = 24 := rfl;generalize bl (M.now 0) (M.now 1) = z at *;generalize lnV (M.now 0) = A at *;generalize lnV (M.now 1) = B at *;obtain ⟨⟨g, r, q, c⟩, sl, ok⟩ := z;rw [hz];simp only [Sup.v] at *;cases ok with
  | true =>
   rw [if_pos rfl, ae mE rfl];simp only [go_sem, hL0, hL1, hB, ta, tb]
  | false =>
   rw [if_neg (by simp), ae mE rfl];simp only [go_sem, hL0, hL1, hB, ta, tb]
end Go.Proofs.YtilcajpldklbiaaDoor
namespace Go.Proofs.YtilcajpldklbiaaDoor
open Go.Ab
def nxK : List Int → Int × List Int
 | [] => (0, [])
 | k :: r => (if k < 0 then -(k + 1) else k, r)
inductive gk (hp : List Blk) (F : Ft) : V → List Int → Prop where
 | nil : gk hp F .nils []
 | sl (a o c r : Nat) (all : List V) (ks : List Int) (hc : ks.length ≤ c) (hb : ks = [] ∨ (hp[a]? = some (.ro (.agg r all)) ∧ ¬ F a)) (ho : o + ks.length ≤ all.length) (hk : ∀ j, j < ks.length → all[o + j]? = some (.int .i64 (ks.getD j 0))) :
  gk hp F (.sl (.hp a) [] o ks.length (some c) 10) ks
theorem gk.chg {hp hp' : List Blk} {F F' : Ft} {v : V} {ks : List Int} (h : gk hp F v ks) (hc : Chg hp hp' F F') : gk hp' F' v ks := by
 cases h with
 | nil => exact .nil
 | sl a o c r all ks hl hb ho hk =>
  refine .sl a o c r all ks hl (hb.imp id fun ⟨h1, h2⟩ => ⟨hc.get h1 h2, fun h3 => ?_⟩) ho hk;rcases hc.new a h3 with h4 | h4
  ·exact h2 h4
  ·have := ap h1; omega
theorem gk.lt {hp : List Blk} {F : Ft} {v : V} {ks : List Int} (h : gk hp F v ks) : V.locLt 0 v = true := by cases h <;> rfl
theorem gk.tag {hp : List Blk} {F : Ft} {v : V} {ks : List Int} (h : gk hp F v ks) : v.tag = 1 := by cases h <;> rfl
theorem JY {L hp : List Blk} {p : Nat} {F : Ft} {v : V} {ks : List Int} (h : gk hp F v ks) (hr : ∀ k ∈ ks, -9223372036854775808 ≤ k ∧ k ≤ 9223372036854775807) (hp' : L[p]? = some (.rw v)) :
 ∃ v', rf D cm [.ptr (.loc p) [] 1] ⟨L, hp⟩ = some (.int .i64 (nxK ks).1, ⟨L.set p (.rw v'), hp⟩) ∧ gk hp F v' (nxK ks).2 := by
 cases h with
 | nil =>
  refine ⟨.nils, ?_, .nil⟩;rw [ft hp', ae gu rfl];simp only [nxK];simp only [go_sem, hp']
 | sl a o c r all ks hc hb ho hk =>
  cases ks with
  | nil =>
   refine ⟨_, ?_, .sl a o c r all [] hc hb ho hk⟩;rw [ft hp', ae gu rfl];simp only [nxK, List.length_nil] at *;simp only [go_sem, hp']
  | cons k ks =>
   obtain ⟨hb', hna⟩ := hb.resolve_left (by simp);simp only [List.length_cons] at *;have g0 := hk 0 (by omega);rw [Nat.add_zero, List.getD_cons_zero] at g0;have hkr := hr k List.mem_cons_self;have d0 : ¬ ((ks.length + 1 : Nat) : Int) = 0 := by omega
   have d1 : (0 : Int) < ((ks.length + 1 : Nat) : Int) := by omega
   have d2 : (1 : Int) ≤ ((ks.length + 1 : Nat) : Int) := by omega
   have d3 : ((ks.length + 1 : Nat) : Int) ≤ ((c : Nat) : Int) := by omega
   have hlt := ap hp';have hsad : np 10 (.sl (.hp a) [] o (ks.length + 1) (some c) 10) (.int .i64 0) = some (.ptr (.hp a) [o] 10) := by
    simp [go_sem]
   have hslc : eJ 10 (some (.int .i64 1)) none none (.sl (.hp a) [] o (ks.length + 1) (some c) 10) = some (.sl (.hp a) [] (o + 1) ks.length (some (c - 1)) 10) := by
    simp only [eJ, if_true, ah, aM, gj, Option.isSome_none, Bool.false_eq_true, if_false];rw [if_pos ⟨by omega, by omega⟩];simp [aM, kT]
   refine ⟨.sl (.hp a) [] (o + 1) ks.length (some (c - 1)) 10, ?_, .sl a (o + 1) (c - 1) r all ks (by omega) (.inr ⟨hb', hna⟩) (by omega) fun j hj => ?_⟩
   ·rw [ae gu rfl];simp only [nxK];by_cases hk0 : k < 0
    ·have w1 : IntKind.i64.wrap (k + 1) = k + 1 := ai (by omega) (by omega);have w2 : IntKind.i64.wrap (0 - (k + 1)) = -(k + 1) := by rw [ai (by omega) (by omega)]; omega
     rw [if_pos hk0];simp only [go_sem, hp', d0, hsad, hb', g0, hslc, hk0, w1, w2, hlt];rw [if_pos (by rw [List.length_set]; exact Nat.le_refl _), List.take_of_length_le (by rw [List.length_set]; exact Nat.le_refl _)]
    ·rw [if_neg hk0];simp only [go_sem, hp', d0, hsad, hb', g0, hslc, hk0, hlt];rw [if_pos (by rw [List.length_set]; exact Nat.le_refl _), List.take_of_length_le (by rw [List.length_set]; exact Nat.le_refl _)]
   ·have := hk (j + 1) (by omega);rw [List.getD_cons_succ] at this;rw [← this]; congr 1; omega
def AM.cleared (M : AM) (j : Nat) : AM := { M with L := upd M.L j [] }
theorem AM.Ok.cleared {M : AM} (h : M.Ok) (j : Nat) : (M.cleared j).Ok := by
 refine ⟨h.n0, h.n1, h.l8, fun i hi d hd => ?_, h.c0, fun i hi => ?_, h.lf, h.lg⟩
 ·simp only [AM.cleared] at hd;by_cases e : i = j
  ·subst e; rw [aj] at hd; cases hd
  ·rw [an e] at hd; exact h.w8 i hi d hd
 ·simp only [AM.cleared];by_cases e : i = j
  ·subst e; rw [aj]; exact h.c0
  ·rw [an e]; exact h.len i hi
def nlz (S : List Int) : V := nlV (lnV S) (lnV S) .nils (.agg 50 (List.replicate 8 (.int .i64 0)))
theorem LI {S : List Int} : plV S [] .nils = nlz S := by
 unfold plV nlz flV;rw [fW];rfl
theorem HQ {hp : List Blk} {F : Ft} {m : Nat} {M : AM} (h : ay hp F m M) {k nn : Nat} {cp : Option Nat} {o b : Bool} {l c : Int} (hb : hp[m]? = some (.rw (bw k nn cp o b l c))) {j : Nat} (hj : j < M.n) :
 ∃ T y1 y3 y4, hp[k]? = some (.rw (.agg 57 T)) ∧ T.length = M.n ∧ T[j]? = some (.agg 55 [y1, lnV (M.S j), y3, y4]) ∧ y1.tag = 24 ∧ y3.tag = 1 ∧ y4.tag = 50 ∧
  ay (hp.set k (.rw (.agg 57 (T.set j (nlz (M.S j)))))) F m (M.cleared j) ∧ Chg hp (hp.set k (.rw (.agg 57 (T.set j (nlz (M.S j)))))) F F ∧ (hp.set k (.rw (.agg 57 (T.set j (nlz (M.S j))))))[m]? = hp[m]? := by
 obtain ⟨k', fk, ne, ⟨cp', left, h1, h2, h3⟩, sv, ow, h4, h5⟩ := h.mb;have hkk : k = k' := pH (Blk.rw.inj (Option.some.inj (hb.symm.trans h1)));subst hkk;have hkl := ap h4;have hm : (hp.set k (.rw (.agg 57 ((tab M.n fun i => plV (M.S i) (M.L i) (sv i)).set j (nlz (M.S j))))))[m]? = hp[m]? := List.getElem?_set_ne (Ne.symm ne);refine ⟨_, lnV (ak (M.S j) (M.L j)), sv j, flV (M.L j), h4, iE _ _, aC (f := fun i => plV (M.S i) (M.L i) (sv i)) hj, rfl, (h5 j hj).tag, rfl, ⟨h.ok.cleared j, h.inn.set, h.fm, k, fk, ne, ⟨cp', left, hm.trans h1, h2, h3⟩, upd sv j .nils, ow, ?_, fun x hx => ?_⟩, jF.mono (fun x hx => by cases hx; exact fk) fun _ => .inr, hm⟩
 ·rw [eM, List.getElem?_set_self hkl];have : (upd (fun i => plV (M.S i) (M.L i) (sv i)) j (nlz (M.S j))) = fun i => plV ((M.cleared j).S i) ((M.cleared j).L i) (upd sv j .nils i) := by
   funext x;unfold upd AM.cleared;simp only;by_cases e : x = j
   ·subst e; rw [if_pos rfl, aj, if_pos rfl, LI]
   ·rw [if_neg e, an e, if_neg e]
  rw [this];rfl
 ·have hx' : x < M.n := hx;unfold AM.cleared;simp only;by_cases e : x = j
  ·subst e; rw [aj, aj]; exact .nil
  ·rw [an e, an e];exact (h5 x hx').eqv (fun y hy => List.getElem?_set_ne (Ne.symm hy.2.2.1)) fun _ h => h
def AM.crashN : AM → List Int → Nat → Nat → AM
 | M, _, _, 0 => M
 | M, ks, i, n + 1 => if M.L i = [] then M.crashN ks (i + 1) n else ((M.sureN i ((nxK ks).1 % (((M.L i).length : Int) + 1)).toNat).cleared i).crashN (nxK ks).2 (i + 1) n
def AM.crash (M : AM) (ks : List Int) : AM := { M.crashN ks 0 M.n with off := false, left := -1 }
theorem Eg {ks : List Int} (hr : ∀ k ∈ ks, -9223372036854775808 ≤ k ∧ k ≤ 9223372036854775807) : 0 ≤ (nxK ks).1 ∧ (nxK ks).1 ≤ 9223372036854775807 ∧ ∀ k ∈ (nxK ks).2, -9223372036854775808 ≤ k ∧ k ≤ 9223372036854775807 := by
 cases ks with
 | nil => exact ⟨by decide, by decide, hr⟩
 | cons k r =>
  have := hr k List.mem_cons_self;refine ⟨?_, ?_, fun x hx => hr x (List.mem_cons_of_mem _ hx)⟩
  ·simp only [nxK]; split <;> omega
  ·simp only [nxK]; split <;> omega
theorem po {m : Nat} (L : List Blk) {nL : Nat} : ∀ (n i : Nat) {M : AM} {hp : List Blk} {F : Ft} {v : V} {ks : List Int}, i + n = M.n → M.n = nL → M.count < 1000000 → ay hp F m M → gk hp F v ks → (∀ k ∈ ks, -9223372036854775808 ≤ k ∧ k ≤ 9223372036854775807) →
 ∃ hp' F' v', rc D L.length (.loop [0, 4, 13, 14] cw) [(0, .ptr (.hp m) [] 59), (4, .fn cm [.ptr (.loc L.length) [] 1]), (13, .int .i64 nL), (14, .int .i64 i)] ⟨L ++ [.rw v], hp⟩ =
  some (.exit 0, [(0, .ptr (.hp m) [] 59), (4, .fn cm [.ptr (.loc L.length) [] 1]), (13, .int .i64 nL), (14, .int .i64 nL), (15, .bool false)], ⟨L ++ [.rw v'], hp'⟩) ∧ ay hp' F' m (M.crashN ks i n) ∧ Chg hp hp' F F'
 | 0, i, M, hp, F, v, ks, hi, hn, hc, h, hK, hr => by
  have : i = nL := by omega
  subst this;refine ⟨hp, F, v, ?_, h, .refl _ _⟩;have d1 : ¬ (i : Int) < i := by omega
  rw [ac];simp only [go_sem, cw, d1]
 | n + 1, i, M, hp, F, v, ks, hi, hn, hc, h, hK, hr => by
  have hM := h;obtain ⟨k, fk, ne, ⟨cp, left, h1, h2, h3⟩, sv, ow, h4, h5⟩ := h.mb;have hj : i < M.n := by omega
  have g := aC (f := fun q => plV (M.S q) (M.L q) (sv q)) hj;have g0 : plV (M.S i) (M.L i) (sv i) = .agg 55 [lnV (ak (M.S i) (M.L i)), lnV (M.S i), sv i, flV (M.L i)] := rfl;rw [g0] at g;have d1 : (i : Int) < M.n := by omega
  have d0 : (0 : Int) ≤ i := by omega
  have d4 : IntKind.i64.wrap ((i : Int) + 1) = ((i + 1 : Nat) : Int) := ai (by omega) (by have := h.ok.n1; omega);have hsl := (h5 i hj).slen;rw [List.length_map] at hsl;have hlen := h.ok.len i hj;have hsad : np 55 (.sl (.hp k) [] 0 M.n cp 55) (.int .i64 (i : Int)) = some (.ptr (.hp k) [i] 55) := by simp [go_sem, hj]
  subst hn;have z0 : L.length < L.length + 1 := by omega
  have vlt : V.locLt (L.length + 1) v = true := bf (Nat.zero_le _) hK.lt;unfold AM.crashN;by_cases hz : M.L i = []
  ·rw [if_pos hz];obtain ⟨hp', F', v', r1, r2, r3⟩ := po L n (i + 1) (by omega) rfl hc hM hK hr;refine ⟨hp', F', v', ?_, r2, r3⟩;rw [← r1, ac];have d5 : ¬ (((M.L i).length : Nat) : Int) > 0 := by rw [hz]; simp
   simp only [bw] at h1;generalize (tab M.n fun q => plV (M.S q) (M.L q) (sv q)) = T0 at *;generalize (M.L i).length = fz at *;simp only [go_sem, cw, d1, h1, hsad, h4, g, Int.toNat_natCast, hsl, d5, d4, z0, vlt]
  ·rw [if_neg hz];obtain ⟨k0, k1, k2⟩ := Eg hr;obtain ⟨v', c1, c2⟩ := JY (L := L ++ [.rw v]) (p := L.length) hK hr (by simp);rw [pr] at c1;have hpos : 0 < (M.L i).length := List.length_pos_iff.2 hz;have hq0 := Int.emod_nonneg (nxK ks).1 (show (((M.L i).length : Nat) : Int) + 1 ≠ 0 by omega);have hq1 := Int.emod_lt_of_pos (nxK ks).1 (show 0 < (((M.L i).length : Nat) : Int) + 1 by omega);have w3 : ((nxK ks).1).tmod (((M.L i).length : Int) + 1) = (((nxK ks).1 % (((M.L i).length : Int) + 1)).toNat : Nat) := by
    rw [Int.tmod_eq_emod_of_nonneg k0]; omega
   generalize hQ : ((nxK ks).1 % (((M.L i).length : Int) + 1)).toNat = Q at *;obtain ⟨hp1, F1, s1, s2, s3, s4⟩ := oQ hM hc h1 (j := i) (n := Q) hj (by omega) (L ++ [.rw v']);obtain ⟨T, y1, y3, y4, t1, t2, t3, t4, t5, t6, t7, t8, t9⟩ := HQ s2 (s4.trans h1) (j := i) hj;obtain ⟨hp', F', v2, r1, r2, r3⟩ := po L n (i + 1) (nL := M.n) (M := (M.sureN i Q).cleared i) (by show i + 1 + n = M.n; omega) rfl hc t7 ((c2.chg s3).chg t8) k2;refine ⟨hp', F', v2, ?_, r2, (s3.trans t8).trans r3⟩;rw [← r1, ac];have vlt' : V.locLt (L.length + 1) v' = true := bf (Nat.zero_le _) c2.lt;have d5 : (((M.L i).length : Nat) : Int) > 0 := by omega
   have d6 : IntKind.i64.wrap (((M.L i).length : Int) + 1) = ((M.L i).length : Int) + 1 := ai (by omega) (by omega);have d7 : ¬ ((M.L i).length : Int) + 1 = 0 := by omega
   have hTx : ∀ x, (T.set i x)[i]? = some x := fun x => List.getElem?_set_self (by rw [t2]; exact hj);have hkl := ap t1;have hkx : ∀ x, (hp1.set k x)[k]? = some x := fun x => List.getElem?_set_self hkl;simp only [bw, nlz, nlV] at h1 ⊢;clear r1 r2 r3 t7 t8 t9 s2 s3 hQ;generalize (tab M.n fun q => plV (M.S q) (M.L q) (sv q)) = T0 at *;generalize (M.L i).length = fz at *;generalize (nxK ks).1 = K at *;have zt : (lnV ((M.sureN i Q).S i)).tag = 24 := rfl;have zl0 : V.locLt 0 (lnV ((M.sureN i Q).S i)) = true := nu;generalize lnV ((M.sureN i Q).S i) = Z at *;simp only [go_sem, cw, d1, h1, hsad, h4, g, hsl, d5, d4, c1, d6, d7, w3, s1, t1, t3, hkx, hTx, z0, vlt', zt, zl0, t4, t5, t6, List.set_set]
theorem ig : ∀ (n i : Nat) {M : AM} {ks : List Int}, (M.crashN ks i n).n = M.n ∧ (M.crashN ks i n).count = M.count
 | 0, _, _, _ => ⟨rfl, rfl⟩
 | n + 1, i, M, ks => by
  unfold AM.crashN;split
  ·exact ig n (i + 1)
  ·exact ig n (i + 1)
theorem sI {hp : List Blk} {F : Ft} {m : Nat} {M : AM} (h : ay hp F m M) (hc : M.count < 1000000) {v : V} {ks : List Int} (hK : gk hp F v ks) (hr : ∀ k ∈ ks, -9223372036854775808 ≤ k ∧ k ≤ 9223372036854775807) (L : List Blk) :
 ∃ hp' F', rf D ij [.ptr (.hp m) [] 59, v] ⟨L, hp⟩ = some (.tup [], ⟨L, hp'⟩) ∧ ay hp' F' m (M.crash ks) ∧ Chg hp hp' F F' := by
 obtain ⟨hp1, F1, v1, r1, r2, r3⟩ := po L M.n 0 (by omega) rfl hc h hK hr;obtain ⟨k, fk, ne, ⟨cp, left, h1, h2, h3⟩, _⟩ := h.mb;have n1 := (ig M.n 0 (M := M) (ks := ks)).1;have hM1 := r2;obtain ⟨k', fk', ne', ⟨cp', left', q1, q2, q3⟩, sv, ow, q4, q5⟩ := r2.mb;generalize hN : M.crashN ks 0 M.n = N at *;have hml := ap q1;refine ⟨hp1.set m (.rw (bw k' N.n cp' false false left' N.count)), F1, ?_, ?_, r3.trans (jF.mono (fun x hx => by cases hx; exact r2.fm) fun _ => .inr)⟩
 ·have hvo : v.ok = true := by cases hK <;> rfl
  have vt := hK.tag;simp only [bw] at h1 q1 ⊢;rw [show ((0 : Nat) : Int) = 0 from rfl] at r1
  rw [ae qI rfl];have hkx : ∀ x, (hp1.set m x)[m]? = some x := fun x => List.getElem?_set_self hml;simp only [go_sem, h1, r1, q1, hvo, vt, hkx, List.set_set]
 ·have ok := r2.ok;unfold AM.crash;rw [hN];refine ⟨⟨ok.n0, ok.n1, ok.l8, ok.w8, ok.c0, ok.len, by show (-1 : Int) ≤ -1; decide, by show (-1 : Int) ≤ 9223372036854775807; decide⟩, r2.inn.set, r2.fm, k', fk', ne', ⟨cp', left', List.getElem?_set_self hml, q2, fun h => absurd h (by show ¬ (0 : Int) ≤ -1; decide)⟩, sv, ow, ?_, fun x hx => ?_⟩
  ·rw [List.getElem?_set_ne ne']; exact q4
  ·exact (q5 x hx).eqv (fun y hy => List.getElem?_set_ne (Ne.symm hy.2.1)) fun _ h => h
end Go.Proofs.YtilcajpldklbiaaDoor
namespace Go.Proofs.YtilcajpldklbiaaDoor
open Go.Ab
theorem E9 {M : AM} {i q : Nat} (hi : i < M.n) (hq : q < 8) (v : Int) : ((M.store i q v).2 = 0 ∧ (M.store i q v).1.off = M.off ∧ (M.store i q v).1.now i = (M.now i).set q v) ∨ ((M.store i q v).2 = 4 ∧ (M.store i q v).1.off = true) := by
 unfold AM.store;rw [if_neg (by omega)];split
 ·exact .inr ⟨rfl, rfl⟩
 ·refine .inl ⟨rfl, rfl, ?_⟩;simp only [zX, Int.toNat_natCast, Dn.mk0];rfl
theorem sH {at' : Nat} {l : List Int} (hl : l.length = 8) : ∀ (n j : Nat) {M : AM}, at' < M.n → j + n = 8 → ∀ o : List Int, o.length = 8 → M.now at' = mI l o j →
 ((M.layFrom at' l j n).2 = 0 ∧ (M.layFrom at' l j n).1.off = M.off ∧ (M.layFrom at' l j n).1.now at' = l) ∨ ((M.layFrom at' l j n).2 = 4 ∧ (M.layFrom at' l j n).1.off = true)
 | 0, j, M, _, hj, o, ho, hm => by
  left;refine ⟨rfl, rfl, ?_⟩;have : j = 8 := by omega
  subst this;show M.now at' = l;rw [hm];unfold mI;rw [List.take_of_length_le (by omega), List.drop_eq_nil_iff.2 (by omega), List.append_nil]
 | n + 1, j, M, hi, hj, o, ho, hm => by
  have hs := E9 hi (show j < 8 by omega) (l.getD j 0);have hn : (M.store at' j (l.getD j 0)).1.n = M.n := AM.store_n;unfold AM.layFrom;rcases hs with ⟨h1, h2, h3⟩ | ⟨h1, h2⟩
  ·rw [if_neg (by rw [h1]; simp)];have := sH hl n (j + 1) (M := (M.store at' j (l.getD j 0)).1) (by rw [hn]; exact hi) (by omega) o ho (by rw [h3, hm]; exact Ai hl ho (by omega));rw [h2] at this;exact this
  ·rw [if_pos (by rw [h1]; decide)];exact .inr ⟨h1, h2⟩
theorem BO {M : AM} (hok : M.Ok) {at' : Nat} {l : List Int} (hl : l.length = 8) (hi : at' < M.n) :
 ((M.layFrom at' l 0 8).2 = 0 ∧ (M.layFrom at' l 0 8).1.off = M.off ∧ (M.layFrom at' l 0 8).1.now at' = l) ∨ ((M.layFrom at' l 0 8).2 = 4 ∧ (M.layFrom at' l 0 8).1.off = true) :=
 sH hl 8 0 hi rfl (M.now at') (hok.now8 hi) (by simp [mI])
theorem nG {M : AM} {i : Nat} (hi : i < M.n) : ((M.flush 0 i).2 = 0 ∧ (M.flush 0 i).1.off = M.off ∧ Fl (M.flush 0 i).1 i ∧ ∀ j, (M.flush 0 i).1.now j = M.now j) ∨ ((M.flush 0 i).2 = 4 ∧ (M.flush 0 i).1.off = true) := by
 unfold AM.flush;rw [if_neg (by omega)];split
 ·exact .inr ⟨rfl, rfl⟩
 ·refine .inl ⟨rfl, rfl, ?_, fun j => ?_⟩
  ·rw [Int.toNat_natCast]; exact vc
  ·exact AM.now_flushed
theorem rH {M : AM} : ((M.fence 0).2 = 0 ∧ (M.fence 0).1.off = M.off ∧ (∀ j, j < M.n → Fl M j → Sur (M.fence 0).1 j) ∧ ∀ j, (M.fence 0).1.now j = M.now j) ∨ ((M.fence 0).2 = 4 ∧ (M.fence 0).1.off = true) := by
 unfold AM.fence;rw [if_neg (by omega)];split
 ·exact .inr ⟨rfl, rfl⟩
 ·refine .inl ⟨rfl, ?_, fun j hj hf => ?_, fun j => ?_⟩
  ·exact (bH (M := M.stepped) (c := 0) M.n).2.2.1
  ·have h2 : Fl M.stepped j := hf;exact EV h2 hj
  ·exact mZ M.n
theorem xm {M : AM} {c i : Int} {j : Nat} (h : Sur M j) : Sm M (M.flush c i).1 j := by
 unfold AM.flush;split
 ·exact .refl _ _
 ·split
  ·exact u4
  ·refine ⟨?_, rfl⟩;simp only [AM.flushed, AM.stepped];by_cases e : j = i.toNat
   ·subst e;rw [aj];have e2 : M.L i.toNat = [] := h;rw [e2]; rfl
   ·exact an e
theorem yq {M : AM} {i : Nat} {j : Nat} (h : Fl M j) : Fl (M.flush 0 i).1 j := by
 unfold AM.flush;split
 ·exact h
 ·split
  ·exact h
  ·by_cases e : j = i
   ·subst e;show Fl (M.stepped.flushed 0 (j : Int).toNat) j;rw [Int.toNat_natCast]; exact vc
   ·unfold Fl at *;simp only [AM.flushed, AM.stepped, Int.toNat_natCast];show flN 0 (upd M.L i _ j) = (upd M.L i _ j).length;rw [an e]; exact h
end Go.Proofs.YtilcajpldklbiaaDoor
namespace Go.Proofs.YtilcajpldklbiaaDoor
open Go.Ab
theorem E3 {w : AW} (h : Inv w.x) {l : List Int} (hl : l.length = 8) (q : Nat) :
 (w.x.A.left = 0 ∧ w.write l q = (w, 10)) ∨ ∃ k M, w.x.A.f ≤ k ∧ k < w.x.A.l ∧ w.x.A.st k = 0 ∧ M.Ok ∧ M.n = w.x.M.n ∧ (∀ j, j ≠ k → Sm w.x.M M j) ∧
  ((w.write l q = ({ w with x := { w.x with M := M, A := w.x.A.put k 1 }, dir := upd w.dir q (k : Int) }, 0) ∧ M.off = w.x.M.off ∧ M.now k = l ∧ Fl M k) ∨
   (w.write l q = ({ w with x := { w.x with M := M, A := w.x.A.put k 1 } }, 4) ∧ M.off = true)) := by
 cases hf : w.x.A.first with
 | none =>
  left;have ha : w.x.A.alloc = (w.x.A, 0, 10) := by unfold AF.alloc; rw [hf]
  refine ⟨AF.left_zero.2 hf, ?_⟩;have : w.x.lay l = (w.x, 0, 10) := by unfold AS.lay; rw [ha, if_pos (by simp)]
  unfold AW.write;rw [this, if_pos (by simp)]
 | some k =>
  right;obtain ⟨h1, h2, h3, _⟩ := iD h.ok.A hf;have ha : w.x.A.alloc = (w.x.A.put k 1, (k : Int), 0) := by unfold AF.alloc; rw [hf]
  have hkn : k < w.x.M.n := by rw [← h.ok.l]; exact h2
  have hlo := BO h.ok.M hl hkn;have hok : (w.x.M.layFrom k l 0 8).1.Ok := h.ok.M.layFrom;have hn : (w.x.M.layFrom k l 0 8).1.n = w.x.M.n := AM.layFrom_n;have hsm : ∀ j, j ≠ k → Sm w.x.M (w.x.M.layFrom k l 0 8).1 j := fun j hj => iJ (by rw [Int.toNat_natCast]; exact hj) 8 0 _;rcases hlo with ⟨g1, g2, g3⟩ | ⟨g1, g2⟩
  ·have hlay : w.x.lay l = ({ w.x with A := w.x.A.put k 1, M := (w.x.M.layFrom k l 0 8).1 }, (k : Int), 0) := by
    unfold AS.lay;rw [ha, if_neg (by simp)];simp only [g1];rw [if_neg (by simp)]
   have hfo := nG (M := (w.x.M.layFrom k l 0 8).1) (i := k) (by rw [hn]; exact hkn);have hfk : ((w.x.M.layFrom k l 0 8).1.flush 0 k).1.Ok := by
    unfold AM.flush;split
    ·exact hok
    ·split
     ·exact hok.out
     ·exact hok.stepped.flushed _ _
   refine ⟨k, ((w.x.M.layFrom k l 0 8).1.flush 0 k).1, h1, h2, h3, hfk, bi.2.trans hn, fun j hj => (hsm j hj).trans (yu (by rw [Int.toNat_natCast]; exact hj)), ?_⟩;rcases hfo with ⟨f1, f2, f3, f4⟩ | ⟨f1, f2⟩
   ·left;refine ⟨?_, f2.trans g2, by rw [f4]; exact g3, f3⟩;unfold AW.write;rw [hlay];simp only [f1];rw [if_neg (by simp), if_neg (by simp)]
   ·right;refine ⟨?_, f2⟩;unfold AW.write;rw [hlay];simp only [f1];rw [if_neg (by simp), if_pos (by decide)]
  ·have hlay : w.x.lay l = ({ w.x with A := w.x.A.put k 1, M := (w.x.M.layFrom k l 0 8).1 }, 0, 4) := by
    unfold AS.lay;rw [ha, if_neg (by simp)];simp only [g1];rw [if_pos (by decide)]
   refine ⟨k, (w.x.M.layFrom k l 0 8).1, h1, h2, h3, hok, hn, hsm, .inr ⟨?_, g2⟩⟩;unfold AW.write;rw [hlay];simp only;rw [if_pos (by decide)]
def tv (x : AS) (v : Int) : Prop := ∃ q : Nat, v = q ∧ 10 ≤ q ∧ q < x.M.n ∧ x.A.st q = 1 ∧ aF x.work q = false ∧ aF x.base q = false ∧ aF x.mark q = false
structure Ck (x0 : AS) (G : List (Nat × Int)) (w : AW) : Prop where
 inv : Inv w.x
 f : w.x.A.f = 10
 base : w.x.base = x0.base
 mark : w.x.mark = x0.work
 is : w.x.is = true
 dir : w.x.dir = x0.dir
 n : w.x.M.n = x0.M.n
 tbl : w.tbl = x0.work
 d0 : ∀ k, k < 8 → tv w.x (w.x.dir k)
 d1 : ∀ k, k < 8 → tv w.x (w.dir k)
 dj : ∀ k l, k < 8 → l < 8 → k ≠ l → w.dir k ≠ w.dir l
 safe : ∀ j : Nat, (j < 10 ∨ aF x0.base j = true ∨ mG x0.dir j = true) → Sur w.x.M j ∧ w.x.M.S j = x0.M.S j
 lin : ∀ j : Nat, aF x0.work j = true → w.x.M.now j = x0.M.now j ∧ (aF x0.base j = true ∨ ((0 : Nat), (j : Int)) ∈ w.st ∨ Fl w.x.M j)
 lf : ∀ k : Nat, k < 7 → ((1 : Nat), (k : Int)) ∈ w.st ∨ (w.x.M.now (w.dir k).toNat = bj x0.work k ∧ Fl w.x.M (w.dir k).toNat)
 rt : ((2 : Nat), (0 : Int)) ∈ w.st ∨ (w.x.M.now (w.dir 7).toNat = aL w.dir ∧ Fl w.x.M (w.dir 7).toNat)
 fe : ((3 : Nat), (0 : Int)) ∈ w.st ∨ ((∀ j : Nat, aF x0.work j = true → Sur w.x.M j) ∧ ∀ k, k < 8 → Sur w.x.M (w.dir k).toNat)
 suf : w.st <:+ G ++ [(2, 0), (3, 0), (4, 0)]
 g : ∀ p ∈ G, (p.1 = 0 ∧ ∃ q : Nat, p.2 = q ∧ q < x0.M.n) ∨ (p.1 = 1 ∧ ∃ k : Nat, p.2 = k ∧ k < 7)
theorem yU {p : Nat × Int} {r : List (Nat × Int)} : ∀ {G : List (Nat × Int)}, p :: r <:+ G ++ [(2, 0), (3, 0), (4, 0)] →
 (p ∈ G ∧ [(2, 0), (3, 0), (4, 0)] <:+ r) ∨ (p = (2, 0) ∧ r = [(3, 0), (4, 0)]) ∨ (p = (3, 0) ∧ r = [(4, 0)]) ∨ (p = (4, 0) ∧ r = [])
 | [], h => by
  right;rw [List.nil_append] at h;rcases List.suffix_cons_iff.1 h with h | h
  ·simp only [List.cons.injEq] at h; exact .inl h
  ·rcases List.suffix_cons_iff.1 h with h | h
   ·simp only [List.cons.injEq] at h; exact .inr (.inl h)
   ·rcases List.suffix_cons_iff.1 h with h | h
    ·simp only [List.cons.injEq] at h; exact .inr (.inr h)
    ·exact absurd (List.suffix_nil.1 h) (by simp)
 | g :: G, h => by
  rw [List.cons_append] at h;rcases List.suffix_cons_iff.1 h with h | h
  ·simp only [List.cons.injEq] at h;rw [h.1, h.2];exact .inl ⟨List.mem_cons_self, List.suffix_append _ _⟩
  ·rcases yU h with ⟨h1, h2⟩ | h
   ·exact .inl ⟨List.mem_cons_of_mem _ h1, h2⟩
   ·exact .inr h
end Go.Proofs.YtilcajpldklbiaaDoor
namespace Go.Proofs.YtilcajpldklbiaaDoor
open Go.Ab
section
variable {x0 : AS} {G : List (Nat × Int)} {w : AW}
def Old (x0 : AS) (j : Nat) : Prop := j < 10 ∨ aF x0.base j = true ∨ mG x0.dir j = true
theorem cR {d : Nat → Int} {j : Nat} : mG d j = true ↔ ∃ k, k < 8 ∧ d k = j := by
 unfold mG;simp only [List.any_eq_true, List.mem_range, decide_eq_true_eq]
theorem Ck.kpB (h : Ck x0 G w) {j : Nat} (hj : aF x0.base j = true ∨ aF x0.work j = true) : Kp w.x j := by
 have hs : w.x.sh j = true := by
  rw [ua h.inv.ok, h.base, h.mark, h.is];rcases hj with hj | hj <;> simp [hj]
 exact ⟨.inr ⟨h.inv.s1 j hs, .inl hs⟩⟩
theorem tv.kp {x : AS} {v : Int} (h : tv x v) : Kp x v.toNat := by
 obtain ⟨q, rfl, _, _, h1, h2, _⟩ := h;rw [Int.toNat_natCast];exact ⟨.inr ⟨h1, .inr h2⟩⟩
theorem Ck.kpO (h : Ck x0 G w) {j : Nat} (hj : Old x0 j) : Kp w.x j := by
 rcases hj with hj | hj | hj
 ·exact ⟨.inl (by rw [h.f]; exact hj)⟩
 ·exact h.kpB (.inl hj)
 ·obtain ⟨k, hk, e⟩ := cR.1 hj;have := (h.d0 k hk).kp;rw [h.dir, e, Int.toNat_natCast] at this;exact this
theorem D5 {d : Nat → Int} {v : Int} : aL (upd d 7 v) = aL d := by
 have e : ∀ j, j < 7 → upd d 7 v j = d j := fun j hj => an (by omega);unfold aL gD rlL;have h1 : ((List.range 7).all fun j => decide (0 ≤ upd d 7 v (0 + j)) && decide (upd d 7 v (0 + j) < 1024)) = (List.range 7).all fun j => decide (0 ≤ d (0 + j)) && decide (d (0 + j) < 1024) := by
  apply Bool.eq_iff_iff.2;simp only [List.all_eq_true, List.mem_range];constructor
  ·intro hh j hj; have := hh j hj; rw [e (0 + j) (by omega)] at this; exact this
  ·intro hh j hj; rw [e (0 + j) (by omega)]; exact hh j hj
 have h2 : ((List.range 8).map fun j => if j < 7 then ior .u64 4294967296 (IntKind.u64.wrap (upd d 7 v j)) else 0) = (List.range 8).map fun j => if j < 7 then ior .u64 4294967296 (IntKind.u64.wrap (d j)) else 0 := by
  apply List.map_congr_left;intro j _;split
  ·rename_i hj; rw [e j hj]
  ·rfl
 rw [h1, h2]
def Off (x0 : AS) (w w' : AW) : Prop := w'.x.M.off = true ∧ w'.st = w.st ∧ w'.x.M.Ok ∧ w'.x.M.n = w.x.M.n ∧ ∀ j, Old x0 j → Sur w'.x.M j ∧ w'.x.M.S j = x0.M.S j
structure Did (w w' : AW) (p : Nat × Int) (r : List (Nat × Int)) : Prop where
 st : w'.st = r
 work : w'.x.work = w.x.work
 off : w'.x.M.off = w.x.M.off
 b : w'.b = w.b
 slot : w'.slot = w.slot
 seq : w'.seq = w.seq
 left : w'.x.A.left + wrN p = w.x.A.left
theorem Gb {p : Nat × Int} {r l : List (Nat × Int)} (h : p :: r <:+ l) : r <:+ l := (List.suffix_cons p r).trans h
theorem Ck.step (h : Ck x0 G w) {p : Nat × Int} {r : List (Nat × Int)} (hw : w.st = p :: r) (hr : r ≠ []) :
 (∃ w', w.step = (w', false, 0) ∧ Ck x0 G w' ∧ Did w w' p r) ∨ (w.x.A.left = 0 ∧ wrN p = 1) ∨ (∃ w', w.step = (w', false, 4) ∧ Off x0 w w') := by
 have hd : decide (r = []) = false := decide_eq_false hr;have hsuf := h.suf;rw [hw] at hsuf;have hst := Gb hsuf;have mem : ∀ q : Nat × Int, q ∈ w.st → q ≠ p → q ∈ r := fun q hq hne => by
  rw [hw] at hq;rcases List.mem_cons.1 hq with e | e
  ·exact absurd e hne
  ·exact e
 have ok := h.inv.ok;have memo : ∀ M : AM, M.Ok → M.n = w.x.M.n → M.off = w.x.M.off → (∀ j, M.now j = w.x.M.now j) → (∀ j, Sur w.x.M j → Sm w.x.M M j) → (∀ j, j < w.x.M.n → Fl w.x.M j → Fl M j) → w.doStep p = ({ w with x := { w.x with M := M } }, 0) → wrN p = 0 →
  (∀ q : Nat, p = (0, (q : Int)) → Fl M q) → p.1 ≠ 1 → p.1 ≠ 2 → (p = (3, 0) → (∀ j : Nat, aF x0.work j = true → Sur M j) ∧ ∀ k, k < 8 → Sur M (w.dir k).toNat) →
  (∃ w', w.step = (w', false, 0) ∧ Ck x0 G w' ∧ Did w w' p r) := by
  intro M m1 m2 m3 m4 m5 m6 m7 m8 m9 m10 m11 m12;refine ⟨{ w with x := { w.x with M := M }, st := r }, ?_, ⟨h.inv.withM m1 m2, h.f, h.base, h.mark, h.is, h.dir, m2.trans h.n, h.tbl, fun k hk => ?_, fun k hk => ?_, h.dj, fun j hj => ?_, fun j hj => ?_, fun k hk => ?_, ?_, ?_, hst, h.g⟩, ⟨rfl, rfl, m3, rfl, rfl, rfl, by rw [m8]; rfl⟩⟩
  ·unfold AW.step;rw [hw];simp only [m7, hd, if_true]
  ·obtain ⟨q, e1, e2, e3, e4⟩ := h.d0 k hk;exact ⟨q, e1, e2, by rw [m2]; exact e3, e4⟩
  ·obtain ⟨q, e1, e2, e3, e4⟩ := h.d1 k hk;exact ⟨q, e1, e2, by rw [m2]; exact e3, e4⟩
  ·have s := m5 j (h.safe j hj).1;exact ⟨s.sur (h.safe j hj).1, s.S.trans (h.safe j hj).2⟩
  ·obtain ⟨e1, e2⟩ := h.lin j hj;have hjn : j < w.x.M.n := by
    obtain ⟨i, i1, i2, i3⟩ := aU.1 hj;have := ok.k.inn i i1 (by rw [h.mark]; exact i2);rw [h.mark, i3] at this;have hl := ok.l;omega
   refine ⟨(m4 j).trans e1, ?_⟩;rcases e2 with e2 | e2 | e2
   ·exact .inl e2
   ·by_cases e : ((0 : Nat), (j : Int)) = p
    ·exact .inr (.inr (m9 j e.symm))
    ·exact .inr (.inl (mem _ e2 e))
   ·exact .inr (.inr (m6 j hjn e2))
  ·rcases h.lf k hk with e | e
   ·exact .inl (mem _ e fun e2 => m10 (by rw [← e2]))
   ·obtain ⟨q, q1, _, q3, _⟩ := h.d1 k (by omega);exact .inr ⟨(m4 _).trans e.1, m6 _ (by rw [q1, Int.toNat_natCast]; exact q3) e.2⟩
  ·rcases h.rt with e | e
   ·exact .inl (mem _ e fun e2 => m11 (by rw [← e2]))
   ·obtain ⟨q, q1, _, q3, _⟩ := h.d1 7 (by omega);exact .inr ⟨(m4 _).trans e.1, m6 _ (by rw [q1, Int.toNat_natCast]; exact q3) e.2⟩
  ·rcases h.fe with e | e
   ·by_cases e2 : ((3 : Nat), (0 : Int)) = p
    ·exact .inr (m12 e2.symm)
    ·exact .inl (mem _ e e2)
   ·exact .inr ⟨fun j hj => (m5 j (e.1 j hj)).sur (e.1 j hj), fun k hk => (m5 _ (e.2 k hk)).sur (e.2 k hk)⟩
 have off4 : ∀ (M : AM) (A : AF), M.off = true → M.Ok → M.n = w.x.M.n → (∀ j, Old x0 j → Sm w.x.M M j) → w.doStep p = ({ w with x := { w.x with M := M, A := A } }, 4) → ∃ w', w.step = (w', false, 4) ∧ Off x0 w w' := by
  intro M A m1 m2 m3 m4 m5;refine ⟨{ w with x := { w.x with M := M, A := A } }, ?_, m1, rfl, m2, m3, fun j hj => ?_⟩
  ·unfold AW.step;rw [hw];simp only [m5];rw [if_neg (by decide), if_neg (by decide), ← hw]
  ·have s := m4 j hj;exact ⟨s.sur (h.safe j hj).1, s.S.trans (h.safe j hj).2⟩
 have wrt : ∀ (l : List Int) (q : Nat), l.length = 8 → q < 8 → w.doStep p = w.write l q → wrN p = 1 → ((3 : Nat), (0 : Int)) ∈ r → ((q < 7 ∧ p = (1, (q : Int)) ∧ l = bj x0.work q ∧ ((2 : Nat), (0 : Int)) ∈ r) ∨ (q = 7 ∧ p = (2, 0) ∧ l = aL w.dir)) →
  (∃ w', w.step = (w', false, 0) ∧ Ck x0 G w' ∧ Did w w' p r) ∨ (w.x.A.left = 0 ∧ wrN p = 1) ∨ (∃ w', w.step = (w', false, 4) ∧ Off x0 w w') := by
  intro l q hl hq h6 h7 h3 hpq;rcases E3 h.inv hl q with ⟨g1, _⟩ | ⟨k, M, k1, k2, k3, m1, m2, m3, hres⟩
  ·exact .inr (.inl ⟨g1, h7⟩)
  ·have hk10 : 10 ≤ k := by rw [← h.f]; exact k1
   have hkp : ∀ j, Kp w.x j → j ≠ k := fun j hj e => by
    subst e;rcases hj.one with e | e
    ·omega
    ·rw [k3] at e; cases e
   rcases hres with ⟨e1, e2, e3, e4⟩ | ⟨e1, e2⟩
   ·left;have hp0 : p.1 ≠ 0 := by rcases hpq with ⟨_, e, _⟩ | ⟨_, e, _⟩ <;> rw [e] <;> simp
    have hiv : Inv { w.x with M := M, A := w.x.A.put k 1 } := (h.inv.taken k3).withM m1 m2;have hlp := AF.left_put (A := w.x.A) (k := k) (x := 1) k1 k2;rw [if_pos k3, if_neg (by decide)] at hlp;have hnw : ∀ t, (aF t k = true → w.x.A.st k = 1) → aF t k = false := fun t ht => by
     cases e : aF t k
     ·rfl
     ·have := ht e; rw [k3] at this; cases this
    have hsh := fun (j : Nat) (e : aF w.x.base j = true ∨ aF w.x.mark j = true) => h.inv.s1 j (by rw [ua ok, h.is]; rcases e with e | e <;> simp [e]);have hold : ∀ v, tv w.x v → tv { w.x with M := M, A := w.x.A.put k 1 } v := by
     rintro v ⟨a, a1, a2, a3, a4, a5⟩;refine ⟨a, a1, a2, by simp only; rw [m2]; exact a3, ?_, a5⟩;simp only [AF.put];rw [an (fun e => by rw [e, k3] at a4; cases a4)]; exact a4
    have hnewL : tv { w.x with M := M, A := w.x.A.put k 1 } (k : Int) := by
     refine ⟨k, rfl, hk10, by simp only; rw [m2, ← ok.l]; exact k2, by simp only [AF.put]; exact aj, hnw _ fun e => h.inv.w1 k e, hnw _ fun e => hsh k (.inl e), hnw _ fun e => hsh k (.inr e)⟩
    have hdne : ∀ i, i < 8 → w.dir i ≠ (k : Int) := fun i hi e => by
     obtain ⟨a, a1, _, _, a4, _⟩ := h.d1 i hi;have : a = k := by rw [a1] at e; omega
     rw [this, k3] at a4; cases a4
    refine ⟨{ w with x := { w.x with M := M, A := w.x.A.put k 1 }, dir := upd w.dir q (k : Int), st := r }, ?_, ⟨hiv, h.f, h.base, h.mark, h.is, h.dir, m2.trans h.n, h.tbl, fun i hi => hold _ (h.d0 i hi), fun i hi => ?_, fun i j hi hj hne => ?_, fun j hj => ?_, fun j hj => ?_, fun i hi => ?_, ?_, .inl h3, hst, h.g⟩, ⟨rfl, rfl, e2, rfl, rfl, rfl, ?_⟩⟩
    ·unfold AW.step;rw [hw];simp only [h6, e1, hd, if_true]
    ·simp only [upd];split
     ·exact hnewL
     ·exact hold _ (h.d1 i hi)
    ·simp only [upd];split
     ·rename_i e5;rw [if_neg (by omega)];exact fun e => hdne j hj e.symm
     ·split
      ·exact hdne i hi
      ·exact h.dj i j hi hj hne
    ·have s := m3 j (hkp j (h.kpO hj));exact ⟨s.sur (h.safe j hj).1, s.S.trans (h.safe j hj).2⟩
    ·have s := m3 j (hkp j (h.kpB (.inr hj)));refine ⟨s.now.trans (h.lin j hj).1, (h.lin j hj).2.imp id fun e => e.imp (fun e => mem _ e fun e2 => hp0 (by rw [← e2])) s.fl⟩
    ·simp only;by_cases hiq : i = q
     ·subst hiq;right;rw [aj, Int.toNat_natCast];rcases hpq with ⟨_, _, e, _⟩ | ⟨e, _⟩
      ·exact ⟨e3.trans e, e4⟩
      ·omega
     ·rw [an hiq];rcases h.lf i hi with e | e
      ·left;refine mem _ e fun e2 => ?_;rcases hpq with ⟨_, e5, _⟩ | ⟨_, e5, _⟩
       ·rw [e5] at e2; simp only [Prod.mk.injEq, true_and] at e2; omega
       ·rw [e5] at e2; simp at e2
      ·have s := m3 _ (hkp _ (h.d1 i (by omega)).kp);exact .inr ⟨s.now.trans e.1, s.fl e.2⟩
    ·rcases hpq with ⟨_, _, _, e⟩ | ⟨e, _, e5⟩
     ·exact .inl e
     ·right;subst e;simp only;rw [aj, Int.toNat_natCast, D5];exact ⟨e3.trans e5, e4⟩
    ·rw [h7]; simp only; omega
   ·exact .inr (.inr (off4 M _ e2 m1 m2 (fun j hj => m3 j (hkp j (h.kpO hj))) (by rw [h6]; exact e1)))
 have surO : ∀ j, Old x0 j → Sur w.x.M j := fun j hj => (h.safe j hj).1;rcases yU hsuf with ⟨hpG, h234⟩ | ⟨rfl, rfl⟩ | ⟨rfl, rfl⟩ | ⟨_, e⟩
 ·have h2 : ((2 : Nat), (0 : Int)) ∈ r := h234.subset (by simp);have h3 : ((3 : Nat), (0 : Int)) ∈ r := h234.subset (by simp);rcases h.g p hpG with ⟨p1, q, p2, p3⟩ | ⟨p1, k, p2, p3⟩
  ·have hp : p = (0, (q : Int)) := by rw [← p1, ← p2]
   have hqn : q < w.x.M.n := by rw [h.n]; exact p3
   have hdo : w.doStep p = ({ w with x := { w.x with M := (w.x.M.flush 0 q).1 } }, (w.x.M.flush 0 q).2) := by rw [hp]; rfl
   have hfk : (w.x.M.flush 0 q).1.Ok := by
    unfold AM.flush;split
    ·exact ok.M
    ·split
     ·exact ok.M.out
     ·exact ok.M.stepped.flushed _ _
   rcases nG hqn with ⟨f1, f2, f3, f4⟩ | ⟨f1, f2⟩
   ·left;refine memo _ hfk bi.2 f2 f4 (fun j hj => xm hj) (fun j _ hj => yq hj) (by rw [hdo, f1]) (by rw [hp]; rfl) (fun q' e => ?_) (by rw [hp]; simp) (by rw [hp]; simp) (fun e => by rw [hp] at e; simp at e);rw [hp] at e;simp only [Prod.mk.injEq, true_and] at e;have : q' = q := by omega
    rw [this]; exact f3
   ·exact .inr (.inr (off4 _ w.x.A f2 hfk bi.2 (fun j hj => xm (surO j hj)) (by rw [hdo, f1])))
  ·have hp : p = (1, (k : Int)) := by rw [← p1, ← p2]
   exact wrt (bj x0.work k) k (lH _ _) (by omega) (by rw [hp, ← h.tbl]; rfl) (by rw [hp]; rfl) h3 (.inl ⟨p3, hp, rfl, h2⟩)
 ·exact wrt (aL w.dir) 7 (nR _) (by decide) rfl rfl (by simp) (.inr ⟨rfl, rfl, rfl⟩)
 ·have hdo : w.doStep (3, 0) = ({ w with x := { w.x with M := (w.x.M.fence 0).1 } }, (w.x.M.fence 0).2) := rfl;have hfk : (w.x.M.fence 0).1.Ok ∧ (w.x.M.fence 0).1.n = w.x.M.n := by
   unfold AM.fence;split
   ·exact ⟨ok.M, rfl⟩
   ·split
    ·exact ⟨ok.M.out, rfl⟩
    ·exact ⟨lh ok.M.stepped _, (bH (M := w.x.M.stepped) (c := 0) _).1⟩
  rcases rH (M := w.x.M) with ⟨f1, f2, f3, f4⟩ | ⟨f1, f2⟩
  ·left;refine memo _ hfk.1 hfk.2 f2 f4 (fun j hj => tB hj) (fun j hj hf => (f3 j hj hf).fl) (by rw [hdo, f1]) rfl (fun q e => by simp at e) (by decide) (by decide) (fun _ => ⟨fun j hj => ?_, fun k hk => ?_⟩)
   ·have hjn : j < w.x.M.n := by
     obtain ⟨i, i1, i2, i3⟩ := aU.1 hj;have := ok.k.inn i i1 (by rw [h.mark]; exact i2);rw [h.mark, i3] at this;have hl := ok.l;omega
    rcases (h.lin j hj).2 with e | e | e
    ·exact f3 j hjn (surO j (.inr (.inl e))).fl
    ·rw [hw] at e; simp at e
    ·exact f3 j hjn e
   ·obtain ⟨q, q1, _, q3, _⟩ := h.d1 k hk;rw [q1, Int.toNat_natCast];by_cases hk7 : k = 7
    ·subst hk7;rcases h.rt with e | e
     ·rw [hw] at e; simp at e
     ·rw [q1, Int.toNat_natCast] at e; exact f3 q q3 e.2
    ·rcases h.lf k (by omega) with e | e
     ·rw [hw] at e; simp at e
     ·rw [q1, Int.toNat_natCast] at e; exact f3 q q3 e.2
  ·exact .inr (.inr (off4 _ w.x.A f2 hfk.1 hfk.2 (fun j hj => tB (surO j hj)) (by rw [hdo, f1])))
 ·exact absurd e hr
end
end Go.Proofs.YtilcajpldklbiaaDoor
namespace Go.Proofs.YtilcajpldklbiaaDoor
open Go.Ab
structure ou (t : Nat → Ent) : Prop where
 e : ∀ i, i < 49 → jw (t i) = true
 j : ∀ i j, i < 49 → j < 49 → i ≠ j → (t i).kind ≠ 0 → (t j).kind ≠ 0 → (t i).line ≠ (t j).line
theorem pK {e : Ent} : jw e = true ↔ (0 ≤ e.kind ∧ e.kind ≤ 4) ∧ (0 ≤ e.ver ∧ e.ver ≤ 16777215) ∧ (0 ≤ e.line ∧ e.line ≤ 1023) ∧ (e.kind = 0 → e.line = 0) := by
 unfold jw win;simp only [Bool.and_eq_true, decide_eq_true_eq, Bool.not_eq_true', Bool.and_eq_false_iff, decide_eq_false_iff_not];omega
theorem ou.upd {t : Nat → Ent} (h : ou t) {i : Nat} {e : Ent} (he : jw e = true) (hn : e.kind ≠ 0 → ∀ j, j < 49 → j ≠ i → (t j).kind ≠ 0 → (t j).line ≠ e.line) : ou (updE t i e) := by
 refine ⟨fun j hj => ?_, fun a b ha hb hne h1 h2 => ?_⟩
 ·unfold updE; split
  ·exact he
  ·exact h.e j hj
 ·unfold updE at *;by_cases e1 : a = i
  ·rw [if_pos e1] at h1 ⊢;have e2 : b ≠ i := by omega
   rw [if_neg e2] at h2 ⊢;exact fun e => hn h1 b hb e2 h2 e.symm
  ·rw [if_neg e1] at h1 ⊢;by_cases e2 : b = i
   ·rw [if_pos e2] at h2 ⊢;exact hn h2 a ha e1 h1
   ·rw [if_neg e2] at h2 ⊢;exact h.j a b ha hb hne h1 h2
structure Img (x : AS) : Prop where
 inv : Inv x
 f : x.A.f = 10
 is : x.is = false
 dl : ∀ k, k < 8 → ∃ q : Nat, x.dir k = q ∧ 10 ≤ q ∧ q < x.M.n ∧ x.A.st q = 1 ∧ aF x.work q = false ∧ aF x.base q = false
 dj : ∀ k l, k < 8 → l < 8 → k ≠ l → x.dir k ≠ x.dir l
 sur : ∀ j, Old x j → Sur x.M j
 lf : ∀ k, k < 7 → x.M.S (x.dir k).toNat = bj x.base k
 rt : x.M.S (x.dir 7).toNat = aL x.dir
 gb : ou x.base
 gw : ou x.work
theorem Img.kp {x : AS} (h : Img x) {j : Nat} (hj : Old x j) : Kp x j := by
 rcases hj with hj | hj | hj
 ·exact ⟨.inl (by rw [h.f]; exact hj)⟩
 ·have hs : x.sh j = true := by rw [ua h.inv.ok, hj, Bool.true_or]
  exact ⟨.inr ⟨h.inv.s1 j hs, .inl hs⟩⟩
 ·obtain ⟨k, hk, e⟩ := cR.1 hj;obtain ⟨q, q1, _, _, q4, q5, _⟩ := h.dl k hk;have : q = j := by omega
  subst this;exact ⟨.inr ⟨q4, .inr q5⟩⟩
end Go.Proofs.YtilcajpldklbiaaDoor
namespace Go.Proofs.YtilcajpldklbiaaDoor
open Go.Ab
def CV (l : List Int) : List (Nat × Int) := (7, 0) :: (List.range 8).map fun j => (j, l.getD j 0)
theorem KE (l : List Int) {j : Nat} (hj : j < 8) : (CV l)[j + 1]? = some (j, l.getD j 0) := by
 simp [CV, hj]
def Dn.wv (d : Dn) : Nat × Int := (d.w, d.v)
def lX (M : AM) (s : Nat) (s0 l : List Int) (m : Nat) : Prop := (M.L s).map Dn.wv = (CV l).take m ∧ M.S s = s0
theorem uh {M : AM} {s : Nat} {s0 l : List Int} {m : Nat} (h : lX M s s0 l m) {q : Nat} {v : Int} (hs : s < M.n) (hq : q < 8) (hm : (CV l)[m]? = some (q, v)) :
 ((M.store s q v).2 = 0 ∧ (M.store s q v).1.off = M.off ∧ lX (M.store s q v).1 s s0 l (m + 1)) ∨ ((M.store s q v).2 = 4 ∧ (M.store s q v).1.off = true ∧ lX (M.store s q v).1 s s0 l m) := by
 unfold AM.store;rw [if_neg (by omega)];split
 ·exact .inr ⟨rfl, rfl, h⟩
 ·refine .inl ⟨rfl, rfl, ?_, h.2⟩;simp only [AM.push, AM.stepped, Int.toNat_natCast, aj, List.map_append, List.map_cons, List.map_nil];rw [h.1];have hlt := (List.getElem?_eq_some_iff.1 hm).1;rw [List.take_succ_eq_append_getElem hlt, (List.getElem?_eq_some_iff.1 hm).2];rfl
theorem Ae {s : Nat} {s0 l : List Int} : ∀ (n j : Nat) {M : AM}, s < M.n → j + n = 8 → lX M s s0 l (j + 1) →
 ((M.layFrom s l j n).2 = 0 ∧ (M.layFrom s l j n).1.off = M.off ∧ lX (M.layFrom s l j n).1 s s0 l 9) ∨ ((M.layFrom s l j n).2 = 4 ∧ (M.layFrom s l j n).1.off = true ∧ ∃ m, 1 ≤ m ∧ m ≤ 9 ∧ lX (M.layFrom s l j n).1 s s0 l m)
 | 0, j, M, hs, hj, h => by
  have : j = 8 := by omega
  subst this;exact .inl ⟨rfl, rfl, h⟩
 | n + 1, j, M, hs, hj, h => by
  have hn : (M.store s j (l.getD j 0)).1.n = M.n := AM.store_n;unfold AM.layFrom;rcases uh h hs (show j < 8 by omega) (KE l (by omega)) with ⟨h1, h2, h3⟩ | ⟨h1, h2, h3⟩
  ·rw [if_neg (by rw [h1]; simp)];have := Ae n (j + 1) (M := (M.store s j (l.getD j 0)).1) (by rw [hn]; exact hs) (by omega) h3;rw [h2] at this;exact this
  ·rw [if_pos (by rw [h1]; decide)];exact .inr ⟨h1, h2, j + 1, by omega, by omega, h3⟩
theorem CN {M : AM} {s : Nat} {s0 l : List Int} {m : Nat} (h : lX M s s0 l m) (i : Int) : lX (M.flush 0 i).1 s s0 l m := by
 unfold AM.flush;split
 ·exact h
 ·split
  ·exact h
  ·refine ⟨?_, h.2⟩;simp only [AM.flushed, AM.stepped];by_cases e : s = i.toNat
   ·rw [← e, aj, List.map_map];exact h.1
   ·rw [an e]; exact h.1
theorem Kf {M : AM} (ok : M.Ok) {s : Nat} (hs : s = 0 ∨ s = 1) (hsur : Sur M s) {b : Sup} (hb : b.ok = true) :
 (∀ j, j ≠ s → Sur M j → Sm M (M.wrs s b).1 j) ∧ (((M.wrs s b).2 = 0 ∧ (M.wrs s b).1.off = M.off ∧ Sur (M.wrs s b).1 s ∧ (M.wrs s b).1.now s = aQ b) ∨
  ((M.wrs s b).2 = 4 ∧ (M.wrs s b).1.off = true ∧ ∃ m, m ≤ 9 ∧ lX (M.wrs s b).1 s (M.S s) (aQ b) m)) := by
 have hn := ok.n0;have hsn : s < M.n := by omega
 have h0 : lX M s (M.S s) (aQ b) 0 := ⟨by rw [show M.L s = [] from hsur]; rfl, rfl⟩
 have hl8 := pn b;have hsc : ¬ (b.ok = false ∨ ((s : Int) ≠ 0 ∧ (s : Int) ≠ 1)) := by rw [hb]; simp; omega
 have s1 : ∀ j, j ≠ s → Sm M (M.store s 7 0).1 j := fun j hj => kQ (by rw [Int.toNat_natCast]; exact hj);have n1 : (M.store s 7 0).1.n = M.n := AM.store_n;have hst := uh h0 hsn (show 7 < 8 by decide) (v := 0) rfl;unfold AM.wrs;rw [if_neg hsc];have hst' : ((M.store s 7 0).2 = 0 ∧ (M.store s 7 0).1.off = M.off ∧ lX (M.store s 7 0).1 s (M.S s) (aQ b) 1) ∨ ((M.store s 7 0).2 = 4 ∧ (M.store s 7 0).1.off = true ∧ lX (M.store s 7 0).1 s (M.S s) (aQ b) 0) := hst;rcases hst' with ⟨g1, g2, g3⟩ | ⟨g1, g2, g3⟩
 ·rw [if_neg (by rw [g1]; simp)];have ok1 : (M.store s 7 0).1.Ok := ok.store;generalize (M.store s 7 0).1 = M1 at *;have hsn1 : s < M1.n := by rw [n1]; exact hsn
  have s2 : ∀ j, j ≠ s → Sm M1 (M1.layFrom s (aQ b) 0 8).1 j := fun j hj => iJ (by rw [Int.toNat_natCast]; exact hj) 8 0 _;have n2 : (M1.layFrom s (aQ b) 0 8).1.n = M1.n := AM.layFrom_n;have ok2 : (M1.layFrom s (aQ b) 0 8).1.Ok := ok1.layFrom;have hlw := BO ok1 hl8 hsn1;simp only;rcases Ae 8 0 hsn1 rfl g3 with ⟨f1, f2, f3⟩ | ⟨f1, f2, m, _, m9, f3⟩
  ·rw [if_neg (by rw [f1]; simp)];have hnow : (M1.layFrom s (aQ b) 0 8).1.now s = aQ b := by
    rcases hlw with ⟨_, _, e⟩ | ⟨e, _⟩
    ·exact e
    ·rw [f1] at e; cases e
   generalize (M1.layFrom s (aQ b) 0 8).1 = M2 at *;have hsn2 : s < M2.n := by rw [n2]; exact hsn1
   have s3 : ∀ j, j ≠ s → Sm M2 (M2.flush 0 s).1 j := fun j hj => yu (by rw [Int.toNat_natCast]; exact hj);have hf := CN f3 (s : Int);rcases nG hsn2 with ⟨e1, e2, e3, e4⟩ | ⟨e1, e2⟩
   ·rw [if_neg (by rw [e1]; simp)];have n3 : (M2.flush 0 s).1.n = M2.n := bi.2;generalize (M2.flush 0 s).1 = M3 at *;refine ⟨fun j hj hsj => ?_, ?_⟩
    ·have a := (s1 j hj).trans ((s2 j hj).trans (s3 j hj));exact a.trans (tB (a.sur hsj))
    ·rcases rH (M := M3) with ⟨d1, d2, d3, d4⟩ | ⟨d1, d2⟩
     ·left;exact ⟨d1, d2.trans (e2.trans (f2.trans g2)), d3 s (by rw [n3]; exact hsn2) e3, by rw [d4, e4]; exact hnow⟩
     ·right;refine ⟨d1, d2, 9, Nat.le_refl _, ?_⟩;unfold AM.fence at d1 ⊢;rw [if_neg (by omega)] at d1 ⊢;split at d1
      ·rename_i hdd; rw [if_pos hdd]; exact hf
      ·cases d1
   ·rw [if_pos (by rw [e1]; decide)];exact ⟨fun j hj _ => (s1 j hj).trans ((s2 j hj).trans (s3 j hj)), .inr ⟨e1, e2, 9, Nat.le_refl _, hf⟩⟩
  ·rw [if_pos (by rw [f1]; decide)];exact ⟨fun j hj _ => (s1 j hj).trans (s2 j hj), .inr ⟨f1, f2, m, m9, f3⟩⟩
 ·rw [if_pos (by rw [g1]; decide)];exact ⟨fun j hj _ => s1 j hj, .inr ⟨g1, g2, 0, by omega, g3⟩⟩
end Go.Proofs.YtilcajpldklbiaaDoor
namespace Go.Proofs.YtilcajpldklbiaaDoor
open Go.Ab
structure tI (f n : Nat) (M : AM) (t : Nat → Ent) (d : Nat → Int) : Prop where
 dl : ∀ k, k < 8 → ∃ q : Nat, d k = q ∧ f ≤ q ∧ q < n ∧ Sur M q ∧ aF t q = false
 dj : ∀ k l, k < 8 → l < 8 → k ≠ l → d k ≠ d l
 lf : ∀ k, k < 7 → M.S (d k).toNat = bj t k
 rt : M.S (d 7).toNat = aL d
 ln : ∀ i, i < 49 → (t i).kind ≠ 0 → ∃ q : Nat, (t i).line = q ∧ f ≤ q ∧ q < n ∧ Sur M q
 g : ou t
abbrev Lay := tI 10
theorem tI.sm {f n : Nat} {M M' : AM} {t : Nat → Ent} {d : Nat → Int} (h : tI f n M t d) (hs : ∀ j, f ≤ j → Sur M j → Sm M M' j) : tI f n M' t d := by
 refine ⟨fun k hk => ?_, h.dj, fun k hk => ?_, ?_, fun i hi hk => ?_, h.g⟩
 ·obtain ⟨q, q1, q2, q3, q4, q5⟩ := h.dl k hk;exact ⟨q, q1, q2, q3, (hs q q2 q4).sur q4, q5⟩
 ·obtain ⟨q, q1, q2, q3, q4, q5⟩ := h.dl k (by omega);have := h.lf k hk;rw [q1, Int.toNat_natCast] at this ⊢;rw [(hs q q2 q4).S]; exact this
 ·obtain ⟨q, q1, q2, q3, q4, q5⟩ := h.dl 7 (by omega);have := h.rt;rw [q1, Int.toNat_natCast] at this ⊢;rw [(hs q q2 q4).S]; exact this
 ·obtain ⟨q, q1, q2, q3, q4⟩ := h.ln i hi hk;exact ⟨q, q1, q2, q3, (hs q q2 q4).sur q4⟩
theorem Img.lay {x : AS} (h : Img x) : Lay x.M.n x.M x.base x.dir := by
 refine ⟨fun k hk => ?_, h.dj, h.lf, h.rt, fun i hi hk => ?_, h.gb⟩
 ·obtain ⟨q, q1, q2, q3, q4, q5, q6⟩ := h.dl k hk;exact ⟨q, q1, q2, q3, h.sur q (.inr (.inr (cR.2 ⟨k, hk, q1⟩))), q6⟩
 ·have := h.inv.ok.b.inn i hi hk;have hf := h.f;have hl := h.inv.ok.l;refine ⟨(x.base i).line.toNat, by omega, by omega, by omega, h.sur _ (.inr (.inl (aU.2 ⟨i, hi, hk, by omega⟩)))⟩
section
variable {x0 : AS} {G : List (Nat × Int)} {w : AW}
theorem Ck.lay (h : Ck x0 G w) (hw : w.st = [(4, 0)]) (hg : ou x0.work) : Lay w.x.M.n w.x.M x0.work w.dir := by
 obtain ⟨f1, f2⟩ : (∀ j : Nat, aF x0.work j = true → Sur w.x.M j) ∧ ∀ k, k < 8 → Sur w.x.M (w.dir k).toNat := by
  rcases h.fe with e | e
  ·rw [hw] at e; simp at e
  ·exact e
 refine ⟨fun k hk => ?_, h.dj, fun k hk => ?_, ?_, fun i hi hk => ?_, hg⟩
 ·obtain ⟨q, q1, q2, q3, q4, q5, q6, q7⟩ := h.d1 k hk;have := f2 k hk;rw [q1, Int.toNat_natCast] at this;exact ⟨q, q1, q2, q3, this, by rw [← h.mark]; exact q7⟩
 ·rcases h.lf k hk with e | e
  ·rw [hw] at e; simp at e
  ·rw [← (f2 k (by omega)).now]; exact e.1
 ·rcases h.rt with e | e
  ·rw [hw] at e; simp at e
  ·rw [← (f2 7 (by omega)).now]; exact e.1
 ·have := h.inv.ok.k.inn i hi (by rw [h.mark]; exact hk);rw [h.mark] at this;have hf := h.f;have hl := h.inv.ok.l;refine ⟨(x0.work i).line.toNat, by omega, by omega, by omega, f1 _ (aU.2 ⟨i, hi, hk, by omega⟩)⟩
end
end Go.Proofs.YtilcajpldklbiaaDoor
namespace Go.Proofs.YtilcajpldklbiaaDoor
open Go.Ab
theorem By (c : Int) : ∃ x : Nat, IntKind.u64.wrap c = x ∧ x < 18446744073709551616 := by
 have h0 : 0 ≤ IntKind.u64.wrap c ∧ IntKind.u64.wrap c < 18446744073709551616 := by
  unfold IntKind.wrap;simp only [IntKind.signed, IntKind.bits, Bool.false_and, Bool.false_eq_true, if_false];constructor
  ·exact Int.emod_nonneg _ (by decide)
  ·exact Int.emod_lt_of_pos _ (by decide)
 exact ⟨(IntKind.u64.wrap c).toNat, by omega, by omega⟩
theorem oc (l : List Int) : 4294967296 ≤ jn l ∧ jn l < 18446744073709551616 := by
 unfold jn;obtain ⟨x, hx, hlt⟩ := By (fu (ir (fu 0) ((List.range 56).map (a7 l 8 0))));rw [hx];have := wu (n := 4294967296) (m := x) (by decide) hlt;rw [show ((4294967296 : Nat) : Int) = 4294967296 from rfl] at this
 rw [this];have h1 : 4294967296 ≤ 4294967296 ||| x := Nat.left_le_or;have h2 : 4294967296 ||| x < 2 ^ 64 := Nat.or_lt_two_pow (by decide) hlt;omega
theorem Fy {l : List Int} {v : Int} : jn (l.set 7 v) = jn l := by
 have : (List.range 56).map (a7 (l.set 7 v) 8 0) = (List.range 56).map (a7 l 8 0) := by
  apply List.map_congr_left;intro j hj;rw [List.mem_range] at hj;unfold a7;have : (l.set 7 v).getD (j / 8) 0 = l.getD (j / 8) 0 := by
   rw [List.getD_eq_getElem?_getD, List.getD_eq_getElem?_getD, List.getElem?_set_ne (by omega)]
  rw [this]
 unfold jn;rw [this]
theorem xc (l : List Int) : a8 (a8 l) = a8 l := by
 have : jn (a8 l) = jn l := by unfold a8; exact Fy
 show (a8 l).set 7 (jn (a8 l)) = a8 l;rw [this];unfold a8;rw [List.set_set]
theorem dU {l : List Int} {j : Nat} (hj : j ≠ 7) : (a8 l).getD j 0 = l.getD j 0 := by
 unfold a8;rw [List.getD_eq_getElem?_getD, List.getD_eq_getElem?_getD, List.getElem?_set_ne (Ne.symm hj)]
theorem sE {l : List Int} (hl : l.length = 8) : (a8 l).getD 7 0 = jn l := by
 unfold a8;rw [List.getD_eq_getElem?_getD, List.getElem?_set_self (by omega)]; rfl
theorem En {d : Int} (h0 : 0 ≤ d) (h1 : d < 1024) : kG .u64 (ior .u64 4294967296 (IntKind.u64.wrap d)) 4294967296 = d := by
 obtain ⟨n, rfl⟩ : ∃ n : Nat, d = n := ⟨d.toNat, by omega⟩;have hn : n < 1024 := by omega
 rw [gz (by omega) (by omega)];have e1 := wu (n := 4294967296) (m := n) (by decide) (by omega);rw [show ((4294967296 : Nat) : Int) = 4294967296 from rfl] at e1
 have hlt : 4294967296 ||| n < 2 ^ 64 := Nat.or_lt_two_pow (by decide) (by omega);have e2 := yT (n := 4294967296 ||| n) (m := 4294967296) hlt (by decide);rw [show ((4294967296 : Nat) : Int) = 4294967296 from rfl] at e2
 rw [e1, e2];congr 1;apply Nat.eq_of_testBit_eq;intro i;rw [Nat.testBit_xor, Nat.testBit_or];have h32 : (4294967296 : Nat) = 2 ^ 32 := rfl;rw [h32, Nat.testBit_two_pow];by_cases hi : 32 = i
 ·subst hi;have : n.testBit 32 = false := Nat.testBit_lt_two_pow (by omega);simp [this]
 ·simp [hi]
theorem LG {d : Nat → Int} {j : Nat} (hj : j < 7) : (rlL d 7).getD j 0 = ior .u64 4294967296 (IntKind.u64.wrap (d j)) := by
 unfold rlL;rw [List.getD_eq_getElem?_getD, List.getElem?_map, List.getElem?_range (by omega)];simp [hj]
theorem vG {d : Nat → Int} (h : ∀ j, j < 7 → 0 ≤ d j ∧ d j < 1024) : jJ (aL d) = true ∧ ∀ j, j < 7 → am (aL d) j = d j := by
 have hok : gD d 0 7 = true := by
  unfold gD;simp only [List.all_eq_true, List.mem_range, Bool.and_eq_true, decide_eq_true_eq];intro j hj;rw [Nat.zero_add]; exact h j hj
 have hr : aL d = a8 (rlL d 7) := by unfold aL; rw [if_pos hok]
 have hv : ∀ j, j < 7 → rdv (aL d) j = d j := fun j hj => by
  unfold rdv;rw [hr, dU (by omega), LG hj];exact En (h j hj).1 (h j hj).2
 have his : jJ (aL d) = true := by
  unfold jJ;rw [hr, xc, decide_eq_true rfl, Bool.true_and, ← hr];unfold sZ;simp only [List.all_eq_true, List.mem_range, decide_eq_true_eq];intro j hj;rw [Nat.zero_add, hv j hj]; exact (h j hj).2
 refine ⟨his, fun j hj => ?_⟩;unfold am rdN;rw [if_pos his, hv j hj];have := h j hj;exact ai (by omega) (by omega)
theorem HJ {e : Ent} (h : jw e = true) : ∃ w : Nat, jY e = w ∧ w < 2 ^ 44 ∧ gh w = e := by
 obtain ⟨h1, h2, h3, h4⟩ := pK.1 h;obtain ⟨k, v, l⟩ := e;simp only at h1 h2 h3 h4;obtain ⟨k, rfl⟩ : ∃ n : Nat, k = n := ⟨k.toNat, by omega⟩;obtain ⟨v, rfl⟩ : ∃ n : Nat, v = n := ⟨v.toNat, by omega⟩;obtain ⟨l, rfl⟩ : ∃ n : Nat, l = n := ⟨l.toNat, by omega⟩;have s1 : nY .u64 (v : Int) 4 = ((v * 2 ^ 4 : Nat) : Int) := by
  unfold nY;rw [show (2 : Int) ^ (min (4 : Int).toNat IntKind.u64.bits) = 16 from rfl, gz (by omega) (by omega)]
  omega
 have s2 : nY .u64 (l : Int) 28 = ((l * 2 ^ 28 : Nat) : Int) := by
  unfold nY;rw [show (2 : Int) ^ (min (28 : Int).toNat IntKind.u64.bits) = 268435456 from rfl, gz (by omega) (by omega)]
  omega
 have o1 := B4 (n := k) (m := v) 4 (by omega) (by omega) (by omega);have o2 := B4 (n := k + v * 2 ^ 4) (m := l) 28 (by omega) (by omega) (by omega);refine ⟨k + v * 2 ^ 4 + l * 2 ^ 28, ?_, by omega, ?_⟩
 ·unfold jY;simp only;rw [gz (by omega) (by omega), gz (by omega) (by omega), gz (by omega) (by omega), s1, s2, o1, o2]
 ·unfold gh;rw [show (k + v * 2 ^ 4 + l * 2 ^ 28) % 16 = k by omega, show (k + v * 2 ^ 4 + l * 2 ^ 28) / 16 % 16777216 = v by omega, show (k + v * 2 ^ 4 + l * 2 ^ 28) / 268435456 % 65536 = l by omega]
theorem Ms {t : Nat → Ent} {k j : Nat} (hj : j < 7) : (lfL t k 7).getD j 0 = jY (t (7 * k + j)) := by
 unfold lfL;rw [List.getD_eq_getElem?_getD, List.getElem?_map, List.getElem?_range (by omega)];simp [hj]
theorem CQ {t : Nat → Ent} {k : Nat} (h : ∀ j, j < 7 → jw (t (7 * k + j)) = true) : jg (bj t k) = true ∧ (∀ j, j < 7 → iZ (bj t k) j = t (7 * k + j)) ∧ ∀ x ∈ bj t k, 0 ≤ x ∧ x < 18446744073709551616 := by
 have hok : lz t k 0 7 = true := by
  unfold lz;simp only [List.all_eq_true, List.mem_range];intro j hj;rw [Nat.zero_add]; exact h j hj
 have hr : bj t k = a8 (lfL t k 7) := by unfold bj; rw [if_pos hok]
 have hl8 := sg t k 7;have hg : ∀ j, j < 7 → ∃ w : Nat, (bj t k).getD j 0 = w ∧ w < 2 ^ 44 ∧ gh w = t (7 * k + j) ∧ pM w = true := fun j hj => by
  obtain ⟨w, w1, w2, w3⟩ := HJ (h j hj);refine ⟨w, by rw [hr, dU (by omega), Ms hj]; exact w1, w2, w3, ?_⟩;unfold pM;rw [w3, h j hj, w1];simp
 have his : jg (bj t k) = true := by
  unfold jg;rw [hr, xc, decide_eq_true rfl, Bool.true_and, ← hr];unfold tG rdl;simp only [List.all_eq_true, List.mem_range];intro j hj;rw [Nat.zero_add];obtain ⟨w, w1, _, _, w4⟩ := hg j hj;rw [w1, Int.toNat_natCast]; exact w4
 refine ⟨his, fun j hj => ?_, fun x hx => ?_⟩
 ·obtain ⟨w, w1, _, w3, _⟩ := hg j hj;unfold iZ rz;rw [if_pos his, w1, Int.toNat_natCast]; exact w3
 ·obtain ⟨j, hj, rfl⟩ := List.mem_iff_getElem.1 hx;have hj8 : j < 8 := by rw [lH] at hj; exact hj
  have e : (bj t k)[j] = (bj t k).getD j 0 := by rw [List.getD_eq_getElem?_getD, List.getElem?_eq_getElem hj]; rfl
  rw [e];by_cases h7 : j = 7
  ·subst h7;rw [hr, sE hl8];have := oc (lfL t k 7);omega
  ·obtain ⟨w, w1, w2, _⟩ := hg j (by omega);rw [w1]; omega
theorem wV {b : Sup} (h : b.ok = true) : dh (aQ b) = true ∧ cJ (aQ b) = b := by
 have h' := h;unfold Sup.ok win at h';simp only [Bool.and_eq_true, decide_eq_true_eq] at h';have hr : aQ b = a8 (jM b) := by unfold aQ; rw [if_pos h]
 have e : cJ (aQ b) = b := by
  unfold cJ;rw [hr, dU (by decide), dU (by decide), dU (by decide), dU (by decide)];obtain ⟨g, r, q, c⟩ := b;simp only at h';have e1 : (jM ⟨g, r, q, c⟩).getD 1 0 = IntKind.u64.wrap g := rfl;have e2 : (jM ⟨g, r, q, c⟩).getD 2 0 = IntKind.u64.wrap r := rfl;have e3 : (jM ⟨g, r, q, c⟩).getD 3 0 = IntKind.u64.wrap q := rfl;have e4 : (jM ⟨g, r, q, c⟩).getD 4 0 = IntKind.u64.wrap c := rfl;rw [e1, e2, e3, e4, gz (by omega) (by omega), gz (by omega) (by omega), gz (by omega) (by omega), gz (by omega) (by omega), ai (by omega) (by omega), ai (by omega) (by omega), ai (by omega) (by omega), ai (by omega) (by omega)]
 refine ⟨?_, e⟩;unfold dh;rw [e, h];simp
theorem BD {l : List Int} (h : l.getD 7 0 = 0) : dh l = false := by
 cases hs : dh l with
 | false => rfl
 | true =>
  unfold dh at hs;rw [Bool.and_eq_true, decide_eq_true_eq] at hs;obtain ⟨h1, h2⟩ := hs;have hr : aQ (cJ l) = a8 (jM (cJ l)) := by unfold aQ; rw [if_pos h1]
  rw [hr] at h2;rw [← h2, sE rfl] at h;have := oc (jM (cJ l));omega
theorem FW {f : Nat} {M : AM} {l : List Int} {d : Nat → Int} (hd : ∀ k, k < 7 → am l k = d k) (h1 : ∀ k, k < 7 → ∃ q : Nat, d k = q ∧ f ≤ q ∧ q < M.n) (hj : ∀ k l, k < 8 → l < 8 → k ≠ l → d k ≠ d l) (hl : ∀ k, k < 7 → jg (M.now (d k).toNat) = true) :
 ∀ (n k : Nat) (ks : List Int), k + n = 7 → (∀ x ∈ ks, x = d 7 ∨ ∃ i, i < k ∧ x = d i) → pl M f l ks k n = true ∧ ∀ x ∈ kF l ks k n, x = d 7 ∨ ∃ i, i < 7 ∧ x = d i
 | 0, k, ks, hk, h => ⟨rfl, fun x hx => (h x hx).imp id fun ⟨i, i1, i2⟩ => ⟨i, by omega, i2⟩⟩
 | n + 1, k, ks, hk, h => by
  have hk7 : k < 7 := by omega
  obtain ⟨q, q1, q2, q3⟩ := h1 k hk7;have hnot : d k ∉ ks := fun hm => by
   rcases h _ hm with e | ⟨i, i1, i2⟩
   ·exact hj k 7 (by omega) (by omega) (by omega) e
   ·exact hj k i (by omega) (by omega) (by omega) i2
  have ho : onc M.n f ks (d k) = true := by
   unfold onc;simp only [Bool.and_eq_true, decide_eq_true_eq, Bool.not_eq_true', decide_eq_false_iff_not];exact ⟨by omega, by omega, by omega, hnot⟩
  obtain ⟨r1, r2⟩ := FW hd h1 hj hl n (k + 1) (ks ++ [d k]) (by omega) fun x hx => by
   rcases List.mem_append.1 hx with e | e
   ·exact (h x e).imp id fun ⟨i, i1, i2⟩ => ⟨i, by omega, i2⟩
   ·exact .inr ⟨k, by omega, List.mem_singleton.1 e⟩
  unfold pl kF;rw [hd k hk7, ho, hl k hk7, r1];exact ⟨rfl, r2⟩
theorem zL {f n' : Nat} {t : Nat → Ent} (hg : ou t) (h1 : ∀ i, i < 49 → (t i).kind ≠ 0 → ∃ q : Nat, (t i).line = q ∧ f ≤ q ∧ q < n') (hd : List Int) (hno : ∀ i, i < 49 → (t i).kind ≠ 0 → (t i).line ∉ hd) :
 ∀ (n i : Nat) (ks : List Int), i + n = 49 → (∀ x ∈ ks, x ∈ hd ∨ ∃ j, j < i ∧ (t j).kind ≠ 0 ∧ x = (t j).line) → md n' f t ks i n = true
 | 0, i, ks, hi, h => rfl
 | n + 1, i, ks, hi, h => by
  unfold md;by_cases hk : (t i).kind = 0
  ·rw [if_pos hk];exact zL hg h1 hd hno n (i + 1) ks (by omega) fun x hx => (h x hx).imp id fun ⟨j, j1, j2⟩ => ⟨j, by omega, j2⟩
  ·rw [if_neg hk];obtain ⟨q, q1, q2, q3⟩ := h1 i (by omega) hk;have hnot : (t i).line ∉ ks := fun hm => by
    rcases h _ hm with e | ⟨j, j1, j2, j3⟩
    ·exact hno i (by omega) hk e
    ·exact hg.j i j (by omega) (by omega) (by omega) hk j2 j3
   have ho : onc n' f ks (t i).line = true := by
    unfold onc;simp only [Bool.and_eq_true, decide_eq_true_eq, Bool.not_eq_true', decide_eq_false_iff_not];exact ⟨by omega, by omega, by omega, hnot⟩
   rw [ho, Bool.true_and];exact zL hg h1 hd hno n (i + 1) (ks ++ [(t i).line]) (by omega) fun x hx => by
    rcases List.mem_append.1 hx with e | e
    ·exact (h x e).imp id fun ⟨j, j1, j2⟩ => ⟨j, by omega, j2⟩
    ·exact .inr ⟨i, by omega, hk, List.mem_singleton.1 e⟩
end Go.Proofs.YtilcajpldklbiaaDoor
namespace Go.Proofs.YtilcajpldklbiaaDoor
open Go.Ab
theorem tI.loads {f : Nat} {M : AM} {t : Nat → Ent} {d : Nat → Int} (h : tI f M.n M t d) (ok : M.Ok) : tE M f (d 7) = true ∧ (∀ i, i < 49 → ldT M (M.now (d 7).toNat) i = t i) ∧
 ∀ k, k < 7 → ∀ x ∈ M.now (am (M.now (d 7).toNat) k).toNat, 0 ≤ x ∧ x < 18446744073709551616 := by
 have hn := ok.n1;have hrange : ∀ k, k < 8 → 0 ≤ d k ∧ d k < 1024 := fun k hk => by
  obtain ⟨q, q1, q2, q3, _⟩ := h.dl k hk;omega
 have hnow : ∀ k, k < 8 → M.now (d k).toNat = M.S (d k).toNat := fun k hk => by
  obtain ⟨q, q1, _, _, q4, _⟩ := h.dl k hk;rw [q1, Int.toNat_natCast]; exact q4.now
 have hroot : M.now (d 7).toNat = aL d := by rw [hnow 7 (by decide)]; exact h.rt
 have hleaf : ∀ k, k < 7 → M.now (d k).toNat = bj t k := fun k hk => by rw [hnow k (by omega)]; exact h.lf k hk
 obtain ⟨r1, r2⟩ := vG (d := d) fun j hj => hrange j (by omega);have lr := fun k (hk : k < 7) => CQ (t := t) (k := k) fun j hj => h.g.e (7 * k + j) (by omega);rw [hroot];have hT : ∀ i, i < 49 → ldT M (aL d) i = t i := fun i hi => by
  unfold ldT;rw [r2 (i / 7) (by omega), hleaf (i / 7) (by omega), (lr (i / 7) (by omega)).2.1 (i % 7) (by omega)];rw [show 7 * (i / 7) + i % 7 = i by omega]
 refine ⟨?_, hT, fun k hk x hx => ?_⟩
 ·obtain ⟨q, q1, q2, q3, _⟩ := h.dl 7 (by decide);have ho : onc M.n f [] (d 7) = true := by
   unfold onc;simp only [Bool.and_eq_true, decide_eq_true_eq, Bool.not_eq_true', decide_eq_false_iff_not];exact ⟨by omega, by omega, by omega, by simp⟩
  obtain ⟨l1, l2⟩ := FW (f := f) (M := M) (l := aL d) (d := d) r2 (fun k hk => by
   obtain ⟨q, q1, q2, q3, _⟩ := h.dl k (by omega);exact ⟨q, q1, q2, q3⟩) h.dj (fun k hk => by rw [hleaf k hk]; exact (lr k hk).1) 7 0 [d 7] rfl fun x hx => .inl (List.mem_singleton.1 hx)
  have hkk : ∀ i, i < 49 → (ldT M (aL d) i).kind = (t i).kind ∧ (ldT M (aL d) i).line = (t i).line := fun i hi => by rw [hT i hi]; exact ⟨rfl, rfl⟩
  have hG : ou (ldT M (aL d)) := ⟨fun i hi => by rw [hT i hi]; exact h.g.e i hi, fun i j hi hj hne h1 h2 => by
   rw [hT i hi] at h1 ⊢; rw [hT j hj] at h2 ⊢; exact h.g.j i j hi hj hne h1 h2⟩
  have hobj := zL (f := f) (n' := M.n) hG (fun i hi hk => by
   rw [hT i hi] at hk ⊢;obtain ⟨q, q1, q2, q3, _⟩ := h.ln i hi hk;exact ⟨q, q1, q2, q3⟩) (kF (aL d) [d 7] 0 7) (fun i hi hk hm => by
   rw [hT i hi] at hk hm;have hdk : ∃ k, k < 8 ∧ (t i).line = d k := by
    rcases l2 _ hm with e | ⟨k, k1, k2⟩
    ·exact ⟨7, by decide, e⟩
    ·exact ⟨k, by omega, k2⟩
   obtain ⟨k, k1, k2⟩ := hdk;obtain ⟨q, q1, _, _, _, q5⟩ := h.dl k k1;have := aU.2 ⟨i, hi, hk, k2.trans q1⟩;rw [q5] at this; cases this) 49 0 (kF (aL d) [d 7] 0 7) rfl fun x hx => .inl hx
  unfold tE;rw [hroot, ho, r1, l1, hobj];rfl
 ·rw [r2 k hk, hleaf k hk] at hx;exact (lr k hk).2.2 x hx
theorem ra {j : Nat} : ∀ (n i : Nat) {M : AM} {ks : List Int}, Sur M j → Sm M (M.crashN ks i n) j
 | 0, _, M, _, _ => .refl M j
 | n + 1, i, M, ks, h => by
  unfold AM.crashN;split
  ·exact ra n (i + 1) h
  ·rename_i hne;have hij : j ≠ i := fun e => hne (by rw [← e]; exact h);have s1 := td (M := M) (n := ((nxK ks).1 % (((M.L i).length : Int) + 1)).toNat) hij;have s2 : Sm (M.sureN i ((nxK ks).1 % (((M.L i).length : Int) + 1)).toNat) ((M.sureN i ((nxK ks).1 % (((M.L i).length : Int) + 1)).toNat).cleared i) j :=
    ⟨by simp only [AM.cleared]; exact an hij, rfl⟩
   exact (s1.trans s2).trans (ra n (i + 1) (s2.sur (s1.sur h)))
theorem tN {M : AM} {ks : List Int} {j : Nat} (h : Sur M j) : Sm M (M.crash ks) j := by
 have := ra (ks := ks) M.n 0 h;exact ⟨this.L, this.S⟩
end Go.Proofs.YtilcajpldklbiaaDoor
namespace Go.Proofs.YtilcajpldklbiaaDoor
open Go.Ab
end Go.Proofs.YtilcajpldklbiaaDoor
namespace Go.Proofs.YtilcajpldklbiaaDoor
open Go.Ab
end Go.Proofs.YtilcajpldklbiaaDoor
namespace Go.Proofs.YtilcajpldklbiaaDoor
open Go.Ab
end Go.Proofs.YtilcajpldklbiaaDoor
namespace Go.Proofs.YtilcajpldklbiaaDoor
open Go.Ab
section
variable {m : Nat}
end
end Go.Proofs.YtilcajpldklbiaaDoor
