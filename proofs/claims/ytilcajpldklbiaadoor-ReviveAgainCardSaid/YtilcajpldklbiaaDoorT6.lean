/-
  YtilcajpldklbiaaDoorT6: what functions of the program compute (RevA, RevB, RevC, RevD, RevE, RevF, RevG, RevH, RevI, RevJ, RevK).
-/
import Derived.Test.YtilcajpldklbiaaDoorT5
set_option maxRecDepth 100000
namespace Go.Proofs.YtilcajpldklbiaaDoor
open Go.Ab
structure Rec where
 seq : Int
 id : Int
 word : Int
 val : Int
def Rec.v (r : Rec) : V := .agg 54 [.int .i64 r.seq, .int .i64 r.id, .int .i64 r.word, .int .u64 r.val]
def Rec.ok (r : Rec) : Bool := win r.seq 1 1099511627776 && (win r.id 0 48 && win r.word 0 7)
def jx : Rec := ⟨0, 0, 0, 0⟩
theorem Rec.ok_iff {r : Rec} : r.ok = true ↔ (1 ≤ r.seq ∧ r.seq ≤ 1099511627776) ∧ (0 ≤ r.id ∧ r.id ≤ 48) ∧ 0 ≤ r.word ∧ r.word ≤ 7 := by
 unfold Rec.ok win;simp only [Bool.and_eq_true, decide_eq_true_eq]
def pd (r : Rec) : List Int := [274726912, IntKind.u64.wrap r.seq, IntKind.u64.wrap r.id, IntKind.u64.wrap r.word, r.val, 0, 0, 0]
def aX (r : Rec) : List Int := if r.ok = true then a8 (pd r) else zl
theorem sY (r : Rec) : (aX r).length = 8 := by
 unfold aX;split
 ·rw [lN]; rfl
 ·rfl
theorem qM (r : Rec) (s : St) : rf D oj [r.v] s = some (.tup [lnV (aX r), .int .i64 (if r.ok = true then 0 else 1)], s) := by
 have hs := fun s => i9 (l := pd r) rfl s;have hz : lnV zl = .agg 24 (List.replicate 8 (.int .u64 0)) := rfl;have hok := Rec.ok_iff (r := r);unfold aX;have hl : lnV (pd r) = .agg 24 [.int .u64 274726912, .int .u64 (IntKind.u64.wrap r.seq), .int .u64 (IntKind.u64.wrap r.id), .int .u64 (IntKind.u64.wrap r.word), .int .u64 r.val, .int .u64 0, .int .u64 0, .int .u64 0] := rfl;rw [hl] at hs;obtain ⟨q, i, w, v⟩ := r;simp only [Rec.v] at *;by_cases h : Rec.ok ⟨q, i, w, v⟩ = true
 ·rw [if_pos h, if_pos h];have h2 := hok.1 h;have a1 : ¬ q < 1 := by omega
  have a2 : ¬ q > 1099511627776 := by omega
  have a3 : ¬ i < 0 := by omega
  have a4 : ¬ i ≥ 49 := by omega
  have a5 : ¬ w < 0 := by omega
  have a6 : ¬ w ≥ 8 := by omega
  generalize a8 (pd ⟨q, i, w, v⟩) = Z at *;have tz : (lnV Z).tag = 24 := rfl;have oz : (lnV Z).ok = true := rfl;have vz : V.locLt s.loc.length (lnV Z) = true := nu;generalize lnV Z = Y at *;have hrep : List.replicate 8 (V.int .u64 0) = [.int .u64 0, .int .u64 0, .int .u64 0, .int .u64 0, .int .u64 0, .int .u64 0, .int .u64 0, .int .u64 0] := rfl;rw [ae fC rfl];simp only [go_sem, a1, a2, a3, a4, a5, a6, hs, tz, oz, vz, hrep]
 ·rw [if_neg h, if_neg h, hz];clear hs hl;by_cases a1 : q < 1
  ·rw [ae fC rfl];simp only [go_sem, a1]
  ·by_cases a2 : q > 1099511627776
   ·rw [ae fC rfl];simp only [go_sem, a1, a2]
   ·by_cases a3 : i < 0
    ·rw [ae fC rfl];simp only [go_sem, a1, a2, a3]
    ·by_cases a4 : i ≥ 49
     ·rw [ae fC rfl];simp only [go_sem, a1, a2, a3, a4]
     ·by_cases a5 : w < 0
      ·rw [ae fC rfl];simp only [go_sem, a1, a2, a3, a4, a5]
      ·by_cases a6 : w ≥ 8
       ·rw [ae fC rfl];simp only [go_sem, a1, a2, a3, a4, a5, a6]
       ·exact absurd (hok.2 (by omega)) h
def cf (l : List Int) : Rec := ⟨IntKind.i64.wrap (l.getD 1 0), IntKind.i64.wrap (l.getD 2 0), IntKind.i64.wrap (l.getD 3 0), l.getD 4 0⟩
def iG (l : List Int) : Bool := (cf l).ok && decide (aX (cf l) = l)
theorem rD {l : List Int} (hl : l.length = 8) (s : St) : rf D nW [lnV l] s = some (.tup [(if iG l = true then cf l else jx).v, .bool (iG l)], s) := by
 have hL := fun s => qM (cf l) s;have g1 : (l.map (V.int .u64))[1]? = some (.int .u64 (l.getD 1 0)) := aG (by omega) 0;have g2 : (l.map (V.int .u64))[2]? = some (.int .u64 (l.getD 2 0)) := aG (by omega) 0;have g3 : (l.map (V.int .u64))[3]? = some (.int .u64 (l.getD 3 0)) := aG (by omega) 0;have g4 : (l.map (V.int .u64))[4]? = some (.int .u64 (l.getD 4 0)) := aG (by omega) 0;have he := yA (a := aX (cf l)) (b := l) (by rw [sY, hl]);have hv : (cf l).v = .agg 54 [.int .i64 (IntKind.i64.wrap (l.getD 1 0)), .int .i64 (IntKind.i64.wrap (l.getD 2 0)), .int .i64 (IntKind.i64.wrap (l.getD 3 0)), .int .u64 (l.getD 4 0)] := rfl;have hz : jx.v = .agg 54 [.int .i64 0, .int .i64 0, .int .i64 0, .int .u64 0] := rfl;unfold iG;generalize cf l = b at *;rw [hv] at hL;cases hb : b.ok with
 | false =>
  rw [hb] at hL;rw [Bool.false_and, if_neg (by simp), hz];simp only [Bool.false_eq_true, if_false, lnV] at *;generalize aX b = z at *;rw [ae n6 rfl];simp only [go_sem, g1, g2, g3, g4, hL]
 | true =>
  rw [hb] at hL;rw [Bool.true_and];simp only [if_true, lnV] at *;generalize aX b = z at *;by_cases hz2 : z = l
  ·rw [decide_eq_true hz2] at he ⊢;rw [if_pos rfl, hv];rw [ae n6 rfl];simp only [go_sem, g1, g2, g3, g4, hL, he]
  ·rw [decide_eq_false hz2] at he ⊢;rw [if_neg (by simp), hz];rw [ae n6 rfl];simp only [go_sem, g1, g2, g3, g4, hL, he]
theorem gC {c n : Int} (h0 : 0 ≤ c ∧ c ≤ 1000) (h1 : 0 ≤ n ∧ n ≤ 1000) (s : St) : rf D nB [.int .i64 c, .int .i64 n] s = some (.int .i64 (2 + 4 * c + n), s) := by
 have w1 : IntKind.i64.wrap (4 * c) = 4 * c := ai (by omega) (by omega);have w2 : IntKind.i64.wrap (2 + 4 * c) = 2 + 4 * c := ai (by omega) (by omega);have w3 : IntKind.i64.wrap (2 + 4 * c + n) = 2 + 4 * c + n := ai (by omega) (by omega);rw [ae yP rfl];simp only [go_sem, w1, w2, w3]
theorem oE {c : Int} (h0 : 0 ≤ c ∧ c ≤ 1000) (s : St) : rf D lT [.int .i64 c] s = some (.int .i64 (2 + 4 * c), s) := by
 have h := fun s => gC (n := 0) h0 (by omega) s;rw [Int.add_zero] at h;rw [ae xE rfl];simp only [go_sem, h]
end Go.Proofs.YtilcajpldklbiaaDoor
namespace Go.Proofs.YtilcajpldklbiaaDoor
open Go.Ab
def aE (M : AM) : Nat → Nat → List Rec
 | _, 0 => []
 | i, n + 1 => (if iG (M.now i) = true then [cf (M.now i)] else []) ++ aE M (i + 1) n
theorem pi (M : AM) : ∀ n i, (aE M i n).length ≤ n
 | 0, _ => Nat.le_refl _
 | n + 1, i => by
  have := pi M n (i + 1);unfold aE;split
  ·simp only [List.length_append, List.length_singleton]; omega
  ·simp only [List.nil_append]; omega
theorem o5 (M : AM) : ∀ n i, ∀ r ∈ aE M i n, r.ok = true
 | 0, _, r, h => by cases h
 | n + 1, i, r, h => by
  unfold aE at h;rcases List.mem_append.1 h with h | h
  ·split at h
   ·rename_i hr;rw [List.mem_singleton.1 h];unfold iG at hr;rw [Bool.and_eq_true] at hr;exact hr.1
   ·cases h
  ·exact o5 M n (i + 1) r h
theorem Gu {LL hp : List Blk} {p : Nat} {G : Ft} {v : V} {l : List Rec} (hr : LL[p]? = some (.rw v)) (h : SlR hp G 54 56 v (l.map Rec.v)) (hl : l.length ≤ 1000) (r : Rec) (i : Int) :
 ∃ v' hp', rf D dw [.int .i64 i, r.v, .bool true, .ptr (.loc p) [] 1] ⟨LL, hp⟩ = some (.bool true, ⟨LL.set p (.rw v'), hp'⟩) ∧ SlR hp' (.one hp.length) 54 56 v' ((l ++ [r]).map Rec.v) ∧ Chg hp hp' G (.one hp.length) ∧ hp'.length = hp.length + 1 := by
 have hpl := ap hr;obtain ⟨H2, r1, r2, r3, r4⟩ := h.push (base := LL.length) (y := .sl (.loc (LL.length + 1)) [] 0 1 (some 1) 54) (new := [r.v]) (LL ++ [.rw r.v, .rw (.agg 56 [r.v])]) (.inr ⟨_, _, _, _, _, rfl⟩) (jb (t := 56) (by simp [tX, ue, nq]) rfl) (by simp) (by simp [fB]; omega) (.inl rfl);refine ⟨.sl (.hp hp.length) [] 0 (List.map Rec.v l ++ [r.v]).length none 54, H2, ?_, ?_, ⟨by omega, fun j hj hn => r4 j hj hn, fun j hj => .inr (by cases hj; exact Nat.le_refl _)⟩, r2⟩
 ·have z1 : LL.length < LL.length + 2 := by omega
  have z0 : p < LL.length + 2 := by omega
  have hr2 : ∀ X, (LL ++ X)[p]? = some (.rw v) := fun X => by rw [List.getElem?_append_left hpl]; exact hr
  have hs2 : ∀ X b, (LL ++ X).set p b = LL.set p b ++ X := fun X b => List.set_append_left _ _ hpl;have hvo := h.ok;have hvt := h.tag;generalize hNV : V.sl (.hp hp.length) [] 0 (List.map Rec.v l ++ [r.v]).length none 54 = NV at *;have nt : NV.tag = 1 := by rw [← hNV]; rfl
  have nl : V.locLt 0 NV = true := by rw [← hNV]; rfl
  have hrep : ∀ X : V, List.replicate 1 X = [X] := fun _ => rfl;simp only [Rec.v] at *;rw [ae qa rfl];simp only [go_sem, hrep, hr2, r1, hs2, nt, nl];rw [if_pos (by simp), List.take_left' (by simp)]
 ·rw [List.map_append];exact .blk _ none _ (.inl rfl) rfl r3
theorem Gw {LL hp : List Blk} {p : Nat} (r : Rec) (i : Int) : rf D dw [.int .i64 i, r.v, .bool false, .ptr (.loc p) [] 1] ⟨LL, hp⟩ = some (.bool true, ⟨LL, hp⟩) := by
 simp only [Rec.v];rw [ae qa rfl];simp only [go_sem]
section
variable {m : Nat} {M : AM} {F : Ft}
theorem rC (hoff : M.off = false) {to : Nat} (hto : to ≤ M.n) (L : List Blk) : ∀ (n i : Nat) {hp : List Blk} {G : Ft} {v : V} {l : List Rec}, i + n = to → ay hp F m M → SlR hp G 54 56 v (l.map Rec.v) → l.length + n ≤ 1000 → gV G F → Inn hp G →
 ∃ hp' G' v', rc D (L.length + 1) (.loop [0, 2, 3, 9] bO) [(0, .ptr (.hp m) [] 59), (2, .int .i64 to), (3, .fn dw [.ptr (.loc L.length) [] 1]), (9, .int .i64 i)] ⟨L ++ [.rw v], hp⟩ =
  some (.exit 0, [(0, .ptr (.hp m) [] 59), (2, .int .i64 to), (3, .fn dw [.ptr (.loc L.length) [] 1]), (9, .int .i64 to), (17, .bool false)], ⟨L ++ [.rw v'], hp'⟩) ∧ SlR hp' G' 54 56 v' ((l ++ aE M i n).map Rec.v) ∧ Chg hp hp' G G' ∧ gV G' F ∧ Inn hp' G'
 | 0, i, hp, G, v, l, hi, h, hs, hl, ha, hn => by
  have : i = to := by omega
  subst this;refine ⟨hp, G, v, ?_, by rw [aE, List.append_nil]; exact hs, .refl _ _, ha, hn⟩;have d1 : ¬ (i : Int) < i := by omega
  rw [ac];simp only [go_sem, bO, d1]
 | n + 1, i, hp, G, v, l, hi, h, hs, hl, ha, hn => by
  have hin : i < M.n := by omega
  have d1 : (i : Int) < to := by omega
  have d4 : IntKind.i64.wrap ((i : Int) + 1) = ((i + 1 : Nat) : Int) := ai (by have := h.ok.n1; omega) (by have := h.ok.n1; omega);have hld : M.load (i : Int) = (M.now i, 0) := by
   unfold AM.load;rw [if_neg (by omega), if_neg (by rw [hoff]; simp), Int.toNat_natCast]
  have hL := fun L => fg h (i : Int) L;simp only [hld] at hL;have hR := fun s => rD (h.ok.now8 hin) s;have z1 : L.length < L.length + 1 := by omega
  have z2 : L.length < L.length + 3 := by omega
  have z3 : L.length + 1 < L.length + 3 := by omega
  have z4 : L.length + 2 < L.length + 3 := by omega
  have hdr : ∀ b : Blk, List.drop (L.length + 1) (L ++ [b]) = [] := fun b => by simp
  cases hrc : iG (M.now i) with
  | false =>
   obtain ⟨hp', G', v', q1, q2⟩ := rC hoff hto L n (i + 1) (l := l) (by omega) h hs (by omega) ha hn;refine ⟨hp', G', v', ?_, by rw [aE, hrc, if_neg (by simp), List.nil_append]; exact q2⟩;rw [← q1, ac];rw [hrc] at hR;have h0 := fun X => Gw (LL := X) (hp := hp) (p := L.length) jx i;simp only [Bool.false_eq_true, if_false, Rec.v, jx, lnV] at *;generalize M.now i = ln at *;clear q1 q2;simp only [go_sem, bO, d1, hL, hR, h0, d4, z1, hdr]
  | true =>
   obtain ⟨v1, hp1, s1, s2, s3, s4⟩ := Gu (LL := L ++ [.rw v, .rw (lnV (M.now i)), .rw (cf (M.now i)).v]) (p := L.length) (by simp) hs (by omega) (cf (M.now i)) i;have hM1 := h.chg s3 ha;have ha1 := s3.apart ha h.inn;obtain ⟨hp', G', v', q1, q2, q3, q4⟩ := rC hoff hto L n (i + 1) (v := v1) (l := l ++ [cf (M.now i)]) (by omega) hM1 s2 (by simp; omega) ha1 (fun j hj => by cases hj; omega);refine ⟨hp', G', v', ?_, by rw [aE, hrc, if_pos rfl, ← List.append_assoc]; exact q2, s3.trans q3, q4⟩;rw [← q1, ac];rw [hrc] at hR;have hset : ∀ (a b c d : Blk), (L ++ [a, b, c]).set L.length d = L ++ [d, b, c] := fun a b c d => by simp
   rw [hset] at s1;simp only [if_true, Rec.v, lnV] at *;clear q1 q2 q3 q4 s2 s3 s4 hM1 ha1;generalize cf (M.now i) = rr at *;generalize M.now i = ln at *;simp only [go_sem, bO, d1, hL, hR, s1, d4, z1, hdr]
end
end Go.Proofs.YtilcajpldklbiaaDoor
namespace Go.Proofs.YtilcajpldklbiaaDoor
open Go.Ab
def bp (M : AM) (seq : Int) : Nat → Nat → Nat
 | _, 0 => 0
 | i, n + 1 => if iG (M.now i) = false ∨ (cf (M.now i)).seq ≤ seq then i else bp M seq (i + 1) n
theorem w5 (M : AM) (seq : Int) : ∀ n i, bp M seq i n = 0 ∨ (i ≤ bp M seq i n ∧ bp M seq i n < i + n)
 | 0, _ => .inl rfl
 | n + 1, i => by
  unfold bp;split
  ·right; omega
  ·rcases w5 M seq n (i + 1) with h | h
   ·exact .inl h
   ·right; omega
theorem Gz {LL hp : List Blk} {p q : Nat} {seq : Int} (hp1 : LL[p]? = some (.rw (.int .i64 seq))) (hq : LL[q]? = some (.rw (.int .i64 0))) (r : Rec) (is : Bool) {i : Nat} (hi : 0 < i) :
 rf D eO [.int .i64 i, r.v, .bool is, .ptr (.loc p) [] 10, .ptr (.loc q) [] 10] ⟨LL, hp⟩ =
  some (.bool (!(!is || decide (r.seq ≤ seq))), ⟨if (!is || decide (r.seq ≤ seq)) = true then LL.set q (.rw (.int .i64 i)) else LL, hp⟩) := by
 have hpl := ap hp1;have hql := ap hq;have h1 : ∀ X, (LL ++ X)[p]? = some (.rw (.int .i64 seq)) := fun X => by rw [List.getElem?_append_left hpl]; exact hp1
 have h2 : ∀ X, (LL ++ X)[q]? = some (.rw (.int .i64 0)) := fun X => by rw [List.getElem?_append_left hql]; exact hq
 have h3 : ∀ X b, (LL ++ X).set q b = LL.set q b ++ X := fun X b => List.set_append_left _ _ hql;have h4 : ∀ X b, (LL.set q b ++ X)[q]? = some b := fun X b => by
  rw [List.getElem?_append_left (by simpa using hql)]; exact List.getElem?_set_self hql
 have h5 : ∀ (X : List Blk) b, List.take LL.length (LL.set q b ++ X) = LL.set q b := fun X b => List.take_left' (by simp);have d1 : ¬ (i : Int) = 0 := by omega
 simp only [Rec.v];cases is with
 | false =>
  simp only [Bool.not_false, Bool.true_or, if_true, Bool.not_true];rw [ae lS rfl];simp only [go_sem, h1, h2, h3, h4, h5, d1];rw [if_pos (by simp)]
 | true =>
  simp only [Bool.not_true, Bool.false_or];by_cases hs : r.seq ≤ seq
  ·rw [decide_eq_true hs];simp only [if_true, Bool.not_true];rw [ae lS rfl];simp only [go_sem, h1, h2, h3, h4, h5, d1, hs];rw [if_pos (by simp)]
  ·rw [decide_eq_false hs];simp only [Bool.false_eq_true, if_false, Bool.not_false];rw [ae lS rfl];simp only [go_sem, h1, h2, hs]
section
variable {m : Nat} {M : AM} {F : Ft}
theorem xi (hoff : M.off = false) {to : Nat} (hto : to ≤ M.n) (L : List Blk) {hp : List Blk} (h : ay hp F m M) (seq : Int) : ∀ (n i : Nat), i + n = to → 0 < i →
 ∃ r, rc D (L.length + 2) (.loop [0, 2, 3, 9] bO) [(0, .ptr (.hp m) [] 59), (2, .int .i64 to), (3, .fn eO [.ptr (.loc L.length) [] 10, .ptr (.loc (L.length + 1)) [] 10]), (9, .int .i64 i)] ⟨L ++ [.rw (.int .i64 seq), .rw (.int .i64 0)], hp⟩ = some r ∧
  ((bp M seq i n = 0 ∧ r = (.exit 0, [(0, .ptr (.hp m) [] 59), (2, .int .i64 to), (3, .fn eO [.ptr (.loc L.length) [] 10, .ptr (.loc (L.length + 1)) [] 10]), (9, .int .i64 to), (17, .bool false)], ⟨L ++ [.rw (.int .i64 seq), .rw (.int .i64 0)], hp⟩)) ∨
   (bp M seq i n ≠ 0 ∧ ∃ a b, r = (.ret, [(8, .int .i64 0)], ⟨L ++ [.rw (.int .i64 seq), .rw (.int .i64 (bp M seq i n)), a, b], hp⟩)))
 | 0, i, hi, h0 => by
  have : i = to := by omega
  subst this;refine ⟨_, ?_, .inl ⟨rfl, rfl⟩⟩;have d1 : ¬ (i : Int) < i := by omega
  rw [ac];simp only [go_sem, bO, d1]
 | n + 1, i, hi, h0 => by
  have hin : i < M.n := by omega
  have d1 : (i : Int) < to := by omega
  have d4 : IntKind.i64.wrap ((i : Int) + 1) = ((i + 1 : Nat) : Int) := ai (by have := h.ok.n1; omega) (by have := h.ok.n1; omega);have hld : M.load (i : Int) = (M.now i, 0) := by
   unfold AM.load;rw [if_neg (by omega), if_neg (by rw [hoff]; simp), Int.toNat_natCast]
  have hL := fun L => fg h (i : Int) L;simp only [hld] at hL;have hR := fun s => rD (h.ok.now8 hin) s;have z1 : L.length < L.length + 2 := by omega
  have z2 : L.length + 1 < L.length + 2 := by omega
  have hdr : ∀ a b : Blk, List.drop (L.length + 2) (L ++ [a, b]) = [] := fun a b => by simp
  have hF := fun (r : Rec) is => Gz (LL := L ++ [.rw (.int .i64 seq), .rw (.int .i64 0), .rw (lnV (M.now i)), .rw r.v]) (hp := hp) (p := L.length) (q := L.length + 1) (seq := seq) (by simp) (by simp) r is h0;have hset : ∀ (a b c d e : Blk), (L ++ [a, b, c, d]).set (L.length + 1) e = L ++ [a, e, c, d] := fun a b c d e => by simp
  simp only [hset] at hF;unfold bp;cases hrc : iG (M.now i) with
  | false =>
   rw [if_pos (.inl rfl)];refine ⟨_, ?_, .inr ⟨by omega, .rw (lnV (M.now i)), .rw jx.v, rfl⟩⟩;have hF0 := hF jx false;simp only [Bool.not_false, Bool.true_or, if_true, Bool.not_true] at hF0;rw [hrc] at hR;rw [ac];simp only [Bool.false_eq_true, if_false, Rec.v, jx, lnV] at *;clear hF;generalize M.now i = ln at *;simp only [go_sem, bO, d1, hL, hR, hF0, z1, z2, hdr]
  | true =>
   rw [hrc] at hR;by_cases hs : (cf (M.now i)).seq ≤ seq
   ·rw [if_pos (.inr hs)];refine ⟨_, ?_, .inr ⟨by omega, .rw (lnV (M.now i)), .rw (cf (M.now i)).v, rfl⟩⟩;have hF0 := hF (cf (M.now i)) true;simp only [Bool.not_true, Bool.false_or, decide_eq_true hs, if_true] at hF0;rw [ac];simp only [if_true, Rec.v, lnV] at *;clear hF hs;generalize cf (M.now i) = rr at *;generalize M.now i = ln at *;simp only [go_sem, bO, d1, hL, hR, hF0, z1, z2, hdr]
   ·rw [if_neg (by simp only [Bool.true_eq_false, false_or]; exact hs)];obtain ⟨r, q1, q2⟩ := xi hoff hto L h seq n (i + 1) (by omega) (by omega);refine ⟨r, ?_, q2⟩;have hF0 := hF (cf (M.now i)) true;simp only [Bool.not_true, Bool.false_or, decide_eq_false hs, Bool.false_eq_true, if_false, Bool.not_false] at hF0;rw [← q1, ac];simp only [if_true, Rec.v, lnV] at *;clear hF hs q1 q2;generalize cf (M.now i) = rr at *;generalize M.now i = ln at *;simp only [go_sem, bO, d1, hL, hR, hF0, d4, z1, z2, hdr]
theorem xY {hp : List Blk} (h : ay hp F m M) (hoff : M.off = false) {core : Nat} (hc : core < 8) (hn : 6 + 4 * core ≤ M.n) (seq : Int) (L : List Blk) :
 rf D oh [.ptr (.hp m) [] 59, .int .i64 core, .int .i64 seq] ⟨L, hp⟩ = some (.tup [.int .i64 (bp M seq (2 + 4 * core) 4), .int .i64 (if bp M seq (2 + 4 * core) 4 = 0 then 11 else 0)], ⟨L, hp⟩) := by
 obtain ⟨r, q1, q2⟩ := xi hoff (to := 6 + 4 * core) hn L h seq 4 (2 + 4 * core) (by omega) (by omega);have p1 := fun s => gC (c := core) (n := 0) (by omega) (by omega) s;have p2 := fun s => gC (c := core + 1) (n := 0) (by omega) (by omega) s;rw [show (2 : Int) + 4 * (core : Int) + 0 = ((2 + 4 * core : Nat) : Int) by omega] at p1;rw [show (2 : Int) + 4 * ((core : Int) + 1) + 0 = ((6 + 4 * core : Nat) : Int) by omega] at p2;have w1 : IntKind.i64.wrap ((core : Int) + 1) = core + 1 := ai (by omega) (by omega);have d1 : ¬ (core : Int) < 0 := by omega
 have d2 : ¬ (core : Int) ≥ 8 := by omega
 have hE : rf D lm [.ptr (.hp m) [] 59, .int .i64 (2 + 4 * core : Nat), .int .i64 (6 + 4 * core : Nat), .fn eO [.ptr (.loc L.length) [] 10, .ptr (.loc (L.length + 1)) [] 10]] ⟨L ++ [.rw (.int .i64 seq), .rw (.int .i64 0)], hp⟩ =
  some (.int .i64 0, ⟨L ++ [.rw (.int .i64 seq), .rw (.int .i64 (bp M seq (2 + 4 * core) 4))], hp⟩) := by
  have hl : (L ++ [Blk.rw (.int .i64 seq), Blk.rw (.int .i64 0)]).length = L.length + 2 := by simp
  rw [ae sR rfl];rcases q2 with ⟨c, rfl⟩ | ⟨c, a, b, rfl⟩
  ·rw [c];simp only [go_sem, q1]
  ·generalize bp M seq (2 + 4 * core) 4 = fz at *;simp only [go_sem, q1]
 generalize bp M seq (2 + 4 * core) 4 = fz at *;rw [ae Bl rfl];by_cases hz : fz = 0
 ·subst hz;simp only [go_sem, d1, d2, p1, w1, p2, hE]
 ·have hz' : ¬ (fz : Int) = 0 := by omega
  rw [if_neg hz];simp only [go_sem, d1, d2, p1, w1, p2, hE, hz']
theorem yB {l : List Int} (hl : l.length = 8) {at' core : Int} {L : List Blk} {base : Nat} (hL : (L.drop base).all (aZ L.length) = true) : ∀ (n j : Nat) {hp : List Blk} {Fm : Ft} {M : AM}, j + n = 8 → ay hp Fm m M → M.count + n < 1000000 →
 ∃ hp' Fm' r, rc D base (.loop [0, 1, 9, 41, 42] eZ) [(0, .ptr (.hp m) [] 59), (1, .int .i64 core), (9, .int .i64 at'), (41, lnV l), (42, .int .i64 j)] ⟨L, hp⟩ = some r ∧
  ay hp' Fm' m (M.layFrom at' l j n).1 ∧ Chg hp hp' Fm Fm' ∧
  (((M.layFrom at' l j n).2 = 0 ∧ r = (.exit 0, [(0, .ptr (.hp m) [] 59), (1, .int .i64 core), (9, .int .i64 at'), (41, lnV l), (42, .int .i64 8), (43, .bool false)], ⟨L, hp'⟩)) ∨
   ((M.layFrom at' l j n).2 ≠ 0 ∧ r = (.ret, [(8, .int .i64 (M.layFrom at' l j n).2)], ⟨L, hp'⟩)))
 | 0, j, hp, Fm, M, hj, h, _ => by
  have : j = 8 := by omega
  subst this;refine ⟨hp, Fm, _, ?_, h, .refl _ _, .inl ⟨rfl, rfl⟩⟩;rw [ac];simp only [lnV];simp only [go_sem, eZ]
 | n + 1, j, hp, Fm, M, hj, h, hc => by
  obtain ⟨hp1, Fm1, e1, e2, e3⟩ := dS h (by omega) at' j (l.getD j 0) L;have hcn := AM.store_count (M := M) (i := at') (q := j) (v := l.getD j 0);have d1 : (j : Int) < 8 := by omega
  have d2 : (0 : Int) ≤ j := by omega
  have d4 : IntKind.i64.wrap ((j : Int) + 1) = ((j + 1 : Nat) : Int) := ai (by omega) (by omega);have g := aG (f := V.int .u64) (l := l) (i := j) (by omega) 0;simp only [AM.layFrom];by_cases he : (M.store at' j (l.getD j 0)).2 = 0
  ·rw [if_neg fun hh => hh he];obtain ⟨hp2, Fm2, r, q1, q2, q3, q4⟩ := yB hl hL n (j + 1) (by omega) e2 (by omega);refine ⟨hp2, Fm2, r, ?_, q2, e3.trans q3, q4⟩;rw [← q1, ac];rw [he] at e1;simp only [lnV] at *;generalize l.getD j 0 = wd at *;simp only [go_sem, eZ, d1, d2, Int.toNat_natCast, g, e1, d4, hL]
  ·rw [if_pos he];refine ⟨hp1, Fm1, _, ?_, e2, e3, .inr ⟨he, rfl⟩⟩;rw [ac];simp only [lnV] at *;generalize l.getD j 0 = wd at *;simp only [go_sem, eZ, d1, d2, Int.toNat_natCast, g, e1, he]
end
def AM.addRec (M : AM) (core : Nat) (seq : Int) (r : Rec) : AM × Int :=
 let at' : Nat := bp M seq (2 + 4 * core) 4
 if at' = 0 then (M, 11) else if r.ok = false then (M, 1) else
 if (M.store at' 7 0).2 ≠ 0 then M.store at' 7 0 else
 let q := (M.store at' 7 0).1.layFrom at' (aX r) 0 8
 if q.2 ≠ 0 then q else if (q.1.flush core at').2 ≠ 0 then q.1.flush core at' else (q.1.flush core at').1.fence core
section
variable {m : Nat} {M : AM} {F : Ft}
theorem oW {hp : List Blk} (h : ay hp F m M) (hc : M.count + 12 < 1000000) (hoff : M.off = false) {core : Nat} (hc8 : core < 8) (hn : 6 + 4 * core ≤ M.n) (seq : Int) (r : Rec) (L : List Blk) :
 ∃ hp' F', rf D lW [.ptr (.hp m) [] 59, .int .i64 core, .int .i64 seq, r.v] ⟨L, hp⟩ = some (.int .i64 (M.addRec core seq r).2, ⟨L, hp'⟩) ∧ ay hp' F' m (M.addRec core seq r).1 ∧ Chg hp hp' F F' := by
 have hln := fun s => qM r s;have hlen := sY r;have hfr := fun L => xY h hoff hc8 hn seq L;unfold AM.addRec;simp only;generalize bp M seq (2 + 4 * core) 4 = at' at *;by_cases ha : at' = 0
 ·rw [if_pos ha] at hfr ⊢;refine ⟨hp, F, ?_, h, .refl _ _⟩;subst ha;simp only [Rec.v];rw [ae eN rfl];simp only [go_sem, hfr]
 ·rw [if_neg ha] at hfr ⊢;by_cases hb : r.ok = false
  ·rw [if_pos hb];refine ⟨hp, F, ?_, h, .refl _ _⟩;rw [hb, if_neg (by simp)] at hln;simp only [Rec.v, lnV] at *;rw [ae eN rfl];simp only [go_sem, hfr, hln]
  ·have hb' : r.ok = true := by simpa using hb
   rw [hb', if_pos rfl] at hln;rw [if_neg hb];obtain ⟨hp1, F1, e1, e2, e3⟩ := dS h (by omega) at' 7 0 (L ++ [.rw r.v, .rw (lnV (aX r))]);have c1 := AM.store_count (M := M) (i := at') (q := 7) (v := 0);by_cases he1 : (M.store at' 7 0).2 = 0
   ·rw [if_neg (by simp [he1])];obtain ⟨hp2, F2, rr, q1, q2, q3, q4⟩ := yB (m := m) hlen (at' := at') (core := core) (L := L ++ [.rw r.v, .rw (lnV (aX r))]) (base := L.length) (by simp only [Rec.v, lnV]; simp only [go_sem]) 8 0 rfl e2 (by omega);have c2 := AM.layFrom_count (M := (M.store at' 7 0).1) (at' := at') (l := aX r) (n := 8) (j := 0);rw [show ((0 : Nat) : Int) = 0 from rfl] at q1
    by_cases he2 : ((M.store at' 7 0).1.layFrom at' (aX r) 0 8).2 = 0
    ·rw [if_neg (by simp [he2])];rcases q4 with ⟨_, rfl⟩ | ⟨z, _⟩
     ·obtain ⟨hp3, r1, r2, r3⟩ := kY q2 (by omega) core at' (L ++ [.rw r.v, .rw (lnV (aX r))]);have c3 := (bi (M := ((M.store at' 7 0).1.layFrom at' (aX r) 0 8).1) (c := core) (i := at')).1;by_cases he3 : (((M.store at' 7 0).1.layFrom at' (aX r) 0 8).1.flush core at').2 = 0
      ·rw [if_neg (by simp [he3])];obtain ⟨hp4, F4, s1, s2, s3⟩ := lj r2 (by omega) core (L ++ [.rw r.v, .rw (lnV (aX r))]);refine ⟨hp4, F4, ?_, s2, ((e3.trans q3).trans r3).trans s3⟩;rw [he1] at e1;rw [he3] at r1;generalize ((((M.store at' 7 0).1.layFrom at' (aX r) 0 8).1.flush core at').1.fence core) = fz at *;generalize aX r = sl at *;simp only [Rec.v, lnV] at *;rw [ae eN rfl];simp only [go_sem, hfr, hln, e1];simp only [go_sem, q1, r1, s1]
      ·rw [if_pos he3];refine ⟨hp3, F2, ?_, r2, (e3.trans q3).trans r3⟩;rw [he1] at e1;generalize (((M.store at' 7 0).1.layFrom at' (aX r) 0 8).1.flush core at') = fz at *;generalize aX r = sl at *;simp only [Rec.v, lnV] at *;rw [ae eN rfl];simp only [go_sem, hfr, hln, e1];simp only [go_sem, q1, r1, he3]
     ·exact absurd he2 z
    ·rw [if_pos he2];rcases q4 with ⟨z, _⟩ | ⟨_, rfl⟩
     ·exact absurd z he2
     ·refine ⟨hp2, F2, ?_, q2, e3.trans q3⟩;rw [he1] at e1;generalize ((M.store at' 7 0).1.layFrom at' (aX r) 0 8) = fz at *;generalize aX r = sl at *;simp only [Rec.v, lnV] at *;rw [ae eN rfl];simp only [go_sem, hfr, hln, e1];simp only [go_sem, q1]
   ·rw [if_pos he1];refine ⟨hp1, F1, ?_, e2, e3⟩;generalize (M.store at' 7 0) = fz at *;generalize aX r = sl at *;simp only [Rec.v, lnV] at *;rw [ae eN rfl];simp only [go_sem, hfr, hln, e1, he1]
end
end Go.Proofs.YtilcajpldklbiaaDoor
namespace Go.Proofs.YtilcajpldklbiaaDoor
open Go.Ab
theorem tq (n : Int) (s : St) : rf D j4 [.int .i64 n] s = some (.bool false, s) := by
 rw [ae vD rfl];simp only [go_sem]
def pw (a b : Int) : Int := if a < b then -1 else if a > b then 1 else 0
theorem Ma (a b : Int) (s : St) : rf D iU [.int .i64 a, .int .i64 b] s = some (.int .i64 (pw a b), s) := by
 unfold pw;by_cases h1 : a < b
 ·rw [if_pos h1, ae iR rfl];simp only [go_sem, tq, h1]
 ·by_cases h2 : a > b
  ·rw [if_neg h1, if_pos h2, ae iR rfl];simp only [go_sem, tq, h1, h2]
  ·rw [if_neg h1, if_neg h2, ae iR rfl];simp only [go_sem, tq, h1, h2]
theorem Hd (x y : Rec) (s : St) : rf D aW [x.v, y.v] s = some (.int .i64 (pw x.seq y.seq), s) := by
 simp only [Rec.v];rw [ae xI rfl];simp only [go_sem, Ma]
theorem As {a b : Int} : pw a b < 0 ↔ a < b := by
 unfold pw;split
 ·constructor <;> intro <;> omega
 ·split <;> constructor <;> intro <;> omega
def ch (l : List Rec) (i : Nat) : Rec := l.getD i jx
def swp (l : List Rec) (j : Nat) : List Rec := (l.set j (ch l (j - 1))).set (j - 1) (ch l j)
theorem rY (l : List Rec) (j : Nat) : (swp l j).length = l.length := by simp [swp]
def jz (a : Nat) : List Rec → Nat → List Rec
 | l, 0 => l
 | l, j + 1 => if a < j + 1 ∧ (ch l (j + 1)).seq < (ch l j).seq then jz a (swp l (j + 1)) j else l
theorem pU (a : Nat) : ∀ j l, (jz a l j).length = l.length
 | 0, _ => rfl
 | j + 1, l => by
  unfold jz;split
  ·rw [pU a j, rY]
  ·rfl
structure Dat (hp : List Blk) (q : Nat) (l : List Rec) : Prop where
 get : hp[q]? = some (.rw (.agg 56 (l.map Rec.v)))
abbrev qR (q n : Nat) (c : Option Nat) : V := .sl (.hp q) [] 0 n c 54
theorem wX {q a i b : Nat} {c : Option Nat} (L : List Blk) : ∀ (j : Nat) {hp : List Blk} {l : List Rec}, j ≤ i → i < l.length → l.length ≤ 1000 → Dat hp q l →
 ∃ j' : Nat, rc D L.length (.loop [0, 1, 2, 3, 8, 9] aA) [(0, qR q l.length c), (1, .int .i64 a), (2, .int .i64 b), (3, .fn aW []), (8, .int .i64 i), (9, .int .i64 j)] ⟨L, hp⟩ =
  some (.exit 2, [(0, qR q l.length c), (1, .int .i64 a), (2, .int .i64 b), (3, .fn aW []), (8, .int .i64 i), (9, .int .i64 j'), (34, .bool false)], ⟨L, hp.set q (.rw (.agg 56 ((jz a l j).map Rec.v)))⟩)
 | 0, hp, l, hj, hi, hl, hd => by
  refine ⟨0, ?_⟩;have hset := ft hd.get;have d1 : ¬ (a : Int) < 0 := by omega
  rw [ac];simp only [jz];rw [hset];simp only [go_sem, aA, d1]
 | j + 1, hp, l, hj, hi, hl, hd => by
  have hset := ft hd.get;have hql := ap hd.get;have d5 : IntKind.i64.wrap (((j + 1 : Nat) : Int) - 1) = (j : Int) := by rw [ai (by omega) (by omega)]; omega
  have b1 : ((j + 1 : Nat) : Int) < l.length := by omega
  have b2 : (0 : Int) ≤ ((j + 1 : Nat) : Int) := by omega
  have b3 : (j : Int) < l.length := by omega
  have b4 : (0 : Int) ≤ (j : Int) := by omega
  have g1 : (l.map Rec.v)[j + 1]? = some (ch l (j + 1)).v := aG (by omega) jx;have g2 : (l.map Rec.v)[j]? = some (ch l j).v := aG (by omega) jx;have hc := fun s => Hd (ch l (j + 1)) (ch l j) s;have hgt := hd.get;unfold jz;by_cases ha : a < j + 1
  ·have d1 : (a : Int) < ((j + 1 : Nat) : Int) := by omega
   by_cases hs : (ch l (j + 1)).seq < (ch l j).seq
   ·rw [if_pos ⟨ha, hs⟩];have hd2 : Dat (hp.set q (.rw (.agg 56 ((swp l (j + 1)).map Rec.v)))) q (swp l (j + 1)) := ⟨List.getElem?_set_self hql⟩;obtain ⟨j', q1⟩ := wX (a := a) (i := i) L (c := c) (b := b) j (hp := hp.set q (.rw (.agg 56 ((swp l (j + 1)).map Rec.v)))) (l := swp l (j + 1)) (by omega) (by rw [rY]; exact hi) (by rw [rY]; exact hl) hd2;rw [List.set_set, rY] at q1;refine ⟨j', ?_⟩;rw [← q1, ac];have hm : (swp l (j + 1)).map Rec.v = ((l.map Rec.v).set (j + 1) (ch l j).v).set j (ch l (j + 1)).v := by
     unfold swp;rw [List.map_set, List.map_set];rfl
    rw [hm];have hk : pw (ch l (j + 1)).seq (ch l j).seq < 0 := As.2 hs;clear q1 hd2 hm hs;generalize pw (ch l (j + 1)).seq (ch l j).seq = k at *;generalize hx : ch l (j + 1) = x at *;generalize hy : ch l j = y at *;generalize l.map Rec.v = T at *;have hg3 : ∀ (X : Blk), (hp.set q X)[q]? = some X := fun X => List.getElem?_set_self hql;have g5 : ∀ w, (T.set (j + 1) w)[j]? = some y.v := fun w => by rw [List.getElem?_set_ne (show j + 1 ≠ j by omega)]; exact g2
    simp only [Rec.v] at *;simp only [go_sem, aA, d1, b1, b2, b3, b4, d5, Int.toNat_natCast, hgt, g1, g2, hc, hk, hg3, g5, List.set_set]
   ·rw [if_neg (fun h => hs h.2)];refine ⟨j + 1, ?_⟩;rw [hset, ac];have hk : ¬ pw (ch l (j + 1)).seq (ch l j).seq < 0 := fun h => hs (As.1 h);clear hs;generalize pw (ch l (j + 1)).seq (ch l j).seq = k at *;generalize hx : ch l (j + 1) = x at *;generalize hy : ch l j = y at *;generalize l.map Rec.v = T at *;simp only [Rec.v] at *;simp only [go_sem, aA, d1, b1, b2, b3, b4, d5, Int.toNat_natCast, hgt, g1, g2, hc, hk]
  ·rw [if_neg (fun h => ha h.1)];refine ⟨j + 1, ?_⟩;have d1 : ¬ (a : Int) < ((j + 1 : Nat) : Int) := by omega
   rw [hset, ac];simp only [go_sem, aA, d1]
def nH (a : Nat) : List Rec → Nat → Nat → List Rec
 | l, _, 0 => l
 | l, i, n + 1 => nH a (jz a l i) (i + 1) n
theorem xw {q a b : Nat} {c : Option Nat} (L : List Blk) : ∀ (n i : Nat) {hp : List Blk} {l : List Rec}, i + n = b → b ≤ l.length → l.length ≤ 1000 → Dat hp q l →
 rc D L.length (.loop [0, 1, 2, 3, 8] aJ) [(0, qR q l.length c), (1, .int .i64 a), (2, .int .i64 b), (3, .fn aW []), (8, .int .i64 i)] ⟨L, hp⟩ =
  some (.exit 0, [(0, qR q l.length c), (1, .int .i64 a), (2, .int .i64 b), (3, .fn aW []), (8, .int .i64 b), (14, .bool false)], ⟨L, hp.set q (.rw (.agg 56 ((nH a l i n).map Rec.v)))⟩)
 | 0, i, hp, l, hi, hb, hl, hd => by
  have : i = b := by omega
  subst this;have hset := ft hd.get;have d1 : ¬ (i : Int) < i := by omega
  rw [ac];simp only [nH];rw [hset];simp only [go_sem, aJ, d1]
 | n + 1, i, hp, l, hi, hb, hl, hd => by
  have hql := ap hd.get;have d1 : (i : Int) < b := by omega
  have d4 : IntKind.i64.wrap ((i : Int) + 1) = ((i + 1 : Nat) : Int) := ai (by omega) (by omega);obtain ⟨j', q1⟩ := wX (a := a) (i := i) L (c := c) (b := b) i (hp := hp) (l := l) (Nat.le_refl _) (by omega) hl hd;have hd2 : Dat (hp.set q (.rw (.agg 56 ((jz a l i).map Rec.v)))) q (jz a l i) := ⟨List.getElem?_set_self hql⟩;have ih := xw (q := q) (a := a) (b := b) (c := c) L n (i + 1) (l := jz a l i) (by omega) (by rw [pU]; exact hb) (by rw [pU]; exact hl) hd2;rw [pU, List.set_set] at ih;rw [nH, ← ih, ac];clear ih hd2 hd;simp only [go_sem, aJ, d1, q1, d4]
theorem DA {q a n : Nat} {c : Option Nat} {hp : List Blk} {l : List Rec} (hb : n ≤ l.length) (ha : a + 1 ≤ n) (hl : l.length ≤ 1000) (hd : Dat hp q l) (L : List Blk) :
 rf D aY [qR q l.length c, .int .i64 a, .int .i64 n, .fn aW []] ⟨L, hp⟩ = some (.tup [], ⟨L, hp.set q (.rw (.agg 56 ((nH a l (a + 1) (n - (a + 1))).map Rec.v)))⟩) := by
 have d4 : IntKind.i64.wrap ((a : Int) + 1) = ((a + 1 : Nat) : Int) := ai (by omega) (by omega);have h := xw (q := q) (a := a) (b := n) (c := c) L (n - (a + 1)) (a + 1) (by omega) hb hl hd;rw [ae cD rfl];clear hd;simp only [go_sem, d4, h]
end Go.Proofs.YtilcajpldklbiaaDoor
namespace Go.Proofs.YtilcajpldklbiaaDoor
open Go.Ab
def eH (r : Rec) : List Rec → List Rec
 | [] => [r]
 | x :: t => if x.seq ≤ r.seq then x :: eH r t else r :: x :: t
def ji (s u : List Rec) : List Rec := u.foldl (fun acc r => eH r acc) s
def cC (l : List Rec) : List Rec := ji [] l
abbrev Srt (l : List Rec) : Prop := l.Pairwise fun a b => a.seq ≤ b.seq
theorem xl {r x : Rec} (h : r.seq < x.seq) : ∀ s, eH r (s ++ [x]) = eH r s ++ [x]
 | [] => by
  show (if x.seq ≤ r.seq then _ else _) = _
  rw [if_neg (by omega)]; rfl
 | y :: s => by
  simp only [List.cons_append, eH];split
  ·rw [xl h s]; rfl
  ·rfl
theorem Aa {r : Rec} : ∀ s : List Rec, (∀ x ∈ s, x.seq ≤ r.seq) → eH r s = s ++ [r]
 | [], _ => rfl
 | x :: s, h => by
  simp only [eH, List.cons_append];rw [if_pos (h x List.mem_cons_self), Aa s fun y hy => h y (List.mem_cons_of_mem _ hy)]
theorem tL (r : Rec) : ∀ s, (eH r s).length = s.length + 1
 | [] => rfl
 | x :: s => by
  simp only [eH];split
  ·simp [tL r s]
  ·rfl
theorem tH {r x : Rec} : ∀ {s : List Rec}, x ∈ eH r s ↔ x = r ∨ x ∈ s
 | [] => by simp [eH]
 | y :: s => by
  simp only [eH];split
  ·rw [List.mem_cons, tH (s := s), List.mem_cons];constructor
   ·rintro (h | h | h)
    ·exact .inr (.inl h)
    ·exact .inl h
    ·exact .inr (.inr h)
   ·rintro (h | h | h)
    ·exact .inr (.inl h)
    ·exact .inl h
    ·exact .inr (.inr h)
  ·simp [List.mem_cons]
theorem Ao {r : Rec} : ∀ {s : List Rec}, Srt s → Srt (eH r s)
 | [], _ => by simp [eH, Srt]
 | y :: s, h => by
  obtain ⟨h1, h2⟩ := List.pairwise_cons.1 h;simp only [eH];split
  ·rename_i hy;refine List.pairwise_cons.2 ⟨fun x hx => ?_, Ao h2⟩;rcases tH.1 hx with rfl | hx
   ·exact hy
   ·exact h1 x hx
  ·rename_i hy;refine List.pairwise_cons.2 ⟨fun x hx => ?_, h⟩;rcases List.mem_cons.1 hx with rfl | hx
   ·omega
   ·have := h1 x hx; omega
theorem vn : ∀ (u s : List Rec), (ji s u).length = s.length + u.length
 | [], s => rfl
 | r :: u, s => by
  show (ji (eH r s) u).length = _;rw [vn u, tL]; simp; omega
theorem lP (l : List Rec) : (cC l).length = l.length := by unfold cC; rw [vn]; simp
theorem uA {x : Rec} : ∀ {u s : List Rec}, x ∈ ji s u ↔ x ∈ s ∨ x ∈ u
 | [], s => by simp [ji]
 | r :: u, s => by
  show x ∈ ji (eH r s) u ↔ _;rw [uA (u := u), tH, List.mem_cons];constructor
  ·rintro ((h | h) | h)
   ·exact .inr (.inl h)
   ·exact .inl h
   ·exact .inr (.inr h)
  ·rintro (h | h | h)
   ·exact .inl (.inr h)
   ·exact .inl (.inl h)
   ·exact .inr h
theorem lQ {x : Rec} {l : List Rec} : x ∈ cC l ↔ x ∈ l := by unfold cC; rw [uA]; simp
theorem pO {p t : List Rec} {x : Rec} {j : Nat} (h : j = p.length) : ch (p ++ x :: t) j = x := by
 subst h;unfold ch;rw [List.getD_eq_getElem?_getD, List.getElem?_append_right (Nat.le_refl _), Nat.sub_self];rfl
theorem K7 {p t : List Rec} {x y : Rec} {j : Nat} (h : j = p.length) : swp (p ++ x :: y :: t) (j + 1) = p ++ y :: x :: t := by
 subst h;have h1 : ch (p ++ x :: y :: t) p.length = x := pO rfl;have h2 : ch (p ++ x :: y :: t) (p.length + 1) = y := by
  have := pO (p := p ++ [x]) (t := t) (x := y) (j := p.length + 1) (by simp);rw [List.append_assoc] at this;exact this
 unfold swp;rw [Nat.add_sub_cancel, h1, h2];rw [List.set_append_right _ _ (by omega), show p.length + 1 - p.length = 1 by omega];rw [List.set_append_right _ _ (Nat.le_refl _), Nat.sub_self];rfl
theorem zU {a : Nat} {r : Rec} {p : List Rec} (hp : p.length = a) : ∀ (k : Nat) (s t : List Rec), s.length = k → Srt s → jz a (p ++ (s ++ r :: t)) (a + k) = p ++ (eH r s ++ t)
 | 0, s, t, hk, hs => by
  have : s = [] := List.length_eq_zero_iff.1 hk;subst this;cases a with
  | zero => rfl
  | succ a =>
   show jz (a + 1) _ (a + 1) = _;unfold jz;rw [if_neg (fun h => by omega)];rfl
 | k + 1, s, t, hk, hs => by
  obtain ⟨s', x, rfl⟩ : ∃ s' x, s = s' ++ [x] := ⟨s.dropLast, s.getLast (fun e => by rw [e] at hk; cases hk), (List.dropLast_concat_getLast _).symm⟩;have hk' : s'.length = k := by simpa using hk
  have hpl : (p ++ s').length = a + k := by rw [List.length_append]; omega
  have e : p ++ (s' ++ [x] ++ r :: t) = (p ++ s') ++ x :: r :: t := by simp
  have h1 : ch (p ++ (s' ++ [x] ++ r :: t)) (a + k) = x := by rw [e]; exact pO hpl.symm
  have h2 : ch (p ++ (s' ++ [x] ++ r :: t)) (a + k + 1) = r := by
   rw [e];have := pO (p := p ++ s' ++ [x]) (t := t) (x := r) (j := a + k + 1) (by rw [List.length_append, hpl]; rfl);rw [List.append_assoc] at this;exact this
  show jz a _ (a + k + 1) = _;unfold jz;rw [h1, h2];obtain ⟨hs1, _, hs2⟩ := List.pairwise_append.1 hs;by_cases c : r.seq < x.seq
  ·rw [if_pos ⟨by omega, c⟩, e, K7 hpl.symm, xl c];have := zU (r := r) hp k s' (x :: t) hk' hs1;rw [List.append_assoc] at *;rw [List.append_assoc];exact this
  ·rw [if_neg (fun h => c h.2)];rw [Aa (s' ++ [x]) fun y hy => by
    rcases List.mem_append.1 hy with hy | hy
    ·have := hs2 y hy x List.mem_cons_self; omega
    ·rw [List.mem_singleton.1 hy]; omega]
   simp
theorem uR {a : Nat} {p : List Rec} (hp : p.length = a) : ∀ (u s t : List Rec), Srt s → nH a (p ++ (s ++ (u ++ t))) (a + s.length) u.length = p ++ (ji s u ++ t)
 | [], s, t, hs => rfl
 | r :: u, s, t, hs => by
  rw [List.length_cons, nH];have h1 := zU (a := a) (r := r) hp s.length s (u ++ t) rfl hs;rw [show (r :: u) ++ t = r :: (u ++ t) from rfl, h1]
  have h2 := uR hp u (eH r s) t (Ao hs);rw [tL] at h2;exact h2
theorem Eu {l : List Rec} (hl : l ≠ []) : nH 0 l 1 (l.length - 1) = cC l := by
 obtain ⟨r, u, rfl⟩ := List.exists_cons_of_ne_nil hl;have := uR (a := 0) (p := []) rfl u [r] [] (List.pairwise_singleton _ _);simp only [List.append_nil, List.nil_append, List.length_singleton, Nat.zero_add] at this;exact this
section
variable {q : Nat} {c : Option Nat} {hp : List Blk} {l : List Rec}
theorem xD {v : V} (hv : V.slen false v = some 0) (L : List Blk) : rf D aP [v, .fn aW []] ⟨L, hp⟩ = some (.tup [], ⟨L, hp⟩) := by
 have h0 : rf D aY [v, .int .i64 0, .int .i64 0, .fn aW []] ⟨L, hp⟩ = some (.tup [], ⟨L, hp⟩) := by
  have w1 : IntKind.i64.wrap 1 = 1 := rfl;rw [ae cD rfl];simp only [go_sem, w1];rw [ac];simp only [go_sem, aJ]
 have h1 : rf D bu [v, .int .i64 0, .fn aW []] ⟨L, hp⟩ = some (.tup [], ⟨L, hp⟩) := by
  rw [ae dY rfl];simp only [go_sem];rw [ac];simp only [go_sem, bR, h0];rw [ac];simp only [go_sem, bP]
 rw [ae dD rfl];simp only [go_sem, hv, h1]
theorem uc (hn : l.length < 20) (h0 : l ≠ []) (hd : Dat hp q l) (L : List Blk) :
 rf D aP [qR q l.length c, .fn aW []] ⟨L, hp⟩ = some (.tup [], ⟨L, hp.set q (.rw (.agg 56 ((cC l).map Rec.v)))⟩) := by
 have hl0 : 1 ≤ l.length := List.length_pos_iff.2 h0;have hi := DA (a := 0) (n := l.length) (c := c) (Nat.le_refl _) (by omega) (by omega) hd L;rw [Nat.zero_add, Eu h0, show ((0 : Nat) : Int) = 0 from rfl] at hi
 have d1 : ¬ (20 : Int) ≤ l.length := by omega
 have d2 : ¬ (20 : Int) < l.length := by omega
 have h1 : rf D bu [qR q l.length c, .int .i64 l.length, .fn aW []] ⟨L, hp⟩ = some (.tup [], ⟨L, hp.set q (.rw (.agg 56 ((cC l).map Rec.v)))⟩) := by
  clear hd;rw [ae dY rfl];simp only [go_sem];rw [ac];simp only [go_sem, bR, d1, hi];rw [ac];simp only [go_sem, bP, d2]
 clear hd;rw [ae dD rfl];simp only [go_sem, h1]
def mQ (n : Nat) : Prop := ∀ {q : Nat} {c : Option Nat} {hp : List Blk} {l : List Rec} (L : List Blk), l.length = n → l ≠ [] → Dat hp q l →
 rf D aP [qR q l.length c, .fn aW []] ⟨L, hp⟩ = some (.tup [], ⟨L, hp.set q (.rw (.agg 56 ((cC l).map Rec.v)))⟩)
theorem oH {n : Nat} (h : n < 20) : mQ n := fun L hl h0 hd => uc (by omega) h0 hd L
theorem Kx {G : Ft} {v : V} (h : SlR hp G 54 56 v (l.map Rec.v)) (hS : mQ l.length) (L : List Blk) :
 ∃ hp', rf D aP [v, .fn aW []] ⟨L, hp⟩ = some (.tup [], ⟨L, hp'⟩) ∧ SlR hp' G 54 56 v ((cC l).map Rec.v) ∧ Chg hp hp' G G := by
 by_cases h0 : l = []
 ·subst h0;exact ⟨hp, xD h.slen L, h, .refl _ _⟩
 ·generalize hT : l.map Rec.v = T at h;cases h with
  | nil => exact absurd (List.map_eq_nil_iff.1 hT) h0
  | emp a p o => exact absurd (List.map_eq_nil_iff.1 hT) h0
  | blk a c T hc hG hb =>
   subst hT;have hd : Dat hp a l := ⟨hb⟩;have hql := ap hb;have hs := hS (c := c) L rfl h0 hd;refine ⟨hp.set a (.rw (.agg 56 ((cC l).map Rec.v))), ?_, ?_, (jF (a := a)).mono (fun j hj => by cases hj; exact hG) fun _ h => .inr h⟩
   ·rw [List.length_map]; exact hs
   ·have hl : (l.map Rec.v).length = ((cC l).map Rec.v).length := by rw [List.length_map, List.length_map, lP]
    rw [hl] at hc ⊢;exact .blk a c _ hc hG (List.getElem?_set_self hql)
theorem zo {m : Nat} {M : AM} {F : Ft} (h : ay hp F m M) (hoff : M.off = false) {cores : Nat} (h1 : 1 ≤ cores) (h8 : cores ≤ 8) (hn : 2 + 4 * cores ≤ M.n) (hS : mQ (aE M 2 (4 * cores)).length) (L : List Blk) :
 ∃ hp' G v, rf D om [.ptr (.hp m) [] 59, .int .i64 cores] ⟨L, hp⟩ = some (.tup [v, .int .i64 0], ⟨L, hp'⟩) ∧ SlR hp' G 54 56 v ((cC (aE M 2 (4 * cores))).map Rec.v) ∧ Chg hp hp' (fun _ => False) G ∧ Inn hp' G := by
 have d1 : ¬ (cores : Int) < 1 := by omega
 have d2 : ¬ (cores : Int) > 8 := by omega
 have p1 := fun s => gC (c := 0) (n := 0) (by omega) (by omega) s;have p2 := fun s => gC (c := cores) (n := 0) (by omega) (by omega) s;rw [show (2 : Int) + 4 * 0 + 0 = 2 from rfl] at p1
 rw [show (2 : Int) + 4 * (cores : Int) + 0 = ((2 + 4 * cores : Nat) : Int) by omega] at p2;obtain ⟨hp1, G1, v1, q1, q2, q3, q4, q5⟩ := rC hoff (to := 2 + 4 * cores) hn L (4 * cores) 2 (v := .nils) (l := []) (by omega) h (SlR.nil (G := fun _ => False)) (by simp; omega) (fun _ h => h.elim) (fun _ h => h.elim);rw [List.nil_append] at q2;rw [show ((2 : Nat) : Int) = 2 from rfl] at q1
 obtain ⟨hp2, r1, r2, r3⟩ := Kx q2 hS (L ++ [.rw v1]);refine ⟨hp2, G1, v1, ?_, r2, q3.trans r3, q5.more r3⟩;have hE : rf D lm [.ptr (.hp m) [] 59, .int .i64 2, .int .i64 (2 + 4 * cores : Nat), .fn dw [.ptr (.loc L.length) [] 1]] ⟨L ++ [.rw .nils], hp⟩ = some (.int .i64 0, ⟨L ++ [.rw v1], hp1⟩) := by
  rw [ae sR rfl];simp only [go_sem, q1]
 have v1t := q2.tag;have v1l : ∀ b, V.locLt b v1 = true := fun b => q2.ltb;have v1o := q2.ok;rw [ae AZ rfl];simp only [go_sem, d1, d2, p1, p2, hE, r1, v1t, v1l, v1o]
end
end Go.Proofs.YtilcajpldklbiaaDoor
namespace Go.Proofs.YtilcajpldklbiaaDoor
open Go.Ab
def AM.go (s : AM × Int) (f : AM → AM × Int) : AM × Int := if s.2 = 0 then f s.1 else s
theorem rE {s : AM × Int} {f : AM → AM × Int} (h : s.2 ≠ 0) : AM.go s f = s := if_neg h
theorem mg {s : AM × Int} {f : AM → AM × Int} (h : s.2 = 0) : AM.go s f = f s.1 := if_pos h
def AM.put8 (M : AM) (at' : Int) (l : List Int) : AM × Int := if (M.layFrom at' l 0 8).2 ≠ 0 then M.layFrom at' l 0 8 else (M.layFrom at' l 0 8).1.flush 0 at'
def gW (at' : Int) (l : List Int) : AM × Int → Nat → Nat → AM × Int
 | s, _, 0 => s
 | s, j, n + 1 => gW at' l (AM.go s fun M => M.store at' j (l.getD j 0)) (j + 1) n
theorem rh {at' : Int} {l : List Int} : ∀ (n j : Nat) {s : AM × Int}, s.2 ≠ 0 → gW at' l s j n = s
 | 0, _, _, _ => rfl
 | n + 1, j, s, h => by rw [gW, rE h, rh n (j + 1) h]
theorem zI {at' : Int} {l : List Int} : ∀ (n j : Nat) {s : AM × Int}, s.2 = 0 → gW at' l s j n = s.1.layFrom at' l j n
 | 0, _, s, h => by
  show s = (s.1, 0);rw [← h]
 | n + 1, j, s, h => by
  rw [gW, mg h, AM.layFrom];by_cases c : (s.1.store at' j (l.getD j 0)).2 = 0
  ·rw [if_neg fun hh => hh c, zI n (j + 1) c]
  ·rw [if_pos c, rh n (j + 1) c]
theorem FZ (s : AM × Int) (at' : Int) (l : List Int) : AM.go (gW at' l s 0 8) (fun M => M.flush 0 at') = AM.go s fun M => M.put8 at' l := by
 by_cases h : s.2 = 0
 ·rw [zI 8 0 h, mg h];unfold AM.put8;by_cases c : (s.1.layFrom at' l 0 8).2 = 0
  ·rw [mg c, if_neg fun hh => hh c]
  ·rw [rE c, if_pos c]
 ·rw [rh 8 0 h, rE h, rE h]
abbrev wtV (m : Nat) (at' e : Int) : V := .agg 67 [.ptr (.hp m) [] 59, .int .i64 at', .int .i64 e]
section
variable {m : Nat} {F : Ft}
theorem kE {K hp : List Blk} {p : Nat} {at' : Int} {s : AM × Int} (hw : K[p]? = some (.rw (wtV m at' s.2))) (h : ay hp F m s.1) {f : Nat} {caps : List V} (g : AM → AM × Int)
 (hf : s.2 = 0 → ∃ hp' F', rf D f caps ⟨K, hp⟩ = some (.int .i64 (g s.1).2, ⟨K, hp'⟩) ∧ ay hp' F' m (g s.1).1 ∧ Chg hp hp' F F') :
 ∃ hp' F', rf D gg [.ptr (.loc p) [] 67, .fn f caps] ⟨K, hp⟩ = some (.tup [], ⟨K.set p (.rw (wtV m at' (AM.go s g).2)), hp'⟩) ∧ ay hp' F' m (AM.go s g).1 ∧ Chg hp hp' F F' := by
 by_cases he : s.2 = 0
 ·obtain ⟨hp', F', e1, e2, e3⟩ := hf he;rw [mg he];refine ⟨hp', F', ?_, e2, e3⟩;rw [he] at hw;have hkl := ap hw;generalize (g s.1).2 = e at *;rw [ae jS rfl];simp only [go_sem, hw, e1];rw [if_pos (by simp), List.take_of_length_le (by simp)]
 ·rw [rE he];refine ⟨hp, F, ?_, h, .refl _ _⟩;rw [ft hw, ae jS rfl];simp only [go_sem, hw, he]
theorem KA {K hp hp' : List Blk} {p : Nat} {at' e : Int} (hw : K[p]? = some (.rw (wtV m at' e))) (ln : V) (i v x r : Int)
 (hS : rf D cS [.ptr (.hp m) [] 59, .int .i64 x, .int .i64 i, .int .u64 v] ⟨K ++ [.rw (.ptr (.loc p) [] 67), .rw ln, .rw (.int .i64 x), .rw (.int .i64 i), .rw (.int .u64 v)], hp⟩ = some (.int .i64 r, ⟨K ++ [.rw (.ptr (.loc p) [] 67), .rw ln, .rw (.int .i64 x), .rw (.int .i64 i), .rw (.int .u64 v)], hp'⟩)) :
 rf D dn [.ptr (.loc K.length) [] 1, .ptr (.loc (K.length + 2)) [] 10, .ptr (.loc (K.length + 3)) [] 10, .ptr (.loc (K.length + 4)) [] 18] ⟨K ++ [.rw (.ptr (.loc p) [] 67), .rw ln, .rw (.int .i64 x), .rw (.int .i64 i), .rw (.int .u64 v)], hp⟩ =
  some (.int .i64 r, ⟨K ++ [.rw (.ptr (.loc p) [] 67), .rw ln, .rw (.int .i64 x), .rw (.int .i64 i), .rw (.int .u64 v)], hp'⟩) := by
 have hpl := ap hw;have hg : ∀ X, (K ++ X)[p]? = some (.rw (wtV m at' e)) := fun X => by rw [List.getElem?_append_left hpl]; exact hw
 rw [ae oU rfl];simp only [go_sem, hg, hS]
theorem JQ {K hp hp' : List Blk} {p : Nat} {at' e : Int} (hw : K[p]? = some (.rw (wtV m at' e))) (ln : V) (x r : Int)
 (hS : rf D da [.ptr (.hp m) [] 59, .int .i64 0, .int .i64 x] ⟨K ++ [.rw (.ptr (.loc p) [] 67), .rw ln, .rw (.int .i64 x)], hp⟩ = some (.int .i64 r, ⟨K ++ [.rw (.ptr (.loc p) [] 67), .rw ln, .rw (.int .i64 x)], hp'⟩)) :
 rf D dt [.ptr (.loc K.length) [] 1, .ptr (.loc (K.length + 2)) [] 10] ⟨K ++ [.rw (.ptr (.loc p) [] 67), .rw ln, .rw (.int .i64 x)], hp⟩ =
  some (.int .i64 r, ⟨K ++ [.rw (.ptr (.loc p) [] 67), .rw ln, .rw (.int .i64 x)], hp'⟩) := by
 have hpl := ap hw;have hg : ∀ X, (K ++ X)[p]? = some (.rw (wtV m at' e)) := fun X => by rw [List.getElem?_append_left hpl]; exact hw
 rw [ae oK rfl];simp only [go_sem, hg, hS]
theorem zP {p : Nat} {at' : Int} {l : List Int} (hl : l.length = 8) {nK : Nat} : ∀ (n j : Nat) {K hp : List Blk} {F : Ft} {s : AM × Int}, j + n = 8 → K.length = nK → K[p]? = some (.rw (wtV m at' s.2)) → ay hp F m s.1 → s.1.count + n < 1000000 →
 ∃ hp' F', rc D nK (.loop [2, 5, 12, 13] dm) [(2, .ptr (.loc nK) [] 1), (5, .ptr (.loc (nK + 2)) [] 10), (12, lnV l), (13, .int .i64 j)] ⟨K ++ [.rw (.ptr (.loc p) [] 67), .rw (lnV l), .rw (.int .i64 at')], hp⟩ =
  some (.exit 0, [(2, .ptr (.loc nK) [] 1), (5, .ptr (.loc (nK + 2)) [] 10), (12, lnV l), (13, .int .i64 8), (14, .bool false)], ⟨K.set p (.rw (wtV m at' (gW at' l s j n).2)) ++ [.rw (.ptr (.loc p) [] 67), .rw (lnV l), .rw (.int .i64 at')], hp'⟩) ∧
  ay hp' F' m (gW at' l s j n).1 ∧ Chg hp hp' F F'
 | 0, j, K, hp, F, s, hj, hk, hw, h, hc => by
  have : j = 8 := by omega
  subst this;subst hk;refine ⟨hp, F, ?_, h, .refl _ _⟩;rw [gW, ft hw, ac];simp only [lnV];simp only [go_sem, dm]
 | n + 1, j, K, hp, F, s, hj, hk, hw, h, hc => by
  subst hk;have hpl := ap hw;let X : List Blk := [.rw (.ptr (.loc p) [] 67), .rw (lnV l), .rw (.int .i64 at'), .rw (.int .i64 j), .rw (.int .u64 (l.getD j 0))];obtain ⟨hp1, F1, e1, e2, e3⟩ := kE (K := K ++ X) (p := p) (at' := at') (s := s) (by rw [List.getElem?_append_left hpl]; exact hw) h (f := dn) (caps := [.ptr (.loc K.length) [] 1, .ptr (.loc (K.length + 2)) [] 10, .ptr (.loc (K.length + 3)) [] 10, .ptr (.loc (K.length + 4)) [] 18]) (fun M => M.store at' j (l.getD j 0)) (fun _ => by
   obtain ⟨hp', F', q1, q2, q3⟩ := dS h (by omega) at' j (l.getD j 0) (K ++ X);exact ⟨hp', F', KA hw (lnV l) j (l.getD j 0) at' _ q1, q2, q3⟩)
  have hcn : (AM.go s fun M => M.store at' j (l.getD j 0)).1.count ≤ s.1.count + 1 := by
   unfold AM.go;split
   ·exact AM.store_count
   ·omega
  rw [gW];generalize (AM.go s fun M => M.store at' j (l.getD j 0)) = s1 at *;rw [List.set_append_left _ _ hpl] at e1;generalize hK1 : K.set p (.rw (wtV m at' s1.2)) = K1 at *;have hl1 : K1.length = K.length := by rw [← hK1, List.length_set]
  obtain ⟨hp2, F2, q1, q2, q3⟩ := zP hl n (j + 1) (K := K1) (s := s1) (by omega) hl1 (by rw [← hK1]; exact List.getElem?_set_self hpl) e2 (by omega);refine ⟨hp2, F2, ?_, q2, e3.trans q3⟩;rw [← hK1, List.set_set] at q1;rw [← q1, ac, hK1];have d1 : (j : Int) < 8 := by omega
  have d2 : (0 : Int) ≤ j := by omega
  have d4 : IntKind.i64.wrap ((j : Int) + 1) = ((j + 1 : Nat) : Int) := ai (by omega) (by omega);have g := aG (f := V.int .u64) (l := l) (i := j) (by omega) 0;clear q1 q2 q3 hK1 e2;simp only [X, lnV] at *;generalize l.getD j 0 = wd at *;simp only [go_sem, dm, d1, d2, Int.toNat_natCast, g, e1, d4];rw [← hl1];have z1 : p < K1.length + 3 := by omega
  have z2 : K1.length < K1.length + 3 := by omega
  have z3 : K1.length + 2 < K1.length + 3 := by omega
  simp only [go_sem, z1, z2, z3]
theorem wE {p : Nat} {at' : Int} (ha : 0 ≤ at' ∧ at' ≤ 100000) {l : List Int} (hl : l.length = 8) {K hp : List Blk} {s : AM × Int} (hw : K[p]? = some (.rw (wtV m at' s.2))) (h : ay hp F m s.1) (hc : s.1.count + 10 < 1000000) :
 ∃ hp' F', rf D gQ [.ptr (.loc p) [] 67, lnV l] ⟨K, hp⟩ = some (.int .i64 at', ⟨K.set p (.rw (wtV m (at' + 1) (AM.go s fun M => M.put8 at' l).2)), hp'⟩) ∧
  ay hp' F' m (AM.go s fun M => M.put8 at' l).1 ∧ Chg hp hp' F F' := by
 have hpl := ap hw;obtain ⟨hp1, F1, e1, e2, e3⟩ := zP (at' := at') hl 8 0 rfl rfl hw h (by omega);rw [show ((0 : Nat) : Int) = 0 from rfl] at e1
 have hcn : ∀ (n j : Nat) (s : AM × Int), (gW at' l s j n).1.count ≤ s.1.count + n := by
  intro n
  induction n with
  | zero => intro j s; simp only [gW]; omega
  | succ n ih =>
   intro j s;rw [gW];have h1 : (AM.go s fun M => M.store at' j (l.getD j 0)).1.count ≤ s.1.count + 1 := by
    unfold AM.go;split
    ·exact AM.store_count
    ·omega
   have h2 := ih (j + 1) (AM.go s fun M => M.store at' j (l.getD j 0));omega
 have hcn := hcn 8 0 s;rw [← FZ];generalize gW at' l s 0 8 = s1 at *;generalize hK1 : K.set p (.rw (wtV m at' s1.2)) = K1 at *;have hl1 : K1.length = K.length := by rw [← hK1, List.length_set]
 have hw1 : K1[p]? = some (.rw (wtV m at' s1.2)) := by rw [← hK1]; exact List.getElem?_set_self hpl
 let X : List Blk := [.rw (.ptr (.loc p) [] 67), .rw (lnV l), .rw (.int .i64 at')];obtain ⟨hp2, F2, q1, q2, q3⟩ := kE (K := K1 ++ X) (p := p) (at' := at') (s := s1) (by rw [List.getElem?_append_left (by omega)]; exact hw1) e2 (f := dt) (caps := [.ptr (.loc K1.length) [] 1, .ptr (.loc (K1.length + 2)) [] 10]) (fun M => M.flush 0 at') (fun _ => by
  obtain ⟨hp', q1, q2, q3⟩ := kY e2 (by omega) 0 at' (K1 ++ X);exact ⟨hp', F1, JQ hw1 (lnV l) at' _ q1, q2, q3⟩)
 generalize (AM.go s1 fun M => M.flush 0 at') = s2 at *;refine ⟨hp2, F2, ?_, q2, e3.trans q3⟩;rw [List.set_append_left _ _ (by omega)] at q1;have w1 : IntKind.i64.wrap (at' + 1) = at' + 1 := ai (by omega) (by omega);have hgw : ∀ X, (K ++ X)[p]? = some (.rw (wtV m at' s.2)) := fun X => by rw [List.getElem?_append_left hpl]; exact hw
 have hK2 : K1.set p (.rw (wtV m at' s2.2)) = K.set p (.rw (wtV m at' s2.2)) := by rw [← hK1, List.set_set]
 rw [hl1, hK2] at q1;have hfin : K.set p (.rw (wtV m (at' + 1) s2.2)) = (K.set p (.rw (wtV m at' s2.2))).set p (.rw (wtV m (at' + 1) s2.2)) := by rw [List.set_set]
 have hl2 : (K.set p (.rw (wtV m at' s2.2))).length = K.length := by rw [List.length_set]
 have hg2 : ∀ X, (K.set p (.rw (wtV m at' s2.2)) ++ X)[p]? = some (.rw (wtV m at' s2.2)) := fun X => by
  rw [List.getElem?_append_left (by simpa using hpl)]; exact List.getElem?_set_self hpl
 rw [hfin];generalize K.set p (.rw (wtV m at' s2.2)) = K2 at *;have hs2 : ∀ X b, (K2 ++ X).set p b = K2.set p b ++ X := fun X b => List.set_append_left _ _ (by omega);have r0 : ∀ a b c : Blk, (K1 ++ [a, b, c])[K.length]? = some a := fun a b c => by rw [← hl1]; simp
 have r1 : ∀ a b c : Blk, (K2 ++ [a, b, c])[K.length]? = some a := fun a b c => by rw [← hl2]; simp
 have r2 : ∀ (x a b c : Blk), (K2.set p x ++ [a, b, c])[K.length + 2]? = some c := fun x a b c => by
  rw [← hl2, ← List.length_set (as := K2) (i := p) (a := x)]; simp
 have r3 : ∀ (x a b c : Blk), List.take K.length (K2.set p x ++ [a, b, c]) = K2.set p x := fun x a b c => List.take_left' (by rw [List.length_set, hl2]);clear e2 q2 hw h;simp only [X, lnV] at *;rw [ae qx rfl];simp only [go_sem, hgw, e1];simp only [go_sem, r0, r1, q1, hg2, hs2, w1, r2, r3];rw [if_pos (by rw [List.length_set, hl2]; omega)]
end
end Go.Proofs.YtilcajpldklbiaaDoor
namespace Go.Proofs.YtilcajpldklbiaaDoor
open Go.Ab
def oOk (o : Obj) : Bool := (decide (0 ≤ o.kind) && decide (o.kind ≤ 4)) && ((decide (0 ≤ o.ver) && decide (o.ver ≤ 16777215)) && !(decide (o.kind = 0) && !decide (o.l = zl)))
def bL : List Obj → Nat
 | [] => 0
 | o :: r => (if o.kind = 0 then 0 else 1) + bL r
theorem wx : ∀ l, bL l ≤ l.length
 | [] => Nat.le_refl _
 | o :: r => by
  have := wx r;simp only [bL, List.length_cons];split <;> omega
def noO : Obj := ⟨0, 0, zl⟩
theorem vX {o : Obj} : oOk o = true ↔ (0 ≤ o.kind ∧ o.kind ≤ 4) ∧ (0 ≤ o.ver ∧ o.ver ≤ 16777215) ∧ (o.kind = 0 → o.l = zl) := by
 unfold oOk;simp only [Bool.and_eq_true, decide_eq_true_eq, Bool.not_eq_true', Bool.and_eq_false_iff, decide_eq_false_iff_not];constructor
 ·rintro ⟨h1, h2, h3⟩;refine ⟨h1, h2, fun hk => ?_⟩;rcases h3 with h3 | h3
  ·exact absurd hk h3
  ·simpa using h3
 ·rintro ⟨h1, h2, h3⟩;refine ⟨h1, h2, ?_⟩;by_cases hk : o.kind = 0
  ·right; simp [h3 hk]
  ·exact .inl hk
theorem te {L hp : List Blk} {lv : V} {l : List Obj} (hlt : lv.locLt L.length = true) (hrs : RS ⟨L, hp⟩ 26 lv (l.map Obj.v)) (h8 : ∀ o ∈ l, o.l.length = 8) (hmax : l.length < 1000000000) : ∀ (n i : Nat) {k : Nat}, i + n = l.length → k ≤ i →
 ∃ r, rc D L.length (.loop [0, 4, 7, 8, 9] bh) [(0, lv), (4, .int .i64 k), (7, lv), (8, .int .i64 l.length), (9, .int .i64 i)] ⟨L, hp⟩ = some r ∧
  (((l.drop i).all oOk = true ∧ r = (.exit 0, [(0, lv), (4, .int .i64 (k + bL (l.drop i) : Nat)), (7, lv), (8, .int .i64 l.length), (9, .int .i64 l.length), (10, .bool false)], ⟨L, hp⟩)) ∨
   ((l.drop i).all oOk = false ∧ ∃ X, r = (.ret, [(2, .int .i64 0), (3, .bool false)], ⟨L ++ [X], hp⟩)))
 | 0, i, k, hi, hk => by
  have : i = l.length := by omega
  subst this;refine ⟨_, ?_, .inl ⟨by rw [List.drop_length]; rfl, rfl⟩⟩;have d1 : ¬ (l.length : Int) < l.length := by omega
  rw [List.drop_length, ac];simp only [bL, Nat.add_zero];simp only [go_sem, bh, d1]
 | n + 1, i, k, hi, hk => by
  have hil : i < l.length := by omega
  have d1 : (i : Int) < l.length := by omega
  have d4 : IntKind.i64.wrap ((i : Int) + 1) = ((i + 1 : Nat) : Int) := ai (by omega) (by omega);have d5 : IntKind.i64.wrap ((k : Int) + 1) = ((k + 1 : Nat) : Int) := ai (by omega) (by omega);have hg := aG (f := Obj.v) (l := l) (i := i) hil noO;have hld : ldv ⟨L, hp⟩ 26 (elq lv i [] 26) = V.at [] (l.getD i noO).v := hrs.ldq hg;have hsad := hrs.sadq hg (k := .i64);have hdrop : l.drop i = l.getD i noO :: l.drop (i + 1) := by
   rw [List.getD_eq_getElem?_getD, List.getElem?_eq_getElem hil];exact List.drop_eq_getElem_cons hil
  have hok := vX (o := l.getD i noO);have hl8 : (l.getD i noO).l.length = 8 := h8 _ (by rw [List.getD_eq_getElem?_getD, List.getElem?_eq_getElem hil]; exact List.getElem_mem hil);rw [hdrop, List.all_cons];simp only [bL];generalize hO : l.getD i noO = o at *;have hve := vO (k := .u64) (A := o.l) (B := zl) (by rw [hl8]; rfl);have hzz : zl.map (V.int .u64) = List.replicate 8 (.int .u64 0) := rfl;rw [hzz] at hve;obtain ⟨kd, vr, ln⟩ := o;simp only [Obj.v] at *;by_cases hv : oOk ⟨kd, vr, ln⟩ = true
  ·obtain ⟨h1, h2, h3⟩ := hok.1 hv;have a1 : ¬ kd < 0 := by omega
   have a2 : ¬ kd > 4 := by omega
   have a3 : ¬ vr < 0 := by omega
   have a4 : ¬ vr > 16777215 := by omega
   rw [hv, Bool.true_and];by_cases hk0 : kd = 0
   ·have hz : decide (ln = zl) = true := decide_eq_true (h3 hk0);rw [hz] at hve;obtain ⟨r, q1, q2⟩ := te hlt hrs h8 hmax n (i + 1) (k := k) (by omega) (by omega);refine ⟨r, ?_, ?_⟩
    ·rw [← q1, ac];clear q1 q2 hok hO hdrop hg hrs h3 hz hv;subst hk0;simp only [go_sem, bh, d1, hsad, hld, a3, a4, hve, d4, hlt]
    ·rw [if_pos hk0, Nat.zero_add]; exact q2
   ·obtain ⟨r, q1, q2⟩ := te hlt hrs h8 hmax n (i + 1) (k := k + 1) (by omega) (by omega);refine ⟨r, ?_, ?_⟩
    ·rw [← q1, ac];clear q1 q2 hok hO hdrop hg hrs h3 hv;simp only [go_sem, bh, d1, hsad, hld, a1, a2, a3, a4, hk0, d4, d5, hlt]
    ·rw [if_neg hk0, ← Nat.add_assoc]; exact q2
  ·have hv' : oOk ⟨kd, vr, ln⟩ = false := by simpa using hv
   rw [hv', Bool.false_and];refine ⟨_, ?_, .inr ⟨rfl, .rw (.agg 26 [.int .i64 kd, .int .i64 vr, .agg 24 (ln.map (.int .u64))]), rfl⟩⟩;rw [ac];clear hO hdrop hg hrs;by_cases a1 : kd < 0
   ·simp only [go_sem, bh, d1, hsad, hld, a1]
   ·by_cases a2 : kd > 4
    ·simp only [go_sem, bh, d1, hsad, hld, a1, a2]
    ·by_cases a3 : vr < 0
     ·simp only [go_sem, bh, d1, hsad, hld, a1, a2, a3]
     ·by_cases a4 : vr > 16777215
      ·simp only [go_sem, bh, d1, hsad, hld, a1, a2, a3, a4]
      ·have hk0 : kd = 0 := by
        by_cases e : kd = 0
        ·exact e
        ·exact absurd (hok.2 ⟨by omega, by omega, fun h => absurd h e⟩) hv
       have hz : decide (ln = zl) = false := decide_eq_false fun e => hv (hok.2 ⟨by omega, by omega, fun _ => e⟩);rw [hz] at hve;subst hk0;simp only [go_sem, bh, d1, hsad, hld, a3, a4, hve]
theorem Hx {L hp : List Blk} {lv : V} {l : List Obj} (hlt : lv.locLt L.length = true) (hrs : RS ⟨L, hp⟩ 26 lv (l.map Obj.v)) (h8 : ∀ o ∈ l, o.l.length = 8) (hmax : l.length < 1000000000) :
 rf D kK [lv] ⟨L, hp⟩ = some (if l.all oOk = true then .tup [.int .i64 (bL l), .bool (decide (l.length ≤ 49))] else .tup [.int .i64 0, .bool false], ⟨L, hp⟩) := by
 have hsl : V.slen false lv = some l.length := by
  have := hrs.slen
  rwa [List.length_map] at this
 obtain ⟨r, q1, q2⟩ := te hlt hrs h8 hmax l.length 0 (k := 0) (by omega) (Nat.le_refl _);rw [show ((0 : Nat) : Int) = 0 from rfl] at q1
 rw [List.drop_zero] at q2;rw [ae wj rfl];rcases q2 with ⟨c, rfl⟩ | ⟨c, X, rfl⟩
 ·rw [c, if_pos rfl];rw [Nat.zero_add] at q1;generalize bL l = z at *;by_cases hl : l.length ≤ 49
  ·have d1 : (l.length : Int) ≤ 49 := by omega
   rw [decide_eq_true hl];simp only [go_sem, hsl, q1, d1]
  ·have d1 : ¬ (l.length : Int) ≤ 49 := by omega
   rw [decide_eq_false hl];simp only [go_sem, hsl, q1, d1]
 ·rw [c, if_neg (by simp)];simp only [go_sem, hsl, q1]
end Go.Proofs.YtilcajpldklbiaaDoor
namespace Go.Proofs.YtilcajpldklbiaaDoor
open Go.Ab
def AM.wipe : AM × Int → Nat → Nat → AM × Int
 | s, _, 0 => s
 | s, i, n + 1 => AM.wipe (AM.go (AM.go s fun M => M.store i 7 0) fun M => M.flush 0 i) (i + 1) n
def eo : AM × Int → Nat → (Nat → Ent) → Nat → List Obj → (AM × Int) × Nat × (Nat → Ent)
 | s, at', t, _, [] => (s, at', t)
 | s, at', t, i, o :: r => if o.kind = 0 then eo s at' (updE t i ⟨o.kind, o.ver, 0⟩) (i + 1) r else eo (AM.go s fun M => M.put8 at' o.l) (at' + 1) (updE t i ⟨o.kind, o.ver, at'⟩) (i + 1) r
def iP (t : Nat → Ent) : AM × Int → Nat → Nat → Nat → AM × Int
 | s, _, _, 0 => s
 | s, at', k, n + 1 => iP t (AM.go s fun M => M.put8 at' (bj t k)) (at' + 1) (k + 1) n
theorem mc {M : AM} {at' : Int} {l : List Int} : (M.put8 at' l).1.count ≤ M.count + 9 := by
 have h1 := AM.layFrom_count (M := M) (at' := at') (l := l) (n := 8) (j := 0);have h2 := (bi (M := (M.layFrom at' l 0 8).1) (c := 0) (i := at')).1;unfold AM.put8;split <;> omega
theorem iv {s : AM × Int} {f : AM → AM × Int} {k : Nat} (h : (f s.1).1.count ≤ s.1.count + k) : (AM.go s f).1.count ≤ s.1.count + k := by
 unfold AM.go;split
 ·exact h
 ·exact Int.le_add_of_nonneg_right (Int.natCast_nonneg k)
theorem Jl {m : Nat} {K hp hp' : List Blk} {a b : Nat} {i r : Int} (h1 : K[a]? = some (.rw (.ptr (.hp m) [] 59))) (h2 : K[b]? = some (.rw (.int .i64 i)))
 (hS : rf D cS [.ptr (.hp m) [] 59, .int .i64 i, .int .i64 7, .int .u64 0] ⟨K, hp⟩ = some (.int .i64 r, ⟨K, hp'⟩)) : rf D fE [.ptr (.loc a) [] 1, .ptr (.loc b) [] 10] ⟨K, hp⟩ = some (.int .i64 r, ⟨K, hp'⟩) := by
 rw [ae sA rfl];simp only [go_sem, h1, h2, hS]
theorem JR {m : Nat} {K hp hp' : List Blk} {a b : Nat} {i r : Int} (h1 : K[a]? = some (.rw (.ptr (.hp m) [] 59))) (h2 : K[b]? = some (.rw (.int .i64 i)))
 (hS : rf D da [.ptr (.hp m) [] 59, .int .i64 0, .int .i64 i] ⟨K, hp⟩ = some (.int .i64 r, ⟨K, hp'⟩)) : rf D fH [.ptr (.loc a) [] 1, .ptr (.loc b) [] 10] ⟨K, hp⟩ = some (.int .i64 r, ⟨K, hp'⟩) := by
 rw [ae sC rfl];simp only [go_sem, h1, h2, hS]
theorem Ka {m : Nat} {K hp hp' : List Blk} {a : Nat} {r : Int} (h1 : K[a]? = some (.rw (.ptr (.hp m) [] 59)))
 (hS : rf D cV [.ptr (.hp m) [] 59, .int .i64 0] ⟨K, hp⟩ = some (.int .i64 r, ⟨K, hp'⟩)) : rf D fK [.ptr (.loc a) [] 1] ⟨K, hp⟩ = some (.int .i64 r, ⟨K, hp'⟩) := by
 rw [ae sq rfl];simp only [go_sem, h1, hS]
theorem K3 {m : Nat} {K hp hp' : List Blk} {a : Nat} {r : Int} (h1 : K[a]? = some (.rw (.ptr (.hp m) [] 59)))
 (hS : rf D cV [.ptr (.hp m) [] 59, .int .i64 0] ⟨K, hp⟩ = some (.int .i64 r, ⟨K, hp'⟩)) : rf D fF [.ptr (.loc a) [] 1] ⟨K, hp⟩ = some (.int .i64 r, ⟨K, hp'⟩) := by
 rw [ae sk rfl];simp only [go_sem, h1, hS]
theorem KT {m : Nat} {K hp hp' : List Blk} {a b c : Nat} {root cores r : Int} (h1 : K[a]? = some (.rw (.ptr (.hp m) [] 59))) (h2 : K[b]? = some (.rw (.int .i64 root))) (h3 : K[c]? = some (.rw (.int .i64 cores)))
 (hS : rf D jk [.ptr (.hp m) [] 59, .int .i64 0, .int .i64 0, (⟨1, root, 0, cores⟩ : Sup).v] ⟨K, hp⟩ = some (.int .i64 r, ⟨K, hp'⟩)) : rf D fJ [.ptr (.loc a) [] 1, .ptr (.loc b) [] 10, .ptr (.loc c) [] 10] ⟨K, hp⟩ = some (.int .i64 r, ⟨K, hp'⟩) := by
 simp only [Sup.v] at hS;rw [ae sj rfl];simp only [go_sem, h1, h2, h3, hS]
section
variable {m : Nat}
theorem xf {L : List Blk} {lv : V} (hlv : lv.locLt L.length = true) (cores : Int) {at0 : Nat} (ha : at0 ≤ 1000) : ∀ (n i : Nat) {hp : List Blk} {F : Ft} {s : AM × Int}, i + n = at0 → ay hp F m s.1 → s.1.count + 2 * n < 1000000 →
 ∃ hp' F', rc D L.length (.loop [2, 3, 4, 9, 55, 56] fI) [(2, lv), (3, .ptr (.loc L.length) [] 1), (4, .ptr (.loc (L.length + 1)) [] 10), (9, .ptr (.loc (L.length + 2)) [] 67), (55, .int .i64 at0), (56, .int .i64 i)] ⟨L ++ [.rw (.ptr (.hp m) [] 59), .rw (.int .i64 cores), .rw (wtV m at0 s.2)], hp⟩ =
  some (.exit 0, [(2, lv), (3, .ptr (.loc L.length) [] 1), (4, .ptr (.loc (L.length + 1)) [] 10), (9, .ptr (.loc (L.length + 2)) [] 67), (55, .int .i64 at0), (56, .int .i64 at0), (57, .bool false)], ⟨L ++ [.rw (.ptr (.hp m) [] 59), .rw (.int .i64 cores), .rw (wtV m at0 (AM.wipe s i n).2)], hp'⟩) ∧
  ay hp' F' m (AM.wipe s i n).1 ∧ Chg hp hp' F F' ∧ (AM.wipe s i n).1.count ≤ s.1.count + 2 * n
 | 0, i, hp, F, s, hi, h, hc => by
  have : i = at0 := by omega
  subst this;refine ⟨hp, F, ?_, h, .refl _ _, by simp only [AM.wipe]; omega⟩;have d1 : ¬ (i : Int) < i := by omega
  rw [AM.wipe, ac];simp only [go_sem, fI, d1]
 | n + 1, i, hp, F, s, hi, h, hc => by
  have d1 : (i : Int) < at0 := by omega
  have d4 : IntKind.i64.wrap ((i : Int) + 1) = ((i + 1 : Nat) : Int) := ai (by omega) (by omega);have hlv1 : ∀ k, V.locLt (L.length + k) lv = true := fun k => bf (Nat.le_add_right _ _) hlv;have c1 : (AM.go s fun M => M.store i 7 0).1.count ≤ s.1.count + (1 : Nat) := iv (by have := AM.store_count (M := s.1) (i := (i : Int)) (q := 7) (v := 0); omega);have c2 : (AM.go (AM.go s fun M => M.store i 7 0) fun M => M.flush 0 i).1.count ≤ (AM.go s fun M => M.store i 7 0).1.count + (1 : Nat) := iv (by have := (bi (M := (AM.go s fun M => M.store i 7 0).1) (c := 0) (i := (i : Int))).1; omega);obtain ⟨hp1, F1, e1, e2, e3⟩ := kE (m := m) (K := L ++ [.rw (.ptr (.hp m) [] 59), .rw (.int .i64 cores), .rw (wtV m at0 s.2), .rw (.int .i64 i)]) (p := L.length + 2) (at' := at0) (s := s) (by simp) h (f := fE) (caps := [.ptr (.loc L.length) [] 1, .ptr (.loc (L.length + 3)) [] 10]) (fun M => M.store i 7 0) (fun _ => by
   obtain ⟨hp', F', q1, q2, q3⟩ := dS h (by omega) i 7 0 (L ++ [.rw (.ptr (.hp m) [] 59), .rw (.int .i64 cores), .rw (wtV m at0 s.2), .rw (.int .i64 i)]);exact ⟨hp', F', Jl (m := m) (i := i) (by simp) (by simp) q1, q2, q3⟩)
  rw [AM.wipe];generalize (AM.go s fun M => M.store i 7 0) = s1 at *;obtain ⟨hp2, F2, f1, f2, f3⟩ := kE (m := m) (K := L ++ [.rw (.ptr (.hp m) [] 59), .rw (.int .i64 cores), .rw (wtV m at0 s1.2), .rw (.int .i64 i)]) (p := L.length + 2) (at' := at0) (s := s1) (by simp) e2 (f := fH) (caps := [.ptr (.loc L.length) [] 1, .ptr (.loc (L.length + 3)) [] 10]) (fun M => M.flush 0 i) (fun _ => by
   obtain ⟨hp', q1, q2, q3⟩ := kY e2 (by omega) 0 i (L ++ [.rw (.ptr (.hp m) [] 59), .rw (.int .i64 cores), .rw (wtV m at0 s1.2), .rw (.int .i64 i)]);exact ⟨hp', F1, JR (m := m) (i := i) (by simp) (by simp) q1, q2, q3⟩)
  generalize (AM.go s1 fun M => M.flush 0 i) = s2 at *;obtain ⟨hp3, F3, q1, q2, q3, q4⟩ := xf hlv cores ha n (i + 1) (s := s2) (by omega) f2 (by omega);have hset : ∀ (a b c d e : Blk), (L ++ [a, b, c, d]).set (L.length + 2) e = L ++ [a, b, e, d] := fun a b c d e => by simp
  rw [hset] at e1 f1;refine ⟨hp3, F3, ?_, q2, (e3.trans f3).trans q3, by omega⟩;rw [← q1, ac];have z0 : L.length < L.length + 3 := by omega
  have z1 : L.length + 1 < L.length + 3 := by omega
  have z2 : L.length + 2 < L.length + 3 := by omega
  clear q1 q2 q3 q4 e2 f2;simp only [go_sem, fI, d1, e1, f1, d4, hlv, hlv1, z0, z1, z2]
theorem tD {L : List Blk} {lv : V} (hlv : lv.locLt L.length = true) {l : List Obj} {hp0 : List Blk} {F0 : Ft} (hrs : ∀ (X hp' : List Blk) (F' : Ft), Chg hp0 hp' F0 F' → RS ⟨L ++ X, hp'⟩ 26 lv (l.map Obj.v)) (h8 : ∀ o ∈ l, o.l.length = 8) (h49 : l.length ≤ 49) (cores : Int) :
 ∀ (n i : Nat) {at' : Nat} {t : Nat → Ent} {hp : List Blk} {F : Ft} {s : AM × Int}, i + n = l.length → at' + n ≤ 2000 → ay hp F m s.1 → s.1.count + 10 * n + 10 < 1000000 → Chg hp0 hp F0 F →
 ∃ hp' F', rc D L.length (.loop [3, 4, 9, 11, 69, 70, 71] dA) [(3, .ptr (.loc L.length) [] 1), (4, .ptr (.loc (L.length + 1)) [] 10), (9, .ptr (.loc (L.length + 2)) [] 67), (11, .ptr (.loc (L.length + 3)) [] 48), (69, lv), (70, .int .i64 l.length), (71, .int .i64 i)] ⟨L ++ [.rw (.ptr (.hp m) [] 59), .rw (.int .i64 cores), .rw (wtV m at' s.2), .rw (af t)], hp⟩ =
  some (.exit 2, [(3, .ptr (.loc L.length) [] 1), (4, .ptr (.loc (L.length + 1)) [] 10), (9, .ptr (.loc (L.length + 2)) [] 67), (11, .ptr (.loc (L.length + 3)) [] 48), (69, lv), (70, .int .i64 l.length), (71, .int .i64 l.length), (72, .bool false)],
   ⟨L ++ [.rw (.ptr (.hp m) [] 59), .rw (.int .i64 cores), .rw (wtV m (eo s at' t i (l.drop i)).2.1 (eo s at' t i (l.drop i)).1.2), .rw (af (eo s at' t i (l.drop i)).2.2)], hp'⟩) ∧
  ay hp' F' m (eo s at' t i (l.drop i)).1.1 ∧ Chg hp0 hp' F0 F' ∧ (eo s at' t i (l.drop i)).1.1.count ≤ s.1.count + 9 * n
 | 0, i, at', t, hp, F, s, hi, hat, h, hc, hch => by
  have : i = l.length := by omega
  subst this;refine ⟨hp, F, ?_, by rw [List.drop_length]; exact h, hch, by rw [List.drop_length]; simp only [eo]; omega⟩;have d1 : ¬ (l.length : Int) < l.length := by omega
  rw [List.drop_length];simp only [eo];rw [ac];simp only [go_sem, dA, d1]
 | n + 1, i, at', t, hp, F, s, hi, hat, h, hc, hch => by
  have hil : i < l.length := by omega
  have hi49 : i < 49 := by omega
  have d1 : (i : Int) < l.length := by omega
  have d2 : (0 : Int) ≤ i := by omega
  have d3 : (i : Int) < 49 := by omega
  have d4 : IntKind.i64.wrap ((i : Int) + 1) = ((i + 1 : Nat) : Int) := ai (by omega) (by omega);have hg := aG (f := Obj.v) (l := l) (i := i) hil noO;have hld : ∀ X, ldv ⟨L ++ X, hp⟩ 26 (elq lv i [] 26) = V.at [] (l.getD i noO).v := fun X => (hrs X hp F hch).ldq hg;have hsad := (hrs [] hp F hch).sadq hg (k := .i64);have hdrop : l.drop i = l.getD i noO :: l.drop (i + 1) := by
   rw [List.getD_eq_getElem?_getD, List.getElem?_eq_getElem hil];exact List.drop_eq_getElem_cons hil
  have hl8 : (l.getD i noO).l.length = 8 := h8 _ (by rw [List.getD_eq_getElem?_getD, List.getElem?_eq_getElem hil]; exact List.getElem_mem hil);have hlv1 : ∀ k, V.locLt (L.length + k) lv = true := fun k => bf (Nat.le_add_right _ _) hlv;have z0 : L.length < L.length + 4 := by omega
  have z1 : L.length + 1 < L.length + 4 := by omega
  have z2 : L.length + 2 < L.length + 4 := by omega
  have z3 : L.length + 3 < L.length + 4 := by omega
  have gt := aC (f := fun j => (t j).v) hi49;rw [hdrop];simp only [eo];generalize l.getD i noO = o at *;obtain ⟨kd, vr, ln⟩ := o;simp only [Obj.v] at *;by_cases hk : kd = 0
  ·rw [if_pos hk];obtain ⟨hp2, F2, q1, q2, q3, q4⟩ := tD hlv hrs h8 h49 cores n (i + 1) (at' := at') (t := updE t i ⟨kd, vr, 0⟩) (by omega) (by omega) h (by omega) hch;refine ⟨hp2, F2, ?_, q2, q3, by omega⟩;rw [← q1, ac];have hu := pu (t := t) (i := i) (e := ⟨kd, vr, 0⟩);simp only [af];rw [← hu];clear q1 q2 q3 q4 hu hdrop hg hrs;simp only [Ent.v] at *;generalize tab 49 (fun j => V.agg 42 [.int .i64 (t j).kind, .int .i64 (t j).ver, .int .i64 (t j).line]) = T at *;simp only [go_sem, dA, d1, hsad, hld];simp only [go_sem, d2, d3, d4, Int.toNat_natCast, gt, hk, z0, z1, z2, z3, hlv1]
  ·rw [if_neg hk];let X : List Blk := [.rw (.ptr (.hp m) [] 59), .rw (.int .i64 cores), .rw (wtV m at' s.2), .rw (af (updE t i ⟨kd, vr, 0⟩)), .rw (.agg 26 [.int .i64 kd, .int .i64 vr, .agg 24 (ln.map (.int .u64))])];obtain ⟨hp1, F1, e1, e2, e3⟩ := wE (m := m) (p := L.length + 2) (at' := at') (by omega) hl8 (K := L ++ X) (s := s) (by simp [X]) h (by omega);have c1 : (AM.go s fun M => M.put8 at' ln).1.count ≤ s.1.count + (9 : Nat) := iv (by have := mc (M := s.1) (at' := at') (l := ln); omega);generalize (AM.go s fun M => M.put8 at' ln) = s1 at *;obtain ⟨hp2, F2, q1, q2, q3, q4⟩ := tD hlv hrs h8 h49 cores n (i + 1) (at' := at' + 1) (t := updE t i ⟨kd, vr, at'⟩) (s := s1) (by omega) (by omega) e2 (by omega) (hch.trans e3);refine ⟨hp2, F2, ?_, q2, q3, by omega⟩;have hset : ∀ (a b c d e f : Blk), (L ++ [a, b, c, d, e]).set (L.length + 2) f = L ++ [a, b, f, d, e] := fun a b c d e f => by simp
   simp only [X] at e1;rw [hset] at e1;rw [← q1, ac];have hu := pu (t := t) (i := i) (e := ⟨kd, vr, 0⟩);have hu2 : (tab 49 fun j => (updE t i ⟨kd, vr, 0⟩ j).v).set i (Ent.v ⟨kd, vr, at'⟩) = tab 49 fun j => (updE t i ⟨kd, vr, at'⟩ j).v := by
    rw [← hu, List.set_set]; exact pu
   have gt2 := aC (f := fun j => (updE t i ⟨kd, vr, 0⟩ j).v) hi49;rw [gc] at gt2;have hca : ((at' + 1 : Nat) : Int) = (at' : Int) + 1 := by omega
   simp only [af] at *;rw [← hu2, hca];clear q1 q2 q3 q4 hu2 hdrop hg hrs e2 e3 hch h;rw [← hu] at e1 gt2 ⊢;clear hu;simp only [Ent.v, lnV] at *;generalize tab 49 (fun j => V.agg 42 [.int .i64 (t j).kind, .int .i64 (t j).ver, .int .i64 (t j).line]) = T at *;simp only [go_sem, dA, d1, hsad, hld];simp only [go_sem, d2, d3, d4, Int.toNat_natCast, gt, hk, z0, z1, z2, z3, hlv1, e1, gt2]
theorem vp {L : List Blk} (cores : Int) (t : Nat → Ent) {a0 : Nat} (ha0 : a0 ≤ 2000) : ∀ (n k : Nat) {at' : Nat} {hp : List Blk} {F : Ft} {s : AM × Int}, k + n = 7 → at' = a0 + k → ay hp F m s.1 → s.1.count + 10 * n + 10 < 1000000 →
 ∃ hp' F', rc D L.length (.loop [3, 4, 9, 11, 14, 94] fG) [(3, .ptr (.loc L.length) [] 1), (4, .ptr (.loc (L.length + 1)) [] 10), (9, .ptr (.loc (L.length + 2)) [] 67), (11, .ptr (.loc (L.length + 3)) [] 48), (14, .ptr (.loc (L.length + 4)) [] 60), (94, .int .i64 k)]
  ⟨L ++ [.rw (.ptr (.hp m) [] 59), .rw (.int .i64 cores), .rw (wtV m at' s.2), .rw (af t), .rw (d7V (bW (fun j => (a0 : Int) + j) k))], hp⟩ =
  some (.exit 4, [(3, .ptr (.loc L.length) [] 1), (4, .ptr (.loc (L.length + 1)) [] 10), (9, .ptr (.loc (L.length + 2)) [] 67), (11, .ptr (.loc (L.length + 3)) [] 48), (14, .ptr (.loc (L.length + 4)) [] 60), (94, .int .i64 7), (95, .bool false)],
   ⟨L ++ [.rw (.ptr (.hp m) [] 59), .rw (.int .i64 cores), .rw (wtV m (a0 + 7 : Nat) (iP t s at' k n).2), .rw (af t), .rw (d7V (bW (fun j => (a0 : Int) + j) 7))], hp'⟩) ∧
  ay hp' F' m (iP t s at' k n).1 ∧ Chg hp hp' F F' ∧ (iP t s at' k n).1.count ≤ s.1.count + 9 * n
 | 0, k, at', hp, F, s, hi, hat, h, hc => by
  have : k = 7 := by omega
  subst this;subst hat;refine ⟨hp, F, ?_, h, .refl _ _, by simp only [iP]; omega⟩;simp only [iP];rw [ac];simp only [go_sem, fG]
 | n + 1, k, at', hp, F, s, hi, hat, h, hc => by
  have hk7 : k < 7 := by omega
  have d1 : (k : Int) < 7 := by omega
  have d2 : (0 : Int) ≤ k := by omega
  have d4 : IntKind.i64.wrap ((k : Int) + 1) = ((k + 1 : Nat) : Int) := ai (by omega) (by omega);have z0 : L.length < L.length + 5 := by omega
  have z1 : L.length + 1 < L.length + 5 := by omega
  have z2 : L.length + 2 < L.length + 5 := by omega
  have z3 : L.length + 3 < L.length + 5 := by omega
  have z4 : L.length + 4 < L.length + 5 := by omega
  obtain ⟨le, hLf⟩ : ∃ e : St → Int, ∀ s, rf D kj [af t, .int .i64 k] s = some (.tup [lnV (bj t k), .int .i64 (e s)], s) := by
   refine ⟨fun s => Classical.choose (qi t hk7 s), fun s => Classical.choose_spec (qi t hk7 s)⟩
  let X : List Blk := [.rw (.ptr (.hp m) [] 59), .rw (.int .i64 cores), .rw (wtV m at' s.2), .rw (af t), .rw (d7V (bW (fun j => (a0 : Int) + j) k)), .rw (lnV (bj t k))];obtain ⟨hp1, F1, e1, e2, e3⟩ := wE (m := m) (p := L.length + 2) (at' := at') (by omega) (lH t k) (K := L ++ X) (s := s) (by simp [X]) h (by omega);have c1 : (AM.go s fun M => M.put8 at' (bj t k)).1.count ≤ s.1.count + (9 : Nat) := iv (by have := mc (M := s.1) (at' := at') (l := bj t k); omega);simp only [iP];generalize (AM.go s fun M => M.put8 at' (bj t k)) = s1 at *;obtain ⟨hp2, F2, q1, q2, q3, q4⟩ := vp cores t ha0 n (k + 1) (at' := at' + 1) (s := s1) (by omega) (by omega) e2 (by omega);refine ⟨hp2, F2, ?_, q2, e3.trans q3, by omega⟩;have hset : ∀ (a b c d e f g : Blk), (L ++ [a, b, c, d, e, f]).set (L.length + 2) g = L ++ [a, b, g, d, e, f] := fun a b c d e f g => by simp
  simp only [X] at e1;rw [hset] at e1;rw [← q1, ac];have hu := zC (f := fun j => (a0 : Int) + j) (n := 7) (i := k);have gt := aC (f := fun j => V.int .i64 (bW (fun j => (a0 : Int) + j) k j)) hk7;have hca : ((at' + 1 : Nat) : Int) = (at' : Int) + 1 := by omega
  have hcb : (a0 : Int) + (k : Int) = (at' : Int) := by omega
  have tz : (lnV (bj t k)).tag = 24 := rfl;have vz : ∀ b, V.locLt b (lnV (bj t k)) = true := fun b => nu;have vt : ∀ b, V.locLt b (af t) = true := fun b => kJ;have tt : (af t).tag = 48 := rfl;rw [hca];clear q1 q2 q3 q4 e2 e3 h;simp only [d7V] at *;rw [← hu, hcb];clear hu;generalize lnV (bj t k) = Y at *;generalize af t = TT at *;generalize tab 7 (fun j => V.int .i64 (bW (fun j => (a0 : Int) + j) k j)) = T at *;simp only [go_sem, fG, d1, hLf, tz, vz];simp only [go_sem, d2, d4, Int.toNat_natCast, gt, z0, z1, z2, z3, z4, e1, vt]
end
end Go.Proofs.YtilcajpldklbiaaDoor
namespace Go.Proofs.YtilcajpldklbiaaDoor
open Go.Ab
def uy (M : AM) (cores : Int) (at0 : Nat) (l : List Obj) : AM × Int :=
 let s2 := AM.go (AM.wipe (M, 0) 0 at0) fun M => M.fence 0;let r := eo s2 at0 (fun _ => aw) 0 l;let s4 := iP r.2.2 r.1 r.2.1 0 7;let s5 := AM.go s4 fun M => M.put8 (r.2.1 + 7 : Nat) (aL fun j => (r.2.1 : Int) + j);let s6 := AM.go s5 fun M => M.fence 0
 AM.go s6 fun M => M.wrs 0 ⟨1, (r.2.1 + 7 : Nat), 0, cores⟩
def AM.fmt (M : AM) (cores : Int) (l : List Obj) : AM × Int :=
 if l.all oOk = false ∨ 49 < l.length ∨ cores < 1 ∨ 8 < cores then (M, 1)
 else if M.n < 2 + 4 * cores.toNat + bL l + 8 then (M, 10)
 else uy M cores (2 + 4 * cores.toNat) l
theorem wy : ∀ (l : List Obj) (s : AM × Int) (a : Nat) (t : Nat → Ent) (i : Nat), (eo s a t i l).2.1 = a + bL l
 | [], _, _, _, _ => rfl
 | o :: r, s, a, t, i => by
  simp only [eo, bL];split
  ·rw [wy r, Nat.zero_add]
  ·rw [wy r]; omega
theorem EU {a : Int} : aL (bW (fun j => a + j) 7) = aL fun j => a + j := by
 have e : ∀ j, j < 7 → bW (fun j => a + j) 7 j = a + j := fun j hj => if_pos hj;have h1 : gD (bW (fun j => a + j) 7) 0 7 = gD (fun j => a + j) 0 7 := by
  unfold gD;apply Bool.eq_iff_iff.2;simp only [List.all_eq_true, List.mem_range];constructor
  ·intro hh j hj; have := hh j hj; rw [e (0 + j) (by omega)] at this; exact this
  ·intro hh j hj; rw [e (0 + j) (by omega)]; exact hh j hj
 have h2 : rlL (bW (fun j => a + j) 7) 7 = rlL (fun j => a + j) 7 := by
  unfold rlL;apply List.map_congr_left;intro j _;split
  ·rename_i hj; rw [e j hj]
  ·rfl
 unfold aL;rw [h1, h2]
section
variable {m : Nat}
theorem wT {L : List Blk} {lv : V} (hlv : lv.locLt L.length = true) {l : List Obj} {hp : List Blk} {F : Ft} {M : AM} (hrs : ∀ (X hp' : List Blk) (F' : Ft), Chg hp hp' F F' → RS ⟨L ++ X, hp'⟩ 26 lv (l.map Obj.v)) (h8 : ∀ o ∈ l, o.l.length = 8) (hmax : l.length < 1000000000) (cores : Int) (h : ay hp F m M) (hc : M.count + 2000 < 1000000) :
 ∃ hp' F', rf D kb [.ptr (.hp m) [] 59, .int .i64 cores, lv] ⟨L, hp⟩ = some (.int .i64 (M.fmt cores l).2, ⟨L, hp'⟩) ∧ ay hp' F' m (M.fmt cores l).1 ∧ Chg hp hp' F F' := by
 have hlv1 : ∀ k, V.locLt (L.length + k) lv = true := fun k => bf (Nat.le_add_right _ _) hlv;have hck := Hx (L := L ++ [.rw (.ptr (.hp m) [] 59), .rw (.int .i64 cores)]) (by rw [List.length_append]; exact hlv1 _) (hrs _ hp F (.refl _ _)) h8 hmax;have hsl : V.slen false lv = some l.length := by
  have := (hrs [] hp F (.refl _ _)).slen
  rwa [List.length_map] at this
 unfold AM.fmt;by_cases c0 : l.all oOk = false ∨ 49 < l.length ∨ cores < 1 ∨ 8 < cores
 ·rw [if_pos c0];refine ⟨hp, F, ?_, h, .refl _ _⟩;clear hrs;by_cases b1 : l.all oOk = true
  ·rw [if_pos b1] at hck;by_cases b2 : l.length ≤ 49
   ·rw [decide_eq_true b2] at hck;by_cases b3 : cores < 1
    ·rw [ae dg rfl];simp only [go_sem, hck, b3]
    ·have b4 : cores > 8 := by
      rcases c0 with c | c | c | c
      ·rw [b1] at c; cases c
      ·omega
      ·omega
      ·exact c
     rw [ae dg rfl];simp only [go_sem, hck, b3, b4]
   ·rw [decide_eq_false b2] at hck;rw [ae dg rfl];simp only [go_sem, hck]
  ·rw [if_neg b1] at hck;rw [ae dg rfl];simp only [go_sem, hck]
 ·rw [if_neg c0];have b1 : l.all oOk = true := by
   cases e : l.all oOk
   ·exact absurd (.inl e) c0
   ·rfl
  have b2 : l.length ≤ 49 := by
   have := fun e => c0 (.inr (.inl e)); omega
  have b3 : ¬ cores < 1 := fun e => c0 (.inr (.inr (.inl e)));have b4 : ¬ cores > 8 := fun e => c0 (.inr (.inr (.inr e)));rw [if_pos b1, decide_eq_true b2] at hck;obtain ⟨cn, rfl⟩ : ∃ cn : Nat, cores = cn := ⟨cores.toNat, by omega⟩;rw [Int.toNat_natCast];have hFr := fun s => oE (c := cn) (by omega) s;rw [show (2 : Int) + 4 * (cn : Int) = ((2 + 4 * cn : Nat) : Int) by omega] at hFr;have hLn := fun L => kV h L;have hcl := wx l;have w1 : IntKind.i64.wrap (((2 + 4 * cn : Nat) : Int) + (bL l : Int)) = ((2 + 4 * cn + bL l : Nat) : Int) := by rw [ai (by omega) (by omega)]; omega
  have w2 : IntKind.i64.wrap (((2 + 4 * cn + bL l : Nat) : Int) + 7) = ((2 + 4 * cn + bL l + 7 : Nat) : Int) := by rw [ai (by omega) (by omega)]; omega
  have w3 : IntKind.i64.wrap (((2 + 4 * cn + bL l + 7 : Nat) : Int) + 1) = ((2 + 4 * cn + bL l + 8 : Nat) : Int) := by rw [ai (by omega) (by omega)]; omega
  by_cases c1 : M.n < 2 + 4 * cn + bL l + 8
  ·rw [if_pos c1];refine ⟨hp, F, ?_, h, .refl _ _⟩;clear hrs;have d1 : (M.n : Int) < ((2 + 4 * cn + bL l + 8 : Nat) : Int) := by omega
   rw [ae dg rfl];simp only [go_sem, hck, b3, b4];simp only [go_sem, hFr, hLn, w1, w2, w3, d1]
  ·rw [if_neg c1];have d1 : ¬ (M.n : Int) < ((2 + 4 * cn + bL l + 8 : Nat) : Int) := by omega
   generalize hat : 2 + 4 * cn = at0 at *;obtain ⟨hp1, F1, e1, m1, g1, k1⟩ := xf (m := m) (L := L) hlv cn (at0 := at0) (by omega) at0 0 (s := (M, 0)) (by omega) h (by show M.count + _ < _; omega);rw [show ((0 : Nat) : Int) = 0 from rfl] at e1
   unfold uy;simp only;have k1' : (AM.wipe (M, 0) 0 at0).1.count ≤ M.count + 2 * at0 := k1;clear k1;generalize hs1 : AM.wipe (M, 0) 0 at0 = s1 at *;obtain ⟨hp2, F2, e2, m2, g2⟩ := kE (m := m) (K := L ++ [.rw (.ptr (.hp m) [] 59), .rw (.int .i64 cn), .rw (wtV m at0 s1.2)]) (p := L.length + 2) (at' := at0) (s := s1) (by simp) m1 (f := fK) (caps := [.ptr (.loc L.length) [] 1]) (fun M => M.fence 0) (fun _ => by
    obtain ⟨hp', F', q1, q2, q3⟩ := lj m1 (by omega) 0 (L ++ [.rw (.ptr (.hp m) [] 59), .rw (.int .i64 cn), .rw (wtV m at0 s1.2)]);exact ⟨hp', F', Ka (m := m) (by simp) q1, q2, q3⟩)
   have k2 : (AM.go s1 fun M => M.fence 0).1.count ≤ s1.1.count + (1 : Nat) := iv (by
    unfold AM.fence;split
    ·simp only; omega
    ·split
     ·simp only [AM.out]; omega
     ·simp only; rw [(bH _).2.1]; simp only [AM.stepped]; omega)
   generalize (AM.go s1 fun M => M.fence 0) = s2 at *;obtain ⟨hp3, F3, e3, m3, g3, k3⟩ := tD (m := m) (L := L) hlv hrs h8 b2 cn l.length 0 (at' := at0) (t := fun _ => aw) (s := s2) (by omega) (by omega) m2 (by omega) (g1.trans g2);rw [show ((0 : Nat) : Int) = 0 from rfl] at e3
   rw [List.drop_zero] at e3 m3 k3;have hat3 := wy l s2 at0 (fun _ => aw) 0;generalize eo s2 at0 (fun _ => aw) 0 l = r3 at *;obtain ⟨s3, a3, t3⟩ := r3;simp only at e3 m3 k3 hat3;simp only;obtain ⟨hp4, F4, e4, m4, g4, k4⟩ := vp (m := m) (L := L) cn t3 (a0 := a3) (by omega) 7 0 (at' := a3) (s := s3) (by omega) (by omega) m3 (by omega);rw [show ((0 : Nat) : Int) = 0 from rfl] at e4
   generalize iP t3 s3 a3 0 7 = s4 at *;obtain ⟨re, hRt⟩ : ∃ e : St → Int, ∀ s, rf D ka [d7V (bW (fun j => (a3 : Int) + j) 7)] s = some (.tup [lnV (aL (bW (fun j => (a3 : Int) + j) 7)), .int .i64 (e s)], s) :=
    ⟨fun s => Classical.choose (qq _ s), fun s => Classical.choose_spec (qq _ s)⟩
   rw [EU] at hRt;let Y : List Blk := [.rw (af t3), .rw (d7V (bW (fun j => (a3 : Int) + j) 7)), .rw (lnV (aL fun j => (a3 : Int) + j))];obtain ⟨hp5, F5, e5, m5, g5⟩ := wE (m := m) (p := L.length + 2) (at' := (a3 + 7 : Nat)) (by omega) (nR fun j => (a3 : Int) + j) (K := L ++ ([.rw (.ptr (.hp m) [] 59), .rw (.int .i64 cn), .rw (wtV m (a3 + 7 : Nat) s4.2)] ++ Y)) (s := s4) (by simp) m4 (by omega);have k5 : (AM.go s4 fun M => M.put8 (a3 + 7 : Nat) (aL fun j => (a3 : Int) + j)).1.count ≤ s4.1.count + (9 : Nat) := iv (by have := mc (M := s4.1) (at' := (a3 + 7 : Nat)) (l := aL fun j => (a3 : Int) + j); omega);generalize (AM.go s4 fun M => M.put8 (a3 + 7 : Nat) (aL fun j => (a3 : Int) + j)) = s5 at *;have hca : ((a3 + 7 : Nat) : Int) + 1 = ((a3 + 8 : Nat) : Int) := by omega
   rw [hca] at e5;obtain ⟨hp6, F6, e6, m6, g6⟩ := kE (m := m) (K := L ++ ([.rw (.ptr (.hp m) [] 59), .rw (.int .i64 cn), .rw (wtV m (a3 + 8 : Nat) s5.2)] ++ (Y ++ [.rw (.int .i64 (a3 + 7 : Nat))]))) (p := L.length + 2) (at' := (a3 + 8 : Nat)) (s := s5) (by simp) m5 (f := fF) (caps := [.ptr (.loc L.length) [] 1]) (fun M => M.fence 0) (fun _ => by
    obtain ⟨hp', F', q1, q2, q3⟩ := lj m5 (by omega) 0 (L ++ ([.rw (.ptr (.hp m) [] 59), .rw (.int .i64 cn), .rw (wtV m (a3 + 8 : Nat) s5.2)] ++ (Y ++ [.rw (.int .i64 (a3 + 7 : Nat))])));exact ⟨hp', F', K3 (m := m) (by simp) q1, q2, q3⟩)
   have k6 : (AM.go s5 fun M => M.fence 0).1.count ≤ s5.1.count + (1 : Nat) := iv (by
    unfold AM.fence;split
    ·simp only; omega
    ·split
     ·simp only [AM.out]; omega
     ·simp only; rw [(bH _).2.1]; simp only [AM.stepped]; omega)
   generalize (AM.go s5 fun M => M.fence 0) = s6 at *;obtain ⟨hp7, F7, e7, m7, g7⟩ := kE (m := m) (K := L ++ ([.rw (.ptr (.hp m) [] 59), .rw (.int .i64 cn), .rw (wtV m (a3 + 8 : Nat) s6.2)] ++ (Y ++ [.rw (.int .i64 (a3 + 7 : Nat))]))) (p := L.length + 2) (at' := (a3 + 8 : Nat)) (s := s6) (by simp) m6 (f := fJ) (caps := [.ptr (.loc L.length) [] 1, .ptr (.loc (L.length + 6)) [] 10, .ptr (.loc (L.length + 1)) [] 10]) (fun M => M.wrs 0 ⟨1, (a3 + 7 : Nat), 0, cn⟩) (fun _ => by
    obtain ⟨hp', F', q1, q2, q3⟩ := Bm m6 (by omega) 0 ⟨1, (a3 + 7 : Nat), 0, cn⟩ (L ++ ([.rw (.ptr (.hp m) [] 59), .rw (.int .i64 cn), .rw (wtV m (a3 + 8 : Nat) s6.2)] ++ (Y ++ [.rw (.int .i64 (a3 + 7 : Nat))])));exact ⟨hp', F', KT (m := m) (root := (a3 + 7 : Nat)) (cores := cn) (by simp) (by simp [Y]) (by simp) q1, q2, q3⟩)
   refine ⟨hp7, F7, ?_, m7, ((((g3.trans g4).trans g5).trans g6).trans g7)⟩;generalize (AM.go s6 fun M => M.wrs 0 ⟨1, (a3 + 7 : Nat), 0, cn⟩) = s7 at *;have hset : ∀ (a b c d : Blk) (Z : List Blk), (L ++ ([a, b, c] ++ Z)).set (L.length + 2) d = L ++ ([a, b, d] ++ Z) := fun a b c d Z => by simp
   have hset2 : ∀ (a b c d : Blk), (L ++ [a, b, c]).set (L.length + 2) d = L ++ [a, b, d] := fun a b c d => by simp
   rw [hset] at e5 e6 e7;rw [hset2] at e2;have ty : (lnV (aL fun j => (a3 : Int) + j)).tag = 24 := rfl;have tl : ∀ b, V.locLt b (lnV (aL fun j => (a3 : Int) + j)) = true := fun b => nu;have z48 : V.agg 48 (List.replicate 49 (.agg 42 [.int .i64 0, .int .i64 0, .int .i64 0])) = af fun _ => aw := by rw [fW]; rfl
   have z60 : V.agg 60 (List.replicate 7 (.int .i64 0)) = d7V (bW (fun j => (a3 : Int) + j) 0) := rU.symm;have t48 : (af fun _ => aw).tag = 48 := rfl;have t60 : (d7V (bW (fun j => (a3 : Int) + j) 0)).tag = 60 := rfl;have t48' : ∀ t, (af t).tag = 48 := fun _ => rfl;have t60' : (d7V (bW (fun j => (a3 : Int) + j) 7)).tag = 60 := rfl;simp only [Y, List.cons_append, List.nil_append] at e5 e6 e7;clear hrs m1 m2 m3 m4 m5 m6 m7 g1 g2 g3 g4 g5 g6 g7 hs1;generalize lnV (aL fun j => (a3 : Int) + j) = Rt at *;rw [ae dg rfl];simp only [go_sem, hck, b3, b4];simp only [go_sem, hFr, hLn, w1, w2, w3, d1];simp only [go_sem, e1];simp only [go_sem, e2, hsl, z48, t48];simp only [go_sem, e3, z60, t60];simp only [go_sem, e4, hRt, ty, tl];simp only [go_sem, e5];simp only [go_sem, e6];simp only [go_sem, e7]
end
end Go.Proofs.YtilcajpldklbiaaDoor
namespace Go.Proofs.YtilcajpldklbiaaDoor
open Go.Ab
def cq (q : Int) (t : Nat → Ent) : AS → List Rec → AS × Int
 | x, [] => (x, 0)
 | x, r :: l => if r.seq ≤ q ∨ (t r.id.toNat).kind ≠ 1 then cq q t x l else if (x.set r.id r.word r.val).2 ≠ 0 then x.set r.id r.word r.val else cq q t (x.set r.id r.word r.val).1 l
def fL (s : Int) : List Rec → Int
 | [] => s
 | r :: l => fL (max s r.seq) l
theorem ID {x : AS} (id word v : Int) : (x.set id word v).1.M.n = x.M.n := by
 unfold AS.set;have hl : ∀ l, (x.lay l).1.M.n = x.M.n := fun l => by
  unfold AS.lay;split
  ·rfl
  ·exact AM.layFrom_n
 split
 ·rfl
 ·split
  ·rfl
  ·split
   ·exact AM.store_n
   ·split
    ·rfl
    ·split
     ·rfl
     ·simp only;split <;> exact hl _
def iN (p b : V) (slot next : Int) : V := .agg 41 [p, b, .int .i64 slot, .int .i64 next]
def gY : V := iN .nilp cX.v 0 0
section
variable {m a fr : Nat}
theorem q8 {b : Sup} {t : Nat → Ent} {rs : List Rec} (hok : ∀ r ∈ rs, r.ok = true) (h100 : rs.length ≤ 100) (slot : Int) (rv : V) (L : List Blk) (D7 D8 : Blk) (hD7 : ∀ n, aZ n D7 = true) (hD8 : ∀ n, aZ n D8 = true) :
 ∀ (n i : Nat) {hp : List Blk} {Fm G : Ft} {x : AS} {last : Int}, i + n = rs.length → bE hp Fm a m fr x → SlR hp G 54 56 rv (rs.map Rec.v) → gV (ez a fr Fm) G → Inn hp G → x.M.count + 10 * n + 10 < 1000000 → 0 ≤ last ∧ last ≤ 1099511627776 →
 ∃ hp' Fm' r, rc D L.length (.loop [2, 4, 5, 8, 11, 13, 78, 79, 80] cj) [(2, .ptr (.loc L.length) [] 41), (4, .ptr (.loc (L.length + 1)) [] 44), (5, .int .i64 slot), (8, .ptr (.loc (L.length + 2)) [] 48), (11, .ptr (.hp a) [] 43), (13, .int .i64 last), (78, rv), (79, .int .i64 rs.length), (80, .int .i64 i)] ⟨L ++ [.rw gY, .rw b.v, .rw (af t), D7, D8], hp⟩ = some r ∧
  bE hp' Fm' a m fr (cq b.seq t x (rs.drop i)).1 ∧ Chg hp hp' (ez a fr Fm) (ez a fr Fm') ∧ (cq b.seq t x (rs.drop i)).1.M.count ≤ x.M.count + 9 * n ∧
  (((cq b.seq t x (rs.drop i)).2 = 0 ∧ r = (.exit 0, [(2, .ptr (.loc L.length) [] 41), (4, .ptr (.loc (L.length + 1)) [] 44), (5, .int .i64 slot), (8, .ptr (.loc (L.length + 2)) [] 48), (11, .ptr (.hp a) [] 43), (13, .int .i64 (fL last (rs.drop i))), (78, rv), (79, .int .i64 rs.length), (80, .int .i64 rs.length), (81, .bool false)], ⟨L ++ [.rw gY, .rw b.v, .rw (af t), D7, D8], hp'⟩)) ∨
   ((cq b.seq t x (rs.drop i)).2 ≠ 0 ∧ ∃ X, r = (.ret, [(2, .ptr (.loc L.length) [] 41), (3, .int .i64 (cq b.seq t x (rs.drop i)).2)], ⟨L ++ .rw gY :: X, hp'⟩)))
 | 0, i, hp, Fm, G, x, last, hi, h, hs, ha, hg, hc, hla => by
  have : i = rs.length := by omega
  subst this;rw [List.drop_length];refine ⟨hp, Fm, _, ?_, h, .refl _ _, by simp only [cq]; omega, .inl ⟨rfl, rfl⟩⟩;have d1 : ¬ (rs.length : Int) < rs.length := by omega
  simp only [fL];rw [ac];simp only [go_sem, cj, d1]
 | n + 1, i, hp, Fm, G, x, last, hi, h, hs, ha, hg, hc, hla => by
  have hil : i < rs.length := by omega
  have d1 : (i : Int) < rs.length := by omega
  have d4 : IntKind.i64.wrap ((i : Int) + 1) = ((i + 1 : Nat) : Int) := ai (by omega) (by omega);have hgm := aG (f := Rec.v) (l := rs) (i := i) hil jx;have hld : ∀ X, ldv ⟨X, hp⟩ 54 (elq rv i [] 54) = V.at [] (rs.getD i jx).v := fun X => (hs.rs X).ldq hgm;have hsad := (hs.rs []).sadq hgm (k := .i64);have hdrop : rs.drop i = rs.getD i jx :: rs.drop (i + 1) := by
   rw [List.getD_eq_getElem?_getD, List.getElem?_eq_getElem hil];exact List.drop_eq_getElem_cons hil
  have hro := hok (rs.getD i jx) (by rw [List.getD_eq_getElem?_getD, List.getElem?_eq_getElem hil]; exact List.getElem_mem hil);have hr := Rec.ok_iff.1 hro;have hlv1 : ∀ k, V.locLt k rv = true := fun k => hs.ltb;have z0 : L.length < L.length + 5 := by omega
  have z1 : L.length + 1 < L.length + 5 := by omega
  have z2 : L.length + 2 < L.length + 5 := by omega
  rw [hdrop];simp only [cq, fL];generalize rs.getD i jx = rr at *;obtain ⟨q, id, wd, vl⟩ := rr;simp only at hr;simp only;obtain ⟨idn, rfl⟩ : ∃ k : Nat, id = k := ⟨id.toNat, by omega⟩;rw [Int.toNat_natCast];have i1 : (0 : Int) ≤ idn := by omega
  have i2 : (idn : Int) < 49 := by omega
  have gt := aC (f := fun j => (t j).v) (show idn < 49 by omega);have hbv : gY = .agg 41 [.nilp, .agg 44 [.int .i64 0, .int .i64 0, .int .i64 0, .int .i64 0], .int .i64 0, .int .i64 0] := rfl;have hmx : max last q = if last < q then q else last := by rw [Int.max_def]; split <;> split <;> omega
  by_cases c : q ≤ b.seq ∨ (t idn).kind ≠ 1
  ·rw [if_pos c];obtain ⟨hp', Fm', r, q1, q2, q3, q4, q5⟩ := q8 hok h100 slot rv L D7 D8 hD7 hD8 n (i + 1) (last := max last q) (by omega) h hs ha hg (by omega) (by omega);refine ⟨hp', Fm', r, ?_, q2, q3, by omega, q5⟩;rw [← q1, ac];clear q1 q2 q3 q4 q5 hdrop hgm hs h;simp only [Rec.v, Sup.v, af, Ent.v] at *;rw [hbv];generalize tab 49 (fun j => V.agg 42 [.int .i64 (t j).kind, .int .i64 (t j).ver, .int .i64 (t j).line]) = T at *;by_cases c1 : q ≤ b.seq
   ·simp only [go_sem, cj, d1, hsad, hld, c1, d4, hlv1, z0, z1, z2, hD7, hD8]
   ·have c2 := c.resolve_left c1;simp only [go_sem, cj, d1, hsad, hld, c1, i1, i2];rw [Int.toNat_natCast];simp only [go_sem, gt, c2, d4, hlv1, z0, z1, z2, hD7, hD8]
  ·rw [if_neg c];have c1 : ¬ q ≤ b.seq := fun e => c (.inl e);have c2 : (t idn).kind = 1 := by
    by_cases e : (t idn).kind = 1
    ·exact e
    ·exact absurd (.inr e) c
   obtain ⟨hp1, F1, e1, e2, e3⟩ := Ea h (by omega) idn wd vl (L ++ [.rw gY, .rw b.v, .rw (af t), D7, D8, .rw (Rec.v ⟨q, idn, wd, vl⟩)]);have cs := AS.set_count (x := x) idn wd vl;by_cases he : (x.set idn wd vl).2 = 0
   ·rw [if_neg (by rw [he]; simp)];obtain ⟨hp', Fm', r, q1, q2, q3, q4, q5⟩ := q8 hok h100 slot rv L D7 D8 hD7 hD8 n (i + 1) (last := max last q) (x := (x.set idn wd vl).1) (by omega) e2 (hs.eqv (e3.eqv ha hg) fun _ h => h) (e3.apart ha hg) (hg.more e3) (by omega) (by omega);refine ⟨hp', Fm', r, ?_, q2, e3.trans q3, by omega, q5⟩;rw [← q1, ac];rw [he] at e1;clear q1 q2 q3 q4 q5 hdrop hgm hs h e2 e3;simp only [Rec.v, Sup.v, af, Ent.v] at *;rw [hbv] at *;generalize tab 49 (fun j => V.agg 42 [.int .i64 (t j).kind, .int .i64 (t j).ver, .int .i64 (t j).line]) = T at *;simp only [go_sem, cj, d1, hsad, hld, c1, i1, i2];rw [Int.toNat_natCast];simp only [go_sem, gt, c2, e1, d4, hlv1, z0, z1, z2, hD7, hD8]
   ·rw [if_pos he];refine ⟨hp1, F1, _, ?_, e2, e3, by omega, .inr ⟨he, [.rw b.v, .rw (af t), D7, D8, .rw (Rec.v ⟨q, idn, wd, vl⟩)], rfl⟩⟩;rw [ac];clear hdrop hgm hs h e2 e3;simp only [Rec.v, Sup.v, af, Ent.v] at *;rw [hbv] at *;generalize tab 49 (fun j => V.agg 42 [.int .i64 (t j).kind, .int .i64 (t j).ver, .int .i64 (t j).line]) = T at *;simp only [go_sem, cj, d1, hsad, hld, c1, i1, i2];rw [Int.toNat_natCast];simp only [go_sem, gt, c2, e1, he]
end
end Go.Proofs.YtilcajpldklbiaaDoor
namespace Go.Proofs.YtilcajpldklbiaaDoor
open Go.Ab
def AM.Rn (M : AM) : Prop := ∀ j, ∀ x ∈ M.now j, 0 ≤ x ∧ x < 18446744073709551616
def d8 (l : List Int) (root : Int) (k : Nat) : Int := if k < 7 then am l k else root
def AM.bt (M : AM) : Option (Sup × Int × AF) × Int :=
 if M.off = true then (none, 4) else
 if (bl (M.now 0) (M.now 1)).2.2 = false then (none, 20) else
 let b := (bl (M.now 0) (M.now 1)).1
 if (M.n : Int) < 2 + 4 * b.cores then (none, 21) else
 if tE M (2 + 4 * b.cores) b.root = false then (none, 21) else
 match (af0 (2 + 4 * b.cores).toNat M.n).takes (gp (ldT M (M.now b.root.toNat)) (d8 (M.now b.root.toNat) b.root)) with
 | none => (none, 21)
 | some A => (some (b, (bl (M.now 0) (M.now 1)).2.1, A), 0)
def AM.st0 (M : AM) (b : Sup) (A : AF) : AS := as0 M A (ldT M (M.now b.root.toNat)) (d8 (M.now b.root.toNat) b.root)
def AM.recs (M : AM) (b : Sup) : List Rec := cC (aE M 2 (4 * b.cores.toNat))
def AM.booted (M : AM) (b : Sup) (A : AF) : AS × Int := cq b.seq (ldT M (M.now b.root.toNat)) (M.st0 b A) (M.recs b)
theorem I9 {a c : List Int} (h : (bl a c).2.2 = true) : (bl a c).1.ok = true := by
 have h0 : ∀ l, dh l = true → (cJ l).ok = true := fun l hl => by
  unfold dh at hl;rw [Bool.and_eq_true] at hl;exact hl.1
 unfold bl bst at *;by_cases c1 : dh c = true ∧ ((if dh a = true ∧ ((cX, (0 : Int), false).2.2 = false ∨ (cX, (0 : Int), false).1.gen < (cJ a).gen) then (cJ a, (0 : Int), true) else (cX, 0, false)).2.2 = false ∨ (if dh a = true ∧ ((cX, (0 : Int), false).2.2 = false ∨ (cX, (0 : Int), false).1.gen < (cJ a).gen) then (cJ a, (0 : Int), true) else (cX, 0, false)).1.gen < (cJ c).gen)
 ·rw [if_pos c1];exact h0 c c1.1
 ·rw [if_neg c1] at h ⊢;by_cases c2 : dh a = true ∧ ((cX, (0 : Int), false).2.2 = false ∨ (cX, (0 : Int), false).1.gen < (cJ a).gen)
  ·rw [if_pos c2];exact h0 a c2.1
  ·rw [if_neg c2] at h;cases h
theorem xv {b : Sup} (h : b.ok = true) : (1 ≤ b.gen ∧ b.gen ≤ 1099511627776) ∧ (0 ≤ b.root ∧ b.root ≤ 1023) ∧ (0 ≤ b.seq ∧ b.seq ≤ 1099511627776) ∧ 1 ≤ b.cores ∧ b.cores ≤ 8 := by
 unfold Sup.ok win at h;simp only [Bool.and_eq_true, decide_eq_true_eq] at h;exact h
theorem sN : ∀ (l : List Rec) {s : Int}, (∀ r ∈ l, r.ok = true) → 0 ≤ s ∧ s ≤ 1099511627776 → 0 ≤ fL s l ∧ fL s l ≤ 1099511627776
 | [], _, _, h => h
 | r :: l, s, hl, h => by
  have := Rec.ok_iff.1 (hl r List.mem_cons_self);exact sN l (fun x hx => hl x (List.mem_cons_of_mem _ hx)) (by omega)
theorem Kh {n : Nat} {d : Nat → Int} : V.locLt n (bI d) = true := by
 rw [bI, yX]; rfl
theorem yN {base : Nat} {L hp : List Blk} {a b : Nat} {d : Nat → Int} (ha : L[a]? = some (.rw (.agg 50 (List.replicate 8 (.int .i64 0))))) (hb : L[b]? = some (.rw (d7V d))) :
 dP base 10 (.sl (.loc a) [] 0 8 (some 8) 10) (.sl (.loc b) [] 0 7 (some 7) 10) ⟨L, hp⟩ = some (.int .i64 7, ⟨L.set a (.rw (.agg 50 ((tab 7 fun i => V.int .i64 (d i)) ++ [.int .i64 0]))), hp⟩) := by
 have hl : (tab 7 fun i => V.int .i64 (d i)).length = 7 := by simp [tab]
 have hy : St.elems ⟨L, hp⟩ (.sl (.loc b) [] 0 7 (some 7) 10) = some (tab 7 fun i => V.int .i64 (d i)) := by
  simp only [St.elems, St.read, St.at, hb, d7V, V.at, hl];rw [if_neg (by omega), if_pos (by omega), List.drop_zero, List.take_of_length_le (by rw [hl]; omega)]
 have hr : (⟨L, hp⟩ : St).read (.loc a) [] = some (.agg 50 (List.replicate 8 (.int .i64 0))) := by simp only [St.read, St.at, ha, V.at]
 have ht : List.take 7 (tab 7 fun i => V.int .i64 (d i)) = tab 7 fun i => V.int .i64 (d i) := List.take_of_length_le (by rw [hl]; omega);have hm : min 7 8 = 7 := by decide
 unfold dP;simp only [V.slIs, V.elIs, beq_self_eq_true, Bool.and_self, if_true, hy, hl, hm, hr, ht];rw [if_neg (show ¬ (7 : Nat) = 0 by decide), if_pos (by simp)];simp only [St.write, St.at, ha, cL, V.locLt, V.setAt];rfl
section
variable {m : Nat} {F : Ft} {M : AM} {hp : List Blk}
theorem wB (h : ay hp F m M) (hG : hp[0]? = some (.ro bU)) (hz : ¬ F 0) (hR : M.Rn) (hS : ∀ n, n ≤ 32 → (M.off = false → (aE M 2 (4 * (bl (M.now 0) (M.now 1)).1.cores.toNat)).length = n) → mQ n) (hc : M.count + 400 < 1000000) (L : List Blk) :
 (M.bt.1 = none ∧ ∃ X, rf D dv [.ptr (.hp m) [] 59] ⟨L, hp⟩ = some (.tup [gY, .int .i64 M.bt.2], ⟨L, hp ++ X⟩)) ∨
 ∃ b slot A hp' Fm' a fr, M.bt = (some (b, slot, A), 0) ∧ bE hp' Fm' a m fr (M.booted b A).1 ∧ Chg hp hp' F (ez a fr Fm') ∧
  rf D dv [.ptr (.hp m) [] 59] ⟨L, hp⟩ = some (if (M.booted b A).2 = 0 then .tup [iN (.ptr (.hp a) [] 43) b.v slot (fL b.seq (M.recs b) + 1), .int .i64 0] else .tup [gY, .int .i64 (M.booted b A).2], ⟨L, hp'⟩) := by
 have hF := fun L => xG h L;have hn0 : gY = .agg 41 [.nilp, .agg 44 [.int .i64 0, .int .i64 0, .int .i64 0, .int .i64 0], .int .i64 0, .int .i64 0] := rfl;unfold AM.bt;by_cases c0 : M.off = true
 ·rw [if_pos c0];left;refine ⟨rfl, [], ?_⟩;rw [c0, if_pos rfl] at hF;rw [List.append_nil, hn0];simp only [Sup.v, cX] at hF;rw [ae eK rfl];simp only [go_sem, hF]
 ·rw [if_neg c0];rw [if_neg c0] at hF;have hoff : M.off = false := by simpa using c0
  by_cases c1 : (bl (M.now 0) (M.now 1)).2.2 = false
  ·rw [if_pos c1];left;refine ⟨rfl, [], ?_⟩;rw [if_neg (by rw [c1]; simp)] at hF;rw [List.append_nil, hn0];simp only [Sup.v, cX] at hF;rw [ae eK rfl];simp only [go_sem, hF]
  ·rw [if_neg c1];have c1' : (bl (M.now 0) (M.now 1)).2.2 = true := by simpa using c1
   rw [if_pos c1'] at hF;have hbk := I9 c1';have hbr := xv hbk;generalize hbest : bl (M.now 0) (M.now 1) = z at *;obtain ⟨b, slot, okb⟩ := z;simp only at hF hbk hbr hS;simp only;obtain ⟨cn, hcn⟩ : ∃ k : Nat, b.cores = k := ⟨b.cores.toNat, by omega⟩;have hFr := fun s => oE (c := cn) (by omega) s;have hLn := fun L => kV h L;have hfr : (2 : Int) + 4 * b.cores = ((2 + 4 * cn : Nat) : Int) := by omega
   rw [show (2 : Int) + 4 * (cn : Int) = ((2 + 4 * cn : Nat) : Int) by omega] at hFr;rw [hfr];by_cases c2 : (M.n : Int) < ((2 + 4 * cn : Nat) : Int)
   ·rw [if_pos c2];left;refine ⟨rfl, [], ?_⟩;rw [List.append_nil, hn0];obtain ⟨bg, br, bq, bc⟩ := b;simp only [Sup.v] at *;subst hcn;have c2' : ((2 + 4 * cn : Nat) : Int) > M.n := c2;rw [ae eK rfl];simp only [go_sem, hF, hFr, hLn, c2]
   ·rw [if_neg c2];have c2' : ¬ ((2 + 4 * cn : Nat) : Int) > M.n := c2;obtain ⟨X1, hLd⟩ := xA h (2 + 4 * cn : Nat) b.root (fun _ _ k _ x hx => hR _ x hx) (L ++ [.rw gY, .rw b.v]);rw [if_neg c0] at hLd;by_cases c3 : tE M (2 + 4 * cn : Nat) b.root = false
    ·rw [if_pos c3];rw [c3, if_neg (by simp)] at hLd;left;refine ⟨rfl, X1, ?_⟩;have y1 : (af fun _ => aw).tag = 48 := rfl;have y2 : (d7V fun _ => (0 : Int)).tag = 60 := rfl;have y3 : ∀ n, V.locLt n (af fun _ => aw) = true := fun n => kJ;have y4 : ∀ n, V.locLt n (d7V fun _ => (0 : Int)) = true := fun n => ul;generalize (af fun _ => aw) = T0 at *;generalize (d7V fun _ => (0 : Int)) = D0 at *;rw [hn0] at *;obtain ⟨bg, br, bq, bc⟩ := b;simp only [Sup.v] at *;subst hcn;rw [ae eK rfl];simp only [go_sem, hF, hFr, hLn, c2', hLd, y1, y2, y3, y4]
    ·rw [if_neg c3];have c3' : tE M (2 + 4 * cn : Nat) b.root = true := by simpa using c3
     rw [if_pos c3'] at hLd;rw [Int.toNat_natCast];have h1 := h.snoc X1;have hG1 : (hp ++ X1)[0]? = some (.ro bU) := by rw [List.getElem?_append_left (ap hG)]; exact hG
     generalize ht : ldT M (M.now b.root.toNat) = t at *;have hdir : bI (d8 (M.now b.root.toNat) b.root) = .agg 50 ((tab 7 fun i => V.int .i64 (am (M.now b.root.toNat) i)) ++ [.int .i64 b.root]) := rfl;have hOf := HW h1 hG1 hz (2 + 4 * cn : Nat) t (d8 (M.now b.root.toNat) b.root) (L ++ [.rw gY, .rw b.v, .rw (af t), .rw (d7V (am (M.now b.root.toNat))), .rw (bI (d8 (M.now b.root.toNat) b.root))]);rw [Int.toNat_natCast] at hOf;have y1 : (af t).tag = 48 := rfl;have y2 : (d7V (am (M.now b.root.toNat))).tag = 60 := rfl;have y3 : ∀ n, V.locLt n (af t) = true := fun n => kJ;have y4 : ∀ n, V.locLt n (d7V (am (M.now b.root.toNat))) = true := fun n => ul;rcases hOf with ⟨q, _⟩ | ⟨_, _, q, X2, e⟩ | ⟨_, _, A, X2, q, e, W⟩
     ·exfalso; omega
     ·rw [q];left;refine ⟨rfl, X1 ++ X2, ?_⟩;rw [hn0] at *;rw [hdir] at e;obtain ⟨bg, br, bq, bc⟩ := b;simp only [Sup.v, d7V] at *;subst hcn;generalize hTT : af t = TT at *;rw [ae eK rfl];have hcp := yN (base := L.length) (L := L ++ [.rw (.agg 41 [.nilp, .agg 44 [.int .i64 0, .int .i64 0, .int .i64 0, .int .i64 0], .int .i64 0, .int .i64 0]), .rw (.agg 44 [.int .i64 bg, .int .i64 br, .int .i64 bq, .int .i64 cn]), .rw TT, .rw (d7V (am (M.now br.toNat))), .rw (.agg 50 (List.replicate 8 (.int .i64 0)))]) (hp := hp ++ X1) (a := L.length + 4) (b := L.length + 3) (d := am (M.now br.toNat)) (by simp) (by simp);simp only [d7V] at hcp;have hsp : ∀ (a b c d e f : Blk), (L ++ [a, b, c, d, e]).set (L.length + 4) f = L ++ [a, b, c, d, f] := fun a b c d e f => by simp
      rw [hsp] at hcp;have g7 : ((tab 7 fun i => V.int .i64 (am (M.now br.toNat) i)) ++ [V.int .i64 0])[7]? = some (.int .i64 0) := rfl;have s7 : ((tab 7 fun i => V.int .i64 (am (M.now br.toNat) i)) ++ [V.int .i64 0]).set 7 (.int .i64 br) = (tab 7 fun i => V.int .i64 (am (M.now br.toNat) i)) ++ [V.int .i64 br] := rfl;simp only [go_sem, hF, hFr, hLn, c2', hLd, y1, y2, y3, y4, hcp];simp only [go_sem, g7, s7, e]
     ·rw [q];right;have hlen : (aE M 2 (4 * cn)).length ≤ 32 := Nat.le_trans (pi M _ _) (by omega);have hcn2 : b.cores.toNat = cn := by omega
      rw [hcn2] at hS;obtain ⟨hp3, G3, v3, e3, s3, g3, hinn⟩ := zo W.mp hoff (cores := cn) (by omega) (by omega) (by show 2 + 4 * cn ≤ M.n; omega) (hS _ hlen fun _ => rfl) (L ++ [.rw gY, .rw b.v, .rw (af t), .rw (d7V (am (M.now b.root.toNat))), .rw (bI (d8 (M.now b.root.toNat) b.root))]);have hW3 : bE hp3 F ((hp ++ X1).length + 1) m (hp ++ X1).length (M.st0 b A) := by
       have : M.st0 b A = as0 M A t (d8 (M.now b.root.toNat) b.root) := by unfold AM.st0; rw [ht]
       rw [this];exact W.chg g3 (fun _ h => h.elim) fun h => h
      have hrs : M.recs b = cC (aE M 2 (4 * cn)) := by unfold AM.recs; rw [hcn2]
      have s3' : SlR hp3 G3 54 56 v3 ((M.recs b).map Rec.v) := by rw [hrs]; exact s3
      have hG3 : ∀ j, G3 j → (hp ++ X1 ++ X2).length ≤ j := fun j hj => (g3.new j hj).resolve_left fun h => h;have hap : gV (ez ((hp ++ X1).length + 1) (hp ++ X1).length F) G3 := fun j h1 h2 => by
       have h3 := hG3 j h2;have h4 := W.inn j h1;omega
      obtain ⟨hp4, F4, r, q1, q2, q3, q4, q5⟩ := q8 (b := b) (t := t) (rs := M.recs b) (by
       intro r hr;rw [hrs] at hr;exact o5 M _ _ r (lQ.1 hr)) (by rw [hrs, lP]; omega) slot v3 L (.rw (d7V (am (M.now b.root.toNat)))) (.rw (bI (d8 (M.now b.root.toNat) b.root))) y4 (fun n => Kh (n := n) (d := d8 (M.now b.root.toNat) b.root)) (M.recs b).length 0 (last := b.seq) (by omega) hW3 s3' hap hinn (by rw [hrs, lP]; have : (M.st0 b A).M = M := rfl; rw [this]; omega) hbr.2.2.1
      rw [List.drop_zero] at q2 q4 q5;rw [show ((0 : Nat) : Int) = 0 from rfl] at q1
      have hbt : cq b.seq t (M.st0 b A) (M.recs b) = M.booted b A := by unfold AM.booted; rw [ht]
      rw [hbt] at q2 q4 q5;have hgg : Chg hp hp4 F (ez ((hp ++ X1).length + 1) (hp ++ X1).length F4) := by
       have c1 : Chg hp (hp ++ X1 ++ X2) F (ez ((hp ++ X1).length + 1) (hp ++ X1).length F) := by
        rw [List.append_assoc];refine ⟨by simp, fun j hj _ => List.getElem?_append_left hj, fun j hj => ?_⟩;rcases hj with rfl | rfl | hj
        ·right; simp only [List.length_append]; omega
        ·right; simp only [List.length_append]; omega
        ·exact .inl hj
       have c2 : Chg (hp ++ X1 ++ X2) hp3 (ez ((hp ++ X1).length + 1) (hp ++ X1).length F) (ez ((hp ++ X1).length + 1) (hp ++ X1).length F) := g3.mono (fun _ h => h.elim) fun _ h => .inr h;exact (c1.trans c2).trans q3
      refine ⟨b, slot, A, hp4, F4, _, _, rfl, q2, hgg, ?_⟩;have hsl : V.slen false v3 = some (M.recs b).length := by
       have := s3'.slen
       rwa [List.length_map] at this
      have hrsok : ∀ r ∈ M.recs b, r.ok = true := fun r hr => by
       rw [hrs] at hr;exact o5 M _ _ r (lQ.1 hr)
      have hla := sN (M.recs b) (s := b.seq) hrsok hbr.2.2.1;have w9 : IntKind.i64.wrap (fL b.seq (M.recs b) + 1) = fL b.seq (M.recs b) + 1 := ai (by omega) (by omega);have v3o := s3.ok;have v3t := s3.tag;have v3l : ∀ n, V.locLt n v3 = true := fun n => s3.ltb;clear q2 q3 q4 W hW3 s3 s3' g3 hinn hap hG3 hgg hrsok;rw [hdir] at e e3 q1;clear h1 hG1;generalize hp ++ X1 = H1 at *;generalize H1 ++ X2 = H2 at *;obtain ⟨bg, br, bq, bc⟩ := b;simp only [Sup.v, d7V] at *;subst hcn;rw [hn0] at *;generalize hTT : af t = TT at *;have hcp := yN (base := L.length) (L := L ++ [.rw (.agg 41 [.nilp, .agg 44 [.int .i64 0, .int .i64 0, .int .i64 0, .int .i64 0], .int .i64 0, .int .i64 0]), .rw (.agg 44 [.int .i64 bg, .int .i64 br, .int .i64 bq, .int .i64 cn]), .rw TT, .rw (d7V (am (M.now br.toNat))), .rw (.agg 50 (List.replicate 8 (.int .i64 0)))]) (hp := H1) (a := L.length + 4) (b := L.length + 3) (d := am (M.now br.toNat)) (by simp) (by simp);simp only [d7V] at hcp;have hsp : ∀ (a b c d e f : Blk), (L ++ [a, b, c, d, e]).set (L.length + 4) f = L ++ [a, b, c, d, f] := fun a b c d e f => by simp
      rw [hsp] at hcp;have g7 : ((tab 7 fun i => V.int .i64 (am (M.now br.toNat) i)) ++ [V.int .i64 0])[7]? = some (.int .i64 0) := rfl;have s7 : ((tab 7 fun i => V.int .i64 (am (M.now br.toNat) i)) ++ [V.int .i64 0]).set 7 (.int .i64 br) = (tab 7 fun i => V.int .i64 (am (M.now br.toNat) i)) ++ [V.int .i64 br] := rfl;generalize (M.recs ⟨bg, br, bq, cn⟩) = rs at *;generalize fL bq rs = la at *;generalize M.booted ⟨bg, br, bq, cn⟩ A = bt at *;rw [ae eK rfl];simp only [go_sem, hF, hFr, hLn, c2', hLd, y1, y2, y3, y4, hcp];simp only [go_sem, g7, s7, e];rcases q5 with ⟨z, rfl⟩ | ⟨z, X, rfl⟩
      ·rw [if_pos z];simp only [go_sem, e3, hsl];simp only [go_sem, q1, iN, w9];rw [if_pos z]
      ·rw [if_neg z];simp only [go_sem, e3, hsl];simp only [go_sem, q1];rw [if_neg z]
end
end Go.Proofs.YtilcajpldklbiaaDoor
