/-
  YtilcajpldklbiaaDoorT1: what functions of the program compute (ReachA, CapsA, CapsB, CapsC, NvmA, FrmA, FrmB, ObjO, ObjA, ObjG, NxtA, DooA, ObjB).
-/
import Derived.Test.YtilcajpldklbiaaDoorCode
import Derived.Test.YtilcajpldklbiaaDoorAbD
import Derived.Test.YtilcajpldklbiaaDoorAbE
import Derived.KernelRfl
import Derived.Laws.Bits64
set_option maxRecDepth 100000
namespace Go.Proofs.YtilcajpldklbiaaDoor
open Go.Ab
structure Cap where
 kind : Int
 rights : Int
 id : Int
 ver : Int
 badge : Int
 deriving DecidableEq
def Cap.v (c : Cap) : V := .agg 40 [.int .i64 c.kind, .int .i64 c.rights, .int .i64 c.id, .int .i64 c.ver, .int .i64 c.badge]
end Go.Proofs.YtilcajpldklbiaaDoor
namespace Go.Proofs.YtilcajpldklbiaaDoor
open Go.Ab
end Go.Proofs.YtilcajpldklbiaaDoor
namespace Go.Proofs.YtilcajpldklbiaaDoor
open Go.Ab
def Cap.word (c : Cap) : Int := c.kind + c.rights * 16 + c.id * 256 + c.ver * 16777216 + c.badge * 281474976710656
structure Cap.Ok (c : Cap) : Prop where
 k : 1 ≤ c.kind ∧ c.kind ≤ 6
 r : 0 ≤ c.rights ∧ c.rights ≤ 15
 i : 0 ≤ c.id ∧ c.id ≤ 48
 v : 0 ≤ c.ver ∧ c.ver ≤ 16777215
 b : 0 ≤ c.badge ∧ c.badge ≤ 65535
 free : (c.kind = 5 ∨ c.kind = 6) → c.id = 0 ∧ c.ver = 0
end Go.Proofs.YtilcajpldklbiaaDoor
namespace Go.Proofs.YtilcajpldklbiaaDoor
open Go.Ab
end Go.Proofs.YtilcajpldklbiaaDoor
namespace Go.Proofs.YtilcajpldklbiaaDoor
open Go.Ab
def lnV (l : List Int) : V := .agg 24 (l.map (.int .u64))
def zl : List Int := List.replicate 8 0
def zfl : V := .agg 50 (List.replicate 8 (.int .i64 0))
def nlV (now sure since fl : V) : V := .agg 55 [now, sure, since, fl]
def zln : V := .agg 24 (List.replicate 8 (.int .u64 0))
def Mu (k n : Nat) (off burns : Bool) (left gn : Int) : V := .agg 59 [.sl (.hp k) [] 0 n (some n) 55, .bool off, .bool burns, .int .i64 left, .int .i64 gn]
theorem Dm {n : Nat} (h0 : 64 ≤ n) (h1 : n ≤ 1024) (s : St) : rf D nQ [.int .i64 n] s =
 some (.tup [.ptr (.hp (s.hp.length + 1)) [] 59, .int .i64 0], ⟨s.loc, s.hp ++ [.rw (.agg 57 (tab n fun _ => nlV zln zln .nils zfl)), .rw (Mu s.hp.length n false false 0 0)]⟩) := by
 have c1 : ¬ (n : Int) < 64 := by omega
 have c2 : ¬ 1024 < (n : Int) := by omega
 have c3 : (0 : Int) ≤ n := by omega
 have c4 : ¬ (n : Int) < 0 := by omega
 have c5 : (n : Int) ≤ 4611686018427387904 := by omega
 have hm : (n : Int) ≤ (fB : Nat) := by unfold fB; omega
 rw [ae Fe rfl, ← fW];simp only [nlV, zln, zfl, Mu];simp only [go_sem, c1, c2, c3, hm, Int.le_refl, Int.toNat_natCast]
def rmV (k n k2 : Nat) (off : Bool) (left count : Int) : V := .agg 33 [.sl (.hp k) [] 0 n none 24, .sl (.hp k2) [] 0 n (some n) 1, .bool off, .int .i64 left, .int .i64 count]
end Go.Proofs.YtilcajpldklbiaaDoor
namespace Go.Proofs.YtilcajpldklbiaaDoor
open Go.Ab
def w16 (l : List Nat) : List Nat := l ++ List.replicate (16 - l.length) 0
abbrev cN (n : Nat) : V := V.int .u64 (n : Int)
def frV (f l : Int) (wf wl : List Nat) : V := .agg 80 [.int .i64 f, .int .i64 l, .agg 78 (wf.map cN), .agg 78 (wl.map cN)]
def bit (w : List Nat) (i : Nat) : Bool := (w.getD (i / 64) 0).testBit (i % 64)
def flip (w : List Nat) (i : Nat) : List Nat := w.set (i / 64) ((w.getD (i / 64) 0) ^^^ 2 ^ (i % 64))
structure OkS (w : List Nat) : Prop where
 len : w.length = 16
 lt : ∀ x ∈ w, x < 18446744073709551616
theorem zM {r : Nat} (h : r < 64) : 2 ^ r < 18446744073709551616 := Nat.pow_lt_pow_right (show 1 < 2 by decide) h
theorem OkS.get {w : List Nat} (h : OkS w) {q : Nat} (hq : q < 16) : w.getD q 0 < 18446744073709551616 := h.lt _ (mF (by rw [h.len]; exact hq) 0)
theorem OkS.flip {w : List Nat} (h : OkS w) {i : Nat} (hi : i < 1024) : OkS (flip w i) := by
 refine ⟨by simp [YtilcajpldklbiaaDoor.flip, h.len], fun x hx => ?_⟩;rcases List.mem_or_eq_of_mem_set hx with hx | rfl
 ·exact h.lt x hx
 ·exact Nat.xor_lt_two_pow (n := 64) (h.get (by omega)) (zM (by omega))
theorem xV {w : List Nat} (h : OkS w) {i : Nat} (hi : i < 1024) (j : Nat) : bit (flip w i) j = ((bit w j) ^^ decide (i = j)) := by
 unfold bit YtilcajpldklbiaaDoor.flip;have hlen := h.len;by_cases hq : i / 64 = j / 64
 ·have e : (w.set (i / 64) (w.getD (i / 64) 0 ^^^ 2 ^ (i % 64))).getD (j / 64) 0 = w.getD (j / 64) 0 ^^^ 2 ^ (i % 64) := by
   rw [hq, List.getD_eq_getElem?_getD, List.getElem?_set_self (by omega)]; rfl
  rw [e, Nat.testBit_xor, Nat.testBit_two_pow];congr 1;apply decide_eq_decide.2;omega
 ·have e : (w.set (i / 64) (w.getD (i / 64) 0 ^^^ 2 ^ (i % 64))).getD (j / 64) 0 = w.getD (j / 64) 0 := by
   rw [List.getD_eq_getElem?_getD, List.getElem?_set_ne hq, List.getD_eq_getElem?_getD]
  have hij : ¬ i = j := fun h => hq (by rw [h]);rw [e];simp [hij]
theorem CD {i : Nat} (hi : i < 1024) : IntKind.i64.wrap ((i : Int).tdiv 64) = ((i / 64 : Nat) : Int) := by
 rw [show (64 : Int) = ((64 : Nat) : Int) by rfl, ← Int.ofNat_tdiv];exact ai (by omega) (by omega)
theorem C8 {i : Nat} : (i : Int).tmod 64 = ((i % 64 : Nat) : Int) := by
 rw [show (64 : Int) = ((64 : Nat) : Int) by rfl, ← Int.ofNat_tmod]
theorem jD {w r : Nat} (hr : r ≤ 64) : iT .u64 (w : Int) (r : Int) = ((w / 2 ^ r : Nat) : Int) := by
 rw [pQ (w : Int) r hr, Int.natCast_ediv, Int.natCast_pow]; rfl
theorem BV {x : Nat} (hx : x < 18446744073709551616) : j5 .u64 (x : Int) 1 = ((x % 2 : Nat) : Int) := by
 have := xk (x : Int) 1 (by omega) (by omega) (by decide);rw [show (1 : Int) = 2 ^ 1 - 1 by decide, this]; simp
theorem Kn {r : Nat} (hr : r < 64) : nY .u64 1 (r : Int) = ((2 ^ r : Nat) : Int) := by
 rw [HD 1 r (by omega)];have h := zM hr;rw [Int.one_mul, show (2 : Int) ^ r = ((2 ^ r : Nat) : Int) by rw [Int.natCast_pow]; rfl];generalize 2 ^ r = p at *;omega
theorem JC (s : St) (a : Nat) (F L X : V) (w : List Nat) (hw : OkS w) (hb : s.hp[a]? = some (.rw (.agg 80 [F, L, .agg 78 (w.map cN), X]))) (i : Nat) (hi : i < 1024) :
 rf D gv [.ptr (.hp a) [2] 78, .int .i64 i] s = some (.bool (bit w i), s) := by
 have e1 := CD hi;have e2 := C8 (i := i);have hq : i / 64 < 16 := by omega
 have hr : i % 64 < 64 := by omega
 have hg := aG (f := cN) (l := w) (i := i / 64) (by rw [hw.len]; exact hq) 0;have hlt := hw.get hq;unfold bit;generalize i / 64 = q at *;generalize i % 64 = r at *;generalize w.getD q 0 = x at *;have e3 := jD (w := x) (r := r) (by omega);have hx2 : x / 2 ^ r < 18446744073709551616 := Nat.lt_of_le_of_lt (Nat.div_le_self _ _) hlt;have e4 := BV hx2;rw [Nat.testBit_eq_decide_div_mod_eq];generalize x / 2 ^ r = y at *;generalize y % 2 = z at *;have d1 : (q : Int) < 16 := by omega
 have d2 : (0 : Int) ≤ q := by omega
 have d3 : ¬ (r : Int) < 0 := by omega
 rw [ae mK rfl];simp only [go_sem, e1, e2, d1, d2];rw [Int.toNat_natCast];simp only [go_sem, hb, hg, e3, e4, d3];have e5 : decide ((z : Int) = 1) = decide (z = 1) := decide_eq_decide.2 (by omega);rw [e5]
theorem I1 (s : St) (a : Nat) (F L X : V) (w : List Nat) (hw : OkS w) (hb : s.hp[a]? = some (.rw (.agg 80 [F, L, X, .agg 78 (w.map cN)]))) (i : Nat) (hi : i < 1024) :
 rf D gv [.ptr (.hp a) [3] 78, .int .i64 i] s = some (.bool (bit w i), s) := by
 have e1 := CD hi;have e2 := C8 (i := i);have hq : i / 64 < 16 := by omega
 have hr : i % 64 < 64 := by omega
 have hg := aG (f := cN) (l := w) (i := i / 64) (by rw [hw.len]; exact hq) 0;have hlt := hw.get hq;unfold bit;generalize i / 64 = q at *;generalize i % 64 = r at *;generalize w.getD q 0 = x at *;have e3 := jD (w := x) (r := r) (by omega);have hx2 : x / 2 ^ r < 18446744073709551616 := Nat.lt_of_le_of_lt (Nat.div_le_self _ _) hlt;have e4 := BV hx2;rw [Nat.testBit_eq_decide_div_mod_eq];generalize x / 2 ^ r = y at *;generalize y % 2 = z at *;have d1 : (q : Int) < 16 := by omega
 have d2 : (0 : Int) ≤ q := by omega
 have d3 : ¬ (r : Int) < 0 := by omega
 rw [ae mK rfl];simp only [go_sem, e1, e2, d1, d2];rw [Int.toNat_natCast];simp only [go_sem, hb, hg, e3, e4, d3];have e5 : decide ((z : Int) = 1) = decide (z = 1) := decide_eq_decide.2 (by omega);rw [e5]
theorem tA (s : St) (a : Nat) (F L X : V) (w : List Nat) (hw : OkS w) (hb : s.hp[a]? = some (.rw (.agg 80 [F, L, .agg 78 (w.map cN), X]))) (i : Nat) (hi : i < 1024) :
 rf D iQ [.ptr (.hp a) [2] 78, .int .i64 i] s = some (.tup [], ⟨s.loc, s.hp.set a (.rw (.agg 80 [F, L, .agg 78 ((flip w i).map cN), X]))⟩) := by
 have e1 := CD hi;have e2 := C8 (i := i);have hq : i / 64 < 16 := by omega
 have hr : i % 64 < 64 := by omega
 have hg := aG (f := cN) (l := w) (i := i / 64) (by rw [hw.len]; exact hq) 0;have hlt := hw.get hq;unfold YtilcajpldklbiaaDoor.flip;generalize i / 64 = q at *;generalize i % 64 = r at *;generalize w.getD q 0 = x at *;have e3 := Kn hr;have e4 := yT hlt (zM hr);rw [List.map_set];generalize x ^^^ 2 ^ r = y at *;generalize 2 ^ r = z at *;have d1 : (q : Int) < 16 := by omega
 have d2 : (0 : Int) ≤ q := by omega
 have d3 : ¬ (r : Int) < 0 := by omega
 rw [ae sD rfl];simp only [go_sem, e1, e2, d1, d2, d3];rw [Int.toNat_natCast];simp only [go_sem, hb, hg, e3, e4]
theorem Mg {l : List Nat} (hl : l.length ≤ 16) (h : ∀ x ∈ l, x < 18446744073709551616) : OkS (w16 l) := by
 refine ⟨by simp [w16]; omega, fun x hx => ?_⟩;rcases List.mem_append.1 hx with hx | hx
 ·exact h x hx
 ·rw [List.eq_of_mem_replicate hx]; decide
theorem Cb (i : Nat) : bit (w16 []) i = false := by
 unfold bit w16;simp only [List.nil_append, List.length_nil, Nat.sub_zero, List.getD_eq_getElem?_getD, List.getElem?_replicate];split <;> exact Nat.zero_testBit _
theorem vE : OkS (w16 []) := Mg (by decide) (by simp)
theorem I3 : (w16 []).map cN = List.replicate 16 (V.int .u64 0) := rfl
def fP (f l : Int) (wf wl : List Nat) (line : Int) : Int :=
 if line < f ∨ l ≤ line then -1 else if bit wf line.toNat then 0 else if bit wl line.toNat then 2 else 1
structure Fr (s : St) (a : Nat) (f l : Int) (wf wl : List Nat) : Prop where
 blk : s.hp[a]? = some (.rw (frV f l wf wl))
 f0 : 0 ≤ f
 l1 : l ≤ 1024
 okf : OkS wf
 okl : OkS wl
theorem Io {s : St} {a : Nat} {f l : Int} {wf wl : List Nat} (h : Fr s a f l wf wl) (line : Int) :
 rf D f5 [.ptr (.hp a) [] 80, .int .i64 line] s = some (.int .i64 (fP f l wf wl line), s) := by
 have hb := h.blk;have h0 := h.f0;have h1 := h.l1;unfold fP;simp only [frV] at hb;by_cases c1 : line < f
 ·rw [if_pos (.inl c1), ae fQ rfl];simp only [go_sem, hb, c1]
 ·by_cases c2 : l ≤ line
  ·rw [if_pos (.inr c2), ae fQ rfl];simp only [go_sem, hb, c1, c2]
  ·rw [if_neg (by omega)];obtain ⟨i, rfl⟩ : ∃ i : Nat, line = i := ⟨line.toNat, by omega⟩;have e1 := JC s a _ _ _ wf h.okf hb i (by omega);have e2 := I1 s a _ _ _ wl h.okl hb i (by omega);rw [Int.toNat_natCast, ae fQ rfl];simp only [go_sem, hb, c1, c2, e1];cases bit wf i
   ·simp only [go_sem, e2]
   ·simp only [go_sem]
def inE (st want : Int) : Int := if st = -1 then 1 else if st = want then 0 else 3
theorem Iw {s : St} {a : Nat} {f l : Int} {wf wl : List Nat} (h : Fr s a f l wf wl) (line want : Int) :
 rf D iq [.ptr (.hp a) [] 80, .int .i64 line, .int .i64 want] s = some (.int .i64 (inE (fP f l wf wl line) want), s) := by
 have e := Io h line;unfold inE;generalize fP f l wf wl line = t at *;rw [ae qP rfl];by_cases c1 : t = -1
 ·simp only [go_sem, e, c1]
 ·by_cases c2 : t = want
  ·subst c2;simp only [go_sem, e, c1]
  ·simp only [go_sem, e, c1, c2]
theorem we {f l : Int} {wf wl : List Nat} {line : Int} (h : fP f l wf wl line ≠ -1) : f ≤ line ∧ line < l := by
 unfold fP at h;split at h
 ·exact absurd rfl h
 ·omega
theorem uH {s : St} {a : Nat} {f l : Int} {wf wl : List Nat} (h : Fr s a f l wf wl) (line : Int) (ht : fP f l wf wl line = 0) :
 rf D dJ [.ptr (.hp a) [] 80, .int .i64 line] s = some (.int .i64 0, ⟨s.loc, s.hp.set a (.rw (frV f l (flip wf line.toNat) wl))⟩) := by
 have e := Iw h line 0;rw [ht] at e;have hl := we (show fP f l wf wl line ≠ -1 by rw [ht]; decide);have h0 := h.f0;have h1 := h.l1;obtain ⟨i, rfl⟩ : ∃ i : Nat, line = i := ⟨line.toNat, by omega⟩;have hb := h.blk;simp only [frV] at hb ⊢;have e1 := tA s a _ _ _ wf h.okf hb i (by omega);rw [Int.toNat_natCast, ae jV rfl];have hi : inE 0 0 = 0 := rfl;simp only [go_sem, e, hi, e1]
theorem uj {s : St} {a : Nat} {f l : Int} {wf wl : List Nat} (h : Fr s a f l wf wl) (line : Int) (ht : fP f l wf wl line ≠ 0) :
 rf D dJ [.ptr (.hp a) [] 80, .int .i64 line] s = some (.int .i64 (inE (fP f l wf wl line) 0), s) := by
 have e := Iw h line 0;have hn : ¬ inE (fP f l wf wl line) 0 = 0 := by unfold inE; split <;> simp_all
 rw [ae jV rfl];simp only [go_sem, e, hn]
theorem Di (f l : Int) (h : f < 0 ∨ l < f ∨ 1024 < l) (s : St) : rf D it [.int .i64 f, .int .i64 l] s = some (.tup [.nilp, .int .i64 1], s) := by
 rw [ae qO rfl];by_cases h1 : f < 0
 ·simp only [go_sem, h1]
 ·by_cases h2 : l < f
  ·simp only [go_sem, h1, h2]
  ·have h3 : 1024 < l := by omega
   simp only [go_sem, h1, h2, h3]
theorem xr (f l : Int) (h0 : 0 ≤ f) (h1 : f ≤ l) (h2 : l ≤ 1024) (s : St) :
 ∃ w, OkS w ∧ (∀ j : Nat, j < 1024 → bit w j = (decide (f ≤ j) && decide ((j : Int) < l))) ∧
  rf D it [.int .i64 f, .int .i64 l] s = some (.tup [.ptr (.hp s.hp.length) [] 80, .int .i64 0], ⟨s.loc, s.hp ++ [.rw (frV f l w (w16 []))]⟩) := by
 obtain ⟨a, rfl⟩ : ∃ n : Nat, f = n := ⟨f.toNat, by omega⟩;obtain ⟨b, rfl⟩ : ∃ n : Nat, l = n := ⟨l.toNat, by omega⟩;have loop : ∃ r, rc D s.loc.length (.loop [0, 6, 25, 26] iB) [(0, .int .i64 a), (6, .ptr (.hp s.hp.length) [] 80), (25, .int .i64 (b - a : Nat)), (26, .int .i64 0)] ⟨s.loc, s.hp ++ [.rw (frV a b (w16 []) (w16 []))]⟩ = some r ∧
  ∃ w : List Nat, r = (.exit 0, [(0, .int .i64 a), (6, .ptr (.hp s.hp.length) [] 80), (25, .int .i64 (b - a : Nat)), (26, .int .i64 (b - a : Nat)), (27, .bool false)], ⟨s.loc, s.hp ++ [.rw (frV a b w (w16 []))]⟩) ∧
   OkS w ∧ ∀ j : Nat, j < 1024 → bit w j = (decide (a ≤ j) && decide (j < b)) := by
  refine rT (fun x : Nat × List Nat => [(0, .int .i64 a), (6, .ptr (.hp s.hp.length) [] 80), (25, .int .i64 (b - a : Nat)), (26, .int .i64 x.1)]) (fun x => ⟨s.loc, s.hp ++ [.rw (frV a b x.2 (w16 []))]⟩) _ (fun x => b - a - x.1)
   (fun x => x.1 ≤ b - a ∧ OkS x.2 ∧ ∀ j : Nat, j < 1024 → bit x.2 j = (decide (a ≤ j) && decide (j < a + x.1))) (0, w16 []) ?_ ⟨by simp, vE, fun j hj => ?_⟩ rfl rfl
  ·rintro ⟨i, w⟩ ⟨hi, hok, hbit⟩;simp only at hi hok hbit;by_cases c1 : i < b - a
   ·left;have d1 : (i : Int) < (b - a : Nat) := by omega
    have d4 : IntKind.i64.wrap ((i : Int) + 1) = (i : Int) + 1 := ai (by omega) (by omega);have e1 : IntKind.i64.wrap ((a : Int) + (i : Int)) = ((a + i : Nat) : Int) := by rw [ai (by omega) (by omega)]; omega
    have r1 := tA ⟨s.loc, s.hp ++ [.rw (.agg 80 [.int .i64 a, .int .i64 b, .agg 78 (w.map cN), .agg 78 ((w16 []).map cN)])]⟩ s.hp.length (.int .i64 a) (.int .i64 b) (.agg 78 ((w16 []).map cN)) w hok (by simp) (a + i) (by omega);simp only [pF, List.set_cons_zero] at r1;refine ⟨(i + 1, flip w (a + i)), ⟨by simp only; omega, hok.flip (by omega), fun j hj => ?_⟩, by simp only; omega, ?_⟩
    ·simp only;rw [xV hok (by omega), hbit j hj];by_cases hij : a + i = j
     ·subst hij;simp
     ·have : decide (j < a + (i + 1)) = decide (j < a + i) := decide_eq_decide.2 (by omega);simp [hij, this]
    ·simp only [frV];generalize a + i = n at *;simp only [go_sem, iB, d1, d4, e1, r1];rfl
   ·right;have : i = b - a := by omega
    subst this;refine ⟨_, ?_, w, rfl, hok, fun j hj => ?_⟩
    ·have d1 : ¬ ((b - a : Nat) : Int) < ((b - a : Nat) : Int) := by omega
     simp only [go_sem, iB, d1]
    ·rw [hbit j hj, show a + (b - a) = b by omega]
  ·simp only;rw [Cb];by_cases h1 : a ≤ j
   ·simp
   ·simp [h1]
 obtain ⟨_, hl, w, rfl, hok, hbit⟩ := loop;refine ⟨w, hok, fun j hj => ?_, ?_⟩
 ·rw [hbit j hj];have e1 : decide ((a : Int) ≤ j) = decide (a ≤ j) := decide_eq_decide.2 (by omega);have e2 : decide ((j : Int) < b) = decide (j < b) := decide_eq_decide.2 (by omega);rw [e1, e2]
 ·have c1 : ¬ (a : Int) < 0 := by omega
  have c2 : ¬ (b : Int) < a := by omega
  have c3 : ¬ 1024 < (b : Int) := by omega
  have e1 : IntKind.i64.wrap ((b : Int) - (a : Int)) = ((b - a : Nat) : Int) := by rw [ai (by omega) (by omega)]; omega
  simp only [frV, I3] at hl ⊢;generalize b - a = n at *;rw [ae qO rfl];simp only [go_sem, c1, c2, c3, e1, hl]
end Go.Proofs.YtilcajpldklbiaaDoor
namespace Go.Proofs.YtilcajpldklbiaaDoor
open Go.Ab
theorem tC {l : List Blk} {a : Nat} {x : Blk} (h : l[a]? = some x) : l.set a x = l := by
 have ha := (List.getElem?_eq_some_iff.1 h).1;apply List.ext_getElem?;intro j;by_cases e : a = j
 ·subst e; rw [List.getElem?_set_self ha]; exact h.symm
 ·rw [List.getElem?_set_ne e]
end Go.Proofs.YtilcajpldklbiaaDoor
namespace Go.Proofs.YtilcajpldklbiaaDoor
open Go.Ab
structure Obj where
 kind : Int
 ver : Int
 l : List Int
def Obj.v (o : Obj) : V := .agg 26 [.int .i64 o.kind, .int .i64 o.ver, .agg 24 (o.l.map (.int .u64))]
theorem uf {α : Type} {f : α → V} {P : α → Prop} {l : List V} (h : ∀ x ∈ l, ∃ a, x = f a ∧ P a) : ∃ la : List α, l = la.map f ∧ ∀ a ∈ la, P a := by
 induction l with
 | nil => exact ⟨[], rfl, by simp⟩
 | cons x l ih =>
  obtain ⟨a, rfl, ha⟩ := h x (List.mem_cons_self ..);obtain ⟨la, rfl, hl⟩ := ih fun y hy => h y (List.mem_cons_of_mem _ hy);refine ⟨a :: la, rfl, fun y hy => ?_⟩;rcases List.mem_cons.1 hy with rfl | hy
  ·exact ha
  ·exact hl y hy
structure OkO (o : Obj) : Prop where
 l8 : o.l.length = 8
 words : ∀ x ∈ o.l, 0 ≤ x ∧ x ≤ 18446744073709551615
theorem LN {hp : List Blk} {v : V} (h : (Sh.st 26 [.int .i64, .int .i64, .arr 24 8 (.int .u64)]).Fits hp v) : ∃ o : Obj, v = o.v ∧ OkO o ∧ (-9223372036854775808 ≤ o.kind ∧ o.kind ≤ 9223372036854775807) ∧ (-9223372036854775808 ≤ o.ver ∧ o.ver ≤ 9223372036854775807) := by
 obtain ⟨vs, rfl, h⟩ := h;obtain ⟨x, y, z, rfl, ⟨k, rfl, hk⟩, ⟨w, rfl, hw⟩, ⟨ws, rfl, hn, hl⟩⟩ := II h;obtain ⟨l, rfl, hl'⟩ := uf (f := V.int .u64) (P := fun x => 0 ≤ x ∧ x ≤ 18446744073709551615) (fun x hx => by
  obtain ⟨n, rfl, h1, h2⟩ := hl x hx;exact ⟨n, rfl, h1, h2⟩)
 refine ⟨⟨k, w, l⟩, rfl, ⟨by simpa using hn, hl'⟩, hk, hw⟩
end Go.Proofs.YtilcajpldklbiaaDoor
namespace Go.Proofs.YtilcajpldklbiaaDoor
open Go.Ab
structure Ent where
 kind : Int
 ver : Int
 line : Int
def Ent.v (x : Ent) : V := .agg 42 [.int .i64 x.kind, .int .i64 x.ver, .int .i64 x.line]
def af (t : Nat → Ent) : V := .agg 48 (tab 49 fun i => (t i).v)
def bI (d : Nat → Int) : V := .agg 50 (tab 8 fun i => .int .i64 (d i))
def shV (f : Nat → Bool) : V := .agg 82 (tab 1024 fun j => .bool (f j))
def aw : Ent := ⟨0, 0, 0⟩
def eD (t : Nat → Ent) (f : Nat → Bool) : Nat → Nat → Bool
 | 0 => f
 | n + 1 => if (t n).kind = 0 then eD t f n else upd (eD t f n) (t n).line.toNat true
structure InL (t : Nat → Ent) : Prop where
 inn : ∀ i, i < 49 → (t i).kind ≠ 0 → 0 ≤ (t i).line ∧ (t i).line < 1024
theorem Eo {s : St} {a : Nat} {x0 x1 x2 x3 x4 x5 x6 : V} {f : Nat → Bool} {t : Nat → Ent} (h : s.hp[a]? = some (.rw (.agg 43 [x0, x1, x2, x3, x4, x5, x6, shV f]))) (ht : InL t) :
 rf D gN [.ptr (.hp a) [7] 82, af t] s = some (.tup [], ⟨s.loc, s.hp.set a (.rw (.agg 43 [x0, x1, x2, x3, x4, x5, x6, shV (eD t f 49)]))⟩) := by
 have ha := (List.getElem?_eq_some_iff.1 h).1;have loop : rc D s.loc.length (.loop [0, 6, 7] cd) [(0, .ptr (.hp a) [7] 82), (6, af t), (7, .int .i64 0)] ⟨s.loc ++ [.rw (af t)], s.hp⟩ =
  some (.exit 0, [(0, .ptr (.hp a) [7] 82), (6, af t), (7, .int .i64 49), (8, .bool false)], ⟨s.loc ++ [.rw (af t)], s.hp.set a (.rw (.agg 43 [x0, x1, x2, x3, x4, x5, x6, shV (eD t f 49)]))⟩) := by
  refine ff (fun x : Nat => [(0, .ptr (.hp a) [7] 82), (6, af t), (7, .int .i64 x)]) (fun x => ⟨s.loc ++ [.rw (af t)], s.hp.set a (.rw (.agg 43 [x0, x1, x2, x3, x4, x5, x6, shV (eD t f x)]))⟩) (fun _ => _) (fun x => 49 - x) (fun x => x ≤ 49) 0 ?_ (by omega) rfl ?_
  ·intro i hi;by_cases c1 : i < 49
   ·left;have d1 : (i : Int) < 49 := by omega
    have d2 : (0 : Int) ≤ i := by omega
    have d4 : IntKind.i64.wrap ((i : Int) + 1) = (i : Int) + 1 := ai (by omega) (by omega);have g1 := aC (f := fun i => (t i).v) c1;have hin := ht.inn i c1;refine ⟨i + 1, by omega, by omega, rfl, ?_⟩;simp only [af, Ent.v, eD] at *;generalize tab 49 (fun i => V.agg 42 [.int .i64 (t i).kind, .int .i64 (t i).ver, .int .i64 (t i).line]) = T at *;have hs : ∀ b, (s.hp.set a b)[a]? = some b := fun b => List.getElem?_set_self ha;by_cases hk : (t i).kind = 0
    ·simp only [hk, if_true] at g1 ⊢;generalize eD t f i = f' at *;simp only [go_sem, cd, d1, d2];rw [Int.toNat_natCast];simp only [go_sem, g1, d4];rfl
    ·simp only [hk, if_false] at g1 ⊢;obtain ⟨h1, h2⟩ := hin hk;obtain ⟨q, hq⟩ : ∃ q : Nat, (t i).line = q := ⟨(t i).line.toNat, by omega⟩;simp only [hq, Int.toNat_natCast] at g1 h1 h2 ⊢;have e := eM 1024 (fun j => V.bool (eD t f i j)) q (.bool true);have hu : tab 1024 (upd (fun j => V.bool (eD t f i j)) q (.bool true)) = tab 1024 (fun j => V.bool (upd (eD t f i) q true j)) := bM fun j _ => by unfold upd; split <;> rfl
     rw [hu] at e;have hg := aC (f := fun j => V.bool (eD t f i j)) (show q < 1024 by omega);simp only [shV];rw [← e];generalize tab 1024 (fun j => V.bool (eD t f i j)) = F at *;generalize eD t f i q = y at *;simp only [go_sem, cd, d1, d2];rw [Int.toNat_natCast];simp only [go_sem, g1, hk, h1, h2, hs];rw [Int.toNat_natCast];simp only [go_sem, hg, d4, List.set_set];rfl
   ·right;have : i = 49 := by omega
    subst this;simp only [af];simp only [go_sem, cd]
  ·simp only [eD];rw [tC h]
 simp only [af] at *;rw [ae qu rfl];simp only [go_sem, loop]
def vK (base mark : Nat → Ent) (marked : Bool) : Nat → Bool := if marked then eD mark (eD base (fun _ => false) 49) 49 else eD base (fun _ => false) 49
structure StF where
 m : Nat
 fr : Nat
 work : Nat → Ent
 base : Nat → Ent
 dir : Nat → Int
 mark : Nat → Ent
 marked : Bool
def StF.v (x : StF) (sh : Nat → Bool) : V := .agg 43 [.ptr (.hp x.m) [] 59, .ptr (.hp x.fr) [] 80, af x.work, af x.base, bI x.dir, af x.mark, .bool x.marked, shV sh]
theorem BU : V.agg 82 (List.replicate 1024 (.bool false)) = shV fun _ => false := by rw [fW]; rfl
theorem Ia {s : St} {a : Nat} {x : StF} {sh : Nat → Bool} (h : s.hp[a]? = some (.rw (x.v sh))) (hb : InL x.base) (hm : x.marked = true → InL x.mark) :
 rf D fR [.ptr (.hp a) [] 43] s = some (.tup [], ⟨s.loc, s.hp.set a (.rw (x.v (vK x.base x.mark x.marked)))⟩) := by
 have ha := (List.getElem?_eq_some_iff.1 h).1;have hs : ∀ b, (s.hp.set a b)[a]? = some b := fun b => List.getElem?_set_self ha;obtain ⟨m, fr, work, base, dir, mark, marked⟩ := x;simp only [StF.v] at *;have r1 := fun L => Eo (s := ⟨s.loc ++ L, s.hp.set a (.rw (.agg 43 [.ptr (.hp m) [] 59, .ptr (.hp fr) [] 80, af work, af base, bI dir, af mark, .bool marked, shV fun _ => false]))⟩) (hs _) hb;have r2 := fun L (h : marked = true) => Eo (s := ⟨s.loc ++ L, s.hp.set a (.rw (.agg 43 [.ptr (.hp m) [] 59, .ptr (.hp fr) [] 80, af work, af base, bI dir, af mark, .bool marked, shV (eD base (fun _ => false) 49)]))⟩) (hs _) (hm h);have e := BU;simp only [List.set_set, shV] at r1 r2 h e ⊢;have r1 := r1 [];have r2 := r2 [];simp only [List.append_nil] at r1 r2;rw [ae oJ rfl];simp only [af, V.agg.injEq, true_and] at *;cases marked
 ·simp only [vK, Bool.false_eq_true, if_false];generalize tab 1024 (fun j => V.bool (eD base (fun _ => false) 49 j)) = F1 at *;simp only [go_sem, h, e, hs, r1]
 ·have r2 := r2 rfl;simp only [vK, if_true];generalize tab 1024 (fun j => V.bool (eD base (fun _ => false) 49 j)) = F1 at *;simp only [go_sem, h, e, hs, r1, r2]
end Go.Proofs.YtilcajpldklbiaaDoor
namespace Go.Proofs.YtilcajpldklbiaaDoor
open Go.Ab
def gE (t : Nat → Ent) (id : Int) : Int := if id < 0 ∨ 49 ≤ id then 1 else if (t id.toNat).kind = 0 then 30 else 0
theorem KU {s : St} {a : Nat} {x : StF} {sh : Nat → Bool} (h : s.hp[a]? = some (.rw (x.v sh))) (id : Int) : rf D fb [.ptr (.hp a) [] 43, .int .i64 id] s = some (.int .i64 (gE x.work id), s) := by
 obtain ⟨m, fr, work, base, dir, mark, marked⟩ := x;simp only [StF.v, af] at *;unfold gE;rw [ae rK rfl];by_cases c1 : id < 0
 ·simp only [go_sem, c1]
 ·by_cases c2 : 49 ≤ id
  ·simp only [go_sem, c1, c2]
  ·obtain ⟨i, rfl⟩ : ∃ i : Nat, id = i := ⟨id.toNat, by omega⟩;have g1 := aC (f := fun i => (work i).v) (show i < 49 by omega);simp only [Ent.v] at *;generalize tab 49 (fun i => V.agg 42 [.int .i64 (work i).kind, .int .i64 (work i).ver, .int .i64 (work i).line]) = T at *;have d1 : (i : Int) < 49 := by omega
   have d2 : (0 : Int) ≤ i := by omega
   rw [if_neg (by omega), Int.toNat_natCast];by_cases hk : (work i).kind = 0
   ·simp only [hk] at *;simp only [go_sem, c1, c2, h, d1, d2];rw [Int.toNat_natCast];simp only [go_sem, g1]
   ·simp only [go_sem, c1, c2, h, d1, d2];rw [Int.toNat_natCast];simp only [go_sem, g1, hk]
end Go.Proofs.YtilcajpldklbiaaDoor
namespace Go.Proofs.YtilcajpldklbiaaDoor
open Go.Ab
def Mc (k : Int) : Prop := k = 1 ∨ k = 2 ∨ k = 4
instance (k : Int) : Decidable (Mc k) := inferInstanceAs (Decidable (k = 1 ∨ k = 2 ∨ k = 4))
def updE (t : Nat → Ent) (i : Nat) (e : Ent) : Nat → Ent := fun j => if j = i then e else t j
theorem Hn {t : Nat → Ent} {i : Nat} {e : Ent} : tab 49 (upd (fun j => (t j).v) i e.v) = tab 49 fun j => (updE t i e j).v := by
 apply bM;intro j _;unfold upd updE;split <;> rfl
theorem Mp {s : St} {a : Nat} {x : StF} {sh : Nat → Bool} (h : s.hp[a]? = some (.rw (x.v sh))) (i : Nat) (hi : i < 49) (hl : 0 ≤ (x.work i).line ∧ (x.work i).line < 1024) :
 rf D eF [.ptr (.hp a) [] 43, .int .i64 i] s = some (.bool (!sh (x.work i).line.toNat), s) := by
 obtain ⟨m, fr, work, base, dir, mark, marked⟩ := x;have g1 := aC (f := fun i => (work i).v) hi;simp only at hl;obtain ⟨q, hq⟩ : ∃ q : Nat, (work i).line = q := ⟨(work i).line.toNat, by omega⟩;have g2 := aC (n := 1024) (f := fun j => V.bool (sh j)) (show q < 1024 by omega);have d1 : (i : Int) < 49 := by omega
 have d2 : (0 : Int) ≤ i := by omega
 have d3 : (q : Int) < 1024 := by omega
 have d4 : (0 : Int) ≤ q := by omega
 simp only [StF.v, af, shV, Ent.v] at *;rw [hq] at g1;simp only [hq, Int.toNat_natCast];generalize tab 49 (fun i => V.agg 42 [.int .i64 (work i).kind, .int .i64 (work i).ver, .int .i64 (work i).line]) = T at *;generalize tab 1024 (fun j => V.bool (sh j)) = U at *;rw [ae qw rfl];simp only [go_sem, h, d1, d2];rw [Int.toNat_natCast];simp only [go_sem, g1, h, d3, d4];rw [Int.toNat_natCast];simp only [go_sem, g2]
end Go.Proofs.YtilcajpldklbiaaDoor
namespace Go.Proofs.YtilcajpldklbiaaDoor
open Go.Ab
theorem Ih : ∀ w : Nat, w ≠ 0 → ∃ k m, w = 2 ^ k * (2 * m + 1) := by
 intro w
 induction w using Nat.strongRecOn with
 | _ w ih =>
  intro h;by_cases h2 : w % 2 = 1
  ·exact ⟨0, w / 2, by omega⟩
  ·obtain ⟨k, m, hk⟩ := ih (w / 2) (by omega) (by omega);refine ⟨k + 1, m, ?_⟩;rw [Nat.pow_succ, Nat.mul_assoc, Nat.mul_left_comm, ← hk]; omega
theorem oe {k m j : Nat} : (2 ^ k * (2 * m + 1)).testBit j = (decide (j = k) || (decide (k < j) && m.testBit (j - k - 1))) := by
 rw [Nat.testBit_two_pow_mul];by_cases h : k ≤ j
 ·obtain ⟨d, rfl⟩ := Nat.exists_eq_add_of_le h;simp only [Nat.le_add_right, decide_true, Bool.true_and, Nat.add_sub_cancel_left];cases d with
  | zero => simp
  | succ d =>
   rw [Nat.testBit_succ, show (2 * m + 1) / 2 = m by omega];simp
 ·have h1 : ¬ j = k := by omega
  have h2 : ¬ k < j := by omega
  simp [h, h1, h2]
theorem Jc {k m : Nat} (hw : 2 ^ k * (2 * m + 1) < 2 ^ 64) : (2 ^ k * (2 * m + 1)) &&& (2 ^ 64 - 2 ^ k * (2 * m + 1)) = 2 ^ k := by
 have hpos : 0 < 2 ^ k := Nat.two_pow_pos k;apply Nat.eq_of_testBit_eq;intro j;have e : 2 ^ 64 - 2 ^ k * (2 * m + 1) = 2 ^ 64 - ((2 ^ k * (2 * m) + (2 ^ k - 1)) + 1) := by
  have : 2 ^ k * (2 * m + 1) = 2 ^ k * (2 * m) + 2 ^ k := by rw [Nat.mul_add, Nat.mul_one]
  omega
 have hlt : 2 ^ k * (2 * m) + (2 ^ k - 1) < 2 ^ 64 := by
  have : 2 ^ k * (2 * m + 1) = 2 ^ k * (2 * m) + 2 ^ k := by rw [Nat.mul_add, Nat.mul_one]
  omega
 rw [Nat.testBit_and, e, Nat.testBit_two_pow_sub_succ hlt, oe, Nat.testBit_two_pow_mul_add _ (by omega : 2 ^ k - 1 < 2 ^ k), Nat.testBit_two_pow];by_cases h1 : j = k
 ·subst h1;have hk : j < 64 := by
   by_cases h : j < 64
   ·exact h
   ·have := Nat.pow_le_pow_right (show 0 < 2 by decide) (show 64 ≤ j by omega);have h3 : 2 ^ j ≤ 2 ^ j * (2 * m + 1) := Nat.le_mul_of_pos_right _ (by omega);omega
  simp [hk]
 ·by_cases h2 : k < j
  ·have h3 : ¬ j < k := by omega
   have h4 : ¬ k = j := fun h => h1 h.symm;obtain ⟨d, rfl⟩ := Nat.exists_eq_add_of_lt h2;have e2 : k + d + 1 - k = d + 1 := by omega
   simp only [h1, h3, h4, if_false, decide_false, Bool.false_or, h2, decide_true, Bool.true_and, e2, Nat.add_sub_cancel];rw [Nat.testBit_succ, show 2 * m / 2 = m by omega];cases m.testBit d <;> simp
  ·have h4 : ¬ k = j := fun h => h1 h.symm;simp [h1, h2, h4]
def Nr (k : Nat) : Bool := decide (lB[(2 ^ k * 285870213051353865 % 18446744073709551616) / 288230376151711744]? = some (k : Int))
theorem Jg : (List.range 64).all Nr = true := by kernel_rfl
theorem Hs {k : Nat} (hk : k < 64) : lB[(2 ^ k * 285870213051353865 % 18446744073709551616) / 288230376151711744]? = some (k : Int) :=
 of_decide_eq_true (List.all_eq_true.1 Jg k (List.mem_range.2 hk))
structure Low (w k : Nat) : Prop where
 lt : k < 64
 set : w.testBit k = true
 less : ∀ j, j < k → w.testBit j = false
theorem Nc (w : Nat) (h0 : w ≠ 0) (hw : w < 18446744073709551616) : IntKind.u64.wrap (0 - (w : Int)) = ((18446744073709551616 - w : Nat) : Int) := by
 rw [IntKind.wrap_u64]; omega
theorem MV (p : Nat) : IntKind.u64.wrap ((p : Int) * 285870213051353865) = ((p * 285870213051353865 % 18446744073709551616 : Nat) : Int) := by
 rw [IntKind.wrap_u64]; simp
theorem MF (q : Nat) : iT .u64 (q : Int) 58 = ((q / 288230376151711744 : Nat) : Int) := by
 have := pQ (q : Int) 58 (by decide);rw [show (58 : Int) = ((58 : Nat) : Int) by rfl, this]; simp
theorem Iy {k m : Nat} (hw : 2 ^ k * (2 * m + 1) < 18446744073709551616) : k < 64 := by
 by_cases h : k < 64
 ·exact h
 ·have h1 := Nat.pow_le_pow_right (show 0 < 2 by decide) (show 64 ≤ k by omega);have h3 : 2 ^ k ≤ 2 ^ k * (2 * m + 1) := Nat.le_mul_of_pos_right _ (by omega);have h4 : 18446744073709551616 ≤ 2 ^ k := h1;exact absurd hw (Nat.not_lt.2 (Nat.le_trans h4 h3))
theorem Mb {k m : Nat} (hw : 2 ^ k * (2 * m + 1) < 18446744073709551616) : Low (2 ^ k * (2 * m + 1)) k := by
 refine ⟨Iy hw, by rw [oe]; simp, fun j hj => ?_⟩;rw [oe];have h1 : ¬ j = k := by omega
 have h2 : ¬ k < j := by omega
 simp [h1, h2]
theorem MU {k m : Nat} (hw : 2 ^ k * (2 * m + 1) < 18446744073709551616) : j5 .u64 (2 ^ k * (2 * m + 1) : Nat) ((18446744073709551616 - 2 ^ k * (2 * m + 1) : Nat) : Int) = ((2 ^ k : Nat) : Int) := by
 have h : 0 < 2 ^ k * (2 * m + 1) := Nat.mul_pos (Nat.two_pow_pos k) (by omega);rw [mS hw (by omega)];exact congrArg _ (Jc hw)
theorem LY {q : Nat} (h : q < 18446744073709551616) : q / 288230376151711744 < 64 := by omega
theorem Nh (w : Nat) (h0 : w ≠ 0) (hw : w < 18446744073709551616) (s : St) (hG : s.hp[0]? = some (.ro bU)) :
 ∃ k, Low w k ∧ rf D cT [.int .u64 w] s = some (.int .i64 k, s) := by
 obtain ⟨k, m, rfl⟩ := Ih w h0;have hk := Iy hw;refine ⟨k, Mb hw, ?_⟩;have e1 := Nc _ h0 hw;have e2 := MU hw;have ht := Hs hk;have d3 : ¬ ((2 ^ k * (2 * m + 1) : Nat) : Int) = 0 := by rw [Int.natCast_eq_zero]; exact h0
 clear hw h0;generalize 2 ^ k * (2 * m + 1) = w at *;generalize 2 ^ k = p at *;have e3 := MV p;have hq : p * 285870213051353865 % 18446744073709551616 < 18446744073709551616 := Nat.mod_lt _ (by decide);generalize p * 285870213051353865 % 18446744073709551616 = q at *;have e4 := MF q;have hq64 := LY hq;generalize q / 288230376151711744 = r at *;have d1 : (r : Int) < 64 := by omega
 have d2 : (0 : Int) ≤ (r : Int) := by omega
 have hg : (lB.map (V.int .u8))[r]? = some (.int .u8 k) := by rw [List.getElem?_map, ht]; rfl
 have d4 : IntKind.i64.wrap (k : Int) = k := ai (by omega) (by omega);have hG' : s.hp[0]? = some (.ro (.agg 108 (lB.map (V.int .u8)))) := hG;generalize 18446744073709551616 - w = nw at *;rw [ae lw rfl];simp only [go_sem, d3, e1, e2, e3];simp only [e4];simp only [d1, d2, go_sem];rw [Int.toNat_natCast, hG'];simp only [go_sem, hg, d4]
structure Dv (w : List Nat) (n : Nat) : Prop where
 lt : n < 1024
 set : bit w n = true
 less : ∀ j, j < n → bit w j = false
def IP (w : List Nat) : Prop := ∀ j, j < 1024 → bit w j = false
theorem FB {x : Nat} (h : x = 0) (i : Nat) : x.testBit i = false := by subst h; exact Nat.zero_testBit i
theorem Gi {s : St} {a : Nat} {f l : Int} {wf wl : List Nat} (h : Fr s a f l wf wl) (hG : s.hp[0]? = some (.ro bU)) :
 (∃ n, Dv wf n ∧ rf D ce [.ptr (.hp a) [] 80] s = some (.tup [.int .i64 n, .int .i64 0], ⟨s.loc, s.hp.set a (.rw (frV f l (flip wf n) wl))⟩)) ∨
  (IP wf ∧ rf D ce [.ptr (.hp a) [] 80] s = some (.tup [.int .i64 0, .int .i64 10], s)) := by
 have hb := h.blk;have hlen := h.okf.len;simp only [frV] at hb ⊢;have loop : ∃ r, rc D s.loc.length (.loop [0, 10, 11] bT) [(0, .ptr (.hp a) [] 80), (10, .agg 78 (wf.map cN)), (11, .int .i64 0)] s = some r ∧
  ((∃ n : Nat, Dv wf n ∧ r = (.ret, [(2, .int .i64 n), (3, .int .i64 0)], ⟨s.loc, s.hp.set a (.rw (.agg 80 [.int .i64 f, .int .i64 l, .agg 78 ((flip wf n).map cN), .agg 78 (wl.map cN)]))⟩)) ∨
   (IP wf ∧ r = (.exit 0, [(0, .ptr (.hp a) [] 80), (10, .agg 78 (wf.map cN)), (11, .int .i64 16), (12, .bool false)], s))) := by
  refine rT (fun x : Nat => [(0, .ptr (.hp a) [] 80), (10, .agg 78 (wf.map cN)), (11, .int .i64 x)]) (fun _ => s) _ (fun x => 16 - x)
   (fun x => x ≤ 16 ∧ ∀ j, j < 64 * x → bit wf j = false) 0 ?_ ⟨by omega, fun j hj => by omega⟩ rfl rfl
  rintro i ⟨hi, hz⟩;by_cases c1 : i < 16
  ·have d1 : (i : Int) < 16 := by omega
   have d2 : (0 : Int) ≤ i := by omega
   have d4 : IntKind.i64.wrap ((i : Int) + 1) = (i : Int) + 1 := ai (by omega) (by omega);have hg := aG (f := cN) (l := wf) (i := i) (by omega) 0;have hlt := h.okf.get c1;by_cases hw : wf.getD i 0 = 0
   ·left;refine ⟨i + 1, ⟨by omega, fun j hj => ?_⟩, by omega, ?_⟩
    ·by_cases hj2 : j < 64 * i
     ·exact hz j hj2
     ·have e : j / 64 = i := by omega
      unfold bit;rw [e];exact FB hw _
    ·rw [hw] at hg;simp only [go_sem, bT, d1, d2];rw [Int.toNat_natCast];simp only [go_sem, hg, d4];rfl
   ·right;obtain ⟨k, hk, htz⟩ := Nh _ hw hlt s hG;have hk64 := hk.lt;have hfirst : Dv wf (64 * i + k) := by
     refine ⟨by omega, ?_, fun j hj => ?_⟩
     ·unfold bit;rw [show (64 * i + k) / 64 = i by omega, show (64 * i + k) % 64 = k by omega];exact hk.set
     ·by_cases hj2 : j < 64 * i
      ·exact hz j hj2
      ·unfold bit;rw [show j / 64 = i by omega];exact hk.less _ (by omega)
    have e1 := tA s a _ _ _ wf h.okf hb (64 * i + k) hfirst.lt;refine ⟨_, ?_, .inl ⟨64 * i + k, hfirst, rfl⟩⟩;have e2 : IntKind.i64.wrap (64 * (i : Int)) = 64 * (i : Int) := ai (by omega) (by omega);have e3 : IntKind.i64.wrap (64 * (i : Int) + (k : Int)) = ((64 * i + k : Nat) : Int) := by rw [ai (by omega) (by omega)]; omega
    have hw' : ¬ ((wf.getD i 0 : Nat) : Int) = 0 := by omega
    generalize 64 * i + k = n at *;generalize wf.getD i 0 = x at *;simp only [go_sem, bT, d1, d2];rw [Int.toNat_natCast];simp only [go_sem, hg, hw', htz, e2, e3, e1]
  ·right;have : i = 16 := by omega
   subst this;refine ⟨_, ?_, .inr ⟨fun j hj => hz j (by omega), rfl⟩⟩;simp only [go_sem, bT]
 obtain ⟨r, hl, hr⟩ := loop;rcases hr with ⟨n, hn, rfl⟩ | ⟨hn, rfl⟩
 ·left;refine ⟨n, hn, ?_⟩;rw [ae jB rfl];simp only [go_sem, hb, hl]
 ·right;refine ⟨hn, ?_⟩;rw [ae jB rfl];simp only [go_sem, hb, hl]
end Go.Proofs.YtilcajpldklbiaaDoor
namespace Go.Proofs.YtilcajpldklbiaaDoor
open Go.Ab
def cg (f l : Int) : List Int → List Nat → Option (List Nat)
 | [], w => some w
 | x :: r, w => if fP f l w (w16 []) x = 0 then cg f l r (flip w x.toNat) else none
def cK (t : Nat → Ent) : Nat → Nat → List Int
 | _, 0 => []
 | i, n + 1 => if (t i).kind = 0 then cK t (i + 1) n else (t i).line :: cK t (i + 1) n
def ke (d : Nat → Int) : Nat → Nat → List Int
 | _, 0 => []
 | i, n + 1 => d i :: ke d (i + 1) n
def gp (t : Nat → Ent) (d : Nat → Int) : List Int := cK t 0 49 ++ ke d 0 8
theorem ya {f l : Int} (h0 : 0 ≤ f) (h1 : l ≤ 1024) : ∀ {ls : List Int} {w w' : List Nat}, cg f l ls w = some w' → ∀ x ∈ ls, 0 ≤ x ∧ x < 1024
 | [], _, _, _, x, hx => by cases hx
 | y :: r, w, w', h, x, hx => by
  simp only [cg] at h;split at h
  ·rename_i hz;rcases List.mem_cons.1 hx with rfl | hx
   ·have := we (show fP f l w (w16 []) x ≠ -1 by rw [hz]; decide);omega
   ·exact ya h0 h1 h x hx
  ·cases h
theorem mq (t : Nat → Ent) : ∀ (n i k : Nat), i ≤ k → k < i + n → (t k).kind ≠ 0 → (t k).line ∈ cK t i n
 | 0, i, k, h1, h2, _ => by omega
 | n + 1, i, k, h1, h2, h3 => by
  simp only [cK];by_cases e : i = k
  ·subst e; rw [if_neg h3]; exact List.mem_cons_self
  ·have := mq t n (i + 1) k (by omega) (by omega) h3;split
   ·exact this
   ·exact List.mem_cons_of_mem _ this
theorem tw {f l : Int} (h0 : 0 ≤ f) (h1 : l ≤ 1024) {w : List Nat} (hw : OkS w) {x : Int} (hx : fP f l w (w16 []) x = 0) : OkS (flip w x.toNat) := by
 have := we (show fP f l w (w16 []) x ≠ -1 by rw [hx]; decide);exact hw.flip (by omega)
theorem zn {f l : Int} (h0 : 0 ≤ f) (h1 : l ≤ 1024) : ∀ {ls : List Int} {w w' : List Nat}, OkS w → cg f l ls w = some w' → OkS w'
 | [], _, _, hw, h => by cases h; exact hw
 | y :: r, w, w', hw, h => by
  simp only [cg] at h;split at h
  ·rename_i hz;exact zn h0 h1 (tw h0 h1 hw hz) h
  ·cases h
theorem DU {st : Int} (h : st ≠ 0) : ¬ inE st 0 = 0 := by
 unfold inE; split <;> simp_all
theorem AX (L0 H : List Blk) (t : Nat → Ent) (d : Nat → Int) (f : Int) (l : Nat) (X : V) (h0 : 0 ≤ f) (h1 : l ≤ 1024) (w0 : List Nat) (hw0 : OkS w0) (rest : List Int) :
 ∃ r, rc D L0.length (.loop [7, 10, 12, 34, 35] ed) [(7, .ptr (.loc (L0.length + 1)) [] 50), (10, .ptr (.hp H.length) [] 80), (12, .ptr (.hp (H.length + 1)) [] 43), (34, af t), (35, .int .i64 0)]
  ⟨L0 ++ [.rw (af t), .rw (bI d)], H ++ [.rw (frV f l w0 (w16 [])), .rw X]⟩ = some r ∧
  ((cg f l (cK t 0 49 ++ rest) w0 = none ∧ ∃ (L' : List Blk) (w : List Nat), r = (.ret, [(8, .nilp), (9, .int .i64 21)], ⟨L0 ++ L', H ++ [.rw (frV f l w (w16 [])), .rw X]⟩)) ∨
   (∃ w, OkS w ∧ cg f l (cK t 0 49 ++ rest) w0 = cg f l rest w ∧ r = (.exit 0, [(7, .ptr (.loc (L0.length + 1)) [] 50), (10, .ptr (.hp H.length) [] 80), (12, .ptr (.hp (H.length + 1)) [] 43), (34, af t), (35, .int .i64 49), (36, .bool false)],
    ⟨L0 ++ [.rw (af t), .rw (bI d)], H ++ [.rw (frV f l w (w16 [])), .rw X]⟩))) := by
 refine rT (fun x : Nat × List Nat => [(7, .ptr (.loc (L0.length + 1)) [] 50), (10, .ptr (.hp H.length) [] 80), (12, .ptr (.hp (H.length + 1)) [] 43), (34, af t), (35, .int .i64 x.1)])
  (fun x => ⟨L0 ++ [.rw (af t), .rw (bI d)], H ++ [.rw (frV f l x.2 (w16 [])), .rw X]⟩) _ (fun x => 49 - x.1)
  (fun x => x.1 ≤ 49 ∧ OkS x.2 ∧ cg f l (cK t 0 49 ++ rest) w0 = cg f l (cK t x.1 (49 - x.1) ++ rest) x.2) (0, w0) ?_ ⟨by simp only; omega, hw0, rfl⟩ rfl rfl
 rintro ⟨i, w⟩ ⟨hi, hok, htk⟩;simp only at hi hok htk;by_cases c1 : i < 49
 ·have d1 : (i : Int) < 49 := by omega
  have d2 : (0 : Int) ≤ i := by omega
  have d5 : L0.length + 1 < L0.length + 2 := by omega
  have d4 : IntKind.i64.wrap ((i : Int) + 1) = (i : Int) + 1 := ai (by omega) (by omega);have g1 := aC (f := fun i => (t i).v) c1;have hl : cK t i (49 - i) = if (t i).kind = 0 then cK t (i + 1) (49 - (i + 1)) else (t i).line :: cK t (i + 1) (49 - (i + 1)) := by
   rw [show 49 - i = (49 - (i + 1)) + 1 by omega]; rfl
  rw [hl] at htk;by_cases hk : (t i).kind = 0
  ·left;rw [if_pos hk] at htk;refine ⟨(i + 1, w), ⟨by simp only; omega, hok, htk⟩, by simp only; omega, ?_⟩;simp only [af, Ent.v, bI] at *;simp only [hk] at g1;generalize tab 49 (fun i => V.agg 42 [.int .i64 (t i).kind, .int .i64 (t i).ver, .int .i64 (t i).line]) = T at *;simp only [go_sem, ed, d1, d2];rw [Int.toNat_natCast];simp only [go_sem, g1, d4, d5];rfl
  ·rw [if_neg hk, List.cons_append] at htk;simp only [cg] at htk;have hfr : ∀ L : List Blk, Fr ⟨L, H ++ [.rw (frV f l w (w16 [])), .rw X]⟩ H.length f l w (w16 []) := fun L => ⟨by simp, h0, by omega, hok, vE⟩;by_cases hst : fP f l w (w16 []) (t i).line = 0
   ·left;rw [if_pos hst] at htk;have r1 := fun L => uH (hfr L) (t i).line hst;refine ⟨(i + 1, flip w (t i).line.toNat), ⟨by simp only; omega, tw h0 (by omega) hok hst, htk⟩, by simp only; omega, ?_⟩;simp only [af, Ent.v, bI] at *;generalize tab 49 (fun i => V.agg 42 [.int .i64 (t i).kind, .int .i64 (t i).ver, .int .i64 (t i).line]) = T at *;simp only [pF, List.set_cons_zero] at r1;simp only [go_sem, ed, d1, d2];rw [Int.toNat_natCast];simp only [go_sem, g1, hk, r1, d4, d5];rfl
   ·right;rw [if_neg hst] at htk;have r1 := fun L => uj (hfr L) (t i).line hst;have hne := DU hst;refine ⟨_, ?_, .inl ⟨htk, [.rw (af t), .rw (bI d), .rw (t i).v], w, rfl⟩⟩;simp only [af, Ent.v, bI] at *;generalize tab 49 (fun i => V.agg 42 [.int .i64 (t i).kind, .int .i64 (t i).ver, .int .i64 (t i).line]) = T at *;simp only [go_sem, ed, d1, d2];rw [Int.toNat_natCast];simp only [go_sem, g1, hk, r1, hne]
 ·right;have : i = 49 := by omega
  subst this;refine ⟨_, ?_, .inr ⟨w, hok, by rw [htk]; rfl, rfl⟩⟩;simp only [af];simp only [go_sem, ed]
theorem Bq (L0 H : List Blk) (t : Nat → Ent) (d : Nat → Int) (f : Int) (l : Nat) (X : V) (h0 : 0 ≤ f) (h1 : l ≤ 1024) (w0 : List Nat) (hw0 : OkS w0) :
 ∃ r, rc D L0.length (.loop [10, 12, 49, 50] fZ) [(10, .ptr (.hp H.length) [] 80), (12, .ptr (.hp (H.length + 1)) [] 43), (49, bI d), (50, .int .i64 0)]
  ⟨L0 ++ [.rw (af t), .rw (bI d)], H ++ [.rw (frV f l w0 (w16 [])), .rw X]⟩ = some r ∧
  ((cg f l (ke d 0 8) w0 = none ∧ ∃ (L' : List Blk) (w : List Nat), r = (.ret, [(8, .nilp), (9, .int .i64 21)], ⟨L0 ++ L', H ++ [.rw (frV f l w (w16 [])), .rw X]⟩)) ∨
   (∃ w, cg f l (ke d 0 8) w0 = some w ∧ r = (.exit 2, [(10, .ptr (.hp H.length) [] 80), (12, .ptr (.hp (H.length + 1)) [] 43), (49, bI d), (50, .int .i64 8), (51, .bool false)],
    ⟨L0 ++ [.rw (af t), .rw (bI d)], H ++ [.rw (frV f l w (w16 [])), .rw X]⟩))) := by
 refine rT (fun x : Nat × List Nat => [(10, .ptr (.hp H.length) [] 80), (12, .ptr (.hp (H.length + 1)) [] 43), (49, bI d), (50, .int .i64 x.1)])
  (fun x => ⟨L0 ++ [.rw (af t), .rw (bI d)], H ++ [.rw (frV f l x.2 (w16 [])), .rw X]⟩) _ (fun x => 8 - x.1)
  (fun x => x.1 ≤ 8 ∧ OkS x.2 ∧ cg f l (ke d 0 8) w0 = cg f l (ke d x.1 (8 - x.1)) x.2) (0, w0) ?_ ⟨by simp only; omega, hw0, rfl⟩ rfl rfl
 rintro ⟨i, w⟩ ⟨hi, hok, htk⟩;simp only at hi hok htk;by_cases c1 : i < 8
 ·have d1 : (i : Int) < 8 := by omega
  have d2 : (0 : Int) ≤ i := by omega
  have d4 : IntKind.i64.wrap ((i : Int) + 1) = (i : Int) + 1 := ai (by omega) (by omega);have g1 := aC (f := fun i => V.int .i64 (d i)) c1;have hl : ke d i (8 - i) = d i :: ke d (i + 1) (8 - (i + 1)) := by
   rw [show 8 - i = (8 - (i + 1)) + 1 by omega]; rfl
  rw [hl] at htk;simp only [cg] at htk;have hfr : ∀ L : List Blk, Fr ⟨L, H ++ [.rw (frV f l w (w16 [])), .rw X]⟩ H.length f l w (w16 []) := fun L => ⟨by simp, h0, by omega, hok, vE⟩;by_cases hst : fP f l w (w16 []) (d i) = 0
  ·left;rw [if_pos hst] at htk;have r1 := fun L => uH (hfr L) (d i) hst;refine ⟨(i + 1, flip w (d i).toNat), ⟨by simp only; omega, tw h0 (by omega) hok hst, htk⟩, by simp only; omega, ?_⟩;simp only [af, bI] at *;generalize tab 8 (fun i => V.int .i64 (d i)) = T at *;simp only [pF, List.set_cons_zero] at r1;simp only [go_sem, fZ, d1, d2];rw [Int.toNat_natCast];simp only [go_sem, g1, r1, d4];rfl
  ·right;rw [if_neg hst] at htk;have r1 := fun L => uj (hfr L) (d i) hst;have hne := DU hst;refine ⟨_, ?_, .inl ⟨htk, [.rw (af t), .rw (bI d)], w, rfl⟩⟩;simp only [af, bI] at *;generalize tab 8 (fun i => V.int .i64 (d i)) = T at *;simp only [go_sem, fZ, d1, d2];rw [Int.toNat_natCast];simp only [go_sem, g1, r1, hne]
 ·right;have : i = 8 := by omega
  subst this;refine ⟨_, ?_, .inr ⟨w, by rw [htk]; rfl, rfl⟩⟩;simp only [bI];simp only [go_sem, fZ]
theorem GD {w w' : List Nat} (h : OkS w) (h' : OkS w') (hb : ∀ j, j < 1024 → bit w j = bit w' j) : w = w' := by
 apply List.ext_getElem?;intro q;by_cases hq : q < 16
 ·have e : w.getD q 0 = w'.getD q 0 := by
   apply Nat.eq_of_testBit_eq;intro k;by_cases hk : k < 64
   ·have := hb (64 * q + k) (by omega);unfold bit at this;rw [show (64 * q + k) / 64 = q by omega, show (64 * q + k) % 64 = k by omega] at this;exact this
   ·have h2 : 2 ^ 64 ≤ 2 ^ k := Nat.pow_le_pow_right (by decide) (by omega);rw [Nat.testBit_lt_two_pow (Nat.lt_of_lt_of_le (h.get hq) h2), Nat.testBit_lt_two_pow (Nat.lt_of_lt_of_le (h'.get hq) h2)]
  have hl := h.len;have hl' := h'.len;rw [List.getD_eq_getElem?_getD, List.getD_eq_getElem?_getD, List.getElem?_eq_getElem (by omega), List.getElem?_eq_getElem (by omega)] at e;rw [List.getElem?_eq_getElem (by omega), List.getElem?_eq_getElem (by omega)];exact congrArg some e
 ·rw [List.getElem?_eq_none (by rw [h.len]; omega), List.getElem?_eq_none (by rw [h'.len]; omega)]
theorem vW {m n : Nat} (s : St) (hln : ∀ L, rf D cZ [.ptr (.hp m) [] 59] ⟨s.loc ++ L, s.hp⟩ = some (.int .i64 n, ⟨s.loc ++ L, s.hp⟩)) (f : Int) (h0 : 0 ≤ f) (h1 : f ≤ n) (h2 : n ≤ 1024) (t : Nat → Ent) (d : Nat → Int) :
 ∃ w0, OkS w0 ∧ (∀ j : Nat, j < 1024 → bit w0 j = (decide (f ≤ j) && decide ((j : Int) < n))) ∧
  ((cg f n (gp t d) w0 = none ∧ ∃ more, rf D cW [.ptr (.hp m) [] 59, .int .i64 f, af t, bI d] s = some (.tup [.nilp, .int .i64 21], ⟨s.loc, s.hp ++ more⟩)) ∨
   (∃ w, OkS w ∧ cg f n (gp t d) w0 = some w ∧ rf D cW [.ptr (.hp m) [] 59, .int .i64 f, af t, bI d] s = some (.tup [.ptr (.hp (s.hp.length + 1)) [] 43, .int .i64 0],
    ⟨s.loc, s.hp ++ [.rw (frV f n w (w16 [])), .rw ((⟨m, s.hp.length, t, t, d, fun _ => aw, false⟩ : StF).v (vK t (fun _ => aw) false))]⟩))) := by
 obtain ⟨w0, hok0, hbit0, _⟩ := xr f n h0 h1 (by omega) s;have hnew : ∀ L, rf D it [.int .i64 f, .int .i64 n] ⟨s.loc ++ L, s.hp⟩ = some (.tup [.ptr (.hp s.hp.length) [] 80, .int .i64 0], ⟨s.loc ++ L, s.hp ++ [.rw (frV f n w0 (w16 []))]⟩) := by
  intro L;obtain ⟨w1, hok1, hbit1, e⟩ := xr f n h0 h1 (by omega) ⟨s.loc ++ L, s.hp⟩;rw [GD hok0 hok1 fun j hj => by rw [hbit0 j hj, hbit1 j hj]];exact e
 refine ⟨w0, hok0, hbit0, ?_⟩;obtain ⟨r0, e0, q0⟩ := AX s.loc s.hp t d f n ((⟨m, s.hp.length, t, t, d, fun _ => aw, false⟩ : StF).v (fun _ => false)) h0 h2 w0 hok0 (ke d 0 8);have z1 : V.agg 48 (List.replicate 49 (.agg 42 [.int .i64 0, .int .i64 0, .int .i64 0])) = af fun _ => aw := by rw [fW]; rfl
 have z2 := BU;simp only [gp];rcases q0 with ⟨hn, L', w, rfl⟩ | ⟨w, hok, hw, rfl⟩
 ·left;refine ⟨hn, [.rw (frV f n w (w16 [])), .rw ((⟨m, s.hp.length, t, t, d, fun _ => aw, false⟩ : StF).v (fun _ => false))], ?_⟩;rw [ae jL rfl];simp only [StF.v, af, bI, shV] at *;simp only [go_sem, hln, hnew, z1, z2, e0]
 ·obtain ⟨r1, e1, q1⟩ := Bq s.loc s.hp t d f n ((⟨m, s.hp.length, t, t, d, fun _ => aw, false⟩ : StF).v (fun _ => false)) h0 h2 w hok;rw [hw];rcases q1 with ⟨hn, L', w', rfl⟩ | ⟨w', hw', rfl⟩
  ·left;refine ⟨hn, [.rw (frV f n w' (w16 [])), .rw ((⟨m, s.hp.length, t, t, d, fun _ => aw, false⟩ : StF).v (fun _ => false))], ?_⟩;rw [ae jL rfl];simp only [StF.v, af, bI, shV] at *;simp only [go_sem, hln, hnew, z1, z2, e0, e1]
  ·right;have hin : InL t := ⟨fun i hi hk => ya h0 (by omega) (hw.trans hw') _ (List.mem_append_left _ (mq t 49 0 i (by omega) (by omega) hk))⟩;have rs := fun L => Ia (s := ⟨s.loc ++ L, s.hp ++ [.rw (frV f n w' (w16 [])), .rw ((⟨m, s.hp.length, t, t, d, fun _ => aw, false⟩ : StF).v (fun _ => false))]⟩) (a := s.hp.length + 1) (x := ⟨m, s.hp.length, t, t, d, fun _ => aw, false⟩) (sh := fun _ => false) (by simp) hin (fun h => absurd h (by simp));refine ⟨w', zn h0 (by omega) hok hw', hw', ?_⟩;rw [ae jL rfl];simp only [StF.v, af, bI, shV] at *;simp only [go_sem, hln, hnew, z1, z2, e0, e1, rs]
theorem sB {m n : Nat} (s : St) (hln : ∀ L, rf D cZ [.ptr (.hp m) [] 59] ⟨s.loc ++ L, s.hp⟩ = some (.int .i64 n, ⟨s.loc ++ L, s.hp⟩)) (f : Int) (h : f < 0 ∨ (n : Int) < f ∨ 1024 < n) (t : Nat → Ent) (d : Nat → Int) :
 rf D cW [.ptr (.hp m) [] 59, .int .i64 f, af t, bI d] s = some (.tup [.nilp, .int .i64 1], s) := by
 have hnew := fun L => Di f n (by omega) ⟨s.loc ++ L, s.hp⟩;rw [ae jL rfl];simp only [af, bI] at *;simp only [go_sem, hln, hnew]
end Go.Proofs.YtilcajpldklbiaaDoor
