/-
  YtmimfopnhmmlbaaGreatDoorT6: what functions of the program compute (CloB, RefE, MemT, MemU, RefF, WrkA, WrkB, WrkC, WrkD, WrkE, WrkF, WrkG, PlsA, PlsB, PlsC, PlsD).
-/
import Derived.Test.YtmimfopnhmmlbaaGreatDoorT4
import Derived.Test.YtmimfopnhmmlbaaGreatDoorT2
import Derived.Test.YtmimfopnhmmlbaaGreatDoorT3
import Derived.Test.YtmimfopnhmmlbaaGreatDoorT5
set_option maxRecDepth 100000
namespace Go.Proofs.YtmimfopnhmmlbaaGreatDoor
open Go.Ab
theorem C3 {hp : List Blk} {Fm Fm' : Ft} {a m fr m' : Nat} {x : AS} (h : aN hp Fm a m fr x) (hm : bS hp Fm' m' x.M) (hz : ¬ Fm' 0) (L : List Blk) :
 ∃ hp', rf D jb [.ptr (.hp a) [] 43, .ptr (.hp m') [] 59] ⟨L, hp⟩ = some (.ptr (.hp hp.length) [] 43, ⟨L, hp'⟩) ∧ aN hp' Fm' hp.length m' (hp.length + 1) x ∧ hp <+: hp' ∧ hp'.length = hp.length + 2 := by
 have hst := h.st;have hal := af hst;have h1 : aN (hp ++ [.rw ((x.f m fr).v x.sh)]) Fm a m fr x := h.chg (io hp _ fun _ => False) (fun _ h => h.elim) fun h => h;obtain ⟨e1, e2⟩ := CG h1.fp L;obtain ⟨wf, wl, g1, g2⟩ := h1.fp.blk;have eg : (hp ++ [Blk.rw ((x.f m fr).v x.sh)]).getD fr .dead = .rw (frV x.A.f x.A.l wf wl) := by rw [List.getD_eq_getElem?_getD, g1]; rfl
 rw [eg] at e1 e2;have hlen : (hp ++ [Blk.rw ((x.f m fr).v x.sh)]).length = hp.length + 1 := by simp
 rw [hlen] at e1 e2;refine ⟨hp ++ [.rw ((x.f m' (hp.length + 1)).v x.sh), .rw (frV x.A.f x.A.l wf wl)], ?_, ?_, List.prefix_append _ _, by simp⟩
 ·rw [aa rh rfl];simp only [AS.f, StF.v] at *;simp only [List.append_assoc, List.cons_append, List.nil_append] at e1;have hfb : hp[fr]? = some (.rw (frV x.A.f x.A.l wf wl)) := by
   have := h.fp.lt;rw [List.getElem?_append_left this] at g1;exact g1
  have hh1 := h1.st;simp only [AS.f, StF.v] at hh1;simp only [ab, ao, shV] at *;simp only [go_sem, hst, hh1, hfb, e1]
 ·have pre : hp <+: hp ++ [.rw ((x.f m' (hp.length + 1)).v x.sh), .rw (frV x.A.f x.A.l wf wl)] := List.prefix_append _ _;refine ⟨h.ok, aE pre h.g, by simp, ⟨h.ok.A, wf, wl, by simp, g2⟩, hm.chg (io hp _ fun _ => False) (fun _ h => h.elim), by omega, fun hf => ?_, fun hf => ?_, hz⟩
  ·have := hm.inn _ hf; omega
  ·have := hm.inn _ hf; omega
end Go.Proofs.YtmimfopnhmmlbaaGreatDoor
namespace Go.Proofs.YtmimfopnhmmlbaaGreatDoor
open Go.Ab
theorem uY {n : Nat} (h : n < 4294967296) : (BitVec.ofInt IntKind.u32.bits (n : Int)).toNat = n := by
 rw [BitVec.ofInt_natCast, BitVec.toNat_ofNat];exact Nat.mod_eq_of_lt (by simp only [IntKind.bits]; omega)
theorem N8 {n m : Nat} (hn : n < 4294967296) (hm : m < 4294967296) : ie .u32 n m = ((n &&& m : Nat) : Int) := by
 unfold ie Ab.bits;show IntKind.u32.wrap (((BitVec.ofInt IntKind.u32.bits (n : Int)) &&& (BitVec.ofInt IntKind.u32.bits (m : Int))).toNat : Int) = _;rw [BitVec.toNat_and, uY hn, uY hm];have : n &&& m ≤ n := Nat.and_le_left;exact IntWalk.u32_in _ (by omega)
theorem O2 {n m : Nat} (hn : n < 4294967296) (hm : m < 4294967296) : jM .u32 n m = ((n ^^^ m : Nat) : Int) := by
 unfold jM Ab.bits;show IntKind.u32.wrap (((BitVec.ofInt IntKind.u32.bits (n : Int)) ^^^ (BitVec.ofInt IntKind.u32.bits (m : Int))).toNat : Int) = _;rw [BitVec.toNat_xor, uY hn, uY hm];have : n ^^^ m < 2 ^ 32 := Nat.xor_lt_two_pow hn hm;exact IntWalk.u32_in _ (by omega)
theorem Ol {n : Nat} : ja .u32 n 1 = ((n / 2 : Nat) : Int) := by
 unfold ja;show (n : Int).fdiv (2 ^ 1) = _;rw [Int.fdiv_eq_ediv_of_nonneg _ (by decide)];omega
def uc (r : Int) : Prop := 0 ≤ r ∧ r ≤ 4294967295
theorem O8 (x : Int) : uc (IntKind.u32.wrap x) := by
 unfold uc; rw [IntKind.wrap_u32]; omega
theorem GO (a b : Int) : uc (jM .u32 a b) := by
 unfold jM Ab.bits;exact O8 _
theorem MH {r : Int} (h : uc r) : Bl r = uP r ∧ uc (uP r) := by
 obtain ⟨n, rfl⟩ : ∃ n : Nat, r = n := ⟨r.toNat, by have := h.1; omega⟩;have hn : n < 4294967296 := by have := h.2; omega
 have e1 : ie .u32 (n : Int) 1 = ((n % 2 : Nat) : Int) := by
  have := N8 hn (show 1 < 4294967296 by decide);rw [Nat.and_one_is_mod] at this; exact this
 unfold Bl uP;rw [e1, Ol];rcases Nat.mod_two_eq_zero_or_one n with e | e
 ·rw [e, if_neg (by decide)];have e2 : ie .u32 3988292384 (IntKind.u32.wrap (0 - ((0 : Nat) : Int))) = ((0 : Nat) : Int) := by decide
  rw [e2, O2 (by omega) (by decide), Nat.xor_zero];exact ⟨rfl, by constructor <;> omega⟩
 ·rw [e, if_pos (by decide)];have e2 : ie .u32 3988292384 (IntKind.u32.wrap (0 - ((1 : Nat) : Int))) = 3988292384 := by decide
  rw [e2];exact ⟨rfl, GO _ _⟩
theorem D0 : ∀ (k : Nat) {r : Int}, uc r → pX k r = me k r ∧ uc (me k r)
 | 0, _, h => ⟨rfl, h⟩
 | k + 1, r, h => by
  obtain ⟨h1, h2⟩ := D0 k h;simp only [pX, me];rw [h1];exact MH h2
theorem DB : ∀ (l : List Int) {r : Int}, uc r → ke r l = gm r l
 | [], _, _ => rfl
 | b :: l, r, _ => by
  simp only [ke, gm];obtain ⟨h1, h2⟩ := D0 8 (r := jM .u32 r (IntKind.u32.wrap b)) (GO _ _);rw [h1];exact DB l h2
theorem AK {k : IntKind} (a b : Int) : ior k a b = ior k b a := by
 unfold ior Ab.bits;show k.wrap ((BitVec.ofInt k.bits a ||| BitVec.ofInt k.bits b).toNat : Int) = k.wrap ((BitVec.ofInt k.bits b ||| BitVec.ofInt k.bits a).toNat : Int);rw [BitVec.or_comm]
theorem wG (l : List Int) : pA l = qw l := by
 unfold pA qw EC;have e : (List.range 56).map (bx l 8 0) = (List.range 56).map (dm l 64) := by
  apply List.map_congr_left;intro j hj;have := List.mem_range.1 hj;unfold bx dm;rw [if_pos (by omega), if_pos (by omega)]
 have e2 : eK 0 = 4294967295 := by decide
 rw [e, e2, DB _ (by constructor <;> decide), AK]
theorem Ix {a b i : Nat} (h : b < 2 ^ i) : b ||| a * 2 ^ i = b + a * 2 ^ i := by
 have := Nat.two_pow_add_eq_or_of_lt h a;rw [Nat.mul_comm a, Nat.or_comm, ← this, Nat.add_comm]
theorem NI {e : Ent} (h : eN e = true) : tw e = uj e := by
 obtain ⟨k, v, l⟩ := e;simp only [eN, win, Bool.and_eq_true, decide_eq_true_eq] at h;obtain ⟨⟨⟨⟨k0, k1⟩, v0, v1⟩, l0, l1⟩, _⟩ := h;obtain ⟨k, rfl⟩ : ∃ n : Nat, k = n := ⟨k.toNat, by omega⟩;obtain ⟨v, rfl⟩ : ∃ n : Nat, v = n := ⟨v.toNat, by omega⟩;obtain ⟨l, rfl⟩ : ∃ n : Nat, l = n := ⟨l.toNat, by omega⟩;simp only [tw, uj, Int.toNat_natCast];rw [uy (by omega) (by omega), uy (by omega) (by omega), uy (by omega) (by omega)];have s1 : sg .u64 (v : Int) 4 = ((v * 16 : Nat) : Int) := by
  have := sD (v : Int) 4 (by decide);rw [show ((4 : Nat) : Int) = 4 from rfl] at this
  rw [this]; omega
 have s2 : sg .u64 (l : Int) 28 = ((l * 268435456 : Nat) : Int) := by
  have := sD (l : Int) 28 (by decide);rw [show ((28 : Nat) : Int) = 28 from rfl] at this
  rw [this]; omega
 rw [s1, s2, yu (by omega) (by omega)];have o1 : k ||| v * 16 = k + v * 16 := Ix (i := 4) (by omega);rw [o1, yu (by omega) (by omega)];have o2 : (k + v * 16) ||| l * 268435456 = k + v * 16 + l * 268435456 := Ix (i := 28) (by omega);rw [o2]
theorem Je (t : Nat → Ent) (k : Nat) : cY t k = nu t k := by
 unfold cY nu;by_cases h : kL t k 0 7 = true
 ·rw [if_pos h, if_pos h, wG];congr 1;unfold lfL j7;apply List.map_congr_left;intro j _;by_cases hj : j < 7
  ·rw [if_pos hj, if_pos hj];have := List.all_eq_true.1 h j (List.mem_range.2 hj);rw [Nat.zero_add] at this;exact NI this
  ·rw [if_neg hj, if_neg hj]
 ·rw [if_neg h, if_neg h]
theorem J0 (d : Nat → Int) : dL d = mX d := by
 unfold dL mX;by_cases h : kN d 0 7 = true
 ·rw [if_pos h, if_pos h, wG];congr 1;unfold rlL ji;apply List.map_congr_left;intro j _;by_cases hj : j < 7
  ·rw [if_pos hj, if_pos hj, AK]
  ·rw [if_neg hj, if_neg hj]
 ·rw [if_neg h, if_neg h]
theorem zL (b : Sup) (s : St) : rf D i9 [b.v] s = some (.tup [lnV (bo b), .int .i64 (if b.ok = true then 0 else 1)], s) := by
 have hz : (zl.map (V.int .u64)) = List.replicate 8 (.int .u64 0) := rfl;have hrep : List.replicate 8 (V.int .u64 0) = [.int .u64 0, .int .u64 0, .int .u64 0, .int .u64 0, .int .u64 0, .int .u64 0, .int .u64 0, .int .u64 0] := rfl;have hseal := fun s => pd (l := xP b) rfl s;rw [← wG] at hseal;have hok : b.ok = true ↔ ¬ b.gen < 1 ∧ ¬ b.gen > 1099511627776 ∧ ¬ b.root < 0 ∧ ¬ b.root ≥ 1024 ∧ ¬ b.seq < 0 ∧ ¬ b.seq > 1099511627776 ∧ ¬ b.cores < 1 ∧ ¬ b.cores > 8 := by
  unfold Sup.ok win;simp only [Bool.and_eq_true, decide_eq_true_eq];omega
 obtain ⟨g, r, q, c⟩ := b;unfold bo;simp only at hok;by_cases h : (⟨g, r, q, c⟩ : Sup).ok = true
 ·rw [if_pos h, if_pos h];obtain ⟨h1, h2, h3, h4, h5, h6, h7, h8⟩ := hok.1 h;simp only [Sup.v, xP, lnV, List.map_cons, List.map_nil] at *;rw [aa mE rfl];simp only [go_sem, h1, h2, h3, h4, h5, h6, h7, h8];simp only [go_sem, hrep, hseal]
 ·rw [if_neg h, if_neg h];have hno := fun x => h (hok.2 x);simp only [Sup.v, lnV, hz] at *;rw [aa mE rfl];by_cases h1 : g < 1
  ·simp only [go_sem, h1]
  by_cases h2 : g > 1099511627776
  ·simp only [go_sem, h1, h2]
  by_cases h3 : r < 0
  ·simp only [go_sem, h1, h2, h3]
  by_cases h4 : r ≥ 1024
  ·simp only [go_sem, h1, h2, h3, h4]
  by_cases h5 : q < 0
  ·simp only [go_sem, h1, h2, h3, h4, h5]
  by_cases h6 : q > 1099511627776
  ·simp only [go_sem, h1, h2, h3, h4, h5, h6]
  by_cases h7 : c < 1
  ·simp only [go_sem, h1, h2, h3, h4, h5, h6, h7]
  by_cases h8 : c > 8
  ·simp only [go_sem, h1, h2, h3, h4, h5, h6, h7, h8]
  exact absurd ⟨h1, h2, h3, h4, h5, h6, h7, h8⟩ hno
end Go.Proofs.YtmimfopnhmmlbaaGreatDoor
namespace Go.Proofs.YtmimfopnhmmlbaaGreatDoor
open Go.Ab
def flX (c : Nat) (l : List Dn) (x : Nat) : List Dn := (l.take x).map (Dn.fl c) ++ l.drop x
theorem NC {c : Nat} {l : List Dn} {x : Nat} (h : x < l.length) : (flX c l x)[x]? = some l[x] := by
 unfold flX;rw [List.getElem?_append_right (by simp; omega)];simp [Nat.min_eq_left (Nat.le_of_lt h)]
theorem Ng {c : Nat} {l : List Dn} {x : Nat} (h : x < l.length) : (flX c l x).set x (l[x].fl c) = flX c l (x + 1) := by
 unfold flX;rw [List.set_append_right _ _ (by simp; omega), List.take_succ_eq_append_getElem h, List.map_append, List.append_assoc];congr 1;have e : x - ((l.take x).map (Dn.fl c)).length = 0 := by simp; omega
 rw [e, List.drop_eq_getElem_cons h]; rfl
theorem Md {c : Nat} {l : List Dn} : flX c l l.length = l.map (Dn.fl c) := by simp [flX]
theorem KO {c : Nat} {l : List Dn} : flX c l 0 = l := by simp [flX]
theorem M0 {cs : Nat → Bool} {p : Nat} : (tab 8 fun c => V.bool (cs c)).set p (.bool true) = tab 8 fun c => .bool (upd cs p true c) := by
 rw [bw];apply aP;intro i _;unfold upd; split <;> rfl
theorem qN {hp : List Blk} {F : Ft} {m : Nat} {M : AM} (h : cf hp F m M) (hc : M.count < 1000000) (c i : Int) (L : List Blk) :
 ∃ hp', rf D dW [.ptr (.hp m) [] 33, .int .i64 c, .int .i64 i] ⟨L, hp⟩ = some (.int .i64 (M.flush c i).2, ⟨L, hp'⟩) ∧ cf hp' F m (M.flush c i).1 ∧ Chg hp hp' F F := by
 have hM := h;have his := fun L => vP h i L;have ok := h.ok;unfold AM.flush;by_cases hcr : c < 0 ∨ 8 ≤ c
 ·rw [if_pos (by omega)];refine ⟨hp, ?_, hM, .refl _ _⟩;rw [aa cl rfl];by_cases hc0 : c < 0
  ·simp only [go_sem, hc0]
  ·have hc8 : c > 7 := by omega
   simp only [go_sem, hc0, hc8]
 ·have d1 : ¬ c < 0 := by omega
  have d2 : ¬ c > 7 := by omega
  by_cases hi : i < 0 ∨ (M.n : Int) ≤ i
  ·rw [if_pos (by omega)];have hd : decide (0 ≤ i ∧ i < (M.n : Int)) = false := by simp only [decide_eq_false_iff_not]; omega
   simp only [hd] at his;refine ⟨hp, ?_, hM, .refl _ _⟩;rw [aa cl rfl];simp only [go_sem, d1, d2, his]
  ·rw [if_neg (by omega)];have hd : decide (0 ≤ i ∧ i < (M.n : Int)) = true := by simp only [decide_eq_true_eq]; omega
   simp only [hd] at his;obtain ⟨j, rfl⟩ : ∃ j : Nat, i = j := ⟨i.toNat, by omega⟩;obtain ⟨p, rfl⟩ : ∃ p : Nat, c = p := ⟨c.toNat, by omega⟩;simp only [Int.toNat_natCast];obtain ⟨k, k2, fk, fk2, n1, n2, n3, h1, h2, sv, ow, h4, h5⟩ := h.mb;have hstep := fun L => si (L := L) hM hc h1;by_cases hdd : M.dead = true
   ·rw [if_pos hdd];simp only [hdd, if_true] at hstep;obtain ⟨g1, g2⟩ := hM.setm (M' := M.out) ok.out rfl rfl rfl h1;refine ⟨_, ?_, g1, g2⟩;generalize hp.set m (.rw (rmV k M.n k2 M.out.off M.out.left M.out.count)) = H at *;rw [aa cl rfl];simp only [go_sem, his, d1, d2, hstep]
   ·rw [if_neg hdd];rw [Bool.not_eq_true] at hdd;simp only [hdd, Bool.false_eq_true, if_false] at hstep;obtain ⟨g1, g2⟩ := hM.setm (M' := M.stepped) ok.stepped rfl rfl rfl h1;generalize hp.set m (.rw (rmV k M.n k2 M.stepped.off M.stepped.left M.stepped.count)) = H at *;clear h1 h2 h4 h5 sv ow n1 n2 n3 fk fk2 k k2;obtain ⟨k, k2, fk, fk2, n1, n2, n3, h1, h2, sv, ow, h4, h5⟩ := g1.mb;have e1 : M.stepped.n = M.n := rfl;have e2 : M.stepped.S = M.S := rfl;have e3 : M.stepped.L = M.L := rfl;rw [e1] at h1 h4 h5 h2;rw [e2] at h2;rw [e3] at h5;have hj : j < M.n := by omega
    have hp8 : p < 8 := by omega
    have hlen := ok.len j hj;have dj : (j : Int) < M.n := by omega
    have dj0 : (0 : Int) ≤ j := by omega
    have dp : (p : Int) < 8 := by omega
    have dp0 : (0 : Int) ≤ p := by omega
    have g4 := ai (f := sv) hj;have q2 := gD (a := .hp k2) (e := 1) hj;have hsl := (h5 j hj).slen;rw [List.length_map] at hsl;have key : ∃ hp', rc D L.length (.loop [0, 1, 2, 7, 8] bi) [(0, .ptr (.hp m) [] 33), (1, .int .i64 p), (2, .int .i64 j), (7, .int .i64 0), (8, .int .i64 0)] ⟨L, H⟩ =
     some (.exit 0, [(0, .ptr (.hp m) [] 33), (1, .int .i64 p), (2, .int .i64 j), (7, .int .i64 0), (8, .int .i64 (M.L j).length), (34, .bool false)], ⟨L, hp'⟩) ∧
     SlR hp' (fun q => F q ∧ q ≠ m ∧ q ≠ k ∧ q ≠ k2 ∧ ow q = j) 90 92 (sv j) (((M.L j).map (Dn.fl p)).map Dn.v2) ∧ hp'.length = H.length ∧ ∀ q, ¬ (F q ∧ q ≠ m ∧ q ≠ k ∧ q ≠ k2 ∧ ow q = j) → hp'[q]? = H[q]? := by
     by_cases hz : M.L j = []
     ·refine ⟨H, ?_, by rw [hz]; have := h5 j hj; rw [hz] at this; exact this, rfl, fun _ _ => rfl⟩;rw [hz] at hsl;rw [hz, ak];simp only [rmV] at h1;generalize (tab M.n sv) = T2 at *;simp only [go_sem, bi, h1, h4, g4, q2, hsl]
     ·obtain ⟨a, cp, hsv, hcp, hG, hb⟩ : ∃ a cp, sv j = .sl (.hp a) [] 0 (M.L j).length cp 90 ∧ (cp = none ∨ cp = some (M.L j).length) ∧ (F a ∧ a ≠ m ∧ a ≠ k ∧ a ≠ k2 ∧ ow a = j) ∧ H[a]? = some (.rw (.agg 92 ((M.L j).map Dn.v2))) := by
       have := h5 j hj;generalize hv : sv j = v at *;generalize hl : (M.L j).map Dn.v2 = l at *;cases this with
       | nil => exact absurd (List.map_eq_nil_iff.1 hl) hz
       | emp => exact absurd (List.map_eq_nil_iff.1 hl) hz
       | blk a cp l hcp hG hb =>
        have el : l.length = (M.L j).length := by rw [← hl, List.length_map]
        rw [el] at hcp ⊢;exact ⟨a, cp, rfl, hcp, hG, hb⟩
      obtain ⟨G1, G2, G3, G4, G5⟩ := hG;have hal := af hb;refine ⟨H.set a (.rw (.agg 92 (((M.L j).map (Dn.fl p)).map Dn.v2))), ?_, ?_, List.length_set .., fun q hq => List.getElem?_set_ne fun e => hq (by rw [← e]; exact ⟨G1, G2, G3, G4, G5⟩)⟩
      ·rw [← Md];refine aH (fun x : Nat => [(0, .ptr (.hp m) [] 33), (1, .int .i64 p), (2, .int .i64 j), (7, .int .i64 0), (8, .int .i64 x)]) (fun x => ⟨L, H.set a (.rw (.agg 92 ((flX p (M.L j) x).map Dn.v2)))⟩) (fun _ => _) (fun x => (M.L j).length - x) (fun x => x ≤ (M.L j).length) 0 ?_ (by omega) rfl (by rw [KO, BT hb]);intro x hx;have hm1 : ∀ b, (H.set a b)[m]? = H[m]? := fun b => List.getElem?_set_ne G2;have hk1 : ∀ b, (H.set a b)[k2]? = H[k2]? := fun b => List.getElem?_set_ne G4;by_cases c1 : x < (M.L j).length
       ·left;have c2 : (x : Int) < (M.L j).length := by omega
        have c3 : (0 : Int) ≤ x := by omega
        have d4 : IntKind.i64.wrap ((x : Int) + 1) = (x : Int) + 1 := ag (by omega) (by omega);have hg : ((flX p (M.L j) x).map Dn.v2)[x]? = some ((M.L j)[x].v2) := by rw [List.getElem?_map, NC c1]; rfl
        have hs := congrArg (List.map Dn.v2) (Ng (c := p) c1);rw [List.map_set] at hs;refine ⟨x + 1, by omega, by omega, rfl, ?_⟩;rw [← hs];have hset : ∀ b, (H.set a b)[a]? = some b := fun b => List.getElem?_set_self hal;generalize (flX p (M.L j) x).map Dn.v2 = TL at *;generalize (M.L j)[x] = d at *;have hv : d.v2 = .agg 90 [.int .i64 d.w, .int .u64 d.v, .agg 88 (tab 8 fun c => .bool (d.cs c))] := rfl;have hv2 : (d.fl p).v2 = .agg 90 [.int .i64 d.w, .int .u64 d.v, .agg 88 ((tab 8 fun c => V.bool (d.cs c)).set p (.bool true))] := by
         rw [M0]; rfl
        rw [hv] at hg;rw [hv2];have gc := ai (f := fun c => V.bool (d.cs c)) hp8;generalize (tab 8 fun c => V.bool (d.cs c)) = TC at *;simp only [rmV] at h1;generalize (tab M.n sv) = T2 at *;simp only [go_sem, bi, c2, hm1, hk1, h1, h4, g4, q2, hsv, c3, dp, dp0, hset, Int.toNat_natCast, hg, gc, d4, List.set_set];rfl
       ·right;have : x = (M.L j).length := by omega
        subst this;have c2 : ¬ ((M.L j).length : Int) < (M.L j).length := by omega
        simp only [rmV] at h1;generalize (tab M.n sv) = T2 at *;simp only [go_sem, bi, c2, hm1, hk1, h1, h4, g4, q2, hsv]
      ·have el : (((M.L j).map (Dn.fl p)).map Dn.v2).length = (M.L j).length := by simp
       rw [hsv, ← el];exact .blk a cp _ (by rw [el]; exact hcp) ⟨G1, G2, G3, G4, G5⟩ (List.getElem?_set_self hal)
    obtain ⟨hp', r1, r2, r3, r4⟩ := key;refine ⟨hp', ?_, ⟨ok.stepped.flushed p j, fun q hq => by rw [r3]; exact g1.inn q hq, g1.fm, k, k2, fk, fk2, n1, n2, n3, ?_, ?_, sv, ow, ?_, fun x hx => ?_⟩, g2.trans ⟨by omega, fun q hq hn => r4 q fun hh => hn hh.1, fun q hq => .inl hq⟩⟩
    ·rw [aa cl rfl];simp only [go_sem, his, d1, d2, hstep];simp only [go_sem, r1]
    ·rw [r4 m fun hh => hh.2.1 rfl]; exact h1
    ·rw [r4 k fun hh => hh.2.2.1 rfl]; exact h2
    ·rw [r4 k2 fun hh => hh.2.2.2.1 rfl]; exact h4
    ·have e5 : (M.stepped.flushed p j).L x = upd M.L j ((M.L j).map (Dn.fl p)) x := rfl;rw [e5];by_cases e : x = j
     ·subst e; rw [aq]; exact r2
     ·rw [aB e];exact (h5 x hx).eqv (fun q hq => r4 q fun hh => e (hq.2.2.2.2.symm.trans hh.2.2.2.2)) fun q hq => hq
end Go.Proofs.YtmimfopnhmmlbaaGreatDoor
namespace Go.Proofs.YtmimfopnhmmlbaaGreatDoor
open Go.Ab
theorem PG {l : List Dn} {n : Nat} : V.locLts 0 ((l.drop n).map Dn.v2) = true := EM
theorem FW {hp : List Blk} {F : Ft} {m : Nat} {M : AM} (h : cf hp F m M) (hc : M.count < 1000000) {j n : Nat} (hj : j < M.n) (hn : n ≤ (M.L j).length) (L : List Blk) :
 ∃ hp' F', rf D ei [.ptr (.hp m) [] 33, .int .i64 j, .int .i64 n] ⟨L, hp⟩ = some (.tup [], ⟨L, hp'⟩) ∧ cf hp' F' m (M.sureN j n) ∧ Chg hp hp' F F' := by
 have ok := h.ok;have hh := fun L => yQ h hc hj hn L;obtain ⟨k, k2, fk, fk2, n1, n2, n3, h1, h2, sv, ow, h4, h5⟩ := h.mb;have ml : m < hp.length := af h1;have kl : k < hp.length := af h2;have k2l : k2 < hp.length := af h4;have g2 := ai (f := fun i => lnV (M.S i)) hj;have g4 := ai (f := sv) hj;have q1 := gD (a := .hp k) (e := 24) hj;have q2 := gD (a := .hp k2) (e := 1) hj;obtain ⟨H, hH⟩ : ∃ H, H = hp.set k (.rw (.agg 58 ((tab M.n fun i => lnV (M.S i)).set j (lnV (am (M.S j) ((M.L j).take n)))))) := ⟨_, rfl⟩;have Hl : H.length = hp.length := by rw [hH, List.length_set]
 have He : ∀ q, q ≠ k → H[q]? = hp[q]? := fun q hq => by rw [hH]; exact List.getElem?_set_ne (Ne.symm hq)
 have hm1 : H[m]? = hp[m]? := He m n1;have hk1 : H[k2]? = hp[k2]? := He k2 (Ne.symm n3);obtain ⟨v1, v2, _, e2, rs, sh⟩ := (h5 j hj).sub (n := n) (by rw [List.length_map]; exact hn);have hrs : ∀ L, St.elems ⟨L, H ++ [.rw (.agg 92 [])]⟩ v2 = some (((M.L j).drop n).map Dn.v2) := fun L => by
  have := (rs (H ++ [.rw (.agg 92 [])]) (fun q hq => by
   have := h.inn q hq.1;rw [List.getElem?_append_left (by omega)]; exact He q hq.2.2.1) L).2.elems
  rw [List.map_drop]; exact this
 have hlen := ok.len j hj;obtain ⟨H1, j1, c1, b1, b2, b3, b4, b5, b6, b7⟩ := tI (e := 90) (r := 92) (H := H) sh hrs PG (by simp [be]; omega);have b6 := fun L => b6 (List.length L) L;let NV := V.sl (.hp j1) [] 0 (((M.L j).drop n).map Dn.v2).length c1 90;have old : ∀ x, x < H.length → H1[x]? = H[x]? := b4;have a4 : H1[k2]? = some (.rw (.agg 53 (tab M.n sv))) := by rw [old k2 (by omega), hk1]; exact h4
 refine ⟨H1.set k2 (.rw (.agg 53 ((tab M.n sv).set j NV))), fun x => F x ∨ x = j1, ?_, ⟨ok.sureN, fun x hx => ?_, .inl h.fm, k, k2, .inl fk, .inl fk2, n1, n2, n3, ?_, ?_, upd sv j NV, upd ow j1 j, ?_, fun i hi => ?_⟩, ⟨by simp; omega, fun x hx hnF => ?_, fun x hx => ?_⟩⟩
 ·have b6' := b6 L;have ts : V.tag NV = 1 := rfl;have tl : V.locLt 0 NV = true := rfl;have mj : ¬ m = H.length := by omega
  change ∀ L : List Blk, ay _ _ _ _ _ _ _ = some (NV, _) at b6;have b6' := b6 L;clear_value NV;have hsvt := (h5 j hj).tag;have dj : (j : Int) < M.n := by omega
  have dj0 : (0 : Int) ≤ j := by omega
  have lv : ∀ X, lnV X = .agg 24 (X.map (V.int .u64)) := fun _ => rfl;have hkl : ∀ b, (hp.set k b)[m]? = hp[m]? := fun b => List.getElem?_set_ne (Ne.symm n1);generalize (tab M.n sv) = T2 at *;generalize am (M.S j) ((M.L j).take n) = NB at *;rw [lv] at hH;rw [lv] at hh;have g2' : (tab M.n fun i => lnV (M.S i))[j]? = some (.agg 24 ((M.S j).map (V.int .u64))) := g2;generalize (tab M.n fun i => lnV (M.S i)) = T1 at *;simp only [rmV] at *;have hA1 : H[m]? = _ := hm1.trans h1;have hA2 : H[k2]? = _ := hk1.trans h4;have hB1 : (H ++ [Blk.rw (.agg 92 [])])[m]? = _ := (List.getElem?_append_left (by omega)).trans hA1;have hB2 : (H ++ [Blk.rw (.agg 92 [])])[k2]? = _ := (List.getElem?_append_left (by omega)).trans hA2;have h20 : (hp[k]?) = some (.rw (.agg 58 T1)) := h2;have w1 : fY 90 v2 (.int .i64 0) = fY 90 v2 (.int .i64 0) := rfl;rw [aa oi rfl];simp only [go_sem, List.replicate_zero, h1, h20, g2', q1, hh, dj, dj0, Int.toNat_natCast];rw [← hH];simp only [go_sem, List.replicate_zero, hA1, hA2, hB1, hB2, g4, q2, e2, mj, b6', a4, ts, tl, hsvt]
 ·rw [List.length_set];rcases hx with hx | rfl
  ·have := h.inn x hx; omega
  ·omega
 ·rw [List.getElem?_set_ne (Ne.symm n2), old m (by omega), hm1]; exact h1
 ·rw [List.getElem?_set_ne (Ne.symm n3), old k (by omega), hH, List.getElem?_set_self kl, bw];congr 4; funext x;unfold upd AM.sureN;simp only;by_cases e : x = j
  ·subst e; rw [if_pos rfl, aq]
  ·rw [if_neg e, aB e]
 ·rw [bw]; exact List.getElem?_set_self (by omega)
 ·have e5 : (M.sureN j n).L i = upd M.L j ((M.L j).drop n) i := rfl;rw [e5];by_cases e : i = j
  ·subst e;rw [aq, aq];refine b7.eqv (fun q hq => ?_) fun q hq => ⟨.inr hq, by omega, by omega, by omega, by rw [hq]; exact aq ..⟩;rw [List.getElem?_set_ne (by omega)]
  ·rw [aB e, aB e];refine (h5 i hi).eqv (fun x hx => ?_) fun x hx => ⟨.inl hx.1, hx.2.1, hx.2.2.1, hx.2.2.2.1, ?_⟩
   ·have hxl := h.inn x hx.1;rw [List.getElem?_set_ne (Ne.symm hx.2.2.2.1), old x (by omega), He x hx.2.2.1]
   ·rw [aB (by have := h.inn x hx.1; omega)]; exact hx.2.2.2.2
 ·rw [List.getElem?_set_ne (fun e => hnF (by rw [← e]; exact fk2)), old x (by omega), He x fun e => hnF (by rw [e]; exact fk)]
 ·rcases hx with hx | rfl
  ·exact .inl hx
  ·exact .inr (by omega)
theorem Au (c : Nat) (d : Dn) : ∀ l : List Dn, flN c (l ++ [d]) = if d.cs c = true then l.length + 1 else flN c l
 | [] => by simp [flN]
 | a :: l => by
  simp only [List.cons_append, flN, Au c d l, List.length_cons];by_cases h : d.cs c = true
  ·simp [h]
  ·simp [h]
theorem Jn {c : Nat} {l : List Dn} {x : Nat} (h : x < l.length) : flN c (l.take (x + 1)) = if l[x].cs c = true then x + 1 else flN c (l.take x) := by
 rw [List.take_succ_eq_append_getElem h, Au];simp [Nat.min_eq_left (Nat.le_of_lt h)]
theorem IT {hp : List Blk} {F : Ft} {m : Nat} {M : AM} (h : cf hp F m M) (hc : M.count < 1000000) {cI j : Nat} (hcI : cI < 8) (hj : j < M.n) (L : List Blk) :
 rc D L.length (.loop [0, 1, 6, 7, 8] bj) [(0, .ptr (.hp m) [] 33), (1, .int .i64 cI), (6, .int .i64 j), (7, .int .i64 0), (8, .int .i64 0)] ⟨L, hp⟩ =
  some (.exit 2, [(0, .ptr (.hp m) [] 33), (1, .int .i64 cI), (6, .int .i64 j), (7, .int .i64 (flN cI (M.L j) : Nat)), (8, .int .i64 (M.L j).length), (38, .bool false)], ⟨L, hp⟩) := by
 have ok := h.ok;obtain ⟨k, k2, fk, fk2, n1, n2, n3, h1, h2, sv, ow, h4, h5⟩ := h.mb;have g4 := ai (f := sv) hj;have q2 := gD (a := .hp k2) (e := 1) hj;have hsl := (h5 j hj).slen;rw [List.length_map] at hsl;have hlen := ok.len j hj;have dp : (cI : Int) < 8 := by omega
 have dp0 : (0 : Int) ≤ cI := by omega
 have hfin : flN cI (M.L j) = flN cI ((M.L j).take (M.L j).length) := by rw [List.take_length]
 rw [hfin];refine aH (fun x : Nat => [(0, .ptr (.hp m) [] 33), (1, .int .i64 cI), (6, .int .i64 j), (7, .int .i64 (flN cI ((M.L j).take x) : Nat)), (8, .int .i64 x)]) (fun _ => ⟨L, hp⟩) (fun _ => _) (fun x => (M.L j).length - x) (fun x => x ≤ (M.L j).length) 0 ?_ (by omega) rfl rfl;intro x hx;simp only [rmV] at h1;generalize (tab M.n sv) = T2 at *;by_cases c1 : x < (M.L j).length
 ·left;have c2 : (x : Int) < (M.L j).length := by omega
  have d4 : IntKind.i64.wrap ((x : Int) + 1) = (x : Int) + 1 := ag (by omega) (by omega);have hg := aK (f := Dn.v2) c1 ⟨0, 0, fun _ => false⟩;have hgd : (M.L j).getD x ⟨0, 0, fun _ => false⟩ = (M.L j)[x] := by rw [List.getD_eq_getElem?_getD, List.getElem?_eq_getElem c1]; rfl
  rw [hgd] at hg;have hrs := fun L => (h5 j hj).rs L;have hst := Jn (c := cI) c1;refine ⟨x + 1, by omega, by omega, rfl, ?_⟩;simp only;rw [hst];generalize (M.L j)[x] = d at *;have hv : d.v2 = .agg 90 [.int .i64 d.w, .int .u64 d.v, .agg 88 (tab 8 fun c => .bool (d.cs c))] := rfl;rw [hv] at hg;have gc := ai (f := fun c => V.bool (d.cs c)) hcI;generalize (tab 8 fun c => V.bool (d.cs c)) = TC at *;have hld : ∀ L t q, ldv ⟨L, hp⟩ t (elq (sv j) x q t) = V.at q (V.agg 90 [V.int .i64 d.w, V.int .u64 d.v, .agg 88 TC]) := fun L t q => (hrs L).ldq hg;generalize flN cI ((M.L j).take x) = nn at *;by_cases hb : d.cs cI = true
  ·rw [hb] at gc;rw [if_pos hb];simp only [go_sem, bj, c2, h1, h4, g4, q2, hsl, (hrs []).sadq hg, (hrs []).fadq hg, (hrs []).iadq hg, hld, dp, dp0, Int.toNat_natCast, gc, d4];rfl
  ·rw [if_neg hb];rw [Bool.not_eq_true] at hb;rw [hb] at gc;simp only [go_sem, bj, c2, h1, h4, g4, q2, hsl, (hrs []).sadq hg, (hrs []).fadq hg, (hrs []).iadq hg, hld, dp, dp0, Int.toNat_natCast, gc, d4];rfl
 ·right;have : x = (M.L j).length := by omega
  subst this;have c2 : ¬ ((M.L j).length : Int) < (M.L j).length := by omega
  simp only [go_sem, bj, c2, h1, h4, g4, q2, hsl]
theorem qK {m : Nat} {cI : Nat} (hcI : cI < 8) {M : AM} (hc : M.count < 1000000) (hn : M.n ≤ 1024) (L : List Blk) : ∀ (n i : Nat) {hp : List Blk} {F : Ft}, i + n = M.n → cf hp F m (M.fencedTo cI i) →
 ∃ hp' F', rc D L.length (.loop [0, 1, 6] bl) [(0, .ptr (.hp m) [] 33), (1, .int .i64 cI), (6, .int .i64 i)] ⟨L, hp⟩ =
  some (.exit 0, [(0, .ptr (.hp m) [] 33), (1, .int .i64 cI), (6, .int .i64 M.n), (26, .bool false)], ⟨L, hp'⟩) ∧ cf hp' F' m (M.fencedTo cI M.n) ∧ Chg hp hp' F F'
 | 0, i, hp, F, hi, h => by
  have : i = M.n := by omega
  subst this;refine ⟨hp, F, ?_, h, .refl _ _⟩;obtain ⟨k, k2, fk, fk2, n1, n2, n3, h1, h2, _⟩ := h.mb;have d1 : ¬ (M.n : Int) < M.n := by omega
  rw [(cC _).1] at h1;simp only [rmV] at h1;rw [ak];simp only [go_sem, bl, d1, h1]
 | n + 1, i, hp, F, hi, h => by
  have hM := h;obtain ⟨k, k2, fk, fk2, n1, n2, n3, h1, h2, _⟩ := h.mb;have en := (cC (M := M) (c := cI) i).1;have ec := (cC (M := M) (c := cI) i).2.1;rw [en] at h1;have hj : i < M.n := by omega
  have hin := IT hM (by rw [ec]; exact hc) hcI (by rw [en]; exact hj) (j := i);have d1 : (i : Int) < M.n := by omega
  have d4 : IntKind.i64.wrap ((i : Int) + 1) = ((i + 1 : Nat) : Int) := ag (by omega) (by omega);simp only [rmV] at h1;by_cases hz : flN cI ((M.fencedTo cI i).L i) = 0
  ·have e : M.fencedTo cI (i + 1) = M.fencedTo cI i := by simp only [AM.fencedTo]; rw [hz, xJ]
   obtain ⟨hp', F', r1, r2, r3⟩ := qK hcI hc hn L n (i + 1) (by omega) (by rw [e]; exact hM);refine ⟨hp', F', ?_, r2, r3⟩;rw [← r1, ak];rw [hz] at hin;have d5 : ¬ ((0 : Nat) : Int) > 0 := by omega
   simp only [go_sem, bl, d1, h1, hin, d5, d4]
  ·obtain ⟨hp1, F1, s1, s2, s3⟩ := FW hM (by rw [ec]; exact hc) (j := i) (n := flN cI ((M.fencedTo cI i).L i)) (by rw [en]; exact hj) (Bj _ _) L;obtain ⟨hp', F', r1, r2, r3⟩ := qK hcI hc hn L n (i + 1) (by omega) (F := F1) (hp := hp1) s2;refine ⟨hp', F', ?_, r2, s3.trans r3⟩;rw [← r1, ak];have d5 : ((flN cI ((M.fencedTo cI i).L i) : Nat) : Int) > 0 := by omega
   generalize flN cI ((M.fencedTo cI i).L i) = fz at *;simp only [go_sem, bl, d1, h1, hin, d5, d4, s1]
theorem vq {hp : List Blk} {F : Ft} {m : Nat} {M : AM} (h : cf hp F m M) (hc : M.count + 1 < 1000000) (c : Int) (L : List Blk) :
 ∃ hp' F', rf D dP [.ptr (.hp m) [] 33, .int .i64 c] ⟨L, hp⟩ = some (.int .i64 (M.fence c).2, ⟨L, hp'⟩) ∧ cf hp' F' m (M.fence c).1 ∧ Chg hp hp' F F' := by
 have hM := h;have ok := h.ok;unfold AM.fence;by_cases hq : c < 0 ∨ 8 ≤ c
 ·rw [if_pos hq];refine ⟨hp, F, ?_, h, .refl _ _⟩;rw [aa dX rfl];by_cases hq0 : c < 0
  ·simp only [go_sem, hq0]
  ·have hq8 : c > 7 := by omega
   simp only [go_sem, hq0, hq8]
 ·rw [if_neg hq];obtain ⟨p, rfl⟩ : ∃ p : Nat, c = p := ⟨c.toNat, by omega⟩;rw [Int.toNat_natCast];have d1 : ¬ (p : Int) < 0 := by omega
  have d2 : ¬ (p : Int) > 7 := by omega
  obtain ⟨k, k2, fk, fk2, n1, n2, n3, h1, h2, _⟩ := h.mb;have hstep := fun L => si (L := L) hM (by omega) h1;by_cases hdd : M.dead = true
  ·rw [if_pos hdd];simp only [hdd, if_true] at hstep;obtain ⟨g1, g2⟩ := hM.setm (M' := M.out) ok.out rfl rfl rfl h1;refine ⟨_, F, ?_, g1, g2⟩;generalize hp.set m (.rw (rmV k M.n k2 M.out.off M.out.left M.out.count)) = H at *;rw [aa dX rfl];simp only [go_sem, d1, d2, hstep]
  ·rw [if_neg hdd];rw [Bool.not_eq_true] at hdd;simp only [hdd, Bool.false_eq_true, if_false] at hstep;obtain ⟨g1, g2⟩ := hM.setm (M' := M.stepped) ok.stepped rfl rfl rfl h1;generalize hp.set m (.rw (rmV k M.n k2 M.stepped.off M.stepped.left M.stepped.count)) = H at *;obtain ⟨hp', F', r1, r2, r3⟩ := qK (m := m) (cI := p) (by omega) (M := M.stepped) (by simp only [AM.stepped]; exact hc) g1.ok.n1 L M.stepped.n 0 (by omega) (hp := H) (F := F) g1;refine ⟨hp', F', ?_, r2, g2.trans r3⟩;rw [show ((0 : Nat) : Int) = 0 from rfl] at r1
   rw [aa dX rfl];simp only [go_sem, d1, d2, hstep];simp only [go_sem, r1]
end Go.Proofs.YtmimfopnhmmlbaaGreatDoor
namespace Go.Proofs.YtmimfopnhmmlbaaGreatDoor
open Go.Ab
section
variable {m : Nat}
theorem zs {l : List Int} (hl : l.length = 8) {at' : Int} {L : List Blk} {v : V} (hv : ∀ n, v.locLt n = true) : ∀ (n j : Nat) {hp : List Blk} {Fm : Ft} {M : AM}, j + n = 8 → cf hp Fm m M → M.count + n < 1000000 →
 ∃ hp' Fm' r, rc D L.length (.loop [0, 1, 2, 9, 11] ct) [(0, .ptr (.hp m) [] 33), (1, .int .i64 0), (2, .int .i64 at'), (9, .ptr (.loc (L.length + 1)) [] 24), (11, .int .i64 j)] ⟨L ++ [.rw v, .rw (lnV l)], hp⟩ = some r ∧
  cf hp' Fm' m (M.layFrom at' l j n).1 ∧ Chg hp hp' Fm Fm' ∧
  (((M.layFrom at' l j n).2 = 0 ∧ r = (.exit 0, [(0, .ptr (.hp m) [] 33), (1, .int .i64 0), (2, .int .i64 at'), (9, .ptr (.loc (L.length + 1)) [] 24), (11, .int .i64 8), (34, .bool false)], ⟨L ++ [.rw v, .rw (lnV l)], hp'⟩)) ∨
   ((M.layFrom at' l j n).2 ≠ 0 ∧ r = (.ret, [(8, .int .i64 (M.layFrom at' l j n).2)], ⟨L ++ [.rw v, .rw (lnV l)], hp'⟩)))
 | 0, j, hp, Fm, M, hj, h, _ => by
  have : j = 8 := by omega
  subst this;refine ⟨hp, Fm, _, ?_, h, .refl _ _, .inl ⟨rfl, rfl⟩⟩;rw [ak];simp only [lnV];simp only [go_sem, ct]
 | n + 1, j, hp, Fm, M, hj, h, hc => by
  obtain ⟨hp1, Fm1, e1, e2, e3⟩ := lS h (by omega) at' j (l.getD j 0) (L ++ [.rw v, .rw (lnV l)]);have hcn := AM.store_count (M := M) (i := at') (q := j) (v := l.getD j 0);have d1 : (j : Int) < 8 := by omega
  have d2 : (0 : Int) ≤ j := by omega
  have d4 : IntKind.i64.wrap ((j : Int) + 1) = ((j + 1 : Nat) : Int) := ag (by omega) (by omega);have g := aK (f := V.int .u64) (l := l) (i := j) (by omega) 0;have z3 : L.length + 1 < L.length + 2 := by omega
  simp only [AM.layFrom];by_cases he : (M.store at' j (l.getD j 0)).2 = 0
  ·rw [if_neg fun hh => hh he];obtain ⟨hp2, Fm2, r, q1, q2, q3, q4⟩ := zs hl hv n (j + 1) (by omega) e2 (by omega);refine ⟨hp2, Fm2, r, ?_, q2, e3.trans q3, q4⟩;rw [← q1, ak];rw [he] at e1;simp only [lnV] at *;generalize l.getD j 0 = wd at *;simp only [go_sem, ct, d1, d2, Int.toNat_natCast, g, e1, d4, z3, hv]
  ·rw [if_pos he];refine ⟨hp1, Fm1, _, ?_, e2, e3, .inr ⟨he, rfl⟩⟩;rw [ak];simp only [lnV] at *;generalize l.getD j 0 = wd at *;simp only [go_sem, ct, d1, d2, Int.toNat_natCast, g, e1, he]
theorem C8 {hp : List Blk} {F : Ft} {M : AM} (h : cf hp F m M) (hc : M.count + 12 < 1000000) (slot : Int) (b : Sup) (L : List Blk) :
 ∃ hp' F', rf D il [.ptr (.hp m) [] 33, .int .i64 0, .int .i64 slot, b.v] ⟨L, hp⟩ = some (.int .i64 (M.wrs slot b).2, ⟨L, hp'⟩) ∧ cf hp' F' m (M.wrs slot b).1 ∧ Chg hp hp' F F' := by
 have hln := fun s => zL b s;have hlen := vX b;unfold AM.wrs;by_cases hb : b.ok = false
 ·rw [if_pos (.inl hb)];refine ⟨hp, F, ?_, h, .refl _ _⟩;rw [hb, if_neg (by simp)] at hln;simp only [Sup.v, lnV] at *;rw [aa bU rfl];by_cases h0 : slot < 0
  ·simp only [go_sem, hln, h0]
  ·by_cases h1 : slot > 1
   ·simp only [go_sem, hln, h0, h1]
   ·simp only [go_sem, hln, h0, h1]
 ·have hb' : b.ok = true := by simpa using hb
  rw [hb', if_pos rfl] at hln;by_cases hs : slot ≠ 0 ∧ slot ≠ 1
  ·rw [if_pos (.inr hs)];refine ⟨hp, F, ?_, h, .refl _ _⟩;simp only [Sup.v, lnV] at *;rw [aa bU rfl];by_cases h0 : slot < 0
   ·simp only [go_sem, hln, h0]
   ·have h1 : slot > 1 := by omega
    simp only [go_sem, hln, h0, h1]
  ·rw [if_neg (by intro hh; rcases hh with hh | hh; exact hb hh; exact hs hh)];have h0 : ¬ slot < 0 := by omega
   have h1 : ¬ slot > 1 := by omega
   obtain ⟨hp1, F1, e1, e2, e3⟩ := lS h (by omega) slot 7 0 (L ++ [.rw b.v, .rw (lnV (bo b))]);have c1 := AM.store_count (M := M) (i := slot) (q := 7) (v := 0);by_cases he1 : (M.store slot 7 0).2 = 0
   ·rw [if_neg (by simp [he1])];obtain ⟨hp2, F2, r, q1, q2, q3, q4⟩ := zs (m := m) hlen (at' := slot) (L := L) (v := b.v) (fun n => by simp only [Sup.v]; simp only [go_sem]) 8 0 rfl e2 (by omega);have c2 := AM.layFrom_count (M := (M.store slot 7 0).1) (at' := slot) (l := bo b) (n := 8) (j := 0);rw [show ((0 : Nat) : Int) = 0 from rfl] at q1
    rw [he1] at e1;simp only;by_cases he2 : ((M.store slot 7 0).1.layFrom slot (bo b) 0 8).2 = 0
    ·rw [if_neg (by simp [he2])];rcases q4 with ⟨_, rfl⟩ | ⟨z, _⟩
     ·obtain ⟨hp3, r1, r2, r3⟩ := qN q2 (by omega) 0 slot (L ++ [.rw b.v, .rw (lnV (bo b))]);have c3 := (cB (M := ((M.store slot 7 0).1.layFrom slot (bo b) 0 8).1) (c := 0) (i := slot)).1;by_cases he3 : (((M.store slot 7 0).1.layFrom slot (bo b) 0 8).1.flush 0 slot).2 = 0
      ·rw [if_neg (by simp [he3])];obtain ⟨hp4, F4, s1, s2, s3⟩ := vq r2 (by omega) 0 (L ++ [.rw b.v, .rw (lnV (bo b))]);refine ⟨hp4, F4, ?_, s2, ((e3.trans q3).trans r3).trans s3⟩;rw [he3] at r1;generalize ((((M.store slot 7 0).1.layFrom slot (bo b) 0 8).1.flush 0 slot).1.fence 0) = fz at *;generalize bo b = sl at *;simp only [Sup.v, lnV] at *;rw [aa bU rfl];simp only [go_sem, hln, h0, h1, e1];simp only [go_sem, q1, r1, s1]
      ·rw [if_pos he3];refine ⟨hp3, F2, ?_, r2, (e3.trans q3).trans r3⟩;generalize (((M.store slot 7 0).1.layFrom slot (bo b) 0 8).1.flush 0 slot) = fz at *;generalize bo b = sl at *;simp only [Sup.v, lnV] at *;rw [aa bU rfl];simp only [go_sem, hln, h0, h1, e1];simp only [go_sem, q1, r1, he3]
     ·exact absurd he2 z
    ·rw [if_pos he2];rcases q4 with ⟨z, _⟩ | ⟨_, rfl⟩
     ·exact absurd z he2
     ·refine ⟨hp2, F2, ?_, q2, e3.trans q3⟩;generalize ((M.store slot 7 0).1.layFrom slot (bo b) 0 8) = fz at *;generalize bo b = sl at *;simp only [Sup.v, lnV] at *;rw [aa bU rfl];simp only [go_sem, hln, h0, h1, e1];simp only [go_sem, q1]
   ·rw [if_pos he1];refine ⟨hp1, F1, ?_, e2, e3⟩;generalize (M.store slot 7 0) = fz at *;generalize bo b = sl at *;simp only [Sup.v, lnV] at *;rw [aa bU rfl];simp only [go_sem, hln, h0, h1, e1, he1]
end
end Go.Proofs.YtmimfopnhmmlbaaGreatDoor
namespace Go.Proofs.YtmimfopnhmmlbaaGreatDoor
open Go.Ab
def aO (p : Nat × Int) : V := .agg 34 [.int .i64 ((p.1 + 1 : Nat) : Int), .int .i64 p.2]
def wdV (m b : Nat) (sv : V) (w : AW) : V := .agg 35 [.ptr (.hp m) [] 33, .ptr (.hp b) [] 31, w.b.v, .int .i64 w.slot, sv, .int .i64 w.seq, ao w.dir]
theorem GF : ∀ l : List (Nat × Int), V.locLts 0 (l.map aO) = true
 | [] => rfl
 | p :: l => by
  have h : V.locLt 0 (aO p) = true := by simp only [aO]; simp only [go_sem]
  simp only [List.map_cons, V.locLts, h, GF l, Bool.and_self]
structure WkD (hp : List Blk) (wk b m fr c : Nat) (Fm Gs : Ft) (sv : V) (w : AW) : Prop where
 q : bg hp Fm b m fr c w.x
 st : hp[wk]? = some (.rw (wdV m b sv w))
 sr : SlR hp Gs 34 36 sv (w.st.map aO)
 n1 : ¬ bR b fr c Fm wk
 n2 : dJ Gs (bR b fr c Fm)
 n3 : ¬ Gs wk
 gi : Inn hp Gs
def WdF (wk b fr c : Nat) (Fm Gs : Ft) : Ft := fun j => j = wk ∨ Gs j ∨ bR b fr c Fm j
section
variable {hp hp' hp1 : List Blk} {wk b m fr c : Nat} {Fm Fm' Gs Gs' : Ft} {sv sv' : V} {w w' : AW}
theorem WkD.inn (h : WkD hp wk b m fr c Fm Gs sv w) : Inn hp (WdF wk b fr c Fm Gs) := fun j hj => by
 rcases hj with rfl | hj | hj
 ·exact af h.st
 ·exact h.gi j hj
 ·exact h.q.inn j hj
theorem WkD.slen (h : WkD hp wk b m fr c Fm Gs sv w) : V.slen false sv = some w.st.length := by
 have := h.sr.slen
 rwa [List.length_map] at this
theorem WkD.chg {G G' : Ft} (h : WkD hp wk b m fr c Fm Gs sv w) (hc : Chg hp hp' G G') (ha : dJ G (WdF wk b fr c Fm Gs)) : WkD hp' wk b m fr c Fm Gs sv w :=
 ⟨h.q.chg hc fun j h1 h2 => ha j h1 (.inr (.inr h2)), hc.get h.st fun e => ha wk e (.inl rfl), h.sr.eqv (hc.eqv (fun j h1 h2 => ha j h1 (.inr (.inl h2))) h.gi) fun _ h => h, h.n1, h.n2, h.n3, h.gi.more hc⟩
theorem WkD.setS (h : WkD hp wk b m fr c Fm Gs sv w) {x' : AS} (q : bg hp' Fm' b m fr c x') (hc : Chg hp hp' (bR b fr c Fm) (bR b fr c Fm')) : WkD hp' wk b m fr c Fm' Gs sv { w with x := x' } := by
 have hwl := af h.st;refine ⟨q, hc.get h.st h.n1, h.sr.eqv (fun j hj => hc.old j (h.gi j hj) fun e => h.n2 j hj e) fun _ h => h, fun e => ?_, fun j h1 h2 => ?_, h.n3, h.gi.more hc⟩
 ·rcases hc.new wk e with e | e
  ·exact h.n1 e
  ·omega
 ·rcases hc.new j h2 with e | e
  ·exact h.n2 j h1 e
  ·have := h.gi j h1; omega
theorem pG (hc : Chg hp hp' (bR b fr c Fm) (bR b fr c Fm')) : Chg hp hp' (WdF wk b fr c Fm Gs) (WdF wk b fr c Fm' Gs) :=
 hc.mono (fun j h => .inr (.inr h)) fun j h => by
  rcases h with h | h | h
  ·exact .inr (.inl h)
  ·exact .inr (.inr (.inl h))
  ·exact .inl h
theorem WkD.setM (h : WkD hp wk b m fr c Fm Gs sv w) {M : AM} (hm : cf hp' Fm' m M) (hc : Chg hp hp' Fm Fm') (hn : M.n = w.x.M.n) : WkD hp' wk b m fr c Fm' Gs sv { w with x := { w.x with M := M } } ∧ Chg hp hp' (WdF wk b fr c Fm Gs) (WdF wk b fr c Fm' Gs) :=
 ⟨h.setS (h.q.setM hm hc hn) (Fy hc), pG (Fy hc)⟩
theorem WkD.added (h : WkD hp wk b m fr c Fm Gs sv w) (hs : SlR hp1 Gs' 34 36 sv' (w'.st.map aO)) (hc : Chg hp hp1 Gs Gs') (hi : Inn hp1 Gs') (hx : w'.x = w.x) :
 WkD (hp1.set wk (.rw (wdV m b sv' w'))) wk b m fr c Fm Gs' sv' w' ∧ Chg hp (hp1.set wk (.rw (wdV m b sv' w'))) (WdF wk b fr c Fm Gs) (WdF wk b fr c Fm Gs') := by
 have hwl := af h.st;have hwl1 := Nat.lt_of_lt_of_le hwl hc.le;have k4 : ¬ Gs' wk := fun e => by
  rcases hc.new wk e with e | e
  ·exact h.n3 e
  ·omega
 refine ⟨⟨by rw [hx]; exact (h.q.chg hc h.n2).chg (cR (a := wk)) fun j h1 h2 => h.n1 (by cases h1; exact h2), List.getElem?_set_self hwl1, hs.eqv (fun j hj => List.getElem?_set_ne fun e => k4 (by rw [e]; exact hj)) fun _ h => h, h.n1, hc.apart h.n2 h.q.inn, k4, hi.set⟩, ?_⟩;refine (hc.mono (fun j hj => .inr (.inl hj)) fun j hj => ?_).trans (cR.mono (fun j hj => .inl hj) fun _ hj => .inr hj);rcases hj with hj | hj | hj
 ·exact .inr (.inl hj)
 ·exact .inl hj
 ·exact .inr (.inr (.inr hj))
theorem WkD.setB (h : WkD hp wk b m fr c Fm Gs sv w) (hx : w'.x = w.x) (hs : SlR hp Gs 34 36 sv' (w'.st.map aO)) : WkD (hp.set wk (.rw (wdV m b sv' w'))) wk b m fr c Fm Gs sv' w' ∧ Chg hp (hp.set wk (.rw (wdV m b sv' w'))) (WdF wk b fr c Fm Gs) (WdF wk b fr c Fm Gs) :=
 h.added hs (.refl _ _) h.gi hx
theorem wc {G : Ft} (hl : hp1.length = hp.length + 1) (ho : ∀ j, j < hp.length → ¬ G j → hp1[j]? = hp[j]?) : Chg hp hp1 G (.one hp.length) :=
 ⟨by omega, ho, fun j hj => .inr (by cases hj; exact Nat.le_refl _)⟩
end
theorem BD {f g : Nat → Ent} : ∀ {l : List Nat} {i : Nat}, kP f g (l ++ [i]) = (kP f g l && qy (f i) (g i))
 | [], i => by simp [kP]
 | a :: l, i => by simp only [List.cons_append, kP, BD, Bool.and_assoc]
theorem Oq (t u : Nat → Ent) {k : Nat} (hk : k < 7) (L hp : List Blk) (v : V) (hv : ∀ n, v.locLt n = true) :
 rc D L.length (.loop [2, 3, 5, 6, 7, 8] bY) [(2, .ptr (.loc L.length) [] 48), (3, .ptr (.loc (L.length + 1)) [] 48), (5, v), (6, .int .i64 k), (7, .bool false), (8, .int .i64 0)] ⟨L ++ [.rw (ab t), .rw (ab u)], hp⟩ =
  some (.exit 2, [(2, .ptr (.loc L.length) [] 48), (3, .ptr (.loc (L.length + 1)) [] 48), (5, v), (6, .int .i64 k), (7, .bool (rX t u k)), (8, .int .i64 7), (14, .bool false)], ⟨L ++ [.rw (ab t), .rw (ab u)], hp⟩) := by
 refine aH (fun x : Nat => [(2, .ptr (.loc L.length) [] 48), (3, .ptr (.loc (L.length + 1)) [] 48), (5, v), (6, .int .i64 k), (7, .bool (!kP (fun i => t (7 * k + i)) (fun i => u (7 * k + i)) (List.range x))), (8, .int .i64 x)])
  (fun _ => ⟨L ++ [.rw (ab t), .rw (ab u)], hp⟩) (fun _ => _) (fun x => 7 - x) (fun x => x ≤ 7) 0 ?_ (by omega) rfl rfl
 intro x hx;have z1 : L.length < L.length + 2 := by omega
 have z2 : L.length + 1 < L.length + 2 := by omega
 have hv2 := hv (L.length + 2);by_cases c1 : x < 7
 ·left;have d1 : (x : Int) < 7 := by omega
  have d4 : IntKind.i64.wrap ((x : Int) + 1) = ((x + 1 : Nat) : Int) := ag (by omega) (by omega);have e1 : IntKind.i64.wrap (7 * (k : Int)) = ((7 * k : Nat) : Int) := by rw [ag (by omega) (by omega)]; omega
  have e2 : IntKind.i64.wrap (((7 * k : Nat) : Int) + (x : Int)) = ((7 * k + x : Nat) : Int) := by rw [ag (by omega) (by omega)]; omega
  have f0 : (0 : Int) ≤ ((7 * k + x : Nat) : Int) := by omega
  have f1 : ((7 * k + x : Nat) : Int) < 49 := by omega
  have g1 := ai (f := fun i => (t i).v) (show 7 * k + x < 49 by omega);have g2 := ai (f := fun i => (u i).v) (show 7 * k + x < 49 by omega);have hq := Dp (t (7 * k + x)) (u (7 * k + x));refine ⟨x + 1, by omega, by omega, rfl, ?_⟩;simp only;rw [List.range_succ, BD];have t1 : ∀ e : Ent, V.tag e.v = 42 := fun _ => rfl;have ht1 := t1 (t (7 * k + x));have ht2 := t1 (u (7 * k + x));simp only [ab] at *;generalize (tab 49 fun i => (t i).v) = T1 at *;generalize (tab 49 fun i => (u i).v) = T2 at *;generalize (t (7 * k + x)).v = ev1 at *;generalize (u (7 * k + x)).v = ev2 at *;generalize qy (t (7 * k + x)) (u (7 * k + x)) = ee at *;generalize kP (fun i => t (7 * k + i)) (fun i => u (7 * k + i)) (List.range x) = bb at *;cases bb
  ·simp only [go_sem, bY, d1, d4, z1, z2, hv2]
  ·simp only [go_sem, bY, d1, d4, e1, e2, f0, f1, Int.toNat_natCast, g1, g2, ht1, ht2, hq, z1, z2, hv2]
 ·right;have : x = 7 := by omega
  subst this;simp only [ab, rX];simp only [go_sem, bY]
theorem xT (t u : Nat → Ent) (s : St) : ∃ X v, Apd s.hp X v (bH t u 7) ∧ rf D gv [ab t, ab u] s = some (v, ⟨s.loc, s.hp ++ X⟩) := by
 have loop : ∃ r, rc D s.loc.length (.loop [2, 3, 5, 6] ca) [(2, .ptr (.loc s.loc.length) [] 48), (3, .ptr (.loc (s.loc.length + 1)) [] 48), (5, .nils), (6, .int .i64 0)] ⟨s.loc ++ [.rw (ab t), .rw (ab u)], s.hp⟩ = some r ∧
  ∃ X v, Apd s.hp X v (bH t u 7) ∧ r = (.exit 0, [(2, .ptr (.loc s.loc.length) [] 48), (3, .ptr (.loc (s.loc.length + 1)) [] 48), (5, v), (6, .int .i64 7), (10, .bool false)], ⟨s.loc ++ [.rw (ab t), .rw (ab u)], s.hp ++ X⟩) := by
  refine gI (fun x : Nat × List Blk × V => [(2, .ptr (.loc s.loc.length) [] 48), (3, .ptr (.loc (s.loc.length + 1)) [] 48), (5, x.2.2), (6, .int .i64 x.1)]) (fun x => ⟨s.loc ++ [.rw (ab t), .rw (ab u)], s.hp ++ x.2.1⟩) _ (fun x => 7 - x.1)
   (fun x => x.1 ≤ 7 ∧ Apd s.hp x.2.1 x.2.2 (bH t u x.1)) (0, [], .nils) ?_ ⟨by simp only; omega, ⟨.inl ⟨rfl, rfl⟩⟩⟩ rfl (by simp)
  rintro ⟨k, X, v⟩ ⟨hk, ha⟩;simp only at hk ha;have hvn : ∀ n, V.locLt n v = true := fun n => by rcases ha.at' with ⟨_, rfl⟩ | ⟨Y, _, rfl⟩ <;> rfl
  by_cases c1 : k < 7
  ·left;have d1 : (k : Int) < 7 := by omega
   have d4 : IntKind.i64.wrap ((k : Int) + 1) = ((k + 1 : Nat) : Int) := ag (by omega) (by omega);have hin := Oq t u c1 s.loc (s.hp ++ X) v hvn;have z1 : s.loc.length < s.loc.length + 2 := by omega
   have z2 : s.loc.length + 1 < s.loc.length + 2 := by omega
   cases hd : rX t u k
   ·rw [hd] at hin;refine ⟨(k + 1, X, v), ⟨by simp only; omega, by simp only [bH, hd]; exact ha⟩, by simp only; omega, ?_⟩;simp only [ab] at *;generalize (tab 49 fun i => (t i).v) = T1 at *;generalize (tab 49 fun i => (u i).v) = T2 at *;simp only [go_sem, ca, d1, hin, d4, hvn, z1, z2]
   ·rw [hd] at hin;have hy : St.elems ⟨s.loc ++ [.rw (ab t), .rw (ab u), .rw (.agg 38 [.int .i64 (k : Int)])], s.hp ++ X⟩ (.sl (.loc (s.loc.length + 2)) [] 0 1 (some 1) 10) = some [.int .i64 (k : Int)] := aV (t := 38) (by simp only [go_sem]) rfl;obtain ⟨X', v', q1, q2⟩ := ha.push (by have := ms t u k; omega) (k : Int) (.inr ⟨_, _, _, _, _, rfl⟩) hy (base := s.loc.length);refine ⟨(k + 1, X', v'), ⟨by simp only; omega, by simp only [bH, hd, if_true]; exact q2⟩, by simp only; omega, ?_⟩;have hvl' : V.locLt (s.loc.length + 2) v' = true := by rcases q2.at' with ⟨_, rfl⟩ | ⟨Y, _, rfl⟩ <;> rfl
    have hrep : List.replicate 1 (V.int .i64 0) = [.int .i64 0] := rfl;simp only [ab] at *;generalize (tab 49 fun i => (t i).v) = T1 at *;generalize (tab 49 fun i => (u i).v) = T2 at *;simp only [go_sem, ca, d1, hin, d4, hvl', z1, z2, hrep, q1]
  ·right;have : k = 7 := by omega
   subst this;refine ⟨_, ?_, X, v, ha, rfl⟩;simp only [ab];simp only [go_sem, ca]
 obtain ⟨r, h1, X, v, h2, rfl⟩ := loop;refine ⟨X, v, h2, ?_⟩;have hv : V.locLt s.loc.length v = true := by rcases h2.at' with ⟨_, rfl⟩ | ⟨Y, _, rfl⟩ <;> rfl
 rw [aa qr rfl];simp only [ab] at *;simp only [go_sem, h1, hv]
end Go.Proofs.YtmimfopnhmmlbaaGreatDoor
namespace Go.Proofs.YtmimfopnhmmlbaaGreatDoor
open Go.Ab
def uv (t : Nat → Ent) (l : Int) (n : Nat) : Bool := (List.range n).any fun k => decide ((t k).kind ≠ 0) && decide ((t k).line = l)
theorem Iw {t : Nat → Ent} {l : Int} {n : Nat} : uv t l (n + 1) = (uv t l n || (decide ((t n).kind ≠ 0) && decide ((t n).line = l))) := by
 unfold uv;rw [List.range_succ, List.any_append];simp
theorem JA {t : Nat → Ent} (ht : InL t) {l : Int} (hl : 0 ≤ l) : uv t l 49 = au t (fun _ => false) 49 l.toNat := by
 rw [tE ht hl, Bool.false_or];apply Bool.eq_iff_iff.2;unfold uv;simp only [List.any_eq_true, List.mem_range, Bool.and_eq_true, decide_eq_true_eq, pv];constructor
 ·rintro ⟨i, h1, h2, h3⟩; exact ⟨i, by omega, by omega, h2, h3⟩
 ·rintro ⟨i, h1, h2, h3, h4⟩; exact ⟨i, by omega, h3, h4⟩
section
variable {wk b m fr c : Nat} {Fm : Ft}
theorem PD {hp : List Blk} {Gs : Ft} {sv : V} {w : AW} (h : WkD hp wk b m fr c Fm Gs sv w) (seq i : Int) (y : Ent) (L : List Blk) :
 rc D L.length (.loop [0, 1, 6, 7, 8, 9] a7) [(0, .ptr (.hp wk) [] 35), (1, .int .i64 seq), (6, .int .i64 i), (7, .ptr (.loc L.length) [] 42), (8, .bool false), (9, .int .i64 0)] ⟨L ++ [.rw y.v], hp⟩ =
  some (.exit 2, [(0, .ptr (.hp wk) [] 35), (1, .int .i64 seq), (6, .int .i64 i), (7, .ptr (.loc L.length) [] 42), (8, .bool (uv w.x.base y.line 49)), (9, .int .i64 49), (54, .bool false)], ⟨L ++ [.rw y.v], hp⟩) := by
 have hst := h.st;have hss := h.q.st;have z1 : L.length < L.length + 1 := by omega
 refine aH (fun x : Nat => [(0, .ptr (.hp wk) [] 35), (1, .int .i64 seq), (6, .int .i64 i), (7, .ptr (.loc L.length) [] 42), (8, .bool (uv w.x.base y.line x)), (9, .int .i64 x)]) (fun _ => ⟨L ++ [.rw y.v], hp⟩) (fun _ => _) (fun x => 49 - x) (fun x => x ≤ 49) 0 ?_ (by omega) rfl rfl;intro x hx;by_cases c1 : x < 49
 ·left;have d1 : (x : Int) < 49 := by omega
  have d2 : (0 : Int) ≤ x := by omega
  have d4 : IntKind.i64.wrap ((x : Int) + 1) = ((x + 1 : Nat) : Int) := ag (by omega) (by omega);have g := ai (f := fun i => (w.x.base i).v) c1;refine ⟨x + 1, by omega, by omega, rfl, ?_⟩;simp only;rw [Iw];generalize uv w.x.base y.line x = bb at *;simp only [wdV, AS.r, aW.v, ab, Ent.v] at *;generalize (tab 49 fun i => V.agg 42 [.int .i64 (w.x.base i).kind, .int .i64 (w.x.base i).ver, .int .i64 (w.x.base i).line]) = TB at *;cases bb
  ·by_cases hk : (w.x.base x).kind = 0
   ·simp only [go_sem, a7, d1, d2, hst, hss, Int.toNat_natCast, g, hk, d4, z1]
   ·simp only [go_sem, a7, d1, d2, hst, hss, Int.toNat_natCast, g, hk, d4, z1]
  ·simp only [go_sem, a7, d1, d4, z1]
 ·right;have : x = 49 := by omega
  subst this;simp only [go_sem, a7]
theorem uQ (seq : Int) (L : List Blk) (hL : (L.drop L.length).all (bu L.length) = true) : ∀ (n i : Nat) {hp : List Blk} {Gs : Ft} {sv : V} {w : AW}, i + n = 49 → WkD hp wk b m fr c Fm Gs sv w → w.st = aG w.x.mark (au w.x.base (fun _ => false) 49) i →
 ∃ hp' Gs' sv', rc D L.length (.loop [0, 1, 6] a8) [(0, .ptr (.hp wk) [] 35), (1, .int .i64 seq), (6, .int .i64 i)] ⟨L, hp⟩ =
  some (.exit 0, [(0, .ptr (.hp wk) [] 35), (1, .int .i64 seq), (6, .int .i64 49), (41, .bool false)], ⟨L, hp'⟩) ∧
  WkD hp' wk b m fr c Fm Gs' sv' { w with st := aG w.x.mark (au w.x.base (fun _ => false) 49) 49 } ∧ Chg hp hp' (WdF wk b fr c Fm Gs) (WdF wk b fr c Fm Gs')
 | 0, i, hp, Gs, sv, w, hi, h, hw => by
  have : i = 49 := by omega
  subst this;refine ⟨hp, Gs, sv, ?_, by rw [← hw]; exact h, .refl _ _⟩;rw [ak];simp only [go_sem, a8]
 | n + 1, i, hp, Gs, sv, w, hi, h, hw => by
  have c1 : i < 49 := by omega
  have d1 : (i : Int) < 49 := by omega
  have d2 : (0 : Int) ≤ i := by omega
  have d4 : IntKind.i64.wrap ((i : Int) + 1) = ((i + 1 : Nat) : Int) := ag (by omega) (by omega);have ok := h.q.ok;have g := ai (f := fun i => (w.x.mark i).v) c1;have hin := (ok.k.inL ok.A).inn i c1;have hold := PD h seq i (w.x.mark i) L;have hst := h.st;have hss := h.q.st;by_cases hk : (w.x.mark i).kind = 0
  ·have e : aG w.x.mark (au w.x.base (fun _ => false) 49) (i + 1) = aG w.x.mark (au w.x.base (fun _ => false) 49) i := by simp only [aG]; rw [if_neg fun hh => hh.1 hk]
   obtain ⟨hp', Gs', sv', r1, r2, r3⟩ := uQ seq L hL n (i + 1) (by omega) h (by rw [e]; exact hw);refine ⟨hp', Gs', sv', ?_, r2, r3⟩;rw [← r1, ak];simp only [wdV, AS.r, aW.v, ab, Ent.v] at *;generalize (tab 49 fun i => V.agg 42 [.int .i64 (w.x.mark i).kind, .int .i64 (w.x.mark i).ver, .int .i64 (w.x.mark i).line]) = TK at *;rw [hk] at g hold;simp only [go_sem, a8, d1, d2, hst, hss, Int.toNat_natCast, g];simp only [go_sem, hold, d4]
  ·have hl := (hin hk).1;have hal := JA (ok.b.inL ok.A) hl;cases ho : au w.x.base (fun _ => false) 49 (w.x.mark i).line.toNat
   ·have e : aG w.x.mark (au w.x.base (fun _ => false) 49) (i + 1) = aG w.x.mark (au w.x.base (fun _ => false) 49) i ++ [(0, (w.x.mark i).line)] := by simp only [aG]; rw [if_pos ⟨hk, ho⟩]
    have hfl := jR w.x.mark (au w.x.base (fun _ => false) 49) i;have hy : St.elems ⟨L ++ [.rw (w.x.mark i).v, .rw (.agg 36 [aO (0, (w.x.mark i).line)])], hp⟩ (.sl (.loc (L.length + 1)) [] 0 1 (some 1) 34) = some [aO (0, (w.x.mark i).line)] := aV (t := 36) (by simp only [go_sem]) rfl;obtain ⟨hp1, s1, s2, s3, s4⟩ := h.sr.push (base := L.length) (L ++ [.rw (w.x.mark i).v, .rw (.agg 36 [aO (0, (w.x.mark i).line)])]) (.inr ⟨_, _, _, _, _, rfl⟩) hy (by simp) (by rw [hw]; simp [be]; omega) (.inl rfl);have hsr : SlR hp1 (.one hp.length) 34 36 (.sl (.hp hp.length) [] 0 (w.st.map aO ++ [aO (0, (w.x.mark i).line)]).length none 34) ((w.st ++ [(0, (w.x.mark i).line)]).map aO) := by
     rw [List.map_append];exact .blk _ none _ (.inl rfl) rfl s3
    obtain ⟨A1, A2⟩ := h.added (w' := { w with st := w.st ++ [(0, (w.x.mark i).line)] }) hsr (wc s2 s4) (fun j hj => by cases hj; omega) rfl;obtain ⟨hp', Gs', sv', r1, r2, r3⟩ := uQ seq L hL n (i + 1) (by omega) A1 (by rw [e, ← hw]);refine ⟨hp', Gs', sv', ?_, r2, A2.trans r3⟩;rw [← r1, ak];rw [hal, ho] at hold;have hwk1 : hp1[wk]? = hp[wk]? := s4 wk (af hst) h.n3;have hrep : List.replicate 1 (V.agg 34 [.int .i64 0, .int .i64 0]) = [.agg 34 [.int .i64 0, .int .i64 0]] := rfl;have hv0 : aO (0, (w.x.mark i).line) = .agg 34 [.int .i64 1, .int .i64 (w.x.mark i).line] := rfl;rw [hv0] at s1 ⊢;have s1 := s1;have hst1 := hwk1.trans hst;clear r1 r2 r3 A1 A2 hsr s3 s4 h;simp only [wdV, AS.r, aW.v, ab, Ent.v] at *;generalize (tab 49 fun i => V.agg 42 [.int .i64 (w.x.mark i).kind, .int .i64 (w.x.mark i).ver, .int .i64 (w.x.mark i).line]) = TK at *;simp only [go_sem, a8, d1, d2, hst, hss, Int.toNat_natCast, g];simp only [go_sem, hold, hk, hst, hrep, s1, hst1, d4]
   ·have e : aG w.x.mark (au w.x.base (fun _ => false) 49) (i + 1) = aG w.x.mark (au w.x.base (fun _ => false) 49) i := by simp only [aG]; rw [if_neg fun hh => by rw [ho] at hh; cases hh.2]
    obtain ⟨hp', Gs', sv', r1, r2, r3⟩ := uQ seq L hL n (i + 1) (by omega) h (by rw [e]; exact hw);refine ⟨hp', Gs', sv', ?_, r2, r3⟩;rw [← r1, ak];rw [hal, ho] at hold;simp only [wdV, AS.r, aW.v, ab, Ent.v] at *;generalize (tab 49 fun i => V.agg 42 [.int .i64 (w.x.mark i).kind, .int .i64 (w.x.mark i).ver, .int .i64 (w.x.mark i).line]) = TK at *;simp only [go_sem, a8, d1, d2, hst, hss, Int.toNat_natCast, g];simp only [go_sem, hold, hk, d4]
theorem ug (seq : Int) {ks : List Int} (hks : ks.length ≤ 7) (S0 : List (Nat × Int)) (hS : S0.length ≤ 49) {v : V} {L : List Blk} : ∀ (n j : Nat) {hp : List Blk} {Gs : Ft} {sv : V} {w : AW}, j + n = ks.length → WkD hp wk b m fr c Fm Gs sv w → NmR hp (WdF wk b fr c Fm Gs) v ks → w.st = S0 ++ (ks.take j).map (fun k => (1, k)) →
 ∃ hp' Gs' sv', rc D L.length (.loop [0, 1, 10, 11] cn) [(0, .ptr (.hp wk) [] 35), (1, .int .i64 seq), (10, v), (11, .int .i64 j)] ⟨L, hp⟩ =
  some (.exit 4, [(0, .ptr (.hp wk) [] 35), (1, .int .i64 seq), (10, v), (11, .int .i64 ks.length), (123, .bool false)], ⟨L, hp'⟩) ∧
  WkD hp' wk b m fr c Fm Gs' sv' { w with st := S0 ++ ks.map (fun k => (1, k)) } ∧ Chg hp hp' (WdF wk b fr c Fm Gs) (WdF wk b fr c Fm Gs')
 | 0, j, hp, Gs, sv, w, hj, h, hv, hw => by
  have : j = ks.length := by omega
  subst this;rw [List.take_length] at hw;refine ⟨hp, Gs, sv, ?_, by rw [← hw]; exact h, .refl _ _⟩;have hvs : V.slen false v = some ks.length := by
   have := (hv.rs []).slen
   rwa [List.length_map] at this
  have d1 : ¬ (ks.length : Int) < ks.length := by omega
  rw [ak];simp only [go_sem, cn, hvs, d1]
 | n + 1, j, hp, Gs, sv, w, hj, h, hv, hw => by
  have c1 : j < ks.length := by omega
  have d1 : (j : Int) < ks.length := by omega
  have d4 : IntKind.i64.wrap ((j : Int) + 1) = ((j + 1 : Nat) : Int) := ag (by omega) (by omega);have hvs : V.slen false v = some ks.length := by
   have := (hv.rs []).slen
   rwa [List.length_map] at this
  have hg := aK (f := V.int .i64) (l := ks) (i := j) c1 0;have hsad := (hv.rs L).sadq hg (k := .i64);have hld : ldv ⟨L, hp⟩ 10 (elq v j [] 10) = V.at [] (.int .i64 (ks.getD j 0)) := (hv.rs L).ldq hg;have hst := h.st;have hvl := hv.lt L.length;have e : S0 ++ (ks.take (j + 1)).map (fun k => ((1 : Nat), k)) = w.st ++ [(1, ks.getD j 0)] := by
   rw [hw, List.take_succ_eq_append_getElem c1, List.map_append, List.append_assoc, List.getD_eq_getElem?_getD, List.getElem?_eq_getElem c1]; rfl
  have hy : St.elems ⟨L ++ [.rw (.agg 36 [aO (1, ks.getD j 0)])], hp⟩ (.sl (.loc L.length) [] 0 1 (some 1) 34) = some [aO (1, ks.getD j 0)] := aV (t := 36) (by simp only [go_sem]) rfl;obtain ⟨hp1, s1, s2, s3, s4⟩ := h.sr.push (base := L.length) (L ++ [.rw (.agg 36 [aO (1, ks.getD j 0)])]) (.inr ⟨_, _, _, _, _, rfl⟩) hy (by simp) (by rw [hw]; simp [be]; omega) (.inl rfl);have hsr : SlR hp1 (.one hp.length) 34 36 (.sl (.hp hp.length) [] 0 (w.st.map aO ++ [aO (1, ks.getD j 0)]).length none 34) ((w.st ++ [(1, ks.getD j 0)]).map aO) := by
   rw [List.map_append];exact .blk _ none _ (.inl rfl) rfl s3
  obtain ⟨A1, A2⟩ := h.added (w' := { w with st := w.st ++ [(1, ks.getD j 0)] }) hsr (wc s2 s4) (fun j hj => by cases hj; omega) rfl;obtain ⟨hp', Gs', sv', r1, r2, r3⟩ := ug seq hks S0 hS (L := L) n (j + 1) (by omega) A1 (hv.chg A2) e.symm;refine ⟨hp', Gs', sv', ?_, r2, A2.trans r3⟩;rw [← r1, ak];have hwk1 : hp1[wk]? = hp[wk]? := s4 wk (af hst) h.n3;have hst1 := hwk1.trans hst;have hrep : List.replicate 1 (V.agg 34 [.int .i64 0, .int .i64 0]) = [.agg 34 [.int .i64 0, .int .i64 0]] := rfl;have hv0 : aO (1, ks.getD j 0) = .agg 34 [.int .i64 2, .int .i64 (ks.getD j 0)] := rfl;rw [hv0] at s1 ⊢;clear r1 r2 r3 A1 A2 hsr s3 s4 h;simp only [wdV] at *;generalize ks.getD j 0 = kk at *;simp only [go_sem, cn, hvs, d1, hsad, hld, hst, hrep, s1, hst1, d4, hvl]
end
end Go.Proofs.YtmimfopnhmmlbaaGreatDoor
namespace Go.Proofs.YtmimfopnhmmlbaaGreatDoor
open Go.Ab
section
variable {wk b m fr c : Nat} {Fm : Ft}
theorem HH {hp : List Blk} {x : AS} (h : bg hp Fm b m fr c x) (bb : Sup) (slot : Int) (L : List Blk) :
 ∃ hp', rf D jO [.ptr (.hp m) [] 33, .ptr (.hp b) [] 31, bb.v, .int .i64 slot] ⟨L, hp⟩ = some (.ptr (.hp hp.length) [] 35, ⟨L, hp'⟩) ∧ WkD hp' hp.length b m fr c Fm (fun _ => False) .nils ⟨x, bb, slot, [], 0, fun _ => bE, fun _ => 0⟩ ∧ hp' = hp ++ [.rw (wdV m b .nils ⟨x, bb, slot, [], 0, fun _ => bE, fun _ => 0⟩)] := by
 refine ⟨_, ?_, ⟨h.chg (io hp _ fun _ => False) fun _ h => h.elim, by simp, .nil, fun e => ?_, fun _ h => h.elim, fun h => h, fun _ h => h.elim⟩, rfl⟩
 ·have hz : ao (fun _ => 0) = .agg 50 (List.replicate 8 (.int .i64 0)) := by unfold ao; rw [dk]
  simp only [wdV, hz, Sup.v] at *;rw [aa sp rfl];simp only [go_sem]
 ·have := h.inn _ e; omega
theorem CN {hp : List Blk} {Gs : Ft} {sv : V} {w : AW} (h : WkD hp wk b m fr c Fm Gs sv w) (seq : Int) (L : List Blk) :
 ∃ hp' Gs' sv', rf D eT [.ptr (.hp wk) [] 35, .int .i64 seq] ⟨L, hp⟩ = some (.int .i64 (w.begin seq).2, ⟨L, hp'⟩) ∧ WkD hp' wk b m fr c Fm Gs' sv' (w.begin seq).1 ∧ Chg hp hp' (WdF wk b fr c Fm Gs) (WdF wk b fr c Fm Gs') := by
 have hst := h.st;have hsl := h.slen;unfold AW.begin;by_cases hs : w.st ≠ []
 ·rw [if_pos hs];refine ⟨hp, Gs, sv, ?_, h, .refl _ _⟩;have d1 : (w.st.length : Int) > 0 := by have := List.length_pos_iff.2 hs; omega
  simp only [wdV] at hst;rw [aa cQ rfl];simp only [go_sem, hst, hsl, d1]
 ·have hs0 : w.st = [] := by simpa using hs
  rw [if_neg hs];rw [hs0] at hsl;by_cases ha : seq < 0 ∨ 1099511627776 < seq ∨ 1099511627776 ≤ w.b.gen
  ·rw [if_pos ha];refine ⟨hp, Gs, sv, ?_, h, .refl _ _⟩;simp only [wdV, Sup.v] at hst;rw [aa cQ rfl];by_cases h1 : seq < 0
   ·simp only [go_sem, hst, hsl, h1]
   ·by_cases h2 : seq > 1099511627776
    ·simp only [go_sem, hst, hsl, h1, h2]
    ·have h3 : w.b.gen ≥ 1099511627776 := by omega
     simp only [go_sem, hst, hsl, h1, h2, h3]
  ·rw [if_neg ha];have h1 : ¬ seq < 0 := by omega
   have h2 : ¬ seq > 1099511627776 := by omega
   have h3 : ¬ w.b.gen ≥ 1099511627776 := by omega
   obtain ⟨hp1, p1, p2, p3⟩ := Fl h.q L;by_cases hi : w.x.is = true
   ·rw [if_pos hi];have hm : w.x.marks = (w.x, 3) := by unfold AS.marks; rw [if_pos hi]
    rw [hm] at p1 p2;refine ⟨hp1, Gs, sv, ?_, h.setS p2 p3, pG p3⟩;simp only [wdV, Sup.v] at hst;rw [aa cQ rfl];simp only [go_sem, hst, hsl, h1, h2, h3, p1]
   ·rw [if_neg hi];have hm : w.x.marks = ({ w.x with mark := w.x.work, is := true }, 0) := by unfold AS.marks; rw [if_neg hi]
    rw [hm] at p1 p2;have W1 := h.setS p2 p3;have c1 : Chg hp hp1 (WdF wk b fr c Fm Gs) (WdF wk b fr c Fm Gs) := pG p3;obtain ⟨hp4, G4, sv4, e4, W4, c4⟩ := uQ seq L (by simp) 49 0 rfl W1 hs0;rw [show ((0 : Nat) : Int) = 0 from rfl] at e4
    obtain ⟨X, vd, hap, ed⟩ := xT w.x.work w.x.base ⟨L, hp4⟩;have hlen4 : ∀ j, WdF wk b fr c Fm G4 j → j < hp4.length := W4.inn;have W5 := W4.chg (io hp4 X fun _ => False) fun _ h => h.elim;have c5 : Chg hp4 (hp4 ++ X) (WdF wk b fr c Fm G4) (WdF wk b fr c Fm G4) := LH X;have hnm : NmR (hp4 ++ X) (WdF wk b fr c Fm G4) vd (bH w.x.work w.x.base 7) := by
     rcases hap.at' with ⟨q1, rfl⟩ | ⟨Y, rfl, rfl⟩
     ·rw [q1]; exact .nil
     ·refine .sl _ _ (by rw [← List.append_assoc, ← List.length_append]; simp) fun hh => ?_;have := hlen4 _ hh;simp only at this; omega
    have hdl := ms w.x.work w.x.base 7;have hfl := jR w.x.work (au w.x.base (fun _ => false) 49) 49;simp only at e4 W4 W5;obtain ⟨hp6, G6, sv6, e6, W6, c6⟩ := ug seq (ks := bH w.x.work w.x.base 7) hdl (aG w.x.work (au w.x.base (fun _ => false) 49) 49) hfl (v := vd) (L := L) (bH w.x.work w.x.base 7).length 0 (by omega) W5 hnm (by simp);rw [show ((0 : Nat) : Int) = 0 from rfl] at e6
    have hy : St.elems ⟨L ++ [.rw (.agg 36 [aO (2, 0), aO (3, 0), aO (4, 0)])], hp6⟩ (.sl (.loc L.length) [] 0 3 (some 3) 34) = some ([(2, 0), (3, 0), (4, 0)].map aO) := aV (t := 36) (by simp only [go_sem]) rfl;obtain ⟨hp7, s1, s2, s3, s4⟩ := W6.sr.push (base := L.length) (L ++ [.rw (.agg 36 [aO (2, 0), aO (3, 0), aO (4, 0)])]) (.inr ⟨_, _, _, _, _, rfl⟩) hy (by simp) (by simp [be]; omega) (.inl rfl);have hsr : SlR hp7 (.one hp6.length) 34 36 (.sl (.hp hp6.length) [] 0 ((aG w.x.work (au w.x.base (fun _ => false) 49) 49 ++ (bH w.x.work w.x.base 7).map (fun k => ((1 : Nat), k))).map aO ++ [(2, 0), (3, 0), (4, 0)].map aO).length none 34)
     ((aG w.x.work (au w.x.base (fun _ => false) 49) 49 ++ (bH w.x.work w.x.base 7).map (fun k => ((1 : Nat), k)) ++ [(2, 0), (3, 0), (4, 0)]).map aO) := by
     rw [List.map_append (l₂ := [(2, 0), (3, 0), (4, 0)])];exact .blk _ none _ (.inl rfl) rfl s3
    obtain ⟨A1, A2⟩ := W6.added (w' := w.begun seq) hsr (wc s2 s4) (fun j hj => by cases hj; omega) (by unfold AW.begun; simp only; rw [hm]);refine ⟨_, _, _, ?_, A1, (((c1.trans c4).trans c5).trans c6).trans A2⟩;have st1 := W1.st;have st5 := W5.st;have ss5 := W5.q.st;have st4 := W4.st;have ss4 := W4.q.st;have st6 := W6.st;have ss6 := W6.q.st;have hwl := af st6;have hbl := af ss6;have hwb : wk ≠ b := fun e => W6.n1 (.inl e);have st7 : hp7[wk]? = _ := (s4 wk hwl W6.n3).trans st6;have ss7 : hp7[b]? = _ := (s4 b hbl fun e => W6.n2 b e (.inl rfl)).trans ss6;have hset : ∀ k, (hp7.set wk k)[wk]? = some k := fun k => List.getElem?_set_self (by omega);have hsb : ∀ k, (hp7.set wk k)[b]? = hp7[b]? := fun k => List.getElem?_set_ne hwb;have hrep : List.replicate 3 (V.agg 34 [.int .i64 0, .int .i64 0]) = [.agg 34 [.int .i64 0, .int .i64 0], .agg 34 [.int .i64 0, .int .i64 0], .agg 34 [.int .i64 0, .int .i64 0]] := rfl;have hv2 : aO (2, 0) = .agg 34 [.int .i64 3, .int .i64 0] := rfl;have hv3 : aO (3, 0) = .agg 34 [.int .i64 4, .int .i64 0] := rfl;have hv4 : aO (4, 0) = .agg 34 [.int .i64 5, .int .i64 0] := rfl;have hvl := hnm.lt L.length;rw [hv2, hv3, hv4] at s1;clear W1 W4 W5 W6 A1 A2 hnm c4 c6 c1 c5 s2 s3 s4 p2 p3 h hsr hy;have ht : V.tag (V.sl (.hp hp6.length) [] 0 ((aG w.x.work (au w.x.base (fun _ => false) 49) 49 ++ (bH w.x.work w.x.base 7).map (fun k => ((1 : Nat), k))).map aO ++ [(2, 0), (3, 0), (4, 0)].map aO).length none 34) = 1 := rfl;have hl0 : V.locLt 0 (V.sl (.hp hp6.length) [] 0 ((aG w.x.work (au w.x.base (fun _ => false) 49) 49 ++ (bH w.x.work w.x.base 7).map (fun k => ((1 : Nat), k))).map aO ++ [(2, 0), (3, 0), (4, 0)].map aO).length none 34) = true := rfl;generalize (V.sl (.hp hp6.length) [] 0 ((aG w.x.work (au w.x.base (fun _ => false) 49) 49 ++ (bH w.x.work w.x.base 7).map (fun k => ((1 : Nat), k))).map aO ++ [(2, 0), (3, 0), (4, 0)].map aO).length none 34) = NV at *;generalize (bH w.x.work w.x.base 7) = DL at *;generalize au w.x.base (fun _ => false) 49 = OLD at *;simp only [wdV, AS.r, aW.v, Sup.v, AW.begun, ab, ao] at *;rw [aa cQ rfl];simp only [go_sem, hst, hsl, h1, h2, h3, p1];simp only [go_sem, e4, st4, ss4, ed];simp only [go_sem, e6, st6, hrep, s1, st7, hset, hsb, ss7, ht, hl0, List.set_set]
end
end Go.Proofs.YtmimfopnhmmlbaaGreatDoor
namespace Go.Proofs.YtmimfopnhmmlbaaGreatDoor
open Go.Ab
section
variable {hp hp' : List Blk} {wk b m fr c : Nat} {Fm Fm' Gs : Ft} {sv : V} {w : AW}
theorem Ar {l : List Int} (hl : l.length = 8) {at' : Int} (L : List Blk) : ∀ (n j : Nat) {hp : List Blk} {Fm : Ft} {w : AW}, j + n = 8 → WkD hp wk b m fr c Fm Gs sv w → w.x.M.count + n < 1000000 →
 ∃ hp' Fm' r, rc D L.length (.loop [0, 3, 6, 8] bz) [(0, .ptr (.hp wk) [] 35), (3, .ptr (.loc L.length) [] 24), (6, .int .i64 at'), (8, .int .i64 j)] ⟨L ++ [.rw (lnV l)], hp⟩ = some r ∧
  WkD hp' wk b m fr c Fm' Gs sv { w with x := { w.x with M := (w.x.M.layFrom at' l j n).1 } } ∧ Chg hp hp' (WdF wk b fr c Fm Gs) (WdF wk b fr c Fm' Gs) ∧
  (((w.x.M.layFrom at' l j n).2 = 0 ∧ r = (.exit 0, [(0, .ptr (.hp wk) [] 35), (3, .ptr (.loc L.length) [] 24), (6, .int .i64 at'), (8, .int .i64 8), (24, .bool false)], ⟨L ++ [.rw (lnV l)], hp'⟩)) ∨
   ((w.x.M.layFrom at' l j n).2 ≠ 0 ∧ r = (.ret, [(4, .int .i64 0), (5, .int .i64 (w.x.M.layFrom at' l j n).2)], ⟨L ++ [.rw (lnV l)], hp'⟩)))
 | 0, j, hp, Fm, w, hj, h, _ => by
  have : j = 8 := by omega
  subst this;refine ⟨hp, Fm, _, ?_, h, .refl _ _, .inl ⟨rfl, rfl⟩⟩;rw [ak];simp only [lnV];simp only [go_sem, bz]
 | n + 1, j, hp, Fm, w, hj, h, hc => by
  obtain ⟨hp1, Fm1, e1, e2, e3⟩ := lS h.q.mq (by omega) at' j (l.getD j 0) (L ++ [.rw (lnV l)]);obtain ⟨h1, c1⟩ := h.setM e2 e3 AM.store_n;have hcn := AM.store_count (M := w.x.M) (i := at') (q := j) (v := l.getD j 0);have d1 : (j : Int) < 8 := by omega
  have d2 : (0 : Int) ≤ j := by omega
  have d4 : IntKind.i64.wrap ((j : Int) + 1) = ((j + 1 : Nat) : Int) := ag (by omega) (by omega);have g := aK (f := V.int .u64) (l := l) (i := j) (by omega) 0;have hst := h.st;have z1 : L.length < L.length + 1 := by omega
  simp only [AM.layFrom];by_cases he : (w.x.M.store at' j (l.getD j 0)).2 = 0
  ·rw [if_neg fun hh => hh he];obtain ⟨hp2, Fm2, r, q1, q2, q3, q4⟩ := Ar hl L n (j + 1) (by omega) h1 (by simp only; omega);refine ⟨hp2, Fm2, r, ?_, q2, c1.trans q3, q4⟩;rw [← q1, ak];rw [he] at e1;simp only [wdV, lnV] at *;generalize l.getD j 0 = wd at *;simp only [go_sem, bz, d1, d2, Int.toNat_natCast, g, hst, e1, d4, z1]
  ·rw [if_pos he];refine ⟨hp1, Fm1, _, ?_, h1, c1, .inr ⟨he, rfl⟩⟩;rw [ak];simp only [wdV, lnV] at *;generalize l.getD j 0 = wd at *;simp only [go_sem, bz, d1, d2, Int.toNat_natCast, g, hst, e1, he]
def AW.wr (w : AW) (l : List Int) : AW × Int × Int :=
 if (w.x.lay l).2.2 ≠ 0 then ({ w with x := (w.x.lay l).1 }, 0, (w.x.lay l).2.2)
 else ({ w with x := { (w.x.lay l).1 with M := ((w.x.lay l).1.M.flush 0 (w.x.lay l).2.1).1 } }, (w.x.lay l).2.1, ((w.x.lay l).1.M.flush 0 (w.x.lay l).2.1).2)
theorem AH (w : AW) (l : List Int) (q : Nat) : w.write l q = if (w.wr l).2.2 = 0 then ({ (w.wr l).1 with dir := upd w.dir q (w.wr l).2.1 }, 0) else ((w.wr l).1, (w.wr l).2.2) := by
 unfold AW.write AW.wr;by_cases h : (w.x.lay l).2.2 ≠ 0
 ·rw [if_pos h, if_pos h, if_neg h]
 ·rw [if_neg h, if_neg h];by_cases h2 : ((w.x.lay l).1.M.flush 0 (w.x.lay l).2.1).2 = 0
  ·rw [if_neg (fun hh => hh h2), if_pos h2]
  ·rw [if_pos h2, if_neg h2]
theorem vz (h : WkD hp wk b m fr c Fm Gs sv w) (hc : w.x.M.count + 10 < 1000000) {l : List Int} (hl : l.length = 8) (L : List Blk) :
 ∃ hp' Fm', rf D eG [.ptr (.hp wk) [] 35, lnV l] ⟨L, hp⟩ = some (.tup [.int .i64 (w.wr l).2.1, .int .i64 (w.wr l).2.2], ⟨L, hp'⟩) ∧ WkD hp' wk b m fr c Fm' Gs sv (w.wr l).1 ∧ Chg hp hp' (WdF wk b fr c Fm Gs) (WdF wk b fr c Fm' Gs) := by
 have hst := h.st;have hss := h.q.st;obtain ⟨hp1, e1, e2, e3⟩ := vK h.q.fq (L ++ [.rw (lnV l)]);have h1 := h.setS (h.q.setA e2 e3 (rA h.q.ok.s2) dH.1 dH.2) (uK e3);have c1 : Chg hp hp1 (WdF wk b fr c Fm Gs) (WdF wk b fr c Fm Gs) := pG (uK e3);unfold AW.wr;by_cases he : w.x.A.alloc.2.2 = 0
 ·obtain ⟨hp2, Fm2, r, q1, q2, q3, q4⟩ := Ar (wk := wk) (b := b) (m := m) (fr := fr) (c := c) (Gs := Gs) (sv := sv) hl (at' := w.x.A.alloc.2.1) L 8 0 rfl h1 (by simp only; omega);simp only at q1 q2 q4;rw [show ((0 : Nat) : Int) = 0 from rfl] at q1
  have hlc := AM.layFrom_count (M := w.x.M) (at' := w.x.A.alloc.2.1) (l := l) (n := 8) (j := 0);rw [he] at e1;by_cases he2 : (w.x.M.layFrom w.x.A.alloc.2.1 l 0 8).2 = 0
  ·have hlay : w.x.lay l = ({ w.x with A := w.x.A.alloc.1, M := (w.x.M.layFrom w.x.A.alloc.2.1 l 0 8).1 }, w.x.A.alloc.2.1, 0) := by
    unfold AS.lay;rw [if_neg (by simp [he]), if_neg (by simp [he2]), he2]
   rw [hlay];simp only;rw [if_neg (by simp)];rcases q4 with ⟨_, rfl⟩ | ⟨z, _⟩
   ·obtain ⟨hp3, s1, s2, s3⟩ := qN q2.q.mq (by simp only; omega) 0 w.x.A.alloc.2.1 (L ++ [.rw (lnV l)]);obtain ⟨W3, c3⟩ := q2.setM s2 s3 cB.2;simp only at s1 W3;have hst2 := q2.st;refine ⟨hp3, Fm2, ?_, W3, (c1.trans q3).trans c3⟩;generalize w.x.A.alloc.2.1 = at1 at *;generalize ((w.x.M.layFrom at1 l 0 8).1.flush 0 at1) = fz at *;generalize (w.x.M.layFrom at1 l 0 8) = lz at *;simp only [wdV, AS.r, aW.v, lnV] at *;rw [aa eO rfl];simp only [go_sem, hst, hss, e1];simp only [go_sem, q1, hst2, s1]
   ·exact absurd he2 z
  ·have hlay : w.x.lay l = ({ w.x with A := w.x.A.alloc.1, M := (w.x.M.layFrom w.x.A.alloc.2.1 l 0 8).1 }, 0, (w.x.M.layFrom w.x.A.alloc.2.1 l 0 8).2) := by
    unfold AS.lay;rw [if_neg (by simp [he]), if_pos he2]
   rw [hlay];simp only;rw [if_pos he2];rcases q4 with ⟨z, _⟩ | ⟨_, rfl⟩
   ·exact absurd z he2
   ·refine ⟨hp2, Fm2, ?_, q2, c1.trans q3⟩;generalize w.x.A.alloc.2.1 = at1 at *;generalize (w.x.M.layFrom at1 l 0 8) = lz at *;simp only [wdV, AS.r, aW.v, lnV] at *;rw [aa eO rfl];simp only [go_sem, hst, hss, e1];simp only [go_sem, q1]
 ·have hn : w.x.A.alloc = (w.x.A, 0, 10) := by
   unfold AF.alloc at he ⊢;split
   ·rename_i hq; rw [hq] at he; exact absurd rfl he
   ·rfl
  rw [hn] at e1 h1;have hlay : w.x.lay l = (w.x, 0, 10) := by
   unfold AS.lay;rw [hn]; rfl
  rw [hlay];simp only;rw [if_pos (by decide)];refine ⟨hp1, Fm, ?_, h1, c1⟩;simp only [wdV, AS.r, aW.v, lnV] at *;rw [aa eO rfl];simp only [go_sem, hst, hss, e1]
end
end Go.Proofs.YtmimfopnhmmlbaaGreatDoor
namespace Go.Proofs.YtmimfopnhmmlbaaGreatDoor
open Go.Ab
section
variable {hp hp' : List Blk} {wk b m fr c : Nat} {Fm Fm' Gs : Ft} {sv : V} {w : AW}
def d7M (d : Nat → Int) (n i : Nat) : Int := if i < n then d i else 0
theorem Hz (h : WkD hp wk b m fr c Fm Gs sv w) (L : List Blk) (v : V) (hv : ∀ n, v.locLt n = true) :
 rc D L.length (.loop [0, 9, 10] cD) [(0, .ptr (.hp wk) [] 35), (9, .ptr (.loc (L.length + 1)) [] 60), (10, .int .i64 0)] ⟨L ++ [.rw v, .rw (.agg 60 (List.replicate 7 (.int .i64 0)))], hp⟩ =
  some (.exit 1, [(0, .ptr (.hp wk) [] 35), (9, .ptr (.loc (L.length + 1)) [] 60), (10, .int .i64 7), (63, .bool false)], ⟨L ++ [.rw v, .rw (d7V w.dir)], hp⟩) := by
 have hst := h.st;have hz : List.replicate 7 (V.int .i64 0) = tab 7 fun i => .int .i64 (d7M w.dir 0 i) := by
  rw [dk]; rfl
 have he : d7V w.dir = .agg 60 (tab 7 fun i => .int .i64 (d7M w.dir 7 i)) := by
  show V.agg 60 _ = _;rw [aP (g := fun i => V.int .i64 (d7M w.dir 7 i)) fun i hi => by unfold d7M; rw [if_pos hi]]
 rw [hz, he];refine aH (fun x : Nat => [(0, .ptr (.hp wk) [] 35), (9, .ptr (.loc (L.length + 1)) [] 60), (10, .int .i64 x)]) (fun x => ⟨L ++ [.rw v, .rw (.agg 60 (tab 7 fun i => .int .i64 (d7M w.dir x i)))], hp⟩) (fun _ => _) (fun x => 7 - x) (fun x => x ≤ 7) 0 ?_ (by omega) rfl rfl;intro x hx;by_cases c1 : x < 7
 ·left;have d1 : (x : Int) < 7 := by omega
  have d2 : (0 : Int) ≤ x := by omega
  have d3 : (x : Int) < 8 := by omega
  have d4 : IntKind.i64.wrap ((x : Int) + 1) = ((x + 1 : Nat) : Int) := ag (by omega) (by omega);have g := ai (f := fun i => V.int .i64 (w.dir i)) (show x < 8 by omega);have g7 := ai (f := fun i => V.int .i64 (d7M w.dir x i)) c1;have hs := bw 7 (fun i => V.int .i64 (d7M w.dir x i)) x (.int .i64 (w.dir x));have hu : tab 7 (upd (fun i => V.int .i64 (d7M w.dir x i)) x (.int .i64 (w.dir x))) = tab 7 fun i => V.int .i64 (d7M w.dir (x + 1) i) := aP fun i _ => by
   unfold upd d7M;by_cases e : i = x
   ·subst e; rw [if_pos rfl, if_pos (by omega)]
   ·rw [if_neg e];by_cases e2 : i < x
    ·simp only [e2, show i < x + 1 by omega, if_true]
    ·simp only [e2, show ¬ i < x + 1 by omega, if_false]
  rw [hu] at hs;have z1 : L.length + 1 < L.length + 2 := by omega
  have hv2 := hv (L.length + 2);refine ⟨x + 1, by omega, by omega, rfl, ?_⟩;simp only;rw [← hs];simp only [wdV, ao] at *;generalize (tab 7 fun i => V.int .i64 (d7M w.dir x i)) = T7 at *;simp only [go_sem, cD, d1, d2, d3, hst, Int.toNat_natCast, g, g7, d4, z1, hv2]
 ·right;have : x = 7 := by omega
  subst this;simp only [go_sem, cD]
theorem AJ (h : WkD hp wk b m fr c Fm Gs sv w) (hc : w.x.M.count + 12 < 1000000) (hg : 0 ≤ w.b.gen ∧ w.b.gen ≤ 1099511627777) (hs : w.slot = 0 ∨ w.slot = 1) {p : Nat × Int} (hp4 : 4 ≤ p.1) (hp9 : p.1 < 1000) (L : List Blk) :
 ∃ hp' Fm', rf D cX [.ptr (.hp wk) [] 35, aO p] ⟨L, hp⟩ = some (.int .i64 w.commit.2, ⟨L, hp'⟩) ∧ WkD hp' wk b m fr c Fm' Gs sv w.commit.1 ∧ Chg hp hp' (WdF wk b fr c Fm Gs) (WdF wk b fr c Fm' Gs) := by
 obtain ⟨hp1, F1, e1, e2, e3⟩ := C8 h.q.mq hc (1 - w.slot) w.nextB (L ++ [.rw (aO p), .rw w.nextB.v]);obtain ⟨q1, q2⟩ := h.setM e2 e3 zW;have hst := h.st;have hst1 := q1.st;have d1 : IntKind.i64.wrap (w.b.gen + 1) = w.b.gen + 1 := ag (by omega) (by omega);have d2 : IntKind.i64.wrap (1 - w.slot) = 1 - w.slot := ag (by omega) (by omega);have g7 := ai (f := fun i => V.int .i64 (w.dir i)) (show 7 < 8 by omega);have k1 : ¬ ((p.1 + 1 : Nat) : Int) = 1 := by omega
 have k2 : ¬ ((p.1 + 1 : Nat) : Int) = 2 := by omega
 have k3 : ¬ ((p.1 + 1 : Nat) : Int) = 3 := by omega
 have k4 : ¬ ((p.1 + 1 : Nat) : Int) = 4 := by omega
 unfold AW.commit;by_cases he : (w.x.M.wrs (1 - w.slot) w.nextB).2 = 0
 ·rw [if_neg (by simp [he])];obtain ⟨hp2, s1, s2, s3⟩ := BA q1.q w.dir (L ++ [.rw (aO p), .rw w.nextB.v]);have q3 := q1.setS s2 s3;have hst2 := q3.st;obtain ⟨q4, q5⟩ := q3.setB (w' := { w with x := (AS.commit { w.x with M := (w.x.M.wrs (1 - w.slot) w.nextB).1 } w.dir).1, b := w.nextB, slot := 1 - w.slot }) rfl q3.sr;have hwl := af hst2;have hset : ∀ k, (hp2.set wk k)[wk]? = some k := fun k => List.getElem?_set_self hwl;refine ⟨_, F1, ?_, q4, (q2.trans (pG s3)).trans q5⟩;rw [he] at e1;generalize (w.x.M.wrs (1 - w.slot) w.nextB) = wr at *;generalize AS.commit { w.x with M := wr.1 } w.dir = cm at *;clear q1 q2 q3 q4 q5 h e2 e3 s2 s3;simp only [aO] at *;generalize ((p.1 + 1 : Nat) : Int) = pk at *;simp only [wdV, Sup.v, AW.nextB, ao] at *;rw [aa aT rfl];simp only [go_sem, hst, k1, k2, k3, k4, d1, d2, g7, e1];simp only [go_sem, hst1, s1];simp only [go_sem, hst2, hset, d2, List.set_set]
 ·rw [if_pos he];refine ⟨hp1, F1, ?_, q1, q2⟩;generalize (w.x.M.wrs (1 - w.slot) w.nextB) = wr at *;clear q1 q2 h e2 e3;simp only [aO] at *;generalize ((p.1 + 1 : Nat) : Int) = pk at *;simp only [wdV, Sup.v, AW.nextB, ao] at *;rw [aa aT rfl];simp only [go_sem, hst, k1, k2, k3, k4, d1, d2, g7, e1, he]
theorem F0 (h : WkD hp wk b m fr c Fm Gs sv w) (hc : w.x.M.count + 12 < 1000000) (hF : w.Fit) {p : Nat × Int} (hp1 : p.1 = 1 → 0 ≤ p.2 ∧ p.2 < 7) (hp9 : p.1 < 1000) (ht : w.tbl = w.x.mark) (L : List Blk) :
 ∃ hp' Fm', rf D cX [.ptr (.hp wk) [] 35, aO p] ⟨L, hp⟩ = some (.int .i64 (w.doStep p).2, ⟨L, hp'⟩) ∧ WkD hp' wk b m fr c Fm' Gs sv (w.doStep p).1 ∧ Chg hp hp' (WdF wk b fr c Fm Gs) (WdF wk b fr c Fm' Gs) := by
 obtain ⟨q, n⟩ := p;have hst := h.st;have hss := h.q.st
 match q, hp1, hp9 with
 | 0, _, _ =>
  obtain ⟨hp1, e1, e2, e3⟩ := qN h.q.mq (by omega) 0 n (L ++ [.rw (aO (0, n))]);obtain ⟨W, c1⟩ := h.setM e2 e3 cB.2;refine ⟨hp1, Fm, ?_, W, c1⟩;unfold AW.doStep;have hv : aO (0, n) = .agg 34 [.int .i64 1, .int .i64 n] := rfl;rw [hv] at e1 ⊢;simp only [wdV] at *;rw [aa aT rfl];simp only [go_sem, hst, e1]
 | 1, hp1, _ =>
  obtain ⟨h0, h7⟩ := hp1 rfl;obtain ⟨k, rfl⟩ : ∃ k : Nat, n = k := ⟨n.toNat, by simp only at h0; omega⟩;simp only at h7;have hlf := fun s => sY w.x.mark (k := k) (by omega) s;obtain ⟨hp1, F1, e1, W, c1⟩ := vz h (by omega) (tR w.x.mark k) (L ++ [.rw (aO (1, k)), .rw (lnV (cY w.x.mark k))]);have hv : aO (1, (k : Int)) = .agg 34 [.int .i64 2, .int .i64 k] := rfl;have hst1 := W.st;have dk8 : (k : Int) < 8 := by omega
  have dk0 : (0 : Int) ≤ k := by omega
  have gd := ai (f := fun i => V.int .i64 ((w.wr (cY w.x.mark k)).1.dir i)) (show k < 8 by omega);unfold AW.doStep;simp only [Int.toNat_natCast];rw [ht, AH];rw [← Je] at hlf;by_cases he : (w.wr (cY w.x.mark k)).2.2 = 0
  ·rw [if_pos he];obtain ⟨W2, c2⟩ := W.setB (w' := { (w.wr (cY w.x.mark k)).1 with dir := upd w.dir k (w.wr (cY w.x.mark k)).2.1 }) rfl (by
    have : (w.wr (cY w.x.mark k)).1.st = w.st := by unfold AW.wr; split <;> rfl
    exact W.sr)
   have hdd : (w.wr (cY w.x.mark k)).1.dir = w.dir := by unfold AW.wr; split <;> rfl
   have hds := yo (d := w.dir) (q := k) (y := (w.wr (cY w.x.mark k)).2.1);refine ⟨_, F1, ?_, W2, c1.trans c2⟩;rw [he] at e1;rw [hdd] at gd;have hst1' := hst1;simp only [wdV, hdd, ao] at hst1';clear W W2 c1 c2 h hst1;rw [hv] at e1 ⊢;simp only [wdV, AS.r, aW.v, lnV, ao, ab] at *;rw [← hds];generalize w.wr (cY w.x.mark k) = wr at *;generalize cY w.x.mark k = lf at *;rw [aa aT rfl];simp only [go_sem, hst, hss, hlf];simp only [go_sem, e1, hst1', dk8, dk0, Int.toNat_natCast, gd]
  ·rw [if_neg he];refine ⟨hp1, F1, ?_, W, c1⟩;clear W c1 h hst1 gd;rw [hv] at e1 ⊢;simp only [wdV, AS.r, aW.v, lnV, ab] at *;generalize w.wr (cY w.x.mark k) = wr at *;generalize cY w.x.mark k = lf at *;rw [aa aT rfl];simp only [go_sem, hst, hss, hlf];simp only [go_sem, e1, he]
 | 2, _, _ =>
  have hrt := fun s => sT w.dir s;rw [← J0] at hrt;have hlv := Hz h L (aO (2, n)) (fun n => by simp only [aO]; simp only [go_sem]);obtain ⟨hp1, F1, e1, W, c1⟩ := vz h (by omega) (t5 w.dir) (L ++ [.rw (aO (2, n)), .rw (d7V w.dir), .rw (lnV (dL w.dir))]);have hv : aO (2, n) = .agg 34 [.int .i64 3, .int .i64 n] := rfl;have hst1 := W.st;have gd := ai (f := fun i => V.int .i64 (w.dir i)) (show 7 < 8 by omega);unfold AW.doStep;simp only;rw [AH];by_cases he : (w.wr (dL w.dir)).2.2 = 0
  ·rw [if_pos he];obtain ⟨W2, c2⟩ := W.setB (w' := { (w.wr (dL w.dir)).1 with dir := upd w.dir 7 (w.wr (dL w.dir)).2.1 }) rfl W.sr;have hdd : (w.wr (dL w.dir)).1.dir = w.dir := by unfold AW.wr; split <;> rfl
   have hds := yo (d := w.dir) (q := 7) (y := (w.wr (dL w.dir)).2.1);refine ⟨_, F1, ?_, W2, c1.trans c2⟩;rw [he] at e1;have hst1' := hst1;simp only [wdV, hdd, ao] at hst1';clear W W2 c1 c2 h hst1;rw [hv] at e1 hlv ⊢;simp only [d7V] at e1 hlv hrt;simp only [wdV, AS.r, aW.v, lnV, ao] at *;rw [← hds];generalize w.wr (dL w.dir) = wr at *;generalize dL w.dir = lf at *;rw [aa aT rfl];simp only [go_sem, hlv, hrt];simp only [go_sem, e1, hst1', gd]
  ·rw [if_neg he];refine ⟨hp1, F1, ?_, W, c1⟩;clear W c1 h hst1 gd;rw [hv] at e1 hlv ⊢;simp only [d7V] at e1 hlv hrt;simp only [wdV, AS.r, aW.v, lnV] at *;generalize w.wr (dL w.dir) = wr at *;generalize dL w.dir = lf at *;rw [aa aT rfl];simp only [go_sem, hlv, hrt];simp only [go_sem, e1, he]
 | 3, _, _ =>
  obtain ⟨hp1, F1, e1, e2, e3⟩ := vq h.q.mq (by omega) 0 (L ++ [.rw (aO (3, n))]);have hn : (w.x.M.fence 0).1.n = w.x.M.n := by
   unfold AM.fence;rw [if_neg (by omega)];split
   ·rfl
   ·exact (cC _).1
  obtain ⟨W, c1⟩ := h.setM e2 e3 hn;refine ⟨hp1, F1, ?_, W, c1⟩;unfold AW.doStep;have hv : aO (3, n) = .agg 34 [.int .i64 4, .int .i64 n] := rfl;rw [hv] at e1 ⊢;simp only [wdV] at *;rw [aa aT rfl];simp only [go_sem, hst, e1]
 | q + 4, _, hp9 => exact AJ h hc hF.g hF.s (p := (q + 4, n)) (by simp only; omega) hp9 L
end
end Go.Proofs.YtmimfopnhmmlbaaGreatDoor
namespace Go.Proofs.YtmimfopnhmmlbaaGreatDoor
open Go.Ab
section
variable {hp hp' : List Blk} {wk b m fr c : Nat} {Fm Fm' Gs : Ft} {sv : V} {w : AW}
theorem E1 (h : WkD hp wk b m fr c Fm Gs sv w) (hc : w.x.M.count + 12 < 1000000) (hF : w.Fit) (h9 : ∀ p ∈ w.st, p.1 < 1000) (hl : w.st.length ≤ 1000) (ht : w.st ≠ [] → w.tbl = w.x.mark) (L : List Blk) :
 ∃ hp' Fm' Gs' sv', rf D ff [.ptr (.hp wk) [] 35] ⟨L, hp⟩ = some (.tup [.bool w.step.2.1, .int .i64 w.step.2.2], ⟨L, hp'⟩) ∧ WkD hp' wk b m fr c Fm' Gs' sv' w.step.1 ∧ Chg hp hp' (WdF wk b fr c Fm Gs) (WdF wk b fr c Fm' Gs') := by
 have hst := h.st;have hsl := h.slen;unfold AW.step;cases hw : w.st with
 | nil =>
  refine ⟨hp, Fm, Gs, sv, ?_, h, .refl _ _⟩;rw [hw] at hsl;simp only [wdV] at hst;rw [aa cZ rfl];simp only [go_sem, hst, hsl]
 | cons p r =>
  rw [hw] at hsl hl;have hg : (w.st.map aO)[0]? = some (aO p) := by rw [hw]; rfl
  have hsad : fY 34 sv (.int .i64 0) = some (elq sv 0 [] 34) := (h.sr.rs L).sadq hg (k := .i64);have hld : ldv ⟨L, hp⟩ 34 (elq sv 0 [] 34) = V.at [] (aO p) := (h.sr.rs L).ldq hg;have hmem : p ∈ w.st := by rw [hw]; exact List.mem_cons_self
  obtain ⟨hp1, F1, e1, e2, e3⟩ := F0 h hc hF (p := p) (fun e => hF.k p hmem e) (h9 p hmem) (ht (by rw [hw]; simp)) (L ++ [.rw (aO p)]);have hst1 := e2.st;have hwl := af hst1;have d1 : ¬ ((r.length + 1 : Nat) : Int) = 0 := by omega
  have hset : ∀ k, (hp1.set wk k)[wk]? = some k := fun k => List.getElem?_set_self hwl;simp only;by_cases he : (w.doStep p).2 = 0
  ·rw [if_pos he];have hsr : SlR hp1 Gs 34 36 sv ((p :: r).map aO) := by have := e2.sr; rwa [AW.doStep_st, hw] at this
   obtain ⟨v1, v2, _, q2, rs, sh⟩ := hsr.sub (n := 1) (by simp);rw [show ((1 : Nat) : Int) = 1 from rfl] at q2
   have hrs : ∀ L, St.elems ⟨L, hp1 ++ [.rw (.agg 36 [])]⟩ v2 = some (r.map aO) := fun L => (rs (hp1 ++ [.rw (.agg 36 [])]) (fun j hj => List.getElem?_append_left (e2.gi j hj)) L).2.elems;obtain ⟨H1, j1, c1, b1, b2, b3, b4, b5, b6, b7⟩ := tI (e := 34) (r := 36) (H := hp1) sh hrs (GF r) (by
    rw [List.length_map]; simp only [List.length_cons] at hl; simp [be]; omega)
   obtain ⟨q4, q5⟩ := e2.added (w' := { (w.doStep p).1 with st := r }) b7 ⟨by omega, fun j hj _ => b4 j hj, fun j hj => .inr (by have : j = j1 := hj; omega)⟩ (fun j hj => by have : j = j1 := hj; omega) rfl;refine ⟨_, F1, _, _, ?_, q4, e3.trans q5⟩;rw [he] at e1;have hdc : decide (r = []) = decide ((r.length : Int) = 0) := by
    apply decide_eq_decide.2;cases r <;> simp <;> omega
   rw [hdc];have hln : (r.map aO).length = r.length := List.length_map ..;rw [hln] at b6 ⊢;have hst2 : (hp1 ++ [Blk.rw (.agg 36 [])])[wk]? = _ := (List.getElem?_append_left hwl).trans hst1;have hst3 : H1[wk]? = _ := (b4 wk hwl).trans hst1;have hset1 : ∀ k, (H1.set wk k)[wk]? = some k := fun k => List.getElem?_set_self (by omega);have hdv : aO p = .agg 34 [.int .i64 ((p.1 + 1 : Nat) : Int), .int .i64 p.2] := rfl;generalize (w.doStep p).1 = w1 at *;clear q4 q5 e2 e3 hsr h hg rs;rw [hdv] at e1 hld;generalize ((p.1 + 1 : Nat) : Int) = pk at *;simp only [wdV] at *;rw [aa cZ rfl];simp only [go_sem, hst, hsl, d1, hsad, hld];simp only [go_sem, e1, List.replicate_zero, hst2, q2, b6, hst3, hset1]
  ·rw [if_neg he];have hdv : aO p = .agg 34 [.int .i64 ((p.1 + 1 : Nat) : Int), .int .i64 p.2] := rfl;by_cases he2 : (w.doStep p).2 = 10
   ·rw [if_pos he2];obtain ⟨hp2, s1, s2, s3⟩ := Db e2.q (L ++ [.rw (aO p)]);have q3 := e2.setS s2 s3;have hst2 := q3.st;obtain ⟨q4, q5⟩ := q3.setB (sv' := .nils) (w' := { (w.doStep p).1 with x := (w.doStep p).1.x.abort.1, st := [] }) rfl .nil;refine ⟨_, F1, Gs, .nils, ?_, q4, (e3.trans (pG s3)).trans q5⟩;rw [he2] at e1;generalize (w.doStep p).1 = w1 at *;clear q4 q5 q3 e2 e3 h hg s2 s3;rw [hdv] at e1 hld s1;generalize ((p.1 + 1 : Nat) : Int) = pk at *;simp only [wdV] at *;rw [aa cZ rfl];simp only [go_sem, hst, hsl, d1, hsad, hld];simp only [go_sem, e1, hst1, s1, hst2]
   ·rw [if_neg he2];refine ⟨hp1, F1, Gs, sv, ?_, e2, e3⟩;generalize w.doStep p = dp at *;clear e2 e3 h hg;rw [hdv] at e1 hld;generalize ((p.1 + 1 : Nat) : Int) = pk at *;simp only [wdV] at *;rw [aa cZ rfl];simp only [go_sem, hst, hsl, d1, hsad, hld];simp only [go_sem, e1, he, he2]
end
end Go.Proofs.YtmimfopnhmmlbaaGreatDoor
namespace Go.Proofs.YtmimfopnhmmlbaaGreatDoor
open Go.Ab
theorem qT {α : Type} {l m : List α} (h : l <+: m) {j : Nat} (hj : j < l.length) : m[j]? = l[j]? := by
 rw [List.getElem?_eq_getElem hj];exact aE h (List.getElem?_eq_getElem hj)
theorem zG {H : List Blk} {G : Ft} {v : V} {l : List (Nat × Int)} (h : StR H G v l) (hi : Inn H G) (hm : l.length < 1000) :
 ∃ H1 v', H <+: H1 ∧ (∀ L, rf D fV [v] ⟨L, H⟩ = some (v', ⟨L, H1⟩)) ∧ StR H1 (fun j => H.length ≤ j ∧ j < H1.length) v' l := by
 by_cases hv : v = .nils
 ·subst hv;cases h;refine ⟨H, .nils, List.prefix_refl _, fun L => ?_, .nil⟩;rw [aa fZ rfl];simp only [go_sem]
 ·obtain ⟨a, p, o, n, c', rfl⟩ := h.shape.resolve_left hv;have hel : ∀ L, St.elems ⟨L, H ++ [.rw (.agg 63 [])]⟩ (.sl a p o n c' 47) = some (l.map bn) := fun L => ((h.eqv (hp' := H ++ [.rw (.agg 63 [])]) fun j hj => List.getElem?_append_left (hi j hj)).rs L).elems;have h0 : SlR (H ++ [.rw (.agg 63 [])]) (fun i => i = H.length) 47 63 (.sl (.hp H.length) [] 0 ([] : List V).length (some ([] : List V).length) 47) [] := .blk _ _ _ (.inr rfl) rfl (by simp);by_cases hn : l = []
  ·subst hn;refine ⟨H ++ [.rw (.agg 63 [])], .sl (.hp H.length) [] 0 0 (some 0) 47, List.prefix_append _ _, fun L => ?_, .emp _⟩;have key : ∀ base, ay base true 63 47 (.sl (.hp H.length) [] 0 0 (some 0) 47) (.sl a p o n c' 47) ⟨L, H ++ [.rw (.agg 63 [])]⟩ = some (.sl (.hp H.length) [] 0 0 (some 0) 47, ⟨L, H ++ [.rw (.agg 63 [])]⟩) := by
    intro base;unfold ay;have e1 : St.elems ⟨L, H ++ [.rw (.agg 63 [])]⟩ (.sl (.hp H.length) [] 0 0 (some 0) 47) = some [] := h0.elems L;have e3 : V.slIs 47 (.sl (.hp H.length) [] 0 0 (some 0) 47) = true := by simp [V.slIs]
    have e4 : V.elIs 47 (.sl a p o n c' 47) = true := by simp [V.elIs]
    rw [e1, hel L, e3, e4];rfl
   rw [aa fZ rfl];simp only [go_sem, List.replicate_zero, key]
  ·refine ⟨H ++ [.rw (.agg 63 []), .rw (.agg 63 (l.map bn))], .sl (.hp (H.length + 1)) [] 0 l.length none 47, List.prefix_append _ _, fun L => ?_, .sl (H.length + 1) 0 (l.map bn) l (by simp) ⟨by omega, by simp⟩ fun j x hx => by rw [Nat.zero_add]; exact hx⟩;have key : ∀ base, ay base true 63 47 (.sl (.hp H.length) [] 0 0 (some 0) 47) (.sl a p o n c' 47) ⟨L, H ++ [.rw (.agg 63 [])]⟩ = some (.sl (.hp (H.length + 1)) [] 0 l.length none 47, ⟨L, H ++ [.rw (.agg 63 []), .rw (.agg 63 (l.map bn))]⟩) := by
    intro base;have := oj (base := base) (h := true) (r := 63) (e := 47) (x := .sl (.hp H.length) [] 0 0 (some 0) 47) (old := []) (new := l.map bn) (s := ⟨L, H ++ [.rw (.agg 63 [])]⟩) (.inr ⟨_, _, _, _, _, rfl⟩) (.inr ⟨_, _, _, _, _, rfl⟩) (h0.elems L) (hel L) (by simpa using hn) (by simp [be]; omega) (.inr (by simp only [pY, q8, List.nil_append, Ce, Bool.or_true]));rw [this];have hp0 : 0 < l.length := List.length_pos_iff.2 hn;simp only [km, Option.map_some, List.length_nil, List.length_map, Nat.zero_add, hp0, decide_true, if_true];simp [St.fresh, St.new]
   rw [aa fZ rfl];simp only [go_sem, List.replicate_zero, key]
theorem CF {hp : List Blk} {Fm Fm' Gs : Ft} {wk a m fr a' m' fr' : Nat} {sv : V} {w : AW} (h : WkQ hp wk a m fr Fm Gs sv w) (hl : w.st.length < 1000) (h' : aN hp Fm' a' m' fr' w.x) (L : List Blk) :
 ∃ hp' sv' Gs', rf D lH [.ptr (.hp wk) [] 61, .ptr (.hp m') [] 59, .ptr (.hp a') [] 43] ⟨L, hp⟩ = some (.ptr (.hp hp.length) [] 61, ⟨L, hp'⟩) ∧ WkQ hp' hp.length a' m' fr' Fm' Gs' sv' w ∧ hp <+: hp' ∧ hp.length < hp'.length ∧ ∀ j, Gs' j → hp.length < j := by
 have hst := h.st;have hwl := af hst;have h1 : StR (hp ++ [.rw (wkV m a sv w)]) Gs sv w.st := h.sr.eqv fun j hj => List.getElem?_append_left (h.gi j hj);obtain ⟨H1, v', p1, e1, s1⟩ := zG h1 (fun j hj => by have := h.gi j hj; simp; omega) hl;have l1 : hp.length + 1 ≤ H1.length := by have := p1.length_le; simpa using this
 have hlen : (hp ++ [Blk.rw (wkV m a sv w)]).length = hp.length + 1 := by simp
 rw [hlen] at s1;have g1 : H1[hp.length]? = some (.rw (wkV m a sv w)) := aE p1 (by simp);have pre : hp <+: H1 := (List.prefix_append _ _).trans p1;obtain ⟨t, ht⟩ := p1;have hc : Chg hp (H1.set hp.length (.rw (wkV m' a' v' w))) (fun _ => False) (fun _ => False) := ⟨by simp; omega, fun j hj _ => by rw [List.getElem?_set_ne (by omega)]; exact qT pre hj, fun _ h => h.elim⟩;refine ⟨H1.set hp.length (.rw (wkV m' a' v' w)), v', fun j => hp.length + 1 ≤ j ∧ j < H1.length, ?_, ⟨aN.chg h' hc (fun _ h => h.elim) fun h => h, List.getElem?_set_self (by omega), s1.eqv fun j hj => List.getElem?_set_ne (by omega), fun e => ?_, fun j hj he => ?_, fun e => by omega, fun e => by omega, fun j hj => by rw [List.length_set]; exact hj.2⟩, ?_, by simp; omega, fun j hj => by omega⟩
 ·have hvt := s1.tag;have hs0 := h.sr.lt;have hvl := s1.lt;have hst1 : (hp ++ [Blk.rw (wkV m a sv w)])[wk]? = some (.rw (wkV m a sv w)) := (List.getElem?_append_left hwl).trans hst;have hset : ∀ k, (H1.set hp.length k)[hp.length]? = some k := fun k => List.getElem?_set_self (by omega);clear h h1 h' s1 hc;simp only [wkV, Sup.v, ab, ao] at *;rw [aa u7 rfl];simp only [go_sem, hst, hst1, hs0];simp only [go_sem, e1, g1, hset, hvt, hvl, List.set_set]
 ·have := h'.inn _ e; omega
 ·have := h'.inn _ he; omega
 ·rw [List.prefix_iff_eq_take];apply List.ext_getElem?;intro j;by_cases hj : j < hp.length
  ·rw [List.getElem?_take, if_pos hj, List.getElem?_set_ne (by omega)]; exact (qT pre hj).symm
  ·rw [List.getElem?_eq_none (by omega), List.getElem?_take, if_neg hj]
end Go.Proofs.YtmimfopnhmmlbaaGreatDoor
namespace Go.Proofs.YtmimfopnhmmlbaaGreatDoor
open Go.Ab
def AS.Ver (x : AS) : Prop := ∀ i, i < 49 → 0 ≤ (x.work i).ver ∧ (x.work i).ver ≤ 16777215
theorem AS.set_ver {x : AS} (h : x.Ver) (id word v : Int) : (x.set id word v).1.Ver := by
 unfold AS.set;split
 ·exact h
 ·split
  ·exact h
  ·split
   ·exact h
   ·split
    ·exact h
    ·split
     ·exact h
     ·have hw := (AS.lay_work (x := x) ((x.M.load (x.work id.toNat).line).1.set word.toNat v)).1;simp only;split
      ·intro i hi; rw [hw]; exact h i hi
      ·exact I0 h (h _ (by omega))
theorem AS.make_ver {x : AS} (h : x.Ver) (k : Int) : (x.make k).1.Ver := by
 unfold AS.make;split
 ·exact h
 ·rename_i h0;have hn := xb (t := x.work) (k := k) (by simpa using h0);have hw := (AS.lay_work (x := x) zl).1;simp only;split
  ·intro i hi; rw [hw]; exact h i hi
  ·exact I0 h (by simp only; rw [hn.2.2.1]; exact h _ (by omega))
theorem AS.ends_ver {x : AS} (h : x.Ver) (id : Int) : (x.ends id).1.Ver := by
 unfold AS.ends;split
 ·exact h
 ·rename_i h0;have hi := zT (by simpa using h0);exact I0 h (F3 (h _ (by omega)).1 (h _ (by omega)).2)
theorem vH {M : AM} {c : Int} : (M.fence c).1.count ≤ M.count + 1 := by
 unfold AM.fence;split
 ·simp only; omega
 ·split
  ·simp only [AM.out]; omega
  ·simp only; rw [(cC _).2.1]; simp only [AM.stepped]; omega
theorem Hp {M : AM} {s : Int} {b : Sup} : (M.wrs s b).1.count ≤ M.count + 11 := by
 have h1 := AM.store_count (M := M) (i := s) (q := 7) (v := 0);have h2 := AM.layFrom_count (M := (M.store s 7 0).1) (at' := s) (l := bo b) (n := 8) (j := 0);have h3 := (cB (M := ((M.store s 7 0).1.layFrom s (bo b) 0 8).1) (c := 0) (i := s)).1;have h4 := vH (M := (((M.store s 7 0).1.layFrom s (bo b) 0 8).1.flush 0 s).1) (c := 0);unfold AM.wrs;simp only;split
 ·simp only; omega
 ·split
  ·omega
  ·split
   ·omega
   ·split <;> omega
theorem lay_count {x : AS} {l : List Int} : (x.lay l).1.M.count ≤ x.M.count + 8 := by
 have := AM.layFrom_count (M := x.M) (at' := x.A.alloc.2.1) (l := l) (n := 8) (j := 0);unfold AS.lay;split
 ·simp only; omega
 ·simp only; omega
theorem E0 {x : AS} {l : List Int} : (x.lay l).1.M.n = x.M.n := by
 unfold AS.lay;split
 ·rfl
 ·exact AM.layFrom_n
theorem Mo {M : AM} {c : Int} : (M.fence c).1.n = M.n := by
 unfold AM.fence;split
 ·rfl
 ·split
  ·rfl
  ·exact (cC _).1
structure LN (w v : AW) : Prop where
 work : v.x.work = w.x.work
 mark : v.x.mark = w.x.mark
 tbl : v.tbl = w.tbl
 gen : v.b.gen = w.b.gen ∨ v.b.gen = w.b.gen + 1
 slot : v.slot = w.slot ∨ v.slot = 1 - w.slot
 cnt : v.x.M.count ≤ w.x.M.count + 11
 mn : v.x.M.n = w.x.M.n
theorem BK (w : AW) (l : List Int) (q : Nat) : LN w (w.write l q).1 := by
 have hl := lay_count (x := w.x) (l := l);have hf := (cB (M := (w.x.lay l).1.M) (c := 0) (i := (w.x.lay l).2.1)).1;have hw := AS.lay_work (x := w.x) l;have hn := E0 (x := w.x) (l := l);have hm := (cB (M := (w.x.lay l).1.M) (c := 0) (i := (w.x.lay l).2.1)).2;unfold AW.write;split
 ·exact ⟨hw.1, hw.2.2.1, rfl, .inl rfl, .inl rfl, by simp only; omega, hn⟩
 ·split
  ·exact ⟨hw.1, hw.2.2.1, rfl, .inl rfl, .inl rfl, by simp only; omega, hm.trans hn⟩
  ·exact ⟨hw.1, hw.2.2.1, rfl, .inl rfl, .inl rfl, by simp only; omega, hm.trans hn⟩
theorem Gi {x : AS} (d : Nat → Int) : (x.commit d).1.work = x.work ∧ (x.commit d).1.mark = x.mark ∧ (x.commit d).1.M = x.M := by
 unfold AS.commit;split <;> exact ⟨rfl, rfl, rfl⟩
theorem Gk {x : AS} : x.abort.1.work = x.work ∧ x.abort.1.mark = x.mark ∧ x.abort.1.M = x.M := by
 unfold AS.abort;split <;> exact ⟨rfl, rfl, rfl⟩
theorem KA (w : AW) (p : Nat × Int) : LN w (w.doStep p).1 := by
 have hf := (cB (M := w.x.M) (c := 0) (i := p.2)).1;have hn := vH (M := w.x.M) (c := 0);unfold AW.doStep;split
 ·exact ⟨rfl, rfl, rfl, .inl rfl, .inl rfl, by simp only; omega, cB.2⟩
 ·exact BK _ _ _
 ·exact BK _ _ _
 ·exact ⟨rfl, rfl, rfl, .inl rfl, .inl rfl, by simp only; omega, Mo⟩
 ·have hc := Hp (M := w.x.M) (s := 1 - w.slot) (b := w.nextB);have hs := Gi (x := { w.x with M := (w.x.M.wrs (1 - w.slot) w.nextB).1 }) w.dir;unfold AW.commit;split
  ·exact ⟨rfl, rfl, rfl, .inl rfl, .inl rfl, by simp only; omega, zW⟩
  ·exact ⟨hs.1, hs.2.1, rfl, .inr rfl, .inr rfl, by simp only; rw [hs.2.2]; simp only; omega, by simp only; rw [hs.2.2]; exact zW⟩
theorem KU {x : AS} (id word v : Int) : (x.set id word v).1.mark = x.mark := by
 unfold AS.set;split
 ·rfl
 ·split
  ·rfl
  ·split
   ·rfl
   ·split
    ·rfl
    ·split
     ·rfl
     ·simp only;split <;> exact (AS.lay_work (x := x) _).2.2.1
theorem HD {x : AS} (k : Int) : (x.make k).1.mark = x.mark := by
 unfold AS.make;split
 ·rfl
 ·simp only;split <;> exact (AS.lay_work (x := x) _).2.2.1
theorem Qc {x : AS} (id word v : Int) : (x.set id word v).1.M.n = x.M.n := by
 unfold AS.set;split
 ·rfl
 ·split
  ·rfl
  ·split
   ·exact AM.store_n
   ·split
    ·rfl
    ·split
     ·rfl
     ·simp only;split <;> exact E0
theorem OW {x : AS} (k : Int) : (x.make k).1.M.n = x.M.n := by
 unfold AS.make;split
 ·rfl
 ·simp only;split <;> exact E0
theorem tO {x : AS} (id : Int) : (x.ends id).1.mark = x.mark ∧ (x.ends id).1.M = x.M := by
 unfold AS.ends;split <;> exact ⟨rfl, rfl⟩
structure PlW (N : Nat) (w : AW) (i : Nat) : Prop where
 g0 : 0 ≤ w.b.gen
 g1 : w.b.gen ≤ 1 + i
 sl : w.slot = 0 ∨ w.slot = 1
 k : ∀ p ∈ w.st, p.1 < 5 ∧ (p.1 = 1 → 0 ≤ p.2 ∧ p.2 < 7)
 ln : w.st.length ≤ 59
 tb : w.st ≠ [] → w.tbl = w.x.mark
 ver : w.x.Ver
 cnt : w.x.M.count ≤ 12 * i
 mn : w.x.M.n = N
section
variable {w : AW} {i N : Nat}
theorem PlW.fit (h : PlW N w i) (hi : i ≤ 1000) : w.Fit := ⟨⟨h.g0, by have := h.g1; omega⟩, h.sl, fun p hp => (h.k p hp).2⟩
theorem PlW.setX (h : PlW N w i) {x : AS} (hm : x.mark = w.x.mark) (hv : x.Ver) (hc : x.M.count ≤ w.x.M.count + 12) (hn : x.M.n = w.x.M.n) : PlW N { w with x := x } (i + 1) :=
 ⟨h.g0, by have := h.g1; simp only; omega, h.sl, h.k, h.ln, fun hs => by simp only; rw [hm]; exact h.tb hs, hv, by have := h.cnt; simp only; omega, hn.trans h.mn⟩
theorem PlW.more (h : PlW N w i) {j : Nat} (hj : i ≤ j) : PlW N w j := ⟨h.g0, by have := h.g1; omega, h.sl, h.k, h.ln, h.tb, h.ver, by have := h.cnt; omega, h.mn⟩
theorem PlW.begin (h : PlW N w i) (seq : Int) : PlW N (w.begin seq).1 (i + 1) := by
 unfold AW.begin;split
 ·exact h.more (Nat.le_succ i)
 ·split
  ·exact h.more (Nat.le_succ i)
  ·split
   ·exact h.more (Nat.le_succ i)
   ·rename_i hi;have hm : w.x.marks.1 = { w.x with mark := w.x.work, is := true } := by unfold AS.marks; rw [if_neg hi]
    have hf := jR w.x.work (au w.x.base (fun _ => false) 49) 49;have hd := ms w.x.work w.x.base 7;have hx : (w.begun seq).x = { w.x with mark := w.x.work, is := true } := hm;have hst : (w.begun seq).st = aG w.x.work (au w.x.base (fun _ => false) 49) 49 ++ (bH w.x.work w.x.base 7).map (fun k => (1, k)) ++ [(2, 0), (3, 0), (4, 0)] := rfl;have hg := h.g1;have hc := h.cnt;refine ⟨h.g0, (by omega : w.b.gen ≤ _), h.sl, fun p hp => ?_, ?_, fun _ => ?_, ?_, ?_, ?_⟩
    ·rw [hst] at hp;rcases List.mem_append.1 hp with hp | hp
     ·rcases List.mem_append.1 hp with hp | hp
      ·have fm : ∀ n, p ∈ aG w.x.work (au w.x.base (fun _ => false) 49) n → p.1 = 0 := by
        intro n
        induction n with
        | zero => intro h; cases h
        | succ n ih =>
         intro h;simp only [aG] at h;split at h
         ·rcases List.mem_append.1 h with h | h
          ·exact ih h
          ·rw [List.mem_singleton.1 h]
         ·exact ih h
       have := fm 49 hp;exact ⟨by omega, fun e => by omega⟩
      ·obtain ⟨k, hk, rfl⟩ := List.mem_map.1 hp;exact ⟨by simp only; omega, fun _ => uX _ _ _ k hk⟩
     ·simp only [List.mem_cons, List.not_mem_nil, or_false] at hp;rcases hp with rfl | rfl | rfl
      ·exact ⟨by simp only; omega, fun e => by simp only at e; omega⟩
      ·exact ⟨by simp only; omega, fun e => by simp only at e; omega⟩
      ·exact ⟨by simp only; omega, fun e => by simp only at e; omega⟩
    ·rw [hst]; simp; omega
    ·rw [hx]; rfl
    ·rw [hx]; exact h.ver
    ·rw [hx]; simp only; omega
    ·rw [hx]; exact h.mn
theorem PlW.did (h : PlW N w i) (p : Nat × Int) {v : AW} (hv : v = (w.doStep p).1) {s : List (Nat × Int)} (hs : ∀ q ∈ s, q ∈ w.st) (hl : s.length ≤ w.st.length) : PlW N { v with st := s } (i + 1) := by
 have hd := KA w p;rw [← hv] at hd;have hg := h.g1;have h0 := h.g0;have hc := h.cnt;have hn := h.ln;refine ⟨?_, ?_, ?_, fun q hq => h.k q (hs q hq), by simp only; omega, fun hne => ?_, fun j hj => by simp only; rw [hd.work]; exact h.ver j hj, by have := hd.cnt; simp only; omega, hd.mn.trans h.mn⟩
 ·rcases hd.gen with e | e <;> (simp only; omega)
 ·rcases hd.gen with e | e <;> (simp only; omega)
 ·have := h.sl;rcases hd.slot with e | e <;> (simp only; omega)
 ·simp only;rw [hd.tbl, hd.mark];refine h.tb fun e => hne ?_;rw [e] at hs;cases s with
  | nil => rfl
  | cons q r => cases hs q List.mem_cons_self
theorem PlW.step (h : PlW N w i) : PlW N w.step.1 (i + 1) := by
 unfold AW.step;cases hw : w.st with
 | nil => exact h.more (Nat.le_succ i)
 | cons p r =>
  simp only;split
  ·exact h.did p rfl (fun q hq => by rw [hw]; exact List.mem_cons_of_mem _ hq) (by rw [hw]; simp)
  ·split
   ·have hd := h.did p rfl (s := []) (fun q hq => by cases hq) (by simp);have ha := Gk (x := (w.doStep p).1.x);exact ⟨hd.g0, hd.g1, hd.sl, hd.k, hd.ln, fun e => absurd rfl e, fun j hj => by simp only; rw [ha.1]; exact hd.ver j hj, by have := hd.cnt; simp only; rw [ha.2.2]; exact this, by simp only; rw [ha.2.2]; exact hd.mn⟩
   ·have hd := h.did p rfl (s := w.st) (fun q hq => hq) (Nat.le_refl _);have e : (w.doStep p).1.st = w.st := AW.doStep_st w p;rw [← e] at hd;exact hd
end
end Go.Proofs.YtmimfopnhmmlbaaGreatDoor
namespace Go.Proofs.YtmimfopnhmmlbaaGreatDoor
open Go.Ab
theorem jE {hp hp' : List Blk} (h : hp <+: hp') (F : Ft) : Chg hp hp' F F := by
 obtain ⟨X, rfl⟩ := h;exact sj X
section
variable {hp hp' hp1 hp2 hp0 : List Blk} {wk a m fr wd b m2 fr2 c : Nat} {Fm Fm' Gs Gs' F2 F2' Gd Gd' G G' : Ft} {sv sv' sd sd' : V} {w w' : AW} {i j N : Nat}
theorem WkQ.chg (h : WkQ hp wk a m fr Fm Gs sv w) (hc : Chg hp hp' G G') (ha : dJ G (WkF wk a fr Fm Gs)) (h0 : ¬ G 0) : WkQ hp' wk a m fr Fm Gs sv w :=
 ⟨aN.chg h.q hc (fun j h1 h2 => ha j h1 (.inr (.inr h2))) h0, hc.get h.st fun e => ha wk e (.inl rfl), h.sr.eqv fun j hj => hc.old j (h.gi j hj) fun e => ha j e (.inr (.inl hj)), h.n1, h.n2, h.n3, h.gz, h.gi.more hc⟩
theorem WkQ.n0 (h : WkQ hp wk a m fr Fm Gs sv w) : ¬ WkF wk a fr Fm Gs 0 := by
 rintro (e | e | e)
 ·have h1 := h.st;rw [← e, h.q.g] at h1; cases h1
 ·exact h.gz e
 ·exact h.q.n0 e
structure Pw (hp0 hp : List Blk) (wk a m wd b m2 : Nat) (w : AW) (i N : Nat) : Prop where
 ex : ∃ fr Fm Gs sv fr2 c F2 Gd sd, WkQ hp wk a m fr Fm Gs sv w ∧ WkD hp wd b m2 fr2 c F2 Gd sd w ∧ dJ (WkF wk a fr Fm Gs) (WdF wd b fr2 c F2 Gd) ∧ ¬ WdF wd b fr2 c F2 Gd 0 ∧ oA hp0.length (WkF wk a fr Fm Gs) ∧ oA hp0.length (WdF wd b fr2 c F2 Gd)
 pl : PlW N w i
 pre : hp0 <+: hp
theorem Pw.more (h : Pw hp0 hp wk a m wd b m2 w i N) (hj : i ≤ j) : Pw hp0 hp wk a m wd b m2 w j N := ⟨h.ex, h.pl.more hj, h.pre⟩
theorem rN (d : WkD hp wd b m2 fr2 c F2 Gd sd w) (ap : dJ (WkF wk a fr Fm Gs) (WdF wd b fr2 c F2 Gd)) (dz : ¬ WdF wd b fr2 c F2 Gd 0) (ab1 : oA hp0.length (WkF wk a fr Fm Gs)) (ab2 : oA hp0.length (WdF wd b fr2 c F2 Gd)) (pre : hp0 <+: hp)
 (q1 : WkQ hp1 wk a m fr Fm' Gs' sv' w') (q2 : Chg hp hp1 (WkF wk a fr Fm Gs) (WkF wk a fr Fm' Gs')) (r1 : WkD hp2 wd b m2 fr2 c F2' Gd' sd' w') (r2 : Chg hp1 hp2 (WdF wd b fr2 c F2 Gd) (WdF wd b fr2 c F2' Gd')) (pl : PlW N w' j) : Pw hp0 hp2 wk a m wd b m2 w' j N := by
 have ap1 : dJ (WkF wk a fr Fm' Gs') (WdF wd b fr2 c F2 Gd) := q2.apart ap d.inn;have ap2 : dJ (WkF wk a fr Fm' Gs') (WdF wd b fr2 c F2' Gd') := (r2.apart ap1.symm q1.inn).symm;obtain ⟨x1, x2⟩ := q2.pre pre ab1;obtain ⟨y1, y2⟩ := r2.pre x1 ab2;refine ⟨⟨_, _, _, _, _, _, _, _, _, q1.chg r2 ap1.symm dz, r1, ap2, fun hz => ?_, x2, y2⟩, pl, y1⟩;rcases r2.new 0 hz with e | e
 ·exact dz e
 ·have := af q1.q.g; omega
theorem Gz (p : WkQ hp wk a m fr Fm Gs sv w) (d : WkD hp wd b m2 fr2 c F2 Gd sd w) (ap : dJ (WkF wk a fr Fm Gs) (WdF wd b fr2 c F2 Gd)) (dz : ¬ WdF wd b fr2 c F2 Gd 0) (ab1 : oA hp0.length (WkF wk a fr Fm Gs)) (ab2 : oA hp0.length (WdF wd b fr2 c F2 Gd)) (pre : hp0 <+: hp)
 {H1 H2 : List Blk} {wk' a' m' fr' : Nat} {Nf Gn : Ft} {Fo : Ft} {sn : V} (p1 : hp <+: H1) (q : WkQ H1 wk' a' m' fr' Nf Gn sn w) (hN : oA hp.length (WkF wk' a' fr' Nf Gn)) (hc : Chg H1 H2 (WkF wk a fr Fm Gs) Fo) (pl : PlW N w j) : Pw hp0 H2 wk' a' m' wd b m2 w j N := by
 have e1 : Chg hp H1 (WkF wk a fr Fm Gs) (WkF wk a fr Fm Gs) := jE p1 _;have e2 := e1.trans hc;have hpn := pre.length_le;have apn : dJ (WkF wk a fr Fm Gs) (WkF wk' a' fr' Nf Gn) := fun j h1 h2 => by
  have := p.inn j h1; have := hN j h2; omega
 have apd : dJ (WkF wk' a' fr' Nf Gn) (WdF wd b fr2 c F2 Gd) := fun j h1 h2 => by
  have := d.inn j h2; have := hN j h1; omega
 exact ⟨⟨_, _, _, _, _, _, _, _, _, q.chg hc apn p.n0, d.chg e2 ap, apd, dz, fun j hj => by have := hN j hj; omega, ab2⟩, pl, (e2.pre pre ab1).1⟩
end
def K4 : C := match aj with | .seq h _ => h | _ => .skip
def psO : C := match aj with | .seq _ (.seq (.block _ (.seq o _)) _) => o | _ => .skip
def psS : C := match aj with | .seq _ (.seq (.block _ (.seq _ (.seq x _))) _) => x | _ => .skip
def psT : C := match aj with | .seq _ (.seq (.block _ (.seq _ (.seq _ x))) _) => x | _ => .skip
def psZ : C := match aj with | .seq _ (.seq _ z) => z | _ => .skip
theorem PT : aj = .seq K4 (.seq (.block 1 (.seq psO (.seq psS psT))) psZ) := rfl
def psE (lv : V) (n m a wk m2 b wd : Nat) (j : Nat) : Env := [(1, lv), (8, .int .i64 n), (10, .ptr (.hp m) [] 59), (11, .ptr (.hp a) [] 43), (12, .ptr (.hp wk) [] 61), (13, .ptr (.hp m2) [] 33), (15, .ptr (.hp b) [] 31), (17, .ptr (.hp wd) [] 35), (18, .int .i64 j)]
section
variable {hp0 hp : List Blk} {wk a m wd b m2 : Nat} {w : AW} {i N : Nat}
theorem QB (h : Pw hp0 hp wk a m wd b m2 w i N) (h0 : 0 < hp0.length) (hi : i ≤ 90) {o : Cll} (ho : o.Ok) (lv : V) (n j : Nat) (u0 : Blk) :
 ∃ hp1 wk' a' m' w' E, rc D 0 psS (psE lv n m a wk m2 b wd j ++ [(19, .ptr (.loc 1) [] 54)]) ⟨[u0, .rw o.val], hp⟩ = some (.normal, psE lv n m' a' wk' m2 b wd j ++ E, ⟨[u0, .rw o.val], hp1⟩) ∧ Pw hp0 hp1 wk' a' m' wd b m2 w' (i + 1) N := by
 obtain ⟨⟨fr, Fm, Gs, sv, fr2, c, F2, Gd, sd, p, d, ap, dz, ab1, ab2⟩, pl, pre⟩ := h;have hk := fun s => tY o.kind 10 ho.k.1 ho.k.2 (by decide) s;have hr := qa o.kind (n := 10) (by decide);have hcn := pl.cnt;generalize kd o.kind 10 = K at *;by_cases c0 : K < 3
 ·-- Set
  obtain ⟨h1, g1, p1, p2, p3⟩ := GJ p.q (by omega) o.id o.word o.v [];have W1 := p.setS p2 p3;have c1 : Chg hp h1 (WkF wk a fr Fm Gs) (WkF wk a fr g1 Gs) := sA p3;have D1 := d.chg c1 ap;obtain ⟨h2, g2, q1, q2, q3⟩ := G8 D1.q (by omega) o.id o.word o.v [u0, .rw o.val];have D2 := D1.setS q2 q3;have hP := rN d ap dz ab1 ab2 pre W1 c1 D2 (pG q3) (pl.setX (KU _ _ _) (AS.set_ver pl.ver _ _ _) (by have := AS.set_count (x := w.x) o.id o.word o.v; omega) (Qc _ _ _));refine ⟨h2, wk, a, m, _, [(118, .bool false)], ?_, hP⟩;clear hP W1 D1 D2 p d p2 p3 q2 q3 c1 ap;generalize w.x.set o.id o.word o.v = y at *;simp only [psE, Cll.val] at *;have e : K = 0 ∨ K = 1 ∨ K = 2 := by omega
  rcases e with rfl | rfl | rfl <;> simp only [go_sem, psS, aj, hk, p1, q1, false_implies, if_true]
 have n0 : ¬ K = 0 := by omega
 have n1 : ¬ K = 1 := by omega
 have n2 : ¬ K = 2 := by omega
 by_cases c3 : K = 3
 ·-- Make
  obtain ⟨h1, g1, p1, p2, p3⟩ := EH p.q (by omega) o.word [u0, .rw o.val];have W1 := p.setS p2 p3;have c1 : Chg hp h1 (WkF wk a fr Fm Gs) (WkF wk a fr g1 Gs) := sA p3;have D1 := d.chg c1 ap;obtain ⟨h2, g2, q1, q2, q3⟩ := Ff D1.q (by omega) o.word [u0, .rw o.val];have D2 := D1.setS q2 q3;have hP := rN d ap dz ab1 ab2 pre W1 c1 D2 (pG q3) (pl.setX (HD _) (AS.make_ver pl.ver _) (by have := AS.make_count (x := w.x) o.word; omega) (OW _));refine ⟨h2, wk, a, m, _, [(142, .bool false)], ?_, hP⟩;clear hP W1 D1 D2 p d p2 p3 q2 q3 c1 ap;generalize w.x.make o.word = y at *;subst c3;simp only [psE, Cll.val] at *;simp only [go_sem, psS, aj, hk, p1, q1]
 by_cases c4 : K = 4
 ·-- End
  obtain ⟨h1, g1, p1, p2, p3⟩ := Io p.q pl.ver o.id [];have W1 := p.setS p2 p3;have c1 : Chg hp h1 (WkF wk a fr Fm Gs) (WkF wk a fr g1 Gs) := sA p3;have D1 := d.chg c1 ap;obtain ⟨h2, q1, q2, q3⟩ := Gp D1.q pl.ver o.id [u0, .rw o.val];have D2 := D1.setS q2 q3;have hP := rN d ap dz ab1 ab2 pre W1 c1 D2 (pG q3) (pl.setX (tO _).1 (AS.ends_ver pl.ver _) (by rw [(tO _).2]; omega) (by rw [(tO _).2]));refine ⟨h2, wk, a, m, _, [(153, .bool false)], ?_, hP⟩;clear hP W1 D1 D2 p d p2 p3 q2 q3 c1 ap;generalize w.x.ends o.id = y at *;subst c4;simp only [psE, Cll.val] at *;simp only [go_sem, psS, aj, hk, p1, q1, false_implies, if_true]
 by_cases c5 : K = 5
 ·-- Begin
  obtain ⟨h1, g1, v1, p1, p2, p3⟩ := rY p o.word [];have D1 := d.chg p3 ap;obtain ⟨h2, g2, v2, q1, q2, q3⟩ := CN D1 o.word [u0, .rw o.val];have hP := rN d ap dz ab1 ab2 pre p2 p3 q2 q3 (pl.begin o.word);refine ⟨h2, wk, a, m, _, [(164, .bool false)], ?_, hP⟩;clear hP D1 p d p2 p3 q2 q3 ap;generalize w.begin o.word = y at *;subst c5;simp only [psE, Cll.val] at *;simp only [go_sem, psS, aj, hk, p1, q1, false_implies, if_true]
 by_cases c9 : K = 9
 ·-- clones
  obtain ⟨H1, m', p1, p2, p3⟩ := CX p.q.mp (by omega) [u0, .rw o.val];have W1 : WkQ H1 wk a m fr Fm Gs sv w := p.chg (jE p3 fun _ => False) (fun _ h => h.elim) fun h => h;have hl0 := pre.length_le;have hnz : ¬ (fun j => hp.length ≤ j ∧ j < H1.length) 0 := fun hz => by
   have := hz.1; omega
  obtain ⟨H2, q1, q2, q3, q4⟩ := C3 W1.q p2 hnz [u0, .rw o.val];have hl1 := p3.length_le;have hl2 := q3.length_le;have W2 : WkQ H2 wk a m fr Fm Gs sv w := W1.chg (jE q3 fun _ => False) (fun _ h => h.elim) fun h => h;obtain ⟨H3, sn, Gn, r1, r2, r3, r4, r5⟩ := CF W2 (by have := pl.ln; omega) q2 [u0, .rw o.val];have W3 : WkQ H3 wk a m fr Fm Gs sv w := W2.chg (jE r3 fun _ => False) (fun _ h => h.elim) fun h => h;obtain ⟨H4, G4, v4, s1, s2, s3⟩ := rY W3 7 [u0, .rw o.val];have pl4 := pl.begin 7;have hcn4 := pl4.cnt;obtain ⟨H5, F5, G5, v5, t1, t2, t3⟩ := om s2 (by omega) (pl4.fit (by omega)) [u0, .rw o.val];have pl5 := pl4.step;have hcn5 := pl5.cnt;obtain ⟨H6, F6, G6, v6, x1, x2, x3⟩ := om t2 (by omega) (pl5.fit (by omega)) [u0, .rw o.val];have hP := Gz p d ap dz ab1 ab2 pre ((p3.trans q3).trans r3) r2 (fun j hj => by
   rcases hj with hj | hj | hj | hj | hj
   ·omega
   ·have := r5 j hj; omega
   ·omega
   ·omega
   ·exact hj.1) ((s3.trans t3).trans x3) (pl.more (Nat.le_succ i))
  refine ⟨H6, _, _, _, _, [], ?_, hP⟩;clear hP p d W1 W2 W3 s2 t2 x2 s3 t3 x3 p2 q2 r2 ap;generalize ((w.begin 7).1.step.1).step = y3 at *;generalize (w.begin 7).1.step = y2 at *;generalize w.begin 7 = y1 at *;subst c9;simp only [psE, Cll.val] at *;simp only [go_sem, psS, aj, hk, p1, q1, r1, s1, t1, x1]
 ·-- Step
  obtain ⟨h1, f1, g1, v1, p1, p2, p3⟩ := om p (by omega) (pl.fit (by omega)) [u0, .rw o.val];have D1 := d.chg p3 ap;obtain ⟨h2, f2, g2, v2, q1, q2, q3⟩ := E1 D1 (by omega) (pl.fit (by omega)) (fun q hq => by have := (pl.k q hq).1; omega) (by have := pl.ln; omega) pl.tb [u0, .rw o.val];have hP := rN d ap dz ab1 ab2 pre p2 p3 q2 q3 pl.step;refine ⟨h2, wk, a, m, _, [(186, .bool false)], ?_, hP⟩;clear hP D1 p d p2 p3 q2 q3 ap;generalize w.step = y at *;simp only [psE, Cll.val] at *;have e : K = 6 ∨ K = 7 ∨ K = 8 := by omega
  rcases e with rfl | rfl | rfl <;> simp only [go_sem, psS, aj, hk, p1, q1]
end
end Go.Proofs.YtmimfopnhmmlbaaGreatDoor
namespace Go.Proofs.YtmimfopnhmmlbaaGreatDoor
open Go.Ab
theorem B5 {hp : List Blk} {F : Ft} {m : Nat} {M : AM} (h : cf hp F m M) : ∃ k k2, hp[m]? = some (.rw (rmV k M.n k2 M.off M.left M.count)) := by
 obtain ⟨k, k2, _, _, _, _, _, h1, _⟩ := h.mb;exact ⟨k, k2, h1⟩
section
variable {hp0 hp : List Blk} {wk a m wd b m2 : Nat} {w : AW} {i N : Nat}
theorem QD (h : Pw hp0 hp wk a m wd b m2 w i N) (lv : V) (n j : Nat) (u0 o : Blk) (E : Env) :
 rc D 0 psT (psE lv n m a wk m2 b wd j ++ E) ⟨[u0, o], hp⟩ = some (.normal, psE lv n m a wk m2 b wd j ++ [(288, .bool false)], ⟨[u0, o, .rw w.b.v, .rw (ab w.x.base), .rw (ao w.x.dir)], hp⟩) := by
 obtain ⟨⟨fr, Fm, Gs, sv, fr2, c, F2, Gd, sd, p, d, ap, dz, ab1, ab2⟩, pl, pre⟩ := h;have g1 := fun L => sV p L;have g2 := fun L => xz p.q L;have g3 := fun L => pZ p L;have g4 := fun L => Eo p.q L;have g5 := fun L => xk d.q.fq L;have g6 := fun L => Cz p.q.mp L;obtain ⟨k, k2, g7⟩ := B5 d.q.mq;have g8 := fun L => CD p.q L;have hst := d.st;have hss := d.q.st;have hsl := d.slen;have q1 := AT w.x.work;have q2 := AT w.x.base;have q4 := JS w.x.dir;have q5 := Is w.x.work;clear p d ap dz ab1 ab2 pl pre;simp only [wdV, Sup.v, AS.r, aW.v, rmV, ab, ao, psE] at *;simp only [go_sem, psT, aj, g1, g2, hst, hss, g3, hsl, g4, g5, g6, g7, g8, q1, q2, q4, q5]
def xd : Cll := ⟨0, 0, 0, 0⟩
theorem D3 {l : List Cll} (hl : ∀ o ∈ l, o.Ok) {lv : V} (hrs : RS ⟨[], hp0⟩ 54 lv (l.map Cll.val)) (hlt : lv.locLt 0 = true) (h0 : 0 < hp0.length) (u0 : Blk) (hu : bu 1 u0 = true) (n0 : Nat) :
 ∀ (n i : Nat) {hp : List Blk} {wk a m : Nat} {w : AW}, i + n = min l.length 80 → Pw hp0 hp wk a m wd b m2 w i N →
  ∃ hp' wk' a' m' w' j, rc D 0 (.loop [1, 8, 10, 11, 12, 13, 15, 17, 18] aj) (psE lv n0 m a wk m2 b wd i) ⟨[u0], hp⟩ =
   some (.exit 0, psE lv n0 m' a' wk' m2 b wd j ++ [(88, .bool false)], ⟨[u0], hp'⟩) ∧ Pw hp0 hp' wk' a' m' wd b m2 w' 80 N
 | 0, i, hp, wk, a, m, w, hi, h => by
  refine ⟨hp, wk, a, m, w, i, ?_, h.more (by omega)⟩;have hsl : V.slen false lv = some l.length := by
   have := hrs.slen
   rwa [List.length_map] at this
  rw [ak];simp only [psE];by_cases c1 : i < l.length
  ·have d1 : (i : Int) < l.length := by omega
   have d2 : ¬ (i : Int) < 80 := by omega
   simp only [go_sem, aj, hsl, d1, d2]
  ·have d1 : ¬ (i : Int) < l.length := by omega
   simp only [go_sem, aj, hsl, d1]
 | n + 1, i, hp, wk, a, m, w, hi, h => by
  have hsl : V.slen false lv = some l.length := by
   have := hrs.slen
   rwa [List.length_map] at this
  have c1 : i < l.length := by omega
  have d1 : (i : Int) < l.length := by omega
  have d2 : (i : Int) < 80 := by omega
  have d4 : IntKind.i64.wrap ((i : Int) + 1) = ((i + 1 : Nat) : Int) := ag (by omega) (by omega);have hg := aK (f := Cll.val) (l := l) (i := i) c1 xd;have ho : (l.getD i xd).Ok := hl _ (by rw [List.getD_eq_getElem?_getD, List.getElem?_eq_getElem c1]; exact List.getElem_mem c1);have hrs1 : RS ⟨[u0], hp⟩ 54 lv (l.map Cll.val) := hrs.more ⟨List.nil_prefix, h.pre⟩;have hld : ∀ t q, ldv ⟨[u0], hp⟩ t (elq lv i q t) = V.at q (l.getD i xd).val := fun t q => hrs1.ldq hg;have hsad := hrs1.sadq hg (k := .i64);generalize l.getD i xd = o at *;obtain ⟨H1, wk1, a1, m1, w1, E, e1, p1⟩ := QB h h0 (by omega) ho lv n0 i u0;have e2 := QD p1 lv n0 i u0 (.rw o.val) E;obtain ⟨hp', wk', a', m', w', j, r1, r2⟩ := D3 hl hrs hlt h0 u0 hu n0 n (i + 1) (by omega) p1;refine ⟨hp', wk', a', m', w', j, ?_, r2⟩;rw [← r1, ak];have hHd : ∀ s, rc D 0 K4 (psE lv n0 m a wk m2 b wd i) s = some (.normal, psE lv n0 m a wk m2 b wd i ++ [(88, .bool true)], s) := fun s => by
   simp only [psE];simp only [go_sem, K4, aj, hsl, d1, d2]
  have hO : rc D 0 psO (psE lv n0 m a wk m2 b wd i ++ [(88, .bool true)]) ⟨[u0], hp⟩ = some (.normal, psE lv n0 m a wk m2 b wd i ++ [(19, .ptr (.loc 1) [] 54)], ⟨[u0, .rw o.val], hp⟩) := by
   simp only [psE, Cll.val] at *;simp only [go_sem, psO, aj, hsad, hld]
  have hZ : ∀ s, rc D 0 psZ (psE lv n0 m1 a1 wk1 m2 b wd i ++ [(288, .bool false)]) s = some (.normal, psE lv n0 m1 a1 wk1 m2 b wd (i + 1), s) := fun s => by
   simp only [psE];simp only [go_sem, psZ, aj, d4]
  have hlt2 : lv.locLt 1 = true := jA (Nat.zero_le 1) hlt;clear r1 r2 p1 h;simp only [psE, List.cons_append, List.nil_append] at *;simp only [go_sem, PT, hHd, hO, e1, e2, hZ, hlt2, hu]
end
theorem Jw {n a : Nat} {ls : Nat → List Int} (h0 : 64 ≤ n) (h1 : n ≤ 1024) (hls : ∀ i, (ls i).length = 8) (hp : List Blk) (hs : hp[a]? = some (.rw (.agg 58 (tab n fun i => lnV (ls i))))) : ∃ more, more.length = 4 ∧ (∀ L, rf D j6 [.sl (.hp a) [] 0 n (some n) 24] ⟨L, hp⟩ = some (.tup [.ptr (.hp (hp.length + 3)) [] 33, .int .i64 0], ⟨L, hp ++ more⟩)) ∧
 cf (hp ++ more) (fun j => j = hp.length + 1 ∨ j = hp.length + 2 ∨ j = hp.length + 3) (hp.length + 3) (am0 n ls) := by
 refine ⟨[.rw (.agg 58 []), .rw (.agg 58 (tab n fun i => lnV (ls i))), .rw (.agg 53 (tab n fun _ => .nils)), .rw (rmV (hp.length + 1) n (hp.length + 2) false (-1) 0)], rfl, fun L => ?_, ⟨h0, h1, fun i _ => hls i, fun _ _ d hd => (by cases hd), Int.le_refl _, fun _ _ => Int.le_refl _, Int.le_refl _, by simp [am0]⟩, fun j hj => ?_, .inr (.inr rfl), hp.length + 1, hp.length + 2, .inl rfl, .inr (.inl rfl), by omega, by omega, by omega, ?_, ?_, fun _ => .nils, fun _ => 0, ?_, fun i hi => .nil⟩
 ·have hal := af hs;have d1 : ¬ (n : Int) < 64 := by omega
  have d2 : ¬ (n : Int) > 1024 := by omega
  have d3 : (0 : Int) ≤ n := by omega
  have d4 : (n : Int) ≤ be := by simp only [be]; omega
  have hl : (tab n fun i => lnV (ls i)).length = n := bt _ _;have hz : V.agg 53 (List.replicate n .nils) = .agg 53 (tab n fun _ => .nils) := by rw [dk]
  have hel : St.elems ⟨L, hp ++ [.rw (.agg 58 [])]⟩ (.sl (.hp a) [] 0 n (some n) 24) = some (tab n fun i => lnV (ls i)) := aV (t := 58) (by simp only [go_sem, hs, hal, List.getElem?_append_left]) hl.symm;have key : ∀ base, ay base true 58 24 (.sl (.hp hp.length) [] 0 0 (some 0) 24) (.sl (.hp a) [] 0 n (some n) 24) ⟨L, hp ++ [.rw (.agg 58 [])]⟩ = some (.sl (.hp (hp.length + 1)) [] 0 n none 24, ⟨L, hp ++ [.rw (.agg 58 []), .rw (.agg 58 (tab n fun i => lnV (ls i)))]⟩) := by
   intro base;have h00 : SlR (hp ++ [.rw (.agg 58 [])]) (fun i => i = hp.length) 24 58 (.sl (.hp hp.length) [] 0 ([] : List V).length (some ([] : List V).length) 24) [] := .blk _ _ _ (.inr rfl) rfl (by simp);have := oj (base := base) (h := true) (r := 58) (e := 24) (x := .sl (.hp hp.length) [] 0 0 (some 0) 24) (old := []) (new := tab n fun i => lnV (ls i)) (s := ⟨L, hp ++ [.rw (.agg 58 [])]⟩) (.inr ⟨_, _, _, _, _, rfl⟩) (.inr ⟨_, _, _, _, _, rfl⟩) (h00.elems L) hel (fun e => by rw [e] at hl; simp at hl; omega) (by rw [hl]; simp [be]; omega) (.inl rfl);rw [this];have hp0 : 0 < n := by omega
   simp only [km, Option.map_some, List.length_nil, hl, Nat.zero_add, hp0, decide_true, if_true];simp [St.fresh, St.new]
  generalize (tab n fun i => lnV (ls i)) = T at *;rw [aa tt rfl];simp only [rmV];simp only [go_sem, d1, d2, List.replicate_zero, key, d3, d4, Int.le_refl, Int.toNat_natCast, hz]
 ·simp; omega
 ·rw [List.getElem?_append_right (by omega), show hp.length + 3 - hp.length = 3 by omega]; rfl
 ·rw [List.getElem?_append_right (by omega), show hp.length + 1 - hp.length = 1 by omega]; rfl
 ·rw [List.getElem?_append_right (by omega), show hp.length + 2 - hp.length = 2 by omega]; rfl
end Go.Proofs.YtmimfopnhmmlbaaGreatDoor
namespace Go.Proofs.YtmimfopnhmmlbaaGreatDoor
open Go.Ab
theorem JW {n : Nat} {f : Nat → V} : tab n f ++ [f n] = tab (n + 1) f := by
 apply List.ext_getElem?;intro j;by_cases h : j < n
 ·rw [List.getElem?_append_left (by rw [bt]; exact h), ai h, ai (by omega)]
 ·by_cases e : j = n
  ·subst e;rw [List.getElem?_append_right (by rw [bt]; omega), bt, ai (by omega)];simp
  ·rw [List.getElem?_eq_none (by rw [List.length_append, bt]; simp; omega), List.getElem?_eq_none (by rw [bt]; omega)]
theorem FX {hp : List Blk} {F : Ft} {m : Nat} {M : AM} (h : bS hp F m M) (L : List Blk) :
 ∃ H v, rf D lB [.ptr (.hp m) [] 59] ⟨L, hp⟩ = some (v, ⟨L, H⟩) ∧ hp <+: H ∧ SlR H (fun j => hp.length ≤ j) 24 58 v (tab M.n fun i => lnV (M.S i)) := by
 obtain ⟨k, fk, ne, ⟨cp, left, h1, h2, h3⟩, sv, ow, h4, h5⟩ := h.mb;have ok := h.ok;have hn1 := ok.n1;have hkl := af h4;have loop : ∃ r, rc D L.length (.loop [3, 9, 10, 11] gn) [(3, .nils), (9, .sl (.hp k) [] 0 M.n cp 55), (10, .int .i64 M.n), (11, .int .i64 0)] ⟨L, hp⟩ = some r ∧
  ∃ H v, hp <+: H ∧ SlR H (fun j => hp.length ≤ j) 24 58 v (tab M.n fun i => lnV (M.S i)) ∧ r = (.exit 0, [(3, v), (9, .sl (.hp k) [] 0 M.n cp 55), (10, .int .i64 M.n), (11, .int .i64 M.n), (12, .bool false)], ⟨L, H⟩) := by
  refine gI (fun x : Nat × List Blk × V => [(3, x.2.2), (9, .sl (.hp k) [] 0 M.n cp 55), (10, .int .i64 M.n), (11, .int .i64 x.1)]) (fun x => ⟨L, x.2.1⟩) _ (fun x => M.n - x.1)
   (fun x => x.1 ≤ M.n ∧ hp <+: x.2.1 ∧ SlR x.2.1 (fun j => hp.length ≤ j) 24 58 x.2.2 (tab x.1 fun i => lnV (M.S i))) (0, hp, .nils) ?_ ⟨by simp only; omega, List.prefix_refl _, .nil⟩ rfl rfl
  rintro ⟨x, H, v⟩ ⟨hx, hpre, hs⟩;simp only at hx hpre hs;by_cases c1 : x < M.n
  ·left;have d1 : (x : Int) < M.n := by omega
   have d4 : IntKind.i64.wrap ((x : Int) + 1) = ((x + 1 : Nat) : Int) := ag (by omega) (by omega);have hk := aE hpre h4;have g := ai (f := fun i => plV (M.S i) (M.L i) (sv i)) c1;have g0 : plV (M.S x) (M.L x) (sv x) = .agg 55 [lnV (am (M.S x) (M.L x)), lnV (M.S x), sv x, .agg 50 (tab 8 fun c => .int .i64 (flN c (M.L x) : Nat))] := rfl;rw [g0] at g;have hsad : fY 55 (.sl (.hp k) [] 0 M.n cp 55) (.int .i64 (x : Int)) = some (.ptr (.hp k) [x] 55) := by simp [go_sem, c1]
   have hy : ∀ o : Blk, St.elems ⟨L ++ [o, .rw (.agg 58 [lnV (M.S x)])], H⟩ (.sl (.loc (L.length + 1)) [] 0 1 (some 1) 24) = some [lnV (M.S x)] := fun o => aV (t := 58) (by simp only [go_sem]) rfl;obtain ⟨H1, s1, s2, s3, s4⟩ := hs.push (base := L.length) (L ++ [.rw (.agg 55 [lnV (am (M.S x) (M.L x)), lnV (M.S x), sv x, .agg 50 (tab 8 fun c => .int .i64 (flN c (M.L x) : Nat))]), .rw (.agg 58 [lnV (M.S x)])]) (y := .sl (.loc (L.length + 1)) [] 0 1 (some 1) 24) (.inr ⟨_, _, _, _, _, rfl⟩) (hy _) (by simp) (by rw [bt]; simp [be]; omega) (.inl rfl);have hpl := hpre.length_le;have hpre1 : hp <+: H1 := by
    rw [List.prefix_iff_eq_take];apply List.ext_getElem?;intro j;by_cases hj : j < hp.length
    ·rw [List.getElem?_take, if_pos hj, s4 j (by omega) (by omega), qT hpre hj]
    ·rw [List.getElem?_eq_none (by omega), List.getElem?_take, if_neg hj]
   have hs1 : SlR H1 (fun j => hp.length ≤ j) 24 58 (.sl (.hp H.length) [] 0 (tab x (fun i => lnV (M.S i)) ++ [lnV (M.S x)]).length none 24) (tab (x + 1) fun i => lnV (M.S i)) := by
    rw [← JW];exact .blk _ none _ (.inl rfl) hpl s3
   refine ⟨(x + 1, H1, .sl (.hp H.length) [] 0 (tab x (fun i => lnV (M.S i)) ++ [lnV (M.S x)]).length none 24), ⟨by simp only; omega, hpre1, hs1⟩, by simp only; omega, ?_⟩;have hsl := (h5 x c1).ltb (b := L.length + 1);have hrep : List.replicate 1 (V.agg 24 (List.replicate 8 (.int .u64 0))) = [.agg 24 (List.replicate 8 (.int .u64 0))] := rfl;simp only [lnV] at *;generalize (tab 8 fun c => V.int .i64 (flN c (M.L x) : Nat)) = TF at *;generalize (tab M.n fun i => plV (M.S i) (M.L i) (sv i)) = T0 at *;generalize (tab x fun i => V.agg 24 ((M.S i).map (V.int .u64))) = T3 at *;simp only [go_sem, gn, d1, hsad, hk, g, hrep, s1, d4]
  ·right;have : x = M.n := by omega
   subst this;have d1 : ¬ (M.n : Int) < M.n := by omega
   refine ⟨_, ?_, H, v, hpre, hs, rfl⟩;simp only [go_sem, gn, d1]
 obtain ⟨r, h6, H, v, p1, p2, rfl⟩ := loop;refine ⟨H, v, ?_, p1, p2⟩;have hv := p2.ltb (b := L.length);simp only [bf] at h1;rw [aa vi rfl];simp only [go_sem, h1];simp only [go_sem, h6, hv]
section
variable {hp : List Blk} {m2 : Nat} {F2 : Ft} {M : AM}
theorem Ml {v : V} (hs : ∀ L, RS ⟨L, hp⟩ 24 v (tab M.n fun i => lnV (M.S i))) (hq : cf hp F2 m2 M) (hvl : ∀ n, v.locLt n = true) (u0 : Blk) (hu : bu 1 u0 = true) :
 rc D 0 (.loop [8, 13, 33, 34] cF) [(8, .int .i64 M.n), (13, .ptr (.hp m2) [] 33), (33, v), (34, .int .i64 0)] ⟨[u0], hp⟩ =
  some (.exit 3, [(8, .int .i64 M.n), (13, .ptr (.hp m2) [] 33), (33, v), (34, .int .i64 M.n), (293, .bool false)], ⟨[u0], hp⟩) := by
 have hn1 := hq.ok.n1;obtain ⟨k, k2, fk, fk2, n1, n2, n3, h1, h2, _⟩ := hq.mb;refine aH (fun x : Nat => [(8, .int .i64 M.n), (13, .ptr (.hp m2) [] 33), (33, v), (34, .int .i64 x)]) (fun _ => ⟨[u0], hp⟩) (fun _ => _) (fun x => M.n - x) (fun x => x ≤ M.n) 0 ?_ (by omega) rfl rfl;intro x hx;simp only [rmV] at h1;by_cases c1 : x < M.n
 ·left;have d1 : (x : Int) < M.n := by omega
  have d2 : (0 : Int) ≤ x := by omega
  have d4 : IntKind.i64.wrap ((x : Int) + 1) = ((x + 1 : Nat) : Int) := ag (by omega) (by omega);have g := ai (f := fun i => lnV (M.S i)) c1;have q1 := gD (a := .hp k) (e := 24) c1;have hsad := (hs [u0]).sadq g (k := .i64);have hld : ldv ⟨[u0], hp⟩ 24 (elq v x [] 24) = V.at [] (lnV (M.S x)) := (hs [u0]).ldq g;have hve := Bi (f := V.int .u64) (fun a => by simp [veq]) (M.S x);have hv1 := hvl 1;refine ⟨x + 1, by omega, by omega, rfl, ?_⟩;simp only [lnV] at *;generalize (tab M.n fun i => V.agg 24 ((M.S i).map (V.int .u64))) = T at *;simp only [go_sem, cF, d1, d2, hsad, hld, h1, h2, q1, Int.toNat_natCast, g, hve, d4, hu, hv1]
 ·right;have : x = M.n := by omega
  subst this;have d1 : ¬ (M.n : Int) < M.n := by omega
  simp only [go_sem, cF, d1]
end
theorem PM {A B : AF} (h1 : A.f = B.f) (h2 : A.l = B.l) (h3 : ∀ j, A.st j = B.st j) : A = B := by
 obtain ⟨f, l, s⟩ := A;obtain ⟨f', l', s'⟩ := B;simp only at h1 h2 h3;subst h1 h2;rw [show s = s' from funext h3]
theorem law_SnapPlays : ∀ hp vs, G <+: hp → Sh.FitsL hp [(.arr 22 2 (.int .i64)), (.sl 56 (.st 54 [(.int .i64), (.int .i64), (.int .i64), (.int .u64)])), (.int .i64)] vs → ∃ s', rf D fw vs ⟨[], hp⟩ = some (.bool true, s') := by
 intro hp vs hpre hf;obtain ⟨vx, v, vf, rfl, hx, hv, hfu⟩ := Ly hf;obtain ⟨_, _, rfl, hx0, hx1⟩ := QQ hx;obtain ⟨x0, rfl, hx00, hx01⟩ := yx hx0;obtain ⟨x1, rfl, hx10, hx11⟩ := yx hx1;obtain ⟨fu, rfl, hf0, hf1⟩ := yx hfu;obtain ⟨l0, hrs, hlt, hlen, hfit⟩ := Fk hv;obtain ⟨l, rfl, hl⟩ := Oi (f := Cll.val) (fun x hx => Pi (hfit x hx));have hG := NG hpre;have hpl : 0 < hp.length := af hG;obtain ⟨u0, hu0⟩ : ∃ u : Blk, u = .rw (.agg 22 [.int .i64 x0, .int .i64 x1]) := ⟨_, rfl⟩;obtain ⟨H0, eS, p0⟩ := FQ [u0] hG;have hk0 := fun s => tY x0 64 hx00 hx01 (by decide) s;have hk1 := fun s => tY x1 31 hx10 hx11 (by decide) s;obtain ⟨n, hn⟩ : ∃ n : Nat, 64 + kd x0 64 = n := ⟨(64 + kd x0 64).toNat, by have := qa x0 (n := 64) (by decide); omega⟩;obtain ⟨k, hk⟩ : ∃ k : Nat, kd x1 31 = k := ⟨(kd x1 31).toNat, by have := qa x1 (n := 31) (by decide); omega⟩;have hkr := qa x0 (n := 64) (by decide);have hkr1 := qa x1 (n := 31) (by decide);have hw : IntKind.i64.wrap (64 + kd x0 64) = (n : Int) := by rw [hn]; exact ag (by omega) (by omega)
 rw [hk] at hk1;have hG0 := aE p0 hG;have l0' := p0.length_le;obtain ⟨H1, wk, a, m, fr, A', Fm, e1, W1, I1, _, _, a1, a2, a3, p1, b1⟩ := IC (c := k) (n := n) [u0] hG0 (by omega) (by omega) (by omega);have hG1 := aE p1 hG0;have l1' := p1.length_le;have hi := xo (c := k) (by omega) (show 64 ≤ n by omega) (by omega) [u0] H1;have hs : (H1 ++ [.rw (.agg 58 (tab n fun i => lnV (imL k i)))])[H1.length]? = some (.rw (.agg 58 (tab n fun i => lnV (imL k i)))) := by simp
 obtain ⟨m3, hl3, hO, M3⟩ := Jw (n := n) (by omega) (by omega) (Ed k) _ hs;have hO := hO [u0];have hl2 : (H1 ++ [Blk.rw (.agg 58 (tab n fun i => lnV (imL k i)))]).length = H1.length + 1 := by simp
 rw [hl2] at hO M3;generalize hH2 : H1 ++ [Blk.rw (.agg 58 (tab n fun i => lnV (imL k i)))] = H2 at *;have p2 : H1 <+: H2 := hH2 ▸ List.prefix_append _ _;generalize hH3 : H2 ++ m3 = H3 at *;have p3 : H2 <+: H3 := hH3 ▸ List.prefix_append _ _;have l3 : H3.length = H1.length + 5 := by rw [← hH3, List.length_append]; omega
 have hG3 := aE p3 (aE p2 hG1);have htab := fun s => ss k (by omega) s;have hdir := BH (s := ⟨[u0], H3⟩) hG3;obtain ⟨kb, kb2, hmb⟩ := B5 M3;obtain ⟨A3, hA, hA1, hA2, hA3⟩ := Iz (c := k) (n := n) (by omega) (by omega);have hAA : A' = A3 := PM (a1.trans hA1.symm) (a2.trans hA2.symm) fun j => (a3 j).trans (hA3 j).symm;subst hAA;have hInI : InI (cA (az k) bM) := ⟨fun y hy => by
  have := (EO (c := k) (by omega) y).1 hy; omega⟩
 rcases Ke [u0] (show n ≤ 1024 by omega) hmb 10 (az k) bM hInI with ⟨q, _⟩ | ⟨_, _, q, _⟩ | ⟨_, _, A4, m4, b, q, e4, T1, T2, T3⟩
 ·omega
 ·have q : (af0 10 n).takes (cA (az k) bM) = none := q;rw [hA] at q; cases q
 have q : (af0 10 n).takes (cA (az k) bM) = some A4 := q;rw [hA] at q; cases q;generalize hH4 : H3 ++ m4 = H4 at *;have p4 : H3 <+: H4 := hH4 ▸ List.prefix_append _ _;have l4 := p4.length_le;have D4 : bg H4 (fun j => j = H1.length + 1 + 1 ∨ j = H1.length + 1 + 2 ∨ j = H1.length + 1 + 3) b (H1.length + 1 + 3) (H3.length + 1) H3.length (as0 (am0 n (imL k)) A' (az k) bM) :=
  ⟨W1.q.ok, T1, T2, M3.chg (jE p4 fun _ => False) fun _ h => h.elim, by omega, by omega⟩
 have hbg := xU;obtain ⟨H5, e5, D5, hH5⟩ := HH D4 b11 0 [u0];have p5 : H4 <+: H5 := hH5 ▸ List.prefix_append _ _;have W5 : WkQ H5 wk a m fr Fm xR .nils (aw0 (as0 (am0 n (imL k)) A' (az k) bM) b11 0) := W1.chg (jE (p2.trans (p3.trans (p4.trans p5))) fun _ => False) (fun _ h => h.elim) fun h => h;have D5 : WkD H5 H4.length b (H1.length + 1 + 3) (H3.length + 1) H3.length (fun j => j = H1.length + 1 + 1 ∨ j = H1.length + 1 + 2 ∨ j = H1.length + 1 + 3) (fun _ => False) .nils (aw0 (as0 (am0 n (imL k)) A' (az k) bM) b11 0) := D5;have hdF : ∀ j, WdF H4.length b (H3.length + 1) H3.length (fun j => j = H1.length + 1 + 1 ∨ j = H1.length + 1 + 2 ∨ j = H1.length + 1 + 3) (fun _ => False) j → H1.length ≤ j := fun j hj => by
  rcases hj with hj | hj | hj | hj | hj | hj | hj | hj
  ·omega
  ·exact hj.elim
  all_goals omega
 have ap : dJ (WkF wk a fr Fm xR) (WdF H4.length b (H3.length + 1) H3.length (fun j => j = H1.length + 1 + 1 ∨ j = H1.length + 1 + 2 ∨ j = H1.length + 1 + 3) (fun _ => False)) := fun j h1 h2 => by
  have := W1.inn j h1; have := hdF j h2; omega
 generalize hX0 : as0 (am0 n (imL k)) A' (az k) bM = X0 at *;have xM : X0.M = am0 n (imL k) := by rw [← hX0]; rfl
 have xw : X0.work = az k := by rw [← hX0]; rfl
 obtain ⟨H6, e6, f1, f2⟩ := E2 W5.q.mp fu hf1 [u0];obtain ⟨W6, c6⟩ := W5.setM f1 f2 rfl;have D6 := D5.chg c6 ap;obtain ⟨H7, e7, f3, f4⟩ := E8 D6.q.mq fu hf1 [u0];obtain ⟨D7, c7⟩ := D6.setM f3 f4 rfl;have pl0 : PlW n { aw0 X0 b11 0 with x := { X0 with M := X0.M.fuse fu } } 0 := by
  refine ⟨(by decide : (0 : Int) ≤ 1), (by decide : (1 : Int) ≤ 1 + ((0 : Nat) : Int)), .inl rfl, fun p hp => (by cases hp), (by decide : 0 ≤ 59), fun h => absurd rfl h, fun i hi => ?_, ?_, ?_⟩
  ·simp only;rw [xw];simp only [az];split
   ·simp only; omega
   ·simp [bE]
  ·simp only; rw [xM]; simp [AM.fuse, am0]
  ·simp only; rw [xM]; rfl
 have pre5 : hp <+: H5 := p0.trans (p1.trans (p2.trans (p3.trans (p4.trans p5))));have hP := rN D5 ap (fun hz => by have := hdF 0 hz; omega) (fun j hj => by have := b1 j hj; omega) (fun j hj => by have := hdF j hj; omega) pre5 W6 c6 D7 c7 pl0;obtain ⟨H8, wk', a', m', w', j, e8, P8⟩ := D3 hl hrs hlt hpl u0 (by rw [hu0]; simp only [go_sem]) n (min l.length 80) 0 (by omega) hP;simp only [psE, List.cons_append, List.nil_append] at e8;rw [show ((0 : Nat) : Int) = 0 from rfl] at e8
 obtain ⟨⟨fr', Fm', Gs', sv', fr2', c', F2', Gd', sd', P, Dq, _, _, _, _⟩, pl8, _⟩ := P8;obtain ⟨H9, vS, e9, p9, s9⟩ := FX P.q.mp [u0];have hq9 := Dq.q.mq.chg (jE p9 fun _ => False) fun _ h => h.elim;have e10 := Ml (fun L => s9.rs L) hq9 (fun n => s9.ltb) u0 (by rw [hu0]; simp only [go_sem]);rw [pl8.mn] at e10;refine ⟨⟨[], H9⟩, ?_⟩;have hm3 : H1.length + 1 + 3 = H1.length + 4 := rfl;clear hP P Dq pl8 hq9 s9 W1 W5 W6 D4 D5 D6 D7 M3 f1 f2 f3 f4 c6 c7 I1 T1 T2 hInI hfit hx hx0 hx1 hfu hv hrs hl pl0 hdF ap b1 hmb;simp only [hm3] at *;subst hu0;generalize ab (az k) = TV at *;generalize ao bM = DV at *;simp only [Sup.v] at *;have e1' : rf D c8 [.int .i64 n, .int .i64 k] ⟨[.rw (.agg 22 [.int .i64 x0, .int .i64 x1])], H0⟩ = some (.tup [.ptr (.hp m) [] 59, .ptr (.hp a) [] 43, .ptr (.hp wk) [] 61], ⟨[.rw (.agg 22 [.int .i64 x0, .int .i64 x1])], H1⟩) := e1;rw [aa o8 rfl];simp only [go_sem, eS, hk0, hw, hk1, e1', hi, hO, htab, hdir, e4, hbg, e5, e6, e7];simp only [go_sem, e8, e9, e10]
end Go.Proofs.YtmimfopnhmmlbaaGreatDoor
