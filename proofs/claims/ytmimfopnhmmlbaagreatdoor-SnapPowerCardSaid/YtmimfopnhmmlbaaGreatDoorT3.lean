/-
  YtmimfopnhmmlbaaGreatDoorT3: what functions of the program compute (Sh10, SofA, LobA, LobU).
-/
import Derived.Test.YtmimfopnhmmlbaaGreatDoorClo
import Derived.Test.YtmimfopnhmmlbaaGreatDoorAbF
import Derived.Test.YtmimfopnhmmlbaaGreatDoorT1
import Derived.Test.YtmimfopnhmmlbaaGreatDoorT2
set_option maxRecDepth 100000
namespace Go.Proofs.YtmimfopnhmmlbaaGreatDoor
open Go.Ab
end Go.Proofs.YtmimfopnhmmlbaaGreatDoor
namespace Go.Proofs.YtmimfopnhmmlbaaGreatDoor
open Go.Ab
structure oV (A : AF) (w : List Nat) : Prop where
 ok : A.Ok
 two : A.Two
 okw : OkS w
 bits : ∀ j, j < 1024 → bit w j = (A.inr j && decide (A.st j = 0))
theorem oV.l2 {A : AF} {w : List Nat} (h : oV A w) : ∀ j, j < 1024 → bit (w16 []) j = (A.inr j && decide (A.st j = 2)) := fun j _ => by
 rw [wJ];have := h.two j;have : ¬ A.st j = 2 := by omega
 simp [this]
theorem oV.st {A : AF} {w : List Nat} (h : oV A w) (x : Int) : co A.f A.l w (w16 []) x = A.state x := pZ h.ok h.bits h.l2 x
theorem oV.put {A : AF} {w : List Nat} (h : oV A w) {x : Int} (hx : A.state x = 0) : oV (A.put x.toNat 1) (flip w x.toNat) := by
 have hr := ea (A := A) (line := x) (by omega);have e0 := iI hr.1 hr.2;refine ⟨h.ok.put (.inr (.inl rfl)), h.two.put (.inr rfl), h.okw.flip (by have := h.ok.l1; omega), ov h.ok h.okw h.bits (gt.2 (by omega)) (by simp; omega)⟩
theorem oR : ∀ {ls : List Int} {A : AF} {w : List Nat}, oV A w → (cn A.f A.l ls w = none ∧ A.takes ls = none) ∨ ∃ w' A', cn A.f A.l ls w = some w' ∧ A.takes ls = some A' ∧ oV A' w'
 | [], A, w, h => .inr ⟨w, A, rfl, rfl, h⟩
 | x :: r, A, w, h => by
  simp only [cn, AF.takes, h.st];by_cases hx : A.state x = 0
  ·rw [if_pos hx, if_pos hx];exact oR (h.put hx)
  ·rw [if_neg hx, if_neg hx];exact .inl ⟨rfl, rfl⟩
theorem Px {f l : Nat} (h : f ≤ l) (h1 : l ≤ 1024) {w : List Nat} (hw : OkS w) (hb : ∀ j : Nat, j < 1024 → bit w j = (decide ((f : Int) ≤ j) && decide ((j : Int) < l))) : oV (af0 f l) w :=
 ⟨NJ h h1, fun _ => .inl rfl, hw, fun j hj => by
  rw [hb j hj];simp only [AF.inr, af0, decide_true, Bool.and_true];congr 1
  ·exact decide_eq_decide.2 (by omega)
  ·exact decide_eq_decide.2 (by omega)⟩
theorem HI {M : AM} (hM : M.Ok) {A' : AF} {f : Nat} (hf : f ≤ M.n) {t : Nat → Ent} {d : Nat → Int} (h : (af0 f M.n).takes (gH t d) = some A') : (as0 M A' t d).Ok ∧ A'.Two := by
 obtain ⟨h1, h2, h3, h4⟩ := mS h;have ht : jM A' t := ⟨fun i hi hk => by
  have := h3 _ (List.mem_append_left _ (pX t 49 0 i (by omega) (by omega) hk));rw [h1, h2]; exact this⟩
 have two : A'.Two := fun j => by rw [h4 j]; split; exact .inr rfl; exact .inl rfl
 have hA : A'.Ok := ⟨by rw [h1, h2]; exact hf, by rw [h2]; exact hM.n1, fun j => by have := two j; omega⟩;refine ⟨⟨hM, hA, h2, ht, ht, ⟨fun _ _ hk => absurd rfl hk⟩, fun j => by have := two j; simp only [as0]; omega⟩, two⟩
theorem Jd {hp : List Blk} {F : Ft} {m : Nat} {M : AM} (h : aY hp F m M) (hG : hp[0]? = some (.ro bX)) (hz : ¬ F 0) (from' : Int) (t : Nat → Ent) (d : Nat → Int) (L : List Blk) :
 ((from' < 0 ∨ (M.n : Int) < from') ∧ rf D cW [.ptr (.hp m) [] 59, .int .i64 from', ab t, aM d] ⟨L, hp⟩ = some (.tup [.nilp, .int .i64 1], ⟨L, hp⟩)) ∨
 (0 ≤ from' ∧ from' ≤ M.n ∧ (af0 from'.toNat M.n).takes (gH t d) = none ∧ ∃ more, rf D cW [.ptr (.hp m) [] 59, .int .i64 from', ab t, aM d] ⟨L, hp⟩ = some (.tup [.nilp, .int .i64 21], ⟨L, hp ++ more⟩)) ∨
 (0 ≤ from' ∧ from' ≤ M.n ∧ ∃ A' more, (af0 from'.toNat M.n).takes (gH t d) = some A' ∧ rf D cW [.ptr (.hp m) [] 59, .int .i64 from', ab t, aM d] ⟨L, hp⟩ = some (.tup [.ptr (.hp (hp.length + 1)) [] 43, .int .i64 0], ⟨L, hp ++ more⟩) ∧
  aR (hp ++ more) F (hp.length + 1) m hp.length (as0 M A' t d)) := by
 have hln := o7 h;by_cases h0 : from' < 0 ∨ (M.n : Int) < from'
 ·exact .inl ⟨h0, tv ⟨L, hp⟩ (fun L' => hln (L ++ L')) from' (by omega) t d⟩
 ·right;obtain ⟨f, rfl⟩ : ∃ f : Nat, from' = f := ⟨from'.toNat, by omega⟩
  rw [Int.toNat_natCast];obtain ⟨w0, ok0, b0, hh⟩ := wR ⟨L, hp⟩ (fun L' => hln (L ++ L')) f (by omega) (by omega) h.ok.n1 t d;have hB := Px (f := f) (l := M.n) (by omega) h.ok.n1 ok0 b0;rcases hh with ⟨hn, more, e⟩ | ⟨w, hw, hs, e⟩
  ·left;refine ⟨by omega, by omega, ?_, more, e⟩;rcases oR (ls := gH t d) hB with ⟨_, q⟩ | ⟨_, _, q, _⟩
   ·exact q
   ·have : cn f M.n (gH t d) w0 = some _ := q;rw [hn] at this; cases this
  ·right;refine ⟨by omega, by omega, ?_⟩;rcases oR (ls := gH t d) hB with ⟨q, _⟩ | ⟨w', A', q, q2, q3⟩
   ·have : cn f M.n (gH t d) w0 = none := q;rw [hs] at this; cases this
   ·have q : cn f M.n (gH t d) w0 = some w' := q;rw [hs] at q; cases q;obtain ⟨h1, h2, _, _⟩ := mS q2;obtain ⟨ok, _⟩ := HI h.ok (show f ≤ M.n by omega) q2;refine ⟨A', _, q2, e, ⟨ok, ?_, ?_, ⟨ok.A, w, w16 [], ?_, q3.okw, rM, q3.bits, q3.l2⟩, h.chg (qC hp _ (fun _ => False)) (fun _ h => h.elim), by omega, fun hf => ?_, fun hf => ?_, hz⟩⟩
    ·rw [List.getElem?_append_left (au hG)]; exact hG
    ·simp; rfl
    ·have e1 : (A'.f : Int) = f := by rw [h1]; rfl
     have e2 : (A'.l : Int) = M.n := by rw [h2]; rfl
     show (hp ++ _)[hp.length]? = some (.rw (frV A'.f A'.l w (w16 [])));rw [e1, e2];simp
    ·have := h.inn _ hf; omega
    ·have := h.inn _ hf; omega
end Go.Proofs.YtmimfopnhmmlbaaGreatDoor
namespace Go.Proofs.YtmimfopnhmmlbaaGreatDoor
open Go.Ab
def kd (c n : Int) : Int := (if c < 0 then -(c + 1) else c) % n
theorem iU (c : Int) {n : Int} (h : 0 < n) : 0 ≤ kd c n ∧ kd c n < n := ⟨Int.emod_nonneg _ (by omega), Int.emod_lt_of_pos _ h⟩
def ay (c : Nat) (i : Nat) : Ent := if i < c then ⟨1 + (i % 4 : Nat), i, 20 + i⟩ else az
def bf (i : Nat) : Int := if i < 8 then 10 + i else 0
theorem Jw {hp : List Blk} (h : hp[0]? = some (.ro bX)) : [Blk.ro bX] <+: hp := by
 cases hp with
 | nil => cases h
 | cons b t =>
  simp only [List.getElem?_cons_zero, Option.some.injEq] at h;subst h;exact ⟨t, rfl⟩
theorem Hf (n : Nat) (S : Nat → List Int) : (am0 n S).On := ⟨rfl, rfl⟩
theorem tu {c : Nat} : ∀ (n i : Nat), i + n = 49 → c ≤ 49 → fg (ay c) i n = ((List.range' i n).filter (· < c)).map fun j => (20 : Int) + (j : Nat)
 | 0, i, _, _ => rfl
 | n + 1, i, hi, hc => by
  simp only [fg, List.range'_succ, List.filter_cons];by_cases h : i < c
  ·have hk : ¬ (ay c i).kind = 0 := by unfold ay; rw [if_pos h]; simp only; omega
   have hl : (ay c i).line = 20 + (i : Nat) := by unfold ay; rw [if_pos h]
   rw [if_neg hk, hl, tu n (i + 1) (by omega) hc];simp [h]
  ·have hk : (ay c i).kind = 0 := by unfold ay; rw [if_neg h]; rfl
   rw [if_pos hk, tu n (i + 1) (by omega) hc];simp [h]
theorem KA {c : Nat} (hc : c ≤ 49) (x : Int) : x ∈ gH (ay c) bf ↔ (20 ≤ x ∧ x < 20 + c) ∨ (10 ≤ x ∧ x < 18) := by
 unfold gH;rw [List.mem_append, tu 49 0 rfl hc];have e : nK bf 0 8 = [10, 11, 12, 13, 14, 15, 16, 17] := rfl;rw [e];simp only [List.mem_map, List.mem_filter, List.mem_range'_1, decide_eq_true_eq, List.mem_cons, List.not_mem_nil, or_false];constructor
 ·rintro (⟨j, ⟨h1, h2⟩, rfl⟩ | h)
  ·left; omega
  ·right; omega
 ·rintro (h | h)
  ·left; exact ⟨(x - 20).toNat, ⟨by omega, by omega⟩, by omega⟩
  ·right; omega
theorem K8 {c : Nat} (hc : c ≤ 49) : (gH (ay c) bf).Nodup := by
 unfold gH;rw [tu 49 0 rfl hc, List.nodup_append];refine ⟨?_, by decide, fun x hx y hy e => ?_⟩
 ·rw [List.Nodup, List.pairwise_map];have hn : (List.range' 0 49).Nodup := by decide
  exact (List.Pairwise.filter _ hn).imp fun h e => h (by omega)
 ·have e : nK bf 0 8 = [10, 11, 12, 13, 14, 15, 16, 17] := rfl;rw [e] at hy;simp only [List.mem_map] at hx;obtain ⟨j, _, rfl⟩ := hx;simp only [List.mem_cons, List.not_mem_nil, or_false] at hy;omega
theorem Nq {c n : Nat} (hc : c ≤ 30) (hn : 64 ≤ n) : ∃ A', (af0 10 n).takes (gH (ay c) bf) = some A' ∧ A'.f = 10 ∧ A'.l = n ∧ ∀ j, A'.st j = if (20 ≤ j ∧ j < 20 + c) ∨ (10 ≤ j ∧ j < 18) then 1 else 0 := by
 obtain ⟨A', h⟩ := zw (A := af0 10 n) (K8 (c := c) (by omega)) fun x hx => by
  rw [KA (by omega)] at hx;unfold AF.state af0;rw [if_neg (by simp only; omega)]
 obtain ⟨h1, h2, _, h4⟩ := mS h;refine ⟨A', h, h1, h2, fun j => ?_⟩;rw [h4 j];have := KA (c := c) (by omega) (j : Int);by_cases e : (j : Int) ∈ gH (ay c) bf
 ·rw [if_pos e, if_pos (by rw [this] at e; omega)]
 ·rw [if_neg e, if_neg (fun h => e (this.2 (by omega)))]; rfl
theorem pK {c i : Nat} : (ay c i).kind ≠ 0 ↔ i < c := by
 unfold ay;split
 ·rename_i h; simp only; constructor <;> intro <;> omega
 ·rename_i h; simp [az, h]
theorem PX {c n : Nat} (hc : c ≤ 30) {M : AM} (hM : M.Ok) (hn : M.n = n) {A' : AF} (h : (af0 10 n).takes (gH (ay c) bf) = some A') (hst : ∀ j, A'.st j = if (20 ≤ j ∧ j < 20 + c) ∨ (10 ≤ j ∧ j < 18) then 1 else 0) :
 Inv (as0 M A' (ay c) bf) ∧ (as0 M A' (ay c) bf).A.Two ∧ ∀ i, i < c → (as0 M A' (ay c) bf).own i = false := by
 subst hn;obtain ⟨ok, two⟩ := HI hM (show 10 ≤ M.n by have := hM.n0; omega) h;have named : ∀ j : Nat, ax (ay c) j = true → 20 ≤ j ∧ j < 20 + c := fun j hj => by
  obtain ⟨i, hi, hk, hl⟩ := aL.1 hj;have hic := pK.1 hk;unfold ay at hl;rw [if_pos hic] at hl;simp only at hl;omega
 have hsh : ∀ j : Nat, (as0 M A' (ay c) bf).sh j = ax (ay c) j := fun j => by rw [ms ok]; simp [as0]
 have hown : ∀ i, i < c → (as0 M A' (ay c) bf).own i = false := fun i hi => by
  show (!(as0 M A' (ay c) bf).sh (ay c i).line.toNat) = false;rw [hsh];have : ax (ay c) (ay c i).line.toNat = true := aL.2 ⟨i, by omega, pK.2 hi, by unfold ay; rw [if_pos hi]; simp only; omega⟩;rw [this]; rfl
 refine ⟨⟨ok, fun i hi => ?_, fun j hj => ?_, fun j hj => ?_, fun i j hi hj hne hk1 hk2 hl => ?_⟩, two, hown⟩
 ·simp only [as0, ay];split
  ·simp only; omega
  ·simp [az]
 ·have := named j hj;show A'.st j = 1;rw [hst, if_pos (.inl this)]
 ·rw [hsh] at hj;have := named j hj;show A'.st j = 1;rw [hst, if_pos (.inl this)]
 ·exact hown i (pK.1 hk1)
end Go.Proofs.YtmimfopnhmmlbaaGreatDoor
namespace Go.Proofs.YtmimfopnhmmlbaaGreatDoor
open Go.Ab
def uV (x : Int) : V := .int .u64 x
theorem JI {A : AF} (hA : A.Ok) {j : Nat} (h1 : A.f ≤ j) (h2 : j < A.l) (h3 : A.st j = 0) : A.left ≠ 0 := fun h => by
 have := AF.left_zero.1 h;exact vX hA this j h1 h2 h3
theorem Qg {hp : List Blk} {v : V} (h : (Sh.int .u64).Fits hp v) : ∃ x : Int, v = uV x ∧ 0 ≤ x ∧ x ≤ 18446744073709551615 := by
 obtain ⟨n, rfl, h1, h2⟩ := h;exact ⟨n, rfl, h1, h2⟩
theorem Mv {hp : List Blk} (h : G <+: hp) : hp[0]? = some (.ro bX) := by
 obtain ⟨t, rfl⟩ := h;rfl
theorem Bs {f : Int → V} (hf : ∀ a, veq (f a) (f a) = some true) : ∀ l : List Int, bB (l.map f) (l.map f) = some true
 | [] => rfl
 | a :: l => by simp only [List.map_cons, bB, hf, Bs hf l]
theorem AQ {hp : List Blk} {v : V} (h : (Sh.int .i64).Fits hp v) : ∃ x : Int, v = .int .i64 x ∧ -9223372036854775808 ≤ x ∧ x ≤ 9223372036854775807 := by
 obtain ⟨n, rfl, h1, h2⟩ := h;exact ⟨n, rfl, h1, h2⟩
section
variable {hp hp' : List Blk} {F G G' Fm : Ft} {a m fr : Nat} {x : AS}
theorem aR.chg (h : aR hp Fm a m fr x) (hc : Chg hp hp' G G') (ha : lZ G (bM a fr Fm)) (hg : ¬ G 0) : aR hp' Fm a m fr x :=
 ⟨h.ok, hc.get h.g hg, hc.get h.st fun e => ha a e (.inl rfl), h.fp.eqv (hc.old fr h.fp.lt fun e => ha fr e (.inr (.inl rfl))), h.mp.chg hc fun j h1 h2 => ha j h1 (.inr (.inr h2)), h.ne, h.na, h.nf, h.nz⟩
end
end Go.Proofs.YtmimfopnhmmlbaaGreatDoor
