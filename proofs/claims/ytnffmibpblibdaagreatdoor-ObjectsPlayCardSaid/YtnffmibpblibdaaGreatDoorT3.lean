/-
  YtnffmibpblibdaaGreatDoorT3: what functions of the program compute (Sh10, SofA, LobA, LobU).
-/
import Derived.Test.YtnffmibpblibdaaGreatDoorClo
import Derived.Test.YtnffmibpblibdaaGreatDoorAbF
import Derived.Test.YtnffmibpblibdaaGreatDoorT1
import Derived.Test.YtnffmibpblibdaaGreatDoorT2
set_option maxRecDepth 100000
namespace Go.Proofs.YtnffmibpblibdaaGreatDoor
open Go.Ab
theorem BZ : xU (ev D 6000 (.f fb []) ⟨[], [.ro dC]⟩) = true := by kernel_rfl
theorem Ay {s : St} (h : s.hp[0]? = some (.ro dC)) : ∃ more, rf D fb [] s = some (.bool true, ⟨s.loc, s.hp ++ more⟩) := by
 refine Td (G := [.ro dC]) ?_ CW rfl BZ ?_
 ·intro b hb;rw [List.mem_singleton.1 hb];exact ⟨_, rfl, by kernel_rfl⟩
 ·obtain ⟨loc, hp⟩ := s;cases hp with
  | nil => cases h
  | cons b t =>
   simp only [List.getElem?_cons_zero, Option.some.injEq] at h;subst h;exact ⟨t, rfl⟩
end Go.Proofs.YtnffmibpblibdaaGreatDoor
namespace Go.Proofs.YtnffmibpblibdaaGreatDoor
open Go.Ab
structure nE (A : AF) (w : List Nat) : Prop where
 ok : A.Ok
 two : A.Two
 okw : OkS w
 bits : ∀ j, j < 1024 → bit w j = (A.inr j && decide (A.st j = 0))
theorem nE.l2 {A : AF} {w : List Nat} (h : nE A w) : ∀ j, j < 1024 → bit (w16 []) j = (A.inr j && decide (A.st j = 2)) := fun j _ => by
 rw [pu];have := h.two j;have : ¬ A.st j = 2 := by omega
 simp [this]
theorem nE.st {A : AF} {w : List Nat} (h : nE A w) (x : Int) : cB A.f A.l w (w16 []) x = A.state x := pR h.ok h.bits h.l2 x
theorem nE.put {A : AF} {w : List Nat} (h : nE A w) {x : Int} (hx : A.state x = 0) : nE (A.put x.toNat 1) (flip w x.toNat) := by
 have hr := ia (A := A) (line := x) (by omega);have e0 := jI hr.1 hr.2;refine ⟨h.ok.put (.inr (.inl rfl)), h.two.put (.inr rfl), h.okw.flip (by have := h.ok.l1; omega), oh h.ok h.okw h.bits (gn.2 (by omega)) (by simp; omega)⟩
theorem kf : ∀ {ls : List Int} {A : AF} {w : List Nat}, nE A w → (bS A.f A.l ls w = none ∧ A.takes ls = none) ∨ ∃ w' A', bS A.f A.l ls w = some w' ∧ A.takes ls = some A' ∧ nE A' w'
 | [], A, w, h => .inr ⟨w, A, rfl, rfl, h⟩
 | x :: r, A, w, h => by
  simp only [bS, AF.takes, h.st];by_cases hx : A.state x = 0
  ·rw [if_pos hx, if_pos hx];exact kf (h.put hx)
  ·rw [if_neg hx, if_neg hx];exact .inl ⟨rfl, rfl⟩
theorem QK {f l : Nat} (h : f ≤ l) (h1 : l ≤ 1024) {w : List Nat} (hw : OkS w) (hb : ∀ j : Nat, j < 1024 → bit w j = (decide ((f : Int) ≤ j) && decide ((j : Int) < l))) : nE (af0 f l) w :=
 ⟨Vt h h1, fun _ => .inl rfl, hw, fun j hj => by
  rw [hb j hj];simp only [AF.inr, af0, decide_true, Bool.and_true];congr 1
  ·exact decide_eq_decide.2 (by omega)
  ·exact decide_eq_decide.2 (by omega)⟩
theorem Uk {M : AM} (hM : M.Ok) {A' : AF} {f : Nat} (hf : f ≤ M.n) {t : Nat → Ent} {d : Nat → Int} (h : (af0 f M.n).takes (cU t d) = some A') : (as0 M A' t d).Ok ∧ A'.Two := by
 obtain ⟨h1, h2, h3, h4⟩ := kZ h;have ht : kj A' t := ⟨fun i hi hk => by
  have := h3 _ (List.mem_append_left _ (qk t 49 0 i (by omega) (by omega) hk));rw [h1, h2]; exact this⟩
 have two : A'.Two := fun j => by rw [h4 j]; split; exact .inr rfl; exact .inl rfl
 have hA : A'.Ok := ⟨by rw [h1, h2]; exact hf, by rw [h2]; exact hM.n1, fun j => by have := two j; omega⟩;refine ⟨⟨hM, hA, h2, ht, ht, ⟨fun _ _ hk => absurd rfl hk⟩, fun j => by have := two j; simp only [as0]; omega⟩, two⟩
theorem GO {hp : List Blk} {F : Ft} {m : Nat} {M : AM} (h : fT hp F m M) (hG : hp[0]? = some (.ro dC)) (hz : ¬ F 0) (from' : Int) (t : Nat → Ent) (d : Nat → Int) (L : List Blk) :
 ((from' < 0 ∨ (M.n : Int) < from') ∧ rf D dG [.ptr (.hp m) [] 59, .int .i64 from', aj t, ax d] ⟨L, hp⟩ = some (.tup [.nilp, .int .i64 1], ⟨L, hp⟩)) ∨
 (0 ≤ from' ∧ from' ≤ M.n ∧ (af0 from'.toNat M.n).takes (cU t d) = none ∧ ∃ more, rf D dG [.ptr (.hp m) [] 59, .int .i64 from', aj t, ax d] ⟨L, hp⟩ = some (.tup [.nilp, .int .i64 21], ⟨L, hp ++ more⟩)) ∨
 (0 ≤ from' ∧ from' ≤ M.n ∧ ∃ A' more, (af0 from'.toNat M.n).takes (cU t d) = some A' ∧ rf D dG [.ptr (.hp m) [] 59, .int .i64 from', aj t, ax d] ⟨L, hp⟩ = some (.tup [.ptr (.hp (hp.length + 1)) [] 43, .int .i64 0], ⟨L, hp ++ more⟩) ∧
  aT (hp ++ more) F (hp.length + 1) m hp.length (as0 M A' t d)) := by
 have hln := sL h;by_cases h0 : from' < 0 ∨ (M.n : Int) < from'
 ·exact .inl ⟨h0, sE ⟨L, hp⟩ (fun L' => hln (L ++ L')) from' (by omega) t d⟩
 ·right;obtain ⟨f, rfl⟩ : ∃ f : Nat, from' = f := ⟨from'.toNat, by omega⟩
  rw [Int.toNat_natCast];obtain ⟨w0, ok0, b0, hh⟩ := uO ⟨L, hp⟩ (fun L' => hln (L ++ L')) f (by omega) (by omega) h.ok.n1 t d;have hB := QK (f := f) (l := M.n) (by omega) h.ok.n1 ok0 b0;rcases hh with ⟨hn, more, e⟩ | ⟨w, hw, hs, e⟩
  ·left;refine ⟨by omega, by omega, ?_, more, e⟩;rcases kf (ls := cU t d) hB with ⟨_, q⟩ | ⟨_, _, q, _⟩
   ·exact q
   ·have : bS f M.n (cU t d) w0 = some _ := q;rw [hn] at this; cases this
  ·right;refine ⟨by omega, by omega, ?_⟩;rcases kf (ls := cU t d) hB with ⟨q, _⟩ | ⟨w', A', q, q2, q3⟩
   ·have : bS f M.n (cU t d) w0 = none := q;rw [hs] at this; cases this
   ·have q : bS f M.n (cU t d) w0 = some w' := q;rw [hs] at q; cases q;obtain ⟨h1, h2, _, _⟩ := kZ q2;obtain ⟨ok, _⟩ := Uk h.ok (show f ≤ M.n by omega) q2;refine ⟨A', _, q2, e, ⟨ok, ?_, ?_, ⟨ok.A, w, w16 [], ?_, q3.okw, rH, q3.bits, q3.l2⟩, h.chg (lQ hp _ (fun _ => False)) (fun _ h => h.elim), by omega, fun hf => ?_, fun hf => ?_, hz⟩⟩
    ·rw [List.getElem?_append_left (av hG)]; exact hG
    ·simp; rfl
    ·have e1 : (A'.f : Int) = f := by rw [h1]; rfl
     have e2 : (A'.l : Int) = M.n := by rw [h2]; rfl
     show (hp ++ _)[hp.length]? = some (.rw (frV A'.f A'.l w (w16 [])));rw [e1, e2];simp
    ·have := h.inn _ hf; omega
    ·have := h.inn _ hf; omega
end Go.Proofs.YtnffmibpblibdaaGreatDoor
namespace Go.Proofs.YtnffmibpblibdaaGreatDoor
open Go.Ab
def kd (c n : Int) : Int := (if c < 0 then -(c + 1) else c) % n
theorem lK (c : Int) {n : Int} (h : 0 < n) : 0 ≤ kd c n ∧ kd c n < n := ⟨Int.emod_nonneg _ (by omega), Int.emod_lt_of_pos _ h⟩
theorem kC (c n : Int) (h0 : -9223372036854775808 ≤ c) (h1 : c ≤ 9223372036854775807) (hn : 0 < n) (s : St) : rf D aC [.int .i64 c, .int .i64 n] s = some (.int .i64 (kd c n), s) := by
 have hn0 : ¬ n = 0 := by omega
 unfold kd;rw [ah pw rfl];by_cases hc : c < 0
 ·have w1 : IntKind.i64.wrap (c + 1) = c + 1 := ao (by omega) (by omega);have w2 : IntKind.i64.wrap (0 - (c + 1)) = -(c + 1) := by rw [ao (by omega) (by omega)]; omega
  have w3 : (-(c + 1)).tmod n = (-(c + 1)) % n := Int.tmod_eq_emod_of_nonneg (by omega);simp only [go_sem, hc, w1, w2, hn0, w3]
 ·have w3 : c.tmod n = c % n := Int.tmod_eq_emod_of_nonneg (by omega);simp only [go_sem, hc, hn0, w3]
def cf (c : Nat) (i : Nat) : Ent := if i < c then ⟨1 + (i % 4 : Nat), i, 20 + i⟩ else dK
theorem BS (c : Nat) (hc : c ≤ 49) (s : St) : rf D ct [.int .i64 c] s = some (aj (cf c), s) := by
 have z1 : V.agg 48 (List.replicate 49 (.agg 42 [.int .i64 0, .int .i64 0, .int .i64 0])) = aj fun _ => dK := by rw [jX]; rfl
 have loop : rc D s.loc.length (.loop [0, 2, 3, 4] ea) [(0, .int .i64 c), (2, .ptr (.loc s.loc.length) [] 48), (3, .ptr (.loc (s.loc.length + 1)) [] 48), (4, .int .i64 0)] ⟨s.loc ++ [.rw (aj fun _ => dK), .rw (aj fun _ => dK)], s.hp⟩ =
  some (.exit 0, [(0, .int .i64 c), (2, .ptr (.loc s.loc.length) [] 48), (3, .ptr (.loc (s.loc.length + 1)) [] 48), (4, .int .i64 c), (12, .bool false)], ⟨s.loc ++ [.rw (aj fun _ => dK), .rw (aj (cf c))], s.hp⟩) := by
  refine cw (fun x : Nat => [(0, .int .i64 c), (2, .ptr (.loc s.loc.length) [] 48), (3, .ptr (.loc (s.loc.length + 1)) [] 48), (4, .int .i64 x)]) (fun x => ⟨s.loc ++ [.rw (aj fun _ => dK), .rw (aj (cf x))], s.hp⟩) (fun _ => _) (fun x => c - x) (fun x => x ≤ c) 0 ?_ (by omega) rfl rfl;intro i hi;by_cases c1 : i < c
  ·left;have d1 : (i : Int) < c := by omega
   have d2 : (i : Int) < 49 := by omega
   have d3 : (0 : Int) ≤ i := by omega
   have d4 : IntKind.i64.wrap ((i : Int) + 1) = (i : Int) + 1 := ao (by omega) (by omega);have w1 : (i : Int).tmod 4 = ((i % 4 : Nat) : Int) := by rw [show (4 : Int) = ((4 : Nat) : Int) by rfl, ← Int.ofNat_tmod]
   have w2 : IntKind.i64.wrap (1 + ((i % 4 : Nat) : Int)) = 1 + ((i % 4 : Nat) : Int) := ao (by omega) (by omega);have w3 : IntKind.i64.wrap (20 + (i : Int)) = 20 + (i : Int) := ao (by omega) (by omega);have z2 : s.loc.length < s.loc.length + 2 := by omega
   have z3 : s.loc.length + 1 < s.loc.length + 2 := by omega
   have hup := kp (t := cf i) (i := i) (e := ⟨1 + (i % 4 : Nat), i, 20 + i⟩);have e : (tab 49 fun j => (updE (cf i) i ⟨1 + (i % 4 : Nat), i, 20 + i⟩ j).v) = tab 49 fun j => (cf (i + 1) j).v := by
    apply fD;intro j _;unfold updE cf;by_cases h1 : j = i
    ·subst h1; rw [if_pos rfl, if_pos (by omega)]
    ·rw [if_neg h1];by_cases h2 : j < i
     ·rw [if_pos h2, if_pos (by omega)]
     ·rw [if_neg h2, if_neg (by omega)]
   rw [e] at hup;have g1 := aG (f := fun j => (cf i j).v) (show i < 49 by omega);refine ⟨i + 1, by omega, by omega, rfl, ?_⟩;simp only [aj];rw [← hup];simp only [Ent.v] at *;generalize tab 49 (fun j => V.agg 42 [.int .i64 (cf i j).kind, .int .i64 (cf i j).ver, .int .i64 (cf i j).line]) = T at *;generalize tab 49 (fun _ => V.agg 42 [.int .i64 dK.kind, .int .i64 dK.ver, .int .i64 dK.line]) = T0 at *;generalize i % 4 = im at *;simp only [go_sem, ea, d1, d2, d3, w1, w2, w3, d4, z2, z3];rw [Int.toNat_natCast];simp only [go_sem, g1, d4, z2, z3];rfl
  ·right;have : i = c := by omega
   subst this;have d1 : ¬ (i : Int) < i := by omega
   simp only [aj];simp only [go_sem, ea, d1]
 rw [ah oF rfl];simp only [aj] at *;simp only [go_sem, z1, loop]
def fI (i : Nat) : Int := if i < 8 then 10 + i else 0
theorem GI {hp : List Blk} (h : hp[0]? = some (.ro dC)) : [Blk.ro dC] <+: hp := by
 cases hp with
 | nil => cases h
 | cons b t =>
  simp only [List.getElem?_cons_zero, Option.some.injEq] at h;subst h;exact ⟨t, rfl⟩
theorem FZ : ev D 500 (.f bp []) ⟨[], [.ro dC]⟩ = some (.v (ax fI) ⟨[], [.ro dC]⟩) := by kernel_rfl
theorem sV {s : St} (h : s.hp[0]? = some (.ro dC)) : rf D bp [] s = some (ax fI, s) :=
 yc (G := [.ro dC]) (fun b hb => by rw [List.mem_singleton.1 hb]; exact ⟨_, rfl, by kernel_rfl⟩) CW rfl rfl FZ (GI h)
theorem Cy {n : Nat} (h0 : 64 ≤ n) (h1 : n ≤ 1024) (hp L : List Blk) : ∃ more, more.length = 2 ∧ rf D kA [.int .i64 n] ⟨L, hp⟩ = some (.tup [.ptr (.hp (hp.length + 1)) [] 59, .int .i64 0], ⟨L, hp ++ more⟩) ∧
 fT (hp ++ more) (fun j => j = hp.length ∨ j = hp.length + 1) (hp.length + 1) (am0 n fun _ => zl) := by
 refine ⟨_, rfl, AX h0 h1 ⟨L, hp⟩, ⟨h0, h1, fun _ _ => rfl, fun _ _ d hd => (by cases hd), Int.le_refl _, fun _ _ => Int.le_refl _, Int.le_refl _, by simp [am0]⟩, fun j hj => ?_, .inr rfl, hp.length, .inl rfl, by omega, ⟨some n, 0, ?_, .inr rfl, fun h => by simp [am0] at h⟩, fun _ => .nils, fun _ => 0, ?_, fun i hi => .nil⟩
 ·simp; omega
 ·simp; rfl
 ·have e : (tab n fun _ => nlV zln zln .nils zfl) = tab (am0 n fun _ => zl).n fun i => plV ((am0 n fun _ => zl).S i) ((am0 n fun _ => zl).L i) .nils := rfl;rw [← e]; simp
theorem sg {c : Nat} : ∀ (n i : Nat), i + n = 49 → c ≤ 49 → aJ (cf c) i n = ((List.range' i n).filter (· < c)).map fun j => (20 : Int) + (j : Nat)
 | 0, i, _, _ => rfl
 | n + 1, i, hi, hc => by
  simp only [aJ, List.range'_succ, List.filter_cons];by_cases h : i < c
  ·have hk : ¬ (cf c i).kind = 0 := by unfold cf; rw [if_pos h]; simp only; omega
   have hl : (cf c i).line = 20 + (i : Nat) := by unfold cf; rw [if_pos h]
   rw [if_neg hk, hl, sg n (i + 1) (by omega) hc];simp [h]
  ·have hk : (cf c i).kind = 0 := by unfold cf; rw [if_neg h]; rfl
   rw [if_pos hk, sg n (i + 1) (by omega) hc];simp [h]
theorem Bk {c : Nat} (hc : c ≤ 49) (x : Int) : x ∈ cU (cf c) fI ↔ (20 ≤ x ∧ x < 20 + c) ∨ (10 ≤ x ∧ x < 18) := by
 unfold cU;rw [List.mem_append, sg 49 0 rfl hc];have e : dX fI 0 8 = [10, 11, 12, 13, 14, 15, 16, 17] := rfl;rw [e];simp only [List.mem_map, List.mem_filter, List.mem_range'_1, decide_eq_true_eq, List.mem_cons, List.not_mem_nil, or_false];constructor
 ·rintro (⟨j, ⟨h1, h2⟩, rfl⟩ | h)
  ·left; omega
  ·right; omega
 ·rintro (h | h)
  ·left; exact ⟨(x - 20).toNat, ⟨by omega, by omega⟩, by omega⟩
  ·right; omega
theorem Sz {c : Nat} (hc : c ≤ 49) : (cU (cf c) fI).Nodup := by
 unfold cU;rw [sg 49 0 rfl hc, List.nodup_append];refine ⟨?_, by decide, fun x hx y hy e => ?_⟩
 ·rw [List.Nodup, List.pairwise_map];have hn : (List.range' 0 49).Nodup := by decide
  exact (List.Pairwise.filter _ hn).imp fun h e => h (by omega)
 ·have e : dX fI 0 8 = [10, 11, 12, 13, 14, 15, 16, 17] := rfl;rw [e] at hy;simp only [List.mem_map] at hx;obtain ⟨j, _, rfl⟩ := hx;simp only [List.mem_cons, List.not_mem_nil, or_false] at hy;omega
theorem Uj {c n : Nat} (hc : c ≤ 30) (hn : 64 ≤ n) : ∃ A', (af0 10 n).takes (cU (cf c) fI) = some A' ∧ A'.f = 10 ∧ A'.l = n ∧ ∀ j, A'.st j = if (20 ≤ j ∧ j < 20 + c) ∨ (10 ≤ j ∧ j < 18) then 1 else 0 := by
 obtain ⟨A', h⟩ := xI (A := af0 10 n) (Sz (c := c) (by omega)) fun x hx => by
  rw [Bk (by omega)] at hx;unfold AF.state af0;rw [if_neg (by simp only; omega)]
 obtain ⟨h1, h2, _, h4⟩ := kZ h;refine ⟨A', h, h1, h2, fun j => ?_⟩;rw [h4 j];have := Bk (c := c) (by omega) (j : Int);by_cases e : (j : Int) ∈ cU (cf c) fI
 ·rw [if_pos e, if_pos (by rw [this] at e; omega)]
 ·rw [if_neg e, if_neg (fun h => e (this.2 (by omega)))]; rfl
end Go.Proofs.YtnffmibpblibdaaGreatDoor
namespace Go.Proofs.YtnffmibpblibdaaGreatDoor
open Go.Ab
def uV (x : Int) : V := .int .u64 x
theorem WQ {hp : List Blk} {v : V} (h : (Sh.int .u64).Fits hp v) : ∃ x : Int, v = uV x ∧ 0 ≤ x ∧ x ≤ 18446744073709551615 := by
 obtain ⟨n, rfl, h1, h2⟩ := h;exact ⟨n, rfl, h1, h2⟩
theorem Tu {hp : List Blk} (h : G <+: hp) : hp[0]? = some (.ro dC) := by
 obtain ⟨t, rfl⟩ := h;rfl
theorem tB {f : Int → V} (hf : ∀ a, veq (f a) (f a) = some true) : ∀ l : List Int, dE (l.map f) (l.map f) = some true
 | [] => rfl
 | a :: l => by simp only [List.map_cons, dE, hf, tB hf l]
theorem uG {hp : List Blk} {v : V} (h : (Sh.int .i64).Fits hp v) : ∃ x : Int, v = .int .i64 x ∧ -9223372036854775808 ≤ x ∧ x ≤ 9223372036854775807 := by
 obtain ⟨n, rfl, h1, h2⟩ := h;exact ⟨n, rfl, h1, h2⟩
section
variable {hp hp' : List Blk} {F G G' Fm : Ft} {a m fr : Nat} {x : AS}
theorem aT.chg (h : aT hp Fm a m fr x) (hc : Chg hp hp' G G') (ha : gu G (bu a fr Fm)) (hg : ¬ G 0) : aT hp' Fm a m fr x :=
 ⟨h.ok, hc.get h.g hg, hc.get h.st fun e => ha a e (.inl rfl), h.fp.eqv (hc.old fr h.fp.lt fun e => ha fr e (.inr (.inl rfl))), h.mp.chg hc fun j h1 h2 => ha j h1 (.inr (.inr h2)), h.ne, h.na, h.nf, h.nz⟩
end
end Go.Proofs.YtnffmibpblibdaaGreatDoor
