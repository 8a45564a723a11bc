/-
  YtnffmibpblibdaaGreatDoorT5: what functions of the program compute (CloA, CloB, PlyA, PlyB, PlyC, PlyD, PlyE, PlyF, PlyG, PlyH).
-/
import Derived.Test.YtnffmibpblibdaaGreatDoorT4
import Derived.Test.YtnffmibpblibdaaGreatDoorT2
import Derived.Test.YtnffmibpblibdaaGreatDoorT3
set_option maxRecDepth 100000
namespace Go.Proofs.YtnffmibpblibdaaGreatDoor
open Go.Ab
theorem SlR.more {hp hp' : List Blk} {G G' : Ft} {e r : Nat} {v : V} {l : List V} (h : SlR hp G e r v l) (he : ∀ j, j < hp.length → G j → hp'[j]? = hp[j]?) (hG : ∀ j, j < hp.length → G j → G' j) : SlR hp' G' e r v l := by
 cases h with
 | nil => exact .nil
 | emp a p o => exact .emp a p o
 | blk a c l hc hg hb => exact .blk a c l hc (hG a (av hb) hg) (by rw [he a (av hb) hg]; exact hb)
theorem vd {H : List Blk} {G : Ft} {v : V} {l : List V} (h : SlR H G 84 86 v l) (hl : V.locLts 0 l = true) (hm : l.length ≤ cq) :
 ∃ H1 v', H <+: H1 ∧ (∀ L, rf D em [v] ⟨L, H⟩ = some (v', ⟨L, H1⟩)) ∧ SlR H1 (fun j => H.length ≤ j ∧ j < H1.length) 84 86 v' l := by
 by_cases hv : v = .nils
 ·subst hv;cases h;refine ⟨H, .nils, List.prefix_refl _, fun L => ?_, .nil⟩;rw [ah jL rfl];simp only [go_sem]
 ·obtain ⟨H1, j, c, h1, h2, h3, h4, h5, h6, h7⟩ := tF h hl hm;obtain ⟨a, p, o, n, c', rfl⟩ := h.shape.resolve_left hv;refine ⟨H1, _, ?_, fun L => ?_, h7.more (fun _ _ _ => rfl) fun i hi e => (by cases e; exact ⟨h2, h3⟩)⟩
  ·rw [List.prefix_iff_eq_take];apply List.ext_getElem?;intro i;by_cases hi : i < H.length
   ·rw [List.getElem?_take, if_pos hi, h4 i hi]
   ·rw [List.getElem?_eq_none (by omega), List.getElem?_take, if_neg hi]
  ·have h6 := h6 L.length L;rw [ah jL rfl];simp only [go_sem, List.replicate_zero, h6]
theorem vW {H : List Blk} {G : Ft} {v : V} {l : List V} (h : SlR H G 55 57 v l) (hl : V.locLts 0 l = true) (hm : l.length ≤ cq) (hn : l ≠ []) :
 ∃ H1 j c, H <+: H1 ∧ H.length ≤ j ∧ (∀ L, rf D eL [v] ⟨L, H⟩ = some (.sl (.hp j) [] 0 l.length c 55, ⟨L, H1⟩)) ∧ (c = none ∨ c = some l.length) ∧ H1[j]? = some (.rw (.agg 57 l)) := by
 have hv : v ≠ .nils := by
  rintro rfl;cases h;exact hn rfl
 obtain ⟨H1, j, c, h1, h2, h3, h4, h5, h6, h7⟩ := tF h hl hm;obtain ⟨a, p, o, n, c', rfl⟩ := h.shape.resolve_left hv;refine ⟨H1, j, c, ?_, h2, fun L => ?_, ?_⟩
 ·rw [List.prefix_iff_eq_take];apply List.ext_getElem?;intro i;by_cases hi : i < H.length
  ·rw [List.getElem?_take, if_pos hi, h4 i hi]
  ·rw [List.getElem?_eq_none (by omega), List.getElem?_take, if_neg hi]
 ·have h6 := h6 L.length L;rw [ah oa rfl];simp only [go_sem, List.replicate_zero] at h6 ⊢;simp only [go_sem, h6]
 ·generalize hw : V.sl (.hp j) [] 0 l.length c 55 = w at h7;cases h7 with
  | nil => cases hw
  | emp a p o => exact absurd rfl hn
  | blk a c' l' hc hG hb =>
   cases hw;exact ⟨hc, hb⟩
theorem V9 {l : List Dn} : V.locLts 0 (l.map Dn.v1) = true := by
 induction l with
 | nil => rfl
 | cons d l ih =>
  simp only [List.map_cons, V.locLts, ih, Bool.and_true];rfl
structure Cln (H hp : List Blk) (m k : Nat) (M : AM) (c : Option Nat) (left : Int) (sv : Nat → V) (i : Nat) : Prop where
 pre : H <+: hp
 mkk : H.length ≤ m ∧ H.length ≤ k ∧ m ≠ k
 bm : hp[m]? = some (.rw (dO k M.n c M.off (decide (0 ≤ M.left)) left M.count))
 bk : ∃ (sw : Nat → V) (ow : Nat → Nat), hp[k]? = some (.rw (.agg 57 (tab M.n fun x => plV (M.S x) (M.L x) (sw x)))) ∧
  (∀ x, x < i → SlR hp (fun j => H.length ≤ j ∧ j < hp.length ∧ j ≠ m ∧ j ≠ k ∧ ow j = x) 84 86 (sw x) ((M.L x).map Dn.v1)) ∧ ∀ x, i ≤ x → sw x = sv x
theorem xR {H : List Blk} {F : Ft} {m0 k0 : Nat} {M : AM} (ok : M.Ok) (hcnt : M.count < 1000000) {sv : Nat → V} {c0 : Option Nat} {l0 : Int} (a1 : H[m0]? = some (.rw (dO k0 M.n c0 M.off (decide (0 ≤ M.left)) l0 M.count)))
 (a2 : H[k0]? = some (.rw (.agg 57 (tab M.n fun i => plV (M.S i) (M.L i) (sv i))))) (a3 : ∀ i, i < M.n → SlR H F 84 86 (sv i) ((M.L i).map Dn.v1)) {m k : Nat} {c : Option Nat} {left : Int} (L : List Blk) :
 ∀ (n i : Nat) {hp : List Blk}, i + n = M.n → Cln H hp m k M c left sv i →
  ∃ hp', rc D L.length (.loop [0, 3, 16, 17] fY) [(0, .ptr (.hp m0) [] 59), (3, .ptr (.hp m) [] 59), (16, .int .i64 M.n), (17, .int .i64 i)] ⟨L, hp⟩ =
   some (.exit 0, [(0, .ptr (.hp m0) [] 59), (3, .ptr (.hp m) [] 59), (16, .int .i64 M.n), (17, .int .i64 M.n), (18, .bool false)], ⟨L, hp'⟩) ∧ Cln H hp' m k M c left sv M.n
 | 0, i, hp, hi, h => by
  have : i = M.n := by omega
  subst this;refine ⟨hp, ?_, h⟩;have d1 : ¬ (M.n : Int) < M.n := by omega
  rw [aR];simp only [go_sem, fY, d1]
 | n + 1, i, hp, hi, h => by
  obtain ⟨sw, ow, b1, b2, b3⟩ := h.bk;have hj : i < M.n := by omega
  have n1 := ok.n1;have hlen := ok.len i hj;have hlH : H.length ≤ hp.length := h.pre.length_le;have e1 : hp[m0]? = _ := a9 h.pre a1;have e2 : hp[k0]? = _ := a9 h.pre a2;have hsl : SlR hp (fun j => F j ∧ j < H.length) 84 86 (sv i) ((M.L i).map Dn.v1) := (a3 i hj).more (fun j hj _ => a9 h.pre (List.getElem?_eq_getElem hj) ▸ (List.getElem?_eq_getElem hj).symm) fun j h1 h2 => ⟨h2, h1⟩;obtain ⟨H1, v', p1, q1, q2⟩ := vd hsl V9 (by simp [cq]; omega);have hl1 := p1.length_le;have hb1 : H1[k]? = _ := a9 p1 b1;have hm1 : H1[m]? = _ := a9 p1 h.bm;have hkl : k < H1.length := av hb1;have htk : H1.take hp.length = hp := (List.prefix_iff_eq_take.1 p1).symm;have hlt : V.locLt L.length (sv i) = true := (a3 i hj).ltb;have g1 := aG (f := fun i => plV (M.S i) (M.L i) (sv i)) hj;have g2 := aG (f := fun x => plV (M.S x) (M.L x) (sw x)) hj;have w1 : co 55 (.sl (.hp k0) [] 0 M.n c0 55) (.int .i64 (i : Int)) = some (.ptr (.hp k0) [i] 55) := by simp [go_sem, hj]
  have w2 : co 55 (.sl (.hp k) [] 0 M.n c 55) (.int .i64 (i : Int)) = some (.ptr (.hp k) [i] 55) := by simp [go_sem, hj]
  have d1 : (i : Int) < M.n := by omega
  have d4 : IntKind.i64.wrap ((i : Int) + 1) = ((i + 1 : Nat) : Int) := ao (by omega) (by omega);have hnew : Cln H (H1.set k (.rw (.agg 57 ((tab M.n fun x => plV (M.S x) (M.L x) (sw x)).set i (plV (M.S i) (M.L i) v'))))) m k M c left sv (i + 1) := by
   refine ⟨?_, h.mkk, ?_, upd sw i v', fun j => if hp.length ≤ j then i else ow j, ?_, fun x hx => ?_, fun x hx => ?_⟩
   ·rw [List.prefix_iff_eq_take];apply List.ext_getElem?;intro j;by_cases hj : j < H.length
    ·rw [List.getElem?_take, if_pos hj, List.getElem?_set_ne (by have := h.mkk.2.1; omega)];exact (a9 (h.pre.trans p1) (List.getElem?_eq_getElem hj) ▸ List.getElem?_eq_getElem hj)
    ·rw [List.getElem?_eq_none (by omega), List.getElem?_take, if_neg hj]
   ·rw [List.getElem?_set_ne (Ne.symm h.mkk.2.2)]; exact hm1
   ·rw [j6, List.getElem?_set_self hkl];congr 4; funext x;unfold upd;split
    ·rename_i e; subst e; rfl
    ·rfl
   ·by_cases e : x = i
    ·subst e;rw [bf];refine q2.more (fun j h1 h2 => List.getElem?_set_ne (by have := av b1; omega)) fun j h1 h2 => ⟨by omega, by rw [List.length_set]; exact h2.2, by have := av h.bm; omega, by have := av b1; omega, if_pos h2.1⟩
    ·rw [bM e];refine (b2 x (by omega)).more (fun j h1 h2 => ?_) fun j h1 h2 => ⟨h2.1, by rw [List.length_set]; omega, h2.2.2.1, h2.2.2.2.1, (if_neg (by omega)).trans h2.2.2.2.2⟩;rw [List.getElem?_set_ne (Ne.symm h2.2.2.2.1)];exact (a9 p1 (List.getElem?_eq_getElem h1) ▸ (List.getElem?_eq_getElem h1).symm)
   ·rw [bM (by omega)]; exact b3 x (by omega)
  obtain ⟨hp', r1, r2⟩ := xR ok hcnt a1 a2 a3 L n (i + 1) (by omega) hnew;refine ⟨hp', ?_, r2⟩;rw [← r1, aR];have hbm := h.bm;have ht1 := q2.tag;have ht2 := q2.lt;simp only [dO, plV, nlV] at *;generalize (tab M.n fun i => V.agg 55 [lnV (ci (M.S i) (M.L i)), lnV (M.S i), sv i, flV (M.L i)]) = T0 at *;generalize (tab M.n fun x => V.agg 55 [lnV (ci (M.S x) (M.L x)), lnV (M.S x), sw x, flV (M.L x)]) = T1 at *;simp only [go_sem, fY, d1, hbm, e1, e2, w1, w2, g1, hlt, q1, htk, hb1, g2, d4, ht1, ht2, implies_true, if_true]
theorem A9 {b n : Nat} {f : Nat → V} (h : ∀ i, i < n → (f i).locLt b = true) : V.locLts b (tab n f) = true := by
 have key : ∀ l : List Nat, (∀ i ∈ l, i < n) → V.locLts b (l.map f) = true := by
  intro l
  induction l with
  | nil => intro _; rfl
  | cons a l ih => intro hl; simp only [List.map_cons, V.locLts, h a (hl a List.mem_cons_self), ih fun i hi => hl i (List.mem_cons_of_mem _ hi), Bool.and_true]
 exact key _ fun i hi => List.mem_range.1 hi
theorem yF {hp : List Blk} {F : Ft} {m : Nat} {M : AM} (h : fT hp F m M) (hcnt : M.count < 1000000) (L : List Blk) :
 ∃ hp' m', rf D gT [.ptr (.hp m) [] 59] ⟨L, hp⟩ = some (.ptr (.hp m') [] 59, ⟨L, hp'⟩) ∧ fT hp' (fun j => hp.length ≤ j ∧ j < hp'.length) m' M ∧ hp <+: hp' := by
 obtain ⟨k, fk, ne, ⟨cp, left, h1, h2, h3⟩, sv, ow, h4, h5⟩ := h.mb;have ok := h.ok;have n0 := ok.n0;have n1 := ok.n1;have hp1 : hp <+: hp ++ [Blk.rw (dO k M.n cp M.off (decide (0 ≤ M.left)) left M.count)] := List.prefix_append _ _;have hs : SlR (hp ++ [Blk.rw (dO k M.n cp M.off (decide (0 ≤ M.left)) left M.count)]) (.one k) 55 57 (.sl (.hp k) [] 0 (tab M.n fun i => plV (M.S i) (M.L i) (sv i)).length cp 55) (tab M.n fun i => plV (M.S i) (M.L i) (sv i)) :=
  .blk k cp _ (by rw [gc]; exact h2) rfl (a9 hp1 h4)
 have hlt : V.locLts 0 (tab M.n fun i => plV (M.S i) (M.L i) (sv i)) = true := A9 fun i hi => by
  have := (h5 i hi).lt;simp only [plV, nlV, lnV, flV];simp only [go_sem, this]
 obtain ⟨H1, k', c, p1, q0, q1, q2, q3⟩ := vW hs hlt (by rw [gc]; simp [cq]; omega) (by intro e; have := congrArg List.length e; rw [gc] at this; simp at this; omega);rw [gc] at q1 q2;rw [List.length_append, List.length_singleton] at q0;have hmm : H1[hp.length]? = some (.rw (dO k M.n cp M.off (decide (0 ≤ M.left)) left M.count)) := a9 p1 (by simp);have hml : hp.length < H1.length := av hmm;have a1 := a9 (hp1.trans p1) h1;have mlt := av h1;have c0 : Cln hp (H1.set hp.length (.rw (dO k' M.n c M.off (decide (0 ≤ M.left)) left M.count))) hp.length k' M c left sv 0 := by
  refine ⟨?_, ⟨Nat.le_refl _, by omega, by omega⟩, List.getElem?_set_self hml, sv, fun _ => 0, ?_, fun x hx => by omega, fun _ _ => rfl⟩
  ·rw [List.prefix_iff_eq_take];apply List.ext_getElem?;intro j;by_cases hj : j < hp.length
   ·rw [List.getElem?_take, if_pos hj, List.getElem?_set_ne (by omega)];exact (a9 (hp1.trans p1) (List.getElem?_eq_getElem hj) ▸ List.getElem?_eq_getElem hj)
   ·rw [List.getElem?_eq_none (by omega), List.getElem?_take, if_neg hj]
  ·rw [List.getElem?_set_ne (by omega)]; exact q3
 obtain ⟨hp', r1, r2⟩ := xR ok hcnt h1 h4 (fun i hi => h5 i hi |>.more (fun _ _ _ => rfl) fun _ _ h => h.1) L M.n 0 (by omega) c0;refine ⟨hp', hp.length, ?_, ?_, r2.pre⟩
 ·rw [show ((0 : Nat) : Int) = 0 from rfl] at r1
  have hm2 : (H1.set hp.length (.rw (dO k' M.n c M.off (decide (0 ≤ M.left)) left M.count)))[hp.length]? = _ := List.getElem?_set_self hml;have a1' : (hp ++ [Blk.rw (dO k M.n cp M.off (decide (0 ≤ M.left)) left M.count)])[m]? = _ := a9 hp1 h1;simp only [dO] at *;rw [ah ru rfl];simp only [go_sem, h1];simp only [go_sem, a1', q1, hmm];simp only [go_sem, hm2, r1]
 ·obtain ⟨sw, ow', b1, b2, b3⟩ := r2.bk;have := av r2.bm;have := av b1;refine ⟨ok, fun j hj => hj.2, ⟨Nat.le_refl _, by omega⟩, k', ⟨by omega, by omega⟩, by omega, ⟨c, left, r2.bm, q2, h3⟩, sw, ow', b1, fun i hi => (b2 i hi).more (fun _ _ _ => rfl) fun j hj h => ⟨⟨h.1, h.2.1⟩, h.2.2⟩⟩
end Go.Proofs.YtnffmibpblibdaaGreatDoor
namespace Go.Proofs.YtnffmibpblibdaaGreatDoor
open Go.Ab
theorem yQ {hp : List Blk} {Fm Fm' : Ft} {a m fr m' : Nat} {x : AS} (h : aT hp Fm a m fr x) (hm : fT hp Fm' m' x.M) (hz : ¬ Fm' 0) (L : List Blk) :
 ∃ hp', rf D fL [.ptr (.hp a) [] 43, .ptr (.hp m') [] 59] ⟨L, hp⟩ = some (.ptr (.hp hp.length) [] 43, ⟨L, hp'⟩) ∧ aT hp' Fm' hp.length m' (hp.length + 1) x ∧ hp <+: hp' ∧ hp'.length = hp.length + 2 := by
 have hst := h.st;have hal := av hst;have h1 : aT (hp ++ [.rw ((x.f m fr).v x.sh)]) Fm a m fr x := h.chg (lQ hp _ fun _ => False) (fun _ h => h.elim) fun h => h;obtain ⟨e1, e2⟩ := yn h1.fp L;obtain ⟨wf, wl, g1, g2⟩ := h1.fp.blk;have eg : (hp ++ [Blk.rw ((x.f m fr).v x.sh)]).getD fr .dead = .rw (frV x.A.f x.A.l wf wl) := by rw [List.getD_eq_getElem?_getD, g1]; rfl
 rw [eg] at e1 e2;have hlen : (hp ++ [Blk.rw ((x.f m fr).v x.sh)]).length = hp.length + 1 := by simp
 rw [hlen] at e1 e2;refine ⟨hp ++ [.rw ((x.f m' (hp.length + 1)).v x.sh), .rw (frV x.A.f x.A.l wf wl)], ?_, ?_, List.prefix_append _ _, by simp⟩
 ·rw [ah oZ rfl];simp only [AS.f, StF.v] at *;simp only [List.append_assoc, List.cons_append, List.nil_append] at e1;have hfb : hp[fr]? = some (.rw (frV x.A.f x.A.l wf wl)) := by
   have := h.fp.lt;rw [List.getElem?_append_left this] at g1;exact g1
  have hh1 := h1.st;simp only [AS.f, StF.v] at hh1;simp only [aj, ax, shV] at *;simp only [go_sem, hst, hh1, hfb, e1]
 ·have pre : hp <+: hp ++ [.rw ((x.f m' (hp.length + 1)).v x.sh), .rw (frV x.A.f x.A.l wf wl)] := List.prefix_append _ _;refine ⟨h.ok, a9 pre h.g, by simp, ⟨h.ok.A, wf, wl, by simp, g2⟩, hm.chg (lQ hp _ fun _ => False) (fun _ h => h.elim), by omega, fun hf => ?_, fun hf => ?_, hz⟩
  ·have := hm.inn _ hf; omega
  ·have := hm.inn _ hf; omega
end Go.Proofs.YtnffmibpblibdaaGreatDoor
namespace Go.Proofs.YtnffmibpblibdaaGreatDoor
open Go.Ab
structure Cll where
 kind : Int
 id : Int
 word : Int
 v : Int
def Cll.val (o : Cll) : V := .agg 54 [.int .i64 o.kind, .int .i64 o.id, .int .i64 o.word, .int .u64 o.v]
structure Cll.Ok (o : Cll) : Prop where
 k : -9223372036854775808 ≤ o.kind ∧ o.kind ≤ 9223372036854775807
 i : -9223372036854775808 ≤ o.id ∧ o.id ≤ 9223372036854775807
 w : -9223372036854775808 ≤ o.word ∧ o.word ≤ 9223372036854775807
 u : 0 ≤ o.v ∧ o.v ≤ 18446744073709551615
theorem VN {hp : List Blk} {v : V} (h : (Sh.st 54 [.int .i64, .int .i64, .int .i64, .int .u64]).Fits hp v) : ∃ o : Cll, v = o.val ∧ o.Ok := by
 obtain ⟨vs, rfl, h⟩ := h;obtain ⟨x, r, rfl, hx, h⟩ := wj h;obtain ⟨y, z, w, rfl, hy, hz, hw⟩ := OE h;obtain ⟨k, rfl, hk⟩ := uG hx;obtain ⟨i, rfl, hi⟩ := uG hy;obtain ⟨q, rfl, hq⟩ := uG hz;obtain ⟨u, rfl, hu⟩ := WQ hw;exact ⟨⟨k, i, q, u⟩, rfl, hk, hi, hq, hu⟩
def dOf (id : Int) (tk : List Int) (i : Nat) : Int := if i < 8 then (if 8 ≤ tk.length then tk.getD (tk.length - 8 + i) 0 else kd id 60 + i) else 0
def mQ (id : Int) (tk : List Int) (k : Nat) (i : Nat) : Int := if i < k then dOf id tk i else fI i
theorem yg {id : Int} {tk : List Int} {k : Nat} {y : Int} (hy : y = dOf id tk k) : (tab 8 fun i => V.int .i64 (mQ id tk k i)).set k (.int .i64 y) = tab 8 fun i => .int .i64 (mQ id tk (k + 1) i) := by
 subst hy;rw [j6];apply fD;intro i _;unfold upd mQ;by_cases e : i = k
 ·subst e; rw [if_pos rfl, if_pos (by omega)]
 ·rw [if_neg e];by_cases e2 : i < k
  ·simp only [e2, show i < k + 1 by omega, if_true]
  ·simp only [e2, show ¬ i < k + 1 by omega, if_false]
theorem DI {o : Cll} (ho : o.Ok) {tk : List Int} (htk : tk.length ≤ 1000) {v : V} {a b : Nat} {L hp : List Blk} (hv : RS ⟨L, hp⟩ 10 v (tk.map (.int .i64))) :
 rc D L.length (.loop [0, 1, 3, 6, 9, 10] dh) [(0, .ptr (.hp a) [] 43), (1, .ptr (.hp b) [] 31), (3, v), (6, .ptr (.loc L.length) [] 54), (9, .ptr (.loc (L.length + 1)) [] 50), (10, .int .i64 0)] ⟨L ++ [.rw o.val, .rw (ax fI)], hp⟩ =
  some (.exit 0, [(0, .ptr (.hp a) [] 43), (1, .ptr (.hp b) [] 31), (3, v), (6, .ptr (.loc L.length) [] 54), (9, .ptr (.loc (L.length + 1)) [] 50), (10, .int .i64 8), (18, .bool false)], ⟨L ++ [.rw o.val, .rw (ax (dOf o.id tk))], hp⟩) := by
 have hend : (tab 8 fun i => V.int .i64 (mQ o.id tk 8 i)) = tab 8 fun i => .int .i64 (dOf o.id tk i) := fD fun i hi => by unfold mQ; rw [if_pos hi]
 have hbeg : (tab 8 fun i => V.int .i64 (mQ o.id tk 0 i)) = tab 8 fun i => .int .i64 (fI i) := fD fun i hi => by unfold mQ; rw [if_neg (by omega)]
 refine cw (fun j : Nat => [(0, .ptr (.hp a) [] 43), (1, .ptr (.hp b) [] 31), (3, v), (6, .ptr (.loc L.length) [] 54), (9, .ptr (.loc (L.length + 1)) [] 50), (10, .int .i64 j)]) (fun j => ⟨L ++ [.rw o.val, .rw (.agg 50 (tab 8 fun i => V.int .i64 (mQ o.id tk j i)))], hp⟩) (fun _ => _) (fun j => 8 - j) (fun j => j ≤ 8) 0 ?_ (by omega) rfl (by rw [hbeg]; rfl);intro i hi;by_cases c1 : i < 8
 ·left;have hk := fun s => kC o.id 60 ho.i.1 ho.i.2 (by decide) s;have hr := lK o.id (n := 60) (by decide);have d1 : (i : Int) < 8 := by omega
  have d2 : (0 : Int) ≤ i := by omega
  have d4 : IntKind.i64.wrap ((i : Int) + 1) = (i : Int) + 1 := ao (by omega) (by omega);have d5 : IntKind.i64.wrap (kd o.id 60 + (i : Int)) = kd o.id 60 + i := ao (by omega) (by omega);have g1 := aG (f := fun j => V.int .i64 (mQ o.id tk i j)) c1;have hlv : ∀ X : List Blk, RS ⟨L ++ X, hp⟩ 10 v (tk.map (.int .i64)) := fun X => hv.more ⟨List.prefix_append _ _, List.prefix_rfl⟩;have hsl : V.slen false v = some tk.length := by
   have := hv.slen
   rwa [List.length_map] at this
  have hvl : v.locLt L.length = true := hv.locLt;have hvl2 : v.locLt (L.length + 2) = true := fZ (Nat.le_add_right _ _) hvl;have hss : ∀ z, ((tab 8 fun j => V.int .i64 (mQ o.id tk i j)).set i z)[i]? = some z := fun z => List.getElem?_set_self (by rw [gc]; exact c1);have z2 : L.length < L.length + 2 := by omega
  have z3 : L.length + 1 < L.length + 2 := by omega
  refine ⟨i + 1, by omega, by omega, rfl, ?_⟩;by_cases c2 : 8 ≤ tk.length
  ·have c2' : (tk.length : Int) ≥ 8 := by omega
   have d6 : IntKind.i64.wrap ((tk.length : Int) - 8) = (tk.length : Int) - 8 := ao (by omega) (by omega);have d7 : IntKind.i64.wrap ((tk.length : Int) - 8 + (i : Int)) = ((tk.length - 8 + i : Nat) : Int) := by rw [ao (by omega) (by omega)]; omega
   have hg := ck (f := V.int .i64) (l := tk) (i := tk.length - 8 + i) (by omega) 0;have hs := hv.sadq hg (k := .i64);have hld := fun X => (hlv X).ldq hg (t := 10) (q := []);have hup := yg (id := o.id) (tk := tk) (k := i) (y := tk.getD (tk.length - 8 + i) 0) (by unfold dOf; rw [if_pos c1, if_pos c2]);rw [← hup];generalize tk.getD (tk.length - 8 + i) 0 = y at *;simp only [Cll.val] at *;generalize (tab 8 fun j => V.int .i64 (mQ o.id tk i j)) = T at *;generalize kd o.id 60 = kk at *;simp only [go_sem, dh, d1, d2, hk, d5, g1, hsl, c2', d6, d7];simp only [go_sem, d1, d2, hk, d5, Int.toNat_natCast, g1, hss, hsl, c2', d6, d7, hs, hld, d4, hvl, hvl2, z2, z3, List.set_set];rfl
  ·have c2' : ¬ (tk.length : Int) ≥ 8 := by omega
   have hup := yg (id := o.id) (tk := tk) (k := i) (y := kd o.id 60 + i) (by unfold dOf; rw [if_pos c1, if_neg c2]);rw [← hup];simp only [Cll.val] at *;generalize (tab 8 fun j => V.int .i64 (mQ o.id tk i j)) = T at *;generalize kd o.id 60 = kk at *;simp only [go_sem, dh, d1, d2, hk, d5, g1, hsl, c2'];rw [Int.toNat_natCast];simp only [go_sem, d1, d2, hk, d5, g1, hsl, c2', d4, hvl, hvl2, z2, z3];rfl
 ·right;have : i = 8 := by omega
  subst this;rw [hend];simp only [go_sem, dh, ax]
end Go.Proofs.YtnffmibpblibdaaGreatDoor
namespace Go.Proofs.YtnffmibpblibdaaGreatDoor
open Go.Ab
structure Bo (hp : List Blk) (a m fr : Nat) (Fm : Ft) (b m2 fr2 c : Nat) (F2 : Ft) (x : AS) : Prop where
 p : aT hp Fm a m fr x
 d : bj hp F2 b m2 fr2 c x
 ap : gu (bu a fr Fm) (bL b fr2 c F2)
 dz : ¬ bL b fr2 c F2 0
def BoF (a fr : Nat) (Fm : Ft) (b fr2 c : Nat) (F2 : Ft) : Ft := (bu a fr Fm).or (bL b fr2 c F2)
section
variable {hp hp1 hp2 : List Blk} {a m fr b m2 fr2 c : Nat} {Fm Fm' F2 F2' : Ft} {x y : AS}
theorem aT.nz3 (h : aT hp Fm a m fr x) : ¬ bu a fr Fm 0 := by
 rintro (e | e | e)
 ·exact h.a0 e.symm
 ·exact h.f0 e.symm
 ·exact h.nz e
theorem Bo.one (h : Bo hp a m fr Fm b m2 fr2 c F2 x) (q2 : Chg hp hp1 (bu a fr Fm) (bu a fr Fm')) : bj hp1 F2 b m2 fr2 c x := h.d.chg q2 h.ap
theorem Bo.two (h : Bo hp a m fr Fm b m2 fr2 c F2 x) (q1 : aT hp1 Fm' a m fr y) (q2 : Chg hp hp1 (bu a fr Fm) (bu a fr Fm')) (r1 : bj hp2 F2' b m2 fr2 c y) (r2 : Chg hp1 hp2 (bL b fr2 c F2) (bL b fr2 c F2')) :
 Bo hp2 a m fr Fm' b m2 fr2 c F2' y ∧ Chg hp hp2 (BoF a fr Fm b fr2 c F2) (BoF a fr Fm' b fr2 c F2') := by
 have ap1 : gu (bu a fr Fm') (bL b fr2 c F2) := q2.apart h.ap h.d.inn;have ap2 : gu (bu a fr Fm') (bL b fr2 c F2') := (r2.apart ap1.symm q1.inn).symm;refine ⟨⟨q1.chg r2 ap1.symm h.dz, r1, ap2, fun hz => ?_⟩, q2.beside.trans r2.beside'⟩;rcases r2.new 0 hz with e | e
 ·exact h.dz e
 ·have := av q1.g; omega
theorem Bo.more (h : Bo hp a m fr Fm b m2 fr2 c F2 x) (X : List Blk) : Bo (hp ++ X) a m fr Fm b m2 fr2 c F2 x := ⟨h.p.chg (lQ hp X fun _ => False) (fun _ h => h.elim) fun h => h, h.d.more X, h.ap, h.dz⟩
end
def AS.Ver (x : AS) : Prop := ∀ i, i < 49 → 0 ≤ (x.work i).ver ∧ (x.work i).ver ≤ 16777215
def AS.call (x : AS) (o : Cll) (d : Nat → Int) : AS :=
 if kd o.kind 12 < 4 then (x.set o.id o.word o.v).1 else if kd o.kind 12 = 4 then (x.make o.word).1 else if kd o.kind 12 = 5 then (x.ends o.id).1 else if kd o.kind 12 = 6 then x.marks.1
 else if kd o.kind 12 = 8 then (x.commit d).1 else if kd o.kind 12 = 9 then x.abort.1 else x
theorem AS.set_ver {x : AS} (h : x.Ver) (id word v : Int) : (x.set id word v).1.Ver := by
 unfold AS.set;split
 ·exact h
 ·split
  ·exact h
  ·split
   ·exact h
   ·split
    ·exact h
    ·split
     ·exact h
     ·have hw := (AS.lay_work (x := x) ((x.M.load (x.work id.toNat).line).1.set word.toNat v)).1;simp only;split
      ·intro i hi; rw [hw]; exact h i hi
      ·exact FW h (h _ (by omega))
theorem AS.make_ver {x : AS} (h : x.Ver) (k : Int) : (x.make k).1.Ver := by
 unfold AS.make;split
 ·exact h
 ·rename_i h0;have hn := uo (t := x.work) (k := k) (by simpa using h0);have hw := (AS.lay_work (x := x) zl).1;simp only;split
  ·intro i hi; rw [hw]; exact h i hi
  ·exact FW h (by simp only; rw [hn.2.2.1]; exact h _ (by omega))
theorem AS.ends_ver {x : AS} (h : x.Ver) (id : Int) : (x.ends id).1.Ver := by
 unfold AS.ends;split
 ·exact h
 ·rename_i h0;have hi := og (by simpa using h0);exact FW h (By (h _ (by omega)).1 (h _ (by omega)).2)
theorem AS.call_ver {x : AS} (h : x.Ver) (o : Cll) (d : Nat → Int) : (x.call o d).Ver := by
 unfold AS.call;split
 ·exact AS.set_ver h _ _ _
 ·split
  ·exact AS.make_ver h _
  ·split
   ·exact AS.ends_ver h _
   ·split
    ·unfold AS.marks; split <;> exact h
    ·split
     ·unfold AS.commit; split <;> exact h
     ·split
      ·unfold AS.abort; split <;> exact h
      ·exact h
theorem AS.call_count {x : AS} (o : Cll) (d : Nat → Int) : (x.call o d).M.count ≤ x.M.count + 8 := by
 unfold AS.call;split
 ·exact AS.set_count _ _ _
 ·split
  ·exact AS.make_count _
  ·split
   ·unfold AS.ends; split <;> (simp only; omega)
   ·split
    ·unfold AS.marks; split <;> (simp only; omega)
    ·split
     ·unfold AS.commit; split <;> (simp only [AS.freed]; omega)
     ·split
      ·unfold AS.abort; split <;> (simp only [AS.freed]; omega)
      ·omega
end Go.Proofs.YtnffmibpblibdaaGreatDoor
namespace Go.Proofs.YtnffmibpblibdaaGreatDoor
open Go.Ab
section
variable {hp : List Blk} {a m fr b m2 fr2 c : Nat} {Fm F2 : Ft} {x : AS}
theorem S5 (h : Bo hp a m fr Fm b m2 fr2 c F2 x) (hv : x.Ver) (hc : x.M.count + 8 < 1000000) {o : Cll} (ho : o.Ok) {tk : List Int} (htk : tk.length ≤ 1000) {v : V} (L : List Blk) (hrs : RS ⟨L, hp⟩ 10 v (tk.map (.int .i64))) :
 ∃ hp' Fm' F2', rf D fG [.ptr (.hp a) [] 43, .ptr (.hp b) [] 31, o.val, v] ⟨L, hp⟩ = some (.bool true, ⟨L, hp'⟩) ∧ Bo hp' a m fr Fm' b m2 fr2 c F2' (x.call o (dOf o.id tk)) ∧ Chg hp hp' (BoF a fr Fm b fr2 c F2) (BoF a fr Fm' b fr2 c F2') := by
 have hloop := DI (a := a) (b := b) ho htk hrs;have hdir := fun L => sV (s := ⟨L, hp⟩) h.p.g;have hk := fun s => kC o.kind 12 ho.k.1 ho.k.2 (by decide) s;have hr := lK o.kind (n := 12) (by decide);unfold AS.call;generalize kd o.kind 12 = K at *;generalize dOf o.id tk = d at *;by_cases c0 : K < 4
 ·rw [if_pos c0];obtain ⟨h1, g1, p1, p2, p3⟩ := vR h.p hc o.id o.word o.v L;obtain ⟨h2, g2, q1, q2, q3⟩ := Cg (h.one p3) hc o.id o.word o.v (L ++ [.rw o.val, .rw (ax d)]);obtain ⟨r1, r2⟩ := h.two p2 p3 q2 q3;refine ⟨h2, g1, g2, ?_, r1, r2⟩;simp only [Cll.val, ax] at *;generalize x.set o.id o.word o.v = y at *;clear r1 r2 p2 p3 q2 q3;rw [ah bA rfl];simp only [go_sem, hdir, hloop, hk];have e : K = 0 ∨ K = 1 ∨ K = 2 ∨ K = 3 := by omega
  rcases e with rfl | rfl | rfl | rfl <;> simp only [go_sem, p1, q1, false_implies, if_true]
 ·rw [if_neg c0];have n0 : ¬ K = 0 := by omega
  have n1 : ¬ K = 1 := by omega
  have n2 : ¬ K = 2 := by omega
  have n3 : ¬ K = 3 := by omega
  by_cases c4 : K = 4
  ·rw [if_pos c4];obtain ⟨h1, g1, p1, p2, p3⟩ := uu h.p hc o.word (L ++ [.rw o.val, .rw (ax d)]);obtain ⟨h2, g2, q1, q2, q3⟩ := Bp (h.one p3) hc o.word (L ++ [.rw o.val, .rw (ax d)]);obtain ⟨r1, r2⟩ := h.two p2 p3 q2 q3;refine ⟨h2, g1, g2, ?_, r1, r2⟩;simp only [Cll.val, ax] at *;generalize x.make o.word = y at *;clear r1 r2 p2 p3 q2 q3;rw [ah bA rfl];simp only [go_sem, hdir, hloop, hk];simp only [go_sem, n0, n1, n2, n3, c4, p1, q1]
  ·rw [if_neg c4];by_cases c5 : K = 5
   ·rw [if_pos c5];obtain ⟨h1, g1, p1, p2, p3⟩ := CU h.p hv o.id L;obtain ⟨h2, q1, q2, q3⟩ := E2 (h.one p3) hv o.id (L ++ [.rw o.val, .rw (ax d)]);obtain ⟨r1, r2⟩ := h.two p2 p3 q2 q3;refine ⟨h2, g1, F2, ?_, r1, r2⟩;simp only [Cll.val, ax] at *;generalize x.ends o.id = y at *;clear r1 r2 p2 p3 q2 q3;rw [ah bA rfl];simp only [go_sem, hdir, hloop, hk];simp only [go_sem, n0, n1, n2, n3, c4, c5, p1, q1, false_implies, if_true]
   ·rw [if_neg c5];by_cases c6 : K = 6
    ·rw [if_pos c6];obtain ⟨h1, p1, p2, p3⟩ := ut h.p (L ++ [.rw o.val, .rw (ax d)]);obtain ⟨h2, q1, q2, q3⟩ := AW (h.one p3) (L ++ [.rw o.val, .rw (ax d)]);obtain ⟨r1, r2⟩ := h.two p2 p3 q2 q3;refine ⟨h2, Fm, F2, ?_, r1, r2⟩;simp only [Cll.val, ax] at *;generalize x.marks = y at *;clear r1 r2 p2 p3 q2 q3;rw [ah bA rfl];simp only [go_sem, hdir, hloop, hk];simp only [go_sem, n0, n1, n2, n3, c4, c5, c6, p1, q1]
    ·rw [if_neg c6];by_cases c8 : K = 8
     ·rw [if_pos c8];obtain ⟨h1, p1, p2, p3⟩ := xp h.p d L;obtain ⟨h2, q1, q2, q3⟩ := wW (h.one p3) d (L ++ [.rw o.val, .rw (ax d)]);obtain ⟨r1, r2⟩ := h.two p2 p3 q2 q3;refine ⟨h2, Fm, F2, ?_, r1, r2⟩;simp only [Cll.val, ax] at *;generalize x.commit d = y at *;clear r1 r2 p2 p3 q2 q3;rw [ah bA rfl];simp only [go_sem, hdir, hloop, hk];simp only [go_sem, n0, n1, n2, n3, c4, c5, c6, c8, p1, q1, false_implies, if_true]
     ·rw [if_neg c8];by_cases c9 : K = 9
      ·rw [if_pos c9];obtain ⟨h1, p1, p2, p3⟩ := yL h.p (L ++ [.rw o.val, .rw (ax d)]);obtain ⟨h2, q1, q2, q3⟩ := ym (h.one p3) (L ++ [.rw o.val, .rw (ax d)]);obtain ⟨r1, r2⟩ := h.two p2 p3 q2 q3;refine ⟨h2, Fm, F2, ?_, r1, r2⟩;simp only [Cll.val, ax] at *;generalize x.abort = y at *;clear r1 r2 p2 p3 q2 q3;rw [ah bA rfl];simp only [go_sem, hdir, hloop, hk];simp only [go_sem, n0, n1, n2, n3, c4, c5, c6, c8, c9, p1, q1]
      ·rw [if_neg c9];by_cases c10 : K = 10
       ·obtain ⟨B, hB⟩ : ∃ B : Blk, B = .rw (.agg 38 ([o.id, o.word, o.id].map (.int .i64))) := ⟨_, rfl⟩;generalize hmo : IntKind.i64.wrap (o.v.tmod 100) = mo;have hb1 := h.more [B];have hrs1 : RS ⟨L, hp ++ [B]⟩ 10 (.sl (.hp hp.length) [] 0 3 (some 3) 10) ([o.id, o.word, o.id].map (.int .i64)) := by
         refine .inr ⟨_, _, _, _, rfl, fun c' hc' => by cases hc'; exact Nat.le_refl _, rfl, .inr ⟨38, _, ?_, fun j x hx => by rw [Nat.zero_add]; exact hx⟩⟩;rw [hB, nq]; simp only [go_sem]
        have e1 := tL hb1.p mo L hrs1 (by simp);have hrs2 : RS ⟨L ++ [.rw o.val, .rw (ax d), B], hp ++ [B]⟩ 10 (.sl (.loc (L.length + 2)) [] 0 3 (some 3) 10) ([o.id, o.word, o.id].map (.int .i64)) :=
         RS.at_loc (L := L ++ [.rw o.val, .rw (ax d), B]) (i := L.length + 2) (n := 3) (cp := some 3) (r := 38) (by rw [hB]; simp only [go_sem]) rfl (by intro c hc; cases hc; exact Nat.le_refl _)
        obtain ⟨X, e2⟩ := ur hb1.d mo (L ++ [.rw o.val, .rw (ax d), B]) hrs2 (by simp);have hb2 := hb1.more X;have e3 := tL hb2.p (v := .nils) (ids := []) (-1) L (.inl ⟨rfl, rfl⟩) (by decide);obtain ⟨X2, e4⟩ := ur hb2.d (v := .nils) (ids := []) (-1) (L ++ [.rw o.val, .rw (ax d), B]) (.inl ⟨rfl, rfl⟩) (by decide);refine ⟨_, Fm, F2, ?_, hb2.more X2, ((kY [B]).trans (kY X)).trans (kY X2)⟩;subst hB;simp only [Cll.val, ax, List.map_cons, List.map_nil] at *;generalize x.room [o.id, o.word, o.id] mo = r1 at *;generalize x.room [] (-1) = r2 at *;clear hrs1 hrs2 hb1 hb2;simp only [List.append_assoc, List.cons_append, List.nil_append] at e1 e2 e3 e4 ⊢;have hrep : List.replicate 3 (V.int .i64 0) = [.int .i64 0, .int .i64 0, .int .i64 0] := rfl;rw [ah bA rfl];simp only [go_sem, hdir, hloop, hk];simp only [go_sem, n0, n1, n2, n3, c4, c5, c6, c8, c9, c10, hmo, hrep, e1, e2, e3, e4]
       ·refine ⟨hp, Fm, F2, ?_, h, .refl _ _⟩;simp only [Cll.val, ax] at *;rw [ah bA rfl];simp only [go_sem, hdir, hloop, hk];simp only [go_sem, n0, n1, n2, n3, c4, c5, c6, c8, c9, c10]
end
end Go.Proofs.YtnffmibpblibdaaGreatDoor
namespace Go.Proofs.YtnffmibpblibdaaGreatDoor
open Go.Ab
def G9 : C := match ai with | .seq h _ => h | _ => .skip
def plO : C := match ai with | .seq _ (.seq (.block _ (.seq o _)) _) => o | _ => .skip
def plA : C := match ai with | .seq _ (.seq (.block _ (.seq _ (.seq x _))) _) => x | _ => .skip
def plB : C := match ai with | .seq _ (.seq (.block _ (.seq _ (.seq _ (.seq x _)))) _) => x | _ => .skip
def plC : C := match ai with | .seq _ (.seq (.block _ (.seq _ (.seq _ (.seq _ x)))) _) => x | _ => .skip
def plZ : C := match ai with | .seq _ (.seq _ z) => z | _ => .skip
theorem VY : ai = .seq G9 (.seq (.block 1 (.seq plO (.seq plA (.seq plB plC)))) plZ) := rfl
inductive Tk (hp : List Blk) (G : Ft) : V → List Int → Prop where
 | loc : Tk hp G (.sl (.loc 1) [] 0 0 (some 0) 10) []
 | hp (v : V) (l : List Int) (h : SlR hp G 10 38 v (l.map (.int .i64))) : Tk hp G v l
section
variable {hp hp' : List Blk} {G G' : Ft} {v : V} {l : List Int}
theorem Tk.eqv (h : Tk hp G v l) (he : Eqv hp hp' G) : Tk hp' G v l := by
 cases h with
 | loc => exact .loc
 | hp v l h => exact .hp v l (h.eqv he fun _ h => h)
theorem Tk.lt (h : Tk hp G v l) : v.locLt 2 = true := by
 cases h with
 | loc => rfl
 | hp v l h => exact h.ltb
theorem Tk.rs (h : Tk hp G v l) {L : List Blk} (hL : 2 ≤ L.length) : RS ⟨L, hp⟩ 10 v (l.map (.int .i64)) := by
 cases h with
 | loc => exact .inr ⟨_, _, _, _, rfl, fun c hc => by cases hc; exact Nat.le_refl _, by simp [V.locLt]; omega, .inl rfl⟩
 | hp v l h => exact h.rs L
theorem Tk.push (h : Tk hp G v l) {L : List Blk} {j : Nat} {x : Int} (hj : L[j]? = some (.rw (.agg 38 [.int .i64 x]))) (hl : l.length < 1000) (base : Nat) :
 ∃ hp' v', aA base true 38 10 v (.sl (.loc j) [] 0 1 (some 1) 10) ⟨L, hp⟩ = some (v', ⟨L, hp'⟩) ∧ Tk hp' (.one hp.length) v' (l ++ [x]) ∧ Chg hp hp' G (.one hp.length) ∧ v'.tag = 1 ∧ hp.length < hp'.length := by
 have hy : St.elems ⟨L, hp⟩ (.sl (.loc j) [] 0 1 (some 1) 10) = some [.int .i64 x] := dH (t := 38) (by simp only [lX, hj, m9, kh]) rfl;cases h with
 | loc =>
  have hx : St.elems ⟨L, hp⟩ (.sl (.loc 1) [] 0 0 (some 0) 10) = some [] := rfl;refine ⟨hp ++ [.rw (.agg 38 [.int .i64 x])], .sl (.hp hp.length) [] 0 1 none 10, ?_, .hp _ _ (.blk hp.length none [.int .i64 x] (.inl rfl) rfl (by simp)), ⟨by simp, fun i hi _ => List.getElem?_append_left hi, fun i hi => .inr (by cases hi; exact Nat.le_refl _)⟩, rfl, by simp⟩;rw [se (.inr ⟨_, _, _, _, _, rfl⟩) (.inr ⟨_, _, _, _, _, rfl⟩) hx hy (by simp) (by simp [cq]) (.inl rfl)];rfl
 | hp v l h =>
  obtain ⟨hp', e1, e2, e3, e4⟩ := h.push (base := base) (y := .sl (.loc j) [] 0 1 (some 1) 10) (new := [.int .i64 x]) L (.inr ⟨_, _, _, _, _, rfl⟩) hy (by simp) (by simp [cq]; omega) (.inl rfl);refine ⟨hp', _, e1, .hp _ _ ?_, ⟨by omega, e4, fun i hi => .inr (by cases hi; exact Nat.le_refl _)⟩, rfl, by omega⟩;rw [List.map_append];exact .blk hp.length none _ (.inl rfl) rfl e3
end
structure Pl (hp0 hp : List Blk) (a m fr : Nat) (Fm : Ft) (b m2 fr2 c : Nat) (F2 Gt : Ft) (x : AS) (tv : V) (tk : List Int) (i : Nat) : Prop where
 bo : Bo hp a m fr Fm b m2 fr2 c F2 x
 tkr : Tk hp Gt tv tk
 apT : gu Gt (BoF a fr Fm b fr2 c F2)
 inT : Inn hp Gt
 ver : x.Ver
 cnt : x.M.count ≤ 8 * i
 tkl : tk.length ≤ i
 pre : hp0 <+: hp
 ab : r8 hp0.length (BoF a fr Fm b fr2 c F2)
 abT : r8 hp0.length Gt
section
variable {hp0 hp hp1 : List Blk} {a m fr b m2 fr2 c i : Nat} {Fm F2 Gt Fm' F2' Gt' : Ft} {x y : AS} {tv tv' : V} {tk tk' : List Int}
theorem Bo.inn (h : Bo hp a m fr Fm b m2 fr2 c F2 x) : Inn hp (BoF a fr Fm b fr2 c F2) := fun j hj => hj.elim (h.p.inn j) (h.d.inn j)
theorem Pl.step (h : Pl hp0 hp a m fr Fm b m2 fr2 c F2 Gt x tv tk i) (q : Bo hp1 a m fr Fm' b m2 fr2 c F2' y) (hc : Chg hp hp1 (BoF a fr Fm b fr2 c F2) (BoF a fr Fm' b fr2 c F2')) (hv : y.Ver) {k : Nat} (hk : i ≤ k) (hn : y.M.count ≤ 8 * k) :
 Pl hp0 hp1 a m fr Fm' b m2 fr2 c F2' Gt y tv tk k := by
 have p := hc.pre h.pre h.ab;exact ⟨q, h.tkr.eqv (hc.eqv h.apT.symm h.inT), (hc.apart h.apT.symm h.inT).symm, h.inT.more hc, hv, hn, by have := h.tkl; omega, p.1, p.2, h.abT⟩
theorem Bo.chg {G G' : Ft} (h : Bo hp a m fr Fm b m2 fr2 c F2 x) (hc : Chg hp hp1 G G') (ha : gu G (BoF a fr Fm b fr2 c F2)) (hz : ¬ G 0) : Bo hp1 a m fr Fm b m2 fr2 c F2 x :=
 ⟨h.p.chg hc (fun j h1 h2 => ha j h1 (.inl h2)) hz, h.d.chg hc fun j h1 h2 => ha j h1 (.inr h2), h.ap, h.dz⟩
theorem Pl.took (h : Pl hp0 hp a m fr Fm b m2 fr2 c F2 Gt x tv tk i) (hc : Chg hp hp1 Gt Gt') (q : Tk hp1 Gt' tv' tk') (hz : ¬ Gt 0) (hi : Inn hp1 Gt') {k : Nat} (hk : i ≤ k) (hl : tk'.length ≤ k) : Pl hp0 hp1 a m fr Fm b m2 fr2 c F2 Gt' x tv' tk' k := by
 have p := hc.pre h.pre h.abT;exact ⟨h.bo.chg hc h.apT hz, q, hc.apart h.apT h.bo.inn, hi, h.ver, by have := h.cnt; omega, hl, p.1, h.ab, p.2⟩
def plE (lv : V) (n m m2 a b : Nat) (tv : V) (i : Nat) : Env := [(1, lv), (8, .int .i64 n), (9, .ptr (.hp m) [] 59), (11, .ptr (.hp m2) [] 33), (13, .ptr (.hp a) [] 43), (15, .ptr (.hp b) [] 31), (17, tv), (18, .int .i64 i)]
theorem WP (h : Pl hp0 hp a m fr Fm b m2 fr2 c F2 Gt x tv tk i) (h0 : 0 < hp0.length) (hi : i ≤ 200) {o : Cll} (ho : o.Ok) (lv : V) (n j : Nat) (u0 u1 : Blk) :
 ∃ hp1 Gt' x' tv' tk' Z W, rc D 0 plA (plE lv n m m2 a b tv j ++ [(19, .ptr (.loc 2) [] 54)]) ⟨[u0, u1, .rw o.val], hp⟩ = some (.normal, plE lv n m m2 a b tv' j ++ (19, .ptr (.loc 2) [] 54) :: W, ⟨u0 :: u1 :: .rw o.val :: Z, hp1⟩) ∧
  Pl hp0 hp1 a m fr Fm b m2 fr2 c F2 Gt' x' tv' tk' (i + 1) ∧ x'.M.count = x.M.count := by
 have hk := fun s => kC o.kind 12 ho.k.1 ho.k.2 (by decide) s;generalize kd o.kind 12 = K at *;by_cases c7 : K = 7
 ·obtain ⟨h1, p1, p2, p3⟩ := Bi h.bo.p [u0, u1, .rw o.val];have hd := h.bo.one p3;obtain ⟨h2, q1, q2, q3⟩ := sM hd.fq [u0, u1, .rw o.val];have hd2 := hd.setA q2 q3 (oY hd.ok.s2) ef.1 ef.2;obtain ⟨r1, r2⟩ := h.bo.two p2 p3 (y := x.take.1) hd2 (uf q3);have hst := hd.st;have hcn := h.cnt;have hP := h.step r1 r2 (y := x.take.1) h.ver (Nat.le_refl _) (by exact hcn);simp only [AS.r, bF.v] at hst;by_cases ce : x.take.2.2 = 0
  ·have hLj : [u0, u1, .rw o.val, .rw (.agg 38 [.int .i64 x.take.2.1])][3]? = some (.rw (.agg 38 [.int .i64 x.take.2.1])) := rfl;have hrep : List.replicate 1 (V.int .i64 0) = [.int .i64 0] := rfl;obtain ⟨h3, tv', s1, s2, s3, s4, s5⟩ := hP.tkr.push hLj (by have := hP.tkl; omega) 0;have hP2 := hP.took s3 s2 (fun hz => by have := hP.abT 0 hz; omega) (fun j hj => by cases hj; exact s5) (Nat.le_succ i) (by have := hP.tkl; simp; omega);refine ⟨h3, _, _, tv', _, [.rw (.agg 38 [.int .i64 x.take.2.1])], [], ?_, hP2, rfl⟩;have e1 : x.A.alloc.2.1 = x.take.2.1 := rfl;have e2 : x.A.alloc.2.2 = x.take.2.2 := rfl;rw [e1, e2] at q1;generalize x.take.2.1 = t1 at *;generalize x.take.2.2 = t2 at *;subst ce c7;simp only [plE, Cll.val] at *;simp only [go_sem, plA, ai, hk, p1, hst, q1, hrep, s1, s4]
  ·refine ⟨h2, Gt, _, tv, tk, [], [(20, .int .i64 x.take.2.1), (144, .bool false)], ?_, ⟨hP.bo, hP.tkr, hP.apT, hP.inT, hP.ver, by have := hP.cnt; omega, by have := hP.tkl; omega, hP.pre, hP.ab, hP.abT⟩, rfl⟩;have e1 : x.A.alloc.2.1 = x.take.2.1 := rfl;have e2 : x.A.alloc.2.2 = x.take.2.2 := rfl;rw [e1, e2] at q1;generalize x.take.2.1 = t1 at *;generalize x.take.2.2 = t2 at *;subst c7;simp only [plE, Cll.val] at *;simp only [go_sem, plA, ai, hk, p1, hst, q1, ce]
 ·refine ⟨hp, Gt, x, tv, tk, [], [(121, .bool false)], ?_, ⟨h.bo, h.tkr, h.apT, h.inT, h.ver, by have := h.cnt; omega, by have := h.tkl; omega, h.pre, h.ab, h.abT⟩, rfl⟩;simp only [plE, Cll.val] at *;simp only [go_sem, plA, ai, hk, c7]
end
end Go.Proofs.YtnffmibpblibdaaGreatDoor
namespace Go.Proofs.YtnffmibpblibdaaGreatDoor
open Go.Ab
section
variable {hp0 hp hp1 : List Blk} {a m fr b m2 fr2 c i : Nat} {Fm F2 Gt Fm' F2' Gt' : Ft} {x y : AS} {tv tv' : V} {tk tk' : List Int}
theorem kH {hp hp' : List Blk} (h : hp <+: hp') (F : Ft) : Chg hp hp' F F := by
 obtain ⟨X, rfl⟩ := h;exact kY X
theorem Pl.cloned (h : Pl hp0 hp a m fr Fm b m2 fr2 c F2 Gt x tv tk i) {H1 H2 : List Blk} {a' m' fr' : Nat} {N : Ft} {Fo : Ft} (p1 : hp <+: H1) (q : aT H1 N a' m' fr' x) (hN : r8 hp.length (bu a' fr' N)) (hc : Chg H1 H2 (bu a fr Fm) (bu a fr Fo)) :
 Pl hp0 H2 a' m' fr' N b m2 fr2 c F2 Gt x tv tk i := by
 have hb := h.bo;have e1 : Chg hp H1 (bu a fr Fm) (bu a fr Fm) := kH p1 _;have e2 := e1.trans hc;have hpn := h.pre.length_le;have ap1 : gu (bu a fr Fm) (bu a' fr' N) := fun j h1 h2 => by
  have := hb.p.inn j h1; have := hN j h2; omega
 have apd : gu (bu a' fr' N) (bL b fr2 c F2) := fun j h1 h2 => by
  have := hb.d.inn j h2; have := hN j h1; omega
 have apT : gu Gt (BoF a' fr' N b fr2 c F2) := fun j h1 h2 => by
  rcases h2 with h2 | h2
  ·have := h.inT j h1; have := hN j h2; omega
  ·exact h.apT j h1 (.inr h2)
 have hnz : ¬ bu a fr Fm 0 := hb.p.nz3;have pp := e2.pre h.pre fun j hj => h.ab j (.inl hj);exact ⟨⟨q.chg hc ap1 hnz, hb.d.chg e2 hb.ap, apd, hb.dz⟩, h.tkr.eqv (e2.eqv (fun j h1 h2 => h.apT j h2 (.inl h1)) h.inT), apT, h.inT.more e2, h.ver, h.cnt, h.tkl, pp.1, fun j hj => hj.elim (fun hj => by have := hN j hj; omega) fun hj => h.ab j (.inr hj), h.abT⟩
theorem Xd (h : Pl hp0 hp a m fr Fm b m2 fr2 c F2 Gt x tv tk i) (h0 : 0 < hp0.length) (hi : i ≤ 200) {o : Cll} (ho : o.Ok) (lv : V) (n j : Nat) (u0 u1 : Blk) (Z : List Blk) (W : Env) :
 ∃ hp1 a' m' fr' Fm' W', rc D 0 plB (plE lv n m m2 a b tv j ++ (19, .ptr (.loc 2) [] 54) :: W) ⟨u0 :: u1 :: .rw o.val :: Z, hp⟩ = some (.normal, plE lv n m' m2 a' b tv j ++ (19, .ptr (.loc 2) [] 54) :: W', ⟨u0 :: u1 :: .rw o.val :: Z, hp1⟩) ∧
  Pl hp0 hp1 a' m' fr' Fm' b m2 fr2 c F2 Gt x tv tk i := by
 have hk := fun s => kC o.kind 12 ho.k.1 ho.k.2 (by decide) s;generalize kd o.kind 12 = K at *;by_cases c11 : K = 11
 ·have hcn := h.cnt;have hcl := yF h.bo.p.mp (by omega) (u0 :: u1 :: .rw o.val :: Z);obtain ⟨H1, m', p1, p2, p3⟩ := hcl;have hQ1 : aT H1 Fm a m fr x := h.bo.p.chg (kH p3 fun _ => False) (fun _ h => h.elim) fun h => h;have hnz : ¬ (fun j => hp.length ≤ j ∧ j < H1.length) 0 := fun hz => by
   have := h.pre.length_le;have := hz.1; omega
  obtain ⟨H2, q1, q2, q3, q4⟩ := yQ hQ1 p2 hnz (u0 :: u1 :: .rw o.val :: Z);have hl1 := p3.length_le;have hQ2 : aT H2 Fm a m fr x := hQ1.chg (kH q3 fun _ => False) (fun _ h => h.elim) fun h => h;obtain ⟨H3, F3, r1, r2, r3⟩ := uu hQ2 (by omega) 1 (u0 :: u1 :: .rw o.val :: Z);have k1 := AS.make_count (x := x) 1;obtain ⟨H4, F4, s1, s2, s3⟩ := vR r2 (by omega) 0 0 99 (u0 :: u1 :: .rw o.val :: Z);obtain ⟨H5, t1, t2, t3⟩ := ut s2 (u0 :: u1 :: .rw o.val :: Z);have hP := h.cloned (p3.trans q3) q2 (fun j hj => by
   rcases hj with hj | hj | hj
   ·omega
   ·omega
   ·exact hj.1) ((r3.trans s3).trans t3)
  refine ⟨H5, _, _, _, _, [], ?_, hP⟩;clear hP t2 t3 s2 s3 r2 r3 hQ2 q2 hQ1 p2;subst c11;simp only [plE, Cll.val] at *;simp only [go_sem, plB, ai, hk, p1, q1, r1, s1, t1]
 ·refine ⟨hp, a, m, fr, Fm, [(152, .bool false)], ?_, h⟩;simp only [plE, Cll.val] at *;simp only [go_sem, plB, ai, hk, c11]
end
end Go.Proofs.YtnffmibpblibdaaGreatDoor
namespace Go.Proofs.YtnffmibpblibdaaGreatDoor
open Go.Ab
section
variable {hp0 hp hp1 : List Blk} {a m fr b m2 fr2 c i : Nat} {Fm F2 Gt Fm' F2' Gt' : Ft} {x y : AS} {tv tv' : V} {tk tk' : List Int}
theorem sP {hp : List Blk} {F : Ft} {m : Nat} {M : AM} (h : gH hp F m M) : ∃ k k2, hp[m]? = some (.rw (rmV k M.n k2 M.off M.left M.count)) := by
 obtain ⟨k, k2, _, _, _, _, _, h1, _⟩ := h.mb;exact ⟨k, k2, h1⟩
theorem WW (h : Pl hp0 hp a m fr Fm b m2 fr2 c F2 Gt x tv tk i) (hi : i ≤ 200) {o : Cll} (ho : o.Ok) (lv : V) (n j : Nat) (u0 u1 : Blk) (Z : List Blk) (W : Env) :
 ∃ hp1 Fm' F2' y Z', rc D 0 plC (plE lv n m m2 a b tv j ++ (19, .ptr (.loc 2) [] 54) :: W) ⟨u0 :: u1 :: .rw o.val :: Z, hp⟩ = some (.normal, plE lv n m m2 a b tv j ++ [(270, .bool false)], ⟨u0 :: u1 :: .rw o.val :: Z', hp1⟩) ∧
  Pl hp0 hp1 a m fr Fm' b m2 fr2 c F2' Gt y tv tk (i + 1) := by
 have hcn := h.cnt;obtain ⟨H1, G1, G2, e1, e2, e3⟩ := S5 h.bo h.ver (by omega) ho (by have := h.tkl; omega) (u0 :: u1 :: .rw o.val :: Z) (h.tkr.rs (L := u0 :: u1 :: .rw o.val :: Z) (by simp));have hP := h.step e2 e3 (AS.call_ver h.ver o _) (Nat.le_succ i) (by have := AS.call_count (x := x) o (dOf o.id tk); omega);generalize x.call o (dOf o.id tk) = y at *;have hcn1 := hP.cnt;have g1 := fun L => ES e2.p o.id L;have g2 := fun L => E1 e2.d (by omega) o.id L;have g3 := fun L => yX e2.p o.v ho.u.1 ho.u.2 L;have g4 := fun L => DS (s := ⟨L, H1⟩) e2.d.st o.v ho.u.1 ho.u.2;have g5 := fun L => t5 e2.p o.word L;have g6 := fun L => xK (s := ⟨L, H1⟩) e2.d.st o.word;have g7 := fun L => TQ (L := L) e2.p e2.d.toT;have g8 := fun L => yv e2.p.mp L;obtain ⟨k, k2, g9⟩ := sP e2.d.mq;simp only [AS.r] at g4 g6;have hve := tB (f := V.int .u64) (fun a => by simp [veq]) (y.get o.id).1.l;refine ⟨H1, G1, G2, y, Z ++ [.rw (y.get o.id).1.v, .rw (y.get o.id).1.v], ?_, hP⟩;clear hP e2 e3 h;generalize y.get o.id = ob at *;generalize vg y.work o.v = nm1 at *;generalize nmE y.work o.v = nm2 at *;generalize nxI y.work o.word = nx1 at *;generalize nxV y.work o.word = nx2 at *;generalize nxE y.work o.word = nx3 at *;simp only [plE, Cll.val, rmV, Obj.v, lnV] at *;simp only [go_sem, plC, ai, e1, g1, g2, g3, g4, g5, g6, g7, g8, g9, hve]
end
end Go.Proofs.YtnffmibpblibdaaGreatDoor
namespace Go.Proofs.YtnffmibpblibdaaGreatDoor
open Go.Ab
section
variable {hp0 hp hp1 : List Blk} {a m fr b m2 fr2 c i : Nat} {Fm F2 Gt Fm' F2' Gt' : Ft} {x y : AS} {tv tv' : V} {tk tk' : List Int}
def wv : Cll := ⟨0, 0, 0, 0⟩
theorem z0 {l : List Cll} (hl : ∀ o ∈ l, o.Ok) {lv : V} (hrs : RS ⟨[], hp0⟩ 54 lv (l.map Cll.val)) (hlt : lv.locLt 0 = true) (h0 : 0 < hp0.length) (u0 u1 : Blk) (hu : cn 2 u0 = true ∧ cn 2 u1 = true) (n0 : Nat) :
 ∀ (n i : Nat) {hp : List Blk} {a m fr : Nat} {Fm F2 Gt : Ft} {x : AS} {tv : V} {tk : List Int}, i + n = min l.length 80 → Pl hp0 hp a m fr Fm b m2 fr2 c F2 Gt x tv tk (2 * i) →
  ∃ hp' a' m' fr' Fm' F2' Gt' x' tv' tk' j, rc D 0 (.loop [1, 8, 9, 11, 13, 15, 17, 18] ai) (plE lv n0 m m2 a b tv i) ⟨[u0, u1], hp⟩ =
   some (.exit 0, plE lv n0 m' m2 a' b tv' j ++ [(111, .bool false)], ⟨[u0, u1], hp'⟩) ∧ Pl hp0 hp' a' m' fr' Fm' b m2 fr2 c F2' Gt' x' tv' tk' 160
 | 0, i, hp, a, m, fr, Fm, F2, Gt, x, tv, tk, hi, h => by
  refine ⟨hp, a, m, fr, Fm, F2, Gt, x, tv, tk, i, ?_, ⟨h.bo, h.tkr, h.apT, h.inT, h.ver, by have := h.cnt; omega, by have := h.tkl; omega, h.pre, h.ab, h.abT⟩⟩;have hsl : V.slen false lv = some l.length := by
   have := hrs.slen
   rwa [List.length_map] at this
  rw [aR];simp only [plE];by_cases c1 : i < l.length
  ·have d1 : (i : Int) < l.length := by omega
   have d2 : ¬ (i : Int) < 80 := by omega
   simp only [go_sem, ai, hsl, d1, d2]
  ·have d1 : ¬ (i : Int) < l.length := by omega
   simp only [go_sem, ai, hsl, d1]
 | n + 1, i, hp, a, m, fr, Fm, F2, Gt, x, tv, tk, hi, h => by
  have hsl : V.slen false lv = some l.length := by
   have := hrs.slen
   rwa [List.length_map] at this
  have c1 : i < l.length := by omega
  have d1 : (i : Int) < l.length := by omega
  have d2 : (i : Int) < 80 := by omega
  have d4 : IntKind.i64.wrap ((i : Int) + 1) = ((i + 1 : Nat) : Int) := ao (by omega) (by omega);have hg := ck (f := Cll.val) (l := l) (i := i) c1 wv;have ho : (l.getD i wv).Ok := hl _ (by rw [List.getD_eq_getElem?_getD, List.getElem?_eq_getElem c1]; exact List.getElem_mem c1);have hrs1 : RS ⟨[u0, u1], hp⟩ 54 lv (l.map Cll.val) := hrs.more ⟨List.nil_prefix, h.pre⟩;have hld : ∀ t q, ldv ⟨[u0, u1], hp⟩ t (elq lv i q t) = V.at q (l.getD i wv).val := fun t q => hrs1.ldq hg;have hsad := hrs1.sadq hg (k := .i64);generalize l.getD i wv = o at *;obtain ⟨H1, G1, x1, tv1, tk1, Z1, W1, e1, p1, _⟩ := WP h h0 (by omega) ho lv n0 i u0 u1;obtain ⟨H2, a2, m3, fr3, G2, W2, e2, p2⟩ := Xd p1 h0 (by omega) ho lv n0 i u0 u1 Z1 W1;obtain ⟨H3, G3, G4, x3, Z3, e3, p3⟩ := WW p2 (by omega) ho lv n0 i u0 u1 Z1 W2;obtain ⟨hp', a', m', fr', Fm', F2', Gt', x', tv', tk', j, r1, r2⟩ := z0 hl hrs hlt h0 u0 u1 hu n0 n (i + 1) (by omega) p3;refine ⟨hp', a', m', fr', Fm', F2', Gt', x', tv', tk', j, ?_, r2⟩;rw [← r1, aR];have hHd : ∀ s, rc D 0 G9 (plE lv n0 m m2 a b tv i) s = some (.normal, plE lv n0 m m2 a b tv i ++ [(111, .bool true)], s) := fun s => by
   simp only [plE];simp only [go_sem, G9, ai, hsl, d1, d2]
  have hO : rc D 0 plO (plE lv n0 m m2 a b tv i ++ [(111, .bool true)]) ⟨[u0, u1], hp⟩ = some (.normal, plE lv n0 m m2 a b tv i ++ [(19, .ptr (.loc 2) [] 54)], ⟨[u0, u1, .rw o.val], hp⟩) := by
   simp only [plE, Cll.val] at *;simp only [go_sem, plO, ai, hsad, hld]
  have hZ : ∀ s, rc D 0 plZ (plE lv n0 m3 m2 a2 b tv1 i ++ [(270, .bool false)]) s = some (.normal, plE lv n0 m3 m2 a2 b tv1 (i + 1), s) := fun s => by
   simp only [plE];simp only [go_sem, plZ, ai, d4]
  have hlt2 : lv.locLt 2 = true := fZ (Nat.zero_le 2) hlt;have htl := p3.tkr.lt;obtain ⟨hu0, hu1⟩ := hu;clear r1 r2 p1 p2 p3 h;simp only [plE, List.cons_append, List.nil_append] at *;simp only [go_sem, VY, hHd, hO, e1, e2, e3, hZ, hlt2, htl, hu0, hu1]
end
end Go.Proofs.YtnffmibpblibdaaGreatDoor
namespace Go.Proofs.YtnffmibpblibdaaGreatDoor
open Go.Ab
section
variable {hp : List Blk} {a m fr b m2 fr2 c : Nat} {Fm F2 : Ft} {x : AS}
theorem Ha (h : Bo hp a m fr Fm b m2 fr2 c F2 x) (hc : x.M.count < 1000000) {n : Nat} (hn : n ≤ 1024) (u0 u1 : Blk) (hu : cn 2 u0 = true ∧ cn 2 u1 = true) :
 rc D 0 (.loop [8, 9, 11, 41] cD) [(8, .int .i64 n), (9, .ptr (.hp m) [] 59), (11, .ptr (.hp m2) [] 33), (41, .int .i64 0)] ⟨[u0, u1], hp⟩ =
  some (.exit 2, [(8, .int .i64 n), (9, .ptr (.hp m) [] 59), (11, .ptr (.hp m2) [] 33), (41, .int .i64 n), (273, .bool false)], ⟨[u0, u1], hp⟩) := by
 refine cw (fun j : Nat => [(8, .int .i64 n), (9, .ptr (.hp m) [] 59), (11, .ptr (.hp m2) [] 33), (41, .int .i64 j)]) (fun _ => ⟨[u0, u1], hp⟩) (fun _ => _) (fun j => n - j) (fun j => j ≤ n) 0 ?_ (by omega) rfl rfl;intro i hi;by_cases c1 : i < n
 ·left;have d1 : (i : Int) < n := by omega
  have d4 : IntKind.i64.wrap ((i : Int) + 1) = (i : Int) + 1 := ao (by omega) (by omega);have e1 := fun L => qu h.p.mp (i : Int) L;have e2 := fun L => pX h.d.mq hc (i : Int) L;have hve := tB (f := V.int .u64) (fun a => by simp [veq]) (x.M.load (i : Int)).1;obtain ⟨hu0, hu1⟩ := hu;refine ⟨i + 1, by omega, by omega, rfl, ?_⟩;generalize x.M.load (i : Int) = ld at *;simp only [lnV] at *;simp only [go_sem, cD, d1, e1, e2, hve, d4, hu0, hu1];rfl
 ·right;have : i = n := by omega
  subst this;have d1 : ¬ (i : Int) < i := by omega
  simp only [go_sem, cD, d1]
end
theorem law_ObjectsPlay : ∀ hp vs, G <+: hp → Sh.FitsL hp [(.arr 22 2 (.int .i64)), (.sl 56 (.st 54 [(.int .i64), (.int .i64), (.int .i64), (.int .u64)])), (.int .i64)] vs → ∃ s', rf D iA vs ⟨[], hp⟩ = some (.bool true, s') := by
 intro hp vs hpre hf;obtain ⟨vx, v, vf, rfl, hx, hv, hfu⟩ := OE hf;obtain ⟨_, _, rfl, h0, h1⟩ := Xj hx;obtain ⟨x0, rfl, hx00, hx01⟩ := uG h0;obtain ⟨x1, rfl, hx10, hx11⟩ := uG h1;obtain ⟨fu, rfl, hf0, hf1⟩ := uG hfu;obtain ⟨l0, hrs, hlt, hlen, hfit⟩ := AT hv;obtain ⟨l, rfl, hl⟩ := U6 (f := Cll.val) (fun x hx => VN (hfit x hx));have hG := Tu hpre;have hpl : 0 < hp.length := av hG;obtain ⟨u0, hu0⟩ : ∃ u : Blk, u = .rw (.agg 22 [.int .i64 x0, .int .i64 x1]) := ⟨_, rfl⟩;obtain ⟨more0, hsh⟩ := Ay (s := ⟨[u0], hp⟩) hG;have hk0 := fun s => kC x0 64 hx00 hx01 (by decide) s;have hk1 := fun s => kC x1 31 hx10 hx11 (by decide) s;obtain ⟨n, hn⟩ : ∃ n : Nat, 64 + kd x0 64 = n := ⟨(64 + kd x0 64).toNat, by have := lK x0 (n := 64) (by decide); omega⟩;obtain ⟨k, hk⟩ : ∃ k : Nat, kd x1 31 = k := ⟨(kd x1 31).toNat, by have := lK x1 (n := 31) (by decide); omega⟩;have hkr := lK x0 (n := 64) (by decide);have hkr1 := lK x1 (n := 31) (by decide);have hw : IntKind.i64.wrap (64 + kd x0 64) = (n : Int) := by rw [hn]; exact ao (by omega) (by omega)
 rw [hk] at hk1;have htab := fun s => BS k (by omega) s;generalize hH0 : hp ++ more0 = H0 at *;have pre0 : hp <+: H0 := hH0 ▸ List.prefix_append _ _;have l0' := pre0.length_le;have hG0 := a9 pre0 hG;obtain ⟨more1, hm1, e1, M1⟩ := Cy (n := n) (by omega) (by omega) H0 [u0];obtain ⟨more2, hm2, e2, M2⟩ := D1 (n := n) (by omega) (by omega) (H0 ++ more1) [u0];generalize hH2 : H0 ++ more1 ++ more2 = H2 at *;have l2 : H2.length = H0.length + 6 := by rw [← hH2]; simp; omega
 have l1 : (H0 ++ more1).length = H0.length + 2 := by simp; omega
 rw [l1] at e2 M2;have pre2 : H0 <+: H2 := hH2 ▸ ⟨more1 ++ more2, by simp⟩;have hG2 := a9 pre2 hG0;have M1' : fT H2 (fun j => j = H0.length ∨ j = H0.length + 1) (H0.length + 1) (am0 n fun _ => zl) := by rw [← hH2]; exact M1.chg (kY more2 (F := fun _ => False)) fun _ h => h.elim
 obtain ⟨A', hA, hA1, hA2, hst⟩ := Uj (c := k) (n := n) (by omega) (by omega);have hn3 : (am0 n fun _ => zl).n = n := rfl;rcases GO M1' hG2 (by omega) 10 (cf k) fI [u0] with ⟨q, _⟩ | ⟨_, _, q, _⟩ | ⟨_, _, A2, more3, q, e3, Q⟩
 ·rw [hn3] at q; omega
 ·have q : (af0 10 n).takes (cU (cf k) fI) = none := q;rw [hA] at q; cases q
 have q : (af0 10 n).takes (cU (cf k) fI) = some A2 := q;rw [hA] at q; cases q;generalize hH3 : H2 ++ more3 = H3 at *;have pre3 : H2 <+: H3 := hH3 ▸ List.prefix_append _ _;have l3 := pre3.length_le;have l3' : H2.length + 1 < H3.length := av Q.st;have M2' : gH H3 (fun j => j = H0.length + 2 + 1 ∨ j = H0.length + 2 + 2 ∨ j = H0.length + 2 + 3) (H0.length + 2 + 3) (am0 n fun _ => zl) := by rw [← hH3]; exact M2.chg (kY more3 (F := fun _ => False)) fun _ h => h.elim
 obtain ⟨kb, kb2, hmb⟩ := sP M2';have hInI : InI (cU (cf k) fI) := ⟨fun y hy => by
  have := (Bk (c := k) (by omega) y).1 hy; omega⟩
 have hmb' : H3[H0.length + 2 + 3]? = some (.rw (rmV kb n kb2 (am0 n fun _ => zl).off (am0 n fun _ => zl).left (am0 n fun _ => zl).count)) := hmb;rcases Fu [u0] (show n ≤ 1024 by omega) hmb' 10 (cf k) fI hInI with ⟨q, _⟩ | ⟨_, _, q, _⟩ | ⟨_, _, A3, more4, b, q, e4, T1, T2, T3⟩
 ·omega
 ·have q : (af0 10 n).takes (cU (cf k) fI) = none := q;rw [hA] at q; cases q
 have q : (af0 10 n).takes (cU (cf k) fI) = some A3 := q;rw [hA] at q; cases q;generalize hH4 : H3 ++ more4 = H4 at *;have pre4 : H3 <+: H4 := hH4 ▸ List.prefix_append _ _;have l4 := pre4.length_le;generalize hX0 : as0 (am0 n fun _ => zl) A' (cf k) fI = X0 at *;have xM : X0.M = am0 n fun _ => zl := by rw [← hX0]; rfl
 have xA : X0.A = A' := by rw [← hX0]; rfl
 have hQ4 : aT H4 (fun j => j = H0.length ∨ j = H0.length + 1) (H2.length + 1) (H0.length + 1) H2.length X0 := Q.chg (kH pre4 fun _ => False) (fun _ h => h.elim) fun h => h;have hD4 : bj H4 (fun j => j = H0.length + 2 + 1 ∨ j = H0.length + 2 + 2 ∨ j = H0.length + 2 + 3) b (H0.length + 2 + 3) (H3.length + 1) H3.length X0 :=
  ⟨Q.ok, by rw [T1, ← hX0]; rfl, by rw [xA]; exact T2, by rw [xM]; exact M2'.chg (kH pre4 fun _ => False) fun _ h => h.elim, by omega, by omega⟩
 have hb0 : Bo H4 (H2.length + 1) (H0.length + 1) H2.length (fun j => j = H0.length ∨ j = H0.length + 1) b (H0.length + 2 + 3) (H3.length + 1) H3.length (fun j => j = H0.length + 2 + 1 ∨ j = H0.length + 2 + 2 ∨ j = H0.length + 2 + 3) X0 :=
  ⟨hQ4, hD4, fun j h1 h2 => by
   simp only [bu, bL] at h1 h2;omega, fun h => by
   simp only [bL] at h;omega⟩
 obtain ⟨H5, e5, F1, F2⟩ := Bv hQ4.mp fu hf1 [u0];have hQ5 := hQ4.setM F1 F2 rfl;have hD5 := hb0.one (BT F2);obtain ⟨H6, e6, F3, F4⟩ := BD hD5.mq fu hf1 [u0];have hD6 := hD5.setM F3 F4 rfl;obtain ⟨hb6, hc6⟩ := hb0.two hQ5 (BT F2) hD6 (Fy F4);have hab : r8 hp.length (BoF (H2.length + 1) H2.length (fun j => j = H0.length ∨ j = H0.length + 1) b (H3.length + 1) H3.length (fun j => j = H0.length + 2 + 1 ∨ j = H0.length + 2 + 2 ∨ j = H0.length + 2 + 3)) := fun j hj => by
  simp only [BoF, Ft.or, bu, bL] at hj;omega
 have hpre4 : hp <+: H4 := pre0.trans (pre2.trans (pre3.trans pre4));have hpa := hc6.pre hpre4 hab;obtain ⟨u1, hu1⟩ : ∃ u : Blk, u = .rw (.agg 38 []) := ⟨_, rfl⟩;have hP : Pl hp H6 (H2.length + 1) (H0.length + 1) H2.length (fun j => j = H0.length ∨ j = H0.length + 1) b (H0.length + 2 + 3) (H3.length + 1) H3.length (fun j => j = H0.length + 2 + 1 ∨ j = H0.length + 2 + 2 ∨ j = H0.length + 2 + 3) (fun _ => False) _ (.sl (.loc 1) [] 0 0 (some 0) 10) [] (2 * 0) :=
  ⟨hb6, .loc, fun _ h => h.elim, fun _ h => h.elim, fun i hi => by
   simp only;rw [← hX0];simp only [as0, cf];split
   ·simp only; omega
   ·simp [dK], by simp only; rw [xM]; simp [AM.fuse, am0], Nat.le_refl _, hpa.1, hpa.2, fun _ h => h.elim⟩
 have hub : cn 2 u0 = true ∧ cn 2 u1 = true := by rw [hu0, hu1]; exact ⟨rfl, rfl⟩
 obtain ⟨H7, a', m', fr', Fm', F2', Gt', x', tv', tk', j, e7, P7⟩ := z0 hl hrs hlt hpl u0 u1 hub n (min l.length 80) 0 (by omega) hP;have e8 := Ha P7.bo (by have := P7.cnt; omega) (n := n) (by omega) u0 u1 hub;simp only [plE, List.cons_append, List.nil_append] at e7;rw [show ((0 : Nat) : Int) = 0 from rfl] at e7
 have hdir2 := sV (s := ⟨[u0], H2⟩) hG2;have hdir3 := sV (s := ⟨[u0], H3⟩) Q.g;refine ⟨⟨[], H7⟩, ?_⟩;clear hP P7 hb6 hc6 hb0 hD6 hD5 hD4 hQ5 hQ4 F1 F2 F3 F4 M1 M1' M2 M2' Q T2 hfit hst hx h0 h1 hfu hv hrs hl hab hInI hmb hmb' T1;have tm1 : H0.length + 2 + 3 = H0.length + 5 := rfl;simp only [tm1] at *;subst hu0 hu1;generalize aj (cf k) = TV at *;generalize ax fI = DV at *;rw [ah lS rfl];simp only [go_sem, hsh, hk0, hw, e1, e2, hk1, htab, hdir2, hdir3, e3, e4, e5, e6];simp only [go_sem, List.replicate_zero, e7, e8]
end Go.Proofs.YtnffmibpblibdaaGreatDoor
