/-
  YtilcajpldklbiaaDoorT7: what functions of the program compute (RevL, RevM, RevN, RevO, RevP, RevQ, RevR, RevS, RevT, RevU, RevV, RevW, RevX, RevY).
-/
import Derived.Test.YtilcajpldklbiaaDoorT6
set_option maxRecDepth 100000
namespace Go.Proofs.YtilcajpldklbiaaDoor
open Go.Ab
structure FmI (N : Nat) (M : AM) (v : Nat → List Int) : Prop where
 on : M.On
 ok : M.Ok
 n : M.n = N
 fl : ∀ j, j < N → Fl M j
 now : ∀ j, M.now j = v j
def FmS (N : Nat) (s : AM × Int) (v : Nat → List Int) : Prop := s.2 = 0 ∧ FmI N s.1 v
theorem FmI.congr {N : Nat} {M : AM} {v w : Nat → List Int} (h : FmI N M v) (e : ∀ j, v j = w j) : FmI N M w := ⟨h.on, h.ok, h.n, h.fl, fun j => (h.now j).trans (e j)⟩
theorem HO {M : AM} (ok : M.Ok) (i : Int) : (M.flush 0 i).1.Ok := by
 unfold AM.flush;split
 ·exact ok
 ·split
  ·exact ok.out
  ·exact ok.stepped.flushed _ _
theorem FmI.flush {N : Nat} {M : AM} {v : Nat → List Int} {i : Nat} (on : M.On) (ok : M.Ok) (n : M.n = N) (fl : ∀ j, j < N → j ≠ i → Fl M j) (now : ∀ j, M.now j = v j) (hi : i < N) : FmS N (M.flush 0 i) v := by
 obtain ⟨e1, e2, e3⟩ := o9 on (i := (i : Int)) (by omega) (by omega);have hok := HO ok (i : Int);rcases nG (M := M) (i := i) (by omega) with ⟨q1, q2, q3, q4⟩ | ⟨q1, q2⟩
 ·refine ⟨q1, by rw [e1]; exact e2, hok, (bi (M := M) (c := 0) (i := i)).2.trans n, fun j hj => ?_, fun j => (q4 j).trans (now j)⟩;by_cases e : j = i
  ·subst e; exact q3
  ·exact yq (fl j hj e)
 ·rw [e1] at q1; cases q1
theorem FmS.go {N : Nat} {s : AM × Int} {v w : Nat → List Int} {f : AM → AM × Int} (h : FmS N s v) (hf : FmI N s.1 v → FmS N (f s.1) w) : FmS N (AM.go s f) w := by
 rw [mg h.1]; exact hf h.2
theorem FmI.put8 {N : Nat} {M : AM} {v : Nat → List Int} (h : FmI N M v) {at' : Nat} {l : List Int} (ha : at' < N) (hl : l.length = 8) : FmS N (M.put8 at' l) (upd v at' l) := by
 obtain ⟨e1, e2, e3⟩ := ml hl 8 0 h.on (by rw [h.n]; exact ha) rfl (M.now at') (h.ok.now8 (by rw [h.n]; exact ha)) (by simp [mI]);have hok : (M.layFrom at' l 0 8).1.Ok := h.ok.layFrom;have hn : (M.layFrom at' l 0 8).1.n = M.n := AM.layFrom_n;unfold AM.put8;rw [if_neg (by rw [e1]; simp)];refine FmI.flush e2 hok (hn.trans h.n) (fun j hj hne => ?_) (fun j => ?_) ha
 ·exact (iJ (by rw [Int.toNat_natCast]; exact hne) 8 0 M).fl (h.fl j hj)
 ·rw [e3 j, h.now j];unfold upd;rfl
theorem FmS.put {N : Nat} {s : AM × Int} {v : Nat → List Int} (h : FmS N s v) {at' : Nat} {l : List Int} (ha : at' < N) (hl : l.length = 8) : FmS N (AM.go s fun M => M.put8 at' l) (upd v at' l) :=
 h.go (f := fun M => M.put8 at' l) fun hi => hi.put8 ha hl
theorem FmI.empty {N : Nat} {M : AM} {v : Nat → List Int} (h : FmI N M v) {i : Nat} (hi : i < N) : FmS N (AM.go (M.store i 7 0) fun M => M.flush 0 i) (upd v i ((v i).set 7 0)) := by
 obtain ⟨e1, e2, e3⟩ := nk h.on (i := i) (q := 7) (by rw [h.n]; exact hi) (by decide) 0;have e1 : (M.store (i : Int) 7 0).2 = 0 := e1;have e2 : (M.store (i : Int) 7 0).1.On := e2;rw [mg e1];refine FmI.flush e2 h.ok.store (AM.store_n.trans h.n) (fun j hj hne => ?_) (fun j => ?_) hi
 ·exact (kQ (by rw [Int.toNat_natCast]; exact hne)).fl (h.fl j hj)
 ·have := e3 j;rw [show (M.store (i : Int) 7 0).1.now j = _ from this, h.now j]
  unfold upd;split
  ·rename_i e; subst e; rfl
  ·rfl
theorem FmI.fence {N : Nat} {M : AM} {v : Nat → List Int} (h : FmI N M v) : FmS N (M.fence 0) v ∧ ∀ j, j < N → Sur (M.fence 0).1 j := by
 obtain ⟨e1, e2, e3⟩ := tS h.on;obtain ⟨f1, f2, f3⟩ := th h.ok;rcases rH (M := M) with ⟨q1, q2, q3, q4⟩ | ⟨q1, _⟩
 ·have hs : ∀ j, j < N → Sur (M.fence 0).1 j := fun j hj => q3 j (by rw [h.n]; exact hj) (h.fl j hj);exact ⟨⟨q1, by rw [e1]; exact e2, by rw [e1]; exact f1, by rw [e1]; exact f2.trans h.n, fun j hj => (hs j hj).fl, fun j => (q4 j).trans (h.now j)⟩, hs⟩
 ·rw [e1] at q1; cases q1
theorem BT {N : Nat} : ∀ (n i : Nat) {s : AM × Int}, i + n ≤ N → FmS N s (fun _ => zl) → FmS N (AM.wipe s i n) fun _ => zl
 | 0, _, _, _, h => h
 | n + 1, i, s, hn, h => by
  rw [AM.wipe];refine BT n (i + 1) (by omega) ?_;have he := h.2.empty (i := i) (by omega);rw [mg h.1];exact ⟨he.1, he.2.congr fun j => by unfold upd; split <;> rfl⟩
structure ObS (at0 i at' : Nat) (t : Nat → Ent) (v : Nat → List Int) (l0 : List Obj) : Prop where
 cnt : at' = at0 + bL (l0.take i)
 kv : ∀ j, j < i → (t j).kind = (l0.getD j noO).kind ∧ (t j).ver = (l0.getD j noO).ver
 z : ∀ j, j < i → (l0.getD j noO).kind = 0 → (t j).line = 0
 ln : ∀ j, j < i → (l0.getD j noO).kind ≠ 0 → ∃ q : Nat, (t j).line = q ∧ at0 ≤ q ∧ q < at' ∧ v q = (l0.getD j noO).l
 no : ∀ j, i ≤ j → t j = aw
 di : ∀ j k, j < i → k < i → j ≠ k → (l0.getD j noO).kind ≠ 0 → (l0.getD k noO).kind ≠ 0 → (t j).line ≠ (t k).line
 em : ∀ q, q < at0 ∨ at' ≤ q → v q = zl
theorem pm : ∀ a b : List Obj, bL (a ++ b) = bL a + bL b
 | [], b => by simp [bL]
 | o :: a, b => by
  simp only [List.cons_append, bL, pm a b]; omega
theorem vk {l : List Obj} {i : Nat} (h : i < l.length) : l.take (i + 1) = l.take i ++ [l.getD i noO] := by
 rw [List.take_add_one, List.getElem?_eq_getElem h, List.getD_eq_getElem?_getD, List.getElem?_eq_getElem h];rfl
theorem vL {N at0 : Nat} {l0 : List Obj} (h8 : ∀ o ∈ l0, o.l.length = 8) (hN : at0 + bL l0 ≤ N) : ∀ (n i : Nat) {s : AM × Int} {at' : Nat} {t : Nat → Ent} {v : Nat → List Int}, i + n = l0.length → FmS N s v → ObS at0 i at' t v l0 →
 ∃ v', FmS N (eo s at' t i (l0.drop i)).1 v' ∧ ObS at0 l0.length (eo s at' t i (l0.drop i)).2.1 (eo s at' t i (l0.drop i)).2.2 v' l0
 | 0, i, s, at', t, v, hi, h, ho => by
  have : i = l0.length := by omega
  subst this;rw [List.drop_length];exact ⟨v, h, ho⟩
 | n + 1, i, s, at', t, v, hi, h, ho => by
  have hil : i < l0.length := by omega
  have hdrop : l0.drop i = l0.getD i noO :: l0.drop (i + 1) := by
   rw [List.getD_eq_getElem?_getD, List.getElem?_eq_getElem hil];exact List.drop_eq_getElem_cons hil
  have hmem : l0.getD i noO ∈ l0 := by rw [List.getD_eq_getElem?_getD, List.getElem?_eq_getElem hil]; exact List.getElem_mem hil
  have hcn : at' + bL (l0.drop i) = at0 + bL l0 := by
   have := pm (l0.take i) (l0.drop i);rw [List.take_append_drop] at this;have := ho.cnt;omega
  rw [hdrop] at hcn ⊢;simp only [eo, bL] at hcn ⊢;by_cases hk : (l0.getD i noO).kind = 0
  ·rw [if_pos hk];refine vL h8 hN n (i + 1) (by omega) h ⟨?_, fun j hj => ?_, fun j hj hz => ?_, fun j hj hz => ?_, fun j hj => ?_, fun j k hj hk2 hne h1 h2 => ?_, ho.em⟩
   ·rw [vk hil, pm, ho.cnt];simp only [bL, hk, if_true]; omega
   ·by_cases e : j = i
    ·subst e; rw [gc]; exact ⟨rfl, rfl⟩
    ·rw [cO e]; exact ho.kv j (by omega)
   ·by_cases e : j = i
    ·subst e; rw [gc]
    ·rw [cO e]; exact ho.z j (by omega) hz
   ·by_cases e : j = i
    ·subst e; exact absurd hk hz
    ·rw [cO e]; exact ho.ln j (by omega) hz
   ·rw [cO (by omega)]; exact ho.no j (by omega)
   ·have e1 : j ≠ i := fun e => by subst e; exact h1 hk
    have e2 : k ≠ i := fun e => by subst e; exact h2 hk
    rw [cO e1, cO e2];exact ho.di j k (by omega) (by omega) hne h1 h2
  ·rw [if_neg hk] at hcn ⊢;have hput := h.put (at' := at') (l := (l0.getD i noO).l) (by omega) (h8 _ hmem);refine vL h8 hN n (i + 1) (by omega) hput ⟨?_, fun j hj => ?_, fun j hj hz => ?_, fun j hj hz => ?_, fun j hj => ?_, fun j k hj hk2 hne h1 h2 => ?_, fun q hq => ?_⟩
   ·rw [vk hil, pm, ho.cnt];simp only [bL, hk, if_false]; omega
   ·by_cases e : j = i
    ·subst e; rw [gc]; exact ⟨rfl, rfl⟩
    ·rw [cO e]; exact ho.kv j (by omega)
   ·by_cases e : j = i
    ·subst e; exact absurd hz hk
    ·rw [cO e]; exact ho.z j (by omega) hz
   ·by_cases e : j = i
    ·subst e; rw [gc];exact ⟨at', rfl, by have := ho.cnt; omega, by omega, aj⟩
    ·rw [cO e];obtain ⟨q, q1, q2, q3, q4⟩ := ho.ln j (by omega) hz;exact ⟨q, q1, q2, by omega, by rw [an (by omega)]; exact q4⟩
   ·rw [cO (by omega)]; exact ho.no j (by omega)
   ·by_cases e1 : j = i
    ·subst e1;rw [gc, cO (Ne.symm hne)];obtain ⟨q, q1, q2, q3, q4⟩ := ho.ln k (by omega) h2;rw [q1]; simp only; omega
    ·by_cases e2 : k = i
     ·subst e2;rw [gc, cO hne];obtain ⟨q, q1, q2, q3, q4⟩ := ho.ln j (by omega) h1;rw [q1]; simp only; omega
     ·rw [cO e1, cO e2];exact ho.di j k (by omega) (by omega) hne h1 h2
   ·have := ho.cnt;rw [an (by omega)];exact ho.em q (by omega)
theorem Bz {N a0 : Nat} (t : Nat → Ent) (hN : a0 + 7 ≤ N) : ∀ (n k : Nat) {s : AM × Int} {at' : Nat} {v : Nat → List Int}, k + n = 7 → at' = a0 + k → FmS N s v → ∃ v', FmS N (iP t s at' k n) v' ∧ (∀ j, k ≤ j → j < 7 → v' (a0 + j) = bj t j) ∧ ∀ q, q < a0 + k ∨ a0 + 7 ≤ q → v' q = v q
 | 0, k, s, at', v, hk, hat, h => ⟨v, h, fun j h1 h2 => by omega, fun _ _ => rfl⟩
 | n + 1, k, s, at', v, hk, hat, h => by
  subst hat;have hput := h.put (at' := a0 + k) (l := bj t k) (by omega) (lH t k);obtain ⟨v', q1, q2, q3⟩ := Bz t hN n (k + 1) (at' := a0 + k + 1) (by omega) (by omega) hput;refine ⟨v', q1, fun j h1 h2 => ?_, fun q hq => ?_⟩
  ·by_cases e : j = k
   ·subst e; rw [q3 _ (by omega)]; exact aj
   ·exact q2 j (by omega) h2
  ·rw [q3 q (by omega)]; exact an (by omega)
end Go.Proofs.YtilcajpldklbiaaDoor
namespace Go.Proofs.YtilcajpldklbiaaDoor
open Go.Ab
def Ln (c : Nat) (t : Nat → Ent) (d : Nat → Int) (j : Nat) : Prop := j < 2 + 4 * c ∨ aF t j = true ∨ mG d j = true
structure Im (c : Nat) (M : AM) (b : Sup) (t : Nat → Ent) (d : Nat → Int) (ct : Nat → List Int) : Prop where
 ok : M.Ok
 c1 : 1 ≤ c ∧ c ≤ 8
 bk : b.ok = true
 bc : b.cores = c
 s0 : M.S 0 = aQ b
 s1 : dh (M.S 1) = false
 sur : ∀ j, Ln c t d j → Sur M j
 lay : tI (2 + 4 * c) M.n M t d
 rt : d 7 = b.root
 ct : ∀ i, i < 49 → (t i).kind ≠ 0 → ∀ q : Nat, (t i).line = q → M.S q = ct i
theorem Im.sm {c : Nat} {M M' : AM} {b : Sup} {t : Nat → Ent} {d : Nat → Int} {ct : Nat → List Int} (h : Im c M b t d ct) (ok : M'.Ok) (hn : M'.n = M.n) (hs : ∀ j, Ln c t d j → Sm M M' j) : Im c M' b t d ct := by
 refine ⟨ok, h.c1, h.bk, h.bc, (hs 0 (.inl (by omega))).S.trans h.s0, by rw [(hs 1 (.inl (by have := h.c1; omega))).S]; exact h.s1, fun j hj => (hs j hj).sur (h.sur j hj), ?_, h.rt, fun i hi hk q hq => ?_⟩
 ·rw [hn];refine ⟨fun k hk => ?_, h.lay.dj, fun k hk => ?_, ?_, fun i hi hk => ?_, h.lay.g⟩
  ·obtain ⟨q, q1, q2, q3, q4, q5⟩ := h.lay.dl k hk;have hl : Ln c t d q := .inr (.inr (cR.2 ⟨k, hk, q1⟩));exact ⟨q, q1, q2, q3, (hs q hl).sur q4, q5⟩
  ·obtain ⟨q, q1, q2, q3, q4, q5⟩ := h.lay.dl k (by omega);have hl : Ln c t d q := .inr (.inr (cR.2 ⟨k, by omega, q1⟩));have := h.lay.lf k hk;rw [q1, Int.toNat_natCast] at this ⊢;rw [(hs q hl).S]; exact this
  ·obtain ⟨q, q1, q2, q3, q4, q5⟩ := h.lay.dl 7 (by omega);have hl : Ln c t d q := .inr (.inr (cR.2 ⟨7, by omega, q1⟩));have := h.lay.rt;rw [q1, Int.toNat_natCast] at this ⊢;rw [(hs q hl).S]; exact this
  ·obtain ⟨q, q1, q2, q3, q4⟩ := h.lay.ln i hi hk;have hl : Ln c t d q := .inr (.inl (aU.2 ⟨i, hi, hk, q1⟩));exact ⟨q, q1, q2, q3, (hs q hl).sur q4⟩
 ·rw [(hs q (.inr (.inl (aU.2 ⟨i, hi, hk, hq⟩)))).S];exact h.ct i hi hk q hq
theorem Im.crash {c : Nat} {M : AM} {b : Sup} {t : Nat → Ent} {d : Nat → Int} {ct : Nat → List Int} (h : Im c M b t d ct) (ks : List Int) (ok : (M.crash ks).Ok) : Im c (M.crash ks) b t d ct :=
 h.sm ok (ig M.n 0 (M := M) (ks := ks)).1 fun j hj => tN (h.sur j hj)
theorem DX {N c : Nat} (hN : 64 ≤ N) (hN1 : N ≤ 1024) {l : List Obj} (hok : l.all oOk = true) (h8 : ∀ o ∈ l, o.l.length = 8) (h49 : l.length ≤ 49) (hc : 1 ≤ c ∧ c ≤ 8) (hsz : 2 + 4 * c + bL l + 8 ≤ N) :
 ((am0 N fun _ => zl).fmt c l).2 = 0 ∧ ((am0 N fun _ => zl).fmt c l).1.On ∧ ((am0 N fun _ => zl).fmt c l).1.n = N ∧ ∃ b t d ct, Im c ((am0 N fun _ => zl).fmt c l).1 b t d ct ∧ b.gen = 1 ∧ b.seq = 0 ∧
  (∀ j, 2 ≤ j → j < 2 + 4 * c → ((am0 N fun _ => zl).fmt c l).1.S j = zl) ∧
  (∀ j, j < l.length → (t j).kind = (l.getD j noO).kind ∧ (t j).ver = (l.getD j noO).ver ∧ ((l.getD j noO).kind ≠ 0 → ct j = (l.getD j noO).l)) ∧ ∀ j, l.length ≤ j → t j = aw := by
 have ok0 : (am0 N fun _ => zl).Ok := ⟨hN, hN1, fun _ _ => rfl, fun _ _ d hd => (by cases hd), Int.le_refl _, fun _ _ => Int.le_refl _, Int.le_refl _, by simp [am0]⟩;have h0 : FmS N (am0 N fun _ => zl, 0) fun _ => zl := ⟨rfl, ⟨rfl, rfl⟩, ok0, rfl, fun j _ => rfl, fun _ => rfl⟩;unfold AM.fmt;rw [if_neg (by rw [hok]; simp; omega)];simp only [Int.toNat_natCast];rw [if_neg (by show ¬ N < 2 + 4 * c + bL l + 8; omega)];unfold uy;simp only;have h1 := BT (2 + 4 * c) 0 (by omega) h0;have h2 : FmS N (AM.go (AM.wipe (am0 N fun _ => zl, 0) 0 (2 + 4 * c)) fun M => M.fence 0) fun _ => zl := h1.go (f := fun M => M.fence 0) fun hi => hi.fence.1;obtain ⟨v3, h3, o3⟩ := vL (N := N) (at0 := 2 + 4 * c) h8 (by omega) l.length 0 (s := AM.go (AM.wipe (am0 N fun _ => zl, 0) 0 (2 + 4 * c)) fun M => M.fence 0) (at' := 2 + 4 * c) (t := fun _ => aw) (v := fun _ => zl) (by omega) h2
  ⟨rfl, fun j hj => absurd hj (Nat.not_lt_zero j), fun j hj => absurd hj (Nat.not_lt_zero j), fun j hj => absurd hj (Nat.not_lt_zero j), fun _ _ => rfl, fun j _ hj => absurd hj (Nat.not_lt_zero j), fun _ _ => rfl⟩
 rw [List.drop_zero] at h3 o3;generalize eo _ (2 + 4 * c) (fun _ => aw) 0 l = r at *;obtain ⟨s3, a3, t⟩ := r;simp only at h3 o3 ⊢;have ha3 : a3 = 2 + 4 * c + bL l := by have := o3.cnt; rwa [List.take_length] at this
 obtain ⟨v4, h4, l4, e4⟩ := Bz (N := N) (a0 := a3) t (by omega) 7 0 (at' := a3) (by omega) (by omega) h3;have h5 := h4.put (at' := a3 + 7) (l := aL fun j => (a3 : Int) + j) (by omega) (nR _);generalize iP t s3 a3 0 7 = s4 at *;generalize (AM.go s4 fun M => M.put8 (a3 + 7 : Nat) (aL fun j => (a3 : Int) + j)) = s5 at *;have h6 := h5.2.fence;rw [mg h5.1];obtain ⟨h6, su6⟩ := h6;have hS6 : ∀ j, j < N → (s5.1.fence 0).1.S j = upd v4 (a3 + 7) (aL fun j => (a3 : Int) + j) j := fun j hj => by rw [← (su6 j hj).now]; exact h6.2.now j
 generalize (s5.1.fence 0) = s6 at *;rw [mg h6.1];have hbk : (⟨1, (a3 + 7 : Nat), 0, c⟩ : Sup).ok = true := by
  unfold Sup.ok win;simp only [Bool.and_eq_true, decide_eq_true_eq];omega
 obtain ⟨g1, g2⟩ := Kf h6.2.ok (s := 0) (.inl rfl) (su6 0 (by omega)) hbk;obtain ⟨k1, k2, k3, k4, k5, k6⟩ := LD h6.2.ok h6.2.on (s := 0) (.inl rfl) hbk;have hn7 : (s6.1.wrs 0 ⟨1, (a3 + 7 : Nat), 0, c⟩).1.n = N := k4.trans h6.2.n;have k1 : (s6.1.wrs 0 ⟨1, (a3 + 7 : Nat), 0, c⟩).2 = 0 := k1;have k2 : (s6.1.wrs 0 ⟨1, (a3 + 7 : Nat), 0, c⟩).1.Ok := k2;have k3 : (s6.1.wrs 0 ⟨1, (a3 + 7 : Nat), 0, c⟩).1.On := k3;rcases g2 with ⟨q1, q2, q3, q4⟩ | ⟨q1, _⟩
 ·have q3 : Sur (s6.1.wrs 0 ⟨1, (a3 + 7 : Nat), 0, c⟩).1 0 := q3;have q4 : (s6.1.wrs 0 ⟨1, (a3 + 7 : Nat), 0, c⟩).1.now 0 = aQ ⟨1, (a3 + 7 : Nat), 0, c⟩ := q4;have g1 : ∀ j, j ≠ 0 → Sur s6.1 j → Sm s6.1 (s6.1.wrs 0 ⟨1, (a3 + 7 : Nat), 0, c⟩).1 j := g1;generalize (s6.1.wrs 0 ⟨1, (a3 + 7 : Nat), 0, c⟩) = s7 at *;have sur7 : ∀ j, j < N → Sur s7.1 j := fun j hj => by
   by_cases e : j = 0
   ·subst e; exact q3
   ·exact (g1 j e (su6 j hj)).sur (su6 j hj)
  have hS7 : ∀ j, j < N → j ≠ 0 → s7.1.S j = upd v4 (a3 + 7) (aL fun j => (a3 : Int) + j) j := fun j hj hne => by rw [(g1 j hne (su6 j hj)).S]; exact hS6 j hj
  have hline : ∀ j, j < l.length → (l.getD j noO).kind ≠ 0 → ∃ q : Nat, (t j).line = q ∧ 2 + 4 * c ≤ q ∧ q < a3 ∧ s7.1.S q = (l.getD j noO).l := fun j hj hk => by
   obtain ⟨q, q1, q2, q3, q4⟩ := o3.ln j hj hk;refine ⟨q, q1, q2, q3, ?_⟩;rw [hS7 q (by omega) (by omega), an (by omega), e4 q (by omega)];exact q4
  have hkin : ∀ j, (t j).kind ≠ 0 → j < l.length ∧ (l.getD j noO).kind ≠ 0 := fun j hk => by
   by_cases e : j < l.length
   ·exact ⟨e, by rw [← (o3.kv j e).1]; exact hk⟩
   ·rw [o3.no j (by omega)] at hk; exact absurd rfl hk
  have hoO : ∀ j, j < l.length → oOk (l.getD j noO) = true := fun j hj => by
   rw [List.getD_eq_getElem?_getD, List.getElem?_eq_getElem hj];exact (List.all_eq_true.1 hok) _ (List.getElem_mem hj)
  have hnl : ∀ q : Nat, a3 ≤ q → aF t q = false := fun q hq => by
   cases e : aF t q
   ·rfl
   ·obtain ⟨i, i1, i2, i3⟩ := aU.1 e;obtain ⟨j1, j2⟩ := hkin i i2;obtain ⟨q', r1, r2, r3, _⟩ := hline i j1 j2;omega
  have hTg : ou t := by
   refine ⟨fun i hi => ?_, fun i j hi hj hne h1 h2 => ?_⟩
   ·by_cases e : i < l.length
    ·have hk := o3.kv i e;obtain ⟨a1, a2, a3'⟩ := vX.1 (hoO i e);refine pK.2 ⟨by rw [hk.1]; exact a1, by rw [hk.2]; exact a2, ?_, fun hz => o3.z i e (by rw [← hk.1]; exact hz)⟩;by_cases hz : (l.getD i noO).kind = 0
     ·rw [o3.z i e hz]; omega
     ·obtain ⟨q, r1, r2, r3, _⟩ := hline i e hz;omega
    ·rw [o3.no i (by omega)];exact pK.2 ⟨by decide, by decide, by decide, fun _ => rfl⟩
   ·exact o3.di i j (hkin i h1).1 (hkin j h2).1 hne (hkin i h1).2 (hkin j h2).2
  let d : Nat → Int := fun k => (a3 : Int) + k;have hd : ∀ k : Nat, d k = ((a3 + k : Nat) : Int) := fun k => by show (a3 : Int) + k = _; omega
  refine ⟨k1, k3, hn7, ⟨1, (a3 + 7 : Nat), 0, c⟩, t, d, fun j => (l.getD j noO).l, ⟨k2, hc, hbk, rfl, by rw [← q3.now]; exact q4, ?_, fun j hj => sur7 j ?_, ⟨fun k hk => ?_, fun a b ha hb hne => ?_, fun k hk => ?_, ?_, fun i hi hk => ?_, hTg⟩, ?_, fun i hi hk q hq => ?_⟩, rfl, rfl, fun j h1 h2 => ?_, fun j hj => ⟨(o3.kv j hj).1, (o3.kv j hj).2, fun _ => rfl⟩, o3.no⟩
  ·rw [hS7 1 (by omega) (by decide), an (by omega), e4 1 (by omega), o3.em 1 (by omega)];exact BD rfl
  ·rcases hj with hj | hj | hj
   ·omega
   ·obtain ⟨i, i1, i2, i3⟩ := aU.1 hj;obtain ⟨j1, j2⟩ := hkin i i2;obtain ⟨q', r1, r2, r3, _⟩ := hline i j1 j2;omega
   ·obtain ⟨k, hk, e⟩ := cR.1 hj;rw [hd k] at e;omega
  ·exact ⟨a3 + k, hd k, by omega, by rw [hn7]; omega, sur7 _ (by omega), hnl _ (by omega)⟩
  ·show (a3 : Int) + a ≠ (a3 : Int) + b;omega
  ·rw [hd k, Int.toNat_natCast, hS7 _ (by omega) (by omega), an (by omega)];exact l4 k (Nat.zero_le _) hk
  ·rw [hd 7, Int.toNat_natCast, hS7 _ (by omega) (by omega)];exact aj
  ·obtain ⟨j1, j2⟩ := hkin i hk;obtain ⟨q', r1, r2, r3, _⟩ := hline i j1 j2;exact ⟨q', r1, r2, by rw [hn7]; omega, sur7 _ (by omega)⟩
  ·exact hd 7
  ·obtain ⟨j1, j2⟩ := hkin i hk;obtain ⟨q', r1, r2, r3, r4⟩ := hline i j1 j2;have : q = q' := by omega
   subst this;exact r4
  ·rw [hS7 j (by omega) (by omega), an (by omega), e4 j (by omega)];exact o3.em j (by omega)
 ·have : (s6.1.wrs 0 ⟨1, (a3 + 7 : Nat), 0, c⟩).2 = 4 := q1;rw [k1] at this; cases this
end Go.Proofs.YtilcajpldklbiaaDoor
namespace Go.Proofs.YtilcajpldklbiaaDoor
open Go.Ab
theorem jN {t : Nat → Ent} {x : Int} : ∀ (n i : Nat), x ∈ cK t i n → ∃ k, i ≤ k ∧ k < i + n ∧ (t k).kind ≠ 0 ∧ (t k).line = x
 | 0, _, h => by cases h
 | n + 1, i, h => by
  simp only [cK] at h;split at h
  ·obtain ⟨k, h1, h2, h3⟩ := jN n (i + 1) h;exact ⟨k, by omega, by omega, h3⟩
  ·rename_i hk;rcases List.mem_cons.1 h with rfl | h
   ·exact ⟨i, Nat.le_refl _, by omega, hk, rfl⟩
   ·obtain ⟨k, h1, h2, h3⟩ := jN n (i + 1) h;exact ⟨k, by omega, by omega, h3⟩
theorem mD {t : Nat → Ent} (h : ∀ i j, i < 49 → j < 49 → i ≠ j → (t i).kind ≠ 0 → (t j).kind ≠ 0 → (t i).line ≠ (t j).line) : ∀ (n i : Nat), i + n ≤ 49 → (cK t i n).Nodup
 | 0, _, _ => List.nodup_nil
 | n + 1, i, hi => by
  simp only [cK];split
  ·exact mD h n (i + 1) (by omega)
  ·rename_i hk;refine List.nodup_cons.2 ⟨fun hm => ?_, mD h n (i + 1) (by omega)⟩;obtain ⟨k, h1, h2, h3, h4⟩ := jN n (i + 1) hm;exact h i k (by omega) (by omega) (by omega) hk h3 h4.symm
theorem pD {d : Nat → Int} {x : Int} : ∀ (n i : Nat), x ∈ ke d i n → ∃ k, i ≤ k ∧ k < i + n ∧ d k = x
 | 0, _, h => by cases h
 | n + 1, i, h => by
  rcases List.mem_cons.1 h with rfl | h
  ·exact ⟨i, Nat.le_refl _, by omega, rfl⟩
  ·obtain ⟨k, h1, h2, h3⟩ := pD n (i + 1) h;exact ⟨k, by omega, by omega, h3⟩
theorem yS {d : Nat → Int} : ∀ (n i k : Nat), i ≤ k → k < i + n → d k ∈ ke d i n
 | 0, i, k, h1, h2 => by omega
 | n + 1, i, k, h1, h2 => by
  simp only [ke];by_cases e : k = i
  ·subst e; exact List.mem_cons_self
  ·exact List.mem_cons_of_mem _ (yS n (i + 1) k (by omega) (by omega))
theorem vg {d : Nat → Int} (h : ∀ i j, i < 8 → j < 8 → i ≠ j → d i ≠ d j) : ∀ (n i : Nat), i + n ≤ 8 → (ke d i n).Nodup
 | 0, _, _ => List.nodup_nil
 | n + 1, i, hi => by
  refine List.nodup_cons.2 ⟨fun hm => ?_, vg h n (i + 1) (by omega)⟩;obtain ⟨k, h1, h2, h3⟩ := pD n (i + 1) hm;exact h i k (by omega) (by omega) (by omega) h3.symm
theorem u7 : ∀ {ls : List Int} {A A' : AF}, A.takes ls = some A' → A.left ≤ A'.left + ls.length
 | [], A, A', h => by cases h; exact Nat.le_refl _
 | x :: r, A, A', h => by
  simp only [AF.takes] at h;split at h
  ·rename_i h0;have hr := ja (A := A) (line := x) (by omega);have ih := u7 h;have hl : A.left ≤ (A.put x.toNat 1).left + 1 := by
    unfold AF.left;have := AF.cnt_put (A := A) (k := x.toNat) (x := 1) (n := A.l - A.f) (i := A.f) (by omega) (by omega);have e : (A.put x.toNat 1).cnt (A.put x.toNat 1).f ((A.put x.toNat 1).l - (A.put x.toNat 1).f) = (A.put x.toNat 1).cnt A.f (A.l - A.f) := rfl;rw [e];simp only [show ¬ (1 : Int) = 0 by decide, if_false] at this;split at this <;> omega
   rw [List.length_cons]; omega
  ·cases h
theorem BG (f l : Nat) : ∀ n i, (af0 f l).cnt i n = n
 | 0, _ => rfl
 | n + 1, i => by
  simp only [AF.cnt, BG f l n];show (if (0 : Int) = 0 then 1 else 0) + n = n + 1
  rw [if_pos rfl]; omega
structure BtS (c : Nat) (M : AM) (b : Sup) (t : Nat → Ent) (d : Nat → Int) (A : AF) : Prop where
 inv : Inv (M.st0 b A)
 w : ∀ i, i < 49 → (M.st0 b A).work i = t i
 ld : ∀ i, i < 49 → ldT M (M.now b.root.toNat) i = t i
 f : A.f = 2 + 4 * c
 l : A.l = M.n
 kp : ∀ j, Ln c t d j → Kp (M.st0 b A) j
 left : M.n ≤ A.left + (2 + 4 * c) + 57
theorem Im.boot {c : Nat} {M : AM} {b : Sup} {t : Nat → Ent} {d : Nat → Int} {ct : Nat → List Int} (h : Im c M b t d ct) (off : M.off = false) : ∃ A, M.bt = (some (b, 0, A), 0) ∧ BtS c M b t d A := by
 have hc := h.c1;have sur0 := h.sur 0 (.inl (by omega));have sur1 := h.sur 1 (.inl (by omega));have n0 : M.now 0 = aQ b := sur0.now.trans h.s0;have n1 : dh (M.now 1) = false := by rw [sur1.now]; exact h.s1
 have hbest : bl (M.now 0) (M.now 1) = (b, 0, true) := by
  obtain ⟨h1, h2⟩ := wV h.bk;rw [n0];unfold bl bst;simp only [n1, Bool.false_eq_true, false_and, if_false, h1, h2, true_and, true_or, if_true]
 have hb := xv h.bk;have hfc : (2 : Int) + 4 * b.cores = ((2 + 4 * c : Nat) : Int) := by rw [h.bc]; omega
 obtain ⟨l1, l2, l3⟩ := h.lay.loads h.ok;rw [h.rt] at l1 l2;obtain ⟨q7, hq7, hq7a, hq7b, _⟩ := h.lay.dl 7 (by decide);have hdk : ∀ k, k < 8 → d8 (M.now b.root.toNat) b.root k = d k := fun k hk => by
  unfold d8;split
  ·rename_i hk7;have hrange : ∀ j, j < 7 → 0 ≤ d j ∧ d j < 1024 := fun j hj => by
    obtain ⟨q, q1, q2, q3, _⟩ := h.lay.dl j (by omega);have := h.ok.n1;omega
   obtain ⟨_, r2⟩ := vG (d := d) hrange;have hroot : M.now b.root.toNat = aL d := by
    rw [← h.rt, hq7, Int.toNat_natCast];have s7 : Sur M q7 := h.sur q7 (.inr (.inr (cR.2 ⟨7, by decide, hq7⟩)));rw [s7.now];have := h.lay.rt;rw [hq7, Int.toNat_natCast] at this;exact this
   rw [hroot, r2 k hk7]
  ·have : k = 7 := by omega
   subst this; exact h.rt.symm
 have hall : ∀ x, x ∈ gp (ldT M (M.now b.root.toNat)) (d8 (M.now b.root.toNat) b.root) ↔ (∃ i, i < 49 ∧ (t i).kind ≠ 0 ∧ (t i).line = x) ∨ ∃ k, k < 8 ∧ d k = x := fun x => by
  unfold gp;rw [List.mem_append];constructor
  ·rintro (hx | hx)
   ·obtain ⟨k, h1, h2, h3, h4⟩ := jN 49 0 hx;rw [l2 k (by omega)] at h3 h4;exact .inl ⟨k, by omega, h3, h4⟩
   ·obtain ⟨k, h1, h2, h3⟩ := pD 8 0 hx;exact .inr ⟨k, by omega, by rw [← hdk k (by omega)]; exact h3⟩
  ·rintro (⟨i, i1, i2, i3⟩ | ⟨k, k1, k2⟩)
   ·left;rw [← i3, ← l2 i i1];exact mq _ 49 0 i (by omega) (by omega) (by rw [l2 i i1]; exact i2)
   ·right;rw [← k2, ← hdk k k1];exact yS 8 0 k (by omega) (by omega)
 have hinx : ∀ x, x ∈ gp (ldT M (M.now b.root.toNat)) (d8 (M.now b.root.toNat) b.root) → ∃ q : Nat, x = q ∧ 2 + 4 * c ≤ q ∧ q < M.n := fun x hx => by
  rcases (hall x).1 hx with ⟨i, i1, i2, i3⟩ | ⟨k, k1, k2⟩
  ·obtain ⟨q, q1, q2, q3, _⟩ := h.lay.ln i i1 i2;exact ⟨q, by omega, q2, q3⟩
  ·obtain ⟨q, q1, q2, q3, _⟩ := h.lay.dl k k1;exact ⟨q, by omega, q2, q3⟩
 have hnd : (gp (ldT M (M.now b.root.toNat)) (d8 (M.now b.root.toNat) b.root)).Nodup := by
  unfold gp;refine List.nodup_append.2 ⟨mD (fun i j hi hj hne h1 h2 => ?_) 49 0 (by omega), vg (fun i j hi hj hne => ?_) 8 0 (by omega), fun x hx y hy e => ?_⟩
  ·rw [l2 i hi] at h1 ⊢;rw [l2 j hj] at h2 ⊢;exact h.lay.g.j i j hi hj hne h1 h2
  ·rw [hdk i hi, hdk j hj]; exact h.lay.dj i j hi hj hne
  ·subst e;obtain ⟨i, i1, i2, i3, i4⟩ := jN 49 0 hx;obtain ⟨k, k1, k2, k3⟩ := pD 8 0 hy;rw [l2 i (by omega)] at i3 i4;rw [hdk k (by omega)] at k3;obtain ⟨q, q1, q2, q3, q4, q5⟩ := h.lay.dl k (by omega);have := aU.2 ⟨i, by omega, i3, show (t i).line = (q : Int) by omega⟩;rw [q5] at this; cases this
 obtain ⟨A, hA⟩ := yZ (A := af0 (2 + 4 * c) M.n) hnd fun x hx => by
  obtain ⟨q, q1, q2, q3⟩ := hinx x hx;unfold AF.state af0;rw [if_neg (by simp only; omega)]
 have hfn : 2 + 4 * c ≤ M.n := by have := h.ok.n0; omega
 obtain ⟨ok0, two⟩ := Ef h.ok (f := 2 + 4 * c) hfn hA;obtain ⟨t1, t2, t3, t4⟩ := mh hA;have t1 : A.f = 2 + 4 * c := t1;have t2 : A.l = M.n := t2;have hst : M.st0 b A = as0 M A (ldT M (M.now b.root.toNat)) (d8 (M.now b.root.toNat) b.root) := rfl;have hnm : ∀ j : Nat, aF (ldT M (M.now b.root.toNat)) j = aF t j := fun j => by
  apply Bool.eq_iff_iff.2;rw [aU, aU];constructor
  ·rintro ⟨i, i1, i2, i3⟩; rw [l2 i i1] at i2 i3; exact ⟨i, i1, i2, i3⟩
  ·rintro ⟨i, i1, i2, i3⟩; exact ⟨i, i1, by rw [l2 i i1]; exact i2, by rw [l2 i i1]; exact i3⟩
 have hst1 : ∀ j : Nat, aF t j = true ∨ mG d j = true → A.st j = 1 := fun j hj => by
  rw [t4 j, if_pos ((hall j).2 ?_)];rcases hj with hj | hj
  ·obtain ⟨i, i1, i2, i3⟩ := aU.1 hj;exact .inl ⟨i, i1, i2, i3⟩
  ·obtain ⟨k, k1, k2⟩ := cR.1 hj;exact .inr ⟨k, k1, k2⟩
 have hsh : ∀ j : Nat, (as0 M A (ldT M (M.now b.root.toNat)) (d8 (M.now b.root.toNat) b.root)).sh j = aF t j := fun j => by
  rw [ua ok0, ← hnm j]; simp [as0]
 refine ⟨A, ?_, ?_⟩
 ·unfold AM.bt;rw [if_neg (by rw [off]; simp), hbest, if_neg (by simp)];simp only;rw [hfc, if_neg (by omega), l1, if_neg (by simp), Int.toNat_natCast, hA]
 ·refine ⟨?_, fun i hi => l2 i hi, l2, t1, t2, fun j hj => ?_, ?_⟩
  ·rw [hst];refine ⟨ok0, fun i hi => ?_, fun j hj => ?_, fun j hj => ?_, fun i j hi hj hne hk1 hk2 hl => ?_⟩
   ·show 0 ≤ (ldT M (M.now b.root.toNat) i).ver ∧ (ldT M (M.now b.root.toNat) i).ver ≤ 16777215;rw [l2 i hi];exact (pK.1 (h.lay.g.e i hi)).2.1
   ·have hj : aF (ldT M (M.now b.root.toNat)) j = true := hj;rw [hnm] at hj;exact hst1 j (.inl hj)
   ·rw [hsh] at hj;exact hst1 j (.inl hj)
   ·have hk1 : (ldT M (M.now b.root.toNat) i).kind ≠ 0 := hk1;have hk2 : (ldT M (M.now b.root.toNat) j).kind ≠ 0 := hk2;have hl : (ldT M (M.now b.root.toNat) i).line = (ldT M (M.now b.root.toNat) j).line := hl;rw [l2 i hi] at hk1 hl;rw [l2 j hj] at hk2 hl;exact absurd hl (h.lay.g.j i j hi hj hne hk1 hk2)
  ·rw [hst];rcases hj with hj | hj | hj
   ·exact ⟨.inl (by show j < A.f; omega)⟩
   ·exact ⟨.inr ⟨hst1 j (.inl hj), .inl (by rw [hsh]; exact hj)⟩⟩
   ·refine ⟨.inr ⟨hst1 j (.inr hj), .inr ?_⟩⟩;show aF (ldT M (M.now b.root.toNat)) j = false;rw [hnm];obtain ⟨k, k1, k2⟩ := cR.1 hj;obtain ⟨q, q1, _, _, _, q5⟩ := h.lay.dl k k1;have : q = j := by omega
    subst this;exact q5
  ·have hl := u7 hA;have h2 : (af0 (2 + 4 * c) M.n).left = M.n - (2 + 4 * c) := BG _ _ _ _;have h3 : (gp (ldT M (M.now b.root.toNat)) (d8 (M.now b.root.toNat) b.root)).length ≤ 57 := by
    unfold gp;rw [List.length_append];have := ui (ldT M (M.now b.root.toNat)) 49 0;have h8 : (ke (d8 (M.now b.root.toNat) b.root) 0 8).length = 8 := rfl;omega
   omega
end Go.Proofs.YtilcajpldklbiaaDoor
namespace Go.Proofs.YtilcajpldklbiaaDoor
open Go.Ab
theorem Kp.mono {x y : AS} {j : Nat} (h : Kp x j) (hf : y.A.f = x.A.f) (hs : y.sh = x.sh) (h1 : x.A.st j = 1 → y.A.st j = 1) (h2 : x.A.st j = 1 → aF x.work j = false → aF y.work j = false) : Kp y j := by
 rcases h.k with h | ⟨h, h3⟩
 ·exact ⟨.inl (by rw [hf]; exact h)⟩
 ·refine ⟨.inr ⟨h1 h, ?_⟩⟩;rw [hs];exact h3.imp id (h2 h)
theorem J8 {x : AS} (h : Inv x) {id word v : Int} (he : (x.set id word v).2 = 0) : Inv (x.set id word v).1 ∧ ∀ j, Kp x j → Kp (x.set id word v).1 j := by
 unfold AS.set at he ⊢;split at he
 ·cases he
 ·rename_i hid;rw [if_neg hid];split at he
  ·cases he
  ·rename_i hk;rw [if_neg hk];split at he
   ·rename_i ho;rw [if_pos ho];exact ⟨h.withM h.ok.M.store AM.store_n, fun j hj => hj.mono rfl rfl (fun h => h) fun _ h => h⟩
   ·rename_i ho;rw [if_neg ho];split at he
    ·cases he
    ·rename_i hl;rw [if_neg hl];split at he
     ·rename_i hld; exact absurd he hld
     ·rename_i hld;rw [if_neg hld];have hi : id.toNat < 49 := by omega
      generalize hL : ((x.M.load (x.work id.toNat).line).1.set word.toNat v) = l at *;cases hf : x.A.first with
      | none => exact absurd (AF.left_zero.2 hf) hl
      | some k =>
       obtain ⟨f1, f2, f3, _⟩ := kO (show x.A.firstFrom x.A.f (x.A.l - x.A.f) = some k from hf)
       have ha : x.A.alloc = (x.A.put k 1, (k : Int), 0) := by unfold AF.alloc; rw [hf]
       have hlay : x.lay l = ({ x with A := x.A.put k 1, M := (x.M.layFrom k l 0 8).1 }, (if (x.M.layFrom k l 0 8).2 ≠ 0 then 0 else (k : Int)), (x.M.layFrom k l 0 8).2) := by
        unfold AS.lay;rw [ha];rfl
       simp only [hlay] at he ⊢;by_cases hz : (x.M.layFrom k l 0 8).2 = 0
       ·simp only [hz, ne_eq, not_true_eq_false, if_false];have hkr : x.A.f ≤ k ∧ k < x.A.l := by omega
        have hsl := h.setLine (i := id.toNat) (k := k) (e := (x.work id.toNat).at k) f3 hkr rfl (h.v _ hi) (M := (x.M.layFrom k l 0 8).1) h.ok.M.layFrom AM.layFrom_n;refine ⟨hsl.1, fun j hj => hj.mono rfl rfl (fun h1 => ?_) fun h1 hn => ?_⟩
        ·show upd x.A.st k 1 j = 1;unfold upd;split
         ·rfl
         ·exact h1
        ·refine Ct hn fun _ e => ?_;have e : (k : Int) = j := e;have : k = j := by omega
         subst this;rw [f3] at h1; cases h1
       ·rw [if_pos hz] at he;exact absurd he hz
theorem vU {q : Int} {t : Nat → Ent} : ∀ (rs : List Rec) {x : AS} {j : Nat}, Inv x → Kp x j → Sm x.M (cq q t x rs).1.M j
 | [], x, j, _, _ => .refl _ _
 | r :: rs, x, j, h, hj => by
  unfold cq;split
  ·exact vU rs h hj
  ·split
   ·exact EL h hj
   ·rename_i he;have he : (x.set r.id r.word r.val).2 = 0 := by simpa using he
    obtain ⟨h1, h2⟩ := J8 h he;exact (EL h hj).trans (vU rs h1 (h2 j hj))
theorem zT {q : Int} {t : Nat → Ent} : ∀ (rs : List Rec) {x : AS}, (cq q t x rs).1.M.n = x.M.n
 | [], x => rfl
 | r :: rs, x => by
  unfold cq;split
  ·exact zT rs
  ·split
   ·exact ID _ _ _
   ·rw [zT rs]; exact ID _ _ _
def gR (q : Int) (t : Nat → Ent) (i : Nat) : List Int → List Rec → List Int
 | l, [] => l
 | l, r :: rs => if r.seq ≤ q ∨ (t r.id.toNat).kind ≠ 1 ∨ r.id.toNat ≠ i then gR q t i l rs else gR q t i (l.set r.word.toNat r.val) rs
theorem Hg {x y : AS} {i w : Nat} {v : Int} (hS : xP x y i w v) (ho : x.own i = true ∨ x.own i = false) (hl : x.A.Ok) : x.A.left ≤ y.A.left + 1 := by
 rcases ho with ho | ho
 ·rw [(hS.same ho).1]; omega
 ·obtain ⟨k, k1, k2, k3, k4, k5⟩ := hS.more ho;rw [k5];unfold AF.left;have := AF.cnt_put (A := x.A) (k := k) (x := 1) (n := x.A.l - x.A.f) (i := x.A.f) (by omega) (by omega);have e : (x.A.put k 1).cnt (x.A.put k 1).f ((x.A.put k 1).l - (x.A.put k 1).f) = (x.A.put k 1).cnt x.A.f (x.A.l - x.A.f) := rfl;rw [e];simp only [show ¬ (1 : Int) = 0 by decide, if_false] at this;split at this <;> omega
theorem wg {q : Int} {t : Nat → Ent} : ∀ (rs : List Rec) {x : AS}, Inv x → x.M.On → (∀ r ∈ rs, r.ok = true) → (∀ i, i < 49 → (x.work i).kind = (t i).kind) → rs.length ≤ x.A.left →
 (cq q t x rs).2 = 0 ∧ Inv (cq q t x rs).1 ∧ (cq q t x rs).1.M.On ∧ (∀ i, i < 49 → ((cq q t x rs).1.work i).kind = (x.work i).kind ∧ ((cq q t x rs).1.work i).ver = (x.work i).ver) ∧
  ∀ i, i < 49 → (x.work i).kind ≠ 0 → (cq q t x rs).1.M.now ((cq q t x rs).1.work i).line.toNat = gR q t i (x.M.now (x.work i).line.toNat) rs
 | [], x, h, on, _, _, _ => ⟨rfl, h, on, fun _ _ => ⟨rfl, rfl⟩, fun _ _ _ => rfl⟩
 | r :: rs, x, h, on, hok, hk, hl => by
  have hr := Rec.ok_iff.1 (hok r List.mem_cons_self);have hok' : ∀ r ∈ rs, r.ok = true := fun a ha => hok a (List.mem_cons_of_mem _ ha);rw [List.length_cons] at hl;unfold cq;by_cases c : r.seq ≤ q ∨ (t r.id.toNat).kind ≠ 1
  ·rw [if_pos c];obtain ⟨g1, g2, g3, g4, g5⟩ := wg rs h on hok' hk (by omega);refine ⟨g1, g2, g3, g4, fun i hi hki => ?_⟩;rw [g5 i hi hki];simp only [gR];rw [if_pos (c.imp id .inl)]
  ·rw [if_neg c];obtain ⟨c1, c2⟩ := not_or.1 c;obtain ⟨idn, hid⟩ : ∃ k : Nat, r.id = k := ⟨r.id.toNat, by omega⟩;obtain ⟨w, hw⟩ : ∃ k : Nat, r.word = k := ⟨r.word.toNat, by omega⟩;have hi49 : idn < 49 := by omega
   have hkn : (x.work idn).kind ≠ 0 := by
    rw [hk idn hi49];rw [hid, Int.toNat_natCast] at c2;have : (t idn).kind = 1 := by simpa using c2
    omega
   rw [hid, hw];rcases Gk h on hi49 hkn (show w < 8 by omega) r.val with ⟨_, z, _⟩ | ⟨y, e, hS⟩
   ·omega
   ·rw [e, if_neg (by simp)];have hwk : ∀ i, (y.work i).kind = (x.work i).kind ∧ (y.work i).ver = (x.work i).ver := fun i => by
     by_cases e : i = idn
     ·subst e; exact hS.kv
     ·rw [hS.others i e]; exact ⟨rfl, rfl⟩
    have hlf := Hg hS (by cases x.own idn <;> simp) h.ok.A;obtain ⟨g1, g2, g3, g4, g5⟩ := wg rs (x := y) hS.inv hS.on hok' (fun i hi => (hwk i).1.trans (hk i hi)) (by omega);refine ⟨g1, g2, g3, fun i hi => ⟨(g4 i hi).1.trans (hwk i).1, (g4 i hi).2.trans (hwk i).2⟩, fun i hi hki => ?_⟩;rw [g5 i hi (by rw [(hwk i).1]; exact hki)];simp only [gR];by_cases ei : i = idn
    ·subst ei;rw [if_neg (by rw [hid, Int.toNat_natCast] at c2 ⊢; simp only [not_or]; exact ⟨c1, c2, fun h => h rfl⟩), hS.now, hw, Int.toNat_natCast]
    ·rw [if_pos (.inr (.inr (by rw [hid, Int.toNat_natCast]; exact Ne.symm ei))), hS.others i ei];congr 1;obtain ⟨p, hp, hp1, _, hp3⟩ := h.ln hi hki;rw [hp, Int.toNat_natCast];refine hS.rest p fun e2 => ?_;cases ho : x.own idn with
     | true =>
      rw [(hS.same ho).2] at e2;obtain ⟨p2, hp2, _⟩ := h.ln hi49 hkn;have := h.di idn i hi49 hi (Ne.symm ei) hkn hki (by rw [hp2] at e2; rw [hp2, hp]; omega);rw [ho] at this; cases this
     | false =>
      obtain ⟨k, k1, k2, k3, k4, _⟩ := hS.more ho;rw [k4, Int.toNat_natCast] at e2;subst e2;rw [k3] at hp3; cases hp3
end Go.Proofs.YtilcajpldklbiaaDoor
namespace Go.Proofs.YtilcajpldklbiaaDoor
open Go.Ab
theorem GB {M : AM} (ok : M.Ok) (on : M.On) {core a : Nat} (hc : core < 8) (ha : a < M.n) {l : List Int} (hl : l.length = 8) :
 ∃ M', (M.store a 7 0).2 = 0 ∧ ((M.store a 7 0).1.layFrom a l 0 8).2 = 0 ∧ (((M.store a 7 0).1.layFrom a l 0 8).1.flush core a).2 = 0 ∧ (((M.store a 7 0).1.layFrom a l 0 8).1.flush core a).1.fence core = (M', 0) ∧
  M'.Ok ∧ M'.On ∧ M'.n = M.n ∧ Sur M' a ∧ M'.S a = l ∧ (∀ j, j ≠ a → Sur M j → Sm M M' j) ∧ M'.count ≤ M.count + 11 := by
 obtain ⟨e1, e2, e3⟩ := nk on (i := a) (q := 7) ha (by decide) 0;have e1 : (M.store (a : Int) 7 0).2 = 0 := e1;have e2 : (M.store (a : Int) 7 0).1.On := e2;have n1 : (M.store (a : Int) 7 0).1.n = M.n := AM.store_n;have ok1 : (M.store (a : Int) 7 0).1.Ok := ok.store;have s1 : ∀ j, j ≠ a → Sm M (M.store (a : Int) 7 0).1 j := fun j hj => kQ (by rw [Int.toNat_natCast]; exact hj);have c1 := AM.store_count (M := M) (i := (a : Int)) (q := 7) (v := 0);generalize (M.store (a : Int) 7 0) = r1 at *;obtain ⟨f1, f2, f3⟩ := ml hl 8 0 e2 (by rw [n1]; exact ha) rfl (r1.1.now a) (ok1.now8 (by rw [n1]; exact ha)) (by simp [mI]);have n2 : (r1.1.layFrom (a : Int) l 0 8).1.n = r1.1.n := AM.layFrom_n;have ok2 : (r1.1.layFrom (a : Int) l 0 8).1.Ok := ok1.layFrom;have s2 : ∀ j, j ≠ a → Sm r1.1 (r1.1.layFrom (a : Int) l 0 8).1 j := fun j hj => iJ (by rw [Int.toNat_natCast]; exact hj) 8 0 r1.1;have c2 := AM.layFrom_count (M := r1.1) (at' := (a : Int)) (l := l) (n := 8) (j := 0);generalize (r1.1.layFrom (a : Int) l 0 8) = r2 at *;have hfl : r2.1.flush core a = (r2.1.stepped.flushed core a, 0) := by
  unfold AM.flush;rw [if_neg (by omega), if_neg (by rw [f2.dead]; decide)];rfl
 have on3 : (r2.1.stepped.flushed core a).On := ⟨(fd f2).off, (fd f2).left⟩;have ok3 : (r2.1.stepped.flushed core a).Ok := ok2.stepped.flushed _ _;have n3 : (r2.1.stepped.flushed core a).n = r2.1.n := rfl;have s3 : ∀ j, j ≠ a → Sm r2.1 (r2.1.stepped.flushed core a) j := fun j hj => ⟨by simp only [AM.flushed]; rw [an hj]; rfl, rfl⟩;have fl3 : flN core ((r2.1.stepped.flushed core a).L a) = ((r2.1.stepped.flushed core a).L a).length := by
  unfold AM.flushed;simp only [aj, uu, List.length_map]
 have now3 : (r2.1.stepped.flushed core a).now a = l := by
  rw [AM.now_flushed];have := f3 a;rw [if_pos rfl] at this;exact this
 have c3 : (r2.1.stepped.flushed core a).count = r2.1.count + 1 := rfl;rw [hfl];generalize (r2.1.stepped.flushed core a) = M3 at *;have hfe : M3.fence core = (M3.stepped.fencedTo core M3.n, 0) := by
  unfold AM.fence;rw [if_neg (by omega), if_neg (by rw [on3.dead]; decide)];rfl
 obtain ⟨g1, g2, g3, g4⟩ := bH (M := M3.stepped) (c := core) M3.n;obtain ⟨h1, h2⟩ := kW (M := M3.stepped) (c := core) (j := a) M3.n (by omega);have hLs : M3.stepped.L a = M3.L a := rfl;have hSs : M3.stepped.S a = M3.S a := rfl;rw [hLs, fl3, List.drop_length] at h1;rw [hLs, fl3, List.take_length, hSs] at h2;refine ⟨_, e1, f1, rfl, hfe, lh ok3.stepped _, ⟨g3.trans (fd on3).off, g4.trans (fd on3).left⟩, g1.trans (by show M3.n = _; omega), h1, h2.trans now3, fun j hj hs => ?_, ?_⟩
 ·have t1 := (s1 j hj).trans ((s2 j hj).trans (s3 j hj));have t2 : Sur M3.stepped j := t1.sur hs;exact t1.trans (Sm.trans (M' := M3.stepped) ⟨rfl, rfl⟩ (uQ t2))
 ·rw [g2];show M3.count + 1 ≤ _;omega
theorem Im.add {c : Nat} {M : AM} {b : Sup} {t : Nat → Ent} {d : Nat → Int} {ct : Nat → List Int} (h : Im c M b t d ct) (on : M.On) {core : Nat} (hcore : core < c) (seq : Int) {r : Rec} (hr : r.ok = true) (hf : bp M seq (2 + 4 * core) 4 ≠ 0) :
 (M.addRec core seq r).2 = 0 ∧ (M.addRec core seq r).1.On ∧ Im c (M.addRec core seq r).1 b t d ct ∧ (M.addRec core seq r).1.n = M.n ∧ (M.addRec core seq r).1.count ≤ M.count + 11 ∧
  ∀ j, 2 ≤ j → j < 2 + 4 * c → (M.addRec core seq r).1.now j = if j = bp M seq (2 + 4 * core) 4 then aX r else M.now j := by
 have hc := h.c1;have ha := (w5 M seq 4 (2 + 4 * core)).resolve_left hf;generalize hat : bp M seq (2 + 4 * core) 4 = a at *;have han : a < M.n := by have := h.ok.n0; omega
 obtain ⟨M', e1, e2, e3, e4, ok, on', hn, su, hS, hsm, hcn⟩ := GB h.ok on (core := core) (a := a) (by omega) han (sY r);have hadd : M.addRec core seq r = (M', 0) := by
  unfold AM.addRec;simp only;rw [hat, if_neg hf, if_neg (by rw [hr]; simp), if_neg (by rw [e1]; simp), if_neg (by rw [e2]; simp), if_neg (by rw [e3]; simp), e4]
 rw [hadd];have hla : Ln c t d a := .inl (by omega);have hne : ∀ q : Nat, 2 + 4 * c ≤ q → q ≠ a := fun q hq => by omega
 refine ⟨rfl, on', ?_, hn, hcn, fun j h1 h2 => ?_⟩
 ·have sm : ∀ j, j ≠ a → Ln c t d j → Sm M M' j := fun j hj hl => hsm j hj (h.sur j hl);refine ⟨ok, h.c1, h.bk, h.bc, (sm 0 (by omega) (.inl (by omega))).S.trans h.s0, by rw [(sm 1 (by omega) (.inl (by omega))).S]; exact h.s1, fun j hj => ?_, ?_, h.rt, fun i hi hk q hq => ?_⟩
  ·by_cases e : j = a
   ·subst e; exact su
   ·exact (sm j e hj).sur (h.sur j hj)
  ·rw [hn];exact h.lay.sm fun j hj hs => hsm j (hne j hj) hs
  ·obtain ⟨q', q1, q2, q3, q4⟩ := h.lay.ln i hi hk;have : q' = q := by omega
   subst this;rw [(hsm q' (hne q' q2) q4).S];exact h.ct i hi hk q' hq
 ·by_cases e : j = a
  ·subst e; rw [if_pos rfl, su.now, hS]
  ·rw [if_neg e];exact (hsm j e (h.sur j (.inl h2))).now
theorem rk {r : Rec} (h : r.ok = true) (hv : 0 ≤ r.val ∧ r.val < 18446744073709551616) : iG (aX r) = true ∧ cf (aX r) = r := by
 have hr := Rec.ok_iff.1 h;have hL : aX r = a8 (pd r) := by unfold aX; rw [if_pos h]
 have hw : ∀ x : Int, 0 ≤ x → x ≤ 1099511627776 → IntKind.i64.wrap (IntKind.u64.wrap x) = x := fun x h0 h1 => by
  have e : IntKind.u64.wrap x = x := gz (by omega) (by omega);rw [e]; exact ai (by omega) (by omega)
 have hg : cf (aX r) = r := by
  unfold cf;rw [hL, dU (by decide), dU (by decide), dU (by decide), dU (by decide)];obtain ⟨q, i, w, v⟩ := r;simp only [pd, List.getD_cons_succ, List.getD_cons_zero] at hr ⊢;rw [hw q (by omega) (by omega), hw i (by omega) (by omega), hw w (by omega) (by omega)]
 refine ⟨?_, hg⟩;unfold iG;rw [hg, h];simp
end Go.Proofs.YtilcajpldklbiaaDoor
namespace Go.Proofs.YtilcajpldklbiaaDoor
open Go.Ab
def W64 (x : Int) : Prop := 0 ≤ x ∧ x < 18446744073709551616
structure AM.Rg (M : AM) : Prop where
 s : ∀ j, ∀ x ∈ M.S j, W64 x
 l : ∀ j, ∀ d ∈ M.L j, W64 d.v
theorem xe {x : List Int} {l : List Dn} (hx : ∀ y ∈ x, W64 y) (hl : ∀ d ∈ l, W64 d.v) : ∀ y ∈ ak x l, W64 y := by
 induction l generalizing x with
 | nil => exact hx
 | cons d l ih =>
  intro y hy;refine ih (x := x.set d.w d.v) (fun z hz => ?_) (fun e he => hl e (List.mem_cons_of_mem _ he)) y hy;rcases List.mem_or_eq_of_mem_set hz with h | h
  ·exact hx z h
  ·rw [h]; exact hl d List.mem_cons_self
theorem AM.Rg.rn {M : AM} (h : M.Rg) : M.Rn := fun j => xe (h.s j) (h.l j)
theorem AM.Rg.store {M : AM} (h : M.Rg) {i q v : Int} (hv : W64 v) : (M.store i q v).1.Rg := by
 unfold AM.store;split
 ·exact h
 ·split
  ·exact ⟨h.s, h.l⟩
  ·refine ⟨h.s, fun j d hd => ?_⟩;simp only [AM.push] at hd;by_cases e : j = i.toNat
   ·subst e;rw [aj] at hd;rcases List.mem_append.1 hd with hd | hd
    ·exact h.l _ d hd
    ·rw [List.mem_singleton.1 hd]; exact hv
   ·rw [an e] at hd;exact h.l j d hd
theorem AM.Rg.layFrom {at' : Int} {l : List Int} (hl : ∀ x ∈ l, W64 x) : ∀ (n j : Nat) {M : AM}, M.Rg → (M.layFrom at' l j n).1.Rg
 | 0, _, _, h => h
 | n + 1, j, M, h => by
  have hv : W64 (l.getD j 0) := by
   rw [List.getD_eq_getElem?_getD];cases e : l[j]? with
   | none => exact ⟨by decide, by decide⟩
   | some x => exact hl x (List.mem_of_getElem? e)
  simp only [AM.layFrom];split
  ·exact h.store hv
  ·exact AM.Rg.layFrom hl n (j + 1) (h.store hv)
theorem AM.Rg.flush {M : AM} (h : M.Rg) {c i : Int} : (M.flush c i).1.Rg := by
 unfold AM.flush;split
 ·exact h
 ·split
  ·exact ⟨h.s, h.l⟩
  ·refine ⟨h.s, fun j d hd => ?_⟩;simp only [AM.flushed, AM.stepped] at hd;by_cases e : j = i.toNat
   ·subst e;rw [aj] at hd;obtain ⟨d', h1, rfl⟩ := List.mem_map.1 hd;exact h.l _ d' h1
   ·rw [an e] at hd;exact h.l j d hd
theorem AM.Rg.sureN {M : AM} (h : M.Rg) {i n : Nat} : (M.sureN i n).Rg := by
 refine ⟨fun j x hx => ?_, fun j d hd => ?_⟩
 ·simp only [AM.sureN] at hx;by_cases e : j = i
  ·subst e;rw [aj] at hx;exact xe (h.s j) (fun d hd => h.l j d (List.mem_of_mem_take hd)) x hx
  ·rw [an e] at hx; exact h.s j x hx
 ·simp only [AM.sureN] at hd;by_cases e : j = i
  ·subst e;rw [aj] at hd;exact h.l j d (List.mem_of_mem_drop hd)
  ·rw [an e] at hd; exact h.l j d hd
theorem AM.Rg.fencedTo {c : Nat} : ∀ i {M : AM}, M.Rg → (M.fencedTo c i).Rg
 | 0, _, h => h
 | i + 1, _, h => (AM.Rg.fencedTo i h).sureN
theorem AM.Rg.fence {M : AM} (h : M.Rg) {c : Int} : (M.fence c).1.Rg := by
 unfold AM.fence;split
 ·exact h
 ·split
  ·exact ⟨h.s, h.l⟩
  ·exact AM.Rg.fencedTo (M := M.stepped) _ ⟨h.s, h.l⟩
theorem AM.Rg.wrs {M : AM} (h : M.Rg) {s : Int} {b : Sup} (hb : ∀ x ∈ aQ b, W64 x) : (M.wrs s b).1.Rg := by
 have h0 : W64 0 := ⟨by decide, by decide⟩;unfold AM.wrs;split
 ·exact h
 ·split
  ·exact h.store h0
  ·simp only;split
   ·exact AM.Rg.layFrom hb 8 0 (h.store h0)
   ·split
    ·exact (AM.Rg.layFrom hb 8 0 (h.store h0)).flush
    ·exact (AM.Rg.layFrom hb 8 0 (h.store h0)).flush.fence
theorem AM.Rg.crashN {n : Nat} : ∀ i {M : AM} {ks : List Int}, M.Rg → (M.crashN ks i n).Rg := by
 induction n with
 | zero => intro i M ks h; exact h
 | succ n ih =>
  intro i M ks h;unfold AM.crashN;split
  ·exact ih _ h
  ·refine ih _ ?_;have h1 := h.sureN (i := i) (n := ((nxK ks).1 % (((M.L i).length : Int) + 1)).toNat);refine ⟨h1.s, fun j d hd => ?_⟩;simp only [AM.cleared] at hd;by_cases e : j = i
   ·subst e; rw [aj] at hd; cases hd
   ·rw [an e] at hd; exact h1.l j d hd
theorem AM.Rg.crash {M : AM} (h : M.Rg) (ks : List Int) : (M.crash ks).Rg := by
 have := AM.Rg.crashN (n := M.n) (ks := ks) 0 h;exact ⟨this.s, this.l⟩
theorem AM.Rg.fuse {M : AM} (h : M.Rg) (k : Int) : (M.fuse k).Rg := ⟨h.s, h.l⟩
theorem AM.Rg.put8 {M : AM} (h : M.Rg) {at' : Int} {l : List Int} (hl : ∀ x ∈ l, W64 x) : (M.put8 at' l).1.Rg := by
 unfold AM.put8;split
 ·exact AM.Rg.layFrom hl 8 0 h
 ·exact (AM.Rg.layFrom hl 8 0 h).flush
theorem Nm {s : AM × Int} {f : AM → AM × Int} (h : s.1.Rg) (hf : s.1.Rg → (f s.1).1.Rg) : (AM.go s f).1.Rg := by
 unfold AM.go;split
 ·exact hf h
 ·exact h
theorem lL (x : Int) : W64 (IntKind.u64.wrap x) := by
 obtain ⟨n, h1, h2⟩ := By x;rw [h1]; exact ⟨by omega, by omega⟩
theorem IJ (a b : Int) : W64 (ior .u64 a b) := by
 unfold ior;exact lL _
theorem rQ {l : List Int} (h : ∀ x ∈ l, W64 x) : ∀ x ∈ a8 l, W64 x := fun x hx => by
 rcases List.mem_or_eq_of_mem_set hx with hx | hx
 ·exact h x hx
 ·rw [hx]; have := oc l; exact ⟨by omega, by omega⟩
theorem sW : ∀ x ∈ zl, W64 x := fun x hx => by
 have : x = 0 := List.eq_of_mem_replicate (n := 8) (show x ∈ List.replicate 8 (0 : Int) from hx)
 rw [this]; exact ⟨by decide, by decide⟩
theorem LA (b : Sup) : ∀ x ∈ aQ b, W64 x := by
 unfold aQ;split
 ·refine rQ fun x hx => ?_;unfold jM at hx;simp only [List.mem_cons, List.not_mem_nil, or_false] at hx;rcases hx with rfl | rfl | rfl | rfl | rfl | rfl | rfl | rfl
  ·exact ⟨by decide, by decide⟩
  ·exact lL _
  ·exact lL _
  ·exact lL _
  ·exact lL _
  ·exact ⟨by decide, by decide⟩
  ·exact ⟨by decide, by decide⟩
  ·exact ⟨by decide, by decide⟩
 ·exact sW
theorem Ga {r : Rec} (hv : W64 r.val) : ∀ x ∈ aX r, W64 x := by
 unfold aX;split
 ·refine rQ fun x hx => ?_;unfold pd at hx;simp only [List.mem_cons, List.not_mem_nil, or_false] at hx;rcases hx with rfl | rfl | rfl | rfl | rfl | rfl | rfl | rfl
  ·exact ⟨by decide, by decide⟩
  ·exact lL _
  ·exact lL _
  ·exact lL _
  ·exact hv
  ·exact ⟨by decide, by decide⟩
  ·exact ⟨by decide, by decide⟩
  ·exact ⟨by decide, by decide⟩
 ·exact sW
theorem I6 (t : Nat → Ent) (k : Nat) : ∀ x ∈ bj t k, W64 x := by
 unfold bj;split
 ·refine rQ fun x hx => ?_;unfold lfL at hx;obtain ⟨j, _, rfl⟩ := List.mem_map.1 hx;split
  ·unfold jY; exact IJ _ _
  ·exact ⟨by decide, by decide⟩
 ·exact sW
theorem KY (d : Nat → Int) : ∀ x ∈ aL d, W64 x := by
 unfold aL;split
 ·refine rQ fun x hx => ?_;unfold rlL at hx;obtain ⟨j, _, rfl⟩ := List.mem_map.1 hx;split
  ·exact IJ _ _
  ·exact ⟨by decide, by decide⟩
 ·exact sW
theorem wc {M : AM} {c : Int} : (M.fence c).1.count ≤ M.count + 1 := by
 unfold AM.fence;split
 ·simp only; omega
 ·split
  ·simp only [AM.out]; omega
  ·simp only; rw [(bH _).2.1]; simp only [AM.stepped]; omega
theorem MG {M : AM} {s : Int} {b : Sup} : (M.wrs s b).1.count ≤ M.count + 11 := by
 have h1 := AM.store_count (M := M) (i := s) (q := 7) (v := 0);have h2 := AM.layFrom_count (M := (M.store s 7 0).1) (at' := s) (l := aQ b) (n := 8) (j := 0);have h3 := (bi (M := ((M.store s 7 0).1.layFrom s (aQ b) 0 8).1) (c := 0) (i := s)).1;have h4 := wc (M := (((M.store s 7 0).1.layFrom s (aQ b) 0 8).1.flush 0 s).1) (c := 0);unfold AM.wrs;simp only;split
 ·simp only; omega
 ·split
  ·omega
  ·split
   ·omega
   ·split <;> omega
structure FmR (N : Nat) (k : Int) (s : AM × Int) : Prop where
 rg : s.1.Rg
 n : s.1.n = N
 c : s.1.count ≤ k
theorem FmR.go {N : Nat} {k : Int} {s : AM × Int} {f : AM → AM × Int} {m : Nat} (h : FmR N k s) (h1 : s.1.Rg → (f s.1).1.Rg) (h2 : (f s.1).1.n = s.1.n) (h3 : (f s.1).1.count ≤ s.1.count + m) : FmR N (k + m) (AM.go s f) := by
 have hc := iv (s := s) (f := f) (k := m) h3;have := h.c;refine ⟨Nm h.rg h1, ?_, by omega⟩;unfold AM.go;split
 ·exact h2.trans h.n
 ·exact h.n
theorem FmR.put {N : Nat} {k : Int} {s : AM × Int} (h : FmR N k s) {at' : Int} {l : List Int} (hl : ∀ x ∈ l, W64 x) : FmR N (k + (9 : Nat)) (AM.go s fun M => M.put8 at' l) :=
 h.go (f := fun M => M.put8 at' l) (fun h => h.put8 hl) (by
  simp only [AM.put8];split
  ·exact AM.layFrom_n
  ·exact bi.2.trans AM.layFrom_n) (by have := mc (M := s.1) (at' := at') (l := l); omega)
theorem Fa {N : Nat} : ∀ (n i : Nat) {k : Int} {s : AM × Int}, FmR N k s → FmR N (k + 2 * n) (AM.wipe s i n)
 | 0, i, k, s, h => ⟨h.rg, h.n, by have := h.c; simp only [AM.wipe]; omega⟩
 | n + 1, i, k, s, h => by
  rw [AM.wipe];have h1 := h.go (f := fun M => M.store i 7 0) (m := 1) (fun h => h.store ⟨by decide, by decide⟩) AM.store_n (by have := AM.store_count (M := s.1) (i := (i : Int)) (q := 7) (v := 0); omega);have h2 := h1.go (f := fun M => M.flush 0 i) (m := 1) (fun h => h.flush) bi.2 (by have := (bi (M := (AM.go s fun M => M.store i 7 0).1) (c := 0) (i := (i : Int))).1; omega);have h3 := Fa n (i + 1) h2;exact ⟨h3.rg, h3.n, by have := h3.c; omega⟩
theorem zu {N : Nat} : ∀ (l : List Obj) {k : Int} {s : AM × Int} {a : Nat} {t : Nat → Ent} {i : Nat}, (∀ o ∈ l, ∀ x ∈ o.l, W64 x) → FmR N k s → FmR N (k + 9 * l.length) (eo s a t i l).1
 | [], k, s, a, t, i, _, h => ⟨h.rg, h.n, by have := h.c; simp only [eo, List.length_nil]; omega⟩
 | o :: l, k, s, a, t, i, hl, h => by
  have hl' := fun o' ho => hl o' (List.mem_cons_of_mem _ ho);simp only [eo];split
  ·have h3 := zu l (a := a) (t := updE t i ⟨o.kind, o.ver, 0⟩) (i := i + 1) hl' h;exact ⟨h3.rg, h3.n, by have := h3.c; rw [List.length_cons]; omega⟩
  ·have h3 := zu l (a := a + 1) (t := updE t i ⟨o.kind, o.ver, a⟩) (i := i + 1) hl' (h.put (at' := a) (l := o.l) (hl o List.mem_cons_self));exact ⟨h3.rg, h3.n, by have := h3.c; rw [List.length_cons]; omega⟩
theorem EY {N : Nat} (t : Nat → Ent) : ∀ (n k' : Nat) {k : Int} {s : AM × Int} {a : Nat}, FmR N k s → FmR N (k + 9 * n) (iP t s a k' n)
 | 0, k', k, s, a, h => ⟨h.rg, h.n, by have := h.c; simp only [iP]; omega⟩
 | n + 1, k', k, s, a, h => by
  simp only [iP];have h3 := EY t n (k' + 1) (a := a + 1) (h.put (at' := a) (l := bj t k') (I6 t k'));exact ⟨h3.rg, h3.n, by have := h3.c; omega⟩
theorem IT {M : AM} (h : M.Rg) (cores : Int) {l : List Obj} (hl : ∀ o ∈ l, ∀ x ∈ o.l, W64 x) : (M.fmt cores l).1.Rg ∧ (M.fmt cores l).1.n = M.n ∧ (M.fmt cores l).1.count ≤ M.count + 700 := by
 unfold AM.fmt;split
 ·exact ⟨h, rfl, by simp only; omega⟩
 ·rename_i hc;split
  ·exact ⟨h, rfl, by simp only; omega⟩
  ·have h0 : FmR M.n M.count (M, 0) := ⟨h, rfl, Int.le_refl _⟩;have hc2 : l.length ≤ 49 ∧ cores ≤ 8 := by
    simp only [not_or] at hc;omega
   unfold uy;simp only;have h1 := Fa (2 + 4 * cores.toNat) 0 h0;have h2 := h1.go (f := fun M => M.fence 0) (m := 1) (fun h => h.fence) (by
    simp only [AM.fence];split
    ·rfl
    ·split
     ·rfl
     ·exact (bH _).1) (by have := wc (M := (AM.wipe (M, 0) 0 (2 + 4 * cores.toNat)).1) (c := 0); omega)
   have h3 := zu l (a := 2 + 4 * cores.toNat) (t := fun _ => aw) (i := 0) hl h2;generalize eo _ (2 + 4 * cores.toNat) (fun _ => aw) 0 l = r at *;obtain ⟨s3, a3, t⟩ := r;simp only at h3 ⊢;have h4 := EY t 7 0 (a := a3) h3;have h5 := h4.put (at' := (a3 + 7 : Nat)) (l := aL fun j => (a3 : Int) + j) (KY _);have h6 := h5.go (f := fun M => M.fence 0) (m := 1) (fun h => h.fence) (by
    simp only [AM.fence];split
    ·rfl
    ·split
     ·rfl
     ·exact (bH _).1) (by have := wc (M := (AM.go (iP t s3 a3 0 7) fun M => M.put8 (a3 + 7 : Nat) (aL fun j => (a3 : Int) + j)).1) (c := 0); omega)
   have h7 := h6.go (f := fun M => M.wrs 0 ⟨1, (a3 + 7 : Nat), 0, cores⟩) (m := 11) (fun h => h.wrs (LA _)) Nq (by have := MG (M := (AM.go (AM.go (iP t s3 a3 0 7) fun M => M.put8 (a3 + 7 : Nat) (aL fun j => (a3 : Int) + j)) fun M => M.fence 0).1) (s := 0) (b := ⟨1, (a3 + 7 : Nat), 0, cores⟩); omega);exact ⟨h7.rg, h7.n, by have := h7.c; omega⟩
theorem pT {q : Int} {t : Nat → Ent} : ∀ (rs : List Rec) {x : AS}, (cq q t x rs).1.M.count ≤ x.M.count + 8 * rs.length
 | [], x => by simp only [cq, List.length_nil]; omega
 | r :: rs, x => by
  have h1 := AS.set_count (x := x) r.id r.word r.val;have h2 := pT (q := q) (t := t) rs (x := x);have h3 := pT (q := q) (t := t) rs (x := (x.set r.id r.word r.val).1);rw [List.length_cons];unfold cq;split
  ·omega
  ·split
   ·omega
   ·omega
end Go.Proofs.YtilcajpldklbiaaDoor
namespace Go.Proofs.YtilcajpldklbiaaDoor
open Go.Ab
theorem LS {M : AM} (h : M.Rg) (i : Int) : ∀ x ∈ (M.load i).1, W64 x := by
 unfold AM.load;split
 ·exact sW
 ·split
  ·exact sW
  ·exact h.rn _
theorem E4 {x : AS} (h : x.M.Rg) {id word v : Int} (hv : W64 v) : (x.set id word v).1.M.Rg := by
 have hl : ∀ l : List Int, (∀ y ∈ l, W64 y) → (x.lay l).1.M.Rg := fun l hl => by
  unfold AS.lay;split
  ·exact h
  ·exact AM.Rg.layFrom hl 8 0 h
 have hs : ∀ y ∈ (x.M.load (x.work id.toNat).line).1.set word.toNat v, W64 y := fun y hy => by
  rcases List.mem_or_eq_of_mem_set hy with hy | hy
  ·exact LS h _ y hy
  ·rw [hy]; exact hv
 unfold AS.set;split
 ·exact h
 ·split
  ·exact h
  ·split
   ·exact h.store hv
   ·split
    ·exact h
    ·split
     ·exact h
     ·simp only;split
      ·exact hl _ hs
      ·exact hl _ hs
theorem wC {q : Int} {t : Nat → Ent} : ∀ (rs : List Rec) {x : AS}, x.M.Rg → (∀ r ∈ rs, W64 r.val) → (cq q t x rs).1.M.Rg
 | [], _, h, _ => h
 | r :: rs, x, h, hv => by
  have hv' : ∀ a ∈ rs, W64 a.val := fun a ha => hv a (List.mem_cons_of_mem _ ha);unfold cq;split
  ·exact wC rs h hv'
  ·split
   ·exact E4 h (hv r List.mem_cons_self)
   ·exact wC rs (E4 h (hv r List.mem_cons_self)) hv'
theorem DS {M : AM} (h : M.Rg) : ∀ n i, ∀ r ∈ aE M i n, W64 r.val
 | 0, _, r, hr => by cases hr
 | n + 1, i, r, hr => by
  unfold aE at hr;rcases List.mem_append.1 hr with hr | hr
  ·split at hr
   ·rw [List.mem_singleton.1 hr];show W64 ((M.now i).getD 4 0);rw [List.getD_eq_getElem?_getD];cases e : (M.now i)[4]? with
    | none => exact ⟨by decide, by decide⟩
    | some x => exact h.rn i x (List.mem_of_getElem? e)
   ·cases hr
  ·exact DS h n (i + 1) r hr
theorem rL {M M' : AM} : ∀ n i, (∀ j, i ≤ j → j < i + n → M'.now j = M.now j) → aE M' i n = aE M i n
 | 0, _, _ => rfl
 | n + 1, i, h => by
  unfold aE;rw [h i (Nat.le_refl _) (by omega), rL n (i + 1) fun j h1 h2 => h j (by omega) (by omega)]
def uG (t : Nat → Ent) (ct : Nat → List Int) (i : Nat) : Obj × Int := if (t i).kind = 0 then (⟨0, 0, zl⟩, 30) else (⟨(t i).kind, (t i).ver, ct i⟩, 0)
theorem zR {x : AS} (h : Inv x) (on : x.M.On) {t : Nat → Ent} {ct : Nat → List Int} {i : Nat} (hi : i < 49) (hk : (x.work i).kind = (t i).kind ∧ (x.work i).ver = (t i).ver) (hc : (t i).kind ≠ 0 → x.M.now (x.work i).line.toNat = ct i) : x.get i = uG t ct i := by
 unfold AS.get uG gE;rw [Int.toNat_natCast];by_cases hz : (t i).kind = 0
 ·rw [if_pos hz, if_neg (show ¬ ((i : Int) < 0 ∨ 49 ≤ (i : Int)) by omega), if_pos (hk.1.trans hz), if_pos (by decide)]
 ·have hz' : (x.work i).kind ≠ 0 := by rw [hk.1]; exact hz
  obtain ⟨q, hq, _, hq2, _⟩ := h.ln hi hz';rw [if_neg hz, if_neg (show ¬ ((i : Int) < 0 ∨ 49 ≤ (i : Int)) by omega), if_neg hz', if_neg (by decide), hq, Cg on hq2, if_neg (by show ¬ (0 : Int) ≠ 0; decide)];have := hc hz;rw [hq, Int.toNat_natCast] at this;rw [this, hk.1, hk.2]
section
variable {c m : Nat} {M : AM} {b : Sup} {t : Nat → Ent} {d : Nat → Int} {ct : Nat → List Int} {hp : List Blk} {F : Ft}
theorem Im.recs (h : Im c M b t d ct) : M.recs b = cC (aE M 2 (4 * c)) := by
 unfold AM.recs;rw [h.bc, Int.toNat_natCast]
theorem Im.stable (h : Im c M b t d ct) (off : M.off = false) (hl : (aE M 2 (4 * c)).length < 20) : ∀ n, n ≤ 32 → (M.off = false → (aE M 2 (4 * (bl (M.now 0) (M.now 1)).1.cores.toNat)).length = n) → mQ n := fun n _ hh => by
 have hc := h.c1;have sur0 := h.sur 0 (.inl (by omega));have sur1 := h.sur 1 (.inl (by omega));have n0 : M.now 0 = aQ b := sur0.now.trans h.s0;have n1 : dh (M.now 1) = false := by rw [sur1.now]; exact h.s1
 have hbest : bl (M.now 0) (M.now 1) = (b, 0, true) := by
  obtain ⟨h1, h2⟩ := wV h.bk;rw [n0];unfold bl bst;simp only [n1, Bool.false_eq_true, false_and, if_false, h1, h2, true_and, true_or, if_true]
 have := hh off;rw [hbest] at this;simp only at this;rw [h.bc, Int.toNat_natCast] at this;exact @oH n (by omega)
theorem Im.booted (h : Im c M b t d ct) {A : AF} (hB : BtS c M b t d A) (rg : M.Rg) (ok' : (M.booted b A).1.M.Ok) : Im c (M.booted b A).1.M b t d ct ∧ (M.booted b A).1.M.n = M.n ∧ (M.booted b A).1.M.Rg ∧ (M.booted b A).1.M.count ≤ M.count + 8 * (4 * c) ∧ ∀ j, j < 2 + 4 * c → (M.booted b A).1.M.now j = M.now j := by
 have hsm : ∀ j, Ln c t d j → Sm M (M.booted b A).1.M j := fun j hj => vU (M.recs b) hB.inv (hB.kp j hj);have hn : (M.booted b A).1.M.n = M.n := zT (M.recs b);refine ⟨h.sm ok' hn hsm, hn, wC (M.recs b) rg ?_, ?_, fun j hj => (hsm j (.inl hj)).now⟩
 ·rw [h.recs];exact fun r hr => DS rg _ _ r (lQ.1 hr)
 ·have h1 := pT (q := b.seq) (t := ldT M (M.now b.root.toNat)) (M.recs b) (x := M.st0 b A);have h2 : (M.recs b).length ≤ 4 * c := by rw [h.recs, lP]; exact pi M _ _
  have h3 : (M.st0 b A).M.count = M.count := rfl;unfold AM.booted;omega
theorem GR (h : ay hp F m M) (im : Im c M b t d ct) (off : M.off = false) (hG : hp[0]? = some (.ro bU)) (hz : ¬ F 0) (rg : M.Rg) (hl : (aE M 2 (4 * c)).length < 20) (hc : M.count + 400 < 1000000) (L : List Blk) :
 ∃ hp' F' M' v e, rf D dv [.ptr (.hp m) [] 59] ⟨L, hp⟩ = some (.tup [v, .int .i64 e], ⟨L, hp'⟩) ∧ ay hp' F' m M' ∧ Chg hp hp' F F' ∧ Im c M' b t d ct ∧ M'.n = M.n ∧ M'.Rg ∧ M'.count ≤ M.count + 8 * (4 * c) ∧ ∀ j, j < 2 + 4 * c → M'.now j = M.now j := by
 obtain ⟨A, hbt, hB⟩ := im.boot off;rcases wB h hG hz rg.rn (im.stable off hl) hc L with ⟨e, _⟩ | ⟨b', slot, A', hp', Fm', a, fr, e, hW, hch, hr⟩
 ·rw [hbt] at e; cases e
 ·rw [hbt] at e;simp only [Prod.mk.injEq, Option.some.injEq, and_true] at e;obtain ⟨rfl, rfl, rfl⟩ := e;obtain ⟨i1, i2, i3, i4, i5⟩ := im.booted hB rg hW.mp.ok;have hch' : Chg hp hp' F Fm' := hch.mono (fun _ h => h) fun j hj => .inl (.inr (.inr hj));by_cases z : (M.booted b A).2 = 0
  ·rw [if_pos z] at hr;exact ⟨hp', Fm', _, _, _, hr, hW.mp, hch', i1, i2, i3, i4, i5⟩
  ·rw [if_neg z] at hr;exact ⟨hp', Fm', _, _, _, hr, hW.mp, hch', i1, i2, i3, i4, i5⟩
theorem rS (h : ay hp F m M) (im : Im c M b t d ct) (on : M.On) (hG : hp[0]? = some (.ro bU)) (hz : ¬ F 0) (rg : M.Rg) (hl : (aE M 2 (4 * c)).length < 20) (hleft : 2 + 4 * c + 57 + (aE M 2 (4 * c)).length ≤ M.n) (hc : M.count + 400 < 1000000) (L : List Blk) :
 ∃ hp' Fm' a fr x', rf D dv [.ptr (.hp m) [] 59] ⟨L, hp⟩ = some (.tup [iN (.ptr (.hp a) [] 43) b.v 0 (fL b.seq (cC (aE M 2 (4 * c))) + 1), .int .i64 0], ⟨L, hp'⟩) ∧ bE hp' Fm' a m fr x' ∧ Chg hp hp' F (ez a fr Fm') ∧
  x'.M.On ∧ Im c x'.M b t d ct ∧ x'.M.n = M.n ∧ x'.M.Rg ∧ x'.M.count ≤ M.count + 8 * (4 * c) ∧ (∀ j, j < 2 + 4 * c → x'.M.now j = M.now j) ∧ Inv x' ∧ (∀ i, i < 49 → (x'.work i).kind = (t i).kind ∧ (x'.work i).ver = (t i).ver) ∧
  (∀ i, i < 49 → (t i).kind ≠ 0 → x'.M.now (x'.work i).line.toNat = gR b.seq t i (ct i) (cC (aE M 2 (4 * c)))) ∧ (aE M 2 (4 * c) = [] → ∀ i, i < 49 → x'.work i = t i) := by
 obtain ⟨A, hbt, hB⟩ := im.boot on.off;rcases wB h hG hz rg.rn (im.stable on.off hl) hc L with ⟨e, _⟩ | ⟨b', slot, A', hp', Fm', a, fr, e, hW, hch, hr⟩
 ·rw [hbt] at e; cases e
 ·rw [hbt] at e;simp only [Prod.mk.injEq, Option.some.injEq, and_true] at e;obtain ⟨rfl, rfl, rfl⟩ := e;obtain ⟨i1, i2, i3, i4, i5⟩ := im.booted hB rg hW.mp.ok;have hlr : (M.recs b).length = (aE M 2 (4 * c)).length := by rw [im.recs, lP]
  have hla := hB.left;have hAl : (M.st0 b A).A.left = A.left := rfl;obtain ⟨g1, g2, g3, g4, g5⟩ := wg (q := b.seq) (t := ldT M (M.now b.root.toNat)) (M.recs b) hB.inv (show (M.st0 b A).M.On from on) (fun r hr => by
   rw [im.recs] at hr;exact o5 M _ _ r (lQ.1 hr)) (fun i hi => rfl) (by omega)
  have g1 : (M.booted b A).2 = 0 := g1;have hbo : cq b.seq (ldT M (M.now b.root.toNat)) (M.st0 b A) (M.recs b) = M.booted b A := rfl;rw [hbo] at g2 g3 g4 g5;rw [if_pos g1, im.recs] at hr;have hap : ∀ (rs : List Rec), (∀ r ∈ rs, r.ok = true) → ∀ i l, gR b.seq (ldT M (M.now b.root.toNat)) i l rs = gR b.seq t i l rs := by
   intro rs
   induction rs with
   | nil => intro _ i l; rfl
   | cons r rs ih =>
    intro hok i l;have hr := Rec.ok_iff.1 (hok r List.mem_cons_self);have ih := ih fun a ha => hok a (List.mem_cons_of_mem _ ha);simp only [gR];rw [hB.ld r.id.toNat (by omega), ih, ih]
  refine ⟨hp', Fm', a, fr, (M.booted b A).1, hr, hW, hch, g3, i1, i2, i3, i4, i5, g2, fun i hi => ?_, fun i hi hk => ?_, fun he i hi => ?_⟩
  ·obtain ⟨k1, k2⟩ := g4 i hi;rw [k1, k2, hB.w i hi];exact ⟨rfl, rfl⟩
  ·have hw := hB.w i hi;rw [g5 i hi (by rw [hw]; exact hk), hw];obtain ⟨p, hp, p1, p2, p3⟩ := im.lay.ln i hi hk;rw [hp, Int.toNat_natCast];have hM0 : (M.st0 b A).M.now p = ct i := by
    show M.now p = ct i;rw [p3.now];exact im.ct i hi hk p hp
   rw [hM0, im.recs];exact hap _ (fun r hr => o5 M _ _ r (lQ.1 hr)) i (ct i)
  ·have : (M.booted b A).1 = M.st0 b A := by
    unfold AM.booted;rw [im.recs, he];rfl
   rw [this]; exact hB.w i hi
end
end Go.Proofs.YtilcajpldklbiaaDoor
namespace Go.Proofs.YtilcajpldklbiaaDoor
open Go.Ab
theorem Lm {LL hp : List Blk} {i r e : Nat} {l : List V} (h : LL[i]? = some (.rw (.agg r l))) (X : List Blk) : RS ⟨LL ++ X, hp⟩ e (.sl (.loc i) [] 0 l.length (some l.length) e) l := by
 have hi := ap h;refine .inr ⟨.loc i, [], 0, some l.length, rfl, fun c hc => by cases hc; exact Nat.le_refl _, ?_, .inr ⟨r, l, ?_, fun j x hx => by rw [Nat.zero_add]; exact hx⟩⟩
 ·simp only [V.locLt, decide_eq_true_eq, List.length_append]; omega
 ·have h2 : (LL ++ X)[i]? = some (.rw (.agg r l)) := by rw [List.getElem?_append_left hi]; exact h
  simp only [St.read, St.at, h2, V.at]
theorem pb : iG zl = false := by
 unfold iG;have : (cf zl).ok = false := by decide
 rw [this]; rfl
theorem qJ {M : AM} : ∀ n i, (∀ j, i ≤ j → j < i + n → M.now j = zl) → aE M i n = []
 | 0, _, _ => rfl
 | n + 1, i, h => by
  unfold aE;rw [h i (Nat.le_refl _) (by omega), pb, if_neg (by simp), qJ n (i + 1) fun j h1 h2 => h j (by omega) (by omega)];rfl
theorem yV (n : Nat) : (am0 n fun _ => zl).Rg := ⟨fun _ => sW, fun _ d hd => by cases hd⟩
theorem DR {hp : List Blk} {F : Ft} {m n : Nat} (h : ay hp F m (am0 n fun _ => zl)) (hG : hp[0]? = some (.ro bU)) (hz : ¬ F 0) (L : List Blk) :
 ∃ X, rf D dv [.ptr (.hp m) [] 59] ⟨L, hp⟩ = some (.tup [gY, .int .i64 20], ⟨L, hp ++ X⟩) := by
 have hbest : bl zl zl = (cX, 0, false) := by
  have : dh zl = false := BD rfl;unfold bl bst;simp only [this, Bool.false_eq_true, false_and, if_false]
 have hbt : (am0 n fun _ => zl).bt = (none, 20) := by
  unfold AM.bt;rw [if_neg (show ¬ ((am0 n fun _ => zl).off = true) from fun h => by cases h)]
  show (if (bl zl zl).2.2 = false then ((none : Option (Sup × Int × AF)), (20 : Int)) else _) = _
  rw [hbest, if_pos rfl]
 rcases wB h hG hz (yV n).rn (fun k _ hk => by
  have h2 := hk rfl;have h3 : bl ((am0 n fun _ => zl).now 0) ((am0 n fun _ => zl).now 1) = (cX, 0, false) := hbest;rw [h3] at h2;have h4 : k = 0 := by rw [← h2]; rfl
  subst h4;exact @oH 0 (by omega)) (by show (0 : Int) + 400 < 1000000; decide) L with ⟨_, X, e⟩ | ⟨b, slot, A, _, _, _, _, e, _⟩
 ·rw [hbt] at e; exact ⟨X, e⟩
 ·rw [hbt] at e; cases e
def kU : Obj := ⟨1, 0, [1, 2, 0, 0, 0, 0, 0, 0]⟩
theorem Du {hp : List Blk} (L : List Blk) (hG : hp[0]? = some (.ro bU)) : ∃ hp', rf D fv [] ⟨L, hp⟩ = some (.bool true, ⟨L, hp'⟩) ∧ hp <+: hp' := by
 have hG0 : 0 < hp.length := ap hG;obtain ⟨X0, hx0, e0, m0⟩ := wZ (n := 64) (by omega) (by omega) hp L;rw [show ((64 : Nat) : Int) = 64 from rfl] at e0
 have hz0 : ¬ (fun j => j = hp.length ∨ j = hp.length + 1) 0 := by simp only; omega
 have hG1 : (hp ++ X0)[0]? = some (.ro bU) := by rw [List.getElem?_append_left hG0]; exact hG
 have ab0 : jK hp.length fun j => j = hp.length ∨ j = hp.length + 1 := fun j hj => by rcases hj with rfl | rfl <;> omega
 generalize hm : hp.length + 1 = m at *;obtain ⟨X1, e1⟩ := DR m0 hG1 hz0 L;have m1 := m0.snoc X1;have hG2 : (hp ++ X0 ++ X1)[0]? = some (.ro bU) := by rw [List.getElem?_append_left (ap hG1)]; exact hG1
 have pre1 : hp <+: hp ++ X0 ++ X1 := by rw [List.append_assoc]; exact List.prefix_append _ _
 generalize hp ++ X0 ++ X1 = h1 at *;let K : List Blk := L ++ [.rw gY, .rw (.agg 28 [kU.v])];have hrs : ∀ (X hp' : List Blk) (F' : Ft), Chg h1 hp' (fun j => j = hp.length ∨ j = m) F' → RS ⟨K ++ X, hp'⟩ 26 (.sl (.loc (L.length + 1)) [] 0 1 (some 1) 26) ([kU].map Obj.v) := fun X hp' F' _ =>
  Lm (l := [kU.v]) (r := 28) (by simp [K]) X
 obtain ⟨h2, F2, e2, m2, g2⟩ := wT (m := m) (L := K) (lv := .sl (.loc (L.length + 1)) [] 0 1 (some 1) 26) (by simp [K, V.locLt]) (l := [kU]) hrs (fun o ho => by rw [List.mem_singleton.1 ho]; rfl) (by simp) 1 m1 (by show (0 : Int) + 2000 < 1000000; decide);obtain ⟨p2, b2⟩ := g2.pre pre1 ab0;have hfm := DX (N := 64) (c := 1) (by omega) (by omega) (l := [kU]) (by decide) (fun o ho => by rw [List.mem_singleton.1 ho]; rfl) (by simp) (by omega) (by decide);rw [show ((1 : Nat) : Int) = 1 from rfl] at hfm
 obtain ⟨k1, k2, k3, b, t, d, ct, im, kg, kq, klog, kobj, kno⟩ := hfm;obtain ⟨r1, r2, r3⟩ := IT (yV 64) 1 (l := [kU]) (fun o ho x hx => by
  rw [List.mem_singleton.1 ho] at hx;have : x = 1 ∨ x = 2 ∨ x = 0 := by
   simp only [kU, List.mem_cons, List.not_mem_nil, or_false] at hx;omega
  rcases this with rfl | rfl | rfl <;> exact ⟨by decide, by decide⟩)
 rw [show (am0 64 fun _ => zl).count = 0 from rfl] at r3
 rw [k1] at e2;generalize ((am0 64 fun _ => zl).fmt 1 [kU]).1 = M2 at *;have hz2 : ¬ F2 0 := fun h => by have := b2 0 h; omega
 have hG3 : h2[0]? = some (.ro bU) := bA p2 hG;obtain ⟨t0, t0', t0c⟩ := kobj 0 (by decide);have tk : (t 0).kind = 1 := t0;have tc : ct 0 = [1, 2, 0, 0, 0, 0, 0, 0] := t0c (by decide);have now2 : ∀ j, 2 ≤ j → j < 6 → M2.now j = zl := fun j h1 h2 => by rw [(im.sur j (.inl (by omega))).now, klog j h1 (by omega)]
 have rec2 : aE M2 2 4 = [] := qJ 4 2 fun j h1 h2 => now2 j h1 (by omega);obtain ⟨h3, F3, a, fr, xa, e3, W3, g3, on3, im3, n3, rg3, c3, now3, inv3, kv3, ct3, same3⟩ := rS m2 im k2 hG3 hz2 r1 (by rw [show 4 * 1 = 4 from rfl, rec2]; decide) (by rw [show 4 * 1 = 4 from rfl, rec2]; simp only [List.length_nil]; omega) (by omega) K
 rw [show 4 * 1 = 4 from rfl, rec2] at e3
 obtain ⟨p3, b3⟩ := g3.pre p2 b2;have now3' : ∀ j, 2 ≤ j → j < 6 → xa.M.now j = zl := fun j h1 h2 => (now3 j (by omega)).trans (now2 j h1 h2);let r : Rec := ⟨1, 0, 3, 9⟩;have hfree : bp xa.M 0 2 4 = 2 := by
  unfold bp;rw [now3' 2 (by omega) (by omega), if_pos (.inl pb)]
 let K4 : List Blk := K ++ [.rw (iN (.ptr (.hp a) [] 43) b.v 0 1)];obtain ⟨h4, F4, e4, m4, g4⟩ := oW W3.mp (by omega) on3.off (core := 0) (by omega) (by omega) 0 r K4;obtain ⟨q1, q2, q3, q4, q5, q6⟩ := im3.add on3 (core := 0) (by omega) 0 (r := r) (by decide) (by rw [show 2 + 4 * 0 = 2 from rfl, hfree]; decide)
 rw [show 2 + 4 * 0 = 2 from rfl, hfree] at q6
 have W4 := W3.setM m4 g4 q4;rw [q1] at e4;have rg4 : (xa.M.addRec 0 0 r).1.Rg := by
  have hv : ∀ x ∈ aX r, W64 x := Ga ⟨by decide, by decide⟩;unfold AM.addRec;simp only;split
  ·exact rg3
  ·split
   ·exact rg3
   ·split
    ·exact rg3.store ⟨by decide, by decide⟩
    ·split
     ·exact AM.Rg.layFrom hv 8 0 (rg3.store ⟨by decide, by decide⟩)
     ·split
      ·exact (AM.Rg.layFrom hv 8 0 (rg3.store ⟨by decide, by decide⟩)).flush
      ·exact (AM.Rg.layFrom hv 8 0 (rg3.store ⟨by decide, by decide⟩)).flush.fence
 generalize (xa.M.addRec 0 0 r).1 = M4 at *;obtain ⟨rr1, rr2⟩ := rk (r := r) (by decide) ⟨by decide, by decide⟩;have rec4 : aE M4 2 4 = [r] := by
  have e2 : M4.now 2 = aX r := by rw [q6 2 (by omega) (by omega), if_pos rfl]
  have e3 : ∀ j, 3 ≤ j → j < 3 + 3 → M4.now j = zl := fun j h1 h2 => by rw [q6 j (by omega) (by omega), if_neg (by omega)]; exact now3' j (by omega) (by omega)
  show (if iG (M4.now 2) = true then [cf (M4.now 2)] else []) ++ aE M4 3 3 = _
  rw [e2, rr1, if_pos rfl, rr2, qJ 3 3 e3];rfl
 obtain ⟨h5, F5, a2, fr2, xb, e5, W5, g5, on5, im5, n5, rg5, c5, now5, inv5, kv5, ct5, _⟩ := rS m4 q3 q2 W4.g W4.nz rg4 (by rw [show 4 * 1 = 4 from rfl, rec4]; decide) (by rw [show 4 * 1 = 4 from rfl, rec4]; simp only [List.length_singleton]; omega) (by omega) K4
 rw [show 4 * 1 = 4 from rfl, rec4] at e5 ct5
 have g5' : Chg h4 h5 F4 F5 := g5.mono (fun _ h => h) fun j hj => .inl (.inr (.inr hj));have W6 := W4.setM W5.mp g5' n5;have wa : xa.work 0 = t 0 := same3 (by rw [show 4 * 1 = 4 from rfl, rec2]) 0 (by decide)
 have ga : AS.get { xa with M := xb.M } (0 : Nat) = (kU, 0) := by
  have := zR (x := { xa with M := xb.M }) (inv3.withM W5.mp.ok (n5.trans q4)) on5 (t := t) (ct := ct) (i := 0) (by decide) (by rw [show ({ xa with M := xb.M } : AS).work 0 = t 0 from wa]; exact ⟨rfl, rfl⟩) (fun hk => by
   show xb.M.now (xa.work 0).line.toNat = _;rw [wa];obtain ⟨p, hp, p1, p2, p3⟩ := im5.lay.ln 0 (by decide) hk;rw [hp, Int.toNat_natCast, p3.now];exact im5.ct 0 (by decide) hk p hp)
  rw [this];unfold uG;rw [if_neg (by rw [tk]; decide), tc, tk, t0'];rfl
 have gb : xb.get (0 : Nat) = (⟨1, 0, [1, 2, 0, 9, 0, 0, 0, 0]⟩, 0) := by
  have := zR inv5 on5 (t := t) (ct := fun _ => [1, 2, 0, 9, 0, 0, 0, 0]) (i := 0) (by decide) (kv5 0 (by decide)) (fun hk => by
   rw [ct5 0 (by decide) hk, tc, kq];show gR 0 t 0 [1, 2, 0, 0, 0, 0, 0, 0] [r] = _;simp only [gR];rw [if_neg (by
    rw [show r.id.toNat = 0 from rfl, tk]
    decide)]
   rfl)
  rw [this];unfold uG;rw [if_neg (by rw [tk]; decide), tk, t0'];rfl
 have eA := fun L => ru W6 ((0 : Nat) : Int) L;have eB := fun L => ru W5 ((0 : Nat) : Int) L;rw [ga] at eA;rw [gb] at eB;rw [show ((0 : Nat) : Int) = 0 from rfl] at eA eB e4
 obtain ⟨p4, b4⟩ := g4.pre p3 (fun j hj => b3 j (.inr (.inr hj)));obtain ⟨p5, b5⟩ := g5.pre p4 b4;refine ⟨h5, ?_, p5⟩;have kl1 : fL b.seq (cC ([] : List Rec)) + 1 = 1 := by rw [kq]; rfl
 have kl2 : fL b.seq (cC [r]) + 1 = 2 := by rw [kq]; rfl
 rw [kl1] at e3;rw [kl2] at e5;clear W3 W4 W5 W6 m0 m1 m2 m4 im im3 im5 ct3 ct5 hfree q6 q3 rg3 rg4 rg5 ga gb rec2 rec4 hrs;obtain ⟨bg, br, bq, bc⟩ := b;simp only [K4, K, r, Rec.v, kU, Obj.v, Sup.v, iN, gY, cX, List.map_cons, List.map_nil, List.cons_append, List.append_assoc, List.nil_append] at *;have hr8 : List.replicate 8 (V.int .u64 0) = [.int .u64 0, .int .u64 0, .int .u64 0, .int .u64 0, .int .u64 0, .int .u64 0, .int .u64 0, .int .u64 0] := rfl;have hr1 : ∀ X : V, List.replicate 1 X = [X] := fun _ => rfl;rw [ae nX rfl];simp only [go_sem, e0, e1, hr8, hr1];simp only [go_sem, e2];simp only [go_sem, e3];simp only [go_sem, e4, e5];simp only [go_sem, eA, eB, hr8]
end Go.Proofs.YtilcajpldklbiaaDoor
namespace Go.Proofs.YtilcajpldklbiaaDoor
open Go.Ab
def o3 (k : Int) : Obj := ⟨k, 0, zl⟩
theorem FM {M : AM} (rg : M.Rg) {core : Nat} {seq : Int} {r : Rec} (hv : W64 r.val) : (M.addRec core seq r).1.Rg := by
 have hv := Ga hv;have h0 : W64 0 := ⟨by decide, by decide⟩;unfold AM.addRec;simp only;split
 ·exact rg
 ·split
  ·exact rg
  ·split
   ·exact rg.store h0
   ·split
    ·exact AM.Rg.layFrom hv 8 0 (rg.store h0)
    ·split
     ·exact (AM.Rg.layFrom hv 8 0 (rg.store h0)).flush
     ·exact (AM.Rg.layFrom hv 8 0 (rg.store h0)).flush.fence
end Go.Proofs.YtilcajpldklbiaaDoor
namespace Go.Proofs.YtilcajpldklbiaaDoor
open Go.Ab
theorem qF (c n : Int) (h0 : -9223372036854775808 ≤ c) (h1 : c ≤ 9223372036854775807) (hn : 0 < n) (s : St) : rf D fS [.int .i64 c, .int .i64 n] s = some (.int .i64 (kd c n), s) := by
 have hn0 : ¬ n = 0 := by omega
 unfold kd;rw [ae oC rfl];by_cases hc : c < 0
 ·have w1 : IntKind.i64.wrap (c + 1) = c + 1 := ai (by omega) (by omega);have w2 : IntKind.i64.wrap (0 - (c + 1)) = -(c + 1) := by rw [ai (by omega) (by omega)]; omega
  have w3 : (-(c + 1)).tmod n = (-(c + 1)) % n := Int.tmod_eq_emod_of_nonneg (by omega);simp only [go_sem, hc, w1, w2, hn0, w3]
 ·have w3 : c.tmod n = c % n := Int.tmod_eq_emod_of_nonneg (by omega);simp only [go_sem, hc, hn0, w3]
structure Obj.Ok (o : Obj) : Prop where
 k : -9223372036854775808 ≤ o.kind ∧ o.kind ≤ 9223372036854775807
 v : -9223372036854775808 ≤ o.ver ∧ o.ver ≤ 9223372036854775807
 l8 : o.l.length = 8
 w : ∀ x ∈ o.l, W64 x
def ng (o : Obj) : Obj := ⟨1 + kd o.kind 4, kd o.ver 100, o.l⟩
def mA (l : List Obj) (n : Nat) : List Obj := (l.take n).map ng
theorem EC {l : List Obj} {n : Nat} (h : n < l.length) : mA l (n + 1) = mA l n ++ [ng (l.getD n noO)] := by
 unfold mA;rw [List.take_succ_eq_append_getElem h, List.map_append];simp [List.getD_eq_getElem?_getD, h]
theorem yH {l : List Obj} {n : Nat} (h : n ≤ l.length) : (mA l n).length = n := by
 unfold mA;rw [List.length_map, List.length_take]; omega
def LS1 (hp : List Blk) (G : Ft) (e r : Nat) (v : V) (l : List V) : Prop := (v = .sl (.loc 1) [] 0 0 (some 0) e ∧ l = []) ∨ SlR hp G e r v l
theorem LS1.push {hp : List Blk} {G : Ft} {e r : Nat} {v : V} {l : List V} (h : LS1 hp G e r v l) {base : Nat} {y : V} {new : List V} (L : List Blk) (hy : y = .nils ∨ ∃ a p o n c, y = .sl a p o n c e) (h2 : St.elems ⟨L, hp⟩ y = some new) (hn : new ≠ []) (hm : l.length + new.length ≤ fB) (he : e % 2 = 0) :
 ∃ hp' v', aH base true r e v y ⟨L, hp⟩ = some (v', ⟨L, hp'⟩) ∧ SlR hp' (.one hp.length) e r v' (l ++ new) ∧ Chg hp hp' G (.one hp.length) ∧ hp'.length = hp.length + 1 := by
 rcases h with ⟨rfl, rfl⟩ | h
 ·have := sa (base := base) (h := true) (r := r) (s := ⟨L, hp⟩) (x := .sl (.loc 1) [] 0 0 (some 0) e) (old := []) (.inr ⟨_, _, _, _, _, rfl⟩) hy rfl h2 hn hm (.inl he);refine ⟨hp ++ [.rw (.agg r ([] ++ new))], .sl (.hp hp.length) [] 0 ([] ++ new).length none e, ?_, SlR.blk (G := Ft.one hp.length) hp.length none ([] ++ new) (.inl rfl) rfl List.getElem?_concat_length, ⟨by simp, fun j hj _ => List.getElem?_append_left hj, fun j hj => .inr (by rw [hj]; exact Nat.le_refl _)⟩, by simp⟩;rw [this];simp only [nD, Option.map_some, List.length_nil, Nat.zero_add, List.length_pos_iff.2 hn, decide_true, if_true];simp [St.fresh, St.new]
 ·obtain ⟨hp', e1, e2, e3, e4⟩ := h.push (base := base) L hy h2 hn hm (.inl he);exact ⟨hp', _, e1, .blk _ none _ (.inl rfl) rfl e3, ⟨by omega, e4, fun j hj => .inr (by rw [hj]; exact Nat.le_refl _)⟩, e2⟩
section
variable {m : Nat}
theorem AC {H : List Blk} {lv vv : V} {l : List Obj} (hl : ∀ o ∈ l, o.Ok) (hrs : RS ⟨[], H⟩ 26 lv (l.map Obj.v)) (hlt : lv.locLt 0 = true) (hvt : vv.locLt 0 = true) (P E : Blk) (hP : ∀ n, aZ n P = true) (hE : ∀ n, aZ n E = true) : ∀ (n i : Nat) {hp : List Blk} {G : Ft} {u : V}, i + n = min l.length 30 → LS1 hp G 26 28 u ((mA l i).map Obj.v) → H <+: hp → jK H.length G → Inn hp G →
 ∃ hp' G' u', rc D 0 (.loop [0, 1, 5, 8, 10, 11] be) [(0, lv), (1, vv), (5, .ptr (.loc 0) [] 21), (8, .ptr (.hp m) [] 59), (10, u), (11, .int .i64 i)] ⟨[P, E], hp⟩ =
  some (.exit 0, [(0, lv), (1, vv), (5, .ptr (.loc 0) [] 21), (8, .ptr (.hp m) [] 59), (10, u'), (11, .int .i64 (min l.length 30 : Nat)), (42, .bool false)], ⟨[P, E], hp'⟩) ∧ LS1 hp' G' 26 28 u' ((mA l (min l.length 30)).map Obj.v) ∧ Chg hp hp' G G' ∧ H <+: hp' ∧ jK H.length G' ∧ Inn hp' G'
 | 0, i, hp, G, u, hi, h, hpre, hab, hin => by
  have : i = min l.length 30 := by omega
  subst this;refine ⟨hp, G, u, ?_, h, .refl _ _, hpre, hab, hin⟩;have hs := hrs.slen;rw [List.length_map] at hs;rw [ac];by_cases c1 : ((min l.length 30 : Nat) : Int) < l.length
  ·have c2 : ¬ ((min l.length 30 : Nat) : Int) < 30 := by omega
   generalize min l.length 30 = q at *;simp only [go_sem, be, hs, c1, c2]
  ·generalize min l.length 30 = q at *;simp only [go_sem, be, hs, c1]
 | n + 1, i, hp, G, u, hi, h, hpre, hab, hin => by
  have hs := hrs.slen;rw [List.length_map] at hs;have hil : i < l.length := by omega
  have hHl := hpre.length_le;have hmem := hl _ (mF hil noO);have hk1 := fun s => qF (l.getD i noO).kind 4 hmem.k.1 hmem.k.2 (by decide) s;have hk2 := fun s => qF (l.getD i noO).ver 100 hmem.v.1 hmem.v.2 (by decide) s;have hkr := pP (l.getD i noO).kind (n := 4) (by decide);have hw : IntKind.i64.wrap (1 + kd (l.getD i noO).kind 4) = 1 + kd (l.getD i noO).kind 4 := ai (by omega) (by omega);have hlen : (mA l i).length = i := yH (by omega);obtain ⟨hp1, u1, e1, e2, e3, e4⟩ := h.push (base := 0) (y := .sl (.loc 3) [] 0 1 (some 1) 26) (new := [(ng (l.getD i noO)).v]) [P, E, .rw (ng (l.getD i noO)).v, .rw (.agg 28 [(ng (l.getD i noO)).v])] (.inr ⟨_, _, _, _, _, rfl⟩) (jb (t := 28) rfl rfl) (by simp) (by simp [hlen, fB]; omega) rfl;have h1 : LS1 hp1 (.one hp.length) 26 28 u1 ((mA l (i + 1)).map Obj.v) := .inr (by rw [EC hil, List.map_append]; exact e2);obtain ⟨p1, b1⟩ := e3.pre hpre hab;obtain ⟨hp2, G2, u2, q1, q2, q3, q4⟩ := AC hl hrs hlt hvt P E hP hE n (i + 1) (by omega) h1 p1 b1 (fun j hj => by cases hj; omega);refine ⟨hp2, G2, u2, ?_, q2, e3.trans q3, q4⟩;have d1 : (i : Int) < l.length := by omega
  have d2 : (i : Int) < 30 := by omega
  have d4 : IntKind.i64.wrap ((i : Int) + 1) = ((i + 1 : Nat) : Int) := ai (by omega) (by omega);have hg := aG (f := Obj.v) (l := l) (i := i) hil noO;have hrs1 : RS ⟨[P, E], hp⟩ 26 lv (l.map Obj.v) := hrs.more ⟨List.nil_prefix, hpre⟩;have hld : ldv ⟨[P, E], hp⟩ 26 (elq lv i [] 26) = V.at [] (l.getD i noO).v := hrs1.ldq hg;have hsad := hrs1.sadq hg (k := .i64);have l1 : ∀ n, V.locLt n lv = true := fun n => bf (Nat.zero_le _) hlt;have l2 : ∀ n, V.locLt n vv = true := fun n => bf (Nat.zero_le _) hvt;have l3 : ∀ n, V.locLt n u1 = true := fun n => e2.ltb;have t3 : u1.tag = 1 := e2.tag;have hrep : ∀ X : V, List.replicate 1 X = [X] := fun _ => rfl;have hul : u.locLt 2 = true := by
   rcases h with ⟨rfl, _⟩ | h
   ·rfl
   ·exact h.ltb
  rw [← q1, ac];clear q1 q2 q3 q4 e2 e3 h h1 hmem hrs hrs1 hg;simp only [ng] at e1;generalize hO : l.getD i noO = o at *;obtain ⟨ok, ov, ol⟩ := o;simp only [Obj.v] at *;generalize hkk : kd ok 4 = kk at *;generalize hvv : kd ov 100 = kv at *;simp only [go_sem, be, hs, d1, d2, hsad, hld, hk1, hk2, hw, hrep, e1, d4, l1, l2, l3, hP, hE]
end
end Go.Proofs.YtilcajpldklbiaaDoor
namespace Go.Proofs.YtilcajpldklbiaaDoor
open Go.Ab
def rcd (v : List Int) (i : Nat) : Rec := ⟨i + 1, (v.getD i 0) % 30, i, v.getD i 0⟩
theorem nj {v : List Int} {i : Nat} (hi : i < 4) : (rcd v i).ok = true := by
 refine Rec.ok_iff.2 ⟨⟨?_, ?_⟩, ⟨?_, ?_⟩, ?_, ?_⟩ <;> simp only [rcd] <;> omega
def lg (rc : Nat → Rec) (k j : Nat) : List Int := if j = 2 ∧ 1 ≤ k then aX (rc 0) else if j = 6 ∧ 2 ≤ k then aX (rc 1) else if j = 3 ∧ 3 ≤ k then aX (rc 2) else if j = 7 ∧ 4 ≤ k then aX (rc 3) else zl
def ln4 (k : Nat) : Nat := if k = 0 then 2 else if k = 1 then 6 else if k = 2 then 3 else 7
theorem nO {M : AM} {seq : Int} {i n : Nat} (h : M.now i = zl) : bp M seq i (n + 1) = i := by
 unfold bp;rw [h, if_pos (.inl pb)]
theorem uS {M : AM} {seq : Int} {i n : Nat} {r : Rec} (h : M.now i = aX r) (hr : r.ok = true) (hv : W64 r.val) (hs : seq < r.seq) : bp M seq i (n + 1) = bp M seq (i + 1) n := by
 obtain ⟨h1, h2⟩ := rk hr hv
 conv => lhs; unfold bp
 rw [h, h1, h2, if_neg (by simp only [Bool.true_eq_false, false_or]; omega)]
theorem aT {M : AM} {i n : Nat} (h : M.now i = zl) : aE M i (n + 1) = aE M (i + 1) n := by
 conv => lhs; unfold aE
 rw [h, pb, if_neg (by simp), List.nil_append]
theorem fA {M : AM} {i n : Nat} {r : Rec} (h : M.now i = aX r) (hr : r.ok = true) (hv : W64 r.val) : aE M i (n + 1) = r :: aE M (i + 1) n := by
 obtain ⟨h1, h2⟩ := rk hr hv
 conv => lhs; unfold aE
 rw [h, h1, h2, if_pos rfl];rfl
section
variable {v : List Int} {M : AM} {k : Nat}
theorem Mt (hv : ∀ i, W64 ((rcd v i).val)) (hk : k < 4) (h : ∀ j, 2 ≤ j → j < 10 → M.now j = lg (rcd v) k j) : bp M 0 (2 + 4 * (k % 2)) 4 = ln4 k := by
 obtain rfl | rfl | rfl | rfl : k = 0 ∨ k = 1 ∨ k = 2 ∨ k = 3 := by omega
 ·exact nO (h 2 (by omega) (by omega))
 ·exact nO (h 6 (by omega) (by omega))
 ·rw [show 2 + 4 * (2 % 2) = 2 from rfl, uS (r := rcd v 0) (h 2 (by omega) (by omega)) (nj (by omega)) (hv 0) (by simp only [rcd]; omega)]
  exact nO (h 3 (by omega) (by omega))
 ·rw [show 2 + 4 * (3 % 2) = 6 from rfl, uS (r := rcd v 1) (h 6 (by omega) (by omega)) (nj (by omega)) (hv 1) (by simp only [rcd]; omega)]
  exact nO (h 7 (by omega) (by omega))
theorem KV (hk : k < 4) {j : Nat} : (if j = ln4 k then aX (rcd v k) else lg (rcd v) k j) = lg (rcd v) (k + 1) j := by
 obtain rfl | rfl | rfl | rfl : k = 0 ∨ k = 1 ∨ k = 2 ∨ k = 3 := by omega
 all_goals
  unfold ln4 lg;simp only [if_true, if_false, show ¬ (1 : Nat) = 0 by decide, show ¬ (2 : Nat) = 0 by decide, show ¬ (2 : Nat) = 1 by decide, show ¬ (3 : Nat) = 0 by decide, show ¬ (3 : Nat) = 1 by decide, show ¬ (3 : Nat) = 2 by decide];by_cases h2 : j = 2
  ·subst h2; simp
  ·by_cases h3 : j = 3
   ·subst h3; simp
   ·by_cases h6 : j = 6
    ·subst h6; simp
    ·by_cases h7 : j = 7
     ·subst h7; simp
     ·simp [h2, h3, h6, h7]
theorem yl (hv : ∀ i, W64 ((rcd v i).val)) (hk : k ≤ 4) (h : ∀ j, 2 ≤ j → j < 10 → M.now j = lg (rcd v) k j) : cC (aE M 2 8) = (List.range k).map (rcd v) ∧ (aE M 2 8).length = k := by
 have h2 := h 2 (by omega) (by omega);have h3 := h 3 (by omega) (by omega);have h4 := h 4 (by omega) (by omega);have h5 := h 5 (by omega) (by omega);have h6 := h 6 (by omega) (by omega);have h7 := h 7 (by omega) (by omega);have h8 := h 8 (by omega) (by omega);have h9 := h 9 (by omega) (by omega);have o0 : (rcd v 0).ok = true := nj (by omega);have o1 : (rcd v 1).ok = true := nj (by omega);have o2 : (rcd v 2).ok = true := nj (by omega);have o3 : (rcd v 3).ok = true := nj (by omega);have s0 : (rcd v 0).seq = 1 := by simp [rcd]
 have s1 : (rcd v 1).seq = 2 := by simp [rcd]
 have s2 : (rcd v 2).seq = 3 := by simp [rcd]
 have s3 : (rcd v 3).seq = 4 := by simp [rcd]
 have nil : aE M 10 0 = [] := rfl;have z4 : lg (rcd v) k 4 = zl := rfl;have z5 : lg (rcd v) k 5 = zl := rfl;have z8 : lg (rcd v) k 8 = zl := rfl;have z9 : lg (rcd v) k 9 = zl := rfl;rw [z4] at h4;rw [z5] at h5;rw [z8] at h8;rw [z9] at h9;obtain rfl | rfl | rfl | rfl | rfl : k = 0 ∨ k = 1 ∨ k = 2 ∨ k = 3 ∨ k = 4 := by omega
 ·have h2 : M.now 2 = zl := h2;have h3 : M.now 3 = zl := h3;have h6 : M.now 6 = zl := h6;have h7 : M.now 7 = zl := h7;rw [aT h2, aT h3, aT h4, aT h5, aT h6, aT h7, aT h8, aT h9, nil];exact ⟨rfl, rfl⟩
 ·have h2 : M.now 2 = aX (rcd v 0) := h2;have h3 : M.now 3 = zl := h3;have h6 : M.now 6 = zl := h6;have h7 : M.now 7 = zl := h7;rw [fA h2 o0 (hv 0), aT h3, aT h4, aT h5, aT h6, aT h7, aT h8, aT h9, nil];exact ⟨rfl, rfl⟩
 ·have h2 : M.now 2 = aX (rcd v 0) := h2;have h3 : M.now 3 = zl := h3;have h6 : M.now 6 = aX (rcd v 1) := h6;have h7 : M.now 7 = zl := h7;rw [fA h2 o0 (hv 0), aT h3, aT h4, aT h5, fA h6 o1 (hv 1), aT h7, aT h8, aT h9, nil];refine ⟨?_, rfl⟩;simp [cC, ji, eH, s0, s1, List.range_succ]
 ·have h2 : M.now 2 = aX (rcd v 0) := h2;have h3 : M.now 3 = aX (rcd v 2) := h3;have h6 : M.now 6 = aX (rcd v 1) := h6;have h7 : M.now 7 = zl := h7;rw [fA h2 o0 (hv 0), fA h3 o2 (hv 2), aT h4, aT h5, fA h6 o1 (hv 1), aT h7, aT h8, aT h9, nil];refine ⟨?_, rfl⟩;simp [cC, ji, eH, s0, s1, s2, List.range_succ]
 ·have h2 : M.now 2 = aX (rcd v 0) := h2;have h3 : M.now 3 = aX (rcd v 2) := h3;have h6 : M.now 6 = aX (rcd v 1) := h6;have h7 : M.now 7 = aX (rcd v 3) := h7;rw [fA h2 o0 (hv 0), fA h3 o2 (hv 2), aT h4, aT h5, fA h6 o1 (hv 1), fA h7 o3 (hv 3), aT h8, aT h9, nil];refine ⟨?_, rfl⟩;simp [cC, ji, eH, s0, s1, s2, s3, List.range_succ]
theorem Fx (hk : k ≤ 4) : fL 0 ((List.range k).map (rcd v)) = k := by
 obtain rfl | rfl | rfl | rfl | rfl : k = 0 ∨ k = 1 ∨ k = 2 ∨ k = 3 ∨ k = 4 := by omega
 all_goals first | (simp [fL, List.range_succ, rcd]; done) | (simp [fL, List.range_succ, rcd]; omega)
end
def wnt (ws : List Obj) (rc : Nat → Rec) : Nat → List Obj
 | 0 => ws
 | k + 1 => if (rc k).id.toNat < ws.length ∧ (ws.getD (rc k).id.toNat noO).kind = 1 then (wnt ws rc k).set (rc k).id.toNat ⟨((wnt ws rc k).getD (rc k).id.toNat noO).kind, ((wnt ws rc k).getD (rc k).id.toNat noO).ver, ((wnt ws rc k).getD (rc k).id.toNat noO).l.set k (rc k).val⟩ else wnt ws rc k
theorem jG {ws : List Obj} {rc : Nat → Rec} : ∀ k, (wnt ws rc k).length = ws.length
 | 0 => rfl
 | k + 1 => by
  unfold wnt;split
  ·rw [List.length_set, jG k]
  ·exact jG k
theorem tp {q : Int} {t : Nat → Ent} {i : Nat} : ∀ (a b : List Rec) (l : List Int), gR q t i l (a ++ b) = gR q t i (gR q t i l a) b
 | [], _, _ => rfl
 | r :: a, b, l => by
  simp only [List.cons_append, gR];split
  ·exact tp a b l
  ·exact tp a b _
theorem zK {l : List Obj} {i j : Nat} {o : Obj} (hi : i < l.length) : (l.set i o).getD j noO = if j = i then o else l.getD j noO := by
 rw [List.getD_eq_getElem?_getD, List.getD_eq_getElem?_getD];by_cases e : j = i
 ·subst e; rw [if_pos rfl, List.getElem?_set_self hi]; rfl
 ·rw [if_neg e, List.getElem?_set_ne (Ne.symm e)]
theorem BW {ws : List Obj} {v : List Int} {t : Nat → Ent} (ht : ∀ j, (t j).kind = (ws.getD j noO).kind) : ∀ k, k ≤ 4 → ∀ i, i < ws.length → (wnt ws (rcd v) k).getD i noO = ⟨(ws.getD i noO).kind, (ws.getD i noO).ver, gR 0 t i (ws.getD i noO).l ((List.range k).map (rcd v))⟩
 | 0, _, i, hi => rfl
 | k + 1, hk, i, hi => by
  have ih := BW (v := v) ht k (by omega) i hi;have hid : 0 ≤ (rcd v k).id := by simp only [rcd]; omega
  rw [List.range_succ, List.map_append, tp];simp only [List.map_cons, List.map_nil, gR];unfold wnt;by_cases c : (rcd v k).id.toNat < ws.length ∧ (ws.getD (rcd v k).id.toNat noO).kind = 1
  ·rw [if_pos c, zK (by rw [jG]; exact c.1)];by_cases e : i = (rcd v k).id.toNat
   ·rw [if_pos e, ← e, ih];rw [if_neg (by
     rw [e, ht, c.2];simp only [not_or, ne_eq, not_true_eq_false, not_false_eq_true, and_true];simp only [rcd]; omega)]
    rfl
   ·rw [if_neg e, ih, if_pos (.inr (.inr (Ne.symm e)))]
  ·rw [if_neg c, ih];rw [if_pos];by_cases e : (rcd v k).id.toNat = i
   ·right; left;rw [e, ht];intro hk1;exact c ⟨by omega, by rw [e]; exact hk1⟩
   ·exact .inr (.inr e)
end Go.Proofs.YtilcajpldklbiaaDoor
namespace Go.Proofs.YtilcajpldklbiaaDoor
open Go.Ab
theorem LS1.rs {hp : List Blk} {G : Ft} {e r : Nat} {v : V} {l : List V} (h : LS1 hp G e r v l) {L : List Blk} (hL : 2 ≤ L.length) : RS ⟨L, hp⟩ e v l := by
 rcases h with ⟨rfl, rfl⟩ | h
 ·exact .inr ⟨_, _, _, _, rfl, fun c hc => (by cases hc; exact Nat.le_refl _), by simp only [V.locLt, decide_eq_true_eq]; omega, .inl rfl⟩
 ·exact h.rs _
theorem LS1.eqv {hp hp' : List Blk} {G : Ft} {e r : Nat} {v : V} {l : List V} (h : LS1 hp G e r v l) (he : Eqv hp hp' G) : LS1 hp' G e r v l := h.imp_right fun h => h.eqv he fun _ hj => hj
theorem LS1.ltb {hp : List Blk} {G : Ft} {e r : Nat} {v : V} {l : List V} (h : LS1 hp G e r v l) {n : Nat} (hn : 2 ≤ n) : v.locLt n = true := by
 rcases h with ⟨rfl, _⟩ | h
 ·simp only [V.locLt, decide_eq_true_eq]; omega
 ·exact h.ltb
section
variable {m : Nat}
theorem xW {H : List Blk} {vv : V} {vs : List Int} (hvs : ∀ i, W64 (vs.getD i 0)) (hrs : RS ⟨[], H⟩ 18 vv (vs.map (.int .u64))) (hvt : vv.locLt 0 = true) {ws : List Obj} (h30 : ws.length ≤ 30) (h8 : ∀ k j, ((wnt ws (rcd vs) k).getD j noO).l.length = 8) {u wv : V} {b : Sup} {t : Nat → Ent} {d : Nat → Int} {ct : Nat → List Int}
 (Lw : Nat → List Blk) (h2 : ∀ i, 2 ≤ (Lw i).length) (hLw : ∀ i, (Lw i).all (aZ (Lw i).length) = true) (hwl : ∀ i, wv.locLt (Lw i).length = true) (hc0 : ws = [] → ∀ i, Lw (i + 1) = Lw i)
 (hc1 : ws ≠ [] → wv = .sl (.loc 3) [] 0 ws.length none 26 ∧ ∀ i, (Lw i)[3]? = some (.rw (.agg 28 ((wnt ws (rcd vs) i).map Obj.v))) ∧ (Lw i).set 3 (.rw (.agg 28 ((wnt ws (rcd vs) (i + 1)).map Obj.v))) = Lw (i + 1)) :
 ∀ (n i : Nat) {hp : List Blk} {F G : Ft} {M : AM}, i + n = min vs.length 4 → ay hp F m M → Im 2 M b t d ct → M.On → M.Rg → M.count + 20 * n < 900000 → (∀ j, 2 ≤ j → j < 10 → M.now j = lg (rcd vs) i j) → LS1 hp G 26 28 u (ws.map Obj.v) → gV F G → Inn hp G → H <+: hp → jK H.length F →
 ∃ hp' F' M', rc D 0 (.loop [1, 5, 8, 10, 13, 14] aN) [(1, vv), (5, .ptr (.loc 0) [] 21), (8, .ptr (.hp m) [] 59), (10, u), (13, wv), (14, .int .i64 i)] ⟨Lw i, hp⟩ =
  some (.exit 2, [(1, vv), (5, .ptr (.loc 0) [] 21), (8, .ptr (.hp m) [] 59), (10, u), (13, wv), (14, .int .i64 (min vs.length 4 : Nat)), (76, .bool false)], ⟨Lw (min vs.length 4), hp'⟩) ∧ ay hp' F' m M' ∧ Im 2 M' b t d ct ∧ M'.On ∧ M'.Rg ∧ M'.n = M.n ∧ M'.count ≤ M.count + 11 * n ∧ (∀ j, 2 ≤ j → j < 10 → M'.now j = lg (rcd vs) (min vs.length 4) j) ∧ H <+: hp' ∧ jK H.length F'
 | 0, i, hp, F, G, M, hi, h, im, on, rg, hc, hlg, hu, ha, hin, hpre, hab => by
  have : i = min vs.length 4 := by omega
  subst this;refine ⟨hp, F, M, ?_, h, im, on, rg, rfl, by omega, hlg, hpre, hab⟩;have hs := hrs.slen;rw [List.length_map] at hs;rw [ac];by_cases c1 : ((min vs.length 4 : Nat) : Int) < vs.length
  ·have c2 : ¬ ((min vs.length 4 : Nat) : Int) < 4 := by omega
   generalize min vs.length 4 = q at *;simp only [go_sem, aN, hs, c1, c2]
  ·generalize min vs.length 4 = q at *;simp only [go_sem, aN, hs, c1]
 | n + 1, i, hp, F, G, M, hi, h, im, on, rg, hc, hlg, hu, ha, hin, hpre, hab => by
  have hs := hrs.slen;rw [List.length_map] at hs;have hil : i < vs.length := by omega
  have hi4 : i < 4 := by omega
  have hn := im.ok.n0;have hv1 : ∀ i, W64 ((rcd vs i).val) := fun i => hvs i;have hfree := Mt hv1 hi4 hlg;obtain ⟨hp1, F1, e1, m1, g1⟩ := oW h (by omega) on.off (core := i % 2) (by omega) (by omega) 0 (rcd vs i) (Lw i);have hl4 : ln4 i ≠ 0 := by unfold ln4; split <;> (try split) <;> (try split) <;> decide
  obtain ⟨q1, q2, q3, q4, q5, q6⟩ := im.add on (core := i % 2) (by omega) 0 (r := rcd vs i) (nj hi4) (by rw [hfree]; exact hl4);rw [hfree] at q6;have rg1 := FM (core := i % 2) (seq := 0) rg (hv1 i);rw [q1] at e1;generalize (M.addRec (i % 2) 0 (rcd vs i)).1 = M1 at *;obtain ⟨p1, b1⟩ := g1.pre hpre hab;have hu1 := hu.eqv (g1.eqv ha hin);obtain ⟨hp2, F2, M2, r1, r2⟩ := xW hvs hrs hvt h30 h8 Lw h2 hLw hwl hc0 hc1 n (i + 1) (M := M1) (by omega) m1 q3 q2 rg1 (by omega) (fun j h1 h2 => by rw [q6 j h1 (by omega)]; rw [hlg j h1 h2]; exact KV hi4) hu1 (g1.apart ha hin) (hin.more g1) p1 b1;refine ⟨hp2, F2, M2, ?_, r2.1, r2.2.1, r2.2.2.1, r2.2.2.2.1, r2.2.2.2.2.1.trans q4, by have := r2.2.2.2.2.2.1; omega, r2.2.2.2.2.2.2⟩;rw [← r1, ac];have d1 : (i : Int) < vs.length := by omega
  have d2 : (i : Int) < 4 := by omega
  have d4 : IntKind.i64.wrap ((i : Int) + 1) = (i : Int) + 1 := ai (by omega) (by omega);have hg := aG (f := V.int .u64) (l := vs) (i := i) hil 0;have hrs1 : RS ⟨Lw i, hp⟩ 18 vv (vs.map (.int .u64)) := hrs.more ⟨List.nil_prefix, hpre⟩;have hrs2 : RS ⟨Lw i, hp1⟩ 18 vv (vs.map (.int .u64)) := hrs.more ⟨List.nil_prefix, p1⟩;have hld : ldv ⟨Lw i, hp⟩ 18 (elq vv i [] 18) = V.at [] (.int .u64 (vs.getD i 0)) := hrs1.ldq hg;have hld2 : ldv ⟨Lw i, hp1⟩ 18 (elq vv i [] 18) = V.at [] (.int .u64 (vs.getD i 0)) := hrs2.ldq hg;have hsad := hrs1.sadq hg (k := .i64);have hvi := hvs i;have hrem : (vs.getD i 0).tmod 30 = vs.getD i 0 % 30 := Int.tmod_eq_emod_of_nonneg hvi.1;have hmod : (i : Int).tmod 2 = ((i % 2 : Nat) : Int) := by rw [Int.tmod_eq_emod_of_nonneg (by omega)]; omega
  obtain ⟨idn, hid⟩ : ∃ k : Nat, vs.getD i 0 % 30 = k := ⟨(vs.getD i 0 % 30).toNat, by omega⟩;have hw30 : IntKind.i64.wrap (vs.getD i 0 % 30) = (idn : Int) := by rw [ai (by omega) (by omega), hid]
  have l1 : ∀ n, V.locLt n vv = true := fun n => bf (Nat.zero_le _) hvt;have l2 : V.locLt (Lw i).length u = true := hu.ltb (h2 i);have hul : V.slen false u = some ws.length := by
   have := (hu.rs (h2 i)).slen
   rwa [List.length_map] at this
  have hrec : (rcd vs i).v = .agg 54 [.int .i64 (i + 1), .int .i64 idn, .int .i64 i, .int .u64 (vs.getD i 0)] := by
   simp only [rcd, Rec.v]; rw [hid]
  have hrid : (rcd vs i).id.toNat = idn := by simp only [rcd]; rw [hid, Int.toNat_natCast]
  have hrvl : (rcd vs i).val = vs.getD i 0 := rfl;rw [hrec] at e1;have hw := hwl i;have hlw := hLw i;have h20 : 0 < (Lw i).length := by have := h2 i; omega
  have hur := hu1.rs (L := Lw i) (h2 i);clear r1 r2 q1 q2 q3 q5 q6 m1 g1 hlg hu hu1 hrs hrs1 hrs2;generalize hvg : vs.getD i 0 = vi at *;by_cases c1 : idn < ws.length
  ·have c1' : (idn : Int) < ws.length := by omega
   have hgu := aG (f := Obj.v) (l := ws) (i := idn) c1 noO;have hsu := hur.sadq hgu (k := .i64);have hlu : ldv ⟨Lw i, hp1⟩ 10 (elq u idn [0] 10) = V.at [0] (ws.getD idn noO).v := hur.ldq hgu;have hne : ws ≠ [] := fun e => by rw [e] at c1; cases c1
   obtain ⟨hwv, hL⟩ := hc1 hne;obtain ⟨hL1, hL2⟩ := hL i;have hfu : qQ 26 0 10 (elq u idn [] 26) = some (elq u idn [0] 10) := hur.fadq hgu;have i1 : (0 : Int) ≤ idn := by omega
   by_cases c2 : (ws.getD idn noO).kind = 1
   ·have hwg := aG (f := Obj.v) (l := wnt ws (rcd vs) i) (i := idn) (by rw [jG]; exact c1) noO;have hw8 := h8 i idn;have hwnt : (wnt ws (rcd vs) (i + 1)).map Obj.v = ((wnt ws (rcd vs) i).map Obj.v).set idn (Obj.v ⟨((wnt ws (rcd vs) i).getD idn noO).kind, ((wnt ws (rcd vs) i).getD idn noO).ver, ((wnt ws (rcd vs) i).getD idn noO).l.set i vi⟩) := by
     simp only [wnt];rw [hrid, if_pos ⟨c1, c2⟩, List.map_set, hrvl]
    rw [hwnt] at hL2;rw [← hL2, hwv];generalize (wnt ws (rcd vs) i).getD idn noO = wo at *;generalize (wnt ws (rcd vs) i).map Obj.v = T at *;generalize ws.getD idn noO = wz at *;obtain ⟨zk, zv, zl'⟩ := wz;obtain ⟨ok, ov, ol⟩ := wo;simp only at c2 hw8;subst c2;have gl := aG (f := V.int .u64) (l := ol) (i := i) (by omega) 0;have dm1 : (i : Int) < 8 := by omega
    have dm0 : (0 : Int) ≤ i := by omega
    have hms : (ol.set i vi).map (V.int .u64) = (ol.map (V.int .u64)).set i (.int .u64 vi) := by rw [List.map_set]
    simp only [Obj.v, hms] at *;simp only [go_sem, aN, hs, d1, d2, hsad, hld, hrem, hw30, hmod, e1, hul, c1', hsu, hfu, hlu, hld2, d4, i1, dm0, dm1];have hx := hLw (i + 1);have hx2 := h2 (i + 1);rw [← hL2] at hx hx2;have h3l : 3 < (Lw i).length := (List.getElem?_eq_some_iff.1 hL1).1;have hsl : ∀ X : Blk, ((Lw i).set 3 X).length = (Lw i).length := fun X => List.length_set;have htk : ∀ X : Blk, ((Lw i).set 3 X).take (Lw i).length = (Lw i).set 3 X := fun X => List.take_of_length_le (by rw [List.length_set]; exact Nat.le_refl _);rw [Int.toNat_natCast, Int.toNat_natCast];rw [hsl] at hx;simp only [go_sem, hL1, hwg, gl, hsl, hx, htk, h3l, l1, l2, h20, hw, d4];rfl
   ·have hwnt : wnt ws (rcd vs) (i + 1) = wnt ws (rcd vs) i := by
     simp only [wnt];rw [hrid, if_neg (fun h => c2 h.2)]
    have hLn : Lw (i + 1) = Lw i := by
     rw [← hL2, hwnt];exact ft hL1
    rw [hLn];generalize ws.getD idn noO = wz at *;obtain ⟨zk, zv, zl'⟩ := wz;simp only at c2;simp only [Obj.v] at *;simp only [go_sem, aN, hs, d1, d2, hsad, hld, hrem, hw30, hmod, e1, hul, c1', hsu, hfu, hlu, c2, d4, l1, l2, hw, hlw, h20];rfl
  ·have c1' : ¬ (idn : Int) < ws.length := by omega
   have hwnt : wnt ws (rcd vs) (i + 1) = wnt ws (rcd vs) i := by
    simp only [wnt];rw [hrid, if_neg (fun h => c1 h.1)]
   have hLn : Lw (i + 1) = Lw i := by
    by_cases e : ws = []
    ·exact hc0 e i
    ·obtain ⟨_, h⟩ := hc1 e;rw [← (h i).2, hwnt];exact ft (h i).1
   rw [hLn];simp only [go_sem, aN, hs, d1, d2, hsad, hld, hrem, hw30, hmod, e1, hul, c1', d4, l1, l2, hw, hlw, h20];rfl
end
end Go.Proofs.YtilcajpldklbiaaDoor
namespace Go.Proofs.YtilcajpldklbiaaDoor
open Go.Ab
theorem Ki {hp : List Blk} {v : V} (h : (Sh.st 26 [.int .i64, .int .i64, .arr 24 8 (.int .u64)]).Fits hp v) : ∃ o : Obj, v = o.v ∧ o.Ok := by
 obtain ⟨o, rfl, h1, h2, h3⟩ := LN h;exact ⟨o, rfl, ⟨h2, h3, h1.l8, fun x hx => by have := h1.words x hx; unfold W64; omega⟩⟩
theorem vR {n : Nat} : ∀ l : List Obj, V.locLts n (l.map Obj.v) = true
 | [] => rfl
 | o :: l => by
  have := vR (n := n) l;have h1 : o.v.locLt n = true := by
   unfold Obj.v;simp only [go_sem]
  simp only [List.map_cons, V.locLts, h1, this, Bool.and_self]
theorem LS1.elems {hp : List Blk} {G : Ft} {e r : Nat} {v : V} {l : List V} (h : LS1 hp G e r v l) (L : List Blk) : St.elems ⟨L, hp⟩ v = some l := by
 rcases h with ⟨rfl, rfl⟩ | h
 ·rfl
 ·exact h.elems L
theorem LS1.shape {hp : List Blk} {G : Ft} {e r : Nat} {v : V} {l : List V} (h : LS1 hp G e r v l) : v = .nils ∨ ∃ a p o n c, v = .sl a p o n c e := by
 rcases h with ⟨rfl, rfl⟩ | h
 ·exact .inr ⟨_, _, _, _, _, rfl⟩
 ·exact h.shape
theorem Hm {hp : List Blk} {G : Ft} {u : V} {l : List V} (h : LS1 hp G 26 28 u l) (hm : l.length ≤ fB) (n base : Nat) (L : List Blk) :
 aH base false 28 26 (.sl (.loc n) [] 0 0 (some 0) 26) u ⟨L, hp⟩ = some (if l = [] then .sl (.loc n) [] 0 0 (some 0) 26 else .sl (.loc L.length) [] 0 l.length none 26, ⟨L ++ (if l = [] then [] else [.rw (.agg 28 l)]), hp⟩) := by
 by_cases hn : l = []
 ·subst hn;rw [if_pos rfl, if_pos rfl];unfold aH;rw [BP h.shape, h.elems L];simp [BS (e := 26) (.inr ⟨_, _, _, _, _, rfl⟩), St.elems]
 ·rw [if_neg hn, if_neg hn, sa (old := []) (.inr ⟨_, _, _, _, _, rfl⟩) h.shape rfl (h.elems L) hn (by simpa using hm) (.inl rfl)];simp only [nD, Option.map_some, List.length_nil, Nat.zero_add, List.length_pos_iff.2 hn, decide_true, if_true];simp [St.fresh, St.new]
theorem Im.fuse {c : Nat} {M : AM} {b : Sup} {t : Nat → Ent} {d : Nat → Int} {ct : Nat → List Int} (h : Im c M b t d ct) (k : Int) (ok : (M.fuse k).Ok) : Im c (M.fuse k) b t d ct :=
 h.sm ok rfl fun _ _ => ⟨rfl, rfl⟩
theorem u3 {ws : List Obj} {rc : Nat → Rec} (h : ∀ o ∈ ws, o.l.length = 8) : ∀ k j, ((wnt ws rc k).getD j noO).l.length = 8
 | 0, j => by
  show (ws.getD j noO).l.length = 8;by_cases hj : j < ws.length
  ·exact h _ (mF hj noO)
  ·rw [List.getD_eq_getElem?_getD, List.getElem?_eq_none (by omega)]; rfl
 | k + 1, j => by
  unfold wnt;split
  ·rename_i c;rw [zK (by rw [jG]; exact c.1)];split
   ·simp only [List.length_set]; exact u3 h k _
   ·exact u3 h k j
  ·exact u3 h k j
theorem Lb {o : Obj} (h : o.Ok) : oOk (ng o) = true ∧ (ng o).l.length = 8 ∧ (∀ x ∈ (ng o).l, W64 x) ∧ (ng o).kind ≠ 0 := by
 have h1 := pP o.kind (n := 4) (by decide);have h2 := pP o.ver (n := 100) (by decide);refine ⟨vX.2 ⟨?_, ?_, ?_⟩, h.l8, h.w, ?_⟩ <;> simp only [ng] <;> omega
theorem Kb {hp : List Blk} {r : Nat} {v : V} (h : (Sh.sl r (.int .i64)).Fits hp v) : ∃ ks : List Int, (∀ k ∈ ks, -9223372036854775808 ≤ k ∧ k ≤ 9223372036854775807) ∧ v.locLt 0 = true ∧ ∀ {hp' : List Blk} {F : Ft}, hp <+: hp' → jK hp.length F → gk hp' F v ks := by
 rcases h with rfl | ⟨i, l, c, rfl, h1, h2, h3, h4⟩
 ·exact ⟨[], by simp, rfl, fun _ _ => .nil⟩
 ·obtain ⟨ks, rfl, hk⟩ := uf (f := V.int .i64) (fun x hx => Lc (h4 x hx));refine ⟨ks, hk, rfl, fun {hp' F} hpre hab => ?_⟩;have := gk.sl (hp := hp') (F := F) i 0 c r (ks.map (V.int .i64)) ks (by simpa using h1) ?_ (by simp) (fun j hj => ?_)
  ·rw [List.length_map]; exact this
  ·rcases h3 with h3 | h3
   ·exact .inl (List.map_eq_nil_iff.1 h3)
   ·refine .inr ⟨bA hpre h3, fun hF => ?_⟩;have := hab i hF;have := ap h3;omega
  ·rw [Nat.zero_add, List.getElem?_map, List.getD_eq_getElem?_getD, List.getElem?_eq_getElem hj];rfl
theorem C9 {L hp : List Blk} {Fm : Ft} {a m fr : Nat} {x : AS} (W : bE hp Fm a m fr x) {n1 : Nat} {bv : V} {q : Int} (hn : L[n1]? = some (.rw (iN (.ptr (.hp a) [] 43) bv 0 q))) {wv : V} {ws : List Obj} (hrs : RS ⟨L, hp⟩ 26 wv (ws.map Obj.v)) (hL : L.all (aZ L.length) = true) (hwl : wv.locLt L.length = true)
 (hg : ∀ i : Nat, i < 49 → x.get i = if i < ws.length then (ws.getD i noO, 0) else (⟨0, 0, zl⟩, 30)) :
 rc D 0 (.loop [13, 18, 20] bd) [(13, wv), (18, .ptr (.loc n1) [] 41), (20, .int .i64 0)] ⟨L, hp⟩ = some (.exit 4, [(13, wv), (18, .ptr (.loc n1) [] 41), (20, .int .i64 49), (179, .bool false)], ⟨L, hp⟩) := by
 have hs := hrs.slen;rw [List.length_map] at hs;have hnl := ap hn;refine ff (fun i : Nat => [(13, wv), (18, .ptr (.loc n1) [] 41), (20, .int .i64 i)]) (fun _ => ⟨L, hp⟩) (fun _ => _) (fun i => 49 - i) (fun i => i ≤ 49) 0 ?_ (by omega) rfl rfl;intro i hi;by_cases c1 : i < 49
 ·left;have d1 : (i : Int) < 49 := by omega
  have d4 : IntKind.i64.wrap ((i : Int) + 1) = (i : Int) + 1 := ai (by omega) (by omega);have hG := fun L => ru W (i : Int) L;rw [hg i c1] at hG;refine ⟨i + 1, by omega, by omega, rfl, ?_⟩;clear hg W;by_cases c2 : i < ws.length
  ·rw [if_pos c2] at hG;have c2' : ¬ (ws.length : Int) ≤ i := by omega
   have gl := aG (f := Obj.v) (l := ws) (i := i) c2 noO;have hrs1 : RS ⟨L ++ [.rw (ws.getD i noO).v], hp⟩ 26 wv (ws.map Obj.v) := hrs.more ⟨List.prefix_append _ _, List.prefix_rfl⟩;have hld : ldv ⟨L ++ [.rw (ws.getD i noO).v], hp⟩ 26 (elq wv i [] 26) = V.at [] (ws.getD i noO).v := hrs1.ldq gl;have hsad := hrs1.sadq gl (k := .i64);have hve := zw (f := V.int .u64) (fun a => by simp [veq]) (ws.getD i noO).l;have hx : (L ++ [.rw (ws.getD i noO).v])[L.length]? = some (.rw (ws.getD i noO).v) := List.getElem?_concat_length;generalize ws.getD i noO = o at *;obtain ⟨ok, ov, ol⟩ := o;simp only [Obj.v, iN] at *;simp only [go_sem, bd, d1, hn, hG, hs, c2', hsad, hld, hve, d4, hL, hwl, hnl];rfl
  ·rw [if_neg c2] at hG;have c2' : (ws.length : Int) ≤ i := by omega
   simp only [iN, Obj.v] at *;simp only [go_sem, bd, d1, hn, hG, hs, c2', d4, hL, hwl, hnl];rfl
 ·right;have : i = 49 := by omega
  subst this;simp only [go_sem, bd]
end Go.Proofs.YtilcajpldklbiaaDoor
namespace Go.Proofs.YtilcajpldklbiaaDoor
open Go.Ab
theorem law_ReviveAgain : ∀ hp vs, G <+: hp → Sh.FitsL hp [(.sl 28 (.st 26 [(.int .i64), (.int .i64), (.arr 24 8 (.int .u64))])), (.sl 52 (.int .u64)), (.st 21 [(.int .i64), (.sl 38 (.int .i64))])] vs → ∃ s', rf D cM vs ⟨[], hp⟩ = some (.bool true, s') := by
 intro hp vs hpre hf;obtain ⟨lv, vv, pv, rfl, hl, hv, hpw⟩ := II hf;obtain ⟨ps, rfl, hps⟩ := hpw;obtain ⟨at', kv, rfl, hat, hk⟩ := IA hps;obtain ⟨c1, rfl, hc0, hc1⟩ := Lc hat;obtain ⟨l0, hrsl, hlt, hlen, hfit⟩ := uD hl;obtain ⟨l, rfl, hlo⟩ := uf (f := Obj.v) (fun x hx => Ki (hfit x hx));obtain ⟨v0, hrsv, hvt, hvlen, hvfit⟩ := uD hv;obtain ⟨v, rfl, hvo⟩ := uf (f := V.int .u64) (P := W64) (fun x hx => by
  obtain ⟨n, rfl, h1, h2⟩ := NB (hvfit x hx);exact ⟨n, rfl, by unfold W64; omega⟩)
 obtain ⟨ks, hks, hkv, hK⟩ := Kb hk;have hv1 : ∀ i, W64 (v.getD i 0) := fun i => by
  by_cases hi : i < v.length
  ·exact hvo _ (mF hi 0)
  ·rw [List.getD_eq_getElem?_getD, List.getElem?_eq_none (by omega)]; exact ⟨by decide, by decide⟩
 have hG := K5 hpre;let P : Blk := .rw (.agg 21 [.int .i64 c1, kv]);let E : Blk := .rw (.agg 28 []);have hP : ∀ n, aZ n P = true := fun n => by
  have := bf (Nat.zero_le n) hkv;simp only [P];simp only [go_sem, this]
 have hE : ∀ n, aZ n E = true := fun n => rfl;obtain ⟨h0, e0, p0⟩ := Du [P] hG;have hG0 := bA p0 hG;have hp0 : 0 < h0.length := ap hG0;obtain ⟨X0, hx0, e1, m0⟩ := wZ (n := 128) (by omega) (by omega) h0 [P];rw [show ((128 : Nat) : Int) = 128 from rfl] at e1
 have ab0 : jK h0.length fun j => j = h0.length ∨ j = h0.length + 1 := fun j hj => by rcases hj with rfl | rfl <;> omega
 have p1 : hp <+: h0 ++ X0 := p0.trans (List.prefix_append _ _);have hl0 := p0.length_le;have bb : jK hp.length fun j => j = h0.length ∨ j = h0.length + 1 := fun j hj => by rcases hj with rfl | rfl <;> omega
 generalize hm : h0.length + 1 = m at *;generalize h0 ++ X0 = h1 at *;obtain ⟨h2, U, u, e2, hu, cu, p12, abu, inu⟩ := AC (m := m) (vv := vv) hlo (hrsl.more ⟨List.nil_prefix, p1⟩) hlt hvt P E hP hE (min l.length 30) 0 (G := fun _ => False) (hp := h1) (u := .sl (.loc 1) [] 0 0 (some 0) 26) (by omega) (.inl ⟨rfl, rfl⟩) List.prefix_rfl (fun _ h => h.elim) (fun _ h => h.elim);rw [show ((0 : Nat) : Int) = 0 from rfl] at e2
 obtain ⟨X2, hX2⟩ := p12;have m2 : ay h2 (fun j => j = h0.length ∨ j = m) m (am0 128 fun _ => zl) := by rw [← hX2]; exact m0.snoc X2
 have ap2 : gV (fun j => j = h0.length ∨ j = m) U := fun j h1 h2 => by
  have := abu j h2;have := m0.inn j h1;omega
 have p2 : hp <+: h2 := by rw [← hX2]; exact p1.trans (List.prefix_append _ _)
 obtain ⟨ws, hws⟩ : ∃ ws, ws = mA l (min l.length 30) := ⟨_, rfl⟩;rw [← hws] at hu;have hwl : ws.length = min l.length 30 := by rw [hws]; exact yH (by omega)
 have hwo : ∀ o ∈ ws, oOk o = true ∧ o.l.length = 8 ∧ (∀ x ∈ o.l, W64 x) ∧ o.kind ≠ 0 := fun o ho => by
  rw [hws] at ho;unfold mA at ho;obtain ⟨q, hq, rfl⟩ := List.mem_map.1 ho;exact Lb (hlo q (List.mem_of_mem_take hq))
 have h8 : ∀ o ∈ ws, o.l.length = 8 := fun o ho => (hwo o ho).2.1;have h30 : ws.length ≤ 30 := by omega
 have hul : u.locLt 2 = true := hu.ltb (Nat.le_refl _);obtain ⟨h3, F3, e3, m3, g3⟩ := wT (m := m) (L := [P, E]) (lv := u) hul (l := ws) (fun X hp' F' hg => (hu.eqv (hg.eqv ap2 inu)).rs (by simp)) h8 (by omega) 2 m2 (by show (0 : Int) + 2000 < 1000000; decide);have hu3 := hu.eqv (g3.eqv ap2 inu);have ap3 := g3.apart ap2 inu;have in3 := inu.more g3;obtain ⟨p3, b3⟩ := g3.pre p2 bb;have hcnt := wx ws;have hfm := DX (N := 128) (c := 2) (by omega) (by omega) (l := ws) (List.all_eq_true.2 fun o ho => (hwo o ho).1) h8 (by omega) (by omega) (by omega);rw [show ((2 : Nat) : Int) = 2 from rfl] at hfm
 obtain ⟨k1, k2, k3, b, t, d, ct, im, kg, kq, klog, kobj, kno⟩ := hfm;obtain ⟨r1, r2, r3⟩ := IT (yV 128) 2 (l := ws) (fun o ho => (hwo o ho).2.2.1);rw [show (am0 128 fun _ => zl).count = 0 from rfl] at r3
 rw [k1] at e3;generalize ((am0 128 fun _ => zl).fmt 2 ws).1 = M3 at *;have now3 : ∀ j, 2 ≤ j → j < 10 → M3.now j = lg (rcd v) 0 j := fun j h1 h2 => by
  rw [(im.sur j (.inl (by omega))).now, klog j h1 (by omega)];unfold lg;simp
 let Lw : Nat → List Blk := fun i => [P, E, E] ++ (if ws = [] then [] else [.rw (.agg 28 ((wnt ws (rcd v) i).map Obj.v))])
 obtain ⟨wv, hwv⟩ : ∃ wv : V, wv = if ws = [] then .sl (.loc 2) [] 0 0 (some 0) 26 else .sl (.loc 3) [] 0 ws.length none 26 := ⟨_, rfl⟩
 have hLl : ∀ i, (Lw i).length = if ws = [] then 3 else 4 := fun i => by simp only [Lw]; split <;> rfl
 have e4 : ∀ base, aH base false 28 26 (.sl (.loc 2) [] 0 0 (some 0) 26) u ⟨[P, E, E], h3⟩ = some (wv, ⟨Lw 0, h3⟩) := fun base => by
  have := Hm hu3 (by rw [List.length_map]; unfold fB; omega) 2 base [P, E, E];rw [this, hwv];simp only [Lw, List.map_eq_nil_iff, List.length_map];rfl
 have hlw : ∀ i, (Lw i).all (aZ (Lw i).length) = true := fun i => by
  have h2 : aZ (Lw i).length (.rw (.agg 28 ((wnt ws (rcd v) i).map Obj.v))) = true := by
   have := vR (n := (Lw i).length) (wnt ws (rcd v) i);generalize (Lw i).length = n at *;simp only [go_sem, this]
  have hPn := hP (Lw i).length;have hEn := hE (Lw i).length;generalize (Lw i).length = n at *;simp only [Lw];split
  ·simp only [List.append_nil, List.all_cons, List.all_nil, hPn, hEn, Bool.and_true]
  ·simp only [List.cons_append, List.nil_append, List.all_cons, List.all_nil, hPn, hEn, h2, Bool.and_true]
 have hwvl : ∀ i, wv.locLt (Lw i).length = true := fun i => by
  rw [hwv, hLl];split
  ·rfl
  ·rfl
 obtain ⟨h5, F5, M5, e5, m5, im5, on5, rg5, n5, c5, now5, p5, b5⟩ := xW (H := hp) hv1 hrsv hvt h30 (u3 h8) (u := u) (wv := wv) (b := b) (t := t) (d := d) (ct := ct) Lw (fun i => by rw [hLl]; split <;> omega) hlw hwvl
  (fun he i => by simp only [Lw, if_pos he]) (fun he => by
   refine ⟨by rw [hwv, if_neg he], fun i => ?_⟩;simp only [Lw, if_neg he];exact ⟨rfl, rfl⟩) (min v.length 4) 0 (by omega) m3 im k2 r1 (by omega) now3 hu3 ap3 in3 p3 b3
 rw [show ((0 : Nat) : Int) = 0 from rfl] at e5
 obtain ⟨kk, hkk⟩ : ∃ kk, kk = min v.length 4 := ⟨_, rfl⟩;rw [← hkk] at e5 now5 c5;have hk4 : kk ≤ 4 := by omega
 have hkd := fun s => qF c1 60 hc0 hc1 (by decide) s;have hkr := pP c1 (n := 60) (by decide);obtain ⟨h6, e6, m6, g6⟩ := CM m5 (kd c1 60) (by omega) (Lw kk);have im6 := im5.fuse (kd c1 60) m6.ok;have rg6 := rg5.fuse (kd c1 60);obtain ⟨p6, b6⟩ := g6.pre p5 b5;have hrc6 : aE (M5.fuse (kd c1 60)) 2 (4 * 2) = aE M5 2 8 := rL _ _ fun _ _ _ => rfl;obtain ⟨rk1, rk2⟩ := yl (v := v) hv1 hk4 now5;have hz6 : ¬ F5 0 := fun h => by have := b6 0 h; have := ap hG; omega
 obtain ⟨h7, F7, M7, v7, e7', e7, m7, g7, im7, n7, rg7, c7, now7⟩ := GR m6 im6 (show M5.off = false from on5.off) (bA p6 hG) hz6 rg6 (by rw [hrc6, rk2]; omega) (by show M5.count + 400 < 1000000; omega) (Lw kk)
 have c7 : M7.count ≤ M5.count + 64 := c7;have n7 : M7.n = M5.n := n7;have now7 : ∀ j, j < 10 → M7.now j = M5.now j := fun j hj => now7 j hj;obtain ⟨p7, b7⟩ := g7.pre p6 b6;obtain ⟨h8', F8, e8, m8, g8⟩ := sI m7 (by omega) (hK p7 b7) hks (Lw kk);obtain ⟨p8, b8⟩ := g8.pre p7 b7;have im8 := im7.crash ks m8.ok;have rg8 := rg7.crash ks;have c8 : (M7.crash ks).count = M7.count := (ig M7.n 0 (M := M7) (ks := ks)).2;have n8 : (M7.crash ks).n = M7.n := (ig M7.n 0 (M := M7) (ks := ks)).1;have on8 : (M7.crash ks).On := ⟨rfl, rfl⟩;have now8 : ∀ j, 2 ≤ j → j < 10 → (M7.crash ks).now j = lg (rcd v) kk j := fun j h1 h2 => by
  rw [(tN (im7.sur j (.inl (by omega)))).now, now7 j h2, now5 j h1 h2]
 generalize M7.crash ks = M8 at *;obtain ⟨rk3, rk4⟩ := yl (v := v) hv1 hk4 now8;have hz8 : ¬ F8 0 := fun h => by have := b8 0 h; have := ap hG; omega
 obtain ⟨h9, F9, a9, fr9, x9, e9, W9, g9, on9, im9, n9, rg9, c9, now9, _⟩ := rS m8 im8 on8 (bA p8 hG) hz8 rg8 (by rw [show 4 * 2 = 8 from rfl, rk4]; omega) (by rw [show 4 * 2 = 8 from rfl, rk4]; omega) (by omega) (Lw kk)
 rw [show 4 * 2 = 8 from rfl, rk3, kq, Fx hk4] at e9
 have c9 : x9.M.count ≤ M8.count + 64 := c9;obtain ⟨p9, b9⟩ := g9.pre p8 b8;have b9' : jK hp.length F9 := fun j hj => b9 j (.inr (.inr hj));obtain ⟨h10, F10, e10, m10, g10⟩ := sI W9.mp (by omega) (hK p9 b9') hks (Lw kk ++ [.rw (iN (.ptr (.hp a9) [] 43) b.v 0 (kk + 1))]);obtain ⟨p10, b10⟩ := g10.pre p9 b9';have im10 := im9.crash ks m10.ok;have rg10 := rg9.crash ks;have c10 : (x9.M.crash ks).count = x9.M.count := (ig x9.M.n 0 (M := x9.M) (ks := ks)).2;have n10 : (x9.M.crash ks).n = x9.M.n := (ig x9.M.n 0 (M := x9.M) (ks := ks)).1;have on10 : (x9.M.crash ks).On := ⟨rfl, rfl⟩;have now10 : ∀ j, 2 ≤ j → j < 10 → (x9.M.crash ks).now j = lg (rcd v) kk j := fun j h1 h2 => by
  rw [(tN (im9.sur j (.inl (by omega)))).now, now9 j (by omega), now8 j h1 h2]
 generalize x9.M.crash ks = M10 at *;obtain ⟨rk5, rk6⟩ := yl (v := v) hv1 hk4 now10;have hz10 : ¬ F10 0 := fun h => by have := b10 0 h; have := ap hG; omega
 obtain ⟨h11, F11, a11, fr11, x11, e11, W11, g11, on11, im11, n11, rg11, c11, now11, inv11, kv11, ct11, _⟩ := rS m10 im10 on10 (bA p10 hG) hz10 rg10 (by rw [show 4 * 2 = 8 from rfl, rk6]; omega) (by rw [show 4 * 2 = 8 from rfl, rk6]; omega) (by omega) (Lw kk ++ [.rw (iN (.ptr (.hp a9) [] 43) b.v 0 (kk + 1))])
 rw [show 4 * 2 = 8 from rfl, rk5, kq, Fx hk4] at e11
 rw [show 4 * 2 = 8 from rfl, rk5, kq] at ct11
 have w1 : IntKind.i64.wrap (1 + (kk : Int)) = (kk : Int) + 1 := by rw [ai (by omega) (by omega)]; omega
 have hbv : ∀ n, V.locLt n b.v = true := fun n => by cases b; rfl
 have hbt : b.v.tag = 44 := by cases b; rfl
 have hsv := hrsv.slen;rw [List.length_map] at hsv;have hwW : ((wnt ws (rcd v) kk).map Obj.v).length = ws.length := by rw [List.length_map, jG]
 have hget : ∀ i : Nat, i < 49 → x11.get i = if i < (wnt ws (rcd v) kk).length then ((wnt ws (rcd v) kk).getD i noO, 0) else (⟨0, 0, zl⟩, 30) := fun i hi => by
  have ht : ∀ j, (t j).kind = (ws.getD j noO).kind := fun j => by
   by_cases hj : j < ws.length
   ·exact (kobj j hj).1
   ·rw [kno j (by omega), List.getD_eq_getElem?_getD, List.getElem?_eq_none (by omega)]; rfl
  rw [zR inv11 on11 (t := t) (ct := fun i => gR 0 t i (ct i) ((List.range kk).map (rcd v))) hi (kv11 i hi) fun hk => ct11 i hi hk];unfold uG;dsimp only;rw [jG];by_cases hj : i < ws.length
  ·have hk0 : (ws.getD i noO).kind ≠ 0 := (hwo _ (mF hj noO)).2.2.2;obtain ⟨q1, q2, q3⟩ := kobj i hj;rw [if_pos hj, if_neg (by rw [q1]; exact hk0), BW ht kk hk4 i hj, q1, q2, q3 hk0]
  ·rw [if_neg hj, if_pos (by rw [kno i (by omega)]; rfl)]
 have hwrs : ∀ X, RS ⟨Lw kk ++ X, h11⟩ 26 wv ((wnt ws (rcd v) kk).map Obj.v) := fun X => by
  by_cases hj : ws = []
  ·have hwn : wnt ws (rcd v) kk = [] := List.eq_nil_of_length_eq_zero (by rw [jG, hj]; rfl);rw [hwn, hwv, if_pos hj];refine .inr ⟨_, _, _, _, rfl, fun c hc => by cases hc; exact Nat.le_refl _, ?_, .inl rfl⟩;have := hLl kk;simp only [V.locLt, decide_eq_true_eq, List.length_append];rw [if_pos hj] at this; omega
  ·rw [hwv, if_neg hj, ← hwW];refine .inr ⟨.loc 3, [], 0, none, rfl, fun c hc => (by cases hc), ?_, .inr ⟨28, (wnt ws (rcd v) kk).map Obj.v, ?_, fun j x hx => by rw [Nat.zero_add]; exact hx⟩⟩
   ·have := hLl kk;simp only [V.locLt, decide_eq_true_eq, List.length_append];rw [if_neg hj] at this; omega
   ·have h3 : (Lw kk ++ X)[3]? = some (.rw (.agg 28 ((wnt ws (rcd v) kk).map Obj.v))) := by
     simp only [Lw, if_neg hj];rfl
    simp only [St.read, St.at, h3, V.at]
 let A : Blk := .rw (iN (.ptr (.hp a9) [] 43) b.v 0 (kk + 1));let B : Blk := .rw (iN (.ptr (.hp a11) [] 43) b.v 0 (kk + 1));have hAl : ∀ n, aZ n A = true := fun n => by
  have := hbv n;simp only [A, iN];simp only [go_sem, this]
 have hBl : ∀ n, aZ n B = true := fun n => by
  have := hbv n;simp only [B, iN];simp only [go_sem, this]
 have hLL : ((Lw kk ++ [A]) ++ [B]).all (aZ ((Lw kk ++ [A]) ++ [B]).length) = true := by
  have hl5 : ((Lw kk ++ [A]) ++ [B]).length = (Lw kk).length + 2 := by simp
  rw [hl5, List.all_append, List.all_append];have h1 : (Lw kk).all (aZ ((Lw kk).length + 2)) = true := by
   have h2 : aZ ((Lw kk).length + 2) (.rw (.agg 28 ((wnt ws (rcd v) kk).map Obj.v))) = true := by
    have := vR (n := (Lw kk).length + 2) (wnt ws (rcd v) kk);generalize (Lw kk).length = n at *;simp only [go_sem, this]
   have hPn := hP ((Lw kk).length + 2);have hEn := hE ((Lw kk).length + 2);generalize (Lw kk).length = n at *;simp only [Lw];split
   ·simp only [List.append_nil, List.all_cons, List.all_nil, hPn, hEn, Bool.and_true]
   ·simp only [List.cons_append, List.nil_append, List.all_cons, List.all_nil, hPn, hEn, h2, Bool.and_true]
  rw [h1];simp only [List.all_cons, List.all_nil, hAl, hBl, Bool.and_true]
 have hB : ((Lw kk ++ [A]) ++ [B])[(Lw kk).length + 1]? = some B := by
  have : (Lw kk).length + 1 = (Lw kk ++ [A]).length := by simp
  rw [this]; exact List.getElem?_concat_length
 have hA : ((Lw kk ++ [A]) ++ [B])[(Lw kk).length]? = some A := by
  rw [List.getElem?_append_left (by simp)]; exact List.getElem?_concat_length
 have e12 := C9 W11 (L := (Lw kk ++ [A]) ++ [B]) (n1 := (Lw kk).length + 1) (wv := wv) (ws := wnt ws (rcd v) kk) hB (by rw [List.append_assoc]; exact hwrs _) hLL (bf (by simp only [List.length_append]; omega) (hwvl kk)) hget;have hL0 : (Lw kk)[0]? = some P := rfl;have hL1 : (Lw kk ++ [A])[0]? = some P := rfl;clear W9 W11 m0 m2 m3 m5 m6 m7 m8 m10 im im5 im6 im7 im8 im9 im10 im11 hget hwrs hLL;refine ⟨⟨[], h11⟩, ?_⟩;generalize hLk : Lw kk = LK at *;simp only [P, E, A, B, iN] at *;rw [ae kD rfl];simp only [go_sem, e0, e1];simp only [List.replicate_zero];simp only [go_sem, e2];simp only [go_sem, e3, List.replicate_zero, e4];simp only [go_sem, e5];simp only [go_sem, hL0, hkd, e6, e7, e8];have hmin : min (v.length : Int) 4 = kk := by omega
 simp only [List.append_assoc, List.cons_append, List.nil_append] at e12;simp only [go_sem, e9, hbv, hL1, e10];simp only [go_sem, e11, hbv];simp only [go_sem, hsv, hmin, w1, e12]
end Go.Proofs.YtilcajpldklbiaaDoor
