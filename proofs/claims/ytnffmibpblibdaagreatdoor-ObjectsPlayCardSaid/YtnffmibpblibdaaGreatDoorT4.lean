/-
  YtnffmibpblibdaaGreatDoorT4: what functions of the program compute (ObjC, ObjD, FraQ, SofB, StoN, ObjE, LobH, MemQ, MemR, MemN, MemF, StoD, StoE, StoF, StoG, StoH, StoI, StoJ, StoK, StoL).
-/
import Derived.Test.YtnffmibpblibdaaGreatDoorT1
import Derived.Test.YtnffmibpblibdaaGreatDoorT2
import Derived.Test.YtnffmibpblibdaaGreatDoorT3
set_option maxRecDepth 100000
namespace Go.Proofs.YtnffmibpblibdaaGreatDoor
open Go.Ab
structure Apd (L0 : List Blk) (X : List Blk) (v : V) (l : List Int) : Prop where
 at' : (l = [] ∧ v = .nils) ∨ (∃ Y, X = Y ++ [.rw (.agg 38 (l.map (.int .i64)))] ∧ v = .sl (.hp (L0.length + Y.length)) [] 0 l.length none 10)
theorem Apd.push {L0 X : List Blk} {v : V} {l : List Int} (h : Apd L0 X v l) {loc : List Blk} (hl : l.length < 1000) (x : Int) {y : V} (hy : y = .nils ∨ ∃ a p o n c, y = .sl a p o n c 10) (hyl : St.elems ⟨loc, L0 ++ X⟩ y = some [.int .i64 x]) {base : Nat} :
 ∃ X' v', aA base true 38 10 v y ⟨loc, L0 ++ X⟩ = some (v', ⟨loc, L0 ++ X'⟩) ∧ Apd L0 X' v' (l ++ [x]) := by
 rcases h.at' with ⟨rfl, rfl⟩ | ⟨Y, rfl, rfl⟩
 ·refine ⟨X ++ [.rw (.agg 38 [.int .i64 x])], _, ?_, ⟨.inr ⟨X, rfl, rfl⟩⟩⟩;rw [w6 hy hyl (by simp) (by simp [cq]) rfl];simp only [go_sem]
 ·refine ⟨Y ++ [.dead] ++ [.rw (.agg 38 ((l ++ [x]).map (.int .i64)))], _, ?_, ⟨.inr ⟨Y ++ [.dead], rfl, rfl⟩⟩⟩;have e1 : St.elems ⟨loc, L0 ++ (Y ++ [.rw (.agg 38 (l.map (.int .i64)))])⟩ (.sl (.hp (L0.length + Y.length)) [] 0 l.length none 10) = some (l.map (.int .i64)) :=
   dH (t := 38) (by rw [← List.append_assoc, ← List.length_append]; simp only [go_sem]) (by simp)
  have e2 : St.at ⟨loc, L0 ++ (Y ++ [.rw (.agg 38 (l.map (.int .i64)))])⟩ (.hp (L0.length + Y.length)) = some (.rw (.agg 38 (l.map (.int .i64)))) := by
   rw [← List.append_assoc, ← List.length_append]; simp [St.at]
  rw [zQ hy e1 hyl (by simp) (by simp [cq]; omega) rfl e2];have e3 : (St.set ⟨loc, L0 ++ (Y ++ [.rw (.agg 38 (l.map (.int .i64)))])⟩ (.hp (L0.length + Y.length)) .dead) = ⟨loc, L0 ++ (Y ++ [.dead])⟩ := by
   simp only [St.set];rw [← List.append_assoc, ← List.length_append, List.set_append_right _ _ (Nat.le_refl _)];simp
  rw [e3];simp only [go_sem];simp
theorem Apd.elems {L0 X : List Blk} {v : V} {l : List Int} (h : Apd L0 X v l) {loc : List Blk} : St.elems ⟨loc, L0 ++ X⟩ v = some (l.map (.int .i64)) := by
 rcases h.at' with ⟨rfl, rfl⟩ | ⟨Y, rfl, rfl⟩
 ·rfl
 ·exact dH (t := 38) (by rw [← List.append_assoc, ← List.length_append]; simp only [go_sem]) (by simp)
theorem sN (t : Nat → Ent) : ∀ (n i : Nat), aJ t i (n + 1) = aJ t i n ++ if (t (i + n)).kind = 0 then [] else [(t (i + n)).line]
 | 0, i => by simp only [aJ, Nat.add_zero]; split <;> rfl
 | n + 1, i => by
  rw [aJ, sN t n (i + 1), aJ, show i + 1 + n = i + (n + 1) by omega];split <;> simp
theorem jn (t : Nat → Ent) : ∀ (n i : Nat), (aJ t i n).length ≤ n
 | 0, i => Nat.le_refl _
 | n + 1, i => by
  have := jn t n (i + 1);simp only [aJ];split
  ·omega
  ·simp only [List.length_cons]; omega
theorem mH (t : Nat → Ent) (s : St) : ∃ X v, Apd s.hp X v (aJ t 0 49) ∧ rf D aK [aj t] s = some (v, ⟨s.loc, s.hp ++ X⟩) := by
 have loop : ∃ r, rc D s.loc.length (.loop [1, 3, 4] cS) [(1, .ptr (.loc s.loc.length) [] 48), (3, .nils), (4, .int .i64 0)] ⟨s.loc ++ [.rw (aj t)], s.hp⟩ = some r ∧
  ∃ X v, Apd s.hp X v (aJ t 0 49) ∧ r = (.exit 0, [(1, .ptr (.loc s.loc.length) [] 48), (3, v), (4, .int .i64 49), (6, .bool false)], ⟨s.loc ++ [.rw (aj t)], s.hp ++ X⟩) := by
  refine j4 (fun x : Nat × List Blk × V => [(1, .ptr (.loc s.loc.length) [] 48), (3, x.2.2), (4, .int .i64 x.1)]) (fun x => ⟨s.loc ++ [.rw (aj t)], s.hp ++ x.2.1⟩) _ (fun x => 49 - x.1)
   (fun x => x.1 ≤ 49 ∧ Apd s.hp x.2.1 x.2.2 (aJ t 0 x.1)) (0, [], .nils) ?_ ⟨by simp only; omega, ⟨.inl ⟨rfl, rfl⟩⟩⟩ rfl (by simp)
  rintro ⟨i, X, v⟩ ⟨hi, ha⟩;simp only at hi ha;by_cases c1 : i < 49
  ·left;have d1 : (i : Int) < 49 := by omega
   have d2 : (0 : Int) ≤ i := by omega
   have d4 : IntKind.i64.wrap ((i : Int) + 1) = (i : Int) + 1 := ao (by omega) (by omega);have d5 : s.loc.length < s.loc.length + 1 := Nat.lt_succ_self _;have g1 := aG (f := fun i => (t i).v) c1;have hsn := sN t i 0;rw [Nat.zero_add] at hsn;have hv : v.locLt (s.loc.length + 1) = true := by
    rcases ha.at' with ⟨_, rfl⟩ | ⟨Y, _, rfl⟩ <;> simp only [go_sem]
   by_cases hk : (t i).kind = 0
   ·rw [if_pos hk, List.append_nil] at hsn;refine ⟨(i + 1, X, v), ⟨by simp only; omega, by simp only; rw [hsn]; exact ha⟩, by simp only; omega, ?_⟩;simp only [aj, Ent.v] at *;simp only [hk] at g1;generalize tab 49 (fun i => V.agg 42 [.int .i64 (t i).kind, .int .i64 (t i).ver, .int .i64 (t i).line]) = T at *;simp only [go_sem, cS, d1, d2];rw [Int.toNat_natCast];simp only [go_sem, g1, d4, hv, d5];rfl
   ·rw [if_neg hk] at hsn;have hll := jn t i 0;obtain ⟨X', v', e1, ha'⟩ := ha.push (loc := s.loc ++ [.rw (aj t), .rw (.agg 38 [.int .i64 (t i).line])]) (by omega) (t i).line (y := .sl (.loc (s.loc.length + 1)) [] 0 1 (some 1) 10) (.inr ⟨_, _, _, _, _, rfl⟩)
     (dH (t := 38) (by simp only [go_sem]) rfl) (base := s.loc.length)
    have hv' : v'.locLt (s.loc.length + 1) = true := by
     rcases ha'.at' with ⟨_, rfl⟩ | ⟨Y, _, rfl⟩ <;> simp only [go_sem]
    refine ⟨(i + 1, X', v'), ⟨by simp only; omega, by simp only; rw [hsn]; exact ha'⟩, by simp only; omega, ?_⟩;simp only [aj, Ent.v] at *;generalize tab 49 (fun i => V.agg 42 [.int .i64 (t i).kind, .int .i64 (t i).ver, .int .i64 (t i).line]) = T at *;simp only [go_sem, cS, d1, d2];rw [Int.toNat_natCast];simp only [go_sem, g1, hk, d1, d2];rw [Int.toNat_natCast];simp only [go_sem, g1, d4, List.replicate, e1, hv', d5];rfl
  ·right;have : i = 49 := by omega
   subst this;refine ⟨_, ?_, X, v, ha, rfl⟩;simp only [go_sem, cS]
 obtain ⟨_, hl, X, v, ha, rfl⟩ := loop;refine ⟨X, v, ha, ?_⟩;have hv : v.locLt s.loc.length = true := by
  rcases ha.at' with ⟨_, rfl⟩ | ⟨Y, _, rfl⟩ <;> simp only [go_sem]
 simp only [aj] at *;rw [ah oG rfl];simp only [go_sem, hl, hv]
end Go.Proofs.YtnffmibpblibdaaGreatDoor
namespace Go.Proofs.YtnffmibpblibdaaGreatDoor
open Go.Ab
structure kX (f : Int) (n : Nat) (w : List Nat) (S : List Int) : Prop where
 len : (S.length : Int) = n - f
 ok : OkS w
 eq : ∀ k : Nat, k < S.length → S.getD k 0 = if bit w (f.toNat + k) then 0 else 1
theorem kX.st {f : Int} {n : Nat} {w : List Nat} {S : List Int} (h : kX f n w S) (h0 : 0 ≤ f) (x : Int) : stS f S x = cB f n w (w16 []) x := by
 have hl := h.len;unfold stS cB;by_cases c1 : x < f
 ·rw [if_pos (.inl c1), if_pos (.inl c1)]
 ·by_cases c2 : (n : Int) ≤ x
  ·rw [if_pos (.inr (by omega)), if_pos (.inr c2)]
  ·rw [if_neg (by omega), if_neg (by omega), h.eq _ (by omega), pu];have : f.toNat + (x - f).toNat = x.toNat := by omega
   rw [this]; simp
theorem kX.take {f : Int} {n : Nat} {w : List Nat} {S : List Int} (h : kX f n w S) (h0 : 0 ≤ f) (h1 : n ≤ 1024) {x : Int} (hx : cB f n w (w16 []) x = 0) : kX f n (flip w x.toNat) (S.set (x - f).toNat 1) := by
 have hl := h.len;have hr := nv (show cB f n w (w16 []) x ≠ -1 by rw [hx]; decide);have hb : bit w x.toNat = true := by
  unfold cB at hx;rw [if_neg (by omega), pu] at hx;split at hx
  ·assumption
  ·simp at hx
 refine ⟨by rw [List.length_set]; exact hl, h.ok.flip (by omega), fun k hk => ?_⟩;rw [List.length_set] at hk;rw [vL (by omega), tz h.ok (by omega)];by_cases e : (x - f).toNat = k
 ·have : x.toNat = f.toNat + k := by omega
  rw [if_pos e, ← this, hb]; simp
 ·have : ¬ x.toNat = f.toNat + k := by omega
  rw [if_neg e, h.eq k hk]; simp [this]
structure InI (ls : List Int) : Prop where
 lt : ∀ x ∈ ls, x ≤ 9223372036854775807
theorem VM (d : Nat → Int) : tab 8 (fun i => V.int .i64 (d i)) = (dX d 0 8).map (.int .i64) := rfl
theorem AV (L H : List Blk) (P6 P7 P0 v12 : V) (b c : Nat) (f : Int) (n : Nat) (ls : List Int) (h0 : 0 ≤ f) (h1 : n ≤ 1024) (w0 : List Nat) (S0 : List Int) (hA : kX f n w0 S0) (base : Nat)
 (hH : Rf ⟨L, H⟩ b c f S0) (hv : ∀ k, k < ls.length → co 10 v12 (.int .i64 (k : Int)) = some (elp v12 k) ∧ (∀ H', ldv ⟨L, H'⟩ 10 (elp v12 k) = some (.int .i64 (ls.getD k 0)))) (hsl : V.slen false v12 = some ls.length) (hls : InI ls)
 (hll : ls.length < 1000) (hs6 : fK base L.length [(0, P0), (6, P6), (7, P7), (10, .ptr (.hp b) [] 21), (12, v12), (13, .int .i64 0)] ⟨L, []⟩ = true) :
 ∃ r, rc D base (.loop [0, 6, 7, 10, 12, 13] dS) [(0, P0), (6, P6), (7, P7), (10, .ptr (.hp b) [] 21), (12, v12), (13, .int .i64 0)] ⟨L, H⟩ = some r ∧
  ((bS f n ls w0 = none ∧ ∃ S' : List Int, r = (.ret, [(8, .nilp), (9, .int .i64 21)], ⟨L, H.set c (.rw (.agg 38 (S'.map (.int .i64))))⟩)) ∨
   (∃ (w : List Nat) (S' : List Int), bS f n ls w0 = some w ∧ kX f n w S' ∧ r = (.exit 0, [(0, P0), (6, P6), (7, P7), (10, .ptr (.hp b) [] 21), (12, v12), (13, .int .i64 ls.length), (33, .bool false)], ⟨L, H.set c (.rw (.agg 38 (S'.map (.int .i64))))⟩))) := by
 have hc := (List.getElem?_eq_some_iff.1 hH.sb).1;have hlen0 := hA.len;refine j4 (fun x : Nat × List Nat × List Int => [(0, P0), (6, P6), (7, P7), (10, .ptr (.hp b) [] 21), (12, v12), (13, .int .i64 x.1)]) (fun x => ⟨L, H.set c (.rw (.agg 38 (x.2.2.map (.int .i64))))⟩) _ (fun x => ls.length - x.1)
  (fun x => x.1 ≤ ls.length ∧ kX f n x.2.1 x.2.2 ∧ bS f n ls w0 = bS f n (ls.drop x.1) x.2.1) (0, w0, S0) ?_ ⟨by simp only; omega, hA, rfl⟩ rfl (by simp only; rw [nC hH.sb])
 rintro ⟨i, w, S⟩ ⟨hi, hal, htk⟩;simp only at hi hal htk;have hbc : b ≠ c := by
  intro e;subst e;have := hH.rb.symm.trans hH.sb;simp [rfV] at this
 have hlen := hal.len;have hR : Rf ⟨L, H.set c (.rw (.agg 38 (S.map (.int .i64))))⟩ b c f S := ⟨by rw [List.getElem?_set_ne (Ne.symm hbc)]; have := hH.rb; rw [show S.length = S0.length by omega]; exact this, List.getElem?_set_self hc, h0, by omega⟩;simp only [fK, List.all_cons, List.all_nil, Bool.and_true, Bool.and_eq_true, decide_eq_true_eq] at hs6;obtain ⟨⟨_, g1, g2, g3, _, g5, _⟩, g7⟩ := hs6;rw [List.take_length] at g7;by_cases c1 : i < ls.length
 ·obtain ⟨q1, q2⟩ := hv i c1;have d1 : (i : Int) < ls.length := by omega
  have d4 : IntKind.i64.wrap ((i : Int) + 1) = (i : Int) + 1 := ao (by omega) (by omega);have hx : ls.drop i = ls.getD i 0 :: ls.drop (i + 1) := by
   rw [List.getD_eq_getElem?_getD, List.getElem?_eq_getElem c1, Option.getD_some];exact List.drop_eq_getElem_cons c1
  rw [hx] at htk;simp only [bS] at htk;have hxi := hls.lt _ (xZ c1 0);generalize ls.getD i 0 = x at *;have hst := hal.st h0 x;have r1 := GD hR x hxi;rw [lY hR x hxi 0 1, hst] at r1;by_cases hz : cB f n w (w16 []) x = 0
  ·left;rw [if_pos hz] at htk;rw [hz] at r1;simp only [show ¬ ((0 : Int) < 0) by decide, if_false, ne_eq, not_true_eq_false, List.set_set] at r1;refine ⟨(i + 1, flip w x.toNat, S.set (x - f).toNat 1), ⟨by simp only; omega, hal.take h0 h1 hz, htk⟩, by simp only; omega, ?_⟩;simp only;generalize S.set (x - f).toNat 1 = S2 at *;simp only [go_sem, dS, hsl, d1, q1, q2, r1, d4, g1, g2, g3, g5, g7];rfl
  ·right;rw [if_neg hz] at htk;have hr : rf D br [.ptr (.hp b) [] 21, .int .i64 x] ⟨L, H.set c (.rw (.agg 38 (S.map (.int .i64))))⟩ = some (.int .i64 1, ⟨L, H.set c (.rw (.agg 38 (S.map (.int .i64))))⟩) ∨
    rf D br [.ptr (.hp b) [] 21, .int .i64 x] ⟨L, H.set c (.rw (.agg 38 (S.map (.int .i64))))⟩ = some (.int .i64 3, ⟨L, H.set c (.rw (.agg 38 (S.map (.int .i64))))⟩) := by
    rw [r1];by_cases hn : cB f n w (w16 []) x < 0
    ·left; rw [if_pos hn]
    ·right; rw [if_neg hn, if_pos hz]
   refine ⟨_, ?_, .inl ⟨htk, S, rfl⟩⟩;rcases hr with hr | hr <;> simp only [go_sem, dS, hsl, d1, q1, q2, hr]
 ·right;have : i = ls.length := by omega
  subst this;have d1 : ¬ ((ls.length : Nat) : Int) < ls.length := by omega
  refine ⟨_, ?_, .inr ⟨w, S, by rw [htk, List.drop_length]; rfl, hal, rfl⟩⟩;simp only [go_sem, dS, hsl, d1]
structure bF where
 m : Nat
 fr : Nat
 work : Nat → Ent
 base : Nat → Ent
 dir : Nat → Int
 mark : Nat → Ent
 marked : Bool
def bF.v (x : bF) : V := .agg 31 [.ptr (.hp x.m) [] 33, .ptr (.hp x.fr) [] 21, aj x.work, aj x.base, ax x.dir, aj x.mark, .bool x.marked]
theorem nJ (d : Nat → Int) : (dX d 0 8).length = 8 := rfl
theorem uL {ls : List Int} {k : Nat} (h : k < ls.length) : (ls.map (V.int .i64))[k]? = some (.int .i64 (ls.getD k 0)) := ck h 0
theorem Uc (L0 H : List Blk) (t d : V) (dd : Nat → Int) (hd : d = ax dd) {X : List Blk} {v : V} {l1 : List Int} (h : Apd H X v l1) (hl1 : l1.length ≤ 49) {base : Nat} :
 ∃ X', X'.length = X.length ∧ aA base false 38 10 v (.sl (.loc (L0.length + 1)) [] 0 8 (some 8) 10) ⟨L0 ++ [.rw t, .rw d], H ++ X⟩ =
  some (.sl (.loc (L0.length + 2)) [] 0 (l1 ++ dX dd 0 8).length none 10, ⟨L0 ++ [.rw t, .rw d, .rw (.agg 38 ((l1 ++ dX dd 0 8).map (.int .i64)))], H ++ X'⟩) := by
 subst hd;have hy : St.elems ⟨L0 ++ [.rw t, .rw (ax dd)], H ++ X⟩ (.sl (.loc (L0.length + 1)) [] 0 8 (some 8) 10) = some ((dX dd 0 8).map (.int .i64)) :=
  dH (t := 50) (by simp only [go_sem, ax, VM]) rfl
 have hne : (dX dd 0 8).map (V.int .i64) ≠ [] := by intro h; cases h
 have hx := h.elems (loc := L0 ++ [.rw t, .rw (ax dd)]);rcases h.at' with ⟨rfl, rfl⟩ | ⟨Y, rfl, rfl⟩
 ·refine ⟨X, rfl, ?_⟩;rw [w6 (.inr ⟨_, _, _, _, _, rfl⟩) hy hne (by simp [nJ, cq]) rfl];simp only [go_sem];simp
 ·refine ⟨Y ++ [.dead], by simp, ?_⟩;have e2 : St.at ⟨L0 ++ [.rw t, .rw (ax dd)], H ++ (Y ++ [.rw (.agg 38 (l1.map (.int .i64)))])⟩ (.hp (H.length + Y.length)) = some (.rw (.agg 38 (l1.map (.int .i64)))) := by
   rw [← List.append_assoc, ← List.length_append]; simp [St.at]
  rw [zQ (.inr ⟨_, _, _, _, _, rfl⟩) hx hy hne (by simp [nJ, cq]; omega) rfl e2];have e3 : (St.set ⟨L0 ++ [.rw t, .rw (ax dd)], H ++ (Y ++ [.rw (.agg 38 (l1.map (.int .i64)))])⟩ (.hp (H.length + Y.length)) .dead) = ⟨L0 ++ [.rw t, .rw (ax dd)], H ++ (Y ++ [.dead])⟩ := by
   simp only [St.set];rw [← List.append_assoc, ← List.length_append, List.set_append_right _ _ (Nat.le_refl _)];simp
  rw [e3];simp only [go_sem];simp
theorem Ve {f : Int} {n : Nat} {w0 : List Nat} (h0 : 0 ≤ f) (h1 : f ≤ n) (h2 : n ≤ 1024) (hok : OkS w0) (hbit : ∀ j : Nat, j < 1024 → bit w0 j = (decide (f ≤ j) && decide ((j : Int) < n))) : kX f n w0 (List.replicate (n - f).toNat 0) := by
 refine ⟨by rw [List.length_replicate]; omega, hok, fun k hk => ?_⟩;rw [List.length_replicate] at hk;rw [hbit _ (by omega)];have e1 : decide (f ≤ ((f.toNat + k : Nat) : Int)) = true := decide_eq_true (by omega);have e2 : decide (((f.toNat + k : Nat) : Int) < n) = true := decide_eq_true (by omega);rw [e1, e2];simp [List.getD_eq_getElem?_getD, hk]
theorem yM {m k k2 n : Nat} {off : Bool} {left count : Int} (s : St) (hm : s.hp[m]? = some (.rw (rmV k n k2 off left count))) (f : Int) (h0 : 0 ≤ f) (h1 : f ≤ n) (h2 : n ≤ 1024) (t : Nat → Ent) (d : Nat → Int) (hI : InI (cU t d))
 (w0 : List Nat) (hok0 : OkS w0) (hbit0 : ∀ j : Nat, j < 1024 → bit w0 j = (decide (f ≤ j) && decide ((j : Int) < n))) :
 (bS f n (cU t d) w0 = none ∧ ∃ more, rf D bx [.ptr (.hp m) [] 33, .int .i64 f, aj t, ax d] s = some (.tup [.nilp, .int .i64 21], ⟨s.loc, s.hp ++ more⟩)) ∨
 (∃ (w : List Nat) (S : List Int) (X : List Blk), bS f n (cU t d) w0 = some w ∧ kX f n w S ∧ rf D bx [.ptr (.hp m) [] 33, .int .i64 f, aj t, ax d] s = some (.tup [.ptr (.hp (s.hp.length + 2 + X.length)) [] 31, .int .i64 0],
  ⟨s.loc, s.hp ++ ([.rw (.agg 38 (S.map (.int .i64))), .rw (rfV f s.hp.length S.length)] ++ X ++ [.rw (bF.v ⟨m, s.hp.length + 1, t, t, d, fun _ => dK, false⟩)])⟩)) := by
 have hA := Ve h0 h1 h2 hok0 hbit0;have hnew := fun L => AQ f n h0 h1 (by omega) ⟨s.loc ++ L, s.hp⟩;have hrl : (List.replicate ((n : Int) - f).toNat (V.int .i64 0)) = (List.replicate ((n : Int) - f).toNat (0 : Int)).map (.int .i64) := by rw [List.map_replicate]
 rw [hrl] at hnew;have hlr : (List.replicate ((n : Int) - f).toNat (0 : Int)).length = ((n : Int) - f).toNat := List.length_replicate;generalize List.replicate ((n : Int) - f).toNat (0 : Int) = S0 at *;rw [← hlr] at hnew;obtain ⟨X, v, hap, hlines⟩ := mH t ⟨s.loc ++ [.rw (aj t), .rw (ax d)], s.hp ++ [.rw (.agg 38 (S0.map (.int .i64))), .rw (rfV f s.hp.length S0.length)]⟩;simp only at hap hlines;have hll := jn t 49 0;obtain ⟨X', hX', happ⟩ := Uc (base := s.loc.length) s.loc _ (aj t) (ax d) d rfl hap hll;have hal : (aJ t 0 49 ++ dX d 0 8).length ≤ 57 := by rw [List.length_append, nJ]; omega
 simp only [cU] at hI ⊢;generalize hls : aJ t 0 49 ++ dX d 0 8 = ls at *;obtain ⟨r, e, q⟩ := AV (s.loc ++ [.rw (aj t), .rw (ax d), .rw (.agg 38 (ls.map (.int .i64)))]) (s.hp ++ [.rw (.agg 38 (S0.map (.int .i64))), .rw (rfV f s.hp.length S0.length)] ++ X')
  (.ptr (.loc s.loc.length) [] 48) (.ptr (.loc (s.loc.length + 1)) [] 50) (.ptr (.hp m) [] 33) (.sl (.loc (s.loc.length + 2)) [] 0 ls.length none 10) (s.hp.length + 1) s.hp.length f n ls h0 h2 w0 S0 hA s.loc.length
  ⟨by simp, by simp, h0, by have := hA.len; omega⟩
  (fun k hk => ⟨by simp [co, elp, hk], fun H' => by simp only [elp, go_sem, Nat.zero_add, uL hk]⟩) rfl hI (by omega) (by simp only [aj, ax]; simp only [go_sem]; simp)
 have z1 : V.agg 48 (List.replicate 49 (.agg 42 [.int .i64 0, .int .i64 0, .int .i64 0])) = aj fun _ => dK := by rw [jX]; rfl
 have hset : ∀ b : Blk, (s.hp ++ [Blk.rw (.agg 38 (S0.map (.int .i64))), Blk.rw (rfV f s.hp.length S0.length)] ++ X').set s.hp.length b = s.hp ++ ([b, Blk.rw (rfV f s.hp.length S0.length)] ++ X') := by
  intro b;rw [List.append_assoc, List.set_append_right _ _ (Nat.le_refl _)];simp
 rcases q with ⟨hn, S', rfl⟩ | ⟨w, S', hw, hal', rfl⟩
 ·left;refine ⟨hn, [.rw (.agg 38 (S'.map (.int .i64))), .rw (rfV f s.hp.length S0.length)] ++ X', ?_⟩;rw [hset] at e;rw [ah jF rfl];simp only [rmV, aj, ax, rfV] at *;simp only [go_sem] at *;simp only [go_sem, hm, hnew, hlines, happ, e]
 ·right;have hSS : S'.length = S0.length := by have := hal'.len; have := hA.len; omega
  refine ⟨w, S', X', hw, hal', ?_⟩;rw [hset] at e;rw [ah jF rfl, hSS];simp only [rmV, aj, ax, rfV, bF.v] at *;simp only [go_sem] at *;simp only [go_sem, hm, hnew, hlines, happ, z1, e];rw [show s.hp.length + (X'.length + 1 + 1) = s.hp.length + 2 + X'.length by omega]
end Go.Proofs.YtnffmibpblibdaaGreatDoor
namespace Go.Proofs.YtnffmibpblibdaaGreatDoor
open Go.Ab
structure FrQ (hp : List Blk) (b c : Nat) (A : AF) : Prop where
 ok : A.Ok
 ne : b ≠ c
 row : ∃ S : List Int, hp[b]? = some (.rw (rfV A.f c S.length)) ∧ hp[c]? = some (.rw (.agg 38 (S.map (.int .i64)))) ∧ S.length = A.l - A.f ∧ ∀ k, k < S.length → S.getD k 0 = A.st (A.f + k)
def FtQ (b c : Nat) : Ft := fun j => j = b ∨ j = c
theorem FrQ.eqv {hp hp' : List Blk} {b c : Nat} {A : AF} (h : FrQ hp b c A) (he : Eqv hp hp' (FtQ b c)) : FrQ hp' b c A := by
 obtain ⟨S, h1, h2, h3⟩ := h.row;exact ⟨h.ok, h.ne, S, by rw [he b (.inl rfl)]; exact h1, by rw [he c (.inr rfl)]; exact h2, h3⟩
theorem FrQ.inn {hp : List Blk} {b c : Nat} {A : AF} (h : FrQ hp b c A) : Inn hp (FtQ b c) := by
 obtain ⟨S, h1, h2, h3⟩ := h.row;rintro j (rfl | rfl)
 ·exact av h1
 ·exact av h2
theorem FrQ.rf {hp : List Blk} {b c : Nat} {A : AF} (h : FrQ hp b c A) : ∃ S : List Int, (∀ L, Rf ⟨L, hp⟩ b c A.f S) ∧ S.length = A.l - A.f ∧ (∀ k, k < S.length → S.getD k 0 = A.st (A.f + k)) ∧ ∀ line, stS A.f S line = A.state line := by
 obtain ⟨S, h1, h2, h3, h4⟩ := h.row;have hl := h.ok.l1;have hfl := h.ok.fl;refine ⟨S, fun L => ⟨h1, h2, by omega, by omega⟩, h3, h4, fun line => ?_⟩;unfold stS AF.state;by_cases c1 : line < A.f ∨ (A.l : Int) ≤ line
 ·rw [if_pos (by omega), if_pos c1]
 ·rw [if_neg (by omega), if_neg c1, h4 _ (by omega)];congr 1; omega
theorem FrQ.set {hp : List Blk} {b c : Nat} {A : AF} (h : FrQ hp b c A) {S : List Int} (h1 : ∀ L, Rf ⟨L, hp⟩ b c A.f S) (h3 : S.length = A.l - A.f) (h4 : ∀ k, k < S.length → S.getD k 0 = A.st (A.f + k)) {k : Nat} (hk : k < S.length) {y : Int} (hy : y = 0 ∨ y = 1 ∨ y = 2) :
 FrQ (hp.set c (.rw (.agg 38 ((S.set k y).map (.int .i64))))) b c (A.put (A.f + k) y) ∧ Chg hp (hp.set c (.rw (.agg 38 ((S.set k y).map (.int .i64))))) (FtQ b c) (FtQ b c) := by
 have hb := (h1 []).rb;have hc := (h1 []).sb;refine ⟨⟨h.ok.put hy, h.ne, S.set k y, ?_, List.getElem?_set_self (av hc), by rw [List.length_set]; exact h3, fun j hj => ?_⟩, iC.mono (fun _ h => .inr h) fun _ => .inr⟩
 ·rw [List.getElem?_set_ne (Ne.symm h.ne), List.length_set]; exact hb
 ·rw [List.length_set] at hj;rw [vL hk];simp only [AF.put];by_cases e : k = j
  ·subst e; rw [if_pos rfl, bf]
  ·rw [if_neg e, bM (by omega)]; exact h4 j hj
theorem Bu {hp : List Blk} {b c : Nat} {A : AF} (h : FrQ hp b c A) (line : Int) (hl : line ≤ 9223372036854775807) (x y : Int) (hx : 0 ≤ x) (hy : y = 0 ∨ y = 1 ∨ y = 2) (L : List Blk) :
 ∃ hp', rf D aN [.ptr (.hp b) [] 21, .int .i64 line, .int .i64 x, .int .i64 y] ⟨L, hp⟩ = some (.int .i64 (A.turn line x y).2, ⟨L, hp'⟩) ∧ FrQ hp' b c (A.turn line x y).1 ∧ Chg hp hp' (FtQ b c) (FtQ b c) := by
 obtain ⟨S, h1, h2, h3, h4⟩ := h.rf;have e := lY (h1 L) line hl x y;rw [h4] at e;unfold AF.turn;by_cases c1 : A.state line < 0
 ·rw [if_pos c1] at e ⊢;exact ⟨hp, e, h, .refl _ _⟩
 ·rw [if_neg c1] at e ⊢;by_cases c2 : A.state line ≠ x
  ·rw [if_pos c2] at e ⊢;exact ⟨hp, e, h, .refl _ _⟩
  ·rw [if_neg c2] at e ⊢;have hr : (A.f : Int) ≤ line ∧ line < A.l := by
    unfold AF.state at c1;split at c1 <;> omega
   obtain ⟨q1, q2⟩ := h.set h1 h2 h3 (k := (line - A.f).toNat) (by omega) hy;rw [show A.f + (line - A.f).toNat = line.toNat by omega] at q1;exact ⟨_, e, q1, q2⟩
theorem tW {hp : List Blk} {b c : Nat} {A : AF} (h : FrQ hp b c A) (line : Int) (hl : line ≤ 9223372036854775807) (L : List Blk) :
 ∃ hp', rf D bd [.ptr (.hp b) [] 21, .int .i64 line] ⟨L, hp⟩ = some (.int .i64 (A.turn line 1 0).2, ⟨L, hp'⟩) ∧ FrQ hp' b c (A.turn line 1 0).1 ∧ Chg hp hp' (FtQ b c) (FtQ b c) := by
 obtain ⟨S, h1, _⟩ := h.rf;rw [FV (h1 L) line hl];exact Bu h line hl 1 0 (by decide) (.inl rfl) L
theorem Fe {A : AF} {S : List Int} (h4 : ∀ k, k < S.length → S.getD k 0 = A.st (A.f + k)) : ∀ n, n ≤ S.length → nz S n = A.cnt A.f n
 | 0, _ => rfl
 | n + 1, hn => by
  have key : ∀ m i, A.cnt i (m + 1) = A.cnt i m + if A.st (i + m) = 0 then 1 else 0 := by
   intro m
   induction m with
   | zero => intro i; simp [AF.cnt]
   | succ m ih =>
    intro i;rw [AF.cnt, ih (i + 1), AF.cnt, show i + 1 + m = i + (m + 1) by omega]; omega
  rw [key, nz, Fe h4 n (by omega), h4 n (by omega)]
theorem qz {hp : List Blk} {b c : Nat} {A : AF} (h : FrQ hp b c A) (L : List Blk) : rf D aI [.ptr (.hp b) [] 21] ⟨L, hp⟩ = some (.int .i64 A.left, ⟨L, hp⟩) := by
 obtain ⟨S, h1, h2, h3, _⟩ := h.rf;rw [Gx (h1 L), Fe h3 _ (Nat.le_refl _), h2];rfl
theorem rC {A : AF} : ∀ {n i k : Nat}, i ≤ k → k < i + n → A.st k = 0 → (∀ j, i ≤ j → j < k → A.st j ≠ 0) → A.firstFrom i n = some k
 | 0, i, k, h1, h2, _, _ => by omega
 | n + 1, i, k, h1, h2, h3, h4 => by
  simp only [AF.firstFrom];by_cases e : i = k
  ·subst e; rw [if_pos h3]
  ·rw [if_neg (h4 i (Nat.le_refl _) (by omega))];exact rC (by omega) (by omega) h3 fun j hj => h4 j (by omega)
theorem rD {A : AF} : ∀ {n i : Nat}, (∀ j, i ≤ j → j < i + n → A.st j ≠ 0) → A.firstFrom i n = none
 | 0, i, _ => rfl
 | n + 1, i, h => by
  simp only [AF.firstFrom];rw [if_neg (h i (Nat.le_refl _) (by omega))];exact rD fun j hj hj2 => h j (by omega) (by omega)
theorem sM {hp : List Blk} {b c : Nat} {A : AF} (h : FrQ hp b c A) (L : List Blk) :
 ∃ hp', rf D aU [.ptr (.hp b) [] 21] ⟨L, hp⟩ = some (.tup [.int .i64 A.alloc.2.1, .int .i64 A.alloc.2.2], ⟨L, hp'⟩) ∧ FrQ hp' b c A.alloc.1 ∧ Chg hp hp' (FtQ b c) (FtQ b c) := by
 obtain ⟨S, h1, h2, h3, _⟩ := h.rf;have hfl := h.ok.fl;rcases EW (h1 L) with ⟨k, g1, g2, g3, e⟩ | ⟨g, e⟩
 ·have hf : A.first = some (A.f + k) := rC (by omega) (by omega) (by rw [← h3 k g1]; exact g2) fun j j1 j2 => by
   have := g3 (j - A.f) (by omega);rw [h3 _ (by omega), show A.f + (j - A.f) = j by omega] at this;exact this
  have ha : A.alloc = (A.put (A.f + k) 1, ((A.f + k : Nat) : Int), 0) := by unfold AF.alloc; rw [hf]
  rw [ha];obtain ⟨q1, q2⟩ := h.set h1 h2 h3 g1 (.inr (.inl rfl));refine ⟨_, ?_, q1, q2⟩;rw [e];simp
 ·have hf : A.first = none := rD fun j j1 j2 => by
   have := g (j - A.f) (by omega);rw [h3 _ (by omega), show A.f + (j - A.f) = j by omega] at this;exact this
  have ha : A.alloc = (A, 0, 10) := by unfold AF.alloc; rw [hf]
  rw [ha];exact ⟨hp, e, h, .refl _ _⟩
end Go.Proofs.YtnffmibpblibdaaGreatDoor
namespace Go.Proofs.YtnffmibpblibdaaGreatDoor
open Go.Ab
def AS.r (x : AS) (m fr : Nat) : bF := ⟨m, fr, x.work, x.base, x.dir, x.mark, x.is⟩
theorem uk {m k k2 n : Nat} {off : Bool} {left count : Int} (s : St) (hm : s.hp[m]? = some (.rw (rmV k n k2 off left count))) (f : Int) (h : f < 0 ∨ (n : Int) < f ∨ 1024 < n) (t : Nat → Ent) (d : Nat → Int) :
 rf D bx [.ptr (.hp m) [] 33, .int .i64 f, aj t, ax d] s = some (.tup [.nilp, .int .i64 1], s) := by
 have hnew := fun L => yI f n (by omega) ⟨s.loc ++ L, s.hp⟩;rw [ah jF rfl];simp only [rmV, aj, ax] at *;simp only [go_sem, hm, hnew]
theorem FY {f n : Nat} (hf : f ≤ n) (hn : n ≤ 1024) {w : List Nat} {S : List Int} (h : kX f n w S) {A : AF} (hA : nE A w) (h1 : A.f = f) (h2 : A.l = n) : S.length = A.l - A.f ∧ ∀ k, k < S.length → S.getD k 0 = A.st (A.f + k) := by
 have hl := h.len;have hl' : S.length = A.l - A.f := by rw [h1, h2]; omega
 refine ⟨hl', fun k hk => ?_⟩;rw [h.eq k hk, h1, Int.toNat_natCast];rw [hA.bits _ (by omega)];have hr : A.inr (f + k) = true := gn.2 (by omega);rw [hr, Bool.true_and];rcases hA.two (f + k) with e | e <;> simp [e]
theorem Fu {m k k2 n : Nat} {off : Bool} {left count : Int} {hp : List Blk} (L : List Blk) (hn : n ≤ 1024) (hm : hp[m]? = some (.rw (rmV k n k2 off left count))) (from' : Int) (t : Nat → Ent) (d : Nat → Int) (hI : InI (cU t d)) :
 ((from' < 0 ∨ (n : Int) < from') ∧ rf D bx [.ptr (.hp m) [] 33, .int .i64 from', aj t, ax d] ⟨L, hp⟩ = some (.tup [.nilp, .int .i64 1], ⟨L, hp⟩)) ∨
 (0 ≤ from' ∧ from' ≤ n ∧ (af0 from'.toNat n).takes (cU t d) = none ∧ ∃ more, rf D bx [.ptr (.hp m) [] 33, .int .i64 from', aj t, ax d] ⟨L, hp⟩ = some (.tup [.nilp, .int .i64 21], ⟨L, hp ++ more⟩)) ∨
 (0 ≤ from' ∧ from' ≤ n ∧ ∃ A' more b, (af0 from'.toNat n).takes (cU t d) = some A' ∧ rf D bx [.ptr (.hp m) [] 33, .int .i64 from', aj t, ax d] ⟨L, hp⟩ = some (.tup [.ptr (.hp b) [] 31, .int .i64 0], ⟨L, hp ++ more⟩) ∧
  (hp ++ more)[b]? = some (.rw (bF.v ⟨m, hp.length + 1, t, t, d, fun _ => dK, false⟩)) ∧ FrQ (hp ++ more) (hp.length + 1) hp.length A' ∧ hp.length + 1 < b) := by
 by_cases h0 : from' < 0 ∨ (n : Int) < from'
 ·exact .inl ⟨h0, uk ⟨L, hp⟩ hm from' (by omega) t d⟩
 ·right;obtain ⟨f, rfl⟩ : ∃ f : Nat, from' = f := ⟨from'.toNat, by omega⟩
  rw [Int.toNat_natCast];obtain ⟨w0, ok0, b0, _⟩ := q9 f n (by omega) (by omega) (by omega) ⟨L, hp⟩;have hB := QK (f := f) (l := n) (by omega) hn ok0 b0;rcases yM ⟨L, hp⟩ hm f (by omega) (by omega) hn t d hI w0 ok0 b0 with ⟨hs, more, e⟩ | ⟨w, S, X, hs, hal, e⟩
  ·left;refine ⟨by omega, by omega, ?_, more, e⟩;rcases kf (ls := cU t d) hB with ⟨_, q⟩ | ⟨_, _, q, _⟩
   ·exact q
   ·have : bS f n (cU t d) w0 = some _ := q;rw [hs] at this; cases this
  ·right;refine ⟨by omega, by omega, ?_⟩;rcases kf (ls := cU t d) hB with ⟨q, _⟩ | ⟨w', A', q, q2, q3⟩
   ·have : bS f n (cU t d) w0 = none := q;rw [hs] at this; cases this
   ·have q : bS f n (cU t d) w0 = some w' := q;rw [hs] at q; cases q;obtain ⟨h1, h2, _, _⟩ := kZ q2;have h1 : A'.f = f := h1;have h2 : A'.l = n := h2;obtain ⟨g1, g2⟩ := FY (show f ≤ n by omega) hn hal q3 h1 h2;refine ⟨A', _, _, q2, e, ?_, ⟨q3.ok, by omega, S, ?_, ?_, g1, g2⟩, by simp only; omega⟩
    ·simp only;rw [show hp.length + 2 + X.length = hp.length + (2 + X.length) by omega, rV];rw [List.getElem?_append_right (by simp; omega)];simp [show 2 + X.length - (X.length + 1 + 1) = 0 by omega]
    ·rw [rV, h1]; simp
    ·rw [ye]; simp
structure Uq (hp : List Blk) (b m fr c : Nat) (x : AS) : Prop where
 st : hp[b]? = some (.rw ((x.r m fr).v))
 fq : FrQ hp fr c x.A
theorem rh : ∀ {l : List V}, (∀ v ∈ l, veq v v = some true) → dE l l = some true
 | [], _ => rfl
 | v :: l, h => by
  simp only [dE, h v List.mem_cons_self];exact rh fun w hw => h w (List.mem_cons_of_mem _ hw)
theorem sY (t : Nat → Ent) : dE (tab 49 fun i => (t i).v) (tab 49 fun i => (t i).v) = some true := rh fun v hv => by
 obtain ⟨i, _, rfl⟩ := List.mem_map.1 hv;simp [Ent.v, veq, dE]
theorem Hd (d : Nat → Int) : dE (tab 8 fun i => .int .i64 (d i)) (tab 8 fun i => .int .i64 (d i)) = some true := rh fun v hv => by
 obtain ⟨i, _, rfl⟩ := List.mem_map.1 hv;simp [veq]
theorem nL : ∀ {l : List V}, (∀ v ∈ l, v.flat = true) → V.flats l = true
 | [], _ => by simp [V.flats]
 | v :: l, h => by simp only [V.flats, h v List.mem_cons_self, nL fun w hw => h w (List.mem_cons_of_mem _ hw), Bool.and_self]
theorem Da (t : Nat → Ent) : V.flats (tab 49 fun i => (t i).v) = true := nL fun v hv => by
 obtain ⟨i, _, rfl⟩ := List.mem_map.1 hv;simp [Ent.v, V.flat, V.flats]
theorem TQ {hp L : List Blk} {Fm : Ft} {a m fr b m2 fr2 c : Nat} {x : AS} (h : aT hp Fm a m fr x) (h2 : Uq hp b m2 fr2 c x) : rf D fN [.ptr (.hp a) [] 43, .ptr (.hp b) [] 31] ⟨L, hp⟩ = some (.bool true, ⟨L, hp⟩) := by
 have hb := AK h;have hm := wQ h;have ht := zc h;have hl := AL h;have hl2 := qz h2.fq;have hs := h2.st;have q1 := sY x.work;have q2 := sY x.base;have q3 := sY x.mark;have q4 := Hd x.dir;have q5 := Da x.work;rw [ah pl rfl];cases hi : x.is
 ·simp only [AS.r, bF.v, hi, Bool.false_eq_true, if_false, aj, ax] at *;simp only [go_sem, hb, hm, ht, hl, hl2, hs, q1, q2, q3, q4, q5]
 ·simp only [AS.r, bF.v, hi, if_true, aj, ax] at *;simp only [go_sem, hb, hm, ht, hl, hl2, hs, q1, q2, q3, q4, q5]
end Go.Proofs.YtnffmibpblibdaaGreatDoor
namespace Go.Proofs.YtnffmibpblibdaaGreatDoor
open Go.Ab
theorem qO (k v l : Int) (s : St) : rf D fH [.agg 42 [.int .i64 k, .int .i64 v, .int .i64 l]] s = some (.bool (nj ⟨k, v, l⟩), s) := by
 unfold nj;rw [ah pD rfl];by_cases h1 : k = 0
 ·simp [go_sem, h1]
 ·simp [go_sem, h1]
theorem BW {s : St} {b : Nat} {x : bF} (h : s.hp[b]? = some (.rw x.v)) (hn : nxt x.work = none) :
 rc D s.loc.length (.loop [0, 7] a7) [(0, .ptr (.hp b) [] 31), (7, .int .i64 0)] s = some (.exit 0, [(0, .ptr (.hp b) [] 31), (7, .int .i64 49), (19, .bool false)], s) := by
 have hn := xm hn;refine cw (fun j : Nat => [(0, .ptr (.hp b) [] 31), (7, .int .i64 j)]) (fun _ => s) (fun _ => _) (fun j => 49 - j) (fun j => j ≤ 49) 0 ?_ (Nat.zero_le _) rfl rfl;intro i hi;by_cases c1 : i < 49
 ·left;have d1 : (i : Int) < 49 := by omega
  have d2 : (0 : Int) ≤ i := by omega
  have d4 : IntKind.i64.wrap ((i : Int) + 1) = (i : Int) + 1 := ao (by omega) (by omega);have ho := fun s => qO (x.work i).kind (x.work i).ver (x.work i).line s;have ht := aG (f := fun i => (x.work i).v) c1;rw [show (⟨(x.work i).kind, (x.work i).ver, (x.work i).line⟩ : Ent) = x.work i from rfl, hn i c1] at ho
  refine ⟨i + 1, by omega, by omega, rfl, ?_⟩;obtain ⟨m, fr, work, base, dir, mark, marked⟩ := x;simp only [bF.v, aj, Ent.v] at *;generalize tab 49 (fun i => V.agg 42 [.int .i64 (work i).kind, .int .i64 (work i).ver, .int .i64 (work i).line]) = T at *;simp only [go_sem, a7, d1, d2, h, Int.toNat_natCast, ht, ho, d4];rfl
 ·right;have : i = 49 := by omega
  subst this;simp only [go_sem, a7]
theorem Bl {s : St} {b : Nat} {x : bF} (h : s.hp[b]? = some (.rw x.v)) {n : Nat} (hn : nxt x.work = some n) :
 rc D s.loc.length (.loop [0, 7] a7) [(0, .ptr (.hp b) [] 31), (7, .int .i64 0)] s = some (.ret, [(4, .int .i64 n), (5, .int .i64 (x.work n).ver), (6, .int .i64 0)], s) := by
 obtain ⟨hn, h1, h2⟩ := sW hn;refine cw (fun j : Nat => [(0, .ptr (.hp b) [] 31), (7, .int .i64 j)]) (fun _ => s) (fun _ => _) (fun j => n - j) (fun j => j ≤ n) 0 ?_ (Nat.zero_le _) rfl rfl;intro i hi;have c1 : i < 49 := by omega
 have d1 : (i : Int) < 49 := by omega
 have d2 : (0 : Int) ≤ i := by omega
 have d4 : IntKind.i64.wrap ((i : Int) + 1) = (i : Int) + 1 := ao (by omega) (by omega);have ho := fun s => qO (x.work i).kind (x.work i).ver (x.work i).line s;have ht := aG (f := fun i => (x.work i).v) c1;rw [show (⟨(x.work i).kind, (x.work i).ver, (x.work i).line⟩ : Ent) = x.work i from rfl] at ho
 by_cases c2 : i < n
 ·left;rw [h2 i c2] at ho;refine ⟨i + 1, by omega, by omega, rfl, ?_⟩;obtain ⟨m, fr, work, base, dir, mark, marked⟩ := x;simp only [bF.v, aj, Ent.v] at *;generalize tab 49 (fun i => V.agg 42 [.int .i64 (work i).kind, .int .i64 (work i).ver, .int .i64 (work i).line]) = T at *;simp only [go_sem, a7, d1, d2, h, Int.toNat_natCast, ht, ho, d4];rfl
 ·right;have : i = n := by omega
  subst this;rw [h1] at ho;obtain ⟨m, fr, work, base, dir, mark, marked⟩ := x;simp only [bF.v, aj, Ent.v] at *;generalize tab 49 (fun i => V.agg 42 [.int .i64 (work i).kind, .int .i64 (work i).ver, .int .i64 (work i).line]) = T at *;simp only [go_sem, a7, d1, d2, h, Int.toNat_natCast, ht, ho]
theorem xK {s : St} {b : Nat} {x : bF} (h : s.hp[b]? = some (.rw x.v)) (k : Int) :
 rf D bE [.ptr (.hp b) [] 31, .int .i64 k] s = some (.tup [.int .i64 (nxI x.work k), .int .i64 (nxV x.work k), .int .i64 (nxE x.work k)], s) := by
 unfold nxI nxV nxE;by_cases hk : jp k
 ·simp only [hk, if_true];cases hn : nxt x.work with
  | none =>
   have hl := BW h hn;rw [ah fg rfl];by_cases k1 : k = 1
   ·simp only [go_sem, k1, hl]
   ·by_cases k2 : k = 2
    ·simp only [go_sem, k2, hl]
    ·have k4 : k = 4 := by unfold jp at hk; omega
     simp only [go_sem, k4, hl]
  | some n =>
   have hl := Bl h hn;rw [ah fg rfl];by_cases k1 : k = 1
   ·simp only [go_sem, k1, hl]
   ·by_cases k2 : k = 2
    ·simp only [go_sem, k2, hl]
    ·have k4 : k = 4 := by unfold jp at hk; omega
     simp only [go_sem, k4, hl]
 ·simp only [hk, if_false];have k1 : ¬ k = 1 := fun e => hk (.inl e);have k2 : ¬ k = 2 := fun e => hk (.inr (.inl e));have k4 : ¬ k = 4 := fun e => hk (.inr (.inr e));rw [ah fg rfl];simp only [go_sem, k1, k2, k4]
end Go.Proofs.YtnffmibpblibdaaGreatDoor
namespace Go.Proofs.YtnffmibpblibdaaGreatDoor
open Go.Ab
theorem uM (kind ver line id w : Int) (h0 : 0 ≤ w) (h1 : w ≤ 18446744073709551615) (s : St) :
 rf D fa [.agg 42 [.int .i64 kind, .int .i64 ver, .int .i64 line], .int .i64 id, .int .u64 w] s = some (.int .i64 (gO kind ver id w), s) := by
 have hc := fun s => sG w h0 h1 s;have hk : (eK w).may = true → (bK w).kind ≤ 6 := fun h => by
  have := ((u5 _).1 h).k;unfold bK; rw [if_pos h]; exact this.2
 rw [ah oW rfl];unfold gO;generalize bK w = y at hc hk ⊢;generalize (eK w).may = m at hc hk ⊢;simp only [Cap.v] at hc;simp only [go_sem, hc];cases m
 ·simp [go_sem]
 ·have hk := hk rfl;by_cases g1 : y.kind = 5
  ·simp [go_sem, g1]
  ·by_cases g1' : y.kind = 6
   ·simp [go_sem, g1']
   ·have g6 : ¬ 4 < y.kind := by omega
    by_cases g2 : y.id = id
    ·by_cases g3 : y.ver = ver
     ·by_cases g4 : kind = 0
      ·simp [go_sem, g1, g1', g2, g3, g4, g6]
      ·by_cases g5 : y.kind = kind
       ·subst g5; simp [go_sem, g1, g1', g2, g3, g4, g6]
       ·simp [go_sem, g1, g1', g2, g3, g4, g5, g6]
     ·simp [go_sem, g1, g1', g2, g3, g6]
    ·simp [go_sem, g1, g1', g2, g6]
theorem DS {s : St} {a : Nat} {x : bF} (h : s.hp[a]? = some (.rw x.v)) (c : Int) (h0 : 0 ≤ c) (h1 : c ≤ 18446744073709551615) :
 rf D cY [.ptr (.hp a) [] 31, .int .u64 c] s = some (.tup [.int .i64 (vg x.work c), .int .i64 (nmE x.work c)], s) := by
 have hc := fun s => sG c h0 h1 s;have hid := vn c;have hno := Fd (t := x.work) (c := c);unfold vg;have hn : nmE x.work c = gO (x.work (bK c).id.toNat).kind (x.work (bK c).id.toNat).ver (bK c).id c := rfl;obtain ⟨i, hi⟩ : ∃ i : Nat, (bK c).id = i := ⟨(bK c).id.toNat, by omega⟩;rw [hi, Int.toNat_natCast] at hn;have g1 := aG (f := fun i => (x.work i).v) (show i < 49 by omega);have hen := fun s => uM (x.work i).kind (x.work i).ver (x.work i).line i c h0 h1 s;rw [← hn] at hen;have c1 : (i : Int) < 49 := by omega
 have c2 : (0 : Int) ≤ i := by omega
 simp only [hi] at hc ⊢;obtain ⟨m, fr, work, base, dir, mark, marked⟩ := x;simp only [bF.v, aj, Cap.v, Ent.v] at *;simp only [hi] at hc;generalize nmE work c = e at *;generalize tab 49 (fun i => V.agg 42 [.int .i64 (work i).kind, .int .i64 (work i).ver, .int .i64 (work i).line]) = T at *;rw [ah lT rfl];by_cases hm : (eK c).may = true
 ·simp only [hm] at hc;simp only [go_sem, hc, h, c1, c2];rw [Int.toNat_natCast];by_cases he : e = 0
  ·subst he;simp only [go_sem, g1, hen]
  ·simp only [go_sem, g1, hen, he]
 ·have hm' : (eK c).may = false := by simpa using hm
  have he := hno hm';subst he;simp only [hm'] at hc;simp only [go_sem, hc]
theorem Sm {s : St} {a : Nat} {x : bF} (h : s.hp[a]? = some (.rw x.v)) (id : Int) : rf D aX [.ptr (.hp a) [] 31, .int .i64 id] s = some (.int .i64 (gE x.work id), s) := by
 obtain ⟨m, fr, work, base, dir, mark, marked⟩ := x;simp only [bF.v, aj] at *;unfold gE;rw [ah nk rfl];by_cases c1 : id < 0
 ·simp only [go_sem, c1]
 ·by_cases c2 : 49 ≤ id
  ·simp only [go_sem, c1, c2]
  ·obtain ⟨i, rfl⟩ : ∃ i : Nat, id = i := ⟨id.toNat, by omega⟩;have g1 := aG (f := fun i => (work i).v) (show i < 49 by omega);simp only [Ent.v] at *;generalize tab 49 (fun i => V.agg 42 [.int .i64 (work i).kind, .int .i64 (work i).ver, .int .i64 (work i).line]) = T at *;have d1 : (i : Int) < 49 := by omega
   have d2 : (0 : Int) ≤ i := by omega
   rw [if_neg (by omega), Int.toNat_natCast];by_cases hk : (work i).kind = 0
   ·simp only [hk] at *;simp only [go_sem, c1, c2, h, d1, d2];rw [Int.toNat_natCast];simp only [go_sem, g1]
   ·simp only [go_sem, c1, c2, h, d1, d2];rw [Int.toNat_natCast];simp only [go_sem, g1, hk]
end Go.Proofs.YtnffmibpblibdaaGreatDoor
namespace Go.Proofs.YtnffmibpblibdaaGreatDoor
open Go.Ab
theorem xT {n : Nat} (h0 : 64 ≤ n) (h1 : n ≤ 1024) (s : St) : rf D eh [.int .i64 n] s =
 some (.tup [.ptr (.hp (s.hp.length + 3)) [] 33, .int .i64 0], ⟨s.loc, s.hp ++ [.rw (.agg 58 []), .rw (.agg 58 (tab n fun _ => lnV zl)), .rw (.agg 53 (tab n fun _ => .nils)), .rw (rmV (s.hp.length + 1) n (s.hp.length + 2) false (-1) 0)]⟩) := by
 have c1 : ¬ (n : Int) < 64 := by omega
 have c2 : ¬ 1024 < (n : Int) := by omega
 have c3 : (0 : Int) ≤ n := by omega
 have hm : (n : Int) ≤ (cq : Nat) := by unfold cq; omega
 have h := fun L => yl (a := s.loc.length) (ls := fun _ => zl) h0 h1 ⟨s.loc ++ [.rw (.agg 58 (tab n fun _ => lnV zl))] ++ L, s.hp⟩ (by simp);have h := h [];have e : List.replicate n (V.agg 24 (List.replicate 8 (.int .u64 0))) = tab n fun _ => lnV zl := by rw [jX]; rfl
 simp only [List.append_nil] at h;rw [ah pO rfl];simp only [go_sem, c1, c2, c3, hm, Int.le_refl, Int.toNat_natCast, e, h];rfl
end Go.Proofs.YtnffmibpblibdaaGreatDoor
namespace Go.Proofs.YtnffmibpblibdaaGreatDoor
open Go.Ab
def coV (f : Nat → Bool) : V := .agg 88 (tab 8 fun c => .bool (f c))
def Dn.v2 (d : Dn) : V := .agg 90 [.int .i64 d.w, .int .u64 d.v, coV d.cs]
structure gH (hp : List Blk) (F : Ft) (m : Nat) (M : AM) : Prop where
 ok : M.Ok
 inn : Inn hp F
 fm : F m
 mb : ∃ k k2, F k ∧ F k2 ∧ m ≠ k ∧ m ≠ k2 ∧ k ≠ k2 ∧ hp[m]? = some (.rw (rmV k M.n k2 M.off M.left M.count)) ∧ hp[k]? = some (.rw (.agg 58 (tab M.n fun i => lnV (M.S i)))) ∧
  ∃ (sv : Nat → V) (ow : Nat → Nat), hp[k2]? = some (.rw (.agg 53 (tab M.n sv))) ∧ ∀ i, i < M.n → SlR hp (fun j => F j ∧ j ≠ m ∧ j ≠ k ∧ j ≠ k2 ∧ ow j = i) 90 92 (sv i) ((M.L i).map Dn.v2)
theorem gH.eqv {hp hp' : List Blk} {F : Ft} {m : Nat} {M : AM} (h : gH hp F m M) (he : Eqv hp hp' F) (hl : hp.length ≤ hp'.length) : gH hp' F m M := by
 obtain ⟨k, k2, fk, fk2, n1, n2, n3, h1, h2, sv, ow, h4, h5⟩ := h.mb;exact ⟨h.ok, fun j hj => Nat.lt_of_lt_of_le (h.inn j hj) hl, h.fm, k, k2, fk, fk2, n1, n2, n3, by rw [he m h.fm]; exact h1, by rw [he k fk]; exact h2, sv, ow, by rw [he k2 fk2]; exact h4, fun i hi => (h5 i hi).eqv (fun j hj => he j hj.1) fun j hj => hj⟩
theorem gH.chg {hp hp' : List Blk} {F G G' : Ft} {m : Nat} {M : AM} (h : gH hp F m M) (hc : Chg hp hp' G G') (ha : gu G F) : gH hp' F m M := h.eqv (hc.eqv ha h.inn) hc.le
theorem w7 {hp : List Blk} {F : Ft} {m : Nat} {M : AM} (h : gH hp F m M) (i : Int) (L : List Blk) : rf D bH [.ptr (.hp m) [] 33, .int .i64 i] ⟨L, hp⟩ = some (.bool (decide (0 ≤ i ∧ i < M.n)), ⟨L, hp⟩) := by
 obtain ⟨k, k2, fk, fk2, n1, n2, n3, h1, _⟩ := h.mb;simp only [rmV] at h1;rw [ah mT rfl];by_cases c1 : 0 ≤ i
 ·by_cases c2 : i < M.n
  ·simp only [go_sem, c1, c2, h1, and_self, decide_true]
  ·simp only [go_sem, c1, c2, h1, and_false, decide_false, decide_true]
 ·simp only [go_sem, c1, false_and, decide_false]
theorem zb {x : List Int} {l : List Dn} {n : Nat} (hn : n < l.length) : ci x (l.take (n + 1)) = (ci x (l.take n)).set l[n].w l[n].v := by
 rw [List.take_succ_eq_append_getElem hn, uc];rfl
theorem DJ {hp : List Blk} {F : Ft} {m : Nat} {M : AM} (h : gH hp F m M) (hc : M.count < 1000000) {i n : Nat} (hi : i < M.n) (hn : n ≤ (M.L i).length) (L : List Blk) :
 rf D dp [.ptr (.hp m) [] 33, .int .i64 i, .int .i64 n] ⟨L, hp⟩ = some (lnV (ci (M.S i) ((M.L i).take n)), ⟨L, hp⟩) := by
 obtain ⟨k, k2, fk, fk2, n1, n2, n3, h1, h2, sv, ow, h4, h5⟩ := h.mb;have hl8 := h.ok.l8 i hi;have hw8 := h.ok.w8 i hi;have g2 := aG (f := fun i => lnV (M.S i)) hi;have g4 := aG (f := sv) hi;have d1 : (i : Int) < M.n := by omega
 have d0 : (0 : Int) ≤ i := by omega
 have hsl := h5 i hi;have q2 := ve (a := .hp k2) (e := 1) hi;simp only [rmV, lnV] at *;generalize (tab M.n fun i => V.agg 24 ((M.S i).map (V.int .u64))) = T1 at *;generalize (tab M.n sv) = T2 at *;have loop : rc D L.length (.loop [0, 1, 2, 6, 7, 8] cL) [(0, .ptr (.hp m) [] 33), (1, .int .i64 i), (2, .int .i64 n), (6, .ptr (.loc L.length) [] 24), (7, .ptr (.loc (L.length + 1)) [] 24), (8, .int .i64 0)]
  ⟨L ++ [.rw (.agg 24 (List.replicate 8 (.int .u64 0))), .rw (.agg 24 ((M.S i).map (V.int .u64)))], hp⟩ =
  some (.exit 0, [(0, .ptr (.hp m) [] 33), (1, .int .i64 i), (2, .int .i64 n), (6, .ptr (.loc L.length) [] 24), (7, .ptr (.loc (L.length + 1)) [] 24), (8, .int .i64 n), (18, .bool false)],
   ⟨L ++ [.rw (.agg 24 (List.replicate 8 (.int .u64 0))), .rw (.agg 24 ((ci (M.S i) ((M.L i).take n)).map (V.int .u64)))], hp⟩) := by
  refine cw (fun x : Nat => [(0, .ptr (.hp m) [] 33), (1, .int .i64 i), (2, .int .i64 n), (6, .ptr (.loc L.length) [] 24), (7, .ptr (.loc (L.length + 1)) [] 24), (8, .int .i64 x)])
   (fun x => ⟨L ++ [.rw (.agg 24 (List.replicate 8 (.int .u64 0))), .rw (.agg 24 ((ci (M.S i) ((M.L i).take x)).map (V.int .u64)))], hp⟩) (fun _ => _) (fun x => n - x) (fun x => x ≤ n) 0 ?_ (by omega) rfl rfl
  intro x hx;by_cases c1 : x < n
  ·left;have c2 : (x : Int) < n := by omega
   have hxl : x < (M.L i).length := by omega
   have d4 : IntKind.i64.wrap ((x : Int) + 1) = (x : Int) + 1 := ao (by omega) (by have := h.ok.len i hi; omega);have hg := ck (f := Dn.v2) hxl ⟨0, 0, fun _ => false⟩;have hgd : (M.L i).getD x ⟨0, 0, fun _ => false⟩ = (M.L i)[x] := by rw [List.getD_eq_getElem?_getD, List.getElem?_eq_getElem hxl]; rfl
   rw [hgd] at hg;have hw := hw8 _ (List.getElem_mem hxl);have hbl : (ci (M.S i) ((M.L i).take x)).length = 8 := by rw [qr]; exact hl8
   have hrs := fun L => hsl.rs L;refine ⟨x + 1, by omega, by omega, rfl, ?_⟩;rw [zb hxl];generalize ci (M.S i) ((M.L i).take x) = Z at *;generalize (M.L i)[x] = d at *;simp only [Dn.v2] at hg;have e1 : (0 : Int) ≤ (d.w : Int) := by omega
   have e2 : (d.w : Int) < 8 := by omega
   have hld : ∀ L t q, ldv ⟨L, hp⟩ t (elq (sv i) x q t) = V.at q (V.agg 90 [V.int .i64 d.w, V.int .u64 d.v, coV d.cs]) := fun L t q => (hrs L).ldq hg;have hbm : (Z.map (V.int .u64))[d.w]? = some (.int .u64 (Z.getD d.w 0)) := ck (by omega) 0;rw [List.map_set];simp only [go_sem, cL, c2, h1, h4, g4, q2, (hrs []).sadq hg, (hrs []).fadq hg, hld, e1, e2];rw [Int.toNat_natCast];have z2 : L.length < L.length + 2 := by omega
   have z3 : L.length + 1 < L.length + 2 := by omega
   simp only [go_sem, hbm, d4, z2, z3];rfl
  ·right;have : x = n := by omega
   subst this;have c2 : ¬ (x : Int) < x := by omega
   simp only [go_sem, cL, c2]
 rw [ah mu rfl];simp only [go_sem, h1, h2, d0, d1];rw [Int.toNat_natCast];simp only [go_sem, g2, loop]
theorem pX {hp : List Blk} {F : Ft} {m : Nat} {M : AM} (h : gH hp F m M) (hc : M.count < 1000000) (i : Int) (L : List Blk) : rf D aW [.ptr (.hp m) [] 33, .int .i64 i] ⟨L, hp⟩ = some (.tup [lnV (M.load i).1, .int .i64 (M.load i).2], ⟨L, hp⟩) := by
 have his := fun L => w7 h i L;have e : lnV zl = .agg 24 (List.replicate 8 (.int .u64 0)) := rfl;unfold AM.load;by_cases hi : i < 0 ∨ (M.n : Int) ≤ i
 ·rw [if_pos hi];have hd : decide (0 ≤ i ∧ i < (M.n : Int)) = false := by simp only [decide_eq_false_iff_not]; omega
  simp only [hd] at his;rw [ah iF rfl];simp only [e];simp only [go_sem, his]
 ·rw [if_neg hi];obtain ⟨j, rfl⟩ : ∃ j : Nat, i = j := ⟨i.toNat, by omega⟩;have hj : j < M.n := by omega
  have hd : decide (0 ≤ (j : Int) ∧ (j : Int) < (M.n : Int)) = true := by simp only [decide_eq_true_eq]; omega
  simp only [hd] at his;have hh := fun L => DJ h hc hj (Nat.le_refl _) L;simp only [List.take_length] at hh;rw [Int.toNat_natCast];obtain ⟨k, k2, fk, fk2, n1, n2, n3, h1, h2, sv, ow, h4, h5⟩ := h.mb;have g4 := aG (f := sv) hj;have q2 := ve (a := .hp k2) (e := 1) hj;have hl := (h5 j hj).slen;rw [List.length_map] at hl;simp only [rmV] at h1;generalize (tab M.n sv) = T2 at *;unfold AM.now;rw [ah iF rfl];simp only [e];simp only [lnV] at *;cases ho : M.off
  ·rw [ho] at h1;simp only [go_sem, his, h1, h4, g4, q2, hl, hh, Bool.false_eq_true, if_false]
  ·rw [ho] at h1;have e2 : zl.map (V.int .u64) = List.replicate 8 (.int .u64 0) := rfl;simp only [e2, if_true];simp only [go_sem, his, h1]
theorem gH.setm {hp : List Blk} {F : Ft} {m : Nat} {M M' : AM} (h : gH hp F m M) (ok : M'.Ok) (hn : M'.n = M.n) (hS : M'.S = M.S) (hL : M'.L = M.L) {k k2 : Nat} (hb : hp[m]? = some (.rw (rmV k M.n k2 M.off M.left M.count))) :
 gH (hp.set m (.rw (rmV k M.n k2 M'.off M'.left M'.count))) F m M' ∧ Chg hp (hp.set m (.rw (rmV k M.n k2 M'.off M'.left M'.count))) F F := by
 obtain ⟨k', k2', fk, fk2, n1, n2, n3, h1, h2, sv, ow, h4, h5⟩ := h.mb;rw [hb] at h1;have h1 := Option.some.inj h1;simp only [rmV, Blk.rw.injEq, V.agg.injEq, List.cons.injEq, V.sl.injEq, Loc.hp.injEq, true_and, and_true] at h1;obtain ⟨rfl, rfl⟩ := h1;refine ⟨⟨ok, h.inn.set, h.fm, k, k2, fk, fk2, n1, n2, n3, ?_, ?_, sv, ow, ?_, fun i hi => ?_⟩, iC.mono (fun j hj => by cases hj; exact h.fm) fun _ => .inr⟩
 ·rw [hn, List.getElem?_set_self (av hb)]
 ·rw [List.getElem?_set_ne n1, hn, hS]; exact h2
 ·rw [List.getElem?_set_ne n2, hn]; exact h4
 ·rw [hn] at hi;rw [hL];exact (h5 i hi).eqv (fun j hj => List.getElem?_set_ne (Ne.symm hj.2.1)) fun j hj => hj
theorem Be {hp : List Blk} {F : Ft} {m : Nat} {M : AM} (h : gH hp F m M) (hc : M.count < 1000000) {k k2 : Nat} (h1 : hp[m]? = some (.rw (rmV k M.n k2 M.off M.left M.count))) (L : List Blk) :
 rf D db [.ptr (.hp m) [] 33] ⟨L, hp⟩ = if M.dead then some (.int .i64 4, ⟨L, hp.set m (.rw (rmV k M.n k2 M.out.off M.out.left M.out.count))⟩) else some (.int .i64 0, ⟨L, hp.set m (.rw (rmV k M.n k2 M.stepped.off M.stepped.left M.stepped.count))⟩) := by
 have ok := h.ok;have w1 : IntKind.i64.wrap (M.left - 1) = M.left - 1 := ao (by have := ok.lf; omega) (by have := ok.lg; omega);have w2 : IntKind.i64.wrap (M.count + 1) = M.count + 1 := ao (by have := ok.c0; omega) (by omega);have hlt := av h1;have hset : ∀ b, (hp.set m b)[m]? = some b := fun b => List.getElem?_set_self hlt;unfold AM.dead AM.out AM.stepped;simp only [rmV] at *;rw [ah lV rfl];cases ho : M.off
 ·rw [ho] at h1;by_cases c1 : M.left = 0
  ·simp only [go_sem, h1, c1, Bool.false_or, decide_true, if_true]
  ·by_cases c2 : M.left > 0
   ·have c3 : 0 < M.left := c2;simp only [go_sem, h1, c1, c2, c3, w1, w2, hset, Bool.false_or, decide_false, Bool.false_eq_true, if_false, if_true, List.set_set]
   ·have c3 : ¬ 0 < M.left := c2;simp only [go_sem, h1, c1, c2, c3, w2, hset, Bool.false_or, decide_false, Bool.false_eq_true, if_false, List.set_set]
 ·rw [ho] at h1;simp only [go_sem, h1, Bool.true_or, if_true]
theorem BD {hp : List Blk} {F : Ft} {m : Nat} {M : AM} (h : gH hp F m M) (n : Int) (hn : n ≤ 9223372036854775807) (L : List Blk) :
 ∃ hp', rf D cT [.ptr (.hp m) [] 33, .int .i64 n] ⟨L, hp⟩ = some (.tup [], ⟨L, hp'⟩) ∧ gH hp' F m (M.fuse n) ∧ Chg hp hp' F F := by
 have hM := h;obtain ⟨k, k2, fk, fk2, n1, n2, n3, h1, h2, sv, ow, h4, h5⟩ := h.mb;have ok := h.ok;have okf : (M.fuse n).Ok := ⟨ok.n0, ok.n1, ok.l8, ok.w8, ok.c0, ok.len, by unfold AM.fuse; simp only; split <;> omega, by unfold AM.fuse; simp only; split <;> omega⟩;obtain ⟨g1, g2⟩ := hM.setm (M' := M.fuse n) okf rfl rfl rfl h1;refine ⟨_, ?_, g1, g2⟩;have e : max n (-1) = (M.fuse n).left := by unfold AM.fuse; simp only; split <;> omega
 have e2 : max (-1) n = (M.fuse n).left := by rw [← e]; omega
 generalize (M.fuse n).left = lf at *;simp only [rmV, AM.fuse] at *;rw [ah lO rfl];simp only [go_sem, h1, e]
end Go.Proofs.YtnffmibpblibdaaGreatDoor
namespace Go.Proofs.YtnffmibpblibdaaGreatDoor
open Go.Ab
theorem tF {H : List Blk} {G : Ft} {e r : Nat} {v : V} {l : List V} (h : SlR H G e r v l) (hl : V.locLts 0 l = true) (hm : l.length ≤ cq) :
 ∃ H1 j c, H1.length ≤ H.length + 2 ∧ H.length ≤ j ∧ j < H1.length ∧ (∀ i, i < H.length → H1[i]? = H[i]?) ∧ H.length < H1.length ∧
  (∀ base L, aA base true r e (.sl (.hp H.length) [] 0 0 (some 0) e) v ⟨L, H ++ [.rw (.agg r [])]⟩ = some (.sl (.hp j) [] 0 l.length c e, ⟨L, H1⟩)) ∧ SlR H1 (fun i => i = j) e r (.sl (.hp j) [] 0 l.length c e) l := by
 have hv : SlR (H ++ [.rw (.agg r [])]) (fun i => G i ∧ i < H.length) e r v l := by
  cases h with
  | nil => exact .nil
  | emp a p o => exact .emp a p o
  | blk a c l hc hG hb => exact .blk a c l hc ⟨hG, av hb⟩ (by rw [List.getElem?_append_left (av hb)]; exact hb)
 have h0 : SlR (H ++ [.rw (.agg r [])]) (fun i => i = H.length) e r (.sl (.hp H.length) [] 0 ([] : List V).length (some ([] : List V).length) e) [] := .blk _ _ _ (.inr rfl) rfl (by simp);by_cases hn : l = []
 ·subst hn;refine ⟨H ++ [.rw (.agg r [])], H.length, some 0, by simp, Nat.le_refl _, by simp, fun i hi => List.getElem?_append_left hi, by simp, fun base L => ?_, h0⟩;unfold aA;have e1 : St.elems ⟨L, H ++ [.rw (.agg r [])]⟩ (.sl (.hp H.length) [] 0 0 (some 0) e) = some [] := h0.elems L;have e2 := hv.elems L;have e3 : V.slIs e (.sl (.hp H.length) [] 0 0 (some 0) e) = true := by simp [V.slIs]
  have e4 : V.elIs e v = true := by
   rcases hv.shape with rfl | ⟨_, _, _, _, _, rfl⟩
   ·rfl
   ·simp [V.elIs]
  rw [e1, e2, e3, e4];rfl
 ·have key : ∀ L, ∃ hp', (∀ base, aA base true r e (.sl (.hp H.length) [] 0 0 (some 0) e) v ⟨L, H ++ [.rw (.agg r [])]⟩ = some (.sl (.hp (H.length + 1)) [] 0 l.length none e, ⟨L, hp'⟩)) ∧ hp' = H ++ [.rw (.agg r []), .rw (.agg r l)] := by
   intro L;refine ⟨_, fun base => ?_, rfl⟩;have := se (base := base) (h := true) (r := r) (e := e) (x := .sl (.hp H.length) [] 0 0 (some 0) e) (old := []) (new := l) (s := ⟨L, H ++ [.rw (.agg r [])]⟩) (.inr ⟨_, _, _, _, _, rfl⟩) hv.shape (h0.elems L) (hv.elems L) hn (by simpa using hm) (.inr (by simp only [tu, uE, List.nil_append, hl, Bool.or_true]));rw [this];have hp0 : 0 < l.length := List.length_pos_iff.2 hn;simp only [nl, Option.map_some, List.length_nil, Nat.zero_add, hp0, decide_true, if_true];simp [St.fresh, St.new]
  refine ⟨H ++ [.rw (.agg r []), .rw (.agg r l)], H.length + 1, none, by simp, by omega, by simp, fun i hi => List.getElem?_append_left hi, by simp, fun base L => ?_, .blk _ _ _ (.inl rfl) rfl (by simp)⟩;obtain ⟨hp', g1, rfl⟩ := key L;exact g1 base
theorem OQ {l : List Dn} : V.locLts 0 (l.map Dn.v2) = true := by
 induction l with
 | nil => rfl
 | cons d l ih =>
  simp only [List.map_cons, V.locLts, ih, Bool.and_true];rfl
theorem sJ {hp : List Blk} {F : Ft} {m : Nat} {M : AM} (h : gH hp F m M) (hc : M.count < 1000000) (i q v : Int) (L : List Blk) :
 ∃ hp' F', rf D bn [.ptr (.hp m) [] 33, .int .i64 i, .int .i64 q, .int .u64 v] ⟨L, hp⟩ = some (.int .i64 (M.store i q v).2, ⟨L, hp'⟩) ∧ gH hp' F' m (M.store i q v).1 ∧ Chg hp hp' F F' := by
 have hM := h;have his := fun L => w7 h i L;have ok := h.ok;unfold AM.store;by_cases hi : i < 0 ∨ (M.n : Int) ≤ i
 ·rw [if_pos (by omega)];have hd : decide (0 ≤ i ∧ i < (M.n : Int)) = false := by simp only [decide_eq_false_iff_not]; omega
  simp only [hd] at his;refine ⟨hp, F, ?_, hM, .refl _ _⟩;rw [ah cK rfl];simp only [go_sem, his]
 ·have hd : decide (0 ≤ i ∧ i < (M.n : Int)) = true := by simp only [decide_eq_true_eq]; omega
  simp only [hd] at his;by_cases hq : q < 0 ∨ 8 ≤ q
  ·rw [if_pos (by omega)];refine ⟨hp, F, ?_, hM, .refl _ _⟩;rw [ah cK rfl];by_cases hq0 : q < 0
   ·simp only [go_sem, his, hq0]
   ·have hq8 : q > 7 := by omega
    simp only [go_sem, his, hq0, hq8]
  ·rw [if_neg (by omega)];obtain ⟨j, rfl⟩ : ∃ j : Nat, i = j := ⟨i.toNat, by omega⟩;obtain ⟨p, rfl⟩ : ∃ p : Nat, q = p := ⟨q.toNat, by omega⟩;simp only [Int.toNat_natCast];have d1 : ¬ (p : Int) < 0 := by omega
   have d2' : ¬ (p : Int) > 7 := by omega
   obtain ⟨k, k2, fk, fk2, n1, n2, n3, h1, h2, sv, ow, h4, h5⟩ := h.mb;have hstep := fun L => Be (L := L) hM hc h1;by_cases hdd : M.dead = true
   ·rw [if_pos hdd];simp only [hdd, if_true] at hstep;obtain ⟨g1, g2⟩ := hM.setm (M' := M.out) ok.out rfl rfl rfl h1;refine ⟨_, F, ?_, g1, g2⟩;generalize hp.set m (.rw (rmV k M.n k2 M.out.off M.out.left M.out.count)) = H at *;rw [ah cK rfl];simp only [go_sem, his, d1, d2', hstep]
   ·rw [if_neg hdd];rw [Bool.not_eq_true] at hdd;simp only [hdd, Bool.false_eq_true, if_false] at hstep;obtain ⟨g1, g2⟩ := hM.setm (M' := M.stepped) ok.stepped rfl rfl rfl h1;have hHl : (hp.set m (.rw (rmV k M.n k2 M.stepped.off M.stepped.left M.stepped.count))).length = hp.length := by rw [List.length_set]
    generalize hp.set m (.rw (rmV k M.n k2 M.stepped.off M.stepped.left M.stepped.count)) = H at *;clear h1 h2 h4 h5 sv ow n1 n2 n3 fk fk2 k k2;obtain ⟨k, k2, fk, fk2, n1, n2, n3, h1, h2, sv, ow, h4, h5⟩ := g1.mb;have e1 : M.stepped.n = M.n := rfl;have e2 : M.stepped.S = M.S := rfl;have e3 : M.stepped.L = M.L := rfl;rw [e1] at h1 h4 h5 h2;rw [e2] at h2;rw [e3] at h5;have hj : j < M.n := by omega
    have hp8 : p < 8 := by omega
    have hlen := ok.len j hj;have ml : m < H.length := av h1;have kl : k < H.length := av h2;have k2l : k2 < H.length := av h4;let dn : Dn := Dn.mk0 p v;obtain ⟨H1, j1, c1, b1, b2, b3, b4, b5, b6, b7⟩ := tF (h5 j hj) OQ (by simp [cq]; omega);have b6 := fun L => b6 (List.length L) L;have hy : ∀ L2, St.elems ⟨L2 ++ [.rw (.agg 92 [dn.v2])], H1⟩ (.sl (.loc L2.length) [] 0 1 (some 1) 90) = some [dn.v2] := fun L2 => dH (t := 92) (by simp [lX, m9, kh]) rfl;obtain ⟨H2, r1, r2, r3, r4⟩ := b7.push (base := L.length) (L ++ [.rw (.agg 92 [dn.v2])]) (.inr ⟨_, _, _, _, _, rfl⟩) (hy L) (by simp) (by simp [cq]; omega) (.inr (by
     have := OQ (l := M.L j ++ [dn]);rw [List.map_append] at this;exact this))
    let NV := V.sl (.hp H1.length) [] 0 ((M.L j).map Dn.v2 ++ [dn.v2]).length none 90;have old : ∀ x, x < H.length → H2[x]? = H[x]? := fun x hx => by rw [r4 x (by omega) (by omega), b4 x hx]
    have g4 := aG (f := sv) hj;have q2 := ve (a := .hp k2) (e := 1) hj;have a4 : H2[k2]? = some (.rw (.agg 53 (tab M.n sv))) := by rw [old k2 k2l]; exact h4
    refine ⟨H2.set k2 (.rw (.agg 53 ((tab M.n sv).set j NV))), fun x => F x ∨ x = H1.length, ?_, ⟨ok.pushed hp8, fun x hx => ?_, .inl h.fm, k, k2, .inl fk, .inl fk2, n1, n2, n3, ?_, ?_, upd sv j NV, upd ow H1.length j, ?_, fun i hi => ?_⟩, ⟨by simp; omega, fun x hx hn => ?_, fun x hx => ?_⟩⟩
    ·have b6' := b6 L;have ts : V.tag NV = 1 := rfl;have tl : V.locLt 0 NV = true := rfl;have mj : ¬ m = H.length := by omega
     have mj1 : ¬ m = j1 := by omega
     change aA _ _ _ _ _ _ _ = some (NV, _) at r1;have hdv : dn.v2 = .agg 90 [.int .i64 p, .int .u64 v, .agg 88 (List.replicate 8 (.bool false))] := rfl;rw [hdv] at r1;clear_value NV;have hsvt := (h5 j hj).tag;generalize (tab M.n sv) = T2 at *;simp only [rmV] at *;have hA1 : (H ++ [Blk.rw (.agg 92 [])])[m]? = _ := (List.getElem?_append_left ml).trans h1;have hA2 : (H ++ [Blk.rw (.agg 92 [])])[k2]? = _ := (List.getElem?_append_left k2l).trans h4;have hrep : ∀ X : V, List.replicate 1 X = [X] := fun _ => rfl;rw [ah cK rfl];simp only [go_sem, hrep, List.replicate_zero, his, d1, d2', hstep, h1, h4, hA1, hA2, g4, q2, mj, mj1, b6', r1, a4, ts, tl, hsvt]
    ·rw [List.length_set, r2];rcases hx with hx | rfl
     ·have := h.inn x hx; omega
     ·omega
    ·rw [List.getElem?_set_ne (Ne.symm n2), old m ml]; exact h1
    ·rw [List.getElem?_set_ne (Ne.symm n3), old k kl]; exact h2
    ·rw [j6]; exact List.getElem?_set_self (by omega)
    ·have e5 : (M.stepped.push j (Dn.mk0 p v)).L i = upd M.L j (M.L j ++ [Dn.mk0 p v]) i := rfl;rw [e5];by_cases e : i = j
     ·subst e;rw [bf, bf, List.map_append];refine .blk _ none _ (.inl rfl) ⟨.inr rfl, by omega, by omega, by omega, bf ..⟩ ?_;rw [List.getElem?_set_ne (by omega)]; exact r3
     ·rw [bM e, bM e];refine (h5 i hi).eqv (fun x hx => ?_) fun x hx => ⟨.inl hx.1, hx.2.1, hx.2.2.1, hx.2.2.2.1, ?_⟩
      ·have hxl : x < H.length := by have := h.inn x hx.1; omega
       rw [List.getElem?_set_ne (Ne.symm hx.2.2.2.1), old x hxl]
      ·rw [bM (by have := h.inn x hx.1; omega)]; exact hx.2.2.2.2
    ·rw [List.getElem?_set_ne (fun e => hn (by rw [← e]; exact fk2)), old x (by omega)];exact g2.old x hx hn
    ·rcases hx with hx | rfl
     ·exact .inl hx
     ·exact .inr (by omega)
end Go.Proofs.YtnffmibpblibdaaGreatDoor
namespace Go.Proofs.YtnffmibpblibdaaGreatDoor
open Go.Ab
theorem D1 {n : Nat} (h0 : 64 ≤ n) (h1 : n ≤ 1024) (hp L : List Blk) : ∃ more, more.length = 4 ∧ rf D eh [.int .i64 n] ⟨L, hp⟩ = some (.tup [.ptr (.hp (hp.length + 3)) [] 33, .int .i64 0], ⟨L, hp ++ more⟩) ∧
 gH (hp ++ more) (fun j => j = hp.length + 1 ∨ j = hp.length + 2 ∨ j = hp.length + 3) (hp.length + 3) (am0 n fun _ => zl) := by
 refine ⟨_, rfl, xT h0 h1 ⟨L, hp⟩, ⟨h0, h1, fun _ _ => rfl, fun _ _ d hd => (by cases hd), Int.le_refl _, fun _ _ => Int.le_refl _, Int.le_refl _, by simp [am0]⟩, fun j hj => ?_, .inr (.inr rfl), hp.length + 1, hp.length + 2, .inl rfl, .inr (.inl rfl), by omega, by omega, by omega, ?_, ?_, fun _ => .nils, fun _ => 0, ?_, fun i hi => .nil⟩
 ·simp; omega
 ·rw [List.getElem?_append_right (by omega), show hp.length + 3 - hp.length = 3 by omega]; rfl
 ·rw [List.getElem?_append_right (by omega), show hp.length + 1 - hp.length = 1 by omega]; rfl
 ·rw [List.getElem?_append_right (by omega), show hp.length + 2 - hp.length = 2 by omega]; rfl
end Go.Proofs.YtnffmibpblibdaaGreatDoor
namespace Go.Proofs.YtnffmibpblibdaaGreatDoor
open Go.Ab
theorem Bv {hp : List Blk} {F : Ft} {m : Nat} {M : AM} (h : fT hp F m M) (n : Int) (hn : n ≤ 9223372036854775807) (L : List Blk) :
 ∃ hp', rf D ix [.ptr (.hp m) [] 59, .int .i64 n] ⟨L, hp⟩ = some (.tup [], ⟨L, hp'⟩) ∧ fT hp' F m (M.fuse n) ∧ Chg hp hp' F F := by
 have hM := h;obtain ⟨k, fk, ne, ⟨cp, left, h1, h2, h3⟩, sv, ow, h4, h5⟩ := h.mb;have ok := h.ok;have okf : (M.fuse n).Ok := ⟨ok.n0, ok.n1, ok.l8, ok.w8, ok.c0, ok.len, by unfold AM.fuse; simp only; split <;> omega, by unfold AM.fuse; simp only; split <;> omega⟩;obtain ⟨g1, g2⟩ := hM.setm (M' := M.fuse n) (left' := n) okf rfl rfl rfl h1 (by unfold AM.fuse; simp only; split <;> omega);refine ⟨_, ?_, g1, g2⟩;have hlt := av h1;have hset : ∀ b, (hp.set m b)[m]? = some b := fun b => List.getElem?_set_self hlt;have e : decide (0 ≤ (M.fuse n).left) = decide (0 ≤ n) := by
  apply decide_eq_decide.2;unfold AM.fuse; simp only; split <;> omega
 rw [e];simp only [dO, AM.fuse] at *;rw [ah sD rfl];by_cases c1 : 0 ≤ n
 ·have c2 : n ≥ 0 := c1;simp only [go_sem, h1, hset, c1, c2, List.set_set, decide_true]
 ·have c2 : ¬ n ≥ 0 := c1;simp only [go_sem, h1, hset, c1, c2, List.set_set, decide_false]
theorem yv {hp : List Blk} {F : Ft} {m : Nat} {M : AM} (h : fT hp F m M) (L : List Blk) : rf D gW [.ptr (.hp m) [] 59] ⟨L, hp⟩ = some (.int .i64 M.count, ⟨L, hp⟩) := by
 obtain ⟨k, fk, ne, ⟨cp, left, h1, h2, h3⟩, sv, ow, h4, h5⟩ := h.mb;simp only [dO] at h1;rw [ah rz rfl];simp only [go_sem, h1]
end Go.Proofs.YtnffmibpblibdaaGreatDoor
namespace Go.Proofs.YtnffmibpblibdaaGreatDoor
open Go.Ab
structure bj (hp : List Blk) (Fm : Ft) (b m fr c : Nat) (x : AS) : Prop where
 ok : x.Ok
 st : hp[b]? = some (.rw ((x.r m fr).v))
 fq : FrQ hp fr c x.A
 mq : gH hp Fm m x.M
 nb : b ≠ fr ∧ b ≠ c
 nm : ¬ Fm b ∧ ¬ Fm fr ∧ ¬ Fm c
def bL (b fr c : Nat) (Fm : Ft) : Ft := fun j => j = b ∨ j = fr ∨ j = c ∨ Fm j
theorem bj.toT {hp : List Blk} {Fm : Ft} {b m fr c : Nat} {x : AS} (h : bj hp Fm b m fr c x) : Uq hp b m fr c x := ⟨h.st, h.fq⟩
theorem bj.inn {hp : List Blk} {Fm : Ft} {b m fr c : Nat} {x : AS} (h : bj hp Fm b m fr c x) : Inn hp (bL b fr c Fm) := fun j hj => by
 rcases hj with rfl | rfl | rfl | hj
 ·exact av h.st
 ·exact h.fq.inn _ (.inl rfl)
 ·exact h.fq.inn _ (.inr rfl)
 ·exact h.mq.inn j hj
theorem bj.chg {hp hp' : List Blk} {Fm G G' : Ft} {b m fr c : Nat} {x : AS} (h : bj hp Fm b m fr c x) (hc : Chg hp hp' G G') (ha : gu G (bL b fr c Fm)) : bj hp' Fm b m fr c x :=
 ⟨h.ok, hc.get h.st fun e => ha b e (.inl rfl), h.fq.eqv (hc.eqv (fun j h1 h2 => ha j h1 (by
  rcases h2 with rfl | rfl
  ·exact .inr (.inl rfl)
  ·exact .inr (.inr (.inl rfl)))) h.fq.inn), h.mq.chg hc fun j h1 h2 => ha j h1 (.inr (.inr (.inr h2))), h.nb, h.nm⟩
theorem tt {hp L : List Blk} {v : V} {ls : List Int} (hrs : RS ⟨L, hp⟩ 10 v (ls.map (V.int .i64))) (hl : ls.length < 1000) (n : Int) : rf D bc [v, .int .i64 n] ⟨L, hp⟩ = some (.bool (decide (n ∈ ls)), ⟨L, hp⟩) := by
 have loop : ∃ r, rc D L.length (.loop [0, 1, 5] dT) [(0, v), (1, .int .i64 n), (5, .int .i64 0)] ⟨L, hp⟩ = some r ∧
  ((n ∈ ls ∧ r = (.ret, [(4, .bool true)], ⟨L, hp⟩)) ∨ (n ∉ ls ∧ r = (.exit 0, [(0, v), (1, .int .i64 n), (5, .int .i64 ls.length), (9, .bool false)], ⟨L, hp⟩))) := by
  have hsl : V.slen false v = some ls.length := by
   have := hrs.slen
   rwa [List.length_map] at this
  refine j4 (fun x : Nat => [(0, v), (1, .int .i64 n), (5, .int .i64 x)]) (fun _ => ⟨L, hp⟩) _ (fun x => ls.length - x) (fun x => x ≤ ls.length ∧ n ∉ ls.take x) 0 ?_ ⟨by omega, by simp⟩ rfl rfl;rintro x ⟨hx, hn⟩;by_cases c1 : x < ls.length
  ·have c2 : (x : Int) < ls.length := by omega
   have d4 : IntKind.i64.wrap ((x : Int) + 1) = (x : Int) + 1 := ao (by omega) (by omega);have hg : (ls.map (V.int .i64))[x]? = some (.int .i64 ls[x]) := by rw [List.getElem?_map, List.getElem?_eq_getElem c1]; rfl
   have hld : ∀ t q, ldv ⟨L, hp⟩ t (elq v x q t) = V.at q (.int .i64 ls[x]) := fun t q => hrs.ldq hg;by_cases he : ls[x] = n
   ·right;refine ⟨_, ?_, .inl ⟨by rw [← he]; exact List.getElem_mem c1, rfl⟩⟩;simp only [go_sem, dT, hsl, c2, hrs.sadq hg, hld, he]
   ·left;refine ⟨x + 1, ⟨by omega, ?_⟩, by omega, ?_⟩
    ·rw [List.take_succ_eq_append_getElem c1, List.mem_append, List.mem_singleton];rintro (h | h)
     ·exact hn h
     ·exact he h.symm
    ·have hv : v.locLt L.length = true := hrs.locLt;simp only [go_sem, dT, hsl, c2, hrs.sadq hg, hld, he, d4, hv];rfl
  ·right;have : x = ls.length := by omega
   subst this;have c2 : ¬ (ls.length : Int) < ls.length := by omega
   rw [List.take_length] at hn;refine ⟨_, ?_, .inr ⟨hn, rfl⟩⟩;simp only [go_sem, dT, hsl, c2]
 obtain ⟨r, hr, h | h⟩ := loop
 ·obtain ⟨h1, rfl⟩ := h;rw [ah lE rfl];simp only [go_sem, hr, h1, decide_true]
 ·obtain ⟨h1, rfl⟩ := h;rw [ah lE rfl];simp only [go_sem, hr, h1, decide_false]
theorem Ae {hp : List Blk} {v : V} {ls : List Int} (hrs : ∀ L, RS ⟨L, hp⟩ 10 v (ls.map (V.int .i64))) (hl : ls.length < 1000) (n : Int) (L : List Blk) : rf D bc [v, .int .i64 n] ⟨L, hp⟩ = some (.bool (decide (n ∈ ls)), ⟨L, hp⟩) := tt (hrs L) hl n
end Go.Proofs.YtnffmibpblibdaaGreatDoor
namespace Go.Proofs.YtnffmibpblibdaaGreatDoor
open Go.Ab
theorem Apd.rs {L0 X : List Blk} {v : V} {l : List Int} (h : Apd L0 X v l) (loc : List Blk) : RS ⟨loc, L0 ++ X⟩ 10 v (l.map (.int .i64)) := by
 rcases h.at' with ⟨rfl, rfl⟩ | ⟨Y, rfl, rfl⟩
 ·exact .inl ⟨rfl, rfl⟩
 ·refine .inr ⟨_, _, _, _, by rw [List.length_map], (by intro c' hc'; cases hc'), rfl, .inr ⟨38, l.map (.int .i64), ?_, fun j x hx => by rw [Nat.zero_add]; exact hx⟩⟩;rw [← List.append_assoc, ← List.length_append];simp only [go_sem]
theorem pU {t : Nat → Ent} {n : Int} : ∀ (m i : Nat), n ∈ aJ t i m ↔ ∃ j, i ≤ j ∧ j < i + m ∧ (t j).kind ≠ 0 ∧ (t j).line = n
 | 0, i => by
  simp only [aJ, List.not_mem_nil, false_iff];rintro ⟨j, h1, h2, _⟩; omega
 | m + 1, i => by
  simp only [aJ];have ih := pU (t := t) (n := n) m (i + 1);split
  ·rename_i hk;rw [ih];constructor
   ·rintro ⟨j, h1, h2, h3⟩; exact ⟨j, by omega, by omega, h3⟩
   ·rintro ⟨j, h1, h2, h3, h4⟩;rcases Nat.lt_or_ge i j with h | h
    ·exact ⟨j, by omega, by omega, h3, h4⟩
    ·have : j = i := by omega
     subst this;exact absurd hk h3
  ·rename_i hk;rw [List.mem_cons, ih];constructor
   ·rintro (h | ⟨j, h1, h2, h3⟩)
    ·exact ⟨i, Nat.le_refl _, by omega, hk, h.symm⟩
    ·exact ⟨j, by omega, by omega, h3⟩
   ·rintro ⟨j, h1, h2, h3, h4⟩;rcases Nat.lt_or_ge i j with h | h
    ·exact .inr ⟨j, by omega, by omega, h3, h4⟩
    ·have : j = i := by omega
     subst this;exact .inl h4.symm
theorem vm {t : Nat → Ent} (ht : InL t) {n : Int} (hn : 0 ≤ n) {f : Nat → Bool} : bP t f 49 n.toNat = (f n.toNat || decide (n ∈ aJ t 0 49)) := by
 rw [qx ht 49 (Nat.le_refl _)];congr 1;apply Bool.eq_iff_iff.2;simp only [List.any_eq_true, List.mem_range, Bool.and_eq_true, decide_eq_true_eq, pU];constructor
 ·rintro ⟨i, h1, h2, h3⟩;have := ht.inn i h1 h2;exact ⟨i, by omega, by omega, h2, by omega⟩
 ·rintro ⟨i, h1, h2, h3, h4⟩;exact ⟨i, by omega, h3, by rw [h4]; omega⟩
theorem rI {hp : List Blk} {Fm : Ft} {b m fr c : Nat} {x : AS} (h : bj hp Fm b m fr c x) {i : Nat} (hi : i < 49) (hk : (x.work i).kind ≠ 0) (L : List Blk) :
 ∃ X, rf D aZ [.ptr (.hp b) [] 31, .int .i64 i] ⟨L, hp⟩ = some (.bool (x.own i), ⟨L, hp ++ X⟩) := by
 have ok := h.ok;have hb := ok.b.inL ok.A;have hm := ok.k.inL ok.A;have hw := (ok.w.inL ok.A).inn i hi hk;have hst := h.st;obtain ⟨X, v, a1, e1⟩ := mH x.base ⟨L, hp⟩;have i1 := fun L => Ae (fun L => a1.rs L) (by have := jn x.base 49 0; omega) (x.work i).line L;obtain ⟨X2, v2, a2, e2⟩ := mH x.mark ⟨L, hp ++ X⟩;have i2 := fun L => Ae (fun L => a2.rs L) (by have := jn x.mark 49 0; omega) (x.work i).line L;have g1 := aG (f := fun i => (x.work i).v) hi;have d1 : (i : Int) < 49 := by omega
 have d0 : (0 : Int) ≤ i := by omega
 have hst2 : (hp ++ X)[b]? = some (.rw ((x.r m fr).v)) := (List.getElem?_append_left (av hst)).trans hst;unfold AS.own AS.sh kc;have q1 : bP x.base (fun _ => false) 49 (x.work i).line.toNat = decide ((x.work i).line ∈ aJ x.base 0 49) := by rw [vm hb hw.1, Bool.false_or]
 have q2 : bP x.mark (bP x.base (fun _ => false) 49) 49 (x.work i).line.toNat = (decide ((x.work i).line ∈ aJ x.base 0 49) || decide ((x.work i).line ∈ aJ x.mark 0 49)) := by rw [vm hm hw.1, q1]
 simp only [AS.r, bF.v] at *;generalize hB : decide ((x.work i).line ∈ aJ x.base 0 49) = B at *;generalize hK : decide ((x.work i).line ∈ aJ x.mark 0 49) = K at *;simp only [aj, Ent.v] at *;generalize (tab 49 fun i => V.agg 42 [.int .i64 (x.work i).kind, .int .i64 (x.work i).ver, .int .i64 (x.work i).line]) = T at *;generalize (tab 49 fun i => V.agg 42 [.int .i64 (x.base i).kind, .int .i64 (x.base i).ver, .int .i64 (x.base i).line]) = TB at *;generalize (tab 49 fun i => V.agg 42 [.int .i64 (x.mark i).kind, .int .i64 (x.mark i).ver, .int .i64 (x.mark i).line]) = TK at *;rw [ah mX rfl];cases his : x.is
 ·rw [his] at hst hst2;refine ⟨X, ?_⟩;simp only [Bool.false_eq_true, if_false, q1];simp only [go_sem, hst, d0, d1];rw [Int.toNat_natCast];cases B <;> simp only [go_sem, g1, e1, i1, hst, hst2]
 ·rw [his] at hst hst2;simp only [if_true, q2];cases B
  ·refine ⟨X ++ X2, ?_⟩;simp only [List.append_assoc] at i2;simp only [go_sem, hst, d0, d1];rw [Int.toNat_natCast];cases K <;> simp only [go_sem, g1, e1, i1, hst, hst2, e2, i2]
  ·refine ⟨X, ?_⟩;simp only [go_sem, hst, d0, d1];rw [Int.toNat_natCast];simp only [go_sem, g1, e1, i1, hst, hst2]
end Go.Proofs.YtnffmibpblibdaaGreatDoor
namespace Go.Proofs.YtnffmibpblibdaaGreatDoor
open Go.Ab
theorem tD {hp : List Blk} {Fm : Ft} {b m fr c : Nat} {x : AS} (h : bj hp Fm b m fr c x) (id : Int) (L : List Blk) : rf D aX [.ptr (.hp b) [] 31, .int .i64 id] ⟨L, hp⟩ = some (.int .i64 (gE x.work id), ⟨L, hp⟩) := Sm (s := ⟨L, hp⟩) h.st id
theorem E1 {hp : List Blk} {Fm : Ft} {b m fr c : Nat} {x : AS} (h : bj hp Fm b m fr c x) (hc : x.M.count < 1000000) (id : Int) (L : List Blk) : rf D dN [.ptr (.hp b) [] 31, .int .i64 id] ⟨L, hp⟩ = some (.tup [(x.get id).1.v, .int .i64 (x.get id).2], ⟨L, hp⟩) := by
 have his := fun L => tD h id L;have hst := h.st;unfold AS.get;by_cases he : gE x.work id = 0
 ·rw [if_neg (by simp [he])];obtain ⟨h1, h2, h3⟩ := og he;obtain ⟨i, rfl⟩ : ∃ i : Nat, id = i := ⟨id.toNat, by omega⟩;rw [Int.toNat_natCast] at *;have hld := fun L => pX h.mq hc (x.work i).line L;have g1 := aG (f := fun i => (x.work i).v) (show i < 49 by omega);have d1 : (i : Int) < 49 := by omega
  have d2 : (0 : Int) ≤ i := by omega
  rw [he] at his;have e : zl.map (V.int .u64) = List.replicate 8 (.int .u64 0) := rfl;simp only [AS.r, bF.v, aj, Ent.v, lnV, Obj.v] at *;generalize tab 49 (fun i => V.agg 42 [.int .i64 (x.work i).kind, .int .i64 (x.work i).ver, .int .i64 (x.work i).line]) = W at *;generalize x.M.load (x.work i).line = ld at *;rw [ah jq rfl];by_cases hl : ld.2 = 0
  ·rw [if_neg (by simp [hl])];rw [hl] at hld;simp only [go_sem, his, hst, d1, d2];rw [Int.toNat_natCast];simp only [go_sem, g1, hst, hld, d1, d2];rw [Int.toNat_natCast];simp only [go_sem, g1, hst]
  ·rw [if_pos hl];simp only [e];simp only [go_sem, his, hst, d1, d2];rw [Int.toNat_natCast];simp only [go_sem, g1, hst, hld, hl]
 ·rw [if_pos he];have e : zl.map (V.int .u64) = List.replicate 8 (.int .u64 0) := rfl;simp only [Obj.v, lnV, e];rw [ah jq rfl];simp only [go_sem, his, he]
end Go.Proofs.YtnffmibpblibdaaGreatDoor
namespace Go.Proofs.YtnffmibpblibdaaGreatDoor
open Go.Ab
section
variable {hp hp' : List Blk} {Fm : Ft} {b m fr c : Nat} {x : AS}
theorem bj.setM (h : bj hp Fm b m fr c x) {M : AM} {Fm' : Ft} (hm : gH hp' Fm' m M) (hc : Chg hp hp' Fm Fm') (hn : M.n = x.M.n) : bj hp' Fm' b m fr c { x with M := M } := by
 have lb : b < hp.length := av h.st;have lf : fr < hp.length := h.fq.inn _ (.inl rfl);have lc : c < hp.length := h.fq.inn _ (.inr rfl);refine ⟨h.ok.with hm.ok hn h.ok.A h.ok.s2 rfl rfl, hc.get h.st h.nm.1, h.fq.eqv fun j hj => ?_, hm, h.nb, fun e => ?_, fun e => ?_, fun e => ?_⟩
 ·rcases hj with rfl | rfl
  ·exact hc.old _ lf h.nm.2.1
  ·exact hc.old _ lc h.nm.2.2
 ·rcases hc.new b e with e | e
  ·exact h.nm.1 e
  ·omega
 ·rcases hc.new fr e with e | e
  ·exact h.nm.2.1 e
  ·omega
 ·rcases hc.new c e with e | e
  ·exact h.nm.2.2 e
  ·omega
theorem Fy {Fm' : Ft} (hc : Chg hp hp' Fm Fm') : Chg hp hp' (bL b fr c Fm) (bL b fr c Fm') :=
 hc.mono (fun j h => .inr (.inr (.inr h))) fun j h => by
  rcases h with h | h | h | h
  ·exact .inr (.inl h)
  ·exact .inr (.inr (.inl h))
  ·exact .inr (.inr (.inr (.inl h)))
  ·exact .inl h
theorem bj.setA (h : bj hp Fm b m fr c x) {A : AF} (hf : FrQ hp' fr c A) (hc : Chg hp hp' (FtQ fr c) (FtQ fr c)) (hs : ∀ j, A.st j ≠ 2) (h1 : A.f = x.A.f) (h2 : A.l = x.A.l) : bj hp' Fm b m fr c { x with A := A } :=
 ⟨h.ok.with h.ok.M rfl hf.ok hs h1 h2, hc.get h.st (fun e => by
  rcases e with e | e
  ·exact h.nb.1 e
  ·exact h.nb.2 e), hf, h.mq.chg hc fun j h1 h2 => by
   rcases h1 with rfl | rfl
   ·exact h.nm.2.1 h2
   ·exact h.nm.2.2 h2, h.nb, h.nm⟩
theorem uf (hc : Chg hp hp' (FtQ fr c) (FtQ fr c)) : Chg hp hp' (bL b fr c Fm) (bL b fr c Fm) := hc.mono (fun j h => by
 rcases h with h | h
 ·exact .inr (.inl h)
 ·exact .inr (.inr (.inl h))) fun _ h => .inr h
theorem bj.setB (h : bj hp Fm b m fr c x) {y : AS} (hy : y.Ok) (hM : y.M = x.M) (hA : y.A = x.A) : bj (hp.set b (.rw ((y.r m fr).v))) Fm b m fr c y :=
 ⟨hy, List.getElem?_set_self (av h.st), by rw [hA]; exact h.fq.eqv fun j hj => List.getElem?_set_ne (by
  rcases hj with rfl | rfl
  ·exact h.nb.1
  ·exact h.nb.2), by rw [hM]; exact h.mq.chg (iC (a := b)) fun j h1 h2 => h.nm.1 (by cases h1; exact h2), h.nb, h.nm⟩
theorem qK {k : Blk} : Chg hp (hp.set b k) (bL b fr c Fm) (bL b fr c Fm) := iC.mono (fun _ h => .inl h) fun _ h => .inr h
theorem bj.more (h : bj hp Fm b m fr c x) (X : List Blk) : bj (hp ++ X) Fm b m fr c x := h.chg (lQ hp X fun _ => False) fun _ h => h.elim
theorem vl {l : List Int} (hl : l.length = 8) {at' : Int} (L : List Blk) : ∀ (n j : Nat) {hp : List Blk} {Fm : Ft} {x : AS}, j + n = 8 → bj hp Fm b m fr c x → x.M.count + n < 1000000 →
 ∃ hp' Fm' r, rc D L.length (.loop [0, 3, 6, 8] bZ) [(0, .ptr (.hp b) [] 31), (3, .ptr (.loc L.length) [] 24), (6, .int .i64 at'), (8, .int .i64 j)] ⟨L ++ [.rw (lnV l)], hp⟩ = some r ∧
  bj hp' Fm' b m fr c { x with M := (x.M.layFrom at' l j n).1 } ∧ Chg hp hp' Fm Fm' ∧
  (((x.M.layFrom at' l j n).2 = 0 ∧ r = (.exit 0, [(0, .ptr (.hp b) [] 31), (3, .ptr (.loc L.length) [] 24), (6, .int .i64 at'), (8, .int .i64 8), (21, .bool false)], ⟨L ++ [.rw (lnV l)], hp'⟩)) ∨
   ((x.M.layFrom at' l j n).2 ≠ 0 ∧ r = (.ret, [(4, .int .i64 0), (5, .int .i64 (x.M.layFrom at' l j n).2)], ⟨L ++ [.rw (lnV l)], hp'⟩)))
 | 0, j, hp, Fm, x, hj, h, _ => by
  have : j = 8 := by omega
  subst this;refine ⟨hp, Fm, _, ?_, h, .refl _ _, .inl ⟨rfl, rfl⟩⟩;rw [aR];simp only [lnV];simp only [go_sem, bZ]
 | n + 1, j, hp, Fm, x, hj, h, hc => by
  obtain ⟨hp1, Fm1, e1, e2, e3⟩ := sJ h.mq (by omega) at' j (l.getD j 0) (L ++ [.rw (lnV l)]);have h1 := h.setM e2 e3 AM.store_n;have hcn := AM.store_count (M := x.M) (i := at') (q := j) (v := l.getD j 0);have d1 : (j : Int) < 8 := by omega
  have d2 : (0 : Int) ≤ j := by omega
  have d4 : IntKind.i64.wrap ((j : Int) + 1) = ((j + 1 : Nat) : Int) := ao (by omega) (by omega);have g := ck (f := V.int .u64) (l := l) (i := j) (by omega) 0;have hst := h.st;simp only [AM.layFrom];by_cases he : (x.M.store at' j (l.getD j 0)).2 = 0
  ·rw [if_neg fun hh => hh he];obtain ⟨hp2, Fm2, r, q1, q2, q3, q4⟩ := vl hl L n (j + 1) (by omega) h1 (by simp only; omega);refine ⟨hp2, Fm2, r, ?_, q2, e3.trans q3, q4⟩;rw [← q1, aR];rw [he] at e1;simp only [AS.r, bF.v, lnV] at *;generalize l.getD j 0 = wd at *;simp only [go_sem, bZ, d1, d2, Int.toNat_natCast, g, hst, e1, d4, show L.length < L.length + 1 from Nat.lt_succ_self _]
  ·rw [if_pos he];refine ⟨hp1, Fm1, _, ?_, h1, e3, .inr ⟨he, rfl⟩⟩;rw [aR];simp only [AS.r, bF.v, lnV] at *;generalize l.getD j 0 = wd at *;simp only [go_sem, bZ, d1, d2, Int.toNat_natCast, g, hst, e1, he]
theorem vS (h : bj hp Fm b m fr c x) (hc : x.M.count + 8 < 1000000) {l : List Int} (hl : l.length = 8) (L : List Blk) :
 ∃ hp' Fm', rf D bI [.ptr (.hp b) [] 31, lnV l] ⟨L, hp⟩ = some (.tup [.int .i64 (x.lay l).2.1, .int .i64 (x.lay l).2.2], ⟨L, hp'⟩) ∧ bj hp' Fm' b m fr c (x.lay l).1 ∧ Chg hp hp' (bL b fr c Fm) (bL b fr c Fm') := by
 obtain ⟨hp1, e1, e2, e3⟩ := sM h.fq (L ++ [.rw (lnV l)]);have h1 := h.setA e2 e3 (oY h.ok.s2) ef.1 ef.2;have hs := h.st;unfold AS.lay;by_cases he : x.A.alloc.2.2 = 0
 ·rw [if_neg (by simp [he])];obtain ⟨hp2, Fm2, r, q1, q2, q3, q4⟩ := vl (b := b) (m := m) (fr := fr) (c := c) hl (at' := x.A.alloc.2.1) L 8 0 rfl h1 (by simp only; omega);simp only at q1 q2 q4 ⊢;rw [show ((0 : Nat) : Int) = 0 from rfl] at q1
  refine ⟨hp2, Fm2, ?_, q2, (uf e3).trans (Fy q3)⟩;rw [he] at e1;generalize x.M.layFrom x.A.alloc.2.1 l 0 8 = lf at *;generalize x.A.alloc.2.1 = at' at *;simp only [AS.r, bF.v, lnV] at *;rw [ah js rfl];rcases q4 with ⟨z, rfl⟩ | ⟨z, rfl⟩
  ·rw [z, if_neg (by simp)];simp only [go_sem, hs, e1];simp only [go_sem, q1]
  ·rw [if_pos z];simp only [go_sem, hs, e1];simp only [go_sem, q1]
 ·rw [if_pos he];have hn : x.A.alloc = (x.A, 0, 10) := by
   unfold AF.alloc at he ⊢;split
   ·rename_i hq; rw [hq] at he; exact absurd rfl he
   ·rfl
  rw [hn] at h1 e1;refine ⟨hp1, Fm, ?_, h1, uf e3⟩;rw [hn];simp only [AS.r, bF.v, lnV] at *;rw [ah js rfl];simp only [go_sem, hs, e1]
end
end Go.Proofs.YtnffmibpblibdaaGreatDoor
namespace Go.Proofs.YtnffmibpblibdaaGreatDoor
open Go.Ab
section
variable {hp hp' : List Blk} {Fm : Ft} {b m fr c : Nat} {x : AS}
theorem kY (X : List Blk) {F : Ft} : Chg hp (hp ++ X) F F := (lQ hp X fun _ => False).mono (fun _ h => h.elim) fun _ h => .inr h
theorem Cg (h : bj hp Fm b m fr c x) (hc : x.M.count + 8 < 1000000) (id word v : Int) (L : List Blk) :
 ∃ hp' Fm', rf D dL [.ptr (.hp b) [] 31, .int .i64 id, .int .i64 word, .int .u64 v] ⟨L, hp⟩ = some (.int .i64 (x.set id word v).2, ⟨L, hp'⟩) ∧ bj hp' Fm' b m fr c (x.set id word v).1 ∧ Chg hp hp' (bL b fr c Fm) (bL b fr c Fm') := by
 have hst := h.st;have hok := (h.ok.set id word v);unfold AS.set at hok ⊢;by_cases c0 : id < 0 ∨ 49 ≤ id ∨ word < 0 ∨ 8 ≤ word
 ·rw [if_pos c0];refine ⟨hp, Fm, ?_, h, .refl _ _⟩;rw [ah bl rfl];by_cases c1 : id < 0
  ·simp only [go_sem, c1]
  ·by_cases c2 : 49 ≤ id
   ·simp only [go_sem, c1, c2]
   ·by_cases c3 : word < 0
    ·simp only [go_sem, c1, c2, c3]
    ·have c4 : word > 7 := by omega
     simp only [go_sem, c1, c2, c3, c4]
 ·rw [if_neg c0] at hok ⊢;have w1 : ¬ word < 0 := by omega
  have w2 : ¬ word > 7 := by omega
  obtain ⟨i, rfl⟩ : ∃ i : Nat, id = i := ⟨id.toNat, by omega⟩;rw [Int.toNat_natCast] at *;have hi : i < 49 := by omega
  have w0 : ¬ (i : Int) < 0 := by omega
  have w00 : ¬ (49 : Int) ≤ i := by omega
  have g1 := aG (f := fun i => (x.work i).v) hi;have d1 : (i : Int) < 49 := by omega
  have d2 : (0 : Int) ≤ i := by omega
  by_cases hk : (x.work i).kind = 0
  ·rw [if_pos hk];refine ⟨hp, Fm, ?_, h, .refl _ _⟩;simp only [AS.r, bF.v, aj, Ent.v] at *;generalize tab 49 (fun i => V.agg 42 [.int .i64 (x.work i).kind, .int .i64 (x.work i).ver, .int .i64 (x.work i).line]) = T at *;simp only [hk] at g1;rw [ah bl rfl];simp only [go_sem, w0, w00, w1, w2, hst, d1, d2];rw [Int.toNat_natCast];simp only [go_sem, g1]
  ·rw [if_neg hk] at hok ⊢;obtain ⟨X, hown⟩ := rI h hi hk L;have h' := h.more X;have hst' := h'.st;by_cases ho : x.own i = true
   ·rw [if_pos ho];obtain ⟨hp1, Fm1, e1, e2, e3⟩ := sJ h'.mq (by omega) (x.work i).line word v L;refine ⟨hp1, Fm1, ?_, h'.setM e2 e3 AM.store_n, (kY X).trans (Fy e3)⟩;rw [ho] at hown;generalize x.M.store (x.work i).line word v = sr at *;simp only [AS.r, bF.v, aj, Ent.v] at *;generalize tab 49 (fun i => V.agg 42 [.int .i64 (x.work i).kind, .int .i64 (x.work i).ver, .int .i64 (x.work i).line]) = T at *;rw [ah bl rfl];simp only [go_sem, w0, w00, w1, w2, hst, d1, d2];rw [Int.toNat_natCast];simp only [go_sem, g1, hk, hown, hst', d1, d2];rw [Int.toNat_natCast];simp only [go_sem, g1, hst', e1]
   ·rw [if_neg ho] at hok ⊢;have ho' : x.own i = false := by simpa using ho
    have hleft := fun L => qz h'.fq L;rw [ho'] at hown;by_cases hl0 : x.A.left = 0
    ·rw [if_pos hl0];refine ⟨hp ++ X, Fm, ?_, h', kY X⟩;rw [hl0] at hleft;simp only [AS.r, bF.v, aj, Ent.v] at *;generalize tab 49 (fun i => V.agg 42 [.int .i64 (x.work i).kind, .int .i64 (x.work i).ver, .int .i64 (x.work i).line]) = T at *;rw [ah bl rfl];simp only [go_sem, w0, w00, w1, w2, hst, d1, d2];rw [Int.toNat_natCast];simp only [go_sem, g1, hk, hown, hst', hleft]
    ·rw [if_neg hl0] at hok ⊢;have hl0' : ¬ ((x.A.left : Nat) : Int) = 0 := by omega
     have hld := fun L => pX h'.mq (by omega) (x.work i).line L;by_cases hle : (x.M.load (x.work i).line).2 ≠ 0
     ·rw [if_pos hle];refine ⟨hp ++ X, Fm, ?_, h', kY X⟩;generalize x.M.load (x.work i).line = ld at *;simp only [AS.r, bF.v, aj, Ent.v, lnV] at *;generalize tab 49 (fun i => V.agg 42 [.int .i64 (x.work i).kind, .int .i64 (x.work i).ver, .int .i64 (x.work i).line]) = T at *;rw [ah bl rfl];simp only [go_sem, w0, w00, w1, w2, hst, d1, d2];rw [Int.toNat_natCast];simp only [go_sem, g1, hk, hown, hst', hleft, hl0', d1, d2];rw [Int.toNat_natCast];simp only [go_sem, g1, hst', hld, hle]
     ·rw [if_neg hle] at hok ⊢;have hle' : (x.M.load (x.work i).line).2 = 0 := by simpa using hle
      have hl8 : (x.M.load (x.work i).line).1.length = 8 := by
       unfold AM.load at hle' ⊢;split
       ·rfl
       ·rename_i hh; split
        ·rfl
        ·exact h.ok.M.now8 (by omega)
      obtain ⟨w, rfl⟩ : ∃ w : Nat, word = w := ⟨word.toNat, by omega⟩;rw [Int.toNat_natCast] at *;have w3 : (w : Int) < 8 := by omega
      have w4 : (0 : Int) ≤ w := by omega
      have gw := ck (f := V.int .u64) (l := (x.M.load (x.work i).line).1) (i := w) (by omega) 0;obtain ⟨hp1, Fm1, e1, e2, e3⟩ := vS h' hc (l := (x.M.load (x.work i).line).1.set w v) (by simpa using hl8) (L ++ [.rw (lnV ((x.M.load (x.work i).line).1.set w v))]);rw [hle'] at hld;have hst1 := e2.st;have hw := AS.lay_work (x := x) ((x.M.load (x.work i).line).1.set w v);simp only at hok ⊢;by_cases hre : (x.lay ((x.M.load (x.work i).line).1.set w v)).2.2 ≠ 0
      ·rw [if_pos hre];refine ⟨hp1, Fm1, ?_, e2, (kY X).trans e3⟩;clear hok;generalize x.lay ((x.M.load (x.work i).line).1.set w v) = lr at *;generalize x.M.load (x.work i).line = ld at *;simp only [AS.r, bF.v, aj, Ent.v, lnV, List.map_set] at *;generalize tab 49 (fun i => V.agg 42 [.int .i64 (x.work i).kind, .int .i64 (x.work i).ver, .int .i64 (x.work i).line]) = T at *;rw [ah bl rfl];simp only [go_sem, w0, w00, w1, w2, hst, d1, d2];rw [Int.toNat_natCast];simp only [go_sem, g1, hk, hown, hst', hleft, hl0', d1, d2];rw [Int.toNat_natCast];simp only [go_sem, g1, hst', hld, w3, w4, gw];simp only [go_sem, Int.toNat_natCast, gw, e1, hre]
      ·rw [if_neg hre] at hok ⊢;have hre' : (x.lay ((x.M.load (x.work i).line).1.set w v)).2.2 = 0 := by simpa using hre
       have e4 := e2.setB hok rfl rfl;refine ⟨_, Fm1, ?_, e4, ((kY X).trans e3).trans qK⟩;rw [hre'] at e1;have hup := kp (t := x.work) (i := i) (e := (x.work i).at (x.lay ((x.M.load (x.work i).line).1.set w v)).2.1);simp only [AS.r, hw.1] at hst1 ⊢;clear hok e4 e2;generalize x.lay ((x.M.load (x.work i).line).1.set w v) = lr at *;generalize x.M.load (x.work i).line = ld at *;simp only [AS.r, bF.v, aj] at hst hst' hst1 ⊢;rw [← hup];simp only [Ent.at, Ent.v, lnV, List.map_set] at *;generalize tab 49 (fun i => V.agg 42 [.int .i64 (x.work i).kind, .int .i64 (x.work i).ver, .int .i64 (x.work i).line]) = T at *;rw [ah bl rfl];simp only [go_sem, w0, w00, w1, w2, hst, d1, d2];rw [Int.toNat_natCast];simp only [go_sem, g1, hk, hown, hst', hleft, hl0', d1, d2];rw [Int.toNat_natCast];simp only [go_sem, g1, hst', hld, w3, w4, gw];simp only [go_sem, Int.toNat_natCast, gw, e1, hst1, g1, d1, d2]
end
end Go.Proofs.YtnffmibpblibdaaGreatDoor
namespace Go.Proofs.YtnffmibpblibdaaGreatDoor
open Go.Ab
section
variable {hp hp' : List Blk} {Fm : Ft} {b m fr c : Nat} {x : AS}
theorem Bp (h : bj hp Fm b m fr c x) (hc : x.M.count + 8 < 1000000) (k : Int) (L : List Blk) :
 ∃ hp' Fm', rf D du [.ptr (.hp b) [] 31, .int .i64 k] ⟨L, hp⟩ = some (.tup [.int .i64 (x.make k).2.1, .int .i64 (x.make k).2.2], ⟨L, hp'⟩) ∧ bj hp' Fm' b m fr c (x.make k).1 ∧ Chg hp hp' (bL b fr c Fm) (bL b fr c Fm') := by
 have hnx := fun L => xK (s := ⟨L, hp⟩) h.st k;have hwk : (x.r m fr).work = x.work := rfl;rw [hwk] at hnx;have hok := h.ok.make k;unfold AS.make at hok ⊢;by_cases he : nxE x.work k ≠ 0
 ·rw [if_pos he];refine ⟨hp, Fm, ?_, h, .refl _ _⟩;generalize nxE x.work k = ee at *;rw [ah fe rfl];simp only [go_sem, hnx, he]
 ·rw [if_neg he] at hok ⊢;have he' : nxE x.work k = 0 := by simpa using he
  obtain ⟨hp1, Fm1, e1, e2, e3⟩ := vS h hc (l := zl) rfl L;have hst1 := e2.st;have hw := AS.lay_work (x := x) zl;obtain ⟨n1, n2, n3, _⟩ := uo he';have ez : lnV zl = .agg 24 (List.replicate 8 (.int .u64 0)) := rfl;rw [ez] at e1;rw [he'] at hnx;simp only at hok ⊢;by_cases hre : (x.lay zl).2.2 ≠ 0
  ·rw [if_pos hre];refine ⟨hp1, Fm1, ?_, e2, e3⟩;generalize x.lay zl = lr at *;rw [ah fe rfl];simp only [go_sem, hnx, e1, hre]
  ·rw [if_neg hre] at hok ⊢;have hre' : (x.lay zl).2.2 = 0 := by simpa using hre
   have e4 := e2.setB hok rfl rfl;refine ⟨_, Fm1, ?_, e4, e3.trans qK⟩;rw [hre'] at e1;obtain ⟨i, hi⟩ : ∃ i : Nat, nxI x.work k = i := ⟨(nxI x.work k).toNat, by omega⟩;rw [hi] at hnx n1 n2 ⊢;rw [Int.toNat_natCast];have hup := kp (t := x.work) (i := i) (e := ⟨k, nxV x.work k, (x.lay zl).2.1⟩);have g1 := aG (f := fun i => (x.work i).v) (show i < 49 by omega);simp only [AS.r, hw.1] at hst1 ⊢;clear hok e4 e2;generalize x.lay zl = lr at *;generalize nxV x.work k = vv at *;simp only [bF.v, aj] at hst1 ⊢;rw [← hup];simp only [Ent.v] at *;generalize tab 49 (fun i => V.agg 42 [.int .i64 (x.work i).kind, .int .i64 (x.work i).ver, .int .i64 (x.work i).line]) = T at *;rw [ah fe rfl];simp only [go_sem, hnx, e1, hst1, n1, n2];rw [Int.toNat_natCast];simp only [go_sem, hst1, g1]
theorem AW (h : bj hp Fm b m fr c x) (L : List Blk) :
 ∃ hp', rf D dt [.ptr (.hp b) [] 31] ⟨L, hp⟩ = some (.int .i64 x.marks.2, ⟨L, hp'⟩) ∧ bj hp' Fm b m fr c x.marks.1 ∧ Chg hp hp' (bL b fr c Fm) (bL b fr c Fm) := by
 have hok := h.ok.marks;have hst := h.st;unfold AS.marks at hok ⊢;cases hi : x.is
 ·rw [if_neg (by simp [hi])] at hok;rw [if_neg (by simp)];have e4 := h.setB hok rfl rfl;refine ⟨_, ?_, e4, qK⟩;have hs : ∀ k, (hp.set b k)[b]? = some k := fun k => List.getElem?_set_self (av hst);simp only [AS.r, hi] at hst ⊢;simp only [bF.v, aj] at *;rw [ah iZ rfl];simp only [go_sem, hst, hs, List.set_set]
 ·rw [if_pos rfl];refine ⟨hp, ?_, h, .refl _ _⟩;simp only [AS.r, bF.v, hi] at hst;rw [ah iZ rfl];simp only [go_sem, hst]
end
end Go.Proofs.YtnffmibpblibdaaGreatDoor
namespace Go.Proofs.YtnffmibpblibdaaGreatDoor
open Go.Ab
theorem xc (k v l : Int) (hk : k ≠ 0) (h0 : 0 ≤ v) (h1 : v ≤ 16777215) (s : St) : rf D f6 [.agg 42 [.int .i64 k, .int .i64 v, .int .i64 l]] s = some (.tup [.agg 42 [.int .i64 0, .int .i64 (mS v), .int .i64 0], .int .i64 0], s) := by
 unfold mS;rw [ah qb rfl];by_cases h : v = 16777215
 ·subst h;rw [if_neg (by omega)];simp only [go_sem, hk]
 ·have e2 : IntKind.i64.wrap (v + 1) = v + 1 := ao (by omega) (by omega);rw [if_pos (by omega)];simp only [go_sem, hk, h, e2]
section
variable {hp hp' : List Blk} {Fm : Ft} {b m fr c : Nat} {x : AS}
theorem E2 (h : bj hp Fm b m fr c x) (hver : ∀ i, i < 49 → 0 ≤ (x.work i).ver ∧ (x.work i).ver ≤ 16777215) (id : Int) (L : List Blk) :
 ∃ hp', rf D dM [.ptr (.hp b) [] 31, .int .i64 id] ⟨L, hp⟩ = some (.int .i64 (x.ends id).2, ⟨L, hp'⟩) ∧ bj hp' Fm b m fr c (x.ends id).1 ∧ Chg hp hp' (bL b fr c Fm) (bL b fr c Fm) := by
 have his := fun L => tD h id L;have hok := h.ok.ends id;have hst := h.st;unfold AS.ends at hok ⊢;by_cases he : gE x.work id ≠ 0
 ·rw [if_pos he];refine ⟨hp, ?_, h, .refl _ _⟩;generalize gE x.work id = ee at *;rw [ah fP rfl];simp only [go_sem, his, he]
 ·rw [if_neg he] at hok ⊢;have he' : gE x.work id = 0 := by simpa using he
  obtain ⟨h1, h2, h3⟩ := og he';obtain ⟨i, rfl⟩ : ∃ i : Nat, id = i := ⟨id.toNat, by omega⟩;rw [Int.toNat_natCast] at *;have hi : i < 49 := by omega
  rw [he'] at his;obtain ⟨X, hown⟩ := rI h hi h3 L;have h' := h.more X;have hst' := h'.st;have hv := hver i hi;have hline := (h.ok.w.inL h.ok.A).inn i hi h3;have hen := fun s => xc (x.work i).kind (x.work i).ver (x.work i).line h3 hv.1 hv.2 s;have g1 := aG (f := fun i => (x.work i).v) hi;have hup := kp (t := x.work) (i := i) (e := ⟨0, mS (x.work i).ver, 0⟩);have d1 : (i : Int) < 49 := by omega
  have d2 : (0 : Int) ≤ i := by omega
  by_cases ho : x.own i = true
  ·rw [if_pos ho] at hok ⊢;obtain ⟨hp1, e1, e2, e3⟩ := tW h'.fq (x.work i).line (by omega) L;have hA := h'.setA e2 e3 (Aw h.ok.s2 (by decide)) ny.1 ny.2;have hst1 := hA.st;have e4 := hA.setB hok rfl rfl;refine ⟨_, ?_, e4, ((kY X).trans (uf e3)).trans qK⟩;rw [ho] at hown;simp only [AS.r] at hst hst' hst1 ⊢;clear hok e4 e2;generalize (x.A.turn (x.work i).line 1 0).2 = te at *;simp only [bF.v, aj] at hst hst' hst1 ⊢;rw [← hup];simp only [Ent.v] at *;generalize tab 49 (fun i => V.agg 42 [.int .i64 (x.work i).kind, .int .i64 (x.work i).ver, .int .i64 (x.work i).line]) = T at *;rw [ah fP rfl];simp only [go_sem, his, hown, hst', d1, d2];rw [Int.toNat_natCast];simp only [go_sem, g1, hst', e1, hst1, d1, d2, hen, Int.toNat_natCast]
  ·rw [if_neg ho] at hok ⊢;have ho' : x.own i = false := by simpa using ho
   have e4 := h'.setB hok rfl rfl;refine ⟨_, ?_, e4, (kY X).trans qK⟩;rw [ho'] at hown;simp only [AS.r] at hst hst' ⊢;clear hok e4;simp only [bF.v, aj] at hst hst' ⊢;rw [← hup];simp only [Ent.v] at *;generalize tab 49 (fun i => V.agg 42 [.int .i64 (x.work i).kind, .int .i64 (x.work i).ver, .int .i64 (x.work i).line]) = T at *;rw [ah fP rfl];simp only [go_sem, his, hown, hst', d1, d2, g1, hen, Int.toNat_natCast]
end
end Go.Proofs.YtnffmibpblibdaaGreatDoor
namespace Go.Proofs.YtnffmibpblibdaaGreatDoor
open Go.Ab
section
variable {Fm : Ft} {b m fr c : Nat} {x : AS}
theorem kM (more : Int) (L : List Blk) {ids : List Int} {v : V} (hids : ids.length ≤ 900) : ∀ (rest pre : List Int) (hp : List Blk) (n0 : Nat), ids = pre ++ rest → bj hp Fm b m fr c x → RS ⟨L, hp⟩ 10 v (ids.map (.int .i64)) → n0 ≤ pre.length →
 ∃ X, rc D L.length (.loop [0, 1, 2, 7, 8] a8) [(0, .ptr (.hp b) [] 31), (1, v), (2, .int .i64 more), (7, .int .i64 n0), (8, .int .i64 pre.length)] ⟨L, hp⟩ =
  some (.exit 0, [(0, .ptr (.hp b) [] 31), (1, v), (2, .int .i64 more), (7, .int .i64 ((n0 + x.needs pre rest : Nat) : Int)), (8, .int .i64 ids.length), (12, .bool false)], ⟨L, hp ++ X⟩)
 | [], pre, hp, n0, he, h, hv, hn => by
  rw [List.append_nil] at he;subst he;have hsl := hv.slen;rw [List.length_map] at hsl;refine ⟨[], ?_⟩;rw [aR];have c2 : ¬ (ids.length : Int) < ids.length := by omega
  simp only [go_sem, a8, hsl, AS.needs, Nat.add_zero, c2]
 | id :: r, pre, hp, n0, he, h, hv, hn => by
  have hsl := hv.slen;rw [List.length_map] at hsl;have hlen : ids.length = pre.length + (r.length + 1) := by rw [he]; simp
  have d1 : (pre.length : Int) < ids.length := by omega
  have hg : (ids.map (V.int .i64))[pre.length]? = some (.int .i64 id) := by rw [he]; simp
  have d4 : IntKind.i64.wrap ((pre.length : Int) + 1) = ((pre ++ [id]).length : Int) := by rw [ao (by omega) (by omega)]; simp
  have d5 : IntKind.i64.wrap ((n0 : Int) + 1) = ((n0 + 1 : Nat) : Int) := by rw [ao (by omega) (by omega)]; simp
  have he2 : ids = (pre ++ [id]) ++ r := by rw [he]; simp
  have his := fun L => tD h id L;have hvl : v.locLt L.length = true := hv.locLt;have hg1 := hg;simp only [AS.needs];by_cases hE : gE x.work id = 0
  ·obtain ⟨h1, h2, h3⟩ := og hE;obtain ⟨i, rfl⟩ : ∃ i : Nat, id = i := ⟨id.toNat, by omega⟩;rw [Int.toNat_natCast] at *;have hi : i < 49 := by omega
   obtain ⟨X1, hown⟩ := rI h hi h3 L;have hm := h.more X1;have hv1 : RS ⟨L, hp ++ X1⟩ 10 v (ids.map (.int .i64)) := hv.more ⟨List.prefix_rfl, List.prefix_append _ _⟩;rw [hE] at his;by_cases ho : x.own i = true
   ·rw [if_neg (by simp [ho]), Nat.zero_add];rw [ho] at hown;obtain ⟨X2, q⟩ := kM more L hids r (pre ++ [(i : Int)]) (hp ++ X1) n0 he2 hm hv1 (by simp; omega);refine ⟨X1 ++ X2, ?_⟩;rw [← List.append_assoc, ← q, aR];simp only [go_sem, a8, hsl, d1, hv.sadq hg, hv.ldq hg, his, hown, d4, hvl]
   ·have ho : x.own i = false := by simpa using ho
    rw [ho] at hown;obtain ⟨v', e1, hr, _⟩ := hv1.take (n := pre.length) (by rw [List.length_map]; omega) (k := .i64);have hpre : (ids.map (V.int .i64)).take pre.length = pre.map (.int .i64) := by rw [← List.map_take, he, List.take_left]
    rw [hpre] at hr;have hin := tt hr (by omega) (i : Int);have hvl' : v'.locLt L.length = true := hr.locLt;by_cases hs : (i : Int) ∈ pre
    ·rw [if_neg (by simp [hs]), Nat.zero_add];simp only [hs, decide_true] at hin;obtain ⟨X2, q⟩ := kM more L hids r (pre ++ [(i : Int)]) (hp ++ X1) n0 he2 hm hv1 (by simp; omega);refine ⟨X1 ++ X2, ?_⟩;rw [← List.append_assoc, ← q, aR];simp only [go_sem, a8, hsl, d1, hv.sadq hg, hv.ldq hg, hv1.sadq hg, hv1.ldq hg, his, hown, e1, hin, hvl', d4, hvl]
    ·rw [if_pos ⟨hE, ho, hs⟩];simp only [hs, decide_false] at hin;obtain ⟨X2, q⟩ := kM more L hids r (pre ++ [(i : Int)]) (hp ++ X1) (n0 + 1) he2 hm hv1 (by simp; omega);refine ⟨X1 ++ X2, ?_⟩;rw [← List.append_assoc, show n0 + (1 + x.needs (pre ++ [(i : Int)]) r) = n0 + 1 + x.needs (pre ++ [(i : Int)]) r by omega, ← q, aR];simp only [go_sem, a8, hsl, d1, hv.sadq hg, hv.ldq hg, hv1.sadq hg, hv1.ldq hg, his, hown, e1, hin, hvl', d4, d5, hvl]
  ·rw [if_neg (fun hh => hE hh.1), Nat.zero_add];obtain ⟨X2, q⟩ := kM more L hids r (pre ++ [id]) hp n0 he2 h hv (by simp; omega);refine ⟨X2, ?_⟩;rw [← q, aR];generalize gE x.work id = ee at *;simp only [go_sem, a8, hsl, d1, hv.sadq hg, hv.ldq hg, his, hE, d4, hvl]
theorem ur {hp : List Blk} (h : bj hp Fm b m fr c x) {v : V} {ids : List Int} (more : Int) (L : List Blk) (hv : RS ⟨L, hp⟩ 10 v (ids.map (.int .i64))) (hids : ids.length ≤ 900) :
 ∃ X, rf D bz [.ptr (.hp b) [] 31, v, .int .i64 more] ⟨L, hp⟩ = some (.bool (x.room ids more), ⟨L, hp ++ X⟩) := by
 obtain ⟨X, q⟩ := kM more L hids ids [] hp 0 rfl h hv (Nat.le_refl _);have hn : ∀ (r seen : List Int), x.needs seen r ≤ r.length := by
  intro r
  induction r with
  | nil => intro seen; exact Nat.le_refl _
  | cons a r ih =>
   intro seen;have := ih (seen ++ [a]);simp only [AS.needs, List.length_cons];split <;> omega
 have hnn := hn ids [];have h' := h.more X;have hst := h'.st;have hleft := fun L => qz h'.fq L;have hb : x.A.left ≤ 1024 := by
  have := AF.cnt_le (A := x.A) (x.A.l - x.A.f) x.A.f;have := h.ok.A.l1;unfold AF.left; omega
 refine ⟨X, ?_⟩;simp only [List.length_nil, Nat.zero_add] at q;rw [show ((0 : Nat) : Int) = 0 from rfl] at q
 unfold AS.room;generalize x.needs [] ids = nd at *;have w : IntKind.i64.wrap ((x.A.left : Int) - (nd : Int)) = (x.A.left : Int) - nd := ao (by omega) (by omega);simp only [AS.r, bF.v] at hst;rw [ah mF rfl];by_cases hm : 0 ≤ more
 ·have hm' : more ≥ 0 := hm;by_cases hk : more ≤ (x.A.left : Int) - nd
  ·have hk' : (x.A.left : Int) - nd ≥ more := hk;simp only [go_sem, q, hm, hm', hst, hleft, w, hk, hk', decide_true]
  ·have hk' : ¬ (x.A.left : Int) - nd ≥ more := hk;simp only [go_sem, q, hm, hm', hst, hleft, w, hk, hk', decide_true, decide_false]
 ·have hm' : ¬ more ≥ 0 := hm;simp only [go_sem, q, hm, hm', decide_false]
end
end Go.Proofs.YtnffmibpblibdaaGreatDoor
namespace Go.Proofs.YtnffmibpblibdaaGreatDoor
open Go.Ab
theorem zZ {n : Nat} : ∀ {l : List Int}, V.locLts n (l.map (.int .i64)) = true
 | [] => rfl
 | a :: l => by simp only [List.map_cons, V.locLts, zZ (l := l), Bool.and_true]; rfl
inductive Nw (L H Y X : List Blk) : V → List Int → Prop where
 | nil : Nw L H Y X .nils []
 | hp (X1 X2 : List Blk) (l : List Int) (c : Option Nat) (hX : X = X1 ++ .rw (.agg 38 (l.map (.int .i64))) :: X2) (hc : c = none) : Nw L H Y X (.sl (.hp (H.length + X1.length)) [] 0 l.length c 10) l
 | loc (Y1 Y2 : List Blk) (l : List Int) (c : Option Nat) (hY : Y = Y1 ++ .rw (.agg 38 (l.map (.int .i64))) :: Y2) (hc : c = none) : Nw L H Y X (.sl (.loc (L.length + Y1.length)) [] 0 l.length c 10) l
theorem Apd.nw {H X L Y : List Blk} {v : V} {l : List Int} (h : Apd H X v l) (Z : List Blk) : Nw L H Y (X ++ Z) v l := by
 rcases h.at' with ⟨rfl, rfl⟩ | ⟨Y', rfl, rfl⟩
 ·exact .nil
 ·exact .hp Y' Z _ none (by simp) rfl
theorem Nw.el {L H Y X : List Blk} {v : V} {l : List Int} (h : Nw L H Y X v l) : St.elems ⟨L ++ Y, H ++ X⟩ v = some (l.map (.int .i64)) := by
 cases h with
 | nil => rfl
 | hp X1 X2 l c hX hc =>
  subst hX;refine dH (t := 38) ?_ (by simp);rw [nq, ← List.append_assoc, ← List.length_append, List.getElem?_append_right (Nat.le_refl _), Nat.sub_self];simp only [List.getElem?_cons_zero, m9, kh]
 | loc Y1 Y2 l c hY hc =>
  subst hY;refine dH (t := 38) ?_ (by simp);rw [lX, ← List.append_assoc, ← List.length_append, List.getElem?_append_right (Nat.le_refl _), Nat.sub_self];simp only [List.getElem?_cons_zero, m9, kh]
theorem Nw.shape {L H Y X : List Blk} {v : V} {l : List Int} (h : Nw L H Y X v l) : v = .nils ∨ ∃ a p o n c, v = .sl a p o n c 10 := by
 cases h with
 | nil => exact .inl rfl
 | hp => exact .inr ⟨_, _, _, _, _, rfl⟩
 | loc => exact .inr ⟨_, _, _, _, _, rfl⟩
theorem Nw.push {L H Y X : List Blk} {v y : V} {l l2 : List Int} (h : Nw L H Y X v l) (hY : ∀ n, Y.all (cn n) = true) (hy : y = .nils ∨ ∃ a p o n c, y = .sl a p o n c 10) (hyl : St.elems ⟨L ++ Y, H ++ X⟩ y = some (l2.map (.int .i64))) (hm : l.length + l2.length ≤ 1000) (base : Nat) :
 ∃ Y' X' v', aA base false 38 10 v y ⟨L ++ Y, H ++ X⟩ = some (v', ⟨L ++ Y', H ++ X'⟩) ∧ Nw L H Y' X' v' (l ++ l2) ∧ (l2 ≠ [] → ∃ Y1, Y' = Y1 ++ [.rw (.agg 38 ((l ++ l2).map (.int .i64)))] ∧ v' = .sl (.loc (L.length + Y1.length)) [] 0 (l ++ l2).length none 10) ∧ ∀ n, Y'.all (cn n) = true := by
 by_cases hn : l2 = []
 ·subst hn;refine ⟨Y, X, v, ?_, by rw [List.append_nil]; exact h, fun hh => absurd rfl hh, hY⟩;unfold aA;rw [pN h.shape, pn hy, h.el, hyl];rfl
 ·have hne : l2.map (V.int .i64) ≠ [] := by simpa using hn
  have key := se (base := base) (h := false) (r := 38) h.shape hy h.el hyl hne (by simp [cq]; omega) (.inl rfl);have hfin : ∀ (Y1 Z : List Blk), (∀ n, Y1.all (cn n) = true) → (∃ Y' X' v', some (V.sl (.loc (L ++ Y1).length) [] 0 ((l.map (V.int .i64)).length + (l2.map (V.int .i64)).length) none 10, (⟨(L ++ Y1) ++ [.rw (.agg 38 (l.map (V.int .i64) ++ l2.map (V.int .i64)))], H ++ Z⟩ : St)) = some (v', ⟨L ++ Y', H ++ X'⟩) ∧ Nw L H Y' X' v' (l ++ l2) ∧ (l2 ≠ [] → ∃ Y1, Y' = Y1 ++ [.rw (.agg 38 ((l ++ l2).map (.int .i64)))] ∧ v' = .sl (.loc (L.length + Y1.length)) [] 0 (l ++ l2).length none 10) ∧ ∀ n, Y'.all (cn n) = true) := by
   intro Y1 Z hZ;refine ⟨Y1 ++ [.rw (.agg 38 ((l ++ l2).map (.int .i64)))], Z, .sl (.loc (L.length + Y1.length)) [] 0 (l ++ l2).length none 10, ?_, .loc Y1 [] _ none rfl rfl, fun _ => ⟨Y1, rfl, rfl⟩, fun n => by rw [List.all_append, hZ, Bool.true_and]; simp only [List.all_cons, List.all_nil, Bool.and_true]; rw [wz, uE, zZ]; rfl⟩;simp
  rw [key];cases h with
  | nil =>
   simp only [nl, r7, wq];exact hfin Y X hY
  | hp X1 X2 l c hX hc =>
   subst hX hc;have hat : (⟨L ++ Y, H ++ (X1 ++ .rw (.agg 38 (l.map (.int .i64))) :: X2)⟩ : St).at (.hp (H.length + X1.length)) = some (.rw (.agg 38 (l.map (.int .i64)))) := by
    show (H ++ (X1 ++ _ :: X2))[H.length + X1.length]? = _;rw [← List.append_assoc, ← List.length_append, List.getElem?_append_right (Nat.le_refl _), Nat.sub_self]; rfl
   simp only [nl, Option.map_none, hat];have hset : (⟨L ++ Y, H ++ (X1 ++ .rw (.agg 38 (l.map (.int .i64))) :: X2)⟩ : St).set (.hp (H.length + X1.length)) .dead = ⟨L ++ Y, H ++ (X1 ++ .dead :: X2)⟩ := by
    show (⟨L ++ Y, (H ++ (X1 ++ _ :: X2)).set (H.length + X1.length) .dead⟩ : St) = _;rw [← List.append_assoc, ← List.length_append, List.set_append_right _ _ (Nat.le_refl _), Nat.sub_self, List.append_assoc]; rfl
   rw [hset, if_neg (by simp), if_pos trivial];simp only [r7, wq];exact hfin Y (X1 ++ .dead :: X2) hY
  | loc Y1 Y2 l c hY hc =>
   subst hY hc;have hat : (⟨L ++ (Y1 ++ .rw (.agg 38 (l.map (.int .i64))) :: Y2), H ++ X⟩ : St).at (.loc (L.length + Y1.length)) = some (.rw (.agg 38 (l.map (.int .i64)))) := by
    show (L ++ (Y1 ++ _ :: Y2))[L.length + Y1.length]? = _;rw [← List.append_assoc, ← List.length_append, List.getElem?_append_right (Nat.le_refl _), Nat.sub_self]; rfl
   simp only [nl, Option.map_none, hat];have hset : (⟨L ++ (Y1 ++ .rw (.agg 38 (l.map (.int .i64))) :: Y2), H ++ X⟩ : St).set (.loc (L.length + Y1.length)) .dead = ⟨L ++ (Y1 ++ .dead :: Y2), H ++ X⟩ := by
    show (⟨(L ++ (Y1 ++ _ :: Y2)).set (L.length + Y1.length) .dead, H ++ X⟩ : St) = _;rw [← List.append_assoc, ← List.length_append, List.set_append_right _ _ (Nat.le_refl _), Nat.sub_self, List.append_assoc]; rfl
   rw [hset, if_neg (by simp), if_pos trivial];simp only [r7, wq];exact hfin (Y1 ++ .dead :: Y2) X fun n => by
    have := hY n;simp only [List.all_append, List.all_cons, Bool.and_eq_true] at this ⊢;exact ⟨this.1, uw, this.2.2⟩
def AF.fr0 (A : AF) (ls : List Int) (k : Nat) : AF := { A with st := fun j => if j < A.f + k ∧ A.f ≤ j ∧ (j : Int) ∉ ls ∧ A.st j = 1 then 0 else A.st j }
theorem AF.fr0_zero {A : AF} {ls : List Int} : A.fr0 ls 0 = A := by
 unfold AF.fr0;obtain ⟨f, l, st⟩ := A;congr 1; funext j;rw [if_neg (by omega)]
theorem AF.fr0_skip {A : AF} {ls : List Int} {k : Nat} (h : ((A.f + k : Nat) : Int) ∈ ls ∨ A.st (A.f + k) ≠ 1) : A.fr0 ls (k + 1) = A.fr0 ls k := by
 unfold AF.fr0;congr 1; funext j;by_cases e : j = A.f + k
 ·subst e;rw [if_neg (fun hh => by rcases h with h | h; exact hh.2.2.1 h; exact h hh.2.2.2), if_neg (by omega)]
 ·have : (j < A.f + (k + 1)) ↔ (j < A.f + k) := by omega
  simp only [this]
theorem AF.fr0_put {A : AF} {ls : List Int} {k : Nat} (h1 : ((A.f + k : Nat) : Int) ∉ ls) (h2 : A.st (A.f + k) = 1) : A.fr0 ls (k + 1) = (A.fr0 ls k).put (A.f + k) 0 := by
 unfold AF.fr0 AF.put;congr 1; funext j;by_cases e : j = A.f + k
 ·subst e;rw [bf, if_pos ⟨by omega, by omega, h1, h2⟩]
 ·rw [bM e];have : (j < A.f + (k + 1)) ↔ (j < A.f + k) := by omega
  simp only [this]
theorem AF.fr0_turn {A : AF} {ls : List Int} {k : Nat} (hk : A.f + k < A.l) (h1 : ((A.f + k : Nat) : Int) ∉ ls) : ((A.fr0 ls k).turn ((A.f + k : Nat) : Int) 1 0).1 = A.fr0 ls (k + 1) := by
 have e : (A.fr0 ls k).state ((A.f + k : Nat) : Int) = A.st (A.f + k) := by
  rw [jI (by simp only [AF.fr0]; omega) (by simp only [AF.fr0]; omega), Int.toNat_natCast];simp only [AF.fr0];rw [if_neg (by omega)]
 unfold AF.turn;rw [e];by_cases h2 : A.st (A.f + k) = 1
 ·rw [if_neg (by omega), if_neg (by simp [h2]), Int.toNat_natCast, fr0_put h1 h2]
 ·rw [fr0_skip (.inr h2)];split
  ·rfl
  ·rfl
section
variable {hp hp' : List Blk} {Fm : Ft} {b m fr c : Nat} {x : AS}
theorem qD {ls : List Int} {v : V} (L Y : List Blk) (hY : ∀ n, Y.all (cn n) = true) (hls : ls.length < 1000) (hrs : ∀ hp, RS ⟨L ++ Y, hp⟩ 10 v (ls.map (.int .i64))) {A0 : AF} (ok0 : A0.Ok) (hs2 : ∀ j, A0.st j ≠ 2) :
 ∀ (n k : Nat) {hp : List Blk} {x : AS}, A0.f + k + n = A0.l → x.A = A0.fr0 ls k → bj hp Fm b m fr c x →
 ∃ hp' i, rc D L.length (.loop [0, 2, 3] bT) [(0, .ptr (.hp b) [] 31), (2, v), (3, .int .i64 k)] ⟨L ++ Y, hp⟩ =
  some (.exit 0, [(0, .ptr (.hp b) [] 31), (2, v), (3, .int .i64 i), (29, .bool false)], ⟨L ++ Y, hp'⟩) ∧ bj hp' Fm b m fr c { x with A := A0.fr0 ls (A0.l - A0.f) } ∧ Chg hp hp' (FtQ fr c) (FtQ fr c)
 | 0, k, hp, x, hk, hA, h => by
  have ek : k = A0.l - A0.f := by omega
  obtain ⟨S, q1, q2, q3, q4⟩ := h.fq.row;have h' : bj hp Fm b m fr c { x with A := A0.fr0 ls (A0.l - A0.f) } := by rw [← ek, ← hA]; exact h
  refine ⟨hp, k, ?_, h', .refl _ _⟩;have hst := h.st;have hlen : S.length = k := by rw [q3, hA]; simp only [AF.fr0]; omega
  have d1 : ¬ (k : Int) < (S.length : Int) := by omega
  rw [aR];simp only [AS.r, bF.v, rfV] at *;simp only [go_sem, bT, hst, q1, d1]
 | n + 1, k, hp, x, hk, hA, h => by
  have hst := h.st;obtain ⟨S, q1, q2, q3, q4⟩ := h.fq.row;have hlen : S.length = A0.l - A0.f := by rw [q3, hA]; rfl
  have hxf : x.A.f = A0.f := by rw [hA]; rfl
  have l1 := ok0.l1;have d1 : (k : Int) < (S.length : Int) := by omega
  have d4 : IntKind.i64.wrap ((k : Int) + 1) = ((k + 1 : Nat) : Int) := ao (by omega) (by omega);have d5 : IntKind.i64.wrap ((x.A.f : Int) + (k : Int)) = ((A0.f + k : Nat) : Int) := by rw [hxf, ao (by omega) (by omega)]; omega
  have hin := tt (hrs hp) hls ((A0.f + k : Nat) : Int);have hvl : v.locLt (L.length + Y.length) = true := by rw [← List.length_append]; exact (hrs hp).locLt
  by_cases hm : ((A0.f + k : Nat) : Int) ∈ ls
  ·obtain ⟨hp2, i, e1, e2, e3⟩ := qD L Y hY hls hrs ok0 hs2 n (k + 1) (x := x) (by omega) (by rw [hA, AF.fr0_skip (.inl hm)]) h;refine ⟨hp2, i, ?_, e2, e3⟩;rw [← e1, aR];simp only [hm, decide_true] at hin;simp only [AS.r, bF.v, rfV] at *;simp only [go_sem, bT, hst, q1, d1, d5, hin, d4, hvl, hY, Bool.and_self]
  ·obtain ⟨hp1, e1, e2, e3⟩ := tW h.fq ((A0.f + k : Nat) : Int) (by omega) (L ++ Y);have hA1 : (x.A.turn ((A0.f + k : Nat) : Int) 1 0).1 = A0.fr0 ls (k + 1) := by rw [hA]; exact AF.fr0_turn (by omega) hm
   rw [hA1] at e2;have h1 := h.setA e2 e3 (fun j => by simp only [AF.fr0]; have := hs2 j; split <;> omega) (by rw [hA]; rfl) (by rw [hA]; rfl);obtain ⟨hp2, i, g1, g2, g3⟩ := qD L Y hY hls hrs ok0 hs2 n (k + 1) (x := { x with A := A0.fr0 ls (k + 1) }) (by omega) rfl h1;refine ⟨hp2, i, ?_, g2, e3.trans g3⟩;rw [← g1, aR];simp only [hm, decide_false] at hin;simp only [AS.r, bF.v, rfV] at *;simp only [go_sem, bT, hst, q1, d1, d5, hin, d4, hvl, e1, hY, Bool.and_self]
theorem E7 {x : AS} {j : Nat} : ((j : Int) ∈ aJ x.base 0 49 ++ aJ x.work 0 49 ++ dX x.dir 0 8) ↔ (gR x.base j || gR x.work j || nM x.dir j) = true := by
 have hl : ∀ t : Nat → Ent, ((j : Int) ∈ aJ t 0 49) ↔ gR t j = true := fun t => by
  rw [pU];unfold gR;simp only [List.any_eq_true, List.mem_range, Bool.and_eq_true, decide_eq_true_eq, Nat.zero_le, true_and, Nat.zero_add]
 have hd : ((j : Int) ∈ dX x.dir 0 8) ↔ nM x.dir j = true := by
  unfold nM;simp only [List.any_eq_true, List.mem_range, decide_eq_true_eq];have key : ∀ (n i : Nat), (j : Int) ∈ dX x.dir i n ↔ ∃ k, i ≤ k ∧ k < i + n ∧ x.dir k = j := by
   intro n
   induction n with
   | zero => intro i; simp only [dX, List.not_mem_nil, false_iff]; rintro ⟨k, h1, h2, _⟩; omega
   | succ n ih =>
    intro i;simp only [dX, List.mem_cons, ih];constructor
    ·rintro (e | ⟨k, h1, h2, h3⟩)
     ·exact ⟨i, Nat.le_refl _, by omega, e.symm⟩
     ·exact ⟨k, by omega, by omega, h3⟩
    ·rintro ⟨k, h1, h2, h3⟩;by_cases e : k = i
     ·subst e; exact .inl h3.symm
     ·exact .inr ⟨k, by omega, by omega, h3⟩
  rw [key];simp only [Nat.zero_le, true_and, Nat.zero_add]
 rw [List.mem_append, List.mem_append, hl, hl, hd, Bool.or_eq_true, Bool.or_eq_true]
theorem CN {x : AS} (h : x.Ok) : x.A.fr0 (aJ x.base 0 49 ++ aJ x.work 0 49 ++ dX x.dir 0 8) (x.A.l - x.A.f) = x.freed.A := by
 have hfl := h.A.fl;unfold AF.fr0 AS.freed;simp only;congr 1; funext j;have hi := gn (A := x.A) (j := j);have hm := E7 (x := x) (j := j);have e1 : (j < x.A.f + (x.A.l - x.A.f) ∧ x.A.f ≤ j ∧ (j : Int) ∉ aJ x.base 0 49 ++ aJ x.work 0 49 ++ dX x.dir 0 8 ∧ x.A.st j = 1) ↔ (x.A.inr j && !(gR x.base j || gR x.work j || nM x.dir j) && decide (x.A.st j = 1)) = true := by
  rw [hm, Bool.and_eq_true, Bool.and_eq_true, decide_eq_true_eq, hi, Bool.not_eq_true'];constructor
  ·rintro ⟨h1, h2, h3, h4⟩;exact ⟨⟨⟨h2, by omega⟩, by simpa using h3⟩, h4⟩
  ·rintro ⟨⟨⟨h1, h2⟩, h3⟩, h4⟩;exact ⟨by omega, h1, by rw [h3]; simp, h4⟩
 by_cases c1 : j < x.A.f + (x.A.l - x.A.f) ∧ x.A.f ≤ j ∧ (j : Int) ∉ aJ x.base 0 49 ++ aJ x.work 0 49 ++ dX x.dir 0 8 ∧ x.A.st j = 1
 ·rw [if_pos c1, if_pos (e1.1 c1)]
 ·rw [if_neg c1, if_neg fun hh => c1 (e1.2 hh)]
theorem tR (h : bj hp Fm b m fr c x) (L : List Blk) :
 ∃ hp', rf D bC [.ptr (.hp b) [] 31] ⟨L, hp⟩ = some (.tup [], ⟨L, hp'⟩) ∧ bj hp' Fm b m fr c x.freed ∧ Chg hp hp' (bL b fr c Fm) (bL b fr c Fm) := by
 obtain ⟨X1, v1, a1, e1⟩ := mH x.base ⟨L, hp⟩;obtain ⟨X2, v2, a2, e2⟩ := mH x.work ⟨L, hp ++ X1⟩;have l1 := jn x.base 49 0;have l2 := jn x.work 49 0;have n1 : Nw L hp [] (X1 ++ X2) v1 (aJ x.base 0 49) := a1.nw X2;have y2 := a2.elems (loc := L);have w2 : v2 = .nils ∨ ∃ a p o n c, v2 = .sl a p o n c 10 := by
  rcases a2.at' with ⟨_, rfl⟩ | ⟨Y, _, rfl⟩
  ·exact .inl rfl
  ·exact .inr ⟨_, _, _, _, _, rfl⟩
 obtain ⟨Y3, X3, v3, e3, n3, _, p3⟩ := n1.push (fun _ => rfl) w2 (by rw [List.append_nil, ← List.append_assoc]; exact y2) (by omega) L.length;rw [List.append_nil] at e3;have hX3 : bj (hp ++ X3) Fm b m fr c x := h.more X3;have hst3 := hX3.st;have hd : St.elems ⟨L ++ Y3, hp ++ X3⟩ (.sl (.hp b) [4] 0 8 (some 8) 10) = some ((dX x.dir 0 8).map (.int .i64)) := by
  simp only [AS.r, bF.v] at hst3;simp only [ax, VM] at hst3;simp only [go_sem, hst3];rfl
 obtain ⟨Y4, X4, v4, e4, n4, f4, p4⟩ := n3.push p3 (.inr ⟨_, _, _, _, _, rfl⟩) hd (by rw [List.length_append, nJ]; omega) L.length;obtain ⟨Y5, rfl, rfl⟩ := f4 (by intro h; cases h);have hX4 : bj (hp ++ X4) Fm b m fr c x := h.more X4;have hls : (aJ x.base 0 49 ++ aJ x.work 0 49 ++ dX x.dir 0 8).length < 1000 := by rw [List.length_append, List.length_append, nJ]; omega
 have hfr := CN h.ok;have hfd : x.freed = { x with A := x.freed.A } := rfl;generalize hgl : aJ x.base 0 49 ++ aJ x.work 0 49 ++ dX x.dir 0 8 = ls at *;obtain ⟨hp', i, q1, q2, q3⟩ := qD (b := b) (m := m) (fr := fr) (c := c) (ls := ls) (v := .sl (.loc (L.length + Y5.length)) [] 0 ls.length none 10) L (Y5 ++ [.rw (.agg 38 (ls.map (.int .i64)))]) p4 hls
  (fun H => by
   have := RS.at_loc (L := L ++ (Y5 ++ [.rw (.agg 38 (ls.map (.int .i64)))])) (hp := H) (i := L.length + Y5.length) (r := 38) (e := 10) (n := ls.length) (l := ls.map (.int .i64)) (by rw [← List.append_assoc, ← List.length_append, List.getElem?_append_right (Nat.le_refl _), Nat.sub_self]; rfl) (by simp) (cp := none) (by intro c hc; cases hc);exact this)
  h.ok.A h.ok.s2 (x.A.l - x.A.f) 0 (x := x) (by have := h.ok.A.fl; omega) (by rw [AF.fr0_zero]) hX4
 rw [hfr, ← hfd] at q2;rw [show ((0 : Nat) : Int) = 0 from rfl] at q1
 refine ⟨hp', ?_, q2, (kY X4).trans (uf q3)⟩;have hst := h.st;have hst1 := (h.more X1).st;simp only [AS.r, bF.v, aj, ax] at *;rw [ah mE rfl];simp only [go_sem] at *;simp only [go_sem, hst, e1, hst1, e2, e3, hst3, e4, implies_true, if_true];simp only [go_sem, q1]
theorem wW (h : bj hp Fm b m fr c x) (d : Nat → Int) (L : List Blk) :
 ∃ hp', rf D cO [.ptr (.hp b) [] 31, ax d] ⟨L, hp⟩ = some (.int .i64 (x.commit d).2, ⟨L, hp'⟩) ∧ bj hp' Fm b m fr c (x.commit d).1 ∧ Chg hp hp' (bL b fr c Fm) (bL b fr c Fm) := by
 have hst := h.st;unfold AS.commit;cases hi : x.is
 ·rw [if_neg (by simp)];refine ⟨hp, ?_, h, .refl _ _⟩;simp only [AS.r, bF.v, hi, ax] at hst ⊢;rw [ah iu rfl];simp only [go_sem, hst]
 ·rw [if_pos rfl];have h1 := h.setB (y := { x with base := x.mark, dir := d, is := false }) ⟨h.ok.M, h.ok.A, h.ok.l, h.ok.w, h.ok.k, h.ok.k, h.ok.s2⟩ rfl rfl;obtain ⟨hp', e1, e2, e3⟩ := tR h1 (L ++ [.rw (ax d)]);refine ⟨hp', ?_, e2, qK.trans e3⟩;have hs : ∀ k, (hp.set b k)[b]? = some k := fun k => List.getElem?_set_self (av hst);simp only [AS.r, bF.v, hi, aj, ax] at hst e1 ⊢;rw [ah iu rfl];simp only [go_sem, hst, hs, List.set_set];simp only [go_sem, e1]
theorem ym (h : bj hp Fm b m fr c x) (L : List Blk) :
 ∃ hp', rf D da [.ptr (.hp b) [] 31] ⟨L, hp⟩ = some (.int .i64 x.abort.2, ⟨L, hp'⟩) ∧ bj hp' Fm b m fr c x.abort.1 ∧ Chg hp hp' (bL b fr c Fm) (bL b fr c Fm) := by
 have hst := h.st;unfold AS.abort;cases hi : x.is
 ·rw [if_neg (by simp)];refine ⟨hp, ?_, h, .refl _ _⟩;simp only [AS.r, bF.v, hi] at hst;rw [ah iK rfl];simp only [go_sem, hst]
 ·rw [if_pos rfl];have h1 := h.setB (y := { x with is := false }) ⟨h.ok.M, h.ok.A, h.ok.l, h.ok.w, h.ok.b, h.ok.k, h.ok.s2⟩ rfl rfl;obtain ⟨hp', e1, e2, e3⟩ := tR h1 L;refine ⟨hp', ?_, e2, qK.trans e3⟩;have hs : ∀ k, (hp.set b k)[b]? = some k := fun k => List.getElem?_set_self (av hst);simp only [AS.r, bF.v, hi, aj, ax] at hst e1 ⊢;rw [ah iK rfl];simp only [go_sem, hst, hs, List.set_set];simp only [go_sem, e1]
end
end Go.Proofs.YtnffmibpblibdaaGreatDoor
