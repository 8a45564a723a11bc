/-
  ObjA: tables of objects; which lines are shared.
-/
import Derived.Test.YtpbpgbedkmbfkaaN1
import Derived.Test.YtpbpgbedkmbfkaaFB
set_option maxRecDepth 100000
namespace Go.Proofs.Ytpbpgbedkmbfkaa
open Go.Ab

structure Ent where
  kind : Int
  ver : Int
  line : Int
def Ent.v (x : Ent) : V := .agg 42 [.int .i64 x.kind, .int .i64 x.ver, .int .i64 x.line]
def tabV (t : Nat → Ent) : V := .agg 48 (tab 49 fun i => (t i).v)
def dirV (d : Nat → Int) : V := .agg 50 (tab 8 fun i => .int .i64 (d i))
def shV (f : Nat → Bool) : V := .agg 82 (tab 1024 fun j => .bool (f j))
def noEnt : Ent := ⟨0, 0, 0⟩
/-- A set of lines, with those of a table's first n. -/
def addL (t : Nat → Ent) (f : Nat → Bool) : Nat → Nat → Bool
  | 0 => f
  | n + 1 => if (t n).kind = 0 then addL t f n else upd (addL t f n) (t n).line.toNat true
structure InL (t : Nat → Ent) : Prop where
  inn : ∀ i, i < 49 → (t i).kind ≠ 0 → 0 ≤ (t i).line ∧ (t i).line < 1024
theorem rf_add {s : St} {a : Nat} {x0 x1 x2 x3 x4 x5 x6 : V} {f : Nat → Bool} {t : Nat → Ent} (h : s.hp[a]? = some (.rw (.agg 43 [x0, x1, x2, x3, x4, x5, x6, shV f]))) (ht : InL t) :
    rf D f_objects_lines_add [.ptr (.hp a) [7] 82, tabV t] s = some (.tup [], ⟨s.loc, s.hp.set a (.rw (.agg 43 [x0, x1, x2, x3, x4, x5, x6, shV (addL t f 49)]))⟩) := by
  have ha := (List.getElem?_eq_some_iff.1 h).1
  have loop : rc D s.loc.length (.loop [0, 6, 7] b_objects_lines_add_0) [(0, .ptr (.hp a) [7] 82), (6, tabV t), (7, .int .i64 0)] ⟨s.loc ++ [.rw (tabV t)], s.hp⟩ =
      some (.exit 0, [(0, .ptr (.hp a) [7] 82), (6, tabV t), (7, .int .i64 49), (8, .bool false)], ⟨s.loc ++ [.rw (tabV t)], s.hp.set a (.rw (.agg 43 [x0, x1, x2, x3, x4, x5, x6, shV (addL t f 49)]))⟩) := by
    refine loop_runs (fun x : Nat => [(0, .ptr (.hp a) [7] 82), (6, tabV t), (7, .int .i64 x)]) (fun x => ⟨s.loc ++ [.rw (tabV t)], s.hp.set a (.rw (.agg 43 [x0, x1, x2, x3, x4, x5, x6, shV (addL t f x)]))⟩) (fun _ => _) (fun x => 49 - x) (fun x => x ≤ 49) 0 ?_ (by omega) rfl ?_
    · intro i hi
      by_cases c1 : i < 49
      · left
        have d1 : (i : Int) < 49 := by omega
        have d2 : (0 : Int) ≤ i := by omega
        have d4 : IntKind.i64.wrap ((i : Int) + 1) = (i : Int) + 1 := i64_id (by omega) (by omega)
        have g1 := tab_get (f := fun i => (t i).v) c1
        have hin := ht.inn i c1
        refine ⟨i + 1, by omega, by omega, rfl, ?_⟩
        simp only [tabV, Ent.v, addL] at *
        generalize tab 49 (fun i => V.agg 42 [.int .i64 (t i).kind, .int .i64 (t i).ver, .int .i64 (t i).line]) = T at *
        have hs : ∀ b, (s.hp.set a b)[a]? = some b := fun b => List.getElem?_set_self ha
        by_cases hk : (t i).kind = 0
        · simp only [hk, if_true] at g1 ⊢
          generalize addL t f i = f' at *
          simp only [go_sem, b_objects_lines_add_0, d1, d2]
          rw [Int.toNat_natCast]
          simp only [go_sem, g1, d4]
          rfl
        · simp only [hk, if_false] at g1 ⊢
          obtain ⟨h1, h2⟩ := hin hk
          obtain ⟨q, hq⟩ : ∃ q : Nat, (t i).line = q := ⟨(t i).line.toNat, by omega⟩
          simp only [hq, Int.toNat_natCast] at g1 h1 h2 ⊢
          have e := tab_set 1024 (fun j => V.bool (addL t f i j)) q (.bool true)
          have hu : tab 1024 (upd (fun j => V.bool (addL t f i j)) q (.bool true)) = tab 1024 (fun j => V.bool (upd (addL t f i) q true j)) := tab_congr fun j _ => by unfold upd; split <;> rfl
          rw [hu] at e
          have hg := tab_get (f := fun j => V.bool (addL t f i j)) (show q < 1024 by omega)
          simp only [shV]
          rw [← e]
          generalize tab 1024 (fun j => V.bool (addL t f i j)) = F at *
          generalize addL t f i q = y at *
          simp only [go_sem, b_objects_lines_add_0, d1, d2]
          rw [Int.toNat_natCast]
          simp only [go_sem, g1, hk, h1, h2, hs]
          rw [Int.toNat_natCast]
          simp only [go_sem, hg, d4, List.set_set]
          rfl
      · right
        have : i = 49 := by omega
        subst this
        simp only [tabV]
        simp only [go_sem, b_objects_lines_add_0]
    · simp only [addL]
      rw [set_same h]
  simp only [tabV] at *
  rw [rf_o D_objects_lines_add rfl]
  simp only [go_sem, loop]
/-- Which lines are shared. -/
def shOf (base mark : Nat → Ent) (marked : Bool) : Nat → Bool := if marked then addL mark (addL base (fun _ => false) 49) 49 else addL base (fun _ => false) 49
structure StF where
  m : Nat
  fr : Nat
  work : Nat → Ent
  base : Nat → Ent
  dir : Nat → Int
  mark : Nat → Ent
  marked : Bool
def StF.v (x : StF) (sh : Nat → Bool) : V := .agg 43 [.ptr (.hp x.m) [] 59, .ptr (.hp x.fr) [] 80, tabV x.work, tabV x.base, dirV x.dir, tabV x.mark, .bool x.marked, shV sh]
theorem sh_none : V.agg 82 (List.replicate 1024 (.bool false)) = shV fun _ => false := by rw [tab_rep]; rfl
theorem rf_share {s : St} {a : Nat} {x : StF} {sh : Nat → Bool} (h : s.hp[a]? = some (.rw (x.v sh))) (hb : InL x.base) (hm : x.marked = true → InL x.mark) :
    rf D f_objects_Store_share [.ptr (.hp a) [] 43] s = some (.tup [], ⟨s.loc, s.hp.set a (.rw (x.v (shOf x.base x.mark x.marked)))⟩) := by
  have ha := (List.getElem?_eq_some_iff.1 h).1
  have hs : ∀ b, (s.hp.set a b)[a]? = some b := fun b => List.getElem?_set_self ha
  obtain ⟨m, fr, work, base, dir, mark, marked⟩ := x
  simp only [StF.v] at *
  have r1 := fun L => rf_add (s := ⟨s.loc ++ L, s.hp.set a (.rw (.agg 43 [.ptr (.hp m) [] 59, .ptr (.hp fr) [] 80, tabV work, tabV base, dirV dir, tabV mark, .bool marked, shV fun _ => false]))⟩) (hs _) hb
  have r2 := fun L (h : marked = true) => rf_add (s := ⟨s.loc ++ L, s.hp.set a (.rw (.agg 43 [.ptr (.hp m) [] 59, .ptr (.hp fr) [] 80, tabV work, tabV base, dirV dir, tabV mark, .bool marked, shV (addL base (fun _ => false) 49)]))⟩) (hs _) (hm h)
  have e := sh_none
  simp only [List.set_set, shV] at r1 r2 h e ⊢
  have r1 := r1 []
  have r2 := r2 []
  simp only [List.append_nil] at r1 r2
  rw [rf_o D_objects_Store_share rfl]
  simp only [tabV, V.agg.injEq, true_and] at *
  cases marked
  · simp only [shOf, Bool.false_eq_true, if_false]
    generalize tab 1024 (fun j => V.bool (addL base (fun _ => false) 49 j)) = F1 at *
    simp only [go_sem, h, e, hs, r1]
  · have r2 := r2 rfl
    simp only [shOf, if_true]
    generalize tab 1024 (fun j => V.bool (addL base (fun _ => false) 49 j)) = F1 at *
    simp only [go_sem, h, e, hs, r1, r2]
end Go.Proofs.Ytpbpgbedkmbfkaa
