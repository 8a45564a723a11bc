/-
  YtnffmibpblibdaaT4: what functions of the program compute (NodA, NodB, FctA, NodC, NodD, NodE, NodF).
-/
import Derived.Test.YtnffmibpblibdaaT1
import Derived.Test.YtnffmibpblibdaaT3
set_option maxRecDepth 100000
namespace Go.Proofs.Ytnffmibpblibdaa
open Go.Ab

def mayE (c k r : Int) : Int := if (capOf c).may = false then 31 else if (capsOf c).kind ≠ k then 31 else if iandnot .i64 r (capsOf c).rights = 0 then 0 else 32
theorem rf_caps_May (c k r : Int) (h0 : 0 ≤ c) (h1 : c ≤ 18446744073709551615) (s : St) :
    rf D f_caps_May [.int .u64 c, .int .i64 k, .int .i64 r] s = some (.int .i64 (mayE c k r), s) := by
  have hc := fun s => rf_caps_Of c h0 h1 s
  unfold mayE
  generalize (capOf c).may = m at *
  generalize capsOf c = x at *
  simp only [Cap.v] at hc
  rw [rf_o D_caps_May rfl]
  cases m
  · simp only [go_sem, hc]
  · by_cases g1 : x.kind = k
    · by_cases g2 : iandnot .i64 r x.rights = 0
      · simp only [go_sem, hc, g1, g2, ne_eq, not_true_eq_false, if_false, if_true]
      · simp only [go_sem, hc, g1, g2, ne_eq, not_true_eq_false, if_false, if_true]
    · simp only [go_sem, hc, g1, ne_eq, not_false_eq_true, if_true]
theorem rf_ref07_May (c k r : Int) (h0 : 0 ≤ c) (h1 : c ≤ 18446744073709551615) (hr0 : -9223372036854775808 ≤ r) (hr1 : r ≤ 9223372036854775807) (s : St) :
    rf D f_steadfastref07_May [.int .u64 c, .int .i64 k, .int .i64 r] s = some (.int .i64 (mayE c k r), s) := by
  have hc := fun s => rf_ref07_Of c h0 h1 s
  unfold mayE
  simp only [less_i64 hr0 hr1]
  generalize (capOf c).may = m at *
  generalize capsOf c = x at *
  simp only [Cap.v] at hc
  rw [rf_o D_steadfastref07_May rfl]
  cases m
  · simp only [go_sem, hc]
  · by_cases g1 : x.kind = k
    · by_cases g2 : iand .i64 x.rights r = r
      · simp only [go_sem, hc, g1, g2, ne_eq, not_true_eq_false, if_false, if_true]
      · simp only [go_sem, hc, g1, g2, ne_eq, not_true_eq_false, if_false, if_true]
    · simp only [go_sem, hc, g1, ne_eq, not_false_eq_true, if_true]
def withB (a b : Int) : Bool := (capOf a).may && (capOf b).may && decide (iandnot .i64 (capsOf a).rights (capsOf b).rights = 0) && decide ((capsOf a).kind = (capsOf b).kind) && decide ((capsOf a).id = (capsOf b).id) && decide ((capsOf a).ver = (capsOf b).ver)
theorem rf_caps_Within (a b : Int) (h0 : 0 ≤ a) (h1 : a ≤ 18446744073709551615) (h2 : 0 ≤ b) (h3 : b ≤ 18446744073709551615) (s : St) :
    rf D f_caps_Within [.int .u64 a, .int .u64 b] s = some (.bool (withB a b), s) := by
  have hc := fun s => rf_caps_Of a h0 h1 s
  have hd := fun s => rf_caps_Of b h2 h3 s
  unfold withB
  generalize (capOf a).may = m at *
  generalize capsOf a = x at *
  generalize (capOf b).may = n at *
  generalize capsOf b = y at *
  simp only [Cap.v] at hc hd
  rw [rf_o D_caps_Within rfl]
  cases m
  · simp [go_sem, hc, hd]
  · cases n
    · simp [go_sem, hc, hd]
    · by_cases g1 : iandnot .i64 x.rights y.rights = 0
      · by_cases g2 : x.kind = y.kind
        · by_cases g3 : x.id = y.id
          · by_cases g4 : x.ver = y.ver
            · simp [go_sem, hc, hd, g1, g2, g3, g4]
            · simp [go_sem, hc, hd, g1, g2, g3, g4]
          · simp [go_sem, hc, hd, g1, g2, g3]
        · simp [go_sem, hc, hd, g1, g2]
      · simp [go_sem, hc, hd, g1]
theorem rf_ref07_Diminish (w r b : Int) (h0 : 0 ≤ w) (h1 : w ≤ 18446744073709551615) (s : St) :
    rf D f_steadfastref07_Diminish [.int .u64 w, .int .i64 r, .int .i64 b] s = some (.tup [.int .u64 (dimW w r b), .int .i64 (dimE w r b)], s) := by
  have hc := fun s => rf_ref07_Of w h0 h1 s
  have hw := fun s => rf_ref07_Word (dimC w r b) s
  unfold dimE dimW within
  generalize (capOf w).may = m at *
  unfold dimC at hw ⊢
  generalize capsOf w = c at *
  simp only [Cap.v] at hc hw
  rw [rf_o D_steadfastref07_Diminish rfl]
  cases m
  · simp only [go_sem, hc]
  · by_cases g1 : r < 0
    · have g1' : ¬ 0 ≤ r := by omega
      simp [go_sem, hc, g1, g1']
    · by_cases g2 : 15 < r
      · have g2' : ¬ r ≤ 15 := by omega
        simp [go_sem, hc, g1, g2, g2']
      · by_cases g3 : b < 0
        · have g3' : ¬ 0 ≤ b := by omega
          simp [go_sem, hc, g1, g2, g3, g3']
        · by_cases g4 : 65535 < b
          · have g4' : ¬ b ≤ 65535 := by omega
            simp [go_sem, hc, g1, g2, g3, g4, g4']
          · have q1 : 0 ≤ r := by omega
            have q2 : r ≤ 15 := by omega
            have q3 : 0 ≤ b := by omega
            have q4 : b ≤ 65535 := by omega
            by_cases hb : c.badge = 0
            · simp only [hb, if_true] at hw ⊢
              simp [go_sem, hc, g1, g2, g3, g4, q1, q2, q3, q4, hb, hw]
            · simp only [hb, if_false] at hw ⊢
              simp [go_sem, hc, g1, g2, g3, g4, q1, q2, q3, q4, hb, hw]
end Go.Proofs.Ytnffmibpblibdaa
namespace Go.Proofs.Ytnffmibpblibdaa
open Go.Ab

/-- The lines' words are words. -/
structure OkL (ls : Nat → List Int) : Prop where
  l8 : ∀ i, (ls i).length = 8
  word : ∀ i, ∀ x ∈ ls i, 0 ≤ x ∧ x ≤ 18446744073709551615
theorem gO_ok {t : Nat → Ent} {ls : Nat → List Int} (h : OkL ls) (id : Int) : (gO t ls id).l.length = 8 ∧ ∀ x ∈ (gO t ls id).l, 0 ≤ x ∧ x ≤ 18446744073709551615 := by
  unfold gO
  split
  · exact ⟨h.l8 _, h.word _⟩
  · refine ⟨rfl, fun x hx => ?_⟩
    have := List.eq_of_mem_replicate (show x ∈ List.replicate 8 0 from hx)
    omega
theorem nm_get {t : Nat → Ent} {c : Int} (h : nmE t c = 0) : gE t (nmId t c) = 0 := by
  have hid := capsOf_id c
  unfold nmId
  rw [if_pos h]
  unfold gE
  rw [if_neg (by omega)]
  by_cases hk : (t (capsOf c).id.toNat).kind = 0
  · exfalso
    unfold nmE entryNames at h
    split at h
    · cases h
    · rw [if_neg (by simp)] at h
      split at h
      · cases h
      · simp [hk] at h
  · rw [if_neg hk]
def slE (t : Nat → Ent) (c i r : Int) : Int := if i < 0 then 1 else if 8 ≤ i then 1 else if mayE c 2 r = 0 then nmE t c else mayE c 2 r
def slI (t : Nat → Ent) (c i r : Int) : Int := if slE t c i r = 0 then nmId t c else 0
def slW (t : Nat → Ent) (ls : Nat → List Int) (c i r : Int) : Int := if slE t c i r = 0 then (gO t ls (nmId t c)).l.getD i.toNat 0 else 0
theorem slE_zero {t : Nat → Ent} {c i r : Int} (h : slE t c i r = 0) : 0 ≤ i ∧ i < 8 ∧ mayE c 2 r = 0 ∧ nmE t c = 0 := by
  unfold slE at h
  split at h
  · cases h
  · split at h
    · cases h
    · split at h
      · exact ⟨by omega, by omega, by assumption, h⟩
      · rename_i g; exact absurd h g
theorem slW_ok {t : Nat → Ent} {ls : Nat → List Int} (h : OkL ls) (c i r : Int) : 0 ≤ slW t ls c i r ∧ slW t ls c i r ≤ 18446744073709551615 := by
  unfold slW
  split
  · rename_i g
    have g' := slE_zero g
    have := gO_ok (t := t) h (nmId t c)
    exact this.2 _ (getD_mem (by rw [this.1]; omega) 0)
  · omega
def ob0 : V := .agg 26 [.int .i64 0, .int .i64 0, .agg 24 (List.replicate 8 (.int .u64 0))]
/-- The locals of Slot: with its three checks. -/
def slL (n a : Nat) (c r id : Int) (o : V) : List Blk :=
  [.rw (.ptr (.hp a) [] 43), .rw (.int .u64 c), .rw (.int .i64 r), .rw (.int .i64 id), .rw o,
   .rw (.agg 53 [.fn f_nodes_Slot_1 [.ptr (.loc (n + 1)) [] 18, .ptr (.loc (n + 2)) [] 10], .fn f_nodes_Slot_2 [.ptr (.loc n) [] 1, .ptr (.loc (n + 1)) [] 18, .ptr (.loc (n + 3)) [] 10], .fn f_nodes_Slot_3 [.ptr (.loc n) [] 1, .ptr (.loc (n + 3)) [] 10, .ptr (.loc (n + 4)) [] 26]])]
section slot
variable {s : St} {a k m : Nat} {x : StF} {sh : Nat → Bool} {T : List V} {ls : Nat → List Int} (hP : Prg s.hp a x sh k m T ls) (c r id : Int) (h0 : 0 ≤ c) (h1 : c ≤ 18446744073709551615) (o : V)
include h0 h1
theorem rf_Slot_1 : rf D f_nodes_Slot_1 [.ptr (.loc (s.loc.length + 1)) [] 18, .ptr (.loc (s.loc.length + 2)) [] 10] ⟨s.loc ++ slL s.loc.length a c r id o, s.hp⟩ = some (.int .i64 (mayE c 2 r), ⟨s.loc ++ slL s.loc.length a c r id o, s.hp⟩) := by
  have hm := fun s => rf_caps_May c 2 r h0 h1 s
  rw [rf_o D_nodes_Slot_1 rfl]
  simp only [slL, go_sem, hm]
include hP
theorem rf_Slot_2 : rf D f_nodes_Slot_2 [.ptr (.loc s.loc.length) [] 1, .ptr (.loc (s.loc.length + 1)) [] 18, .ptr (.loc (s.loc.length + 3)) [] 10] ⟨s.loc ++ slL s.loc.length a c r id o, s.hp⟩ = some (.int .i64 (nmE x.work c), ⟨s.loc ++ slL s.loc.length a c r (nmId x.work c) o, s.hp⟩) := by
  have hm := fun L => rf_Names (s := ⟨s.loc ++ L, s.hp⟩) hP.st c h0 h1
  rw [rf_o D_nodes_Slot_2 rfl]
  simp only [slL, go_sem, hm]
omit h0 h1 in
theorem rf_Slot_3 (ho : o.tag = 26) : rf D f_nodes_Slot_3 [.ptr (.loc s.loc.length) [] 1, .ptr (.loc (s.loc.length + 3)) [] 10, .ptr (.loc (s.loc.length + 4)) [] 26] ⟨s.loc ++ slL s.loc.length a c r id o, s.hp⟩ = some (.int .i64 (gE x.work id), ⟨s.loc ++ slL s.loc.length a c r id (gO x.work ls id).v, s.hp⟩) := by
  have hm := fun L => rf_Get (s := ⟨s.loc ++ L, s.hp⟩) hP id
  rw [rf_o D_nodes_Slot_3 rfl]
  simp only [slL, go_sem, hm, Obj.v, ho]
omit hP in
theorem first_a (he : ¬ mayE c 2 r = 0) : rf D f_nodes_first [.sl (.loc (s.loc.length + 5)) [] 0 3 (some 3) 1] ⟨s.loc ++ slL s.loc.length a c r id o, s.hp⟩ = some (.int .i64 (mayE c 2 r), ⟨s.loc ++ slL s.loc.length a c r id o, s.hp⟩) := by
  have g1 := rf_Slot_1 (s := s) (a := a) c r id h0 h1 o
  generalize mayE c 2 r = e at *
  simp only [slL] at *
  rw [rf_o D_nodes_first rfl]
  simp only [go_sem]
  rw [rc_loop_o]
  simp only [go_sem, b_nodes_first_0, g1, he]
theorem first_b (he : mayE c 2 r = 0) (he2 : ¬ nmE x.work c = 0) : rf D f_nodes_first [.sl (.loc (s.loc.length + 5)) [] 0 3 (some 3) 1] ⟨s.loc ++ slL s.loc.length a c r id o, s.hp⟩ = some (.int .i64 (nmE x.work c), ⟨s.loc ++ slL s.loc.length a c r (nmId x.work c) o, s.hp⟩) := by
  have g1 := rf_Slot_1 (s := s) (a := a) c r id h0 h1 o
  have g2 := rf_Slot_2 hP c r id h0 h1 o
  rw [he] at g1
  generalize nmE x.work c = e at *
  generalize nmId x.work c = id2 at *
  have hd : ∀ b1 b2 b3 b4 b5 b6 : Blk, List.drop (s.loc.length + 6) (s.loc ++ [b1, b2, b3, b4, b5, b6]) = [] := fun _ _ _ _ _ _ => List.drop_eq_nil_of_le (by simp)
  have hlt : s.loc.length + 5 < s.loc.length + 6 := by omega
  have w1 : IntKind.i64.wrap 1 = 1 := by decide
  have w2 : IntKind.i64.wrap 2 = 2 := by decide
  have w3 : IntKind.i64.wrap 3 = 3 := by decide
  simp only [slL] at *
  rw [rf_o D_nodes_first rfl]
  simp only [go_sem]
  rw [rc_loop_o]
  simp only [go_sem, b_nodes_first_0, hd, hlt, w1, w2, w3, List.all_nil, g1]
  rw [rc_loop_o]
  simp only [go_sem, b_nodes_first_0, hd, hlt, w1, w2, w3, List.all_nil, g2, he2]
theorem first_c (ho : o.tag = 26) (he : mayE c 2 r = 0) (he2 : nmE x.work c = 0) : rf D f_nodes_first [.sl (.loc (s.loc.length + 5)) [] 0 3 (some 3) 1] ⟨s.loc ++ slL s.loc.length a c r id o, s.hp⟩ = some (.int .i64 0, ⟨s.loc ++ slL s.loc.length a c r (nmId x.work c) (gO x.work ls (nmId x.work c)).v, s.hp⟩) := by
  have g1 := rf_Slot_1 (s := s) (a := a) c r id h0 h1 o
  have g2 := rf_Slot_2 hP c r id h0 h1 o
  have g3 := rf_Slot_3 hP c r (nmId x.work c) o ho
  rw [he] at g1
  rw [nm_get he2] at g3
  rw [he2] at g2
  generalize nmId x.work c = id2 at *
  generalize gO x.work ls id2 = o2 at *
  have hd : ∀ b1 b2 b3 b4 b5 b6 : Blk, List.drop (s.loc.length + 6) (s.loc ++ [b1, b2, b3, b4, b5, b6]) = [] := fun _ _ _ _ _ _ => List.drop_eq_nil_of_le (by simp)
  have hlt : s.loc.length + 5 < s.loc.length + 6 := by omega
  have w1 : IntKind.i64.wrap 1 = 1 := by decide
  have w2 : IntKind.i64.wrap 2 = 2 := by decide
  have w3 : IntKind.i64.wrap 3 = 3 := by decide
  simp only [slL, Obj.v] at *
  rw [rf_o D_nodes_first rfl]
  simp only [go_sem]
  rw [rc_loop_o]
  simp only [go_sem, b_nodes_first_0, hd, hlt, w1, w2, w3, List.all_nil, g1]
  rw [rc_loop_o]
  simp only [go_sem, b_nodes_first_0, hd, hlt, w1, w2, w3, List.all_nil, g2]
  rw [rc_loop_o]
  simp only [go_sem, b_nodes_first_0, hd, hlt, w1, w2, w3, List.all_nil, g3]
  rw [rc_loop_o]
  simp only [go_sem, b_nodes_first_0, hd, hlt, w1, w2, w3, List.all_nil]
end slot
theorem rf_Slot {s : St} {a k m : Nat} {x : StF} {sh : Nat → Bool} {T : List V} {ls : Nat → List Int} (hP : Prg s.hp a x sh k m T ls) (hL : OkL ls) (c i r : Int) (h0 : 0 ≤ c) (h1 : c ≤ 18446744073709551615) :
    rf D f_nodes_Slot [.ptr (.hp a) [] 43, .int .u64 c, .int .i64 i, .int .i64 r] s = some (.tup [.int .i64 (slI x.work c i r), .int .u64 (slW x.work ls c i r), .int .i64 (slE x.work c i r)], s) := by
  unfold slI slW slE
  by_cases c1 : i < 0
  · rw [rf_o D_nodes_Slot rfl]
    simp only [go_sem, c1, if_true]
  · by_cases c2 : 8 ≤ i
    · rw [rf_o D_nodes_Slot rfl]
      simp only [go_sem, c1, c2, if_true, if_false]
    · simp only [c1, c2, if_false]
      by_cases c3 : mayE c 2 r = 0
      · simp only [c3, if_true]
        by_cases c4 : nmE x.work c = 0
        · have g := first_c hP c r 0 h0 h1 ob0 rfl c3 c4
          simp only [c4, if_true]
          have hl := gO_ok (t := x.work) hL (nmId x.work c)
          obtain ⟨q, rfl⟩ : ∃ q : Nat, i = q := ⟨i.toNat, by omega⟩
          have hq := get_map (f := V.int .u64) (l := (gO x.work ls (nmId x.work c)).l) (i := q) (by rw [hl.1]; omega) 0
          rw [Int.toNat_natCast]
          generalize nmId x.work c = id2 at *
          generalize gO x.work ls id2 = o2 at *
          have d1 : (0 : Int) ≤ q := by omega
          have d2 : (q : Int) < 8 := by omega
          have d3 : ¬ s.loc.length + 4 = s.loc.length + 3 := by omega
          have d4 : ¬ s.loc.length + 3 = s.loc.length + 4 := by omega
          simp only [slL, ob0, Obj.v, List.replicate] at *
          rw [rf_o D_nodes_Slot rfl]
          simp only [go_sem, List.replicate, c1, c2, g, d1, d2, d3, d4]
          rw [Int.toNat_natCast]
          simp only [go_sem, hq]
        · have g := first_b hP c r 0 h0 h1 ob0 c3 c4
          simp only [c4, if_false]
          generalize nmE x.work c = e at *
          generalize nmId x.work c = id2 at *
          simp only [slL, ob0, List.replicate] at *
          rw [rf_o D_nodes_Slot rfl]
          simp only [go_sem, List.replicate, c1, c2, g, c4]
      · have g := first_a (s := s) (a := a) c r 0 h0 h1 ob0 c3
        simp only [c3, if_false]
        generalize mayE c 2 r = e at *
        simp only [slL, ob0, List.replicate] at *
        rw [rf_o D_nodes_Slot rfl]
        simp only [go_sem, List.replicate, c1, c2, g, c3]
theorem rf_rSlot {s : St} {a k k2 m : Nat} {x : RstF} {T T2 : List V} {ls : Nat → List Int} (hD : Doc s.hp a x k k2 m T T2 ls) (hL : OkL ls) (c i r : Int) (h0 : 0 ≤ c) (h1 : c ≤ 18446744073709551615) (hr0 : -9223372036854775808 ≤ r) (hr1 : r ≤ 9223372036854775807) :
    rf D f_steadfastref17_Slot [.ptr (.hp a) [] 31, .int .u64 c, .int .i64 i, .int .i64 r] s = some (.tup [.int .i64 (slI x.work c i r), .int .u64 (slW x.work ls c i r), .int .i64 (slE x.work c i r)], s) := by
  have hm := fun s => rf_ref07_May c 2 r h0 h1 hr0 hr1 s
  have hn := fun L => rf_rNames (s := ⟨s.loc ++ L, s.hp⟩) hD.st c h0 h1
  have hn0 := rf_rNames (s := s) hD.st c h0 h1
  have hg0 := rf_rGet (s := s) hD (nmId x.work c)
  unfold slI slW slE
  by_cases c1 : i < 0
  · rw [rf_o D_steadfastref17_Slot rfl]
    simp only [go_sem, c1, if_true]
  · by_cases c2 : 8 ≤ i
    · have c2' : 7 < i := by omega
      rw [rf_o D_steadfastref17_Slot rfl]
      simp only [go_sem, c1, c2, c2', if_true, if_false]
    · have c2' : ¬ 7 < i := by omega
      simp only [c1, c2, if_false]
      by_cases c3 : mayE c 2 r = 0
      · simp only [c3, if_true]
        by_cases c4 : nmE x.work c = 0
        · rw [nm_get c4] at hg0
          simp only [c4, if_true]
          have hl := gO_ok (t := x.work) hL (nmId x.work c)
          obtain ⟨q, rfl⟩ : ∃ q : Nat, i = q := ⟨i.toNat, by omega⟩
          have hq := get_map (f := V.int .u64) (l := (gO x.work ls (nmId x.work c)).l) (i := q) (by rw [hl.1]; omega) 0
          rw [Int.toNat_natCast]
          rw [c4] at hn0
          generalize nmId x.work c = id2 at *
          generalize gO x.work ls id2 = o2 at *
          have d1 : (0 : Int) ≤ q := by omega
          have d2 : (q : Int) < 8 := by omega
          simp only [Obj.v] at *
          rw [rf_o D_steadfastref17_Slot rfl]
          simp only [go_sem, c1, c2', hm, c3, hn0, hg0, d1, d2]
          rw [Int.toNat_natCast]
          simp only [go_sem, hq]
        · simp only [c4, if_false]
          generalize nmE x.work c = e at *
          generalize nmId x.work c = id2 at *
          rw [rf_o D_steadfastref17_Slot rfl]
          simp only [go_sem, c1, c2', hm, c3, hn0, c4]
      · simp only [c3, if_false]
        generalize mayE c 2 r = e at *
        rw [rf_o D_steadfastref17_Slot rfl]
        simp only [go_sem, c1, c2', hm, c3]
end Go.Proofs.Ytnffmibpblibdaa
namespace Go.Proofs.Ytnffmibpblibdaa
open Go.Ab

theorem okL_of {lo : List Obj} (h : ∀ o ∈ lo, OkO o) : OkL (lnM lo) := by
  constructor
  · intro i
    unfold lnM
    split
    · rename_i hh
      exact (h _ (getD_mem (by omega) zeroObj)).l8
    · rfl
  · intro i x hx
    unfold lnM at hx
    split at hx
    · rename_i hh
      exact (h _ (getD_mem (by omega) zeroObj)).words x hx
    · have := List.eq_of_mem_replicate (show x ∈ List.replicate 8 0 from hx)
      omega
theorem open_objs {hp : List Blk} {v : V} (h : (Sh.sl 28 (.st 26 [.int .i64, .int .i64, .arr 24 8 (.int .u64)])).Fits hp v) :
    ∃ lo : List Obj, (∀ L more, RS ⟨L, hp ++ more⟩ 26 v (lo.map Obj.v)) ∧ (∀ o ∈ lo, OkO o) := by
  obtain ⟨l, hrs, hlt, hlen, hfit⟩ := rs_of_fits h
  obtain ⟨lo, rfl, hlo⟩ := map_of (f := Obj.v) (fun x hx => obj_of (hfit x hx))
  exact ⟨lo, fun L more => hrs.more ⟨by simp, List.prefix_append _ _⟩, fun o ho => (hlo o ho).1⟩
theorem band15 (r : Int) (h0 : -9223372036854775808 ≤ r) (h1 : r ≤ 9223372036854775807) : 0 ≤ iand .i64 r 15 ∧ iand .i64 r 15 ≤ 15 := by
  have e : iand .i64 r 15 = ((BitVec.ofInt 64 r &&& 15#64).toNat : Int) := by
    rw [iand_i64]
    have hl : (BitVec.ofInt 64 r &&& 15#64).toNat ≤ 15 := by
      rw [BitVec.toNat_and]; exact Nat.and_le_right
    show (BitVec.ofInt 64 r &&& 15#64).toInt = _
    rw [BitVec.toInt_eq_toNat_of_lt (by omega)]
  rw [e]
  have hl : (BitVec.ofInt 64 r &&& 15#64).toNat ≤ 15 := by
    rw [BitVec.toNat_and]; exact Nat.and_le_right
  omega
/-- 15 keeps what is below 16. -/
theorem keep15 {r : Int} (h0 : 0 ≤ r) (h1 : r ≤ 15) : iand .i64 15 r = r := by
  obtain ⟨n, rfl⟩ : ∃ n : Nat, r = n := ⟨r.toNat, by omega⟩
  have : (15 : Int) = ((15 : Nat) : Int) := rfl
  rw [this, iand_i64_nat (by omega) (by omega), Nat.and_comm, show (15 : Nat) = 2 ^ 4 - 1 by rfl, Nat.and_two_pow_sub_one_eq_mod]
  omega
theorem capOf_word {c : Cap} (h : c.Ok) : capOf c.word = c := by
  have h1 := h.k; have h2 := h.r; have h3 := h.i; have h4 := h.v; have h5 := h.b
  obtain ⟨k, r, i, v, b⟩ := c
  simp only at h1 h2 h3 h4 h5
  simp only [capOf, Cap.word, Cap.mk.injEq]
  omega
theorem capsOf_word {c : Cap} (h : c.Ok) : capsOf c.word = c := by
  unfold capsOf
  rw [capOf_word h, if_pos ((may_iff c).2 h)]
theorem word_range {c : Cap} (h : c.Ok) : 0 ≤ c.word ∧ c.word ≤ 18446744073709551615 := by
  have h1 := h.k; have h2 := h.r; have h3 := h.i; have h4 := h.v; have h5 := h.b
  unfold Cap.word
  omega
theorem absm_id {v : Int} (h0 : 0 ≤ v) (h1 : v < 100) : absm v 100 = v := by
  unfold absm
  rw [Int.tmod_eq_emod_of_nonneg h0]
  rw [if_neg (by omega)]
  omega
theorem ofInt_iand (a b : Int) : BitVec.ofInt 64 (iand .i64 a b) = BitVec.ofInt 64 a &&& BitVec.ofInt 64 b := by
  rw [iand_i64, BitVec.ofInt_toInt]
theorem iand_assoc (a b c : Int) : iand .i64 (iand .i64 a b) c = iand .i64 a (iand .i64 b c) := by
  rw [iand_i64 (iand .i64 a b), iand_i64 a (iand .i64 b c), ofInt_iand, ofInt_iand, BitVec.and_assoc]
end Go.Proofs.Ytnffmibpblibdaa
namespace Go.Proofs.Ytnffmibpblibdaa
open Go.Ab

def cpE (t : Nat → Ent) (n i c : Int) : Int := if slE t n i 2 = 0 then if (capOf c).may = false ∧ c ≠ 0 then 31 else 0 else slE t n i 2
def cpI (t : Nat → Ent) (n i c : Int) : Int := if slE t n i 2 = 0 then if (capOf c).may = false ∧ c ≠ 0 then 0 else nmId t n else 0
def tkF (t : Nat → Ent) (ls : Nat → List Int) (n i : Int) : Bool := decide ((capOf (slW t ls n i 1)).may = false) || decide (mayE n 2 4 = 0)
def tkE (t : Nat → Ent) (ls : Nat → List Int) (n i : Int) : Int := if slE t n i 1 = 0 then if tkF t ls n i then 0 else dimE (slW t ls n i 1) 1 0 else slE t n i 1
def tkW (t : Nat → Ent) (ls : Nat → List Int) (n i : Int) : Int := if slE t n i 1 = 0 then if tkF t ls n i then slW t ls n i 1 else dimW (slW t ls n i 1) 1 0 else 0
section nodes
variable {s : St} {ls : Nat → List Int} (hL : OkL ls) (n i c : Int) (h0 : 0 ≤ n) (h1 : n ≤ 18446744073709551615)
include hL h0 h1
theorem rf_Copy {a k m : Nat} {x : StF} {sh : Nat → Bool} {T : List V} (hP : Prg s.hp a x sh k m T ls) (g0 : 0 ≤ c) (g1 : c ≤ 18446744073709551615) :
    rf D f_nodes_Copy [.ptr (.hp a) [] 43, .int .u64 n, .int .i64 i, .int .u64 c] s = some (.tup [.int .i64 (cpI x.work n i c), .int .i64 (cpE x.work n i c)], s) := by
  have hs := rf_Slot hP hL n i 2 h0 h1
  have hc := fun s => rf_caps_Of c g0 g1 s
  unfold cpI cpE
  rw [rf_o D_nodes_Copy rfl]
  by_cases e1 : slE x.work n i 2 = 0
  · rw [slI, if_pos e1] at hs
    simp only [e1, if_true] at hs ⊢
    generalize slW x.work ls n i 2 = w at *
    generalize nmId x.work n = id at *
    generalize (capOf c).may = mm at *
    generalize capsOf c = cc at *
    simp only [Cap.v] at hc
    by_cases e2 : c = 0
    · subst e2
      cases mm
      · simp [go_sem, hs, hc]
      · simp [go_sem, hs, hc]
    · cases mm
      · simp [go_sem, hs, hc, e2]
      · simp [go_sem, hs, hc, e2]
  · simp only [e1, if_false]
    generalize slW x.work ls n i 2 = w at *
    generalize slI x.work n i 2 = w2 at *
    generalize slE x.work n i 2 = e at *
    simp only [go_sem, hs, e1]
theorem rf_rCopy {a k k2 m : Nat} {x : RstF} {T T2 : List V} (hD : Doc s.hp a x k k2 m T T2 ls) (g0 : 0 ≤ c) (g1 : c ≤ 18446744073709551615) :
    rf D f_steadfastref17_Copy [.ptr (.hp a) [] 31, .int .u64 n, .int .i64 i, .int .u64 c] s = some (.tup [.int .i64 (cpI x.work n i c), .int .i64 (cpE x.work n i c)], s) := by
  have hs := rf_rSlot hD hL n i 2 h0 h1 (by decide) (by decide)
  have hc := fun s => rf_ref07_Of c g0 g1 s
  unfold cpI cpE
  rw [rf_o D_steadfastref17_Copy rfl]
  by_cases e1 : slE x.work n i 2 = 0
  · rw [slI, if_pos e1] at hs
    simp only [e1, if_true] at hs ⊢
    generalize slW x.work ls n i 2 = w at *
    generalize nmId x.work n = id at *
    generalize (capOf c).may = mm at *
    generalize capsOf c = cc at *
    simp only [Cap.v] at hc
    by_cases e2 : c = 0
    · subst e2
      cases mm
      · simp [go_sem, hs, hc]
      · simp [go_sem, hs, hc]
    · cases mm
      · simp [go_sem, hs, hc, e2]
      · simp [go_sem, hs, hc, e2]
  · simp only [e1, if_false]
    generalize slW x.work ls n i 2 = w at *
    generalize slI x.work n i 2 = w2 at *
    generalize slE x.work n i 2 = e at *
    simp only [go_sem, hs, e1]
theorem rf_Take {a k m : Nat} {x : StF} {sh : Nat → Bool} {T : List V} (hP : Prg s.hp a x sh k m T ls) :
    rf D f_nodes_Take [.ptr (.hp a) [] 43, .int .u64 n, .int .i64 i] s = some (.tup [.int .u64 (tkW x.work ls n i), .int .i64 (tkE x.work ls n i)], s) := by
  have hs := rf_Slot hP hL n i 1 h0 h1
  have hw := slW_ok (t := x.work) hL n i 1
  have hc := fun s => rf_caps_Of _ hw.1 hw.2 s
  have hd := fun s => rf_caps_Diminish _ 1 0 hw.1 hw.2 s
  have hm := fun s => rf_caps_May n 2 4 h0 h1 s
  unfold tkW tkE tkF
  rw [rf_o D_nodes_Take rfl]
  by_cases e1 : slE x.work n i 1 = 0
  · simp only [e1, if_true] at hs ⊢
    generalize slW x.work ls n i 1 = w at *
    generalize slI x.work n i 1 = id at *
    generalize (capOf w).may = mm at *
    generalize capsOf w = cc at *
    generalize dimW w 1 0 = dw at *
    generalize dimE w 1 0 = de at *
    generalize mayE n 2 4 = me at *
    simp only [Cap.v] at hc
    by_cases e2 : me = 0
    · subst e2
      cases mm
      · simp [go_sem, hs, hc]
      · simp [go_sem, hs, hc, hm]
    · cases mm
      · simp [go_sem, hs, hc, e2]
      · simp [go_sem, hs, hc, hm, e2, hd]
  · simp only [e1, if_false]
    generalize slW x.work ls n i 1 = w at *
    generalize slI x.work n i 1 = w2 at *
    generalize slE x.work n i 1 = e at *
    simp only [go_sem, hs, e1]
theorem rf_r17Take {a k k2 m : Nat} {x : RstF} {T T2 : List V} (hD : Doc s.hp a x k k2 m T T2 ls) :
    rf D f_steadfastref17_Take [.ptr (.hp a) [] 31, .int .u64 n, .int .i64 i] s = some (.tup [.int .u64 (tkW x.work ls n i), .int .i64 (tkE x.work ls n i)], s) := by
  have hs := rf_rSlot hD hL n i 1 h0 h1 (by decide) (by decide)
  have hw := slW_ok (t := x.work) hL n i 1
  have hc := fun s => rf_ref07_Of _ hw.1 hw.2 s
  have hd := fun s => rf_ref07_Diminish _ 1 0 hw.1 hw.2 s
  have hm := fun s => rf_ref07_May n 2 4 h0 h1 (by decide) (by decide) s
  unfold tkW tkE tkF
  rw [rf_o D_steadfastref17_Take rfl]
  by_cases e1 : slE x.work n i 1 = 0
  · simp only [e1, if_true] at hs ⊢
    generalize slW x.work ls n i 1 = w at *
    generalize slI x.work n i 1 = id at *
    generalize (capOf w).may = mm at *
    generalize capsOf w = cc at *
    generalize dimW w 1 0 = dw at *
    generalize dimE w 1 0 = de at *
    generalize mayE n 2 4 = me at *
    simp only [Cap.v] at hc
    by_cases e2 : me = 0
    · subst e2
      cases mm
      · simp [go_sem, hs, hc]
      · simp [go_sem, hs, hc, hm]
    · cases mm
      · simp [go_sem, hs, hc, e2]
      · simp [go_sem, hs, hc, hm, e2, hd]
  · simp only [e1, if_false]
    generalize slW x.work ls n i 1 = w at *
    generalize slI x.work n i 1 = w2 at *
    generalize slE x.work n i 1 = e at *
    simp only [go_sem, hs, e1]
end nodes
def mnW (c r b : Int) : Int := if c = 0 then 0 else dimW c r b
def mnE (c r b : Int) : Int := if c = 0 then 0 else dimE c r b
theorem rf_Mint (c r b : Int) (h0 : 0 ≤ c) (h1 : c ≤ 18446744073709551615) (s : St) : rf D f_nodes_Mint [.int .u64 c, .int .i64 r, .int .i64 b] s = some (.tup [.int .u64 (mnW c r b), .int .i64 (mnE c r b)], s) := by
  have hd := fun s => rf_caps_Diminish c r b h0 h1 s
  unfold mnW mnE
  rw [rf_o D_nodes_Mint rfl]
  by_cases e : c = 0
  · simp only [go_sem, e, if_true]
  · generalize dimW c r b = dw at *
    generalize dimE c r b = de at *
    simp only [go_sem, e, if_false, hd]
theorem rf_rMint (c r b : Int) (h0 : 0 ≤ c) (h1 : c ≤ 18446744073709551615) (s : St) : rf D f_steadfastref17_Mint [.int .u64 c, .int .i64 r, .int .i64 b] s = some (.tup [.int .u64 (mnW c r b), .int .i64 (mnE c r b)], s) := by
  have hd := fun s => rf_ref07_Diminish c r b h0 h1 s
  unfold mnW mnE
  rw [rf_o D_steadfastref17_Mint rfl]
  by_cases e : c = 0
  · simp only [go_sem, e, if_true]
  · generalize dimW c r b = dw at *
    generalize dimE c r b = de at *
    simp only [go_sem, e, if_false, hd]
/-! ### The examples -/
def exN : List Obj := [⟨1, 0, zl⟩, ⟨2, 0, zl⟩]
theorem exN_ok : ∀ o ∈ exN, OkO o := by
  intro o ho
  simp only [exN, List.mem_cons, List.not_mem_nil, or_false] at ho
  rcases ho with rfl | rfl <;> exact ⟨rfl, fun x hx => by have := List.eq_of_mem_replicate (show x ∈ List.replicate 8 0 from hx); omega⟩
theorem exn_1 : slE (entM 100 exN) 0 0 0 = 31 := by kernel_rfl
theorem exn_2 : slE (entM 100 exN) 241 0 0 = 31 := by kernel_rfl
theorem exn_3 : slE (entM 100 exN) 498 8 0 = 1 := by kernel_rfl
theorem exn_w1 : capWord ⟨1, 15, 0, 0, 0⟩ = 241 := by kernel_rfl
theorem exn_w2 : capWord ⟨2, 15, 1, 0, 0⟩ = 498 := by kernel_rfl
theorem exn_m1 : mnW 0 1 1 = 0 := by kernel_rfl
theorem exn_m2 : mnE 0 1 1 = 0 := by kernel_rfl
theorem exn_m3 : mnE 7 1 1 = 31 := by kernel_rfl
theorem rf_shown17 (s : St) : ∃ more, rf D f_steadfastlaw17_shown [] s = some (.bool true, ⟨s.loc, s.hp ++ more⟩) := by
  have w1 := fun s => rf_ref07_Word ⟨1, 15, 0, 0, 0⟩ s
  have w2 := fun s => rf_ref07_Word ⟨2, 15, 1, 0, 0⟩ s
  rw [exn_w1] at w1
  rw [exn_w2] at w2
  have hrs : RS ⟨s.loc ++ [.rw (.agg 28 (exN.map Obj.v))], s.hp⟩ 26 (.sl (.loc s.loc.length) [] 0 2 (some 2) 26) (exN.map Obj.v) :=
    RS.at_loc (L := s.loc ++ [.rw (.agg 28 (exN.map Obj.v))]) (i := s.loc.length) (r := 28) (n := 2) (cp := some 2) (by simp) rfl (fun c hc => by cases hc; exact Nat.le_refl _)
  obtain ⟨w, S, X, _, _, _, _, hm⟩ := rf_made17 hrs
  simp only at hm
  have hP := prgM (H := s.hp) (t := entM 100 exN) (ls := lnM exN) (w := w) (S := S) (X := X) (fun i _ hk => entM_line hk)
  have hL := okL_of exN_ok
  have f1 := fun L => rf_Slot (s := ⟨s.loc ++ L, s.hp ++ madeH s.hp.length (entM 100 exN) (lnM exN) w S X⟩) hP hL 0 0 0 (by omega) (by omega)
  have f2 := fun L => rf_Slot (s := ⟨s.loc ++ L, s.hp ++ madeH s.hp.length (entM 100 exN) (lnM exN) w S X⟩) hP hL 241 0 0 (by omega) (by omega)
  have f3 := fun L => rf_Slot (s := ⟨s.loc ++ L, s.hp ++ madeH s.hp.length (entM 100 exN) (lnM exN) w S X⟩) hP hL 498 8 0 (by omega) (by omega)
  have f4 := fun s => rf_Mint 0 1 1 (by omega) (by omega) s
  have f5 := fun s => rf_Mint 7 1 1 (by omega) (by omega) s
  simp only [exn_1, exn_2, exn_3] at f1 f2 f3
  simp only [exn_m1, exn_m2, exn_m3] at f4 f5
  refine ⟨madeH s.hp.length (entM 100 exN) (lnM exN) w S X, ?_⟩
  generalize madeH s.hp.length (entM 100 exN) (lnM exN) w S X = mh at *
  generalize slI (entM 100 exN) 0 0 0 = i1 at *
  generalize slI (entM 100 exN) 241 0 0 = i2 at *
  generalize slI (entM 100 exN) 498 8 0 = i3 at *
  generalize slW (entM 100 exN) (lnM exN) 0 0 0 = u1 at *
  generalize slW (entM 100 exN) (lnM exN) 241 0 0 = u2 at *
  generalize slW (entM 100 exN) (lnM exN) 498 8 0 = u3 at *
  generalize mnW 7 1 1 = u4 at *
  simp only [exN, List.map_cons, List.map_nil, Obj.v, zl, List.replicate, List.map_cons, List.map_nil] at hm
  simp only [Cap.v] at w1 w2
  rw [rf_o D_steadfastlaw17_shown rfl]
  simp only [go_sem, List.replicate]
  simp only [go_sem, hm]
  simp only [go_sem, w1, w2, f1, f2, f3, f4, f5]
end Go.Proofs.Ytnffmibpblibdaa
namespace Go.Proofs.Ytnffmibpblibdaa
open Go.Ab

theorem iand_range (a b : Int) : -9223372036854775808 ≤ iand .i64 a b ∧ iand .i64 a b ≤ 9223372036854775807 := by
  rw [iand_i64]
  have h1 := BitVec.le_toInt (BitVec.ofInt 64 a &&& BitVec.ofInt 64 b)
  have h2 := BitVec.toInt_lt (x := BitVec.ofInt 64 a &&& BitVec.ofInt 64 b)
  omega
theorem less_self (a b : Int) : iandnot .i64 (iand .i64 a b) a = 0 := by
  have h := iand_range a b
  rw [less_i64 h.1 h.2, ← iand_assoc]
  rw [iand_i64 (iand .i64 a a), ofInt_iand, iand_i64 a b, BitVec.and_self]
theorem less_refl {a : Int} (h0 : -9223372036854775808 ≤ a) (h1 : a ≤ 9223372036854775807) : iandnot .i64 a a = 0 := by
  rw [less_i64 h0 h1, iand_i64, BitVec.and_self, BitVec.toInt_ofInt]
  have : (a.bmod (2 ^ 64)) = a := Int.bmod_eq_of_le (by omega) (by omega)
  exact this
theorem capsOf_ok {c : Int} (h : (capOf c).may = true) : (capsOf c).Ok := by
  unfold capsOf
  rw [if_pos h]
  exact (may_iff _).1 h
theorem dim_ok {w r b : Int} (hd : dimE w r b = 0) : (capOf w).may = true ∧ (dimC w r b).Ok ∧ dimW w r b = (dimC w r b).word := by
  have hm : (capOf w).may = true := by
    cases h : (capOf w).may
    · unfold dimE at hd; rw [if_pos h] at hd; cases hd
    · rfl
  have hmt : ¬ (capOf w).may = false := by rw [hm]; simp
  have hmay : (dimC w r b).may = true := by
    unfold dimE at hd
    rw [if_neg hmt] at hd
    split at hd
    · cases hd
    · unfold capE at hd
      split at hd
      · assumption
      · cases hd
  refine ⟨hm, (may_iff _).1 hmay, ?_⟩
  unfold dimE at hd
  unfold dimW
  rw [if_neg hmt] at hd ⊢
  split at hd
  · cases hd
  · rename_i hg
    rw [if_neg hg]
    unfold capWord; rw [if_pos hmay]
theorem with_dim {w r b : Int} (hd : dimE w r b = 0) : withB (dimW w r b) w = true := by
  obtain ⟨hm, hok, hw⟩ := dim_ok hd
  unfold withB
  rw [hw, capsOf_word hok, capOf_word hok, (may_iff _).2 hok, hm]
  simp only [dimC, less_self]
  rfl
theorem with_refl {w : Int} (hm : (capOf w).may = true) : withB w w = true := by
  have hr := (capsOf_ok hm).r
  unfold withB
  rw [hm, less_refl (by omega) (by omega)]
  simp
theorem dimW_range (w r b : Int) : 0 ≤ dimW w r b ∧ dimW w r b ≤ 18446744073709551615 := by
  unfold dimW
  split
  · omega
  · split
    · omega
    · unfold capWord
      split
      · rename_i h; exact word_range ((may_iff _).1 h)
      · omega
theorem law_NodesSlots : ∀ hp vs, Sh.FitsL hp [(.sl 28 (.st 26 [(.int .i64), (.int .i64), (.arr 24 8 (.int .u64))])), (.int .u64), (.arr 22 2 (.int .i64))] vs → ∃ s', rf D f_steadfastlaw17_NodesSlots vs ⟨[], hp⟩ = some (.bool true, s') := by
  intro hp vs hf
  obtain ⟨v, y, z, rfl, h1, ⟨c, rfl, hc0, hc1⟩, h3⟩ := fits3 hf
  have hc0' : (0 : Int) ≤ c := hc0
  have hc1' : c ≤ 18446744073709551615 := hc1
  obtain ⟨_, _, rfl, ⟨i, rfl, hi0, hi1⟩, ⟨r, rfl, hr0, hr1⟩⟩ := arr2 h3
  obtain ⟨lo, hrs, hlo⟩ := open_objs h1
  obtain ⟨more, hsh⟩ := rf_shown17 ⟨[.rw (.agg 22 [.int .i64 i, .int .i64 r])], hp⟩
  obtain ⟨w, S, X, _, _, _, _, hm⟩ := rf_made17 (hrs [.rw (.agg 22 [.int .i64 i, .int .i64 r])] more)
  have ht : ∀ i, i < 49 → (entM 100 lo i).kind ≠ 0 → (entM 100 lo i).line = 20 + i := fun i _ hk => entM_line hk
  have hP := prgM (H := hp ++ more) (ls := lnM lo) (w := w) (S := S) (X := X) ht
  have hD := docM (H := hp ++ more) (ls := lnM lo) (w := w) (S := S) (X := X) ht
  have hL := okL_of hlo
  have f1 := fun L => rf_Slot (s := ⟨L, (hp ++ more) ++ madeH (hp ++ more).length (entM 100 lo) (lnM lo) w S X⟩) hP hL c i r hc0' hc1'
  have f2 := fun L => rf_rSlot (s := ⟨L, (hp ++ more) ++ madeH (hp ++ more).length (entM 100 lo) (lnM lo) w S X⟩) hD hL c i r hc0' hc1' hr0 hr1
  simp only at hsh hm f1 f2
  generalize hp ++ more = H at *
  generalize madeH H.length (entM 100 lo) (lnM lo) w S X = mh at *
  generalize slE (entM 100 lo) c i r = e1 at *
  generalize slI (entM 100 lo) c i r = e2 at *
  generalize slW (entM 100 lo) (lnM lo) c i r = e3 at *
  refine ⟨⟨[], H ++ mh⟩, ?_⟩
  rw [rf_o D_steadfastlaw17_NodesSlots rfl]
  simp only [go_sem, hsh, hm, f1, f2]
theorem law_NodesMints : ∀ hp vs, Sh.FitsL hp [(.int .u64), (.int .i64), (.int .i64)] vs → ∃ s', rf D f_steadfastlaw17_NodesMints vs ⟨[], hp⟩ = some (.bool true, s') := by
  intro hp vs hf
  obtain ⟨_, _, _, rfl, ⟨c, rfl, hc0, hc1⟩, ⟨r, rfl, hr0, hr1⟩, ⟨b, rfl, hb0, hb1⟩⟩ := fits3 hf
  have hc0' : (0 : Int) ≤ c := hc0
  have hc1' : c ≤ 18446744073709551615 := hc1
  obtain ⟨more, hsh⟩ := rf_shown17 ⟨[], hp⟩
  have f1 := fun s => rf_Mint c r b hc0' hc1' s
  have f2 := fun s => rf_rMint c r b hc0' hc1' s
  have hdr := dimW_range c r b
  refine ⟨⟨[], hp ++ more⟩, ?_⟩
  simp only at hsh
  rw [rf_o D_steadfastlaw17_NodesMints rfl]
  by_cases e1 : c = 0
  · subst e1
    simp only [mnW, mnE, if_true] at f1 f2
    simp only [go_sem, hsh, f1, f2]
  · simp only [mnW, mnE, e1, if_false] at f1 f2
    by_cases e2 : dimE c r b = 0
    · have f3 := fun s => rf_caps_Within _ c hdr.1 hdr.2 hc0' hc1' s
      rw [with_dim e2] at f3
      rw [e2] at f1 f2
      generalize dimW c r b = dw at *
      simp only [go_sem, hsh, f1, f2, f3, e1]
    · generalize dimE c r b = de at *
      generalize dimW c r b = dw at *
      simp only [go_sem, hsh, f1, f2, e1, e2]
end Go.Proofs.Ytnffmibpblibdaa
namespace Go.Proofs.Ytnffmibpblibdaa
open Go.Ab

theorem cp_may {t : Nat → Ent} {n i c : Int} (h : cpE t n i c = 0) : mayE n 2 2 = 0 := by
  unfold cpE at h
  by_cases e : slE t n i 2 = 0
  · exact (slE_zero e).2.2.1
  · rw [if_neg e] at h; exact absurd h e
/-- What is taken is within what stands there. -/
theorem tk_within {t : Nat → Ent} {ls : Nat → List Int} {n i : Int} (h : tkE t ls n i = 0) : slE t n i 1 = 0 ∧ (((capOf (slW t ls n i 1)).may = true ∧ withB (tkW t ls n i) (slW t ls n i 1) = true) ∨ ((capOf (slW t ls n i 1)).may = false ∧ tkW t ls n i = slW t ls n i 1)) := by
  unfold tkE at h
  unfold tkW
  by_cases e : slE t n i 1 = 0
  · rw [if_pos e] at h ⊢
    refine ⟨e, ?_⟩
    cases hm : (capOf (slW t ls n i 1)).may
    · right
      have : tkF t ls n i = true := by unfold tkF; rw [hm]; rfl
      rw [if_pos this]
      exact ⟨rfl, rfl⟩
    · left
      refine ⟨rfl, ?_⟩
      by_cases g : tkF t ls n i = true
      · rw [if_pos g]; exact with_refl hm
      · rw [if_neg g] at h ⊢; exact with_dim h
  · rw [if_neg e] at h; exact absurd h e
theorem tkW_range {t : Nat → Ent} {ls : Nat → List Int} (hL : OkL ls) (n i : Int) : 0 ≤ tkW t ls n i ∧ tkW t ls n i ≤ 18446744073709551615 := by
  have h1 := slW_ok (t := t) hL n i 1
  have h2 := dimW_range (slW t ls n i 1) 1 0
  unfold tkW
  split
  · split
    · exact h1
    · exact h2
  · omega
theorem law_NodesCopies : ∀ hp vs, Sh.FitsL hp [(.sl 28 (.st 26 [(.int .i64), (.int .i64), (.arr 24 8 (.int .u64))])), (.arr 46 2 (.int .u64)), (.int .i64)] vs → ∃ s', rf D f_steadfastlaw17_NodesCopies vs ⟨[], hp⟩ = some (.bool true, s') := by
  intro hp vs hf
  obtain ⟨v, y, z, rfl, h1, h2, ⟨i, rfl, hi0, hi1⟩⟩ := fits3 hf
  obtain ⟨_, _, rfl, ⟨n, rfl, hn0, hn1⟩, ⟨c, rfl, hc0, hc1⟩⟩ := arr2 h2
  have hc0' : (0 : Int) ≤ c := hc0
  have hc1' : c ≤ 18446744073709551615 := hc1
  have hn0' : (0 : Int) ≤ n := hn0
  have hn1' : n ≤ 18446744073709551615 := hn1
  obtain ⟨lo, hrs, hlo⟩ := open_objs h1
  obtain ⟨more, hsh⟩ := rf_shown17 ⟨[.rw (.agg 46 [.int .u64 n, .int .u64 c])], hp⟩
  obtain ⟨w, S, X, _, _, _, _, hm⟩ := rf_made17 (hrs [.rw (.agg 46 [.int .u64 n, .int .u64 c])] more)
  have ht : ∀ i, i < 49 → (entM 100 lo i).kind ≠ 0 → (entM 100 lo i).line = 20 + i := fun i _ hk => entM_line hk
  have hP := prgM (H := hp ++ more) (ls := lnM lo) (w := w) (S := S) (X := X) ht
  have hD := docM (H := hp ++ more) (ls := lnM lo) (w := w) (S := S) (X := X) ht
  have hL := okL_of hlo
  have f1 := fun L => rf_Copy (s := ⟨L, (hp ++ more) ++ madeH (hp ++ more).length (entM 100 lo) (lnM lo) w S X⟩) hL n i c hn0' hn1' hP hc0' hc1'
  have f2 := fun L => rf_rCopy (s := ⟨L, (hp ++ more) ++ madeH (hp ++ more).length (entM 100 lo) (lnM lo) w S X⟩) hL n i c hn0' hn1' hD hc0' hc1'
  have f3 := fun L => rf_Take (s := ⟨L, (hp ++ more) ++ madeH (hp ++ more).length (entM 100 lo) (lnM lo) w S X⟩) hL n i hn0' hn1' hP
  have f4 := fun L => rf_r17Take (s := ⟨L, (hp ++ more) ++ madeH (hp ++ more).length (entM 100 lo) (lnM lo) w S X⟩) hL n i hn0' hn1' hD
  have f5 := fun L => rf_Slot (s := ⟨L, (hp ++ more) ++ madeH (hp ++ more).length (entM 100 lo) (lnM lo) w S X⟩) hP hL n i 1 hn0' hn1'
  have f6 := fun s => rf_caps_May n 2 2 hn0' hn1' s
  have hw := slW_ok (t := entM 100 lo) hL n i 1
  have hk := tkW_range (t := entM 100 lo) hL n i
  have f7 := fun s => rf_caps_Of _ hw.1 hw.2 s
  have f8 := fun s => rf_caps_Within _ _ hk.1 hk.2 hw.1 hw.2 s
  have hcp := cp_may (t := entM 100 lo) (n := n) (i := i) (c := c)
  have htk := tk_within (t := entM 100 lo) (ls := lnM lo) (n := n) (i := i)
  simp only at hsh hm f1 f2 f3 f4 f5
  generalize hp ++ more = H at *
  generalize madeH H.length (entM 100 lo) (lnM lo) w S X = mh at *
  generalize entM 100 lo = t at *
  generalize lnM lo = ls at *
  generalize cpE t n i c = e1 at *
  generalize cpI t n i c = e2 at *
  generalize tkE t ls n i = e3 at *
  generalize tkW t ls n i = e4 at *
  generalize slE t n i 1 = e5 at *
  generalize slI t n i 1 = e6 at *
  generalize slW t ls n i 1 = e7 at *
  generalize withB e4 e7 = wb at *
  generalize (capOf e7).may = mm at *
  generalize capsOf e7 = cc at *
  simp only [Cap.v] at f7
  refine ⟨⟨[], H ++ mh⟩, ?_⟩
  rw [rf_o D_steadfastlaw17_NodesCopies rfl]
  by_cases c1 : e1 = 0
  · have c2 := hcp c1
    rw [c2] at f6
    by_cases c3 : e3 = 0
    · obtain ⟨c4, c5⟩ := htk c3
      rcases c5 with ⟨c5, c6⟩ | ⟨c5, c6⟩
      · subst c5 c6
        simp only [go_sem, hsh, hm, f1, f2, f3, f4, f5, f6, f7, f8, c1, c3, c4]
      · subst c5 c6
        simp only [go_sem, hsh, hm, f1, f2, f3, f4, f5, f6, f7, f8, c1, c3, c4]
    · simp only [go_sem, hsh, hm, f1, f2, f3, f4, f6, c1, c3]
  · by_cases c3 : e3 = 0
    · obtain ⟨c4, c5⟩ := htk c3
      rcases c5 with ⟨c5, c6⟩ | ⟨c5, c6⟩
      · subst c5 c6
        simp only [go_sem, hsh, hm, f1, f2, f3, f4, f5, f7, f8, c1, c3, c4]
      · subst c5 c6
        simp only [go_sem, hsh, hm, f1, f2, f3, f4, f5, f7, f8, c1, c3, c4]
    · simp only [go_sem, hsh, hm, f1, f2, f3, f4, c1, c3]
/-! ### A node of rights from 0 to 15 -/
def nodeC (k : Int) : Cap := ⟨2, k, 0, 0, 0⟩
theorem node_ok {k : Int} (h0 : 0 ≤ k) (h1 : k ≤ 15) : (nodeC k).Ok := by
  refine ⟨?_, ⟨h0, h1⟩, ?_, ?_, ?_, ?_⟩ <;> simp only [nodeC] <;> omega
theorem absm16 (k : Int) : 0 ≤ absm k 16 ∧ absm k 16 ≤ 15 := by have := absm_le k (m := 16) (by omega); omega
theorem rights_of {k : Int} (h0 : 0 ≤ k) (h1 : k ≤ 15) : (iandnot .i64 1 k = 0 ↔ iand .i64 k 1 ≠ 0) ∧ (iandnot .i64 2 k = 0 ↔ iand .i64 k 2 ≠ 0) ∧ (iandnot .i64 4 k = 0 ↔ iand .i64 k 4 ≠ 0) := by
  have : k = 0 ∨ k = 1 ∨ k = 2 ∨ k = 3 ∨ k = 4 ∨ k = 5 ∨ k = 6 ∨ k = 7 ∨ k = 8 ∨ k = 9 ∨ k = 10 ∨ k = 11 ∨ k = 12 ∨ k = 13 ∨ k = 14 ∨ k = 15 := by omega
  rcases this with rfl | rfl | rfl | rfl | rfl | rfl | rfl | rfl | rfl | rfl | rfl | rfl | rfl | rfl | rfl | rfl <;> decide
theorem node_may {k r : Int} (h0 : 0 ≤ k) (h1 : k ≤ 15) : mayE (nodeC k).word 2 r = 0 ↔ iandnot .i64 r k = 0 := by
  have hok := node_ok h0 h1
  unfold mayE
  rw [capOf_word hok, capsOf_word hok, (may_iff _).2 hok]
  simp only [Bool.true_eq_false, if_false, nodeC, ne_eq, not_true_eq_false]
  by_cases h : iandnot .i64 r k = 0
  · simp [h]
  · simp [h]
theorem node_nm {k : Int} (h0 : 0 ≤ k) (h1 : k ≤ 15) (l : List Int) : nmE (entM 100 [⟨2, 0, l⟩]) (nodeC k).word = 0 ∧ nmId (entM 100 [⟨2, 0, l⟩]) (nodeC k).word = 0 ∧ gO (entM 100 [⟨2, 0, l⟩]) (lnM [⟨2, 0, l⟩]) 0 = ⟨2, 0, l⟩ := by
  have hok := node_ok h0 h1
  have hc := capsOf_word hok
  have hnm : nmE (entM 100 [⟨2, 0, l⟩]) (nodeC k).word = 0 := by
    unfold nmE
    rw [hc]
    show entryNames (absm 2 5) (absm 0 100) 0 (nodeC k).word = 0
    unfold entryNames
    rw [hc, capOf_word hok, (may_iff _).2 hok]
    simp [nodeC, absm]
  refine ⟨hnm, ?_, ?_⟩
  · unfold nmId; rw [if_pos hnm, hc]; rfl
  · rfl
/-- A word's Diminish to Read is always told. -/
theorem dim_read {w : Int} (hm : (capOf w).may = true) : dimE w 1 0 = 0 ∧ iandnot .i64 (dimC w 1 0).rights 1 = 0 := by
  have hok := capsOf_ok hm
  have hr := hok.r
  have hb := rights_of hr.1 hr.2
  have hrr : iand .i64 (capsOf w).rights 1 = 0 ∨ iand .i64 (capsOf w).rights 1 = 1 := by
    generalize (capsOf w).rights = k at *
    have : k = 0 ∨ k = 1 ∨ k = 2 ∨ k = 3 ∨ k = 4 ∨ k = 5 ∨ k = 6 ∨ k = 7 ∨ k = 8 ∨ k = 9 ∨ k = 10 ∨ k = 11 ∨ k = 12 ∨ k = 13 ∨ k = 14 ∨ k = 15 := by omega
    rcases this with rfl | rfl | rfl | rfl | rfl | rfl | rfl | rfl | rfl | rfl | rfl | rfl | rfl | rfl | rfl | rfl <;> decide
  have hbd : (if (capsOf w).badge = 0 then 0 else (capsOf w).badge) = (capsOf w).badge := by split <;> omega
  have hdok : (dimC w 1 0).Ok := by
    refine ⟨hok.k, ?_, hok.i, hok.v, ?_, hok.free⟩
    · simp only [dimC]; omega
    · simp only [dimC, hbd]; exact hok.b
  constructor
  · unfold dimE
    rw [hm]
    simp only [Bool.true_eq_false, if_false, within]
    unfold capE
    rw [if_pos ((may_iff _).2 hdok)]
    simp
  · simp only [dimC]
    rcases hrr with h | h <;> rw [h] <;> decide
end Go.Proofs.Ytnffmibpblibdaa
namespace Go.Proofs.Ytnffmibpblibdaa
open Go.Ab

theorem map_get8 {l : List Int} (hl : l.length = 8) {q : Nat} (hq : q < 8) : (l.map (V.int .u64))[q]? = some (.int .u64 (l.getD q 0)) := get_map (by omega) 0
theorem law_NodesRights : ∀ hp vs, Sh.FitsL hp [(.arr 24 8 (.int .u64)), (.int .i64), (.int .i64)] vs → ∃ s', rf D f_steadfastlaw17_NodesRights vs ⟨[], hp⟩ = some (.bool true, s') := by
  intro hp vs hf
  obtain ⟨v, y, z, rfl, h1, ⟨r, rfl, hr0, hr1⟩, ⟨i, rfl, hi0, hi1⟩⟩ := fits3 hf
  obtain ⟨ws, rfl, hwn, hwl⟩ := h1
  obtain ⟨l, rfl, hl⟩ := map_of (f := V.int .u64) (P := fun x => 0 ≤ x ∧ x ≤ 18446744073709551615) (fun x hx => by
    obtain ⟨n, rfl, h1, h2⟩ := hwl x hx
    exact ⟨n, rfl, h1, h2⟩)
  have hl8 : l.length = 8 := by simpa using hwn
  have hk := absm16 r
  have hn := absm_le i (m := 8) (by omega)
  have q1 := neg_tmod r (m := 16) (by omega) (by omega)
  have q2 := neg_tmod i (m := 8) (by omega) (by omega)
  have hv1 : (if r.tmod 16 < 0 then -r.tmod 16 else r.tmod 16) = absm r 16 := rfl
  have hv2 : (if i.tmod 8 < 0 then -i.tmod 8 else i.tmod 8) = absm i 8 := rfl
  obtain ⟨more, hsh⟩ := rf_shown17 ⟨[.rw (lnV l)], hp⟩
  have hok := node_ok hk.1 hk.2
  have hcw := fun s => rf_caps_Word (nodeC (absm r 16)) s
  have hwr := word_range hok
  rw [show capWord (nodeC (absm r 16)) = (nodeC (absm r 16)).word from if_pos ((may_iff _).2 hok), show capE (nodeC (absm r 16)) = 0 from if_pos ((may_iff _).2 hok)] at hcw
  have hm1 := fun x => node_may (r := x) hk.1 hk.2
  have hrt := rights_of hk.1 hk.2
  obtain ⟨nm1, nm2, nm3⟩ := node_nm hk.1 hk.2 l
  generalize hw : (nodeC (absm r 16)).word = w at *
  simp only [nodeC, Cap.v] at hcw
  have hoo : ∀ o ∈ [Obj.mk 2 0 l], OkO o := fun o ho => by
    rw [List.mem_singleton] at ho
    subst ho
    exact ⟨hl8, hl⟩
  have hL := okL_of hoo
  have hrs : RS ⟨[.rw (lnV l), .rw (.agg 28 ([Obj.mk 2 0 l].map Obj.v))], hp ++ more⟩ 26 (.sl (.loc 1) [] 0 1 (some 1) 26) ([Obj.mk 2 0 l].map Obj.v) :=
    RS.at_loc (L := [.rw (lnV l), .rw (.agg 28 ([Obj.mk 2 0 l].map Obj.v))]) (i := 1) (r := 28) (n := 1) (cp := some 1) rfl rfl (fun c hc => by cases hc; exact Nat.le_refl _)
  obtain ⟨w', S, X, _, _, _, _, hm⟩ := rf_made17 hrs
  have ht : ∀ i, i < 49 → (entM 100 [Obj.mk 2 0 l] i).kind ≠ 0 → (entM 100 [Obj.mk 2 0 l] i).line = 20 + i := fun i _ hk => entM_line hk
  have hP := prgM (H := hp ++ more) (ls := lnM [Obj.mk 2 0 l]) (w := w') (S := S) (X := X) ht
  have f1 := fun L => rf_Copy (s := ⟨L, (hp ++ more) ++ madeH (hp ++ more).length (entM 100 [Obj.mk 2 0 l]) (lnM [Obj.mk 2 0 l]) w' S X⟩) hL w (absm i 8) 0 hwr.1 hwr.2 hP (by omega) (by omega)
  have f2 := fun L => rf_Take (s := ⟨L, (hp ++ more) ++ madeH (hp ++ more).length (entM 100 [Obj.mk 2 0 l]) (lnM [Obj.mk 2 0 l]) w' S X⟩) hL w (absm i 8) hwr.1 hwr.2 hP
  have htw := tk_within (t := entM 100 [Obj.mk 2 0 l]) (ls := lnM [Obj.mk 2 0 l]) (n := w) (i := absm i 8)
  have htr := tkW_range (t := entM 100 [Obj.mk 2 0 l]) hL w (absm i 8)
  have f3 := fun s => rf_caps_Of _ htr.1 htr.2 s
  simp only at hsh hm f1 f2
  generalize hp ++ more = H at *
  generalize madeH H.length (entM 100 [Obj.mk 2 0 l]) (lnM [Obj.mk 2 0 l]) w' S X = mh at *
  refine ⟨⟨[], H ++ mh⟩, ?_⟩
  simp only [List.map_cons, List.map_nil, Obj.v, lnV] at *
  -- what is told
  have hsl : ∀ x, slE (entM 100 [Obj.mk 2 0 l]) w (absm i 8) x = mayE w 2 x := by
    intro x
    unfold slE
    rw [if_neg (by omega), if_neg (by omega), nm1]
    split
    · rename_i h; exact h.symm
    · rfl
  obtain ⟨q, hq⟩ : ∃ q : Nat, absm i 8 = q := ⟨(absm i 8).toNat, by omega⟩
  have hq8 : q < 8 := by omega
  have hx := map_get8 hl8 hq8
  have hxr := hl _ (getD_mem (l := l) (i := q) (by omega) 0)
  have hsw : mayE w 2 1 = 0 → slW (entM 100 [Obj.mk 2 0 l]) (lnM [Obj.mk 2 0 l]) w (absm i 8) 1 = l.getD q 0 := by
    intro h
    unfold slW
    rw [hsl, if_pos h, nm2, nm3, hq, Int.toNat_natCast]
  have hcE : cpE (entM 100 [Obj.mk 2 0 l]) w (absm i 8) 0 = mayE w 2 2 := by
    unfold cpE
    rw [hsl]
    split
    · rename_i h; simp [h]
    · rfl
  have hcI : cpI (entM 100 [Obj.mk 2 0 l]) w (absm i 8) 0 = 0 := by
    unfold cpI
    rw [nm2]
    simp
  rw [hcE, hcI] at f1
  have htE : tkE (entM 100 [Obj.mk 2 0 l]) (lnM [Obj.mk 2 0 l]) w (absm i 8) = mayE w 2 1 := by
    unfold tkE
    rw [hsl]
    split
    · rename_i h
      rw [h]
      split
      · rfl
      · rename_i hf
        unfold tkF at hf
        rw [hsw h] at hf ⊢
        simp only [Bool.or_eq_true, decide_eq_true_eq, not_or, Bool.not_eq_false] at hf
        exact (dim_read hf.1).1
    · rfl
  have htW : tkW (entM 100 [Obj.mk 2 0 l]) (lnM [Obj.mk 2 0 l]) w (absm i 8) = if mayE w 2 1 = 0 then if (capOf (l.getD q 0)).may = false ∨ mayE w 2 4 = 0 then l.getD q 0 else dimW (l.getD q 0) 1 0 else 0 := by
    unfold tkW
    rw [hsl]
    split
    · rename_i h
      unfold tkF
      rw [hsw h]
      by_cases a1 : (capOf (l.getD q 0)).may = false
      · simp [a1]
      · by_cases a2 : mayE w 2 4 = 0
        · simp [a2]
        · simp [a1, a2]
    · rfl
  rw [htE, htW] at f2
  simp only [htW] at f3
  have hm11 := (hm1 1).trans hrt.1
  have hm22 := (hm1 2).trans hrt.2.1
  have hm44 := (hm1 4).trans hrt.2.2
  rw [hq] at f1 f2 hv2
  have g1 := dim_read (w := l.getD q 0)
  have g2 := fun s => rf_caps_Within (dimW (l.getD q 0) 1 0) (l.getD q 0) (dimW_range _ _ _).1 (dimW_range _ _ _).2 hxr.1 hxr.2 s
  have d1 : (0 : Int) ≤ q := by omega
  have d2 : (q : Int) < 8 := by omega
  have g3 := with_dim (w := l.getD q 0) (r := 1) (b := 0)
  have g4 := dim_ok (w := l.getD q 0) (r := 1) (b := 0)
  have f4 : (∀ s, rf D f_caps_Of [.int .u64 0] s = some (.tup [.agg 40 [.int .i64 0, .int .i64 0, .int .i64 0, .int .i64 0, .int .i64 0], .bool false], s)) := fun s => rf_caps_Of 0 (by omega) (by omega) s
  have f5 := fun s => rf_caps_Of (l.getD q 0) hxr.1 hxr.2 s
  have f6 : dimE (l.getD q 0) 1 0 = 0 → ∀ s, rf D f_caps_Of [.int .u64 (dimW (l.getD q 0) 1 0)] s = some (.tup [(dimC (l.getD q 0) 1 0).v, .bool true], s) := by
    intro h s
    obtain ⟨_, a2, a3⟩ := g4 h
    have := rf_caps_Of (dimW (l.getD q 0) 1 0) (dimW_range _ _ _).1 (dimW_range _ _ _).2 s
    rw [this, a3, capOf_word a2, capsOf_word a2, (may_iff _).2 a2]
  clear g4 htw htr f3 hsl hsw hcE hcI htE htW nm1 nm2 nm3 hm1 hP hL hrs hoo hok hwl
  generalize (capOf (l.getD q 0)).may = mm at *
  generalize capsOf (l.getD q 0) = cc at *
  generalize dimC (l.getD q 0) 1 0 = dc at *
  generalize dimW (l.getD q 0) 1 0 = dw at *
  generalize withB dw (l.getD q 0) = wb at *
  generalize l.getD q 0 = x at *
  generalize mayE w 2 1 = m1 at *
  generalize mayE w 2 2 = m2 at *
  generalize mayE w 2 4 = m4 at *
  generalize absm r 16 = kk at *
  generalize e1 : iand .i64 kk 1 = r1 at *
  generalize e2 : iand .i64 kk 2 = r2 at *
  generalize e4 : iand .i64 kk 4 = r4 at *
  simp only [Cap.v] at f5 f6
  rw [rf_o D_steadfastlaw17_NodesRights rfl]
  simp only [go_sem, hsh, List.replicate]
  simp only [go_sem, hm, q1, hv1]
  simp only [go_sem, q2, hv2, hcw]
  simp only [go_sem, f1, f2, e2, e1]
  by_cases c1 : r1 = 0
  · have c2 : ¬ m1 = 0 := fun h => (hm11.1 h) c1
    by_cases c3 : r2 = 0
    · have c4 : ¬ m2 = 0 := fun h => (hm22.1 h) c3
      simp only [c2, if_false]
      simp only [go_sem, c1, c2, c3, c4, f4]
    · have c4 : m2 = 0 := hm22.2 c3
      simp only [c2, if_false]
      simp only [go_sem, c1, c2, c3, c4, f4]
  · have c2 : m1 = 0 := hm11.2 c1
    simp only [c2, if_true]
    by_cases c5 : r4 = 0
    · have c6 : ¬ m4 = 0 := fun h => (hm44.1 h) c5
      cases mm
      · simp only [c6, or_false, if_true]
        by_cases c3 : r2 = 0
        · have c4 : ¬ m2 = 0 := fun h => (hm22.1 h) c3
          simp only [go_sem, c1, c3, c4, f5, e4, c5, d1, d2]
          rw [Int.toNat_natCast]
          simp only [go_sem, hx]
        · have c4 : m2 = 0 := hm22.2 c3
          simp only [go_sem, c1, c3, c4, f5, e4, c5, d1, d2]
          rw [Int.toNat_natCast]
          simp only [go_sem, hx]
      · obtain ⟨a1, a2⟩ := g1 rfl
        have f6 := f6 a1
        have g3 := g3 a1
        rw [g3] at g2
        simp only [c6, or_false, Bool.true_eq_false, if_false]
        by_cases c3 : r2 = 0
        · have c4 : ¬ m2 = 0 := fun h => (hm22.1 h) c3
          simp only [go_sem, c1, c3, c4, f6, e4, c5, d1, d2, a2]
          rw [Int.toNat_natCast]
          simp only [go_sem, hx, g2]
        · have c4 : m2 = 0 := hm22.2 c3
          simp only [go_sem, c1, c3, c4, f6, e4, c5, d1, d2, a2]
          rw [Int.toNat_natCast]
          simp only [go_sem, hx, g2]
    · have c6 : m4 = 0 := hm44.2 c5
      simp only [c6, or_true, if_true]
      by_cases c3 : r2 = 0
      · have c4 : ¬ m2 = 0 := fun h => (hm22.1 h) c3
        simp only [go_sem, c1, c3, c4, f5, e4, c5, d1, d2]
        rw [Int.toNat_natCast]
        simp only [go_sem, hx]
      · have c4 : m2 = 0 := hm22.2 c3
        simp only [go_sem, c1, c3, c4, f5, e4, c5, d1, d2]
        rw [Int.toNat_natCast]
        simp only [go_sem, hx]
end Go.Proofs.Ytnffmibpblibdaa
