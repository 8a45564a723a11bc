/-
  YtpbpgbedkmbfkaaT4: what functions of the program compute (BnkA, BnkB, FctB, BnkC, BnkD).
-/
import Derived.Test.YtpbpgbedkmbfkaaT1
import Derived.Test.YtpbpgbedkmbfkaaT3
set_option maxRecDepth 100000
namespace Go.Proofs.Ytpbpgbedkmbfkaa
open Go.Ab

def openB (e : Ent) : Bool := decide (e.kind = 0) && decide (e.ver < 16777215)
theorem rf_entry_Open (k v l : Int) (s : St) : rf D f_entry_Open [.agg 42 [.int .i64 k, .int .i64 v, .int .i64 l]] s = some (.bool (openB ⟨k, v, l⟩), s) := by
  unfold openB
  rw [rf_o D_entry_Open rfl]
  by_cases h1 : k = 0
  · simp [go_sem, h1]
  · simp [go_sem, h1]
/-- The first of a table that is open. -/
def nxt (t : Nat → Ent) : Option Nat := (List.range 49).find? fun i => openB (t i)
theorem nxt_some {t : Nat → Ent} {n : Nat} (h : nxt t = some n) : n < 49 ∧ openB (t n) = true ∧ ∀ j, j < n → openB (t j) = false := by
  unfold nxt at h
  rw [List.find?_range_eq_some] at h
  simp only [Bool.not_eq_true'] at h
  exact ⟨by simpa using h.2.1, h.1, h.2.2⟩
theorem nxt_none {t : Nat → Ent} (h : nxt t = none) : ∀ j, j < 49 → openB (t j) = false := by
  unfold nxt at h
  rw [List.find?_eq_none] at h
  intro j hj
  simpa using h j (by simpa using hj)
theorem next_none {s : St} {t : Nat → Ent} (h : nxt t = none) :
    rc D s.loc.length (.loop [17, 18] b_objects_Store_Next_0) [(17, tabV t), (18, .int .i64 0)] s = some (.exit 1, [(17, tabV t), (18, .int .i64 49), (19, .bool false)], s) := by
  have hn := nxt_none h
  refine loop_runs (fun x : Nat => [(17, tabV t), (18, .int .i64 x)]) (fun _ => s) (fun _ => _) (fun x => 49 - x) (fun x => x ≤ 49) 0 ?_ (Nat.zero_le _) rfl rfl
  intro i hi
  by_cases c1 : i < 49
  · left
    have d1 : (i : Int) < 49 := by omega
    have d2 : (0 : Int) ≤ i := by omega
    have d4 : IntKind.i64.wrap ((i : Int) + 1) = (i : Int) + 1 := i64_id (by omega) (by omega)
    have ho := fun s => rf_entry_Open (t i).kind (t i).ver (t i).line s
    have ht := tab_get (f := fun i => (t i).v) c1
    rw [show (⟨(t i).kind, (t i).ver, (t i).line⟩ : Ent) = t i from rfl, hn i c1] at ho
    refine ⟨i + 1, by omega, by omega, rfl, ?_⟩
    simp only [tabV, Ent.v] at *
    generalize tab 49 (fun i => V.agg 42 [.int .i64 (t i).kind, .int .i64 (t i).ver, .int .i64 (t i).line]) = T at *
    simp only [go_sem, b_objects_Store_Next_0, d1, d2]
    rw [Int.toNat_natCast]
    simp only [go_sem, ht, ho, d4]
    rfl
  · right
    have : i = 49 := by omega
    subst this
    simp only [go_sem, b_objects_Store_Next_0]
theorem next_some {s : St} {t : Nat → Ent} {n : Nat} (h : nxt t = some n) :
    rc D s.loc.length (.loop [17, 18] b_objects_Store_Next_0) [(17, tabV t), (18, .int .i64 0)] s = some (.ret, [(4, .int .i64 n), (5, .int .i64 (t n).ver), (6, .int .i64 0)], ⟨s.loc ++ [.rw (t n).v], s.hp⟩) := by
  obtain ⟨hn, h1, h2⟩ := nxt_some h
  refine loop_runs (fun x : Nat => [(17, tabV t), (18, .int .i64 x)]) (fun _ => s) (fun _ => _) (fun x => n - x) (fun x => x ≤ n) 0 ?_ (Nat.zero_le _) rfl rfl
  intro i hi
  have c1 : i < 49 := by omega
  have d1 : (i : Int) < 49 := by omega
  have d2 : (0 : Int) ≤ i := by omega
  have d4 : IntKind.i64.wrap ((i : Int) + 1) = (i : Int) + 1 := i64_id (by omega) (by omega)
  have ho := fun s => rf_entry_Open (t i).kind (t i).ver (t i).line s
  have ht := tab_get (f := fun i => (t i).v) c1
  rw [show (⟨(t i).kind, (t i).ver, (t i).line⟩ : Ent) = t i from rfl] at ho
  by_cases c2 : i < n
  · left
    rw [h2 i c2] at ho
    refine ⟨i + 1, by omega, by omega, rfl, ?_⟩
    simp only [tabV, Ent.v] at *
    generalize tab 49 (fun i => V.agg 42 [.int .i64 (t i).kind, .int .i64 (t i).ver, .int .i64 (t i).line]) = T at *
    simp only [go_sem, b_objects_Store_Next_0, d1, d2]
    rw [Int.toNat_natCast]
    simp only [go_sem, ht, ho, d4]
    rfl
  · right
    have : i = n := by omega
    subst this
    rw [h1] at ho
    simp only [tabV, Ent.v] at *
    generalize tab 49 (fun i => V.agg 42 [.int .i64 (t i).kind, .int .i64 (t i).ver, .int .i64 (t i).line]) = T at *
    simp only [go_sem, b_objects_Store_Next_0, d1, d2]
    rw [Int.toNat_natCast]
    simp only [go_sem, ht, ho]
def kindOk (k : Int) : Prop := k = 1 ∨ k = 2 ∨ k = 4
instance (k : Int) : Decidable (kindOk k) := inferInstanceAs (Decidable (k = 1 ∨ k = 2 ∨ k = 4))
/-- Which would be made: its number, its version, the error. -/
def nxI (t : Nat → Ent) (k : Int) : Int := if kindOk k then match nxt t with | some n => n | none => 0 else 0
def nxV (t : Nat → Ent) (k : Int) : Int := if kindOk k then match nxt t with | some n => (t n).ver | none => 0 else 0
def nxE (t : Nat → Ent) (k : Int) : Int := if kindOk k then match nxt t with | some _ => 0 | none => 34 else 1
theorem rf_Next {s : St} {a : Nat} {x : StF} {sh : Nat → Bool} (h : s.hp[a]? = some (.rw (x.v sh))) (k : Int) :
    rf D f_objects_Store_Next [.ptr (.hp a) [] 43, .int .i64 k] s = some (.tup [.int .i64 (nxI x.work k), .int .i64 (nxV x.work k), .int .i64 (nxE x.work k)], s) := by
  obtain ⟨m, fr, work, base, dir, mark, marked⟩ := x
  simp only [StF.v] at *
  unfold nxI nxV nxE
  by_cases hk : kindOk k
  · simp only [hk, if_true]
    cases hn : nxt work with
    | none =>
      have hl := next_none (s := s) hn
      simp only
      generalize tabV work = T at *
      rw [rf_o D_objects_Store_Next rfl]
      by_cases k1 : k = 1
      · simp only [go_sem, k1, h, hl]
      · by_cases k2 : k = 2
        · simp only [go_sem, k1, k2, h, hl]
        · have k4 : k = 4 := by unfold kindOk at hk; omega
          simp only [go_sem, k1, k2, k4, h, hl]
    | some n =>
      have hl := next_some (s := s) hn
      simp only
      generalize tabV work = T at *
      simp only [Ent.v] at hl
      rw [rf_o D_objects_Store_Next rfl]
      by_cases k1 : k = 1
      · simp only [go_sem, k1, h, hl]
      · by_cases k2 : k = 2
        · simp only [go_sem, k1, k2, h, hl]
        · have k4 : k = 4 := by unfold kindOk at hk; omega
          simp only [go_sem, k1, k2, k4, h, hl]
  · simp only [hk, if_false]
    have k1 : ¬ k = 1 := fun e => hk (.inl e)
    have k2 : ¬ k = 2 := fun e => hk (.inr (.inl e))
    have k4 : ¬ k = 4 := fun e => hk (.inr (.inr e))
    rw [rf_o D_objects_Store_Next rfl]
    simp only [go_sem, k1, k2, k4]
theorem rf_by (b : Int) (h0 : 0 ≤ b) (h1 : b ≤ 18446744073709551615) (s : St) : rf D f_bank_by [.int .u64 b] s = some (.int .i64 (mayE b 5 2), s) := by
  have hm := fun s => rf_caps_May b 5 2 h0 h1 s
  rw [rf_o D_bank_by rfl]
  simp only [go_sem, hm]
/-- What would be made: its number, its capability, the error. -/
def mkOk (t : Nat → Ent) (b k : Int) : Prop := mayE b 5 2 = 0 ∧ nxE t k = 0
instance (t : Nat → Ent) (b k : Int) : Decidable (mkOk t b k) := inferInstanceAs (Decidable (_ ∧ _))
def mkC (t : Nat → Ent) (k : Int) : Cap := ⟨k, 15, nxI t k, nxV t k, 0⟩
def mkE (t : Nat → Ent) (b k : Int) : Int := if mayE b 5 2 = 0 then if nxE t k = 0 then capE (mkC t k) else nxE t k else mayE b 5 2
def mkI (t : Nat → Ent) (b k : Int) : Int := if mayE b 5 2 = 0 then if nxE t k = 0 then nxI t k else 0 else 0
def mkW (t : Nat → Ent) (b k : Int) : Int := if mayE b 5 2 = 0 then if nxE t k = 0 then capWord (mkC t k) else 0 else 0
theorem rf_bMake {s : St} {a : Nat} {x : StF} {sh : Nat → Bool} (h : s.hp[a]? = some (.rw (x.v sh))) (b k : Int) (h0 : 0 ≤ b) (h1 : b ≤ 18446744073709551615) :
    rf D f_bank_Make [.ptr (.hp a) [] 43, .int .u64 b, .int .i64 k] s = some (.tup [.int .i64 (mkI x.work b k), .int .u64 (mkW x.work b k), .int .i64 (mkE x.work b k)], s) := by
  have hb := fun s => rf_by b h0 h1 s
  have hn := rf_Next (s := s) h k
  have hw := fun s => rf_caps_Word (mkC x.work k) s
  unfold mkI mkW mkE
  generalize capWord (mkC x.work k) = cw at *
  generalize capE (mkC x.work k) = ce at *
  simp only [mkC, Cap.v] at hw
  generalize nxI x.work k = ni at *
  generalize nxV x.work k = nv at *
  generalize nxE x.work k = ne at *
  generalize mayE b 5 2 = me at *
  rw [rf_o D_bank_Make rfl]
  by_cases e1 : me = 0
  · by_cases e2 : ne = 0
    · simp only [go_sem, hb, hn, hw, e1, e2, if_true]
    · simp only [go_sem, hb, hn, e1, e2, if_true, if_false]
  · simp only [go_sem, hb, e1, if_false]
/-- What would end: its number, the error. -/
def edE (t : Nat → Ent) (b c : Int) : Int := if mayE b 5 2 = 0 then if (capOf c).may = false then 31 else if (capsOf c).kind ≠ 1 ∧ (capsOf c).kind ≠ 2 then 31 else if iand .i64 (capsOf c).rights 2 = 0 then 32 else nmE t c else mayE b 5 2
def edI (t : Nat → Ent) (b c : Int) : Int := if edE t b c = 0 then nmId t c else 0
theorem nmId_no {t : Nat → Ent} {c : Int} (h : nmE t c ≠ 0) : nmId t c = 0 := by unfold nmId; rw [if_neg h]
theorem rf_bEnd {s : St} {a : Nat} {x : StF} {sh : Nat → Bool} (h : s.hp[a]? = some (.rw (x.v sh))) (b c : Int) (h0 : 0 ≤ b) (h1 : b ≤ 18446744073709551615) (g0 : 0 ≤ c) (g1 : c ≤ 18446744073709551615) :
    rf D f_bank_End [.ptr (.hp a) [] 43, .int .u64 b, .int .u64 c] s = some (.tup [.int .i64 (edI x.work b c), .int .i64 (edE x.work b c)], s) := by
  have hb := fun s => rf_by b h0 h1 s
  have hc := fun s => rf_caps_Of c g0 g1 s
  have hn := fun L => rf_Names (s := ⟨s.loc ++ L, s.hp⟩) h c g0 g1
  have hno := nmId_no (t := x.work) (c := c)
  unfold edI edE
  generalize (capOf c).may = m at *
  generalize capsOf c = y at *
  generalize nmE x.work c = ne at *
  generalize nmId x.work c = ni at *
  generalize mayE b 5 2 = me at *
  simp only [Cap.v] at hc
  rw [rf_o D_bank_End rfl]
  by_cases e1 : me = 0
  · cases m
    · simp only [go_sem, hb, hc, e1, if_true]
    · by_cases e2 : y.kind = 1
      · by_cases e3 : iand .i64 y.rights 2 = 0
        · simp [go_sem, hb, hc, e1, e2, e3]
        · by_cases e4 : ne = 0
          · simp [go_sem, hb, hc, hn, e1, e2, e3, e4]
          · simp [go_sem, hb, hc, hn, e1, e2, e3, e4, hno e4]
      · by_cases e2' : y.kind = 2
        · by_cases e3 : iand .i64 y.rights 2 = 0
          · simp [go_sem, hb, hc, e1, e2', e3]
          · by_cases e4 : ne = 0
            · simp [go_sem, hb, hc, hn, e1, e2', e3, e4]
            · simp [go_sem, hb, hc, hn, e1, e2', e3, e4, hno e4]
        · simp [go_sem, hb, hc, e1, e2, e2']
  · simp [go_sem, hb, e1]
theorem rf_rbEnd {s : St} {a : Nat} {x : RstF} (h : s.hp[a]? = some (.rw x.v)) (b c : Int) (h0 : 0 ≤ b) (h1 : b ≤ 18446744073709551615) (g0 : 0 ≤ c) (g1 : c ≤ 18446744073709551615) :
    rf D f_steadfastref18_End [.ptr (.hp a) [] 31, .int .u64 b, .int .u64 c] s = some (.tup [.int .i64 (edI x.work b c), .int .i64 (edE x.work b c)], s) := by
  have hb := fun s => rf_ref07_May b 5 2 h0 h1 (by decide) (by decide) s
  have hc := fun s => rf_ref07_Of c g0 g1 s
  have hn := fun L => rf_rNames (s := ⟨s.loc ++ L, s.hp⟩) h c g0 g1
  have hno := nmId_no (t := x.work) (c := c)
  unfold edI edE
  generalize (capOf c).may = m at *
  generalize capsOf c = y at *
  generalize nmE x.work c = ne at *
  generalize nmId x.work c = ni at *
  generalize mayE b 5 2 = me at *
  simp only [Cap.v] at hc
  rw [rf_o D_steadfastref18_End rfl]
  by_cases e1 : me = 0
  · cases m
    · simp only [go_sem, hb, hc, e1, if_true]
    · by_cases e2 : y.kind = 1
      · by_cases e3 : iand .i64 y.rights 2 = 0
        · simp [go_sem, hb, hc, e1, e2, e3]
        · by_cases e4 : ne = 0
          · simp [go_sem, hb, hc, hn, e1, e2, e3, e4]
          · simp [go_sem, hb, hc, hn, e1, e2, e3, e4, hno e4]
      · by_cases e2' : y.kind = 2
        · by_cases e3 : iand .i64 y.rights 2 = 0
          · simp [go_sem, hb, hc, e1, e2', e3]
          · by_cases e4 : ne = 0
            · simp [go_sem, hb, hc, hn, e1, e2', e3, e4]
            · simp [go_sem, hb, hc, hn, e1, e2', e3, e4, hno e4]
        · simp [go_sem, hb, hc, e1, e2, e2']
  · simp [go_sem, hb, e1]
end Go.Proofs.Ytpbpgbedkmbfkaa
namespace Go.Proofs.Ytpbpgbedkmbfkaa
open Go.Ab

def endV (v : Int) : Int := if 1 ≤ 16777215 - v then v + 1 else 16777215
theorem rf_entry_End (k v l : Int) (hk : k ≠ 0) (h0 : 0 ≤ v) (h1 : v ≤ 16777215) (s : St) : rf D f_entry_End [.agg 42 [.int .i64 k, .int .i64 v, .int .i64 l]] s = some (.tup [.agg 42 [.int .i64 0, .int .i64 (endV v), .int .i64 0], .int .i64 0], s) := by
  have e1 : IntKind.i64.wrap (16777215 - v) = 16777215 - v := i64_id (by omega) (by omega)
  unfold endV
  rw [rf_o D_entry_End rfl]
  by_cases h : 1 ≤ 16777215 - v
  · have e2 : IntKind.i64.wrap (v + 1) = v + 1 := i64_id (by omega) (by omega)
    have e3 : min (1 : Int) (16777215 - v) = 1 := by omega
    simp only [go_sem, hk, e1, e2, e3, h, if_true]
  · have e2 : IntKind.i64.wrap (v + (16777215 - v)) = 16777215 := by rw [i64_id (by omega) (by omega)]; omega
    have e3 : min (1 : Int) (16777215 - v) = 16777215 - v := by omega
    simp only [go_sem, hk, e1, e2, e3, h, if_false]
theorem addL_in {t : Nat → Ent} {f : Nat → Bool} : ∀ {n i : Nat}, i < n → (t i).kind ≠ 0 → addL t f n (t i).line.toNat = true
  | 0, _, h, _ => by omega
  | n + 1, i, h, hk => by
    simp only [addL]
    by_cases hi : i = n
    · subst hi
      rw [if_neg hk, upd_self]
    · have ih := addL_in (t := t) (f := f) (n := n) (i := i) (by omega) hk
      split
      · exact ih
      · by_cases he : (t i).line.toNat = (t n).line.toNat
        · rw [he, upd_self]
        · rw [upd_ne he]; exact ih
def updE (t : Nat → Ent) (i : Nat) (e : Ent) : Nat → Ent := fun j => if j = i then e else t j
theorem tab_updE {t : Nat → Ent} {i : Nat} {e : Ent} : tab 49 (upd (fun j => (t j).v) i e.v) = tab 49 fun j => (updE t i e j).v := by
  apply tab_congr
  intro j _
  unfold upd updE
  split <;> rfl
theorem rf_own {s : St} {a : Nat} {x : StF} {sh : Nat → Bool} (h : s.hp[a]? = some (.rw (x.v sh))) (i : Nat) (hi : i < 49) (hl : 0 ≤ (x.work i).line ∧ (x.work i).line < 1024) :
    rf D f_objects_Store_own [.ptr (.hp a) [] 43, .int .i64 i] s = some (.bool (!sh (x.work i).line.toNat), s) := by
  obtain ⟨m, fr, work, base, dir, mark, marked⟩ := x
  have g1 := tab_get (f := fun i => (work i).v) hi
  simp only at hl
  obtain ⟨q, hq⟩ : ∃ q : Nat, (work i).line = q := ⟨(work i).line.toNat, by omega⟩
  have g2 := tab_get (n := 1024) (f := fun j => V.bool (sh j)) (show q < 1024 by omega)
  have d1 : (i : Int) < 49 := by omega
  have d2 : (0 : Int) ≤ i := by omega
  have d3 : (q : Int) < 1024 := by omega
  have d4 : (0 : Int) ≤ q := by omega
  simp only [StF.v, tabV, shV, Ent.v] at *
  rw [hq] at g1
  simp only [hq, Int.toNat_natCast]
  generalize tab 49 (fun i => V.agg 42 [.int .i64 (work i).kind, .int .i64 (work i).ver, .int .i64 (work i).line]) = T at *
  generalize tab 1024 (fun j => V.bool (sh j)) = U at *
  rw [rf_o D_objects_Store_own rfl]
  simp only [go_sem, h, d1, d2]
  rw [Int.toNat_natCast]
  simp only [go_sem, g1, h, d3, d4]
  rw [Int.toNat_natCast]
  simp only [go_sem, g2]
theorem rf_oEnd {s : St} {a : Nat} {x : StF} {sh : Nat → Bool} (h : s.hp[a]? = some (.rw (x.v sh))) (i : Nat) (hi : i < 49) (hk : (x.work i).kind ≠ 0) (hv : 0 ≤ (x.work i).ver ∧ (x.work i).ver ≤ 16777215) (hl : 0 ≤ (x.work i).line ∧ (x.work i).line < 1024) (hsh : sh (x.work i).line.toNat = true) :
    rf D f_objects_Store_End [.ptr (.hp a) [] 43, .int .i64 i] s = some (.int .i64 0, ⟨s.loc, s.hp.set a (.rw (StF.v { x with work := updE x.work i ⟨0, endV (x.work i).ver, 0⟩ } sh))⟩) := by
  have his := rf_is_s (s := s) h i
  have how := rf_own (s := s) h i hi hl
  rw [hsh] at how
  have hge : gE x.work (i : Int) = 0 := by
    unfold gE
    rw [if_neg (by omega), Int.toNat_natCast, if_neg hk]
  rw [hge] at his
  obtain ⟨m, fr, work, base, dir, mark, marked⟩ := x
  have hee := fun s => rf_entry_End (work i).kind (work i).ver (work i).line hk hv.1 hv.2 s
  have g1 := tab_get (f := fun i => (work i).v) hi
  have d1 : (i : Int) < 49 := by omega
  have d2 : (0 : Int) ≤ i := by omega
  have hte := tab_updE (t := work) (i := i) (e := ⟨0, endV (work i).ver, 0⟩)
  rw [← tab_set] at hte
  have hset : ∀ b, (s.hp.set a b)[a]? = some b := fun b => List.getElem?_set_self (List.getElem?_eq_some_iff.1 h).1
  simp only [StF.v, tabV, Ent.v] at *
  rw [← hte]
  generalize endV (work i).ver = ev at *
  generalize tab 49 (fun i => V.agg 42 [.int .i64 (work i).kind, .int .i64 (work i).ver, .int .i64 (work i).line]) = T at *
  generalize shV sh = U at *
  rw [rf_o D_objects_Store_End rfl]
  simp only [go_sem, his, how, h, d1, d2]
  rw [Int.toNat_natCast]
  simp only [go_sem, g1, hee, h, hset]
/-! ### The examples -/
theorem exb_w1 : capWord ⟨5, 1, 0, 0, 0⟩ = 21 := by kernel_rfl
theorem exb_w2 : capWord ⟨5, 3, 0, 0, 0⟩ = 53 := by kernel_rfl
theorem exb_1 : mkE (entM 16777216 []) 0 1 = 31 := by kernel_rfl
theorem exb_2 : mkE (entM 16777216 []) 21 1 = 32 := by kernel_rfl
theorem exb_3 : edE (entM 16777216 []) 53 0 = 31 := by kernel_rfl
theorem exb_4 : mkI (entM 16777216 []) 53 1 = 0 := by kernel_rfl
theorem exb_5 : mkW (entM 16777216 []) 53 1 = 241 := by kernel_rfl
theorem exb_6 : mkE (entM 16777216 []) 53 1 = 0 := by kernel_rfl
theorem rf_shown18 (s : St) : ∃ more, rf D f_steadfastlaw18_shown [] s = some (.bool true, ⟨s.loc, s.hp ++ more⟩) := by
  have w1 := fun s => rf_ref07_Word ⟨5, 1, 0, 0, 0⟩ s
  have w2 := fun s => rf_ref07_Word ⟨5, 3, 0, 0, 0⟩ s
  rw [exb_w1] at w1
  rw [exb_w2] at w2
  have hrs : RS s 26 .nils (([] : List Obj).map Obj.v) := .inl ⟨rfl, rfl⟩
  obtain ⟨w, S, X, _, _, _, _, hm⟩ := rf_made18 hrs
  have hP := (prgM (H := s.hp) (t := entM 16777216 []) (ls := lnM []) (w := w) (S := S) (X := X) (fun i _ hk => entM_line hk)).st
  have f1 := fun L => rf_bMake (s := ⟨s.loc ++ L, s.hp ++ madeH s.hp.length (entM 16777216 []) (lnM []) w S X⟩) hP 0 1 (by omega) (by omega)
  have f2 := fun L => rf_bMake (s := ⟨s.loc ++ L, s.hp ++ madeH s.hp.length (entM 16777216 []) (lnM []) w S X⟩) hP 21 1 (by omega) (by omega)
  have f3 := fun L => rf_bEnd (s := ⟨s.loc ++ L, s.hp ++ madeH s.hp.length (entM 16777216 []) (lnM []) w S X⟩) hP 53 0 (by omega) (by omega) (by omega) (by omega)
  have f4 := fun L => rf_bMake (s := ⟨s.loc ++ L, s.hp ++ madeH s.hp.length (entM 16777216 []) (lnM []) w S X⟩) hP 53 1 (by omega) (by omega)
  have f1' := rf_bMake (s := ⟨s.loc, s.hp ++ madeH s.hp.length (entM 16777216 []) (lnM []) w S X⟩) hP 0 1 (by omega) (by omega)
  have f2' := rf_bMake (s := ⟨s.loc, s.hp ++ madeH s.hp.length (entM 16777216 []) (lnM []) w S X⟩) hP 21 1 (by omega) (by omega)
  have f3' := rf_bEnd (s := ⟨s.loc, s.hp ++ madeH s.hp.length (entM 16777216 []) (lnM []) w S X⟩) hP 53 0 (by omega) (by omega) (by omega) (by omega)
  have f4' := rf_bMake (s := ⟨s.loc, s.hp ++ madeH s.hp.length (entM 16777216 []) (lnM []) w S X⟩) hP 53 1 (by omega) (by omega)
  simp only [exb_1, exb_2, exb_3, exb_4, exb_5, exb_6] at f1 f2 f3 f4 f1' f2' f3' f4'
  refine ⟨madeH s.hp.length (entM 16777216 []) (lnM []) w S X, ?_⟩
  generalize madeH s.hp.length (entM 16777216 []) (lnM []) w S X = mh at *
  generalize mkI (entM 16777216 []) 0 1 = i1 at *
  generalize mkI (entM 16777216 []) 21 1 = i2 at *
  generalize mkW (entM 16777216 []) 0 1 = u1 at *
  generalize mkW (entM 16777216 []) 21 1 = u2 at *
  generalize edI (entM 16777216 []) 53 0 = i3 at *
  simp only [Cap.v] at w1 w2
  rw [rf_o D_steadfastlaw18_shown rfl]
  simp only [go_sem, hm]
  simp only [go_sem, w1, w2, f1', f2', f3', f4']
end Go.Proofs.Ytpbpgbedkmbfkaa
namespace Go.Proofs.Ytpbpgbedkmbfkaa
open Go.Ab

theorem open_objs {hp : List Blk} {v : V} (h : (Sh.sl 28 (.st 26 [.int .i64, .int .i64, .arr 24 8 (.int .u64)])).Fits hp v) :
    ∃ lo : List Obj, (∀ L more, RS ⟨L, hp ++ more⟩ 26 v (lo.map Obj.v)) ∧ (∀ o ∈ lo, OkO o) := by
  obtain ⟨l, hrs, hlt, hlen, hfit⟩ := rs_of_fits h
  obtain ⟨lo, rfl, hlo⟩ := map_of (f := Obj.v) (fun x hx => obj_of (hfit x hx))
  exact ⟨lo, fun L more => hrs.more ⟨by simp, List.prefix_append _ _⟩, fun o ho => (hlo o ho).1⟩
theorem capOf_word {c : Cap} (h : c.Ok) : capOf c.word = c := by
  have h1 := h.k; have h2 := h.r; have h3 := h.i; have h4 := h.v; have h5 := h.b
  obtain ⟨k, r, i, v, b⟩ := c
  simp only at h1 h2 h3 h4 h5
  simp only [capOf, Cap.word, Cap.mk.injEq]
  omega
theorem capsOf_word {c : Cap} (h : c.Ok) : capsOf c.word = c := by
  unfold capsOf
  rw [capOf_word h, if_pos ((may_iff c).2 h)]
theorem word_range {c : Cap} (h : c.Ok) : 0 ≤ c.word ∧ c.word ≤ 18446744073709551615 := by
  have h1 := h.k; have h2 := h.r; have h3 := h.i; have h4 := h.v; have h5 := h.b
  unfold Cap.word
  omega
end Go.Proofs.Ytpbpgbedkmbfkaa
namespace Go.Proofs.Ytpbpgbedkmbfkaa
open Go.Ab

theorem names_none (v i c : Int) : entryNames 0 v i c ≠ 0 := by
  unfold entryNames
  split
  · decide
  · split
    · decide
    · split
      · decide
      · simp
theorem nm_some {t : Nat → Ent} {c : Int} (h : nmE t c = 0) : (t (capsOf c).id.toNat).kind ≠ 0 := by
  intro hk
  unfold nmE at h
  rw [hk] at h
  exact names_none _ _ _ h
theorem ed_some {t : Nat → Ent} {b c : Int} (h : edE t b c = 0) : nmE t c = 0 ∧ ∀ t', edE t' b c = nmE t' c := by
  unfold edE at h ⊢
  by_cases e1 : mayE b 5 2 = 0
  · simp only [e1, if_true] at h ⊢
    by_cases e2 : (capOf c).may = false
    · simp only [e2, if_true] at h; cases h
    · simp only [e2, if_false] at h ⊢
      by_cases e3 : (capsOf c).kind ≠ 1 ∧ (capsOf c).kind ≠ 2
      · rw [if_pos e3] at h; cases h
      · rw [if_neg e3] at h
        simp only [if_neg e3]
        by_cases e4 : iand .i64 (capsOf c).rights 2 = 0
        · rw [if_pos e4] at h; cases h
        · rw [if_neg e4] at h
          simp only [if_neg e4]
          exact ⟨h, fun _ => by simp⟩
  · simp only [e1, if_false] at h
theorem law_BankEnds : ∀ hp vs, Sh.FitsL hp [(.sl 28 (.st 26 [(.int .i64), (.int .i64), (.arr 24 8 (.int .u64))])), (.int .u64), (.int .u64)] vs → ∃ s', rf D f_steadfastlaw18_BankEnds vs ⟨[], hp⟩ = some (.bool true, s') := by
  intro hp vs hf
  obtain ⟨v, y, z, rfl, h1, ⟨b, rfl, hb0, hb1⟩, ⟨c, rfl, hc0, hc1⟩⟩ := fits3 hf
  have hc0' : (0 : Int) ≤ c := hc0
  have hc1' : c ≤ 18446744073709551615 := hc1
  have hb0' : (0 : Int) ≤ b := hb0
  have hb1' : b ≤ 18446744073709551615 := hb1
  obtain ⟨lo, hrs, hlo⟩ := open_objs h1
  obtain ⟨more, hsh⟩ := rf_shown18 ⟨[], hp⟩
  obtain ⟨w, S, X, _, _, _, _, hm⟩ := rf_made18 (hrs [] more)
  have ht : ∀ i, i < 49 → (entM 16777216 lo i).kind ≠ 0 → (entM 16777216 lo i).line = 20 + i := fun i _ hk => entM_line hk
  have hr := fun i => entM_range (M := 16777216) (by omega) lo i
  have hP := (prgM (H := hp ++ more) (ls := lnM lo) (w := w) (S := S) (X := X) ht).st
  have hD := (docM (H := hp ++ more) (ls := lnM lo) (w := w) (S := S) (X := X) ht).st
  have f1 := fun L => rf_bEnd (s := ⟨L, (hp ++ more) ++ madeH (hp ++ more).length (entM 16777216 lo) (lnM lo) w S X⟩) hP b c hb0' hb1' hc0' hc1'
  have f2 := fun L => rf_rbEnd (s := ⟨L, (hp ++ more) ++ madeH (hp ++ more).length (entM 16777216 lo) (lnM lo) w S X⟩) hD b c hb0' hb1' hc0' hc1'
  have f3 := fun L => rf_Names (s := ⟨L, (hp ++ more) ++ madeH (hp ++ more).length (entM 16777216 lo) (lnM lo) w S X⟩) hP c hc0' hc1'
  simp only at hsh hm f1 f2 f3
  generalize hp ++ more = H at *
  generalize madeH H.length (entM 16777216 lo) (lnM lo) w S X = mh at *
  generalize entM 16777216 lo = t at *
  by_cases he : edE t b c = 0
  · obtain ⟨hn, hed⟩ := ed_some he
    have hid := capsOf_id c
    have hk := nm_some hn
    obtain ⟨i, hi⟩ : ∃ i : Nat, (capsOf c).id = i := ⟨(capsOf c).id.toNat, by omega⟩
    rw [hi, Int.toNat_natCast] at hk
    have hri := hr i
    have hli := ht i (by omega) hk
    have hshr : shOf t (fun _ => noEnt) false (t i).line.toNat = true := addL_in (show i < 49 by omega) hk
    have f4 := fun L => rf_oEnd (s := ⟨L, H ++ mh⟩) hP i (by omega) hk (by simp only; omega) (by simp only; omega) hshr
    have hset : ∀ b, ((H ++ mh).set (H.length + 7) b)[H.length + 7]? = some b := fun b => List.getElem?_set_self (List.getElem?_eq_some_iff.1 hP).1
    have f5 := fun L => rf_Names (s := ⟨L, (H ++ mh).set (H.length + 7) (.rw (StF.v { (⟨H.length + 1, H.length + 6, t, t, dir10, fun _ => noEnt, false⟩ : StF) with work := updE t i ⟨0, endV (t i).ver, 0⟩ } (shOf t (fun _ => noEnt) false)))⟩) (hset _) c hc0' hc1'
    have f6 := fun L => rf_bEnd (s := ⟨L, (H ++ mh).set (H.length + 7) (.rw (StF.v { (⟨H.length + 1, H.length + 6, t, t, dir10, fun _ => noEnt, false⟩ : StF) with work := updE t i ⟨0, endV (t i).ver, 0⟩ } (shOf t (fun _ => noEnt) false)))⟩) (hset _) b c hb0' hb1' hc0' hc1'
    have hnz : ¬ nmE (updE t i ⟨0, endV (t i).ver, 0⟩) c = 0 := by
      unfold nmE
      rw [hi, Int.toNat_natCast]
      simp only [updE, if_true]
      exact names_none _ _ _
    simp only [hed] at f6
    rw [edI, if_pos he, nmId, if_pos hn, hi] at f1 f2
    rw [nmId, if_pos hn, hi, hn] at f3
    rw [he] at f1 f2
    simp only at f4 f5
    generalize nmE (updE t i ⟨0, endV (t i).ver, 0⟩) c = ne at *
    generalize nmId (updE t i ⟨0, endV (t i).ver, 0⟩) c = ni at *
    generalize edI (updE t i ⟨0, endV (t i).ver, 0⟩) b c = ei at *
    generalize (H ++ mh).set (H.length + 7) _ = H2 at *
    refine ⟨⟨[], H2⟩, ?_⟩
    rw [rf_o D_steadfastlaw18_BankEnds rfl]
    simp only [go_sem, hsh, hm, f1, f2, f3, f4, f5, f6, hnz]
  · generalize edI t b c = ei at *
    generalize edE t b c = ee at *
    refine ⟨⟨[], H ++ mh⟩, ?_⟩
    rw [rf_o D_steadfastlaw18_BankEnds rfl]
    simp only [go_sem, hsh, hm, f1, f2, he]
/-! ### As long as numbers are free -/
def pg : Obj := ⟨1, 0, zl⟩
def bfS (h : Nat) : Nat → V
  | 0 => .sl (.loc 0) [] 0 0 (some 0) 26
  | i + 1 => .sl (.hp (h + i)) [] 0 (i + 1) none 26
def bfH : Nat → List Blk
  | 0 => []
  | i + 1 => List.replicate i .dead ++ [.rw (.agg 28 (List.replicate (i + 1) pg.v))]
theorem bfH_len : ∀ i, (bfH i).length = i
  | 0 => rfl
  | i + 1 => by simp [bfH]
theorem bf_app (H : List Blk) (i : Nat) (hi : i < 49) (base : Nat) : vappend base true 28 26 (bfS H.length i) (.sl (.loc 1) [] 0 1 (some 1) 26) ⟨[.rw (.agg 28 []), .rw (.agg 28 [pg.v])], H ++ bfH i⟩ =
    some (bfS H.length (i + 1), ⟨[.rw (.agg 28 []), .rw (.agg 28 [pg.v])], H ++ bfH (i + 1)⟩) := by
  have hy : (⟨[.rw (.agg 28 []), .rw (.agg 28 [pg.v])], H ++ bfH i⟩ : St).elems (.sl (.loc 1) [] 0 1 (some 1) 26) = some [pg.v] := elems_whole (t := 28) rfl rfl
  cases i with
  | zero =>
    have := app_full (base := base) (r := 28) (e := 26) (h := true) (s := ⟨[.rw (.agg 28 []), .rw (.agg 28 [pg.v])], H ++ bfH 0⟩) (a := .loc 0) (p := []) (o := 0) (n := 0) (c := 0) (y := .sl (.loc 1) [] 0 1 (some 1) 26) (old := []) (new := [pg.v])
      (.inr ⟨_, _, _, _, _, rfl⟩) (by simp [St.elems]) hy (by simp) (by simp) (by simp [most]) rfl
    simp only [bfS, this]
    simp [go_sem, bfH]
  | succ i =>
    have hat : (⟨[.rw (.agg 28 []), .rw (.agg 28 [pg.v])], H ++ bfH (i + 1)⟩ : St).at (.hp (H.length + i)) = some (.rw (.agg 28 (List.replicate (i + 1) pg.v))) := by
      simp only [St.at, bfH]
      rw [List.getElem?_append_right (by omega), Nat.add_sub_cancel_left, List.getElem?_append_right (by simp), List.length_replicate, Nat.sub_self]
      rfl
    have := app_may (base := base) (r := 28) (e := 26) (h := true) (s := ⟨[.rw (.agg 28 []), .rw (.agg 28 [pg.v])], H ++ bfH (i + 1)⟩) (a := .hp (H.length + i)) (o := 0) (n := i + 1) (y := .sl (.loc 1) [] 0 1 (some 1) 26) (old := List.replicate (i + 1) pg.v) (new := [pg.v]) (v := .agg 28 (List.replicate (i + 1) pg.v))
      (.inr ⟨_, _, _, _, _, rfl⟩) (elems_whole (t := 28) (by simp only [St.read, hat]; rfl) (by simp)) hy (by simp) (by simp [most]; omega) rfl hat
    simp only [bfS, this, List.length_replicate, List.length_cons, List.length_nil]
    have e1 : (⟨[.rw (.agg 28 []), .rw (.agg 28 [pg.v])], H ++ bfH (i + 1)⟩ : St).set (.hp (H.length + i)) .dead = ⟨[.rw (.agg 28 []), .rw (.agg 28 [pg.v])], H ++ List.replicate (i + 1) .dead⟩ := by
      simp only [St.set, bfH]
      congr 1
      rw [List.set_append, if_neg (by omega), Nat.add_sub_cancel_left, List.set_append, if_neg (by simp), List.length_replicate, Nat.sub_self, List.set_cons_zero, List.replicate_succ']
    rw [e1]
    have e2 : List.replicate (i + 1) pg.v ++ [pg.v] = List.replicate (i + 1 + 1) pg.v := (List.replicate_succ' (n := i + 1)).symm
    simp only [e2]
    simp [go_sem, bfH, List.length_append]
theorem bf_loop {H : List Blk} {k : Int} {n : Nat} (hn : n ≤ 49) :
    rc D 0 (.loop [0, 5, 6, 7, 8] b_steadfastlaw18_BankFull_0) [(0, .int .i64 k), (5, .bool true), (6, .int .i64 n), (7, bfS H.length 0), (8, .int .i64 0)] ⟨[.rw (.agg 28 [])], H⟩ =
      some (.exit 0, [(0, .int .i64 k), (5, .bool true), (6, .int .i64 n), (7, bfS H.length n), (8, .int .i64 n), (28, .bool false)], ⟨[.rw (.agg 28 [])], H ++ bfH n⟩) := by
  refine loop_runs (fun x : Nat => [(0, .int .i64 k), (5, .bool true), (6, .int .i64 n), (7, bfS H.length x), (8, .int .i64 x)]) (fun x => ⟨[.rw (.agg 28 [])], H ++ bfH x⟩) (fun _ => _) (fun x => n - x) (fun x => x ≤ n) 0 ?_ (Nat.zero_le _) rfl (by simp [bfH])
  intro i hi
  by_cases c1 : i < n
  · left
    have d1 : (i : Int) < n := by omega
    have d4 : IntKind.i64.wrap ((i : Int) + 1) = (i : Int) + 1 := i64_id (by omega) (by omega)
    have ha := bf_app H i (by omega)
    have hl : V.locLt 1 (bfS H.length (i + 1)) = true := by simp [bfS, V.locLt]
    refine ⟨i + 1, by omega, by omega, rfl, ?_⟩
    simp only [pg, Obj.v, zl, List.replicate, List.map_cons, List.map_nil] at ha
    generalize bfS H.length (i + 1) = s2 at *
    generalize bfS H.length i = s1 at *
    generalize H ++ bfH (i + 1) = h2 at *
    generalize H ++ bfH i = h1 at *
    simp only [go_sem, b_steadfastlaw18_BankFull_0, d1, List.replicate, ha, d4, hl]
    rfl
  · right
    have : i = n := by omega
    subst this
    have d1 : ¬ (i : Int) < i := by omega
    simp only [go_sem, b_steadfastlaw18_BankFull_0, d1]
end Go.Proofs.Ytpbpgbedkmbfkaa
namespace Go.Proofs.Ytpbpgbedkmbfkaa
open Go.Ab

theorem entM_rep {n i : Nat} : entM 16777216 (List.replicate n pg) i = if i < n then ⟨1, 0, 20 + i⟩ else noEnt := by
  unfold entM
  rw [List.length_replicate]
  split
  · rename_i h
    have : (List.replicate n pg).getD i zeroObj = pg := by
      rw [List.getD_eq_getElem?_getD, List.getElem?_replicate, if_pos h]; rfl
    rw [this]
    rfl
  · rfl
theorem nxt_rep {n : Nat} (hn : n ≤ 49) : nxt (entM 16777216 (List.replicate n pg)) = if n < 49 then some n else none := by
  have h0 : ∀ j, openB (entM 16777216 (List.replicate n pg) j) = decide (n ≤ j) := by
    intro j
    rw [entM_rep]
    by_cases h : j < n
    · rw [if_pos h]; simp [openB]; omega
    · rw [if_neg h]; simp [openB, noEnt]; omega
  unfold nxt
  by_cases h : n < 49
  · rw [if_pos h, List.find?_range_eq_some]
    refine ⟨by rw [h0]; simp, by simpa using h, fun j hj => ?_⟩
    rw [h0]; simp; omega
  · rw [if_neg h, List.find?_eq_none]
    intro j hj
    have hj : j < 49 := by simpa using hj
    rw [h0]; simp; omega
theorem rs_rep {H : List Blk} {n : Nat} : RS ⟨[.rw (.agg 28 [])], H ++ bfH n⟩ 26 (bfS H.length n) ((List.replicate n pg).map Obj.v) := by
  cases n with
  | zero => exact .inr ⟨.loc 0, [], 0, some 0, rfl, fun c hc => (by cases hc; exact Nat.le_refl _), by simp [bfS, V.locLt], .inl rfl⟩
  | succ i =>
    refine .inr ⟨.hp (H.length + i), [], 0, none, by simp [bfS], fun c hc => (by cases hc), by simp [bfS, V.locLt], .inr ⟨28, List.replicate (i + 1) pg.v, ?_, fun j x hx => by rw [Nat.zero_add]; simpa using hx⟩⟩
    simp only [read_hp, bfH]
    rw [List.getElem?_append_right (by omega), Nat.add_sub_cancel_left, List.getElem?_append_right (by simp), List.length_replicate, Nat.sub_self]
    rfl
theorem full_w : capWord ⟨5, 2, 0, 0, 0⟩ = 37 := by kernel_rfl
theorem full_e : capE ⟨5, 2, 0, 0, 0⟩ = 0 := by kernel_rfl
theorem full_m : mayE 37 5 2 = 0 := by kernel_rfl
theorem law_BankFull : ∀ hp vs, Sh.FitsL hp [(.int .i64), (.int .i64)] vs → ∃ s', rf D f_steadfastlaw18_BankFull vs ⟨[], hp⟩ = some (.bool true, s') := by
  intro hp vs hf
  obtain ⟨_, _, rfl, ⟨k, rfl, hk0, hk1⟩, ⟨r, rfl, hr0, hr1⟩⟩ := fits2 hf
  obtain ⟨more, hsh⟩ := rf_shown18 ⟨[], hp⟩
  have hab := absm_le r (m := 50) (by omega)
  have q1 := neg_tmod r (m := 50) (by omega) (by omega)
  have hv1 : (if r.tmod 50 < 0 then -r.tmod 50 else r.tmod 50) = absm r 50 := rfl
  obtain ⟨n, hn⟩ : ∃ n : Nat, absm r 50 = n := ⟨(absm r 50).toNat, by omega⟩
  rw [hn] at hv1
  have hn49 : n ≤ 49 := by omega
  have hl := bf_loop (H := hp ++ more) (k := k) hn49
  obtain ⟨w, S, X, _, _, _, _, hm⟩ := rf_made18 (rs_rep (H := hp ++ more) (n := n))
  have ht : ∀ i, i < 49 → (entM 16777216 (List.replicate n pg) i).kind ≠ 0 → (entM 16777216 (List.replicate n pg) i).line = 20 + i := fun i _ hk => entM_line hk
  have hP := (prgM (H := (hp ++ more) ++ bfH n) (ls := lnM (List.replicate n pg)) (w := w) (S := S) (X := X) ht).st
  have f0 := fun s => rf_caps_Word ⟨5, 2, 0, 0, 0⟩ s
  rw [full_w, full_e] at f0
  have f1 := fun L => rf_bMake (s := ⟨L, ((hp ++ more) ++ bfH n) ++ madeH ((hp ++ more) ++ bfH n).length (entM 16777216 (List.replicate n pg)) (lnM (List.replicate n pg)) w S X⟩) hP 37 k (by omega) (by omega)
  have hnx := nxt_rep hn49
  have hver : (entM 16777216 (List.replicate n pg) n).ver = 0 := by rw [entM_rep, if_neg (by omega)]; rfl
  simp only at hsh hm hl f1
  generalize (hp ++ more) ++ bfH n = H2 at *
  generalize hp ++ more = H at *
  generalize madeH H2.length (entM 16777216 (List.replicate n pg)) (lnM (List.replicate n pg)) w S X = mh at *
  generalize entM 16777216 (List.replicate n pg) = t at *
  refine ⟨⟨[], H2 ++ mh⟩, ?_⟩
  simp only [Cap.v, bfS] at *
  generalize bfS H.length n = sl at *
  simp only [mkI, mkW, mkE, full_m, if_true] at f1
  rw [rf_o D_steadfastlaw18_BankFull rfl]
  simp only [go_sem, hsh, q1]
  simp only [hv1]
  simp only [go_sem, List.replicate, hl]
  simp only [go_sem, hm]
  simp only [go_sem, f0]
  by_cases hk : kindOk k
  · by_cases h : n < 49
    · have hh : ¬ (n : Int) = 49 := by omega
      rw [if_pos h] at hnx
      have e1 : nxE t k = 0 := by unfold nxE; rw [if_pos hk, hnx]
      have e2 : nxI t k = n := by unfold nxI; rw [if_pos hk, hnx]
      have e3 : nxV t k = 0 := by unfold nxV; rw [if_pos hk, hnx]; exact hver
      have hok : (mkC t k).Ok := by
        unfold kindOk at hk
        refine ⟨?_, ?_, ?_, ?_, ?_, ?_⟩ <;> simp only [mkC, e2, e3] <;> omega
      have hmay := (may_iff _).2 hok
      have hwr := word_range hok
      have f3 := fun s => rf_caps_Of (mkC t k).word hwr.1 hwr.2 s
      rw [capOf_word hok, capsOf_word hok, hmay] at f3
      rw [show capWord (mkC t k) = (mkC t k).word from if_pos hmay, show capE (mkC t k) = 0 from if_pos hmay] at f1
      simp only [e1, e2, if_true] at f1
      generalize (mkC t k).word = cw at *
      simp only [mkC, Cap.v, e2, e3] at f3
      by_cases k1 : k = 1
      · subst k1; simp only [go_sem, f1, f3, hh]
      · by_cases k2 : k = 2
        · subst k2; simp only [go_sem, f1, f3, hh]
        · have k4 : k = 4 := by unfold kindOk at hk; omega
          subst k4; simp only [go_sem, f1, f3, hh]
    · have hh : (n : Int) = 49 := by omega
      rw [if_neg h] at hnx
      have e1 : nxE t k = 34 := by unfold nxE; rw [if_pos hk, hnx]
      simp only [e1, show ¬ ((34 : Int) = 0) by decide, if_false] at f1
      by_cases k1 : k = 1
      · subst k1; simp only [go_sem, f1, hh]
      · by_cases k2 : k = 2
        · subst k2; simp only [go_sem, f1, hh]
        · have k4 : k = 4 := by unfold kindOk at hk; omega
          subst k4; simp only [go_sem, f1, hh]
  · have e1 : nxE t k = 1 := by unfold nxE; rw [if_neg hk]
    have k1 : ¬ k = 1 := fun e => hk (.inl e)
    have k2 : ¬ k = 2 := fun e => hk (.inr (.inl e))
    have k4 : ¬ k = 4 := fun e => hk (.inr (.inr e))
    simp only [e1, show ¬ ((1 : Int) = 0) by decide, if_false] at f1
    simp only [go_sem, f1, k1, k2, k4]
end Go.Proofs.Ytpbpgbedkmbfkaa
