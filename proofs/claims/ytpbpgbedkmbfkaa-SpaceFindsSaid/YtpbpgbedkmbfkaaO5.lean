/-
  ObjE: whose capability one is; an object got; the program's and the document's.
-/
import Derived.Test.YtpbpgbedkmbfkaaO4
import Derived.Test.YtpbpgbedkmbfkaaOO
set_option maxRecDepth 100000
namespace Go.Proofs.Ytpbpgbedkmbfkaa
open Go.Ab

theorem rf_ref08_Names (kind ver line id w : Int) (h0 : 0 ≤ w) (h1 : w ≤ 18446744073709551615) (s : St) :
    rf D f_steadfastref08_Names [.agg 42 [.int .i64 kind, .int .i64 ver, .int .i64 line], .int .i64 id, .int .u64 w] s = some (.int .i64 (entryNames kind ver id w), s) := by
  have hc := fun s => rf_ref07_Of w h0 h1 s
  have hk : (capOf w).may = true → (capsOf w).kind ≤ 6 := fun h => by
    have := ((may_iff _).1 h).k
    unfold capsOf; rw [if_pos h]; exact this.2
  rw [rf_o D_steadfastref08_Names rfl]
  unfold entryNames
  generalize capsOf w = y at hc hk ⊢
  generalize (capOf w).may = m at hc hk ⊢
  simp only [Cap.v] at hc
  simp only [go_sem, hc]
  cases m
  · simp [go_sem]
  · have hk := hk rfl
    by_cases g1 : y.kind = 5
    · simp [go_sem, g1]
    · by_cases g1' : y.kind = 6
      · simp [go_sem, g1']
      · have g6 : ¬ 4 < y.kind := by omega
        by_cases g2 : y.id = id
        · by_cases g3 : y.ver = ver
          · by_cases g4 : kind = 0
            · simp [go_sem, g1, g1', g2, g3, g4, g6]
            · by_cases g5 : y.kind = kind
              · subst g5; simp [go_sem, g1, g1', g2, g3, g4, g6]
              · simp [go_sem, g1, g1', g2, g3, g4, g5, g6]
          · simp [go_sem, g1, g1', g2, g3, g6]
        · simp [go_sem, g1, g1', g2, g6]
/-- Whose capability a word is: the error, and the number. -/
def nmE (t : Nat → Ent) (c : Int) : Int := entryNames (t (capsOf c).id.toNat).kind (t (capsOf c).id.toNat).ver (capsOf c).id c
def nmId (t : Nat → Ent) (c : Int) : Int := if nmE t c = 0 then (capsOf c).id else 0
theorem capsOf_id (c : Int) : 0 ≤ (capsOf c).id ∧ (capsOf c).id ≤ 48 := by
  unfold capsOf
  split
  · rename_i h; exact may_id h
  · exact ⟨Int.le_refl _, by decide⟩
theorem nmE_no {t : Nat → Ent} {c : Int} (h : (capOf c).may = false) : nmE t c = 31 := by
  unfold nmE entryNames; rw [h]; rfl
theorem rf_Names {s : St} {a : Nat} {x : StF} {sh : Nat → Bool} (h : s.hp[a]? = some (.rw (x.v sh))) (c : Int) (h0 : 0 ≤ c) (h1 : c ≤ 18446744073709551615) :
    rf D f_objects_Store_Names [.ptr (.hp a) [] 43, .int .u64 c] s = some (.tup [.int .i64 (nmId x.work c), .int .i64 (nmE x.work c)], s) := by
  have hc := fun s => rf_caps_Of c h0 h1 s
  have hid := capsOf_id c
  have hno := nmE_no (t := x.work) (c := c)
  unfold nmId
  have hn : nmE x.work c = entryNames (x.work (capsOf c).id.toNat).kind (x.work (capsOf c).id.toNat).ver (capsOf c).id c := rfl
  obtain ⟨i, hi⟩ : ∃ i : Nat, (capsOf c).id = i := ⟨(capsOf c).id.toNat, by omega⟩
  rw [hi, Int.toNat_natCast] at hn
  have g1 := tab_get (f := fun i => (x.work i).v) (show i < 49 by omega)
  have hen := fun s => rf_entry_Names (x.work i).kind (x.work i).ver (x.work i).line i c h0 h1 s
  rw [← hn] at hen
  have c1 : (i : Int) < 49 := by omega
  have c2 : (0 : Int) ≤ i := by omega
  simp only [hi] at hc ⊢
  obtain ⟨m, fr, work, base, dir, mark, marked⟩ := x
  simp only [StF.v, tabV, Cap.v, Ent.v] at *
  simp only [hi] at hc
  generalize nmE work c = e at *
  generalize tab 49 (fun i => V.agg 42 [.int .i64 (work i).kind, .int .i64 (work i).ver, .int .i64 (work i).line]) = T at *
  rw [rf_o D_objects_Store_Names rfl]
  by_cases hm : (capOf c).may = true
  · simp only [hm] at hc
    simp only [go_sem, hc, h, c1, c2]
    rw [Int.toNat_natCast]
    by_cases he : e = 0
    · subst he
      simp only [go_sem, g1, hen]
    · simp only [go_sem, g1, hen, he]
  · have hm' : (capOf c).may = false := by simpa using hm
    have he := hno hm'
    subst he
    simp only [hm'] at hc
    simp only [go_sem, hc]
theorem rf_rNames {s : St} {a : Nat} {x : RstF} (h : s.hp[a]? = some (.rw x.v)) (c : Int) (h0 : 0 ≤ c) (h1 : c ≤ 18446744073709551615) :
    rf D f_steadfastref10_Store_Names [.ptr (.hp a) [] 31, .int .u64 c] s = some (.tup [.int .i64 (nmId x.work c), .int .i64 (nmE x.work c)], s) := by
  have hc := fun s => rf_ref07_Of c h0 h1 s
  have hid := capsOf_id c
  have hno := nmE_no (t := x.work) (c := c)
  unfold nmId
  have hn : nmE x.work c = entryNames (x.work (capsOf c).id.toNat).kind (x.work (capsOf c).id.toNat).ver (capsOf c).id c := rfl
  obtain ⟨i, hi⟩ : ∃ i : Nat, (capsOf c).id = i := ⟨(capsOf c).id.toNat, by omega⟩
  rw [hi, Int.toNat_natCast] at hn
  have g1 := tab_get (f := fun i => (x.work i).v) (show i < 49 by omega)
  have hen := fun s => rf_ref08_Names (x.work i).kind (x.work i).ver (x.work i).line i c h0 h1 s
  rw [← hn] at hen
  have c1 : (i : Int) < 49 := by omega
  have c2 : (0 : Int) ≤ i := by omega
  simp only [hi] at hc ⊢
  obtain ⟨m, fr, work, base, dir, mark, marked⟩ := x
  simp only [RstF.v, tabV, Cap.v, Ent.v] at *
  simp only [hi] at hc
  generalize nmE work c = e at *
  generalize tab 49 (fun i => V.agg 42 [.int .i64 (work i).kind, .int .i64 (work i).ver, .int .i64 (work i).line]) = T at *
  rw [rf_o D_steadfastref10_Store_Names rfl]
  by_cases hm : (capOf c).may = true
  · simp only [hm] at hc
    simp only [go_sem, hc, h, c1, c2]
    rw [Int.toNat_natCast]
    by_cases he : e = 0
    · subst he
      simp only [go_sem, g1, hen]
    · simp only [go_sem, g1, hen, he]
  · have hm' : (capOf c).may = false := by simpa using hm
    have he := hno hm'
    subst he
    simp only [hm'] at hc
    simp only [go_sem, hc]
/-! ### Get -/
/-- The program's objects, to be read: the store's block, its memory's lines. -/
structure Prg (hp : List Blk) (a : Nat) (x : StF) (sh : Nat → Bool) (k n : Nat) (T : List V) (ls : Nat → List Int) : Prop where
  st : hp[a]? = some (.rw (x.v sh))
  mb : ∃ burns left steps, hp[x.m]? = some (.rw (memV k n false burns left steps))
  kb : hp[k]? = some (.rw (.agg 57 T))
  ln : ∀ i, i < 49 → (x.work i).kind ≠ 0 → 0 ≤ (x.work i).line ∧ (x.work i).line < n ∧ ∃ su si fl, T[(x.work i).line.toNat]? = some (nlV (lnV (ls (x.work i).line.toNat)) su si fl)
/-- The document's. -/
structure Doc (hp : List Blk) (a : Nat) (x : RstF) (k k2 n : Nat) (T T2 : List V) (ls : Nat → List Int) : Prop where
  st : hp[a]? = some (.rw x.v)
  mb : ∃ left count, hp[x.m]? = some (.rw (rmV k n k2 false left count))
  kb : hp[k]? = some (.rw (.agg 58 T))
  kb2 : hp[k2]? = some (.rw (.agg 53 T2))
  ln : ∀ i, i < 49 → (x.work i).kind ≠ 0 → 0 ≤ (x.work i).line ∧ (x.work i).line < n ∧ T[(x.work i).line.toNat]? = some (lnV (ls (x.work i).line.toNat)) ∧ T2[(x.work i).line.toNat]? = some .nils
def gE (t : Nat → Ent) (id : Int) : Int := if id < 0 ∨ 49 ≤ id then 1 else if (t id.toNat).kind = 0 then 30 else 0
def gO (t : Nat → Ent) (ls : Nat → List Int) (id : Int) : Obj := if gE t id = 0 then ⟨(t id.toNat).kind, (t id.toNat).ver, ls (t id.toNat).line.toNat⟩ else ⟨0, 0, zl⟩
theorem rf_is_s {s : St} {a : Nat} {x : StF} {sh : Nat → Bool} (h : s.hp[a]? = some (.rw (x.v sh))) (id : Int) : rf D f_objects_Store_is [.ptr (.hp a) [] 43, .int .i64 id] s = some (.int .i64 (gE x.work id), s) := by
  obtain ⟨m, fr, work, base, dir, mark, marked⟩ := x
  simp only [StF.v, tabV] at *
  unfold gE
  rw [rf_o D_objects_Store_is rfl]
  by_cases c1 : id < 0
  · simp only [go_sem, c1]
  · by_cases c2 : 49 ≤ id
    · simp only [go_sem, c1, c2]
    · obtain ⟨i, rfl⟩ : ∃ i : Nat, id = i := ⟨id.toNat, by omega⟩
      have g1 := tab_get (f := fun i => (work i).v) (show i < 49 by omega)
      simp only [Ent.v] at *
      generalize tab 49 (fun i => V.agg 42 [.int .i64 (work i).kind, .int .i64 (work i).ver, .int .i64 (work i).line]) = T at *
      have d1 : (i : Int) < 49 := by omega
      have d2 : (0 : Int) ≤ i := by omega
      rw [if_neg (by omega), Int.toNat_natCast]
      by_cases hk : (work i).kind = 0
      · simp only [hk] at *
        simp only [go_sem, c1, c2, h, d1, d2]
        rw [Int.toNat_natCast]
        simp only [go_sem, g1]
      · simp only [go_sem, c1, c2, h, d1, d2]
        rw [Int.toNat_natCast]
        simp only [go_sem, g1, hk]
theorem rf_Get {s : St} {a k n : Nat} {x : StF} {sh : Nat → Bool} {T : List V} {ls : Nat → List Int} (h : Prg s.hp a x sh k n T ls) (id : Int) :
    rf D f_objects_Store_Get [.ptr (.hp a) [] 43, .int .i64 id] s = some (.tup [(gO x.work ls id).v, .int .i64 (gE x.work id)], s) := by
  have his := fun L => rf_is_s (s := ⟨s.loc ++ L, s.hp⟩) h.st id
  obtain ⟨burns, left, steps, hmb⟩ := h.mb
  have hst := h.st
  have hkb := h.kb
  unfold gO
  by_cases he : gE x.work id = 0
  · have hr : 0 ≤ id ∧ id < 49 ∧ (x.work id.toNat).kind ≠ 0 := by
      unfold gE at he
      split at he
      · cases he
      · split at he
        · cases he
        · rename_i h1 h2; exact ⟨by omega, by omega, h2⟩
    obtain ⟨i, rfl⟩ : ∃ i : Nat, id = i := ⟨id.toNat, by omega⟩
    rw [Int.toNat_natCast] at hr
    obtain ⟨h1, h2, su, si, fl, hT⟩ := h.ln i (by omega) hr.2.2
    obtain ⟨q, hq⟩ : ∃ q : Nat, (x.work i).line = q := ⟨(x.work i).line.toNat, by omega⟩
    rw [hq, Int.toNat_natCast] at hT
    rw [hq] at h2
    have hld0 := rf_nvm_Load (i := q) s hmb hkb hT (by omega)
    have g1 := tab_get (f := fun i => (x.work i).v) (show i < 49 by omega)
    have d1 : (i : Int) < 49 := by omega
    have d2 : (0 : Int) ≤ i := by omega
    rw [he] at his
    obtain ⟨m, fr, work, base, dir, mark, marked⟩ := x
    simp only [StF.v, tabV, Ent.v, Obj.v, lnV] at *
    rw [hq] at g1
    simp only [he, if_true, Int.toNat_natCast, hq]
    generalize tab 49 (fun i => V.agg 42 [.int .i64 (work i).kind, .int .i64 (work i).ver, .int .i64 (work i).line]) = W at *
    rw [rf_o D_objects_Store_Get rfl]
    simp only [go_sem, his, hst, d1, d2]
    rw [Int.toNat_natCast]
    simp only [go_sem, g1, hst, hld0]
  · simp only [he, if_false]
    have e : (Obj.mk 0 0 zl).v = .agg 26 [.int .i64 0, .int .i64 0, .agg 24 (List.replicate 8 (.int .u64 0))] := rfl
    rw [e]
    generalize gE x.work id = ee at *
    rw [rf_o D_objects_Store_Get rfl]
    simp only [go_sem, his, he]
theorem rf_is_r {s : St} {a : Nat} {x : RstF} (h : s.hp[a]? = some (.rw x.v)) (id : Int) : rf D f_steadfastref10_Store_is [.ptr (.hp a) [] 31, .int .i64 id] s = some (.int .i64 (gE x.work id), s) := by
  obtain ⟨m, fr, work, base, dir, mark, marked⟩ := x
  simp only [RstF.v, tabV] at *
  unfold gE
  rw [rf_o D_steadfastref10_Store_is rfl]
  by_cases c1 : id < 0
  · simp only [go_sem, c1]
  · by_cases c2 : 49 ≤ id
    · simp only [go_sem, c1, c2]
    · obtain ⟨i, rfl⟩ : ∃ i : Nat, id = i := ⟨id.toNat, by omega⟩
      have g1 := tab_get (f := fun i => (work i).v) (show i < 49 by omega)
      simp only [Ent.v] at *
      generalize tab 49 (fun i => V.agg 42 [.int .i64 (work i).kind, .int .i64 (work i).ver, .int .i64 (work i).line]) = T at *
      have d1 : (i : Int) < 49 := by omega
      have d2 : (0 : Int) ≤ i := by omega
      rw [if_neg (by omega), Int.toNat_natCast]
      by_cases hk : (work i).kind = 0
      · simp only [hk] at *
        simp only [go_sem, c1, c2, h, d1, d2]
        rw [Int.toNat_natCast]
        simp only [go_sem, g1]
      · simp only [go_sem, c1, c2, h, d1, d2]
        rw [Int.toNat_natCast]
        simp only [go_sem, g1, hk]
theorem rf_rGet {s : St} {a k k2 n : Nat} {x : RstF} {T T2 : List V} {ls : Nat → List Int} (h : Doc s.hp a x k k2 n T T2 ls) (id : Int) :
    rf D f_steadfastref10_Store_Get [.ptr (.hp a) [] 31, .int .i64 id] s = some (.tup [(gO x.work ls id).v, .int .i64 (gE x.work id)], s) := by
  have his := fun L => rf_is_r (s := ⟨s.loc ++ L, s.hp⟩) h.st id
  obtain ⟨left, count, hmb⟩ := h.mb
  have hst := h.st
  have hkb := h.kb
  have hkb2 := h.kb2
  unfold gO
  by_cases he : gE x.work id = 0
  · have hr : 0 ≤ id ∧ id < 49 ∧ (x.work id.toNat).kind ≠ 0 := by
      unfold gE at he
      split at he
      · cases he
      · split at he
        · cases he
        · rename_i h1 h2; exact ⟨by omega, by omega, h2⟩
    obtain ⟨i, rfl⟩ : ∃ i : Nat, id = i := ⟨id.toNat, by omega⟩
    rw [Int.toNat_natCast] at hr
    obtain ⟨h1, h2, hT, hT2⟩ := h.ln i (by omega) hr.2.2
    obtain ⟨q, hq⟩ : ∃ q : Nat, (x.work i).line = q := ⟨(x.work i).line.toNat, by omega⟩
    rw [hq, Int.toNat_natCast] at hT hT2
    rw [hq] at h2
    have hld0 := rf_ref03_Load0 (i := q) s hmb hkb hT hkb2 hT2 (by omega)
    have g1 := tab_get (f := fun i => (x.work i).v) (show i < 49 by omega)
    have d1 : (i : Int) < 49 := by omega
    have d2 : (0 : Int) ≤ i := by omega
    rw [he] at his
    obtain ⟨m, fr, work, base, dir, mark, marked⟩ := x
    simp only [RstF.v, tabV, Ent.v, Obj.v, lnV] at *
    rw [hq] at g1
    simp only [he, if_true, Int.toNat_natCast, hq]
    generalize tab 49 (fun i => V.agg 42 [.int .i64 (work i).kind, .int .i64 (work i).ver, .int .i64 (work i).line]) = W at *
    rw [rf_o D_steadfastref10_Store_Get rfl]
    simp only [go_sem, his, hst, d1, d2]
    rw [Int.toNat_natCast]
    simp only [go_sem, g1, hst, hld0, d1, d2]
    rw [Int.toNat_natCast]
    simp only [go_sem, g1]
  · simp only [he, if_false]
    have e : (Obj.mk 0 0 zl).v = .agg 26 [.int .i64 0, .int .i64 0, .agg 24 (List.replicate 8 (.int .u64 0))] := rfl
    rw [e]
    generalize gE x.work id = ee at *
    rw [rf_o D_steadfastref10_Store_Get rfl]
    simp only [go_sem, his, he]
end Go.Proofs.Ytpbpgbedkmbfkaa
