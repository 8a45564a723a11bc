/-
  YtpbpgbedkmbfkaaDoorT2: what functions of the program compute (BnkA, BnkB, FctB, BnkS, StoN, Foot, AbsA, SlrA, MemP, MemS, AbsB, AbsC, FrmC, FraP, StoP, StoS, StoU, AbsD, AbsE, AbsF, BnkE).
-/
import Derived.Test.YtpbpgbedkmbfkaaDoorT1
import Derived.Test.YtpbpgbedkmbfkaaDoorCode
import Derived.Test.YtpbpgbedkmbfkaaDoorAbE
set_option maxRecDepth 100000
namespace Go.Proofs.YtpbpgbedkmbfkaaDoor
open Go.Ab

theorem rf_by (b : Int) (h0 : 0 ≤ b) (h1 : b ≤ 18446744073709551615) (s : St) : rf D f_bank_by [.int .u64 b] s = some (.int .i64 (mayE b 5 2), s) := by
  have hm := fun s => rf_caps_May b 5 2 h0 h1 s
  rw [rf_o D_bank_by rfl]
  simp only [go_sem, hm]
/-- What would be made: its number, its capability, the error. -/
def mkOk (t : Nat → Ent) (b k : Int) : Prop := mayE b 5 2 = 0 ∧ nxE t k = 0
instance (t : Nat → Ent) (b k : Int) : Decidable (mkOk t b k) := inferInstanceAs (Decidable (_ ∧ _))
def mkC (t : Nat → Ent) (k : Int) : Cap := ⟨k, 15, nxI t k, nxV t k, 0⟩
def mkE (t : Nat → Ent) (b k : Int) : Int := if mayE b 5 2 = 0 then if nxE t k = 0 then capE (mkC t k) else nxE t k else mayE b 5 2
def mkI (t : Nat → Ent) (b k : Int) : Int := if mayE b 5 2 = 0 then if nxE t k = 0 then nxI t k else 0 else 0
def mkW (t : Nat → Ent) (b k : Int) : Int := if mayE b 5 2 = 0 then if nxE t k = 0 then capWord (mkC t k) else 0 else 0
theorem rf_bMake {s : St} {a : Nat} {x : StF} {sh : Nat → Bool} (h : s.hp[a]? = some (.rw (x.v sh))) (b k : Int) (h0 : 0 ≤ b) (h1 : b ≤ 18446744073709551615) :
    rf D f_bank_Make [.ptr (.hp a) [] 43, .int .u64 b, .int .i64 k] s = some (.tup [.int .i64 (mkI x.work b k), .int .u64 (mkW x.work b k), .int .i64 (mkE x.work b k)], s) := by
  have hb := fun s => rf_by b h0 h1 s
  have hn := rf_Next (s := s) h k
  have hw := fun s => rf_caps_Word (mkC x.work k) s
  unfold mkI mkW mkE
  generalize capWord (mkC x.work k) = cw at *
  generalize capE (mkC x.work k) = ce at *
  simp only [mkC, Cap.v] at hw
  generalize nxI x.work k = ni at *
  generalize nxV x.work k = nv at *
  generalize nxE x.work k = ne at *
  generalize mayE b 5 2 = me at *
  rw [rf_o D_bank_Make rfl]
  by_cases e1 : me = 0
  · by_cases e2 : ne = 0
    · simp only [go_sem, hb, hn, hw, e1, e2, if_true]
    · simp only [go_sem, hb, hn, e1, e2, if_true, if_false]
  · simp only [go_sem, hb, e1, if_false]
/-- What would end: its number, the error. -/
def edE (t : Nat → Ent) (b c : Int) : Int := if mayE b 5 2 = 0 then if (capOf c).may = false then 31 else if (capsOf c).kind ≠ 1 ∧ (capsOf c).kind ≠ 2 then 31 else if iand .i64 (capsOf c).rights 2 = 0 then 32 else nmE t c else mayE b 5 2
def edI (t : Nat → Ent) (b c : Int) : Int := if edE t b c = 0 then nmId t c else 0
theorem nmId_no {t : Nat → Ent} {c : Int} (h : nmE t c ≠ 0) : nmId t c = 0 := by unfold nmId; rw [if_neg h]
theorem rf_bEnd {s : St} {a : Nat} {x : StF} {sh : Nat → Bool} (h : s.hp[a]? = some (.rw (x.v sh))) (b c : Int) (h0 : 0 ≤ b) (h1 : b ≤ 18446744073709551615) (g0 : 0 ≤ c) (g1 : c ≤ 18446744073709551615) :
    rf D f_bank_End [.ptr (.hp a) [] 43, .int .u64 b, .int .u64 c] s = some (.tup [.int .i64 (edI x.work b c), .int .i64 (edE x.work b c)], s) := by
  have hb := fun s => rf_by b h0 h1 s
  have hc := fun s => rf_caps_Of c g0 g1 s
  have hn := fun L => rf_Names (s := ⟨s.loc ++ L, s.hp⟩) h c g0 g1
  have hno := nmId_no (t := x.work) (c := c)
  unfold edI edE
  generalize (capOf c).may = m at *
  generalize capsOf c = y at *
  generalize nmE x.work c = ne at *
  generalize nmId x.work c = ni at *
  generalize mayE b 5 2 = me at *
  simp only [Cap.v] at hc
  rw [rf_o D_bank_End rfl]
  by_cases e1 : me = 0
  · cases m
    · simp only [go_sem, hb, hc, e1, if_true]
    · by_cases e2 : y.kind = 1
      · by_cases e3 : iand .i64 y.rights 2 = 0
        · simp [go_sem, hb, hc, e1, e2, e3]
        · by_cases e4 : ne = 0
          · simp [go_sem, hb, hc, hn, e1, e2, e3, e4]
          · simp [go_sem, hb, hc, hn, e1, e2, e3, e4, hno e4]
      · by_cases e2' : y.kind = 2
        · by_cases e3 : iand .i64 y.rights 2 = 0
          · simp [go_sem, hb, hc, e1, e2', e3]
          · by_cases e4 : ne = 0
            · simp [go_sem, hb, hc, hn, e1, e2', e3, e4]
            · simp [go_sem, hb, hc, hn, e1, e2', e3, e4, hno e4]
        · simp [go_sem, hb, hc, e1, e2, e2']
  · simp [go_sem, hb, e1]
end Go.Proofs.YtpbpgbedkmbfkaaDoor
namespace Go.Proofs.YtpbpgbedkmbfkaaDoor
open Go.Ab

end Go.Proofs.YtpbpgbedkmbfkaaDoor
namespace Go.Proofs.YtpbpgbedkmbfkaaDoor
open Go.Ab

theorem open_objs {hp : List Blk} {v : V} (h : (Sh.sl 28 (.st 26 [.int .i64, .int .i64, .arr 24 8 (.int .u64)])).Fits hp v) :
    ∃ lo : List Obj, (∀ L more, RS ⟨L, hp ++ more⟩ 26 v (lo.map Obj.v)) ∧ (∀ o ∈ lo, OkO o) := by
  obtain ⟨l, hrs, hlt, hlen, hfit⟩ := rs_of_fits h
  obtain ⟨lo, rfl, hlo⟩ := map_of (f := Obj.v) (fun x hx => obj_of (hfit x hx))
  exact ⟨lo, fun L more => hrs.more ⟨by simp, List.prefix_append _ _⟩, fun o ho => (hlo o ho).1⟩
theorem capOf_word {c : Cap} (h : c.Ok) : capOf c.word = c := by
  have h1 := h.k; have h2 := h.r; have h3 := h.i; have h4 := h.v; have h5 := h.b
  obtain ⟨k, r, i, v, b⟩ := c
  simp only at h1 h2 h3 h4 h5
  simp only [capOf, Cap.word, Cap.mk.injEq]
  omega
theorem capsOf_word {c : Cap} (h : c.Ok) : capsOf c.word = c := by
  unfold capsOf
  rw [capOf_word h, if_pos ((may_iff c).2 h)]
theorem word_range {c : Cap} (h : c.Ok) : 0 ≤ c.word ∧ c.word ≤ 18446744073709551615 := by
  have h1 := h.k; have h2 := h.r; have h3 := h.i; have h4 := h.v; have h5 := h.b
  unfold Cap.word
  omega
end Go.Proofs.YtpbpgbedkmbfkaaDoor
namespace Go.Proofs.YtpbpgbedkmbfkaaDoor
open Go.Ab
theorem exb_w1 : capWord ⟨5, 1, 0, 0, 0⟩ = 21 := by kernel_rfl
theorem exb_w2 : capWord ⟨5, 3, 0, 0, 0⟩ = 53 := by kernel_rfl
theorem exb_1 : mkE (entM 16777216 []) 0 1 = 31 := by kernel_rfl
theorem exb_2 : mkE (entM 16777216 []) 21 1 = 32 := by kernel_rfl
theorem exb_3 : edE (entM 16777216 []) 53 0 = 31 := by kernel_rfl
theorem exb_4 : mkI (entM 16777216 []) 53 1 = 0 := by kernel_rfl
theorem exb_5 : mkW (entM 16777216 []) 53 1 = 241 := by kernel_rfl
theorem exb_6 : mkE (entM 16777216 []) 53 1 = 0 := by kernel_rfl
theorem rf_shown18 (s : St) : ∃ more, rf D f_steadfastlaw18_shown [] s = some (.bool true, ⟨s.loc, s.hp ++ more⟩) := by
  have w1 := fun s => rf_ref07_Word ⟨5, 1, 0, 0, 0⟩ s
  have w2 := fun s => rf_ref07_Word ⟨5, 3, 0, 0, 0⟩ s
  rw [exb_w1] at w1
  rw [exb_w2] at w2
  have hrs : RS s 26 .nils (([] : List Obj).map Obj.v) := .inl ⟨rfl, rfl⟩
  obtain ⟨w, S, X, _, _, _, _, hm⟩ := rf_made18 hrs
  have hP := (prgM (H := s.hp) (t := entM 16777216 []) (ls := lnM []) (w := w) (S := S) (X := X) (fun i _ hk => entM_line hk)).st
  have f1 := fun L => rf_bMake (s := ⟨s.loc ++ L, s.hp ++ madeH s.hp.length (entM 16777216 []) (lnM []) w S X⟩) hP 0 1 (by omega) (by omega)
  have f2 := fun L => rf_bMake (s := ⟨s.loc ++ L, s.hp ++ madeH s.hp.length (entM 16777216 []) (lnM []) w S X⟩) hP 21 1 (by omega) (by omega)
  have f3 := fun L => rf_bEnd (s := ⟨s.loc ++ L, s.hp ++ madeH s.hp.length (entM 16777216 []) (lnM []) w S X⟩) hP 53 0 (by omega) (by omega) (by omega) (by omega)
  have f4 := fun L => rf_bMake (s := ⟨s.loc ++ L, s.hp ++ madeH s.hp.length (entM 16777216 []) (lnM []) w S X⟩) hP 53 1 (by omega) (by omega)
  have f1' := rf_bMake (s := ⟨s.loc, s.hp ++ madeH s.hp.length (entM 16777216 []) (lnM []) w S X⟩) hP 0 1 (by omega) (by omega)
  have f2' := rf_bMake (s := ⟨s.loc, s.hp ++ madeH s.hp.length (entM 16777216 []) (lnM []) w S X⟩) hP 21 1 (by omega) (by omega)
  have f3' := rf_bEnd (s := ⟨s.loc, s.hp ++ madeH s.hp.length (entM 16777216 []) (lnM []) w S X⟩) hP 53 0 (by omega) (by omega) (by omega) (by omega)
  have f4' := rf_bMake (s := ⟨s.loc, s.hp ++ madeH s.hp.length (entM 16777216 []) (lnM []) w S X⟩) hP 53 1 (by omega) (by omega)
  simp only [exb_1, exb_2, exb_3, exb_4, exb_5, exb_6] at f1 f2 f3 f4 f1' f2' f3' f4'
  refine ⟨madeH s.hp.length (entM 16777216 []) (lnM []) w S X, ?_⟩
  generalize madeH s.hp.length (entM 16777216 []) (lnM []) w S X = mh at *
  generalize mkI (entM 16777216 []) 0 1 = i1 at *
  generalize mkI (entM 16777216 []) 21 1 = i2 at *
  generalize mkW (entM 16777216 []) 0 1 = u1 at *
  generalize mkW (entM 16777216 []) 21 1 = u2 at *
  generalize edI (entM 16777216 []) 53 0 = i3 at *
  simp only [Cap.v] at w1 w2
  rw [rf_o D_steadfastlaw18_shown rfl]
  simp only [go_sem, hm]
  simp only [go_sem, w1, w2, f1', f2', f3', f4']
end Go.Proofs.YtpbpgbedkmbfkaaDoor
namespace Go.Proofs.YtpbpgbedkmbfkaaDoor
open Go.Ab
theorem rf_ref08_Open (k v l : Int) (s : St) : rf D f_steadfastref08_Open [.agg 42 [.int .i64 k, .int .i64 v, .int .i64 l]] s = some (.bool (openB ⟨k, v, l⟩), s) := by
  unfold openB
  rw [rf_o D_steadfastref08_Open rfl]
  by_cases h1 : k = 0
  · simp [go_sem, h1]
  · simp [go_sem, h1]
theorem rnext_none {s : St} {b : Nat} {x : RstF} (h : s.hp[b]? = some (.rw x.v)) (hn : nxt x.work = none) :
    rc D s.loc.length (.loop [0, 7] b_steadfastref10_Store_Next_0) [(0, .ptr (.hp b) [] 31), (7, .int .i64 0)] s = some (.exit 0, [(0, .ptr (.hp b) [] 31), (7, .int .i64 49), (19, .bool false)], s) := by
  have hn := nxt_none hn
  refine loop_runs (fun j : Nat => [(0, .ptr (.hp b) [] 31), (7, .int .i64 j)]) (fun _ => s) (fun _ => _) (fun j => 49 - j) (fun j => j ≤ 49) 0 ?_ (Nat.zero_le _) rfl rfl
  intro i hi
  by_cases c1 : i < 49
  · left
    have d1 : (i : Int) < 49 := by omega
    have d2 : (0 : Int) ≤ i := by omega
    have d4 : IntKind.i64.wrap ((i : Int) + 1) = (i : Int) + 1 := i64_id (by omega) (by omega)
    have ho := fun s => rf_ref08_Open (x.work i).kind (x.work i).ver (x.work i).line s
    have ht := tab_get (f := fun i => (x.work i).v) c1
    rw [show (⟨(x.work i).kind, (x.work i).ver, (x.work i).line⟩ : Ent) = x.work i from rfl, hn i c1] at ho
    refine ⟨i + 1, by omega, by omega, rfl, ?_⟩
    obtain ⟨m, fr, work, base, dir, mark, marked⟩ := x
    simp only [RstF.v, tabV, Ent.v] at *
    generalize tab 49 (fun i => V.agg 42 [.int .i64 (work i).kind, .int .i64 (work i).ver, .int .i64 (work i).line]) = T at *
    simp only [go_sem, b_steadfastref10_Store_Next_0, d1, d2, h, Int.toNat_natCast, ht, ho, d4]
    rfl
  · right
    have : i = 49 := by omega
    subst this
    simp only [go_sem, b_steadfastref10_Store_Next_0]
theorem rnext_some {s : St} {b : Nat} {x : RstF} (h : s.hp[b]? = some (.rw x.v)) {n : Nat} (hn : nxt x.work = some n) :
    rc D s.loc.length (.loop [0, 7] b_steadfastref10_Store_Next_0) [(0, .ptr (.hp b) [] 31), (7, .int .i64 0)] s = some (.ret, [(4, .int .i64 n), (5, .int .i64 (x.work n).ver), (6, .int .i64 0)], s) := by
  obtain ⟨hn, h1, h2⟩ := nxt_some hn
  refine loop_runs (fun j : Nat => [(0, .ptr (.hp b) [] 31), (7, .int .i64 j)]) (fun _ => s) (fun _ => _) (fun j => n - j) (fun j => j ≤ n) 0 ?_ (Nat.zero_le _) rfl rfl
  intro i hi
  have c1 : i < 49 := by omega
  have d1 : (i : Int) < 49 := by omega
  have d2 : (0 : Int) ≤ i := by omega
  have d4 : IntKind.i64.wrap ((i : Int) + 1) = (i : Int) + 1 := i64_id (by omega) (by omega)
  have ho := fun s => rf_ref08_Open (x.work i).kind (x.work i).ver (x.work i).line s
  have ht := tab_get (f := fun i => (x.work i).v) c1
  rw [show (⟨(x.work i).kind, (x.work i).ver, (x.work i).line⟩ : Ent) = x.work i from rfl] at ho
  by_cases c2 : i < n
  · left
    rw [h2 i c2] at ho
    refine ⟨i + 1, by omega, by omega, rfl, ?_⟩
    obtain ⟨m, fr, work, base, dir, mark, marked⟩ := x
    simp only [RstF.v, tabV, Ent.v] at *
    generalize tab 49 (fun i => V.agg 42 [.int .i64 (work i).kind, .int .i64 (work i).ver, .int .i64 (work i).line]) = T at *
    simp only [go_sem, b_steadfastref10_Store_Next_0, d1, d2, h, Int.toNat_natCast, ht, ho, d4]
    rfl
  · right
    have : i = n := by omega
    subst this
    rw [h1] at ho
    obtain ⟨m, fr, work, base, dir, mark, marked⟩ := x
    simp only [RstF.v, tabV, Ent.v] at *
    generalize tab 49 (fun i => V.agg 42 [.int .i64 (work i).kind, .int .i64 (work i).ver, .int .i64 (work i).line]) = T at *
    simp only [go_sem, b_steadfastref10_Store_Next_0, d1, d2, h, Int.toNat_natCast, ht, ho]
theorem rf_rNext {s : St} {b : Nat} {x : RstF} (h : s.hp[b]? = some (.rw x.v)) (k : Int) :
    rf D f_steadfastref10_Store_Next [.ptr (.hp b) [] 31, .int .i64 k] s = some (.tup [.int .i64 (nxI x.work k), .int .i64 (nxV x.work k), .int .i64 (nxE x.work k)], s) := by
  unfold nxI nxV nxE
  by_cases hk : kindOk k
  · simp only [hk, if_true]
    cases hn : nxt x.work with
    | none =>
      have hl := rnext_none h hn
      rw [rf_o D_steadfastref10_Store_Next rfl]
      by_cases k1 : k = 1
      · simp only [go_sem, k1, hl]
      · by_cases k2 : k = 2
        · simp only [go_sem, k2, hl]
        · have k4 : k = 4 := by unfold kindOk at hk; omega
          simp only [go_sem, k4, hl]
    | some n =>
      have hl := rnext_some h hn
      rw [rf_o D_steadfastref10_Store_Next rfl]
      by_cases k1 : k = 1
      · simp only [go_sem, k1, hl]
      · by_cases k2 : k = 2
        · simp only [go_sem, k2, hl]
        · have k4 : k = 4 := by unfold kindOk at hk; omega
          simp only [go_sem, k4, hl]
  · simp only [hk, if_false]
    have k1 : ¬ k = 1 := fun e => hk (.inl e)
    have k2 : ¬ k = 2 := fun e => hk (.inr (.inl e))
    have k4 : ¬ k = 4 := fun e => hk (.inr (.inr e))
    rw [rf_o D_steadfastref10_Store_Next rfl]
    simp only [go_sem, k1, k2, k4]
end Go.Proofs.YtpbpgbedkmbfkaaDoor
namespace Go.Proofs.YtpbpgbedkmbfkaaDoor
open Go.Ab

/-- Blocks that belong to something. -/
abbrev Ft := Nat → Prop
def Ft.or (F G : Ft) : Ft := fun j => F j ∨ G j
def Ft.one (a : Nat) : Ft := fun j => j = a
/-- All of them are there. -/
def Inn (hp : List Blk) (F : Ft) : Prop := ∀ j, F j → j < hp.length
def Apart (F G : Ft) : Prop := ∀ j, F j → G j → False
/-- Nothing but F was changed; F' is what of it, and of what is new, belongs to it then. -/
structure Chg (hp hp' : List Blk) (F F' : Ft) : Prop where
  le : hp.length ≤ hp'.length
  old : ∀ j, j < hp.length → ¬ F j → hp'[j]? = hp[j]?
  new : ∀ j, F' j → F j ∨ hp.length ≤ j
theorem Chg.refl (hp : List Blk) (F : Ft) : Chg hp hp F F := ⟨Nat.le_refl _, fun _ _ _ => rfl, fun _ h => .inl h⟩
theorem Chg.trans {hp hp1 hp2 : List Blk} {F F1 F2 : Ft} (h : Chg hp hp1 F F1) (h' : Chg hp1 hp2 F1 F2) : Chg hp hp2 F F2 := by
  refine ⟨Nat.le_trans h.le h'.le, fun j hj hn => ?_, fun j hj => ?_⟩
  · rw [h'.old j (Nat.lt_of_lt_of_le hj h.le) (fun h1 => ?_), h.old j hj hn]
    rcases h.new j h1 with h2 | h2
    · exact hn h2
    · omega
  · rcases h'.new j hj with h1 | h1
    · exact h.new j h1
    · exact .inr (Nat.le_trans h.le h1)
/-- What belongs to it is more; or less behind it. -/
theorem Chg.mono {hp hp' : List Blk} {F F' G G' : Ft} (h : Chg hp hp' F F') (h1 : ∀ j, F j → G j) (h2 : ∀ j, G' j → F' j ∨ G j) : Chg hp hp' G G' :=
  ⟨h.le, fun j hj hn => h.old j hj (fun hf => hn (h1 j hf)), fun j hj => (h2 j hj).elim (fun hf => (h.new j hf).imp_left (h1 j)) .inl⟩
/-- Beside something that it isn't changed by. -/
theorem Chg.beside {hp hp' : List Blk} {F F' G : Ft} (h : Chg hp hp' F F') : Chg hp hp' (F.or G) (F'.or G) :=
  h.mono (fun _ => .inl) fun _ h => h.imp_right .inr
theorem Chg.beside' {hp hp' : List Blk} {F F' G : Ft} (h : Chg hp hp' F F') : Chg hp hp' (Ft.or G F) (Ft.or G F') :=
  h.mono (fun _ => .inr) fun _ h => h.elim (fun h => .inr (.inl h)) .inl
theorem Chg.apart {hp hp' : List Blk} {F F' G : Ft} (h : Chg hp hp' F F') (ha : Apart F G) (hi : Inn hp G) : Apart F' G := fun j h1 h2 => by
  rcases h.new j h1 with h3 | h3
  · exact ha j h3 h2
  · have := hi j h2; omega
theorem Apart.symm {F G : Ft} (h : Apart F G) : Apart G F := fun j h1 h2 => h j h2 h1
theorem Inn.more {hp hp' : List Blk} {F F' G : Ft} (hi : Inn hp G) (h : Chg hp hp' F F') : Inn hp' G := fun j hj => Nat.lt_of_lt_of_le (hi j hj) h.le
/-- Where two heaps are alike. -/
def Eqv (hp hp' : List Blk) (G : Ft) : Prop := ∀ j, G j → hp'[j]? = hp[j]?
theorem Chg.eqv {hp hp' : List Blk} {F F' G : Ft} (h : Chg hp hp' F F') (ha : Apart F G) (hi : Inn hp G) : Eqv hp hp' G := fun j hj => h.old j (hi j hj) fun hf => ha j hf hj
theorem Chg.get {hp hp' : List Blk} {F F' : Ft} (h : Chg hp hp' F F') {j : Nat} {b : Blk} (hj : hp[j]? = some b) (hn : ¬ F j) : hp'[j]? = some b := by
  rw [h.old j (List.getElem?_eq_some_iff.1 hj).1 hn, hj]
theorem chg_set {hp : List Blk} {a : Nat} {b : Blk} : Chg hp (hp.set a b) (Ft.one a) (Ft.one a) :=
  ⟨by simp, fun j _ hn => List.getElem?_set_ne fun e => hn e.symm, fun _ h => .inl h⟩
theorem chg_app (hp X : List Blk) : Chg hp (hp ++ X) (fun _ => False) (fun j => hp.length ≤ j ∧ j < hp.length + X.length) :=
  ⟨by simp, fun j hj _ => List.getElem?_append_left hj, fun _ h => .inr h.1⟩
theorem chg_app0 (hp X : List Blk) (F : Ft) : Chg hp (hp ++ X) F F :=
  ⟨by simp, fun j hj _ => List.getElem?_append_left hj, fun _ h => .inl h⟩
theorem Inn.set {hp : List Blk} {F : Ft} (h : Inn hp F) {a : Nat} {b : Blk} : Inn (hp.set a b) F := fun j hj => by rw [List.length_set]; exact h j hj
/-- All of it lies behind the first N blocks. -/
def Above (N : Nat) (F : Ft) : Prop := ∀ j, F j → N ≤ j
theorem Chg.pre {H hp hp' : List Blk} {F F' : Ft} (h : Chg hp hp' F F') (hp0 : H <+: hp) (ha : Above H.length F) : H <+: hp' ∧ Above H.length F' := by
  have hl := hp0.length_le
  refine ⟨?_, fun j hj => ?_⟩
  · rw [List.prefix_iff_eq_take]
    apply List.ext_getElem?
    intro j
    by_cases hj : j < H.length
    · rw [List.getElem?_take, if_pos hj, h.old j (by omega) fun hf => by have := ha j hf; omega]
      exact (prefix_get hp0 (List.getElem?_eq_getElem hj) ▸ List.getElem?_eq_getElem hj)
    · rw [List.getElem?_eq_none (by omega), List.getElem?_take, if_neg hj]
  · rcases h.new j hj with h1 | h1
    · exact ha j h1
    · omega
theorem lt_of_get {hp : List Blk} {j : Nat} {b : Blk} (h : hp[j]? = some b) : j < hp.length := (List.getElem?_eq_some_iff.1 h).1
end Go.Proofs.YtpbpgbedkmbfkaaDoor
namespace Go.Proofs.YtpbpgbedkmbfkaaDoor
open Go.Ab

/-! ### Memory -/
/-- A store that isn't sure yet: the word, what, and which cores have flushed it. -/
structure Dn where
  w : Nat
  v : Int
  cs : Nat → Bool
def Dn.mk0 (w : Nat) (v : Int) : Dn := ⟨w, v, fun _ => false⟩
structure AM where
  n : Nat
  S : Nat → List Int
  L : Nat → List Dn
  off : Bool
  left : Int
  count : Int
/-- A line behind some stores. -/
def behind : List Int → List Dn → List Int
  | x, [] => x
  | x, d :: l => behind (x.set d.w d.v) l
def AM.now (M : AM) (i : Nat) : List Int := behind (M.S i) (M.L i)
theorem behind_app (x : List Int) (l l' : List Dn) : behind x (l ++ l') = behind (behind x l) l' := by
  induction l generalizing x with
  | nil => rfl
  | cons d l ih => exact ih _
theorem behind_len (x : List Int) (l : List Dn) : (behind x l).length = x.length := by
  induction l generalizing x with
  | nil => rfl
  | cons d l ih => simp [behind, ih]
/-- How many of them a fence of the core c makes sure. -/
def flN (c : Nat) : List Dn → Nat
  | [] => 0
  | d :: r => if flN c r = 0 then (if d.cs c then 1 else 0) else flN c r + 1
structure AM.Ok (M : AM) : Prop where
  n0 : 64 ≤ M.n
  n1 : M.n ≤ 1024
  l8 : ∀ i, i < M.n → (M.S i).length = 8
  w8 : ∀ i, i < M.n → ∀ d ∈ M.L i, d.w < 8
  c0 : 0 ≤ M.count
  len : ∀ i, i < M.n → (M.L i).length ≤ M.count
  lf : -1 ≤ M.left
  lg : M.left ≤ 9223372036854775807
theorem AM.Ok.now8 {M : AM} (h : M.Ok) {i : Nat} (hi : i < M.n) : (M.now i).length = 8 := by
  unfold AM.now; rw [behind_len]; exact h.l8 i hi
/-- A step: what memory is behind it, and whether it is done. -/
def AM.dead (M : AM) : Bool := M.off || decide (M.left = 0)
def AM.stepped (M : AM) : AM := { M with left := if 0 < M.left then M.left - 1 else M.left, count := M.count + 1 }
def AM.out (M : AM) : AM := { M with off := true }
def AM.load (M : AM) (i : Int) : List Int × Int := if i < 0 ∨ (M.n : Int) ≤ i then (zl, 1) else if M.off then (zl, 4) else (M.now i.toNat, 0)
def AM.push (M : AM) (i : Nat) (d : Dn) : AM := { M with L := upd M.L i (M.L i ++ [d]) }
def AM.store (M : AM) (i q v : Int) : AM × Int :=
  if i < 0 ∨ (M.n : Int) ≤ i ∨ q < 0 ∨ 8 ≤ q then (M, 1) else if M.dead then (M.out, 4) else (M.stepped.push i.toNat (Dn.mk0 q.toNat v), 0)
def AM.fuse (M : AM) (k : Int) : AM := { M with left := if k < 0 then -1 else k }
def am0 (n : Nat) (S : Nat → List Int) : AM := ⟨n, S, fun _ => [], false, -1, 0⟩

/-! ### Frames -/
structure AF where
  f : Nat
  l : Nat
  st : Nat → Int
def AF.inr (A : AF) (j : Nat) : Bool := decide (A.f ≤ j) && decide (j < A.l)
structure AF.Ok (A : AF) : Prop where
  fl : A.f ≤ A.l
  l1 : A.l ≤ 1024
  s3 : ∀ j, A.st j = 0 ∨ A.st j = 1 ∨ A.st j = 2
def AF.state (A : AF) (line : Int) : Int := if line < A.f ∨ (A.l : Int) ≤ line then -1 else A.st line.toNat
def AF.put (A : AF) (j : Nat) (x : Int) : AF := { A with st := upd A.st j x }
def AF.turn (A : AF) (line x y : Int) : AF × Int := if A.state line < 0 then (A, 1) else if A.state line ≠ x then (A, 3) else (A.put line.toNat y, 0)
theorem state_range {A : AF} {line : Int} (h : ¬ A.state line < 0) : (A.f : Int) ≤ line ∧ line < A.l := by
  unfold AF.state at h
  split at h
  · omega
  · omega
theorem state_in {A : AF} {line : Int} (h1 : (A.f : Int) ≤ line) (h2 : line < A.l) : A.state line = A.st line.toNat := by
  unfold AF.state; rw [if_neg (by omega)]
/-- The first line that is free, from i on, of n lines. -/
def AF.firstFrom (A : AF) : Nat → Nat → Option Nat
  | _, 0 => none
  | i, n + 1 => if A.st i = 0 then some i else A.firstFrom (i + 1) n
def AF.first (A : AF) : Option Nat := A.firstFrom A.f (A.l - A.f)
def AF.alloc (A : AF) : AF × Int × Int := match A.first with | some i => (A.put i 1, i, 0) | none => (A, 0, 10)
def AF.cnt (A : AF) : Nat → Nat → Nat
  | _, 0 => 0
  | i, n + 1 => (if A.st i = 0 then 1 else 0) + A.cnt (i + 1) n
def AF.left (A : AF) : Nat := A.cnt A.f (A.l - A.f)
def AF.settle (A : AF) : AF := { A with st := fun j => if A.st j = 2 then 0 else A.st j }
theorem firstFrom_some {A : AF} : ∀ {n i k : Nat}, A.firstFrom i n = some k → i ≤ k ∧ k < i + n ∧ A.st k = 0 ∧ ∀ j, i ≤ j → j < k → A.st j ≠ 0
  | 0, i, k, h => by cases h
  | n + 1, i, k, h => by
    simp only [AF.firstFrom] at h
    split at h
    · rename_i h0
      cases h
      exact ⟨Nat.le_refl _, by omega, h0, fun j h1 h2 => by omega⟩
    · rename_i h0
      obtain ⟨h1, h2, h3, h4⟩ := firstFrom_some h
      refine ⟨by omega, by omega, h3, fun j hj1 hj2 => ?_⟩
      by_cases e : j = i
      · subst e; exact h0
      · exact h4 j (by omega) hj2
theorem firstFrom_none {A : AF} : ∀ {n i : Nat}, A.firstFrom i n = none → ∀ j, i ≤ j → j < i + n → A.st j ≠ 0
  | 0, i, _, j, h1, h2 => by omega
  | n + 1, i, h, j, h1, h2 => by
    simp only [AF.firstFrom] at h
    split at h
    · cases h
    · rename_i h0
      by_cases e : j = i
      · subst e; exact h0
      · exact firstFrom_none h j (by omega) (by omega)
theorem first_some {A : AF} (hA : A.Ok) {k : Nat} (h : A.first = some k) : A.f ≤ k ∧ k < A.l ∧ A.st k = 0 ∧ ∀ j, A.f ≤ j → j < k → A.st j ≠ 0 := by
  obtain ⟨h1, h2, h3, h4⟩ := firstFrom_some h
  have := hA.fl
  exact ⟨h1, by omega, h3, h4⟩
theorem first_none {A : AF} (hA : A.Ok) (h : A.first = none) : ∀ j, A.f ≤ j → j < A.l → A.st j ≠ 0 := fun j h1 h2 => by
  have := hA.fl
  exact firstFrom_none h j h1 (by omega)
theorem AF.cnt_zero {A : AF} : ∀ {n i : Nat}, A.cnt i n = 0 ↔ A.firstFrom i n = none
  | 0, i => by simp [AF.cnt, AF.firstFrom]
  | n + 1, i => by
    simp only [AF.cnt, AF.firstFrom]
    by_cases h : A.st i = 0
    · simp [h]
    · simp only [h, if_false, Nat.zero_add]; exact AF.cnt_zero
theorem AF.left_zero {A : AF} : A.left = 0 ↔ A.first = none := AF.cnt_zero
theorem AF.cnt_congr {A B : AF} : ∀ {n i : Nat}, (∀ j, i ≤ j → j < i + n → (A.st j = 0 ↔ B.st j = 0)) → A.cnt i n = B.cnt i n
  | 0, _, _ => rfl
  | n + 1, i, h => by
    simp only [AF.cnt]
    rw [AF.cnt_congr (A := A) (B := B) fun j h1 h2 => h j (by omega) (by omega)]
    by_cases e : A.st i = 0
    · rw [if_pos e, if_pos ((h i (Nat.le_refl _) (by omega)).1 e)]
    · rw [if_neg e, if_neg fun e' => e ((h i (Nat.le_refl _) (by omega)).2 e')]
theorem AF.cnt_put {A : AF} {k : Nat} {x : Int} : ∀ {n i : Nat}, i ≤ k → k < i + n → (A.put k x).cnt i n + (if A.st k = 0 then 1 else 0) = A.cnt i n + (if x = 0 then 1 else 0)
  | 0, i, h1, h2 => by omega
  | n + 1, i, h1, h2 => by
    simp only [AF.cnt]
    by_cases e : i = k
    · subst e
      have : (A.put i x).cnt (i + 1) n = A.cnt (i + 1) n := AF.cnt_congr fun j h3 h4 => by
        simp only [AF.put]; rw [upd_ne (by omega)]
      rw [this]
      have e2 : (A.put i x).st i = x := upd_self
      rw [e2]; omega
    · have ih := AF.cnt_put (A := A) (k := k) (x := x) (n := n) (i := i + 1) (by omega) (by omega)
      have e2 : (A.put k x).st i = A.st i := upd_ne e
      rw [e2]; omega
theorem AF.left_put {A : AF} {k : Nat} {x : Int} (h1 : A.f ≤ k) (h2 : k < A.l) : (A.put k x).left + (if A.st k = 0 then 1 else 0) = A.left + (if x = 0 then 1 else 0) :=
  AF.cnt_put (A := A) (k := k) (x := x) (n := A.l - A.f) (i := A.f) h1 (by omega)
theorem AF.Ok.put {A : AF} (h : A.Ok) {k : Nat} {x : Int} (hx : x = 0 ∨ x = 1 ∨ x = 2) : (A.put k x).Ok := ⟨h.fl, h.l1, fun j => by
  simp only [AF.put]
  by_cases e : j = k
  · subst e; rw [upd_self]; exact hx
  · rw [upd_ne e]; exact h.s3 j⟩
theorem AF.Ok.alloc {A : AF} (h : A.Ok) : A.alloc.1.Ok := by
  unfold AF.alloc
  split
  · exact h.put (.inr (.inl rfl))
  · exact h
theorem AF.Ok.turn {A : AF} (h : A.Ok) {line x y : Int} (hy : y = 0 ∨ y = 1 ∨ y = 2) : (A.turn line x y).1.Ok := by
  unfold AF.turn
  split
  · exact h
  · split
    · exact h
    · exact h.put hy
theorem AF.Ok.settle {A : AF} (h : A.Ok) : A.settle.Ok := ⟨h.fl, h.l1, fun j => by
  simp only [AF.settle]
  have := h.s3 j
  split <;> omega⟩
end Go.Proofs.YtpbpgbedkmbfkaaDoor
namespace Go.Proofs.YtpbpgbedkmbfkaaDoor
open Go.Ab

/-- A slice of elements e, whose block, of the tag r, is one of G. -/
inductive SlR (hp : List Blk) (G : Ft) (e r : Nat) : V → List V → Prop where
  | nil : SlR hp G e r .nils []
  | emp (a : Nat) (p : List Nat) (o : Nat) : SlR hp G e r (.sl (.hp a) p o 0 (some 0) e) []
  | blk (a : Nat) (c : Option Nat) (l : List V) (hc : c = none ∨ c = some l.length) (hG : G a) (hb : hp[a]? = some (.rw (.agg r l))) : SlR hp G e r (.sl (.hp a) [] 0 l.length c e) l
section
variable {hp hp' : List Blk} {G G' : Ft} {e r : Nat} {v : V} {l : List V}
theorem SlR.eqv (h : SlR hp G e r v l) (he : Eqv hp hp' G) (hG : ∀ j, G j → G' j) : SlR hp' G' e r v l := by
  cases h with
  | nil => exact .nil
  | emp a p o => exact .emp a p o
  | blk a c l hc hg hb => exact .blk a c l hc (hG a hg) (by rw [he a hg]; exact hb)
theorem SlR.slen (h : SlR hp G e r v l) : V.slen false v = some l.length := by cases h <;> rfl
theorem SlR.lt (h : SlR hp G e r v l) : V.locLt 0 v = true := by cases h <;> rfl
theorem SlR.ltb (h : SlR hp G e r v l) {b : Nat} : V.locLt b v = true := locLt_mono (Nat.zero_le b) h.lt
theorem SlR.ok (h : SlR hp G e r v l) : v.ok = true := by cases h <;> rfl
theorem SlR.tag (h : SlR hp G e r v l) : v.tag = 1 := by cases h <;> rfl
theorem SlR.shape (h : SlR hp G e r v l) : v = .nils ∨ ∃ a p o n c, v = .sl a p o n c e := by
  cases h with
  | nil => exact .inl rfl
  | emp a p o => exact .inr ⟨_, _, _, _, _, rfl⟩
  | blk a c l hc hg hb => exact .inr ⟨_, _, _, _, _, rfl⟩
theorem SlR.elems (h : SlR hp G e r v l) (L : List Blk) : St.elems ⟨L, hp⟩ v = some l := by
  cases h with
  | nil => rfl
  | emp a p o => rfl
  | blk a c l hc hg hb => exact elems_whole (t := r) (by simp only [read_hp, hb, rd_rw, at_nil]) rfl
theorem SlR.rs (h : SlR hp G e r v l) (L : List Blk) : RS ⟨L, hp⟩ e v l := by
  cases h with
  | nil => exact .inl ⟨rfl, rfl⟩
  | emp a p o => exact .inr ⟨_, _, _, _, rfl, fun c hc => by cases hc; exact Nat.le_refl _, rfl, .inl rfl⟩
  | blk a c l hc hg hb =>
    refine .inr ⟨_, _, _, _, rfl, fun c' hc' => ?_, rfl, .inr ⟨r, l, by simp only [read_hp, hb, rd_rw, at_nil], fun j x hx => by rw [Nat.zero_add]; exact hx⟩⟩
    rcases hc with rfl | rfl
    · cases hc'
    · cases hc'; exact Nat.le_refl _
def appTo (h : Bool) (r e : Nat) (old new : List V) (s : St) : V → Option (V × St)
  | .nils => some (.sl (s.fresh h) [] 0 (old.length + new.length) none e, s.new h (.agg r (old ++ new)))
  | .sl a path _ _ cap _ =>
    if (cap.map fun c => decide (c < old.length + new.length)) = some true then some (.sl (s.fresh h) [] 0 (old.length + new.length) none e, s.new h (.agg r (old ++ new)))
    else if path = [] then
      match s.at a with
      | some (.rw _) => some (.sl ((s.set a .dead).fresh h) [] 0 (old.length + new.length) none e, (s.set a .dead).new h (.agg r (old ++ new)))
      | _ => none
    else none
  | _ => none
theorem app_gen {base : Nat} {h : Bool} {x y : V} {old new : List V} {s : St} (hx : x = .nils ∨ ∃ a p o n c, x = .sl a p o n c e) (hy : y = .nils ∨ ∃ a p o n c, y = .sl a p o n c e) (h1 : s.elems x = some old) (h2 : s.elems y = some new)
    (hn : new ≠ []) (hm : old.length + new.length ≤ most) (he : e % 2 = 0 ∨ mayNew h (.agg 1 (old ++ new)) = true) :
    vappend base h r e x y s = appTo h r e old new s x := by
  have h0 : ¬ new.length = 0 := by rw [List.length_eq_zero_iff]; exact hn
  unfold vappend
  rw [slIs_of hx, elIs_of hy, h1, h2]
  simp only [Bool.and_self, if_true, h0, if_false]
  rw [if_pos ⟨hm, by simpa using he⟩]
  unfold appTo
  cases x <;> rfl
/-- A slice of its own is appended to: what it was goes, and a new block has all. -/
theorem SlR.push (h : SlR hp G e r v l) {base : Nat} {y : V} {new : List V} (L : List Blk) (hy : y = .nils ∨ ∃ a p o n c, y = .sl a p o n c e) (h2 : St.elems ⟨L, hp⟩ y = some new) (hn : new ≠ []) (hm : l.length + new.length ≤ most)
    (he : e % 2 = 0 ∨ V.locLts 0 (l ++ new) = true) :
    ∃ hp', vappend base true r e v y ⟨L, hp⟩ = some (.sl (.hp hp.length) [] 0 (l ++ new).length none e, ⟨L, hp'⟩) ∧ hp'.length = hp.length + 1 ∧ hp'[hp.length]? = some (.rw (.agg r (l ++ new))) ∧ (∀ j, j < hp.length → ¬ G j → hp'[j]? = hp[j]?) := by
  have he' : e % 2 = 0 ∨ mayNew true (.agg 1 (l ++ new)) = true := he.imp_right fun h => by simp only [mayNew_t, lt_agg, h, Bool.or_true]
  rw [app_gen h.shape hy (h.elems L) h2 hn hm he', List.length_append]
  cases h with
  | nil => exact ⟨hp ++ [.rw (.agg r ([] ++ new))], rfl, by simp, by simp, fun j hj _ => List.getElem?_append_left hj⟩
  | emp a p o =>
    have : (0 : Nat) < new.length := List.length_pos_iff.2 hn
    refine ⟨hp ++ [.rw (.agg r ([] ++ new))], ?_, by simp, by simp, fun j hj _ => List.getElem?_append_left hj⟩
    simp only [appTo, Option.map_some, List.length_nil, Nat.zero_add, this, decide_true, if_true]
    rfl
  | blk a c l hc hg hb =>
    have : (0 : Nat) < new.length := List.length_pos_iff.2 hn
    rcases hc with rfl | rfl
    · refine ⟨hp.set a .dead ++ [.rw (.agg r (l ++ new))], ?_, by simp, by simp, fun j hj hj' => ?_⟩
      · have hat : (⟨L, hp⟩ : St).at (.hp a) = some (.rw (.agg r l)) := hb
        simp only [appTo, Option.map_none, hat]
        simp [St.set, St.fresh, St.new]
      · rw [List.getElem?_append_left (by simpa using hj), List.getElem?_set_ne fun e => hj' (by rw [← e]; exact hg)]
    · refine ⟨hp ++ [.rw (.agg r (l ++ new))], ?_, by simp, by simp, fun j hj _ => List.getElem?_append_left hj⟩
      simp only [appTo, Option.map_some, show l.length < l.length + new.length by omega, decide_true, if_true]
      rfl
end
end Go.Proofs.YtpbpgbedkmbfkaaDoor
namespace Go.Proofs.YtpbpgbedkmbfkaaDoor
open Go.Ab

def memW (k n : Nat) (cp : Option Nat) (off burns : Bool) (left steps : Int) : V := .agg 59 [.sl (.hp k) [] 0 n cp 55, .bool off, .bool burns, .int .i64 left, .int .i64 steps]
def stV' (q : Nat) (v : Int) : V := .agg 84 [.int .i64 q, .int .u64 v]
def Dn.v1 (d : Dn) : V := stV' d.w d.v
def flV (l : List Dn) : V := .agg 50 (tab 8 fun c => .int .i64 (flN c l : Nat))
/-- A line as the program has it. -/
def plV (S : List Int) (l : List Dn) (sv : V) : V := nlV (lnV (behind S l)) (lnV S) sv (flV l)
/-- The program's memory: its block, that of its lines, those of its stores. -/
structure MemP (hp : List Blk) (F : Ft) (m : Nat) (M : AM) : Prop where
  ok : M.Ok
  inn : Inn hp F
  fm : F m
  mb : ∃ k, F k ∧ m ≠ k ∧ (∃ cp left, hp[m]? = some (.rw (memW k M.n cp M.off (decide (0 ≤ M.left)) left M.count)) ∧ (cp = none ∨ cp = some M.n) ∧ (0 ≤ M.left → left = M.left)) ∧
    ∃ (sv : Nat → V) (ow : Nat → Nat), hp[k]? = some (.rw (.agg 57 (tab M.n fun i => plV (M.S i) (M.L i) (sv i)))) ∧ ∀ i, i < M.n → SlR hp (fun j => F j ∧ j ≠ m ∧ j ≠ k ∧ ow j = i) 84 86 (sv i) ((M.L i).map Dn.v1)
theorem MemP.eqv {hp hp' : List Blk} {F : Ft} {m : Nat} {M : AM} (h : MemP hp F m M) (he : Eqv hp hp' F) (hl : hp.length ≤ hp'.length) : MemP hp' F m M := by
  obtain ⟨k, fk, ne, ⟨cp, left, h1, h2, h3⟩, sv, ow, h4, h5⟩ := h.mb
  exact ⟨h.ok, fun j hj => Nat.lt_of_lt_of_le (h.inn j hj) hl, h.fm, k, fk, ne, ⟨cp, left, by rw [he m h.fm]; exact h1, h2, h3⟩, sv, ow, by rw [he k fk]; exact h4, fun i hi => (h5 i hi).eqv (fun j hj => he j hj.1) fun j hj => hj⟩
theorem MemP.chg {hp hp' : List Blk} {F G G' : Ft} {m : Nat} {M : AM} (h : MemP hp F m M) (hc : Chg hp hp' G G') (ha : Apart G F) : MemP hp' F m M := h.eqv (hc.eqv ha h.inn) hc.le
theorem flN_append0 (c : Nat) (l : List Dn) (w : Nat) (v : Int) : flN c (l ++ [Dn.mk0 w v]) = flN c l := by
  induction l with
  | nil => rfl
  | cons d l ih => simp only [List.cons_append, flN, ih]
theorem rf_mp_Lines {hp : List Blk} {F : Ft} {m : Nat} {M : AM} (h : MemP hp F m M) (L : List Blk) : rf D f_nvm_Memory_Lines [.ptr (.hp m) [] 59] ⟨L, hp⟩ = some (.int .i64 M.n, ⟨L, hp⟩) := by
  obtain ⟨k, fk, ne, ⟨cp, left, h1, h2, h3⟩, sv, ow, h4, h5⟩ := h.mb
  simp only [memW] at h1
  rw [rf_o D_nvm_Memory_Lines rfl]
  simp only [go_sem, h1]
theorem rf_at_w {hp L : List Blk} {k n m : Nat} {cp : Option Nat} {off burns : Bool} {left steps : Int} (hs : hp[m]? = some (.rw (memW k n cp off burns left steps))) (i : Int) : rf D f_nvm_Memory_at [.ptr (.hp m) [] 59, .int .i64 i] ⟨L, hp⟩ =
    some (if 0 ≤ i ∧ i < n then .ptr (.hp k) [i.toNat] 55 else .nilp, ⟨L, hp⟩) := by
  simp only [memW] at hs
  rw [rf_o D_nvm_Memory_at rfl]
  by_cases h1 : i < 0
  · rw [if_neg (by omega)]
    simp only [go_sem, h1]
  · by_cases h2 : (n : Int) ≤ i
    · rw [if_neg (by omega)]
      simp only [go_sem, h1, h2, hs]
    · obtain ⟨j, rfl⟩ : ∃ j : Nat, i = j := ⟨i.toNat, by omega⟩
      rw [if_pos (by omega)]
      have d2 : (j : Int) < n := by omega
      have d3 : (0 : Int) ≤ j := by omega
      rw [Int.toNat_natCast]
      simp only [go_sem, h1, h2, hs, d2, d3]
      simp
/-- A step of memory. -/
theorem rf_step_w {hp : List Blk} {k n m : Nat} {cp : Option Nat} {off burns : Bool} {left steps : Int} (hs : hp[m]? = some (.rw (memW k n cp off burns left steps))) (L : List Blk) (h0 : 0 ≤ steps) (h1 : steps < 1000000000) (h2 : burns = true → 0 ≤ left) (h3 : burns = true → left < 9223372036854775808) :
    rf D f_nvm_Memory_step [.ptr (.hp m) [] 59] ⟨L, hp⟩ = if off = true ∨ (burns = true ∧ left = 0) then some (.int .i64 4, ⟨L, hp.set m (.rw (memW k n cp true burns left steps))⟩) else
      some (.int .i64 0, ⟨L, hp.set m (.rw (memW k n cp false burns (if burns = true then left - 1 else left) (steps + 1)))⟩) := by
  have hm := lt_of_get hs
  have hset : ∀ b, (hp.set m b)[m]? = some b := fun b => List.getElem?_set_self hm
  have w1 : IntKind.i64.wrap (steps + 1) = steps + 1 := i64_id (by omega) (by omega)
  simp only [memW] at hs ⊢
  rw [rf_o D_nvm_Memory_step rfl]
  cases burns
  · cases off
    · simp only [go_sem, hs, w1]
    · simp only [go_sem, hs]
      rw [set_same hs]
  · have h2 := h2 rfl
    have h3 := h3 rfl
    by_cases hz : left = 0
    · subst hz
      simp only [go_sem, hs, hset, or_true]
    · have w2 : IntKind.i64.wrap (left - 1) = left - 1 := i64_id (by omega) (by omega)
      cases off
      · simp only [go_sem, hs, hz, hset, w1, w2, List.set_set]
      · simp only [go_sem, hs, hz]
        rw [set_same hs]
end Go.Proofs.YtpbpgbedkmbfkaaDoor
namespace Go.Proofs.YtpbpgbedkmbfkaaDoor
open Go.Ab

theorem AM.Ok.out {M : AM} (h : M.Ok) : M.out.Ok := ⟨h.n0, h.n1, h.l8, h.w8, h.c0, h.len, h.lf, h.lg⟩
theorem AM.Ok.stepped {M : AM} (h : M.Ok) : M.stepped.Ok := ⟨h.n0, h.n1, h.l8, h.w8, by have := h.c0; simp only [AM.stepped]; omega, fun i hi => by have := h.len i hi; simp only [AM.stepped]; omega, by have := h.lf; simp only [AM.stepped]; split <;> omega, by have := h.lg; simp only [AM.stepped]; split <;> omega⟩
theorem AM.Ok.pushed {M : AM} (h : M.Ok) {i : Nat} {d : Dn} (hd : d.w < 8) : (M.stepped.push i d).Ok := by
  refine ⟨h.n0, h.n1, h.l8, fun j hj => ?_, by have := h.c0; simp only [AM.push, AM.stepped]; omega, fun j hj => ?_, by have := h.lf; simp only [AM.push, AM.stepped]; split <;> omega, by have := h.lg; simp only [AM.push, AM.stepped]; split <;> omega⟩
  · simp only [AM.push, AM.stepped]
    by_cases e : j = i
    · subst e
      rw [upd_self]
      intro x hx
      rcases List.mem_append.1 hx with hx | hx
      · exact h.w8 j hj x hx
      · rw [List.mem_singleton.1 hx]; exact hd
    · rw [upd_ne e]; exact h.w8 j hj
  · have := h.len j hj
    simp only [AM.push, AM.stepped]
    by_cases e : j = i
    · subst e
      rw [upd_self, List.length_append]; simp only [List.length_cons, List.length_nil]; omega
    · rw [upd_ne e]; omega
theorem AM.Ok.store {M : AM} (h : M.Ok) {i q v : Int} : (M.store i q v).1.Ok := by
  unfold AM.store
  split
  · exact h
  · split
    · exact h.out
    · exact h.pushed (by simp only [Dn.mk0]; omega)
theorem AM.store_n {M : AM} {i q v : Int} : (M.store i q v).1.n = M.n := by
  unfold AM.store; split <;> (try split) <;> rfl
theorem AM.store_count {M : AM} {i q v : Int} : (M.store i q v).1.count ≤ M.count + 1 := by
  unfold AM.store; split <;> (try split) <;> simp only [AM.out, AM.push, AM.stepped] <;> omega
/-- Memory's own block may change by itself. -/
theorem MemP.setm {hp : List Blk} {F : Ft} {m : Nat} {M M' : AM} (h : MemP hp F m M) (ok : M'.Ok) (hn : M'.n = M.n) (hS : M'.S = M.S) (hL : M'.L = M.L) {k : Nat} {cp : Option Nat} {left left' : Int} {o b : Bool} {c : Int} (hb : hp[m]? = some (.rw (memW k M.n cp o b left c))) (hl : 0 ≤ M'.left → left' = M'.left) :
    MemP (hp.set m (.rw (memW k M.n cp M'.off (decide (0 ≤ M'.left)) left' M'.count))) F m M' ∧ Chg hp (hp.set m (.rw (memW k M.n cp M'.off (decide (0 ≤ M'.left)) left' M'.count))) F F := by
  obtain ⟨k', fk, ne, ⟨cp', left1, h1, h2, h3⟩, sv, ow, h4, h5⟩ := h.mb
  rw [hb] at h1
  have h1 := Option.some.inj h1
  simp only [memW, Blk.rw.injEq, V.agg.injEq, List.cons.injEq, V.sl.injEq, Loc.hp.injEq, true_and, and_true] at h1
  obtain ⟨⟨rfl, rfl⟩, _⟩ := h1
  refine ⟨⟨ok, h.inn.set, h.fm, k, fk, ne, ⟨cp, left', ?_, by rw [hn]; exact h2, hl⟩, sv, ow, ?_, fun i hi => ?_⟩, chg_set.mono (fun j hj => by cases hj; exact h.fm) fun _ => .inr⟩
  · rw [hn, List.getElem?_set_self (lt_of_get hb)]
  · rw [List.getElem?_set_ne ne, hn, hS, hL]; exact h4
  · rw [hn] at hi
    rw [hL]
    exact (h5 i hi).eqv (fun j hj => List.getElem?_set_ne (Ne.symm hj.2.1)) fun j hj => hj
theorem rf_mp_Store {hp : List Blk} {F : Ft} {m : Nat} {M : AM} (h : MemP hp F m M) (hc : M.count < 1000000) (i q v : Int) (L : List Blk) :
    ∃ hp' F', rf D f_nvm_Memory_Store [.ptr (.hp m) [] 59, .int .i64 i, .int .i64 q, .int .u64 v] ⟨L, hp⟩ = some (.int .i64 (M.store i q v).2, ⟨L, hp'⟩) ∧ MemP hp' F' m (M.store i q v).1 ∧ Chg hp hp' F F' := by
  have hM := h
  obtain ⟨k, fk, ne, ⟨cp, left, h1, h2, h3⟩, sv, ow, h4, h5⟩ := h.mb
  have ha := fun L => rf_at_w (L := L) h1 i
  have ok := h.ok
  have hc0 := ok.c0
  unfold AM.store
  by_cases hi : i < 0 ∨ (M.n : Int) ≤ i
  · rw [if_neg (by omega)] at ha
    rw [if_pos (by omega)]
    refine ⟨hp, F, ?_, hM, .refl _ _⟩
    rw [rf_o D_nvm_Memory_Store rfl]
    simp only [go_sem, ha]
  · rw [if_pos (by omega)] at ha
    by_cases hq : q < 0 ∨ 8 ≤ q
    · rw [if_pos (by omega)]
      refine ⟨hp, F, ?_, hM, .refl _ _⟩
      rw [rf_o D_nvm_Memory_Store rfl]
      by_cases hq0 : q < 0
      · simp only [go_sem, ha, hq0]
      · have hq8 : 8 ≤ q := by omega
        simp only [go_sem, ha, hq0, hq8]
    · rw [if_neg (by omega)]
      obtain ⟨j, rfl⟩ : ∃ j : Nat, i = j := ⟨i.toNat, by omega⟩
      obtain ⟨p, rfl⟩ : ∃ p : Nat, q = p := ⟨q.toNat, by omega⟩
      simp only [Int.toNat_natCast] at ha ⊢
      have d1 : ¬ (p : Int) < 0 := by omega
      have d2 : ¬ (8 : Int) ≤ p := by omega
      have d3 : (p : Int) < 8 := by omega
      have d4 : (0 : Int) ≤ p := by omega
      have lf := ok.lf
      have hstep := fun L => rf_step_w (L := L) h1 hc0 (by omega) (fun hb => by have hb := of_decide_eq_true hb; rw [h3 hb]; exact hb)
      by_cases hd : M.dead = true
      · rw [if_pos hd]
        have hd' : M.off = true ∨ M.left = 0 := by simpa [AM.dead] using hd
        obtain ⟨g1, g2⟩ := hM.setm (M' := M.out) ok.out rfl rfl rfl h1 (left' := left) (by simpa [AM.out] using h3)
        refine ⟨_, F, ?_, g1, g2⟩
        have hst : ∀ L, rf D f_nvm_Memory_step [.ptr (.hp m) [] 59] ⟨L, hp⟩ = some (.int .i64 4, ⟨L, hp.set m (.rw (memW k M.n cp M.out.off (decide (0 ≤ M.out.left)) left M.out.count))⟩) := fun L => by
          rw [hstep L (fun hb => by rw [h3 (of_decide_eq_true hb)]; have := ok.lg; omega), if_pos]
          · rfl
          · rcases hd' with hd' | hd'
            · exact .inl hd'
            · exact .inr ⟨by simp [hd'], by rw [h3 (by omega)]; exact hd'⟩
        generalize hp.set m (.rw (memW k M.n cp M.out.off (decide (0 ≤ M.out.left)) left M.out.count)) = H at *
        rw [rf_o D_nvm_Memory_Store rfl]
        simp only [go_sem, ha, d1, d2, hst]
      · rw [if_neg hd]
        have hd' : M.off = false ∧ ¬ M.left = 0 := by simpa [AM.dead] using hd
        have hlv : 0 ≤ M.stepped.left → (if decide (0 ≤ M.left) = true then left - 1 else left) = M.stepped.left := by
          intro hh
          simp only [AM.stepped, decide_eq_true_eq] at hh ⊢
          split at hh
          · rw [if_pos (by omega), if_pos (by omega), h3 (by omega)]
          · omega
        have hbe : decide (0 ≤ M.stepped.left) = decide (0 ≤ M.left) := by
          apply decide_eq_decide.2
          simp only [AM.stepped]
          split <;> omega
        obtain ⟨g1, g2⟩ := hM.setm (M' := M.stepped) ok.stepped rfl rfl rfl h1 hlv
        have hst : ∀ L, rf D f_nvm_Memory_step [.ptr (.hp m) [] 59] ⟨L, hp⟩ = some (.int .i64 0, ⟨L, hp.set m (.rw (memW k M.n cp M.stepped.off (decide (0 ≤ M.stepped.left)) (if decide (0 ≤ M.left) = true then left - 1 else left) M.stepped.count))⟩) := fun L => by
          rw [hstep L (fun hb => by rw [h3 (of_decide_eq_true hb)]; have := ok.lg; omega), if_neg, hbe]
          · rw [show M.stepped.off = M.off from rfl, hd'.1]; rfl
          · rintro (hh | ⟨hh, hz⟩)
            · rw [hd'.1] at hh; cases hh
            · exact hd'.2 (by rw [← h3 (of_decide_eq_true hh)]; exact hz)
        have hm1 : (hp.set m (.rw (memW k M.n cp M.stepped.off (decide (0 ≤ M.stepped.left)) (if decide (0 ≤ M.left) = true then left - 1 else left) M.stepped.count)))[m]? = _ := List.getElem?_set_self (lt_of_get h1)
        -- the word, and what was stored since
        generalize hH : hp.set m (.rw (memW k M.n cp M.stepped.off (decide (0 ≤ M.stepped.left)) (if decide (0 ≤ M.left) = true then left - 1 else left) M.stepped.count)) = H at *
        have hHl : H.length = hp.length := by rw [← hH, List.length_set]
        clear hH h4 h5 sv ow
        obtain ⟨k', fk', ne', ⟨cp', left', q1, q2, q3⟩, sv, ow, q4, q5⟩ := g1.mb
        rw [q1] at hm1
        have hm1 := Option.some.inj hm1
        simp only [memW, Blk.rw.injEq, V.agg.injEq, List.cons.injEq, V.sl.injEq, Loc.hp.injEq, true_and, and_true] at hm1
        obtain ⟨⟨hkk, _⟩, _⟩ := hm1
        subst hkk
        have e1 : M.stepped.n = M.n := rfl
        have e2 : M.stepped.S = M.S := rfl
        have e3 : M.stepped.L = M.L := rfl
        rw [e1, e2, e3] at q4
        rw [e1, e3] at q5
        have hj : j < M.n := by omega
        have hp8 : p < 8 := by omega
        have g := tab_get (f := fun i => plV (M.S i) (M.L i) (sv i)) hj
        have h8 := ok.l8 j hj
        have gq : ((behind (M.S j) (M.L j)).map (V.int .u64))[p]? = some (.int .u64 ((behind (M.S j) (M.L j)).getD p 0)) := get_map (by rw [behind_len]; omega) 0
        have hlen := ok.len j hj
        let T1 := (tab M.n fun i => plV (M.S i) (M.L i) (sv i)).set j (nlV (lnV ((behind (M.S j) (M.L j)).set p v)) (lnV (M.S j)) (sv j) (flV (M.L j)))
        let h2' := H.set k' (.rw (.agg 57 T1))
        have hs2 : SlR h2' (fun x => F x ∧ x ≠ m ∧ x ≠ k' ∧ ow x = j) 84 86 (sv j) ((M.L j).map Dn.v1) := (q5 j hj).eqv (fun x hx => List.getElem?_set_ne (Ne.symm hx.2.2.1)) fun _ hx => hx
        have hy : ∀ L2, St.elems ⟨L2 ++ [.rw (.agg 86 [stV' p v])], h2'⟩ (.sl (.loc L2.length) [] 0 1 (some 1) 84) = some [stV' p v] := fun L2 => elems_whole (t := 86) (by simp [read_loc, rd_rw, at_nil]) rfl
        obtain ⟨h3', r1, r2, r3, r4⟩ := hs2.push (base := L.length) (L ++ [.rw (.agg 86 [stV' p v])]) (.inr ⟨_, _, _, _, _, rfl⟩) (hy L) (by simp) (by simp [most]; omega) (.inl rfl)
        have l2 : h2'.length = hp.length := by simp [h2', hHl]
        let NV := V.sl (.hp h2'.length) [] 0 ((M.L j).map Dn.v1 ++ [stV' p v]).length none 84
        let T2 := T1.set j (nlV (lnV ((behind (M.S j) (M.L j)).set p v)) (lnV (M.S j)) NV (flV (M.L j)))
        have hT2 : T2 = tab M.n fun i => plV (M.S i) (upd M.L j (M.L j ++ [Dn.mk0 p v]) i) (upd sv j NV i) := by
          show ((tab M.n _).set j _).set j _ = _
          rw [List.set_set, tab_set]
          apply tab_congr
          intro i _
          by_cases e : i = j
          · subst e
            rw [upd_self, upd_self, upd_self]
            simp only [plV, behind_app, behind, Dn.mk0]
            have : flV (M.L i ++ [⟨p, v, fun _ => false⟩]) = flV (M.L i) := by
              unfold flV; congr 1; apply tab_congr; intro c _; rw [show (⟨p, v, fun _ => false⟩ : Dn) = Dn.mk0 p v from rfl, flN_append0]
            rw [this]
          · rw [upd_ne e, upd_ne e, upd_ne e]
        have hkl : k' < H.length := lt_of_get q4
        have hml : m < H.length := lt_of_get q1
        have a2 : h2'[k']? = some (.rw (.agg 57 T1)) := List.getElem?_set_self hkl
        have a3 : h3'[k']? = some (.rw (.agg 57 T1)) := by rw [r4 k' (by omega) (fun hx => hx.2.2.1 rfl)]; exact a2
        have t1 : T1[j]? = some (nlV (lnV ((behind (M.S j) (M.L j)).set p v)) (lnV (M.S j)) (sv j) (flV (M.L j))) := List.getElem?_set_self (by rw [tab_len]; exact hj)
        have old : ∀ x, x < hp.length → x ≠ k' → ¬ (F x ∧ x ≠ m ∧ x ≠ k' ∧ ow x = j) → (h3'.set k' (.rw (.agg 57 T2)))[x]? = H[x]? := fun x hx hxk hxj => by
          rw [List.getElem?_set_ne (Ne.symm hxk), r4 x (by omega) hxj]
          exact List.getElem?_set_ne (Ne.symm hxk)
        refine ⟨h3'.set k' (.rw (.agg 57 T2)), fun x => F x ∨ x = hp.length, ?_, ⟨ok.pushed hp8, fun x hx => ?_, .inl h.fm, k', .inl fk', ne', ⟨cp', left', ?_, q2, q3⟩, upd sv j NV, upd ow hp.length j, ?_, fun i hi => ?_⟩, ⟨by simp; omega, fun x hx hn => ?_, fun x hx => ?_⟩⟩
        · have b2 : H.set k' (.rw (.agg 57 ((tab M.n fun i => plV (M.S i) (M.L i) (sv i)).set j (nlV (lnV ((behind (M.S j) (M.L j)).set p v)) (lnV (M.S j)) (sv j) (flV (M.L j)))))) = h2' := rfl
          have b3 : T1.set j (nlV (lnV ((behind (M.S j) (M.L j)).set p v)) (lnV (M.S j)) NV (flV (M.L j))) = T2 := rfl
          have ts : V.tag NV = 1 := rfl
          have tl : V.locLt 0 NV = true := rfl
          change vappend _ _ _ _ _ _ _ = some (NV, _) at r1
          clear_value h2' T1 T2 NV
          generalize (tab M.n fun i => plV (M.S i) (M.L i) (sv i)) = T0 at *
          have hsv := (q5 j hj).tag
          simp only [plV, nlV, lnV, stV', List.map_set] at *
          rw [rf_o D_nvm_Memory_Store rfl]
          simp only [go_sem, List.replicate, ha, hst, d1, d2, d3, d4, Int.toNat_natCast, q4, g, gq, b2]
          simp only [go_sem, List.replicate, a2, t1, r1, a3, ts, tl, b3]
        · rw [List.length_set, r2]
          rcases hx with hx | rfl
          · have := h.inn x hx; omega
          · omega
        · have e4 : (M.stepped.push j (Dn.mk0 p v)).n = M.n := rfl
          have : H[m]? = _ := q1
          rw [old m (by omega) ne' (fun hx => hx.2.1 rfl)]; exact q1
        · rw [hT2]; exact List.getElem?_set_self (by omega)
        · have e5 : (M.stepped.push j (Dn.mk0 p v)).L i = upd M.L j (M.L j ++ [Dn.mk0 p v]) i := rfl
          rw [e5]
          by_cases e : i = j
          · subst e
            rw [upd_self, upd_self, List.map_append]
            refine .blk _ none _ (.inl rfl) ⟨.inr l2, ?_, ?_, ?_⟩ ?_
            · rw [l2]; omega
            · rw [l2]; omega
            · rw [l2, upd_self]
            · rw [List.getElem?_set_ne (by omega)]; exact r3
          · rw [upd_ne e, upd_ne e]
            refine (q5 i hi).eqv (fun x hx => ?_) fun x hx => ⟨.inl hx.1, hx.2.1, hx.2.2.1, ?_⟩
            · exact old x (by have := h.inn x hx.1; omega) hx.2.2.1 fun hx2 => e (hx.2.2.2.symm.trans hx2.2.2.2)
            · rw [upd_ne (by have := h.inn x hx.1; omega)]; exact hx.2.2.2
        · rw [old x hx (fun e => hn (by rw [e]; exact fk')) fun h9 => hn h9.1]
          exact g2.old x hx hn
        · rcases hx with hx | rfl
          · exact .inl hx
          · exact .inr (Nat.le_refl _)
end Go.Proofs.YtpbpgbedkmbfkaaDoor
namespace Go.Proofs.YtpbpgbedkmbfkaaDoor
open Go.Ab

structure AS where
  M : AM
  A : AF
  work : Nat → Ent
  base : Nat → Ent
  dir : Nat → Int
  mark : Nat → Ent
  is : Bool
/-- Objects, as they are meant, of a table and a dir. -/
def as0 (M : AM) (A : AF) (t : Nat → Ent) (d : Nat → Int) : AS := ⟨M, A, t, t, d, fun _ => noEnt, false⟩
def AS.sh (x : AS) : Nat → Bool := shOf x.base x.mark x.is
/-- Is the line of the object i its own? -/
def AS.own (x : AS) (i : Nat) : Bool := !x.sh (x.work i).line.toNat
/-- A table's lines are frames. -/
structure TabOk (A : AF) (t : Nat → Ent) : Prop where
  inn : ∀ i, i < 49 → (t i).kind ≠ 0 → (A.f : Int) ≤ (t i).line ∧ (t i).line < A.l
structure AS.Ok (x : AS) : Prop where
  M : x.M.Ok
  A : x.A.Ok
  l : x.A.l = x.M.n
  w : TabOk x.A x.work
  b : TabOk x.A x.base
  k : TabOk x.A x.mark
  s2 : ∀ j, x.A.st j ≠ 2
theorem TabOk.inL {A : AF} {t : Nat → Ent} (h : TabOk A t) (hA : A.Ok) : InL t := ⟨fun i hi hk => by have := h.inn i hi hk; have := hA.l1; omega⟩
/-- A line is laid, word by word. -/
def AM.layFrom (M : AM) (at' : Int) (l : List Int) : Nat → Nat → AM × Int
  | _, 0 => (M, 0)
  | j, n + 1 => if (M.store at' j (l.getD j 0)).2 ≠ 0 then M.store at' j (l.getD j 0) else (M.store at' j (l.getD j 0)).1.layFrom at' l (j + 1) n
def AS.lay (x : AS) (l : List Int) : AS × Int × Int :=
  if x.A.alloc.2.2 ≠ 0 then (x, 0, x.A.alloc.2.2) else
    ({ x with A := x.A.alloc.1, M := (x.M.layFrom x.A.alloc.2.1 l 0 8).1 }, if (x.M.layFrom x.A.alloc.2.1 l 0 8).2 ≠ 0 then 0 else x.A.alloc.2.1, (x.M.layFrom x.A.alloc.2.1 l 0 8).2)
def Ent.at (e : Ent) (l : Int) : Ent := ⟨e.kind, e.ver, l⟩
def AS.set (x : AS) (id word v : Int) : AS × Int :=
  if id < 0 ∨ 49 ≤ id ∨ word < 0 ∨ 8 ≤ word then (x, 1)
  else if (x.work id.toNat).kind = 0 then (x, 30)
  else if x.own id.toNat then ({ x with M := (x.M.store (x.work id.toNat).line word v).1 }, (x.M.store (x.work id.toNat).line word v).2)
  else if x.A.left = 0 then (x, 10)
  else if (x.M.load (x.work id.toNat).line).2 ≠ 0 then (x, (x.M.load (x.work id.toNat).line).2)
  else
    let r := x.lay ((x.M.load (x.work id.toNat).line).1.set word.toNat v)
    if r.2.2 ≠ 0 then (r.1, r.2.2) else ({ r.1 with work := updE x.work id.toNat ((x.work id.toNat).at r.2.1) }, 0)
def AS.make (x : AS) (k : Int) : AS × Int × Int :=
  if nxE x.work k ≠ 0 then (x, 0, nxE x.work k) else
    let r := x.lay zl
    if r.2.2 ≠ 0 then (r.1, 0, r.2.2) else ({ r.1 with work := updE x.work (nxI x.work k).toNat ⟨k, nxV x.work k, r.2.1⟩ }, nxI x.work k, 0)
def AS.ends (x : AS) (id : Int) : AS × Int :=
  if gE x.work id ≠ 0 then (x, gE x.work id) else
    ({ x with A := if x.own id.toNat then (x.A.turn (x.work id.toNat).line 1 0).1 else x.A, work := updE x.work id.toNat ⟨0, endV (x.work id.toNat).ver, 0⟩ }, 0)
def AS.marks (x : AS) : AS × Int := if x.is then (x, 3) else ({ x with mark := x.work, is := true }, 0)
/-- What is named by nothing is free. -/
def namedL (t : Nat → Ent) (j : Nat) : Bool := (List.range 49).any fun i => decide ((t i).kind ≠ 0) && decide ((t i).line = j)
def namedD (d : Nat → Int) (j : Nat) : Bool := (List.range 8).any fun i => decide (d i = j)
def AS.freed (x : AS) : AS := { x with A := { x.A with st := fun j => if x.A.inr j && !(namedL x.base j || namedL x.work j || namedD x.dir j) && decide (x.A.st j = 1) then 0 else x.A.st j } }
def AS.commit (x : AS) (d : Nat → Int) : AS × Int := if x.is then ({ x with base := x.mark, dir := d, is := false : AS }.freed, 0) else (x, 3)
def AS.abort (x : AS) : AS × Int := if x.is then ({ x with is := false : AS }.freed, 0) else (x, 3)
def AS.get (x : AS) (id : Int) : Obj × Int :=
  if gE x.work id ≠ 0 then (⟨0, 0, zl⟩, gE x.work id)
  else if (x.M.load (x.work id.toNat).line).2 ≠ 0 then (⟨0, 0, zl⟩, (x.M.load (x.work id.toNat).line).2)
  else (⟨(x.work id.toNat).kind, (x.work id.toNat).ver, (x.M.load (x.work id.toNat).line).1⟩, 0)
/-- How many of some have lines that are not their own. -/
def AS.needs (x : AS) : List Int → List Int → Nat
  | _, [] => 0
  | seen, id :: r => (if gE x.work id = 0 ∧ x.own id.toNat = false ∧ id ∉ seen then 1 else 0) + x.needs (seen ++ [id]) r
def AS.room (x : AS) (ids : List Int) (more : Int) : Bool := decide (0 ≤ more) && decide (more ≤ (x.A.left : Int) - x.needs [] ids)
def AS.take (x : AS) : AS × Int × Int := ({ x with A := x.A.alloc.1 }, x.A.alloc.2.1, x.A.alloc.2.2)
end Go.Proofs.YtpbpgbedkmbfkaaDoor
namespace Go.Proofs.YtpbpgbedkmbfkaaDoor
open Go.Ab

theorem AM.Ok.layFrom {at' : Int} {l : List Int} : ∀ {n j : Nat} {M : AM}, M.Ok → (M.layFrom at' l j n).1.Ok
  | 0, _, _, h => h
  | n + 1, j, M, h => by
    simp only [AM.layFrom]
    split
    · exact h.store
    · exact AM.Ok.layFrom h.store
theorem AM.layFrom_n {at' : Int} {l : List Int} : ∀ {n j : Nat} {M : AM}, (M.layFrom at' l j n).1.n = M.n
  | 0, _, _ => rfl
  | n + 1, j, M => by
    simp only [AM.layFrom]
    split
    · exact AM.store_n
    · rw [AM.layFrom_n, AM.store_n]
theorem AM.layFrom_count {at' : Int} {l : List Int} : ∀ {n j : Nat} {M : AM}, (M.layFrom at' l j n).1.count ≤ M.count + n
  | 0, _, _ => by simp [AM.layFrom]
  | n + 1, j, M => by
    have h1 := AM.store_count (M := M) (i := at') (q := j) (v := l.getD j 0)
    simp only [AM.layFrom]
    split
    · omega
    · have := AM.layFrom_count (at' := at') (l := l) (n := n) (j := j + 1) (M := (M.store at' j (l.getD j 0)).1)
      omega
theorem TabOk.of {A B : AF} {t : Nat → Ent} (h : TabOk A t) (hf : B.f = A.f) (hl : B.l = A.l) : TabOk B t := ⟨fun i hi hk => by rw [hf, hl]; exact h.inn i hi hk⟩
theorem alloc_fl {A : AF} : A.alloc.1.f = A.f ∧ A.alloc.1.l = A.l := by unfold AF.alloc; split <;> exact ⟨rfl, rfl⟩
theorem turn_fl {A : AF} {line x y : Int} : (A.turn line x y).1.f = A.f ∧ (A.turn line x y).1.l = A.l := by unfold AF.turn; split <;> (try split) <;> exact ⟨rfl, rfl⟩
theorem alloc_range {A : AF} (hA : A.Ok) (h : A.alloc.2.2 = 0) : (A.f : Int) ≤ A.alloc.2.1 ∧ A.alloc.2.1 < A.l := by
  unfold AF.alloc at h ⊢
  split at h
  · rename_i i hi
    have := first_some hA hi
    simp only
    omega
  · cases h
theorem TabOk.updE {A : AF} {t : Nat → Ent} (h : TabOk A t) {i : Nat} {e : Ent} (he : e.kind ≠ 0 → (A.f : Int) ≤ e.line ∧ e.line < A.l) : TabOk A (updE t i e) := ⟨fun j hj hk => by
  unfold YtpbpgbedkmbfkaaDoor.updE at hk ⊢
  split at hk
  · rename_i e; rw [if_pos e]; exact he hk
  · rename_i e; rw [if_neg e]; exact h.inn j hj hk⟩
theorem verE {t : Nat → Ent} (h : ∀ i, i < 49 → 0 ≤ (t i).ver ∧ (t i).ver ≤ 16777215) {i : Nat} {e : Ent} (he : 0 ≤ e.ver ∧ e.ver ≤ 16777215) : ∀ j, j < 49 → 0 ≤ (updE t i e j).ver ∧ (updE t i e j).ver ≤ 16777215 := fun j hj => by
  unfold updE
  split
  · exact he
  · exact h j hj
theorem put2 {A : AF} (h : ∀ j, A.st j ≠ 2) {k : Nat} {x : Int} (hx : x ≠ 2) : ∀ j, (A.put k x).st j ≠ 2 := fun j => by
  simp only [AF.put]
  by_cases e : j = k
  · subst e; rw [upd_self]; exact hx
  · rw [upd_ne e]; exact h j
theorem alloc2 {A : AF} (h : ∀ j, A.st j ≠ 2) : ∀ j, A.alloc.1.st j ≠ 2 := by
  unfold AF.alloc
  split
  · exact put2 h (by decide)
  · exact h
theorem turn2 {A : AF} (h : ∀ j, A.st j ≠ 2) {line x y : Int} (hy : y ≠ 2) : ∀ j, (A.turn line x y).1.st j ≠ 2 := by
  unfold AF.turn
  split
  · exact h
  · split
    · exact h
    · exact put2 h hy
/-- Another memory, other frames of the same lines. -/
theorem AS.Ok.with {x : AS} (h : x.Ok) {M : AM} {A : AF} (hM : M.Ok) (hn : M.n = x.M.n) (hA : A.Ok) (hs : ∀ j, A.st j ≠ 2) (hf : A.f = x.A.f) (hl : A.l = x.A.l) : AS.Ok { x with M := M, A := A } :=
  ⟨hM, hA, by simp only; rw [hl, hn]; exact h.l, h.w.of hf hl, h.b.of hf hl, h.k.of hf hl, hs⟩
theorem AS.Ok.lay {x : AS} (h : x.Ok) (l : List Int) : (x.lay l).1.Ok := by
  unfold AS.lay
  split
  · exact h
  · exact h.with h.M.layFrom AM.layFrom_n h.A.alloc (alloc2 h.s2) alloc_fl.1 alloc_fl.2
theorem AS.lay_work {x : AS} (l : List Int) : (x.lay l).1.work = x.work ∧ (x.lay l).1.base = x.base ∧ (x.lay l).1.mark = x.mark ∧ (x.lay l).1.is = x.is ∧ (x.lay l).1.dir = x.dir ∧ (x.lay l).1.A.f = x.A.f ∧ (x.lay l).1.A.l = x.A.l := by
  unfold AS.lay
  split
  · exact ⟨rfl, rfl, rfl, rfl, rfl, rfl, rfl⟩
  · exact ⟨rfl, rfl, rfl, rfl, rfl, alloc_fl.1, alloc_fl.2⟩
theorem AS.lay_range {x : AS} (h : x.Ok) {l : List Int} (he : (x.lay l).2.2 = 0) : (x.A.f : Int) ≤ (x.lay l).2.1 ∧ (x.lay l).2.1 < x.A.l := by
  unfold AS.lay at he ⊢
  split at he
  · rename_i h1; exact absurd he h1
  · rename_i h1
    rw [if_neg h1]
    simp only at he ⊢
    rw [if_neg (by rw [he]; simp)]
    exact alloc_range h.A (by simpa using h1)
theorem AS.lay_count {x : AS} (l : List Int) : (x.lay l).1.M.count ≤ x.M.count + 8 := by
  unfold AS.lay
  split
  · simp only; omega
  · exact AM.layFrom_count
theorem AS.Ok.table {x : AS} (h : x.Ok) {w : Nat → Ent} (hw : w = x.work) {i : Nat} {e : Ent} (he : e.kind ≠ 0 → (x.A.f : Int) ≤ e.line ∧ e.line < x.A.l) : AS.Ok { x with work := updE w i e } := hw ▸
  ⟨h.M, h.A, h.l, h.w.updE he, h.b, h.k, h.s2⟩
theorem AS.Ok.set {x : AS} (h : x.Ok) (id word v : Int) : (x.set id word v).1.Ok := by
  unfold AS.set
  split
  · exact h
  · rename_i h0
    split
    · exact h
    · split
      · exact h.with h.M.store AM.store_n h.A h.s2 rfl rfl
      · split
        · exact h
        · split
          · exact h
          · have hl := h.lay ((x.M.load (x.work id.toNat).line).1.set word.toNat v)
            simp only
            split
            · exact hl
            · rename_i h6
              refine hl.table (AS.lay_work _).1.symm (fun _ => ?_)
              have := AS.lay_range h (by simpa using h6)
              rw [(AS.lay_work _).2.2.2.2.2.1, (AS.lay_work _).2.2.2.2.2.2]
              exact this
theorem AS.set_count {x : AS} (id word v : Int) : (x.set id word v).1.M.count ≤ x.M.count + 8 := by
  unfold AS.set
  split
  · simp only; omega
  · split
    · simp only; omega
    · split
      · have := AM.store_count (M := x.M) (i := (x.work id.toNat).line) (q := word) (v := v); simp only; omega
      · split
        · simp only; omega
        · split
          · simp only; omega
          · have hl := AS.lay_count (x := x) ((x.M.load (x.work id.toNat).line).1.set word.toNat v)
            simp only
            split
            · exact hl
            · exact hl
theorem nxI_lt {t : Nat → Ent} {k : Int} (h : nxE t k = 0) : 0 ≤ nxI t k ∧ nxI t k < 49 ∧ nxV t k = (t (nxI t k).toNat).ver ∧ openB (t (nxI t k).toNat) = true ∧ kindOk k := by
  unfold nxE nxI nxV at *
  by_cases hk : kindOk k
  · simp only [hk, if_true] at h ⊢
    cases hn : nxt t with
    | none => rw [hn] at h; cases h
    | some n =>
      have := nxt_some hn
      simp only [Int.toNat_natCast]
      exact ⟨by omega, by omega, trivial, this.2.1, trivial⟩
  · simp only [hk, if_false] at h; cases h
theorem AS.Ok.make {x : AS} (h : x.Ok) (k : Int) : (x.make k).1.Ok := by
  unfold AS.make
  split
  · exact h
  · rename_i h0
    have hl := h.lay zl
    simp only
    split
    · exact hl
    · rename_i h6
      have hn := nxI_lt (t := x.work) (k := k) (by simpa using h0)
      refine hl.table (AS.lay_work _).1.symm (fun _ => ?_)
      have := AS.lay_range h (by simpa using h6)
      rw [(AS.lay_work _).2.2.2.2.2.1, (AS.lay_work _).2.2.2.2.2.2]
      exact this
theorem AS.make_count {x : AS} (k : Int) : (x.make k).1.M.count ≤ x.M.count + 8 := by
  unfold AS.make
  split
  · simp only; omega
  · have hl := AS.lay_count (x := x) zl
    simp only
    split
    · exact hl
    · exact hl
theorem gE_ok {t : Nat → Ent} {id : Int} (h : gE t id = 0) : 0 ≤ id ∧ id < 49 ∧ (t id.toNat).kind ≠ 0 := by
  unfold gE at h
  split at h
  · cases h
  · split at h
    · cases h
    · rename_i h1 h2; exact ⟨by omega, by omega, h2⟩
theorem endV_range {v : Int} (h0 : 0 ≤ v) (h1 : v ≤ 16777215) : 0 ≤ endV v ∧ endV v ≤ 16777215 := by unfold endV; split <;> omega
theorem AS.Ok.ends {x : AS} (h : x.Ok) (id : Int) : (x.ends id).1.Ok := by
  unfold AS.ends
  split
  · exact h
  · rename_i h0
    have hi := gE_ok (by simpa using h0)
    have : AS.Ok { x with A := if x.own id.toNat then (x.A.turn (x.work id.toNat).line 1 0).1 else x.A } := by
      split
      · exact h.with h.M rfl (h.A.turn (.inl rfl)) (turn2 h.s2 (by decide)) turn_fl.1 turn_fl.2
      · exact h
    exact this.table rfl (fun hk => absurd rfl hk)
theorem AS.Ok.marks {x : AS} (h : x.Ok) : x.marks.1.Ok := by
  unfold AS.marks
  split
  · exact h
  · exact ⟨h.M, h.A, h.l, h.w, h.b, h.w, h.s2⟩
theorem AS.Ok.freed {x : AS} (h : x.Ok) : x.freed.Ok := by
  unfold AS.freed
  refine h.with h.M rfl ⟨h.A.fl, h.A.l1, fun j => ?_⟩ (fun j => ?_) rfl rfl
  · have := h.A.s3 j
    simp only
    split <;> omega
  · have := h.s2 j
    simp only
    split <;> omega
theorem AS.Ok.commit {x : AS} (h : x.Ok) (d : Nat → Int) : (x.commit d).1.Ok := by
  unfold AS.commit
  split
  · exact AS.Ok.freed ⟨h.M, h.A, h.l, h.w, h.k, h.k, h.s2⟩
  · exact h
theorem AS.Ok.abort {x : AS} (h : x.Ok) : x.abort.1.Ok := by
  unfold AS.abort
  split
  · exact AS.Ok.freed ⟨h.M, h.A, h.l, h.w, h.b, h.k, h.s2⟩
  · exact h
theorem AS.Ok.take {x : AS} (h : x.Ok) : x.take.1.Ok := h.with h.M rfl h.A.alloc (alloc2 h.s2) alloc_fl.1 alloc_fl.2
end Go.Proofs.YtpbpgbedkmbfkaaDoor
namespace Go.Proofs.YtpbpgbedkmbfkaaDoor
open Go.Ab
theorem rf_turn3 (s : St) (a : Nat) (F L X : V) (w : List Nat) (hw : OkS w) (hb : s.hp[a]? = some (.rw (.agg 80 [F, L, X, .agg 78 (w.map cN)]))) (i : Nat) (hi : i < 1024) :
    rf D f_frames_set_turn [.ptr (.hp a) [3] 78, .int .i64 i] s = some (.tup [], ⟨s.loc, s.hp.set a (.rw (.agg 80 [F, L, X, .agg 78 ((flip w i).map cN)]))⟩) := by
  have e1 := quo64 hi
  have e2 := rem64 (i := i)
  have hq : i / 64 < 16 := by omega
  have hr : i % 64 < 64 := by omega
  have hg := get_map (f := cN) (l := w) (i := i / 64) (by rw [hw.len]; exact hq) 0
  have hlt := hw.get hq
  unfold YtpbpgbedkmbfkaaDoor.flip
  generalize i / 64 = q at *
  generalize i % 64 = r at *
  generalize w.getD q 0 = x at *
  have e3 := shl_one hr
  have e4 := ixor_nat hlt (two_lt hr)
  rw [List.map_set]
  generalize x ^^^ 2 ^ r = y at *
  generalize 2 ^ r = z at *
  have d1 : (q : Int) < 16 := by omega
  have d2 : (0 : Int) ≤ q := by omega
  have d3 : ¬ (r : Int) < 0 := by omega
  rw [rf_o D_frames_set_turn rfl]
  simp only [go_sem, e1, e2, d1, d2, d3]
  rw [Int.toNat_natCast]
  simp only [go_sem, hb, hg, e3, e4]
/-- How many of the first n bits are set. -/
def pc : Nat → Nat → Nat
  | 0, _ => 0
  | n + 1, w => w % 2 + pc n (w / 2)
theorem split_and {a b x m : Nat} (ha : a < 256) (hb : b < 256) : (a + 256 * x) &&& (b + 256 * m) = (a &&& b) + 256 * (x &&& m) := by
  have hab : a &&& b < 256 := Nat.lt_of_le_of_lt Nat.and_le_left ha
  apply Nat.eq_of_testBit_eq
  intro j
  have e : ∀ {c y : Nat}, c < 256 → (c + 256 * y).testBit j = if j < 8 then c.testBit j else y.testBit (j - 8) := fun {c y} hc => by
    rw [Nat.add_comm]
    exact Nat.testBit_two_pow_mul_add (i := 8) y hc j
  rw [Nat.testBit_and, e ha, e hb, e hab]
  split <;> simp [Nat.testBit_and]
def val : List Nat → Nat
  | [] => 0
  | b :: l => b + 256 * val l
def rep (c : Nat) : Nat → Nat
  | 0 => 0
  | n + 1 => c + 256 * rep c n
def s1 (b : Nat) : Nat := (b / 2 &&& 85) + (b &&& 85)
def s2 (b : Nat) : Nat := (b / 4 &&& 51) + (b &&& 51)
def s3 (b : Nat) : Nat := (b / 16 + b) &&& 15
theorem all256 {p : Nat → Bool} (h : (List.range 256).all p = true) {b : Nat} (hb : b < 256) : p b = true := List.all_eq_true.1 h b (List.mem_range.2 hb)
theorem m1 {b t : Nat} (hb : b < 256) (ht : t < 2) : (b / 2 + 128 * t) &&& 85 = b / 2 &&& 85 := by
  have h : (List.range 256).all (fun b => (List.range 2).all fun t => ((b / 2 + 128 * t) &&& 85) == (b / 2 &&& 85)) = true := by decide +kernel
  have := all256 h hb
  simpa using List.all_eq_true.1 this t (List.mem_range.2 ht)
theorem m2 {b t : Nat} (hb : b < 256) (ht : t < 4) : (b / 4 + 64 * t) &&& 51 = b / 4 &&& 51 := by
  have h : (List.range 256).all (fun b => (List.range 4).all fun t => ((b / 4 + 64 * t) &&& 51) == (b / 4 &&& 51)) = true := by decide +kernel
  have := all256 h hb
  simpa using List.all_eq_true.1 this t (List.mem_range.2 ht)
def nib (b : Nat) : Bool := decide (b % 16 ≤ 4) && decide (b / 16 ≤ 4)
theorem nib_s {b : Nat} (hb : b < 256) : nib (s2 (s1 b)) = true := by
  have h : (List.range 256).all (fun b => nib (s2 (s1 b))) = true := by decide +kernel
  exact all256 h hb
theorem s1_lt {b : Nat} (hb : b < 256) : s1 b < 256 := by
  have h : (List.range 256).all (fun b => decide (s1 b < 256)) = true := by decide +kernel
  simpa using all256 h hb
theorem s_pc {b : Nat} (hb : b < 256) : s3 (s2 (s1 b)) = pc 8 b := by
  have h : (List.range 256).all (fun b => s3 (s2 (s1 b)) == pc 8 b) = true := by decide +kernel
  simpa using all256 h hb
theorem m3 {b t : Nat} (hb : nib b = true) (ht : t ≤ 4) : (b / 16 + b + 16 * t) < 256 ∧ (b / 16 + b + 16 * t) &&& 15 = s3 b := by
  have h : (List.range 256).all (fun b => !nib b || (List.range 5).all fun t => decide ((b / 16 + b + 16 * t) < 256) && ((b / 16 + b + 16 * t) &&& 15) == s3 b) = true := by decide +kernel
  have hb' := hb
  simp only [nib, Bool.and_eq_true, decide_eq_true_eq] at hb'
  have := all256 h (b := b) (by omega)
  simp only [hb, Bool.not_true, Bool.false_or] at this
  simpa using List.all_eq_true.1 this t (List.mem_range.2 (by omega))
theorem S1 : ∀ {l : List Nat}, (∀ b ∈ l, b < 256) → ((val l / 2) &&& rep 85 l.length) + (val l &&& rep 85 l.length) = val (l.map s1)
  | [], _ => rfl
  | b :: l, h => by
    have hb := h b (List.mem_cons_self ..)
    have ih := S1 (l := l) fun x hx => h x (List.mem_cons_of_mem _ hx)
    simp only [val, rep, List.length_cons, List.map_cons]
    rw [show (b + 256 * val l) / 2 = (b / 2 + 128 * (val l % 2)) + 256 * (val l / 2) by omega, split_and (by omega) (by decide), split_and hb (by decide), m1 hb (by omega), ← ih]
    unfold s1
    omega
theorem S2 : ∀ {l : List Nat}, (∀ b ∈ l, b < 256) → ((val l / 4) &&& rep 51 l.length) + (val l &&& rep 51 l.length) = val (l.map s2)
  | [], _ => rfl
  | b :: l, h => by
    have hb := h b (List.mem_cons_self ..)
    have ih := S2 (l := l) fun x hx => h x (List.mem_cons_of_mem _ hx)
    simp only [val, rep, List.length_cons, List.map_cons]
    rw [show (b + 256 * val l) / 4 = (b / 4 + 64 * (val l % 4)) + 256 * (val l / 4) by omega, split_and (by omega) (by decide), split_and hb (by decide), m2 hb (by omega), ← ih]
    unfold s2
    omega
theorem val_low : ∀ {l : List Nat}, (∀ b ∈ l, nib b = true) → val l % 16 ≤ 4
  | [], _ => by decide
  | b :: l, h => by
    have hb := h b (List.mem_cons_self ..)
    simp only [nib, Bool.and_eq_true, decide_eq_true_eq] at hb
    simp only [val]
    omega
theorem S3 : ∀ {l : List Nat}, (∀ b ∈ l, nib b = true) → ((val l / 16) + val l) &&& rep 15 l.length = val (l.map s3)
  | [], _ => rfl
  | b :: l, h => by
    have hb := h b (List.mem_cons_self ..)
    have hl := fun x hx => h x (List.mem_cons_of_mem _ hx)
    have ih := S3 (l := l) hl
    obtain ⟨g1, g2⟩ := m3 hb (val_low hl)
    simp only [val, rep, List.length_cons, List.map_cons]
    rw [show (b + 256 * val l) / 16 + (b + 256 * val l) = (b / 16 + b + 16 * (val l % 16)) + 256 * (val l / 16 + val l) by omega, split_and g1 (by decide), g2, ih]
theorem pc_add : ∀ (n m w : Nat), pc (n + m) w = pc n w + pc m (w / 2 ^ n)
  | 0, m, w => by simp [pc]
  | n + 1, m, w => by
    rw [show n + 1 + m = (n + m) + 1 by omega]
    simp only [pc]
    rw [pc_add n m (w / 2), Nat.div_div_eq_div_mul, Nat.pow_succ, Nat.mul_comm 2, Nat.add_assoc]
theorem pc_mod : ∀ (n w : Nat), pc n (w % 2 ^ n) = pc n w
  | 0, w => rfl
  | n + 1, w => by
    simp only [pc]
    rw [show w % 2 ^ (n + 1) % 2 = w % 2 by rw [Nat.pow_succ]; exact Nat.mod_mod_of_dvd _ (Nat.dvd_mul_left 2 _)]
    rw [show w % 2 ^ (n + 1) / 2 = (w / 2) % 2 ^ n by rw [Nat.pow_succ, Nat.mul_comm, Nat.mod_mul_right_div_self], pc_mod n]
def bytes : Nat → Nat → List Nat
  | 0, _ => []
  | n + 1, w => w % 256 :: bytes n (w / 256)
theorem bytes_len : ∀ n w, (bytes n w).length = n
  | 0, _ => rfl
  | n + 1, w => by simp only [bytes, List.length_cons, bytes_len n]
theorem bytes_lt : ∀ n w, ∀ b ∈ bytes n w, b < 256
  | 0, _, b, h => by cases h
  | n + 1, w, b, h => by
    rcases List.mem_cons.1 h with rfl | h
    · omega
    · exact bytes_lt n _ b h
theorem val_bytes : ∀ n w, w < 256 ^ n → val (bytes n w) = w
  | 0, w, h => by simp only [bytes, val]; omega
  | n + 1, w, h => by
    have : w / 256 < 256 ^ n := by rw [Nat.pow_succ] at h; omega
    simp only [bytes, val, val_bytes n _ this]; omega
theorem sum_bytes : ∀ n w, ((bytes n w).map (pc 8)).sum = pc (8 * n) w
  | 0, _ => rfl
  | n + 1, w => by
    rw [show 8 * (n + 1) = 8 + 8 * n by omega, pc_add]
    simp only [bytes, List.map_cons, List.sum_cons, sum_bytes n]
    rw [show (256 : Nat) = 2 ^ 8 by decide, pc_mod]
theorem pc_le : ∀ n w, pc n w ≤ n
  | 0, _ => Nat.le_refl _
  | n + 1, w => by
    have := pc_le n (w / 2)
    simp only [pc]; omega
theorem steps {w : Nat} (hw : w < 18446744073709551616) : ∃ y : List Nat, y.length = 8 ∧ (∀ b ∈ y, b ≤ 8) ∧ y.sum = pc 64 w ∧
    val y = ((((w / 2 &&& 6148914691236517205) + (w &&& 6148914691236517205)) / 4 &&& 3689348814741910323) + (((w / 2 &&& 6148914691236517205) + (w &&& 6148914691236517205)) &&& 3689348814741910323)) / 16 +
      ((((w / 2 &&& 6148914691236517205) + (w &&& 6148914691236517205)) / 4 &&& 3689348814741910323) + (((w / 2 &&& 6148914691236517205) + (w &&& 6148914691236517205)) &&& 3689348814741910323)) &&& 1085102592571150095 := by
  have hl := bytes_lt 8 w
  have hn := bytes_len 8 w
  have hv := val_bytes 8 w hw
  have hs := sum_bytes 8 w
  generalize bytes 8 w = l at *
  refine ⟨l.map (pc 8), by simpa using hn, fun b hb => ?_, hs, ?_⟩
  · obtain ⟨x, _, rfl⟩ := List.mem_map.1 hb
    exact pc_le 8 x
  · have h1 : ∀ b ∈ l.map s1, b < 256 := fun b hb => by
      obtain ⟨x, hx, rfl⟩ := List.mem_map.1 hb
      exact s1_lt (hl x hx)
    have h2 : ∀ b ∈ (l.map s1).map s2, nib b = true := fun b hb => by
      obtain ⟨x, hx, rfl⟩ := List.mem_map.1 hb
      obtain ⟨z, hz, rfl⟩ := List.mem_map.1 hx
      exact nib_s (hl z hz)
    have a1 := S1 hl
    have a2 := S2 h1
    have a3 := S3 h2
    simp only [List.length_map, hn] at a1 a2 a3
    rw [hv, show rep 85 8 = 6148914691236517205 by decide] at a1
    rw [← a1, show rep 51 8 = 3689348814741910323 by decide] at a2
    rw [← a2, show rep 15 8 = 1085102592571150095 by decide] at a3
    rw [a3, List.map_map, List.map_map]
    refine congrArg val (List.map_congr_left fun b hb => ?_)
    exact (s_pc (hl b hb)).symm
theorem fold4 {y0 A1 : Nat} (h : y0 ≤ 8) : (y0 + 256 * A1) / 256 = A1 := by omega
theorem fold5 {y0 y1 y2 A2 A3 : Nat} (h0 : y0 ≤ 8) (h1 : y1 ≤ 8) (h2 : y2 ≤ 8) : (y0 + 256 * y1 + 65536 * A2 + (y1 + 256 * y2 + 65536 * A3)) / 65536 = A2 + A3 := by omega
theorem fold6 {y0 y1 y2 y3 y4 y5 y6 A4 A5 A6 A7 : Nat} (h0 : y0 ≤ 8) (h1 : y1 ≤ 8) (h2 : y2 ≤ 8) (h3 : y3 ≤ 8) (h4 : y4 ≤ 8) (h5 : y5 ≤ 8) (h6 : y6 ≤ 8) :
    ((y0 + 256 * y1 + 65536 * y2 + 16777216 * y3 + 4294967296 * A4) + (y1 + 256 * y2 + 65536 * y3 + 16777216 * y4 + 4294967296 * A5) + (y2 + 256 * y3 + 65536 * y4 + 16777216 * y5 + 4294967296 * A6) + (y3 + 256 * y4 + 65536 * y5 + 16777216 * y6 + 4294967296 * A7)) / 4294967296 = A4 + A5 + A6 + A7 := by
  have e : (y0 + 256 * y1 + 65536 * y2 + 16777216 * y3 + 4294967296 * A4) + (y1 + 256 * y2 + 65536 * y3 + 16777216 * y4 + 4294967296 * A5) + (y2 + 256 * y3 + 65536 * y4 + 16777216 * y5 + 4294967296 * A6) + (y3 + 256 * y4 + 65536 * y5 + 16777216 * y6 + 4294967296 * A7) =
    (y0 + y1 + y2 + y3 + 256 * (y1 + y2 + y3 + y4) + 65536 * (y2 + y3 + y4 + y5) + 16777216 * (y3 + y4 + y5 + y6)) + 4294967296 * (A4 + A5 + A6 + A7) := by omega
  rw [e, Nat.add_mul_div_left _ _ (by decide), Nat.div_eq_of_lt (by omega), Nat.zero_add]
theorem fold8 {y : List Nat} (h8 : y.length = 8) (hy : ∀ b ∈ y, b ≤ 8) : ∃ x4 x5 x6 : Nat, x4 = val y + val y / 256 ∧ x5 = x4 + x4 / 65536 ∧ x6 = x5 + x5 / 4294967296 ∧ x6 % 128 = y.sum ∧ x6 < 9223372036854775808 := by
  match y, h8, hy with
  | [y0, y1, y2, y3, y4, y5, y6, y7], _, hy =>
    have h0 := hy y0 (by simp)
    have h1 := hy y1 (by simp)
    have h2 := hy y2 (by simp)
    have h3 := hy y3 (by simp)
    have h4 := hy y4 (by simp)
    have h5 := hy y5 (by simp)
    have h6 := hy y6 (by simp)
    have h7 := hy y7 (by simp)
    obtain ⟨A6, a6⟩ : ∃ A, A = y6 + 256 * y7 := ⟨_, rfl⟩
    obtain ⟨A5, a5⟩ : ∃ A, A = y5 + 256 * A6 := ⟨_, rfl⟩
    obtain ⟨A4, a4⟩ : ∃ A, A = y4 + 256 * A5 := ⟨_, rfl⟩
    obtain ⟨A3, a3⟩ : ∃ A, A = y3 + 256 * A4 := ⟨_, rfl⟩
    obtain ⟨A2, a2⟩ : ∃ A, A = y2 + 256 * A3 := ⟨_, rfl⟩
    obtain ⟨A1, a1⟩ : ∃ A, A = y1 + 256 * A2 := ⟨_, rfl⟩
    have e0 : val [y0, y1, y2, y3, y4, y5, y6, y7] = y0 + 256 * A1 := by simp only [val, Nat.mul_zero, Nat.add_zero]; rw [a1, a2, a3, a4, a5, a6]
    have e4 := fold4 (A1 := A1) h0
    have e5 : (y0 + 256 * A1 + A1) / 65536 = A2 + A3 := by
      rw [← fold5 (A2 := A2) (A3 := A3) h0 h1 h2]; congr 1; omega
    have e6 : (y0 + 256 * A1 + A1 + (A2 + A3)) / 4294967296 = A4 + A5 + A6 + y7 := by
      rw [← fold6 (A4 := A4) (A5 := A5) (A6 := A6) (A7 := y7) h0 h1 h2 h3 h4 h5 h6]; congr 1; omega
    refine ⟨y0 + 256 * A1 + A1, y0 + 256 * A1 + A1 + (A2 + A3), y0 + 256 * A1 + A1 + (A2 + A3) + (A4 + A5 + A6 + y7), ?_, ?_, ?_, ?_, ?_⟩
    · rw [e0, e4]
    · rw [e5]
    · rw [e6]
    · simp only [List.sum_cons, List.sum_nil]; omega
    · omega
theorem iand127 {n : Nat} (hn : n < 9223372036854775808) : iand .i64 (n : Int) 127 = ((n % 128 : Nat) : Int) := by
  unfold iand Go.Ab.bits
  show IntKind.i64.wrap (((BitVec.ofInt IntKind.i64.bits (n : Int)) &&& (BitVec.ofInt IntKind.i64.bits 127)).toNat : Int) = _
  have e1 : (BitVec.ofInt IntKind.i64.bits (n : Int)).toNat = n := by
    rw [BitVec.ofInt_natCast, BitVec.toNat_ofNat]
    exact Nat.mod_eq_of_lt (by simp only [IntKind.bits]; omega)
  rw [BitVec.toNat_and, e1, show (BitVec.ofInt IntKind.i64.bits 127).toNat = 2 ^ 7 - 1 by decide, Nat.and_two_pow_sub_one_eq_mod]
  exact i64_id (by omega) (by omega)
theorem OkS.or {w : List Nat} (h : OkS w) {i x : Nat} (hi : i < 16) (hx : x < 18446744073709551616) : OkS (w.set i (w.getD i 0 ||| x)) := by
  refine ⟨by simp [h.len], fun y hy => ?_⟩
  rcases List.mem_or_eq_of_mem_set hy with hy | rfl
  · exact h.lt y hy
  · exact Nat.or_lt_two_pow (n := 64) (h.get hi) hx
theorem bit_or {w v : List Nat} (h : OkS w) {i : Nat} (hi : i < 16) (j : Nat) : bit (w.set i (w.getD i 0 ||| v.getD i 0)) j = (bit w j || (decide (j / 64 = i) && bit v j)) := by
  unfold bit
  have hlen := h.len
  by_cases hq : i = j / 64
  · subst hq
    rw [List.getD_eq_getElem?_getD, List.getElem?_set_self (by omega)]
    simp [Nat.testBit_or]
  · have hq' : ¬ j / 64 = i := fun h => hq h.symm
    rw [List.getD_eq_getElem?_getD, List.getElem?_set_ne hq, ← List.getD_eq_getElem?_getD]
    simp [hq']
/-- How many bits of the first n words are set; of the first n lines. -/
def cntU (w : List Nat) : Nat → Nat
  | 0 => 0
  | n + 1 => cntU w n + pc 64 (w.getD n 0)
def nb (w : List Nat) : Nat → Nat
  | 0 => 0
  | n + 1 => nb w n + if bit w n then 1 else 0
theorem pc_succ (k x : Nat) : pc (k + 1) x = pc k x + if x.testBit k then 1 else 0 := by
  rw [pc_add k 1, Nat.testBit_eq_decide_div_mod_eq]
  simp only [pc, Nat.add_zero]
  by_cases h : x / 2 ^ k % 2 = 1
  · simp [h]
  · have : x / 2 ^ k % 2 = 0 := by omega
    simp [this]
theorem nb_part (w : List Nat) (q : Nat) : ∀ k, k ≤ 64 → nb w (64 * q + k) = nb w (64 * q) + pc k (w.getD q 0)
  | 0, _ => by simp [pc]
  | k + 1, hk => by
    have ih := nb_part w q k (by omega)
    rw [← Nat.add_assoc, pc_succ]
    simp only [nb]
    rw [ih]
    have : bit w (64 * q + k) = (w.getD q 0).testBit k := by
      unfold bit
      rw [show (64 * q + k) / 64 = q by omega, show (64 * q + k) % 64 = k by omega]
    rw [this, Nat.add_assoc]
theorem nb_cnt (w : List Nat) : ∀ q, nb w (64 * q) = cntU w q
  | 0 => rfl
  | q + 1 => by
    rw [show 64 * (q + 1) = 64 * q + 64 by omega, nb_part w q 64 (Nat.le_refl _), nb_cnt w q]
    rfl
theorem cnt_le (w : List Nat) : ∀ q, cntU w q ≤ 64 * q
  | 0 => Nat.le_refl _
  | q + 1 => by
    have := cnt_le w q
    have := pc_le 64 (w.getD q 0)
    simp only [cntU]
    omega
def nz (S : List Int) : Nat → Nat
  | 0 => 0
  | n + 1 => nz S n + if S.getD n 0 = 0 then 1 else 0
theorem nz_le (S : List Int) : ∀ n, nz S n ≤ n
  | 0 => Nat.le_refl _
  | n + 1 => by
    have := nz_le S n
    simp only [nz]
    split <;> omega
end Go.Proofs.YtpbpgbedkmbfkaaDoor
namespace Go.Proofs.YtpbpgbedkmbfkaaDoor
open Go.Ab

/-- The program's frames, in the block a. -/
structure FrP (hp : List Blk) (a : Nat) (A : AF) : Prop where
  ok : A.Ok
  blk : ∃ wf wl, hp[a]? = some (.rw (frV A.f A.l wf wl)) ∧ OkS wf ∧ OkS wl ∧ (∀ j, j < 1024 → bit wf j = (A.inr j && decide (A.st j = 0))) ∧ (∀ j, j < 1024 → bit wl j = (A.inr j && decide (A.st j = 2)))
theorem FrP.eqv {hp hp' : List Blk} {a : Nat} {A : AF} (h : FrP hp a A) (he : hp'[a]? = hp[a]?) : FrP hp' a A := by
  obtain ⟨wf, wl, h1, h2⟩ := h.blk
  exact ⟨h.ok, wf, wl, by rw [he]; exact h1, h2⟩
theorem FrP.lt {hp : List Blk} {a : Nat} {A : AF} (h : FrP hp a A) : a < hp.length := by
  obtain ⟨wf, wl, h1, h2⟩ := h.blk
  exact lt_of_get h1
theorem inr_of {A : AF} {j : Nat} : A.inr j = true ↔ A.f ≤ j ∧ j < A.l := by simp [AF.inr]
theorem state_of {A : AF} (hA : A.Ok) {wf wl : List Nat} (h1 : ∀ j, j < 1024 → bit wf j = (A.inr j && decide (A.st j = 0))) (h2 : ∀ j, j < 1024 → bit wl j = (A.inr j && decide (A.st j = 2))) (line : Int) : stOf A.f A.l wf wl line = A.state line := by
  unfold stOf AF.state
  have := hA.l1
  by_cases c : line < A.f ∨ (A.l : Int) ≤ line
  · rw [if_pos c, if_pos c]
  · rw [if_neg c, if_neg c]
    have hr : A.inr line.toNat = true := inr_of.2 (by omega)
    rw [h1 _ (by omega), h2 _ (by omega), hr]
    have := hA.s3 line.toNat
    by_cases e0 : A.st line.toNat = 0
    · simp [e0]
    · by_cases e2 : A.st line.toNat = 2
      · simp [e2]
      · simp [e0, e2]; omega
theorem FrP.fr {hp : List Blk} {a : Nat} {A : AF} (h : FrP hp a A) : ∃ wf wl, (∀ L, Fr ⟨L, hp⟩ a A.f A.l wf wl) ∧ (∀ j, j < 1024 → bit wf j = (A.inr j && decide (A.st j = 0))) ∧ (∀ j, j < 1024 → bit wl j = (A.inr j && decide (A.st j = 2))) := by
  obtain ⟨wf, wl, h1, h2, h3, h4, h5⟩ := h.blk
  exact ⟨wf, wl, fun L => ⟨h1, by omega, by have := h.ok.l1; omega, h2, h3⟩, h4, h5⟩
theorem rf_fp_State {hp : List Blk} {a : Nat} {A : AF} (h : FrP hp a A) (line : Int) (L : List Blk) : rf D f_frames_Frames_State [.ptr (.hp a) [] 80, .int .i64 line] ⟨L, hp⟩ = some (.int .i64 (A.state line), ⟨L, hp⟩) := by
  obtain ⟨wf, wl, h1, h2, h3⟩ := h.fr
  rw [rf_State (h1 L) line, state_of h.ok h2 h3]
/-- Bits behind a line has been put from one state into another. -/
theorem bits_flip {A : AF} (hA : A.Ok) {w : List Nat} (hw : OkS w) {c : Int} (h : ∀ j, j < 1024 → bit w j = (A.inr j && decide (A.st j = c))) {k : Nat} (hk : A.inr k = true) {x : Int} (hx : (A.st k = c) ≠ (x = c)) :
    ∀ j, j < 1024 → bit (flip w k) j = ((A.put k x).inr j && decide ((A.put k x).st j = c)) := by
  intro j hj
  have hk' := inr_of.1 hk
  have := hA.l1
  rw [bit_flip hw (by omega), h j hj]
  have e : (A.put k x).inr j = A.inr j := rfl
  rw [e]
  by_cases ej : k = j
  · subst ej
    rw [hk]
    have e2 : (A.put k x).st k = x := upd_self
    rw [e2]
    by_cases c1 : A.st k = c
    · have c2 : ¬ x = c := fun c2 => hx (by simp [c1, c2])
      simp [c1, c2]
    · have c2 : x = c := by
        by_cases c2 : x = c
        · exact c2
        · exact absurd (by simp [c1, c2]) hx
      simp [c1, c2]
  · have e2 : (A.put k x).st j = A.st j := upd_ne fun e => ej e.symm
    rw [e2]
    simp [ej]
theorem bits_same {A : AF} {w : List Nat} {c : Int} (h : ∀ j, j < 1024 → bit w j = (A.inr j && decide (A.st j = c))) {k : Nat} {x : Int} (hx : (A.st k = c) = (x = c)) :
    ∀ j, j < 1024 → bit w j = ((A.put k x).inr j && decide ((A.put k x).st j = c)) := by
  intro j hj
  rw [h j hj]
  have e : (A.put k x).inr j = A.inr j := rfl
  rw [e]
  by_cases ej : j = k
  · subst ej
    have e2 : (A.put j x).st j = x := upd_self
    rw [e2, decide_eq_decide.2 (iff_of_eq hx)]
  · have e2 : (A.put k x).st j = A.st j := upd_ne ej
    rw [e2]
theorem state_neg {A : AF} (hA : A.Ok) {line : Int} : A.state line < 0 ↔ A.state line = -1 := by
  unfold AF.state
  split
  · simp
  · have := hA.s3 line.toNat
    constructor <;> omega
theorem inE_turn {A : AF} (hA : A.Ok) {line x y : Int} (hx : A.state line ≠ x) : inE (A.state line) x = (A.turn line x y).2 ∧ (A.turn line x y).1 = A := by
  unfold inE AF.turn
  by_cases c : A.state line < 0
  · rw [if_pos c, if_pos ((state_neg hA).1 c)]; exact ⟨rfl, rfl⟩
  · rw [if_neg c, if_neg (fun e => c ((state_neg hA).2 e)), if_neg hx, if_pos hx]; exact ⟨rfl, rfl⟩
theorem turn_ok {A : AF} {line x y : Int} (h : A.state line = x) (hx : 0 ≤ x) : A.turn line x y = (A.put line.toNat y, 0) := by
  unfold AF.turn; rw [if_neg (by omega), if_neg (by omega)]
theorem rf_fp_Take {hp : List Blk} {a : Nat} {A : AF} (h : FrP hp a A) (line : Int) (L : List Blk) :
    ∃ hp', rf D f_frames_Frames_Take [.ptr (.hp a) [] 80, .int .i64 line] ⟨L, hp⟩ = some (.int .i64 (A.turn line 0 1).2, ⟨L, hp'⟩) ∧ FrP hp' a (A.turn line 0 1).1 ∧ Chg hp hp' (.one a) (.one a) := by
  obtain ⟨wf, wl, h1, h2, h3⟩ := h.fr
  have hs := state_of h.ok h2 h3 line
  by_cases e : A.state line = 0
  · have hr := state_range (A := A) (line := line) (by omega)
    have hk : A.inr line.toNat = true := inr_of.2 (by omega)
    have e0 := state_in hr.1 hr.2
    rw [turn_ok e (by omega)]
    refine ⟨_, rf_Take_ok (h1 L) line (by rw [hs, e]), ⟨h.ok.put (.inr (.inl rfl)), _, _, List.getElem?_set_self h.lt, (h1 L).okf.flip (by have := h.ok.l1; omega), (h1 L).okl, bits_flip h.ok (h1 L).okf h2 hk (by simp; omega), bits_same h3 (by simp; omega)⟩, chg_set⟩
  · obtain ⟨e1, e2⟩ := inE_turn (y := 1) h.ok e
    refine ⟨hp, by rw [rf_Take_no (h1 L) line (by rw [hs]; exact e), hs, e1], by rw [e2]; exact h, .refl _ _⟩
theorem rf_fp_Alloc {hp : List Blk} {a : Nat} {A : AF} (h : FrP hp a A) (hG : hp[0]? = some (.ro globV_0)) (L : List Blk) :
    ∃ hp', rf D f_frames_Frames_Alloc [.ptr (.hp a) [] 80] ⟨L, hp⟩ = some (.tup [.int .i64 A.alloc.2.1, .int .i64 A.alloc.2.2], ⟨L, hp'⟩) ∧ FrP hp' a A.alloc.1 ∧ Chg hp hp' (.one a) (.one a) := by
  obtain ⟨wf, wl, h1, h2, h3⟩ := h.fr
  unfold AF.alloc
  rcases rf_Alloc (h1 L) hG with ⟨n, hf, e⟩ | ⟨hf, e⟩
  · have hn := h2 n hf.lt
    rw [hf.set] at hn
    have hn := hn.symm
    rw [Bool.and_eq_true, inr_of, decide_eq_true_eq] at hn
    have : A.first = some n := by
      cases hq : A.first with
      | none => exact absurd hn.2 (first_none h.ok hq n hn.1.1 hn.1.2)
      | some q =>
        obtain ⟨g1, g2, g3, g4⟩ := first_some h.ok hq
        congr 1
        have hq1 : ¬ q < n := fun hlt => by
          have := hf.less q hlt
          have hlt2 := hf.lt
          rw [h2 q (by omega)] at this
          simp [inr_of.2 ⟨g1, g2⟩, g3] at this
        have hq2 : ¬ n < q := fun hlt => g4 n hn.1.1 hlt hn.2
        omega
    rw [this]
    refine ⟨_, e, ⟨h.ok.put (.inr (.inl rfl)), _, _, List.getElem?_set_self h.lt, (h1 L).okf.flip hf.lt, (h1 L).okl, bits_flip h.ok (h1 L).okf h2 (inr_of.2 hn.1) (by simp [hn.2]), bits_same h3 (by simp [hn.2])⟩, chg_set⟩
  · have : A.first = none := by
      cases hq : A.first with
      | none => rfl
      | some q =>
        obtain ⟨g1, g2, g3, g4⟩ := first_some h.ok hq
        have := hf q (by have := h.ok.l1; omega)
        rw [h2 q (by have := h.ok.l1; omega)] at this
        simp [inr_of.2 ⟨g1, g2⟩, g3] at this
    rw [this]
    exact ⟨hp, e, h, .refl _ _⟩
theorem nb_low {w : List Nat} : ∀ n, (∀ j, j < n → bit w j = false) → nb w n = 0
  | 0, _ => rfl
  | n + 1, h => by simp only [nb]; rw [nb_low n fun j hj => h j (by omega), h n (by omega)]; rfl
theorem nb_cntA {A : AF} {w : List Nat} : ∀ (n i : Nat), (∀ j, i ≤ j → j < i + n → bit w j = decide (A.st j = 0)) → nb w (i + n) = nb w i + A.cnt i n
  | 0, i, _ => rfl
  | n + 1, i, h => by
    have e := nb_cntA (A := A) (w := w) n (i + 1) fun j h1 h2 => h j (by omega) (by omega)
    rw [show i + (n + 1) = i + 1 + n by omega, e]
    simp only [nb, AF.cnt, h i (Nat.le_refl _) (by omega), decide_eq_true_eq]
    omega
theorem nb_high {w : List Nat} {i : Nat} : ∀ n, (∀ j, i ≤ j → j < i + n → bit w j = false) → nb w (i + n) = nb w i
  | 0, _ => rfl
  | n + 1, h => by
    rw [show i + (n + 1) = (i + n) + 1 by omega]
    simp only [nb]
    rw [nb_high n fun j h1 h2 => h j h1 (by omega), h (i + n) (by omega) (by omega)]; rfl
end Go.Proofs.YtpbpgbedkmbfkaaDoor
namespace Go.Proofs.YtpbpgbedkmbfkaaDoor
open Go.Ab

def AS.f (x : AS) (m fr : Nat) : StF := ⟨m, fr, x.work, x.base, x.dir, x.mark, x.is⟩
/-- The program's objects: the store's block a, on the memory m; the blocks of its frames, and of memory. -/
structure StoQ (hp : List Blk) (Fm : Ft) (a m fr : Nat) (x : AS) : Prop where
  ok : x.Ok
  g : hp[0]? = some (.ro globV_0)
  st : hp[a]? = some (.rw ((x.f m fr).v x.sh))
  fp : FrP hp fr x.A
  mp : MemP hp Fm m x.M
  ne : a ≠ fr
  na : ¬ Fm a
  nf : ¬ Fm fr
  nz : ¬ Fm 0
def StF3 (a fr : Nat) (Fm : Ft) : Ft := fun j => j = a ∨ j = fr ∨ Fm j
def StoP (hp : List Blk) (F : Ft) (a m : Nat) (x : AS) : Prop := ∃ fr Fm, StoQ hp Fm a m fr x ∧ F = StF3 a fr Fm
section
variable {hp hp' : List Blk} {F G G' Fm : Ft} {a m fr : Nat} {x : AS}
theorem StoQ.inn (h : StoQ hp Fm a m fr x) : Inn hp (StF3 a fr Fm) := fun j hj => by
  rcases hj with rfl | rfl | hj
  · exact lt_of_get h.st
  · exact h.fp.lt
  · exact h.mp.inn j hj
theorem StoQ.a0 (h : StoQ hp Fm a m fr x) : a ≠ 0 := by
  intro e; have := h.st; rw [e, h.g] at this; cases this
theorem StoQ.f0 (h : StoQ hp Fm a m fr x) : fr ≠ 0 := by
  intro e
  obtain ⟨wf, wl, h1, _⟩ := h.fp.blk
  rw [e, h.g] at h1; cases h1
theorem StoP.nz (h : StoP hp F a m x) : ¬ F 0 := by
  obtain ⟨fr, Fm, h, rfl⟩ := h
  rintro (e | e | e)
  · exact h.a0 e.symm
  · exact h.f0 e.symm
  · exact h.nz e
theorem StoP.inn (h : StoP hp F a m x) : Inn hp F := by
  obtain ⟨fr, Fm, h, rfl⟩ := h
  exact h.inn
theorem StoP.ok (h : StoP hp F a m x) : x.Ok := by
  obtain ⟨fr, Fm, h, rfl⟩ := h
  exact h.ok
theorem StoP.g (h : StoP hp F a m x) : hp[0]? = some (.ro globV_0) := by
  obtain ⟨fr, Fm, h, rfl⟩ := h
  exact h.g
theorem StoP.chg (h : StoP hp F a m x) (hc : Chg hp hp' G G') (ha : Apart G F) (hg : ¬ G 0) : StoP hp' F a m x := by
  obtain ⟨fr, Fm, h, rfl⟩ := h
  refine ⟨fr, Fm, ⟨h.ok, hc.get h.g hg, hc.get h.st fun e => ha a e (.inl rfl), h.fp.eqv (hc.old fr h.fp.lt fun e => ha fr e (.inr (.inl rfl))), h.mp.chg hc fun j h1 h2 => ha j h1 (.inr (.inr h2)), h.ne, h.na, h.nf, h.nz⟩, rfl⟩
/-- Memory changes by itself. -/
theorem StoQ.setM (h : StoQ hp Fm a m fr x) {M : AM} {Fm' : Ft} (hm : MemP hp' Fm' m M) (hc : Chg hp hp' Fm Fm') (hn : M.n = x.M.n) : StoQ hp' Fm' a m fr { x with M := M } := by
  have ha : a < hp.length := lt_of_get h.st
  refine ⟨h.ok.with hm.ok hn h.ok.A h.ok.s2 rfl rfl, hc.get h.g h.nz, hc.get h.st h.na, h.fp.eqv (hc.old fr h.fp.lt h.nf), hm, h.ne, fun e => ?_, fun e => ?_, fun e => ?_⟩
  · rcases hc.new a e with e | e
    · exact h.na e
    · omega
  · rcases hc.new fr e with e | e
    · exact h.nf e
    · have := h.fp.lt; omega
  · rcases hc.new 0 e with e | e
    · exact h.nz e
    · omega
theorem chg3 {Fm' : Ft} (hc : Chg hp hp' Fm Fm') : Chg hp hp' (StF3 a fr Fm) (StF3 a fr Fm') :=
  hc.mono (fun j h => .inr (.inr h)) fun j h => by
    rcases h with h | h | h
    · exact .inr (.inl h)
    · exact .inr (.inr (.inl h))
    · exact .inl h
/-- Frames change by themselves. -/
theorem StoQ.setA (h : StoQ hp Fm a m fr x) {A : AF} (hf : FrP hp' fr A) (hc : Chg hp hp' (.one fr) (.one fr)) (hs : ∀ j, A.st j ≠ 2) (h1 : A.f = x.A.f) (h2 : A.l = x.A.l) : StoQ hp' Fm a m fr { x with A := A } :=
  ⟨h.ok.with h.ok.M rfl hf.ok hs h1 h2, hc.get h.g fun e => h.f0 e.symm, hc.get h.st h.ne, hf, h.mp.chg hc fun j h1 h2 => h.nf (by cases h1; exact h2), h.ne, h.na, h.nf, h.nz⟩
theorem chg3f (hc : Chg hp hp' (.one fr) (.one fr)) : Chg hp hp' (StF3 a fr Fm) (StF3 a fr Fm) := hc.mono (fun j h => .inr (.inl h)) fun _ h => .inr h
/-- The store's own block changes. -/
theorem StoQ.setB (h : StoQ hp Fm a m fr x) {y : AS} (hy : y.Ok) (hM : y.M = x.M) (hA : y.A = x.A) : StoQ (hp.set a (.rw ((y.f m fr).v y.sh))) Fm a m fr y :=
  ⟨hy, by rw [List.getElem?_set_ne h.a0]; exact h.g, List.getElem?_set_self (lt_of_get h.st), by rw [hA]; exact h.fp.eqv (List.getElem?_set_ne h.ne), by rw [hM]; exact h.mp.chg (chg_set (a := a)) fun j h1 h2 => h.na (by cases h1; exact h2), h.ne, h.na, h.nf, h.nz⟩
theorem chg3a {b : Blk} : Chg hp (hp.set a b) (StF3 a fr Fm) (StF3 a fr Fm) := chg_set.mono (fun j h => .inl h) fun _ h => .inr h
/-! ### What is told -/
theorem StoQ.line (h : StoQ hp Fm a m fr x) {i : Nat} (hi : i < 49) (hk : (x.work i).kind ≠ 0) : 0 ≤ (x.work i).line ∧ (x.work i).line < 1024 := by
  have := h.ok.w.inn i hi hk; have := h.ok.A.l1; omega
theorem rf_sp_Names (h : StoQ hp Fm a m fr x) (c : Int) (h0 : 0 ≤ c) (h1 : c ≤ 18446744073709551615) (L : List Blk) :
    rf D f_objects_Store_Names [.ptr (.hp a) [] 43, .int .u64 c] ⟨L, hp⟩ = some (.tup [.int .i64 (nmId x.work c), .int .i64 (nmE x.work c)], ⟨L, hp⟩) := rf_Names (s := ⟨L, hp⟩) h.st c h0 h1
theorem rf_sp_Next (h : StoQ hp Fm a m fr x) (k : Int) (L : List Blk) :
    rf D f_objects_Store_Next [.ptr (.hp a) [] 43, .int .i64 k] ⟨L, hp⟩ = some (.tup [.int .i64 (nxI x.work k), .int .i64 (nxV x.work k), .int .i64 (nxE x.work k)], ⟨L, hp⟩) := rf_Next (s := ⟨L, hp⟩) h.st k
theorem lay_from {l : List Int} (hl : l.length = 8) {at' : Int} (L : List Blk) : ∀ (n j : Nat) {hp : List Blk} {Fm : Ft} {x : AS}, j + n = 8 → StoQ hp Fm a m fr x → x.M.count + n < 1000000 →
    ∃ hp' Fm' r, rc D L.length (.loop [0, 6, 22, 23] b_objects_Store_lay_0) [(0, .ptr (.hp a) [] 43), (6, .int .i64 at'), (22, lnV l), (23, .int .i64 j)] ⟨L ++ [.rw (lnV l)], hp⟩ = some r ∧
      StoQ hp' Fm' a m fr { x with M := (x.M.layFrom at' l j n).1 } ∧ Chg hp hp' Fm Fm' ∧
      (((x.M.layFrom at' l j n).2 = 0 ∧ r = (.exit 0, [(0, .ptr (.hp a) [] 43), (6, .int .i64 at'), (22, lnV l), (23, .int .i64 8), (24, .bool false)], ⟨L ++ [.rw (lnV l)], hp'⟩)) ∨
       ((x.M.layFrom at' l j n).2 ≠ 0 ∧ r = (.ret, [(4, .int .i64 0), (5, .int .i64 (x.M.layFrom at' l j n).2)], ⟨L ++ [.rw (lnV l)], hp'⟩)))
  | 0, j, hp, Fm, x, hj, h, _ => by
    have : j = 8 := by omega
    subst this
    refine ⟨hp, Fm, _, ?_, h, .refl _ _, .inl ⟨rfl, rfl⟩⟩
    rw [rc_loop_o]
    simp only [lnV]
    simp only [go_sem, b_objects_Store_lay_0]
  | n + 1, j, hp, Fm, x, hj, h, hc => by
    obtain ⟨hp1, Fm1, e1, e2, e3⟩ := rf_mp_Store h.mp (by omega) at' j (l.getD j 0) (L ++ [.rw (lnV l)])
    have h1 := h.setM e2 e3 AM.store_n
    have hcn := AM.store_count (M := x.M) (i := at') (q := j) (v := l.getD j 0)
    have d1 : (j : Int) < 8 := by omega
    have d2 : (0 : Int) ≤ j := by omega
    have d4 : IntKind.i64.wrap ((j : Int) + 1) = ((j + 1 : Nat) : Int) := i64_id (by omega) (by omega)
    have g := get_map (f := V.int .u64) (l := l) (i := j) (by omega) 0
    have hst := h.st
    simp only [AM.layFrom]
    have m1 : ∀ z, V.locLt z (lnV l) = true := fun _ => rfl
    by_cases he : (x.M.store at' j (l.getD j 0)).2 = 0
    · rw [if_neg fun hh => hh he]
      obtain ⟨hp2, Fm2, r, q1, q2, q3, q4⟩ := lay_from hl L n (j + 1) (by omega) h1 (by simp only; omega)
      refine ⟨hp2, Fm2, r, ?_, q2, e3.trans q3, q4⟩
      rw [← q1, rc_loop_o]
      rw [he] at e1
      simp only [AS.f, StF.v, lnV] at *
      generalize l.getD j 0 = wd at *
      simp only [go_sem, b_objects_Store_lay_0, d1, d2, Int.toNat_natCast, g, hst, e1, d4]
    · rw [if_pos he]
      refine ⟨hp1, Fm1, _, ?_, h1, e3, .inr ⟨he, rfl⟩⟩
      rw [rc_loop_o]
      simp only [AS.f, StF.v, lnV] at *
      generalize l.getD j 0 = wd at *
      simp only [go_sem, b_objects_Store_lay_0, d1, d2, Int.toNat_natCast, g, hst, e1, he]
theorem rf_sp_lay (h : StoQ hp Fm a m fr x) (hc : x.M.count + 8 < 1000000) {l : List Int} (hl : l.length = 8) (L : List Blk) :
    ∃ hp' Fm', rf D f_objects_Store_lay [.ptr (.hp a) [] 43, lnV l] ⟨L, hp⟩ = some (.tup [.int .i64 (x.lay l).2.1, .int .i64 (x.lay l).2.2], ⟨L, hp'⟩) ∧ StoQ hp' Fm' a m fr (x.lay l).1 ∧ Chg hp hp' (StF3 a fr Fm) (StF3 a fr Fm') := by
  obtain ⟨hp1, e1, e2, e3⟩ := rf_fp_Alloc h.fp h.g (L ++ [.rw (lnV l)])
  have h1 := h.setA e2 e3 (alloc2 h.ok.s2) alloc_fl.1 alloc_fl.2
  have hs := h.st
  unfold AS.lay
  by_cases he : x.A.alloc.2.2 = 0
  · rw [if_neg (by simp [he])]
    obtain ⟨hp2, Fm2, r, q1, q2, q3, q4⟩ := lay_from (a := a) (m := m) (fr := fr) hl (at' := x.A.alloc.2.1) L 8 0 rfl h1 (by simp only; omega)
    simp only at q1 q2 q4 ⊢
    rw [show ((0 : Nat) : Int) = 0 from rfl] at q1
    refine ⟨hp2, Fm2, ?_, q2, (chg3f e3).trans (chg3 q3)⟩
    rw [he] at e1
    generalize x.M.layFrom x.A.alloc.2.1 l 0 8 = lf at *
    generalize x.A.alloc.2.1 = at' at *
    simp only [AS.f, StF.v, lnV] at *
    rw [rf_o D_objects_Store_lay rfl]
    rcases q4 with ⟨z, rfl⟩ | ⟨z, rfl⟩
    · rw [z, if_neg (by simp)]
      simp only [go_sem, hs, e1]
      simp only [go_sem, q1]
    · rw [if_pos z]
      simp only [go_sem, hs, e1]
      simp only [go_sem, q1]
  · rw [if_pos he]
    have hn : x.A.alloc = (x.A, 0, 10) := by
      unfold AF.alloc at he ⊢
      split
      · rename_i hq; rw [hq] at he; exact absurd rfl he
      · rfl
    rw [hn] at h1 e1
    refine ⟨hp1, Fm, ?_, h1, chg3f e3⟩
    rw [hn]
    simp only [AS.f, StF.v, lnV] at *
    rw [rf_o D_objects_Store_lay rfl]
    simp only [go_sem, hs, e1]
end
end Go.Proofs.YtpbpgbedkmbfkaaDoor
namespace Go.Proofs.YtpbpgbedkmbfkaaDoor
open Go.Ab
section
variable {hp hp' : List Blk} {F G G' Fm : Ft} {a m fr : Nat} {x : AS}
theorem updE_tab {t : Nat → Ent} {i : Nat} {e : Ent} : (tab 49 fun j => (t j).v).set i e.v = tab 49 fun j => (updE t i e j).v := by rw [tab_set, tab_updE]
theorem store_ok {M : AM} {i q v : Int} : (M.store i q v).2 = 0 ∨ (M.store i q v).2 = 1 ∨ (M.store i q v).2 = 4 := by
  unfold AM.store; split <;> (try split) <;> simp
theorem rf_sp_Make (h : StoQ hp Fm a m fr x) (hc : x.M.count + 8 < 1000000) (k : Int) (L : List Blk) :
    ∃ hp' Fm', rf D f_objects_Store_Make [.ptr (.hp a) [] 43, .int .i64 k] ⟨L, hp⟩ = some (.tup [.int .i64 (x.make k).2.1, .int .i64 (x.make k).2.2], ⟨L, hp'⟩) ∧ StoQ hp' Fm' a m fr (x.make k).1 ∧ Chg hp hp' (StF3 a fr Fm) (StF3 a fr Fm') := by
  have hnx := rf_sp_Next h k
  have hok := h.ok.make k
  unfold AS.make at hok ⊢
  by_cases he : nxE x.work k ≠ 0
  · rw [if_pos he]
    refine ⟨hp, Fm, ?_, h, .refl _ _⟩
    generalize nxE x.work k = ee at *
    rw [rf_o D_objects_Store_Make rfl]
    simp only [go_sem, hnx, he]
  · rw [if_neg he] at hok ⊢
    have he' : nxE x.work k = 0 := by simpa using he
    obtain ⟨hp1, Fm1, e1, e2, e3⟩ := rf_sp_lay h hc (l := zl) rfl L
    have hst1 := e2.st
    have hw := AS.lay_work (x := x) zl
    obtain ⟨n1, n2, n3, _⟩ := nxI_lt he'
    have ez : lnV zl = .agg 24 (List.replicate 8 (.int .u64 0)) := rfl
    rw [ez] at e1
    rw [he'] at hnx
    simp only at hok ⊢
    by_cases hre : (x.lay zl).2.2 ≠ 0
    · rw [if_pos hre]
      refine ⟨hp1, Fm1, ?_, e2, e3⟩
      generalize x.lay zl = lr at *
      rw [rf_o D_objects_Store_Make rfl]
      simp only [go_sem, hnx, e1, hre]
    · rw [if_neg hre] at hok ⊢
      have hre' : (x.lay zl).2.2 = 0 := by simpa using hre
      have e4 := e2.setB hok rfl rfl
      refine ⟨_, Fm1, ?_, e4, e3.trans chg3a⟩
      rw [hre'] at e1
      obtain ⟨i, hi⟩ : ∃ i : Nat, nxI x.work k = i := ⟨(nxI x.work k).toNat, by omega⟩
      rw [hi] at hnx n1 n2 ⊢
      rw [Int.toNat_natCast]
      have hsh : AS.sh { (x.lay zl).1 with work := updE x.work i ⟨k, nxV x.work k, (x.lay zl).2.1⟩ } = (x.lay zl).1.sh := rfl
      have hup := updE_tab (t := x.work) (i := i) (e := ⟨k, nxV x.work k, (x.lay zl).2.1⟩)
      have g1 := tab_get (f := fun i => (x.work i).v) (show i < 49 by omega)
      simp only [AS.f, hsh, hw.1] at hst1 ⊢
      clear hok e4 e2
      generalize (x.lay zl).1.sh = sh' at *
      generalize x.lay zl = lr at *
      generalize nxV x.work k = vv at *
      simp only [StF.v, tabV] at hst1 ⊢
      rw [← hup]
      simp only [Ent.v] at *
      generalize tab 49 (fun i => V.agg 42 [.int .i64 (x.work i).kind, .int .i64 (x.work i).ver, .int .i64 (x.work i).line]) = T at *
      rw [rf_o D_objects_Store_Make rfl]
      simp only [go_sem, hnx, e1, hst1, n1, n2]
      rw [Int.toNat_natCast]
      simp only [go_sem, hst1, g1]
end
end Go.Proofs.YtpbpgbedkmbfkaaDoor
namespace Go.Proofs.YtpbpgbedkmbfkaaDoor
open Go.Ab
section
variable {hp hp' : List Blk} {F G G' Fm : Ft} {a m fr : Nat} {x : AS}
theorem app_dropk {α : Type} {l m : List α} {i : Nat} : (l ++ m).drop (l.length + i) = m.drop i := by rw [List.drop_append]; simp
theorem rf_add_loc {L hp : List Blk} {f : Nat → Bool} {t : Nat → Ent} (ht : InL t) :
    rf D f_objects_lines_add [.ptr (.loc L.length) [] 82, tabV t] ⟨L ++ [.rw (shV f)], hp⟩ = some (.tup [], ⟨L ++ [.rw (shV (addL t f 49))], hp⟩) := by
  have loop : rc D (L.length + 1) (.loop [0, 6, 7] b_objects_lines_add_0) [(0, .ptr (.loc L.length) [] 82), (6, tabV t), (7, .int .i64 0)] ⟨L ++ [.rw (shV f), .rw (tabV t)], hp⟩ =
      some (.exit 0, [(0, .ptr (.loc L.length) [] 82), (6, tabV t), (7, .int .i64 49), (8, .bool false)], ⟨L ++ [.rw (shV (addL t f 49)), .rw (tabV t)], hp⟩) := by
    refine loop_runs (fun x : Nat => [(0, .ptr (.loc L.length) [] 82), (6, tabV t), (7, .int .i64 x)]) (fun x => ⟨L ++ [.rw (shV (addL t f x)), .rw (tabV t)], hp⟩) (fun _ => _) (fun x => 49 - x) (fun x => x ≤ 49) 0 ?_ (by omega) rfl rfl
    intro i hi
    by_cases c1 : i < 49
    · left
      have d1 : (i : Int) < 49 := by omega
      have d2 : (0 : Int) ≤ i := by omega
      have d4 : IntKind.i64.wrap ((i : Int) + 1) = (i : Int) + 1 := i64_id (by omega) (by omega)
      have g1 := tab_get (f := fun i => (t i).v) c1
      have hin := ht.inn i c1
      have z1 : L.length < L.length + 2 := by omega
      refine ⟨i + 1, by omega, by omega, rfl, ?_⟩
      simp only [tabV, Ent.v, addL] at *
      generalize tab 49 (fun i => V.agg 42 [.int .i64 (t i).kind, .int .i64 (t i).ver, .int .i64 (t i).line]) = T at *
      by_cases hk : (t i).kind = 0
      · simp only [hk, if_true] at g1 ⊢
        simp only [shV] at *
        generalize tab 1024 (fun j => V.bool (addL t f i j)) = F at *
        simp only [go_sem, b_objects_lines_add_0, d1, d2]
        rw [Int.toNat_natCast]
        simp only [go_sem, g1, d4, z1, app_dropk, List.drop_succ_cons, List.drop_zero]
        rfl
      · simp only [hk, if_false] at g1 ⊢
        obtain ⟨h1, h2⟩ := hin hk
        obtain ⟨q, hq⟩ : ∃ q : Nat, (t i).line = q := ⟨(t i).line.toNat, by omega⟩
        simp only [hq, Int.toNat_natCast] at g1 h1 h2 ⊢
        have e := tab_set 1024 (fun j => V.bool (addL t f i j)) q (.bool true)
        have hu : tab 1024 (upd (fun j => V.bool (addL t f i j)) q (.bool true)) = tab 1024 (fun j => V.bool (upd (addL t f i) q true j)) := tab_congr fun j _ => by unfold upd; split <;> rfl
        rw [hu] at e
        have hg := tab_get (f := fun j => V.bool (addL t f i j)) (show q < 1024 by omega)
        simp only [shV]
        rw [← e]
        generalize tab 1024 (fun j => V.bool (addL t f i j)) = F at *
        generalize addL t f i q = y at *
        simp only [go_sem, b_objects_lines_add_0, d1, d2]
        rw [Int.toNat_natCast]
        simp only [go_sem, g1, hk, h1, h2]
        rw [Int.toNat_natCast]
        simp only [go_sem, hg, d4, z1, app_dropk, List.drop_succ_cons, List.drop_zero]
        rfl
    · right
      have : i = 49 := by omega
      subst this
      simp only [tabV]
      simp only [go_sem, b_objects_lines_add_0]
  simp only [tabV, shV] at *
  rw [rf_o D_objects_lines_add rfl]
  simp only [go_sem, loop]
/-- Which lines are named, behind the dir's first n. -/
def dirN (d : Nat → Int) (f : Nat → Bool) : Nat → Nat → Bool
  | 0 => f
  | n + 1 => if 0 ≤ d n ∧ d n < 1024 then upd (dirN d f n) (d n).toNat true else dirN d f n
theorem addL_iff {t : Nat → Ent} {f : Nat → Bool} (ht : InL t) {j : Nat} : ∀ n, n ≤ 49 → (addL t f n j = (f j || (List.range n).any fun i => decide ((t i).kind ≠ 0) && decide ((t i).line = j)))
  | 0, _ => by simp [addL]
  | n + 1, hn => by
    have ih := addL_iff (f := f) ht (j := j) n (by omega)
    simp only [addL, List.range_succ, List.any_append, List.any_cons, List.any_nil, Bool.or_false]
    by_cases hk : (t n).kind = 0
    · rw [if_pos hk, ih]; simp [hk]
    · rw [if_neg hk]
      have := ht.inn n (by omega) hk
      by_cases e : j = (t n).line.toNat
      · subst e
        rw [upd_self]
        have : ((t n).line.toNat : Int) = (t n).line := by omega
        simp [hk, this]
      · rw [upd_ne e, ih]
        have : ¬ (t n).line = j := by omega
        simp [this]
theorem dirN_iff {d : Nat → Int} {f : Nat → Bool} {j : Nat} (hj : j < 1024) : ∀ n, (dirN d f n j = (f j || (List.range n).any fun i => decide (d i = j)))
  | 0 => by simp [dirN]
  | n + 1 => by
    have ih := dirN_iff (d := d) (f := f) hj n
    simp only [dirN, List.range_succ, List.any_append, List.any_cons, List.any_nil, Bool.or_false]
    by_cases hk : 0 ≤ d n ∧ d n < 1024
    · rw [if_pos hk]
      by_cases e : j = (d n).toNat
      · subst e
        rw [upd_self]
        have : ((d n).toNat : Int) = d n := by omega
        simp [this]
      · rw [upd_ne e, ih]
        have : ¬ d n = j := by omega
        simp [this]
    · rw [if_neg hk, ih]
      have : ¬ d n = j := by omega
      simp [this]
/-- What a store names. -/
def AS.nm (x : AS) : Nat → Bool := dirN x.dir (addL x.work (addL x.base (fun _ => false) 49) 49) 8
theorem AS.nm_iff {x : AS} (h : x.Ok) {j : Nat} (hj : j < 1024) : x.nm j = (namedL x.base j || namedL x.work j || namedD x.dir j) := by
  unfold AS.nm namedL namedD
  rw [dirN_iff hj, addL_iff (h.w.inL h.A) 49 (by omega), addL_iff (h.b.inL h.A) 49 (by omega), Bool.false_or]
/-- Frames whose first k lines, if nothing names them, are to be free later. -/
def AF.lat (A : AF) (nm : Nat → Bool) (k : Nat) : AF := { A with st := fun j => if j < k ∧ A.inr j = true ∧ nm j = false ∧ A.st j = 1 then 2 else A.st j }
theorem AF.lat_zero {A : AF} {nm : Nat → Bool} : A.lat nm 0 = A := by unfold AF.lat; simp
theorem AF.Ok.lat {A : AF} (h : A.Ok) (nm : Nat → Bool) (k : Nat) : (A.lat nm k).Ok := ⟨h.fl, h.l1, fun j => by
  have := h.s3 j
  simp only [AF.lat]; split <;> omega⟩
theorem AF.lat_state {A : AF} {nm : Nat → Bool} {k : Nat} : (A.lat nm k).state k = A.state k := by
  unfold AF.state
  simp only [AF.lat]
  simp
theorem AF.lat_skip {A : AF} {nm : Nat → Bool} {k : Nat} (h : nm k = true ∨ A.state k ≠ 1) : A.lat nm (k + 1) = A.lat nm k := by
  unfold AF.lat
  congr 1
  funext j
  by_cases e : j = k
  · subst e
    have h2 : ¬ (A.inr j = true ∧ nm j = false ∧ A.st j = 1) := by
      rintro ⟨h1, h3, h4⟩
      rcases h with h | h
      · rw [h] at h3; cases h3
      · have := inr_of.1 h1
        exact h (by rw [state_in (by omega) (by omega), Int.toNat_natCast]; exact h4)
    rw [if_neg fun hh => h2 hh.2, if_neg fun hh => h2 hh.2]
  · have : (j < k + 1) ↔ (j < k) := by omega
    simp only [this]
theorem AF.lat_put {A : AF} {nm : Nat → Bool} {k : Nat} (h1 : nm k = false) (h2 : A.state k = 1) : A.lat nm (k + 1) = (A.lat nm k).put k 2 := by
  have hr := state_range (A := A) (line := k) (by omega)
  have h3 := state_in hr.1 hr.2
  rw [h2, Int.toNat_natCast] at h3
  unfold AF.lat AF.put
  congr 1
  funext j
  by_cases e : j = k
  · subst e
    rw [upd_self]
    have hi : A.inr j = true := inr_of.2 (by omega)
    rw [if_pos ⟨by omega, hi, h1, h3.symm⟩]
  · rw [upd_ne e]
    have : (j < k + 1) ↔ (j < k) := by omega
    simp only [this]
theorem lat_settle {x : AS} (h : x.Ok) : (x.A.lat x.nm x.M.n).settle = x.freed.A := by
  unfold AF.settle AF.lat AS.freed
  simp only
  congr 1
  funext j
  have h2 := h.s2 j
  by_cases hr : x.A.inr j = true
  · have hr' := inr_of.1 hr
    have hl := h.l
    have h1 := h.A.l1
    rw [← AS.nm_iff h (by omega)]
    have hjn : j < x.M.n := by omega
    by_cases c : x.nm j = false ∧ x.A.st j = 1
    · simp [hr, c.1, c.2, hjn]
    · have : ¬ (j < x.M.n ∧ x.A.inr j = true ∧ x.nm j = false ∧ x.A.st j = 1) := fun hh => c hh.2.2
      rw [if_neg this, if_neg h2, if_neg]
      simp only [hr, Bool.true_and, Bool.and_eq_true, Bool.not_eq_true', decide_eq_true_eq]
      exact c
  · simp [hr, h2]
end
end Go.Proofs.YtpbpgbedkmbfkaaDoor
namespace Go.Proofs.YtpbpgbedkmbfkaaDoor
open Go.Ab

/-! ### Memory that is on -/
structure AM.On (M : AM) : Prop where
  off : M.off = false
  left : M.left = -1
theorem AM.On.dead {M : AM} (h : M.On) : M.dead = false := by
  unfold AM.dead; rw [h.off, h.left]; rfl
theorem now_push {M : AM} {i j : Nat} {d : Dn} : (M.push i d).now j = if j = i then (M.now j).set d.w d.v else M.now j := by
  unfold AM.now AM.push
  simp only
  by_cases e : j = i
  · subst e; rw [upd_self, if_pos rfl, behind_app]; rfl
  · rw [upd_ne e, if_neg e]
theorem store_on {M : AM} (h : M.On) {i q : Nat} (hi : i < M.n) (hq : q < 8) (v : Int) : (M.store i q v).2 = 0 ∧ (M.store i q v).1.On ∧ ∀ j, (M.store i q v).1.now j = if j = i then (M.now j).set q v else M.now j := by
  unfold AM.store
  rw [if_neg (by omega), if_neg (by rw [h.dead]; simp)]
  refine ⟨rfl, ⟨h.off, ?_⟩, fun j => ?_⟩
  · simp only [AM.push, AM.stepped]; rw [if_neg (by rw [h.left]; decide)]; exact h.left
  · simp only [now_push, Int.toNat_natCast, Dn.mk0]; rfl
theorem load_on {M : AM} (h : M.On) {i : Nat} (hi : i < M.n) : M.load i = (M.now i, 0) := by
  unfold AM.load
  rw [if_neg (by omega), if_neg (by rw [h.off]; simp), Int.toNat_natCast]
/-- The first j words of a line, and the rest of another. -/
def mixl (l o : List Int) (j : Nat) : List Int := l.take j ++ o.drop j
theorem mixl_set {l o : List Int} (hl : l.length = 8) (ho : o.length = 8) {j : Nat} (hj : j < 8) : (mixl l o j).set j (l.getD j 0) = mixl l o (j + 1) := by
  unfold mixl
  apply List.ext_getElem?
  intro i
  rw [List.getElem?_set]
  by_cases hi : j = i
  · subst hi
    rw [if_pos rfl, if_pos (by simp; omega)]
    rw [List.getElem?_append_left (by simp; omega), List.getElem?_take, if_pos (by omega)]
    simp [List.getD_eq_getElem?_getD, show j < l.length by omega]
  · rw [if_neg hi]
    by_cases h : i < j
    · rw [List.getElem?_append_left (by simp; omega), List.getElem?_append_left (by simp; omega), List.getElem?_take, List.getElem?_take, if_pos h, if_pos (by omega)]
    · rw [List.getElem?_append_right (by simp; omega), List.getElem?_append_right (by simp; omega), List.getElem?_drop, List.getElem?_drop]
      simp only [List.length_take]
      congr 1
      omega
theorem layFrom_on {at' : Nat} {l : List Int} (hl : l.length = 8) : ∀ (n j : Nat) {M : AM}, M.On → at' < M.n → j + n = 8 → ∀ o : List Int, o.length = 8 → M.now at' = mixl l o j →
    (M.layFrom at' l j n).2 = 0 ∧ (M.layFrom at' l j n).1.On ∧ ∀ i, (M.layFrom at' l j n).1.now i = if i = at' then l else M.now i
  | 0, j, M, h, hi, hj, o, ho, hm => by
    have : j = 8 := by omega
    subst this
    refine ⟨rfl, h, fun i => ?_⟩
    show M.now i = _
    by_cases e : i = at'
    · subst e
      rw [if_pos rfl, hm]
      unfold mixl
      rw [List.take_of_length_le (by omega), List.drop_of_length_le (by omega), List.append_nil]
    · rw [if_neg e]
  | n + 1, j, M, h, hi, hj, o, ho, hm => by
    obtain ⟨e1, e2, e3⟩ := store_on h hi (show j < 8 by omega) (l.getD j 0)
    simp only [AM.layFrom]
    rw [if_neg fun hh => hh e1]
    obtain ⟨q1, q2, q3⟩ := layFrom_on hl n (j + 1) e2 (by rw [AM.store_n]; exact hi) (by omega) o ho (by rw [e3, if_pos rfl, hm, mixl_set hl ho (by omega)])
    refine ⟨q1, q2, fun i => ?_⟩
    rw [q3]
    by_cases e : i = at'
    · rw [if_pos e, if_pos e]
    · rw [if_neg e, if_neg e, e3, if_neg e]
theorem lay_on {M : AM} (hok : M.Ok) (h : M.On) {at' : Nat} {l : List Int} (hl : l.length = 8) (hi : at' < M.n) : (M.layFrom at' l 0 8).2 = 0 ∧ (M.layFrom at' l 0 8).1.On ∧ ∀ i, (M.layFrom at' l 0 8).1.now i = if i = at' then l else M.now i :=
  layFrom_on hl 8 0 h hi rfl (M.now at') (hok.now8 hi) (by unfold mixl; simp)
/-! ### Lines that are taken, one behind the other -/
def AF.takes (A : AF) : List Int → Option AF
  | [] => some A
  | x :: r => if A.state x = 0 then (A.put x.toNat 1).takes r else none
def af0 (f l : Nat) : AF := ⟨f, l, fun _ => 0⟩
theorem af0_ok {f l : Nat} (h : f ≤ l) (h1 : l ≤ 1024) : (af0 f l).Ok := ⟨h, h1, fun _ => .inl rfl⟩
/-- No line has another state than free, or taken. -/
def AF.Two (A : AF) : Prop := ∀ j, A.st j = 0 ∨ A.st j = 1
theorem AF.Two.put {A : AF} (h : A.Two) {k : Nat} {x : Int} (hx : x = 0 ∨ x = 1) : (A.put k x).Two := fun j => by
  simp only [AF.put]
  by_cases e : j = k
  · subst e; rw [upd_self]; exact hx
  · rw [upd_ne e]; exact h j
theorem takes_some : ∀ {ls : List Int} {A A' : AF}, A.takes ls = some A' → A'.f = A.f ∧ A'.l = A.l ∧ (∀ x ∈ ls, (A.f : Int) ≤ x ∧ x < A.l) ∧ ∀ j, A'.st j = if (j : Int) ∈ ls then 1 else A.st j
  | [], A, A', h => by cases h; exact ⟨rfl, rfl, by simp, by simp⟩
  | x :: r, A, A', h => by
    simp only [AF.takes] at h
    split at h
    · rename_i h0
      have hr := state_range (A := A) (line := x) (by omega)
      obtain ⟨h1, h2, h3, h4⟩ := takes_some h
      refine ⟨h1, h2, fun y hy => ?_, fun j => ?_⟩
      · rcases List.mem_cons.1 hy with rfl | hy
        · exact hr
        · exact h3 y hy
      · rw [h4 j]
        by_cases e : (j : Int) ∈ r
        · simp [e]
        · rw [if_neg e]
          simp only [AF.put]
          by_cases e2 : j = x.toNat
          · have e3 : (j : Int) = x := by omega
            rw [if_pos (by rw [e3]; exact List.mem_cons_self)]
            subst e2; rw [upd_self]
          · have e3 : ¬ (j : Int) = x := by omega
            rw [upd_ne e2, if_neg (by simp [e, e3])]
    · cases h
theorem takes_ok : ∀ {ls : List Int} {A : AF}, ls.Nodup → (∀ x ∈ ls, A.state x = 0) → ∃ A', A.takes ls = some A'
  | [], A, _, _ => ⟨A, rfl⟩
  | x :: r, A, hn, h => by
    obtain ⟨hn1, hn2⟩ := List.nodup_cons.1 hn
    have h0 := h x List.mem_cons_self
    simp only [AF.takes]
    rw [if_pos h0]
    refine takes_ok hn2 fun y hy => ?_
    have hr := state_range (A := A) (line := x) (by omega)
    have hy0 := h y (List.mem_cons_of_mem _ hy)
    have hry := state_range (A := A) (line := y) (by omega)
    have e : y ≠ x := fun e => hn1 (e ▸ hy)
    rw [state_in (A := A.put x.toNat 1) hry.1 hry.2]
    simp only [AF.put]
    rw [upd_ne (by omega), ← state_in hry.1 hry.2]
    exact hy0
end Go.Proofs.YtpbpgbedkmbfkaaDoor
namespace Go.Proofs.YtpbpgbedkmbfkaaDoor
open Go.Ab

theorem namedL_iff {t : Nat → Ent} {j : Nat} : namedL t j = true ↔ ∃ i, i < 49 ∧ (t i).kind ≠ 0 ∧ (t i).line = j := by
  unfold namedL
  rw [List.any_eq_true]
  constructor
  · rintro ⟨i, hi, h⟩
    rw [Bool.and_eq_true, decide_eq_true_eq, decide_eq_true_eq] at h
    exact ⟨i, List.mem_range.1 hi, h.1, h.2⟩
  · rintro ⟨i, hi, h1, h2⟩
    exact ⟨i, List.mem_range.2 hi, by rw [Bool.and_eq_true, decide_eq_true_eq, decide_eq_true_eq]; exact ⟨h1, h2⟩⟩
theorem sh_iff {x : AS} (h : x.Ok) {j : Nat} : x.sh j = (namedL x.base j || (x.is && namedL x.mark j)) := by
  unfold AS.sh shOf namedL
  have hb := addL_iff (f := fun _ => false) (h.b.inL h.A) (j := j) 49 (Nat.le_refl _)
  cases x.is
  · simp only [Bool.false_eq_true, if_false, hb]; simp
  · simp only [if_true]
    rw [addL_iff (h.k.inL h.A) 49 (Nat.le_refl _), hb]; simp
/-- What is named, or shared, is taken; a line is one object's own. -/
structure Inv (x : AS) : Prop where
  ok : x.Ok
  v : ∀ i, i < 49 → 0 ≤ (x.work i).ver ∧ (x.work i).ver ≤ 16777215
  w1 : ∀ j : Nat, namedL x.work j = true → x.A.st j = 1
  s1 : ∀ j : Nat, x.sh j = true → x.A.st j = 1
  di : ∀ i j, i < 49 → j < 49 → i ≠ j → (x.work i).kind ≠ 0 → (x.work j).kind ≠ 0 → (x.work i).line = (x.work j).line → x.own i = false
theorem Inv.ln {x : AS} (h : Inv x) {i : Nat} (hi : i < 49) (hk : (x.work i).kind ≠ 0) : ∃ q : Nat, (x.work i).line = q ∧ x.A.f ≤ q ∧ q < x.M.n ∧ x.A.st q = 1 := by
  have h1 := h.ok.w.inn i hi hk
  have h2 := h.ok.l
  obtain ⟨q, hq⟩ : ∃ q : Nat, (x.work i).line = q := ⟨(x.work i).line.toNat, by omega⟩
  exact ⟨q, hq, by omega, by omega, h.w1 q (namedL_iff.2 ⟨i, hi, hk, hq⟩)⟩
theorem Inv.withM {x : AS} (h : Inv x) {M : AM} (hM : M.Ok) (hn : M.n = x.M.n) : Inv { x with M := M } :=
  ⟨h.ok.with hM hn h.ok.A h.ok.s2 rfl rfl, h.v, h.w1, h.s1, h.di⟩
theorem Inv.setLine {x : AS} (h : Inv x) {i k : Nat} {e : Ent} (hk0 : x.A.st k = 0) (hkr : x.A.f ≤ k ∧ k < x.A.l) (he : e.line = k) (hv : 0 ≤ e.ver ∧ e.ver ≤ 16777215) {M : AM} (hM : M.Ok) (hn : M.n = x.M.n) :
    Inv { x with M := M, A := x.A.put k 1, work := updE x.work i e } ∧ AS.own { x with M := M, A := x.A.put k 1, work := updE x.work i e } i = true := by
  have h0 := h.ok.with (M := M) (A := x.A.put k 1) hM hn (h.ok.A.put (.inr (.inl rfl))) (put2 h.ok.s2 (by decide)) rfl rfl
  have hstk : ∀ j : Nat, x.A.st j = 1 → (x.A.put k 1).st j = 1 := fun j hj => by
    simp only [AF.put]
    by_cases e : j = k
    · subst e; rw [upd_self]
    · rw [upd_ne e]; exact hj
  have hsk : x.sh k = false := by
    cases hs : x.sh k
    · rfl
    · have := h.s1 k hs; omega
  have hno : ∀ j, j < 49 → (x.work j).kind ≠ 0 → (x.work j).line ≠ k := fun j hj hkj e => by
    have := h.w1 k (namedL_iff.2 ⟨j, hj, hkj, e⟩); omega
  refine ⟨⟨h0.table (w := x.work) rfl (i := i) (e := e) (fun _ => by rw [he]; exact ⟨by simp only [AF.put]; omega, by simp only [AF.put]; omega⟩), verE h.v hv, fun j hj => ?_, fun j hj => hstk j (h.s1 j hj), fun i1 j1 hi1 hj1 hne hk1 hk2 heq => ?_⟩, ?_⟩
  · obtain ⟨i1, hi1, hk1, hl1⟩ := namedL_iff.1 hj
    simp only [updE] at hk1 hl1
    split at hk1
    · rename_i e1
      rw [if_pos e1, he] at hl1
      have : j = k := by omega
      subst this
      exact upd_self
    · rename_i e1
      rw [if_neg e1] at hl1
      exact hstk j (h.w1 j (namedL_iff.2 ⟨i1, hi1, hk1, hl1⟩))
  · simp only [updE] at hk1 hk2 heq
    have e9 : ∀ i2, i2 ≠ i → AS.own { x with M := M, A := x.A.put k 1, work := updE x.work i e } i2 = x.own i2 := fun i2 h2 => by
      show (!x.sh (updE x.work i e i2).line.toNat) = _
      unfold updE; rw [if_neg h2]; rfl
    by_cases e1 : i1 = i
    · subst e1
      rw [if_pos rfl, if_neg (Ne.symm hne), he] at heq
      rw [if_neg (Ne.symm hne)] at hk2
      exact absurd heq.symm (hno j1 hj1 hk2)
    · rw [if_neg e1] at hk1 heq
      by_cases e2 : j1 = i
      · subst e2
        rw [if_pos rfl, he] at heq
        exact absurd heq (hno i1 hi1 hk1)
      · rw [if_neg e2] at hk2 heq
        rw [e9 i1 e1]
        exact h.di i1 j1 hi1 hj1 hne hk1 hk2 heq
  · show (!x.sh (updE x.work i e i).line.toNat) = _
    unfold updE; rw [if_pos rfl, he, Int.toNat_natCast, hsk]; rfl
/-- A line is laid, where a frame is free and memory is on. -/
theorem lay_spec {x : AS} (h : x.Ok) (on : x.M.On) {l : List Int} (hl : l.length = 8) : (x.A.left = 0 ∧ x.lay l = (x, 0, 10)) ∨
    ∃ k M, x.A.f ≤ k ∧ k < x.A.l ∧ x.A.st k = 0 ∧ x.lay l = ({ x with M := M, A := x.A.put k 1 }, (k : Int), 0) ∧ M.Ok ∧ M.On ∧ M.n = x.M.n ∧ ∀ i, M.now i = if i = k then l else x.M.now i := by
  cases hf : x.A.first with
  | none =>
    left
    have ha : x.A.alloc = (x.A, 0, 10) := by unfold AF.alloc; rw [hf]
    refine ⟨AF.left_zero.2 hf, ?_⟩
    unfold AS.lay
    rw [ha, if_pos (by simp)]
  | some k =>
    right
    obtain ⟨h1, h2, h3, _⟩ := first_some h.A hf
    have ha : x.A.alloc = (x.A.put k 1, (k : Int), 0) := by unfold AF.alloc; rw [hf]
    obtain ⟨q1, q2, q3⟩ := lay_on h.M on (at' := k) hl (by rw [← h.l]; exact h2)
    refine ⟨k, (x.M.layFrom k l 0 8).1, h1, h2, h3, ?_, h.M.layFrom, q2, AM.layFrom_n, q3⟩
    unfold AS.lay
    rw [ha, if_neg (by simp)]
    simp only [q1, ne_eq, not_true_eq_false, if_false]
structure SetTo (x y : AS) (i : Nat) (w : Nat) (v : Int) : Prop where
  inv : Inv y
  on : y.M.On
  own : y.own i = true
  base : y.base = x.base
  mark : y.mark = x.mark
  is : y.is = x.is
  dir : y.dir = x.dir
  n : y.M.n = x.M.n
  fl : y.A.f = x.A.f ∧ y.A.l = x.A.l
  others : ∀ j, j ≠ i → y.work j = x.work j
  kv : (y.work i).kind = (x.work i).kind ∧ (y.work i).ver = (x.work i).ver
  now : y.M.now (y.work i).line.toNat = (x.M.now (x.work i).line.toNat).set w v
  rest : ∀ j, j ≠ (y.work i).line.toNat → y.M.now j = x.M.now j
  same : x.own i = true → y.A = x.A ∧ y.work = x.work
  more : x.own i = false → ∃ k, x.A.f ≤ k ∧ k < x.A.l ∧ x.A.st k = 0 ∧ (y.work i).line = k ∧ y.A = x.A.put k 1
theorem set_spec {x : AS} (h : Inv x) (on : x.M.On) {i w : Nat} (hi : i < 49) (hk : (x.work i).kind ≠ 0) (hw : w < 8) (v : Int) :
    (x.own i = false ∧ x.A.left = 0 ∧ x.set i w v = (x, 10)) ∨ ∃ y, x.set i w v = (y, 0) ∧ SetTo x y i w v := by
  obtain ⟨q, hq, hq1, hq2, hq3⟩ := h.ln hi hk
  have hx : x.set i w v = if x.own i then ({ x with M := (x.M.store (x.work i).line w v).1 }, (x.M.store (x.work i).line w v).2)
      else if x.A.left = 0 then (x, 10)
      else if (x.M.load (x.work i).line).2 ≠ 0 then (x, (x.M.load (x.work i).line).2)
      else if (x.lay ((x.M.load (x.work i).line).1.set w v)).2.2 ≠ 0 then ((x.lay ((x.M.load (x.work i).line).1.set w v)).1, (x.lay ((x.M.load (x.work i).line).1.set w v)).2.2)
        else ({ (x.lay ((x.M.load (x.work i).line).1.set w v)).1 with work := updE x.work i ((x.work i).at (x.lay ((x.M.load (x.work i).line).1.set w v)).2.1) }, 0) := by
    unfold AS.set
    rw [if_neg (by omega), Int.toNat_natCast, if_neg hk, Int.toNat_natCast]
  rw [hx]
  by_cases ho : x.own i = true
  · right
    rw [if_pos ho, hq]
    obtain ⟨e1, e2, e3⟩ := store_on on hq2 hw v
    refine ⟨{ x with M := (x.M.store q w v).1 }, by rw [e1], ⟨h.withM h.ok.M.store AM.store_n, e2, ho, rfl, rfl, rfl, rfl, AM.store_n, ⟨rfl, rfl⟩, fun _ _ => rfl, ⟨rfl, rfl⟩, ?_, fun j hj => ?_, fun _ => ⟨rfl, rfl⟩, fun h9 => ?_⟩⟩
    · simp only [hq, Int.toNat_natCast]
      rw [e3, if_pos rfl]
    · simp only [hq, Int.toNat_natCast] at hj
      simp only
      rw [e3, if_neg hj]
    · rw [ho] at h9; cases h9
  · have ho' : x.own i = false := by simpa using ho
    rw [if_neg ho, hq, load_on on hq2]
    simp only [ne_eq, not_true_eq_false, if_false]
    by_cases hl : x.A.left = 0
    · left; rw [if_pos hl]; exact ⟨ho', hl, rfl⟩
    · right
      rw [if_neg hl]
      rcases lay_spec h.ok on (l := (x.M.now q).set w v) (by simpa using h.ok.M.now8 hq2) with ⟨e, _⟩ | ⟨k, M, h1, h2, h3, e, h4, h5, h6, h7⟩
      · exact absurd e hl
      · rw [e]
        simp only [not_true_eq_false, if_false]
        obtain ⟨g1, g2⟩ := h.setLine (i := i) (e := (x.work i).at k) h3 ⟨h1, h2⟩ rfl (h.v i hi) h4 h6
        have e9 : updE x.work i ((x.work i).at k) i = (x.work i).at k := if_pos rfl
        refine ⟨_, rfl, ⟨g1, h5, g2, rfl, rfl, rfl, rfl, h6, ⟨rfl, rfl⟩, fun j hj => if_neg hj, ?_, ?_, fun j hj => ?_, fun h9 => ?_, fun _ => ⟨k, h1, h2, h3, ?_, rfl⟩⟩⟩
        · simp only [e9]; exact ⟨rfl, rfl⟩
        · simp only [e9]
          simp only [Ent.at, Int.toNat_natCast]
          rw [h7, if_pos rfl, hq, Int.toNat_natCast]
        · simp only [e9] at hj
          simp only [Ent.at, Int.toNat_natCast] at hj
          simp only
          rw [h7, if_neg hj]
        · exact absurd h9 ho
        · simp only [e9]; rfl
theorem SetTo.left {x y : AS} {i w : Nat} {v : Int} (h : SetTo x y i w v) (ho : x.own i = false) : y.A.left + 1 = x.A.left := by
  obtain ⟨k, h1, h2, h3, _, h4⟩ := h.more ho
  have := AF.left_put (A := x.A) (k := k) (x := 1) h1 h2
  rw [h4]
  rw [if_pos h3, if_neg (by decide)] at this
  omega
end Go.Proofs.YtpbpgbedkmbfkaaDoor
namespace Go.Proofs.YtpbpgbedkmbfkaaDoor
open Go.Ab

theorem updE_self {t : Nat → Ent} {i : Nat} {e : Ent} : updE t i e i = e := if_pos rfl
theorem updE_ne {t : Nat → Ent} {i j : Nat} {e : Ent} (h : j ≠ i) : updE t i e j = t j := if_neg h
structure MadeTo (x y : AS) (k : Int) (n q : Nat) : Prop where
  inv : Inv y
  on : y.M.On
  own : y.own n = true
  base : y.base = x.base
  mark : y.mark = x.mark
  is : y.is = x.is
  dir : y.dir = x.dir
  nn : y.M.n = x.M.n
  work : y.work = updE x.work n ⟨k, (x.work n).ver, q⟩
  q0 : x.A.f ≤ q ∧ q < x.A.l ∧ x.A.st q = 0
  A : y.A = x.A.put q 1
  now : ∀ j, y.M.now j = if j = q then zl else x.M.now j
theorem make_spec {x : AS} (h : Inv x) (on : x.M.On) {k : Int} (hk : kindOk k) {n : Nat} (hn : nxt x.work = some n) :
    (x.A.left = 0 ∧ x.make k = (x, 0, 10)) ∨ ∃ y q, x.make k = (y, (n : Int), 0) ∧ MadeTo x y k n q := by
  have hnx := nxt_some hn
  have e1 : nxE x.work k = 0 := by unfold nxE; rw [if_pos hk, hn]
  have e2 : nxI x.work k = n := by unfold nxI; rw [if_pos hk, hn]
  have e3 : nxV x.work k = (x.work n).ver := by unfold nxV; rw [if_pos hk, hn]
  unfold AS.make
  rw [if_neg (by simp [e1]), e2, e3]
  rcases lay_spec h.ok on (l := zl) rfl with ⟨e, e4⟩ | ⟨q, M, h1, h2, h3, e, h4, h5, h6, h7⟩
  · left
    rw [e4]
    exact ⟨e, by simp⟩
  · right
    rw [e]
    simp only [ne_eq, not_true_eq_false, if_false, Int.toNat_natCast]
    obtain ⟨g1, g2⟩ := h.setLine (i := n) (e := ⟨k, (x.work n).ver, q⟩) h3 ⟨h1, h2⟩ rfl (h.v n hnx.1) h4 h6
    exact ⟨_, q, rfl, ⟨g1, h5, g2, rfl, rfl, rfl, rfl, h6, rfl, ⟨h1, h2, h3⟩, rfl, h7⟩⟩
theorem make_none {x : AS} {k : Int} (hk : kindOk k) (hn : nxt x.work = none) : x.make k = (x, 0, 34) := by
  have e1 : nxE x.work k = 34 := by unfold nxE; rw [if_pos hk, hn]
  unfold AS.make
  rw [e1, if_pos (by decide)]
theorem make_bad {x : AS} {k : Int} (hk : ¬ kindOk k) : x.make k = (x, 0, 1) := by
  have e1 : nxE x.work k = 1 := by unfold nxE; rw [if_neg hk]
  unfold AS.make
  rw [e1, if_pos (by decide)]
theorem MadeTo.left {x y : AS} {k : Int} {n q : Nat} (h : MadeTo x y k n q) : y.A.left + 1 = x.A.left := by
  have := AF.left_put (A := x.A) (k := q) (x := 1) h.q0.1 h.q0.2.1
  rw [h.A]
  rw [if_pos h.q0.2.2, if_neg (by decide)] at this
  omega
/-- An object that ends. -/
structure EndTo (x y : AS) (i : Nat) : Prop where
  inv : Inv y
  M : y.M = x.M
  base : y.base = x.base
  mark : y.mark = x.mark
  is : y.is = x.is
  dir : y.dir = x.dir
  work : y.work = updE x.work i ⟨0, endV (x.work i).ver, 0⟩
  fl : y.A.f = x.A.f ∧ y.A.l = x.A.l
  A : ∀ j : Nat, y.A.st j = if x.own i = true ∧ (x.work i).line = j then 0 else x.A.st j
theorem ends_spec {x : AS} (h : Inv x) {i : Nat} (hi : i < 49) (hk : (x.work i).kind ≠ 0) : ∃ y, x.ends i = (y, 0) ∧ EndTo x y i := by
  obtain ⟨q, hq, hq1, hq2, hq3⟩ := h.ln hi hk
  have hl := h.ok.l
  have hE : gE x.work i = 0 := by unfold gE; rw [if_neg (by omega), Int.toNat_natCast, if_neg hk]
  have hok := h.ok.ends i
  have hstate : x.A.state q = 1 := by rw [state_in (by omega) (by omega), Int.toNat_natCast]; exact hq3
  have hturn : (x.A.turn (x.work i).line 1 0).1 = x.A.put q 0 := by rw [hq, turn_ok hstate (by decide), Int.toNat_natCast]
  have hends : x.ends i = ({ x with A := if x.own i then x.A.put q 0 else x.A, work := updE x.work i ⟨0, endV (x.work i).ver, 0⟩ }, 0) := by
    unfold AS.ends
    rw [if_neg (by simp [hE]), Int.toNat_natCast, hturn]
  rw [hends] at hok ⊢
  have hA : ∀ j : Nat, (if x.own i then x.A.put q 0 else x.A).st j = if x.own i = true ∧ (x.work i).line = j then 0 else x.A.st j := fun j => by
    by_cases ho : x.own i = true
    · rw [if_pos ho, hq]
      simp only [AF.put, ho, true_and]
      by_cases e : j = q
      · subst e; rw [upd_self, if_pos rfl]
      · rw [upd_ne e, if_neg (by omega)]
    · rw [if_neg ho, if_neg (fun hh => ho hh.1)]
  have hownsame : ∀ j, j ≠ i → AS.own { x with A := if x.own i then x.A.put q 0 else x.A, work := updE x.work i ⟨0, endV (x.work i).ver, 0⟩ } j = x.own j := fun j hj => by
    show (!x.sh (updE x.work i _ j).line.toNat) = _
    rw [updE_ne hj]; rfl
  have hother : ∀ j : Nat, (∃ i', i' < 49 ∧ i' ≠ i ∧ (x.work i').kind ≠ 0 ∧ (x.work i').line = j) → ¬ (x.own i = true ∧ (x.work i).line = j) := fun j ⟨i', h1, h2, h3, h4⟩ ⟨h5, h6⟩ => by
    have := h.di i i' hi h1 (Ne.symm h2) hk h3 (by rw [h4, h6])
    rw [h5] at this; cases this
  refine ⟨_, rfl, ⟨⟨hok, verE h.v (by have := h.v i hi; exact endV_range this.1 this.2), fun j hj => ?_, fun j hj => ?_, fun a b ha hb hne h1 h2 h3 => ?_⟩, rfl, rfl, rfl, rfl, rfl, rfl, ?_, hA⟩⟩
  · obtain ⟨i', h1, h2, h3⟩ := namedL_iff.1 hj
    by_cases e : i' = i
    · subst e
      simp only [updE_self] at h2
      exact absurd rfl h2
    · simp only [updE_ne e] at h2 h3
      show (if x.own i then x.A.put q 0 else x.A).st j = 1
      rw [hA, if_neg (hother j ⟨i', h1, e, h2, h3⟩)]
      exact h.w1 j (namedL_iff.2 ⟨i', h1, h2, h3⟩)
  · have hj : x.sh j = true := hj
    show (if x.own i then x.A.put q 0 else x.A).st j = 1
    rw [hA, if_neg]
    · exact h.s1 j hj
    · rintro ⟨h5, h6⟩
      unfold AS.own at h5
      rw [h6, Int.toNat_natCast, hj] at h5
      cases h5
  · simp only at h1 h2 h3
    by_cases e : a = i
    · subst e; simp only [updE_self] at h1; exact absurd rfl h1
    · by_cases e2 : b = i
      · subst e2; simp only [updE_self] at h2; exact absurd rfl h2
      · simp only [updE_ne e, updE_ne e2] at h1 h2 h3
        rw [hownsame a e]
        exact h.di a b ha hb hne h1 h2 h3
  · simp only
    split <;> exact ⟨rfl, rfl⟩
theorem ends_none {x : AS} {id : Int} (h : gE x.work id ≠ 0) : x.ends id = (x, gE x.work id) := by
  unfold AS.ends; rw [if_pos h]
/-- What there is is marked. -/
theorem marks_spec {x : AS} (h : Inv x) (hi : x.is = false) : x.marks = ({ x with mark := x.work, is := true }, 0) ∧ Inv { x with mark := x.work, is := true } ∧ (∀ i, i < 49 → (x.work i).kind ≠ 0 → AS.own { x with mark := x.work, is := true } i = false) ∧
    ∀ j : Nat, AS.sh { x with mark := x.work, is := true } j = (namedL x.base j || namedL x.work j) := by
  have hm : x.marks = ({ x with mark := x.work, is := true }, 0) := by unfold AS.marks; rw [if_neg (by simp [hi])]
  have hok := h.ok.marks
  rw [hm] at hok
  have hsh : ∀ j : Nat, AS.sh { x with mark := x.work, is := true } j = (namedL x.base j || namedL x.work j) := fun j => by rw [sh_iff hok]; rfl
  have hown : ∀ i, i < 49 → (x.work i).kind ≠ 0 → AS.own { x with mark := x.work, is := true } i = false := fun i h1 h2 => by
    obtain ⟨q, hq, _⟩ := h.ln h1 h2
    show (!AS.sh { x with mark := x.work, is := true } (x.work i).line.toNat) = false
    rw [hsh, namedL_iff.2 ⟨i, h1, h2, by rw [hq]; rfl⟩]
    simp
  refine ⟨hm, ⟨hok, h.v, h.w1, fun j hj => ?_, fun i j h1 _ _ h2 _ _ => hown i h1 h2⟩, hown, hsh⟩
  rw [hsh, Bool.or_eq_true] at hj
  rcases hj with hj | hj
  · exact h.s1 j (by rw [sh_iff h.ok, hj]; rfl)
  · exact h.w1 j hj
/-- Frames, where more are taken. -/
theorem Inv.taken {x : AS} (h : Inv x) {k : Nat} (hk : x.A.st k = 0) : Inv { x with A := x.A.put k 1 } := by
  have hst : ∀ j : Nat, x.A.st j = 1 → (x.A.put k 1).st j = 1 := fun j hj => by
    simp only [AF.put]
    by_cases e : j = k
    · subst e; rw [upd_self]
    · rw [upd_ne e]; exact hj
  exact ⟨h.ok.with h.ok.M rfl (h.ok.A.put (.inr (.inl rfl))) (put2 h.ok.s2 (by decide)) rfl rfl, h.v, fun j hj => hst j (h.w1 j hj), fun j hj => hst j (h.s1 j hj), h.di⟩
theorem take_spec {x : AS} (h : Inv x) : (x.A.left = 0 ∧ x.take = (x, 0, 10)) ∨ ∃ k : Nat, x.A.f ≤ k ∧ k < x.A.l ∧ x.A.st k = 0 ∧ x.take = ({ x with A := x.A.put k 1 }, (k : Int), 0) ∧ Inv { x with A := x.A.put k 1 } ∧ (x.A.put k 1).left + 1 = x.A.left := by
  cases hf : x.A.first with
  | none =>
    have ha : x.A.alloc = (x.A, 0, 10) := by unfold AF.alloc; rw [hf]
    exact .inl ⟨AF.left_zero.2 hf, by unfold AS.take; rw [ha]⟩
  | some k =>
    have ha : x.A.alloc = (x.A.put k 1, (k : Int), 0) := by unfold AF.alloc; rw [hf]
    obtain ⟨h1, h2, h3, _⟩ := first_some h.ok.A hf
    have := AF.left_put (A := x.A) (k := k) (x := 1) h1 h2
    rw [if_pos h3, if_neg (by decide)] at this
    exact .inr ⟨k, h1, h2, h3, by unfold AS.take; rw [ha], h.taken h3, by omega⟩
end Go.Proofs.YtpbpgbedkmbfkaaDoor
namespace Go.Proofs.YtpbpgbedkmbfkaaDoor
open Go.Ab
structure BitA' (A : AF) (w : List Nat) : Prop where
  ok : A.Ok
  f : ∀ j, j < 1024 → bit w j = (A.inr j && decide (A.st j = 0))
  l : ∀ j, j < 1024 → bit (w16 []) j = (A.inr j && decide (A.st j = 2))
theorem rf_rbMake {s : St} {b : Nat} {x : RstF} (h : s.hp[b]? = some (.rw x.v)) (w k : Int) (h0 : 0 ≤ w) (h1 : w ≤ 18446744073709551615) :
    rf D f_steadfastref18_Make [.ptr (.hp b) [] 31, .int .u64 w, .int .i64 k] s = some (.tup [.int .i64 (mkI x.work w k), .int .u64 (mkW x.work w k), .int .i64 (if mayE w 5 2 = 0 then nxE x.work k else mayE w 5 2)], s) := by
  have hb := fun s => rf_ref07_May w 5 2 h0 h1 (by decide) (by decide) s
  have hn := rf_rNext (s := s) h k
  have hw := fun s => rf_ref07_Word (mkC x.work k) s
  unfold mkI mkW
  generalize capWord (mkC x.work k) = cw at *
  generalize capE (mkC x.work k) = ce at *
  simp only [mkC, Cap.v] at hw
  generalize nxI x.work k = ni at *
  generalize nxV x.work k = nv at *
  generalize nxE x.work k = ne at *
  generalize mayE w 5 2 = me at *
  rw [rf_o D_steadfastref18_Make rfl]
  by_cases e1 : me = 0
  · by_cases e2 : ne = 0
    · simp only [go_sem, hb, hn, hw, e1, e2, if_true]
    · simp only [go_sem, hb, hn, e1, e2, if_true, if_false]
  · simp only [go_sem, hb, e1, if_false]
/-- Frames, by their bits. -/
def bitF (w : List Nat) : AF := ⟨10, 100, fun j => if bit w j then 0 else 1⟩
theorem made_sq {H : List Blk} {t : Nat → Ent} {ls : Nat → List Int} {w : List Nat} {S : List Int} {X : List Blk} (hG : H[0]? = some (.ro globV_0)) (ht : ∀ i, i < 49 → (t i).kind ≠ 0 → (t i).line = 20 + i) (hw : OkS w) (hr : ∀ j, j < 1024 → bit w j = true → 10 ≤ j ∧ j < 100) (h8 : ∀ i, i < 100 → (ls i).length = 8) :
    StoQ (H ++ madeH H.length t ls w S X) (fun j => j = H.length ∨ j = H.length + 1) (H.length + 7) (H.length + 1) (H.length + 6) (as0 (am0 100 ls) (bitF w) t dir10) := by
  have hbA : BitA' (bitF w) w := ⟨⟨(show 10 ≤ 100 by decide), (show 100 ≤ 1024 by decide), fun j => by simp only [bitF]; split <;> simp⟩, fun j hj => by
    simp only [bitF, AF.inr]
    by_cases hb : bit w j = true
    · obtain ⟨h1, h2⟩ := hr j hj hb
      simp [h1, h2, hb]
    · have hb : bit w j = false := by simpa using hb
      simp [hb], fun j _ => by
    simp only [bitF]
    rw [bit_nil]
    split <;> simp⟩
  have hTab : TabOk (bitF w) t := ⟨fun i hi hk => by rw [ht i hi hk]; simp only [bitF]; omega⟩
  have h0 := lt_of_get hG
  have hlen : (H ++ madeH H.length t ls w S X).length = H.length + 11 + X.length := by simp [madeH]; omega
  refine ⟨⟨⟨(show 64 ≤ 100 by decide), (show 100 ≤ 1024 by decide), h8, fun _ _ d hd => (by cases hd), Int.le_refl _, fun _ _ => Int.le_refl _, Int.le_refl _, by simp [as0, am0]⟩, hbA.ok, rfl, hTab, hTab, ⟨fun _ _ hk => absurd rfl hk⟩, fun j => by simp only [as0, bitF]; split <;> simp⟩, ?_, ?_, ⟨hbA.ok, w, w16 [], ?_, hw, ok_nil, hbA.f, hbA.l⟩, ⟨⟨(show 64 ≤ 100 by decide), (show 100 ≤ 1024 by decide), h8, fun _ _ d hd => (by cases hd), Int.le_refl _, fun _ _ => Int.le_refl _, Int.le_refl _, by simp [as0, am0]⟩, fun j hj => ?_, .inr rfl, H.length, .inl rfl, by omega, ⟨some 100, 0, ?_, .inr rfl, fun h => by simp [as0, am0] at h⟩, fun _ => .nils, fun _ => 0, ?_, fun i hi => .nil⟩, by omega, by omega, by omega, by omega⟩
  · rw [List.getElem?_append_left h0]; exact hG
  · rw [madeH_at 7 (by omega)]; rfl
  · rw [madeH_at 6 (by omega)]; rfl
  · rw [hlen]; rcases hj with rfl | rfl <;> omega
  · rw [madeH_at 1 (by omega)]; rfl
  · have := madeH_at (H := H) (t := t) (ls := ls) (w := w) (S := S) (X := X) 0 (by omega)
    rw [Nat.add_zero] at this; rw [this]; rfl
theorem am0_on' (ls : Nat → List Int) : (am0 100 ls).On := ⟨rfl, rfl⟩
theorem names_word {t : Nat → Ent} {c : Cap} (h : c.Ok) : nmE t c.word = (if 4 < c.kind then 31 else if c.ver ≠ (t c.id.toNat).ver then 33 else if (t c.id.toNat).kind = 0 then 30 else if c.kind ≠ (t c.id.toNat).kind then 31 else 0) := by
  unfold nmE entryNames
  rw [capsOf_word h, capOf_word h, (may_iff c).2 h]
  simp
theorem law_BankMakes : ∀ hp vs, G <+: hp → Sh.FitsL hp [(.sl 28 (.st 26 [(.int .i64), (.int .i64), (.arr 24 8 (.int .u64))])), (.int .u64), (.int .i64)] vs → ∃ s', rf D f_steadfastlaw18_BankMakes vs ⟨[], hp⟩ = some (.bool true, s') := by
  intro hp vs hpre hf
  obtain ⟨v, y, z, rfl, h1, ⟨b, rfl, hb0, hb1⟩, ⟨k, rfl, hk0, hk1⟩⟩ := fits3 hf
  have hb0' : (0 : Int) ≤ b := hb0
  have hb1' : b ≤ 18446744073709551615 := hb1
  obtain ⟨lo, hrs, hlo⟩ := open_objs h1
  have hG : hp[0]? = some (.ro globV_0) := by obtain ⟨t, rfl⟩ := hpre; rfl
  obtain ⟨more, hsh⟩ := rf_shown18 ⟨[], hp⟩
  have hG1 : (hp ++ more)[0]? = some (.ro globV_0) := by rw [List.getElem?_append_left (lt_of_get hG)]; exact hG
  obtain ⟨w, S, X, hw1, hw2, hw3, _, hm⟩ := rf_made18 (hrs [] more)
  have ht : ∀ i, i < 49 → (entM 16777216 lo i).kind ≠ 0 → (entM 16777216 lo i).line = 20 + i := fun i _ hk => entM_line hk
  have hr := fun i => entM_range (M := 16777216) (by omega) lo i
  have h8 : ∀ i, i < 100 → (lnM lo i).length = 8 := fun i _ => by
    unfold lnM
    split
    · rename_i hh
      exact (hlo _ (getD_mem (by omega) zeroObj)).l8
    · rfl
  have hP := (prgM (H := hp ++ more) (ls := lnM lo) (w := w) (S := S) (X := X) ht).st
  have hD := (docM (H := hp ++ more) (ls := lnM lo) (w := w) (S := S) (X := X) ht).st
  have hQ := made_sq (X := X) (S := S) hG1 ht hw1 hw2 h8
  have f1 := fun L => rf_bMake (s := ⟨L, (hp ++ more) ++ madeH (hp ++ more).length (entM 16777216 lo) (lnM lo) w S X⟩) hP b k hb0' hb1'
  have f2 := fun L => rf_rbMake (s := ⟨L, (hp ++ more) ++ madeH (hp ++ more).length (entM 16777216 lo) (lnM lo) w S X⟩) hD b k hb0' hb1'
  simp only at hsh hm f1 f2
  generalize hp ++ more = H at *
  generalize madeH H.length (entM 16777216 lo) (lnM lo) w S X = mh at *
  generalize entM 16777216 lo = t at *
  generalize lnM lo = ls at *
  unfold mkI mkW mkE at f1
  unfold mkI mkW at f2
  by_cases e1 : mayE b 5 2 = 0
  · simp only [e1, if_true] at f1 f2
    by_cases e2 : nxE t k = 0
    · simp only [e2, if_true] at f1 f2
      obtain ⟨n1, n2, n3, n4, n5⟩ := nxI_lt e2
      obtain ⟨n, hn⟩ : ∃ n : Nat, nxI t k = n := ⟨(nxI t k).toNat, by omega⟩
      have hnx : nxt t = some n := by
        have hnxI := hn
        unfold nxI at hnxI
        rw [if_pos n5] at hnxI
        cases hq : nxt t with
        | none => unfold nxE at e2; rw [if_pos n5, hq] at e2; cases e2
        | some q => rw [hq] at hnxI; simp only at hnxI; congr 1; omega
      rw [hn, Int.toNat_natCast] at n3 n4
      have hop : (t n).kind = 0 ∧ (t n).ver < 16777215 := by unfold openB at n4; simpa using n4
      have hok : (mkC t k).Ok := by
        have := hr n
        unfold kindOk at n5
        refine ⟨?_, ?_, ?_, ?_, ?_, ?_⟩ <;> simp only [mkC, hn, n3] <;> omega
      have hmay := (may_iff _).2 hok
      have hwr := word_range hok
      rw [show capWord (mkC t k) = (mkC t k).word from if_pos hmay, show capE (mkC t k) = 0 from if_pos hmay] at f1
      rw [show capWord (mkC t k) = (mkC t k).word from if_pos hmay] at f2
      -- named before, and behind
      have g1 := rf_sp_Names hQ (mkC t k).word hwr.1 hwr.2
      have ge1 : nmE t (mkC t k).word ≠ 0 := by
        rw [names_word hok]
        simp only [mkC, hn, n3, Int.toNat_natCast, hop.1]
        split <;> simp
      obtain ⟨hp2, Fm2, g2, g3, g4⟩ := rf_sp_Make hQ (by simp [as0, am0]) k []
      have hfree : (bitF w).left ≠ 0 := fun h0 => by
        have hf := AF.left_zero.1 h0
        have hA : (bitF w).Ok := hQ.ok.A
        have := first_none hA hf 18 (by simp [bitF]) (by simp [bitF])
        simp [bitF, hw3] at this
      have hmk : ∃ q : Nat, (AS.make (as0 (am0 100 ls) (bitF w) t dir10) k).2 = ((n : Int), 0) ∧ (AS.make (as0 (am0 100 ls) (bitF w) t dir10) k).1.work = updE t n ⟨k, (t n).ver, q⟩ := by
        unfold AS.make
        have e3 : nxE (as0 (am0 100 ls) (bitF w) t dir10).work k = 0 := e2
        rw [if_neg (by simp [e3])]
        rcases lay_spec hQ.ok (am0_on' ls) (l := zl) rfl with ⟨e, _⟩ | ⟨q, M, q1, q2, q3, e, _⟩
        · exact absurd e hfree
        · rw [e]
          refine ⟨q, ?_, ?_⟩
          · show (nxI t k, (0 : Int)) = _; rw [hn]
          · show updE t (nxI t k).toNat ⟨k, nxV t k, q⟩ = _
            rw [hn, Int.toNat_natCast, n3]
      obtain ⟨q, hm1, hm2⟩ := hmk
      rw [hm1] at g2
      have g5 := rf_sp_Names g3 (mkC t k).word hwr.1 hwr.2
      rw [hm2] at g5
      have ge2 : nmE (updE t n ⟨k, (t n).ver, q⟩) (mkC t k).word = 0 := by
        rw [names_word hok]
        simp only [mkC, hn, n3, Int.toNat_natCast, updE_self]
        have k1 : ¬ 4 < k := by unfold kindOk at n5; omega
        have k2 : ¬ k = 0 := by unfold kindOk at n5; omega
        simp [k1, k2]
      have gi2 : nmId (updE t n ⟨k, (t n).ver, q⟩) (mkC t k).word = n := by
        unfold nmId
        rw [if_pos ge2, capsOf_word hok]
        exact hn
      rw [ge2, gi2] at g5
      have g6 := fun s => rf_caps_May (mkC t k).word k 15 hwr.1 hwr.2 s
      have ge3 : mayE (mkC t k).word k 15 = 0 := by
        unfold mayE
        rw [capOf_word hok, capsOf_word hok, hmay]
        simp only [mkC]
        have e15 : iandnot .i64 15 15 = 0 := by decide
        simp [e15]
      rw [ge3] at g6
      rw [hn] at f1 f2
      refine ⟨⟨[], hp2⟩, ?_⟩
      clear hQ g3 hm1 hm2 g4
      have e9 : (as0 (am0 100 ls) (bitF w) t dir10).work = t := rfl
      rw [e9] at g1
      generalize nmE t (mkC t k).word = ne1 at *
      generalize nmId t (mkC t k).word = ni1 at *
      generalize (mkC t k).word = cw at *
      rw [rf_o D_steadfastlaw18_BankMakes rfl]
      simp only [go_sem, hsh, hm, f1, f2]
      simp only [go_sem, g1, g2, g5, g6, ge1]
    · simp only [e2, if_false] at f1 f2
      refine ⟨⟨[], H ++ mh⟩, ?_⟩
      generalize nxE t k = ne at *
      rw [rf_o D_steadfastlaw18_BankMakes rfl]
      simp only [go_sem, hsh, hm, f1, f2, e2]
  · simp only [e1, if_false] at f1 f2
    refine ⟨⟨[], H ++ mh⟩, ?_⟩
    generalize mayE b 5 2 = me at *
    rw [rf_o D_steadfastlaw18_BankMakes rfl]
    simp only [go_sem, hsh, hm, f1, f2, e1]
end Go.Proofs.YtpbpgbedkmbfkaaDoor
