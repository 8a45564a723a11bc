/-
  YtpbpgbedkmbfkaaT1: what functions of the program compute (ReachA, ReachB, ReachShown, ReachC, CapsA, CapsB).
-/
import Derived.Test.YtpbpgbedkmbfkaaCode
import Derived.Test.YtpbpgbedkmbfkaaAbD
import Derived.Test.YtpbpgbedkmbfkaaAbE
import Derived.KernelRfl
import Derived.Test.YtpbpgbedkmbfkaaClo
import Derived.Test.YtpbpgbedkmbfkaaAbF
set_option maxRecDepth 100000
namespace Go.Proofs.Ytpbpgbedkmbfkaa
open Go.Ab

structure Cap where
  kind : Int
  rights : Int
  id : Int
  ver : Int
  badge : Int
  deriving DecidableEq
def Cap.v (c : Cap) : V := .agg 40 [.int .i64 c.kind, .int .i64 c.rights, .int .i64 c.id, .int .i64 c.ver, .int .i64 c.badge]
def capOf (w : Int) : Cap := ⟨w % 16, w / 16 % 16, w / 256 % 65536, w / 16777216 % 16777216, w / 281474976710656⟩
def noCap : Cap := ⟨0, 0, 0, 0, 0⟩
def within (n a b : Int) : Bool := decide (a ≤ n) && decide (n ≤ b)
def Cap.may (c : Cap) : Bool :=
  within c.kind 1 6 && within c.rights 0 15 && within c.id 0 48 && within c.ver 0 16777215 && within c.badge 0 65535 && (!(decide (c.kind = 5) || decide (c.kind = 6)) || (decide (c.id = 0) && decide (c.ver = 0)))
theorem rf_caps_within (n a b : Int) (s : St) : rf D f_caps_within [.int .i64 n, .int .i64 a, .int .i64 b] s = some (.bool (within n a b), s) := by
  rw [rf_o D_caps_within rfl]
  simp only [go_sem]
  unfold within
  by_cases h : a ≤ n <;> simp [h, go_sem]
theorem rf_caps_may (c : Cap) (s : St) : rf D f_caps_may [c.v] s = some (.bool c.may, s) := by
  rw [rf_o D_caps_may rfl]
  simp only [go_sem, Cap.v, rf_caps_within]
  simp [Cap.may, Bool.and_assoc]
/-- What a word's capability is, if it is one. -/
def capsOf (w : Int) : Cap := if (capOf w).may then capOf w else noCap
theorem rf_caps_Of (w : Int) (h0 : 0 ≤ w) (h1 : w ≤ 18446744073709551615) (s : St) : rf D f_caps_Of [.int .u64 w] s = some (.tup [(capsOf w).v, .bool (capOf w).may], s) := by
  have p1 : iand .u64 w 15 = w % 16 := iand_mask w 4 h0 (by omega) (by decide)
  have p2 : iand .u64 (w / 16) 15 = w / 16 % 16 := iand_mask (w / 16) 4 (by omega) (by omega) (by decide)
  have p3 : iand .u64 (w / 256) 65535 = w / 256 % 65536 := iand_mask (w / 256) 16 (by omega) (by omega) (by decide)
  have p4 : iand .u64 (w / 16777216) 16777215 = w / 16777216 % 16777216 := iand_mask (w / 16777216) 24 (by omega) (by omega) (by decide)
  have q1 : IntKind.i64.wrap (w % 16) = w % 16 := i64_id (by omega) (by omega)
  have q2 : IntKind.i64.wrap (w / 16 % 16) = w / 16 % 16 := i64_id (by omega) (by omega)
  have q3 : IntKind.i64.wrap (w / 256 % 65536) = w / 256 % 65536 := i64_id (by omega) (by omega)
  have q4 : IntKind.i64.wrap (w / 16777216 % 16777216) = w / 16777216 % 16777216 := i64_id (by omega) (by omega)
  have q5 : IntKind.i64.wrap (w / 281474976710656) = w / 281474976710656 := i64_id (by omega) (by omega)
  have f1 : ishr .u64 w 4 = w / 16 := ishr_two w 4 (by decide)
  have f2 : ishr .u64 w 8 = w / 256 := ishr_two w 8 (by decide)
  have f3 : ishr .u64 w 24 = w / 16777216 := ishr_two w 24 (by decide)
  have f4 : ishr .u64 w 48 = w / 281474976710656 := ishr_two w 48 (by decide)
  have hm := fun s => rf_caps_may (capOf w) s
  rw [rf_o D_caps_Of rfl]
  unfold capsOf
  simp only [Cap.v, capOf] at hm ⊢
  simp only [go_sem, f1, f2, f3, f4, p1, p2, p3, p4, q1, q2, q3, q4, q5, hm]
  by_cases hb : (Cap.mk (w % 16) (w / 16 % 16) (w / 256 % 65536) (w / 16777216 % 16777216) (w / 281474976710656)).may = true <;> simp [hb, noCap]
theorem may_id {c : Cap} (h : c.may = true) : 0 ≤ c.id ∧ c.id ≤ 48 := by
  simp only [Cap.may, within, Bool.and_eq_true, decide_eq_true_eq] at h
  exact h.1.1.1.2

/-! ### Entries -/
def entryNames (kind ver id w : Int) : Int :=
  if (!(capOf w).may || decide (4 < (capsOf w).kind)) then 31 else
  if (capsOf w).id ≠ id then 30 else if (capsOf w).ver ≠ ver then 33 else if kind = 0 then 30 else if (capsOf w).kind ≠ kind then 31 else 0
theorem rf_entry_Names (kind ver line id w : Int) (h0 : 0 ≤ w) (h1 : w ≤ 18446744073709551615) (s : St) :
    rf D f_entry_Names [.agg 42 [.int .i64 kind, .int .i64 ver, .int .i64 line], .int .i64 id, .int .u64 w] s = some (.int .i64 (entryNames kind ver id w), s) := by
  have hc := fun s => rf_caps_Of w h0 h1 s
  rw [rf_o D_entry_Names rfl]
  unfold entryNames
  generalize capsOf w = y at hc ⊢
  generalize (capOf w).may = m at hc ⊢
  simp only [Cap.v] at hc
  simp only [go_sem, hc]
  cases m
  · simp [go_sem]
  · by_cases g1 : 4 < y.kind
    · simp [go_sem, g1]
    · by_cases g2 : y.id = id
      · by_cases g3 : y.ver = ver
        · by_cases g4 : kind = 0
          · simp [go_sem, g1, g2, g3, g4]
          · by_cases g5 : y.kind = kind <;> simp [go_sem, g1, g2, g3, g4, g5]
        · simp [go_sem, g1, g2, g3]
      · simp [go_sem, g1, g2]
end Go.Proofs.Ytpbpgbedkmbfkaa
namespace Go.Proofs.Ytpbpgbedkmbfkaa
open Go.Ab

structure Obj where
  kind : Int
  ver : Int
  l : List Int
def noObj : Obj := ⟨0, 0, []⟩
def Obj.v (o : Obj) : V := .agg 26 [.int .i64 o.kind, .int .i64 o.ver, .agg 24 (o.l.map (.int .u64))]
def worldV (W : List Obj) : V := .agg 30 (W.map Obj.v)
structure OkW (W : List Obj) : Prop where
  len : W.length = 49
  l8 : ∀ o ∈ W, o.l.length = 8
  words : ∀ o ∈ W, ∀ x ∈ o.l, 0 ≤ x ∧ x ≤ 18446744073709551615
def objAt (W : List Obj) (i : Nat) : Obj := W.getD i noObj
theorem objAt_get {W : List Obj} (h : OkW W) {i : Nat} (hi : i < 49) : (W.map Obj.v)[i]? = some (objAt W i).v := by
  rw [List.getElem?_map, List.getElem?_eq_getElem (by rw [h.len]; exact hi)]
  simp [objAt, List.getD_eq_getElem?_getD, List.getElem?_eq_getElem (show i < W.length by rw [h.len]; exact hi)]
theorem objAt_mem {W : List Obj} (h : OkW W) {i : Nat} (hi : i < 49) : objAt W i ∈ W := by
  simp only [objAt, List.getD_eq_getElem?_getD]
  rw [List.getElem?_eq_getElem (by rw [h.len]; exact hi)]
  exact List.getElem_mem _

def names (W : List Obj) (c : Int) : Option Nat :=
  if (capOf c).may ∧ entryNames (objAt W (capOf c).id.toNat).kind (objAt W (capOf c).id.toNat).ver (capOf c).id c = 0 then some (capOf c).id.toNat else none
theorem names_lt {W : List Obj} {c : Int} {i : Nat} (h : names W c = some i) : i < 49 := by
  unfold names at h
  split at h
  · rename_i hc
    have := may_id hc.1
    cases h
    omega
  · cases h
theorem rf_Names (W : List Obj) (hW : OkW W) (c : Int) (h0 : 0 ≤ c) (h1 : c ≤ 18446744073709551615) (s : St) : rf D f_reach_Names [worldV W, .int .u64 c] s =
    some (.tup [.int .i64 ((names W c).getD 0 : Nat), .bool (names W c).isSome], s) := by
  have hc := fun s => rf_caps_Of c h0 h1 s
  rw [rf_o D_reach_Names rfl]
  unfold names
  by_cases hm : (capOf c).may = true
  · have hid := may_id hm
    obtain ⟨i, hi⟩ : ∃ i : Nat, (capOf c).id = i := ⟨(capOf c).id.toNat, by omega⟩
    have hcc : capsOf c = capOf c := by unfold capsOf; rw [if_pos hm]
    have hg := objAt_get hW (i := i) (by omega)
    have hen := fun k v l s => rf_entry_Names k v l (i : Int) c h0 h1 s
    rw [hcc, hm] at hc
    simp only [Cap.v, hi] at hc
    have c1 : (i : Int) < 49 := by omega
    have c2 : (0 : Int) ≤ i := by omega
    simp only [Obj.v] at hg
    simp only [hi, hm, Int.toNat_natCast, true_and]
    simp only [go_sem, worldV, hc, c1, c2, Int.toNat_natCast, hg, hen, List.replicate]
    by_cases he : entryNames (objAt W i).kind (objAt W i).ver i c = 0 <;> simp [he]
  · have hm' : (capOf c).may = false := by simpa using hm
    rw [hm'] at hc
    simp only [Cap.v] at hc
    simp only [hm']
    simp only [go_sem, worldV, hc]
/-! ### Reach -/
def Succ (W : List Obj) (i j : Nat) : Prop := (objAt W i).kind = 2 ∧ ∃ w ∈ (objAt W i).l, names W w = some j
inductive Reach (W : List Obj) : Nat → Nat → Prop where
  | refl (i : Nat) : Reach W i i
  | step {i j k : Nat} : Succ W i j → Reach W j k → Reach W i k
/-- What a visit adds. -/
structure Vis (W : List Obj) (A : List Bool) (R : Nat → Prop) (B : List Bool) : Prop where
  len : B.length = A.length
  sub : ∀ j : Nat, A[j]? = some true → B[j]? = some true
  root : ∀ i, R i → B[i]? = some true
  sound : ∀ j : Nat, B[j]? = some true → A[j]? = some true ∨ ∃ i, R i ∧ Reach W i j
  clos : ∀ j : Nat, B[j]? = some true → A[j]? = some true ∨ ∀ k, Succ W j k → B[k]? = some true
def visitArgs (a b d : Nat) : List V := [.ptr (.loc a) [] 30, .ptr (.loc b) [] 32, .ptr (.loc d) [] 1]
def inV (A : List Bool) : Blk := .rw (.agg 32 (A.map .bool))
theorem visit (W : List Obj) (hW : OkW W) (L H : List Blk) (a b d : Nat) (ha : L[a]? = some (.rw (worldV W))) (hb : b < L.length) (hd : L[d]? = some (.rw (.fn f_reach_From_1 (visitArgs a b d)))) (hab : a ≠ b) (hdb : d ≠ b) :
    ∀ n (A : List Bool), A.count false < n → A.length = 49 → ∀ c : Int, 0 ≤ c → c ≤ 18446744073709551615 →
      ∃ B, rf D f_reach_From_1 (.int .u64 c :: visitArgs a b d) ⟨L.set b (inV A), H⟩ = some (.tup [], ⟨L.set b (inV B), H⟩) ∧ Vis W A (fun i => names W c = some i) B := by
  have ga : ∀ x, (L.set b x)[a]? = some (.rw (worldV W)) := fun x => by rw [List.getElem?_set_ne (Ne.symm hab)]; exact ha
  have gd : ∀ x, (L.set b x)[d]? = some (.rw (.fn f_reach_From_1 (visitArgs a b d))) := fun x => by rw [List.getElem?_set_ne (Ne.symm hdb)]; exact hd
  have gb : ∀ x, (L.set b x)[b]? = some x := fun x => List.getElem?_set_self hb
  have hdl := (List.getElem?_eq_some_iff.1 hd).1
  intro n
  induction n with
  | zero => intro A hn; omega
  | succ n ih =>
    intro A hn hA c h0 h1
    have hnm := fun s => rf_Names W hW c h0 h1 s
    have htake : ∀ x, (L.set b x).take L.length = L.set b x := fun x => by rw [List.take_of_length_le (by simp)]
    have hdrop : ∀ x, (L.set b x).drop L.length = [] := fun x => by rw [List.drop_eq_nil_iff]; simp
    simp only [visitArgs] at gd ⊢
    cases hr : names W c with
    | none =>
      rw [hr] at hnm
      refine ⟨A, ?_, rfl, (fun j h => h), (fun i h => by cases h), (fun j h => .inl h), (fun j h => .inl h)⟩
      rw [rf_o D_reach_From_1 rfl]
      simp only [go_sem, ga, gb, hnm, List.length_set, htake]
    | some i =>
      rw [hr] at hnm
      have hi49 := names_lt hr
      have hia : i < A.length := by omega
      have c1 : (i : Int) < 49 := by omega
      have c2 : (0 : Int) ≤ i := by omega
      simp only [Option.getD_some, Option.isSome_some] at hnm
      rcases getElem?_bool hia with ht | hf
      · have hg : (A.map V.bool)[i]? = some (.bool true) := by rw [List.getElem?_map, ht]; rfl
        refine ⟨A, ?_, rfl, (fun j h => h), (fun k h => by cases h; exact ht), (fun j h => .inl h), (fun j h => .inl h)⟩
        rw [rf_o D_reach_From_1 rfl]
        simp only [inV] at *
        simp only [go_sem, ga, gb, hnm, List.length_set, htake, c1, c2, Int.toNat_natCast, hg]
      · have hg : (A.map V.bool)[i]? = some (.bool false) := by rw [List.getElem?_map, hf]; rfl
        have hw : (W.map Obj.v)[i]? = some (objAt W i).v := objAt_get hW hi49
        simp only [Obj.v] at hw
        have hcf := count_false_set hf
        have hset : (A.set i true).length = 49 := by simp [hA]
        have hsi : (A.set i true)[i]? = some true := by rw [List.getElem?_set_self hia]
        by_cases hk : (objAt W i).kind = 2
        · have hl8 := hW.l8 _ (objAt_mem hW hi49)
          have hwords := hW.words _ (objAt_mem hW hi49)
          generalize hwl : (objAt W i).l = wl at hl8 hwords hw
          have loop : ∃ r, rc D L.length (.loop [3, 32, 33] b_reach_From_1_0) [(3, .ptr (.loc d) [] 1), (32, .agg 24 (wl.map (.int .u64))), (33, .int .i64 0)] ⟨L.set b (inV (A.set i true)), H⟩ = some r ∧
              ∃ B, r = (.exit 0, [(3, .ptr (.loc d) [] 1), (32, .agg 24 (wl.map (.int .u64))), (33, .int .i64 8), (34, .bool false)], ⟨L.set b (inV B), H⟩) ∧
                Vis W (A.set i true) (fun k => ∃ m, m < 8 ∧ names W (wl.getD m 0) = some k) B := by
            refine loop_ex (fun x : Nat × List Bool => [(3, .ptr (.loc d) [] 1), (32, .agg 24 (wl.map (.int .u64))), (33, .int .i64 x.1)]) (fun x => ⟨L.set b (inV x.2), H⟩) _ (fun x => 8 - x.1)
              (fun x => x.1 ≤ 8 ∧ Vis W (A.set i true) (fun k => ∃ m, m < x.1 ∧ names W (wl.getD m 0) = some k) x.2) (0, A.set i true) ?_ ?_ ?_ ?_
            · rintro ⟨k, B⟩ ⟨hk8, hv⟩
              simp only at hk8 hv
              by_cases hlt : k < 8
              · left
                have c3 : (k : Int) < 8 := by omega
                have c4 : (0 : Int) ≤ k := by omega
                have c5 : IntKind.i64.wrap ((k : Int) + 1) = (k : Int) + 1 := i64_id (by omega) (by omega)
                have hkl : k < wl.length := by omega
                have hgk : (wl.map (V.int .u64))[k]? = some (.int .u64 (wl.getD k 0)) := by simp [List.getD_eq_getElem?_getD, hkl]
                have hwk := hwords (wl.getD k 0) (by simp only [List.getD_eq_getElem?_getD, List.getElem?_eq_getElem hkl, Option.getD_some]; exact List.getElem_mem _)
                have hBl : B.length = 49 := by rw [hv.len, hset]
                obtain ⟨B', e1, hv'⟩ := ih B (by have := count_false_le (a := A.set i true) (b := B) (by rw [hv.len]) hv.sub; omega) hBl (wl.getD k 0) hwk.1 hwk.2
                refine ⟨(k + 1, B'), ⟨by simp only; omega, ?_⟩, by simp only; omega, ?_⟩
                · refine ⟨by rw [hv'.len, hv.len], fun j h => hv'.sub j (hv.sub j h), ?_, ?_, ?_⟩
                  · rintro q ⟨m, hm, hq⟩
                    by_cases hmk : m = k
                    · subst hmk; exact hv'.root q hq
                    · exact hv'.sub q (hv.root q ⟨m, by simp only at hm; omega, hq⟩)
                  · intro j hj
                    rcases hv'.sound j hj with h | ⟨q, hq, hr'⟩
                    · rcases hv.sound j h with h | ⟨q, ⟨m, hm, hq⟩, hr'⟩
                      · exact .inl h
                      · exact .inr ⟨q, ⟨m, by simp only; omega, hq⟩, hr'⟩
                    · exact .inr ⟨q, ⟨k, by simp only; omega, hq⟩, hr'⟩
                  · intro j hj
                    rcases hv'.clos j hj with h | h
                    · rcases hv.clos j h with h | h
                      · exact .inl h
                      · exact .inr fun q hs => hv'.sub q (h q hs)
                    · exact .inr h
                · simp only [visitArgs] at e1
                  simp only [go_sem, b_reach_From_1_0, c3, c4, c5, Int.toNat_natCast, hgk, gd, List.length_set, e1, hdl, htake, hdrop]
                  rfl
              · right
                have hk8' : k = 8 := by omega
                subst hk8'
                refine ⟨_, ?_, B, rfl, hv⟩
                simp only [go_sem, b_reach_From_1_0]
            · exact ⟨Nat.zero_le _, rfl, (fun j h => h), (fun k h => by obtain ⟨m, hm, _⟩ := h; simp only at hm; omega), (fun j h => .inl h), (fun j h => .inl h)⟩
            · rfl
            · rfl
          obtain ⟨_, hloop, B, rfl, hv⟩ := loop
          refine ⟨B, ?_, by rw [hv.len]; simp, (fun j h => hv.sub j (set_true_sub h)), (fun k h => by cases h; exact hv.sub i hsi), (fun j h => ?_), (fun j h => ?_)⟩
          · rw [rf_o D_reach_From_1 rfl]
            simp only [inV, worldV] at *
            simp only [go_sem, ga, gb, hnm, List.length_set, htake, c1, c2, Int.toNat_natCast, hg, hw, hk, map_vset, List.set_set, hloop]
          · rcases hv.sound j h with h | ⟨q, ⟨m, hm, hq⟩, hr'⟩
            · rcases set_true h with h | rfl
              · exact .inl h
              · exact .inr ⟨j, rfl, .refl j⟩
            · refine .inr ⟨i, rfl, .step ⟨hk, wl.getD m 0, ?_, hq⟩ hr'⟩
              rw [hwl, List.getD_eq_getElem?_getD, List.getElem?_eq_getElem (show m < wl.length by omega), Option.getD_some]
              exact List.getElem_mem _
          · rcases hv.clos j h with h | h
            · rcases set_true h with h | rfl
              · exact .inl h
              · right
                rintro k ⟨_, w, hw1, hw2⟩
                rw [hwl] at hw1
                obtain ⟨m, hm, rfl⟩ := List.getElem_of_mem hw1
                exact hv.root k ⟨m, by omega, by rw [List.getD_eq_getElem?_getD, List.getElem?_eq_getElem hm, Option.getD_some]; exact hw2⟩
            · exact .inr h
        · refine ⟨A.set i true, ?_, by simp, (fun j h => set_true_sub h), (fun k h => by cases h; exact hsi), (fun j h => ?_), (fun j h => ?_)⟩
          · rw [rf_o D_reach_From_1 rfl]
            simp only [inV, worldV] at *
            simp only [go_sem, ga, gb, hnm, List.length_set, htake, c1, c2, Int.toNat_natCast, hg, hw, hk, map_vset, List.set_set]
          · rcases set_true h with h | rfl
            · exact .inl h
            · exact .inr ⟨j, rfl, .refl j⟩
          · rcases set_true h with h | rfl
            · exact .inl h
            · exact .inr fun k hs => absurd hs.1 hk
/-- What can be come to by a word. -/
structure FromS (W : List Obj) (c : Int) (B : List Bool) : Prop where
  len : B.length = 49
  iff : ∀ j : Nat, B[j]? = some true ↔ ∃ i, names W c = some i ∧ Reach W i j
theorem from_of {W : List Obj} {c : Int} {B : List Bool} (h : Vis W (List.replicate 49 false) (fun i => names W c = some i) B) : FromS W c B := by
  have no : ∀ j : Nat, (List.replicate 49 false)[j]? ≠ some true := by
    intro j hj
    rw [List.getElem?_replicate] at hj
    split at hj <;> cases hj
  refine ⟨by rw [h.len]; rfl, fun j => ⟨fun hj => (h.sound j hj).resolve_left (no j), ?_⟩⟩
  rintro ⟨i, hi, hr⟩
  have key : ∀ {i j : Nat}, Reach W i j → B[i]? = some true → B[j]? = some true := by
    intro i j hr
    induction hr with
    | refl i => exact id
    | step hs _ ih => exact fun hi => ih (((h.clos _ hi).resolve_left (no _)) _ hs)
  exact key hr (h.root i hi)
theorem from_unique {W : List Obj} {c : Int} {B B' : List Bool} (h : FromS W c B) (h' : FromS W c B') : B = B' := by
  apply List.ext_getElem?
  intro j
  by_cases hj : j < 49
  · have e := (h.iff j).trans (h'.iff j).symm
    rcases getElem?_bool (a := B) (j := j) (by rw [h.len]; exact hj) with h1 | h1
    · rw [h1, e.1 h1]
    · rcases getElem?_bool (a := B') (j := j) (by rw [h'.len]; exact hj) with h2 | h2
      · rw [e.2 h2] at h1; cases h1
      · rw [h1, h2]
  · rw [List.getElem?_eq_none (by rw [h.len]; omega), List.getElem?_eq_none (by rw [h'.len]; omega)]
theorem rf_From (W : List Obj) (hW : OkW W) (c : Int) (h0 : 0 ≤ c) (h1 : c ≤ 18446744073709551615) : ∃ B, FromS W c B ∧ ∀ s, rf D f_reach_From [worldV W, .int .u64 c] s = some (.agg 32 (B.map .bool), s) := by
  have run : ∀ s, ∃ B, FromS W c B ∧ rf D f_reach_From [worldV W, .int .u64 c] s = some (.agg 32 (B.map .bool), s) := by
    intro s
    obtain ⟨B, e1, hv⟩ := visit W hW (s.loc ++ [.rw (worldV W), .rw (.agg 32 ((List.replicate 49 false).map .bool)), .rw (.agg 32 ((List.replicate 49 false).map .bool)), .rw (.fn f_reach_From_1 (visitArgs s.loc.length (s.loc.length + 2) (s.loc.length + 3)))]) s.hp s.loc.length (s.loc.length + 2) (s.loc.length + 3)
      (by simp) (by simp) (by simp) (by omega) (by omega) 50 (List.replicate 49 false) (by decide) (by simp) c h0 h1
    refine ⟨B, from_of hv, ?_⟩
    rw [app_set] at e1
    rw [app_set] at e1
    simp only [visitArgs, inV, List.set_cons_zero, List.set_cons_succ, List.map_replicate] at e1
    rw [rf_o D_reach_From rfl]
    simp only [worldV] at e1 ⊢
    simp only [go_sem, e1]
  obtain ⟨B, hB, _⟩ := run ⟨[], []⟩
  refine ⟨B, hB, fun s => ?_⟩
  obtain ⟨B', hB', h⟩ := run s
  rw [from_unique hB hB']
  exact h
end Go.Proofs.Ytpbpgbedkmbfkaa
namespace Go.Proofs.Ytpbpgbedkmbfkaa
open Go.Ab
theorem ev_shown : ev D 3000 (.f f_steadfastlaw23_shown []) ⟨[], []⟩ = some (.v (.bool true) ⟨[], []⟩) := by kernel_rfl
end Go.Proofs.Ytpbpgbedkmbfkaa
namespace Go.Proofs.Ytpbpgbedkmbfkaa
open Go.Ab

theorem map_of {α : Type} {f : α → V} {P : α → Prop} {l : List V} (h : ∀ x ∈ l, ∃ a, x = f a ∧ P a) : ∃ la : List α, l = la.map f ∧ ∀ a ∈ la, P a := by
  induction l with
  | nil => exact ⟨[], rfl, by simp⟩
  | cons x l ih =>
    obtain ⟨a, rfl, ha⟩ := h x (List.mem_cons_self ..)
    obtain ⟨la, rfl, hl⟩ := ih fun y hy => h y (List.mem_cons_of_mem _ hy)
    refine ⟨a :: la, rfl, fun y hy => ?_⟩
    rcases List.mem_cons.1 hy with rfl | hy
    · exact ha
    · exact hl y hy
structure OkO (o : Obj) : Prop where
  l8 : o.l.length = 8
  words : ∀ x ∈ o.l, 0 ≤ x ∧ x ≤ 18446744073709551615
theorem obj_of {hp : List Blk} {v : V} (h : (Sh.st 26 [.int .i64, .int .i64, .arr 24 8 (.int .u64)]).Fits hp v) : ∃ o : Obj, v = o.v ∧ OkO o ∧ (-9223372036854775808 ≤ o.kind ∧ o.kind ≤ 9223372036854775807) ∧ (-9223372036854775808 ≤ o.ver ∧ o.ver ≤ 9223372036854775807) := by
  obtain ⟨vs, rfl, h⟩ := h
  obtain ⟨x, y, z, rfl, ⟨k, rfl, hk⟩, ⟨w, rfl, hw⟩, ⟨ws, rfl, hn, hl⟩⟩ := fits3 h
  obtain ⟨l, rfl, hl'⟩ := map_of (f := V.int .u64) (P := fun x => 0 ≤ x ∧ x ≤ 18446744073709551615) (fun x hx => by
    obtain ⟨n, rfl, h1, h2⟩ := hl x hx
    exact ⟨n, rfl, h1, h2⟩)
  refine ⟨⟨k, w, l⟩, rfl, ⟨by simpa using hn, hl'⟩, hk, hw⟩

def zeroObj : Obj := ⟨0, 0, List.replicate 8 0⟩
structure Small (W : List Obj) : Prop where
  ok : OkW W
  kind : ∀ o ∈ W, 0 ≤ o.kind ∧ o.kind ≤ 4
  ver : ∀ o ∈ W, 0 ≤ o.ver ∧ o.ver ≤ 99
theorem small_zero : Small (List.replicate 49 zeroObj) := by
  refine ⟨⟨by simp, ?_, ?_⟩, ?_, ?_⟩ <;> intro o ho <;> rw [List.eq_of_mem_replicate ho]
  · rfl
  · intro x hx; rw [List.eq_of_mem_replicate hx]; omega
  · simp [zeroObj]
  · simp [zeroObj]
theorem Small.set {W : List Obj} (h : Small W) (i : Nat) {o : Obj} (ho : OkO o) (hk : 0 ≤ o.kind ∧ o.kind ≤ 4) (hv : 0 ≤ o.ver ∧ o.ver ≤ 99) : Small (W.set i o) := by
  refine ⟨⟨by simp [h.ok.len], ?_, ?_⟩, ?_, ?_⟩ <;> intro q hq <;> rcases List.mem_or_eq_of_mem_set hq with hq | rfl
  · exact h.ok.l8 _ hq
  · exact ho.l8
  · exact h.ok.words _ hq
  · exact ho.words
  · exact h.kind _ hq
  · exact hk
  · exact h.ver _ hq
  · exact hv
def absm (k m : Int) : Int := if Int.tmod k m < 0 then -(Int.tmod k m) else Int.tmod k m
theorem absm_le (k : Int) {m : Int} (hm : 0 < m) : 0 ≤ absm k m ∧ absm k m < m := by
  have h1 := Int.tmod_lt_of_pos k hm
  have h2 := Int.lt_tmod_of_pos k hm
  unfold absm
  split <;> omega
theorem neg_tmod (k : Int) {m : Int} (h0 : 0 < m) (h1 : m < 1000000) : IntKind.i64.wrap (0 - k.tmod m) = -k.tmod m := by
  have := Int.tmod_lt_of_pos k h0
  have := Int.lt_tmod_of_pos k h0
  rw [Int.zero_sub]
  exact i64_id (by omega) (by omega)
def wStep (lo : List Obj) (i : Nat) (W : List Obj) : List Obj :=
  if absm (lo.getD i zeroObj).kind 5 = 0 then W else W.set i ⟨absm (lo.getD i zeroObj).kind 5, absm (lo.getD i zeroObj).ver 100, (lo.getD i zeroObj).l⟩
def wAt (lo : List Obj) : Nat → List Obj
  | 0 => List.replicate 49 zeroObj
  | i + 1 => wStep lo i (wAt lo i)
theorem small_at {lo : List Obj} (h : ∀ o ∈ lo, OkO o) : ∀ i, i ≤ lo.length → Small (wAt lo i)
  | 0, _ => small_zero
  | i + 1, hi => by
    have ih := small_at h i (by omega)
    unfold wAt wStep
    split
    · exact ih
    · have hm : lo.getD i zeroObj ∈ lo := by
        rw [List.getD_eq_getElem?_getD, List.getElem?_eq_getElem (by omega)]
        exact List.getElem_mem _
      have h1 := absm_le (lo.getD i zeroObj).kind (m := 5) (by omega)
      have h2 := absm_le (lo.getD i zeroObj).ver (m := 100) (by omega)
      refine ih.set i ⟨(h _ hm).l8, (h _ hm).words⟩ ?_ ?_
      · simp only; omega
      · simp only; omega
theorem rf_world {hp : List Blk} {v : V} (h : (Sh.sl 28 (.st 26 [.int .i64, .int .i64, .arr 24 8 (.int .u64)])).Fits hp v) :
    ∃ W, Small W ∧ ∀ s : St, s.hp = hp → rf D f_steadfastlaw23_world [v] s = some (worldV W, s) := by
  obtain ⟨l, hrs, hlt, hlen, hfit⟩ := rs_of_fits h
  obtain ⟨lo, rfl, hlo⟩ := map_of (f := Obj.v) (fun x hx => obj_of (hfit x hx))
  refine ⟨wAt lo (min lo.length 49), small_at (fun o ho => (hlo o ho).1) _ (by omega), ?_⟩
  rintro ⟨sl, hp'⟩ hh
  simp only at hh
  subst hh
  have hr : ∀ L, RS ⟨L, hp'⟩ 26 v (lo.map Obj.v) := fun L => hrs.more ⟨by simp, List.prefix_rfl⟩
  have loop : rc D sl.length (.loop [0, 2, 3, 4] b_steadfastlaw23_world_0) [(0, v), (2, .ptr (.loc sl.length) [] 30), (3, .ptr (.loc (sl.length + 1)) [] 30), (4, .int .i64 0)] ⟨sl ++ [.rw (worldV (List.replicate 49 zeroObj)), .rw (worldV (List.replicate 49 zeroObj))], hp'⟩ =
      some (.exit 0, [(0, v), (2, .ptr (.loc sl.length) [] 30), (3, .ptr (.loc (sl.length + 1)) [] 30), (4, .int .i64 (min lo.length 49 : Nat)), (15, .bool false)], ⟨sl ++ [.rw (worldV (List.replicate 49 zeroObj)), .rw (worldV (wAt lo (min lo.length 49)))], hp'⟩) := by
    refine loop_runs (fun x : Nat => [(0, v), (2, .ptr (.loc sl.length) [] 30), (3, .ptr (.loc (sl.length + 1)) [] 30), (4, .int .i64 x)]) (fun x => ⟨sl ++ [.rw (worldV (List.replicate 49 zeroObj)), .rw (worldV (wAt lo x))], hp'⟩) (fun _ => _) (fun x => 49 - x)
      (fun x => x ≤ 49 ∧ x ≤ lo.length) 0 ?_ ?_ ?_ ?_
    · rintro i ⟨hi, hi2⟩
      have hrr := hr (sl ++ [.rw (worldV (List.replicate 49 zeroObj)), .rw (worldV (wAt lo i))])
      have hs := hrr.slen
      rw [List.length_map] at hs
      by_cases c1 : i < lo.length
      · by_cases c2 : i < 49
        · left
          have hW := (small_at (fun o ho => (hlo o ho).1) i hi2).ok
          have d1 : (i : Int) < lo.length := by omega
          have d2 : (i : Int) < 49 := by omega
          have d3 : (0 : Int) ≤ i := by omega
          have d4 : IntKind.i64.wrap ((i : Int) + 1) = (i : Int) + 1 := i64_id (by omega) (by omega)
          have e1 := locLt_mono (v := v) (show 0 ≤ sl.length + 2 by omega) hlt
          have e2 : sl.length < sl.length + 2 := by omega
          have e3 : sl.length + 1 < sl.length + 2 := by omega
          have hg := get_map (f := Obj.v) c1 zeroObj
          have hk := absm_le (lo.getD i zeroObj).kind (m := 5) (by omega)
          have hv := absm_le (lo.getD i zeroObj).ver (m := 100) (by omega)
          have hwg := objAt_get hW c2
          refine ⟨i + 1, ⟨by omega, by omega⟩, by omega, rfl, ?_⟩
          simp only [wAt, wStep]
          generalize lo.getD i zeroObj = o at hg hk hv ⊢
          obtain ⟨k, w, ws⟩ := o
          simp only [Obj.v] at hg
          have q1 := neg_tmod k (m := 5) (by omega) (by omega)
          have q2 := neg_tmod w (m := 100) (by omega) (by omega)
          simp only [worldV] at *
          simp only [go_sem, b_steadfastlaw23_world_0, hs, d1, d2, d3, hrr.sadq hg, hrr.fadq hg, hrr.ldq hg, q1, q2, absm]
          by_cases hz : (if k.tmod 5 < 0 then -k.tmod 5 else k.tmod 5) = 0
          · simp only [hz, go_sem, d4, e1, e2, e3]
            rfl
          · simp only [hz, go_sem, d4, e1, e2, e3, Int.toNat_natCast, hwg, List.map_set, Obj.v]
            rfl
        · right
          have hm : min lo.length 49 = i := by omega
          have d1 : (i : Int) < lo.length := by omega
          have d2 : ¬ (i : Int) < 49 := by omega
          simp only [go_sem, b_steadfastlaw23_world_0, hs, d1, d2, hm]
      · right
        have hm : min lo.length 49 = i := by omega
        have d1 : ¬ (i : Int) < lo.length := by omega
        simp only [go_sem, b_steadfastlaw23_world_0, hs, d1, hm]
    · exact ⟨Nat.zero_le _, Nat.zero_le _⟩
    · rfl
    · rfl
  simp only [worldV, zeroObj, Obj.v, List.map_replicate] at loop
  rw [rf_o D_steadfastlaw23_world rfl]
  simp only [go_sem, loop]
  rfl
end Go.Proofs.Ytpbpgbedkmbfkaa
namespace Go.Proofs.Ytpbpgbedkmbfkaa
open Go.Ab

theorem two_lt64 {r : Nat} (h : r < 64) : 2 ^ r < 18446744073709551616 := Nat.pow_lt_pow_right (show 1 < 2 by decide) h
theorem rf_bit1 {w i : Nat} (hw : w < 18446744073709551616) (hi : i ≤ 64) (s : St) : rf D f_steadfastref01_bit [.int .u64 w, .int .i64 i] s = some (.int .u64 (w / 2 ^ i % 2 : Nat), s) := by
  have e1 : ishr .u64 (w : Int) (i : Int) = ((w / 2 ^ i : Nat) : Int) := by
    rw [ishr_two (w : Int) i hi, Int.natCast_ediv, Int.natCast_pow]; rfl
  have e2 : iand .u64 ((w / 2 ^ i : Nat) : Int) 1 = ((w / 2 ^ i % 2 : Nat) : Int) := by
    have hlt : w / 2 ^ i < 18446744073709551616 := Nat.lt_of_le_of_lt (Nat.div_le_self _ _) hw
    generalize w / 2 ^ i = y at *
    have := iand_mask (y : Int) 1 (by omega) (by omega) (by decide)
    rw [show (1 : Int) = 2 ^ 1 - 1 by decide, this]; simp
  generalize w / 2 ^ i % 2 = z at *
  generalize w / 2 ^ i = y at *
  have d : ¬ (i : Int) < 0 := by omega
  rw [rf_o D_steadfastref01_bit rfl]
  simp only [go_sem, e1, e2, d]
theorem rf_is1 {a b : Nat} (h1 : 1 ≤ b) (h2 : a + b ≤ 64) (s : St) : rf D f_steadfastref01_is [.int .i64 a, .int .i64 b] s = some (.bool true, s) := by
  have e : IntKind.i64.wrap ((a : Int) + (b : Int)) = ((a + b : Nat) : Int) := by rw [i64_id (by omega) (by omega)]; omega
  have c1 : (0 : Int) ≤ a := by omega
  have c2 : (a : Int) ≤ 63 := by omega
  have c3 : (1 : Int) ≤ b := by omega
  have c4 : (b : Int) ≤ 64 := by omega
  have c5 : ((a + b : Nat) : Int) ≤ 64 := by omega
  rw [rf_o D_steadfastref01_is rfl]
  simp only [go_sem, c1, c2, c3, c4, e, c5]
theorem part_lt {w a v i : Nat} (hw : w < 2 ^ a) : w + v % 2 ^ i * 2 ^ a < 2 ^ (a + i) := by
  have h1 : v % 2 ^ i < 2 ^ i := Nat.mod_lt _ (Nat.two_pow_pos i)
  have h2 : (v % 2 ^ i + 1) * 2 ^ a ≤ 2 ^ i * 2 ^ a := Nat.mul_le_mul_right _ h1
  rw [Nat.pow_add, Nat.mul_comm (2 ^ a)]
  rw [Nat.add_mul, Nat.one_mul] at h2
  omega
theorem part_succ {w a v i : Nat} : w + v % 2 ^ (i + 1) * 2 ^ a = w + v % 2 ^ i * 2 ^ a + v / 2 ^ i % 2 * 2 ^ (a + i) := by
  rw [Nat.mod_pow_succ, Nat.add_mul, Nat.pow_add, ← Nat.add_assoc]
  congr 1
  rw [Nat.mul_comm (2 ^ i), Nat.mul_assoc, Nat.mul_comm (2 ^ i)]
/-- A field laid above what is there. -/
theorem rf_With {w a b v : Nat} (hb : 1 ≤ b) (hab : a + b ≤ 64) (hw : w < 2 ^ a) (hv : v < 2 ^ b) (s : St) :
    rf D f_steadfastref01_With [.int .u64 w, .int .i64 a, .int .i64 b, .int .u64 v] s = some (.tup [.int .u64 (w + v * 2 ^ a : Nat), .int .i64 0], s) := by
  have hw64 : w < 18446744073709551616 := Nat.lt_trans hw (two_lt64 (by omega))
  have hv64 : v < 18446744073709551616 := Nat.lt_of_lt_of_le hv (show 2 ^ b ≤ 2 ^ 64 from Nat.pow_le_pow_right (by decide) (by omega))
  have his := fun s => rf_is1 hb hab s
  have loop1 : rc D s.loc.length (.loop [0, 1, 2, 3, 10] b_steadfastref01_With_0) [(0, .int .u64 w), (1, .int .i64 a), (2, .int .i64 b), (3, .int .u64 v), (10, .int .i64 b)] s =
      some (.exit 0, [(0, .int .u64 w), (1, .int .i64 a), (2, .int .i64 b), (3, .int .u64 v), (10, .int .i64 64), (18, .bool false)], s) := by
    refine loop_runs (fun x : Nat => [(0, .int .u64 w), (1, .int .i64 a), (2, .int .i64 b), (3, .int .u64 v), (10, .int .i64 x)]) (fun _ => s) (fun _ => _) (fun x => 64 - x) (fun x => b ≤ x ∧ x ≤ 64) b ?_ ⟨Nat.le_refl _, by omega⟩ rfl rfl
    rintro i ⟨h1, h2⟩
    by_cases c1 : i < 64
    · left
      have d1 : (i : Int) < 64 := by omega
      have d4 : IntKind.i64.wrap ((i : Int) + 1) = (i : Int) + 1 := i64_id (by omega) (by omega)
      have hbit := fun s => rf_bit1 hv64 (i := i) (by omega) s
      have hz : v / 2 ^ i % 2 = 0 := by
        rw [Nat.div_eq_of_lt (Nat.lt_of_lt_of_le hv (Nat.pow_le_pow_right (by decide) h1))]
      rw [hz] at hbit
      refine ⟨i + 1, ⟨by omega, by omega⟩, by omega, rfl, ?_⟩
      simp only [go_sem, b_steadfastref01_With_0, d1, hbit, d4]
      rfl
    · right
      have : i = 64 := by omega
      subst this
      simp only [go_sem, b_steadfastref01_With_0]
  have loop2 : rc D s.loc.length (.loop [0, 1, 2, 3, 11] b_steadfastref01_With_1) [(0, .int .u64 w), (1, .int .i64 a), (2, .int .i64 b), (3, .int .u64 v), (11, .int .i64 0)] s =
      some (.exit 2, [(0, .int .u64 (w + v * 2 ^ a : Nat)), (1, .int .i64 a), (2, .int .i64 b), (3, .int .u64 v), (11, .int .i64 b), (27, .bool false)], s) := by
    refine loop_runs (fun x : Nat => [(0, .int .u64 (w + v % 2 ^ x * 2 ^ a : Nat)), (1, .int .i64 a), (2, .int .i64 b), (3, .int .u64 v), (11, .int .i64 x)]) (fun _ => s) (fun _ => _) (fun x => b - x) (fun x => x ≤ b) 0 ?_ (Nat.zero_le _) (by simp [Nat.mod_one]) rfl
    intro i h2
    by_cases c1 : i < b
    · left
      have d1 : (i : Int) < b := by omega
      have d4 : IntKind.i64.wrap ((i : Int) + 1) = (i : Int) + 1 := i64_id (by omega) (by omega)
      have e1 : IntKind.i64.wrap ((a : Int) + (i : Int)) = ((a + i : Nat) : Int) := by rw [i64_id (by omega) (by omega)]; omega
      have hlt := part_lt (v := v) (i := i) hw
      have h64 : 2 ^ (a + i) < 18446744073709551616 := two_lt64 (by omega)
      have hx64 : w + v % 2 ^ i * 2 ^ a < 18446744073709551616 := Nat.lt_trans hlt h64
      have hb1 := fun s => rf_bit1 hv64 (i := i) (by omega) s
      have hb2 := fun s => rf_bit1 hx64 (i := a + i) (by omega) s
      rw [Nat.div_eq_of_lt hlt] at hb2
      have hs := part_succ (w := w) (a := a) (v := v) (i := i)
      have hsh : ishl .u64 1 ((a + i : Nat) : Int) = ((2 ^ (a + i) : Nat) : Int) := by
        rw [ishl_two 1 (a + i) (by omega), Int.one_mul, show (2 : Int) ^ (a + i) = ((2 ^ (a + i) : Nat) : Int) by rw [Int.natCast_pow]; rfl]
        generalize 2 ^ (a + i) = p at *
        omega
      have hx := ixor_nat hx64 h64
      rw [xor_add hlt] at hx
      refine ⟨i + 1, by omega, by omega, rfl, ?_⟩
      simp only [hs]
      have h2 : v / 2 ^ i % 2 < 2 := Nat.mod_lt _ (by decide)
      generalize w + v % 2 ^ i * 2 ^ a = x at *
      generalize v / 2 ^ i % 2 = z at *
      generalize 2 ^ (a + i) = p at *
      have d3 : ¬ ((a + i : Nat) : Int) < 0 := by omega
      generalize a + i = q at *
      by_cases hz : z = 1
      · subst hz
        simp only [go_sem, b_steadfastref01_With_1, d1, e1, hb1, hb2, d3, hsh, hx, d4]
        simp only [Nat.one_mul]
        rfl
      · have hz0 : z = 0 := by omega
        subst hz0
        simp only [go_sem, b_steadfastref01_With_1, d1, e1, hb1, hb2, d4]
        simp only [Nat.zero_mul, Nat.add_zero]
        rfl
    · right
      have : i = b := by omega
      subst this
      have d1 : ¬ (i : Int) < i := by omega
      rw [Nat.mod_eq_of_lt hv]
      simp only [go_sem, b_steadfastref01_With_1, d1]
  generalize w + v * 2 ^ a = r at *
  rw [rf_o D_steadfastref01_With rfl]
  simp only [go_sem, his, loop1, loop2]
/-- A field read. -/
theorem rf_Field1 {w a b : Nat} (hb : 1 ≤ b) (hab : a + b ≤ 64) (hw : w < 18446744073709551616) (s : St) :
    rf D f_steadfastref01_Field [.int .u64 w, .int .i64 a, .int .i64 b] s = some (.int .u64 (w / 2 ^ a % 2 ^ b : Nat), s) := by
  have his := fun s => rf_is1 hb hab s
  have loop : rc D s.loc.length (.loop [0, 1, 2, 7, 8] b_steadfastref01_Field_0) [(0, .int .u64 w), (1, .int .i64 a), (2, .int .i64 b), (7, .int .u64 0), (8, .int .i64 0)] s =
      some (.exit 0, [(0, .int .u64 w), (1, .int .i64 a), (2, .int .i64 b), (7, .int .u64 (w / 2 ^ a % 2 ^ b : Nat)), (8, .int .i64 b), (15, .bool false)], s) := by
    refine loop_runs (fun x : Nat => [(0, .int .u64 w), (1, .int .i64 a), (2, .int .i64 b), (7, .int .u64 (w / 2 ^ a % 2 ^ x : Nat)), (8, .int .i64 x)]) (fun _ => s) (fun _ => _) (fun x => b - x) (fun x => x ≤ b) 0 ?_ (Nat.zero_le _) (by simp [Nat.mod_one]) rfl
    intro i h2
    by_cases c1 : i < b
    · left
      have d1 : (i : Int) < b := by omega
      have d4 : IntKind.i64.wrap ((i : Int) + 1) = (i : Int) + 1 := i64_id (by omega) (by omega)
      have e1 : IntKind.i64.wrap ((a : Int) + (i : Int)) = ((a + i : Nat) : Int) := by rw [i64_id (by omega) (by omega)]; omega
      have hb1 := fun s => rf_bit1 hw (i := a + i) (by omega) s
      have hlt : w / 2 ^ a % 2 ^ i < 2 ^ i := Nat.mod_lt _ (Nat.two_pow_pos i)
      have h64 : 2 ^ i < 18446744073709551616 := two_lt64 (by omega)
      have hs : w / 2 ^ a % 2 ^ (i + 1) = w / 2 ^ a % 2 ^ i + w / 2 ^ (a + i) % 2 * 2 ^ i := by
        rw [Nat.mod_pow_succ, Nat.div_div_eq_div_mul, ← Nat.pow_add, Nat.mul_comm (2 ^ i)]
      refine ⟨i + 1, by omega, by omega, rfl, ?_⟩
      simp only [hs]
      have hz2 : w / 2 ^ (a + i) % 2 < 2 := Nat.mod_lt _ (by decide)
      generalize w / 2 ^ (a + i) % 2 = z at *
      have hzp : z * 2 ^ i < 18446744073709551616 := by
        have : z * 2 ^ i ≤ 1 * 2 ^ i := Nat.mul_le_mul_right _ (by omega)
        omega
      have hsh : ishl .u64 (z : Int) (i : Int) = ((z * 2 ^ i : Nat) : Int) := by
        rw [ishl_two (z : Int) i (by omega), show (2 : Int) ^ i = ((2 ^ i : Nat) : Int) by rw [Int.natCast_pow]; rfl, ← Int.natCast_mul]
        generalize z * 2 ^ i = p at *
        omega
      have hor := ior_add (n := w / 2 ^ a % 2 ^ i) (m := z) i hlt (by omega) hzp
      generalize w / 2 ^ a % 2 ^ i = x at *
      have d3 : ¬ (i : Int) < 0 := by omega
      generalize z * 2 ^ i = p at *
      generalize a + i = q at *
      simp only [go_sem, b_steadfastref01_Field_0, d1, e1, hb1, d3, hsh, hor, d4]
      rfl
    · right
      have : i = b := by omega
      subst this
      have d1 : ¬ (i : Int) < i := by omega
      simp only [go_sem, b_steadfastref01_Field_0, d1]
  generalize w / 2 ^ a % 2 ^ b = r at *
  rw [rf_o D_steadfastref01_Field rfl]
  simp only [go_sem, his, loop]
end Go.Proofs.Ytpbpgbedkmbfkaa
namespace Go.Proofs.Ytpbpgbedkmbfkaa
open Go.Ab

/-- The word of a capability that may be. -/
def Cap.word (c : Cap) : Int := c.kind + c.rights * 16 + c.id * 256 + c.ver * 16777216 + c.badge * 281474976710656
def capWord (c : Cap) : Int := if c.may then c.word else 0
def capE (c : Cap) : Int := if c.may then 0 else 1
structure Cap.Ok (c : Cap) : Prop where
  k : 1 ≤ c.kind ∧ c.kind ≤ 6
  r : 0 ≤ c.rights ∧ c.rights ≤ 15
  i : 0 ≤ c.id ∧ c.id ≤ 48
  v : 0 ≤ c.ver ∧ c.ver ≤ 16777215
  b : 0 ≤ c.badge ∧ c.badge ≤ 65535
  free : (c.kind = 5 ∨ c.kind = 6) → c.id = 0 ∧ c.ver = 0
theorem may_iff (c : Cap) : c.may = true ↔ c.Ok := by
  simp only [Cap.may, within, Bool.and_eq_true, decide_eq_true_eq, Bool.or_eq_true, Bool.not_eq_true', Bool.or_eq_false_iff, decide_eq_false_iff_not]
  constructor
  · rintro ⟨⟨⟨⟨⟨h1, h2⟩, h3⟩, h4⟩, h5⟩, h6⟩
    exact ⟨h1, h2, h3, h4, h5, by omega⟩
  · rintro ⟨h1, h2, h3, h4, h5, h6⟩
    exact ⟨⟨⟨⟨⟨h1, h2⟩, h3⟩, h4⟩, h5⟩, by omega⟩
theorem Cap.Ok.nats {c : Cap} (h : c.Ok) : ∃ k r i v b : Nat, c = ⟨k, r, i, v, b⟩ ∧ k < 16 ∧ r < 16 ∧ i < 65536 ∧ v < 16777216 ∧ b < 65536 := by
  obtain ⟨k, r, i, v, b⟩ := c
  have h1 := h.k; have h2 := h.r; have h3 := h.i; have h4 := h.v; have h5 := h.b
  simp only at h1 h2 h3 h4 h5
  refine ⟨k.toNat, r.toNat, i.toNat, v.toNat, b.toNat, ?_, by omega, by omega, by omega, by omega, by omega⟩
  simp only [Cap.mk.injEq]
  omega
theorem rf_caps_Word (c : Cap) (s : St) : rf D f_caps_Word [c.v] s = some (.tup [.int .u64 (capWord c), .int .i64 (capE c)], s) := by
  have hm := fun s => rf_caps_may c s
  rw [rf_o D_caps_Word rfl]
  unfold capWord capE
  by_cases h : c.may = true
  · obtain ⟨k, r, i, v, b, rfl, h1, h2, h3, h4, h5⟩ := ((may_iff c).1 h).nats
    simp only [Cap.v] at hm ⊢
    simp only [h, if_true]
    rw [h] at hm
    have q1 : IntKind.u64.wrap (k : Int) = k := u64_id (by omega) (by omega)
    have q2 : IntKind.u64.wrap (r : Int) = r := u64_id (by omega) (by omega)
    have q3 : IntKind.u64.wrap (i : Int) = i := u64_id (by omega) (by omega)
    have q4 : IntKind.u64.wrap (v : Int) = v := u64_id (by omega) (by omega)
    have q5 : IntKind.u64.wrap (b : Int) = b := u64_id (by omega) (by omega)
    obtain ⟨y2, hy2⟩ : ∃ y : Nat, y = r * 16 := ⟨_, rfl⟩
    obtain ⟨y3, hy3⟩ : ∃ y : Nat, y = i * 256 := ⟨_, rfl⟩
    obtain ⟨y4, hy4⟩ : ∃ y : Nat, y = v * 16777216 := ⟨_, rfl⟩
    obtain ⟨y5, hy5⟩ : ∃ y : Nat, y = b * 281474976710656 := ⟨_, rfl⟩
    have s2 : ishl .u64 (r : Int) 4 = (y2 : Int) := by have := ishl_two (r : Int) 4 (by decide); rw [show ((4 : Nat) : Int) = 4 by rfl] at this; rw [this]; omega
    have s3 : ishl .u64 (i : Int) 8 = (y3 : Int) := by have := ishl_two (i : Int) 8 (by decide); rw [show ((8 : Nat) : Int) = 8 by rfl] at this; rw [this]; omega
    have s4 : ishl .u64 (v : Int) 24 = (y4 : Int) := by have := ishl_two (v : Int) 24 (by decide); rw [show ((24 : Nat) : Int) = 24 by rfl] at this; rw [this]; omega
    have s5 : ishl .u64 (b : Int) 48 = (y5 : Int) := by have := ishl_two (b : Int) 48 (by decide); rw [show ((48 : Nat) : Int) = 48 by rfl] at this; rw [this]; omega
    obtain ⟨x2, hx2⟩ : ∃ x : Nat, x = k + y2 := ⟨_, rfl⟩
    obtain ⟨x3, hx3⟩ : ∃ x : Nat, x = x2 + y3 := ⟨_, rfl⟩
    obtain ⟨x4, hx4⟩ : ∃ x : Nat, x = x3 + y4 := ⟨_, rfl⟩
    obtain ⟨x5, hx5⟩ : ∃ x : Nat, x = x4 + y5 := ⟨_, rfl⟩
    have o2 : ior .u64 (k : Int) (y2 : Int) = (x2 : Int) := by have := ior_add (n := k) (m := r) 4 (by omega) (by omega) (by omega); rw [show r * 2 ^ 4 = y2 by omega] at this; rw [this, hx2]
    have o3 : ior .u64 (x2 : Int) (y3 : Int) = (x3 : Int) := by have := ior_add (n := x2) (m := i) 8 (by omega) (by omega) (by omega); rw [show i * 2 ^ 8 = y3 by omega] at this; rw [this, hx3]
    have o4 : ior .u64 (x3 : Int) (y4 : Int) = (x4 : Int) := by have := ior_add (n := x3) (m := v) 24 (by omega) (by omega) (by omega); rw [show v * 2 ^ 24 = y4 by omega] at this; rw [this, hx4]
    have o5 : ior .u64 (x4 : Int) (y5 : Int) = (x5 : Int) := by have := ior_add (n := x4) (m := b) 48 (by omega) (by omega) (by omega); rw [show b * 2 ^ 48 = y5 by omega] at this; rw [this, hx5]
    have e : (x5 : Int) = Cap.word ⟨k, r, i, v, b⟩ := by simp only [Cap.word]; omega
    rw [← e]
    clear e hx5 hx4 hx3 hx2 hy2 hy3 hy4 hy5
    simp only [go_sem, hm]
    simp only [go_sem, q1, q2, q3, q4, q5]
    simp only [go_sem, s2, s3, s4, s5]
    simp only [go_sem, o2, o3, o4, o5]
  · have h' : c.may = false := by simpa using h
    simp only [Cap.v] at hm ⊢
    rw [h'] at hm
    simp only [go_sem, hm, h']
theorem rf_ref07_Word (c : Cap) (s : St) : rf D f_steadfastref07_Word [c.v] s = some (.tup [.int .u64 (capWord c), .int .i64 (capE c)], s) := by
  rw [rf_o D_steadfastref07_Word rfl]
  unfold capWord capE
  by_cases h : c.may = true
  · have hok := (may_iff c).1 h
    obtain ⟨k, r, i, v, b, rfl, h1, h2, h3, h4, h5⟩ := hok.nats
    have hk := hok.k; have hi := hok.i; have hf := hok.free
    simp only at hk hi hf
    simp only [Cap.v]
    simp only [h, if_true]
    have q1 : IntKind.u64.wrap (k : Int) = k := u64_id (by omega) (by omega)
    have q2 : IntKind.u64.wrap (r : Int) = r := u64_id (by omega) (by omega)
    have q3 : IntKind.u64.wrap (i : Int) = i := u64_id (by omega) (by omega)
    have q4 : IntKind.u64.wrap (v : Int) = v := u64_id (by omega) (by omega)
    have q5 : IntKind.u64.wrap (b : Int) = b := u64_id (by omega) (by omega)
    have w1 := fun s => rf_With (w := 0) (a := 0) (b := 4) (v := k) (by decide) (by decide) (by decide) h1 s
    have w2 := fun s => rf_With (w := 0 + k * 2 ^ 0) (a := 4) (b := 4) (v := r) (by decide) (by decide) (by omega) h2 s
    have w3 := fun s => rf_With (w := 0 + k * 2 ^ 0 + r * 2 ^ 4) (a := 8) (b := 16) (v := i) (by decide) (by decide) (by omega) h3 s
    have w4 := fun s => rf_With (w := 0 + k * 2 ^ 0 + r * 2 ^ 4 + i * 2 ^ 8) (a := 24) (b := 24) (v := v) (by decide) (by decide) (by omega) h4 s
    have w5 := fun s => rf_With (w := 0 + k * 2 ^ 0 + r * 2 ^ 4 + i * 2 ^ 8 + v * 2 ^ 24) (a := 48) (b := 16) (v := b) (by decide) (by decide) (by omega) h5 s
    have e : ((0 + k * 2 ^ 0 + r * 2 ^ 4 + i * 2 ^ 8 + v * 2 ^ 24 + b * 2 ^ 48 : Nat) : Int) = Cap.word ⟨k, r, i, v, b⟩ := by simp only [Cap.word]; omega
    rw [← e]
    have c1 : ¬ (k : Int) < 1 := by omega
    have c2 : ¬ 6 < (k : Int) := by omega
    have c3 : ¬ (r : Int) < 0 := by omega
    have c4 : ¬ 15 < (r : Int) := by omega
    have c5 : ¬ (i : Int) < 0 := by omega
    have c6 : ¬ 49 ≤ (i : Int) := by omega
    have c7 : ¬ (v : Int) < 0 := by omega
    have c8 : ¬ 16777215 < (v : Int) := by omega
    have c9 : ¬ (b : Int) < 0 := by omega
    have c10 : ¬ 65535 < (b : Int) := by omega
    generalize 0 + k * 2 ^ 0 + r * 2 ^ 4 + i * 2 ^ 8 + v * 2 ^ 24 + b * 2 ^ 48 = x5 at *
    generalize 0 + k * 2 ^ 0 + r * 2 ^ 4 + i * 2 ^ 8 + v * 2 ^ 24 = x4 at *
    generalize 0 + k * 2 ^ 0 + r * 2 ^ 4 + i * 2 ^ 8 = x3 at *
    generalize 0 + k * 2 ^ 0 + r * 2 ^ 4 = x2 at *
    generalize 0 + k * 2 ^ 0 = x1 at *
    simp only [Int.natCast_zero, show ((4 : Nat) : Int) = 4 by rfl, show ((8 : Nat) : Int) = 8 by rfl, show ((16 : Nat) : Int) = 16 by rfl, show ((24 : Nat) : Int) = 24 by rfl, show ((48 : Nat) : Int) = 48 by rfl] at w1 w2 w3 w4 w5
    by_cases g : (k : Int) = 5
    · obtain ⟨g1, g2⟩ := hf (.inl g)
      obtain rfl : k = 5 := by omega
      obtain rfl : i = 0 := by omega
      obtain rfl : v = 0 := by omega
      simp only [show ((5 : Nat) : Int) = 5 by rfl, Int.natCast_zero] at w1 w2 w3 w4 w5 q1 q3 q4 ⊢
      simp only [go_sem, c3, c4, c9, c10, q1, q2, q3, q5, w1, w2, w3, w4, w5]
    · by_cases g' : (k : Int) = 6
      · obtain ⟨g1, g2⟩ := hf (.inr g')
        obtain rfl : k = 6 := by omega
        obtain rfl : i = 0 := by omega
        obtain rfl : v = 0 := by omega
        simp only [show ((6 : Nat) : Int) = 6 by rfl, Int.natCast_zero] at w1 w2 w3 w4 w5 q1 q3 q4 ⊢
        simp only [go_sem, c3, c4, c9, c10, q1, q2, q3, q5, w1, w2, w3, w4, w5]
      · simp only [go_sem, c1, c2, c3, c4, c5, c6, c7, c8, c9, c10, g, g', q1, q2, q3, q4, q5, w1, w2, w3, w4, w5]
  · have h' : c.may = false := by simpa using h
    have hn : ¬ c.Ok := fun ho => h ((may_iff c).2 ho)
    obtain ⟨k, r, i, v, b⟩ := c
    simp only [Cap.v, h']
    by_cases c1 : k < 1
    · simp [go_sem, c1]
    by_cases c2 : 6 < k
    · simp [go_sem, c1, c2]
    by_cases c3 : r < 0
    · simp [go_sem, c1, c2, c3]
    by_cases c4 : 15 < r
    · simp [go_sem, c1, c2, c3, c4]
    by_cases c5 : i < 0
    · simp [go_sem, c1, c2, c3, c4, c5]
    by_cases c6 : 49 ≤ i
    · simp [go_sem, c1, c2, c3, c4, c5, c6]
    by_cases c7 : v < 0
    · simp [go_sem, c1, c2, c3, c4, c5, c6, c7]
    by_cases c8 : 16777215 < v
    · simp [go_sem, c1, c2, c3, c4, c5, c6, c7, c8]
    by_cases c9 : b < 0
    · simp [go_sem, c1, c2, c3, c4, c5, c6, c7, c8, c9]
    by_cases c10 : 65535 < b
    · simp [go_sem, c1, c2, c3, c4, c5, c6, c7, c8, c9, c10]
    have g : k = 5 ∨ k = 6 := by
      by_cases g : k = 5 ∨ k = 6
      · exact g
      · exact absurd ⟨by simp only; omega, by simp only; omega, by simp only; omega, by simp only; omega, by simp only; omega, fun hg => absurd hg g⟩ hn
    have g2 : ¬ i = 0 ∨ ¬ v = 0 := by
      by_cases g2 : i = 0 ∧ v = 0
      · exact absurd ⟨by simp only; omega, by simp only; omega, by simp only; omega, by simp only; omega, by simp only; omega, fun _ => g2⟩ hn
      · omega
    by_cases g3 : k = 5
    · by_cases g4 : i = 0
      · have g5 : ¬ v = 0 := by omega
        simp [go_sem, c3, c4, c7, c8, c9, c10, g3, g4, g5]
      · simp [go_sem, c3, c4, c5, c6, c7, c8, c9, c10, g3, g4]
    · have g3' : k = 6 := by omega
      by_cases g4 : i = 0
      · have g5 : ¬ v = 0 := by omega
        simp [go_sem, c3, c4, c7, c8, c9, c10, g3', g4, g5]
      · simp [go_sem, c3, c4, c5, c6, c7, c8, c9, c10, g3', g4]
theorem word_capOf {w : Int} : (capOf w).word = w := by
  simp only [Cap.word, capOf]
  omega
theorem rf_ref07_Of (w : Int) (h0 : 0 ≤ w) (h1 : w ≤ 18446744073709551615) (s : St) : rf D f_steadfastref07_Of [.int .u64 w] s = some (.tup [(capsOf w).v, .bool (capOf w).may], s) := by
  obtain ⟨n, rfl⟩ : ∃ n : Nat, w = n := ⟨w.toNat, by omega⟩
  have hw := fun s => rf_ref07_Word (capOf n) s
  have hwc := word_capOf (w := (n : Int))
  have f1 := fun s => rf_Field1 (w := n) (a := 0) (b := 4) (by decide) (by decide) (by omega) s
  have f2 := fun s => rf_Field1 (w := n) (a := 4) (b := 4) (by decide) (by decide) (by omega) s
  have f3 := fun s => rf_Field1 (w := n) (a := 8) (b := 16) (by decide) (by decide) (by omega) s
  have f4 := fun s => rf_Field1 (w := n) (a := 24) (b := 24) (by decide) (by decide) (by omega) s
  have f5 := fun s => rf_Field1 (w := n) (a := 48) (b := 16) (by decide) (by decide) (by omega) s
  have q1 : IntKind.i64.wrap ((n / 2 ^ 0 % 2 ^ 4 : Nat) : Int) = (n : Int) % 16 := by rw [i64_id (by omega) (by omega)]; omega
  have q2 : IntKind.i64.wrap ((n / 2 ^ 4 % 2 ^ 4 : Nat) : Int) = (n : Int) / 16 % 16 := by rw [i64_id (by omega) (by omega)]; omega
  have q3 : IntKind.i64.wrap ((n / 2 ^ 8 % 2 ^ 16 : Nat) : Int) = (n : Int) / 256 % 65536 := by rw [i64_id (by omega) (by omega)]; omega
  have q4 : IntKind.i64.wrap ((n / 2 ^ 24 % 2 ^ 24 : Nat) : Int) = (n : Int) / 16777216 % 16777216 := by rw [i64_id (by omega) (by omega)]; omega
  have q5 : IntKind.i64.wrap ((n / 2 ^ 48 % 2 ^ 16 : Nat) : Int) = (n : Int) / 281474976710656 := by rw [i64_id (by omega) (by omega)]; omega
  simp only [Int.natCast_zero, show ((4 : Nat) : Int) = 4 by rfl, show ((8 : Nat) : Int) = 8 by rfl, show ((16 : Nat) : Int) = 16 by rfl, show ((24 : Nat) : Int) = 24 by rfl, show ((48 : Nat) : Int) = 48 by rfl] at f1 f2 f3 f4 f5
  generalize n / 2 ^ 0 % 2 ^ 4 = y1 at *
  generalize n / 2 ^ 4 % 2 ^ 4 = y2 at *
  generalize n / 2 ^ 8 % 2 ^ 16 = y3 at *
  generalize n / 2 ^ 24 % 2 ^ 24 = y4 at *
  generalize n / 2 ^ 48 % 2 ^ 16 = y5 at *
  unfold capsOf
  simp only [capWord, capE] at hw
  by_cases hb : (capOf n).may = true
  · simp only [hb, if_true, hwc] at hw ⊢
    simp only [capOf, Cap.v] at hw ⊢
    generalize (n : Int) % 16 = z1 at *
    generalize (n : Int) / 16 % 16 = z2 at *
    generalize (n : Int) / 256 % 65536 = z3 at *
    generalize (n : Int) / 16777216 % 16777216 = z4 at *
    generalize (n : Int) / 281474976710656 = z5 at *
    rw [rf_o D_steadfastref07_Of rfl]
    simp only [go_sem, f1, f2, f3, f4, f5, q1, q2, q3, q4, q5, hw]
  · have hb' : (capOf n).may = false := by simpa using hb
    simp only [hb'] at hw ⊢
    simp only [capOf, Cap.v, noCap] at hw ⊢
    generalize (n : Int) % 16 = z1 at *
    generalize (n : Int) / 16 % 16 = z2 at *
    generalize (n : Int) / 256 % 65536 = z3 at *
    generalize (n : Int) / 16777216 % 16777216 = z4 at *
    generalize (n : Int) / 281474976710656 = z5 at *
    simp only [Bool.false_eq_true, if_false] at hw ⊢
    rw [rf_o D_steadfastref07_Of rfl]
    simp only [go_sem, f1, f2, f3, f4, f5, q1, q2, q3, q4, q5, hw]
end Go.Proofs.Ytpbpgbedkmbfkaa
