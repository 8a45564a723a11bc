/-
  YtpbpgbedkmbfkaaT3: what functions of the program compute (ReachF, ReachG, ReachH, ReachI).
-/
import Derived.Test.YtpbpgbedkmbfkaaT1
import Derived.Test.YtpbpgbedkmbfkaaAbE
import Derived.Test.YtpbpgbedkmbfkaaT2
import Derived.Test.YtpbpgbedkmbfkaaAbF
set_option maxRecDepth 100000
namespace Go.Proofs.Ytpbpgbedkmbfkaa
open Go.Ab

structure Sub (A B : List Bool) : Prop where
  len : B.length = A.length
  sub : ∀ j : Nat, A[j]? = some true → B[j]? = some true
theorem Sub.rfl' (A : List Bool) : Sub A A := ⟨rfl, fun _ h => h⟩
theorem Sub.trans {A B C : List Bool} (h : Sub A B) (h' : Sub B C) : Sub A C := ⟨h'.len.trans h.len, fun j hj => h'.sub j (h.sub j hj)⟩
theorem sub_set (A : List Bool) (j : Nat) : Sub A (A.set j true) := by
  refine ⟨by simp, fun k hk => ?_⟩
  rw [List.getElem?_set]
  split
  · rename_i e
    subst e
    rw [if_pos (List.getElem?_eq_some_iff.1 hk).1]
  · exact hk
theorem set_here {A : List Bool} {j : Nat} (h : j < A.length) : (A.set j true)[j]? = some true := List.getElem?_set_self h
def visK1 (W : List Obj) (A : List Bool) (c : Int) : List Bool := match names W c with
  | some j => A.set j true
  | none => A
def visK (W : List Obj) (l : List Int) (A : List Bool) : List Bool := l.foldl (visK1 W) A
theorem visK1_sub (W : List Obj) (A : List Bool) (c : Int) : Sub A (visK1 W A c) := by
  unfold visK1
  split
  · exact sub_set A _
  · exact .rfl' A
theorem visK_sub (W : List Obj) : ∀ (l : List Int) (A : List Bool), Sub A (visK W l A)
  | [], A => .rfl' A
  | c :: l, A => (visK1_sub W A c).trans (visK_sub W l _)
theorem visK_in (W : List Obj) {k : Nat} : ∀ {l : List Int} {A : List Bool} {w : Int}, w ∈ l → names W w = some k → k < A.length → (visK W l A)[k]? = some true
  | c :: l, A, w, hw, hn, hk => by
    rcases List.mem_cons.1 hw with rfl | hw
    · refine (visK_sub W l _).sub k ?_
      simp only [visK1, hn]
      exact set_here hk
    · exact visK_in W (l := l) (A := visK1 W A c) hw hn (by rw [(visK1_sub W A c).len]; exact hk)
theorem visK_sound (W : List Obj) {k : Nat} : ∀ {l : List Int} {A : List Bool}, (visK W l A)[k]? = some true → A[k]? = some true ∨ ∃ w ∈ l, names W w = some k
  | [], A, h => .inl h
  | c :: l, A, h => by
    rcases visK_sound W (l := l) (A := visK1 W A c) h with h1 | ⟨w, hw, hn⟩
    · unfold visK1 at h1
      split at h1
      · rename_i j hj
        rw [List.getElem?_set] at h1
        split at h1
        · rename_i e
          subst e
          exact .inr ⟨c, List.mem_cons_self, hj⟩
        · exact .inl h1
      · exact .inl h1
    · exact .inr ⟨w, List.mem_cons_of_mem _ hw, hn⟩
def visI (W : List Obj) (A : List Bool) (i : Nat) : List Bool := if A[i]? = some true ∧ (objAt W i).kind = 2 then visK W (objAt W i).l A else A
theorem visI_sub (W : List Obj) (A : List Bool) (i : Nat) : Sub A (visI W A i) := by
  unfold visI
  split
  · exact visK_sub W _ A
  · exact .rfl' A
theorem visI_in (W : List Obj) {A : List Bool} {i k : Nat} (hi : A[i]? = some true) (hs : Succ W i k) (hk : k < A.length) : (visI W A i)[k]? = some true := by
  obtain ⟨h1, w, hw, hn⟩ := hs
  unfold visI
  rw [if_pos ⟨hi, h1⟩]
  exact visK_in W hw hn hk
theorem visI_sound (W : List Obj) {A : List Bool} {i k : Nat} (h : (visI W A i)[k]? = some true) : A[k]? = some true ∨ (A[i]? = some true ∧ Succ W i k) := by
  unfold visI at h
  split at h
  · rename_i hc
    rcases visK_sound W h with h1 | h1
    · exact .inl h1
    · exact .inr ⟨hc.1, hc.2, h1⟩
  · exact .inl h
def visL (W : List Obj) (is : List Nat) (A : List Bool) : List Bool := is.foldl (visI W) A
theorem visL_sub (W : List Obj) : ∀ (is : List Nat) (A : List Bool), Sub A (visL W is A)
  | [], A => .rfl' A
  | i :: is, A => (visI_sub W A i).trans (visL_sub W is _)
theorem visL_in (W : List Obj) {i k : Nat} : ∀ {is : List Nat} {A : List Bool}, i ∈ is → A[i]? = some true → Succ W i k → k < A.length → (visL W is A)[k]? = some true
  | j :: is, A, hi, hA, hs, hk => by
    rcases List.mem_cons.1 hi with rfl | hi
    · exact (visL_sub W is _).sub k (visI_in W hA hs hk)
    · exact visL_in W (is := is) (A := visI W A j) hi ((visI_sub W A j).sub i hA) hs (by rw [(visI_sub W A j).len]; exact hk)
theorem visL_sound (W : List Obj) {P : Nat → Prop} (hP : ∀ i k, P i → Succ W i k → P k) : ∀ {is : List Nat} {A : List Bool}, (∀ j : Nat, A[j]? = some true → P j) → ∀ j : Nat, (visL W is A)[j]? = some true → P j
  | [], _, hA, j, h => hA j h
  | i :: is, A, hA, j, h => visL_sound W hP (is := is) (A := visI W A i) (fun j hj => by
      rcases visI_sound W hj with h1 | ⟨h1, h2⟩
      · exact hA j h1
      · exact hP i j (hA i h1) h2) j h
def rnd (W : List Obj) (A : List Bool) : List Bool := visL W (List.range 49) A
def itr (W : List Obj) (A : List Bool) : Nat → List Bool
  | 0 => A
  | r + 1 => rnd W (itr W A r)
theorem itr_sub (W : List Obj) (A : List Bool) (r : Nat) : Sub (itr W A r) (itr W A (r + 1)) := visL_sub W _ _
theorem itr_len (W : List Obj) (A : List Bool) : ∀ r, (itr W A r).length = A.length
  | 0 => rfl
  | r + 1 => (itr_sub W A r).len.trans (itr_len W A r)
theorem itr_from (W : List Obj) (A : List Bool) : ∀ r, Sub A (itr W A r)
  | 0 => .rfl' A
  | r + 1 => (itr_from W A r).trans (itr_sub W A r)
theorem cnt_le : ∀ {A B : List Bool}, Sub A B → A ≠ B → A.count true < B.count true
  | [], [], _, h => absurd rfl h
  | [], b :: B, h, _ => by have := h.len; simp at this
  | a :: A, [], h, _ => by have := h.len; simp at this
  | a :: A, b :: B, h, hne => by
    have ht : Sub A B := ⟨by simpa using h.len, fun j hj => by simpa using h.sub (j + 1) (by simpa using hj)⟩
    have h0 := h.sub 0
    have hle : A.count true ≤ B.count true := by
      by_cases e : A = B
      · rw [e]; exact Nat.le_refl _
      · exact Nat.le_of_lt (cnt_le ht e)
    cases a <;> cases b
    · have : A ≠ B := fun e => hne (by rw [e])
      simpa using cnt_le ht this
    · simp; omega
    · simp at h0
    · have : A ≠ B := fun e => hne (by rw [e])
      simpa using cnt_le ht this
theorem itr_stable (W : List Obj) (A : List Bool) {r : Nat} (h : itr W A (r + 1) = itr W A r) : ∀ n, itr W A (r + n) = itr W A r
  | 0 => rfl
  | n + 1 => by
    show rnd W (itr W A (r + n)) = _
    rw [itr_stable W A h n]
    exact h
/-- Behind as many rounds as there are objects nothing more is added. -/
theorem itr_end (W : List Obj) (A : List Bool) (hl : A.length = 49) (h1 : 1 ≤ A.count true) : rnd W (itr W A 49) = itr W A 49 := by
  by_cases hs : ∃ r, r < 49 ∧ itr W A (r + 1) = itr W A r
  · obtain ⟨r, hr, he⟩ := hs
    have e1 := itr_stable W A he (49 - r)
    have e2 := itr_stable W A he (49 - r + 1)
    rw [show r + (49 - r) = 49 by omega] at e1
    rw [show r + (49 - r + 1) = 50 by omega] at e2
    show itr W A 50 = _
    rw [e2, e1]
  · exfalso
    have key : ∀ r, r ≤ 49 → r + 1 ≤ (itr W A r).count true := by
      intro r
      induction r with
      | zero => intro _; exact h1
      | succ r ih =>
        intro hr
        have := cnt_le (itr_sub W A r) (fun e => hs ⟨r, by omega, e.symm⟩)
        have := ih (by omega)
        omega
    have h2 := key 49 (Nat.le_refl _)
    have h3 := List.count_le_length (a := true) (l := itr W A 49)
    rw [itr_len, hl] at h3
    omega
theorem reach_snoc {W : List Obj} {i a b : Nat} (hr : Reach W i a) (hs : Succ W a b) : Reach W i b := by
  induction hr with
  | refl _ => exact .step hs (.refl _)
  | step h _ ih => exact .step h (ih hs)
/-- What the rounds come to is what can be come to. -/
theorem itr_from_s {W : List Obj} {c : Int} {i : Nat} (hi : names W c = some i) : FromS W c (itr W ((List.replicate 49 false).set i true) 49) := by
  have hlt := names_lt hi
  have hA : ((List.replicate 49 false).set i true).length = 49 := by simp
  have hB : (itr W ((List.replicate 49 false).set i true) 49).length = 49 := by rw [itr_len, hA]
  have hAi : ((List.replicate 49 false).set i true)[i]? = some true := set_here (by simpa using hlt)
  have hA1 : ∀ j : Nat, ((List.replicate 49 false).set i true)[j]? = some true → j = i := by
    intro j hj
    rw [List.getElem?_set] at hj
    split at hj
    · rename_i e; exact e.symm
    · rw [List.getElem?_replicate] at hj
      split at hj <;> cases hj
  refine ⟨hB, fun j => ⟨fun hj => ⟨i, hi, ?_⟩, ?_⟩⟩
  · have hP : ∀ a b, Reach W i a → Succ W a b → Reach W i b := fun a b => reach_snoc
    have key : ∀ r, ∀ j : Nat, (itr W ((List.replicate 49 false).set i true) r)[j]? = some true → Reach W i j := by
      intro r
      induction r with
      | zero => intro j hj; rw [hA1 j hj]; exact .refl i
      | succ r ih => exact fun j hj => visL_sound W hP ih j hj
    exact key 49 j hj
  · rintro ⟨i', hi', hr⟩
    rw [hi] at hi'
    cases hi'
    have hst := itr_end W _ hA (List.count_pos_iff.2 (List.mem_iff_getElem?.2 ⟨i, hAi⟩))
    have hcl : ∀ a b, (itr W ((List.replicate 49 false).set i true) 49)[a]? = some true → Succ W a b → (itr W ((List.replicate 49 false).set i true) 49)[b]? = some true := by
      intro a b ha hs
      have ha49 : a < 49 := by have := (List.getElem?_eq_some_iff.1 ha).1; omega
      have hb49 : b < 49 := by obtain ⟨_, w, _, hn⟩ := hs; exact names_lt hn
      have := visL_in W (is := List.range 49) (List.mem_range.2 ha49) ha hs (by omega)
      rw [show visL W (List.range 49) (itr W ((List.replicate 49 false).set i true) 49) = rnd W (itr W ((List.replicate 49 false).set i true) 49) from rfl, hst] at this
      exact this
    have : ∀ {a b : Nat}, Reach W a b → (itr W ((List.replicate 49 false).set i true) 49)[a]? = some true → (itr W ((List.replicate 49 false).set i true) 49)[b]? = some true := by
      intro a b hr
      induction hr with
      | refl _ => exact id
      | step hs _ ih => exact fun ha => ih (hcl _ _ ha hs)
    exact this hr ((itr_from W _ 49).sub i hAi)
end Go.Proofs.Ytpbpgbedkmbfkaa
namespace Go.Proofs.Ytpbpgbedkmbfkaa
open Go.Ab

theorem names_iff {W : List Obj} {c : Int} (hm : (capOf c).may = true) : (names W c).isSome = (decide ((capOf c).kind ≤ 4) && (decide ((objAt W (capOf c).id.toNat).kind = (capOf c).kind) && decide ((objAt W (capOf c).id.toNat).ver = (capOf c).ver))) := by
  have hk := ((may_iff _).1 hm).k
  have hcc : capsOf c = capOf c := by unfold capsOf; rw [if_pos hm]
  unfold names entryNames
  rw [hcc]
  generalize capOf c = y at *
  generalize objAt W y.id.toNat = o at *
  simp only [hm, Bool.not_true, Bool.false_or, decide_eq_true_eq, true_and]
  by_cases h1 : 4 < y.kind
  · have : ¬ y.kind ≤ 4 := by omega
    simp [h1, this]
  · have h1' : y.kind ≤ 4 := by omega
    by_cases h2 : y.ver = o.ver
    · by_cases h3 : y.kind = o.kind
      · have h4 : ¬ o.kind = 0 := by omega
        have h5 : o.kind ≤ 4 := by omega
        have h6 : ¬ 4 < o.kind := by omega
        simp [h2, h3, h4, h5, h6]
      · by_cases h4 : o.kind = 0
        · have : ¬ (0 : Int) = y.kind := by omega
          simp [h1, h1', h2, h4, this]
        · have : ¬ o.kind = y.kind := fun e => h3 e.symm
          simp [h1, h1', h2, h3, h4, this]
    · have : ¬ o.ver = y.ver := fun e => h2 e.symm
      simp [h1, h1', h2, this]
theorem names_val {W : List Obj} {c : Int} (h : (names W c).isSome = true) : names W c = some (capOf c).id.toNat := by
  unfold names at h ⊢
  split
  · rfl
  · rename_i hn; rw [if_neg hn] at h; cases h
theorem rf_r23Names (W : List Obj) (hW : OkW W) (c : Int) (h0 : 0 ≤ c) (h1 : c ≤ 18446744073709551615) (s : St) : rf D f_steadfastref23_Names [worldV W, .int .u64 c] s =
    some (.tup [.int .i64 ((names W c).getD 0 : Nat), .bool (names W c).isSome], s) := by
  have hc := fun s => rf_ref07_Of c h0 h1 s
  rw [rf_o D_steadfastref23_Names rfl]
  by_cases hm : (capOf c).may = true
  · have hid := may_id hm
    obtain ⟨i, hi⟩ : ∃ i : Nat, (capOf c).id = i := ⟨(capOf c).id.toNat, by omega⟩
    have hcc : capsOf c = capOf c := by unfold capsOf; rw [if_pos hm]
    have hg := objAt_get hW (i := i) (by omega)
    rw [hcc, hm] at hc
    have hs := names_iff (W := W) hm
    have hv := names_val (W := W) (c := c)
    simp only [Cap.v, hi] at hc
    have c1 : (i : Int) < 49 := by omega
    have c2 : (0 : Int) ≤ i := by omega
    rw [hi, Int.toNat_natCast] at hs hv
    simp only [Obj.v] at hg
    generalize objAt W i = o at *
    generalize names W c = nm at *
    generalize capOf c = y at *
    simp only [worldV]
    by_cases e1 : 4 < y.kind
    · have e1' : ¬ y.kind ≤ 4 := by omega
      simp only [e1', decide_false, Bool.false_and] at hs
      have : nm = none := by cases nm <;> simp_all
      subst this
      simp only [go_sem, List.replicate, hc, e1, Option.getD_none, Int.natCast_zero, Option.isSome_none]
    · have e1' : y.kind ≤ 4 := by omega
      by_cases e2 : o.kind = y.kind
      · by_cases e3 : o.ver = y.ver
        · simp only [e1', e2, e3, decide_true, Bool.and_self] at hs
          have := hv hs
          subst this
          simp only [go_sem, List.replicate, hc, e1, c1, c2, Int.toNat_natCast, hg, e2, e3, Option.getD_some, Option.isSome_some]
        · simp only [e1', e2, e3, decide_true, decide_false, Bool.and_false] at hs
          have : nm = none := by cases nm <;> simp_all
          subst this
          simp only [go_sem, List.replicate, hc, e1, c1, c2, Int.toNat_natCast, hg, e2, e3, Option.getD_none, Int.natCast_zero, Option.isSome_none]
      · simp only [e1', e2, decide_true, decide_false, Bool.false_and, Bool.and_false] at hs
        have : nm = none := by cases nm <;> simp_all
        subst this
        simp only [go_sem, List.replicate, hc, e1, c1, c2, Int.toNat_natCast, hg, e2, Option.getD_none, Int.natCast_zero, Option.isSome_none]
  · have hm' : (capOf c).may = false := by simpa using hm
    have : names W c = none := by unfold names; rw [if_neg (fun h => hm h.1)]
    rw [this]
    rw [hm'] at hc
    simp only [Cap.v] at hc
    simp only [go_sem, worldV, hc, List.replicate, Option.getD_none, Int.natCast_zero, Option.isSome_none]
/-! ### The rounds -/
theorem take_visK {W : List Obj} {l : List Int} {A : List Bool} {k : Nat} (hk : k < l.length) : visK W (l.take (k + 1)) A = visK1 W (visK W (l.take k) A) (l.getD k 0) := by
  unfold visK
  rw [List.take_add_one, List.getElem?_eq_getElem hk, Option.toList_some, List.foldl_append]
  simp [List.getD_eq_getElem?_getD, List.getElem?_eq_getElem hk]
theorem bools_get {B : List Bool} {j : Nat} (h : j < B.length) : (B.map V.bool)[j]? = some (.bool (B.getD j false)) := get_map h false
theorem getD_iff {B : List Bool} {j : Nat} : B.getD j false = true ↔ B[j]? = some true := by
  rw [List.getD_eq_getElem?_getD]
  cases h : B[j]? with
  | none => simp
  | some b => simp
theorem k_loop {W : List Obj} (hW : OkW W) {i : Nat} (hi : i < 49) {A : List Bool} (hA : A.length = 49) (Z : V) (hZ : ∀ n, V.locLt n Z = true) (r : Int) (s : St) :
    ∃ z : Int, rc D s.loc.length (.loop [2, 4, 5, 8, 9, 10] b_steadfastref23_From_2) [(2, .ptr (.loc s.loc.length) [] 30), (4, .ptr (.loc (s.loc.length + 1)) [] 32), (5, .ptr (.loc (s.loc.length + 2)) [] 32), (8, .int .i64 r), (9, .int .i64 i), (10, .int .i64 0)] ⟨s.loc ++ [.rw (worldV W), .rw Z, .rw (.agg 32 (A.map .bool))], s.hp⟩ =
      some (.exit 4, [(2, .ptr (.loc s.loc.length) [] 30), (4, .ptr (.loc (s.loc.length + 1)) [] 32), (5, .ptr (.loc (s.loc.length + 2)) [] 32), (8, .int .i64 r), (9, .int .i64 i), (10, .int .i64 z), (46, .bool false)], ⟨s.loc ++ [.rw (worldV W), .rw Z, .rw (.agg 32 ((visI W A i).map .bool))], s.hp⟩) := by
  have c1 : (i : Int) < 49 := by omega
  have c2 : (0 : Int) ≤ i := by omega
  have hg := objAt_get hW hi
  have hmem := objAt_mem hW hi
  have h8 := hW.l8 _ hmem
  have hwd := hW.words _ hmem
  have m1 : s.loc.length < s.loc.length + 3 := by omega
  have m2 : s.loc.length + 1 < s.loc.length + 3 := by omega
  have m3 : s.loc.length + 2 < s.loc.length + 3 := by omega
  unfold visI
  by_cases ha : A[i]? = some true
  · by_cases hk : (objAt W i).kind = 2
    · refine ⟨8, ?_⟩
      rw [if_pos ⟨ha, hk⟩]
      refine loop_runs (fun x : Nat => [(2, .ptr (.loc s.loc.length) [] 30), (4, .ptr (.loc (s.loc.length + 1)) [] 32), (5, .ptr (.loc (s.loc.length + 2)) [] 32), (8, .int .i64 r), (9, .int .i64 i), (10, .int .i64 x)])
        (fun x => ⟨s.loc ++ [.rw (worldV W), .rw Z, .rw (.agg 32 ((visK W ((objAt W i).l.take x) A).map .bool))], s.hp⟩) (fun _ => _) (fun x => 8 - x) (fun x => x ≤ 8) 0 ?_ (Nat.zero_le _) rfl rfl
      intro k hk8
      have hsub := visK_sub W ((objAt W i).l.take k) A
      have hai := hsub.sub i ha
      have hgi := bools_get (B := visK W ((objAt W i).l.take k) A) (j := i) (by rw [hsub.len]; omega)
      rw [getD_iff.2 hai] at hgi
      have hlen := hsub.len
      by_cases d : k < 8
      · left
        have e1 : (k : Int) < 8 := by omega
        have e2 : (0 : Int) ≤ k := by omega
        have e3 : IntKind.i64.wrap ((k : Int) + 1) = (k : Int) + 1 := i64_id (by omega) (by omega)
        have hl := get_map (f := V.int .u64) (l := (objAt W i).l) (i := k) (by omega) 0
        have hwr := hwd _ (getD_mem (l := (objAt W i).l) (i := k) (by omega) 0)
        have hn := fun s => rf_r23Names W hW ((objAt W i).l.getD k 0) hwr.1 hwr.2 s
        refine ⟨k + 1, by omega, by omega, rfl, ?_⟩
        simp only [take_visK (show k < (objAt W i).l.length by omega)]
        simp only [visK1]
        generalize visK W ((objAt W i).l.take k) A = B at *
        generalize (objAt W i).l.getD k 0 = c at *
        simp only [worldV, Obj.v] at *
        rw [hk] at hg
        generalize (objAt W i).ver = ver at *
        generalize (objAt W i).l = l at *
        generalize W.map _ = WV at *
        cases hnc : names W c with
        | none =>
          rw [hnc] at hn
          simp only [Option.getD_none, Option.isSome_none, Int.natCast_zero] at hn
          simp only [go_sem, b_steadfastref23_From_2, e1, e2, c1, c2, Int.toNat_natCast, hgi, hg, hl, hn, e3, m1, m2, m3, hZ]
          rfl
        | some j =>
          rw [hnc] at hn
          have hj := names_lt hnc
          have j1 : (j : Int) < 49 := by omega
          have j2 : (0 : Int) ≤ j := by omega
          simp only [Option.getD_some, Option.isSome_some] at hn
          have hgj := bools_get (B := B) (j := j) (by omega)
          simp only [go_sem, b_steadfastref23_From_2, e1, e2, c1, c2, Int.toNat_natCast, hgi, hg, hl, hn, e3, j1, j2, hgj, List.map_set, m1, m2, m3, hZ]
          rfl
      · right
        have : k = 8 := by omega
        subst this
        rw [List.take_of_length_le (by omega)] at *
        simp only [go_sem, b_steadfastref23_From_2]
    · refine ⟨0, ?_⟩
      rw [if_neg (fun h => hk h.2)]
      have hgi := bools_get (B := A) (j := i) (by omega)
      rw [getD_iff.2 ha] at hgi
      rw [rc_loop_o]
      simp only [worldV, Obj.v] at *
      generalize (objAt W i).kind = kd at *
      simp only [go_sem, b_steadfastref23_From_2, c1, c2, Int.toNat_natCast, hgi, hg, hk]
  · refine ⟨0, ?_⟩
    rw [if_neg (fun h => ha h.1)]
    have hgi := bools_get (B := A) (j := i) (by omega)
    rw [show A.getD i false = false by cases h : A.getD i false with | false => rfl | true => exact absurd (getD_iff.1 h) ha] at hgi
    rw [rc_loop_o]
    simp only [worldV] at *
    simp only [go_sem, b_steadfastref23_From_2, c1, c2, Int.toNat_natCast, hgi]
theorem visL_succ {W : List Obj} {n : Nat} {A : List Bool} : visL W (List.range (n + 1)) A = visI W (visL W (List.range n) A) n := by
  unfold visL
  rw [List.range_succ, List.foldl_append]
  rfl
theorem i_loop {W : List Obj} (hW : OkW W) {A : List Bool} (hA : A.length = 49) (Z : V) (hZ : ∀ n, V.locLt n Z = true) (r : Int) (s : St) :
    rc D s.loc.length (.loop [2, 4, 5, 8, 9] b_steadfastref23_From_1) [(2, .ptr (.loc s.loc.length) [] 30), (4, .ptr (.loc (s.loc.length + 1)) [] 32), (5, .ptr (.loc (s.loc.length + 2)) [] 32), (8, .int .i64 r), (9, .int .i64 0)] ⟨s.loc ++ [.rw (worldV W), .rw Z, .rw (.agg 32 (A.map .bool))], s.hp⟩ =
      some (.exit 2, [(2, .ptr (.loc s.loc.length) [] 30), (4, .ptr (.loc (s.loc.length + 1)) [] 32), (5, .ptr (.loc (s.loc.length + 2)) [] 32), (8, .int .i64 r), (9, .int .i64 49), (30, .bool false)], ⟨s.loc ++ [.rw (worldV W), .rw Z, .rw (.agg 32 ((rnd W A).map .bool))], s.hp⟩) := by
  have m1 : s.loc.length < s.loc.length + 3 := by omega
  have m2 : s.loc.length + 1 < s.loc.length + 3 := by omega
  have m3 : s.loc.length + 2 < s.loc.length + 3 := by omega
  refine loop_runs (fun x : Nat => [(2, .ptr (.loc s.loc.length) [] 30), (4, .ptr (.loc (s.loc.length + 1)) [] 32), (5, .ptr (.loc (s.loc.length + 2)) [] 32), (8, .int .i64 r), (9, .int .i64 x)])
    (fun x => ⟨s.loc ++ [.rw (worldV W), .rw Z, .rw (.agg 32 ((visL W (List.range x) A).map .bool))], s.hp⟩) (fun _ => _) (fun x => 49 - x) (fun x => x ≤ 49) 0 ?_ (Nat.zero_le _) rfl rfl
  intro i hi
  by_cases d : i < 49
  · left
    have e1 : (i : Int) < 49 := by omega
    have e3 : IntKind.i64.wrap ((i : Int) + 1) = (i : Int) + 1 := i64_id (by omega) (by omega)
    obtain ⟨z, hk⟩ := k_loop hW d (A := visL W (List.range i) A) (by rw [(visL_sub W _ A).len]; exact hA) Z hZ r s
    refine ⟨i + 1, by omega, by omega, rfl, ?_⟩
    simp only [visL_succ]
    simp only [worldV] at *
    generalize W.map _ = WV at *
    generalize visI W (visL W (List.range i) A) i = B2 at *
    generalize visL W (List.range i) A = B at *
    simp only [go_sem, b_steadfastref23_From_1, e1, hk, e3, m1, m2, m3, hZ]
    rfl
  · right
    have : i = 49 := by omega
    subst this
    simp only [go_sem, b_steadfastref23_From_1]
    rfl
theorem r_loop {W : List Obj} (hW : OkW W) {A : List Bool} (hA : A.length = 49) (Z : V) (hZ : ∀ n, V.locLt n Z = true) (s : St) :
    rc D s.loc.length (.loop [2, 4, 5, 8] b_steadfastref23_From_0) [(2, .ptr (.loc s.loc.length) [] 30), (4, .ptr (.loc (s.loc.length + 1)) [] 32), (5, .ptr (.loc (s.loc.length + 2)) [] 32), (8, .int .i64 0)] ⟨s.loc ++ [.rw (worldV W), .rw Z, .rw (.agg 32 (A.map .bool))], s.hp⟩ =
      some (.exit 0, [(2, .ptr (.loc s.loc.length) [] 30), (4, .ptr (.loc (s.loc.length + 1)) [] 32), (5, .ptr (.loc (s.loc.length + 2)) [] 32), (8, .int .i64 49), (26, .bool false)], ⟨s.loc ++ [.rw (worldV W), .rw Z, .rw (.agg 32 ((itr W A 49).map .bool))], s.hp⟩) := by
  have m1 : s.loc.length < s.loc.length + 3 := by omega
  have m2 : s.loc.length + 1 < s.loc.length + 3 := by omega
  have m3 : s.loc.length + 2 < s.loc.length + 3 := by omega
  refine loop_runs (fun x : Nat => [(2, .ptr (.loc s.loc.length) [] 30), (4, .ptr (.loc (s.loc.length + 1)) [] 32), (5, .ptr (.loc (s.loc.length + 2)) [] 32), (8, .int .i64 x)])
    (fun x => ⟨s.loc ++ [.rw (worldV W), .rw Z, .rw (.agg 32 ((itr W A x).map .bool))], s.hp⟩) (fun _ => _) (fun x => 49 - x) (fun x => x ≤ 49) 0 ?_ (Nat.zero_le _) rfl rfl
  intro i hi
  by_cases d : i < 49
  · left
    have e1 : (i : Int) < 49 := by omega
    have e3 : IntKind.i64.wrap ((i : Int) + 1) = (i : Int) + 1 := i64_id (by omega) (by omega)
    have hk := i_loop hW (A := itr W A i) (by rw [itr_len]; exact hA) Z hZ i s
    refine ⟨i + 1, by omega, by omega, rfl, ?_⟩
    rw [show rnd W (itr W A i) = itr W A (i + 1) from rfl] at hk
    simp only [worldV] at *
    generalize W.map _ = WV at *
    generalize itr W A (i + 1) = B2 at *
    generalize itr W A i = B at *
    simp only [go_sem, b_steadfastref23_From_0, e1, hk, e3, m1, m2, m3, hZ]
    rfl
  · right
    have : i = 49 := by omega
    subst this
    simp only [go_sem, b_steadfastref23_From_0]
theorem from_none {W : List Obj} {c : Int} (hn : names W c = none) : FromS W c (List.replicate 49 false) := by
  refine ⟨by simp, fun j => ⟨fun h => ?_, ?_⟩⟩
  · rw [List.getElem?_replicate] at h
    split at h <;> cases h
  · rintro ⟨i, hi, _⟩
    rw [hn] at hi
    cases hi
theorem rf_r23From (W : List Obj) (hW : OkW W) (c : Int) (h0 : 0 ≤ c) (h1 : c ≤ 18446744073709551615) : ∃ B, FromS W c B ∧ ∀ s, rf D f_steadfastref23_From [worldV W, .int .u64 c] s = some (.agg 32 (B.map .bool), s) := by
  have hnm := fun s => rf_r23Names W hW c h0 h1 s
  cases hn : names W c with
  | none =>
    refine ⟨_, from_none hn, fun s => ?_⟩
    rw [hn] at hnm
    simp only [Option.getD_none, Option.isSome_none, Int.natCast_zero, worldV] at *
    generalize W.map _ = WV at *
    rw [rf_o D_steadfastref23_From rfl]
    simp only [go_sem, hnm, List.map_replicate]
  | some i =>
    refine ⟨_, itr_from_s hn, fun s => ?_⟩
    rw [hn] at hnm
    have hi := names_lt hn
    have hZ : ∀ n, V.locLt n (.agg 32 (List.replicate 49 (.bool false))) = true := fun _ => rfl
    have hl := r_loop hW (A := (List.replicate 49 false).set i true) (by simp) _ hZ s
    have c1 : (i : Int) < 49 := by omega
    have c2 : (0 : Int) ≤ i := by omega
    have hg : (List.replicate 49 (V.bool false))[i]? = some (.bool false) := by rw [List.getElem?_replicate, if_pos hi]
    rw [List.map_set, List.map_replicate] at hl
    simp only [Option.getD_some, Option.isSome_some, worldV] at *
    generalize W.map _ = WV at *
    generalize itr W ((List.replicate 49 false).set i true) 49 = B at *
    rw [rf_o D_steadfastref23_From rfl]
    simp only [go_sem, hnm, c1, c2, Int.toNat_natCast, hg]
    simp only [go_sem, hl]
end Go.Proofs.Ytpbpgbedkmbfkaa
namespace Go.Proofs.Ytpbpgbedkmbfkaa
open Go.Ab

def bt (g : Nat → Bool) : List V := tab 49 fun j => .bool (g j)
def bl (g : Nat → Bool) : List Bool := (List.range 49).map g
theorem bl_map (g : Nat → Bool) : (bl g).map V.bool = bt g := by simp [bl, bt, tab]
theorem bt_of {B : List Bool} (h : B.length = 49) : B.map V.bool = bt fun j => B.getD j false := by
  apply List.ext_getElem?
  intro j
  by_cases hj : j < 49
  · rw [bools_get (by omega)]
    unfold bt
    rw [tab_get hj]
  · rw [List.getElem?_eq_none (by simp; omega), List.getElem?_eq_none (by simp [bt, tab]; omega)]
theorem bt_set (g h : Nat → Bool) (k : Nat) (b : Bool) (he : ∀ j, j < 49 → h j = if j = k then b else g j) : (bt g).set k (.bool b) = bt h := by
  unfold bt
  rw [tab_set]
  apply tab_congr
  intro j hj
  unfold upd
  rw [he j hj]
  split <;> rfl
theorem bt_get {g : Nat → Bool} {k : Nat} (hk : k < 49) : (bt g)[k]? = some (.bool (g k)) := tab_get hk
theorem bt_false : List.replicate 49 (V.bool false) = bt fun _ => false := by rw [bt, tab_rep]
theorem of_loop (a b : Nat → Bool) (X0 X1 X3 : Blk) {m : Nat} (h1 : blkLt (m + 6) X1 = true) (h0 : blkLt (m + 6) X0 = true) (h3 : blkLt (m + 6) X3 = true) (L hp : List Blk) (hm : L.length = m) :
    rc D m (.loop [4, 5, 8, 9, 44] b_reach_Of_0) [(4, .ptr (.loc (m + 1)) [] 32), (5, .ptr (.loc (m + 2)) [] 32), (8, .ptr (.loc (m + 4)) [] 32), (9, .ptr (.loc (m + 5)) [] 32), (44, .int .i64 0)] ⟨L ++ [X0, X1, .rw (.agg 32 (bt fun _ => false)), X3, .rw (.agg 32 (bt a)), .rw (.agg 32 (bt b))], hp⟩ =
      some (.exit 0, [(4, .ptr (.loc (m + 1)) [] 32), (5, .ptr (.loc (m + 2)) [] 32), (8, .ptr (.loc (m + 4)) [] 32), (9, .ptr (.loc (m + 5)) [] 32), (44, .int .i64 49), (45, .bool false)], ⟨L ++ [X0, X1, .rw (.agg 32 (bt fun j => a j || b j)), X3, .rw (.agg 32 (bt a)), .rw (.agg 32 (bt b))], hp⟩) := by
  subst hm
  have m1 : L.length + 1 < L.length + 6 := by omega
  have m2 : L.length + 2 < L.length + 6 := by omega
  have m4 : L.length + 4 < L.length + 6 := by omega
  have m5 : L.length + 5 < L.length + 6 := by omega
  refine loop_runs (fun x : Nat => [(4, .ptr (.loc (L.length + 1)) [] 32), (5, .ptr (.loc (L.length + 2)) [] 32), (8, .ptr (.loc (L.length + 4)) [] 32), (9, .ptr (.loc (L.length + 5)) [] 32), (44, .int .i64 x)])
    (fun x => ⟨L ++ [X0, X1, .rw (.agg 32 (bt fun j => if j < x then a j || b j else false)), X3, .rw (.agg 32 (bt a)), .rw (.agg 32 (bt b))], hp⟩) (fun _ => _) (fun x => 49 - x) (fun x => x ≤ 49) 0 ?_ (Nat.zero_le _) rfl (by simp)
  intro i hi
  by_cases d : i < 49
  · left
    have e1 : (i : Int) < 49 := by omega
    have e2 : (0 : Int) ≤ i := by omega
    have e3 : IntKind.i64.wrap ((i : Int) + 1) = (i : Int) + 1 := i64_id (by omega) (by omega)
    have ga := bt_get (g := a) d
    have gb := bt_get (g := b) d
    have gi := bt_get (g := fun j => if j < i then a j || b j else false) d
    have hs := bt_set (fun j => if j < i then a j || b j else false) (fun j => if j < i + 1 then a j || b j else false) i (a i || b i) (fun j _ => by
      by_cases hj : j = i
      · subst hj; simp
      · simp only [hj, if_false]
        by_cases h : j < i
        · rw [if_pos h, if_pos (by omega)]
        · rw [if_neg h, if_neg (by omega)])
    refine ⟨i + 1, by omega, by omega, rfl, ?_⟩
    rw [← hs]
    generalize (bt fun j => if j < i then a j || b j else false) = T at *
    generalize (if i < i then a i || b i else false) = ti at *
    generalize bt a = TA at *
    generalize bt b = TB at *
    generalize a i = ai at *
    generalize b i = bi at *
    cases ai
    · simp only [go_sem, b_reach_Of_0, e1, e2, e3, Int.toNat_natCast, ga, gb, gi, m1, m2, m4, m5, h0, h1, h3]
      rfl
    · simp only [go_sem, b_reach_Of_0, e1, e2, e3, Int.toNat_natCast, ga, gb, gi, m1, m2, m4, m5, h0, h1, h3]
      rfl
  · right
    have : i = 49 := by omega
    subst this
    have hs : (bt fun j => if j < 49 then a j || b j else false) = bt fun j => a j || b j := tab_congr fun j hj => by simp [hj]
    rw [hs]
    simp only [go_sem, b_reach_Of_0]
theorem rof_loop (a b : Nat → Bool) (X0 X1 X2 X3 : Blk) {m : Nat} (h0 : blkLt (m + 6) X0 = true) (h1 : blkLt (m + 6) X1 = true) (h2 : blkLt (m + 6) X2 = true) (h3 : blkLt (m + 6) X3 = true) (L hp : List Blk) (hm : L.length = m) :
    rc D m (.loop [4, 8, 9, 10] b_steadfastref23_Of_0) [(4, .ptr (.loc (m + 1)) [] 32), (8, .ptr (.loc (m + 4)) [] 32), (9, .ptr (.loc (m + 5)) [] 32), (10, .int .i64 0)] ⟨L ++ [X0, X1, X2, X3, .rw (.agg 32 (bt a)), .rw (.agg 32 (bt b))], hp⟩ =
      some (.exit 0, [(4, .ptr (.loc (m + 1)) [] 32), (8, .ptr (.loc (m + 4)) [] 32), (9, .ptr (.loc (m + 5)) [] 32), (10, .int .i64 49), (46, .bool false)], ⟨L ++ [X0, X1, X2, X3, .rw (.agg 32 (bt fun j => a j || b j)), .rw (.agg 32 (bt b))], hp⟩) := by
  subst hm
  have m1 : L.length + 1 < L.length + 6 := by omega
  have m4 : L.length + 4 < L.length + 6 := by omega
  have m5 : L.length + 5 < L.length + 6 := by omega
  refine loop_runs (fun x : Nat => [(4, .ptr (.loc (L.length + 1)) [] 32), (8, .ptr (.loc (L.length + 4)) [] 32), (9, .ptr (.loc (L.length + 5)) [] 32), (10, .int .i64 x)])
    (fun x => ⟨L ++ [X0, X1, X2, X3, .rw (.agg 32 (bt fun j => if j < x then a j || b j else a j)), .rw (.agg 32 (bt b))], hp⟩) (fun _ => _) (fun x => 49 - x) (fun x => x ≤ 49) 0 ?_ (Nat.zero_le _) rfl (by simp)
  intro i hi
  by_cases d : i < 49
  · left
    have e1 : (i : Int) < 49 := by omega
    have e2 : (0 : Int) ≤ i := by omega
    have e3 : IntKind.i64.wrap ((i : Int) + 1) = (i : Int) + 1 := i64_id (by omega) (by omega)
    have gb := bt_get (g := b) d
    have gi := bt_get (g := fun j => if j < i then a j || b j else a j) d
    have gi' : (if i < i then a i || b i else a i) = a i := if_neg (Nat.lt_irrefl i)
    simp only [gi'] at gi
    have hs := bt_set (fun j => if j < i then a j || b j else a j) (fun j => if j < i + 1 then a j || b j else a j) i (a i || b i) (fun j _ => by
      by_cases hj : j = i
      · subst hj; simp
      · simp only [hj, if_false]
        by_cases h : j < i
        · rw [if_pos h, if_pos (by omega)]
        · rw [if_neg h, if_neg (by omega)])
    refine ⟨i + 1, by omega, by omega, rfl, ?_⟩
    rw [← hs]
    generalize (bt fun j => if j < i then a j || b j else a j) = T at *
    generalize bt b = TB at *
    generalize a i = ai at *
    generalize b i = bi at *
    cases ai
    · simp only [go_sem, b_steadfastref23_Of_0, e1, e2, e3, Int.toNat_natCast, gb, gi, m1, m4, m5, h0, h1, h2, h3]
      rfl
    · simp only [go_sem, b_steadfastref23_Of_0, e1, e2, e3, Int.toNat_natCast, gb, gi, m1, m4, m5, h0, h1, h2, h3]
      rfl
  · right
    have : i = 49 := by omega
    subst this
    have hs : (bt fun j => if j < 49 then a j || b j else a j) = bt fun j => a j || b j := tab_congr fun j hj => by simp [hj]
    rw [hs]
    simp only [go_sem, b_steadfastref23_Of_0]
theorem line_of {l : List Int} (h8 : l.length = 8) (hw : ∀ x ∈ l, 0 ≤ x ∧ x ≤ 18446744073709551615) : ∃ (l0 l5 l6 l7 : Nat) (l1 l2 l3 l4 : Int), l0 < 18446744073709551616 ∧ l5 < 18446744073709551616 ∧ l6 < 18446744073709551616 ∧ l7 < 18446744073709551616 ∧ V.agg 24 (l.map (.int .u64)) = l8V l0 l1 l2 l3 l4 l5 l6 l7 := by
  match l, h8 with
  | [a, b, c, d, e, f, g, h], _ =>
    have ha := hw a (by simp)
    have hf := hw f (by simp)
    have hg := hw g (by simp)
    have hh := hw h (by simp)
    refine ⟨a.toNat, f.toNat, g.toNat, h.toNat, b, c, d, e, by omega, by omega, by omega, by omega, ?_⟩
    simp only [l8V, List.map_cons, List.map_nil, Int.toNat_of_nonneg ha.1, Int.toNat_of_nonneg hf.1, Int.toNat_of_nonneg hg.1, Int.toNat_of_nonneg hh.1]
theorem of_both (W : List Obj) (hW : OkW W) (id : Int) : ∃ B : List Bool, B.length = 49 ∧ (∀ s, rf D f_reach_Of [worldV W, .int .i64 id] s = some (.agg 32 (B.map .bool), s)) ∧ ∀ s, rf D f_steadfastref23_Of [worldV W, .int .i64 id] s = some (.agg 32 (B.map .bool), s) := by
  by_cases c1 : id < 0
  · refine ⟨List.replicate 49 false, by simp, fun s => ?_, fun s => ?_⟩
    · simp only [worldV, List.map_replicate]
      generalize W.map _ = WV at *
      rw [rf_o D_reach_Of rfl]
      simp only [go_sem, c1]
    · simp only [worldV, List.map_replicate]
      generalize W.map _ = WV at *
      rw [rf_o D_steadfastref23_Of rfl]
      simp only [go_sem, c1]
  · by_cases c2 : 49 ≤ id
    · refine ⟨List.replicate 49 false, by simp, fun s => ?_, fun s => ?_⟩
      · simp only [worldV, List.map_replicate]
        generalize W.map _ = WV at *
        rw [rf_o D_reach_Of rfl]
        simp only [go_sem, c1, c2]
      · simp only [worldV, List.map_replicate]
        generalize W.map _ = WV at *
        rw [rf_o D_steadfastref23_Of rfl]
        simp only [go_sem, c1, c2]
    · obtain ⟨i, rfl⟩ : ∃ i : Nat, id = i := ⟨id.toNat, by omega⟩
      have d1 : (i : Int) < 49 := by omega
      have d2 : (0 : Int) ≤ i := by omega
      have hg := objAt_get hW (i := i) (by omega)
      have hmem := objAt_mem hW (i := i) (by omega)
      obtain ⟨l0, l5, l6, l7, l1, l2, l3, l4, k0, k5, k6, k7, hl⟩ := line_of (hW.l8 _ hmem) (hW.words _ hmem)
      have o1 := fun s => rf_regs_Of l0 l1 l2 l3 l4 l5 l6 l7 k0 k7 s
      have o2 := fun s => rf_r14Of l0 l1 l2 l3 l4 l5 l6 l7 k0 k7 s
      simp only [Obj.v] at hg
      rw [hl] at hg
      by_cases hk : (objAt W i).kind = 3
      · by_cases ht : thrR l0 l7 = true
        · rw [ht] at o1 o2
          simp only [if_true, thrOf, Thr.v] at o1 o2
          obtain ⟨A, hA, fa⟩ := rf_From W hW l5 (by omega) (by omega)
          obtain ⟨A', hA', ra⟩ := rf_r23From W hW l5 (by omega) (by omega)
          obtain ⟨B, hB, fb⟩ := rf_From W hW l6 (by omega) (by omega)
          obtain ⟨B', hB', rb⟩ := rf_r23From W hW l6 (by omega) (by omega)
          obtain rfl := from_unique hA hA'
          obtain rfl := from_unique hB hB'
          simp only [bt_of hA.len, bt_of hB.len] at fa fb ra rb
          refine ⟨bl fun j => A.getD j false || B.getD j false, by simp [bl], fun s => ?_, fun s => ?_⟩
          · rw [bl_map]
            have hlp := of_loop (fun j => A.getD j false) (fun j => B.getD j false) (.rw (worldV W)) (.rw (.agg 32 (List.replicate 49 (.bool false)))) (.rw (.agg 64 [.int .i64 l0, .agg 62 [.int .u64 l1, .int .u64 l2, .int .u64 l3, .int .u64 l4], .int .u64 l5, .int .u64 l6, .int .i64 (l7 % 16 : Nat), .int .i64 (l7 / 16 % 65536 : Nat), .int .i64 (l7 / 1048576 % 16 : Nat), .int .i64 (l7 / 16777216 % 2 : Nat)])) (m := s.loc.length) rfl rfl rfl s.loc s.hp rfl
            rw [← bt_false] at hlp
            have hfa : V.flats (bt fun j => A.getD j false) = true := by rw [← bl_map]; exact flats_bools
            have hfb : V.flats (bt fun j => B.getD j false) = true := by rw [← bl_map]; exact flats_bools
            generalize (bt fun j => A.getD j false || B.getD j false) = TR at *
            generalize (bt fun j => A.getD j false) = TA at *
            generalize (bt fun j => B.getD j false) = TB at *
            generalize l7 % 16 = q1 at *
            generalize l7 / 16 % 65536 = q2 at *
            generalize l7 / 1048576 % 16 = q3 at *
            generalize l7 / 16777216 % 2 = q4 at *
            simp only [worldV, hk] at *
            generalize W.map _ = WV at *
            generalize l8V l0 l1 l2 l3 l4 l5 l6 l7 = LV at *
            rw [rf_o D_reach_Of rfl]
            simp only [go_sem, c1, c2, d1, d2, Int.toNat_natCast, hg, o1, fa, fb, hfa, hfb]
            simp only [go_sem, hlp]
          · rw [bl_map]
            have hlp := rof_loop (fun j => A.getD j false) (fun j => B.getD j false) (.rw (worldV W)) (.rw (.agg 32 (List.replicate 49 (.bool false)))) (.rw (.agg 32 (List.replicate 49 (.bool false)))) (.rw (.agg 64 [.int .i64 l0, .agg 62 [.int .u64 l1, .int .u64 l2, .int .u64 l3, .int .u64 l4], .int .u64 l5, .int .u64 l6, .int .i64 (l7 % 16 : Nat), .int .i64 (l7 / 16 % 65536 : Nat), .int .i64 (l7 / 1048576 % 16 : Nat), .int .i64 (l7 / 16777216 % 2 : Nat)])) (m := s.loc.length) rfl rfl rfl rfl s.loc s.hp rfl
            generalize (bt fun j => A.getD j false || B.getD j false) = TR at *
            generalize (bt fun j => A.getD j false) = TA at *
            generalize (bt fun j => B.getD j false) = TB at *
            generalize l7 % 16 = q1 at *
            generalize l7 / 16 % 65536 = q2 at *
            generalize l7 / 1048576 % 16 = q3 at *
            generalize l7 / 16777216 % 2 = q4 at *
            simp only [worldV, hk] at *
            generalize W.map _ = WV at *
            generalize l8V l0 l1 l2 l3 l4 l5 l6 l7 = LV at *
            rw [rf_o D_steadfastref23_Of rfl]
            simp only [go_sem, c1, c2, d1, d2, Int.toNat_natCast, hg, o2, ra, rb]
            simp only [go_sem, hlp]
        · rw [if_neg ht] at o1 o2
          simp only [thrZ, Thr.v] at o1 o2
          refine ⟨List.replicate 49 false, by simp, fun s => ?_, fun s => ?_⟩
          · simp only [worldV, hk, List.map_replicate] at *
            generalize W.map _ = WV at *
            generalize l8V l0 l1 l2 l3 l4 l5 l6 l7 = LV at *
            rw [rf_o D_reach_Of rfl]
            simp only [go_sem, c1, c2, d1, d2, Int.toNat_natCast, hg, o1]
          · simp only [worldV, hk, List.map_replicate] at *
            generalize W.map _ = WV at *
            generalize l8V l0 l1 l2 l3 l4 l5 l6 l7 = LV at *
            rw [rf_o D_steadfastref23_Of rfl]
            simp only [go_sem, c1, c2, d1, d2, Int.toNat_natCast, hg, o2]
      · refine ⟨List.replicate 49 false, by simp, fun s => ?_, fun s => ?_⟩
        · simp only [worldV, List.map_replicate] at *
          generalize W.map _ = WV at *
          generalize (objAt W i).kind = kd at *
          generalize l8V l0 l1 l2 l3 l4 l5 l6 l7 = LV at *
          rw [rf_o D_reach_Of rfl]
          simp only [go_sem, c1, c2, d1, d2, Int.toNat_natCast, hg, hk]
        · simp only [worldV, List.map_replicate] at *
          generalize W.map _ = WV at *
          generalize (objAt W i).kind = kd at *
          generalize l8V l0 l1 l2 l3 l4 l5 l6 l7 = LV at *
          rw [rf_o D_steadfastref23_Of rfl]
          simp only [go_sem, c1, c2, d1, d2, Int.toNat_natCast, hg, hk]
end Go.Proofs.Ytpbpgbedkmbfkaa
namespace Go.Proofs.Ytpbpgbedkmbfkaa
open Go.Ab

theorem rf_shown (s : St) : rf D f_steadfastlaw23_shown [] s = some (.bool true, s) :=
  rf_anywhere0 (G := []) (by simp) D_clos rfl rfl ev_shown (List.nil_prefix)
theorem veqs_bools : ∀ {A B : List Bool}, A.length = B.length → veqs (A.map .bool) (B.map .bool) = some (decide (A = B))
  | [], [], _ => rfl
  | a :: A, b :: B, h => by
    have ih := veqs_bools (A := A) (B := B) (by simpa using h)
    simp only [List.map_cons, veqs, veq]
    by_cases hab : a = b
    · subst hab; simp [ih]
    · have : (a == b) = false := by simpa using hab
      simp [this, hab]
theorem eqv_bools {A B : List Bool} (h : A.length = B.length) : eqv false 32 (.agg 32 (A.map .bool)) (.agg 32 (B.map .bool)) = some (.bool (decide (A = B))) := by
  simp [eqv, veqT, veq, V.tag, veqs_bools h, obind_some]
theorem law_ReachFinds : ∀ hp vs, Sh.FitsL hp [(.sl 28 (.st 26 [(.int .i64), (.int .i64), (.arr 24 8 (.int .u64))])), (.int .u64), (.int .i64)] vs → ∃ s', rf D f_steadfastlaw23_ReachFinds vs ⟨[], hp⟩ = some (.bool true, s') := by
  intro hp vs hf
  obtain ⟨v, y, z, rfl, h1, ⟨c, rfl, hc0, hc1⟩, ⟨id, rfl, _, _⟩⟩ := fits3 hf
  obtain ⟨W, hW, hw⟩ := rf_world h1
  have hc0' : (0 : Int) ≤ c := hc0
  have hc1' : c ≤ 18446744073709551615 := hc1
  obtain ⟨A, hA, fa⟩ := rf_From W hW.ok c hc0' hc1'
  obtain ⟨A', hA', ra⟩ := rf_r23From W hW.ok c hc0' hc1'
  obtain rfl := from_unique hA hA'
  obtain ⟨B, hB, fb, rb⟩ := of_both W hW.ok id
  have hw' := fun L => hw ⟨L, hp⟩ rfl
  have n1 := fun s => rf_Names W hW.ok c hc0' hc1' s
  have n2 := fun s => rf_r23Names W hW.ok c hc0' hc1' s
  have hsh := fun s => rf_shown s
  have e1 := eqv_bools (A := A) (B := A) rfl
  have e2 := eqv_bools (A := B) (B := B) rfl
  rw [decide_eq_true rfl] at e1 e2
  have e1' : veqs (A.map .bool) (A.map .bool) = some true := by rw [veqs_bools rfl, decide_eq_true rfl]
  have e2' : veqs (B.map .bool) (B.map .bool) = some true := by rw [veqs_bools rfl, decide_eq_true rfl]
  have g1 := flats_bools (l := A)
  have g2 := flats_bools (l := B)
  refine ⟨⟨[], hp⟩, ?_⟩
  simp only [worldV] at *
  generalize W.map Obj.v = WV at *
  generalize A.map V.bool = TA at *
  generalize B.map V.bool = TB at *
  generalize names W c = nm at *
  rw [rf_o D_steadfastlaw23_ReachFinds rfl]
  simp only [go_sem, hsh, hw', n1, n2]
  simp only [go_sem, fa, ra, fb, rb, g1, g2, e1', e2']
end Go.Proofs.Ytpbpgbedkmbfkaa
