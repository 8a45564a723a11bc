/-
  Ab21: what comes in: arguments that read as data stand for abstract values over a heap that is read alone.
-/
import Derived.Test.YtpbpgbedkmbfkaaAb20
import Derived.ProofKit
namespace Go.Ab

/-- What an argument looks like. -/
inductive Sh where
  | bool
  | int (k : IntKind)
  | str
  | st (t : Nat) (l : List Sh)
  | arr (t n : Nat) (e : Sh)
  | sl (r : Nat) (e : Sh)
  deriving Inhabited
def Sh.tag : Sh → Nat
  | .bool => 0 | .int k => itag k | .str => 2 | .st t _ => t | .arr t _ _ => t | .sl _ _ => 1

mutual
/-- A value of that look, over a heap. -/
def Sh.Fits (hp : List Blk) : Sh → V → Prop
  | .bool, v => ∃ b, v = .bool b
  | .int k, v => ∃ n, v = .int k n ∧ k.min ≤ n ∧ n ≤ k.max
  | .str, v => ∃ s, v = .str s ∧ s.size ≤ maxLen
  | .st t l, v => ∃ vs, v = .agg t vs ∧ Sh.FitsL hp l vs
  | .arr t n e, v => ∃ vs, v = .agg t vs ∧ vs.length = n ∧ ∀ x ∈ vs, e.Fits hp x
  | .sl r e, v => v = .nils ∨ ∃ i l c, v = .sl (.hp i) [] 0 l.length (some c) e.tag ∧ l.length ≤ c ∧ c ≤ maxLen ∧ (l = [] ∨ hp[i]? = some (.ro (.agg r l))) ∧ ∀ x ∈ l, e.Fits hp x
def Sh.FitsL (hp : List Blk) : List Sh → List V → Prop
  | [], [] => True
  | h :: l, v :: m => h.Fits hp v ∧ Sh.FitsL hp l m
  | _, _ => False
end

mutual
theorem Sh.Fits.mono {hp hp' : List Blk} (h : hp <+: hp') : ∀ {s : Sh} {v : V}, s.Fits hp v → s.Fits hp' v
  | .bool, _, hf => hf
  | .int _, _, hf => hf
  | .str, _, hf => hf
  | .st t l, v, hf => by
    obtain ⟨vs, rfl, hl⟩ := hf
    exact ⟨vs, rfl, Sh.FitsL.mono h hl⟩
  | .arr t n e, v, hf => by
    obtain ⟨vs, rfl, hn, hl⟩ := hf
    exact ⟨vs, rfl, hn, fun x hx => Sh.Fits.mono h (hl x hx)⟩
  | .sl r e, v, hf => by
    rcases hf with hf | ⟨i, l, c, rfl, h1, h2, h3, h4⟩
    · exact .inl hf
    · exact .inr ⟨i, l, c, rfl, h1, h2, h3.imp id (fun h3 => prefix_get h h3), fun x hx => Sh.Fits.mono h (h4 x hx)⟩
theorem Sh.FitsL.mono {hp hp' : List Blk} (h : hp <+: hp') : ∀ {l : List Sh} {m : List V}, Sh.FitsL hp l m → Sh.FitsL hp' l m
  | [], [], _ => trivial
  | _ :: _, _ :: _, hf => ⟨Sh.Fits.mono h hf.1, Sh.FitsL.mono h hf.2⟩
  | [], _ :: _, hf => hf.elim
  | _ :: _, [], hf => hf.elim
end

mutual
/-- Does a type look so? -/
def shOk (c : Cfg) : Sh → Nat → Bool
  | .bool, t => decide (tg c.tm t = some 0) && (match c.P.underlying t with | some .bool => true | _ => false)
  | .int k, t => decide (tg c.tm t = some (itag k)) && (match c.P.underlying t with | some (.int k') => decide (k = k') | _ => false)
  | .str, t => decide (tg c.tm t = some 2) && (match c.P.underlying t with | some .string => true | _ => false)
  | .st q l, t => decide (tg c.tm t = some q) && decide (c.T.info q = some (.st (l.map Sh.tag))) && (match c.P.underlying t with | some (.struct fs) => shOkL c l (fs.toList.map (·.type)) | _ => false)
  | .arr q n e, t => decide (tg c.tm t = some q) && decide (c.T.info q = some (.arr n e.tag)) && (match c.P.underlying t with | some (.array m u) => decide (n = m) && shOk c e u | _ => false)
  | .sl r e, t => decide (tg c.tm t = some 1) && decide (c.T.info r = some (.row e.tag)) && (match c.P.underlying t with | some (.slice u) => shOk c e u | _ => false)
def shOkL (c : Cfg) : List Sh → List Nat → Bool
  | [], [] => true
  | h :: l, t :: m => shOk c h t && shOkL c l m
  | _, _ => false
end

/-- A heap that is read alone. -/
structure Inv (T : Tab) (w : World) (B : BM) (hp : List Blk) : Prop where
  sr : SR T w.heap.size B ⟨[], hp⟩ w
  ro : ∀ v, Blk.rw v ∉ hp

theorem Inv.loc {T : Tab} {w : World} {B : BM} {hp : List Blk} (h : Inv T w B hp) : B.loc = [] := by
  have := h.sr.lenL
  exact List.length_eq_zero_iff.1 this

/-- One more block, that is there, or dead. -/
theorem Inv.push {T : Tab} {w : World} {B : BM} {hp : List Blk} (h : Inv T w B hp) {ar : Addr × Nat} {b : Blk} (hb : BlkR T B w ar b) (hrw : ∀ v, b ≠ .rw v) : Inv T w ⟨B.loc, B.hp ++ [ar]⟩ (hp ++ [b]) := by
  have hext : Ext B ⟨B.loc, B.hp ++ [ar]⟩ := ⟨List.prefix_rfl, List.prefix_append _ _⟩
  have hloc := h.loc
  have hlen : B.hp.length = hp.length := h.sr.lenH
  have norw : ∀ {a : Loc} {v : V}, (⟨[], hp ++ [b]⟩ : St).at a ≠ some (.rw v) := by
    intro a v ha
    cases a with
    | loc i => simp [St.at] at ha
    | hp i =>
      have := List.mem_of_getElem? (show (hp ++ [b])[i]? = some (.rw v) from ha)
      rcases List.mem_append.1 this with h1 | h1
      · exact h.ro v h1
      · exact hrw v (List.mem_singleton.1 h1).symm
  refine ⟨⟨h.sr.lenL, by simp [hlen], ?_, ?_, ?_, ?_⟩, fun v hv => ?_⟩
  · intro a b' ar' hs hB
    cases a with
    | loc i => simp [St.at] at hs
    | hp i =>
      simp only [St.at] at hs
      simp only [BM.at] at hB
      rcases getElem?_snoc hs with h1 | ⟨h1, h2⟩
      · have hi : i < hp.length := (List.getElem?_eq_some_iff.1 h1).1
        rw [List.getElem?_append_left (by omega)] at hB
        exact (h.sr.blk (.hp i) b' ar' h1 hB).ext hext
      · subst h1; subst h2
        rw [← hlen, List.getElem?_concat_length] at hB
        cases hB
        exact hb.ext hext
  · intro a a' ar ar' v b' hs; exact absurd hs norw
  · intro a v ar hs; exact absurd hs norw
  · intro i b' hi
    rcases getElem?_snoc hi with h1 | ⟨h1, h2⟩
    · exact h.sr.hpv i b' h1
    · subst h2
      cases b' with
      | dead => rfl
      | ro v =>
        obtain ⟨_, _, _, _, _, cs, _, h4, _⟩ := hb
        have := CR_locLt h4
        rw [hloc] at this
        exact this
      | rw v => exact absurd rfl (hrw v)
  · rcases List.mem_append.1 hv with h1 | h1
    · exact h.ro v h1
    · exact hrw v (List.mem_singleton.1 h1).symm


/-- What has been opened: more of the heap is known, and values over it. -/
def Opened (c : Cfg) (w : World) (B : BM) (hp : List Blk) (K : BM → List Blk → Prop) : Prop :=
  ∃ B' hp', Inv c.T w B' hp' ∧ Ext B B' ∧ hp <+: hp' ∧ K B' hp'

section opening
variable {c : Cfg} (hT : tabOk c.T = true) (hm : tmOk c = true) {H : Type} {enc : TypeId × Value → H} {w : World}
include hT hm

def OpenAt (c : Cfg) {H : Type} (enc : TypeId × Value → H) (w : World) (fuel : Nat) : Prop :=
  ∀ (sh : Sh) (t : TypeId) (cs : List Value) (r : DataW H × List MemPlace), shOk c sh t = true → DataW.trod enc c.P w 0 (fun _ => true) true fuel t cs = some r → ∀ B hp, Inv c.T w B hp →
    Opened c w B hp fun B' hp' => ∃ v, v.wf c.T ∧ v.tag = sh.tag ∧ CR c.T B' v cs ∧ sh.Fits hp' v

omit hT hm in
theorem shOk_tg {sh : Sh} {t : Nat} (h : shOk c sh t = true) : tg c.tm t = some sh.tag := by
  cases sh <;> simp only [shOk, Bool.and_eq_true, decide_eq_true_eq] at h <;> simp only [Sh.tag]
  · exact h.1
  · exact h.1
  · exact h.1
  · exact h.1.1
  · exact h.1.1
  · exact h.1.1
theorem cellsOf_tg {t q : Nat} (h : tg c.tm t = some q) : c.P.cellsOf t = c.T.size q := by
  obtain ⟨i, d, hty⟩ := ty_of hT hm h
  simp [Program.cellsOf, hty.info, hty.size]

theorem open_fields {fuel : Nat} (ih : OpenAt c enc w fuel) : ∀ (l : List Sh) (fs : List Field) (o : Nat) (cs : List Value), shOkL c l (fs.map (·.type)) = true →
    (∀ j f, fs[j]? = some f → f.offset = o + c.T.sum ((l.map Sh.tag).take j)) → cs.length = o + c.T.sum (l.map Sh.tag) →
    (∀ f ∈ fs, ∃ r, DataW.trod enc c.P w 0 (fun _ => true) true fuel f.type ((cs.drop f.offset).take (c.P.cellsOf f.type)) = some r) → ∀ B hp, Inv c.T w B hp →
    Opened c w B hp fun B' hp' => ∃ vs, V.wfs c.T vs ∧ vs.map V.tag = l.map Sh.tag ∧ CRs c.T B' vs (cs.drop o) ∧ Sh.FitsL hp' l vs
  | [], [], o, cs, _, _, hlen, _, B, hp, hI => by
    refine ⟨B, hp, hI, Ext.refl _, List.prefix_rfl, [], trivial, rfl, ?_, trivial⟩
    simp only [CRs]
    rw [List.drop_eq_nil_iff]
    simp only [List.map_nil, Tab.sum] at hlen
    omega
  | h :: l, f :: fs, o, cs, hk, hoff, hlen, htr, B, hp, hI => by
    simp only [List.map_cons, shOkL, Bool.and_eq_true] at hk
    have h0 := hoff 0 f rfl
    simp only [List.map_cons, List.take_zero, Tab.sum, Nat.add_zero] at h0
    obtain ⟨r, hr⟩ := htr f List.mem_cons_self
    have htg := shOk_tg hk.1
    rw [h0, cellsOf_tg hT hm htg] at hr
    obtain ⟨B1, hp1, hI1, he1, hx1, v, hv1, hv2, hv3, hv4⟩ := ih h f.type _ r hk.1 hr B hp hI
    simp only [List.map_cons, Tab.sum] at hlen
    obtain ⟨B2, hp2, hI2, he2, hx2, vs, g1, g2, g3, g4⟩ := open_fields ih l fs (o + c.T.size h.tag) cs hk.2 (fun j f hf => by
      have := hoff (j + 1) f (by simpa using hf)
      simp only [List.map_cons, List.take_succ_cons, Tab.sum] at this
      omega) (by omega) (fun f hf => htr f (List.mem_cons_of_mem _ hf)) B1 hp1 hI1
    refine ⟨B2, hp2, hI2, he1.trans he2, hx1.trans hx2, v :: vs, ⟨hv1, g1⟩, by simp [hv2, g2], ?_, Sh.Fits.mono hx2 hv4, g4⟩
    simp only [CRs]
    refine ⟨_, _, ?_, CR_move (fun _ _ => he2.at) hv3, g3⟩
    rw [← List.drop_drop, List.take_append_drop]
  | [], _ :: _, _, _, hk, _, _, _, _, _, _ => by simp [shOkL] at hk
  | _ :: _, [], _, _, hk, _, _, _, _, _, _ => by simp [shOkL] at hk

theorem open_elems {fuel : Nat} (ih : OpenAt c enc w fuel) {sh : Sh} {e : TypeId} (hk : shOk c sh e = true) : ∀ (m o : Nat) (cs : List Value), cs.length = (o + m) * c.T.size sh.tag →
    (∀ i, o ≤ i → i < o + m → ∃ r, DataW.trod enc c.P w 0 (fun _ => true) true fuel e ((cs.drop (i * c.P.cellsOf e)).take (c.P.cellsOf e)) = some r) → ∀ B hp, Inv c.T w B hp →
    Opened c w B hp fun B' hp' => ∃ vs, vs.length = m ∧ V.wfs c.T vs ∧ (∀ v ∈ vs, v.tag = sh.tag) ∧ CRs c.T B' vs (cs.drop (o * c.T.size sh.tag)) ∧ ∀ v ∈ vs, sh.Fits hp' v
  | 0, o, cs, hlen, _, B, hp, hI => by
    refine ⟨B, hp, hI, Ext.refl _, List.prefix_rfl, [], rfl, trivial, by simp, ?_, by simp⟩
    simp only [CRs]
    rw [List.drop_eq_nil_iff]
    rw [Nat.add_zero] at hlen
    omega
  | m + 1, o, cs, hlen, htr, B, hp, hI => by
    have htg := shOk_tg hk
    have hsz := cellsOf_tg hT hm htg
    obtain ⟨r, hr⟩ := htr o (Nat.le_refl _) (by omega)
    rw [hsz] at hr
    obtain ⟨B1, hp1, hI1, he1, hx1, v, hv1, hv2, hv3, hv4⟩ := ih sh e _ r hk hr B hp hI
    obtain ⟨B2, hp2, hI2, he2, hx2, vs, g0, g1, g2, g3, g4⟩ := open_elems ih hk m (o + 1) cs (by rw [hlen]; congr 1; omega) (fun i h1 h2 => htr i (by omega) (by omega)) B1 hp1 hI1
    refine ⟨B2, hp2, hI2, he1.trans he2, hx1.trans hx2, v :: vs, by simp [g0], ⟨hv1, g1⟩, ?_, ?_, ?_⟩
    · intro u hu
      rcases List.mem_cons.1 hu with rfl | hu
      · exact hv2
      · exact g2 u hu
    · simp only [CRs]
      refine ⟨_, _, ?_, CR_move (fun _ _ => he2.at) hv3, g3⟩
      rw [Nat.succ_mul, ← List.drop_drop, List.take_append_drop]
    · intro u hu
      rcases List.mem_cons.1 hu with rfl | hu
      · exact Sh.Fits.mono hx2 hv4
      · exact g4 u hu

omit hT hm in
theorem cells?_get {a : Addr} {n : Nat} {l : List Value} (h : w.cells? 0 a n = some l) : l.length = n ∧ ∀ (j : Nat) (v : Value), l[j]? = some v → w.cell? (a.add j) = some v := by
  unfold World.cells? at h
  rw [if_pos (Nat.zero_le _)] at h
  have key : ∀ (m : List Nat) (l : List Value), m.mapM (fun i => w.cell? (a.add i)) = some l → l.length = m.length ∧ ∀ (j : Nat) (v : Value), l[j]? = some v → ∃ i, m[j]? = some i ∧ w.cell? (a.add i) = some v := by
    intro m
    induction m with
    | nil => intro l hl; simp only [List.mapM_nil, Option.pure_def, Option.some.injEq] at hl; subst hl; simp
    | cons i m ih =>
      intro l hl
      rw [List.mapM_cons] at hl
      cases h1 : w.cell? (a.add i) with
      | none => rw [h1] at hl; simp at hl
      | some x =>
        cases h2 : m.mapM (fun i => w.cell? (a.add i)) with
        | none => rw [h1, h2] at hl; simp at hl
        | some l' =>
          rw [h1, h2] at hl
          simp at hl
          subst hl
          obtain ⟨g1, g2⟩ := ih l' h2
          refine ⟨by simp [g1], fun j v hj => ?_⟩
          cases j with
          | zero => simp only [List.getElem?_cons_zero, Option.some.injEq] at hj; subst hj; exact ⟨i, rfl, h1⟩
          | succ j => simpa using g2 j v (by simpa using hj)
  obtain ⟨g1, g2⟩ := key _ _ h
  refine ⟨by simpa using g1, fun j v hj => ?_⟩
  obtain ⟨i, h1, h2⟩ := g2 j v hj
  have hj' := (List.getElem?_eq_some_iff.1 h1).1
  rw [List.getElem?_range (by simpa using hj')] at h1
  cases h1
  exact h2

theorem open_slots {fuel : Nat} (ih : OpenAt c enc w fuel) {sh : Sh} {e : TypeId} (hk : shOk c sh e = true) {b of : Nat} : ∀ (m o : Nat),
    (∀ i, o ≤ i → i < o + m → ∃ r, (w.cells? 0 ((⟨b, of, none⟩ : Addr).add (i * c.P.cellsOf e)) (c.P.cellsOf e)).bind (DataW.trod enc c.P w 0 (fun _ => true) true fuel e) = some r) → ∀ B hp, Inv c.T w B hp →
    Opened c w B hp fun B' hp' => ∃ vs cs, vs.length = m ∧ V.wfs c.T vs ∧ (∀ v ∈ vs, v.tag = sh.tag) ∧ CRs c.T B' vs cs ∧ cs.length = m * c.T.size sh.tag ∧ w.rangeAt b (of + o * c.T.size sh.tag) cs ∧ ∀ v ∈ vs, sh.Fits hp' v
  | 0, o, _, B, hp, hI => ⟨B, hp, hI, Ext.refl _, List.prefix_rfl, [], [], rfl, trivial, by simp, rfl, by simp, fun j v hv => by simp at hv, by simp⟩
  | m + 1, o, htr, B, hp, hI => by
    have htg := shOk_tg hk
    have hsz := cellsOf_tg hT hm htg
    obtain ⟨r, hr⟩ := htr o (Nat.le_refl _) (by omega)
    rw [hsz] at hr
    cases hc : w.cells? 0 ((⟨b, of, none⟩ : Addr).add (o * c.T.size sh.tag)) (c.T.size sh.tag) with
    | none => rw [hc] at hr; cases hr
    | some pc =>
      rw [hc] at hr
      simp only [Option.bind_some] at hr
      obtain ⟨q1, q2⟩ := cells?_get hc
      obtain ⟨B1, hp1, hI1, he1, hx1, v, hv1, hv2, hv3, hv4⟩ := ih sh e _ r hk hr B hp hI
      obtain ⟨B2, hp2, hI2, he2, hx2, vs, cs, g0, g1, g2, g3, g5, g6, g4⟩ := open_slots ih hk m (o + 1) (fun i h1 h2 => htr i (by omega) (by omega)) B1 hp1 hI1
      refine ⟨B2, hp2, hI2, he1.trans he2, hx1.trans hx2, v :: vs, pc ++ cs, by simp [g0], ⟨hv1, g1⟩, ?_, ?_, ?_, ?_, ?_⟩
      · intro u hu
        rcases List.mem_cons.1 hu with rfl | hu
        · exact hv2
        · exact g2 u hu
      · simp only [CRs]
        exact ⟨_, _, rfl, CR_move (fun _ _ => he2.at) hv3, g3⟩
      · rw [List.length_append, q1, g5, Nat.succ_mul]; omega
      · intro j u hu
        by_cases hj : j < pc.length
        · rw [List.getElem?_append_left hj] at hu
          have := q2 j u hu
          rw [Addr.add_mid, Addr.add_mid] at this
          exact this
        · rw [List.getElem?_append_right (by omega)] at hu
          have := g6 (j - pc.length) u hu
          rw [← this, q1, Nat.succ_mul]
          congr 2
          omega
      · intro u hu
        rcases List.mem_cons.1 hu with rfl | hu
        · exact Sh.Fits.mono hx2 hv4
        · exact g4 u hu

omit hT hm in
theorem mapM_some {α β : Type} {f : α → Option β} : ∀ {l : List α} {m : List β}, l.mapM f = some m → ∀ x ∈ l, ∃ r, f x = some r
  | [], _, _, x, hx => by simp at hx
  | y :: l, m, h, x, hx => by
    rw [List.mapM_cons] at h
    cases h1 : f y with
    | none => rw [h1] at h; simp at h
    | some r =>
      cases h2 : l.mapM f with
      | none => rw [h1, h2] at h; simp at h
      | some m' =>
        rcases List.mem_cons.1 hx with rfl | hx
        · exact ⟨r, h1⟩
        · exact mapM_some h2 x hx

omit hT hm in
theorem trod_bool_inv {fuel t : Nat} {cs : List Value} {r : DataW H × List MemPlace} (hu : c.P.underlying t = some .bool) (h : DataW.trod enc c.P w 0 (fun _ => true) true (fuel + 1) t cs = some r) : ∃ b, cs = [.bool b] := by
  simp only [DataW.trod, hu] at h
  split at h <;> first | exact ⟨_, rfl⟩ | (simp_all; done)
omit hT hm in
theorem trod_int_inv {fuel t : Nat} {k : IntKind} {cs : List Value} {r : DataW H × List MemPlace} (hu : c.P.underlying t = some (.int k)) (h : DataW.trod enc c.P w 0 (fun _ => true) true (fuel + 1) t cs = some r) : ∃ n, cs = [.int k n] ∧ (Lit.int k n).wf = true := by
  simp only [DataW.trod, hu] at h
  split at h
  all_goals (simp_all; done)
omit hT hm in
theorem trod_str_inv {fuel t : Nat} {cs : List Value} {r : DataW H × List MemPlace} (hu : c.P.underlying t = some .string) (h : DataW.trod enc c.P w 0 (fun _ => true) true (fuel + 1) t cs = some r) : ∃ s, cs = [.string s] ∧ s.size ≤ maxLen := by
  simp only [DataW.trod, hu] at h
  split at h
  all_goals (simp_all; done)
omit hT hm in
theorem trod_sl_inv {fuel t u : Nat} {cs : List Value} {r : DataW H × List MemPlace} (hu : c.P.underlying t = some (.slice u)) (h : DataW.trod enc c.P w 0 (fun _ => true) true (fuel + 1) t cs = some r) :
    cs = [.slice none 0 0] ∨ ∃ a len cap, cs = [.slice (some a) len cap] ∧ len ≤ cap ∧ cap ≤ maxLen ∧ ∀ i, i < cap → ∃ r, (w.cells? 0 (a.add (i * c.P.cellsOf u)) (c.P.cellsOf u)).bind (DataW.trod enc c.P w 0 (fun _ => true) true fuel u) = some r := by
  simp only [DataW.trod, hu] at h
  split at h
  all_goals try (simp_all; done)
  rename_i a len cap h1
  simp only [Option.some.injEq, TypeDesc.slice.injEq] at h1
  subst h1
  right
  refine ⟨a, len, cap, rfl, ?_⟩
  split at h
  · rename_i hle
    obtain ⟨_, hlc, hcm⟩ := hle
    refine ⟨hlc, hcm, ?_⟩
    cases hm1 : (List.range len).mapM (fun i => (w.cells? 0 (a.add (i * c.P.cellsOf u)) (c.P.cellsOf u)).bind (DataW.trod enc c.P w 0 (fun _ => true) true fuel u)) with
    | none => rw [hm1] at h; cases h
    | some xs =>
      rw [hm1] at h
      simp only [Option.bind_some, if_true] at h
      cases hm2 : (List.range (cap - len)).mapM (fun j => (w.cells? 0 (a.add ((len + j) * c.P.cellsOf u)) (c.P.cellsOf u)).bind (DataW.trod enc c.P w 0 (fun _ => true) true fuel u)) with
      | none => rw [hm2] at h; cases h
      | some ys =>
        intro i hi
        by_cases h1 : i < len
        · exact mapM_some hm1 i (List.mem_range.2 h1)
        · have := mapM_some hm2 (i - len) (List.mem_range.2 (by omega))
          rw [show len + (i - len) = i by omega] at this
          exact this
  · cases h

theorem open_trod : ∀ fuel, OpenAt c enc w fuel := by
  intro fuel
  induction fuel with
  | zero => intro sh t cs r _ h; cases h
  | succ fuel ih =>
    intro sh t cs r hk h B hp hI
    have htg := shOk_tg hk
    have hsz := cellsOf_tg hT hm htg
    obtain ⟨i, d, hty⟩ := ty_of hT hm htg
    cases sh with
    | bool =>
      simp only [shOk, Bool.and_eq_true] at hk
      obtain ⟨_, hk⟩ := hk
      split at hk
      · rename_i hu
        obtain ⟨b, rfl⟩ := trod_bool_inv hu h
        exact ⟨B, hp, hI, Ext.refl _, List.prefix_rfl, .bool b, trivial, rfl, rfl, b, rfl⟩
      · cases hk
    | int k =>
      simp only [shOk, Bool.and_eq_true] at hk
      obtain ⟨_, hk⟩ := hk
      split at hk
      · rename_i k' hu
        simp only [decide_eq_true_eq] at hk
        subst hk
        obtain ⟨n, rfl, hn⟩ := trod_int_inv hu h
        simp only [Lit.wf, Bool.and_eq_true, decide_eq_true_eq] at hn
        exact ⟨B, hp, hI, Ext.refl _, List.prefix_rfl, .int k n, trivial, rfl, rfl, n, rfl, hn.1, hn.2⟩
      · cases hk
    | str =>
      simp only [shOk, Bool.and_eq_true] at hk
      obtain ⟨_, hk⟩ := hk
      split at hk
      · rename_i hu
        obtain ⟨s, rfl, hs⟩ := trod_str_inv hu h
        exact ⟨B, hp, hI, Ext.refl _, List.prefix_rfl, .str s, trivial, rfl, rfl, s, rfl, hs⟩
      · cases hk
    | st q l =>
      simp only [shOk, Bool.and_eq_true, decide_eq_true_eq] at hk
      obtain ⟨⟨_, hinfo⟩, hk⟩ := hk
      split at hk
      · rename_i fs hu
        obtain ⟨fs', hd, hlen, _, hfs⟩ := tyStruct hty hinfo
        have hdd : d = .struct fs := by have := hty.under; rw [hu] at this; exact (Option.some.inj this).symm
        have hff : fs' = fs := by rw [hdd] at hd; cases hd; rfl
        subst hff
        simp only [DataW.trod, hu] at h
        split at h
        · rename_i hcl
          cases hmm : fs'.toList.mapM (fun f => DataW.trod enc c.P w 0 (fun _ => true) true fuel f.type ((cs.drop f.offset).take (c.P.cellsOf f.type))) with
          | none => rw [hmm] at h; cases h
          | some xs =>
            have hsum : c.T.size q = c.T.sum (l.map Sh.tag) := (stOk hT hinfo).size
            obtain ⟨B', hp', g1, g2, g3, vs, g4, g5, g6, g7⟩ := open_fields hT hm ih l fs'.toList 0 cs hk (fun j f hf => by
              obtain ⟨u, e1, e2, _⟩ := hfs j f (by simpa using hf)
              rw [e2, Nat.zero_add]) (by rw [hcl, hsz]; show c.T.size q = _; rw [hsum, Nat.zero_add]) (fun f hf => mapM_some hmm f hf) B hp hI
            refine ⟨B', hp', g1, g2, g3, .agg q vs, ?_, rfl, ?_, vs, rfl, g7⟩
            · simp only [V.wf]
              refine ⟨?_, g4⟩
              unfold aggOk
              rw [hinfo]
              exact g5
            · simp only [CR]
              simpa using g6
        · cases h
      · cases hk
    | arr q n e =>
      simp only [shOk, Bool.and_eq_true, decide_eq_true_eq] at hk
      obtain ⟨⟨_, hinfo⟩, hk⟩ := hk
      split at hk
      · rename_i m u hu
        simp only [Bool.and_eq_true, decide_eq_true_eq] at hk
        obtain ⟨rfl, hk⟩ := hk
        simp only [DataW.trod, hu] at h
        split at h
        · rename_i hcl
          cases hmm : (List.range n).mapM (fun i => DataW.trod enc c.P w 0 (fun _ => true) true fuel u ((cs.drop (i * c.P.cellsOf u)).take (c.P.cellsOf u))) with
          | none => rw [hmm] at h; cases h
          | some xs =>
            have hsum : c.T.size q = n * c.T.size e.tag := (arrOk hT hinfo).size
            obtain ⟨B', hp', g1, g2, g3, vs, g0, g4, g5, g6, g7⟩ := open_elems hT hm ih hk n 0 cs (by rw [hcl, hsz]; show c.T.size q = _; rw [hsum, Nat.zero_add]) (fun i _ hi => mapM_some hmm i (List.mem_range.2 (by omega))) B hp hI
            refine ⟨B', hp', g1, g2, g3, .agg q vs, ?_, rfl, ?_, vs, rfl, g0, g7⟩
            · simp only [V.wf]
              refine ⟨?_, g4⟩
              unfold aggOk
              rw [hinfo]
              exact ⟨g0, g5⟩
            · simp only [CR]
              simpa using g6
        · cases h
      · cases hk
    | sl rr e =>
      simp only [shOk, Bool.and_eq_true, decide_eq_true_eq] at hk
      obtain ⟨⟨_, hinfo⟩, hk⟩ := hk
      split at hk
      · rename_i u hu
        have hok := rowOk hT hinfo
        have hue := cellsOf_tg hT hm (shOk_tg hk)
        rcases trod_sl_inv hu h with rfl | ⟨a, len, cap, rfl, hlc, hcm, hat⟩
        · exact ⟨B, hp, hI, Ext.refl _, List.prefix_rfl, .nils, trivial, rfl, rfl, .inl rfl⟩
        have hfirst : 0 < cap → a.spot = none ∧ ∃ C e0 fr, w.heap[a.block]? = some (.cells C e0 fr) := by
          intro h0
          obtain ⟨r, hr⟩ := hat 0 h0
          cases hc0 : w.cells? 0 (a.add (0 * c.P.cellsOf u)) (c.P.cellsOf u) with
          | none => rw [hc0] at hr; cases hr
          | some pc =>
            obtain ⟨q1, q2⟩ := cells?_get hc0
            have hp0 := hok.pos
            rw [← hue] at hp0
            have hcell := q2 0 (pc[0]'(by omega)) (by simp)
            rw [Nat.zero_mul] at hcell
            have ha : (a.add 0).add 0 = a := by simp [Addr.add]
            rw [ha] at hcell
            unfold World.cell? at hcell
            split at hcell
            · rename_i C e0 fr hh
              refine ⟨?_, C, e0, fr, hh⟩
              by_cases hs : a.spot.isSome = true
              · rw [if_pos hs] at hcell; cases hcell
              · simpa using hs
            · cases hcell
        have hB0 : len = 0 ∨ 0 < cap := by omega
        -- the elements
        have hels : Opened c w B hp fun B' hp' => ∃ vs cs', vs.length = len ∧ V.wfs c.T vs ∧ (∀ v ∈ vs, v.tag = e.tag) ∧ CRs c.T B' vs cs' ∧ w.rangeAt a.block a.off cs' ∧ ∀ v ∈ vs, e.Fits hp' v := by
          by_cases h0 : 0 < cap
          · have hsp := (hfirst h0).1
            have haa : a = ⟨a.block, a.off, none⟩ := by rw [← hsp]
            obtain ⟨B1, hp1, k1, k2, k3, vs, cs', g0, g1, g2, g3, g5, g6, g4⟩ := open_slots hT hm ih hk (b := a.block) (of := a.off) len 0 (fun i _ hi => by rw [← haa]; exact hat i (by omega)) B hp hI
            exact ⟨B1, hp1, k1, k2, k3, vs, cs', g0, g1, g2, g3, by simpa using g6, g4⟩
          · exact ⟨B, hp, hI, Ext.refl _, List.prefix_rfl, [], [], by simp only [List.length_nil]; omega, trivial, by simp, rfl, fun j v hv => by simp at hv, by simp⟩
        obtain ⟨B1, hp1, k1, k2, k3, vs, cs', g0, g1, g2, g3, g6, g4⟩ := hels
        have hlenH : B1.hp.length = hp1.length := k1.sr.lenH
        have hwf : (V.agg rr vs).wf c.T := by
          simp only [V.wf]
          refine ⟨?_, g1⟩
          unfold aggOk
          rw [hinfo]
          exact g2
        have hvr : ∀ b : Blk, CR c.T ⟨B1.loc, B1.hp ++ [(⟨a.block, a.off, none⟩, rr)]⟩ (.sl (.hp hp1.length) [] 0 vs.length (some cap) e.tag) [.slice (some a) len cap] := by
          intro _
          simp only [CR]
          refine ⟨⟨a.block, a.off, none⟩, rr, 0, rr, cap, a, ?_, rfl, by simp [Tab.elem, hinfo], fun n' e' hi => (by rw [hinfo] at hi; cases hi), by omega, fun k hk => (by cases hk; rfl), ?_, fun N hN => (by cases hN), by rw [g0]⟩
          · simp only [BM.at]; rw [← hlenH, List.getElem?_concat_length]
          · by_cases h0 : 0 < cap
            · right
              have hsp := (hfirst h0).1
              cases a
              simp only at hsp
              simp [hsp]
            · left; omega
        by_cases hz : len = 0
        · have hpush := k1.push (ar := (⟨a.block, a.off, none⟩, rr)) (b := .dead) trivial (fun v h => by cases h)
          have hvs : vs = [] := List.length_eq_zero_iff.1 (by omega)
          refine ⟨_, _, hpush, k2.trans ⟨List.prefix_rfl, List.prefix_append _ _⟩, k3.trans (List.prefix_append _ _), .sl (.hp hp1.length) [] 0 vs.length (some cap) e.tag, trivial, rfl, ?_, .inr ⟨hp1.length, vs, cap, rfl, by omega, hcm, .inl hvs, fun x hx => Sh.Fits.mono (List.prefix_append _ _) (g4 x hx)⟩⟩
          have := hvr .dead
          exact this
        · obtain ⟨hsp, C, e0, fr, hh⟩ := hfirst (by omega)
          have hbk : BlkR c.T B1 w (⟨a.block, a.off, none⟩, rr) (.ro (.agg rr vs)) := by
            refine ⟨hwf, rfl, C, e0, fr, cs', hh, by simp only [CR]; exact g3, fun i x hx => ?_, rfl⟩
            have := g6 i x hx
            rw [cell?_of hh] at this
            exact this
          have hpush := k1.push hbk (fun v h => by cases h)
          refine ⟨_, _, hpush, k2.trans ⟨List.prefix_rfl, List.prefix_append _ _⟩, k3.trans (List.prefix_append _ _), .sl (.hp hp1.length) [] 0 vs.length (some cap) e.tag, trivial, rfl, ?_, .inr ⟨hp1.length, vs, cap, rfl, by omega, hcm, .inr (by simp), fun x hx => Sh.Fits.mono (List.prefix_append _ _) (g4 x hx)⟩⟩
          have := hvr .dead
          exact this
      · cases hk
end opening
end Go.Ab
